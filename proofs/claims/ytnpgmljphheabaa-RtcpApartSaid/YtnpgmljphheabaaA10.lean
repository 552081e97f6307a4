/- A part of this proof: RtcpApart returns true for every input and leaves its arguments as they were; there are no conditions. -/
import Derived.Test.YtnpgmljphheabaaA9
set_option linter.unusedVariables false
set_option linter.unusedSimpArgs false
namespace Go.Lk
open Go.RowKit
theorem TOK_start {L : List Int} (h : ∀ x ∈ L, I64 x) (hl : L.length ≤ 140737488355328) : TOK ⟨L, 0⟩ := ⟨h, hl, by simp, by simp⟩
theorem enc2 (a b : api_Report) : [a, b].flatMap enc = enc a ++ enc b := by simp
theorem enc1 (a : api_Report) : [a].flatMap enc = enc a := by simp
theorem toList_append (a b : ByteArray) : (a ++ b).toList = a.toList ++ b.toList := by
  rw [ByteArray.toList_eq, ByteArray.toList_eq, ByteArray.toList_eq, ByteArray.data_append, Array.toList_append]
theorem size_str (l : List Int) : (strOfNums l).size = l.length := by simp [strOfNums, ByteArray.size]
theorem apart_law {G H : List Int} (hG : ∀ x ∈ G, I64 x) (hGl : G.length ≤ 140737488355328) (hH : ∀ x ∈ H, I64 x) (hHl : H.length ≤ 140737488355328) : limelightlaw6_RtcpApart G H = some true := by
  unfold limelightlaw6_RtcpApart
  obtain ⟨x, T1, e1, h1, gx⟩ := report_ok (TOK_start hG hGl)
  rw [e1]
  simp only [Option.bind_some]
  obtain ⟨y, T2, e2, h2, gy⟩ := report_ok (TOK_start hH hHl)
  rw [e2]
  simp only [Option.bind_some]
  have hsx := gx.small
  have hsy := gy.small
  have hlx := enc_length x
  have one : ∀ r : api_Report, Good r → rtcp_Bytes [r] = some (enc r, 0) := fun r g => by
    have := g.small
    rw [rtcp_Bytes_eq (l := [r]) (by intro q hq; simp at hq; subst hq; exact g.wr) (by simp), bytesS_encs (l := [r]) (by intro q hq; simp at hq; subst hq; exact g.right) (by rw [enc1]; omega) (by simp), enc1]
  have two : rtcp_Bytes [x, y] = some (enc x ++ enc y, 0) := by
    rw [rtcp_Bytes_eq (l := [x, y]) (by intro q hq; simp at hq; rcases hq with rfl | rfl; exact gx.wr; exact gy.wr) (by simp), bytesS_encs (l := [x, y]) (by intro q hq; simp at hq; rcases hq with rfl | rfl; exact gx.right; exact gy.right) (by rw [enc2, List.length_append]; omega) (by simp), enc2]
  have hBx := enc_byt gx.wr gx.right
  have hBy := enc_byt gy.wr gy.right
  rw [one x gx, one y gy, two]
  simp only [Option.bind_some, beq_self_eq_true, Bool.and_self, if_true]
  rw [ref_Same_eq gx.wr gy.wr, str_eq hBx hBy]
  simp only [Option.bind_some]
  have hiff : decide (enc x = enc y) = decide (x = y) := by
    rw [Bool.eq_iff_iff, decide_eq_true_iff, decide_eq_true_iff]
    exact ⟨fun h => enc_inj gx.wr gy.wr gx.right gy.right h, fun h => by rw [h]⟩
  rw [hiff]
  simp only [beq_self_eq_true, if_true]
  unfold cat
  rw [if_pos (by rw [size_str, size_str]; omega)]
  simp only [Option.bind_some]
  have hcat : ((strOfNums (enc x ++ enc y)).toList == (strOfNums (enc x) ++ strOfNums (enc y)).toList) = true := by
    rw [toList_append, str_toList, str_toList, str_toList]
    simp
  rw [hcat, rtcp_Right_eq gx.wr, gx.right, rtcp_Is_eq]
  have his : isS (enc x) = true := by
    have ht := typ_bd gx.right
    unfold isS enc
    simp [ht]
  rw [his, known_true]
  rfl
end Go.Lk
