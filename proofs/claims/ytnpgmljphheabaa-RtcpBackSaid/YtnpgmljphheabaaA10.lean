/- A part of this proof: RtcpBack returns true for every input and leaves its arguments as they were; there are no conditions. -/
import Derived.Test.YtnpgmljphheabaaA9
set_option linter.unusedVariables false
set_option linter.unusedSimpArgs false
namespace Go.Lk
open Go.RowKit
theorem TOK_start {L : List Int} (h : ∀ x ∈ L, I64 x) (hl : L.length ≤ 140737488355328) : TOK ⟨L, 0⟩ := ⟨h, hl, by simp, by simp⟩
theorem enc2 (a b : api_Report) : [a, b].flatMap enc = enc a ++ enc b := by simp
theorem enc1 (a : api_Report) : [a].flatMap enc = enc a := by simp
theorem back_law {G : List Int} {o : Int} (hG : ∀ x ∈ G, I64 x) (hGl : G.length ≤ 140737488355328) (ho : I64 o) : limelightlaw6_RtcpBack G o = some true := by
  unfold limelightlaw6_RtcpBack
  obtain ⟨x, T1, e1, h1, gx⟩ := report_ok (TOK_start hG hGl)
  rw [e1]
  simp only [Option.bind_some]
  obtain ⟨y, T2, e2, h2, gy⟩ := report_ok h1
  rw [show (⟨T1.L, T1.At⟩ : limelightkeep_Tape) = T1 from rfl, e2]
  simp only [Option.bind_some]
  have hlx := enc_length x
  have hly := enc_length y
  have hsx := gx.small
  have hsy := gy.small
  have hbx := body_le gx.right
  have hby := body_le gy.right
  have hw : ∀ r ∈ [x, y], WR r := by
    intro r hr
    simp at hr
    rcases hr with rfl | rfl
    · exact gx.wr
    · exact gy.wr
  have hr2 : ∀ r ∈ [x, y], rightE r = 0 := by
    intro r hr
    simp at hr
    rcases hr with rfl | rfl
    · exact gx.right
    · exact gy.right
  have hl2 : ([x, y].flatMap enc).length ≤ 1500 := by rw [enc2, List.length_append]; omega
  have hB2 : Byt (enc x ++ enc y) := (enc_byt gx.wr gx.right).app (enc_byt gy.wr gy.right)
  rw [rtcp_Bytes_eq hw (by simp), bytesS_encs hr2 hl2 (by simp), enc2]
  simp only [Option.bind_some]
  have hrd : readS (enc x ++ enc y) = ([x, y], 0) := by
    have := readS_encs (l := [x, y]) (fun r hr => ⟨hw r hr, hr2 r hr⟩) hl2 (by simp)
    rwa [enc2] at this
  rw [rtcp_Read_eq hB2, hrd, cutTo_ok (b := 1) (k := 1) rfl (by simp)]
  simp only [Option.bind_some]
  have t1 : [x, y].take 1 = [x] := rfl
  rw [t1, rtcp_Bytes_eq (l := [x]) (by intro r hr; simp at hr; subst hr; exact gx.wr) (by simp), bytesS_encs (l := [x]) (by intro r hr; simp at hr; subst hr; exact gx.right) (by rw [enc1]; omega) (by simp), enc1]
  simp only [Option.bind_some, bne_self_eq_false, Bool.or_self, Bool.false_eq_true, if_false]
  rw [All_eq hw hw (by simp), decide_eq_true rfl]
  simp only [Option.bind_some, Bool.not_true, Bool.false_or]
  have hrem : ((rem .i64 ((enc x ++ enc y).length : Int) 4) != 0) = false := by
    rw [rem_nn (by omega), List.length_append]
    simp
    omega
  have hle : (decide (((enc x ++ enc y).length : Int) ≤ ((enc x).length : Int))) = false := by
    rw [List.length_append]
    exact decide_eq_false (by omega)
  rw [hrem, hle]
  simp only [Bool.or_self, Bool.false_eq_true, if_false]
  rw [cutTo_ok (k := (enc x).length) rfl (by rw [List.length_append]; omega), List.take_left]
  simp only [Option.bind_some, beq_self_eq_true, Bool.not_true, Bool.false_eq_true, if_false]
  rw [sub_i64 (by rw [List.length_append]; omega)]
  obtain ⟨k, hk, k0, k1⟩ := within_ok ho (lo := 0) (hi := ((enc x ++ enc y).length : Int) - 1) (by omega) (by rw [List.length_append]; omega) (by rw [List.length_append]; omega)
  rw [List.length_append] at k1
  rw [hk]
  simp only [Option.bind_some]
  obtain ⟨j, rfl⟩ := Int.eq_ofNat_of_zero_le k0
  rw [cutTo_ok (k := j) rfl (by rw [List.length_append]; omega)]
  simp only [Option.bind_some]
  rw [rtcp_Read_eq (hB2.take j)]
  simp only [Option.bind_some]
  by_cases hj : j = (enc x).length
  · have hrd1 : readS (enc x) = ([x], 0) := by
      have := readS_encs (l := [x]) (by intro r hr; simp at hr; subst hr; exact ⟨gx.wr, gx.right⟩) (by rw [enc1]; omega) (by simp)
      rwa [enc1] at this
    rw [if_pos (by simp [hj]), hj, List.take_left, hrd1, if_pos (by simp), known_true]
    rfl
  · have hcut : readS ((enc x ++ enc y).take j) = ([], 13) := by
      by_cases hlt : j < (enc x).length
      · exact cut_short gx.right (enc y) hlt (by omega)
      · exact cut_second gx.wr gx.right gy.right (by omega) (by omega) (by omega)
    rw [if_neg (by simp; omega), hcut, if_pos (by simp), known_true]
    rfl
end Go.Lk
