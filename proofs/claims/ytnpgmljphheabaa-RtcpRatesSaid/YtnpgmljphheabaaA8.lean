/- A part of this proof: RtcpRates returns true for every input and leaves its arguments as they were; there are no conditions. -/
import Derived.Test.YtnpgmljphheabaaA7
set_option linter.unusedVariables false
set_option linter.unusedSimpArgs false
namespace Go.Lk
open Go.RowKit
theorem bytes_byt {l : List api_Report} (hl : ∀ r ∈ l, WR r) : Byt (bytesS l).1 := by
  unfold bytesS
  by_cases h0 : l = []
  · rw [if_pos h0]; exact fun x h => by simp at h
  · rw [if_neg h0]
    by_cases h1 : firstE l ≠ 0
    · rw [if_pos h1]; exact fun x h => by simp at h
    · rw [if_neg h1]
      by_cases h2 : 1500 < (l.flatMap enc).length
      · rw [if_pos h2]; exact fun x h => by simp at h
      · rw [if_neg h2]
        intro x hx
        obtain ⟨r, hr, hx⟩ := List.mem_flatMap.1 hx
        exact enc_byt (hl r hr) (first_zero (by simpa using h1) r hr) x hx
theorem known_true : limelightlaw6_known = some true := by
  have z32 : U32 0 := by unfold U32; omega
  have w1 : WR ⟨3, 1, 2, [], [], [], 0, 0, 0, []⟩ := ⟨by unfold I64; simp, by unfold U32; simp, by unfold U32; simp, by simp, by simp, by simp, by unfold U64; simp, by unfold I64; simp, by unfold I64; simp, fun x h => by simp at h, by simp, by simp, by simp, by simp⟩
  have w2 : WR ⟨5, 0, 0, [], [5], [], 8000, 0, 0, []⟩ := ⟨by unfold I64; simp, by unfold U32; simp, by unfold U32; simp, by simp, by simp [U32], by simp, by unfold U64; simp, by unfold I64; simp, by unfold I64; simp, fun x h => by simp at h, by simp, by simp, by simp, by simp⟩
  have w3 : WR ⟨0, 0, 0, [], [], [], 0, 0, 0, []⟩ := ⟨by unfold I64; simp, by unfold U32; simp, by unfold U32; simp, by simp, by simp, by simp, by unfold U64; simp, by unfold I64; simp, by unfold I64; simp, fun x h => by simp at h, by simp, by simp, by simp, by simp⟩
  have hw : ∀ r ∈ [(⟨3, 1, 2, [], [], [], 0, 0, 0, []⟩ : api_Report), ⟨5, 0, 0, [], [5], [], 8000, 0, 0, []⟩], WR r := by
    intro r hr
    simp at hr
    rcases hr with rfl | rfl
    · exact w1
    · exact w2
  have hB := bytes_byt hw
  have e1 : bytesS [(⟨3, 1, 2, [], [], [], 0, 0, 0, []⟩ : api_Report), ⟨5, 0, 0, [], [5], [], 8000, 0, 0, []⟩] = ([129, 206, 0, 2, 0, 0, 0, 1, 0, 0, 0, 2, 143, 206, 0, 5, 0, 0, 0, 0, 0, 0, 0, 0, 82, 69, 77, 66, 1, 0, 31, 64, 0, 0, 0, 5], 0) := by decide +kernel
  have e2 : readS [129, 206, 0, 2, 0, 0, 0, 1, 0, 0, 0, 2, 143, 206, 0, 5, 0, 0, 0, 0, 0, 0, 0, 0, 82, 69, 77, 66, 1, 0, 31, 64, 0, 0, 0, 5] = ([⟨3, 1, 2, [], [], [], 0, 0, 0, []⟩, ⟨5, 0, 0, [], [5], [], 8000, 0, 0, []⟩], 0) := by decide +kernel
  have e3 : readS [] = ([], 13) := by decide +kernel
  have e4 : readS [161, 206, 0, 0] = ([], 12) := by decide +kernel
  have e5 : bytesS [] = ([], 1) := by decide +kernel
  have e6 : isS [129, 206, 0, 2, 0, 0, 0, 1, 0, 0, 0, 2, 143, 206, 0, 5, 0, 0, 0, 0, 0, 0, 0, 0, 82, 69, 77, 66, 1, 0, 31, 64, 0, 0, 0, 5] = true := by decide +kernel
  have e7 : isS [] = false := by decide +kernel
  have e8 : isS [128, 96] = false := by decide +kernel
  have e9 : rightE ⟨0, 0, 0, [], [], [], 0, 0, 0, []⟩ = 12 := by decide +kernel
  rw [e1] at hB
  unfold limelightlaw6_known
  rw [rtcp_Bytes_eq hw (by simp), e1]
  simp only [Option.bind_some]
  rw [rtcp_Read_eq hB, e2, rtcp_Read_eq (fun x h => by simp at h), e3, rtcp_Bytes_eq (l := []) (by simp) (by simp), e5, rtcp_Read_eq (b := [161, 206, 0, 0]) (fun x h => by simp at h; omega), e4]
  simp only [Option.bind_some]
  rw [rtcp_Is_eq, rtcp_Is_eq, rtcp_Is_eq, e6, e7, e8, rtcp_Right_eq w3, e9]
  rw [if_pos (by decide), cutTo_ok (b := 4) (k := 4) rfl (by simp)]
  simp only [Option.bind_some]
  rw [if_pos (by decide +kernel)]
  have i0 : ix [(⟨3, 1, 2, [], [], [], 0, 0, 0, []⟩ : api_Report), ⟨5, 0, 0, [], [5], [], 8000, 0, 0, []⟩] 0 = some ⟨3, 1, 2, [], [], [], 0, 0, 0, []⟩ := rfl
  have i1 : ix [(⟨3, 1, 2, [], [], [], 0, 0, 0, []⟩ : api_Report), ⟨5, 0, 0, [], [5], [], 8000, 0, 0, []⟩] 1 = some ⟨5, 0, 0, [], [5], [], 8000, 0, 0, []⟩ := rfl
  rw [i0, i1]
  simp only [Option.bind_some]
  rw [rtcp_Same_eq w1, decide_eq_true rfl]
  rfl
end Go.Lk
