/- A part of this proof: RtcpTuples returns true for every input and leaves its arguments as they were; there are no conditions. -/
import Derived.Test.YtnpgmljphheabaaA7
set_option linter.unusedVariables false
set_option linter.unusedSimpArgs false
namespace Go.Lk
open Go.RowKit
theorem bytes_byt {l : List api_Report} (hl : ∀ r ∈ l, WR r) : Byt (bytesS l).1 := by
  unfold bytesS
  by_cases h0 : l = []
  · rw [if_pos h0]; exact fun x h => by simp at h
  · rw [if_neg h0]
    by_cases h1 : firstE l ≠ 0
    · rw [if_pos h1]; exact fun x h => by simp at h
    · rw [if_neg h1]
      by_cases h2 : 1500 < (l.flatMap enc).length
      · rw [if_pos h2]; exact fun x h => by simp at h
      · rw [if_neg h2]
        intro x hx
        obtain ⟨r, hr, hx⟩ := List.mem_flatMap.1 hx
        exact enc_byt (hl r hr) (first_zero (by simpa using h1) r hr) x hx
theorem known_true : limelightlaw6_known = some true := by
  have z32 : U32 0 := by unfold U32; omega
  have w1 : WR ⟨3, 1, 2, [], [], [], 0, 0, 0, []⟩ := ⟨by unfold I64; simp, by unfold U32; simp, by unfold U32; simp, by simp, by simp, by simp, by unfold U64; simp, by unfold I64; simp, by unfold I64; simp, fun x h => by simp at h, by simp, by simp, by simp, by simp⟩
  have w2 : WR ⟨5, 0, 0, [], [5], [], 8000, 0, 0, []⟩ := ⟨by unfold I64; simp, by unfold U32; simp, by unfold U32; simp, by simp, by simp [U32], by simp, by unfold U64; simp, by unfold I64; simp, by unfold I64; simp, fun x h => by simp at h, by simp, by simp, by simp, by simp⟩
  have w3 : WR ⟨0, 0, 0, [], [], [], 0, 0, 0, []⟩ := ⟨by unfold I64; simp, by unfold U32; simp, by unfold U32; simp, by simp, by simp, by simp, by unfold U64; simp, by unfold I64; simp, by unfold I64; simp, fun x h => by simp at h, by simp, by simp, by simp, by simp⟩
  have hw : ∀ r ∈ [(⟨3, 1, 2, [], [], [], 0, 0, 0, []⟩ : api_Report), ⟨5, 0, 0, [], [5], [], 8000, 0, 0, []⟩], WR r := by
    intro r hr
    simp at hr
    rcases hr with rfl | rfl
    · exact w1
    · exact w2
  have hB := bytes_byt hw
  have e1 : bytesS [(⟨3, 1, 2, [], [], [], 0, 0, 0, []⟩ : api_Report), ⟨5, 0, 0, [], [5], [], 8000, 0, 0, []⟩] = ([129, 206, 0, 2, 0, 0, 0, 1, 0, 0, 0, 2, 143, 206, 0, 5, 0, 0, 0, 0, 0, 0, 0, 0, 82, 69, 77, 66, 1, 0, 31, 64, 0, 0, 0, 5], 0) := by decide +kernel
  have e2 : readS [129, 206, 0, 2, 0, 0, 0, 1, 0, 0, 0, 2, 143, 206, 0, 5, 0, 0, 0, 0, 0, 0, 0, 0, 82, 69, 77, 66, 1, 0, 31, 64, 0, 0, 0, 5] = ([⟨3, 1, 2, [], [], [], 0, 0, 0, []⟩, ⟨5, 0, 0, [], [5], [], 8000, 0, 0, []⟩], 0) := by decide +kernel
  have e3 : readS [] = ([], 13) := by decide +kernel
  have e4 : readS [161, 206, 0, 0] = ([], 12) := by decide +kernel
  have e5 : bytesS [] = ([], 1) := by decide +kernel
  have e6 : isS [129, 206, 0, 2, 0, 0, 0, 1, 0, 0, 0, 2, 143, 206, 0, 5, 0, 0, 0, 0, 0, 0, 0, 0, 82, 69, 77, 66, 1, 0, 31, 64, 0, 0, 0, 5] = true := by decide +kernel
  have e7 : isS [] = false := by decide +kernel
  have e8 : isS [128, 96] = false := by decide +kernel
  have e9 : rightE ⟨0, 0, 0, [], [], [], 0, 0, 0, []⟩ = 12 := by decide +kernel
  rw [e1] at hB
  unfold limelightlaw6_known
  rw [rtcp_Bytes_eq hw (by simp), e1]
  simp only [Option.bind_some]
  rw [rtcp_Read_eq hB, e2, rtcp_Read_eq (fun x h => by simp at h), e3, rtcp_Bytes_eq (l := []) (by simp) (by simp), e5, rtcp_Read_eq (b := [161, 206, 0, 0]) (fun x h => by simp at h; omega), e4]
  simp only [Option.bind_some]
  rw [rtcp_Is_eq, rtcp_Is_eq, rtcp_Is_eq, e6, e7, e8, rtcp_Right_eq w3, e9]
  rw [if_pos (by decide), cutTo_ok (b := 4) (k := 4) rfl (by simp)]
  simp only [Option.bind_some]
  rw [if_pos (by decide +kernel)]
  have i0 : ix [(⟨3, 1, 2, [], [], [], 0, 0, 0, []⟩ : api_Report), ⟨5, 0, 0, [], [5], [], 8000, 0, 0, []⟩] 0 = some ⟨3, 1, 2, [], [], [], 0, 0, 0, []⟩ := rfl
  have i1 : ix [(⟨3, 1, 2, [], [], [], 0, 0, 0, []⟩ : api_Report), ⟨5, 0, 0, [], [5], [], 8000, 0, 0, []⟩] 1 = some ⟨5, 0, 0, [], [5], [], 8000, 0, 0, []⟩ := rfl
  rw [i0, i1]
  simp only [Option.bind_some]
  rw [rtcp_Same_eq w1, decide_eq_true rfl]
  rfl
theorem tmod_bd (a : Int) {m : Int} (hm : 0 < m) : -m < a.tmod m ∧ a.tmod m < m := by
  by_cases h : 0 ≤ a
  · rw [Int.tmod_eq_emod_of_nonneg h]
    have := Int.emod_nonneg a (show m ≠ 0 by omega)
    have := Int.emod_lt_of_pos a hm
    omega
  · have e : a.tmod m = -((-a).tmod m) := by rw [Int.neg_tmod]; omega
    rw [e, Int.tmod_eq_emod_of_nonneg (by omega)]
    have := Int.emod_nonneg (-a) (show m ≠ 0 by omega)
    have := Int.emod_lt_of_pos (-a) hm
    omega
theorem within_ok {n lo hi : Int} (hn : I64 n) (h0 : 0 ≤ lo) (h : lo ≤ hi) (h1 : hi ≤ 1000000000000000) : ∃ v, limelightbook_Within n lo hi = some v ∧ lo ≤ v ∧ v ≤ hi := by
  unfold I64 at hn
  unfold limelightbook_Within
  by_cases hc : lo ≤ n ∧ n ≤ hi
  · rw [if_pos (by simp; exact hc)]
    exact ⟨n, rfl, hc⟩
  · rw [if_neg (by simp; omega), sub_i64 (by omega), add_i64 (by omega), gd_ok (by omega)]
    have hm : -(hi - lo + 1) < rem .i64 n (hi - lo + 1) ∧ rem .i64 n (hi - lo + 1) < hi - lo + 1 := tmod_bd n (by omega)
    generalize rem .i64 n (hi - lo + 1) = R at hm ⊢
    by_cases h2 : R < 0
    · rw [if_pos (by simpa using h2)]
      simp only [Option.bind_some]
      rw [add_i64 (a := R) (by omega), sub_i64 (by omega), add_i64 (a := R + hi - lo) (by omega), add_i64 (by omega)]
      exact ⟨_, rfl, by omega, by omega⟩
    · rw [if_neg (by simpa using h2)]
      simp only [Option.bind_some]
      rw [add_i64 (by omega)]
      exact ⟨_, rfl, by omega, by omega⟩
structure TOK (T : limelightkeep_Tape) : Prop where
  vals : ∀ x ∈ T.L, I64 x
  len : T.L.length ≤ 140737488355328
  at0 : 0 ≤ T.At
  at1 : T.At ≤ T.L.length
theorem next_ok {T : limelightkeep_Tape} (hT : TOK T) {n : Int} (h1 : 1 ≤ n) (h2 : n ≤ 1000000000000000) : ∃ v T', limelightkeep_Tape_Next T n = some (v, T') ∧ TOK T' ∧ 0 ≤ v ∧ v < n := by
  obtain ⟨t1, t2, t3, t4⟩ := hT
  unfold limelightkeep_Tape_Next
  by_cases hc : (T.L.length : Int) ≤ T.At
  · rw [if_pos (by simp [hc])]
    exact ⟨0, T, rfl, ⟨t1, t2, t3, t4⟩, by omega, by omega⟩
  · rw [if_neg (by simp; omega), add_i64 (by omega), sub_i64 (by omega)]
    obtain ⟨k, hk⟩ := Int.eq_ofNat_of_zero_le t3
    obtain ⟨x, hx⟩ := get_some (l := T.L) (k := k) (by omega)
    rw [ix_at (k := k) (by omega) hx]
    simp only [Option.bind_some]
    obtain ⟨v, hv, v0, v1⟩ := within_ok (t1 x (List.mem_of_getElem? hx)) (lo := 0) (hi := 1073741824) (by omega) (by omega) (by omega)
    rw [hv]
    simp only [Option.bind_some]
    rw [gd_ok (by omega), rem_nn v0]
    have e1 := Int.emod_nonneg v (show n ≠ 0 by omega)
    have e2 := Int.emod_lt_of_pos v (show 0 < n by omega)
    exact ⟨_, _, rfl, ⟨t1, t2, by simp only; omega, by simp only; omega⟩, e1, e2⟩
theorem u32_bd (n : Int) : U32 (IntKind.u32.wrap n) := by rw [w_u32]; unfold U32; omega
theorem u64_bd (n : Int) : U64 (IntKind.u64.wrap n) := by rw [w_u64]; unfold U64; omega
theorem down_down {b : Nat} {n : Int} (hn : U64 n) : downR b (downR b n) = downR b n := by
  have h1 := pe_lt (b := b) hn
  have h2 : 0 ≤ n / 2 ^ pe b n := Int.ediv_nonneg hn.1 (Int.le_of_lt (two_pos _))
  have : downR b n = n / 2 ^ pe b n * 2 ^ pe b n := rfl
  rw [this]
  exact down_open ⟨h2, h1⟩
theorem down_U64 {b : Nat} {n : Int} (hn : U64 n) : U64 (downR b n) := by
  have := down_le (b := b) hn.1
  unfold U64 at hn ⊢
  omega
theorem tuple_ok {T : limelightkeep_Tape} (hT : TOK T) : ∃ v T', limelightkeep_Tape_Tuple T = some (v, T') ∧ TOK T' ∧ WT v ∧ tupOk v = true := by
  unfold limelightkeep_Tape_Tuple
  obtain ⟨v1, T1, e1, h1, b1⟩ := next_ok hT (n := 9) (by omega) (by omega)
  rw [e1]
  simp only [Option.bind_some]
  obtain ⟨v2, T2, e2, h2, b2⟩ := next_ok h1 (n := 2000) (by omega) (by omega)
  rw [e2]
  simp only [Option.bind_some]
  obtain ⟨v3, T3, e3, h3, b3⟩ := next_ok h2 (n := 3) (by omega) (by omega)
  rw [e3]
  simp only [Option.bind_some]
  obtain ⟨x, hx⟩ : ∃ x, ix ([1, 100, 8000] : List Int) v3 = some x := by
    rcases (by omega : v3 = 0 ∨ v3 = 1 ∨ v3 = 2) with rfl | rfl | rfl
    · exact ⟨1, rfl⟩
    · exact ⟨100, rfl⟩
    · exact ⟨8000, rfl⟩
  rw [hx]
  simp only [Option.bind_some]
  generalize hR : mul .u64 (cv .u64 (add .i64 1 v2)) (cv .u64 x) = R
  have hU : U64 R := by rw [← hR]; exact u64_bd _
  rw [show (17 : Int) = ((17 : Nat) : Int) from rfl, ref_Down_eq (b := 17) (by decide) hU]
  simp only [Option.bind_some]
  obtain ⟨v4, T4, e4, h4, b4⟩ := next_ok h3 (n := 120) (by omega) (by omega)
  rw [e4]
  refine ⟨_, _, rfl, h4, ⟨u32_bd _, down_U64 hU, by unfold I64; simp only; omega⟩, ?_⟩
  unfold tupOk
  simp only
  rw [decide_eq_true (by omega), decide_eq_true (by omega), decide_eq_true (down_down hU)]
  rfl
end Go.Lk
