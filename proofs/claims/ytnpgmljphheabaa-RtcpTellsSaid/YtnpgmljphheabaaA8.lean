/- A part of this proof: RtcpTells returns true for every input and leaves its arguments as they were; there are no conditions. -/
import Derived.Test.YtnpgmljphheabaaA7
set_option linter.unusedVariables false
set_option linter.unusedSimpArgs false
namespace Go.Lk
open Go.RowKit
theorem bytes_byt {l : List api_Report} (hl : ∀ r ∈ l, WR r) : Byt (bytesS l).1 := by
  unfold bytesS
  by_cases h0 : l = []
  · rw [if_pos h0]; exact fun x h => by simp at h
  · rw [if_neg h0]
    by_cases h1 : firstE l ≠ 0
    · rw [if_pos h1]; exact fun x h => by simp at h
    · rw [if_neg h1]
      by_cases h2 : 1500 < (l.flatMap enc).length
      · rw [if_pos h2]; exact fun x h => by simp at h
      · rw [if_neg h2]
        intro x hx
        obtain ⟨r, hr, hx⟩ := List.mem_flatMap.1 hx
        exact enc_byt (hl r hr) (first_zero (by simpa using h1) r hr) x hx
theorem same_true {l : List api_Report} (hl : ∀ r ∈ l, WR r) (hn : l.length ≤ 1000) : limelightlaw6_same l = some true := by
  unfold limelightlaw6_same
  rw [rtcp_Bytes_eq hl hn, ref_Bytes_eq hl hn]
  simp only [Option.bind_some]
  have hloop : loopF (fun sg => limelightlaw6_same_l0 l sg) 0 = some (.brk (l.length : Int)) := by
    refine loopF_up (fun k => (k : Int)) l.length rfl (fun k hk => ?_) ?_
    · obtain ⟨x, hx⟩ := get_some hk
      have hw := hl x (List.mem_of_getElem? hx)
      simp only [limelightlaw6_same_l0]
      rw [if_pos (by simpa using hk), ix_nat, hx]
      simp only [Option.bind_some]
      rw [rtcp_Right_eq hw, ref_Right_eq hw]
      simp only [Option.bind_some, bne_self_eq_false, Bool.false_eq_true, if_false]
      rw [rtcp_Same_eq hw, decide_eq_true rfl, add_i64 (by omega)]
      rfl
    · simp only [limelightlaw6_same_l0]
      rw [if_neg (by simp)]
  rw [hloop, str_eq (bytes_byt hl) (bytes_byt hl)]
  simp only [Option.bind_some, Flow.el, beq_self_eq_true, decide_true, Bool.and_self, if_true]
  by_cases h : (bytesS l).2 = 0
  · rw [if_neg (by simpa using h), reads_true (bytes_byt hl)]; rfl
  · rw [if_pos (by simpa using h)]; rfl
theorem known_true : limelightlaw6_known = some true := by
  have z32 : U32 0 := by unfold U32; omega
  have w1 : WR ⟨3, 1, 2, [], [], [], 0, 0, 0, []⟩ := ⟨by unfold I64; simp, by unfold U32; simp, by unfold U32; simp, by simp, by simp, by simp, by unfold U64; simp, by unfold I64; simp, by unfold I64; simp, fun x h => by simp at h, by simp, by simp, by simp, by simp⟩
  have w2 : WR ⟨5, 0, 0, [], [5], [], 8000, 0, 0, []⟩ := ⟨by unfold I64; simp, by unfold U32; simp, by unfold U32; simp, by simp, by simp [U32], by simp, by unfold U64; simp, by unfold I64; simp, by unfold I64; simp, fun x h => by simp at h, by simp, by simp, by simp, by simp⟩
  have w3 : WR ⟨0, 0, 0, [], [], [], 0, 0, 0, []⟩ := ⟨by unfold I64; simp, by unfold U32; simp, by unfold U32; simp, by simp, by simp, by simp, by unfold U64; simp, by unfold I64; simp, by unfold I64; simp, fun x h => by simp at h, by simp, by simp, by simp, by simp⟩
  have hw : ∀ r ∈ [(⟨3, 1, 2, [], [], [], 0, 0, 0, []⟩ : api_Report), ⟨5, 0, 0, [], [5], [], 8000, 0, 0, []⟩], WR r := by
    intro r hr
    simp at hr
    rcases hr with rfl | rfl
    · exact w1
    · exact w2
  have hB := bytes_byt hw
  have e1 : bytesS [(⟨3, 1, 2, [], [], [], 0, 0, 0, []⟩ : api_Report), ⟨5, 0, 0, [], [5], [], 8000, 0, 0, []⟩] = ([129, 206, 0, 2, 0, 0, 0, 1, 0, 0, 0, 2, 143, 206, 0, 5, 0, 0, 0, 0, 0, 0, 0, 0, 82, 69, 77, 66, 1, 0, 31, 64, 0, 0, 0, 5], 0) := by decide +kernel
  have e2 : readS [129, 206, 0, 2, 0, 0, 0, 1, 0, 0, 0, 2, 143, 206, 0, 5, 0, 0, 0, 0, 0, 0, 0, 0, 82, 69, 77, 66, 1, 0, 31, 64, 0, 0, 0, 5] = ([⟨3, 1, 2, [], [], [], 0, 0, 0, []⟩, ⟨5, 0, 0, [], [5], [], 8000, 0, 0, []⟩], 0) := by decide +kernel
  have e3 : readS [] = ([], 13) := by decide +kernel
  have e4 : readS [161, 206, 0, 0] = ([], 12) := by decide +kernel
  have e5 : bytesS [] = ([], 1) := by decide +kernel
  have e6 : isS [129, 206, 0, 2, 0, 0, 0, 1, 0, 0, 0, 2, 143, 206, 0, 5, 0, 0, 0, 0, 0, 0, 0, 0, 82, 69, 77, 66, 1, 0, 31, 64, 0, 0, 0, 5] = true := by decide +kernel
  have e7 : isS [] = false := by decide +kernel
  have e8 : isS [128, 96] = false := by decide +kernel
  have e9 : rightE ⟨0, 0, 0, [], [], [], 0, 0, 0, []⟩ = 12 := by decide +kernel
  rw [e1] at hB
  unfold limelightlaw6_known
  rw [rtcp_Bytes_eq hw (by simp), e1]
  simp only [Option.bind_some]
  rw [rtcp_Read_eq hB, e2, rtcp_Read_eq (fun x h => by simp at h), e3, rtcp_Bytes_eq (l := []) (by simp) (by simp), e5, rtcp_Read_eq (b := [161, 206, 0, 0]) (fun x h => by simp at h; omega), e4]
  simp only [Option.bind_some]
  rw [rtcp_Is_eq, rtcp_Is_eq, rtcp_Is_eq, e6, e7, e8, rtcp_Right_eq w3, e9]
  rw [if_pos (by decide), cutTo_ok (b := 4) (k := 4) rfl (by simp)]
  simp only [Option.bind_some]
  rw [if_pos (by decide +kernel)]
  have i0 : ix [(⟨3, 1, 2, [], [], [], 0, 0, 0, []⟩ : api_Report), ⟨5, 0, 0, [], [5], [], 8000, 0, 0, []⟩] 0 = some ⟨3, 1, 2, [], [], [], 0, 0, 0, []⟩ := rfl
  have i1 : ix [(⟨3, 1, 2, [], [], [], 0, 0, 0, []⟩ : api_Report), ⟨5, 0, 0, [], [5], [], 8000, 0, 0, []⟩] 1 = some ⟨5, 0, 0, [], [5], [], 8000, 0, 0, []⟩ := rfl
  rw [i0, i1]
  simp only [Option.bind_some]
  rw [rtcp_Same_eq w1, decide_eq_true rfl]
  rfl
theorem tmod_bd (a : Int) {m : Int} (hm : 0 < m) : -m < a.tmod m ∧ a.tmod m < m := by
  by_cases h : 0 ≤ a
  · rw [Int.tmod_eq_emod_of_nonneg h]
    have := Int.emod_nonneg a (show m ≠ 0 by omega)
    have := Int.emod_lt_of_pos a hm
    omega
  · have e : a.tmod m = -((-a).tmod m) := by rw [Int.neg_tmod]; omega
    rw [e, Int.tmod_eq_emod_of_nonneg (by omega)]
    have := Int.emod_nonneg (-a) (show m ≠ 0 by omega)
    have := Int.emod_lt_of_pos (-a) hm
    omega
theorem within_ok {n lo hi : Int} (hn : I64 n) (h0 : 0 ≤ lo) (h : lo ≤ hi) (h1 : hi ≤ 1000000000000000) : ∃ v, limelightbook_Within n lo hi = some v ∧ lo ≤ v ∧ v ≤ hi := by
  unfold I64 at hn
  unfold limelightbook_Within
  by_cases hc : lo ≤ n ∧ n ≤ hi
  · rw [if_pos (by simp; exact hc)]
    exact ⟨n, rfl, hc⟩
  · rw [if_neg (by simp; omega), sub_i64 (by omega), add_i64 (by omega), gd_ok (by omega)]
    have hm : -(hi - lo + 1) < rem .i64 n (hi - lo + 1) ∧ rem .i64 n (hi - lo + 1) < hi - lo + 1 := tmod_bd n (by omega)
    generalize rem .i64 n (hi - lo + 1) = R at hm ⊢
    by_cases h2 : R < 0
    · rw [if_pos (by simpa using h2)]
      simp only [Option.bind_some]
      rw [add_i64 (a := R) (by omega), sub_i64 (by omega), add_i64 (a := R + hi - lo) (by omega), add_i64 (by omega)]
      exact ⟨_, rfl, by omega, by omega⟩
    · rw [if_neg (by simpa using h2)]
      simp only [Option.bind_some]
      rw [add_i64 (by omega)]
      exact ⟨_, rfl, by omega, by omega⟩
structure TOK (T : limelightkeep_Tape) : Prop where
  vals : ∀ x ∈ T.L, I64 x
  len : T.L.length ≤ 140737488355328
  at0 : 0 ≤ T.At
  at1 : T.At ≤ T.L.length
theorem next_ok {T : limelightkeep_Tape} (hT : TOK T) {n : Int} (h1 : 1 ≤ n) (h2 : n ≤ 1000000000000000) : ∃ v T', limelightkeep_Tape_Next T n = some (v, T') ∧ TOK T' ∧ 0 ≤ v ∧ v < n := by
  obtain ⟨t1, t2, t3, t4⟩ := hT
  unfold limelightkeep_Tape_Next
  by_cases hc : (T.L.length : Int) ≤ T.At
  · rw [if_pos (by simp [hc])]
    exact ⟨0, T, rfl, ⟨t1, t2, t3, t4⟩, by omega, by omega⟩
  · rw [if_neg (by simp; omega), add_i64 (by omega), sub_i64 (by omega)]
    obtain ⟨k, hk⟩ := Int.eq_ofNat_of_zero_le t3
    obtain ⟨x, hx⟩ := get_some (l := T.L) (k := k) (by omega)
    rw [ix_at (k := k) (by omega) hx]
    simp only [Option.bind_some]
    obtain ⟨v, hv, v0, v1⟩ := within_ok (t1 x (List.mem_of_getElem? hx)) (lo := 0) (hi := 1073741824) (by omega) (by omega) (by omega)
    rw [hv]
    simp only [Option.bind_some]
    rw [gd_ok (by omega), rem_nn v0]
    have e1 := Int.emod_nonneg v (show n ≠ 0 by omega)
    have e2 := Int.emod_lt_of_pos v (show 0 < n by omega)
    exact ⟨_, _, rfl, ⟨t1, t2, by simp only; omega, by simp only; omega⟩, e1, e2⟩
theorem u32_bd (n : Int) : U32 (IntKind.u32.wrap n) := by rw [w_u32]; unfold U32; omega
theorem u64_bd (n : Int) : U64 (IntKind.u64.wrap n) := by rw [w_u64]; unfold U64; omega
theorem u8_bd (n : Int) : 0 ≤ IntKind.u8.wrap n ∧ IntKind.u8.wrap n ≤ 255 := by rw [w_u8]; omega
theorem word_ok {T : limelightkeep_Tape} (hT : TOK T) : ∃ v T', limelightkeep_Tape_Word T = some (v, T') ∧ TOK T' ∧ U32 v := by
  unfold limelightkeep_Tape_Word
  obtain ⟨v1, T1, e1, h1, _⟩ := next_ok hT (n := 1048576) (by omega) (by omega)
  rw [e1]
  simp only [Option.bind_some]
  obtain ⟨v2, T2, e2, h2, _⟩ := next_ok h1 (n := 4096) (by omega) (by omega)
  rw [e2]
  simp only [Option.bind_some]
  obtain ⟨v3, T3, e3, h3, _⟩ := next_ok h2 (n := 5) (by omega) (by omega)
  rw [e3]
  exact ⟨_, _, rfl, h3, u32_bd _⟩
theorem down_down {b : Nat} {n : Int} (hn : U64 n) : downR b (downR b n) = downR b n := by
  have h1 := pe_lt (b := b) hn
  have h2 : 0 ≤ n / 2 ^ pe b n := Int.ediv_nonneg hn.1 (Int.le_of_lt (two_pos _))
  have : downR b n = n / 2 ^ pe b n * 2 ^ pe b n := rfl
  rw [this]
  exact down_open ⟨h2, h1⟩
theorem down_U64 {b : Nat} {n : Int} (hn : U64 n) : U64 (downR b n) := by
  have := down_le (b := b) hn.1
  unfold U64 at hn ⊢
  omega
theorem tuple_ok {T : limelightkeep_Tape} (hT : TOK T) : ∃ v T', limelightkeep_Tape_Tuple T = some (v, T') ∧ TOK T' ∧ WT v ∧ tupOk v = true := by
  unfold limelightkeep_Tape_Tuple
  obtain ⟨v1, T1, e1, h1, b1⟩ := next_ok hT (n := 9) (by omega) (by omega)
  rw [e1]
  simp only [Option.bind_some]
  obtain ⟨v2, T2, e2, h2, b2⟩ := next_ok h1 (n := 2000) (by omega) (by omega)
  rw [e2]
  simp only [Option.bind_some]
  obtain ⟨v3, T3, e3, h3, b3⟩ := next_ok h2 (n := 3) (by omega) (by omega)
  rw [e3]
  simp only [Option.bind_some]
  obtain ⟨x, hx⟩ : ∃ x, ix ([1, 100, 8000] : List Int) v3 = some x := by
    rcases (by omega : v3 = 0 ∨ v3 = 1 ∨ v3 = 2) with rfl | rfl | rfl
    · exact ⟨1, rfl⟩
    · exact ⟨100, rfl⟩
    · exact ⟨8000, rfl⟩
  rw [hx]
  simp only [Option.bind_some]
  generalize hR : mul .u64 (cv .u64 (add .i64 1 v2)) (cv .u64 x) = R
  have hU : U64 R := by rw [← hR]; exact u64_bd _
  rw [show (17 : Int) = ((17 : Nat) : Int) from rfl, ref_Down_eq (b := 17) (by decide) hU]
  simp only [Option.bind_some]
  obtain ⟨v4, T4, e4, h4, b4⟩ := next_ok h3 (n := 120) (by omega) (by omega)
  rw [e4]
  refine ⟨_, _, rfl, h4, ⟨u32_bd _, down_U64 hU, by unfold I64; simp only; omega⟩, ?_⟩
  unfold tupOk
  simp only
  rw [decide_eq_true (by omega), decide_eq_true (by omega), decide_eq_true (down_down hU)]
  rfl
theorem bytes_ok {T : limelightkeep_Tape} (hT : TOK T) {n : Int} (h0 : 0 ≤ n ∧ n ≤ 1000) : ∃ v T', limelightkeep_Tape_Bytes T n = some (v, T') ∧ TOK T' ∧ Byt v ∧ (v.length : Int) ≤ n := by
  have loop : ∀ (k : Nat) (T : limelightkeep_Tape) (acc : List Int), TOK T → Byt acc → acc.length + k ≤ 1000 → ∃ v T', loopF (fun sg => limelightkeep_Tape_Bytes_l0 sg.1 sg.2.1 sg.2.2.1 sg.2.2.2) (acc, (k : Int), T.L, T.At) = some (.brk (v, 0, T'.L, T'.At)) ∧ TOK T' ∧ Byt v ∧ v.length = acc.length + k := by
    intro k
    induction k with
    | zero =>
      intro T acc hT hB hl
      exact ⟨acc, T, loopF_brk (by simp [limelightkeep_Tape_Bytes_l0]), hT, hB, rfl⟩
    | succ k ih =>
      intro T acc hT hB hl
      obtain ⟨x, T1, e1, h1, b1⟩ := next_ok hT (n := 256) (by omega) (by omega)
      obtain ⟨v, T', e2, h2, h3, h4⟩ := ih T1 (acc ++ [x]) h1 (hB.app (Byt.cons (by omega) Byt.nil)) (by simp; omega)
      refine ⟨v, T', (loopF_next ?_).trans e2, h2, h3, by simp at h4; omega⟩
      simp only [limelightkeep_Tape_Bytes_l0]
      rw [if_pos (by rw [decide_eq_true_iff]; omega), e1]
      simp only [Option.bind_some]
      rw [cv_u8 (by omega), app_ok (by simp; omega), sub_i64 (by omega)]
      simp
  unfold limelightkeep_Tape_Bytes
  rw [add_i64 (by omega)]
  obtain ⟨k, T1, e1, h1, b1⟩ := next_ok hT (n := n + 1) (by omega) (by omega)
  rw [e1]
  simp only [Option.bind_some]
  obtain ⟨m, rfl⟩ := Int.eq_ofNat_of_zero_le b1.1
  obtain ⟨v, T', e2, h2, h3, h4⟩ := loop m T1 [] h1 Byt.nil (by simp; omega)
  try simp only [Int.ofNat_eq_natCast] at e2 ⊢
  rw [e2]
  exact ⟨v, T', rfl, h2, h3, by simp at h4; omega⟩
theorem pad_ok {b : List Int} (hB : Byt b) (hl : b.length ≤ 1000) : ∃ v, limelightref1_Pad b 4 = some v ∧ Byt v ∧ v.length % 4 = 0 ∧ b.length ≤ v.length ∧ v.length ≤ b.length + 3 := by
  have loop : ∀ (d : Nat) (acc : List Int), Byt acc → acc.length ≤ 2000 → (acc.length + d) % 4 = 0 → d ≤ 3 → ∃ v, loopF (fun sg => limelightref1_Pad_l0 4 sg) acc = some (.brk v) ∧ Byt v ∧ v.length = acc.length + d := by
    intro d
    induction d with
    | zero =>
      intro acc hB hl hd _
      refine ⟨acc, loopF_brk ?_, hB, rfl⟩
      simp only [limelightref1_Pad_l0]
      rw [if_pos (by decide), gd_ok (by decide), rem_nn (by omega)]
      simp only [Option.bind_some]
      rw [if_neg (by simp; omega)]
    | succ d ih =>
      intro acc hB hl hd h3
      obtain ⟨v, e, h1, h2⟩ := ih (acc ++ [0]) (hB.app (Byt.cons (by omega) Byt.nil)) (by simp; omega) (by simp; omega) (by omega)
      refine ⟨v, (loopF_next ?_).trans e, h1, by simp at h2; omega⟩
      simp only [limelightref1_Pad_l0]
      rw [if_pos (by decide), gd_ok (by decide), rem_nn (by omega)]
      simp only [Option.bind_some]
      rw [if_pos (by simp; omega), app_ok (by simp; omega)]
      rfl
  unfold limelightref1_Pad
  rw [app_ok (by simp; omega)]
  simp only [Option.bind_some, List.nil_append]
  obtain ⟨v, e, h1, h2⟩ := loop ((4 - b.length % 4) % 4) b hB (by omega) (by omega) (by omega)
  rw [e]
  exact ⟨v, rfl, h1, by omega, by omega, by omega⟩
structure Good (r : api_Report) : Prop where
  wr : WR r
  right : rightE r = 0
  small : (enc r).length ≤ 100
  lt : r.Tuples.length ≤ 100
  la : r.Abouts.length ≤ 100
  ln : r.Numbers.length ≤ 100
  lb : r.Body.length ≤ 100
theorem report_ok {T : limelightkeep_Tape} (hT : TOK T) : ∃ r T', limelightkeep_Tape_Report T = some (r, T') ∧ TOK T' ∧ Good r := by
  have loop0 : ∀ (k : Nat) (T : limelightkeep_Tape) (acc : List api_Tuple), TOK T → (∀ t ∈ acc, WT t ∧ tupOk t = true) → acc.length + k ≤ 6 →
      ∃ v T', loopF (fun sg => limelightkeep_Tape_Report_l0 sg.1 sg.2.1 sg.2.2.1 sg.2.2.2) ((k : Int), T.L, T.At, acc) = some (.brk (0, T'.L, T'.At, v)) ∧ TOK T' ∧ (∀ t ∈ v, WT t ∧ tupOk t = true) ∧ v.length = acc.length + k := by
    intro k
    induction k with
    | zero =>
      intro T acc hT hB hl
      exact ⟨acc, T, loopF_brk (by simp [limelightkeep_Tape_Report_l0]), hT, hB, rfl⟩
    | succ k ih =>
      intro T acc hT hB hl
      obtain ⟨x, T1, e1, h1, b1⟩ := tuple_ok hT
      obtain ⟨v, T', e2, h2, h3, h4⟩ := ih T1 (acc ++ [x]) h1 (fun t ht => by
        rcases List.mem_append.1 ht with h | h
        · exact hB t h
        · simp at h; subst h; exact b1) (by simp; omega)
      refine ⟨v, T', (loopF_next ?_).trans e2, h2, h3, by simp at h4; omega⟩
      simp only [limelightkeep_Tape_Report_l0]
      rw [if_pos (by rw [decide_eq_true_iff]; omega), e1]
      simp only [Option.bind_some]
      rw [app_ok (by simp; omega), sub_i64 (by omega)]
      simp
  have loop1 : ∀ (k : Nat) (T : limelightkeep_Tape) (acc acc2 : List Int), TOK T → (∀ n ∈ acc, U32 n) → (∀ n ∈ acc2, 0 ≤ n ∧ n ≤ 255) → acc2.length = acc.length → acc.length + k ≤ 6 →
      ∃ v v2 T', loopF (fun sg => limelightkeep_Tape_Report_l1 sg.1 sg.2.1 sg.2.2.1 sg.2.2.2.1 sg.2.2.2.2) ((k : Int) - 1, T.L, T.At, acc, acc2) = some (.brk (-1, T'.L, T'.At, v, v2)) ∧ TOK T' ∧ (∀ n ∈ v, U32 n) ∧ (∀ n ∈ v2, 0 ≤ n ∧ n ≤ 255) ∧ v2.length = v.length ∧ v.length = acc.length + k := by
    intro k
    induction k with
    | zero =>
      intro T acc acc2 hT hB hB2 hl2 hl
      exact ⟨acc, acc2, T, loopF_brk (by simp [limelightkeep_Tape_Report_l1]), hT, hB, hB2, hl2, rfl⟩
    | succ k ih =>
      intro T acc acc2 hT hB hB2 hl2 hl
      obtain ⟨x, T1, e1, h1, b1⟩ := word_ok hT
      obtain ⟨y, T2, e2, h2, b2⟩ := next_ok h1 (n := 256) (by omega) (by omega)
      obtain ⟨v, v2, T', e3, h3, h4, h5, h6, h7⟩ := ih T2 (acc ++ [x]) (acc2 ++ [y]) h2 (fun t ht => by
        rcases List.mem_append.1 ht with h | h
        · exact hB t h
        · simp at h; subst h; exact b1) (fun t ht => by
        rcases List.mem_append.1 ht with h | h
        · exact hB2 t h
        · simp at h; subst h; omega) (by simp; omega) (by simp; omega)
      refine ⟨v, v2, T', (loopF_next ?_).trans e3, h3, h4, h5, h6, by simp at h7; omega⟩
      simp only [limelightkeep_Tape_Report_l1]
      rw [if_pos (by rw [decide_eq_true_iff]; omega), e1]
      simp only [Option.bind_some]
      rw [app_ok (by simp; omega)]
      simp only [Option.bind_some]
      rw [e2]
      simp only [Option.bind_some]
      rw [app_ok (by simp; omega), sub_i64 (by omega)]
      simp
  have loop2 : ∀ (k : Nat) (T : limelightkeep_Tape) (acc : List Int), TOK T → (∀ n ∈ acc, U32 n) → acc.length + k ≤ 6 →
      ∃ v T', loopF (fun sg => limelightkeep_Tape_Report_l2 sg.1 sg.2.1 sg.2.2.1 sg.2.2.2) ((k : Int), T.L, T.At, acc) = some (.brk (0, T'.L, T'.At, v)) ∧ TOK T' ∧ (∀ n ∈ v, U32 n) ∧ v.length = acc.length + k := by
    intro k
    induction k with
    | zero =>
      intro T acc hT hB hl
      exact ⟨acc, T, loopF_brk (by simp [limelightkeep_Tape_Report_l2]), hT, hB, rfl⟩
    | succ k ih =>
      intro T acc hT hB hl
      obtain ⟨x, T1, e1, h1, b1⟩ := word_ok hT
      obtain ⟨v, T', e2, h2, h3, h4⟩ := ih T1 (acc ++ [x]) h1 (fun t ht => by
        rcases List.mem_append.1 ht with h | h
        · exact hB t h
        · simp at h; subst h; exact b1) (by simp; omega)
      refine ⟨v, T', (loopF_next ?_).trans e2, h2, h3, by simp at h4; omega⟩
      simp only [limelightkeep_Tape_Report_l2]
      rw [if_pos (by rw [decide_eq_true_iff]; omega), e1]
      simp only [Option.bind_some]
      rw [app_ok (by simp; omega), sub_i64 (by omega)]
      simp
  have z32 : U32 0 := by unfold U32; omega
  have z64 : U64 0 := by unfold U64; omega
  have zi : I64 0 := by unfold I64; omega
  have nT : ∀ t ∈ ([] : List api_Tuple), WT t := fun t h => by simp at h
  have nA : ∀ n ∈ ([] : List Int), U32 n := fun t h => by simp at h
  have nI : ∀ n ∈ ([] : List Int), I64 n := fun t h => by simp at h
  unfold limelightkeep_Tape_Report
  obtain ⟨k, T1, e1, h1, b1⟩ := next_ok hT (n := 6) (by omega) (by omega)
  rw [e1]
  simp only [Option.bind_some]
  obtain ⟨f, T2, e2, h2, bf⟩ := word_ok h1
  rw [e2]
  simp only [Option.bind_some]
  rw [add_i64 (by omega)]
  rcases (by omega : (k = 0 ∨ k = 1) ∨ k = 2 ∨ k = 3 ∨ k = 4 ∨ k = 5) with hk | rfl | rfl | rfl | rfl
  · have hor : ((if (1 + k == 1) = true then some (1 + k == 1) else some (1 + k == 2) : Option Bool)) = some true := by
      rcases hk with rfl | rfl <;> rfl
    rw [hor]
    simp only [Option.bind_some, if_true]
    obtain ⟨n, T3, e3, h3, b3⟩ := next_ok h2 (n := 5) (by omega) (by omega)
    rw [e3]
    simp only [Option.bind_some]
    obtain ⟨m, rfl⟩ := Int.eq_ofNat_of_zero_le b3.1
    obtain ⟨v, T', e4, h4, h5, h6⟩ := loop0 m T3 [] h3 (by simp) (by simp; omega)
    try simp only [Int.ofNat_eq_natCast] at e4 ⊢
    rw [e4]
    simp only [List.length_nil, Nat.zero_add] at h6
    have hr : rightE ⟨1 + k, f, 0, v, [], [], 0, 0, 0, []⟩ = 0 := by
      rw [right_of (by simp only; omega) (by rcases hk with rfl | rfl <;> simp [fldB])]
      unfold valB
      rw [if_pos (by simp only; omega)]
      simp only [Bool.and_eq_true, decide_eq_true_iff, List.all_eq_true]
      exact ⟨by omega, fun t ht => (h5 t ht).2⟩
    refine ⟨_, _, rfl, h4, ⟨⟨by unfold I64; simp only; omega, bf, z32, fun t ht => (h5 t ht).1, nA, nI, z64, zi, zi, Byt.nil, by simp only; omega, by simp, by simp, by simp⟩, hr, ?_, by simp only; omega, by simp, by simp, by simp⟩⟩
    rw [enc_length]
    unfold bodyB bodyW
    rw [if_neg (by simp only; omega), if_pos (by simp only; omega), wds_length]
    simp only [List.length_cons, flat2 tupW (fun _ => rfl)]
    omega
  · simp only [Int.reduceAdd, Int.reduceBEq, Bool.false_eq_true, if_false, Option.bind_some, if_true]
    obtain ⟨a, T3, e3, h3, ba⟩ := word_ok h2
    rw [e3]
    refine ⟨_, _, rfl, h3, ⟨⟨by unfold I64; simp, bf, ba, nT, nA, nI, z64, zi, zi, Byt.nil, by simp, by simp, by simp, by simp⟩, ?_, ?_, by simp, by simp, by simp, by simp⟩⟩
    · rw [right_of (by simp) (by simp [fldB])]; rfl
    · rw [enc_length]
      unfold bodyB bodyW
      rw [if_neg (by simp), if_neg (by simp), if_pos (by simp), wds_length]
      simp
  · simp only [Int.reduceAdd, Int.reduceBEq, Bool.false_eq_true, if_false, Option.bind_some, if_true]
    obtain ⟨n, T3, e3, h3, b3⟩ := next_ok h2 (n := 3) (by omega) (by omega)
    rw [e3]
    simp only [Option.bind_some]
    obtain ⟨m, rfl⟩ := Int.eq_ofNat_of_zero_le b3.1
    obtain ⟨v, v2, T', e4, h4, h5, h6, h7, h8⟩ := loop1 (m + 1) T3 [] [] h3 (by simp) (by simp) rfl (by simp; omega)
    rw [show ((m + 1 : Nat) : Int) - 1 = (m : Int) from by omega] at e4
    try simp only [Int.ofNat_eq_natCast] at e4 ⊢
    rw [e4]
    simp only [List.length_nil, Nat.zero_add] at h8
    have hr : rightE ⟨4, f, 0, [], v, v2, 0, 0, 0, []⟩ = 0 := by
      rw [right_of (by simp) (by simp [fldB])]
      unfold valB
      simp only [Int.reduceEq, or_self, if_false, if_true, Bool.and_eq_true, decide_eq_true_iff, List.all_eq_true]
      exact ⟨⟨⟨h7, by omega⟩, by omega⟩, h6⟩
    refine ⟨_, _, rfl, h4, ⟨⟨by unfold I64; simp, bf, z32, nT, h5, fun n hn => by have := h6 n hn; unfold I64; omega, z64, zi, zi, Byt.nil, by simp, by simp only; omega, by simp only; omega, by simp⟩, hr, ?_, by simp, by simp only; omega, by simp only; omega, by simp⟩⟩
    rw [enc_length]
    unfold bodyB bodyW
    rw [if_neg (by simp), if_neg (by simp), if_neg (by simp), if_pos (by simp), wds_length]
    simp only [List.length_cons, flat2 firW (fun _ => rfl), List.length_zip]
    omega
  · simp only [Int.reduceAdd, Int.reduceBEq, Bool.false_eq_true, if_false, Option.bind_some, if_true]
    obtain ⟨n, T3, e3, h3, b3⟩ := next_ok h2 (n := 1048576) (by omega) (by omega)
    rw [e3]
    simp only [Option.bind_some]
    obtain ⟨q, T4, e4, h4, b4⟩ := next_ok h3 (n := 900) (by omega) (by omega)
    rw [e4]
    simp only [Option.bind_some]
    generalize hR : mul .u64 (cv .u64 n) (cv .u64 (add .i64 1 q)) = R
    have hU : U64 R := by rw [← hR]; exact u64_bd _
    rw [show (18 : Int) = ((18 : Nat) : Int) from rfl, ref_Down_eq (b := 18) (by decide) hU]
    simp only [Option.bind_some]
    obtain ⟨p, T5, e5, h5, b5⟩ := next_ok h4 (n := 4) (by omega) (by omega)
    rw [e5]
    simp only [Option.bind_some]
    obtain ⟨m, rfl⟩ := Int.eq_ofNat_of_zero_le b5.1
    obtain ⟨v, T', e6, h6, h7, h8⟩ := loop2 m T5 [] h5 (by simp) (by simp; omega)
    try simp only [Int.ofNat_eq_natCast] at e6 ⊢
    rw [e6]
    simp only [List.length_nil, Nat.zero_add] at h8
    have hr : rightE ⟨5, f, 0, [], v, [], downR 18 R, 0, 0, []⟩ = 0 := by
      rw [right_of (by simp) (by simp [fldB])]
      unfold valB
      simp only [Int.reduceEq, or_self, if_false, if_true, Bool.and_eq_true, decide_eq_true_iff]
      exact ⟨by omega, down_down hU⟩
    refine ⟨_, _, rfl, h6, ⟨⟨by unfold I64; simp, bf, z32, nT, h7, nI, down_U64 hU, zi, zi, Byt.nil, by simp, by simp only; omega, by simp, by simp⟩, hr, ?_, by simp, by simp only; omega, by simp, by simp⟩⟩
    rw [enc_length]
    unfold bodyB bodyW
    rw [if_neg (by simp), if_neg (by simp), if_neg (by simp), if_neg (by simp), if_pos (by simp), wds_length]
    simp only [List.length_cons]
    omega
  · simp only [Int.reduceAdd, Int.reduceBEq, Bool.false_eq_true, if_false, Option.bind_some, if_true]
    obtain ⟨t, T3, e3, h3, b3⟩ := next_ok h2 (n := 12) (by omega) (by omega)
    rw [e3]
    simp only [Option.bind_some]
    obtain ⟨c, T4, e4, h4, b4⟩ := next_ok h3 (n := 32) (by omega) (by omega)
    rw [e4]
    simp only [Option.bind_some]
    obtain ⟨b, T5, e5, h5, hB, hl⟩ := bytes_ok h4 (n := 12) (by omega)
    rw [e5]
    simp only [Option.bind_some]
    obtain ⟨v, e6, hv, hv4, hv1, hv2⟩ := pad_ok hB (by omega)
    rw [e6, add_i64 (by omega)]
    have hk : kindOf (192 + t) c = 6 := by
      unfold kindOf
      rw [if_neg (by omega), if_neg (by omega), if_neg (by omega), if_neg (by omega), if_neg (by omega)]
    have hr : rightE ⟨6, 0, 0, [], [], [], 0, 192 + t, c, v⟩ = 0 := by
      rw [right_of (by simp) (by simp [fldB])]
      unfold valB
      simp only [Int.reduceEq, or_self, if_false, if_true, Bool.and_eq_true, decide_eq_true_iff]
      exact ⟨⟨⟨⟨⟨⟨by omega, by omega⟩, by omega⟩, by omega⟩, hv4⟩, by omega⟩, hk⟩
    refine ⟨_, _, rfl, h5, ⟨⟨by unfold I64; simp, z32, z32, nT, nA, nI, z64, by unfold I64; simp only; omega, by unfold I64; simp only; omega, hv, by simp, by simp, by simp, by simp only; omega⟩, hr, ?_, by simp, by simp, by simp, by simp only; omega⟩⟩
    rw [enc_length]
    unfold bodyB
    rw [if_pos (by simp)]
    simp only
    omega
theorem odd_ok {r : api_Report} (hr : WR r) (hl : r.Tuples.length ≤ 900 ∧ r.Abouts.length ≤ 900 ∧ r.Numbers.length ≤ 900 ∧ r.Body.length ≤ 900) {what n : Int} (hw : I64 what) (hn : I64 n) : ∃ q, limelightlaw6_odd r what n = some q ∧ WR q := by
  obtain ⟨v, hv, v0, v1⟩ := within_ok hw (lo := 0) (hi := 10) (by omega) (by omega) (by omega)
  unfold limelightlaw6_odd
  rw [hv]
  simp only [Option.bind_some]
  obtain ⟨q1, q2, q3, q4, q5, q6, q7, q8, q9, q10, q11, q12, q13, q14⟩ := hr
  rcases (by omega : v = 0 ∨ v = 1 ∨ v = 2 ∨ v = 3 ∨ v = 4 ∨ v = 5 ∨ v = 6 ∨ v = 7 ∨ v = 8 ∨ v = 9 ∨ v = 10) with rfl | rfl | rfl | rfl | rfl | rfl | rfl | rfl | rfl | rfl | rfl
  all_goals simp only [Int.reduceBEq, Bool.false_eq_true, if_false, if_true]
  · exact ⟨_, rfl, ⟨hn, q2, q3, q4, q5, q6, q7, q8, q9, q10, q11, q12, q13, q14⟩⟩
  · exact ⟨_, rfl, ⟨q1, u32_bd _, q3, q4, q5, q6, q7, q8, q9, q10, q11, q12, q13, q14⟩⟩
  · exact ⟨_, rfl, ⟨q1, q2, u32_bd _, q4, q5, q6, q7, q8, q9, q10, q11, q12, q13, q14⟩⟩
  · exact ⟨_, rfl, ⟨q1, q2, q3, q4, q5, q6, u64_bd _, q8, q9, q10, q11, q12, q13, q14⟩⟩
  · rw [app_ok (by simp; omega)]
    simp only [Option.bind_some, List.nil_append]
    rw [app_ok (by simp; omega)]
    refine ⟨_, rfl, ⟨q1, q2, q3, fun t ht => ?_, q5, q6, q7, q8, q9, q10, by simp; omega, q12, q13, q14⟩⟩
    rcases List.mem_append.1 ht with h | h
    · exact q4 t h
    · simp at h; subst h; exact ⟨by unfold U32; simp, u64_bd _, by unfold I64; simp⟩
  · rw [app_ok (by simp; omega)]
    simp only [Option.bind_some, List.nil_append]
    rw [app_ok (by simp; omega)]
    refine ⟨_, rfl, ⟨q1, q2, q3, fun t ht => ?_, q5, q6, q7, q8, q9, q10, by simp; omega, q12, q13, q14⟩⟩
    rcases List.mem_append.1 ht with h | h
    · exact q4 t h
    · simp at h; subst h; exact ⟨by unfold U32; simp, by unfold U64; simp, hn⟩
  · rw [app_ok (by simp; omega)]
    simp only [Option.bind_some, List.nil_append]
    rw [app_ok (by simp; omega)]
    refine ⟨_, rfl, ⟨q1, q2, q3, q4, fun t ht => ?_, q6, q7, q8, q9, q10, q11, by simp; omega, q13, q14⟩⟩
    rcases List.mem_append.1 ht with h | h
    · exact q5 t h
    · simp at h; subst h; exact u32_bd _
  · rw [app_ok (by simp; omega)]
    simp only [Option.bind_some, List.nil_append]
    rw [app_ok (by simp; omega)]
    refine ⟨_, rfl, ⟨q1, q2, q3, q4, q5, fun t ht => ?_, q7, q8, q9, q10, q11, q12, by simp; omega, q14⟩⟩
    rcases List.mem_append.1 ht with h | h
    · exact q6 t h
    · simp at h; subst h; exact hn
  · exact ⟨_, rfl, ⟨q1, q2, q3, q4, q5, q6, q7, hn, q9, q10, q11, q12, q13, q14⟩⟩
  · exact ⟨_, rfl, ⟨q1, q2, q3, q4, q5, q6, q7, q8, hn, q10, q11, q12, q13, q14⟩⟩
  · have hb : 0 ≤ band .i64 n 3 ∧ band .i64 n 3 ≤ 3 := by
      unfold band
      have h3 : (BitVec.ofInt IntKind.i64.bits 3).toNat = 3 := rfl
      have h := Nat.and_le_right (n := (BitVec.ofInt IntKind.i64.bits n).toNat) (m := 3)
      rw [BitVec.toNat_and, h3, IntWalk.i64_in _ (by omega)]
      omega
    rw [app_ok (by simp; omega), add_i64 (by omega)]
    simp only [Option.bind_some, List.nil_append, apz]
    rw [if_pos (by omega)]
    refine ⟨_, rfl, ⟨q1, q2, q3, q4, q5, q6, q7, q8, q9, q10.app (fun x hx => ?_), q11, q12, q13, by simp; omega⟩⟩
    have := (List.mem_replicate.1 hx).2
    omega
end Go.Lk
