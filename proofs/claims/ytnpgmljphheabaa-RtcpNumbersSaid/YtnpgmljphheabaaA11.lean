/- A part of this proof: RtcpNumbers returns true for every input and leaves its arguments as they were; there are no conditions. -/
import Derived.Test.YtnpgmljphheabaaA10
set_option linter.unusedVariables false
set_option linter.unusedSimpArgs false
namespace Go.Lk
open Go.RowKit
theorem rem_bd {k : IntKind} (a : Int) {m : Int} (hm : 0 < m) : -m < rem k a m ∧ rem k a m < m := tmod_bd a hm
theorem tape_ok (k : Int) : ∃ L, limelightlaw6_tape k = some L ∧ (∀ x ∈ L, I64 x) ∧ L.length = 400 := by
  have loop : ∀ (d i : Nat) (acc : List Int), i + d = 400 → acc.length = i → (∀ x ∈ acc, I64 x) →
      ∃ v, loopF (fun sg => limelightlaw6_tape_l0 k sg.1 sg.2) (acc, (i : Int)) = some (.brk (v, 400)) ∧ (∀ x ∈ v, I64 x) ∧ v.length = 400 := by
    intro d
    induction d with
    | zero =>
      intro i acc hi ha hB
      have : i = 400 := by omega
      subst this
      exact ⟨acc, loopF_brk (by simp [limelightlaw6_tape_l0]), hB, ha⟩
    | succ d ih =>
      intro i acc hi ha hB
      have hb := rem_bd (k := .i64) (add .i64 (add .i64 (mul .i64 (mul .i64 (i : Int) (i : Int)) 7) (mul .i64 k 31)) (mul .i64 (i : Int) k)) (m := 211) (by omega)
      obtain ⟨v, e, h1, h2⟩ := ih (i + 1) (acc ++ [rem .i64 (add .i64 (add .i64 (mul .i64 (mul .i64 (i : Int) (i : Int)) 7) (mul .i64 k 31)) (mul .i64 (i : Int) k)) 211]) (by omega) (by simp; omega) (fun x hx => by
        rcases List.mem_append.1 hx with h | h
        · exact hB x h
        · simp at h; subst h; unfold I64; omega)
      refine ⟨v, (loopF_next ?_).trans e, h1, h2⟩
      simp only [limelightlaw6_tape_l0]
      rw [if_pos (by rw [decide_eq_true_iff]; omega), app_ok (by simp; omega), add_i64 (a := (i : Int)) (b := 1) (by omega)]
      simp
  unfold limelightlaw6_tape
  obtain ⟨v, e, h1, h2⟩ := loop 400 0 [] rfl rfl (by simp)
  rw [show (([] : List Int), (0 : Int)) = ([], ((0 : Nat) : Int)) from rfl, e]
  exact ⟨v, rfl, h1, h2⟩
theorem vals_i64 : ∀ x ∈ ([-1, 0, 1, 3, 6, 7, 31, 32, 191, 192, 205, 206, 223, 224, 255, 256, 511, 512, 131072, 131073, 1099511627776] : List Int), I64 x := by
  unfold I64
  decide
theorem l6_loop {x : api_Report × limelightkeep_Tape} (g : Good x.1) {w : Int} (hw : I64 w) : loopF (fun sg => limelightlaw6_RtcpNumbers_l6 x w sg) 0 = some (.brk 21) := by
  refine loopF_up (fun k => (k : Int)) 21 rfl (fun k hk => ?_) (by simp [limelightlaw6_RtcpNumbers_l6])
  simp only [limelightlaw6_RtcpNumbers_l6]
  generalize hL : ([-1, 0, 1, 3, 6, 7, 31, 32, 191, 192, 205, 206, 223, 224, 255, 256, 511, 512, 131072, 131073, 1099511627776] : List Int) = L
  have hlen : L.length = 21 := by rw [← hL]; rfl
  obtain ⟨v, hv⟩ := get_some (l := L) (k := k) (by omega)
  have hv64 : I64 v := vals_i64 v (by rw [hL]; exact List.mem_of_getElem? hv)
  have gs : x.1.Tuples.length ≤ 900 ∧ x.1.Abouts.length ≤ 900 ∧ x.1.Numbers.length ≤ 900 ∧ x.1.Body.length ≤ 900 := ⟨by have := g.lt; omega, by have := g.la; omega, by have := g.ln; omega, by have := g.lb; omega⟩
  obtain ⟨q, hq, wq⟩ := odd_ok g.wr gs hw hv64
  rw [if_pos (by rw [decide_eq_true_iff]; omega), ix_nat, hv]
  simp only [Option.bind_some]
  rw [hq]
  simp only [Option.bind_some]
  rw [same_true (l := [q]) (by intro r hr; simp at hr; subst hr; exact wq) (by simp), add_i64 (by omega)]
  rfl
theorem l4_loop {x : api_Report × limelightkeep_Tape} (g : Good x.1) : loopF (fun sg => limelightlaw6_RtcpNumbers_l4 x sg) 0 = some (.brk 11) := by
  refine loopF_up (fun k => (k : Int)) 11 rfl (fun k hk => ?_) (by simp [limelightlaw6_RtcpNumbers_l4])
  simp only [limelightlaw6_RtcpNumbers_l4]
  rw [if_pos (by rw [decide_eq_true_iff]; omega), l6_loop g (by unfold I64; omega)]
  simp only [Option.bind_some, Flow.el]
  rw [add_i64 (by omega)]
  rfl
theorem l5_loop {x : List Int × Int} (hB : Byt x.1) (hl : x.1.length ≤ 100000) {q : Int} (hq : 0 ≤ q ∧ q ≤ 1000) : ∃ j, loopF (fun sg => limelightlaw6_RtcpNumbers_l5 q x sg) 0 = some (.brk j) := by
  by_cases h25 : q < 25
  · refine ⟨(x.1.length : Int), loopF_up (fun k => (k : Int)) x.1.length rfl (fun k hk => ?_) ?_⟩
    · obtain ⟨v, hv⟩ := get_some hk
      simp only [limelightlaw6_RtcpNumbers_l5]
      rw [if_pos (by simp; omega), app_ok (by simp; omega)]
      simp only [Option.bind_some, List.nil_append]
      rw [ix_nat, hv]
      simp only [Option.bind_some]
      rw [add_i64 (a := (k : Int)) (b := q) (by omega), rem_nn (by omega), cv_u64 (by omega), gd_ok (by omega), cutTo_ok rfl (Nat.le_of_lt hk)]
      simp only [Option.bind_some]
      rw [reads_true (hB.take _)]
      simp only [Option.bind_some, Bool.not_true, Bool.false_eq_true, if_false]
      rw [reads_true (set_byt hB _ (bxor_u8 _ _))]
      simp only [Option.bind_some, Bool.not_true, Bool.false_eq_true, if_false]
      rw [cutFrom_ok rfl (Nat.le_of_lt hk)]
      simp only [Option.bind_some]
      rw [reads_true (hB.drop _), add_i64 (by omega)]
      rfl
    · simp only [limelightlaw6_RtcpNumbers_l5]
      rw [if_neg (by simp)]
  · refine ⟨0, loopF_brk ?_⟩
    simp only [limelightlaw6_RtcpNumbers_l5]
    rw [if_neg (by simp; omega)]
theorem l0_loop : loopF (fun sg => limelightlaw6_RtcpNumbers_l0 sg) 0 = some (.brk 60) := by
  refine loopF_up (fun k => (k : Int)) 60 rfl (fun k hk => ?_) (by simp [limelightlaw6_RtcpNumbers_l0])
  simp only [limelightlaw6_RtcpNumbers_l0]
  obtain ⟨L, hL, hL1, hL2⟩ := tape_ok (k : Int)
  rw [if_pos (by rw [decide_eq_true_iff]; omega), hL]
  simp only [Option.bind_some]
  obtain ⟨x, T1, e1, h1, gx⟩ := report_ok (TOK_start hL1 (by omega))
  rw [e1]
  simp only [Option.bind_some]
  obtain ⟨y, T2, e2, h2, gy⟩ := report_ok h1
  rw [show (⟨T1.L, T1.At⟩ : limelightkeep_Tape) = T1 from rfl, e2]
  simp only [Option.bind_some]
  have hw : ∀ r ∈ [x, y], WR r := by
    intro r hr
    simp at hr
    rcases hr with rfl | rfl
    · exact gx.wr
    · exact gy.wr
  have hr2 : ∀ r ∈ [x, y], rightE r = 0 := by
    intro r hr
    simp at hr
    rcases hr with rfl | rfl
    · exact gx.right
    · exact gy.right
  have hsx := gx.small
  have hsy := gy.small
  rw [same_true hw (by simp), same_true (l := [x]) (by intro r hr; simp at hr; subst hr; exact gx.wr) (by simp)]
  simp only [Option.bind_some, Bool.not_true, Bool.false_eq_true, if_false]
  rw [l4_loop (x := (x, T1)) gx]
  simp only [Option.bind_some, Flow.el]
  have hl2 : ([x, y].flatMap enc).length ≤ 1500 := by rw [enc2, List.length_append]; omega
  rw [ref_Bytes_eq hw (by simp), bytesS_encs hr2 hl2 (by simp), enc2]
  simp only [Option.bind_some]
  obtain ⟨j, hj⟩ := l5_loop (x := (enc x ++ enc y, 0)) ((enc_byt gx.wr gx.right).app (enc_byt gy.wr gy.right)) (by simp only [List.length_append]; omega) (q := (k : Int)) (by omega)
  rw [hj]
  simp only [Option.bind_some]
  rw [add_i64 (by omega)]
  rfl
theorem l3_loop (t c : Int) : loopF (fun sg => limelightlaw6_RtcpNumbers_l3 t c sg) 0 = some (.brk 6) := by
  refine loopF_up (fun k => (k : Int)) 6 rfl (fun k hk => ?_) (by simp [limelightlaw6_RtcpNumbers_l3])
  simp only [limelightlaw6_RtcpNumbers_l3, apz]
  rw [if_pos (by rw [decide_eq_true_iff]; omega), mul_i64 (by omega), if_pos ⟨by omega, by simp; omega⟩]
  simp only [Option.bind_some]
  rw [reads_true (Byt.app (Byt.cons (cv8_bd _) (Byt.cons (cv8_bd _) (Byt.cons (by omega) (Byt.cons (cv8_bd _) Byt.nil)))) (fun x hx => by have := (List.mem_replicate.1 hx).2; omega)), add_i64 (by omega)]
  rfl
theorem l2_loop (t : Int) : loopF (fun sg => limelightlaw6_RtcpNumbers_l2 t sg) 0 = some (.brk 32) := by
  refine loopF_up (fun k => (k : Int)) 32 rfl (fun k hk => ?_) (by simp [limelightlaw6_RtcpNumbers_l2])
  simp only [limelightlaw6_RtcpNumbers_l2]
  rw [if_pos (by rw [decide_eq_true_iff]; omega), l3_loop]
  simp only [Option.bind_some, Flow.el]
  rw [add_i64 (by omega)]
  rfl
theorem l1_loop : loopF (fun sg => limelightlaw6_RtcpNumbers_l1 sg) 190 = some (.brk 226) := by
  refine loopF_up (fun k => ((190 + k : Nat) : Int)) 36 rfl (fun k hk => ?_) (by simp [limelightlaw6_RtcpNumbers_l1])
  simp only [limelightlaw6_RtcpNumbers_l1]
  rw [if_pos (by rw [decide_eq_true_iff]; omega), l2_loop]
  simp only [Option.bind_some, Flow.el]
  rw [add_i64 (by omega)]
  rfl
theorem numbers_law : limelightlaw6_RtcpNumbers = some true := by
  unfold limelightlaw6_RtcpNumbers
  rw [l0_loop]
  simp only [Option.bind_some, Flow.el]
  rw [l1_loop]
  simp only [Option.bind_some, mks]
  rw [if_pos (by decide)]
  simp only [Option.bind_some]
  rw [reads_true (fun x hx => by have := (List.mem_replicate.1 hx).2; omega), same_true (l := []) (by simp) (by simp), known_true]
  rfl
end Go.Lk
