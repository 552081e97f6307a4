/- A part of this proof: AlarmOrder returns true for every input and leaves its arguments as they were; there are no conditions. -/
import Derived.Test.YtaclkgdbkejfjaaA6
set_option linter.unusedVariables false
set_option linter.unusedSimpArgs false
namespace Go.Lk
open Go.RowKit Go.Proofs Go.Sort
def wOf (G : List Int) : Nat → List alarm_Due
  | 0 => []
  | k + 1 => wOf G k ++ [⟨G.getD k 0, (k : Int)⟩]
theorem wOf_len (G : List Int) : ∀ k, (wOf G k).length = k
  | 0 => rfl
  | k + 1 => by simp [wOf, wOf_len G k]
theorem wOf_mem (G : List Int) {d : alarm_Due} : ∀ k, d ∈ wOf G k → ∃ j : Nat, j < k ∧ d = ⟨G.getD j 0, (j : Int)⟩
  | 0, h => by simp [wOf] at h
  | k + 1, h => by
    rcases List.mem_append.1 (show d ∈ wOf G k ++ [⟨G.getD k 0, (k : Int)⟩] from h) with q | q
    · obtain ⟨j, h1, h2⟩ := wOf_mem G k q; exact ⟨j, by omega, h2⟩
    · exact ⟨k, by omega, by simpa using q⟩
theorem wOf_rm (G : List Int) (k : Nat) : rmK (k : Int) (wOf G k) = wOf G k := by
  refine rm_none _ _ ?_
  rw [List.any_eq_false]
  intro d hd
  obtain ⟨j, h1, rfl⟩ := wOf_mem G k hd
  simp [isK]
  omega
theorem srt_filter (o : Int) : ∀ t : List alarm_Due, Srt t → t.takeWhile (leN o) = t.filter (leN o)
  | [], _ => rfl
  | x :: t, hs => by
    have hs' := hs
    unfold Srt at hs'
    rw [List.pairwise_cons] at hs'
    cases hx : leN o x with
    | true => rw [List.takeWhile_cons, hx, List.filter_cons_of_pos hx, srt_filter o t hs'.2]; rfl
    | false =>
      have hn : ∀ d ∈ x :: t, leN o d = false := fun d hd => by
        have := srt_late o (x :: t) hs d (by rw [List.dropWhile_cons, hx]; simpa using hd)
        simp [leN]; exact this
      rw [List.takeWhile_cons, hx]
      rw [List.filter_eq_nil_iff.2 (fun d hd => by rw [hn d hd]; simp)]
      rfl
theorem due_none (o : Int) (t : List alarm_Due) (h : ∀ d ∈ t, o < d.At) : t.takeWhile (leN o) = [] ∧ t.dropWhile (leN o) = t := by
  cases t with
  | nil => exact ⟨rfl, rfl⟩
  | cons d t =>
    have : leN o d = false := by have := h d (by simp); simp [leN]; omega
    simp [List.takeWhile_cons, List.dropWhile_cons, this]
theorem order_loop (G : List Int) (o : Int) (got : List alarm_Due) (tb : alarm_Table) (hG : G.length ≤ 9223372036854775807) (hl : got.length ≤ 1000) (hs : Srt got) (ha : Apart got) (h1 : ∀ d ∈ got, d.At ≤ o) (h2 : ∀ d ∈ got, ∃ j : Nat, j < G.length ∧ d = ⟨G.getD j 0, (j : Int)⟩) :
    loopF (fun sg => limelightlaw12_AlarmOrder_l1 G o (got, tb) sg) (0 : Int) = some (.brk (got.length : Int)) := by
  refine loopF_up (fun k => (k : Int)) got.length rfl (fun k hk => ?_) ?_
  · have hx := List.getElem?_eq_getElem hk
    have hm := List.getElem_mem hk
    obtain ⟨j, hj, ej⟩ := h2 _ hm
    have ho := h1 _ hm
    unfold limelightlaw12_AlarmOrder_l1
    rw [if_pos (by simpa using hk)]
    have hkey : got[k].Key = (j : Int) := by rw [ej]
    have hat : got[k].At = G.getD j 0 := by rw [ej]
    have e1 : ix G got[k].Key = some got[k].At := by
      rw [hkey, hat, ix_nat, List.getD_eq_getElem?_getD, List.getElem?_eq_getElem hj]
      rfl
    simp only [ix_nat, hx, Option.bind_some, e1]
    rw [if_neg (by simp; omega), if_neg (by rw [cv_u64 (by omega), hkey]; simp; omega), if_neg (by simp)]
    by_cases h0 : 0 < k
    · have hk1 : k - 1 < got.length := by omega
      have hp := List.getElem?_eq_getElem hk1
      have esub : sub .i64 (k : Int) 1 = ((k - 1 : Nat) : Int) := by rw [sub_i64 (by omega)]; omega
      have hord : ¬ ltD got[k] got[k - 1] := (List.pairwise_iff_getElem.1 hs) (k - 1) k hk1 hk (by omega)
      have hkey2 : got[k].Key ≠ got[k - 1].Key := fun e => (List.pairwise_iff_getElem.1 (List.pairwise_map.1 ha)) (k - 1) k hk1 hk (by omega) e.symm
      rw [if_pos (by simpa using h0)]
      simp only [esub, ix_nat, hp, Option.bind_some]
      unfold ltD at hord
      rw [if_neg (by simp; omega)]
      by_cases hat2 : got[k].At = got[k - 1].At
      · rw [if_pos (by simpa using hat2)]
        have hd : decide (got[k].Key ≤ got[k - 1].Key) = false := by simp; omega
        rw [hd]
        simp only [Option.bind_some, Flow.el, Bool.false_eq_true, if_false]
        rw [add_i64 (by omega)]
        rfl
      · rw [if_neg (by simpa using hat2)]
        simp only [Option.bind_some, Flow.el, Bool.false_eq_true, if_false]
        rw [add_i64 (by omega)]
        rfl
    · rw [if_neg (by simpa using h0)]
      simp only [Option.bind_some, Flow.el, Bool.false_eq_true, if_false]
      rw [add_i64 (by omega)]
      rfl
  · unfold limelightlaw12_AlarmOrder_l1
    rw [if_neg (by simp)]
theorem alarmOrder_eq (G : List Int) (o : Int) (hG : G.length ≤ 9223372036854775807) : limelightlaw12_AlarmOrder G o = some true := by
  unfold limelightlaw12_AlarmOrder alarm_New
  simp only [Option.bind_some]
  obtain ⟨s, ⟨t, rfl, hi⟩, hs⟩ := loopF_inv (body := fun sg => limelightlaw12_AlarmOrder_l0 G o sg.1 sg.2.1 sg.2.2) (fun k s => ∃ t, s = ((((wOf G k).filter (leN o)).length : Int), (k : Int), t) ∧ Inv (wOf G k) t) (s0 := ((0 : Int), (0 : Int), ([] : List alarm_Due)))
    ⟨[], rfl, ⟨List.Perm.refl _, List.Pairwise.nil, List.nodup_nil⟩⟩ (min G.length 60) (fun k s hk ⟨t, e, hi⟩ => by
      subst e
      have hkG : k < G.length := by omega
      have hlen := hi.len
      rw [wOf_len] at hlen
      have hi2 := hi.set (k : Int) (G.getD k 0)
      have hc : ((wOf G k).filter (leN o)).length ≤ k := by have := List.length_filter_le (leN o) (wOf G k); rw [wOf_len] at this; exact this
      rw [wOf_rm] at hi2
      have hi3 : Inv (wOf G (k + 1)) (sortDue (rmK (k : Int) t ++ [⟨G.getD k 0, (k : Int)⟩])) := hi2
      have hgx : G[k]? = some (G.getD k 0) := by rw [List.getD_eq_getElem?_getD, List.getElem?_eq_getElem hkG]; rfl
      refine ⟨((((wOf G (k + 1)).filter (leN o)).length : Int), ((k + 1 : Nat) : Int), sortDue (rmK (k : Int) t ++ [⟨G.getD k 0, (k : Int)⟩])), ?_, sortDue (rmK (k : Int) t ++ [⟨G.getD k 0, (k : Int)⟩]), rfl, hi3⟩
      try simp only
      unfold limelightlaw12_AlarmOrder_l0
      rw [if_pos (by simp; omega), ix_nat, hgx, cv_u64 (by omega)]
      simp only [Option.bind_some]
      rw [set_eq t k _ hi.apt (by omega)]
      simp only [Option.bind_some]
      have ef : (wOf G (k + 1)).filter (leN o) = (wOf G k).filter (leN o) ++ (if leN o ⟨G.getD k 0, (k : Int)⟩ then [⟨G.getD k 0, (k : Int)⟩] else []) := by
        show (wOf G k ++ [_]).filter _ = _
        rw [List.filter_append]
        cases h : leN o ⟨G.getD k 0, (k : Int)⟩ with
        | true => rw [List.filter_cons_of_pos h]; simp only [List.filter_nil, if_true]
        | false => rw [List.filter_cons_of_neg (by rw [h]; simp)]; simp only [List.filter_nil, Bool.false_eq_true, if_false]
      rw [ef]
      by_cases hle : G.getD k 0 ≤ o
      · have hb : leN o ⟨G.getD k 0, (k : Int)⟩ = true := decide_eq_true hle
        rw [if_pos (by simpa using hle), hb]
        simp only [Option.bind_some, if_true, List.length_append, List.length_singleton]
        rw [add_i64 (by omega), add_i64 (by omega)]
        rfl
      · have hb : leN o ⟨G.getD k 0, (k : Int)⟩ = false := decide_eq_false hle
        rw [if_neg (by simpa using hle), hb]
        simp only [Option.bind_some, Bool.false_eq_true, if_false, List.append_nil]
        rw [add_i64 (by omega)]
        rfl)
  have hlen := hi.len
  rw [wOf_len] at hlen
  rw [hs, loopF_brk (s' := ((((wOf G (min G.length 60)).filter (leN o)).length : Int), ((min G.length 60 : Nat) : Int), t)) (by
    try simp only
    unfold limelightlaw12_AlarmOrder_l0
    rw [if_neg (by simp; omega)])]
  simp only [Option.bind_some, Flow.el]
  have happ : t.takeWhile (leN o) ++ t.dropWhile (leN o) = t := List.takeWhile_append_dropWhile
  have hsub : (t.takeWhile (leN o)).Sublist t := List.takeWhile_sublist _
  have hcnt : (t.takeWhile (leN o)).length = ((wOf G (min G.length 60)).filter (leN o)).length := by rw [srt_filter o t hi.srt]; exact (hi.perm.filter _).length_eq
  have hsum : (t.takeWhile (leN o)).length + (t.dropWhile (leN o)).length = min G.length 60 := by rw [← hlen, ← List.length_append, happ]
  rw [due_eq t o (by omega)]
  simp only [Option.bind_some]
  rw [order_loop G o _ _ hG (by omega) (hi.srt.sublist hsub) ((hsub.map alarm_Due.Key).nodup hi.apt) (srt_early o t) (fun d hd => by
    obtain ⟨j, h1, h2⟩ := wOf_mem G _ (hi.perm.mem_iff.1 (hsub.subset hd))
    exact ⟨j, by omega, h2⟩)]
  obtain ⟨d1, d2⟩ := due_none o (t.dropWhile (leN o)) (srt_late o t hi.srt)
  simp only [Option.bind_some, Flow.el]
  rw [if_pos (by rw [hcnt]; simp), due_eq _ o (by omega), d1, d2]
  simp only [Option.bind_some, len_eq]
  rw [if_pos (by simp)]
  have hm : sub .i64 (mn (G.length : Int) 60) (((wOf G (min G.length 60)).filter (leN o)).length : Int) = ((t.dropWhile (leN o)).length : Int) := by
    rw [← hcnt]
    unfold mn
    split
    · rw [sub_i64 (by omega)]; omega
    · rw [sub_i64 (by omega)]; omega
  rw [hm, if_pos (by simp), known_eq]
  rfl
end Go.Lk
