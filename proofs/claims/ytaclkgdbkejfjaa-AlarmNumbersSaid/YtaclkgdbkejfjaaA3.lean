/- A part of this proof: AlarmNumbers returns true for every input and leaves its arguments as they were; there are no conditions. -/
import Derived.Test.YtaclkgdbkejfjaaA2
set_option linter.unusedVariables false
set_option linter.unusedSimpArgs false
namespace Go.Lk
open Go.RowKit Go.Proofs Go.Sort
theorem ltD_no {x y z : alarm_Due} (h1 : ¬ ltD x y) (h2 : ¬ ltD y z) : ¬ ltD x z := by unfold ltD at *; omega
theorem ltD_asym {x y : alarm_Due} (h : ltD x y) : ¬ ltD y x := by unfold ltD at *; omega
theorem ltD_irr (x : alarm_Due) : ¬ ltD x x := by unfold ltD; omega
theorem ltD_eq {x y : alarm_Due} (h1 : ¬ ltD x y) (h2 : ¬ ltD y x) : x = y := by
  cases x; cases y
  unfold ltD at *
  simp only at h1 h2
  have e1 : (0 : Int) = 0 := rfl
  simp only [alarm_Due.mk.injEq]
  omega
def ltb (x y : alarm_Due) : Bool := decide (x.At < y.At) || (x.At == y.At && decide (x.Key < y.Key))
theorem ltb_iff (x y : alarm_Due) : ltb x y = true ↔ ltD x y := by simp [ltb, ltD]
def bestF (l : List alarm_Due) : Nat → Nat
  | 0 => 0
  | k + 1 => match l[k]?, l[bestF l k]? with
    | some x, some y => if ltb x y then k else bestF l k
    | _, _ => bestF l k
theorem bestF_spec (l : List alarm_Due) (h0 : 0 < l.length) : ∀ k, k ≤ l.length → bestF l k < l.length ∧ ∀ (j : Nat) x y, j < k → l[j]? = some x → l[bestF l k]? = some y → ¬ ltD x y
  | 0, _ => ⟨h0, fun j _ _ hj => by omega⟩
  | k + 1, hk => by
    obtain ⟨h1, h2⟩ := bestF_spec l h0 k (by omega)
    have hx := List.getElem?_eq_getElem (show k < l.length by omega)
    have hy := List.getElem?_eq_getElem h1
    have e : bestF l (k + 1) = if ltb l[k] l[bestF l k] then k else bestF l k := by
      show (match l[k]?, l[bestF l k]? with | some x, some y => if ltb x y then k else bestF l k | _, _ => bestF l k) = _
      rw [hx, hy]
    rw [e]
    cases hb : ltb l[k] l[bestF l k] with
    | true =>
      simp only [if_true]
      refine ⟨by omega, fun j x y hj ex ey => ?_⟩
      rw [hx] at ey
      injection ey with ey
      subst ey
      by_cases hjk : j = k
      · subst hjk; rw [hx] at ex; injection ex with ex; subst ex; exact ltD_irr _
      · exact ltD_no (h2 j x _ (by omega) ex hy) (ltD_asym ((ltb_iff _ _).1 hb))
    | false =>
      simp only [Bool.false_eq_true, if_false]
      refine ⟨h1, fun j x y hj ex ey => ?_⟩
      by_cases hjk : j = k
      · subst hjk
        rw [hx] at ex; injection ex with ex; subst ex
        rw [hy] at ey; injection ey with ey; subst ey
        intro q
        rw [(ltb_iff _ _).2 q] at hb
        cases hb
      · exact h2 j x y (by omega) ex ey
theorem first_spec (l : List alarm_Due) (h0 : 0 < l.length) (hl : l.length ≤ 1000) : ∃ (i : Nat) (d : alarm_Due), limelightlaw12_first l = some (i : Int) ∧ l[i]? = some d ∧ d ∈ l ∧ ∀ x ∈ l, ¬ ltD x d := by
  obtain ⟨h1, h2⟩ := bestF_spec l h0 l.length (Nat.le_refl _)
  refine ⟨bestF l l.length, l[bestF l l.length], ?_, List.getElem?_eq_getElem h1, List.getElem_mem h1, fun x hx => ?_⟩
  · unfold limelightlaw12_first
    have h := loopF_up (body := fun sg => limelightlaw12_first_l0 l sg.1 sg.2) (s0 := ((0 : Int), (0 : Int))) (s' := ((l.length : Int), (bestF l l.length : Int))) (fun k => ((k : Int), (bestF l k : Int))) l.length rfl
      (fun k hk => by
        have hb := (bestF_spec l h0 k (by omega)).1
        have hx := List.getElem?_eq_getElem hk
        have hy := List.getElem?_eq_getElem hb
        have e : bestF l (k + 1) = if ltb l[k] l[bestF l k] then k else bestF l k := by
          show (match l[k]?, l[bestF l k]? with | some x, some y => if ltb x y then k else bestF l k | _, _ => bestF l k) = _
          rw [hx, hy]
        simp only
        unfold limelightlaw12_first_l0
        rw [if_pos (by simpa using hk), ix_nat, ix_nat, hx, hy, e, add_i64 (by omega)]
        simp only [Option.bind_some, ltb]
        by_cases c1 : l[k].At < l[bestF l k].At
        · simp [c1]
        · by_cases c2 : l[k].At = l[bestF l k].At
          · by_cases c3 : l[k].Key < l[bestF l k].Key <;> simp [c2, c3]
          · simp [c1, c2])
      (by simp only; unfold limelightlaw12_first_l0; rw [if_neg (by simp)])
    rw [h]
    rfl
  · obtain ⟨j, hj, rfl⟩ := List.getElem_of_mem hx
    exact h2 j _ _ hj (List.getElem?_eq_getElem hj) (List.getElem?_eq_getElem h1)
structure Inv (w t : List alarm_Due) : Prop where
  perm : t.Perm w
  srt : Srt t
  ap : Apart w
theorem Inv.apt {w t : List alarm_Due} (h : Inv w t) : Apart t := ((h.perm.map alarm_Due.Key).nodup_iff).2 h.ap
theorem Inv.len {w t : List alarm_Due} (h : Inv w t) : t.length = w.length := h.perm.length_eq
theorem apart_rm (key : Int) {w : List alarm_Due} (h : Apart w) : Apart (rmK key w) := (List.filter_sublist.map _).nodup h
theorem Inv.rm {w t : List alarm_Due} (h : Inv w t) (key : Int) : Inv (rmK key w) (rmK key t) :=
  ⟨h.perm.filter _, h.srt.sublist List.filter_sublist, apart_rm key h.ap⟩
theorem Inv.set {w t : List alarm_Due} (h : Inv w t) (key a : Int) : Inv (rmK key w ++ [⟨a, key⟩]) (sortDue (rmK key t ++ [⟨a, key⟩])) := by
  obtain ⟨h1, h2⟩ := sort_spec (rmK key t ++ [⟨a, key⟩])
  refine ⟨h1.trans ((h.rm key).perm.append_right _), h2, ?_⟩
  unfold Apart
  rw [List.map_append, List.nodup_append]
  refine ⟨apart_rm key h.ap, by simp, fun x hx y hy => ?_⟩
  simp at hy
  subst hy
  obtain ⟨d, hd, rfl⟩ := List.mem_map.1 hx
  have := (List.mem_filter.1 hd).2
  simpa [isK] using this
theorem Inv.any {w t : List alarm_Due} (h : Inv w t) (p : alarm_Due → Bool) : t.any p = w.any p := by
  rw [Bool.eq_iff_iff, List.any_eq_true, List.any_eq_true]
  constructor
  · rintro ⟨x, hx, hp⟩; exact ⟨x, h.perm.mem_iff.1 hx, hp⟩
  · rintro ⟨x, hx, hp⟩; exact ⟨x, h.perm.mem_iff.2 hx, hp⟩
end Go.Lk
