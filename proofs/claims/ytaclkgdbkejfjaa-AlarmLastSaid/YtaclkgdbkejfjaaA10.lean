/- A part of this proof: AlarmLast returns true for every input and leaves its arguments as they were; there are no conditions. -/
import Derived.Test.YtaclkgdbkejfjaaA6
set_option linter.unusedVariables false
set_option linter.unusedSimpArgs false
namespace Go.Lk
open Go.RowKit Go.Proofs Go.Sort
theorem find_none_any (k : Int) (w : List alarm_Due) (h : w.any (isK k) = false) : w.find? (isK k) = none := by
  rw [List.find?_eq_none]
  exact List.any_eq_false.1 h
theorem Inv.find {w t : List alarm_Due} (h : Inv w t) (k : Int) : t.find? (isK k) = w.find? (isK k) := by
  cases ha : t.any (isK k) with
  | false => rw [find_none_any k t ha, find_none_any k w (by rw [← h.any]; exact ha)]
  | true =>
    obtain ⟨d, e1, m1, p1⟩ := find_some_any _ t ha
    obtain ⟨d', e2, m2, p2⟩ := find_some_any _ w (by rw [← h.any]; exact ha)
    have k1 : d.Key = k := by simpa [isK] using p1
    have k2 : d'.Key = k := by simpa [isK] using p2
    rw [e1, e2, apart_uniq h.ap (h.perm.mem_iff.1 m1) m2 (by rw [k1, k2])]
theorem mget_mput (k a j : Int) : ∀ m : List (Int × Int), mget j (mput k a m) = if j = k then some a else mget j m
  | [] => by
    by_cases h : j = k
    · simp [mput, mget, h]
    · simp [mput, mget, h, Ne.symm h]
  | p :: m => by
    by_cases hp : p.1 = k
    · by_cases h : j = k
      · simp [mput, mget, hp, h]
      · simp [mput, mget, hp, h, Ne.symm h]
    · by_cases hj : p.1 = j
      · have h : ¬ j = k := fun e => hp (by rw [hj, e])
        simp [mput, mget, hp, hj, h]
      · simp [mput, mget, hp, hj, mget_mput k a j m]
theorem mput_len (k a : Int) : ∀ m : List (Int × Int), (mput k a m).length = if (mget k m).isSome then m.length else m.length + 1
  | [] => rfl
  | p :: m => by
    by_cases hp : p.1 = k
    · simp [mput, mget, hp]
    · simp only [mput, mget, beq_iff_eq, hp, if_false, List.length_cons, mput_len k a m]
      split <;> rfl
theorem rm_length (k : Int) (w : List alarm_Due) (ha : Apart w) : (rmK k w).length + 1 = if w.any (isK k) then w.length else w.length + 1 := by
  cases h : w.any (isK k) with
  | false => rw [rm_none k w h]; rfl
  | true =>
    rw [← erase_eq k w ha h]
    have hlt : w.findIdx (isK k) < w.length := List.findIdx_lt_length_of_exists (by simpa using h)
    simp
    omega
theorem find_rm (j k : Int) : ∀ w : List alarm_Due, (rmK k w).find? (isK j) = if j = k then none else w.find? (isK j)
  | [] => by simp [rmK]
  | d :: w => by
    have ih := find_rm j k w
    unfold rmK at ih ⊢
    by_cases hd : d.Key = k
    · have h1 : isK k d = true := by simpa [isK] using hd
      rw [List.filter_cons_of_neg (by simp [h1]), ih]
      by_cases hj : j = k
      · simp [hj]
      · have h2 : isK j d = false := by simp [isK, hd, Ne.symm hj]
        simp [hj, List.find?_cons, h2]
    · have h1 : isK k d = false := by simpa [isK] using hd
      rw [List.filter_cons_of_pos (by simp [h1]), List.find?_cons, List.find?_cons, ih]
      cases h2 : isK j d with
      | true =>
        have : d.Key = j := by simpa [isK] using h2
        have hj : ¬ j = k := fun e => hd (by rw [this, e])
        simp [hj]
      | false => rfl
structure Mi (m : List (Int × Int)) (w : List alarm_Due) : Prop where
  len : m.length = w.length
  get : ∀ j, mget j m = (w.find? (isK j)).map (·.At)
theorem any_find (k : Int) (w : List alarm_Due) : w.any (isK k) = (w.find? (isK k)).isSome := by
  cases h : w.any (isK k) with
  | false => rw [find_none_any k w h]; rfl
  | true => obtain ⟨d, e, _⟩ := find_some_any _ w h; rw [e]; rfl
theorem Mi.set {m : List (Int × Int)} {w : List alarm_Due} (h : Mi m w) (ha : Apart w) (k a : Int) : Mi (mput k a m) (rmK k w ++ [⟨a, k⟩]) := by
  constructor
  · rw [mput_len, h.get k, List.length_append, List.length_singleton, rm_length k w ha, any_find]
    cases w.find? (isK k) <;> simp [h.len]
  · intro j
    rw [mget_mput, List.find?_append, find_rm, h.get j]
    by_cases hj : j = k
    · subst hj; simp [isK]
    · have : isK j (⟨a, k⟩ : alarm_Due) = false := by simp [isK, Ne.symm hj]
      simp [hj, List.find?_cons, this]
theorem alarmLast_eq (G A : List Int) : limelightlaw12_AlarmLast G A = some true := by
  unfold limelightlaw12_AlarmLast alarm_New
  simp only [Option.bind_some]
  obtain ⟨s, ⟨w, t, m, rfl, hi, hm, hl⟩, hs⟩ := loopF_inv (body := fun sg => limelightlaw12_AlarmLast_l0 G A sg.1 sg.2.1 sg.2.2) (fun k s => ∃ w t m, s = ((k : Int), m, t) ∧ Inv w t ∧ Mi m w ∧ w.length ≤ k) (s0 := ((0 : Int), ([] : List (Int × Int)), ([] : List alarm_Due)))
    ⟨[], [], [], rfl, ⟨List.Perm.refl _, List.Pairwise.nil, List.nodup_nil⟩, ⟨rfl, fun _ => rfl⟩, Nat.le_refl _⟩ (min (min G.length A.length) 60) (fun k s hk ⟨w, t, m, e, hi, hm, hl⟩ => by
      subst e
      have h1 : k < G.length := by omega
      have h2 : k < A.length := by omega
      have hlen := hi.len
      have hrl : (rmK (band .u64 G[k] 7) w).length ≤ w.length := List.length_filter_le _ _
      refine ⟨_, ?_, _, _, _, rfl, hi.set (band .u64 G[k] 7) A[k], hm.set hi.ap (band .u64 G[k] 7) A[k], by simp; omega⟩
      try simp only
      unfold limelightlaw12_AlarmLast_l0
      rw [if_pos (by simp; omega), ix_nat, ix_nat, List.getElem?_eq_getElem h1, List.getElem?_eq_getElem h2]
      simp only [Option.bind_some]
      rw [set_eq t _ _ hi.apt (by omega)]
      simp only [Option.bind_some]
      rw [add_i64 (by omega)]
      rfl)
  have hlen := hi.len
  rw [hs, loopF_brk (s' := (((min (min G.length A.length) 60 : Nat) : Int), m, t)) (by
    try simp only
    unfold limelightlaw12_AlarmLast_l0
    rw [if_neg (by simp; omega)])]
  simp only [Option.bind_some, Flow.el]
  have h := loopF_up (body := fun sg => limelightlaw12_AlarmLast_l1 m sg.1 sg.2) (s0 := ((0 : Int), t)) (s' := ((8 : Int), t)) (fun k => ((k : Int), t)) 8 rfl (fun k hk => by
      try simp only
      unfold limelightlaw12_AlarmLast_l1
      rw [if_pos (by simp; omega), at_eq t _ (by omega), hm.get, hi.find]
      simp only [Option.bind_some]
      cases w.find? (isK (k : Int)) with
      | none =>
        rw [if_neg (by simp)]
        rw [add_u64 (by omega)]
        rfl
      | some d =>
        rw [if_neg (by simp)]
        rw [add_u64 (by omega)]
        rfl)
    (by (try simp only); unfold limelightlaw12_AlarmLast_l1; rw [if_neg (by simp)]; rfl)
  rw [h]
  simp only [Option.bind_some, Flow.el, len_eq]
  rw [if_pos (by rw [hlen, hm.len]; simp), known_eq]
  rfl
theorem br_AlarmLast (x0 x1 : List Int) (y0 : (∀ a ∈ x0, (Lit.int .u64 a).wf = true) ∧ x0.length * 8 ≤ 140737488351232) (y1 : (∀ a ∈ x1, (Lit.int .i64 a).wf = true) ∧ x1.length * 8 ≤ 140737488351232) : limelightlaw12_AlarmLast x0 x1 = some true := alarmLast_eq x0 x1
end Go.Lk
