/- A part of this proof: AlarmLast returns true for every input and leaves its arguments as they were; there are no conditions. -/
import Derived.Test.YtaclkgdbkejfjaaN1
set_option linter.unusedVariables false
set_option linter.unusedSimpArgs false
namespace Go.Lk
open Go.RowKit Go.Proofs Go.Sort
def ltD (x y : alarm_Due) : Prop := x.At < y.At ∨ (x.At = y.At ∧ x.Key < y.Key)
def Srt (l : List alarm_Due) : Prop := l.Pairwise (fun a b => ¬ ltD b a)
def Apart (l : List alarm_Due) : Prop := (l.map (·.Key)).Nodup
def isK (key : Int) (d : alarm_Due) : Bool := d.Key == key
def rmK (key : Int) (l : List alarm_Due) : List alarm_Due := l.filter (fun d => !isK key d)
theorem sort_spec (p : List alarm_Due) : (sortDue p).Perm p ∧ Srt (sortDue p) := by
  have h := pdq_sorts (ltOf cmpDue) swoDue p.toArray 0 p.toArray.size (Lib.bitLen p.toArray.size) true true (Nat.zero_le _) (Nat.le_refl _) (Or.inl rfl)
  obtain ⟨⟨h1, _, h2⟩, h3⟩ := h
  constructor
  · have e1 := h2
    rw [Array.extract_eq_self_of_le (by rw [h1]; exact Nat.le_refl _), Array.extract_eq_self_of_le (Nat.le_refl _)] at e1
    exact e1
  · unfold Srt
    rw [List.pairwise_iff_getElem]
    intro i j hi hj hij
    have hj' : j < p.toArray.size := by unfold sortDue at hj; rw [Array.length_toList, h1] at hj; exact hj
    have h4 := h3 i j (Nat.zero_le _) hij hj'
    rw [getElem!_pos _ j (by rw [h1]; exact hj'), getElem!_pos _ i (by rw [h1]; omega), ltDue] at h4
    have h5 := of_decide_eq_false h4
    exact h5
theorem idx_eq (t : List alarm_Due) (key : Int) (hl : t.length < 4611686018427387904) :
    slices_IndexFunc_alarm_Due t (fun y0 => alarm_Table_find_1 y0 key) = some (if t.any (isK key) then ((t.findIdx (isK key) : Nat) : Int) else -1) := by
  unfold slices_IndexFunc_alarm_Due
  have h := loopF_find (body := fun sg => slices_IndexFunc_alarm_Due_l0 t (fun y0 => alarm_Table_find_1 y0 key) sg) (s0 := 0) (s' := (t.length : Int)) t (isK key) (fun k => (k : Int)) (fun k => (k : Int)) rfl
    (fun k x hx hp => by
      have hk := (List.getElem?_eq_some_iff.1 hx).1
      unfold slices_IndexFunc_alarm_Due_l0
      rw [if_pos (by simpa using hk), ix_nat, hx]
      simp only [Option.bind_some, alarm_Table_find_1]
      have : (x.Key == key) = false := hp
      rw [this]
      simp [add_i64 (a := (k : Int)) (b := 1) (by omega)])
    (fun k x hx hp => by
      have hk := (List.getElem?_eq_some_iff.1 hx).1
      unfold slices_IndexFunc_alarm_Due_l0
      rw [if_pos (by simpa using hk), ix_nat, hx]
      simp only [Option.bind_some, alarm_Table_find_1]
      have : (x.Key == key) = true := hp
      rw [this]
      simp)
    (by unfold slices_IndexFunc_alarm_Due_l0; simp)
  rw [h]
  split <;> rfl
theorem find_eq (t : List alarm_Due) (key : Int) (hl : t.length < 4611686018427387904) :
    alarm_Table_find ⟨t⟩ key = some (if t.any (isK key) then ((t.findIdx (isK key) : Nat) : Int) else -1, ⟨t⟩) := by
  unfold alarm_Table_find
  rw [idx_eq t key hl]
  rfl
theorem erase_eq (key : Int) : ∀ t : List alarm_Due, Apart t → t.any (isK key) = true → t.take (t.findIdx (isK key)) ++ t.drop (t.findIdx (isK key) + 1) = rmK key t
  | [], _, h => by simp at h
  | d :: t, ha, h => by
    unfold Apart at ha
    simp only [List.map_cons, List.nodup_cons] at ha
    cases hd : isK key d with
    | true =>
      have e : (d :: t).findIdx (isK key) = 0 := by simp [List.findIdx_cons, hd]
      rw [e]
      unfold rmK
      rw [List.filter_cons_of_neg (by simp [hd])]
      have hk : d.Key = key := by simpa [isK] using hd
      rw [List.filter_eq_self.2]
      · rfl
      · intro x hx
        have : x.Key ≠ key := fun e2 => ha.1 (by rw [hk, ← e2]; exact List.mem_map_of_mem hx)
        simpa [isK] using this
    | false =>
      have e : (d :: t).findIdx (isK key) = t.findIdx (isK key) + 1 := by simp [List.findIdx_cons, hd]
      rw [e]
      have h' : t.any (isK key) = true := by simpa [List.any_cons, hd] using h
      have ih := erase_eq key t ha.2 h'
      unfold rmK at ih ⊢
      rw [List.filter_cons_of_pos (by simp [hd]), ← ih]
      rfl
theorem rm_none (key : Int) (t : List alarm_Due) (h : t.any (isK key) = false) : rmK key t = t := by
  unfold rmK
  rw [List.filter_eq_self]
  intro x hx
  have := List.any_eq_false.1 h x hx
  simpa using this
theorem clear_eq (t : List alarm_Due) (key : Int) (ha : Apart t) (hl : t.length < 4611686018427387904) : alarm_Table_Clear ⟨t⟩ key = some (t.any (isK key), ⟨rmK key t⟩) := by
  unfold alarm_Table_Clear
  rw [show (⟨(⟨t⟩ : alarm_Table).l_⟩ : alarm_Table) = ⟨t⟩ from rfl, find_eq t key hl]
  simp only [Option.bind_some]
  cases h : t.any (isK key) with
  | false =>
    simp [rm_none key t h]
  | true =>
    have hlt : t.findIdx (isK key) < t.length := List.findIdx_lt_length_of_exists (by simpa using h)
    rw [if_pos (by simp)]
    simp only [if_true]
    unfold slices_Delete_alarm_Due
    rw [add_i64 (by omega), cutL_ok (i := t.findIdx (isK key)) (j := t.findIdx (isK key) + 1) rfl (by simp) (by omega) (by omega)]
    simp only [Option.bind_some]
    rw [if_neg (by simp; omega), cutTo_ok (k := t.findIdx (isK key)) rfl (by omega), cutFrom_ok (k := t.findIdx (isK key) + 1) (by simp) (by omega)]
    simp only [Option.bind_some]
    rw [gd_ok (by simp; omega)]
    simp [erase_eq key t ha h]
end Go.Lk
