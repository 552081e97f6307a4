/- A part of this proof: AlarmLast returns true for every input and leaves its arguments as they were; there are no conditions. -/
import Derived.Test.YtaclkgdbkejfjaaA1
set_option linter.unusedVariables false
set_option linter.unusedSimpArgs false
namespace Go.Lk
open Go.RowKit Go.Proofs Go.Sort
def leN (now : Int) (d : alarm_Due) : Bool := decide (d.At ≤ now)
theorem findIdx_get {α : Type} (p : α → Bool) : ∀ t : List α, t[t.findIdx p]? = t.find? p
  | [] => rfl
  | d :: t => by
    cases h : p d with
    | true => simp [List.findIdx_cons, List.find?_cons, h]
    | false => simp [List.findIdx_cons, List.find?_cons, h, findIdx_get p t]
theorem find_some_any {α : Type} (p : α → Bool) (t : List α) (h : t.any p = true) : ∃ d, t.find? p = some d ∧ d ∈ t ∧ p d = true := by
  cases e : t.find? p with
  | none => rw [List.find?_eq_none] at e; obtain ⟨x, hx, hp⟩ := List.any_eq_true.1 h; exact absurd hp (by simpa using e x hx)
  | some d => exact ⟨d, rfl, List.mem_of_find?_eq_some e, List.find?_some e⟩
theorem at_eq (t : List alarm_Due) (key : Int) (hl : t.length < 4611686018427387904) :
    alarm_Table_At ⟨t⟩ key = some (match t.find? (isK key) with | some d => (d.At, true, ⟨t⟩) | none => (0, false, ⟨t⟩)) := by
  unfold alarm_Table_At
  rw [show (⟨(⟨t⟩ : alarm_Table).l_⟩ : alarm_Table) = ⟨t⟩ from rfl, find_eq t key hl]
  simp only [Option.bind_some]
  cases h : t.any (isK key) with
  | false =>
    have e : t.find? (isK key) = none := by
      rw [List.find?_eq_none]
      intro x hx
      have := List.any_eq_false.1 h x hx
      simpa using this
    rw [e]
    simp
  | true =>
    obtain ⟨d, e, _⟩ := find_some_any _ t h
    rw [e, if_neg (by simp)]
    simp only [if_true]
    rw [ix_nat, findIdx_get, e]
    rfl
theorem next_eq (t : List alarm_Due) : alarm_Table_Next ⟨t⟩ = some (match t with | [] => (⟨0, 0⟩, false, ⟨t⟩) | d :: _ => (d, true, ⟨t⟩)) := by
  unfold alarm_Table_Next
  cases t with
  | nil => rfl
  | cons d t =>
    rw [if_neg (by simp; omega)]
    rw [show (0 : Int) = ((0 : Nat) : Int) from rfl, ix_nat]
    rfl
theorem len_eq (t : List alarm_Due) : alarm_Table_Len ⟨t⟩ = some ((t.length : Int), ⟨t⟩) := rfl
theorem set_eq (t : List alarm_Due) (key a : Int) (ha : Apart t) (hl : t.length ≤ 1000) : alarm_Table_Set ⟨t⟩ key a = some ⟨sortDue (rmK key t ++ [⟨a, key⟩])⟩ := by
  have hr : (rmK key t).length ≤ t.length := List.length_filter_le _ _
  unfold alarm_Table_Set
  rw [show (⟨(⟨t⟩ : alarm_Table).l_⟩ : alarm_Table) = ⟨t⟩ from rfl, clear_eq t key ha (by omega)]
  simp only [Option.bind_some]
  rw [app_ok (by simp; omega)]
  simp only [Option.bind_some]
  unfold slices_SortFunc_alarm_Due
  rw [if_neg (by simp; omega)]
  rfl
theorem clone_eq (t : List alarm_Due) (hl : t.length ≤ 1000) : slices_Clone_alarm_Due t = some t := by
  unfold slices_Clone_alarm_Due
  rw [app_ok (by simp; omega)]
  rfl
theorem takeWhile_len {α : Type} (p : α → Bool) : ∀ t : List α, t.take (t.takeWhile p).length = t.takeWhile p ∧ t.drop (t.takeWhile p).length = t.dropWhile p
  | [] => ⟨rfl, rfl⟩
  | d :: t => by
    cases h : p d with
    | true => simp [List.takeWhile_cons, List.dropWhile_cons, h, takeWhile_len p t]
    | false => simp [List.takeWhile_cons, List.dropWhile_cons, h]
theorem takeWhile_get {α : Type} (p : α → Bool) : ∀ (t : List α) (k : Nat) (x : α), k < (t.takeWhile p).length → t[k]? = some x → p x = true
  | [], k, x, h, _ => by simp at h
  | d :: t, k, x, h, hx => by
    cases hd : p d with
    | false => simp [List.takeWhile_cons, hd] at h
    | true =>
      rw [List.takeWhile_cons, hd] at h
      cases k with
      | zero => simp at hx; rw [← hx]; exact hd
      | succ k => exact takeWhile_get p t k x (by simpa using h) (by simpa using hx)
theorem takeWhile_stop {α : Type} (p : α → Bool) : ∀ (t : List α) (x : α), t[(t.takeWhile p).length]? = some x → p x = false
  | [], x, h => by simp at h
  | d :: t, x, h => by
    cases hd : p d with
    | false => simp [List.takeWhile_cons, hd] at h; rw [← h]; exact hd
    | true => rw [List.takeWhile_cons, hd] at h; exact takeWhile_stop p t x (by simpa using h)
theorem due_eq (t : List alarm_Due) (now : Int) (hl : t.length ≤ 1000) : alarm_Table_Due ⟨t⟩ now = some (t.takeWhile (leN now), ⟨t.dropWhile (leN now)⟩) := by
  have hlen : (t.takeWhile (leN now)).length ≤ t.length := (List.takeWhile_sublist _).length_le
  unfold alarm_Table_Due
  have h := loopF_up (body := fun sg => alarm_Table_Due_l0 ⟨t⟩ now sg) (s0 := 0) (s' := ((t.takeWhile (leN now)).length : Int)) (fun k => (k : Int)) (t.takeWhile (leN now)).length rfl
    (fun k hk => by
      have hkt : k < t.length := by omega
      unfold alarm_Table_Due_l0
      have hp := takeWhile_get (leN now) t k t[k] hk (List.getElem?_eq_getElem hkt)
      rw [if_pos (by simpa using hkt), ix_nat, List.getElem?_eq_getElem hkt]
      simp only [Option.bind_some]
      rw [if_pos (by simpa [leN] using hp), add_i64 (by omega)]
      simp)
    (by
      unfold alarm_Table_Due_l0
      by_cases hkt : (t.takeWhile (leN now)).length < t.length
      · have hp := takeWhile_stop (leN now) t t[(t.takeWhile (leN now)).length] (List.getElem?_eq_getElem hkt)
        rw [if_pos (by simpa using hkt), ix_nat, List.getElem?_eq_getElem hkt]
        simp only [Option.bind_some]
        rw [if_neg (by simpa [leN] using hp)]
      · rw [if_neg (by simpa using hkt)]
        simp)
  rw [h]
  simp only [Option.bind_some, Flow.el]
  obtain ⟨e1, e2⟩ := takeWhile_len (leN now) t
  rw [cutTo_ok (k := (t.takeWhile (leN now)).length) rfl hlen]
  simp only [Option.bind_some]
  rw [e1, clone_eq _ (by omega)]
  simp only [Option.bind_some]
  rw [cutFrom_ok (k := (t.takeWhile (leN now)).length) rfl hlen]
  simp only [Option.bind_some]
  have hd : (t.dropWhile (leN now)).length ≤ t.length := (List.dropWhile_sublist _).length_le
  rw [e2, clone_eq _ (by omega)]
  rfl
end Go.Lk
