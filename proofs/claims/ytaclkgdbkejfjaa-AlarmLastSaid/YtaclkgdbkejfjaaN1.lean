/- A part of this proof: AlarmLast returns true for every input and leaves its arguments as they were; there are no conditions. -/
import Derived.Test.YtaclkgdbkejfjaaP2
import Derived.IntWalk
set_option linter.unusedVariables false
set_option linter.unusedSimpArgs false
namespace Go.Lk
open Go.RowKit
theorem add_i64 {a b : Int} (h : -9223372036854775808 ≤ a + b ∧ a + b ≤ 9223372036854775807) : add .i64 a b = a + b := IntWalk.i64_in _ h
theorem add_u64 {a b : Int} (h : 0 ≤ a + b ∧ a + b ≤ 18446744073709551615) : add .u64 a b = a + b := IntWalk.u64_in _ h
theorem ix_nat {α : Type} (xs : List α) (k : Nat) : ix xs (k : Int) = xs[k]? := by simp [ix]
theorem app_ok {α : Type} {bytes : Nat} {xs ys : List α} (h : (xs.length + ys.length) * bytes ≤ 140737488355328) : app bytes xs ys = some (xs ++ ys) := by unfold app; rw [if_pos h]
theorem cutTo_ok {α : Type} {xs : List α} {b : Int} {k : Nat} (hb : b = (k : Int)) (h : k ≤ xs.length) : cutTo xs b = some (xs.take k) := by
  subst hb; unfold cutTo; rw [if_pos ⟨by omega, by omega⟩]; simp
theorem cutFrom_ok {α : Type} {xs : List α} {b : Int} {k : Nat} (hb : b = (k : Int)) (h : k ≤ xs.length) : cutFrom xs b = some (xs.drop k) := by
  subst hb; unfold cutFrom; rw [if_pos ⟨by omega, by omega⟩]; simp
theorem cutL_ok {α : Type} {xs : List α} {a b : Int} {i j : Nat} (ha : a = (i : Int)) (hb : b = (j : Int)) (h : i ≤ j) (h2 : j ≤ xs.length) : cutL xs a b = some ((xs.drop i).take (j - i)) := by
  subst ha; subst hb; unfold cutL; rw [if_pos ⟨by omega, by omega, by omega⟩]; simp
theorem gd_ok {α : Type} {c : Prop} [Decidable c] {x : Option α} (h : c) : gd c x = x := by unfold gd; rw [if_pos h]
theorem loopF_seq {σ ρ : Type} {body : σ → Option (Flow σ ρ)} (st : Nat → σ) (n : Nat) (h : ∀ k, k < n → body (st k) = some (.next (st (k + 1)))) : loopF body (st 0) = loopF body (st n) := by
  induction n with
  | zero => rfl
  | succ n ih =>
    rw [ih (fun k hk => h k (by omega)), loopF_next (h n (by omega))]
theorem loopF_up {σ ρ : Type} {body : σ → Option (Flow σ ρ)} (st : Nat → σ) (n : Nat) {s0 s' : σ} (h0 : s0 = st 0) (h : ∀ k, k < n → body (st k) = some (.next (st (k + 1)))) (hb : body (st n) = some (.brk s')) : loopF body s0 = some (.brk s') := by
  rw [h0, loopF_seq st n h, loopF_brk hb]
theorem loopF_upR {σ ρ : Type} {body : σ → Option (Flow σ ρ)} (st : Nat → σ) (n : Nat) {s0 : σ} {r : ρ} (h0 : s0 = st 0) (h : ∀ k, k < n → body (st k) = some (.next (st (k + 1)))) (hb : body (st n) = some (.ret r)) : loopF body s0 = some (.ret r) := by
  rw [h0, loopF_seq st n h, loopF_ret hb]
theorem loopF_find {α ρ σ : Type} {body : σ → Option (Flow σ ρ)} (l : List α) (p : α → Bool) (st : Nat → σ) {s0 s' : σ} (r : Nat → ρ) (h0 : s0 = st 0)
    (hn : ∀ (k : Nat) x, l[k]? = some x → p x = false → body (st k) = some (.next (st (k + 1)))) (hr : ∀ (k : Nat) x, l[k]? = some x → p x = true → body (st k) = some (.ret (r k))) (hb : body (st l.length) = some (.brk s')) :
    loopF body s0 = some (if l.any p then .ret (r (l.findIdx p)) else .brk s') := by
  by_cases ha : l.any p = true
  · rw [if_pos ha]
    obtain ⟨x, hx, hpx⟩ := List.any_eq_true.1 ha
    have hlt : l.findIdx p < l.length := List.findIdx_lt_length_of_exists ⟨x, hx, hpx⟩
    refine loopF_upR st (l.findIdx p) h0 (fun k hk => ?_) ?_
    · have hkl : k < l.length := by omega
      refine hn k l[k] (List.getElem?_eq_getElem hkl) ?_
      have := List.not_of_lt_findIdx hk
      simpa using this
    · exact hr _ _ (List.getElem?_eq_getElem hlt) (List.findIdx_getElem (w := hlt))
  · rw [if_neg ha]
    refine loopF_up st l.length h0 (fun k hk => ?_) hb
    refine hn k l[k] (List.getElem?_eq_getElem hk) ?_
    cases hp : p l[k] with
    | false => rfl
    | true => exact absurd (List.any_eq_true.2 ⟨_, List.getElem_mem hk, hp⟩) ha
end Go.Lk
