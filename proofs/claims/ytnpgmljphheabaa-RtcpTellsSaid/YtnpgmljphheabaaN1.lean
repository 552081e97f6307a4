/- A part of this proof: RtcpTells returns true for every input and leaves its arguments as they were; there are no conditions. -/
import Derived.Test.YtnpgmljphheabaaP7
import Derived.IntWalk
set_option linter.unusedVariables false
set_option linter.unusedSimpArgs false
namespace Go.Lk
open Go.RowKit
theorem add_i64 {a b : Int} (h : -9223372036854775808 ≤ a + b ∧ a + b ≤ 9223372036854775807) : add .i64 a b = a + b := IntWalk.i64_in _ h
theorem sub_i64 {a b : Int} (h : -9223372036854775808 ≤ a - b ∧ a - b ≤ 9223372036854775807) : sub .i64 a b = a - b := IntWalk.i64_in _ h
theorem mul_i64 {a b : Int} (h : -9223372036854775808 ≤ a * b ∧ a * b ≤ 9223372036854775807) : mul .i64 a b = a * b := IntWalk.i64_in _ h
theorem quo_i64 {a b : Int} (h : 0 ≤ a ∧ a ≤ 9223372036854775807 ∧ 1 ≤ b) : quo .i64 a b = a / b := IntWalk.i64_quo _ _ h
theorem sub_u64 {a b : Int} (h : 0 ≤ a - b ∧ a - b ≤ 18446744073709551615) : sub .u64 a b = a - b := IntWalk.u64_in _ h
theorem cv_i64 {a : Int} (h : -9223372036854775808 ≤ a ∧ a ≤ 9223372036854775807) : cv .i64 a = a := IntWalk.i64_in _ h
theorem cv_u64 {a : Int} (h : 0 ≤ a ∧ a ≤ 18446744073709551615) : cv .u64 a = a := IntWalk.u64_in _ h
theorem cv_u32 {a : Int} (h : 0 ≤ a ∧ a ≤ 4294967295) : cv .u32 a = a := IntWalk.u32_in _ h
theorem cv_u8 {a : Int} (h : 0 ≤ a ∧ a ≤ 255) : cv .u8 a = a := IntWalk.u8_in _ h
theorem w_u64 (n : Int) : IntKind.u64.wrap n = n % 18446744073709551616 := by simp [IntKind.wrap, IntKind.bits, IntKind.signed]
theorem w_u32 (n : Int) : IntKind.u32.wrap n = n % 4294967296 := by simp [IntKind.wrap, IntKind.bits, IntKind.signed]
theorem w_u8 (n : Int) : IntKind.u8.wrap n = n % 256 := by simp [IntKind.wrap, IntKind.bits, IntKind.signed]
theorem cv_u8m (a : Int) : cv .u8 a = a % 256 := w_u8 a
theorem rem_nn {k : IntKind} {a b : Int} (h : 0 ≤ a) : rem k a b = a % b := Int.tmod_eq_emod_of_nonneg h
theorem wf_i64 {n : Int} (h : (Lit.int .i64 n).wf = true) : -9223372036854775808 ≤ n ∧ n ≤ 9223372036854775807 := by simpa [Lit.wf, IntKind.min, IntKind.max, IntKind.bits, IntKind.signed] using h
theorem wf_u64 {n : Int} (h : (Lit.int .u64 n).wf = true) : 0 ≤ n ∧ n ≤ 18446744073709551615 := by simpa [Lit.wf, IntKind.min, IntKind.max, IntKind.bits, IntKind.signed] using h
theorem wf_u32 {n : Int} (h : (Lit.int .u32 n).wf = true) : 0 ≤ n ∧ n ≤ 4294967295 := by simpa [Lit.wf, IntKind.min, IntKind.max, IntKind.bits, IntKind.signed] using h
theorem wf_u8 {n : Int} (h : (Lit.int .u8 n).wf = true) : 0 ≤ n ∧ n ≤ 255 := by simpa [Lit.wf, IntKind.min, IntKind.max, IntKind.bits, IntKind.signed] using h
theorem two_pos (e : Nat) : (0 : Int) < 2 ^ e := by exact_mod_cast Nat.two_pow_pos e
theorem shr_e {k : IntKind} {m n : Int} (e : Nat) (hn : n = (e : Int)) (he : e ≤ k.bits) : shr k m n = m / (2 ^ e : Int) := by
  subst hn
  unfold shr
  rw [Int.toNat_natCast, Nat.min_eq_left he, Int.fdiv_eq_ediv_of_nonneg _ (Int.le_of_lt (two_pos e))]
theorem shl_e {k : IntKind} {m n : Int} (e : Nat) (hn : n = (e : Int)) (he : e ≤ k.bits) : shl k m n = k.wrap (m * (2 ^ e : Int)) := by
  subst hn
  unfold shl
  rw [Int.toNat_natCast, Nat.min_eq_left he]
theorem ofInt_toNat {w : Nat} {m : Int} (h0 : 0 ≤ m) (h : m < 2 ^ w) : (BitVec.ofInt w m).toNat = m.toNat := by
  obtain ⟨a, rfl⟩ := Int.eq_ofNat_of_zero_le h0
  have h' : a < 2 ^ w := by exact_mod_cast h
  simp only [Int.ofNat_eq_natCast, Int.toNat_natCast, BitVec.ofInt_natCast, BitVec.toNat_ofNat]
  exact Nat.mod_eq_of_lt h'
theorem band_nat {k : IntKind} {a b : Nat} (ha : a < 2 ^ k.bits) (hb : b < 2 ^ k.bits) : band k a b = k.wrap ((a &&& b : Nat) : Int) := by
  unfold band
  rw [BitVec.toNat_and, ofInt_toNat (by omega) (by exact_mod_cast ha), ofInt_toNat (by omega) (by exact_mod_cast hb)]
  simp
theorem bor_nat {k : IntKind} {a b : Nat} (ha : a < 2 ^ k.bits) (hb : b < 2 ^ k.bits) : bor k a b = k.wrap ((a ||| b : Nat) : Int) := by
  unfold bor
  rw [BitVec.toNat_or, ofInt_toNat (by omega) (by exact_mod_cast ha), ofInt_toNat (by omega) (by exact_mod_cast hb)]
  simp
theorem band_low {k : IntKind} {m n : Int} (e : Nat) (hn : n = (2 ^ e : Int) - 1) (h0 : 0 ≤ m) (h : m < 2 ^ k.bits) (he : e ≤ k.bits) : band k m n = k.wrap (m % 2 ^ e) := by
  obtain ⟨a, rfl⟩ := Int.eq_ofNat_of_zero_le h0
  have h' : a < 2 ^ k.bits := by exact_mod_cast h
  have hp : 1 ≤ 2 ^ e := Nat.one_le_two_pow
  have hn' : n = ((2 ^ e - 1 : Nat) : Int) := by rw [hn, Int.ofNat_sub hp]; simp
  have hle : 2 ^ e ≤ 2 ^ k.bits := Nat.pow_le_pow_right (by omega) he
  subst hn'
  rw [band_nat h' (by omega), Nat.and_two_pow_sub_one_eq_mod]
  simp
theorem bor_low {k : IntKind} {m n : Int} (e : Nat) (hm : m % 2 ^ e = 0) (h0 : 0 ≤ m) (h1 : 0 ≤ n) (hn : n < 2 ^ e) (h : m + n < 2 ^ k.bits) : bor k m n = k.wrap (m + n) := by
  obtain ⟨a, rfl⟩ := Int.eq_ofNat_of_zero_le h0
  obtain ⟨b, rfl⟩ := Int.eq_ofNat_of_zero_le h1
  have h' : a + b < 2 ^ k.bits := by exact_mod_cast h
  have hb : b < 2 ^ e := by exact_mod_cast hn
  have ha : a % 2 ^ e = 0 := by exact_mod_cast hm
  have e1 : a = 2 ^ e * (a / 2 ^ e) := by have := Nat.div_add_mod a (2 ^ e); omega
  rw [bor_nat (by omega) (by omega)]
  have : a ||| b = a + b := by
    rw [e1]; exact (Nat.two_pow_add_eq_or_of_lt hb _).symm
  rw [this]
  simp
theorem ix_nat {α : Type} (xs : List α) (k : Nat) : ix xs (k : Int) = xs[k]? := by simp [ix]
theorem ix_at {α : Type} {xs : List α} {i : Int} {k : Nat} {x : α} (hi : i = (k : Int)) (h : xs[k]? = some x) : ix xs i = some x := by rw [hi, ix_nat, h]
theorem app_ok {α : Type} {bytes : Nat} {xs ys : List α} (h : (xs.length + ys.length) * bytes ≤ 140737488355328) : app bytes xs ys = some (xs ++ ys) := by unfold app; rw [if_pos h]
theorem cutTo_ok {α : Type} {xs : List α} {b : Int} {k : Nat} (hb : b = (k : Int)) (h : k ≤ xs.length) : cutTo xs b = some (xs.take k) := by
  subst hb; unfold cutTo; rw [if_pos ⟨by omega, by omega⟩]; simp
theorem cutFrom_ok {α : Type} {xs : List α} {b : Int} {k : Nat} (hb : b = (k : Int)) (h : k ≤ xs.length) : cutFrom xs b = some (xs.drop k) := by
  subst hb; unfold cutFrom; rw [if_pos ⟨by omega, by omega⟩]; simp
theorem cutL_ok {α : Type} {xs : List α} {a b : Int} {i j : Nat} (ha : a = (i : Int)) (hb : b = (j : Int)) (h : i ≤ j) (h2 : j ≤ xs.length) : cutL xs a b = some ((xs.drop i).take (j - i)) := by
  subst ha; subst hb; unfold cutL; rw [if_pos ⟨by omega, by omega, by omega⟩]; simp
theorem gd_ok {α : Type} {c : Prop} [Decidable c] {x : Option α} (h : c) : gd c x = x := by unfold gd; rw [if_pos h]
theorem snoc_take {α : Type} {l : List α} {k : Nat} {x : α} (h : l[k]? = some x) : l.take (k + 1) = l.take k ++ [x] := by
  rw [List.take_add_one, h]; rfl
theorem get_some {α : Type} {l : List α} {k : Nat} (h : k < l.length) : ∃ x, l[k]? = some x := ⟨_, List.getElem?_eq_getElem h⟩
theorem loopF_seq {σ ρ : Type} {body : σ → Option (Flow σ ρ)} (st : Nat → σ) (n : Nat) (h : ∀ k, k < n → body (st k) = some (.next (st (k + 1)))) : loopF body (st 0) = loopF body (st n) := by
  induction n with
  | zero => rfl
  | succ n ih =>
    rw [ih (fun k hk => h k (by omega)), loopF_next (h n (by omega))]
theorem loopF_up {σ ρ : Type} {body : σ → Option (Flow σ ρ)} (st : Nat → σ) (n : Nat) {s0 s' : σ} (h0 : s0 = st 0) (h : ∀ k, k < n → body (st k) = some (.next (st (k + 1)))) (hb : body (st n) = some (.brk s')) : loopF body s0 = some (.brk s') := by
  rw [h0, loopF_seq st n h, loopF_brk hb]
theorem loopF_upR {σ ρ : Type} {body : σ → Option (Flow σ ρ)} (st : Nat → σ) (n : Nat) {s0 : σ} {r : ρ} (h0 : s0 = st 0) (h : ∀ k, k < n → body (st k) = some (.next (st (k + 1)))) (hb : body (st n) = some (.ret r)) : loopF body s0 = some (.ret r) := by
  rw [h0, loopF_seq st n h, loopF_ret hb]
theorem loopF_find {α ρ σ : Type} {body : σ → Option (Flow σ ρ)} (l : List α) (p : α → Bool) (st : Nat → σ) {s0 s' : σ} (r : Nat → ρ) (h0 : s0 = st 0)
    (hn : ∀ (k : Nat) x, l[k]? = some x → p x = false → body (st k) = some (.next (st (k + 1)))) (hr : ∀ (k : Nat) x, l[k]? = some x → p x = true → body (st k) = some (.ret (r k))) (hb : body (st l.length) = some (.brk s')) :
    loopF body s0 = some (if l.any p then .ret (r (l.findIdx p)) else .brk s') := by
  by_cases ha : l.any p = true
  · rw [if_pos ha]
    obtain ⟨x, hx, hpx⟩ := List.any_eq_true.1 ha
    have hlt : l.findIdx p < l.length := List.findIdx_lt_length_of_exists ⟨x, hx, hpx⟩
    refine loopF_upR st (l.findIdx p) h0 (fun k hk => ?_) ?_
    · have hkl : k < l.length := by omega
      refine hn k l[k] (List.getElem?_eq_getElem hkl) ?_
      have := List.not_of_lt_findIdx hk
      simpa using this
    · exact hr _ _ (List.getElem?_eq_getElem hlt) (List.findIdx_getElem (w := hlt))
  · rw [if_neg ha]
    refine loopF_up st l.length h0 (fun k hk => ?_) hb
    refine hn k l[k] (List.getElem?_eq_getElem hk) ?_
    cases hp : p l[k] with
    | false => rfl
    | true => exact absurd (List.any_eq_true.2 ⟨_, List.getElem_mem hk, hp⟩) ha
end Go.Lk
