/- A part of this proof: RtcpTells returns true for every input and leaves its arguments as they were; there are no conditions. -/
import Derived.Test.YtnpgmljphheabaaN1
import Derived.Laws.Strings
set_option linter.unusedVariables false
set_option linter.unusedSimpArgs false
namespace Go.Lk
open Go.RowKit
def Byt (l : List Int) : Prop := ∀ x ∈ l, 0 ≤ x ∧ x ≤ 255
def all2 {α : Type} (eqb : α → α → Bool) : List α → List α → Bool
  | [], [] => true
  | a :: ar, b :: bs => eqb a b && all2 eqb ar bs
  | _, _ => false
theorem all2_eq {α : Type} [DecidableEq α] {eqb : α → α → Bool} (h : ∀ a b, eqb a b = decide (a = b)) : ∀ l m : List α, all2 eqb l m = decide (l = m)
  | [], [] => rfl
  | [], b :: bs => by simp [all2]
  | a :: ar, [] => by simp [all2]
  | a :: ar, b :: bs => by simp [all2, h, all2_eq h ar bs]
theorem beq_dec (a b : Int) : (a == b) = decide (a = b) := by rw [Bool.eq_iff_iff]; simp
theorem bne_dec (a b : Int) : (a != b) = decide (a ≠ b) := by rw [Bool.eq_iff_iff]; simp
theorem loopF_two {α σ : Type} {body : σ → Option (Flow σ Bool)} (a b : List α) (eqb : α → α → Bool) (hl : a.length = b.length) (st : Nat → σ) {s0 s' : σ} (h0 : s0 = st 0)
    (hn : ∀ (k : Nat) x y, a[k]? = some x → b[k]? = some y → eqb x y = true → body (st k) = some (.next (st (k + 1)))) (hr : ∀ (k : Nat) x y, a[k]? = some x → b[k]? = some y → eqb x y = false → body (st k) = some (.ret false))
    (hb : body (st a.length) = some (.brk s')) : loopF body s0 = some (if all2 eqb a b then .brk s' else .ret false) := by
  have key : ∀ (d : Nat) (k : Nat), a.length = k + d → loopF body (st k) = some (if all2 eqb (a.drop k) (b.drop k) then .brk s' else .ret false) := by
    intro d
    induction d with
    | zero =>
      intro k hk
      have h1 : a.drop k = [] := List.drop_eq_nil_of_le (by omega)
      have h2 : b.drop k = [] := List.drop_eq_nil_of_le (by omega)
      rw [h1, h2]
      have : k = a.length := by omega
      subst this
      exact loopF_brk hb
    | succ d ih =>
      intro k hk
      have hka : k < a.length := by omega
      have hkb : k < b.length := by omega
      rw [List.drop_eq_getElem_cons hka, List.drop_eq_getElem_cons hkb]
      cases he : eqb a[k] b[k] with
      | true =>
        rw [loopF_next (hn k _ _ (List.getElem?_eq_getElem hka) (List.getElem?_eq_getElem hkb) he), ih (k + 1) (by omega)]
        simp [all2, he]
      | false =>
        rw [loopF_ret (hr k _ _ (List.getElem?_eq_getElem hka) (List.getElem?_eq_getElem hkb) he)]
        simp [all2, he]
  have := key a.length 0 (by omega)
  rw [h0, this]
  simp
theorem str_toList (l : List Int) : (strOfNums l).toList = l.map fun n => UInt8.ofNat n.toNat := by
  simp [strOfNums, ByteArray.toList_eq]
theorem u8_inj {x y : Int} (hx : 0 ≤ x ∧ x ≤ 255) (hy : 0 ≤ y ∧ y ≤ 255) (h : UInt8.ofNat x.toNat = UInt8.ofNat y.toNat) : x = y := by
  have := congrArg UInt8.toNat h
  simp only [UInt8.toNat_ofNat'] at this
  omega
theorem str_eq : ∀ {a b : List Int}, Byt a → Byt b → ((strOfNums a).toList == (strOfNums b).toList) = decide (a = b) := by
  intro a b ha hb
  rw [str_toList, str_toList]
  have : (a.map (fun n => UInt8.ofNat n.toNat) = b.map fun n => UInt8.ofNat n.toNat) ↔ a = b := by
    constructor
    · intro h
      induction a generalizing b with
      | nil => cases b with
        | nil => rfl
        | cons y b => simp at h
      | cons x a ih =>
        cases b with
        | nil => simp at h
        | cons y b =>
          simp only [List.map_cons, List.cons.injEq] at h
          rw [u8_inj (ha x (by simp)) (hb y (by simp)) h.1, ih (fun z hz => ha z (by simp [hz])) (fun z hz => hb z (by simp [hz])) h.2]
    · rintro rfl; rfl
  rw [Bool.eq_iff_iff, beq_iff_eq, this]
  simp
end Go.Lk
