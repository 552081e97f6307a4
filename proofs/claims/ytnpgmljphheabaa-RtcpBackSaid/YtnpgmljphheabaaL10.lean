/- A part of this proof: RtcpBack returns true for every input and leaves its arguments as they were; there are no conditions. -/
import Derived.Test.YtnpgmljphheabaaL9
set_option linter.unusedVariables false
set_option linter.unusedSimpArgs false
namespace Go.Lk
open Go.RowKit Go.Lib
class Flat {α : Type} (R : Rel α) : Prop where
  flat : ∀ {S S' vals x}, R S vals x → R S' vals x
instance (k : IntKind) : Flat (RI k) := ⟨fun h => h⟩
instance : Flat RB := ⟨fun h => h⟩
instance : Flat RS := ⟨fun h => h⟩
def Rw {α : Type} (S : Mp) (sz : Nat) (R : Rel α) (g : Option Nat) (cur : Array Value) (v : Value) (xs : List α) : Prop :=
  match g with
  | none => v = .slice none 0 0 ∧ xs = []
  | some b => ∃ cap, v = .slice (some ⟨b, 0, none⟩) xs.length cap ∧ xs.length ≤ cap ∧ cap ≤ maxLen ∧ cur.size = cap * sz ∧ Fl S sz R (cur.toList.take (xs.length * sz)) xs
section
variable {P : Program} {n : Nat} {Q : Exit → Act → World → Prop} {K : Env} {w w' : World} {ops : Array Oper} {rest : List Oper} {o : Oper} {v : Value}
variable {Nx : Env → World → Prop} {dst : Option Nat} {ty : TypeId} {pos : String} {af : Array Edge} {gd' : Option (Nat × Bool)} {x y z : Operand} {u : Value} {k k' : IntKind} {i j : Int} {t t' : TypeId}
variable {w0 : World} {D : List Nat} {S0 S : Mp} {L : List Res} {α : Type} {sz : Nat} {R : Rel α} {xs ys : List α} {e : TypeId} {C : Array Bool → World → Prop} {g : Option Nat} {cur : Array Value} {b : Nat}
theorem Fl.flat [Flat R] {S' : Mp} : ∀ {xs : List α} {f : List Value}, Fl S sz R f xs → Fl S' sz R f xs
  | [], _, h => h
  | _ :: _, _, ⟨vals, rest, h1, h2, h3, h4, h5⟩ => ⟨vals, rest, h1, h2, h3, Flat.flat h4, Fl.flat h5⟩
theorem Rw.mono {S' : Mp} [Mono R] (h : Rw S sz R g cur v xs) (hl : Le S S') : Rw S' sz R g cur v xs := by
  cases g with
  | none => exact h
  | some b =>
    obtain ⟨cap, h1, h2, h3, h4, h5⟩ := h
    exact ⟨cap, h1, h2, h3, h4, h5.mono hl⟩
theorem Rw.len (h : Rw S sz R g cur v xs) : ∃ A c, v = .slice A xs.length c := by
  cases g with
  | none => obtain ⟨rfl, rfl⟩ := h; exact ⟨none, 0, rfl⟩
  | some b => obtain ⟨cap, h1, _⟩ := h; exact ⟨_, cap, h1⟩
theorem Rw.cells (h : Rw S sz R g cur v xs) : v.cells = [v].toArray := by
  obtain ⟨A, c, rfl⟩ := h.len
  rfl
theorem Rw.one (h : Rw S sz R g cur v xs) : v.oneCell' = true := by
  obtain ⟨A, c, rfl⟩ := h.len
  rfl
theorem Rw.lt (h : Rw S sz R g cur v xs) : xs.length ≤ maxLen := by
  cases g with
  | none => obtain ⟨rfl, rfl⟩ := h; exact Nat.zero_le _
  | some b => obtain ⟨cap, h1, h2, h3, _⟩ := h; omega
theorem Fl.set {x' : α} {vals : List Value} {f : Nat} : ∀ {xs : List α} {flat : List Value} {i : Nat}, Fl S sz R flat xs → i < xs.length → (flat.drop (i * sz)).take sz = vals → f < sz → u.oneCell' = true → R S (vals.set f u) x' →
    Fl S sz R (flat.set (i * sz + f) u) (xs.set i x')
  | [], _, i, _, hi, _, _, _, _ => by simp at hi
  | x :: xs, _, 0, ⟨v0, rest, rfl, h2, h3, h4, h5⟩, hi, hseg, hf, hu, hR => by
    have e1 : vals = v0 := by rw [← hseg, Nat.zero_mul, List.drop_zero, ← h2, List.take_left]
    subst e1
    refine ⟨vals.set f u, rest, ?_, by simpa using h2, fun y hy => ?_, hR, h5⟩
    · rw [Nat.zero_mul, Nat.zero_add, List.set_append_left _ _ (by omega)]
    · rcases List.mem_or_eq_of_mem_set hy with q | q
      · exact h3 y q
      · rw [q]; exact hu
  | x :: xs, _, i + 1, ⟨v0, rest, rfl, h2, h3, h4, h5⟩, hi, hseg, hf, hu, hR => by
    have e0 : (i + 1) * sz = sz + i * sz := by rw [Nat.add_mul, Nat.one_mul, Nat.add_comm]
    have e1 : (rest.drop (i * sz)).take sz = vals := by
      rw [← hseg, e0, ← h2, ← List.drop_drop, List.drop_left]
    have := Fl.set (xs := xs) (flat := rest) (i := i) h5 (by simpa using hi) e1 hf hu hR
    refine ⟨v0, rest.set (i * sz + f) u, ?_, h2, h3, h4, this⟩
    rw [List.set_append_right _ _ (by rw [e0]; omega)]
    congr 2
    rw [e0]
    omega
theorem Rw.set {c x' : α} {vals : List Value} {f : Nat} (hr : Rw S sz R (some b) cur v xs) (hi : ix xs i = some c) (hl : vals.length = sz) (hc : ∀ q u, vals[q]? = some u → cur[i.toNat * sz + q]? = some u) (hf : f < sz) (hu : u.oneCell' = true) (hR : R S (vals.set f u) x') :
    Rw S sz R (some b) (cur.setIfInBounds (i.toNat * sz + f) u) v (xs.set i.toNat x') := by
  obtain ⟨h0, h1, h2⟩ := ix_s hi
  obtain ⟨cap, hv, c1, c2, c3, hF⟩ := hr
  have hil : i.toNat < xs.length := by omega
  have hmul : i.toNat * sz + sz ≤ xs.length * sz := by
    have : (i.toNat + 1) * sz ≤ xs.length * sz := Nat.mul_le_mul_right _ hil
    rw [Nat.add_mul, Nat.one_mul] at this
    exact this
  have hseg : ((cur.toList.take (xs.length * sz)).drop (i.toNat * sz)).take sz = vals := by
    refine List.ext_getElem? fun q => ?_
    rw [List.getElem?_take]
    split
    · rename_i hq
      rw [List.getElem?_drop, List.getElem?_take, if_pos (by omega)]
      have hq2 : q < vals.length := by omega
      rw [List.getElem?_eq_getElem hq2]
      simpa using hc q _ (List.getElem?_eq_getElem hq2)
    · rw [List.getElem?_eq_none (by omega)]
  have := hF.set hil hseg hf hu hR
  refine ⟨cap, by rw [List.length_set]; exact hv, by rw [List.length_set]; exact c1, c2, by simpa using c3, ?_⟩
  rw [List.length_set, Array.toList_setIfInBounds, List.take_set]
  exact this
theorem nn {a : Bool} (h : a = true) : (!(!a)) = true := by rw [h]; rfl
end
end Go.Lk
