/- A part of this proof: AlarmLast returns true for every input and leaves its arguments as they were; there are no conditions. -/
import Derived.Test.YtaclkgdbkejfjaaL14
import Derived.Laws.Pointers
set_option linter.unusedVariables false
set_option linter.unusedSimpArgs false
namespace Go.Lk
open Go.RowKit Go.Lib
section
variable {P : Program} {n : Nat} {Q : Exit → Act → World → Prop} {K : Env} {w w' : World} {ops : Array Oper} {rest : List Oper} {o : Oper} {v : Value}
variable {Nx : Env → World → Prop} {dst : Option Nat} {ty : TypeId} {pos : String} {af : Array Edge} {gd' : Option (Nat × Bool)} {x y z : Operand} {u : Value} {k k' : IntKind} {i j : Int} {t t' : TypeId}
variable {w0 : World} {D : List Nat} {S0 S : Mp} {L : List Res} {α : Type} {sz : Nat} {R : Rel α} {xs ys : List α} {e : TypeId} {g : Option Nat} {cur : Array Value} {b : Nat}
theorem run_eqp {a : Addr} (ht : P.underlying t = some (.pointer e)) (d : Nat) : (Op.equalIn (d + 1) t (.pointer (some a)) (.pointer none)).run P w = .ok false w := by
  simp [Op.equalIn, run_underlying ht]
theorem X.eqlNilP {a : Addr} (ht : P.underlying t = some (.pointer e)) (hx : ev K x = some (.pointer (some a))) : Ex P n K w ⟨dst, .binOp .eql t x (.const (.pointer none)) t', ty, pos, af, gd'⟩ (.bool false) w := fun f hf => by
  have e2 : f.eval (.const (.pointer none)) = .pointer none := rfl
  have h1 : (Op.equal t (.pointer (some a)) (.pointer none)).run P w = .ok false w := run_eqp ht 9999
  simp [execOp, hf.ev hx, e2, eqGuard, binOp, h1]
theorem X.makeFn {fn : Fn} {l : List Operand} {vs : List Value} (h : evs K l = some vs) : Ex P n K w ⟨dst, .makeFunc fn #[] l.toArray, ty, pos, af, gd'⟩ (.func fn #[] vs.toArray) w := fun f hf => by
  simp [execOp, Instr.makeFunc, evs_map hf h]
theorem St.freeze {cs : Array Value} (h : St w0 D S0 S L w) (i : Nat) (hi : L[i]? = some (.box b cs t)) : ∃ S', St w0 D S0 S' (L.eraseIdx i) w ∧ Le S S' ∧ El S' ⟨b, 0, none⟩ cs.toList := by
  have hok := h.ok _ (List.mem_of_getElem? hi)
  have hnew : ∀ a u, S.put b cs.size cs a = some u → S a = some u ∨ (a.block = b ∧ a.spot = none ∧ cs[a.off]? = some u) := fun a u ea => by
    simp only [Mp.put] at ea
    split at ea
    · rename_i hc'; exact .inr ⟨hc'.1, hc'.2.1, ea⟩
    · exact .inl ea
  have hle : Le S (S.put b cs.size cs) := fun a u ea => by
    simp only [Mp.put]
    rw [if_neg (fun hc' => by rw [hok.2 a hc'.1] at ea; cases ea)]
    exact ea
  have hother : ∀ r ∈ L.eraseIdx i, r.blk ≠ some b := fun r hr hb => by
    obtain ⟨j, hj, hs2, hs3⟩ := List.mem_eraseIdx_iff_getElem.1 hr
    exact nodup_ne h.nodup hi (j := j) (s := r) (by rw [List.getElem?_eq_getElem hj]; exact congrArg some hs3) (Ne.symm hs2) rfl hb
  have hsub := List.eraseIdx_sublist L i
  refine ⟨S.put b cs.size cs, ⟨h.os, h.tape, h.output, h.size, h.old, h.le.trans hle, fun a u ea => ?_, fun a u ea => ?_, fun r hr => ?_, (hsub.filterMap _).nodup h.nodup, fun r hr => h.own r (hsub.subset hr)⟩, hle, fun j u hj => ?_⟩
  · rcases hnew a u ea with q | ⟨q, _⟩
    · exact h.new a u q
    · rw [q]; exact .inr (h.own _ (List.mem_of_getElem? hi) b rfl)
  · rcases hnew a u ea with q | ⟨q1, q2, q3⟩
    · exact h.has a u q
    · obtain ⟨ab, ao, as⟩ := a
      simp at q1 q2 q3
      subst q1; subst q2
      rw [cell_of_row w _ ao cs t (0, 0) hok.1]
      exact q3
  · refine (h.ok r (hsub.subset hr)).keep (fun _ _ => rfl) (fun a ha hS => ?_)
    simp only [Mp.put]
    rw [if_neg (fun hc' => hother r hr (by rw [ha, hc'.1]))]
    exact hS
  · have hj2 : j < cs.size := by have := (List.getElem?_eq_some_iff.1 hj).1; simpa using this
    rw [Go.Lk.add_plain, Nat.zero_add, Mp.put_at _ _ _ _ _ hj2]
    simpa using hj
theorem St.lend_le (h : St w0 D S0 S L w) (i : Nat) (hi : L[i]? = some (.row g cur e)) (m : Nat) : Le S (S.lend g m cur) := by
  have hok := h.ok _ (List.mem_of_getElem? hi)
  cases g with
  | none => exact Le.refl _
  | some b =>
    intro a u ea
    show S.put b m cur a = some u
    simp only [Mp.put]
    rw [if_neg (fun hc' => by rw [hok.2 a hc'.1] at ea; cases ea)]
    exact ea
theorem St.nilRow (e : TypeId) (h : St w0 D S0 S L w) : St w0 D S0 S (.row none #[] e :: L) w :=
  h.push (r := .row none #[] e) trivial (fun b hb => by cases hb)
theorem Rw.nil {S : Mp} {sz : Nat} {R : Rel α} {cur : Array Value} : Rw S sz R none cur (.slice none 0 0) ([] : List α) := ⟨rfl, rfl⟩
theorem mk_slice3 {a c : Int} (ht : P.underlying t = some (.slice e)) (hs : (P.info? e).map (·.size) = some sz) (hr : Rd S sz R v xs) (hb : 0 ≤ a ∧ a ≤ c ∧ c ≤ (xs.length : Int)) :
    ∃ v', Rd S sz R v' ((xs.drop a.toNat).take (c.toNat - a.toNat)) ∧ ∀ {n : Nat} {K : Env} {w : World} {dst : Option Nat} {x lo hi mx : Operand} {kl kh : IntKind} {ty : TypeId} {pos : String} {af : Array Edge} {g : Option (Nat × Bool)},
      ev K x = some v → ev K lo = some (.int kl a) → ev K hi = some (.int kh c) → ev K mx = some (.int .i64 (xs.length : Int)) → Ex P n K w ⟨dst, .slice t x (some lo) (some hi) (some mx), ty, pos, af, g⟩ v' w := by
  obtain ⟨A, cp, rfl, hc, hR⟩ := sliced_rd hr a.toNat c.toNat (by omega) (by omega)
  refine ⟨_, hR xs.length (by omega) (by omega), fun {n K w dst x lo hi mx kl kh ty pos af g} hx hlo hhi hmx f hf => ?_⟩
  have h1 := run_sliceAt (P := P) (w := w) (A := A) ht hs (lo := some (.int kl a)) (hi := some (.int kh c)) (mx := some (.int .i64 (xs.length : Int))) (l := xs.length) (c := cp) (a0 := a.toNat) (b0 := c.toNat) (c0 := xs.length) (by
    have e1 : (c.toNat : Int) = c := Int.toNat_of_nonneg (by omega)
    simp [Instr.sliceBounds, bound_run (P := P) (show (0 : Int) ≤ (xs.length : Int) by omega) (show (xs.length : Int) ≤ (cp : Int) by omega) w, bound_run (P := P) (show 0 ≤ c by omega) (show c ≤ (xs.length : Int) by omega) w, bound_run (P := P) hb.1 (show a ≤ (c.toNat : Int) by omega) w])
  simp [execOp, hf.ev hx, hf.ev hlo, hf.ev hhi, hf.ev hmx, h1]
end
end Go.Lk
