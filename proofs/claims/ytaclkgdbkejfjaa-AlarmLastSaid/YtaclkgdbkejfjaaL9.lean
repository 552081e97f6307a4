/- A part of this proof: AlarmLast returns true for every input and leaves its arguments as they were; there are no conditions. -/
import Derived.Test.YtaclkgdbkejfjaaL8
import Derived.Lib.AppendStr
import Derived.Laws.Cover3
set_option linter.unusedVariables false
set_option linter.unusedSimpArgs false
namespace Go.Lk
open Go.RowKit Go.Lib
theorem get_g {K : Env} {t : Nat} {g : Bool} {v : Value} (h : get K t = some (gv g v)) (hg : g = true) : get K t = some v := by
  subst hg; exact h
section
variable {P : Program} {n : Nat} {Q : Exit → Act → World → Prop} {K : Env} {w w' : World} {ops : Array Oper} {rest : List Oper} {o : Oper} {v : Value}
variable {Nx : Env → World → Prop} {dst : Option Nat} {ty : TypeId} {pos : String} {af : Array Edge} {gd' : Option (Nat × Bool)} {x y z : Operand} {u : Value} {k k' : IntKind} {i j : Int} {t t' : TypeId}
variable {w0 : World} {D : List Nat} {S0 S : Mp} {L : List Res} {α : Type} {sz : Nat} {R : Rel α} {xs ys : List α} {e : TypeId} {C : Array Bool → World → Prop}
def isNil : Value → Bool
  | .slice none _ _ => true
  | _ => false
theorem X.eqlNil (hr : Rd S sz R v xs) (ht : P.underlying t = some (.slice e)) (hx : ev K x = some v) : Ex P n K w ⟨dst, .binOp .eql t x (.const (.slice none 0 0)) t', ty, pos, af, gd'⟩ (.bool (isNil v)) w := fun a ha => by
  obtain ⟨A, c, rfl⟩ := hr.len
  have e2 : a.eval (.const (.slice none 0 0)) = .slice none 0 0 := rfl
  have h1 := run_equal_slice_nil (P := P) w t e A xs.length c ht
  cases A <;> simp [execOp, ha.ev hx, e2, eqGuard, binOp, h1, isNil]
theorem nil_of (hr : Rd S sz R v xs) (hsz : 0 < sz) (h : isNil v = true) : xs = [] := by
  obtain ⟨A, c, flat, rfl, hc, hm, hF, hE⟩ := hr
  cases A with
  | some a => cases h
  | none =>
    have hfl : flat = [] := by
      cases flat with
      | nil => rfl
      | cons f fs => obtain ⟨ad, e, _⟩ := hE (by simp); cases e
    subst hfl
    have h0 : 0 = xs.length * sz := hF.length
    rcases Nat.mul_eq_zero.1 h0.symm with h | h
    · exact List.eq_nil_of_length_eq_zero h
    · omega
theorem clone_nil {b : Nat} {r : List α} (e : xs = []) (h : ((app b [] xs).bind fun y => some y) = some r) : (some [] : Option (List α)) = some r := by
  subst e
  have e1 : app b ([] : List α) [] = some [] := by simp [app]
  rw [e1] at h
  exact h
theorem St.enterP (h : St w0 D S0 S L w) (is : List Nat) (hn : is.Nodup) {L' : List Res} (hm : is.mapM (fun i => L[i]?) = some L') {D' : List Nat} (hD : L'.filterMap Res.blk = D') : St w D' S S L' w := by
  have h2 := h.pick is hn hm
  refine ⟨⟨rfl, Nat.le_refl _⟩, rfl, rfl, Nat.le_refl _, fun _ _ _ => rfl, Le.refl _, fun _ _ e => .inl e, h.has, h2.ok, h2.nodup, fun r hr b hb => .inl ?_⟩
  rw [← hD]
  exact List.mem_filterMap.2 ⟨r, hr, hb⟩
def without (is : List Nat) : Nat → List Res → List Res
  | _, [] => []
  | k, r :: l => bif is.any (Nat.beq k) then without is (k + 1) l else r :: without is (k + 1) l
theorem without_sub (is : List Nat) : ∀ (k : Nat) (L : List Res), (without is k L).Sublist L
  | _, [] => List.Sublist.slnil
  | k, r :: l => by
    unfold without
    cases is.any (Nat.beq k) with
    | true => exact (without_sub is (k + 1) l).cons r
    | false => exact (without_sub is (k + 1) l).cons_cons r
theorem without_mem {is : List Nat} : ∀ {k : Nat} {L : List Res} {s : Res}, s ∈ without is k L → ∃ j, k + j ∉ is ∧ L[j]? = some s
  | _, [], s, h => by cases h
  | k, r :: l, s, h => by
    unfold without at h
    cases e : is.any (Nat.beq k) with
    | true =>
      rw [e] at h
      obtain ⟨j, h1, h2⟩ := without_mem (k := k + 1) (L := l) h
      exact ⟨j + 1, by rw [show k + (j + 1) = k + 1 + j by omega]; exact h1, h2⟩
    | false =>
      rw [e] at h
      rcases List.mem_cons.1 h with h1 | h1
      · subst h1
        refine ⟨0, fun hm => ?_, rfl⟩
        have : is.any (Nat.beq k) = true := List.any_eq_true.2 ⟨k, hm, by simp⟩
        rw [this] at e; cases e
      · obtain ⟨j, h1, h2⟩ := without_mem (k := k + 1) (L := l) h1
        exact ⟨j + 1, by rw [show k + (j + 1) = k + 1 + j by omega]; exact h1, h2⟩
theorem St.callP {S' : Mp} {N L' : List Res} {w' : World} {D' : List Nat} (h : St w0 D S0 S L w) (is : List Nat) (hm : is.mapM (fun i => L[i]?) = some L') (hD : L'.filterMap Res.blk = D') (h' : St w D' S S' N w') :
    St w0 D S0 S' (N ++ without is 0 L) w' := by
  refine h.call h' (without_sub is 0 L) (fun y hy d hd hmem => ?_) (fun d hd => ?_)
  · obtain ⟨j, h1, h2⟩ := without_mem hy
    rw [← hD] at hmem
    obtain ⟨r, hr, hrd⟩ := List.mem_filterMap.1 hmem
    obtain ⟨i, hi, hi2⟩ := pick_mem hm r hr
    exact nodup_ne h.nodup hi2 h2 (fun e => h1 (by rw [Nat.zero_add, ← e]; exact hi)) hrd hd
  · rw [← hD] at hd
    obtain ⟨r, hr, hrd⟩ := List.mem_filterMap.1 hd
    obtain ⟨i, hi, hi2⟩ := pick_mem hm r hr
    exact h.own r (List.mem_of_getElem? hi2) d hrd
theorem get_u {K : Env} {t : Nat} {g : Bool} {v : Value} (h : get K t = some (gv g v)) (hg : (!g) = true) : get K t = some undef := by
  cases g with
  | true => cases hg
  | false => exact h
end
end Go.Lk
