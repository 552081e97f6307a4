/- A part of this proof: RtcpTells returns true for every input and leaves its arguments as they were; there are no conditions. -/
import Derived.Test.YtnpgmljphheabaaL10
set_option linter.unusedVariables false
set_option linter.unusedSimpArgs false
namespace Go.Lk
open Go.RowKit
section
variable {P : Program} {n : Nat} {Q : Exit → Act → World → Prop} {K : Env} {w w' : World} {ops : Array Oper} {rest : List Oper} {o : Oper} {v : Value}
variable {Nx : Env → World → Prop} {dst : Option Nat} {ty : TypeId} {pos : String} {af : Array Edge} {gd' : Option (Nat × Bool)} {x y z : Operand} {u : Value} {k k' : IntKind} {i j : Int} {t t' : TypeId}
variable {w0 : World} {D : List Nat} {S0 S : Mp} {L : List Res} {α : Type} {sz : Nat} {R : Rel α} {xs ys : List α} {e : TypeId}
theorem St.re (h : St w0 D S0 S L w) (i : Nat) {r r' : Res} (hi : L[i]? = some r) (hb : r'.blk = r.blk) (hok : r.ok S w → r'.ok S w) : St w0 D S0 S (L.set i r') w :=
  h.change hi rfl rfl rfl (Nat.le_refl _) (fun _ _ _ => rfl) (Le.refl _) (fun a v e => .inl e) h.has (hok (h.ok _ (List.mem_of_getElem? hi))) (fun b e => .inl (hb ▸ e))
theorem St.apfOfApp (h : St w0 D S0 S L w) (i : Nat) {g : Option Nat} {n : Nat} (hi : L[i]? = some (.app g v n e sz)) : St w0 D S0 S (L.set i (.apf g v n e sz)) w :=
  h.re i hi rfl fun hok => by
    cases g with
    | none => obtain ⟨rfl, rfl⟩ := hok; exact ⟨none, rfl⟩
    | some g => exact hok
theorem St.apfOfFull (h : St w0 D S0 S L w) (e : TypeId) (sz : Nat) {n : Nat} (hf : ∃ A, v = .slice A n n) : St w0 D S0 S (.apf none v n e sz :: L) w :=
  h.push (r := .apf none v n e sz) hf fun b hb => by simp [Res.blk] at hb
theorem set_set' {L : List Res} {i : Nat} {r r' : Res} : (L.set i r).set i r' = L.set i r' := List.set_set ..
theorem Oq.appendP {d : Nat} [Mono R] (hs : St w0 D S0 S L w) (i : Nat) {g : Option Nat} {v1 v2 : Value} {bytes : Nat} {zs : List α} (hi : L[i]? = some (.apf g v1 xs.length e sz)) {inf : TypeInfo} {zv : Value} (ht : P.underlying t = some (.slice e)) (hinf : P.info? e = some inf) (hz : inf.zero = some zv)
    (hsize : inf.size = sz) (hby : inf.bytes = bytes) (hzs : zv.cells.size = sz) (hsz : Nat.ble 1 sz = true) (hbp : Nat.ble 1 bytes = true) (hr : Rd S sz R v1 xs) (hu : Rd S sz R v2 ys) (happ : app bytes xs ys = some zs)
    (hx : ev K x = some v1) (hy : ev K y = some v2) (hdn : Nat.ble (d + 1) n = true)
    (h : ∀ v' w' S' g', St w0 D S0 S' (L.set i (.apf g' v' zs.length e sz)) w' → Le S S' → Rd S' sz R v' zs → Nx ((d, v') :: K) w') :
    Oq P n Q K w ⟨some d, .call { callee := .builtin .append, args := #[x, y], argTypes := #[t, t] }, ty, pos, af, gd'⟩ Nx := by
  have hlt : i < L.length := (List.getElem?_eq_some_iff.1 hi).1
  cases g with
  | some b =>
    have hs2 : St w0 D S0 S (L.set i (.app (some b) v1 xs.length e sz)) w := hs.re i hi rfl fun hok => hok
    refine Oq.appendS hs2 i (List.getElem?_set_self hlt) ht hinf hz hsize hby hzs hsz hbp hr hu happ hx hy hdn fun v' w' S' g' hs' le hr' => h v' w' S' g' ?_ le hr'
    rw [set_set'] at hs'
    have := hs'.apfOfApp i (List.getElem?_set_self hlt)
    rwa [set_set'] at this
  | none =>
    have hfull : ∃ A, v1 = .slice A xs.length xs.length := hs.ok _ (List.mem_of_getElem? hi)
    by_cases hy0 : ys.length = 0
    · have hyn : ys = [] := List.eq_nil_of_length_eq_zero hy0
      subst hyn
      obtain ⟨rfl, _⟩ := app_s happ
      rw [List.append_nil] at h
      obtain ⟨A, rfl⟩ := hfull
      obtain ⟨B, c, flat, rfl, hyc, hcm, hF, hE⟩ := hu
      have hfl : flat = [] := hF
      subst hfl
      refine Oq.append (R := fun a b => a = .slice A xs.length xs.length ∧ b = w) hx hy hdn ⟨_, _, ?_, rfl, rfl⟩ (fun a b hab => ?_)
      · cases A with
        | none =>
          have hx0 : xs.length = 0 := by
            obtain ⟨A2, c2, flat2, e1, _, _, hF2, hE2⟩ := hr
            injection e1 with e1
            cases flat2 with
            | nil =>
              have h0 : 0 = xs.length * sz := hF2.length
              rcases Nat.mul_eq_zero.1 h0.symm with h | h
              · exact h
              · have := Nat.le_of_ble_eq_true hsz; omega
            | cons a l => obtain ⟨ad, e2, _⟩ := hE2 (by simp); rw [← e1] at e2; cases e2
          simp only [hx0, List.length_nil]
          cases B <;> simp [Builtin.append_, run_underlying ht, sizeOf, typeInfo, hinf, Builtin.lenOf, Builtin.firstCells, loadCells, loadCellsFrom]
        | some ad =>
          simp only [List.length_nil]
          cases B <;> simp [Builtin.append_, run_underlying ht, sizeOf, typeInfo, hinf, Builtin.lenOf, Builtin.firstCells, loadCells, loadCellsFrom, storeCells]
      · obtain ⟨rfl, rfl⟩ := hab
        refine h _ _ S none ?_ (Le.refl _) hr
        have : L.set i (.apf none (.slice A xs.length xs.length) xs.length e sz) = L := by
          refine List.ext_getElem? fun j => ?_
          rw [List.getElem?_set]
          split
          · rename_i hij; subst hij; exact hi.symm
          · rfl
        rw [this]; exact hs
    · obtain ⟨rfl, hm⟩ := app_s happ
      obtain ⟨flat, hF, hsrc⟩ := Src.slice (P := P) (R := R) ht hinf hz hsize hby (Nat.le_of_ble_eq_true hsz) hs.has hu
      have hs2 : St w0 D S0 S (L.eraseIdx i) w := hs.eraseIdx i
      refine Oq.appendFG hs2 hsrc hF hzs (Nat.le_of_ble_eq_true hbp) (Nat.le_of_ble_eq_true hsz) hr hfull (by omega) hm hx hy hdn fun v' w' S' g' hs' le hr' => h v' w' S' g' ?_ le hr'
      have h3 := hs'.apfOfApp 0 rfl
      exact h3.perm (set_perm hlt _)
end
end Go.Lk
