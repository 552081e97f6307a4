/- A part of this proof: AlarmLast returns true for every input and leaves its arguments as they were; there are no conditions. -/
import Derived.Test.YtaclkgdbkejfjaaL3
set_option linter.unusedVariables false
set_option linter.unusedSimpArgs false
namespace Go.Lk
open Go.RowKit
def evs (K : Env) : List Operand → Option (List Value)
  | [] => some []
  | x :: l => match ev K x, evs K l with
    | some v, some r => some (v :: r)
    | _, _ => none
theorem evs_map {n : Nat} {a : Act} {K : Env} (ha : Ag n a K) : ∀ {l : List Operand} {vs : List Value}, evs K l = some vs → l.map a.eval = vs
  | [], vs, h => by simp [evs] at h; simp [h]
  | x :: l, vs, h => by
    unfold evs at h
    cases e1 : ev K x with
    | none => rw [e1] at h; simp at h
    | some v =>
      cases e2 : evs K l with
      | none => rw [e1, e2] at h; simp at h
      | some r =>
        rw [e1, e2] at h
        simp at h
        rw [List.map_cons, ha.ev e1, evs_map ha e2]
        exact h
section
variable {P : Program} {n : Nat} {Q : Exit → Act → World → Prop} {K : Env} {w w' : World} {ops : Array Oper} {rest : List Oper} {o : Oper} {v : Value}
variable {Nx : Env → World → Prop} {dst : Option Nat} {ty : TypeId} {pos : String} {af : Array Edge} {gd' : Option (Nat × Bool)} {x y z : Operand} {u : Value} {k k' : IntKind} {i j : Int} {t t' : TypeId}
def Re (R : Value → World → Prop) : Ending → World → Prop := fun e w => ∃ v, e = .returned v ∧ R v w
theorem run_call {f : FuncId} {first cap : Array Value} {fo : Operand} {as : List Operand} {tys : Array TypeId} {vs : List Value} {a : Act} (ha : Ag n a K)
    (hfo : ev K fo = some (.func (.func f) first cap)) (hcall : ∀ (args : Array Value) (w : World), (callFunc f args).run P w = .ok (.enter f args) w) (hargs : evs K as = some vs) :
    (execOp a.eval ⟨dst, .call { callee := .value fo, args := as.toArray, argTypes := tys }, ty, pos, af, gd'⟩).run P w = .ok (.enter f (first ++ vs.toArray ++ cap)) w := by
  simp [execOp, resolve, ha.ev hfo, evs_map ha hargs, Deferred.ofValue, invoke, hcall]
theorem Oq.callC {d : Nat} {f : FuncId} {first cap : Array Value} {fo : Operand} {as : List Operand} {tys : Array TypeId} {vs : List Value} {R : Value → World → Prop}
    (hfo : ev K fo = some (.func (.func f) first cap)) (hcall : ∀ (args : Array Value) (w : World), (callFunc f args).run P w = .ok (.enter f args) w) (hargs : evs K as = some vs)
    (hdn : Nat.ble (d + 1) n = true) (hc : Calls P f (first ++ vs.toArray ++ cap) w (Re R))
    (h : ∀ v w', R v w' → Nx ((d, v) :: K) w') : Oq P n Q K w ⟨some d, .call { callee := .value fo, args := as.toArray, argTypes := tys }, ty, pos, af, gd'⟩ Nx := fun a ha K' hK => by
  unfold Oper.wp
  rw [run_call ha hfo hcall hargs, Oper.upon_enter]
  refine hc.mono fun e w' he => ?_
  obtain ⟨v, rfl, hR⟩ := he
  exact hK _ _ ⟨_, ha.put d hdn v, h v w' hR⟩
theorem Oq.call {d : Nat} {f : FuncId} {as : List Operand} {tys : Array TypeId} {vs : List Value} {R : Value → World → Prop}
    (hcall : ∀ (args : Array Value) (w : World), (callFunc f args).run P w = .ok (.enter f args) w) (hargs : evs K as = some vs)
    (hdn : Nat.ble (d + 1) n = true) (hc : Calls P f vs.toArray w (Re R))
    (h : ∀ v w', R v w' → Nx ((d, v) :: K) w') : Oq P n Q K w ⟨some d, .call { callee := .value (.func f), args := as.toArray, argTypes := tys }, ty, pos, af, gd'⟩ Nx :=
  Oq.callC (fo := .func f) (first := #[]) (cap := #[]) rfl hcall hargs hdn (by simpa using hc) h
theorem Oq.append {d : Nat} {x y : Operand} {v1 v2 : Value} {R : Value → World → Prop} (hx : ev K x = some v1) (hy : ev K y = some v2) (hdn : Nat.ble (d + 1) n = true)
    (hr : ∃ v' w', (Builtin.append_ #[t, t'] ty #[v1, v2]).run P w = .ok v' w' ∧ R v' w') (h : ∀ v' w', R v' w' → Nx ((d, v') :: K) w') :
    Oq P n Q K w ⟨some d, .call { callee := .builtin .append, args := #[x, y], argTypes := #[t, t'] }, ty, pos, af, gd'⟩ Nx := by
  obtain ⟨v', w', hr1, hR⟩ := hr
  exact Oq.val (v := v') (w' := w') (fun a ha => by simp [execOp, ha.ev hx, ha.ev hy, resolve, invoke, builtin, hr1]) rfl hdn (h v' w' hR)
def ResV (P : Program) (w : World) (K : Env) : List ResultVar → List Value → Prop
  | [], vs => vs = []
  | .tmp t :: l, vs => ∃ v r, vs = v :: r ∧ get K t = some v ∧ ResV P w K l r
  | .cell a t :: l, vs => ∃ v r ad, vs = v :: r ∧ get K a = some (.pointer (some ad)) ∧ (loadVar t ad).run P w = .ok v w ∧ ResV P w K l r
def packed : List Value → Value
  | [v] => v
  | vs => .tuple vs.toArray
def rvRun (tmps : Array Value) (r : ResultVar) : Sem Value :=
  match r with
  | .tmp t => pure (tmps.getD t undef)
  | .cell a t => do loadVar t (← asAddr (tmps.getD a undef))
theorem results_eq (fn : Func) (tmps : Array Value) : results fn tmps = (do
    let vs ← fn.results.mapM (rvRun tmps)
    pure (if h : vs.size = 1 then vs[0] else .tuple vs)) := rfl
theorem run_resV {a : Act} (ha : Ag n a K) : ∀ {l : List ResultVar} {vs : List Value}, ResV P w K l vs → (l.mapM (rvRun a.tmps)).run P w = .ok vs w
  | [], vs, h => by have e : vs = [] := h; subst e; simp
  | .tmp t :: l, vs, ⟨v, r, e, h1, h2⟩ => by
    subst e
    have h3 : (rvRun a.tmps (.tmp t)).run P w = .ok v w := by
      have := ha.2.2 t v h1
      simp only [rvRun, this, Sem.run_pure]
    simp [List.mapM_cons, h3, run_resV ha h2]
  | .cell a' t :: l, vs, ⟨v, r, ad, e, h1, h0, h2⟩ => by
    subst e
    have h3 : (rvRun a.tmps (.cell a' t)).run P w = .ok v w := by
      have := ha.2.2 a' _ h1
      simp only [rvRun, this, asAddr, Sem.run_bind, Sem.run_pure, Result.andThen_ok, h0]
    simp [List.mapM_cons, h3, run_resV ha h2]
theorem Cd.retPost {fn : Func} {R : Ending → World → Prop} {l : List ResultVar} {vs : List Value} (hres : fn.results = l.toArray) (hv : ResV P w K l vs) (hR : R (.returned (packed vs)) w) :
    ∀ a, Ag n a K → bodyPost P fn R .ret a w := fun a ha => by
  refine ⟨ha.1, packed vs, ?_, hR⟩
  have h2 := run_resV ha hv
  rw [results_eq, hres]
  simp only [List.mapM_toArray, Sem.run_bind, Sem.run_map]
  rw [h2]
  match vs with
  | [] => simp [packed]
  | [v] => simp [packed]
  | _ :: _ :: _ => simp [packed]
theorem Cd.ret (h : ∀ a, Ag n a K → Q .ret a w) : Cd P n Code.ret Q K w := fun a ha => wp_ret (h a ha)
def envOf : Nat → List Value → Env
  | _, [] => []
  | i, v :: r => (i, v) :: envOf (i + 1) r
theorem get_envOf : ∀ (vs : List Value) (i t : Nat) (v : Value), get (envOf i vs) t = some v → i ≤ t ∧ vs[t - i]? = some v
  | [], i, t, v, h => by simp [envOf, get] at h
  | u :: r, i, t, v, h => by
    unfold envOf get at h
    cases e : Nat.beq i t with
    | true =>
      rw [e] at h
      have : i = t := Nat.eq_of_beq_eq_true e
      subst this
      simp at h
      simp [h]
    | false =>
      rw [e] at h
      have hne : i ≠ t := fun e' => by subst e'; simp at e
      obtain ⟨h1, h2⟩ := get_envOf r (i + 1) t v (by simpa using h)
      refine ⟨by omega, ?_⟩
      rw [show t - i = (t - (i + 1)) + 1 by omega]
      simpa using h2
theorem calls_of_cd {f : FuncId} {fn : Func} {c : Code} {args : List Value} {R : Ending → World → Prop} (hf : P.funcs[f]? = some fn) (hb : fn.body = some c) (hn : fn.ntmps = n) (hl : Nat.ble args.length n = true)
    (h : Cd P n c (bodyPost P fn R) (envOf 0 args) w) : Calls P f args.toArray w R := by
  have hle : args.length ≤ n := Nat.le_of_ble_eq_true hl
  refine calls_of_wp hf hb (h _ ⟨rfl, ?_, fun t v ht => ?_⟩)
  · simp [hn]; omega
  · obtain ⟨_, h2⟩ := get_envOf args 0 t v ht
    simp at h2
    have hlt : t < args.length := (List.getElem?_eq_some_iff.1 h2).1
    rw [Array.getD_eq_getD_getElem?, Array.getElem?_append_left (by simpa using hlt)]
    simp [h2]
theorem Cd.fall {fn : Func} {R : Ending → World → Prop} (hres : fn.results = #[]) (hR : R (.returned (.tuple #[])) w) : ∀ a, Ag n a K → bodyPost P fn R .normal a w := fun a ha =>
  ⟨ha.1, .tuple #[], results_none hres _ _ _, hR⟩
def putL (cs : List Value) (off : Nat) (vs : List Value) : List Value := cs.take off ++ vs ++ cs.drop (off + vs.length)
def fillL (place : Nat → Option (Nat × Nat)) : List Value → List (Nat × List Value) → Option (List Value)
  | cs, [] => some cs
  | cs, (i, vs) :: r => match place i with
    | none => none
    | some (off, size) => if Nat.beq vs.length size && Nat.ble (off + vs.length) cs.length then fillL place (putL cs off vs) r else none
def Parts (K : Env) : List (Nat × Operand) → List (Nat × List Value) → Prop
  | [], ps => ps = []
  | (i, x) :: l, ps => ∃ v cs r, ps = (i, cs) :: r ∧ ev K x = some v ∧ v.cells = cs.toArray ∧ Parts K l r
theorem foldl_put (vs : List Value) : ∀ (k off : Nat) (cs : Array Value), off + k + vs.length ≤ cs.size →
    (vs.zipIdx k).foldl (fun (c : Array Value) (p : Value × Nat) => c.setIfInBounds (off + p.2) p.1) cs = (putL cs.toList (off + k) vs).toArray := by
  induction vs with
  | nil => intro k off cs h; simp [putL]
  | cons v vs ih =>
    intro k off cs h
    simp only [List.length_cons] at h
    rw [List.zipIdx_cons, List.foldl_cons, ih (k + 1) off _ (by simp; omega)]
    apply Array.ext'
    simp only [putL, Array.toList_setIfInBounds, List.length_cons, List.toList_toArray]
    have hlt : off + k < cs.toList.length := by simp; omega
    rw [show off + (k + 1) = off + k + 1 by omega]
    refine List.ext_getElem? fun q => ?_
    simp only [List.append_assoc]
    have hlen : (cs.toList.set (off + k) v).length = cs.toList.length := by simp
    by_cases h1 : q < off + k
    · rw [List.getElem?_append_left (by simp; omega), List.getElem?_append_left (by simp; omega)]
      simp [List.getElem?_take, h1, show q < off + k + 1 by omega, List.getElem?_set, show ¬ (off + k = q) by omega]
    · rw [List.getElem?_append_right (l₁ := List.take (off + k) _) (by simp; omega)]
      have ht : (List.take (off + k) cs.toList).length = off + k := by simp; omega
      rw [ht]
      by_cases h2 : q = off + k
      · subst h2
        rw [List.getElem?_append_left (by simp; omega)]
        simp [List.getElem?_take, List.getElem?_set]
        have : off + k < cs.size := by omega
        simp [this]
      · rw [List.getElem?_append_right (l₁ := List.take (off + k + 1) _) (by simp; omega)]
        have ht2 : (List.take (off + k + 1) (cs.toList.set (off + k) v)).length = off + k + 1 := by simp; omega
        rw [ht2, show q - (off + k) = (q - (off + k + 1)) + 1 by omega, List.cons_append, List.getElem?_cons_succ]
        by_cases h3 : q - (off + k + 1) < vs.length
        · rw [List.getElem?_append_left h3, List.getElem?_append_left h3]
        · rw [List.getElem?_append_right (by omega), List.getElem?_append_right (by omega)]
          simp only [List.getElem?_drop, List.getElem?_set]
          rw [if_neg (by omega)]
          congr 1
          omega
theorem fill_eq {a : Act} (ha : Ag n a K) (place : Nat → Option (Nat × Nat)) : ∀ {l : List (Nat × Operand)} {ps : List (Nat × List Value)} {cs r : List Value}, Parts K l ps → fillL place cs ps = some r →
    Instr.fill place cs.toArray (l.map fun p => (p.1, a.eval p.2)) = some r.toArray
  | [], ps, cs, r, hp, h => by
    have e : ps = [] := hp
    subst e
    simp [fillL] at h
    simp [Instr.fill, h]
  | (i, x) :: l, ps, cs, r, hp, h => by
    obtain ⟨v, vc, ps', e, hx, hv, hp'⟩ := hp
    subst e
    unfold fillL at h
    cases hq : place i with
    | none => rw [hq] at h; cases h
    | some os =>
      obtain ⟨off, size⟩ := os
      rw [hq] at h
      simp only at h
      split at h
      · rename_i hc
        obtain ⟨h1, h2⟩ := Bool.and_eq_true_iff.1 hc
        have e1 : vc.length = size := Nat.eq_of_beq_eq_true h1
        have e2 : off + vc.length ≤ cs.length := Nat.le_of_ble_eq_true h2
        have := fill_eq ha place hp' h
        simp only [List.map_cons, Instr.fill, hq, ha.ev hx, hv, List.size_toArray]
        rw [if_neg (by simp [e1]; omega)]
        have hf := foldl_put vc 0 off cs.toArray (by simpa using e2)
        simp only [Nat.add_zero] at hf
        have hz : Array.zipIdx vc.toArray = (vc.zipIdx 0).toArray := by simp
        rw [hz, List.foldl_toArray', hf]
        · exact this
        · simp
      · cases h
end
end Go.Lk
