/- A part of this proof: AlarmLast returns true for every input and leaves its arguments as they were; there are no conditions. -/
import Derived.Test.YtaclkgdbkejfjaaL4
import Derived.Laws.BytesArg
import Derived.Laws.BytesString
import Derived.Laws.StructEq
set_option linter.unusedVariables false
set_option linter.unusedSimpArgs false
namespace Go.Lk
open Go.RowKit
section
variable {P : Program} {n : Nat} {Q : Exit → Act → World → Prop} {K : Env} {w w' : World} {ops : Array Oper} {rest : List Oper} {o : Oper} {v : Value}
variable {Nx : Env → World → Prop} {dst : Option Nat} {ty : TypeId} {pos : String} {af : Array Edge} {gd' : Option (Nat × Bool)} {x y z : Operand} {u : Value} {k k' : IntKind} {i j : Int} {t t' : TypeId}
variable {w0 : World} {D : List Nat} {S0 S : Mp} {L : List Res} {α : Type} {sz : Nat} {R : Rel α} {xs ys : List α} {e : TypeId}
theorem Rd.cells {S : Mp} {sz : Nat} {R : Rel α} {v : Value} {xs : List α} (h : Rd S sz R v xs) : v.cells = [v].toArray := by
  obtain ⟨A, c, rfl⟩ := h.len
  rfl
theorem Rd.one {S : Mp} {sz : Nat} {R : Rel α} {v : Value} {xs : List α} (h : Rd S sz R v xs) : v.oneCell' = true := by
  obtain ⟨A, c, rfl⟩ := h.len
  rfl
theorem X.build {inf : TypeInfo} {z : Value} {zc cells : List Value} {fields : Array Field} {places : List (Nat × Nat)} {l : List (Nat × Operand)} {ps : List (Nat × List Value)}
    (hi : P.info? t = some inf) (hz : inf.zero = some z) (hzc : z.cells = zc.toArray) (ht : P.underlying t = some (.struct fields))
    (hp : fields.toList.mapM (fun f => (P.info? f.type).map fun i => (f.offset, i.size)) = some places) (hparts : Parts K l ps) (hfill : fillL (places.toArray[·]?) zc ps = some cells) :
    Ex P n K w ⟨dst, .build t l.toArray, ty, pos, af, gd'⟩ (.agg cells.toArray) w := fun a ha => by
  have h1 := fill_eq ha (places.toArray[·]?) hparts hfill
  have h2 : P.built t (l.map fun p => (p.1, a.eval p.2)) = some cells.toArray := by
    unfold Program.built
    simp only [hi, ht, hz, hp, hzc]
    exact h1
  have h3 := run_build (P := P) w t (l.map fun p => (p.1, a.eval p.2)).toArray cells.toArray (by simpa using h2)
  simp only [execOp, List.map_toArray, Sem.run_bind]
  have h4 : (List.map (fun (x : Nat × Operand) => match x with | (i, x) => (i, a.eval x)) l) = l.map fun p => (p.1, a.eval p.2) := List.map_congr_left fun p _ => rfl
  rw [h4, h3]
  simp
theorem X.buildSlice {len : Nat} {inf : TypeInfo} {z : Value} {cs0 cells : List Value} {l : List (Nat × Operand)} {ps : List (Nat × List Value)} (ht : P.underlying t = some (.slice e)) (hi : P.info? e = some inf) (hs : inf.size = sz)
    (hbig : len * sz ≤ 16777216) (hz : inf.zero = some z) (h0 : (Array.range (len * sz)).map (fun i => (if len * sz = 0 then #[] else z.cells)[i % (if len * sz = 0 then #[] else z.cells).size]!) = cs0.toArray)
    (hparts : Parts K l ps) (hfill : fillL (fun i => some (i * sz, sz)) cs0 ps = some cells) :
    Ex P n K w ⟨dst, .buildSlice t len l.toArray, ty, pos, af, gd'⟩ (.slice (some ⟨w.heap.size, 0, none⟩) len len) (w.alloc (.cells cells.toArray e)) := fun a ha => by
  subst hs
  have h1 := fill_eq ha (fun i => some (i * inf.size, inf.size)) hparts hfill
  have h4 : (List.map (fun (x : Nat × Operand) => match x with | (i, x) => (i, a.eval x)) l) = l.map fun p => (p.1, a.eval p.2) := List.map_congr_left fun p _ => rfl
  have hb2 : ¬ (len * inf.size > 2 ^ 24) := by omega
  have hsz : (sizeOf e).run P w = .ok inf.size w := by simp [sizeOf, typeInfo, hi]
  have hzv : (zeroValue e).run P w = .ok z w := by simp [zeroValue, typeInfo, hi, hz]
  simp only [execOp, List.map_toArray, Sem.run_bind, h4, Instr.buildSlice, run_underlying ht, Result.andThen_ok, hsz]
  by_cases hl : len * inf.size = 0
  · simp only [hl, if_true] at h0
    have hc : cs0 = [] := by
      have := congrArg Array.toList h0
      have e0 : (Array.map (fun i => (#[] : Array Value)[i % (#[] : Array Value).size]!) (Array.range 0)).toList = [] := by rw [Array.eq_empty_of_size_eq_zero (show (Array.range 0).size = 0 by simp), Array.map_empty]
      rw [e0] at this
      simpa using this.symm
    subst hc
    simp only [hl]
    have e1 : (Array.map (fun i => (#[] : Array Value)[i % (#[] : Array Value).size]!) (Array.range 0)) = #[] := by rw [Array.eq_empty_of_size_eq_zero (show (Array.range 0).size = 0 by simp), Array.map_empty]
    simp only [if_neg (show ¬ (0 > 2 ^ 24) by omega), if_true, Sem.run_pure, Sem.run_bind, Result.andThen_ok, e1, h1]
    simp [newRow, newObj, Sem.run]
  · simp only [hl, if_false] at h0
    simp only [hb2, if_false, hl, Sem.run_bind, Sem.run_pure, Result.andThen_ok, hzv]
    rw [h0, h1]
    simp [newRow, newObj, Sem.run]
theorem sliced_rd (hr : Rd S sz R v xs) (lo hi : Nat) (h1 : lo ≤ hi) (h2 : hi ≤ xs.length) : ∃ A c, v = .slice A xs.length c ∧ xs.length ≤ c ∧
    ∀ m, hi ≤ m → m ≤ c → Rd S sz R (.slice (if m = lo then A else A.map (·.add (lo * sz))) (hi - lo) (m - lo)) ((xs.drop lo).take (hi - lo)) := by
  obtain ⟨A, c, flat, rfl, hc, hm, hF, hE⟩ := hr
  refine ⟨A, c, rfl, hc, fun m hm1 hm2 => ?_⟩
  have hl : ((xs.drop lo).take (hi - lo)).length = hi - lo := by simp; omega
  have hF2 := (hF.drop lo (by omega)).take (hi - lo) (by simp; omega)
  refine ⟨_, _, _, by rw [hl], by rw [hl]; omega, by omega, hF2, fun hne => ?_⟩
  have hne1 : flat ≠ [] := fun e1 => by subst e1; simp at hne
  obtain ⟨ad, rfl, hEl⟩ := hE hne1
  have hlt : lo < m := by
    rcases Nat.lt_or_ge lo m with h | h
    · exact h
    · have : hi - lo = 0 := by omega
      rw [this] at hne
      simp at hne
  rw [if_neg (by omega)]
  refine ⟨ad.add (lo * sz), rfl, fun q u hq => ?_⟩
  have hEd := hEl.drop (lo * sz)
  refine hEd q u ?_
  rw [List.getElem?_take] at hq
  split at hq
  · exact hq
  · cases hq
theorem bound_run {q : IntKind} {a : Int} {m : Nat} {code : BoundsCode} (h0 : 0 ≤ a) (h1 : a ≤ (m : Int)) (w : World) : (Instr.sliceBound (.int q a) m code).run P w = .ok a.toNat w := by
  simp [Instr.sliceBound, asIntOf, h0, h1]
theorem Rg.split {l : List Oper} {tj : Nat} {c : Bool} (hk : get K tj = some (.bool c)) (h1 : c = true → Rg P n ops Q ((tj, .bool true) :: K) w l) (h0 : c = false → Rg P n ops Q ((tj, .bool false) :: K) w l) : Rg P n ops Q K w l := fun a ha => by
  have hk2 : Ag n a ((tj, .bool c) :: K) := ⟨ha.1, ha.2.1, fun t u hu => by
    unfold get at hu
    cases e1 : Nat.beq tj t with
    | true =>
      rw [e1] at hu
      have : tj = t := Nat.eq_of_beq_eq_true e1
      subst this
      have : Value.bool c = u := by simpa using hu
      subst this
      exact ha.2.2 tj _ hk
    | false => rw [e1] at hu; exact ha.2.2 t u (by simpa using hu)⟩
  cases c with
  | true => exact h1 rfl a hk2
  | false => exact h0 rfl a hk2
theorem Rg.weak {l : List Oper} (K' : Env) (hs : Sub K' K) (h : Rg P n ops Q K' w l) : Rg P n ops Q K w l := fun a ha => h a (ha.weak hs)
def bytesOf (s : ByteArray) : List Int := s.data.toList.map fun b => (b.toNat : Int)
theorem X.eqlA {b : Bool} {c1 c2 : Array Value} (hg : P.eqGuardType P.depth t = false) (hq : ∀ w, (Op.equal t (.agg c1) (.agg c2)).run P w = .ok b w) (hx : ev K x = some (.agg c1)) (hy : ev K y = some (.agg c2)) :
    Ex P n K w ⟨dst, .binOp .eql t x y t', ty, pos, af, gd'⟩ (.bool b) w := fun a ha => by
  simp [execOp, ha.ev hx, ha.ev hy, eqGuard, binOp, hq, hg]
def eqAll : List (Value × Value) → Bool
  | [] => true
  | (.int _ a, .int _ b) :: r => (a == b) && eqAll r
  | (.bool a, .bool b) :: r => (a == b) && eqAll r
  | (.string a, .string b) :: r => (a.toList == b.toList) && eqAll r
  | _ :: _ => false
def eqFits (P : Program) : List Field → List (Value × Value) → Nat → Prop
  | [], ps, _ => ps = []
  | f :: fs, ps, q => ∃ a b r, ps = (a, b) :: r ∧ f.offset = q ∧ f.name ≠ "_" ∧
      ((∃ k m1 m2, a = .int k m1 ∧ b = .int k m2 ∧ P.underlying f.type = some (.int k)) ∨ (∃ m1 m2, a = .bool m1 ∧ b = .bool m2 ∧ P.underlying f.type = some .bool) ∨
        (∃ m1 m2, a = .string m1 ∧ b = .string m2 ∧ P.underlying f.type = some .string)) ∧ eqFits P fs r (q + 1)
theorem run_eqFields (d : Nat) (w : World) : ∀ (fs : List Field) (ps pre : List (Value × Value)), eqFits P fs ps pre.length →
    (Op.eqFields (d + 1) ((pre ++ ps).map (·.1)).toArray ((pre ++ ps).map (·.2)).toArray fs).run P w = .ok (eqAll ps) w
  | [], ps, pre, h => by
    have e1 : ps = [] := h
    subst e1
    simp [Op.eqFields, eqAll]
  | f :: fs, ps, pre, ⟨a, b, r, e1, ho, hn, hk, hr⟩ => by
    subst e1
    have ih := run_eqFields d w fs r (pre ++ [(a, b)]) (by simpa using hr)
    rw [List.append_assoc, List.singleton_append] at ih
    have ha1 : ((pre ++ (a, b) :: r).map (·.1))[pre.length]? = some a := by simp
    have hb1 : ((pre ++ (a, b) :: r).map (·.2))[pre.length]? = some b := by simp
    simp only [Op.eqFields]
    rw [if_pos hn]
    rcases hk with ⟨k, m1, m2, rfl, rfl, hu⟩ | ⟨m1, m2, rfl, rfl, hu⟩ | ⟨m1, m2, rfl, rfl, hu⟩
    · have hp1 : (part f.type ((pre ++ (Value.int k m1, Value.int k m2) :: r).map (·.1)).toArray f.offset).run P w = .ok (.int k m1) w := by
        simp only [part, Sem.run_bind, run_isAgg hu, Result.andThen_ok, ho]
        simp [ha1]
      have hp2 : (part f.type ((pre ++ (Value.int k m1, Value.int k m2) :: r).map (·.2)).toArray f.offset).run P w = .ok (.int k m2) w := by
        simp only [part, Sem.run_bind, run_isAgg hu, Result.andThen_ok, ho]
        simp [hb1]
      have hp3 : (Op.equalIn (d + 1) f.type (.int k m1) (.int k m2)).run P w = .ok (m1 == m2) w := by
        rw [Op.equalIn, Sem.run_bind, run_underlying hu w]; simp
      simp only [Sem.run_bind, hp1, hp2, hp3, Result.andThen_ok]
      cases hm : m1 == m2 with
      | true => simp only [Bool.not_true, Bool.false_eq_true, if_false, eqAll, hm, Bool.true_and]; exact ih
      | false => simp only [Bool.not_false, if_true, eqAll, hm, Bool.false_and, Sem.run_pure]
    · have hp1 : (part f.type ((pre ++ (Value.bool m1, Value.bool m2) :: r).map (·.1)).toArray f.offset).run P w = .ok (.bool m1) w := by
        simp only [part, Sem.run_bind, run_isAgg hu, Result.andThen_ok, ho]
        simp [ha1]
      have hp2 : (part f.type ((pre ++ (Value.bool m1, Value.bool m2) :: r).map (·.2)).toArray f.offset).run P w = .ok (.bool m2) w := by
        simp only [part, Sem.run_bind, run_isAgg hu, Result.andThen_ok, ho]
        simp [hb1]
      have hp3 : (Op.equalIn (d + 1) f.type (.bool m1) (.bool m2)).run P w = .ok (m1 == m2) w := by
        rw [Op.equalIn, Sem.run_bind, run_underlying hu w]; simp
      simp only [Sem.run_bind, hp1, hp2, hp3, Result.andThen_ok]
      cases hm : m1 == m2 with
      | true => simp only [Bool.not_true, Bool.false_eq_true, if_false, eqAll, hm, Bool.true_and]; exact ih
      | false => simp only [Bool.not_false, if_true, eqAll, hm, Bool.false_and, Sem.run_pure]
    · have hp1 : (part f.type ((pre ++ (Value.string m1, Value.string m2) :: r).map (·.1)).toArray f.offset).run P w = .ok (.string m1) w := by
        simp only [part, Sem.run_bind, run_isAgg hu, Result.andThen_ok, ho]
        simp [ha1]
      have hp2 : (part f.type ((pre ++ (Value.string m1, Value.string m2) :: r).map (·.2)).toArray f.offset).run P w = .ok (.string m2) w := by
        simp only [part, Sem.run_bind, run_isAgg hu, Result.andThen_ok, ho]
        simp [hb1]
      have hp3 : (Op.equalIn (d + 1) f.type (.string m1) (.string m2)).run P w = .ok (m1 == m2) w := by
        rw [Op.equalIn, Sem.run_bind, run_underlying hu w]; simp
      simp only [Sem.run_bind, hp1, hp2, hp3, Result.andThen_ok]
      rw [beq_toListBytes]
      cases hm : m1.toList == m2.toList with
      | true => simp only [Bool.not_true, Bool.false_eq_true, if_false, eqAll, hm, Bool.true_and]; exact ih
      | false => simp only [Bool.not_false, if_true, eqAll, hm, Bool.false_and, Sem.run_pure]
theorem run_eqStruct {fields : Array Field} (ht : P.underlying t = some (.struct fields)) (hp : P.stoodInHeld t = false) {ps : List (Value × Value)} (h : eqFits P fields.toList ps 0) (w : World) :
    (Op.equal t (.agg (ps.map (·.1)).toArray) (.agg (ps.map (·.2)).toArray)).run P w = .ok (eqAll ps) w := by
  show (Op.equalIn (9998 + 1 + 1) t _ _).run P w = _
  generalize 9998 = d
  have hfo : P.fieldsOf t = fields := by simp [Program.fieldsOf, ht]
  rw [run_equalIn_struct w (d + 1) t _ _ (by rw [hfo]; exact ht) hp, hfo]
  exact run_eqFields d w fields.toList ps [] h
end
end Go.Lk
