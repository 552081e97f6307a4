/- A part of this proof: AlarmLast returns true for every input and leaves its arguments as they were; there are no conditions. -/
import Derived.Test.YtaclkgdbkejfjaaL2
import Derived.Deep.MidRow
import Derived.Laws.Tables
import Derived.Laws.Slices
import Derived.Laws.Strings
import Derived.Laws.Cells
set_option linter.unusedVariables false
set_option linter.unusedSimpArgs false
namespace Go.Lk
open Go.RowKit
def add (k : IntKind) (m n : Int) : Int := k.wrap (m + n)
def band (k : IntKind) (m n : Int) : Int := k.wrap ((BitVec.ofInt k.bits m &&& BitVec.ofInt k.bits n).toNat : Int)
def mx (a b : Int) : Int := if a < b then b else a
def gd {α : Type} (c : Prop) [Decidable c] (x : Option α) : Option α := if c then x else none
theorem gd_s {α : Type} {c : Prop} [Decidable c] {x : Option α} {r : α} (h : gd c x = some r) : c ∧ x = some r := by
  unfold gd at h
  split at h
  · rename_i hc; exact ⟨hc, h⟩
  · cases h
theorem bind_s {α β : Type} {x : Option α} {f : α → Option β} {r : β} (h : x.bind f = some r) : ∃ a, x = some a ∧ f a = some r := by
  cases x with
  | none => cases h
  | some a => exact ⟨a, rfl, h⟩
theorem ite_t {α : Type} {c : Bool} {x y : Option α} {r : α} (hc : c = true) (h : (if c = true then x else y) = some r) : x = some r := by rw [if_pos hc] at h; exact h
theorem ite_f {α : Type} {c : Bool} {x y : Option α} {r : α} (hc : c = false) (h : (if c = true then x else y) = some r) : y = some r := by rw [if_neg (by simp [hc])] at h; exact h
theorem some_s {α : Type} {x r : α} (h : some x = some r) : x = r := Option.some.inj h
def Flow.el {σ ρ β : Type} (fl : Flow σ ρ) (a b : σ → β) (c : ρ → β) : β :=
  match fl with
  | .next s => a s
  | .brk s => b s
  | .ret r => c r
def gv (g : Bool) (v : Value) : Value := bif g then v else undef
theorem ev_g {K : Env} {x : Operand} {g : Bool} {v : Value} (h : ev K x = some (gv g v)) (hg : g = true) : ev K x = some v := by
  subst hg; exact h
theorem and_l {a b : Bool} (h : (a && b) = true) : a = true := by cases a <;> simp_all
theorem and_r {a b : Bool} (h : (a && b) = true) : b = true := by cases a <;> simp_all
def Ex (P : Program) (n : Nat) (K : Env) (w : World) (o : Oper) (v : Value) (w' : World) : Prop := ∀ a, Ag n a K → (execOp a.eval o).run P w = .ok (.value v) w'
def Ek (P : Program) (n : Nat) (K : Env) (w : World) (o : Oper) (w' : World) : Prop := ∀ a, Ag n a K → (execOp a.eval o).run P w = .ok .skip w'
def isB (v : Value) (b : Bool) : Bool := match v with | .bool c => c == b | _ => false
def asB (v : Value) : Option Bool := match v with | .bool c => some c | _ => none
theorem yielded_of {ops : Array Oper} {tmps : Array Value} {j tj : Nat} {vj : Value} (hj : (ops[j]?).bind (·.dst) = some tj) (h : tmps.getD tj undef = vj) : yielded ops tmps j = asB vj := by
  unfold yielded
  rw [hj]
  simp only [Option.bind_some]
  rw [Array.getD_eq_getD_getElem?] at h
  cases e : tmps[tj]? with
  | none => rw [e] at h; simp at h; subst h; rfl
  | some u => rw [e] at h; simp at h; subst h; cases u <;> rfl
section
variable {P : Program} {n : Nat} {Q : Exit → Act → World → Prop} {K : Env} {w w' : World} {ops : Array Oper} {rest : List Oper} {o : Oper} {v : Value}
def Oq (P : Program) (n : Nat) (Q : Exit → Act → World → Prop) (K : Env) (w : World) (o : Oper) (Nx : Env → World → Prop) : Prop :=
  ∀ a, Ag n a K → ∀ K' : Act → World → Prop, (∀ a' w', (∃ K2, Ag n a' K2 ∧ Nx K2 w') → K' a' w') → o.wp P a w K' Q
variable {Nx : Env → World → Prop}
theorem Oq.val {d : Nat} (he : Ex P n K w o v w') (hd : o.dst = some d) (hdn : Nat.ble (d + 1) n = true) (h : Nx ((d, v) :: K) w') : Oq P n Q K w o Nx := fun a ha K' hK => by
  unfold Oper.wp
  rw [he a ha, Oper.upon_value, hd]
  exact hK _ _ ⟨_, ha.put d hdn v, h⟩
theorem Oq.skip (he : Ek P n K w o w') (hd : o.dst = none) (h : Nx K w') : Oq P n Q K w o Nx := fun a ha K' hK => by
  unfold Oper.wp
  rw [he a ha, Oper.upon_skip, hd]
  exact hK _ _ ⟨_, ha, h⟩
theorem Rg.step (hg : o.guard = none) (h : Oq P n Q K w o fun K2 w2 => Rg P n ops Q K2 w2 rest) : Rg P n ops Q K w (o :: rest) := fun a ha =>
  wpList_plain hg fun K' hK => h a ha K' fun a' w' ⟨K2, h1, h2⟩ => hK _ _ (h2 a' h1)
theorem Rg.val {d : Nat} (he : Ex P n K w o v w') (hg : o.guard = none) (hd : o.dst = some d) (hdn : Nat.ble (d + 1) n = true) (h : Rg P n ops Q ((d, v) :: K) w' rest) : Rg P n ops Q K w (o :: rest) :=
  Rg.step hg (Oq.val he hd hdn h)
theorem Rg.skip (he : Ek P n K w o w') (hg : o.guard = none) (hd : o.dst = none) (h : Rg P n ops Q K w' rest) : Rg P n ops Q K w (o :: rest) :=
  Rg.step hg (Oq.skip he hd h)
theorem Rg.gval0 {d j : Nat} {b : Bool} {W : Bool} (hg : o.guard = some (j, b)) {tj : Nat} (hj : (ops[j]?).bind (·.dst) = some tj) {vj : Value} (hk : get K tj = some vj)
    (hW : W = isB vj b) (hd : o.dst = some d) (hdn : Nat.ble (d + 1) n = true)
    (he : W = true → Ex P n K w o v w) (h : Rg P n ops Q ((d, gv W v) :: K) w rest) : Rg P n ops Q K w (o :: rest) := fun a ha => by
  have hy : Region.wanted o (yielded ops a.tmps) = W := by
    have h2 := yielded_of hj (ha.2.2 tj vj hk)
    simp only [Region.wanted, hg, h2, hW]
    cases vj with
    | bool c => cases c <;> cases b <;> rfl
    | _ => cases b <;> rfl
  have hput := h _ (ha.put d hdn (gv W v))
  refine wpList_step fun K' hK => ?_
  rw [hy]
  cases W with
  | true =>
    rw [if_pos rfl]
    unfold Oper.wp
    rw [he rfl a ha, Oper.upon_value, hd]
    exact hK _ _ hput
  | false =>
    rw [if_neg (by simp)]
    rw [hd]
    exact hK _ _ hput
theorem Rg.gvalT {d j : Nat} {W : Bool} (hg : o.guard = some (j, true)) {tj : Nat} (hj : (ops[j]?).bind (·.dst) = some tj) (hk : get K tj = some (.bool W)) (hd : o.dst = some d) (hdn : Nat.ble (d + 1) n = true)
    (he : W = true → Ex P n K w o v w) (h : Rg P n ops Q ((d, gv W v) :: K) w rest) : Rg P n ops Q K w (o :: rest) :=
  Rg.gval0 hg hj hk (by cases W <;> rfl) hd hdn he h
theorem Rg.gvalF {d j : Nat} {W : Bool} (hg : o.guard = some (j, false)) {tj : Nat} (hj : (ops[j]?).bind (·.dst) = some tj) (hk : get K tj = some (.bool W)) (hd : o.dst = some d) (hdn : Nat.ble (d + 1) n = true)
    (he : (!W) = true → Ex P n K w o v w) (h : Rg P n ops Q ((d, gv (!W) v) :: K) w rest) : Rg P n ops Q K w (o :: rest) :=
  Rg.gval0 hg hj hk (by cases W <;> rfl) hd hdn he h
theorem Rg.gon {j : Nat} {b : Bool} (hg : o.guard = some (j, b)) {tj : Nat} (hj : (ops[j]?).bind (·.dst) = some tj) (hk : get K tj = some (.bool b))
    (h : Rg P n ops Q K w ({ o with guard := none } :: rest)) : Rg P n ops Q K w (o :: rest) := fun a ha => by
  have hy : Region.wanted o (yielded ops a.tmps) = true := by
    have h2 := yielded_of hj (ha.2.2 tj _ hk)
    simp [Region.wanted, hg, h2, asB]
  have h2 := h a ha
  unfold wpList at h2 ⊢
  rw [if_pos hy]
  rw [if_pos (by simp [Region.wanted])] at h2
  exact h2
theorem Rg.goff {d j : Nat} {b : Bool} {vj : Value} (hg : o.guard = some (j, b)) {tj : Nat} (hj : (ops[j]?).bind (·.dst) = some tj) (hk : get K tj = some vj) (hv : isB vj b = false)
    (hd : o.dst = some d) (hdn : Nat.ble (d + 1) n = true) (h : Rg P n ops Q ((d, undef) :: K) w rest) : Rg P n ops Q K w (o :: rest) :=
  Rg.gval0 (v := undef) (W := false) hg hj hk hv.symm hd hdn (fun e => by cases e) h
variable {dst : Option Nat} {ty : TypeId} {pos : String} {af : Array Edge} {g : Option (Nat × Bool)} {x y z : Operand} {u : Value} {k k' : IntKind} {i j : Int}
theorem X.move (hx : ev K x = some v) : Ex P n K w ⟨dst, .move x, ty, pos, af, g⟩ v w := fun a ha => by simp [execOp, ha.ev hx]
theorem X.assign (hx : ev K x = some v) : Ex P n K w ⟨dst, .assign x, ty, pos, af, g⟩ v w := fun a ha => by simp [execOp, ha.ev hx]
theorem X.pickAnd {c b : Bool} (hx : ev K x = some (.bool c)) (hy : ev K y = some (gv c (.bool b))) (hz : ev K z = some (.bool false)) : Ex P n K w ⟨dst, .pick x y z, ty, pos, af, g⟩ (.bool (c && b)) w := fun a ha => by
  cases c <;> simp [execOp, ha.ev hx, ha.ev hy, ha.ev hz, asBool, gv]
theorem X.pickOr {c b : Bool} (hx : ev K x = some (.bool c)) (hy : ev K y = some (.bool true)) (hz : ev K z = some (gv (!c) (.bool b))) : Ex P n K w ⟨dst, .pick x y z, ty, pos, af, g⟩ (.bool (c || b)) w := fun a ha => by
  cases c <;> simp [execOp, ha.ev hx, ha.ev hy, ha.ev hz, asBool, gv]
theorem X.pickT (hx : ev K x = some (.bool true)) (hy : ev K y = some v) : Ex P n K w ⟨dst, .pick x y z, ty, pos, af, g⟩ v w := fun a ha => by
  simp [execOp, ha.ev hx, ha.ev hy, asBool]
theorem X.pickF (hx : ev K x = some (.bool false)) (hz : ev K z = some v) : Ex P n K w ⟨dst, .pick x y z, ty, pos, af, g⟩ v w := fun a ha => by
  simp [execOp, ha.ev hx, ha.ev hz, asBool]
variable {t t' : TypeId}
theorem X.add (hx : ev K x = some (.int k i)) (hy : ev K y = some (.int k j)) : Ex P n K w ⟨dst, .binOp .add t x y t', ty, pos, af, g⟩ (.int k (Lk.add k i j)) w := fun a ha => by
  simp [execOp, ha.ev hx, ha.ev hy, eqGuard, binOp, Op.intArith, Lk.add]
theorem X.and (hx : ev K x = some (.int k i)) (hy : ev K y = some (.int k j)) : Ex P n K w ⟨dst, .binOp .and t x y t', ty, pos, af, g⟩ (.int k (band k i j)) w := fun a ha => by
  simp [execOp, ha.ev hx, ha.ev hy, eqGuard, binOp, Op.intBits, band]
theorem X.eql (hx : ev K x = some (.int k i)) (hy : ev K y = some (.int k j)) : Ex P n K w ⟨dst, .binOp .eql t x y t', ty, pos, af, g⟩ (.bool (i == j)) w := fun a ha => by
  simp [execOp, ha.ev hx, ha.ev hy, eqGuard, binOp, Op.intCmp]
theorem X.neq (hx : ev K x = some (.int k i)) (hy : ev K y = some (.int k j)) : Ex P n K w ⟨dst, .binOp .neq t x y t', ty, pos, af, g⟩ (.bool (i != j)) w := fun a ha => by
  simp [execOp, ha.ev hx, ha.ev hy, eqGuard, binOp, Op.intCmp]
theorem X.lss (hx : ev K x = some (.int k i)) (hy : ev K y = some (.int k j)) : Ex P n K w ⟨dst, .binOp .lss t x y t', ty, pos, af, g⟩ (.bool (decide (i < j))) w := fun a ha => by
  simp [execOp, ha.ev hx, ha.ev hy, eqGuard, binOp, Op.intCmp]
theorem X.leq (hx : ev K x = some (.int k i)) (hy : ev K y = some (.int k j)) : Ex P n K w ⟨dst, .binOp .leq t x y t', ty, pos, af, g⟩ (.bool (decide (i ≤ j))) w := fun a ha => by
  simp [execOp, ha.ev hx, ha.ev hy, eqGuard, binOp, Op.intCmp]
theorem X.gtr (hx : ev K x = some (.int k i)) (hy : ev K y = some (.int k j)) : Ex P n K w ⟨dst, .binOp .gtr t x y t', ty, pos, af, g⟩ (.bool (decide (j < i))) w := fun a ha => by
  simp [execOp, ha.ev hx, ha.ev hy, eqGuard, binOp, Op.intCmp]
theorem X.geq (hx : ev K x = some (.int k i)) (hy : ev K y = some (.int k j)) : Ex P n K w ⟨dst, .binOp .geq t x y t', ty, pos, af, g⟩ (.bool (decide (j ≤ i))) w := fun a ha => by
  simp [execOp, ha.ev hx, ha.ev hy, eqGuard, binOp, Op.intCmp]
theorem X.not {b : Bool} (hx : ev K x = some (.bool b)) : Ex P n K w ⟨dst, .unOp .not t x, ty, pos, af, g⟩ (.bool !b) w := fun a ha => by
  simp [execOp, ha.ev hx, Op.unary]
theorem run_equalB {b c : Bool} (ht : P.underlying t = some .bool) (w : World) : (Op.equal t (.bool b) (.bool c)).run P w = .ok (b == c) w := by
  show (Op.equalIn (9999 + 1) t (.bool b) (.bool c)).run P w = _
  generalize 9999 = d
  rw [Op.equalIn, Sem.run_bind, run_underlying ht w]
  simp
theorem X.neqB {b c : Bool} (ht : P.underlying t = some .bool) (hx : ev K x = some (.bool b)) (hy : ev K y = some (.bool c)) : Ex P n K w ⟨dst, .binOp .neq t x y t', ty, pos, af, g⟩ (.bool (!(b == c))) w := fun a ha => by
  simp [execOp, ha.ev hx, ha.ev hy, eqGuard, binOp, run_equalB ht]
theorem X.nilCheck {ad : Addr} (hx : ev K x = some (.pointer (some ad))) : Ex P n K w ⟨dst, .nilCheck x, ty, pos, af, g⟩ (.pointer (some ad)) w := fun a ha => by
  simp [execOp, ha.ev hx]
theorem X.extract {vs : Array Value} {q : Nat} (hx : ev K x = some (.tuple vs)) (hv : vs[q]? = some v) : Ex P n K w ⟨dst, .extract x q, ty, pos, af, g⟩ v w := fun a ha => by
  simp [execOp, ha.ev hx, Instr.extract, hv]
theorem X.len {A : Option Addr} {l c : Nat} {e : TypeId} {tys : Array TypeId} (ht : P.underlying t = some (.slice e)) (hx : ev K x = some (.slice A l c)) :
    Ex P n K w ⟨dst, .call { callee := .builtin .len, args := #[x], argTypes := #[t] }, ty, pos, af, g⟩ (.int .i64 (l : Int)) w := fun a ha => by
  simp [execOp, ha.ev hx, resolve, invoke, builtin, Builtin.len_, run_underlying ht, goInt]
theorem X.lenR {α : Type} {S : Mp} {sz : Nat} {R : Rel α} {xs : List α} {e : TypeId} (ht : P.underlying t = some (.slice e)) (hx : ev K x = some v) (hr : Rd S sz R v xs) :
    Ex P n K w ⟨dst, .call { callee := .builtin .len, args := #[x], argTypes := #[t] }, ty, pos, af, g⟩ (.int .i64 (xs.length : Int)) w := by
  obtain ⟨A, c, rfl⟩ := hr.len
  exact X.len (tys := #[]) ht hx
theorem X.fieldAddr {ad : Addr} {q : Nat} {fs : Array Field} {f : Field} {m : Nat} (ht : P.underlying t = some (.struct fs)) (hf : fs[q]? = some f) (hs : (P.info? f.type).map (·.size) = some (m + 1)) (hx : ev K x = some (.pointer (some ad))) :
    Ex P n K w ⟨dst, .fieldAddr t x q, ty, pos, af, g⟩ (.pointer (some (ad.add f.offset))) w := fun a ha => by
  cases hq : P.info? f.type with
  | none => simp [hq] at hs
  | some inf =>
    have : inf.size = m + 1 := by simpa [hq] using hs
    simp [execOp, ha.ev hx, Instr.fieldAt, run_underlying ht, hf, Instr.sureAddr, fieldPlace, sizeOf, typeInfo, hq, this]
theorem X.indexAddr {ad : Addr} {l c : Nat} {e : TypeId} {m : Nat} (ht : P.underlying t = some (.slice e)) (hs : (P.info? e).map (·.size) = some m) (hx : ev K x = some (.slice (some ad) l c)) (hy : ev K y = some (.int k i)) (h0 : 0 ≤ i) (h1 : i < (l : Int)) :
    Ex P n K w ⟨dst, .indexAddr t x y, ty, pos, af, g⟩ (.pointer (some (ad.add (i.toNat * m)))) w := fun a ha => by
  cases hq : P.info? e with
  | none => simp [hq] at hs
  | some inf =>
    have : inf.size = m := by simpa [hq] using hs
    simp [execOp, ha.ev hx, ha.ev hy, Instr.indexAt, asIntOf, run_underlying ht, h0, h1, sizeOf, typeInfo, hq, this]
abbrev isRowD : TypeDesc → Bool
  | .struct _ | .array _ _ => true
  | _ => false
theorem run_isAgg {d : TypeDesc} (ht : P.underlying t = some d) (w : World) : (isAgg t).run P w = .ok (isRowD d) w := by
  unfold isAgg
  rw [Sem.run_bind, run_underlying ht w]
  cases d <;> simp
theorem X.load1 {ad : Addr} {d : TypeDesc} (ht : P.underlying t = some d) (hna : isRowD d = false) (hx : ev K x = some (.pointer (some ad))) (hc : w.cell? ad = some v) : Ex P n K w ⟨dst, .load t x, ty, pos, af, g⟩ v w := fun a ha => by
  simp [execOp, ha.ev hx, Instr.loadAt, Instr.sureAddr, loadVar, run_isAgg ht, hna, hc]
theorem X.loadN {ad : Addr} {d : TypeDesc} {vals : List Value} (ht : P.underlying t = some d) (hna : isRowD d = true) (hs : (P.info? t).map (·.size) = some vals.length) (hx : ev K x = some (.pointer (some ad)))
    (hc : ∀ q u, vals[q]? = some u → w.cell? (ad.add q) = some u) : Ex P n K w ⟨dst, .load t x, ty, pos, af, g⟩ (.agg vals.toArray) w := fun a ha => by
  cases hq : P.info? t with
  | none => simp [hq] at hs
  | some inf =>
    have h1 : inf.size = vals.length := by simpa [hq] using hs
    have hl := run_loadCells_list (P := P) w ad vals hc
    simp [execOp, ha.ev hx, Instr.loadAt, Instr.sureAddr, loadVar, run_isAgg ht, hna, sizeOf, typeInfo, hq, h1, hl]
theorem X.loadE {ad : Addr} {d : TypeDesc} {vals : List Value} {S : Mp} (hw : Has S w) (ht : P.underlying t = some d) (hna : isRowD d = true) (hs : (P.info? t).map (·.size) = some vals.length) (hx : ev K x = some (.pointer (some ad)))
    (hE : El S ad vals) : Ex P n K w ⟨dst, .load t x, ty, pos, af, g⟩ (.agg vals.toArray) w :=
  X.loadN ht hna hs hx fun q u h => hw _ _ (hE q u h)
theorem X.store1 {ad : Addr} (hs : (P.info? t).map (·.size) = some 1) (hx : ev K x = some (.pointer (some ad))) (hy : ev K y = some v) (h1 : v.cells = #[v]) (h2 : v.oneCell' = true) {v0 : Value} (hc : w.cell? ad = some v0) (hf : w.frozen? ad = false) :
    Ek P n K w ⟨dst, .store t x y, ty, pos, af, g⟩ (w.setCell ad v) := fun a ha => by
  cases hq : P.info? t with
  | none => simp [hq] at hs
  | some inf =>
    have h3 : inf.size = 1 := by simpa [hq] using hs
    have h4 : (store (ad.add 0) v).run P w = .ok () (w.setCell ad v) := by
      cases v <;> simp [store, Sem.run, add_zero', hc, hf] <;> simp_all [Value.oneCell']
    simp [execOp, ha.ev hx, ha.ev hy, Instr.storeAt, Instr.sureAddr, storeVar, sizeOf, typeInfo, hq, h1, h3, storeCells, h4]
theorem X.alloc {inf : TypeInfo} (hi : P.info? t = some inf) {z : Value} (hz : inf.zero = some z) : Ex P n K w ⟨dst, .alloc t, ty, pos, af, g⟩ (.pointer (some ⟨w.heap.size, 0, none⟩)) (w.alloc (.cells z.cells t)) := fun a ha => by
  simp [execOp, Instr.alloc, zeroValue, typeInfo, hi, hz, newVar, newRow, newObj, Sem.run]
theorem X.box (hx : ev K x = some v) : Ex P n K w ⟨dst, .box t x, ty, pos, af, g⟩ (.pointer (some ⟨w.heap.size, 0, none⟩)) (w.alloc (.cells v.cells t)) := fun a ha => by
  simp [execOp, Instr.box, ha.ev hx, newVar, newRow, newObj, Sem.run]
theorem run_sliceAt {A : Option Addr} {l c : Nat} {e : TypeId} {m : Nat} (ht : P.underlying t = some (.slice e)) (hs : (P.info? e).map (·.size) = some m) {lo hi mx : Option Value} {a0 b0 c0 : Nat}
    (hb : (Instr.sliceBounds true l c lo hi mx).run P w = .ok (a0, b0, c0) w) : (Instr.sliceAt t (.slice A l c) lo hi mx).run P w = .ok (.slice (if c0 = a0 then A else A.map (·.add (a0 * m))) (b0 - a0) (c0 - a0)) w := by
  cases hq : P.info? e with
  | none => simp [hq] at hs
  | some inf =>
    have h1 : inf.size = m := by simpa [hq] using hs
    simp [Instr.sliceAt, Instr.slice, run_underlying ht, hb, sizeOf, typeInfo, hq, h1]
end
end Go.Lk
