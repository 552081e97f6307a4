/- A part of this proof: AlarmLast returns true for every input and leaves its arguments as they were; there are no conditions. -/
import Derived.Test.YtaclkgdbkejfjaaL12
import Derived.KernelRfl
set_option linter.unusedVariables false
set_option linter.unusedSimpArgs false
namespace Go.Lk
open Go.RowKit
section
variable {P : Program} {n : Nat} {Q : Exit → Act → World → Prop} {K : Env} {w w' : World} {ops : Array Oper} {rest : List Oper} {o : Oper} {v : Value} {C : Array Bool → World → Prop}
variable {w0 : World} {D : List Nat} {S0 S : Mp} {L : List Res} {Nx : Env → World → Prop} {op : Op} {ty : TypeId} {pos : String} {af : Array Edge} {d j tj fuel : Nat} {G W b : Bool} {vj : Value} {listed : Array Bool} {C0 : World → Prop}
variable {dst : Option Nat} {gd' : Option (Nat × Bool)} {t e : TypeId} {sz : Nat}
theorem Cd.sr {id : Nat} {l : List Oper} {y : Code} (h : Rg P n l.toArray (Exit.then (y.wp P Q) Q) K w l) : Cd P n (Code.seq (Code.region id l.toArray false) y) Q K w := Cd.seq (Cd.region h)
theorem Cd.sg {y : Code} (h : Cd P n y Q K w) : Cd P n Code.skip (Exit.then (y.wp P Q) Q) K w := Cd.skip (Cd.go h)
theorem Rg.vN (he : Ex P n K w ⟨some d, op, ty, pos, af, none⟩ v w') (hdn : Nat.ble (d + 1) n = true) (h : Rg P n ops Q ((d, v) :: K) w' rest) : Rg P n ops Q K w (⟨some d, op, ty, pos, af, none⟩ :: rest) := Rg.val he rfl rfl hdn h
theorem Rg.mv {x : Operand} (hx : ev K x = some v) (hdn : Nat.ble (d + 1) n = true) (h : Rg P n ops Q ((d, v) :: K) w rest) : Rg P n ops Q K w (⟨some d, .move x, ty, pos, af, none⟩ :: rest) := Rg.vN (X.move hx) hdn h
theorem Rg.st {x : Operand} (hx : ev K x = some v) (hdn : Nat.ble (d + 1) n = true) (h : Rg P n ops Q ((d, v) :: K) w rest) : Rg P n ops Q K w (⟨some d, .assign x, ty, pos, af, none⟩ :: rest) := Rg.vN (X.assign hx) hdn h
theorem Rg.vT (hj : (ops[j]?).bind (·.dst) = some tj) (hk : get K tj = some (.bool W)) (hdn : Nat.ble (d + 1) n = true) (he : W = true → Ex P n K w ⟨some d, op, ty, pos, af, some (j, true)⟩ v w) (h : Rg P n ops Q ((d, gv W v) :: K) w rest) : Rg P n ops Q K w (⟨some d, op, ty, pos, af, some (j, true)⟩ :: rest) := Rg.gvalT rfl hj hk rfl hdn he h
theorem Rg.vF (hj : (ops[j]?).bind (·.dst) = some tj) (hk : get K tj = some (.bool W)) (hdn : Nat.ble (d + 1) n = true) (he : (!W) = true → Ex P n K w ⟨some d, op, ty, pos, af, some (j, false)⟩ v w) (h : Rg P n ops Q ((d, gv (!W) v) :: K) w rest) : Rg P n ops Q K w (⟨some d, op, ty, pos, af, some (j, false)⟩ :: rest) := Rg.gvalF rfl hj hk rfl hdn he h
theorem Rg.vO (hj : (ops[j]?).bind (·.dst) = some tj) (hk : get K tj = some vj) (hv : isB vj b = false) (hdn : Nat.ble (d + 1) n = true) (h : Rg P n ops Q ((d, undef) :: K) w rest) : Rg P n ops Q K w (⟨some d, op, ty, pos, af, some (j, b)⟩ :: rest) := Rg.goff rfl hj hk hv rfl hdn h
def Pk (Q : Exit → Act → World → Prop) : Prop := ∀ c (a : Act) (d : Nat) v w, Q (.panic c) (a.put (some d) v) w → Q (.panic c) a w
def okB (ops : Array Oper) (listed : Array Bool) (i : Nat) : Bool := Region.free .any ops listed i && (Region.ready .any ops listed).contains i
def edgeOn (o : Oper) (i : Nat) : Bool := o.after.any fun e => Region.binds .any e && e.on == i
def regOk (ops : Array Oper) : Bool := Region.noSelect ops && (List.range ops.size).all fun i => match ops[i]? with
  | none => true
  | some oi => (List.range ops.size).all fun j => j == i || match ops[j]? with
    | none => true
    | some oj => edgeOn oj i || edgeOn oi j || oi.apart ops oj
def rdyB (ops : Array Oper) (listed : Array Bool) (i : Nat) : Bool := !listed.getD i true && match ops[i]? with
  | none => false
  | some o => o.after.all fun e => !Region.binds .any e || listed.getD e.on false
theorem okB_of {i : Nat} (hs : regOk ops = true) (h : rdyB ops listed i = true) : okB ops listed i = true := by
  have hs2 := and_r hs
  have hl := and_l h
  have hr := and_r h
  cases ho : ops[i]? with
  | none => rw [ho] at hr; cases hr
  | some oi =>
    rw [ho] at hr
    have hsz : i < ops.size := (Array.getElem?_eq_some_iff.1 ho).1
    unfold okB
    rw [Bool.and_eq_true]
    constructor
    · simp only [Region.free, ho, List.all_eq_true, List.mem_range]
      intro j hj
      have h1 := List.all_eq_true.1 hs2 i (List.mem_range.2 hsz)
      rw [ho] at h1
      have h2 := List.all_eq_true.1 h1 j (List.mem_range.2 hj)
      cases hoj : ops[j]? with
      | none => simp
      | some oj =>
        rw [hoj] at h2
        simp only [Bool.or_eq_true] at h2 ⊢
        rcases h2 with h2 | (h2 | h2) | h2
        · exact .inl (.inl h2)
        · exact .inr (.inl h2)
        · obtain ⟨e, he, hb⟩ := Array.any_eq_true'.1 h2
          simp only [Bool.and_eq_true, beq_iff_eq] at hb
          have h3 := Array.all_eq_true'.1 hr e he
          rw [hb.1, hb.2] at h3
          have h4 : listed.getD j false = true := by simpa using h3
          refine .inl (.inr ?_)
          rw [Array.getD_eq_getD_getElem?] at h4 ⊢
          cases hg : listed[j]? with
          | none => rw [hg] at h4; cases h4
          | some b => rw [hg] at h4; exact h4
        · exact .inr (.inr h2)
    · rw [List.contains_iff_mem]
      simp only [Region.ready, List.mem_filter, List.mem_range]
      refine ⟨hsz, ?_⟩
      rw [ho]
      simp only [Option.map_some, Option.getD_some, Bool.and_eq_true]
      exact ⟨hl, hr⟩
def Rk (P : Program) (n : Nat) (ops : Array Oper) (Q : Exit → Act → World → Prop) (C : Array Bool → World → Prop) (fuel : Nat) (listed : Array Bool) (K : Env) (w : World) : Prop :=
  Pk Q → regOk ops = true → C listed w → Rc P n ops Q C fuel listed K w
theorem Cd.rD {id : Nat} {l : List Oper} (hm : P.follows .mixedOrders = true) (C : Array Bool → World → Prop) (hs : St w0 D S0 S L w) (hp : Pk Q) (hn : regOk l.toArray = true)
    (h : ∀ w', St w0 D S0 S L w' → C (Array.replicate l.length false) w' ∧ Rk P n l.toArray Q C l.length (Array.replicate l.length false) K w') : Cd P n (Code.region id l.toArray true) Q K w :=
  Cd.regionD hm C hs fun w' _ hs' => (h w' hs').2 hp hn (h w' hs').1
theorem Rk.tN (i : Nat) (hi : ops[i]? = some ⟨some d, op, ty, pos, af, none⟩) (hdn : Nat.ble (d + 1) n = true) (hy : ∀ w, C0 w → Ex P n K w ⟨some d, op, ty, pos, af, none⟩ v w)
    (h : Rk P n ops Q (fun _ w => C0 w) fuel (listed.setIfInBounds i true) ((d, v) :: K) w) (hb : rdyB ops listed i = true := by kernel_rfl) : Rk P n ops Q (fun _ w => C0 w) (fuel + 1) listed K w := fun hq hn hw =>
  Rc.take hi (and_l hn) (and_l (okB_of hn hb)) (and_r (okB_of hn hb)) rfl hdn (fun c a w => hq c a _ _ w) (fun _ _ => Iff.rfl) hw rfl (fun _ w _ _ hc => hy w hc) (h hq hn hw)
theorem Rk.eN (i : Nat) (hi : ops[i]? = some o) (hg : o.guard = none)
    (h : Oq P n Q K w o fun K2 w2 => C (listed.setIfInBounds i true) w2 ∧ Rk P n ops Q C fuel (listed.setIfInBounds i true) K2 w2) (hr : Region.ready .any ops listed = [i] := by kernel_rfl) : Rk P n ops Q C (fuel + 1) listed K w := fun hq hn _ =>
  Rc.one hi hr hg fun a ha K' hK => h a ha K' fun a' w' ⟨K2, h1, h2, h3⟩ => hK a' w' ⟨K2, h1, h2, h3 hq hn h2⟩
theorem Rk.split (hk : get K tj = some (.bool b)) (h1 : b = true → Rk P n ops Q C fuel listed ((tj, .bool true) :: K) w) (h0 : b = false → Rk P n ops Q C fuel listed ((tj, .bool false) :: K) w) : Rk P n ops Q C fuel listed K w := fun hq hn hw =>
  Rc.split hk (fun e => h1 e hq hn hw) (fun e => h0 e hq hn hw)
theorem Rk.done (h : ∀ a, Ag n a K → Q .normal a w) (hr : Region.ready .any ops listed = [] := by kernel_rfl) : Rk P n ops Q C fuel listed K w := fun _ _ _ => Rc.done hr h
theorem Rk.weak (K' : Env) (hs : Sub K' K) (h : Rk P n ops Q C fuel listed K' w) : Rk P n ops Q C fuel listed K w := fun hq hn hw => Rc.weak K' hs (h hq hn hw)
theorem Rk.mk {C' : Array Bool → World → Prop} (hp : C' listed w) (hm : ∀ l w, C' l w → C l w) (h : Rk P n ops Q C' fuel listed K w) : Rk P n ops Q C fuel listed K w := fun hq hn _ => Rc.more hm (h hq hn hp)
def Hp (b : Nat) (cs : Array Value) (t : TypeId) (w : World) : Prop := w.heap[b]? = some (.cells cs t (0, 0))
end
end Go.Lk
