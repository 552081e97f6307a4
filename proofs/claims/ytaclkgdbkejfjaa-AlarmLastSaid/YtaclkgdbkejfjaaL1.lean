/- A part of this proof: AlarmLast returns true for every input and leaves its arguments as they were; there are no conditions. -/
import Derived.Below
import Derived.Tactics
import Derived.WalkKit
import Derived.RowKit3
import Derived.Laws.AppendOwn
import Derived.Laws.OwnMore
import Derived.Orders
import Derived.Maps.AppendAt
import Derived.OrdersHeld
set_option linter.unusedVariables false
set_option linter.unusedSimpArgs false
namespace Go.Lk
open Go.RowKit
abbrev Env := List (Nat × Value)
def get : Env → Nat → Option Value
  | [], _ => none
  | (t, v) :: r, s => bif Nat.beq t s then some v else get r s
def Ag (n : Nat) (a : Act) (K : Env) : Prop := a.defers = [] ∧ a.tmps.size = n ∧ ∀ t v, get K t = some v → a.tmps.getD t undef = v
def ev (K : Env) : Operand → Option Value
  | .tmp t => get K t
  | .const v => some v
  | .global g => some (.pointer (some ⟨g, 0, none⟩))
  | .func f => some (.func (.func f) #[] #[])
theorem Ag.ev {n : Nat} {a : Act} {K : Env} (h : Ag n a K) {x : Operand} {v : Value} (hx : ev K x = some v) : a.eval x = v := by
  cases x with
  | tmp t => exact h.2.2 t v hx
  | const c => exact Option.some.inj hx
  | global g => exact Option.some.inj hx
  | func f => exact Option.some.inj hx
theorem Ag.put {n : Nat} {a : Act} {K : Env} (h : Ag n a K) (d : Nat) (hd : Nat.ble (d + 1) n = true) (v : Value) : Ag n (a.put (some d) v) ((d, v) :: K) := by
  obtain ⟨h1, h2, h3⟩ := h
  have hd' : d < n := Nat.le_of_ble_eq_true hd
  refine ⟨h1, by simp [Act.put, h2], fun t u hu => ?_⟩
  unfold get at hu
  cases e : Nat.beq d t with
  | true =>
    rw [e] at hu
    have : d = t := Nat.eq_of_beq_eq_true e
    subst this
    have : v = u := by simpa using hu
    subst this
    simp [Act.put, Array.getD_eq_getD_getElem?, Array.getElem?_setIfInBounds_self_of_lt (show d < a.tmps.size by omega)]
  | false =>
    rw [e] at hu
    have hne : d ≠ t := fun e' => by subst e'; simp at e
    have := h3 t u (by simpa using hu)
    simpa [Act.put, Array.getD_eq_getD_getElem?, Array.getElem?_setIfInBounds_ne hne] using this
def Sub : Env → Env → Prop
  | [], _ => True
  | (t, v) :: r, K => get K t = some v ∧ Sub r K
theorem Sub.get {K' K : Env} (h : Sub K' K) {t : Nat} {v : Value} (hv : get K' t = some v) : get K t = some v := by
  induction K' with
  | nil => cases hv
  | cons p r ih =>
    obtain ⟨s, u⟩ := p
    obtain ⟨h1, h2⟩ := h
    unfold Lk.get at hv
    cases e : Nat.beq s t with
    | true =>
      rw [e] at hv
      have : s = t := Nat.eq_of_beq_eq_true e
      subst this
      have : u = v := by simpa using hv
      subst this
      exact h1
    | false => rw [e] at hv; exact ih h2 (by simpa using hv)
theorem Ag.weak {n : Nat} {a : Act} {K K' : Env} (h : Ag n a K) (hs : Sub K' K) : Ag n a K' :=
  ⟨h.1, h.2.1, fun t v hv => h.2.2 t v (hs.get hv)⟩
def Cd (P : Program) (n : Nat) (c : Code) (Q : Exit → Act → World → Prop) (K : Env) (w : World) : Prop := ∀ a, Ag n a K → c.wp P Q a w
def Rg (P : Program) (n : Nat) (ops : Array Oper) (Q : Exit → Act → World → Prop) (K : Env) (w : World) (l : List Oper) : Prop := ∀ a, Ag n a K → wpList P ops Q l a w
section
variable {P : Program} {n : Nat} {Q : Exit → Act → World → Prop} {K : Env} {w : World}
theorem Cd.weak {c : Code} (K' : Env) (hs : Sub K' K) (h : Cd P n c Q K' w) : Cd P n c Q K w := fun a ha => h a (ha.weak hs)
theorem Cd.seq {x y : Code} (h : Cd P n x (Exit.then (y.wp P Q) Q) K w) : Cd P n (Code.seq x y) Q K w := fun a ha => wp_seq (h a ha)
theorem Cd.skip (h : ∀ a, Ag n a K → Q .normal a w) : Cd P n Code.skip Q K w := fun a ha => wp_skip (h a ha)
theorem Cd.exit {id : Nat} (h : ∀ a, Ag n a K → Q (.exit id) a w) : Cd P n (Code.exit id) Q K w := fun a ha => wp_exit (h a ha)
theorem Cd.block {id : Nat} {c : Code} (h : Cd P n c (Exit.inBlock id Q) K w) : Cd P n (Code.block id c) Q K w := fun a ha => wp_block (h a ha)
theorem Cd.region {id : Nat} {l : List Oper} (h : Rg P n l.toArray Q K w l) : Cd P n (Code.region id l.toArray false) Q K w := fun a ha => wp_region_lit (h a ha)
theorem Cd.cond {c : Operand} {x y : Code} {t : Bool} (hc : ev K c = some (.bool t)) (h1 : t = true → Cd P n x Q K w) (h0 : t = false → Cd P n y Q K w) : Cd P n (Code.cond c x y) Q K w :=
  fun a ha => wp_cond_split (ha.ev hc) (fun e => h1 e a ha) (fun e => h0 e a ha)
theorem Cd.cond0 {c : Operand} {x y : Code} (hc : ev K c = some (.bool false)) (h1 : Cd P n y Q K w) : Cd P n (Code.cond c x y) Q K w :=
  fun a ha => wp_cond_false (ha.ev hc) (h1 a ha)
theorem Rg.nil {ops : Array Oper} (h : ∀ a, Ag n a K → Q .normal a w) : Rg P n ops Q K w [] := fun a ha => wpList_nil (h a ha)
theorem Rg.go {ops : Array Oper} {y : Code} (h : Cd P n y Q K w) : Rg P n ops (Exit.then (y.wp P Q) Q) K w [] := fun a ha => wpList_nil (h a ha)
theorem Cd.go {y : Code} (h : Cd P n y Q K w) : ∀ a, Ag n a K → Exit.then (y.wp P Q) Q .normal a w := fun a ha => h a ha
theorem Cd.post {x : Code} (J : Env → World → Prop) (h2 : ∀ K w, J K w → ∀ a, Ag n a K → Q .normal a w)
    (h1 : Cd P n x (Exit.then (fun a w => ∃ K, Ag n a K ∧ J K w) Q) K w) : Cd P n x Q K w := fun a ha =>
  Code.wp_mono (fun e a' w' q => by
    cases e with
    | normal => obtain ⟨K', hK, hJ⟩ := q; exact h2 K' w' hJ a' hK
    | _ => exact q) (h1 a ha)
end
inductive Flow (σ ρ : Type) where
  | next (s : σ)
  | brk (s : σ)
  | ret (r : ρ)
inductive LoopR {σ ρ : Type} (body : σ → Option (Flow σ ρ)) : σ → Flow σ ρ → Prop
  | brk {s s'} (h : body s = some (.brk s')) : LoopR body s (.brk s')
  | ret {s r} (h : body s = some (.ret r)) : LoopR body s (.ret r)
  | next {s s' o} (h : body s = some (.next s')) (r : LoopR body s' o) : LoopR body s o
theorem LoopR.det {σ ρ : Type} {body : σ → Option (Flow σ ρ)} {s : σ} {o o' : Flow σ ρ} (h : LoopR body s o) (h' : LoopR body s o') : o = o' := by
  induction h with
  | brk e => cases h' with
    | brk e' => rw [e] at e'; injection e' with e'
    | ret e' => rw [e] at e'; cases e'
    | next e' _ => rw [e] at e'; cases e'
  | ret e => cases h' with
    | brk e' => rw [e] at e'; cases e'
    | ret e' => rw [e] at e'; injection e' with e'
    | next e' _ => rw [e] at e'; cases e'
  | next e _ ih => cases h' with
    | brk e' => rw [e] at e'; cases e'
    | ret e' => rw [e] at e'; cases e'
    | next e' r' => rw [e] at e'; injection e' with e'; injection e' with e'; subst e'; exact ih r'
open Classical in
noncomputable def loopF {σ ρ : Type} (body : σ → Option (Flow σ ρ)) (s : σ) : Option (Flow σ ρ) :=
  if h : ∃ o, LoopR body s o then some (Classical.choose h) else none
theorem loopF_iff {σ ρ : Type} {body : σ → Option (Flow σ ρ)} {s : σ} {o : Flow σ ρ} : loopF body s = some o ↔ LoopR body s o := by
  unfold loopF
  constructor
  · intro h
    split at h
    · rename_i hex
      injection h with h
      exact h ▸ Classical.choose_spec hex
    · cases h
  · intro h
    have hex : ∃ o, LoopR body s o := ⟨o, h⟩
    rw [dif_pos hex]
    exact congrArg some (LoopR.det (Classical.choose_spec hex) h)
theorem loopF_next {σ ρ : Type} {body : σ → Option (Flow σ ρ)} {s s' : σ} (h : body s = some (.next s')) : loopF body s = loopF body s' := by
  cases e : loopF body s' with
  | some o => exact loopF_iff.2 (.next h (loopF_iff.1 e))
  | none =>
    cases e2 : loopF body s with
    | none => rfl
    | some o =>
      cases loopF_iff.1 e2 with
      | brk h' => rw [h] at h'; cases h'
      | ret h' => rw [h] at h'; cases h'
      | next h' r =>
        rw [h] at h'; injection h' with h'; injection h' with h'; subst h'
        rw [loopF_iff.2 r] at e; cases e
theorem loopF_brk {σ ρ : Type} {body : σ → Option (Flow σ ρ)} {s s' : σ} (h : body s = some (.brk s')) : loopF body s = some (.brk s') := loopF_iff.2 (.brk h)
theorem loopF_ret {σ ρ : Type} {body : σ → Option (Flow σ ρ)} {s : σ} {r : ρ} (h : body s = some (.ret r)) : loopF body s = some (.ret r) := loopF_iff.2 (.ret h)
section
variable {P : Program} {n : Nat} {Q : Exit → Act → World → Prop} {K : Env} {w : World}
theorem Cd.loop {σ ρ : Type} {c : Code} (body : σ → Option (Flow σ ρ)) (I : σ → Env → World → Prop) (s0 : σ) (out : Flow σ ρ) (hrun : loopF body s0 = some out) (h0 : I s0 K w)
    (round : ∀ s fl K w, body s = some fl → I s K w → ((∀ s', fl ≠ .next s') → fl = out) →
      Cd P n c (Exit.then (fun a w => ∃ s' K, fl = .next s' ∧ Ag n a K ∧ I s' K w) Q) K w) : Cd P n (Code.loop c) Q K w := by
  intro a0 ha0 b k cs
  have key : ∀ s o, LoopR body s o → o = out → ∀ K w, I s K w → ∀ a, Ag n a K →
      ∃ e a' w', Q e a' w' ∧ Arrives P (lone (b.at a (.code c :: .inLoop c :: k)) cs w) b k cs e a' w' := by
    intro s o hr
    have last : ∀ (fl : Flow σ ρ) (K : Env) (w : World), (∀ s', fl ≠ .next s') → ∀ a, Cd P n c (Exit.then (fun a w => ∃ s' K, fl = .next s' ∧ Ag n a K ∧ I s' K w) Q) K w → Ag n a K →
        ∃ e a' w', Q e a' w' ∧ Arrives P (lone (b.at a (.code c :: .inLoop c :: k)) cs w) b k cs e a' w' := by
      intro fl K w hne a hc ha
      obtain ⟨e, a₁, w₁, hq, harr⟩ := hc a ha b (.inLoop c :: k) cs
      cases e with
      | normal => obtain ⟨s', K', hf, _⟩ := hq; exact absurd hf (hne s')
      | exit id => exact ⟨_, a₁, w₁, hq, .pass (x := .inLoop c) rfl (fun _ _ => .inl (by simp)) harr⟩
      | goto l => exact ⟨_, a₁, w₁, hq, .pass (x := .inLoop c) rfl (fun _ _ => .inl (by simp)) harr⟩
      | ret => exact ⟨_, a₁, w₁, hq, .pass (x := .inLoop c) rfl (fun _ _ => .inl (by simp)) harr⟩
      | panic ch => exact ⟨_, a₁, w₁, hq, .pass (x := .inLoop c) rfl (fun _ _ => .inl (by simp)) harr⟩
      | outgrown => exact ⟨_, a₁, w₁, hq, .pass (x := .inLoop c) rfl (fun _ _ => .inl (by simp)) harr⟩
    induction hr with
    | brk h => exact fun ho K w hI a ha => last _ K w (by intro s' e; cases e) a (round _ _ K w h hI (fun _ => ho)) ha
    | ret h => exact fun ho K w hI a ha => last _ K w (by intro s' e; cases e) a (round _ _ K w h hI (fun _ => ho)) ha
    | next h r ih =>
      intro ho K w hI a ha
      obtain ⟨e, a₁, w₁, hq, harr⟩ := round _ _ K w h hI (fun hne => absurd rfl (hne _)) a ha b (.inLoop c :: k) cs
      cases e with
      | normal =>
        obtain ⟨s', K', hf, hA, hI'⟩ := hq
        injection hf with hf
        subst hf
        obtain ⟨e₂, a₂, w₂, hq₂, harr₂⟩ := ih ho K' w₁ hI' a₁ hA
        exact ⟨e₂, a₂, w₂, hq₂, .of_steps (Steps.trans harr (.one step_inLoop)) harr₂⟩
      | exit id => exact ⟨_, a₁, w₁, hq, .pass (x := .inLoop c) rfl (fun _ _ => .inl (by simp)) harr⟩
      | goto l => exact ⟨_, a₁, w₁, hq, .pass (x := .inLoop c) rfl (fun _ _ => .inl (by simp)) harr⟩
      | ret => exact ⟨_, a₁, w₁, hq, .pass (x := .inLoop c) rfl (fun _ _ => .inl (by simp)) harr⟩
      | panic ch => exact ⟨_, a₁, w₁, hq, .pass (x := .inLoop c) rfl (fun _ _ => .inl (by simp)) harr⟩
      | outgrown => exact ⟨_, a₁, w₁, hq, .pass (x := .inLoop c) rfl (fun _ _ => .inl (by simp)) harr⟩
  obtain ⟨e, a', w', hq, harr⟩ := key s0 out (loopF_iff.1 hrun) rfl K w h0 a0 ha0
  exact ⟨e, a', w', hq, .of_steps (.one step_loop) harr⟩
end
end Go.Lk
