/- A part of this proof: AlarmLast returns true for every input and leaves its arguments as they were; there are no conditions. -/
import Derived.Test.YtaclkgdbkejfjaaL6
set_option linter.unusedVariables false
set_option linter.unusedSimpArgs false
namespace Go.Lk
open Go.RowKit
section
variable {P : Program} {n : Nat} {Q : Exit → Act → World → Prop} {K : Env} {w w' : World} {ops : Array Oper} {o : Oper} {v : Value} {md : Region.Mode} {C : Array Bool → World → Prop}
variable {w0 : World} {D : List Nat} {S0 S : Mp} {L : List Res}
def wpAnyC (P : Program) (md : Region.Mode) (ops : Array Oper) (Q : Exit → Act → World → Prop) (C : Array Bool → World → Prop) : Nat → Array Bool → Act → World → Prop
  | 0, listed, a, w => Region.ready md ops listed = [] ∧ Q .normal a w
  | fuel + 1, listed, a, w =>
    (Region.ready md ops listed = [] → Q .normal a w) ∧
    ∀ i ∈ Region.ready md ops listed, wpOp P ops Q i (fun a' w' => C (listed.setIfInBounds i true) w' ∧ wpAnyC P md ops Q C fuel (listed.setIfInBounds i true) a' w') a w
theorem wpAny_of_C : ∀ (fuel : Nat) (listed : Array Bool) (a : Act) (w : World), wpAnyC P md ops Q C fuel listed a w → wpAny P md ops Q fuel listed a w
  | 0, _, _, _, h => h
  | fuel + 1, _, _, _, h => ⟨h.1, fun i hi => wpOp_mono (fun a' w' h' => wpAny_of_C fuel _ a' w' h'.2) (h.2 i hi)⟩
def Clos (md : Region.Mode) (ops : Array Oper) (l : Array Bool) : Prop := ∀ (j : Nat) (oj : Oper), ops[j]? = some oj → l.getD j false = true → ∀ e ∈ oj.after, Region.binds md e = true → l.getD e.on false = true
theorem Clos.set {l : Array Bool} (h : Clos md ops l) {i : Nat} (hr : i ∈ Region.ready md ops l) : Clos md ops (l.setIfInBounds i true) := by
  intro j oj hj hl e he hb
  obtain ⟨_, oi, hoi, hall⟩ := mem_ready.1 hr
  by_cases hji : i = j
  · subst hji
    rw [hoi] at hj
    injection hj with hj
    subst hj
    exact getD_set_true (hall e he hb)
  · rw [getD_set_ne false hji] at hl
    exact getD_set_true (h j oj hj hl e he hb)
theorem Clos.lt {l : Array Bool} (h : Clos .any ops l) {i s : Nat} {os : Oper} (hs : ops[s]? = some os) (he : os.after.any (fun e => Region.binds .any e && e.on == i) = true) (hl : l.getD i true = false) : l.getD s false = false := by
  cases hq : l.getD s false with
  | false => rfl
  | true =>
    obtain ⟨e, he1, he2⟩ := Array.any_eq_true'.1 he
    simp only [Bool.and_eq_true, beq_iff_eq] at he2
    have := h s os hs hq e he1 he2.1
    rw [he2.2] at this
    rcases Nat.lt_or_ge i l.size with h' | h'
    · simp [h'] at hl this; rw [hl] at this; cases this
    · simp [Array.getElem?_eq_none h'] at this
theorem wpAnyC_first {i : Nat} {oi : Oper} {v : Value} (hi : ops[i]? = some oi) (hsel : ∀ (j : Nat) (o : Oper) cs b, ops[j]? = some o → o.op ≠ .select cs b)
    (hQ : ∀ c a w, Q (.panic c) (a.put oi.dst v) w → Q (.panic c) a w) (hC : ∀ l w, C (l.setIfInBounds i true) w ↔ C l w) :
    ∀ (fuel : Nat) (listed : Array Bool) (a : Act) (w : World),
      (∀ j oj, ops[j]? = some oj → j ≠ i → listed.getD j true = false → (∀ e ∈ oj.after, Region.binds md e = true → e.on ≠ i) → oi.apart ops oj = true) →
      i ∈ Region.ready md ops listed → YieldsIf P ops (fun w => ∃ l : Array Bool, l.getD i true = false ∧ Clos md ops l ∧ C l w) oi v a → Clos md ops listed → C listed w →
      wpAnyC P md ops Q C fuel (listed.setIfInBounds i true) (a.put oi.dst v) w → wpAnyC P md ops Q C (fuel + 1) listed a w := by
  intro fuel
  induction fuel with
  | zero =>
    intro listed a w _ hr hy hcl hS H
    refine ⟨fun h => (by rw [h] at hr; cases hr), fun j hj => ?_⟩
    by_cases hji : j = i
    · subst hji
      exact hy.wpOp hi ⟨listed, (mem_ready.1 hr).1, hcl, hS⟩ ⟨(hC _ _).2 hS, H⟩
    · have := ready_mono hj hji
      rw [H.1] at this
      cases this
  | succ fuel ih =>
    intro listed a w hfree hr hy hcl hS H
    refine ⟨fun h => (by rw [h] at hr; cases hr), fun j hj => ?_⟩
    by_cases hji : j = i
    · subst hji
      exact hy.wpOp hi ⟨listed, (mem_ready.1 hr).1, hcl, hS⟩ ⟨(hC _ _).2 hS, H⟩
    · have h1 := H.2 j (ready_mono hj hji)
      obtain ⟨hjun, oj, hoj, hall⟩ := mem_ready.1 hj
      have hiun := (mem_ready.1 hr).1
      have hnot : ∀ e ∈ oj.after, Region.binds md e = true → e.on ≠ i := fun e he hb heq => by
        have h1 := hall e he hb
        rw [heq] at h1
        rcases Nat.lt_or_ge i listed.size with h' | h'
        · simp [h'] at hiun h1; rw [hiun] at h1; cases h1
        · simp [Array.getElem?_eq_none h'] at h1
      have h2 := wpOp_putIf hoj (hfree j oj hoj hji hjun hnot) (fun cs b => hsel i oi cs b hi) (fun cs b => hsel j oj cs b hoj) hQ hy h1
      have hfree' : ∀ k ok, ops[k]? = some ok → k ≠ i → (listed.setIfInBounds j true).getD k true = false →
          (∀ e ∈ ok.after, Region.binds md e = true → e.on ≠ i) → oi.apart ops ok = true := fun k ok hk hki hun hno => by
        refine hfree k ok hk hki ?_ hno
        by_cases hjk : j = k
        · subst hjk; exact hjun
        · rw [getD_set_ne true hjk] at hun; exact hun
      refine wpOp_mono (fun a' w' h3 => ?_) h2
      obtain ⟨hy', hc', hw'⟩ := h3
      rw [Array.setIfInBounds_comm _ _ (Ne.symm hji)] at hc' hw'
      have hc2 := (hC _ _).1 hc'
      exact ⟨hc2, ih (listed.setIfInBounds j true) a' w' hfree' (ready_mono hr (Ne.symm hji)) hy' (hcl.set hj) hc2 hw'⟩
def Rc (P : Program) (n : Nat) (ops : Array Oper) (Q : Exit → Act → World → Prop) (C : Array Bool → World → Prop) (fuel : Nat) (listed : Array Bool) (K : Env) (w : World) : Prop :=
  Clos .any ops listed → ∀ a, Ag n a K → wpAnyC P .any ops Q C fuel listed a w
theorem Cd.regionD {id : Nat} {l : List Oper} (hm : P.follows .mixedOrders = true) (C : Array Bool → World → Prop) (hs : St w0 D S0 S L w)
    (h : ∀ w', w' = w.drew → St w0 D S0 S L w' → Rc P n l.toArray Q C l.length (Array.replicate l.length false) K w') : Cd P n (Code.region id l.toArray true) Q K w := fun a ha =>
  wp_region_any hm (by
    have h1 := wpAny_of_C _ _ _ _ (h w.drew rfl hs.drew (fun j oj hj hl => by rw [Array.getD_eq_getD_getElem?] at hl; simp only [Array.getElem?_replicate] at hl; split at hl <;> simp at hl) a ha)
    simpa using h1)
theorem Rc.take {d : Nat} {fuel i : Nat} {listed : Array Bool} (hi : ops[i]? = some o) (hs : Region.noSelect ops = true) (hf : Region.free .any ops listed i = true) (hr : (Region.ready .any ops listed).contains i = true)
    (hd : o.dst = some d) (hdn : Nat.ble (d + 1) n = true) (hQ : ∀ c a w, Q (.panic c) (a.put (some d) v) w → Q (.panic c) a w) (hC : ∀ l w, C (l.setIfInBounds i true) w ↔ C l w) (hw : C listed w)
    (hg : o.guard = none) (hy : ∀ l w, l.getD i true = false → Clos .any ops l → C l w → Ex P n K w o v w) (h : Rc P n ops Q C fuel (listed.setIfInBounds i true) ((d, v) :: K) w) : Rc P n ops Q C (fuel + 1) listed K w := fun hcl a ha => by
  refine wpAnyC_first (v := v) hi (Region.noSelect_spec hs) (by rw [hd]; exact hQ) hC fuel listed a w (Region.free_spec hi hf) (by simpa using hr)
    (.inl ⟨by simp [Region.wanted, hg], fun w ⟨l, h1, h3, h2⟩ => hy l w h1 h3 h2 a ha⟩) hcl hw ?_
  rw [hd]
  exact h (hcl.set (by simpa using hr)) _ (ha.put d hdn v)
theorem Rc.takeG {d j tj : Nat} {b W : Bool} {vj : Value} {fuel i : Nat} {listed : Array Bool} (hi : ops[i]? = some o) (hs : Region.noSelect ops = true) (hf : Region.free .any ops listed i = true) (hr : (Region.ready .any ops listed).contains i = true)
    (hd : o.dst = some d) (hdn : Nat.ble (d + 1) n = true) (hQ : ∀ c a w, Q (.panic c) (a.put (some d) (gv W v)) w → Q (.panic c) a w) (hC : ∀ l w, C (l.setIfInBounds i true) w ↔ C l w) (hw : C listed w)
    (hg : o.guard = some (j, b)) (hj : (ops[j]?).bind (·.dst) = some tj) (hk : get K tj = some vj) (hW : W = isB vj b) (hy : W = true → ∀ l w, l.getD i true = false → Clos .any ops l → C l w → Ex P n K w o v w)
    (h : Rc P n ops Q C fuel (listed.setIfInBounds i true) ((d, gv W v) :: K) w) : Rc P n ops Q C (fuel + 1) listed K w := fun hcl a ha => by
  have h2 := yielded_of hj (ha.2.2 tj vj hk)
  have hwant : Region.wanted o (yielded ops a.tmps) = W := by
    simp only [Region.wanted, hg, h2, hW]
    cases vj with
    | bool c => cases c <;> cases b <;> rfl
    | _ => cases b <;> rfl
  refine wpAnyC_first (v := gv W v) hi (Region.noSelect_spec hs) (by rw [hd]; exact hQ) hC fuel listed a w (Region.free_spec hi hf) (by simpa using hr) ?_ hcl hw ?_
  · cases hWc : W with
    | true => exact .inl ⟨by rw [hwant, hWc], fun w ⟨l, h1, h3, h2⟩ => hy hWc l w h1 h3 h2 a ha⟩
    | false => exact .inr ⟨by rw [hwant, hWc], rfl⟩
  · rw [hd]
    exact h (hcl.set (by simpa using hr)) _ (ha.put d hdn (gv W v))
theorem Rc.one {fuel i : Nat} {listed : Array Bool} (hi : ops[i]? = some o) (hr : Region.ready .any ops listed = [i]) (hg : o.guard = none)
    (h : Oq P n Q K w o fun K2 w2 => C (listed.setIfInBounds i true) w2 ∧ Rc P n ops Q C fuel (listed.setIfInBounds i true) K2 w2) : Rc P n ops Q C (fuel + 1) listed K w := fun hcl a ha => by
  refine ⟨fun h0 => (by rw [h0] at hr; cases hr), fun j hj => ?_⟩
  rw [hr] at hj
  have : j = i := by simpa using hj
  subst this
  unfold wpOp
  simp only [hi, Region.wanted, hg, if_true]
  exact .inl (h a ha _ fun a' w' ⟨K2, h1, h2, h3⟩ => ⟨h2, h3 (hcl.set (by rw [hr]; simp)) a' h1⟩)
theorem Rc.off {d j tj : Nat} {b : Bool} {vj : Value} {fuel i : Nat} {listed : Array Bool} (hi : ops[i]? = some o) (hs : Region.noSelect ops = true) (hf : Region.free .any ops listed i = true) (hr : (Region.ready .any ops listed).contains i = true)
    (hd : o.dst = some d) (hdn : Nat.ble (d + 1) n = true) (hQ : ∀ c a w, Q (.panic c) (a.put (some d) undef) w → Q (.panic c) a w) (hC : ∀ l w, C (l.setIfInBounds i true) w ↔ C l w) (hw : C listed w)
    (hg : o.guard = some (j, b)) (hj : (ops[j]?).bind (·.dst) = some tj) (hk : get K tj = some vj) (hv : isB vj b = false)
    (h : Rc P n ops Q C fuel (listed.setIfInBounds i true) ((d, undef) :: K) w) : Rc P n ops Q C (fuel + 1) listed K w :=
  Rc.takeG (W := false) (v := undef) hi hs hf hr hd hdn hQ hC hw hg hj hk hv.symm (fun e => by cases e) h
theorem Rc.split {fuel : Nat} {listed : Array Bool} {tj : Nat} {c : Bool} (hk : get K tj = some (.bool c)) (h1 : c = true → Rc P n ops Q C fuel listed ((tj, .bool true) :: K) w) (h0 : c = false → Rc P n ops Q C fuel listed ((tj, .bool false) :: K) w) : Rc P n ops Q C fuel listed K w := fun hcl a ha => by
  have hk2 : Ag n a ((tj, .bool c) :: K) := ⟨ha.1, ha.2.1, fun t u hu => by
    unfold get at hu
    cases e1 : Nat.beq tj t with
    | true =>
      rw [e1] at hu
      have : tj = t := Nat.eq_of_beq_eq_true e1
      subst this
      have : Value.bool c = u := by simpa using hu
      subst this
      exact ha.2.2 tj _ hk
    | false => rw [e1] at hu; exact ha.2.2 t u (by simpa using hu)⟩
  cases c with
  | true => exact h1 rfl hcl a hk2
  | false => exact h0 rfl hcl a hk2
theorem Rc.done {fuel : Nat} {listed : Array Bool} (hr : Region.ready .any ops listed = []) (h : ∀ a, Ag n a K → Q .normal a w) : Rc P n ops Q C fuel listed K w := fun hcl a ha => by
  cases fuel with
  | zero => exact ⟨hr, h a ha⟩
  | succ fuel => exact ⟨fun _ => h a ha, by rw [hr]; simp⟩
theorem wpAnyC_mono {C' : Array Bool → World → Prop} (hC : ∀ l w, C' l w → C l w) : ∀ (fuel : Nat) (listed : Array Bool) (a : Act) (w : World), wpAnyC P md ops Q C' fuel listed a w → wpAnyC P md ops Q C fuel listed a w
  | 0, _, _, _, h => h
  | fuel + 1, _, _, _, h => ⟨h.1, fun i hi => wpOp_mono (fun a' w' h' => ⟨hC _ _ h'.1, wpAnyC_mono hC fuel _ a' w' h'.2⟩) (h.2 i hi)⟩
theorem Rc.more {C' : Array Bool → World → Prop} {fuel : Nat} {listed : Array Bool} (hC : ∀ l w, C' l w → C l w) (h : Rc P n ops Q C' fuel listed K w) : Rc P n ops Q C fuel listed K w := fun hcl a ha => wpAnyC_mono hC _ _ _ _ (h hcl a ha)
theorem Rc.weak {fuel : Nat} {listed : Array Bool} (K' : Env) (hs : Sub K' K) (h : Rc P n ops Q C fuel listed K' w) : Rc P n ops Q C fuel listed K w := fun hcl a ha => h hcl a (ha.weak hs)
theorem St.heap (h : St w0 D S0 S L w) (i : Nat) {b : Nat} {cs : Array Value} {t : TypeId} (hi : L[i]? = some (.box b cs t)) : w.heap[b]? = some (.cells cs t (0, 0)) := (h.ok _ (List.mem_of_getElem? hi)).1
theorem heap_cell {b j : Nat} {cs : Array Value} {t : TypeId} (h : w.heap[b]? = some (.cells cs t (0, 0))) (hj : cs[j]? = some v) : w.cell? ⟨b, j, none⟩ = some v := by
  rw [cell_of_row w b j cs t (0, 0) h]; exact hj
end
end Go.Lk
