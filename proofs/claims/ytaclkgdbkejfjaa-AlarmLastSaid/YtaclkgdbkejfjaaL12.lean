/- A part of this proof: AlarmLast returns true for every input and leaves its arguments as they were; there are no conditions. -/
import Derived.Test.YtaclkgdbkejfjaaL10
import Derived.Deep.Slices
import Derived.SizedLaws
import Derived.Carry
import Derived.ProofKit
import Derived.OpenShut
import Derived.ChangeOld
set_option linter.unusedVariables false
set_option linter.unusedSimpArgs false
namespace Go.Lk
open Go.RowKit
def Opn {H : Type} (enc : TypeId × Value → H) (P : Program) (w : World) (t : TypeId) (sz : Nat) {α : Type} (R : Rel α) (Q : α → Prop) : Prop :=
  ∀ (base : Nat) (spare : Nat → Bool) (held : Bool) (fuel : Nat) (cs : List Value) (x : DataW H × List MemPlace), DataW.trod enc P w base spare held fuel t cs = some x →
    (∀ n ∈ x.1.weights P t, n ≤ reachBytes) → ∃ a : α, R (fun a => w.cell? a) cs a ∧ Q a ∧ cs.length = sz ∧ ∀ u ∈ cs, u.oneCell' = true
section
variable {H : Type} {enc : TypeId × Value → H} {P : Program} {w : World} {t e : TypeId}
theorem has_self (w : World) : Has (fun a => w.cell? a) w := fun _ _ h => h
theorem Opn.int {k : IntKind} (ht : P.underlying t = some (.int k)) : Opn enc P w t 1 (RI k) (fun n => (Lit.int k n).wf = true) := fun base spare held fuel cs x h _ => by
  obtain ⟨n, rfl, _, hw⟩ := DataW.trod_int ht h
  exact ⟨n, rfl, hw, rfl, by simp [Value.oneCell']⟩
theorem Opn.bool (ht : P.underlying t = some .bool) : Opn enc P w t 1 RB (fun _ => True) := fun base spare held fuel cs x h _ => by
  obtain ⟨b, rfl, _⟩ := DataW.trod_bool ht h
  exact ⟨b, rfl, trivial, rfl, by simp [Value.oneCell']⟩
theorem weightsAll_mem : ∀ {l : List (DataW H)} {d : DataW H}, d ∈ l → ∀ n ∈ d.weights P e, n ∈ DataW.weightsAll P e l
  | d0 :: l, d, hd, n, hn => by
    simp only [DataW.weightsAll, List.mem_append]
    rcases List.mem_cons.1 hd with rfl | hd
    · exact .inl hn
    · exact .inr (weightsAll_mem hd n hn)
theorem Fl.app1 {α : Type} {S : Mp} {sz : Nat} {R : Rel α} : ∀ {flat : List Value} {l : List α} {vals : List Value} {x : α}, Fl S sz R flat l → vals.length = sz → (∀ u ∈ vals, u.oneCell' = true) → R S vals x → Fl S sz R (flat ++ vals) (l ++ [x])
  | flat, [], vals, x, h, h1, h2, h3 => by
    have : flat = [] := h
    subst this
    exact ⟨vals, [], by simp, h1, h2, h3, rfl⟩
  | flat, y :: l, vals, x, ⟨v0, rest, e0, q1, q2, q3, q4⟩, h1, h2, h3 => ⟨v0, rest ++ vals, by rw [e0, List.append_assoc], q1, q2, q3, Fl.app1 q4 h1 h2 h3⟩
theorem Opn.slice {α : Type} {R : Rel α} {Q : α → Prop} {sz B : Nat} (ht : P.underlying t = some (.slice e)) (hc : P.cellsOf e = sz) (hB : P.bytesOf e = B) (hsz : 0 < sz) (he : Opn enc P w e sz R Q) :
    Opn enc P w t 1 (RL sz R) (fun l => (∀ a ∈ l, Q a) ∧ l.length * B ≤ 140737488351232) := fun base spare held fuel cs x h hs => by
  rcases Deep.open_slice ht h with ⟨rfl, rfl⟩ | ⟨a, len, cap, m, n, D, Pl, rfl, _, hl, hm, hmm, rfl, hi⟩
  · exact ⟨[], ⟨_, rfl, Rd.nil _ _ _⟩, ⟨by simp, by simp⟩, rfl, by simp [Value.oneCell']⟩
  · have hlm : len ≤ m := by rw [hmm]; split <;> omega
    have hw : ∀ q ∈ (DataW.slice ((List.range len).map D) ((List.range (m - len)).map fun j => D (len + j))).weights P t, q ≤ reachBytes := hs
    simp only [DataW.weights, ht] at hw
    have key : ∀ k, k ≤ len → ∃ (flat : List Value) (l : List α), Fl (fun a => w.cell? a) sz R flat l ∧ l.length = k ∧ flat.length = k * sz ∧ (∀ j u, flat[j]? = some u → w.cell? (a.add j) = some u) ∧ ∀ x ∈ l, Q x := by
      intro k
      induction k with
      | zero => exact fun _ => ⟨[], [], rfl, rfl, by simp, by simp, by simp⟩
      | succ k ih =>
        intro hk
        obtain ⟨flat, l, h1, h2, h3, h4, h5⟩ := ih (by omega)
        obtain ⟨cs', c1, c2⟩ := hi k (by omega)
        obtain ⟨_, hcl, hat⟩ := World.cells?_some c1
        rw [hc] at hcl hat
        obtain ⟨y, r1, r2, r3, r4⟩ := he _ _ _ _ _ _ c2 (fun q hq => hw q (List.mem_cons_of_mem _ (List.mem_append_left _ (weightsAll_mem (d := D k) (List.mem_map.2 ⟨k, by simp; omega, rfl⟩) q hq))))
        refine ⟨flat ++ cs', l ++ [y], h1.app1 r3 r4 r1, by simp [h2], by simp [h3, r3, Nat.add_mul], fun j u hj => ?_, fun x hx => ?_⟩
        · by_cases hjl : j < flat.length
          · rw [List.getElem?_append_left hjl] at hj
            exact h4 j u hj
          · rw [List.getElem?_append_right (by omega)] at hj
            have hjc : j - flat.length < cs'.length := (List.getElem?_eq_some_iff.1 hj).1
            have := hat (j - flat.length) (by omega)
            rw [add_add, h3, show k * sz + (j - k * sz) = j from by omega] at this
            rw [this, ← h3]
            exact hj
        · rcases List.mem_append.1 hx with hx | hx
          · exact h5 x hx
          · simp at hx; subst hx; exact r2
    obtain ⟨flat, l, h1, h2, h3, h4, h5⟩ := key len (Nat.le_refl _)
    have hlen := hw _ (List.mem_cons_self ..)
    refine ⟨l, ⟨_, rfl, some a, cap, flat, by rw [h2], by rw [h2]; exact hl, hm, h1, fun _ => ⟨a, rfl, fun j u hj => h4 j u hj⟩⟩, ⟨h5, ?_⟩, rfl, by simp [Value.oneCell']⟩
    rw [h2, ← hB]
    refine Nat.le_trans (Nat.mul_le_mul_right _ ?_) hlen
    simp
theorem weightsEach_mem {ts : List TypeId} {ds : List (DataW H)} {j : Nat} {t : TypeId} {d : DataW H} (ht : ts[j]? = some t) (hd : ds[j]? = some d) : ∀ n ∈ d.weights P t, n ∈ DataW.weightsEach P ts ds := DataW.weights_mem_each ht hd
theorem Opn.arg {α : Type} {R : Rel α} {Q : α → Prop} {sz base : Nat} {spare : Nat → Bool} {held : Bool} (h : Opn enc P w t sz R Q) {v : Value} {d : DataW H} {p : List MemPlace} (hd : DataW.Trod enc P w base spare held t v d p) (hs : ∀ n ∈ d.weights P t, n ≤ reachBytes) :
    ∃ a : α, R (fun a => w.cell? a) v.cells.toList a ∧ Q a := by
  obtain ⟨fuel, hf⟩ := hd
  obtain ⟨a, h1, h2, _⟩ := h _ _ _ _ _ _ hf hs
  exact ⟨a, h1, h2⟩
theorem Opn.argSlice {α : Type} {R : Rel α} {Q : List α → Prop} {sz base : Nat} {spare : Nat → Bool} {held : Bool} (h : Opn enc P w t 1 (RL sz R) Q) {A : Option Addr} {len cap : Nat} {d : DataW H} {p : List MemPlace} (hd : DataW.Trod enc P w base spare held t (.slice A len cap) d p) (hs : ∀ n ∈ d.weights P t, n ≤ reachBytes) :
    ∃ l : List α, Rd (fun a => w.cell? a) sz R (.slice A len cap) l ∧ Q l := by
  obtain ⟨l, ⟨v, e, hr⟩, hq⟩ := h.arg hd hs
  simp [Value.cells] at e
  rw [← e] at hr
  exact ⟨l, hr, hq⟩
theorem sized_arg {ts : List TypeId} {ds : List (DataW H)} (h : (DataW.weightsEach P ts ds).all (· ≤ reachBytes) = true) {j : Nat} {t : TypeId} {d : DataW H} (ht : ts[j]? = some t) (hd : ds[j]? = some d) : ∀ n ∈ d.weights P t, n ≤ reachBytes := fun n hn => by
  simpa using List.all_eq_true.1 h n (weightsEach_mem ht hd n hn)
theorem St.below {S0 S : Mp} {L : List Res} {w0 w : World} (h : St w0 [] S0 S L w) : Below w0.heap.size w0 w := ⟨h.os.1, h.tape, h.output, h.size, fun k hk => h.old k hk (by simp)⟩
end
end Go.Lk
