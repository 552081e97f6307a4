/- A part of this proof: AlarmLast returns true for every input and leaves its arguments as they were; there are no conditions. -/
import Derived.Test.YtaclkgdbkejfjaaL1
set_option linter.unusedVariables false
set_option linter.unusedSimpArgs false
namespace Go.Lk
open Go.RowKit
abbrev Mp := Addr → Option Value
def Has (S : Mp) (w : World) : Prop := ∀ a v, S a = some v → w.cell? a = some v
def Le (S S' : Mp) : Prop := ∀ a v, S a = some v → S' a = some v
theorem Le.refl (S : Mp) : Le S S := fun _ _ h => h
theorem Le.trans {S S' S'' : Mp} (h : Le S S') (h' : Le S' S'') : Le S S'' := fun a v e => h' a v (h a v e)
theorem add_block (a : Addr) (n : Nat) : (a.add n).block = a.block := by unfold Addr.add; split <;> rfl
theorem add_add (a : Addr) (i j : Nat) : (a.add i).add j = a.add (i + j) := by
  unfold Addr.add
  by_cases hi : i = 0 <;> by_cases hj : j = 0 <;> simp [hi, hj, Nat.add_assoc]
theorem add_plain (g i j : Nat) : (⟨g, i, none⟩ : Addr).add j = ⟨g, i + j, none⟩ := by unfold Addr.add; split <;> simp_all
theorem add_zero' (a : Addr) : a.add 0 = a := by simp [Addr.add]
def El (S : Mp) (p : Addr) (vals : List Value) : Prop := ∀ j u, vals[j]? = some u → S (p.add j) = some u
theorem El.mono {S S' : Mp} {p : Addr} {vals : List Value} (h : El S p vals) (hl : Le S S') : El S' p vals := fun j u e => hl _ _ (h j u e)
theorem El.at_ {S : Mp} {p : Addr} {vals : List Value} (h : El S p vals) (j : Nat) {u : Value} (e : vals[j]? = some u) {w : World} (hw : Has S w) : w.cell? (p.add j) = some u := hw _ _ (h j u e)
theorem El.drop {S : Mp} {p : Addr} {vals : List Value} (h : El S p vals) (k : Nat) : El S (p.add k) (vals.drop k) := fun j u e => by
  rw [add_add]
  exact h (k + j) u (by simpa [List.getElem?_drop] using e)
abbrev Rel (α : Type) := Mp → List Value → α → Prop
class Mono {α : Type} (R : Rel α) : Prop where
  mono : ∀ {S S' vals x}, Le S S' → R S vals x → R S' vals x
def RI (k : IntKind) : Rel Int := fun _ vals x => vals = [.int k x]
def RB : Rel Bool := fun _ vals x => vals = [.bool x]
def RS : Rel ByteArray := fun _ vals x => vals = [.string x]
instance (k : IntKind) : Mono (RI k) := ⟨fun _ h => h⟩
instance : Mono RB := ⟨fun _ h => h⟩
instance : Mono RS := ⟨fun _ h => h⟩
def Fl {α : Type} (S : Mp) (sz : Nat) (R : Rel α) : List Value → List α → Prop
  | flat, [] => flat = []
  | flat, x :: xs => ∃ vals rest, flat = vals ++ rest ∧ vals.length = sz ∧ (∀ u ∈ vals, u.oneCell' = true) ∧ R S vals x ∧ Fl S sz R rest xs
theorem Fl.mono {α : Type} {S S' : Mp} {sz : Nat} {R : Rel α} [Mono R] (hl : Le S S') : ∀ {xs : List α} {flat : List Value}, Fl S sz R flat xs → Fl S' sz R flat xs
  | [], _, h => h
  | _ :: _, _, ⟨vals, rest, h1, h2, h3, h4, h5⟩ => ⟨vals, rest, h1, h2, h3, Mono.mono hl h4, Fl.mono hl h5⟩
theorem Fl.length {α : Type} {S : Mp} {sz : Nat} {R : Rel α} : ∀ {xs : List α} {flat : List Value}, Fl S sz R flat xs → flat.length = xs.length * sz
  | [], flat, h => by have h' : flat = [] := h; simp [h']
  | _ :: xs, _, ⟨vals, rest, h1, h2, h3, h4, h5⟩ => by rw [h1, List.length_append, h2, h5.length, List.length_cons, Nat.add_mul]; omega
theorem Fl.one {α : Type} {S : Mp} {sz : Nat} {R : Rel α} : ∀ {xs : List α} {flat : List Value}, Fl S sz R flat xs → ∀ u ∈ flat, u.oneCell' = true
  | [], flat, h, u, hu => by have h' : flat = [] := h; rw [h'] at hu; cases hu
  | _ :: xs, _, ⟨vals, rest, h1, h2, h3, h4, h5⟩, u, hu => by
    rw [h1] at hu
    rcases List.mem_append.1 hu with h | h
    · exact h3 u h
    · exact h5.one u h
theorem Fl.append {α : Type} {S : Mp} {sz : Nat} {R : Rel α} : ∀ {xs ys : List α} {f g : List Value}, Fl S sz R f xs → Fl S sz R g ys → Fl S sz R (f ++ g) (xs ++ ys)
  | [], ys, f, g, h, h' => by have e : f = [] := h; subst e; exact h'
  | _ :: xs, ys, f, g, ⟨vals, rest, h1, h2, h3, h4, h5⟩, h' => ⟨vals, rest ++ g, by rw [h1, List.append_assoc], h2, h3, h4, h5.append h'⟩
theorem Fl.drop {α : Type} {S : Mp} {sz : Nat} {R : Rel α} : ∀ {xs : List α} {f : List Value} (k : Nat), Fl S sz R f xs → k ≤ xs.length → Fl S sz R (f.drop (k * sz)) (xs.drop k)
  | xs, f, 0, h, _ => by simpa using h
  | [], f, k + 1, h, hk => by simp at hk
  | _ :: xs, f, k + 1, ⟨vals, rest, h1, h2, h3, h4, h5⟩, hk => by
    have := h5.drop k (by simpa using hk)
    have e : f.drop ((k + 1) * sz) = rest.drop (k * sz) := by
      rw [h1, Nat.add_mul, Nat.one_mul, Nat.add_comm (k * sz) sz, ← h2, ← List.drop_drop, List.drop_left]
    rw [e]
    simpa using this
theorem Fl.take {α : Type} {S : Mp} {sz : Nat} {R : Rel α} : ∀ {xs : List α} {f : List Value} (k : Nat), Fl S sz R f xs → k ≤ xs.length → Fl S sz R (f.take (k * sz)) (xs.take k)
  | xs, f, 0, h, _ => by simp; rfl
  | [], f, k + 1, h, hk => by simp at hk
  | x :: xs, f, k + 1, ⟨vals, rest, h1, h2, h3, h4, h5⟩, hk => by
    have := h5.take k (by simpa using hk)
    refine ⟨vals, rest.take (k * sz), ?_, h2, h3, h4, by simpa using this⟩
    rw [h1, Nat.add_mul, Nat.one_mul, Nat.add_comm (k * sz) sz, ← h2, List.take_length_add_append]
def Rd {α : Type} (S : Mp) (sz : Nat) (R : Rel α) (v : Value) (xs : List α) : Prop :=
  ∃ A c flat, v = .slice A xs.length c ∧ xs.length ≤ c ∧ c ≤ maxLen ∧ Fl S sz R flat xs ∧ (flat ≠ [] → ∃ ad, A = some ad ∧ El S ad flat)
theorem Rd.mono {α : Type} {S S' : Mp} {sz : Nat} {R : Rel α} [Mono R] {v : Value} {xs : List α} (h : Rd S sz R v xs) (hl : Le S S') : Rd S' sz R v xs := by
  obtain ⟨A, c, flat, hv, h1, h2, h3, h4⟩ := h
  exact ⟨A, c, flat, hv, h1, h2, h3.mono hl, fun hn => by
    obtain ⟨ad, a1, a2⟩ := h4 hn
    exact ⟨ad, a1, a2.mono hl⟩⟩
theorem Rd.nil {α : Type} (S : Mp) (sz : Nat) (R : Rel α) : Rd S sz R (.slice none 0 0) [] := ⟨none, 0, [], rfl, Nat.le_refl _, Nat.zero_le _, rfl, fun h => absurd rfl h⟩
theorem Rd.len {α : Type} {S : Mp} {sz : Nat} {R : Rel α} {v : Value} {xs : List α} (h : Rd S sz R v xs) : ∃ A c, v = .slice A xs.length c := by
  obtain ⟨A, c, flat, hv, _⟩ := h
  exact ⟨A, c, hv⟩
theorem Rd.lt {α : Type} {S : Mp} {sz : Nat} {R : Rel α} {v : Value} {xs : List α} (h : Rd S sz R v xs) : xs.length ≤ 9223372036854775807 := by
  obtain ⟨A, c, flat, hv, h1, h2, _⟩ := h
  simp only [maxLen] at h2
  omega
theorem Rd.at_ {α : Type} {S : Mp} {sz : Nat} {R : Rel α} {v : Value} {xs : List α} (h : Rd S sz R v xs) (hsz : 0 < sz) {i : Nat} {x : α} (hx : xs[i]? = some x) :
    ∃ ad c vals, v = .slice (some ad) xs.length c ∧ vals.length = sz ∧ R S vals x ∧ El S (ad.add (i * sz)) vals := by
  obtain ⟨A, c, flat, hv, h1, h2, h3, h4⟩ := h
  have hi : i < xs.length := by
    rcases Nat.lt_or_ge i xs.length with h | h
    · exact h
    · rw [List.getElem?_eq_none h] at hx; cases hx
  have hd := h3.drop i (Nat.le_of_lt hi)
  rw [List.drop_eq_getElem_cons hi] at hd
  have hxi : xs[i] = x := by rw [List.getElem?_eq_getElem hi] at hx; exact Option.some.inj hx
  rw [hxi] at hd
  obtain ⟨vals, rest, e1, e2, e3, e4, e5⟩ := hd
  have hne : flat ≠ [] := fun e => by
    subst e
    simp at e1
    have := e1.1
    subst this
    simp at e2
    omega
  obtain ⟨ad, rfl, hE⟩ := h4 hne
  refine ⟨ad, c, vals, hv, e2, e4, fun j u hj => ?_⟩
  have hE2 := hE.drop (i * sz)
  rw [e1] at hE2
  refine hE2 j u ?_
  rw [List.getElem?_append_left (List.getElem?_eq_some_iff.1 hj).1]
  exact hj
def RL {α : Type} (sz : Nat) (R : Rel α) : Rel (List α) := fun S vals xs => ∃ v, vals = [v] ∧ Rd S sz R v xs
instance {α : Type} (sz : Nat) (R : Rel α) [Mono R] : Mono (RL sz R) := ⟨fun hl ⟨v, e, h⟩ => ⟨v, e, h.mono hl⟩⟩
inductive Res where
  | box (b : Nat) (cs : Array Value) (t : TypeId)
  | app (g : Option Nat) (v : Value) (n : Nat) (e : TypeId) (sz : Nat)
  | row (g : Option Nat) (cur : Array Value) (e : TypeId)
  | apf (g : Option Nat) (v : Value) (n : Nat) (e : TypeId) (sz : Nat)
  | mp (b : Nat) (k1 k2 : IntKind) (ps : List (Int × Int))
def Res.blk : Res → Option Nat
  | .box b _ _ => some b
  | .app g _ _ _ _ => g
  | .row g _ _ => g
  | .apf g _ _ _ _ => g
  | .mp b _ _ _ => some b
def Res.ok (S : Mp) (w : World) : Res → Prop
  | .box b cs t => w.heap[b]? = some (.cells cs t (0, 0)) ∧ ∀ a, a.block = b → S a = none
  | .app none v n _ _ => v = .slice none 0 0 ∧ n = 0
  | .row none _ _ => True
  | .row (some g) cur e => w.heap[g]? = some (.cells cur e (0, 0)) ∧ ∀ a, a.block = g → S a = none
  | .app (some g) v n e sz =>
      ∃ cap cur, v = .slice (some ⟨g, 0, none⟩) n cap ∧ w.heap[g]? = some (.cells cur e (0, 0)) ∧ n ≤ cap ∧ cap ≤ maxLen ∧ cur.size = cap * sz ∧
        ∀ a, a.block = g → (a.spot = none → n * sz ≤ a.off) → S a = none
  | .apf none v n _ _ => ∃ A, v = .slice A n n
  | .mp b k1 k2 ps => (∃ es clock, w.heap[b]? = some (.map es clock) ∧ es.toList.map (fun e => (e.key, e.val)) = ps.map (fun p => (Value.int k1 p.1, Value.int k2 p.2))) ∧ ∀ a, a.block = b → S a = none
  | .apf (some g) v n e sz =>
      ∃ cap cur, v = .slice (some ⟨g, 0, none⟩) n cap ∧ w.heap[g]? = some (.cells cur e (0, 0)) ∧ n ≤ cap ∧ cap ≤ maxLen ∧ cur.size = cap * sz ∧
        ∀ a, a.block = g → (a.spot = none → n * sz ≤ a.off) → S a = none
structure St (w0 : World) (D : List Nat) (S0 S : Mp) (L : List Res) (w : World) : Prop where
  os : w.os = w0.os ∧ w0.drawn ≤ w.drawn
  tape : w.tape = w0.tape
  output : w.output = w0.output
  size : w0.heap.size ≤ w.heap.size
  old : ∀ k, k < w0.heap.size → k ∉ D → w.heap[k]? = w0.heap[k]?
  le : Le S0 S
  new : ∀ a v, S a = some v → S0 a = some v ∨ a.block ∈ D ∨ w0.heap.size ≤ a.block
  has : Has S w
  ok : ∀ r ∈ L, r.ok S w
  nodup : (L.filterMap Res.blk).Nodup
  own : ∀ r ∈ L, ∀ b, r.blk = some b → b ∈ D ∨ w0.heap.size ≤ b
theorem Res.ok.lt {S : Mp} {w : World} {r : Res} (h : r.ok S w) {b : Nat} (hb : r.blk = some b) : b < w.heap.size := by
  cases r with
  | box b' cs t => simp [Res.blk] at hb; subst hb; exact (Array.getElem?_eq_some_iff.1 h.1).1
  | app g v n e sz =>
    simp [Res.blk] at hb
    subst hb
    obtain ⟨cap, cur, rfl, hg, _⟩ := h
    exact (Array.getElem?_eq_some_iff.1 hg).1
  | row g cur e =>
    simp [Res.blk] at hb
    subst hb
    exact (Array.getElem?_eq_some_iff.1 h.1).1
  | apf g v n e sz =>
    simp [Res.blk] at hb
    subst hb
    obtain ⟨cap, cur, rfl, hg, _⟩ := h
    exact (Array.getElem?_eq_some_iff.1 hg).1
  | mp b k1 k2 ps => obtain ⟨⟨es, clock, hg, _⟩, _⟩ := h; cases hb; exact (Array.getElem?_eq_some_iff.1 hg).1
theorem Res.ok.keep {S S' : Mp} {w w' : World} {r : Res} (h : r.ok S w) (hb : ∀ b, r.blk = some b → w'.heap[b]? = w.heap[b]?)
    (hS : ∀ a, r.blk = some a.block → S a = none → S' a = none) : r.ok S' w' := by
  cases r with
  | box b cs t => exact ⟨by rw [hb b rfl]; exact h.1, fun a ha => hS a (by simp [Res.blk, ha]) (h.2 a ha)⟩
  | app g v n e sz =>
    cases g with
    | none => exact h
    | some g =>
      obtain ⟨cap, cur, rfl, hg, h1, h2, h3, h4⟩ := h
      exact ⟨cap, cur, rfl, by rw [hb g rfl]; exact hg, h1, h2, h3, fun a ha ho => hS a (by simp [Res.blk, ha]) (h4 a ha ho)⟩
  | row g cur e =>
    cases g with
    | none => exact trivial
    | some g => exact ⟨by rw [hb g rfl]; exact h.1, fun a ha => hS a (by simp [Res.blk, ha]) (h.2 a ha)⟩
  | apf g v n e sz =>
    cases g with
    | none => exact h
    | some g =>
      obtain ⟨cap, cur, rfl, hg, h1, h2, h3, h4⟩ := h
      exact ⟨cap, cur, rfl, by rw [hb g rfl]; exact hg, h1, h2, h3, fun a ha ho => hS a (by simp [Res.blk, ha]) (h4 a ha ho)⟩
  | mp b k1 k2 ps =>
    obtain ⟨⟨es, clock, hg, he⟩, h2⟩ := h
    exact ⟨⟨es, clock, by rw [hb b rfl]; exact hg, he⟩, fun a ha => hS a (by simp [Res.blk, ha]) (h2 a ha)⟩
theorem Has.keep {S : Mp} {w w' : World} (h : Has S w) (hb : ∀ a v, S a = some v → w'.heap[a.block]? = w.heap[a.block]?) : Has S w' :=
  fun a v e => (World.cell?_of_block (hb a v e)).trans (h a v e)
theorem nodup_ne {L : List Res} (h : (L.filterMap Res.blk).Nodup) {i j : Nat} {r s : Res} (hi : L[i]? = some r) (hj : L[j]? = some s) (hij : i ≠ j) {b : Nat} (hb : r.blk = some b) : s.blk ≠ some b := by
  induction L generalizing i j with
  | nil => simp at hi
  | cons x L ih =>
    have hL : (L.filterMap Res.blk).Nodup := by
      cases e : x.blk with
      | none => simpa [List.filterMap_cons, e] using h
      | some c => have := h; simp only [List.filterMap_cons, e, List.nodup_cons] at this; exact this.2
    have hx : ∀ c, x.blk = some c → c ∉ L.filterMap Res.blk := fun c e => by
      have := h; simp only [List.filterMap_cons, e, List.nodup_cons] at this; exact this.1
    cases i with
    | zero =>
      cases j with
      | zero => exact absurd rfl hij
      | succ j =>
        simp at hi hj
        subst hi
        intro hs
        exact hx b hb (List.mem_filterMap.2 ⟨s, List.mem_of_getElem? hj, hs⟩)
    | succ i =>
      cases j with
      | zero =>
        simp at hi hj
        subst hj
        intro hs
        exact hx b hs (List.mem_filterMap.2 ⟨r, List.mem_of_getElem? hi, hb⟩)
      | succ j => simp at hi hj; exact ih hL hi hj (by omega)
theorem nodup_set {L : List Res} (h : (L.filterMap Res.blk).Nodup) {i : Nat} {r r' : Res} (hi : L[i]? = some r)
    (hr : ∀ b, r'.blk = some b → r.blk = some b ∨ ∀ s ∈ L, s.blk ≠ some b) : ((L.set i r').filterMap Res.blk).Nodup := by
  induction L generalizing i with
  | nil => simp at hi
  | cons x L ih =>
    have hL : (L.filterMap Res.blk).Nodup := by
      cases e : x.blk with
      | none => simpa [List.filterMap_cons, e] using h
      | some c => have := h; simp only [List.filterMap_cons, e, List.nodup_cons] at this; exact this.2
    have hx : ∀ c, x.blk = some c → c ∉ L.filterMap Res.blk := fun c e => by
      have := h; simp only [List.filterMap_cons, e, List.nodup_cons] at this; exact this.1
    cases i with
    | zero =>
      simp at hi
      subst hi
      simp only [List.set_cons_zero]
      cases e : r'.blk with
      | none => simpa [List.filterMap_cons, e] using hL
      | some b =>
        simp only [List.filterMap_cons, e, List.nodup_cons]
        refine ⟨?_, hL⟩
        rcases hr b e with h1 | h1
        · exact hx b h1
        · intro hm
          obtain ⟨s, hs, hsb⟩ := List.mem_filterMap.1 hm
          exact h1 s (List.mem_cons_of_mem _ hs) hsb
    | succ i =>
      simp at hi
      simp only [List.set_cons_succ]
      have hr' : ∀ b, r'.blk = some b → r.blk = some b ∨ ∀ s ∈ L, s.blk ≠ some b := fun b hb => (hr b hb).imp id (fun h1 s hs => h1 s (List.mem_cons_of_mem _ hs))
      have := ih hL hi hr'
      cases e : x.blk with
      | none => simpa [List.filterMap_cons, e] using this
      | some c =>
        simp only [List.filterMap_cons, e, List.nodup_cons]
        refine ⟨?_, this⟩
        intro hm
        obtain ⟨s, hs, hsb⟩ := List.mem_filterMap.1 hm
        rcases List.mem_or_eq_of_mem_set hs with h2 | h2
        · exact hx c e (List.mem_filterMap.2 ⟨s, h2, hsb⟩)
        · subst h2
          rcases hr c hsb with h3 | h3
          · exact hx c e (List.mem_filterMap.2 ⟨r, List.mem_of_getElem? hi, h3⟩)
          · exact h3 x (List.mem_cons_self ..) e
section
variable {w0 w : World} {D : List Nat} {S0 S : Mp} {L : List Res}
theorem St.start (w : World) (S : Mp) (h : Has S w) : St w [] S S [] w :=
  ⟨⟨rfl, Nat.le_refl _⟩, rfl, rfl, Nat.le_refl _, fun _ _ _ => rfl, Le.refl _, fun _ _ e => .inl e, h, by simp, by simp, by simp⟩
theorem St.more (h : St w0 D S0 S L w) {w' : World} (ho : w'.os = w.os) (ht : w'.tape = w.tape) (hu : w'.output = w.output) (hz : w.heap.size ≤ w'.heap.size)
    (hb : ∀ k, k < w.heap.size → w'.heap[k]? = w.heap[k]?) (hd : w.drawn ≤ w'.drawn := by exact Nat.le_refl _) : St w0 D S0 S L w' := by
  have hlt : ∀ a v, S a = some v → a.block < w.heap.size := fun a v e => World.block_lt_of_cell? w a (h.has a v e)
  exact ⟨⟨ho.trans h.os.1, Nat.le_trans h.os.2 hd⟩, ht.trans h.tape, hu.trans h.output, Nat.le_trans h.size hz,
    fun k hk hD => (hb k (Nat.lt_of_lt_of_le hk h.size)).trans (h.old k hk hD), h.le, h.new,
    h.has.keep fun a v e => hb _ (hlt a v e), fun r hr => (h.ok r hr).keep (fun b e => hb b ((h.ok r hr).lt e)) (fun _ _ e => e), h.nodup, h.own⟩
theorem St.drew (h : St w0 D S0 S L w) : St w0 D S0 S L w.drew := h.more rfl rfl rfl (Nat.le_refl _) (fun _ _ => rfl) (Nat.le_succ _)
theorem St.alloc (h : St w0 D S0 S L w) (o : Obj) : St w0 D S0 S L (w.alloc o) :=
  h.more rfl rfl rfl (by simp) fun k hk => Below.heap_alloc w o k hk
theorem St.eraseIdx (h : St w0 D S0 S L w) (i : Nat) : St w0 D S0 S (L.eraseIdx i) w :=
  ⟨h.os, h.tape, h.output, h.size, h.old, h.le, h.new, h.has, fun r hr => h.ok r (List.mem_of_mem_eraseIdx hr),
    h.nodup.sublist ((List.eraseIdx_sublist L i).filterMap _), fun r hr => h.own r (List.mem_of_mem_eraseIdx hr)⟩
theorem St.sub {L' : List Res} (h : St w0 D S0 S L w) (hs : L'.Sublist L) : St w0 D S0 S L' w :=
  ⟨h.os, h.tape, h.output, h.size, h.old, h.le, h.new, h.has, fun r hr => h.ok r (hs.subset hr),
    h.nodup.sublist (hs.filterMap _), fun r hr => h.own r (hs.subset hr)⟩
theorem St.push (h : St w0 D S0 S L w) {r : Res} (hr : r.ok S w) (hb : ∀ b, r.blk = some b → w0.heap.size ≤ b ∧ ∀ s ∈ L, s.blk ≠ some b) : St w0 D S0 S (r :: L) w :=
  ⟨h.os, h.tape, h.output, h.size, h.old, h.le, h.new, h.has, fun s hs => by
      rcases List.mem_cons.1 hs with rfl | hs
      · exact hr
      · exact h.ok s hs,
    by
      cases e : r.blk with
      | none => simpa [List.filterMap_cons, e] using h.nodup
      | some b =>
        simp only [List.filterMap_cons, e, List.nodup_cons]
        refine ⟨fun hm => ?_, h.nodup⟩
        obtain ⟨s, hs, hsb⟩ := List.mem_filterMap.1 hm
        exact (hb b e).2 s hs hsb,
    fun s hs b e => by
      rcases List.mem_cons.1 hs with rfl | hs
      · exact .inr (hb b e).1
      · exact h.own s hs b e⟩
theorem St.box (h : St w0 D S0 S L w) (cs : Array Value) (t : TypeId) : St w0 D S0 S (.box w.heap.size cs t :: L) (w.alloc (.cells cs t)) := by
  have hS : ∀ a, a.block = w.heap.size → S a = none := fun a ha => by
    cases e : S a with
    | none => rfl
    | some v => have := World.block_lt_of_cell? w a (h.has a v e); omega
  refine (h.alloc _).push ⟨heap_alloc_new w _, hS⟩ fun b e => ?_
  have : b = w.heap.size := by simpa [Res.blk] using e.symm
  subst this
  exact ⟨h.size, fun s hs e => by have := (h.ok s hs).lt e; omega⟩
theorem St.nil (h : St w0 D S0 S L w) (e : TypeId) (sz : Nat) : St w0 D S0 S (.app none (.slice none 0 0) 0 e sz :: L) w :=
  h.push (r := .app none (.slice none 0 0) 0 e sz) ⟨rfl, rfl⟩ fun b hb => by simp [Res.blk] at hb
theorem St.cell (h : St w0 D S0 S L w) (i : Nat) {b : Nat} {cs : Array Value} {t : TypeId} (hi : L[i]? = some (.box b cs t)) (j : Nat) {v : Value} (hv : cs[j]? = some v) : w.cell? ⟨b, j, none⟩ = some v := by
  rw [cell_of_row w b j cs t (0, 0) (h.ok _ (List.mem_of_getElem? hi)).1]
  exact hv
theorem St.frozen (h : St w0 D S0 S L w) (i : Nat) {b : Nat} {cs : Array Value} {t : TypeId} (hi : L[i]? = some (.box b cs t)) (j : Nat) : w.frozen? ⟨b, j, none⟩ = false := by
  have := (h.ok _ (List.mem_of_getElem? hi)).1
  simp [World.frozen?, this]
theorem St.change (h : St w0 D S0 S L w) {i : Nat} {r r' : Res} (hi : L[i]? = some r) {w' : World} {S' : Mp} (ho : w'.os = w.os) (ht : w'.tape = w.tape) (hu : w'.output = w.output) (hz : w.heap.size ≤ w'.heap.size)
    (hb : ∀ k, k < w.heap.size → r.blk ≠ some k → w'.heap[k]? = w.heap[k]?)
    (hle : Le S S') (hnew : ∀ a v, S' a = some v → S a = some v ∨ r.blk = some a.block ∨ w.heap.size ≤ a.block) (hhas : Has S' w')
    (hr : r'.ok S' w') (hrb : ∀ b, r'.blk = some b → r.blk = some b ∨ w.heap.size ≤ b) (hd : w.drawn ≤ w'.drawn := by exact Nat.le_refl _) : St w0 D S0 S' (L.set i r') w' := by
  have hr0 := h.ok r (List.mem_of_getElem? hi)
  have hown := h.own r (List.mem_of_getElem? hi)
  refine ⟨⟨ho.trans h.os.1, Nat.le_trans h.os.2 hd⟩, ht.trans h.tape, hu.trans h.output, Nat.le_trans h.size hz, fun k hk hD => ?_, h.le.trans hle, fun a v e => ?_, hhas, fun s hs => ?_, ?_, fun s hs b e => ?_⟩
  · rw [hb k (Nat.lt_of_lt_of_le hk h.size) (fun e => by rcases hown k e with h1 | h1; exact hD h1; omega)]
    exact h.old k hk hD
  · rcases hnew a v e with h1 | h1 | h1
    · exact h.new a v h1
    · exact .inr (hown _ h1)
    · exact .inr (.inr (Nat.le_trans h.size h1))
  · obtain ⟨j, hj, rfl⟩ := List.getElem_of_mem hs
    by_cases hji : j = i
    · subst hji; simpa using hr
    · have hjL : j < L.length := by simpa using hj
      have hs' : (L.set i r')[j] = L[j] := by rw [List.getElem_set_ne (Ne.symm hji)]
      rw [hs']
      have hjg : L[j]? = some L[j] := List.getElem?_eq_getElem hjL
      have hok := h.ok _ (List.mem_of_getElem? hjg)
      refine hok.keep (fun b e => hb b (hok.lt e) fun e' => nodup_ne h.nodup hi hjg (Ne.symm hji) e' e) (fun a ha e => ?_)
      cases e2 : S' a with
      | none => rfl
      | some v =>
        rcases hnew a v e2 with h1 | h1 | h1
        · rw [e] at h1; cases h1
        · exact absurd ha (nodup_ne h.nodup hi hjg (Ne.symm hji) h1)
        · have := hok.lt ha; omega
  · exact nodup_set h.nodup hi fun b hb' => (hrb b hb').imp id fun h1 s hs e => by have := (h.ok s hs).lt e; omega
  · rcases List.mem_or_eq_of_mem_set hs with h2 | h2
    · exact h.own s h2 b e
    · subst h2
      rcases hrb b e with h3 | h3
      · exact hown b h3
      · exact .inr (Nat.le_trans h.size h3)
theorem St.store (h : St w0 D S0 S L w) (i : Nat) {b : Nat} {cs : Array Value} {t : TypeId} (hi : L[i]? = some (.box b cs t)) (j : Nat) (v : Value) :
    St w0 D S0 S (L.set i (.box b (cs.setIfInBounds j v) t)) (w.setCell ⟨b, j, none⟩ v) := by
  have hok := h.ok _ (List.mem_of_getElem? hi)
  refine h.change (r := .box b cs t) hi rfl rfl rfl (by simp [World.setCell]) (fun k hk hb => Below.heap_setCell _ _ _ _ (fun e => hb (by simp [Res.blk, e]))) (Le.refl _)
    (fun a v e => .inl e) (h.has.keep fun a u e => Below.heap_setCell _ _ _ _ fun e' => by have := hok.2 a e'; rw [this] at e; cases e) ⟨?_, hok.2⟩ fun b' e => .inl e
  simp [World.setCell, Array.getElem?_modify, hok.1]
theorem St.perm {L' : List Res} (h : St w0 D S0 S L w) (hp : L.Perm L') : St w0 D S0 S L' w :=
  ⟨h.os, h.tape, h.output, h.size, h.old, h.le, h.new, h.has, fun r hr => h.ok r (hp.mem_iff.2 hr), (hp.filterMap _).nodup_iff.1 h.nodup, fun r hr => h.own r (hp.mem_iff.2 hr)⟩
def Mp.put (S : Mp) (g m : Nat) (cs : Array Value) : Mp := fun a => if a.block = g ∧ a.spot = none ∧ a.off < m then cs[a.off]? else S a
theorem Mp.put_at (S : Mp) (g m : Nat) (cs : Array Value) (j : Nat) (hj : j < m) : S.put g m cs ⟨g, j, none⟩ = cs[j]? := by simp [Mp.put, hj]
theorem St.newRow (h : St w0 D S0 S L w) (cs : Array Value) (e : TypeId) (n cap sz : Nat) (hn : n ≤ cap) (hc : cap ≤ maxLen) (hs : cs.size = cap * sz) :
    St w0 D S0 (S.put w.heap.size (n * sz) cs) (.app (some w.heap.size) (.slice (some ⟨w.heap.size, 0, none⟩) n cap) n e sz :: L) (w.alloc (.cells cs e)) ∧
    Le S (S.put w.heap.size (n * sz) cs) ∧ El (S.put w.heap.size (n * sz) cs) ⟨w.heap.size, 0, none⟩ (cs.toList.take (n * sz)) := by
  have hlt : ∀ a v, S a = some v → a.block < w.heap.size := fun a v e => World.block_lt_of_cell? w a (h.has a v e)
  have hle : Le S (S.put w.heap.size (n * sz) cs) := fun a v e => by
    have := hlt a v e
    simp only [Mp.put]
    rw [if_neg (by omega)]
    exact e
  have hA := h.alloc (.cells cs e)
  have hnew : ∀ a v, S.put w.heap.size (n * sz) cs a = some v → S a = some v ∨ (a.block = w.heap.size ∧ a.spot = none ∧ a.off < n * sz ∧ cs[a.off]? = some v) := fun a v e => by
    simp only [Mp.put] at e
    split at e
    · rename_i hc'; exact .inr ⟨hc'.1, hc'.2.1, hc'.2.2, e⟩
    · exact .inl e
  have hhas : Has (S.put w.heap.size (n * sz) cs) (w.alloc (.cells cs e)) := fun a v ea => by
    rcases hnew a v ea with h1 | ⟨h1, h2, h3, h4⟩
    · exact hA.has a v h1
    · obtain ⟨ab, ao, as⟩ := a
      simp at h1 h2 h4
      subst h1; subst h2
      rw [cell_of_row _ _ ao cs e (0, 0) (heap_alloc_new w _)]
      exact h4
  have hB : St w0 D S0 (S.put w.heap.size (n * sz) cs) L (w.alloc (.cells cs e)) :=
    ⟨hA.os, hA.tape, hA.output, hA.size, hA.old, h.le.trans hle, fun a v ea => by
        rcases hnew a v ea with h1 | ⟨h1, _⟩
        · exact h.new a v h1
        · exact .inr (.inr (by rw [h1]; exact h.size)),
      hhas, fun r hr => (hA.ok r hr).keep (fun _ _ => rfl) (fun a ha ea => by
        cases e2 : S.put w.heap.size (n * sz) cs a with
        | none => rfl
        | some v =>
          rcases hnew a v e2 with h1 | ⟨h1, _⟩
          · rw [ea] at h1; cases h1
          · have := (h.ok r hr).lt ha; omega), hA.nodup, hA.own⟩
  refine ⟨hB.push (r := .app (some w.heap.size) _ n e sz) (⟨cap, cs, rfl, heap_alloc_new w _, hn, hc, hs, fun a ha ho => ?_⟩) fun b hb => ?_, hle, fun j u hj => ?_⟩
  · cases e2 : S.put w.heap.size (n * sz) cs a with
    | none => rfl
    | some v =>
      rcases hnew a v e2 with h1 | ⟨h1, h2, h3, _⟩
      · have := hlt a v h1; omega
      · have := ho h2; omega
  · have : b = w.heap.size := by simpa [Res.blk, Value.ownBlock] using hb.symm
    subst this
    exact ⟨h.size, fun s hs e => by have := (h.ok s hs).lt e; omega⟩
  · rw [List.getElem?_take] at hj
    split at hj
    · rename_i hjm
      rw [Go.Lk.add_plain, Nat.zero_add, Mp.put_at _ _ _ _ _ hjm]
      simpa using hj
    · cases hj
theorem Rd.of_cells {α : Type} {S : Mp} {sz : Nat} {R : Rel α} {g cap : Nat} {flat : List Value} {xs : List α} (h : Fl S sz R flat xs) (hE : El S ⟨g, 0, none⟩ flat) (hn : xs.length ≤ cap) (hc : cap ≤ maxLen) :
    Rd S sz R (.slice (some ⟨g, 0, none⟩) xs.length cap) xs := ⟨_, cap, flat, rfl, hn, hc, h, fun _ => ⟨_, rfl, hE⟩⟩
theorem app_owns {g : Option Nat} {v : Value} {n : Nat} {e : TypeId} {sz : Nat} (h : Res.ok S w (.app g v n e sz)) : (∃ xs : List Value, w.ownsRow 0 e sz v n xs) ∧ v.ownBlock = g := by
  cases g with
  | none =>
    obtain ⟨rfl, rfl⟩ := h
    exact ⟨⟨[], World.ownsRow_nil w 0 e sz⟩, rfl⟩
  | some g =>
    obtain ⟨cap, cur, rfl, hg, h1, h2, h3, h4⟩ := h
    refine ⟨⟨cur.toList.take (n * sz), ?_, .inr ⟨g, cap, cur, rfl, Nat.zero_le _, hg, h1, h2, h3, rfl⟩⟩, rfl⟩
    rw [List.length_take, Array.length_toList, h3]
    exact Nat.min_eq_left (Nat.mul_le_mul_right _ h1)
structure Src (P : Program) (w : World) (t t2 e : TypeId) (sz bytes : Nat) (z : Value) (u : Value) (m : Nat) (flat : List Value) : Prop where
  len : flat.length = m * sz
  one : ∀ x ∈ flat, x.oneCell' = true
  zero : m = 0 → ∀ (ty : TypeId), (Builtin.append_ #[t, t2] ty #[.slice none 0 0, u]).run P w = .ok (.slice none 0 0) w
  room : ∀ (ty : TypeId) (g n cap : Nat) (cur : Array Value), w.heap[g]? = some (.cells cur e (0, 0)) → n + m ≤ cap → n * sz + flat.length ≤ cur.size →
    ∃ w', (Builtin.append_ #[t, t2] ty #[.slice (some ⟨g, 0, none⟩) n cap, u]).run P w = .ok (.slice (some ⟨g, 0, none⟩) (n + m) cap) w' ∧
      ((w' = w ∧ flat = []) ∨ w' = w.setRow g (cur.toList.take (n * sz) ++ flat ++ cur.toList.drop (n * sz + flat.length)).toArray)
  grow : ∀ (ty : TypeId) (b : Addr) (n cap : Nat) (olds : List Value), olds.length = n * sz → (∀ j v, olds[j]? = some v → w.cell? (Addr.add b j) = some v) → cap < n + m → (n + m) * bytes ≤ 140737488355328 → n + m ≤ maxLen →
    (Builtin.append_ #[t, t2] ty #[.slice (some b) n cap, u]).run P w = .ok (.slice (some ⟨w.heap.size, 0, none⟩) (n + m) (grownCap w (n + m) cap e))
      (w.drew.alloc (.cells (olds.toArray ++ flat.toArray ++ Builtin.zeroCells z.cells (grownCap w (n + m) cap e - (n + m))) e))
  nil : ∀ (ty : TypeId), 0 < m → m * bytes ≤ 140737488355328 → m ≤ maxLen →
    (Builtin.append_ #[t, t2] ty #[.slice none 0 0, u]).run P w = .ok (.slice (some ⟨w.heap.size, 0, none⟩) m (grownCap w m 0 e))
      (w.drew.alloc (.cells (flat.toArray ++ Builtin.zeroCells z.cells (grownCap w m 0 e - m)) e))
theorem Src.slice {α : Type} {R : Rel α} {P : Program} {t e : TypeId} {inf : TypeInfo} {z : Value} {sz bytes : Nat} (ht : P.underlying t = some (.slice e)) (hinf : P.info? e = some inf) (hz : inf.zero = some z)
    (hsize : inf.size = sz) (hby : inf.bytes = bytes) (hsz : 0 < sz) {u : Value} {ys : List α} (hw : Has S w) (hu : Rd S sz R u ys) : ∃ flat, Fl S sz R flat ys ∧ Src P w t t e sz bytes z u ys.length flat := by
  obtain ⟨B, c, flat, rfl, hyc, hcm, hF, hE⟩ := hu
  refine ⟨flat, hF, hF.length, hF.one, fun h0 ty => ?_, fun ty g n cap cur hg hroom hfit => ?_, fun ty b n cap olds hlo holds hc hm hm2 => ?_, fun ty h0 hm hm2 => ?_⟩
  · rw [h0]
    cases B <;> simp [Builtin.append_, run_underlying ht, sizeOf, typeInfo, hinf, Builtin.lenOf, Builtin.firstCells, loadCells, loadCellsFrom]
  · cases hB : B with
    | none =>
      have hfl : flat = [] := by
        cases flat with
        | nil => rfl
        | cons f fs => obtain ⟨ad, e, _⟩ := hE (by simp); rw [hB] at e; cases e
      subst hfl
      have hy0 : ys.length = 0 := by
        have h0 : 0 = ys.length * sz := hF.length
        rcases Nat.mul_eq_zero.1 h0.symm with h | h
        · exact h
        · omega
      refine ⟨w, ?_, .inl ⟨rfl, rfl⟩⟩
      rw [hy0] at hroom ⊢
      have hn : n ≤ cap := by simpa using hroom
      simp [Builtin.append_, run_underlying ht, sizeOf, typeInfo, hinf, Builtin.lenOf, Builtin.firstCells, hn, storeCells]
    | some ad =>
      have hcells : ∀ j u, flat[j]? = some u → w.cell? (ad.add j) = some u := fun j u hj => by
        have hne : flat ≠ [] := fun e => by subst e; cases hj
        obtain ⟨ad', e1, hEl⟩ := hE hne
        rw [hB] at e1
        injection e1 with e1
        subst e1
        exact hw _ _ (hEl j u hj)
      subst hsize
      exact ⟨_, run_append_room (P := P) w t ty e inf ht hinf g n cap cur hg ad ys.length c flat hF.length hcells hF.one hroom hfit, .inr rfl⟩
  · have hyl : 0 < ys.length ∨ ys.length = 0 := by omega
    cases hB : B with
    | none =>
      have hfl : flat = [] := by
        cases flat with
        | nil => rfl
        | cons f fs => obtain ⟨ad, e, _⟩ := hE (by simp); rw [hB] at e; cases e
      subst hfl
      have hy0 : ys.length = 0 := by
        have h0 : 0 = ys.length * sz := hF.length
        rcases Nat.mul_eq_zero.1 h0.symm with h | h
        · exact h
        · omega
      have hn : ¬ (n + 0 ≤ cap) := by omega
      have h63 : ¬ (9223372036854775807 < (n : Int)) := by simp only [maxLen] at hm2; omega
      have hfo := run_firstCells_some (P := P) w.drew inf.size n b n cap olds (by rw [hsize]; exact hlo) (by simpa using holds)
      have h48 : ¬ (281474976710656 < Builtin.nextslicecap n cap * inf.bytes) := by
        have := growslice_fits (need := n) (old := cap) (bytes := inf.bytes) (by omega) (by rw [hby]; rw [hy0] at hm; simpa using hm)
        omega
      rw [hy0]
      have hn' : ¬ (n ≤ cap) := by omega
      simp [Builtin.append_, run_underlying ht, sizeOf, typeInfo, zeroValue, hinf, hz, Builtin.lenOf, hn', h63, h48, Question.forced, run_firstCells_none, hfo, newRow, grownCap]
    | some ad =>
      have hcells : ∀ j u, flat[j]? = some u → w.cell? (ad.add j) = some u := fun j u hj => by
        have hne : flat ≠ [] := fun e => by subst e; cases hj
        obtain ⟨ad', e1, hEl⟩ := hE hne
        rw [hB] at e1
        injection e1 with e1
        subst e1
        exact hw _ _ (hEl j u hj)
      exact run_append_grow (P := P) w t ty e inf z ht hinf hz b n cap olds (by rw [hsize]; exact hlo) holds ad ys.length c flat (by rw [hsize]; exact hF.length) hcells hc (by simp only [maxLen] at hm2; omega) (growslice_fits (by omega) (by rw [hby]; exact hm))
  · have hfne : flat ≠ [] := fun e1 => by
      have := hF.length
      rw [e1] at this
      have h0 := Nat.mul_pos h0 hsz
      simp at this
      omega
    obtain ⟨ad, rfl, hEl⟩ := hE hfne
    exact run_append_nil (P := P) w t ty e inf z ht hinf hz ad ys.length c flat (by rw [hsize]; exact hF.length) (fun j u hj => hw _ _ (hEl j u hj)) h0 (by simp only [maxLen] at hm2; omega) (by rw [hby]; omega)
theorem Src.run {P : Program} {t t2 ty e : TypeId} {sz bytes : Nat} {z u : Value} {m : Nat} {flat : List Value} (hs : Src P w t t2 e sz bytes z u m flat) (hzs : z.cells.size = sz) {v : Value} {n : Nat} {cur0 : List Value}
    (hown : w.ownsRow 0 e sz v n cur0) (hm : (n + m) * bytes ≤ 140737488355328) (hm2 : n + m ≤ maxLen) :
    ∃ v' w', (Builtin.append_ #[t, t2] ty #[v, u]).run P w = .ok v' w' ∧ w'.ownsRow 0 e sz v' (n + m) (cur0 ++ flat) ∧ w.grownBy w' v.ownBlock ∧ w.drawn ≤ w'.drawn ∧
      (v'.ownBlock = v.ownBlock ∨ (v'.ownBlock = some w.heap.size ∧ ∀ k, k < w.heap.size → w'.heap[k]? = w.heap[k]?)) := by
  have hxl := hown.1
  have hlen : (cur0 ++ flat).length = (n + m) * sz := by rw [List.length_append, hxl, hs.len, Nat.add_mul]
  have grown : ∀ (old : Nat), old < n + m → ∀ (row : Option Nat),
      (w.drew.alloc (.cells (cur0.toArray ++ flat.toArray ++ Builtin.zeroCells z.cells (grownCap w (n + m) old e - (n + m))) e)).ownsRow 0 e sz
        (.slice (some ⟨w.heap.size, 0, none⟩) (n + m) (grownCap w (n + m) old e)) (n + m) (cur0 ++ flat) ∧
      w.grownBy (w.drew.alloc (.cells (cur0.toArray ++ flat.toArray ++ Builtin.zeroCells z.cells (grownCap w (n + m) old e - (n + m))) e)) row := by
    intro old ho row
    have hge := grownCap_ge w (n + m) old e
    have hcm : grownCap w (n + m) old e ≤ maxLen := grownCap_le_maxLen w (n + m) old e hm2
    refine ⟨⟨hlen, .inr ⟨w.heap.size, _, _, rfl, Nat.zero_le _, heap_alloc_new w.drew _, hge, hcm, ?_, ?_⟩⟩, ⟨rfl, rfl, rfl, by simp, fun k hk _ => Below.heap_alloc w.drew _ k hk⟩⟩
    · simp only [Array.size_append, List.size_toArray, size_zeroCells, hzs, hxl, hs.len, ← Nat.add_mul]
      congr 1
      omega
    · simp only [Array.toList_append, List.append_assoc]
      rw [← List.append_assoc, ← hlen]
      exact List.take_left
  rcases hown.2 with ⟨rfl, rfl⟩ | ⟨g, cap, cur, rfl, hbg, hg, hnc, hcm, hcs, htake⟩
  · have hx : cur0 = [] := List.eq_nil_of_length_eq_zero (by simpa using hxl)
    subst hx
    rcases Nat.eq_zero_or_pos m with h0 | h0
    · have hf : flat = [] := List.eq_nil_of_length_eq_zero (by rw [hs.len, h0, Nat.zero_mul])
      refine ⟨_, w, hs.zero h0 ty, by rw [h0, hf]; exact World.ownsRow_nil w 0 e sz, World.grownBy.refl w _, Nat.le_refl _, .inl rfl⟩
    · have hr := hs.nil ty h0 (by simpa using hm) (by simpa using hm2)
      have hgr := grown 0 (by omega) (Value.ownBlock (.slice none 0 0))
      simp only [Nat.zero_add, List.nil_append, Array.empty_append] at hgr ⊢
      exact ⟨_, _, hr, hgr.1, hgr.2, Nat.le_succ _, .inr ⟨rfl, fun k hk => Below.heap_alloc w.drew _ k hk⟩⟩
  · by_cases hroom : n + m ≤ cap
    · have hfit : n * sz + flat.length ≤ cur.size := by rw [hs.len, hcs, ← Nat.add_mul]; exact Nat.mul_le_mul_right _ hroom
      obtain ⟨w', hr, hw'⟩ := hs.room ty g n cap cur hg hroom hfit
      rcases hw' with ⟨rfl, hfl⟩ | rfl
      · have hx2 : m * sz = 0 := by rw [← hs.len, hfl]; rfl
        refine ⟨_, w', hr, ⟨hlen, .inr ⟨g, cap, cur, rfl, hbg, hg, hroom, hcm, hcs, ?_⟩⟩, World.grownBy.refl w' _, Nat.le_refl _, .inl rfl⟩
        rw [hfl, List.append_nil, Nat.add_mul, hx2, Nat.add_zero]
        exact htake
      · refine ⟨_, _, hr, ⟨hlen, .inr ⟨g, cap, _, rfl, hbg, setRow_heap w g cur _ e _ hg, hroom, hcm, ?_, ?_⟩⟩, ⟨rfl, rfl, rfl, by simp, fun k _ hk => setRow_other w g k _ (fun e => hk (by simp [Value.ownBlock, e]))⟩, Nat.le_refl _, .inl rfl⟩
        · simp only [List.size_toArray, List.length_append, List.length_take, List.length_drop, Array.length_toList]
          omega
        · rw [htake, ← hlen]
          exact List.take_left
    · have holds : ∀ j u, cur0[j]? = some u → w.cell? ((⟨g, 0, none⟩ : Addr).add j) = some u := hown.cells (g := g) rfl
      have hr := hs.grow ty ⟨g, 0, none⟩ n cap cur0 hxl holds (by omega) hm hm2
      have hgr := grown cap (by omega) (Value.ownBlock (.slice (some ⟨g, 0, none⟩) n cap))
      exact ⟨_, _, hr, hgr.1, hgr.2, Nat.le_succ _, .inr ⟨rfl, fun k hk => Below.heap_alloc w.drew _ k hk⟩⟩
theorem St.appendSrc {α : Type} {R : Rel α} [Mono R] {P : Program} (h : St w0 D S0 S L w) (i : Nat) {g0 : Option Nat} {v : Value} {e : TypeId} {sz bytes : Nat} {xs ys : List α} (hi : L[i]? = some (.app g0 v xs.length e sz))
    {t t2 ty : TypeId} {z u : Value} {flat : List Value} (hs : Src P w t t2 e sz bytes z u ys.length flat) (hF : Fl S sz R flat ys) (hzs : z.cells.size = sz) (hr : Rd S sz R v xs)
    (hm : (xs.length + ys.length) * bytes ≤ 140737488355328) (hm2 : xs.length + ys.length ≤ maxLen) :
    ∃ v' w' S' g', (Builtin.append_ #[t, t2] ty #[v, u]).run P w = .ok v' w' ∧ St w0 D S0 S' (L.set i (.app g' v' (xs ++ ys).length e sz)) w' ∧ Le S S' ∧ Rd S' sz R v' (xs ++ ys) := by
  have hok := h.ok _ (List.mem_of_getElem? hi)
  obtain ⟨⟨cur0, hown⟩, hvb⟩ := app_owns hok
  obtain ⟨v', w', hrun, hown', hgr, hdr, hblk⟩ := hs.run (ty := ty) hzs hown hm hm2
  have hlt : ∀ a u, S a = some u → a.block < w.heap.size := fun a u e => World.block_lt_of_cell? w a (h.has a u e)
  have hxy : (xs ++ ys).length = xs.length + ys.length := List.length_append
  rcases hown'.2 with ⟨hv', hn0⟩ | ⟨g, cap, cur, hv', _, hg, hnc, hcm', hcs, htake⟩
  ·
    subst hv'
    have hx0 : xs = [] := List.eq_nil_of_length_eq_zero (by omega)
    have hy0 : ys = [] := List.eq_nil_of_length_eq_zero (by omega)
    subst hx0; subst hy0
    rcases hblk with h1 | ⟨h1, _⟩
    · have hg0 : g0 = none := by rw [← hvb, ← h1]; rfl
      subst hg0
      obtain ⟨rfl, _⟩ := hok
      have hww : (Builtin.append_ #[t, t2] ty #[.slice none 0 0, u]).run P w = .ok (.slice none 0 0) w := hs.zero rfl ty
      rw [hww] at hrun
      injection hrun with _ e2
      subst e2
      refine ⟨_, w, S, none, hww, ?_, Le.refl _, Rd.nil _ _ _⟩
      have : L.set i (.app none (.slice none 0 0) ([] ++ [] : List α).length e sz) = L := by
        refine List.ext_getElem? fun j => ?_
        rw [List.getElem?_set]
        split
        · rename_i hij; subst hij
          have hlt : i < L.length := (List.getElem?_eq_some_iff.1 hi).1
          rw [if_pos hlt]; exact hi.symm
        · rfl
      rw [this]; exact h
    · simp [Value.ownBlock] at h1
  · subst hv'
    have hlen0 : cur0.length = xs.length * sz := hown.1
    have hflen : flat.length = ys.length * sz := hF.length
    have hcur : ∀ j u, (cur0 ++ flat)[j]? = some u → cur[j]? = some u := fun j u hj => by
      rw [← htake, List.getElem?_take] at hj
      split at hj
      · simpa using hj
      · cases hj
    obtain ⟨A2, c2, flat2, hv2, _, _, hF2, hE2⟩ := hr
    have hf2 : ∀ j u, flat2[j]? = some u → cur0[j]? = some u := fun j u hj => by
      have hj0 : j < flat2.length := (List.getElem?_eq_some_iff.1 hj).1
      have hne : flat2 ≠ [] := fun e => by rw [e] at hj0; exact absurd hj0 (by simp)
      obtain ⟨ad, hA, hEl⟩ := hE2 hne
      have hc1 := h.has _ _ (hEl j u hj)
      rcases hown.2 with ⟨hvn, hx0⟩ | ⟨g0, cap0, cur00, hv00, _, hg0, _, _, hcs0, htk⟩
      · have := hF2.length
        rw [hx0] at this
        simp at this
        exact absurd this hne
      · rw [hv2] at hv00
        injection hv00 with ha _ _
        rw [hA] at ha
        injection ha with ha
        subst ha
        rw [Go.Lk.add_plain, Nat.zero_add, cell_of_row w g0 j cur00 e (0, 0) hg0] at hc1
        have hjl : j < xs.length * sz := by
          have := (List.getElem?_eq_some_iff.1 hj).1
          rw [hF2.length] at this; exact this
        rw [← htk, List.getElem?_take, if_pos hjl]
        simpa using hc1
    have hfe : flat2 = cur0 := by
      refine List.ext_getElem? fun j => ?_
      by_cases hj : j < flat2.length
      · rw [List.getElem?_eq_getElem hj]
        exact (hf2 j _ (List.getElem?_eq_getElem hj)).symm
      · rw [List.getElem?_eq_none (by omega), List.getElem?_eq_none (by rw [hlen0, ← hF2.length]; omega)]
    subst hfe
    have hall : (flat2 ++ flat).length = (xs.length + ys.length) * sz := by rw [List.length_append, hlen0, hflen, Nat.add_mul]
    have hnew : ∀ a u, S.put g ((xs.length + ys.length) * sz) cur a = some u → S a = some u ∨ (a.block = g ∧ a.spot = none ∧ a.off < (xs.length + ys.length) * sz ∧ cur[a.off]? = some u) := fun a u ea => by
      simp only [Mp.put] at ea
      split at ea
      · rename_i hc'; exact .inr ⟨hc'.1, hc'.2.1, hc'.2.2, ea⟩
      · exact .inl ea
    have hgb : g0 = some g ∨ w.heap.size ≤ g := by
      rcases hblk with h1 | ⟨h1, _⟩
      · left; rw [← hvb, ← h1]; rfl
      · right; simp [Value.ownBlock] at h1; omega
    have hSg : ∀ a u, S a = some u → a.block = g → a.spot = none ∧ a.off < xs.length * sz ∧ cur[a.off]? = some u := fun a u ea hag => by
      rcases hgb with h1 | h1
      · subst h1
        obtain ⟨cap1, cur1, hv1, hg1, k1, k2, k3, k4⟩ := hok
        by_cases hs : a.spot = none
        · have hoff : a.off < xs.length * sz := by
            rcases Nat.lt_or_ge a.off (xs.length * sz) with h | h
            · exact h
            · have := k4 a hag (fun _ => h); rw [this] at ea; cases ea
          refine ⟨hs, hoff, ?_⟩
          have hc1 := h.has a u ea
          obtain ⟨ab, ao, as⟩ := a
          simp at hag hs hoff
          subst hag; subst hs
          rw [cell_of_row w _ ao cur1 e (0, 0) hg1] at hc1
          refine hcur ao u ?_
          rw [List.getElem?_append_left (by rw [hlen0]; exact hoff)]
          rcases hown.2 with ⟨hvn, _⟩ | ⟨g2, cap0, cur00, hv00, _, hg2, _, _, hcs0, htk⟩
          · rw [hv1] at hvn; cases hvn
          · rw [hv1] at hv00
            injection hv00 with ha _ _
            injection ha with ha
            injection ha with ha
            subst ha
            rw [hg1] at hg2
            injection hg2 with hg2
            injection hg2 with hg2
            subst hg2
            rw [← htk, List.getElem?_take, if_pos hoff]
            simpa using hc1
        · have := k4 a hag (fun h => absurd h hs); rw [this] at ea; cases ea
      · have := hlt a u ea; omega
    have hle : Le S (S.put g ((xs.length + ys.length) * sz) cur) := fun a u ea => by
      simp only [Mp.put]
      split
      · rename_i hc'; exact (hSg a u ea hc'.1).2.2
      · exact ea
    refine ⟨_, w', S.put g ((xs.length + ys.length) * sz) cur, some g, hrun, ?_, hle, ?_⟩
    · rw [hxy]
      refine h.change (r := .app g0 v xs.length e sz) hi hgr.os hgr.tape hgr.output hgr.size (fun k hk hb => hgr.block k hk (by rw [hvb]; exact Ne.symm hb)) hle (fun a u ea => ?_) (fun a u ea => ?_) (r' := .app (some g) _ _ e sz) ⟨cap, cur, rfl, hg, hnc, hcm', hcs, fun a ha ho => ?_⟩ (fun b hb => ?_) hdr
      · rcases hnew a u ea with h1 | ⟨h1, _⟩
        · exact .inl h1
        · rcases hgb with h2 | h2
          · exact .inr (.inl (by rw [h1, h2]; rfl))
          · exact .inr (.inr (by omega))
      · rcases hnew a u ea with h1 | ⟨h1, h2, h3, h4⟩
        · by_cases hag : a.block = g
          · obtain ⟨q1, q2, q3⟩ := hSg a u h1 hag
            obtain ⟨ab, ao, as⟩ := a
            simp at hag q1 q3
            subst hag; subst q1
            rw [cell_of_row w' _ ao cur e (0, 0) hg]; exact q3
          · refine (World.cell?_of_block ?_).trans (h.has a u h1)
            rcases hblk with h2 | ⟨_, h2⟩
            · refine hgr.block _ (hlt a u h1) fun e1 => ?_
              rw [← h2] at e1; simp [Value.ownBlock] at e1; exact hag e1
            · exact h2 _ (hlt a u h1)
        · obtain ⟨ab, ao, as⟩ := a
          simp at h1 h2 h4
          subst h1; subst h2
          rw [cell_of_row w' _ ao cur e (0, 0) hg]
          exact h4
      · cases e2 : S.put g ((xs.length + ys.length) * sz) cur a with
        | none => rfl
        | some u =>
          rcases hnew a u e2 with h1 | ⟨h1, h2, h3, _⟩
          · obtain ⟨q1, q2, _⟩ := hSg a u h1 ha
            have := ho q1
            have : xs.length * sz ≤ (xs.length + ys.length) * sz := Nat.mul_le_mul_right _ (by omega)
            omega
          · have := ho h2; omega
      · have : b = g := by simpa [Res.blk] using hb.symm
        subst this
        exact hgb.imp (fun e1 => e1) id
    · have hE' : El (S.put g ((xs.length + ys.length) * sz) cur) ⟨g, 0, none⟩ (flat2 ++ flat) := fun j u hj => by
        have hjl : j < (xs.length + ys.length) * sz := by
          have := (List.getElem?_eq_some_iff.1 hj).1
          omega
        rw [Go.Lk.add_plain, Nat.zero_add, Mp.put_at _ _ _ _ _ hjl]
        exact hcur j u hj
      have := Rd.of_cells (g := g) (cap := cap) ((hF2.mono hle).append (hF.mono hle)) hE' (by rw [hxy]; exact hnc) hcm'
      rw [hxy] at this
      exact this
theorem St.append {α : Type} {R : Rel α} [Mono R] {P : Program} (h : St w0 D S0 S L w) (i : Nat) {g : Option Nat} {v : Value} {e : TypeId} {sz bytes : Nat} {xs ys : List α} (hi : L[i]? = some (.app g v xs.length e sz))
    (t ty : TypeId) (inf : TypeInfo) (z : Value) (ht : P.underlying t = some (.slice e)) (hinf : P.info? e = some inf) (hz : inf.zero = some z)
    (hsize : inf.size = sz) (hby : inf.bytes = bytes) (hzs : z.cells.size = sz) (hsz : 0 < sz) (hr : Rd S sz R v xs)
    {u : Value} (hu : Rd S sz R u ys) (hm : (xs.length + ys.length) * bytes ≤ 140737488355328) (hm2 : xs.length + ys.length ≤ maxLen) :
    ∃ v' w' S' g', (Builtin.append_ #[t, t] ty #[v, u]).run P w = .ok v' w' ∧ St w0 D S0 S' (L.set i (.app g' v' (xs ++ ys).length e sz)) w' ∧ Le S S' ∧ Rd S' sz R v' (xs ++ ys) := by
  obtain ⟨flat, hF, hs⟩ := Src.slice (R := R) ht hinf hz hsize hby hsz h.has hu
  exact h.appendSrc i hi hs hF hzs hr hm hm2
theorem St.enter (h : St w0 D S0 S L w) (i : Nat) {r : Res} (hi : L[i]? = some r) {b : Nat} (hb : r.blk = some b) : St w [b] S S [r] w :=
  ⟨⟨rfl, Nat.le_refl _⟩, rfl, rfl, Nat.le_refl _, fun _ _ _ => rfl, Le.refl _, fun _ _ e => .inl e, h.has, fun s hs => by simp at hs; subst hs; exact h.ok _ (List.mem_of_getElem? hi),
    by simp [List.filterMap_cons, hb], fun s hs c hc => by simp at hs; subst hs; rw [hb] at hc; injection hc with hc; subst hc; exact .inl (by simp)⟩
theorem St.call {D' : List Nat} {S' : Mp} {N L2 : List Res} {w' : World} (h : St w0 D S0 S L w) (h' : St w D' S S' N w') (hsub : L2.Sublist L) (hD : ∀ r ∈ L2, ∀ b, r.blk = some b → b ∉ D')
    (hDo : ∀ b ∈ D', b ∈ D ∨ w0.heap.size ≤ b) : St w0 D S0 S' (N ++ L2) w' := by
  have h2 := h.sub hsub
  refine ⟨⟨h'.os.1.trans h.os.1, Nat.le_trans h.os.2 h'.os.2⟩, h'.tape.trans h.tape, h'.output.trans h.output, Nat.le_trans h.size h'.size, fun k hk hkD => ?_, h.le.trans h'.le, fun a v e => ?_, h'.has, fun r hr => ?_, ?_, fun r hr b hb => ?_⟩
  · rw [h'.old k (Nat.lt_of_lt_of_le hk h.size) fun hm => by rcases hDo k hm with h1 | h1; exact hkD h1; omega]
    exact h.old k hk hkD
  · rcases h'.new a v e with h1 | h1 | h1
    · exact h.new a v h1
    · exact .inr (hDo _ h1)
    · exact .inr (.inr (Nat.le_trans h.size h1))
  · rcases List.mem_append.1 hr with h1 | h1
    · exact h'.ok r h1
    · refine (h2.ok r h1).keep (fun b hb => h'.old b ((h2.ok r h1).lt hb) (hD r h1 b hb)) (fun a ha e => ?_)
      cases e2 : S' a with
      | none => rfl
      | some v =>
        rcases h'.new a v e2 with q | q | q
        · rw [e] at q; cases q
        · exact absurd q (hD r h1 _ ha)
        · have := (h2.ok r h1).lt ha; omega
  · rw [List.filterMap_append, List.nodup_append]
    refine ⟨h'.nodup, h2.nodup, fun b hb c hc e => ?_⟩
    subst e
    obtain ⟨r, hr, hrb⟩ := List.mem_filterMap.1 hb
    obtain ⟨s, hs, hsb⟩ := List.mem_filterMap.1 hc
    rcases h'.own r hr b hrb with q | q
    · exact hD s hs b hsb q
    · have := (h2.ok s hs).lt hsb; omega
  · rcases List.mem_append.1 hr with h1 | h1
    · rcases h'.own r h1 b hb with q | q
      · exact hDo b q
      · exact .inr (Nat.le_trans h.size q)
    · exact h2.own r h1 b hb
theorem St.call0 {S' : Mp} {N : List Res} {w' : World} (h : St w0 D S0 S L w) (h' : St w [] S S' N w') : St w0 D S0 S' (N ++ L) w' :=
  h.call h' (List.Sublist.refl _) (fun _ _ _ _ => by simp) (fun _ hb => by simp at hb)
end
end Go.Lk
