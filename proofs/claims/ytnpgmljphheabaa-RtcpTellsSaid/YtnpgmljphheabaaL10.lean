/- A part of this proof: RtcpTells returns true for every input and leaves its arguments as they were; there are no conditions. -/
import Derived.Test.YtnpgmljphheabaaL9
set_option linter.unusedVariables false
set_option linter.unusedSimpArgs false
namespace Go.Lk
open Go.RowKit Go.Lib
class Flat {α : Type} (R : Rel α) : Prop where
  flat : ∀ {S S' vals x}, R S vals x → R S' vals x
instance (k : IntKind) : Flat (RI k) := ⟨fun h => h⟩
instance : Flat RB := ⟨fun h => h⟩
instance : Flat RS := ⟨fun h => h⟩
def Rw {α : Type} (S : Mp) (sz : Nat) (R : Rel α) (g : Option Nat) (cur : Array Value) (v : Value) (xs : List α) : Prop :=
  match g with
  | none => v = .slice none 0 0 ∧ xs = []
  | some b => ∃ cap, v = .slice (some ⟨b, 0, none⟩) xs.length cap ∧ xs.length ≤ cap ∧ cap ≤ maxLen ∧ cur.size = cap * sz ∧ Fl S sz R (cur.toList.take (xs.length * sz)) xs
section
variable {P : Program} {n : Nat} {Q : Exit → Act → World → Prop} {K : Env} {w w' : World} {ops : Array Oper} {rest : List Oper} {o : Oper} {v : Value}
variable {Nx : Env → World → Prop} {dst : Option Nat} {ty : TypeId} {pos : String} {af : Array Edge} {gd' : Option (Nat × Bool)} {x y z : Operand} {u : Value} {k k' : IntKind} {i j : Int} {t t' : TypeId}
variable {w0 : World} {D : List Nat} {S0 S : Mp} {L : List Res} {α : Type} {sz : Nat} {R : Rel α} {xs ys : List α} {e : TypeId} {C : Array Bool → World → Prop} {g : Option Nat} {cur : Array Value} {b : Nat}
theorem Fl.flat [Flat R] {S' : Mp} : ∀ {xs : List α} {f : List Value}, Fl S sz R f xs → Fl S' sz R f xs
  | [], _, h => h
  | _ :: _, _, ⟨vals, rest, h1, h2, h3, h4, h5⟩ => ⟨vals, rest, h1, h2, h3, Flat.flat h4, Fl.flat h5⟩
theorem Rw.mono {S' : Mp} [Mono R] (h : Rw S sz R g cur v xs) (hl : Le S S') : Rw S' sz R g cur v xs := by
  cases g with
  | none => exact h
  | some b =>
    obtain ⟨cap, h1, h2, h3, h4, h5⟩ := h
    exact ⟨cap, h1, h2, h3, h4, h5.mono hl⟩
theorem Rw.len (h : Rw S sz R g cur v xs) : ∃ A c, v = .slice A xs.length c := by
  cases g with
  | none => obtain ⟨rfl, rfl⟩ := h; exact ⟨none, 0, rfl⟩
  | some b => obtain ⟨cap, h1, _⟩ := h; exact ⟨_, cap, h1⟩
theorem Rw.cells (h : Rw S sz R g cur v xs) : v.cells = [v].toArray := by
  obtain ⟨A, c, rfl⟩ := h.len
  rfl
theorem Rw.one (h : Rw S sz R g cur v xs) : v.oneCell' = true := by
  obtain ⟨A, c, rfl⟩ := h.len
  rfl
theorem X.lenRw (ht : P.underlying t = some (.slice e)) (hx : ev K x = some v) (hr : Rw S sz R g cur v xs) :
    Ex P n K w ⟨dst, .call { callee := .builtin .len, args := #[x], argTypes := #[t] }, ty, pos, af, gd'⟩ (.int .i64 (xs.length : Int)) w := by
  obtain ⟨A, c, rfl⟩ := hr.len
  exact X.len (tys := #[]) ht hx
theorem Rw.lt (h : Rw S sz R g cur v xs) : xs.length ≤ maxLen := by
  cases g with
  | none => obtain ⟨rfl, rfl⟩ := h; exact Nat.zero_le _
  | some b => obtain ⟨cap, h1, h2, h3, _⟩ := h; omega
theorem St.unseal [Flat R] (h0 : Has S0 w0) (h : St w0 [] S0 S L w) (i : Nat) (hi : L[i]? = some (.app g v xs.length e sz)) (hr : Rd S sz R v xs) :
    ∃ S' cur, St w0 [] S0 S' (L.set i (.row g cur e)) w ∧ Rw S' sz R g cur v xs := by
  have hlt : i < L.length := (List.getElem?_eq_some_iff.1 hi).1
  have hok := h.ok _ (List.mem_of_getElem? hi)
  have hnd : ∀ cur, ((L.set i (.row g cur e)).filterMap Res.blk).Nodup := fun cur => nodup_set h.nodup hi fun b hb => .inl hb
  have hown : ∀ cur, ∀ r ∈ L.set i (.row g cur e), ∀ b, r.blk = some b → b ∈ ([] : List Nat) ∨ w0.heap.size ≤ b := fun cur r hr2 b hb => by
    rcases List.mem_or_eq_of_mem_set hr2 with h2 | h2
    · exact h.own r h2 b hb
    · subst h2; exact h.own _ (List.mem_of_getElem? hi) b hb
  cases g with
  | none =>
    obtain ⟨rfl, hn⟩ := hok
    have hx : xs = [] := List.eq_nil_of_length_eq_zero hn
    subst hx
    refine ⟨S, #[], ⟨h.os, h.tape, h.output, h.size, h.old, h.le, h.new, h.has, fun r hr2 => ?_, hnd _, hown _⟩, rfl, rfl⟩
    rcases List.mem_or_eq_of_mem_set hr2 with h2 | h2
    · exact h.ok r h2
    · subst h2; exact trivial
  | some b =>
    obtain ⟨cap, cur, rfl, hg, h1, h2, h3, h4⟩ := hok
    have hb0 : w0.heap.size ≤ b := by
      rcases h.own _ (List.mem_of_getElem? hi) b rfl with q | q
      · cases q
      · exact q
    obtain ⟨A, c, flat, hv, h5, h6, hF, hE⟩ := hr
    injection hv with a1 a2 a3
    subst a1; subst a3
    have hfl : flat = cur.toList.take (xs.length * sz) := by
      refine List.ext_getElem? fun j => ?_
      by_cases hj : j < flat.length
      · have hne : flat ≠ [] := fun e => by rw [e] at hj; exact absurd hj (by simp)
        obtain ⟨ad, hA, hEl⟩ := hE hne
        injection hA with hA
        subst hA
        have hc := h.has _ _ (hEl j _ (List.getElem?_eq_getElem hj))
        rw [Go.Lk.add_plain, Nat.zero_add, cell_of_row w b j cur e (0, 0) hg] at hc
        rw [List.getElem?_take, if_pos (by rw [hF.length] at hj; exact hj), List.getElem?_eq_getElem hj]
        simpa using hc.symm
      · have hl : (cur.toList.take (xs.length * sz)).length = xs.length * sz := by
          rw [List.length_take, show cur.toList.length = cur.size from rfl, h3]
          exact Nat.min_eq_left (Nat.mul_le_mul_right _ h1)
        rw [List.getElem?_eq_none (by omega), List.getElem?_eq_none (by rw [hl, ← hF.length]; omega)]
    refine ⟨fun a => if a.block = b then none else S a, cur, ⟨h.os, h.tape, h.output, h.size, h.old, fun a u ha => ?_, fun a u ha => ?_, fun a u ha => ?_, fun r hr2 => ?_, hnd _, hown _⟩, cap, rfl, h1, h2, h3, ?_⟩
    · have : a.block < w0.heap.size := World.block_lt_of_cell? w0 a (h0 a u ha)
      show (if a.block = b then none else S a) = some u
      rw [if_neg (by omega)]
      exact h.le a u ha
    · have ha' : (if a.block = b then none else S a) = some u := ha
      split at ha'
      · cases ha'
      · exact h.new a u ha'
    · have ha' : (if a.block = b then none else S a) = some u := ha
      split at ha'
      · cases ha'
      · exact h.has a u ha'
    · obtain ⟨j, hj, hj2⟩ := List.getElem_of_mem hr2
      by_cases hji : j = i
      · subst hji
        have : r = .row (some b) cur e := by rw [← hj2]; simp
        subst this
        exact ⟨hg, fun a ha => by show (if a.block = b then none else S a) = none; rw [if_pos ha]⟩
      · have : r ∈ L := by
          rw [← hj2, List.getElem_set_ne (Ne.symm hji)]
          exact List.getElem_mem _
        refine (h.ok r this).keep (fun _ _ => rfl) (fun a _ ha => ?_)
        show (if a.block = b then none else S a) = none
        split
        · rfl
        · exact ha
    · rw [← hfl]; exact hF.flat
theorem St.sealRow [Mono R] (h : St w0 D S0 S L w) (i : Nat) (hi : L[i]? = some (.row g cur e)) (hr : Rw S sz R g cur v xs) :
    ∃ S', St w0 D S0 S' (L.set i (.app g v xs.length e sz)) w ∧ Le S S' ∧ Rd S' sz R v xs := by
  have hok := h.ok _ (List.mem_of_getElem? hi)
  cases g with
  | none =>
    obtain ⟨rfl, rfl⟩ := hr
    refine ⟨S, h.change (r := .row none cur e) hi rfl rfl rfl (Nat.le_refl _) (fun _ _ _ => rfl) (Le.refl _) (fun a v e => .inl e) h.has ⟨rfl, rfl⟩ (fun b e => .inl e), Le.refl _, Rd.nil _ _ _⟩
  | some b =>
    obtain ⟨cap, rfl, h1, h2, h3, hF⟩ := hr
    have hnew : ∀ a u, S.put b (xs.length * sz) cur a = some u → S a = some u ∨ (a.block = b ∧ a.spot = none ∧ a.off < xs.length * sz ∧ cur[a.off]? = some u) := fun a u ea => by
      simp only [Mp.put] at ea
      split at ea
      · rename_i hc'; exact .inr ⟨hc'.1, hc'.2.1, hc'.2.2, ea⟩
      · exact .inl ea
    have hle : Le S (S.put b (xs.length * sz) cur) := fun a u ea => by
      simp only [Mp.put]
      rw [if_neg (fun hc' => by rw [hok.2 a hc'.1] at ea; cases ea)]
      exact ea
    refine ⟨S.put b (xs.length * sz) cur, h.change (r := .row (some b) cur e) hi rfl rfl rfl (Nat.le_refl _) (fun _ _ _ => rfl) hle (fun a u ea => ?_) (fun a u ea => ?_) ⟨cap, cur, rfl, hok.1, h1, h2, h3, fun a ha ho => ?_⟩ (fun b' e => .inl e), hle, ?_⟩
    · rcases hnew a u ea with q | ⟨q, _⟩
      · exact .inl q
      · exact .inr (.inl (by rw [q]; rfl))
    · rcases hnew a u ea with q | ⟨q1, q2, q3, q4⟩
      · exact h.has a u q
      · obtain ⟨ab, ao, as⟩ := a
        simp at q1 q2 q4
        subst q1; subst q2
        rw [cell_of_row w _ ao cur e (0, 0) hok.1]
        exact q4
    · cases e2 : S.put b (xs.length * sz) cur a with
      | none => rfl
      | some u =>
        rcases hnew a u e2 with q | ⟨q1, q2, q3, q4⟩
        · rw [hok.2 a ha] at q; cases q
        · have := ho q2; omega
    · refine Rd.of_cells (hF.mono hle) (fun j u hj => ?_) h1 h2
      rw [List.getElem?_take] at hj
      split at hj
      · rename_i hjl
        rw [Go.Lk.add_plain, Nat.zero_add, Mp.put_at _ _ _ _ _ hjl]
        simpa using hj
      · cases hj
theorem St.rowcell (h : St w0 D S0 S L w) (i : Nat) (hi : L[i]? = some (.row (some b) cur e)) (j : Nat) (hv : cur[j]? = some u) : w.cell? ⟨b, j, none⟩ = some u := by
  rw [cell_of_row w b j cur e (0, 0) (h.ok _ (List.mem_of_getElem? hi)).1]
  exact hv
theorem St.rowheap (h : St w0 D S0 S L w) (i : Nat) (hi : L[i]? = some (.row (some b) cur e)) : w.heap[b]? = some (.cells cur e (0, 0)) := (h.ok _ (List.mem_of_getElem? hi)).1
theorem mk_rowix {c : α} (ht : P.underlying t = some (.slice e)) (hs : (P.info? e).map (·.size) = some sz) (hr : Rw S sz R g cur v xs) (hi : ix xs i = some c) :
    ∃ b vals, g = some b ∧ vals.length = sz ∧ R S vals c ∧ (∀ q u, vals[q]? = some u → cur[i.toNat * sz + q]? = some u) ∧
      ∀ {n : Nat} {K : Env} {w : World} {dst : Option Nat} {x y : Operand} {k : IntKind} {ty : TypeId} {pos : String} {af : Array Edge} {g : Option (Nat × Bool)},
        ev K x = some v → ev K y = some (.int k i) → Ex P n K w ⟨dst, .indexAddr t x y, ty, pos, af, g⟩ (.pointer (some ⟨b, i.toNat * sz, none⟩)) w := by
  obtain ⟨h0, h1, h2⟩ := ix_s hi
  cases g with
  | none => obtain ⟨_, rfl⟩ := hr; simp at h1; omega
  | some b =>
    obtain ⟨cap, rfl, c1, c2, c3, hF⟩ := hr
    have hil : i.toNat < xs.length := by omega
    have hd := hF.drop i.toNat (Nat.le_of_lt hil)
    rw [List.drop_eq_getElem_cons hil] at hd
    have hxi : xs[i.toNat] = c := by rw [List.getElem?_eq_getElem hil] at h2; exact Option.some.inj h2
    rw [hxi] at hd
    obtain ⟨vals, rest, e1, e2, e3, e4, e5⟩ := hd
    refine ⟨b, vals, rfl, e2, e4, fun q u hq => ?_, fun {n K w dst x y k ty pos af g} hx hy => ?_⟩
    · have hql : q < vals.length := (List.getElem?_eq_some_iff.1 hq).1
      have h3 : ((cur.toList.take (xs.length * sz)).drop (i.toNat * sz))[q]? = some u := by rw [e1, List.getElem?_append_left hql]; exact hq
      rw [List.getElem?_drop, List.getElem?_take] at h3
      split at h3
      · simpa using h3
      · cases h3
    · have := X.indexAddr (n := n) (w := w) (dst := dst) (ty := ty) (pos := pos) (af := af) (g := g) ht hs hx hy h0 h1
      rw [Go.Lk.add_plain, Nat.zero_add] at this
      exact this
theorem Fl.set {x' : α} {vals : List Value} {f : Nat} : ∀ {xs : List α} {flat : List Value} {i : Nat}, Fl S sz R flat xs → i < xs.length → (flat.drop (i * sz)).take sz = vals → f < sz → u.oneCell' = true → R S (vals.set f u) x' →
    Fl S sz R (flat.set (i * sz + f) u) (xs.set i x')
  | [], _, i, _, hi, _, _, _, _ => by simp at hi
  | x :: xs, _, 0, ⟨v0, rest, rfl, h2, h3, h4, h5⟩, hi, hseg, hf, hu, hR => by
    have e1 : vals = v0 := by rw [← hseg, Nat.zero_mul, List.drop_zero, ← h2, List.take_left]
    subst e1
    refine ⟨vals.set f u, rest, ?_, by simpa using h2, fun y hy => ?_, hR, h5⟩
    · rw [Nat.zero_mul, Nat.zero_add, List.set_append_left _ _ (by omega)]
    · rcases List.mem_or_eq_of_mem_set hy with q | q
      · exact h3 y q
      · rw [q]; exact hu
  | x :: xs, _, i + 1, ⟨v0, rest, rfl, h2, h3, h4, h5⟩, hi, hseg, hf, hu, hR => by
    have e0 : (i + 1) * sz = sz + i * sz := by rw [Nat.add_mul, Nat.one_mul, Nat.add_comm]
    have e1 : (rest.drop (i * sz)).take sz = vals := by
      rw [← hseg, e0, ← h2, ← List.drop_drop, List.drop_left]
    have := Fl.set (xs := xs) (flat := rest) (i := i) h5 (by simpa using hi) e1 hf hu hR
    refine ⟨v0, rest.set (i * sz + f) u, ?_, h2, h3, h4, this⟩
    rw [List.set_append_right _ _ (by rw [e0]; omega)]
    congr 2
    rw [e0]
    omega
theorem Rw.set {c x' : α} {vals : List Value} {f : Nat} (hr : Rw S sz R (some b) cur v xs) (hi : ix xs i = some c) (hl : vals.length = sz) (hc : ∀ q u, vals[q]? = some u → cur[i.toNat * sz + q]? = some u) (hf : f < sz) (hu : u.oneCell' = true) (hR : R S (vals.set f u) x') :
    Rw S sz R (some b) (cur.setIfInBounds (i.toNat * sz + f) u) v (xs.set i.toNat x') := by
  obtain ⟨h0, h1, h2⟩ := ix_s hi
  obtain ⟨cap, hv, c1, c2, c3, hF⟩ := hr
  have hil : i.toNat < xs.length := by omega
  have hmul : i.toNat * sz + sz ≤ xs.length * sz := by
    have : (i.toNat + 1) * sz ≤ xs.length * sz := Nat.mul_le_mul_right _ hil
    rw [Nat.add_mul, Nat.one_mul] at this
    exact this
  have hseg : ((cur.toList.take (xs.length * sz)).drop (i.toNat * sz)).take sz = vals := by
    refine List.ext_getElem? fun q => ?_
    rw [List.getElem?_take]
    split
    · rename_i hq
      rw [List.getElem?_drop, List.getElem?_take, if_pos (by omega)]
      have hq2 : q < vals.length := by omega
      rw [List.getElem?_eq_getElem hq2]
      simpa using hc q _ (List.getElem?_eq_getElem hq2)
    · rw [List.getElem?_eq_none (by omega)]
  have := hF.set hil hseg hf hu hR
  refine ⟨cap, by rw [List.length_set]; exact hv, by rw [List.length_set]; exact c1, c2, by simpa using c3, ?_⟩
  rw [List.length_set, Array.toList_setIfInBounds, List.take_set]
  exact this
theorem St.storeRow (h : St w0 D S0 S L w) (i : Nat) (hi : L[i]? = some (.row (some b) cur e)) (j : Nat) (v : Value) :
    St w0 D S0 S (L.set i (.row (some b) (cur.setIfInBounds j v) e)) (w.setCell ⟨b, j, none⟩ v) := by
  have hok := h.ok _ (List.mem_of_getElem? hi)
  refine h.change (r := .row (some b) cur e) hi rfl rfl rfl (by simp [World.setCell]) (fun k hk hb => Below.heap_setCell _ _ _ _ (fun e => hb (by simp [Res.blk, e]))) (Le.refl _)
    (fun a v e => .inl e) (h.has.keep fun a u e => Below.heap_setCell _ _ _ _ fun e' => by have := hok.2 a e'; rw [this] at e; cases e) ⟨?_, hok.2⟩ fun b' e => .inl e
  simp [World.setCell, Array.getElem?_modify, hok.1]
theorem Oq.storeRow (hs : St w0 D S0 S L w) (q : Nat) (hq : L[q]? = some (.row (some b) cur e)) {c x' : α} {vals : List Value} {f : Nat} (hr : Rw S sz R (some b) cur v xs) (hi : ix xs i = some c) (hl : vals.length = sz)
    (hc : ∀ q u, vals[q]? = some u → cur[i.toNat * sz + q]? = some u) (hf : Nat.ble (f + 1) sz = true) (hz : (P.info? t).map (·.size) = some 1) (hx : ev K x = some (.pointer (some ⟨b, i.toNat * sz + f, none⟩))) (hy : ev K y = some u)
    (h1 : u.cells = [u].toArray) (hu : u.oneCell' = true) (hR : R S (vals.set f u) x')
    (h : ∀ w' cur', St w0 D S0 S (L.set q (.row (some b) cur' e)) w' → Rw S sz R (some b) cur' v (xs.set i.toNat x') → Nx K w') : Oq P n Q K w ⟨none, .store t x y, ty, pos, af, gd'⟩ Nx := by
  have hf' := Nat.le_of_ble_eq_true hf
  have hfl : f < vals.length := by omega
  have hcell := hs.rowcell q hq (i.toNat * sz + f) (hc f _ (List.getElem?_eq_getElem hfl))
  have hfz : w.frozen? ⟨b, i.toNat * sz + f, none⟩ = false := by
    have := hs.rowheap q hq
    simp [World.frozen?, this]
  exact Oq.skip (X.store1 hz hx hy h1 hu hcell hfz) rfl (h _ _ (hs.storeRow q hq _ u) (hr.set hi hl hc hf' hu hR))
theorem Oq.appendRow {d : Nat} [Mono R] (hs : St w0 D S0 S L w) (q : Nat) (hq : L[q]? = some (.row g cur e)) {v2 : Value} {bytes : Nat} {zs : List α} {inf : TypeInfo} {zv : Value} (ht : P.underlying t = some (.slice e)) (hinf : P.info? e = some inf) (hz : inf.zero = some zv)
    (hsize : inf.size = sz) (hby : inf.bytes = bytes) (hzs : zv.cells.size = sz) (hsz : Nat.ble 1 sz = true) (hbp : Nat.ble 1 bytes = true) (hr : Rw S sz R g cur v xs) (hu : Rd S sz R v2 ys) (happ : app bytes xs ys = some zs)
    (hx : ev K x = some v) (hy : ev K y = some v2) (hdn : Nat.ble (d + 1) n = true)
    (h : ∀ v' w' g' cur', St w0 D S0 S (L.set q (.row g' cur' e)) w' → Rw S sz R g' cur' v' zs → Nx ((d, v') :: K) w') :
    Oq P n Q K w ⟨some d, .call { callee := .builtin .append, args := #[x, y], argTypes := #[t, t] }, ty, pos, af, gd'⟩ Nx := by
  obtain ⟨rfl, hm⟩ := app_s happ
  obtain ⟨flat, hF, hsrc⟩ := Src.slice (P := P) (R := R) ht hinf hz hsize hby (Nat.le_of_ble_eq_true hsz) hs.has hu
  have hb1 := Nat.le_of_ble_eq_true hbp
  have hm2 : xs.length + ys.length ≤ maxLen := by
    have : xs.length + ys.length ≤ (xs.length + ys.length) * bytes := Nat.le_mul_of_pos_right _ hb1
    simp only [maxLen]
    omega
  have hok := hs.ok _ (List.mem_of_getElem? hq)
  obtain ⟨flat0, hown, hF0, hvb⟩ : ∃ flat0, w.ownsRow 0 e sz v xs.length flat0 ∧ Fl S sz R flat0 xs ∧ v.ownBlock = g := by
    cases g with
    | none =>
      obtain ⟨rfl, rfl⟩ := hr
      exact ⟨[], World.ownsRow_nil w 0 e sz, rfl, rfl⟩
    | some b =>
      obtain ⟨cap, rfl, c1, c2, c3, hF0⟩ := hr
      exact ⟨_, ⟨hF0.length, .inr ⟨b, cap, cur, rfl, Nat.zero_le _, hok.1, c1, c2, c3, rfl⟩⟩, hF0, rfl⟩
  obtain ⟨v', w', hrun, hown', hgr, hblk⟩ := hsrc.run (ty := ty) hzs hown hm hm2
  have hlt : ∀ a u, S a = some u → a.block < w.heap.size := fun a u e => World.block_lt_of_cell? w a (hs.has a u e)
  have hxy : (xs ++ ys).length = xs.length + ys.length := List.length_append
  have hSg : ∀ a u, S a = some u → g ≠ some a.block := fun a u ea eg => by
    subst eg
    have := hok.2 a rfl
    rw [this] at ea; cases ea
  refine Oq.append (R := fun a b => a = v' ∧ b = w') hx hy hdn ⟨v', w', hrun, rfl, rfl⟩ (fun a b hab => ?_)
  obtain ⟨rfl, rfl⟩ := hab
  have hhas : Has S b := hs.has.keep fun a u ea => hgr.block _ (hlt a u ea) (by rw [hvb]; exact Ne.symm (hSg a u ea))
  rcases hown'.2 with ⟨hv', hn0⟩ | ⟨g2, cap, cur2, hv', _, hg, hnc, hcm', hcs, htake⟩
  · subst hv'
    have hx0 : xs = [] := List.eq_nil_of_length_eq_zero (by omega)
    have hy0 : ys = [] := List.eq_nil_of_length_eq_zero (by omega)
    subst hx0; subst hy0
    exact h _ _ none #[] (hs.change hq hgr.os hgr.tape hgr.output hgr.size (fun k hk hb => hgr.block k hk (by rw [hvb]; exact Ne.symm hb)) (Le.refl _) (fun a u ea => .inl ea) hhas trivial (fun b hb => by cases hb)) ⟨rfl, rfl⟩
  · subst hv'
    have hgb : g = some g2 ∨ w.heap.size ≤ g2 := by
      rcases hblk with h1 | ⟨h1, _⟩
      · left; rw [← hvb, ← h1]; rfl
      · right; simp [Value.ownBlock] at h1; omega
    refine h _ _ (some g2) cur2 (hs.change hq hgr.os hgr.tape hgr.output hgr.size (fun k hk hb => hgr.block k hk (by rw [hvb]; exact Ne.symm hb)) (Le.refl _) (fun a u ea => .inl ea) hhas ⟨hg, fun a ha => ?_⟩ (fun b' hb => ?_)) ⟨cap, by rw [hxy], by rw [hxy]; exact hnc, hcm', hcs, ?_⟩
    · cases ea : S a with
      | none => rfl
      | some u =>
        rcases hgb with q1 | q1
        · exact absurd (by rw [q1, ha]) (hSg a u ea)
        · have := hlt a u ea; omega
    · have : b' = g2 := by simpa [Res.blk] using hb.symm
      subst this
      exact hgb
    · rw [hxy, htake]
      exact hF0.append hF
theorem Oq.litRow {d : Nat} {len : Nat} {inf : TypeInfo} {z : Value} {cs0 cells : List Value} {l : List (Nat × Operand)} {ps : List (Nat × List Value)} (hs : St w0 D S0 S L w) (ht : P.underlying t = some (.slice e)) (hi : P.info? e = some inf) (hsz : inf.size = sz)
    (hbig : Nat.ble (len * sz) 16777216 = true) (hlen : Nat.ble len 16777216 = true) (hz : inf.zero = some z) (hzs : z.cells.size = sz) (h0 : (List.replicate len z.cells.toList).flatten = cs0)
    (hparts : Parts K l ps) (hfill : fillL (fun i => some (i * sz, sz)) cs0 ps = some cells) (hl : Nat.beq cells.length (len * sz) = true) (hdn : Nat.ble (d + 1) n = true) (hxl : xs.length = len) (hF : Fl S sz R cells xs)
    (h : ∀ v' w' b cur, St w0 D S0 S (.row (some b) cur e :: L) w' → Rw S sz R (some b) cur v' xs → Nx ((d, v') :: K) w') :
    Oq P n Q K w ⟨some d, .buildSlice t len l.toArray, ty, pos, af, gd'⟩ Nx := by
  have hl' := Nat.eq_of_beq_eq_true hl
  have hb' := Nat.le_of_ble_eq_true hbig
  have hS : ∀ a, a.block = w.heap.size → S a = none := fun a ha => by
    cases e : S a with
    | none => rfl
    | some v => have := World.block_lt_of_cell? w a (hs.has a v e); omega
  have h1 : St w0 D S0 S (.row (some w.heap.size) cells.toArray e :: L) (w.alloc (.cells cells.toArray e)) := by
    refine (hs.alloc _).push ⟨heap_alloc_new w _, hS⟩ fun b e => ?_
    have : b = w.heap.size := by simpa [Res.blk] using e.symm
    subst this
    exact ⟨hs.size, fun s hs' e => by have := (hs.ok s hs').lt e; omega⟩
  refine Oq.val (X.buildSlice ht hi hsz hb' hz (zeros_eq hzs h0) hparts hfill) rfl hdn (h _ _ _ _ h1 ⟨len, by rw [hxl], by omega, by have := Nat.le_of_ble_eq_true hlen; simp only [maxLen]; omega, by simpa using hl', ?_⟩)
  rw [hxl, List.take_of_length_le (by simp; omega)]
  exact hF
theorem mk_rowfrom (ht : P.underlying t = some (.slice e)) (hs : (P.info? e).map (·.size) = some sz) (hr : Rw S sz R g cur v xs) (h0 : 0 ≤ i ∧ i < (xs.length : Int)) :
    ∃ b c, g = some b ∧ ∀ {n : Nat} {K : Env} {w : World} {dst : Option Nat} {x lo : Operand} {kl : IntKind} {ty : TypeId} {pos : String} {af : Array Edge} {g : Option (Nat × Bool)},
      ev K x = some v → ev K lo = some (.int kl i) → Ex P n K w ⟨dst, .slice t x (some lo) none none, ty, pos, af, g⟩ (.slice (some ⟨b, i.toNat * sz, none⟩) (xs.length - i.toNat) c) w := by
  cases g with
  | none => obtain ⟨_, rfl⟩ := hr; simp at h0; omega
  | some b =>
    obtain ⟨cap, rfl, c1, c2, c3, hF⟩ := hr
    refine ⟨b, cap - i.toNat, rfl, fun {n K w dst x lo kl ty pos af g} hx hlo f hf => ?_⟩
    have h1 := run_sliceAt (P := P) (w := w) (A := some ⟨b, 0, none⟩) ht hs (lo := some (.int kl i)) (hi := none) (mx := none) (l := xs.length) (c := cap) (a0 := i.toNat) (b0 := xs.length) (c0 := cap) (by
      simp [Instr.sliceBounds, bound_run (P := P) h0.1 (show i ≤ (xs.length : Int) by omega) w])
    have hne : ¬ (cap = i.toNat) := by omega
    simp [execOp, hf.ev hx, hf.ev hlo, h1, hne, Go.Lk.add_plain]
def cpy {α : Type} (xs : List α) (a : Int) (ys : List α) : List α := xs.take a.toNat ++ ys.take (xs.length - a.toNat) ++ xs.drop (a.toNat + min ys.length (xs.length - a.toNat))
theorem cpy_length (xs : List α) (a : Int) (ys : List α) (h : a.toNat ≤ xs.length) : (cpy xs a ys).length = xs.length := by
  simp [cpy]
  omega
theorem Oq.copyRow {d c : Nat} {t2 : TypeId} {a : Int} (hs : St w0 D S0 S L w) (q : Nat) (hq : L[q]? = some (.row (some b) cur e)) {v2 : Value} (ht : P.underlying t = some (.slice e)) (hs1 : (P.info? e).map (·.size) = some 1)
    (hr : Rw S 1 R (some b) cur v xs) (h0 : 0 ≤ a ∧ a < (xs.length : Int)) (hu : Rd S 1 R v2 ys) (hx : ev K x = some (.slice (some ⟨b, a.toNat * 1, none⟩) (xs.length - a.toNat) c)) (hy : ev K y = some v2) (hdn : Nat.ble (d + 1) n = true)
    (h : ∀ w' cur', St w0 D S0 S (L.set q (.row (some b) cur' e)) w' → Rw S 1 R (some b) cur' v (cpy xs a ys) → Nx ((d, .int .i64 ((min ys.length (xs.length - a.toNat) : Nat) : Int)) :: K) w') :
    Oq P n Q K w ⟨some d, .call { callee := .builtin .copy, args := #[x, y], argTypes := #[t, t2] }, ty, pos, af, gd'⟩ Nx := by
  have hok := hs.ok _ (List.mem_of_getElem? hq)
  have hal : a.toNat < xs.length := by omega
  obtain ⟨A, c2, flat, rfl, hyc, hcm, hF, hE⟩ := hu
  obtain ⟨cap, hv, k1, k2, k3, hF0⟩ := id hr
  rw [Nat.mul_one] at hF0
  have hcl := cpy_length xs a ys (by omega)
  have key : ∃ cur', (Builtin.copy_ #[t, t2] ty #[.slice (some ⟨b, a.toNat * 1, none⟩) (xs.length - a.toNat) c, .slice A ys.length c2]).run P w = .ok (.int .i64 ((min ys.length (xs.length - a.toNat) : Nat) : Int)) (w.setRow b cur') ∧
      cur'.size = cur.size ∧ Fl S 1 R (cur'.toList.take xs.length) (cpy xs a ys) := by
    cases A with
    | none =>
      have hfl : flat = [] := by
        cases flat with
        | nil => rfl
        | cons f fs => obtain ⟨ad, e, _⟩ := hE (by simp); cases e
      subst hfl
      have hy0 : ys = [] := by
        have h0 : 0 = ys.length * 1 := hF.length
        exact List.eq_nil_of_length_eq_zero (by omega)
      subst hy0
      refine ⟨cur, ?_, rfl, ?_⟩
      · rw [setRow_self w b cur e (0, 0) hok.1]
        cases hi : P.info? e with
        | none => simp [hi] at hs1
        | some inf => simp [Builtin.copy_, run_underlying ht, Builtin.lenOf, Builtin.firstCells, sizeOf, typeInfo, hi, storeCells, goInt]
      · have e1 : cpy xs a [] = xs := by simp [cpy]
        rw [e1]
        exact hF0
    | some ad =>
      have hfl : flat.length = ys.length := by simpa using hF.length
      have hn : (flat.take (xs.length - a.toNat)).length = min ys.length (xs.length - a.toNat) := by rw [List.length_take, hfl, Nat.min_comm]
      have hrun := run_copy_row (P := P) w t t2 ty e b (a.toNat * 1) (xs.length - a.toNat) c ad ys.length c2 cur e (flat.take (xs.length - a.toNat)) ht hs1 hok.1 hn (fun j u hj => by
          have hne : flat ≠ [] := fun e => by rw [e] at hj; simp at hj
          obtain ⟨ad', e1, hEl⟩ := hE hne
          injection e1 with e1
          subst e1
          rw [List.getElem?_take] at hj
          split at hj
          · exact hs.has _ _ (hEl j u hj)
          · cases hj) (by rw [hn, k3]; omega) (fun u hu => hF.one u (List.mem_of_mem_take hu))
      rw [hn] at hrun
      refine ⟨_, hrun, ?_, ?_⟩
      · have hcs : cur.toList.length = cap := by simpa using k3
        simp only [List.size_toArray, List.length_append, List.length_take, List.length_drop, hcs, hfl]
        omega
      · have h1 := hF0.take a.toNat (by omega)
        have h2 := hF.take (min ys.length (xs.length - a.toNat)) (by omega)
        have h3 := hF0.drop (a.toNat + min ys.length (xs.length - a.toNat)) (by omega)
        have h4 := (h1.append h2).append h3
        simp only [Nat.mul_one] at h4 ⊢
        have e1 : ys.take (min ys.length (xs.length - a.toNat)) = ys.take (xs.length - a.toNat) := by
          by_cases hq2 : ys.length ≤ xs.length - a.toNat
          · rw [Nat.min_eq_left hq2, List.take_of_length_le (Nat.le_refl _), List.take_of_length_le hq2]
          · rw [Nat.min_eq_right (by omega)]
        have e2 : flat.take (min ys.length (xs.length - a.toNat)) = flat.take (xs.length - a.toNat) := by
          rw [← hfl]
          by_cases hq2 : flat.length ≤ xs.length - a.toNat
          · rw [Nat.min_eq_left hq2, List.take_of_length_le (Nat.le_refl _), List.take_of_length_le hq2]
          · rw [Nat.min_eq_right (by omega)]
        rw [e1, e2] at h4
        have e3 : List.take xs.length (cur.toList.take a.toNat ++ flat.take (xs.length - a.toNat) ++ cur.toList.drop (a.toNat + (flat.take (xs.length - a.toNat)).length)) =
            ((cur.toList.take xs.length).take a.toNat ++ flat.take (xs.length - a.toNat)) ++ (cur.toList.take xs.length).drop (a.toNat + min ys.length (xs.length - a.toNat)) := by
          have hcs : cur.toList.length = cap := by simpa using k3
          have l1 : (cur.toList.take a.toNat ++ flat.take (xs.length - a.toNat)).length = a.toNat + min ys.length (xs.length - a.toNat) := by
            rw [List.length_append, hn, List.length_take, hcs]
            omega
          rw [List.take_append, l1, List.take_take, Nat.min_eq_left (by omega : a.toNat ≤ xs.length), List.take_of_length_le (by omega : (cur.toList.take a.toNat ++ flat.take (xs.length - a.toNat)).length ≤ xs.length)]
          congr 1
          rw [hn, List.drop_take]
        rw [hn] at e3
        rw [e3]
        exact h4
  obtain ⟨cur', hrun, hsz, hF'⟩ := key
  refine Oq.val (v := .int .i64 ((min ys.length (xs.length - a.toNat) : Nat) : Int)) (w' := w.setRow b cur') (fun f hf => by
    have hrun2 := hrun
    simp only [Nat.mul_one] at hrun2
    simp [execOp, hf.ev hx, hf.ev hy, resolve, invoke, builtin, hrun2]) rfl hdn (h _ cur' ?_ ?_)
  · exact hs.change (r := .row (some b) cur e) hq rfl rfl rfl (by simp) (fun k hk hb => setRow_other w b k _ (fun e => hb (by simp [Res.blk, e]))) (Le.refl _)
      (fun a v e => .inl e) (hs.has.keep fun a u e => setRow_other w b _ _ fun e' => by have := hok.2 a e'; rw [this] at e; cases e) ⟨setRow_heap w b cur _ e _ hok.1, hok.2⟩ fun b' e => .inl e
  · refine ⟨cap, by rw [hcl]; exact hv, by rw [hcl]; exact k1, k2, by rw [hsz]; exact k3, ?_⟩
    rw [hcl, Nat.mul_one]
    exact hF'
theorem and_i {a b : Bool} (h : a = true) (h' : b = true) : (a && b) = true := by rw [h, h']; rfl
theorem not_and_r {a b : Bool} (h : (!b) = true) : (!(a && b)) = true := by cases a <;> simp_all
theorem nn {a : Bool} (h : a = true) : (!(!a)) = true := by rw [h]; rfl
end
end Go.Lk
