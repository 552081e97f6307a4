/- A part of this proof: AlarmLast returns true for every input and leaves its arguments as they were; there are no conditions. -/
import Derived.Test.YtaclkgdbkejfjaaL9
set_option linter.unusedVariables false
set_option linter.unusedSimpArgs false
namespace Go.Lk
open Go.RowKit Go.Lib
class Flat {α : Type} (R : Rel α) : Prop where
  flat : ∀ {S S' vals x}, R S vals x → R S' vals x
instance (k : IntKind) : Flat (RI k) := ⟨fun h => h⟩
instance : Flat RB := ⟨fun h => h⟩
instance : Flat RS := ⟨fun h => h⟩
def Rw {α : Type} (S : Mp) (sz : Nat) (R : Rel α) (g : Option Nat) (cur : Array Value) (v : Value) (xs : List α) : Prop :=
  match g with
  | none => v = .slice none 0 0 ∧ xs = []
  | some b => ∃ cap, v = .slice (some ⟨b, 0, none⟩) xs.length cap ∧ xs.length ≤ cap ∧ cap ≤ maxLen ∧ cur.size = cap * sz ∧ Fl S sz R (cur.toList.take (xs.length * sz)) xs
section
variable {P : Program} {n : Nat} {Q : Exit → Act → World → Prop} {K : Env} {w w' : World} {ops : Array Oper} {rest : List Oper} {o : Oper} {v : Value}
variable {Nx : Env → World → Prop} {dst : Option Nat} {ty : TypeId} {pos : String} {af : Array Edge} {gd' : Option (Nat × Bool)} {x y z : Operand} {u : Value} {k k' : IntKind} {i j : Int} {t t' : TypeId}
variable {w0 : World} {D : List Nat} {S0 S : Mp} {L : List Res} {α : Type} {sz : Nat} {R : Rel α} {xs ys : List α} {e : TypeId} {C : Array Bool → World → Prop} {g : Option Nat} {cur : Array Value} {b : Nat}
theorem Fl.flat [Flat R] {S' : Mp} : ∀ {xs : List α} {f : List Value}, Fl S sz R f xs → Fl S' sz R f xs
  | [], _, h => h
  | _ :: _, _, ⟨vals, rest, h1, h2, h3, h4, h5⟩ => ⟨vals, rest, h1, h2, h3, Flat.flat h4, Fl.flat h5⟩
theorem Rw.mono {S' : Mp} [Mono R] (h : Rw S sz R g cur v xs) (hl : Le S S') : Rw S' sz R g cur v xs := by
  cases g with
  | none => exact h
  | some b =>
    obtain ⟨cap, h1, h2, h3, h4, h5⟩ := h
    exact ⟨cap, h1, h2, h3, h4, h5.mono hl⟩
theorem Rw.len (h : Rw S sz R g cur v xs) : ∃ A c, v = .slice A xs.length c := by
  cases g with
  | none => obtain ⟨rfl, rfl⟩ := h; exact ⟨none, 0, rfl⟩
  | some b => obtain ⟨cap, h1, _⟩ := h; exact ⟨_, cap, h1⟩
theorem Rw.cells (h : Rw S sz R g cur v xs) : v.cells = [v].toArray := by
  obtain ⟨A, c, rfl⟩ := h.len
  rfl
theorem Rw.one (h : Rw S sz R g cur v xs) : v.oneCell' = true := by
  obtain ⟨A, c, rfl⟩ := h.len
  rfl
theorem X.lenRw (ht : P.underlying t = some (.slice e)) (hx : ev K x = some v) (hr : Rw S sz R g cur v xs) :
    Ex P n K w ⟨dst, .call { callee := .builtin .len, args := #[x], argTypes := #[t] }, ty, pos, af, gd'⟩ (.int .i64 (xs.length : Int)) w := by
  obtain ⟨A, c, rfl⟩ := hr.len
  exact X.len (tys := #[]) ht hx
theorem Rw.lt (h : Rw S sz R g cur v xs) : xs.length ≤ maxLen := by
  cases g with
  | none => obtain ⟨rfl, rfl⟩ := h; exact Nat.zero_le _
  | some b => obtain ⟨cap, h1, h2, h3, _⟩ := h; omega
theorem St.unseal [Flat R] (h0 : Has S0 w0) (h : St w0 [] S0 S L w) (i : Nat) (hi : L[i]? = some (.app g v xs.length e sz)) (hr : Rd S sz R v xs) :
    ∃ S' cur, St w0 [] S0 S' (L.set i (.row g cur e)) w ∧ Rw S' sz R g cur v xs := by
  have hlt : i < L.length := (List.getElem?_eq_some_iff.1 hi).1
  have hok := h.ok _ (List.mem_of_getElem? hi)
  have hnd : ∀ cur, ((L.set i (.row g cur e)).filterMap Res.blk).Nodup := fun cur => nodup_set h.nodup hi fun b hb => .inl hb
  have hown : ∀ cur, ∀ r ∈ L.set i (.row g cur e), ∀ b, r.blk = some b → b ∈ ([] : List Nat) ∨ w0.heap.size ≤ b := fun cur r hr2 b hb => by
    rcases List.mem_or_eq_of_mem_set hr2 with h2 | h2
    · exact h.own r h2 b hb
    · subst h2; exact h.own _ (List.mem_of_getElem? hi) b hb
  cases g with
  | none =>
    obtain ⟨rfl, hn⟩ := hok
    have hx : xs = [] := List.eq_nil_of_length_eq_zero hn
    subst hx
    refine ⟨S, #[], ⟨h.os, h.tape, h.output, h.size, h.old, h.le, h.new, h.has, fun r hr2 => ?_, hnd _, hown _⟩, rfl, rfl⟩
    rcases List.mem_or_eq_of_mem_set hr2 with h2 | h2
    · exact h.ok r h2
    · subst h2; exact trivial
  | some b =>
    obtain ⟨cap, cur, rfl, hg, h1, h2, h3, h4⟩ := hok
    have hb0 : w0.heap.size ≤ b := by
      rcases h.own _ (List.mem_of_getElem? hi) b rfl with q | q
      · cases q
      · exact q
    obtain ⟨A, c, flat, hv, h5, h6, hF, hE⟩ := hr
    injection hv with a1 a2 a3
    subst a1; subst a3
    have hfl : flat = cur.toList.take (xs.length * sz) := by
      refine List.ext_getElem? fun j => ?_
      by_cases hj : j < flat.length
      · have hne : flat ≠ [] := fun e => by rw [e] at hj; exact absurd hj (by simp)
        obtain ⟨ad, hA, hEl⟩ := hE hne
        injection hA with hA
        subst hA
        have hc := h.has _ _ (hEl j _ (List.getElem?_eq_getElem hj))
        rw [Go.Lk.add_plain, Nat.zero_add, cell_of_row w b j cur e (0, 0) hg] at hc
        rw [List.getElem?_take, if_pos (by rw [hF.length] at hj; exact hj), List.getElem?_eq_getElem hj]
        simpa using hc.symm
      · have hl : (cur.toList.take (xs.length * sz)).length = xs.length * sz := by
          rw [List.length_take, show cur.toList.length = cur.size from rfl, h3]
          exact Nat.min_eq_left (Nat.mul_le_mul_right _ h1)
        rw [List.getElem?_eq_none (by omega), List.getElem?_eq_none (by rw [hl, ← hF.length]; omega)]
    refine ⟨fun a => if a.block = b then none else S a, cur, ⟨h.os, h.tape, h.output, h.size, h.old, fun a u ha => ?_, fun a u ha => ?_, fun a u ha => ?_, fun r hr2 => ?_, hnd _, hown _⟩, cap, rfl, h1, h2, h3, ?_⟩
    · have : a.block < w0.heap.size := World.block_lt_of_cell? w0 a (h0 a u ha)
      show (if a.block = b then none else S a) = some u
      rw [if_neg (by omega)]
      exact h.le a u ha
    · have ha' : (if a.block = b then none else S a) = some u := ha
      split at ha'
      · cases ha'
      · exact h.new a u ha'
    · have ha' : (if a.block = b then none else S a) = some u := ha
      split at ha'
      · cases ha'
      · exact h.has a u ha'
    · obtain ⟨j, hj, hj2⟩ := List.getElem_of_mem hr2
      by_cases hji : j = i
      · subst hji
        have : r = .row (some b) cur e := by rw [← hj2]; simp
        subst this
        exact ⟨hg, fun a ha => by show (if a.block = b then none else S a) = none; rw [if_pos ha]⟩
      · have : r ∈ L := by
          rw [← hj2, List.getElem_set_ne (Ne.symm hji)]
          exact List.getElem_mem _
        refine (h.ok r this).keep (fun _ _ => rfl) (fun a _ ha => ?_)
        show (if a.block = b then none else S a) = none
        split
        · rfl
        · exact ha
    · rw [← hfl]; exact hF.flat
theorem St.rowcell (h : St w0 D S0 S L w) (i : Nat) (hi : L[i]? = some (.row (some b) cur e)) (j : Nat) (hv : cur[j]? = some u) : w.cell? ⟨b, j, none⟩ = some u := by
  rw [cell_of_row w b j cur e (0, 0) (h.ok _ (List.mem_of_getElem? hi)).1]
  exact hv
theorem St.rowheap (h : St w0 D S0 S L w) (i : Nat) (hi : L[i]? = some (.row (some b) cur e)) : w.heap[b]? = some (.cells cur e (0, 0)) := (h.ok _ (List.mem_of_getElem? hi)).1
theorem mk_rowix {c : α} (ht : P.underlying t = some (.slice e)) (hs : (P.info? e).map (·.size) = some sz) (hr : Rw S sz R g cur v xs) (hi : ix xs i = some c) :
    ∃ b vals, g = some b ∧ vals.length = sz ∧ R S vals c ∧ (∀ q u, vals[q]? = some u → cur[i.toNat * sz + q]? = some u) ∧
      ∀ {n : Nat} {K : Env} {w : World} {dst : Option Nat} {x y : Operand} {k : IntKind} {ty : TypeId} {pos : String} {af : Array Edge} {g : Option (Nat × Bool)},
        ev K x = some v → ev K y = some (.int k i) → Ex P n K w ⟨dst, .indexAddr t x y, ty, pos, af, g⟩ (.pointer (some ⟨b, i.toNat * sz, none⟩)) w := by
  obtain ⟨h0, h1, h2⟩ := ix_s hi
  cases g with
  | none => obtain ⟨_, rfl⟩ := hr; simp at h1; omega
  | some b =>
    obtain ⟨cap, rfl, c1, c2, c3, hF⟩ := hr
    have hil : i.toNat < xs.length := by omega
    have hd := hF.drop i.toNat (Nat.le_of_lt hil)
    rw [List.drop_eq_getElem_cons hil] at hd
    have hxi : xs[i.toNat] = c := by rw [List.getElem?_eq_getElem hil] at h2; exact Option.some.inj h2
    rw [hxi] at hd
    obtain ⟨vals, rest, e1, e2, e3, e4, e5⟩ := hd
    refine ⟨b, vals, rfl, e2, e4, fun q u hq => ?_, fun {n K w dst x y k ty pos af g} hx hy => ?_⟩
    · have hql : q < vals.length := (List.getElem?_eq_some_iff.1 hq).1
      have h3 : ((cur.toList.take (xs.length * sz)).drop (i.toNat * sz))[q]? = some u := by rw [e1, List.getElem?_append_left hql]; exact hq
      rw [List.getElem?_drop, List.getElem?_take] at h3
      split at h3
      · simpa using h3
      · cases h3
    · have := X.indexAddr (n := n) (w := w) (dst := dst) (ty := ty) (pos := pos) (af := af) (g := g) ht hs hx hy h0 h1
      rw [Go.Lk.add_plain, Nat.zero_add] at this
      exact this
theorem Fl.set {x' : α} {vals : List Value} {f : Nat} : ∀ {xs : List α} {flat : List Value} {i : Nat}, Fl S sz R flat xs → i < xs.length → (flat.drop (i * sz)).take sz = vals → f < sz → u.oneCell' = true → R S (vals.set f u) x' →
    Fl S sz R (flat.set (i * sz + f) u) (xs.set i x')
  | [], _, i, _, hi, _, _, _, _ => by simp at hi
  | x :: xs, _, 0, ⟨v0, rest, rfl, h2, h3, h4, h5⟩, hi, hseg, hf, hu, hR => by
    have e1 : vals = v0 := by rw [← hseg, Nat.zero_mul, List.drop_zero, ← h2, List.take_left]
    subst e1
    refine ⟨vals.set f u, rest, ?_, by simpa using h2, fun y hy => ?_, hR, h5⟩
    · rw [Nat.zero_mul, Nat.zero_add, List.set_append_left _ _ (by omega)]
    · rcases List.mem_or_eq_of_mem_set hy with q | q
      · exact h3 y q
      · rw [q]; exact hu
  | x :: xs, _, i + 1, ⟨v0, rest, rfl, h2, h3, h4, h5⟩, hi, hseg, hf, hu, hR => by
    have e0 : (i + 1) * sz = sz + i * sz := by rw [Nat.add_mul, Nat.one_mul, Nat.add_comm]
    have e1 : (rest.drop (i * sz)).take sz = vals := by
      rw [← hseg, e0, ← h2, ← List.drop_drop, List.drop_left]
    have := Fl.set (xs := xs) (flat := rest) (i := i) h5 (by simpa using hi) e1 hf hu hR
    refine ⟨v0, rest.set (i * sz + f) u, ?_, h2, h3, h4, this⟩
    rw [List.set_append_right _ _ (by rw [e0]; omega)]
    congr 2
    rw [e0]
    omega
theorem Rw.set {c x' : α} {vals : List Value} {f : Nat} (hr : Rw S sz R (some b) cur v xs) (hi : ix xs i = some c) (hl : vals.length = sz) (hc : ∀ q u, vals[q]? = some u → cur[i.toNat * sz + q]? = some u) (hf : f < sz) (hu : u.oneCell' = true) (hR : R S (vals.set f u) x') :
    Rw S sz R (some b) (cur.setIfInBounds (i.toNat * sz + f) u) v (xs.set i.toNat x') := by
  obtain ⟨h0, h1, h2⟩ := ix_s hi
  obtain ⟨cap, hv, c1, c2, c3, hF⟩ := hr
  have hil : i.toNat < xs.length := by omega
  have hmul : i.toNat * sz + sz ≤ xs.length * sz := by
    have : (i.toNat + 1) * sz ≤ xs.length * sz := Nat.mul_le_mul_right _ hil
    rw [Nat.add_mul, Nat.one_mul] at this
    exact this
  have hseg : ((cur.toList.take (xs.length * sz)).drop (i.toNat * sz)).take sz = vals := by
    refine List.ext_getElem? fun q => ?_
    rw [List.getElem?_take]
    split
    · rename_i hq
      rw [List.getElem?_drop, List.getElem?_take, if_pos (by omega)]
      have hq2 : q < vals.length := by omega
      rw [List.getElem?_eq_getElem hq2]
      simpa using hc q _ (List.getElem?_eq_getElem hq2)
    · rw [List.getElem?_eq_none (by omega)]
  have := hF.set hil hseg hf hu hR
  refine ⟨cap, by rw [List.length_set]; exact hv, by rw [List.length_set]; exact c1, c2, by simpa using c3, ?_⟩
  rw [List.length_set, Array.toList_setIfInBounds, List.take_set]
  exact this
theorem Oq.appendRow {d : Nat} [Mono R] (hs : St w0 D S0 S L w) (q : Nat) (hq : L[q]? = some (.row g cur e)) {v2 : Value} {bytes : Nat} {zs : List α} {inf : TypeInfo} {zv : Value} (ht : P.underlying t = some (.slice e)) (hinf : P.info? e = some inf) (hz : inf.zero = some zv)
    (hsize : inf.size = sz) (hby : inf.bytes = bytes) (hzs : zv.cells.size = sz) (hsz : Nat.ble 1 sz = true) (hbp : Nat.ble 1 bytes = true) (hr : Rw S sz R g cur v xs) (hu : Rd S sz R v2 ys) (happ : app bytes xs ys = some zs)
    (hx : ev K x = some v) (hy : ev K y = some v2) (hdn : Nat.ble (d + 1) n = true)
    (h : ∀ v' w' g' cur', St w0 D S0 S (L.set q (.row g' cur' e)) w' → Rw S sz R g' cur' v' zs → Nx ((d, v') :: K) w') :
    Oq P n Q K w ⟨some d, .call { callee := .builtin .append, args := #[x, y], argTypes := #[t, t] }, ty, pos, af, gd'⟩ Nx := by
  obtain ⟨rfl, hm⟩ := app_s happ
  obtain ⟨flat, hF, hsrc⟩ := Src.slice (P := P) (R := R) ht hinf hz hsize hby (Nat.le_of_ble_eq_true hsz) hs.has hu
  have hb1 := Nat.le_of_ble_eq_true hbp
  have hm2 : xs.length + ys.length ≤ maxLen := by
    have : xs.length + ys.length ≤ (xs.length + ys.length) * bytes := Nat.le_mul_of_pos_right _ hb1
    simp only [maxLen]
    omega
  have hok := hs.ok _ (List.mem_of_getElem? hq)
  obtain ⟨flat0, hown, hF0, hvb⟩ : ∃ flat0, w.ownsRow 0 e sz v xs.length flat0 ∧ Fl S sz R flat0 xs ∧ v.ownBlock = g := by
    cases g with
    | none =>
      obtain ⟨rfl, rfl⟩ := hr
      exact ⟨[], World.ownsRow_nil w 0 e sz, rfl, rfl⟩
    | some b =>
      obtain ⟨cap, rfl, c1, c2, c3, hF0⟩ := hr
      exact ⟨_, ⟨hF0.length, .inr ⟨b, cap, cur, rfl, Nat.zero_le _, hok.1, c1, c2, c3, rfl⟩⟩, hF0, rfl⟩
  obtain ⟨v', w', hrun, hown', hgr, hdr, hblk⟩ := hsrc.run (ty := ty) hzs hown hm hm2
  have hlt : ∀ a u, S a = some u → a.block < w.heap.size := fun a u e => World.block_lt_of_cell? w a (hs.has a u e)
  have hxy : (xs ++ ys).length = xs.length + ys.length := List.length_append
  have hSg : ∀ a u, S a = some u → g ≠ some a.block := fun a u ea eg => by
    subst eg
    have := hok.2 a rfl
    rw [this] at ea; cases ea
  refine Oq.append (R := fun a b => a = v' ∧ b = w') hx hy hdn ⟨v', w', hrun, rfl, rfl⟩ (fun a b hab => ?_)
  obtain ⟨rfl, rfl⟩ := hab
  have hhas : Has S b := hs.has.keep fun a u ea => hgr.block _ (hlt a u ea) (by rw [hvb]; exact Ne.symm (hSg a u ea))
  rcases hown'.2 with ⟨hv', hn0⟩ | ⟨g2, cap, cur2, hv', _, hg, hnc, hcm', hcs, htake⟩
  · subst hv'
    have hx0 : xs = [] := List.eq_nil_of_length_eq_zero (by omega)
    have hy0 : ys = [] := List.eq_nil_of_length_eq_zero (by omega)
    subst hx0; subst hy0
    exact h _ _ none #[] (hs.change hq hgr.os hgr.tape hgr.output hgr.size (fun k hk hb => hgr.block k hk (by rw [hvb]; exact Ne.symm hb)) (Le.refl _) (fun a u ea => .inl ea) hhas trivial (fun b hb => by cases hb) hdr) ⟨rfl, rfl⟩
  · subst hv'
    have hgb : g = some g2 ∨ w.heap.size ≤ g2 := by
      rcases hblk with h1 | ⟨h1, _⟩
      · left; rw [← hvb, ← h1]; rfl
      · right; simp [Value.ownBlock] at h1; omega
    refine h _ _ (some g2) cur2 (hs.change hq hgr.os hgr.tape hgr.output hgr.size (fun k hk hb => hgr.block k hk (by rw [hvb]; exact Ne.symm hb)) (Le.refl _) (fun a u ea => .inl ea) hhas ⟨hg, fun a ha => ?_⟩ (fun b' hb => ?_) hdr) ⟨cap, by rw [hxy], by rw [hxy]; exact hnc, hcm', hcs, ?_⟩
    · cases ea : S a with
      | none => rfl
      | some u =>
        rcases hgb with q1 | q1
        · exact absurd (by rw [q1, ha]) (hSg a u ea)
        · have := hlt a u ea; omega
    · have : b' = g2 := by simpa [Res.blk] using hb.symm
      subst this
      exact hgb
    · rw [hxy, htake]
      exact hF0.append hF
theorem St.rowrange (h : St w0 D S0 S L w) (i : Nat) (hi : L[i]? = some (.row (some b) cur e)) {off : Nat} {vals : List Value} (hC : ∀ q u, vals[q]? = some u → cur[off + q]? = some u) :
    ∀ q u, vals[q]? = some u → w.cell? ((⟨b, off, none⟩ : Addr).add q) = some u := fun q u e => by
  rw [Go.Lk.add_plain]
  exact h.rowcell i hi _ (hC q u e)
end
end Go.Lk
