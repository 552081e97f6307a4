/- A part of this proof: AlarmLast returns true for every input and leaves its arguments as they were; there are no conditions. -/
import Derived.Test.YtaclkgdbkejfjaaL13
set_option linter.unusedVariables false
set_option linter.unusedSimpArgs false
namespace Go.Lk
open Go.RowKit Go.Lib
def Mp.lend (S : Mp) (g : Option Nat) (m : Nat) (cur : Array Value) : Mp := match g with
  | none => S
  | some b => S.put b m cur
def capOf : Value → Nat
  | .slice _ _ c => c
  | _ => 0
section
variable {P : Program} {n : Nat} {Q : Exit → Act → World → Prop} {K : Env} {w w' : World} {ops : Array Oper} {rest : List Oper} {o : Oper} {v : Value}
variable {Nx : Env → World → Prop} {dst : Option Nat} {ty : TypeId} {pos : String} {af : Array Edge} {gd' : Option (Nat × Bool)} {x y z : Operand} {u : Value} {k k' : IntKind} {i j : Int} {t t' : TypeId}
variable {w0 : World} {D : List Nat} {S0 S : Mp} {L : List Res} {α : Type} {sz : Nat} {R : Rel α} {xs ys : List α} {e : TypeId} {g : Option Nat} {cur : Array Value} {b : Nat}
theorem Rw.lend [Flat R] (h : Rw S sz R g cur v xs) : Rd (S.lend g (xs.length * sz) cur) sz R v xs := by
  cases g with
  | none => obtain ⟨rfl, rfl⟩ := h; exact Rd.nil _ _ _
  | some b =>
    obtain ⟨cap, rfl, h1, h2, h3, hF⟩ := h
    refine Rd.of_cells hF.flat (fun j u hj => ?_) h1 h2
    rw [List.getElem?_take] at hj
    split at hj
    · rename_i hjl
      rw [Go.Lk.add_plain, Nat.zero_add]
      show S.put b _ cur _ = _
      rw [Mp.put_at _ _ _ _ _ hjl]
      simpa using hj
    · cases hj
theorem St.lend (h : St w0 D S0 S L w) (i : Nat) (hi : L[i]? = some (.row g cur e)) (m : Nat) : Has (S.lend g m cur) w := by
  have hok := h.ok _ (List.mem_of_getElem? hi)
  cases g with
  | none => exact h.has
  | some b =>
    intro a u ea
    simp only [Mp.lend, Mp.put] at ea
    split at ea
    · rename_i hc
      obtain ⟨ab, ao, as⟩ := a
      simp at hc ea
      obtain ⟨rfl, rfl, _⟩ := hc
      rw [cell_of_row w _ ao cur e (0, 0) hok.1]
      exact ea
    · exact h.has a u ea
theorem St.unlend (h : St w0 D S0 S L w) (i : Nat) (hi : L[i]? = some (.row g cur e)) {m : Nat} {D' : List Nat} (hD : ∀ b, g = some b → b ∉ D') {N : List Res} {w' : World} {S1 : Mp} (h' : St w D' (S.lend g m cur) S1 N w') :
    ∃ S2, St w D' S S2 N w' ∧ ∀ {g2 : Option Nat} {v2 : Value} {e2 : TypeId} {sz2 : Nat} {β : Type} {R2 : Rel β} {zs : List β} [Flat R2], .app g2 v2 zs.length e2 sz2 ∈ N → Rd S1 sz2 R2 v2 zs → Rd S2 sz2 R2 v2 zs := by
  have hok := h.ok _ (List.mem_of_getElem? hi)
  cases g with
  | none => exact ⟨S1, h', fun _ hr => hr⟩
  | some b =>
    have hb : b < w.heap.size := (Array.getElem?_eq_some_iff.1 hok.1).1
    have hlend : ∀ a, a.block ≠ b → S.lend (some b) m cur a = S a := fun a ha => by
      show S.put b m cur a = S a
      simp only [Mp.put]
      rw [if_neg (fun hc => ha hc.1)]
    refine ⟨fun a => if a.block = b then none else S1 a, ⟨h'.os, h'.tape, h'.output, h'.size, h'.old, fun a u ha => ?_, fun a u ha => ?_, fun a u ha => ?_, fun r hr => ?_, h'.nodup, h'.own⟩, fun {g2 v2 e2 sz2 β R2 zs _} hm hr => ?_⟩
    · have hne : a.block ≠ b := fun e => by rw [hok.2 a e] at ha; cases ha
      show (if a.block = b then none else S1 a) = some u
      rw [if_neg hne]
      exact h'.le a u (by rw [hlend a hne]; exact ha)
    · have ha' : (if a.block = b then none else S1 a) = some u := ha
      split at ha'
      · cases ha'
      · rename_i hne
        rcases h'.new a u ha' with q | q
        · rw [hlend a hne] at q; exact .inl q
        · exact .inr q
    · have ha' : (if a.block = b then none else S1 a) = some u := ha
      split at ha'
      · cases ha'
      · exact h'.has a u ha'
    · refine (h'.ok r hr).keep (fun _ _ => rfl) (fun a _ ha => ?_)
      show (if a.block = b then none else S1 a) = none
      split
      · rfl
      · exact ha
    · have hok2 := h'.ok _ hm
      cases g2 with
      | none =>
        obtain ⟨rfl, hn⟩ := hok2
        have : zs = [] := List.eq_nil_of_length_eq_zero hn
        subst this
        exact Rd.nil _ _ _
      | some g2 =>
        have hne : g2 ≠ b := fun e2 => by
          rcases h'.own _ hm g2 rfl with q | q
          · exact hD b rfl (e2 ▸ q)
          · omega
        obtain ⟨cap, cur2, rfl, _⟩ := hok2
        obtain ⟨A, c, flat, hv, h5, h6, hF, hE⟩ := hr
        injection hv with a1 a2 a3
        subst a1; subst a3
        refine ⟨_, _, flat, rfl, h5, h6, hF.flat, fun hn => ?_⟩
        obtain ⟨ad, hA, hEl⟩ := hE hn
        injection hA with hA
        subst hA
        refine ⟨_, rfl, fun j u hj => ?_⟩
        show (if (Addr.add _ j).block = b then none else S1 _) = some u
        rw [if_neg (by rw [add_block]; exact hne)]
        exact hEl j u hj
theorem mk_rowto (ht : P.underlying t = some (.slice e)) (hs : (P.info? e).map (·.size) = some sz) (hr : Rw S sz R g cur v xs) (h0 : 0 ≤ i ∧ i ≤ (xs.length : Int)) :
    ∃ v', Rw S sz R g cur v' (xs.take i.toNat) ∧ capOf v' = capOf v ∧ ∀ {n : Nat} {K : Env} {w : World} {dst : Option Nat} {x hi : Operand} {kh : IntKind} {ty : TypeId} {pos : String} {af : Array Edge} {g : Option (Nat × Bool)},
      ev K x = some v → ev K hi = some (.int kh i) → Ex P n K w ⟨dst, .slice t x none (some hi) none, ty, pos, af, g⟩ v' w := by
  have hX : ∀ (A : Option Addr) (c : Nat), xs.length ≤ c → ∀ {n : Nat} {K : Env} {w : World} {dst : Option Nat} {x hi : Operand} {kh : IntKind} {ty : TypeId} {pos : String} {af : Array Edge} {g : Option (Nat × Bool)},
      ev K x = some (.slice A xs.length c) → ev K hi = some (.int kh i) → Ex P n K w ⟨dst, .slice t x none (some hi) none, ty, pos, af, g⟩ (.slice A i.toNat c) w := fun A c hc {n K w dst x hi kh ty pos af g} hx hhi f hf => by
    have h1 := run_sliceAt (P := P) (w := w) (A := A) ht hs (lo := none) (hi := some (.int kh i)) (mx := none) (l := xs.length) (c := c) (a0 := 0) (b0 := i.toNat) (c0 := c) (by
      simp [Instr.sliceBounds, bound_run (P := P) h0.1 (show i ≤ (c : Int) by omega) w])
    have e0 : (if c = 0 then A else A.map (·.add (0 * sz))) = A := by
      split
      · rfl
      · cases A <;> simp [add_zero']
    rw [e0] at h1
    simp [execOp, hf.ev hx, hf.ev hhi, h1]
  have hl : (xs.take i.toNat).length = i.toNat := by rw [List.length_take]; omega
  cases g with
  | none =>
    obtain ⟨rfl, rfl⟩ := hr
    have hi0 : i = 0 := by simpa using (show i = 0 by have := h0.1; have := h0.2; simp at this; omega)
    subst hi0
    exact ⟨_, ⟨rfl, rfl⟩, rfl, fun hx hhi => by simpa using hX none 0 (Nat.zero_le _) hx hhi⟩
  | some b =>
    obtain ⟨cap, rfl, c1, c2, c3, hF⟩ := hr
    refine ⟨.slice (some ⟨b, 0, none⟩) i.toNat cap, ⟨cap, by rw [hl], by rw [hl]; omega, c2, c3, ?_⟩, rfl, fun hx hhi => hX _ cap c1 hx hhi⟩
    rw [hl]
    have h3 := hF.take i.toNat (by omega)
    rw [List.take_take, Nat.min_eq_left (Nat.mul_le_mul_right _ (by omega))] at h3
    exact h3
theorem Oq.appendFit {d : Nat} [Flat R] (hs : St w0 D S0 S L w) (q : Nat) (hq : L[q]? = some (.row g cur e)) {v0 v2 : Value} {xs0 : List α} {bytes : Nat} {inf : TypeInfo} {zv : Value} (ht : P.underlying t = some (.slice e)) (hinf : P.info? e = some inf) (hz : inf.zero = some zv)
    (hsize : inf.size = sz) (hby : inf.bytes = bytes) (hsz : Nat.ble 1 sz = true) (hr0 : Rw S sz R g cur v0 xs0) (hr : Rw S sz R g cur v xs) (hc : capOf v = capOf v0) {m : Nat} (hu : Rd (S.lend g m cur) sz R v2 ys)
    (hfit : xs.length + ys.length ≤ xs0.length) (hx : ev K x = some v) (hy : ev K y = some v2) (hdn : Nat.ble (d + 1) n = true)
    (h : ∀ v' w' cur', St w0 D S0 S (L.set q (.row g cur' e)) w' → Rw S sz R g cur' v' (xs ++ ys) → xs0.length ≤ capOf v' → Nx ((d, v') :: K) w') :
    Oq P n Q K w ⟨some d, .call { callee := .builtin .append, args := #[x, y], argTypes := #[t, t] }, ty, pos, af, gd'⟩ Nx := by
  obtain ⟨flat, hF, hsrc⟩ := Src.slice (P := P) (R := R) ht hinf hz hsize hby (Nat.le_of_ble_eq_true hsz) (hs.lend q hq m) hu
  have hok := hs.ok _ (List.mem_of_getElem? hq)
  have hxy : (xs ++ ys).length = xs.length + ys.length := List.length_append
  cases g with
  | none =>
    obtain ⟨rfl, rfl⟩ := hr
    obtain ⟨rfl, rfl⟩ := hr0
    have hy0 : ys = [] := List.eq_nil_of_length_eq_zero (by simpa using hfit)
    subst hy0
    refine Oq.append (R := fun a b => a = .slice none 0 0 ∧ b = w) hx hy hdn ⟨_, _, hsrc.zero rfl ty, rfl, rfl⟩ (fun a b hab => ?_)
    obtain ⟨rfl, rfl⟩ := hab
    exact h _ _ cur (hs.change (r := .row none cur e) hq rfl rfl rfl (Nat.le_refl _) (fun _ _ _ => rfl) (Le.refl _) (fun a u ea => .inl ea) hs.has trivial (fun b hb => by cases hb)) ⟨rfl, rfl⟩ (Nat.le_refl _)
  | some b =>
    obtain ⟨cap, rfl, c1, c2, c3, hF1⟩ := hr
    obtain ⟨cap0, rfl, d1, d2, d3, hF0⟩ := hr0
    have hcc : cap = cap0 := hc
    subst hcc
    have hroom : xs.length + ys.length ≤ cap := by omega
    have hfl : flat.length = ys.length * sz := hF.length
    have hfit2 : xs.length * sz + flat.length ≤ cur.size := by rw [hfl, c3, ← Nat.add_mul]; exact Nat.mul_le_mul_right _ hroom
    obtain ⟨w', hrun, hw'⟩ := hsrc.room ty b xs.length cap cur hok.1 hroom hfit2
    refine Oq.append (R := fun a b' => a = .slice (some ⟨b, 0, none⟩) (xs.length + ys.length) cap ∧ b' = w') hx hy hdn ⟨_, _, hrun, rfl, rfl⟩ (fun a b' hab => ?_)
    obtain ⟨rfl, rfl⟩ := hab
    rcases hw' with ⟨rfl, hfl0⟩ | rfl
    · have hx2 : ys.length * sz = 0 := by rw [← hfl, hfl0]; rfl
      refine h _ _ cur ?_ ⟨cap, by rw [hxy], by rw [hxy]; exact hroom, c2, c3, ?_⟩ d1
      · exact hs.change (r := .row (some b) cur e) hq rfl rfl rfl (Nat.le_refl _) (fun _ _ _ => rfl) (Le.refl _) (fun a u ea => .inl ea) hs.has hok (fun b' e => .inl e)
      · have h4 := hF1.append (S := S) (ys := ys) (g := flat) hF.flat
        rw [hfl0, List.append_nil] at h4
        rw [hxy, Nat.add_mul, hx2, Nat.add_zero]
        exact h4
    · refine h _ _ _ (hs.change (r := .row (some b) cur e) hq rfl rfl rfl (by simp) (fun k hk hb => setRow_other w b k _ (fun e => hb (by simp [Res.blk, e]))) (Le.refl _)
        (fun a v e => .inl e) (hs.has.keep fun a u e => setRow_other w b _ _ fun e' => by have := hok.2 a e'; rw [this] at e; cases e) ⟨setRow_heap w b cur _ e _ hok.1, hok.2⟩ fun b' e => .inl e) ⟨cap, by rw [hxy], by rw [hxy]; exact hroom, c2, ?_, ?_⟩ d1
      · have hcs : cur.toList.length = cap * sz := by simpa using c3
        simp only [List.size_toArray, List.length_append, List.length_take, List.length_drop, hcs]
        omega
      · have h4 := hF1.append (S := S) (ys := ys) (g := flat) hF.flat
        have l1 : (cur.toList.take (xs.length * sz) ++ flat).length = (xs ++ ys).length * sz := by rw [hxy, Nat.add_mul, List.length_append, hfl, List.length_take]; have : cur.toList.length = cur.size := rfl; omega
        rw [← l1]
        simp only [List.take_left]
        exact h4
theorem mk_rowtail (ht : P.underlying t = some (.slice e)) (hs : (P.info? e).map (·.size) = some sz) (hr : Rw S sz R g cur v xs) {n0 : Nat} (hcap : n0 ≤ capOf v) (hle : xs.length ≤ n0) :
    ∃ v', (∃ A c, v' = .slice A (n0 - xs.length) c ∧ (n0 = xs.length ∨ ∃ b, g = some b ∧ A = some ⟨b, xs.length * sz, none⟩ ∧ n0 * sz ≤ cur.size)) ∧
      ∀ {n : Nat} {K : Env} {w : World} {dst : Option Nat} {x lo hi : Operand} {kl kh : IntKind} {ty : TypeId} {pos : String} {af : Array Edge} {g : Option (Nat × Bool)},
        ev K x = some v → ev K lo = some (.int kl (xs.length : Int)) → ev K hi = some (.int kh (n0 : Int)) → Ex P n K w ⟨dst, .slice t x (some lo) (some hi) none, ty, pos, af, g⟩ v' w := by
  obtain ⟨A, c, rfl⟩ := hr.len
  have hc : n0 ≤ c := hcap
  refine ⟨.slice (if c = xs.length then A else A.map (·.add (xs.length * sz))) (n0 - xs.length) (c - xs.length), ⟨_, _, rfl, ?_⟩, fun {n K w dst x lo hi kl kh ty pos af g} hx hlo hhi f hf => ?_⟩
  · by_cases h0 : n0 = xs.length
    · exact .inl h0
    · right
      cases g with
      | none => obtain ⟨h1, rfl⟩ := hr; injection h1 with _ _ h1; subst h1; simp at h0; omega
      | some b =>
        obtain ⟨cap, h1, _, _, h3, _⟩ := hr
        injection h1 with h1 _ h2
        subst h1; subst h2
        refine ⟨b, rfl, ?_, by rw [h3]; exact Nat.mul_le_mul_right _ hc⟩
        rw [if_neg (by omega)]
        simp [Go.Lk.add_plain]
  · have h1 := run_sliceAt (P := P) (w := w) (A := A) ht hs (lo := some (.int kl (xs.length : Int))) (hi := some (.int kh (n0 : Int))) (mx := none) (l := xs.length) (c := c) (a0 := xs.length) (b0 := n0) (c0 := c) (by
      simp [Instr.sliceBounds, bound_run (P := P) (show (0 : Int) ≤ (n0 : Int) by omega) (show (n0 : Int) ≤ (c : Int) by omega) w, bound_run (P := P) (show (0 : Int) ≤ (xs.length : Int) by omega) (show (xs.length : Int) ≤ (n0 : Int) by omega) w])
    simp [execOp, hf.ev hx, hf.ev hlo, hf.ev hhi, h1]
theorem Oq.valN (he : Ex P n K w o v w') (hd : o.dst = none) (h : Nx K w') : Oq P n Q K w o Nx := fun a ha K' hK => by
  unfold Oper.wp
  rw [he a ha, Oper.upon_value, hd]
  exact hK _ _ ⟨_, ha, h⟩
theorem zeroCells_one {z : Value} (h1 : ∀ u ∈ z.cells.toList, u.oneCell' = true) {m : Nat} : ∀ u ∈ (Builtin.zeroCells z.cells m).toList, u.oneCell' = true := fun u hu => by
  simp only [Builtin.zeroCells] at hu
  simp at hu
  obtain ⟨j, hj, rfl⟩ := hu
  have hp : 0 < z.cells.size := by
    rcases Nat.eq_zero_or_pos z.cells.size with q | q
    · rw [q, Nat.mul_zero] at hj; omega
    · exact q
  have hlt := Nat.mod_lt j hp
  rw [getElem!_pos z.cells _ hlt]
  exact h1 _ (by simp)
theorem Oq.clearTail [Flat R] (hs : St w0 D S0 S L w) (q : Nat) (hq : L[q]? = some (.row g cur e)) {inf : TypeInfo} {zv : Value} (ht : P.underlying t = some (.slice e)) (hinf : P.info? e = some inf) (hz : inf.zero = some zv)
    (hzs : zv.cells.size = sz) (h1 : ∀ u ∈ zv.cells.toList, u.oneCell' = true) (hr : Rw S sz R g cur v xs) {n0 : Nat} {v' : Value} (hle : xs.length ≤ n0)
    (hT : ∃ A c, v' = .slice A (n0 - xs.length) c ∧ (n0 = xs.length ∨ ∃ b, g = some b ∧ A = some ⟨b, xs.length * sz, none⟩ ∧ n0 * sz ≤ cur.size)) (hx : ev K x = some v')
    (h : ∀ w' cur', St w0 D S0 S (L.set q (.row g cur' e)) w' → Rw S sz R g cur' v xs → Nx K w') :
    Oq P n Q K w ⟨none, .call { callee := .builtin .clear, args := #[x], argTypes := #[t] }, ty, pos, af, gd'⟩ Nx := by
  obtain ⟨A, c, rfl, hT⟩ := hT
  have hok := hs.ok _ (List.mem_of_getElem? hq)
  have hsame : St w0 D S0 S (L.set q (.row g cur e)) w := by
    have : L.set q (.row g cur e) = L := by
      refine List.ext_getElem? fun j => ?_
      rw [List.getElem?_set]
      split
      · rename_i hj; subst hj; rw [hq]; simp [(List.getElem?_eq_some_iff.1 hq).1]
      · rfl
    rw [this]; exact hs
  have nop : (n0 - xs.length = 0 ∨ A = none) → Ex P n K w ⟨none, .call { callee := .builtin .clear, args := #[x], argTypes := #[t] }, ty, pos, af, gd'⟩ (.tuple #[]) w := fun h0 f hf => by
    have hrun : (Builtin.clear_ #[t] ty #[.slice A (n0 - xs.length) c]).run P w = .ok (.tuple #[]) w := by
      rcases h0 with h0 | h0
      · rw [h0]; cases A <;> simp [Builtin.clear_, run_underlying ht]
      · rw [h0]; simp [Builtin.clear_, run_underlying ht]
    simp [execOp, hf.ev hx, resolve, invoke, builtin, hrun]
  by_cases h0 : n0 = xs.length
  · exact Oq.valN (nop (.inl (by omega))) rfl (h _ cur hsame hr)
  · rcases hT with hT | ⟨b, rfl, rfl, hfit⟩
    · exact absurd hT h0
    · have hsz : (Builtin.zeroCells zv.cells (n0 - xs.length)).toList.length = (n0 - xs.length) * sz := by
        have := size_zeroCells zv.cells (n0 - xs.length)
        rw [hzs] at this
        simpa using this
      have hst := run_storeCells_at P b (xs.length * sz) e (Builtin.zeroCells zv.cells (n0 - xs.length)).toList 0 cur w hok.1 (by
        rw [hsz, Nat.add_zero, ← Nat.add_mul]
        rw [show xs.length + (n0 - xs.length) = n0 by omega]; exact hfit) (zeroCells_one h1)
      have hl0 : ¬ (n0 - xs.length = 0) := by omega
      have hzv : ∀ w, (zeroValue e).run P w = .ok zv w := fun w => by simp [zeroValue, typeInfo, hinf, hz]
      have hrun : (Builtin.clear_ #[t] ty #[.slice (some ⟨b, xs.length * sz, none⟩) (n0 - xs.length) c]).run P w = .ok (.tuple #[]) (w.setRow b (cur.toList.take (xs.length * sz + 0) ++ (Builtin.zeroCells zv.cells (n0 - xs.length)).toList ++ cur.toList.drop (xs.length * sz + 0 + (Builtin.zeroCells zv.cells (n0 - xs.length)).toList.length)).toArray) := by
        obtain ⟨m, hm⟩ : ∃ m, n0 - xs.length = m + 1 := ⟨n0 - xs.length - 1, by omega⟩
        rw [hm] at hst ⊢
        simp only [Builtin.clear_, List.getElem?_toArray]
        simp [run_underlying ht, hzv] at hst ⊢
        simp [hst]
      obtain ⟨cap, rfl, c1, c2, c3, hF⟩ := hr
      have hcs : cur.toList.length = cap * sz := by simpa using c3
      have hle2 : xs.length * sz ≤ cap * sz := Nat.mul_le_mul_right _ c1
      have hn0 : xs.length * sz + (n0 - xs.length) * sz ≤ cap * sz := by rw [← Nat.add_mul, show xs.length + (n0 - xs.length) = n0 by omega, ← c3]; exact hfit
      have hex : Ex P n K w ⟨none, .call { callee := .builtin .clear, args := #[x], argTypes := #[t] }, ty, pos, af, gd'⟩ (.tuple #[]) (w.setRow b (cur.toList.take (xs.length * sz + 0) ++ (Builtin.zeroCells zv.cells (n0 - xs.length)).toList ++ cur.toList.drop (xs.length * sz + 0 + (Builtin.zeroCells zv.cells (n0 - xs.length)).toList.length)).toArray) := by
        generalize w.setRow b (cur.toList.take (xs.length * sz + 0) ++ (Builtin.zeroCells zv.cells (n0 - xs.length)).toList ++ cur.toList.drop (xs.length * sz + 0 + (Builtin.zeroCells zv.cells (n0 - xs.length)).toList.length)).toArray = W at hrun
        exact fun f hf => by simp [execOp, hf.ev hx, resolve, invoke, builtin, hrun]
      refine Oq.valN hex rfl (h _ (cur.toList.take (xs.length * sz + 0) ++ (Builtin.zeroCells zv.cells (n0 - xs.length)).toList ++ cur.toList.drop (xs.length * sz + 0 + (Builtin.zeroCells zv.cells (n0 - xs.length)).toList.length)).toArray ?_ ?_)
      · exact hs.change (r := .row (some b) cur e) hq rfl rfl rfl (by simp) (fun k hk hb => setRow_other w b k _ (fun e => hb (by simp [Res.blk, e]))) (Le.refl _)
          (fun a v e => .inl e) (hs.has.keep fun a u e => setRow_other w b _ _ fun e' => by have := hok.2 a e'; rw [this] at e; cases e) ⟨setRow_heap w b cur _ e _ hok.1, hok.2⟩ fun b' e => .inl e
      · refine ⟨cap, rfl, c1, c2, ?_, ?_⟩
        · simp only [List.size_toArray, List.length_append, List.length_take, List.length_drop, hsz, hcs, Nat.add_zero]
          omega
        · have l1 : (cur.toList.take (xs.length * sz)).length = xs.length * sz := by rw [List.length_take, hcs]; omega
          simp only [Nat.add_zero, List.append_assoc]
          rw [List.take_append, l1, Nat.sub_self, List.take_zero, List.append_nil, List.take_take, Nat.min_self]
          exact hF
end
end Go.Lk
