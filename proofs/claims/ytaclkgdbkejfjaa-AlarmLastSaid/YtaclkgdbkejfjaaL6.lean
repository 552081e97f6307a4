/- A part of this proof: AlarmLast returns true for every input and leaves its arguments as they were; there are no conditions. -/
import Derived.Test.YtaclkgdbkejfjaaL5
set_option linter.unusedVariables false
set_option linter.unusedSimpArgs false
namespace Go.Lk
open Go.RowKit
def ix {α : Type} (xs : List α) (i : Int) : Option α := if 0 ≤ i then xs[i.toNat]? else none
theorem ix_s {α : Type} {xs : List α} {i : Int} {x : α} (h : ix xs i = some x) : 0 ≤ i ∧ i < (xs.length : Int) ∧ xs[i.toNat]? = some x := by
  unfold ix at h
  split at h
  · rename_i h0
    have := (List.getElem?_eq_some_iff.1 h).1
    exact ⟨h0, by omega, h⟩
  · cases h
def app {α : Type} (bytes : Nat) (xs ys : List α) : Option (List α) := if (xs.length + ys.length) * bytes ≤ 140737488355328 then some (xs ++ ys) else none
theorem app_s {α : Type} {bytes : Nat} {xs ys r : List α} (h : app bytes xs ys = some r) : r = xs ++ ys ∧ (xs.length + ys.length) * bytes ≤ 140737488355328 := by
  unfold app at h
  split at h
  · rename_i h0; exact ⟨(Option.some.inj h).symm, h0⟩
  · cases h
def cutL {α : Type} (xs : List α) (a b : Int) : Option (List α) := if 0 ≤ a ∧ a ≤ b ∧ b ≤ (xs.length : Int) then some ((xs.drop a.toNat).take (b.toNat - a.toNat)) else none
theorem cutL_s {α : Type} {xs r : List α} {a b : Int} (h : cutL xs a b = some r) : (0 ≤ a ∧ a ≤ b ∧ b ≤ (xs.length : Int)) ∧ (xs.drop a.toNat).take (b.toNat - a.toNat) = r := by
  unfold cutL at h
  split at h
  · rename_i h0; exact ⟨h0, Option.some.inj h⟩
  · cases h
def cutTo {α : Type} (xs : List α) (b : Int) : Option (List α) := if 0 ≤ b ∧ b ≤ (xs.length : Int) then some (xs.take b.toNat) else none
theorem cutTo_s {α : Type} {xs r : List α} {b : Int} (h : cutTo xs b = some r) : (0 ≤ b ∧ b ≤ (xs.length : Int)) ∧ xs.take b.toNat = r := by
  unfold cutTo at h
  split at h
  · rename_i h0; exact ⟨h0, Option.some.inj h⟩
  · cases h
def cutFrom {α : Type} (xs : List α) (a : Int) : Option (List α) := if 0 ≤ a ∧ a ≤ (xs.length : Int) then some (xs.drop a.toNat) else none
theorem cutFrom_s {α : Type} {xs r : List α} {a : Int} (h : cutFrom xs a = some r) : (0 ≤ a ∧ a ≤ (xs.length : Int)) ∧ xs.drop a.toNat = r := by
  unfold cutFrom at h
  split at h
  · rename_i h0; exact ⟨h0, Option.some.inj h⟩
  · cases h
section
variable {P : Program} {n : Nat} {Q : Exit → Act → World → Prop} {K : Env} {w w' : World} {ops : Array Oper} {rest : List Oper} {o : Oper} {v : Value}
variable {Nx : Env → World → Prop} {dst : Option Nat} {ty : TypeId} {pos : String} {af : Array Edge} {gd' : Option (Nat × Bool)} {x y z : Operand} {u : Value} {k k' : IntKind} {i j : Int} {t t' : TypeId}
variable {w0 : World} {D : List Nat} {S0 S : Mp} {L : List Res} {α : Type} {sz : Nat} {R : Rel α} {xs ys : List α} {e : TypeId}
theorem Has.down {S S' : Mp} (h : Has S' w) (hl : Le S S') : Has S w := fun a v e => h a v (hl a v e)
theorem El.at0 {p : Addr} {vals : List Value} (h : El S p vals) {u : Value} (e : vals[0]? = some u) (hw : Has S w) : w.cell? p = some u := by
  have := h.at_ 0 e hw
  rwa [add_zero'] at this
theorem El.part {p : Addr} {vals part : List Value} (h : El S p vals) (off : Nat) (hp : (vals.drop off).take part.length = part) : El S (p.add off) part := fun j u e => by
  refine h.drop off j u ?_
  rw [← hp, List.getElem?_take] at e
  split at e
  · exact e
  · cases e
theorem St.range (h : St w0 D S0 S L w) (i : Nat) {b : Nat} {cs : Array Value} {t : TypeId} (hi : L[i]? = some (.box b cs t)) (off : Nat) {part : List Value} (hp : (cs.toList.drop off).take part.length = part) :
    ∀ q u, part[q]? = some u → w.cell? ((⟨b, off, none⟩ : Addr).add q) = some u := fun q u e => by
  rw [Go.Lk.add_plain]
  refine h.cell i hi (off + q) ?_
  rw [← hp, List.getElem?_take] at e
  split at e
  · rw [List.getElem?_drop] at e; simpa using e
  · cases e
theorem X.fieldB {b q0 q : Nat} {f : Nat} {fs : Array Field} {fd : Field} {m : Nat} (ht : P.underlying t = some (.struct fs)) (hf : fs[f]? = some fd) (hs : (P.info? fd.type).map (·.size) = some (m + 1)) (hx : ev K x = some (.pointer (some ⟨b, q0, none⟩)))
    (hq : q0 + fd.offset = q) : Ex P n K w ⟨dst, .fieldAddr t x f, ty, pos, af, gd'⟩ (.pointer (some ⟨b, q, none⟩)) w := by
  have := X.fieldAddr (n := n) (w := w) (dst := dst) (ty := ty) (pos := pos) (af := af) (g := gd') ht hf hs hx
  rw [Go.Lk.add_plain, hq] at this
  exact this
theorem Oq.alloc {d : Nat} {inf : TypeInfo} {z : Value} {cs : Array Value} (hs : St w0 D S0 S L w) (hi : P.info? t = some inf) (hz : inf.zero = some z) (hc : z.cells = cs) (hdn : Nat.ble (d + 1) n = true)
    (h : ∀ b w', St w0 D S0 S (.box b cs t :: L) w' → Nx ((d, .pointer (some ⟨b, 0, none⟩)) :: K) w') : Oq P n Q K w ⟨some d, .alloc t, ty, pos, af, gd'⟩ Nx := by
  subst hc
  exact Oq.val (X.alloc hi hz) rfl hdn (h _ _ (hs.box _ _))
theorem Oq.box {d : Nat} {cs : Array Value} (hs : St w0 D S0 S L w) (hx : ev K x = some v) (hc : v.cells = cs) (hdn : Nat.ble (d + 1) n = true)
    (h : ∀ b w', St w0 D S0 S (.box b cs t :: L) w' → Nx ((d, .pointer (some ⟨b, 0, none⟩)) :: K) w') : Oq P n Q K w ⟨some d, .box t x, ty, pos, af, gd'⟩ Nx := by
  subst hc
  exact Oq.val (X.box hx) rfl hdn (h _ _ (hs.box _ _))
theorem Oq.store (hs : St w0 D S0 S L w) (i : Nat) {b : Nat} {cs : Array Value} {tb : TypeId} (hi : L[i]? = some (.box b cs tb)) (q : Nat) (hz : (P.info? t).map (·.size) = some 1) (hx : ev K x = some (.pointer (some ⟨b, q, none⟩))) (hy : ev K y = some v)
    (h1 : v.cells = [v].toArray) (h2 : v.oneCell' = true) {v0 : Value} (hq : cs[q]? = some v0) (L' : List Res) (hL : L.set i (.box b (cs.setIfInBounds q v) tb) = L')
    (h : ∀ w', St w0 D S0 S L' w' → Nx K w') : Oq P n Q K w ⟨none, .store t x y, ty, pos, af, gd'⟩ Nx :=
  Oq.skip (X.store1 hz hx hy h1 h2 (hs.cell i hi q hq) (hs.frozen i hi q)) rfl (h _ (hL ▸ hs.store i hi q v))
theorem Oq.storeN (hs : St w0 D S0 S L w) (i : Nat) {b : Nat} {cs : Array Value} {tb : TypeId} (hi : L[i]? = some (.box b cs tb)) {vals : List Value} (hz : (P.info? t).map (·.size) = some vals.length) (hx : ev K x = some (.pointer (some ⟨b, 0, none⟩)))
    (hy : ev K y = some (.agg vals.toArray)) (h2 : ∀ u ∈ vals, u.oneCell' = true) (hl : cs.size = vals.length) (L' : List Res) (hL : L.set i (.box b vals.toArray tb) = L')
    (h : ∀ w', St w0 D S0 S L' w' → Nx K w') : Oq P n Q K w ⟨none, .store t x y, ty, pos, af, gd'⟩ Nx := by
  have hok := hs.ok _ (List.mem_of_getElem? hi)
  have hrun := run_storeVar_row (P := P) w b tb t cs vals.toArray hok.1 (by simpa using hz) (by simpa using hl) (by
    rw [Array.all_eq_true_iff_forall_mem]
    intro u hu
    exact h2 u (by simpa using hu))
  refine Oq.skip (w' := w.setRow b vals.toArray) (fun a ha => ?_) rfl (h _ (hL ▸ ?_))
  · simp [execOp, ha.ev hx, ha.ev hy, Instr.storeAt, Instr.sureAddr, hrun]
  · exact hs.change (r := .box b cs tb) hi rfl rfl rfl (by simp) (fun k hk hb => setRow_other w b k _ (fun e => hb (by simp [Res.blk, e]))) (Le.refl _)
      (fun a v e => .inl e) (hs.has.keep fun a u e => setRow_other w b _ _ fun e' => by have := hok.2 a e'; rw [this] at e; cases e) ⟨setRow_heap w b cs _ tb _ hok.1, hok.2⟩ fun b' e => .inl e
theorem zeros_eq {z : Value} {len : Nat} {cs0 : List Value} (hzs : z.cells.size = sz) (h0 : (List.replicate len z.cells.toList).flatten = cs0) :
    (Array.range (len * sz)).map (fun i => (if len * sz = 0 then #[] else z.cells)[i % (if len * sz = 0 then #[] else z.cells).size]!) = cs0.toArray := by
  subst h0
  rcases Nat.eq_zero_or_pos (len * sz) with h | h
  · have h2 : (List.replicate len z.cells.toList).flatten = [] := by
      apply List.eq_nil_of_length_eq_zero
      simp [hzs, h]
    rw [h2]
    apply Array.ext
    · simp [h]
    · intro i h1; simp [h] at h1
  · have hne : len * sz ≠ 0 := by omega
    simp only [hne, if_false, hzs]
    have hsz : 0 < sz := Nat.pos_of_mul_pos_left h
    have key : ∀ l : Nat, (List.range (l * sz)).map (fun i => z.cells[i % sz]!) = (List.replicate l z.cells.toList).flatten := by
      intro l
      induction l with
      | zero => simp
      | succ l ih =>
        rw [Nat.add_mul, Nat.one_mul, List.range_add, List.map_append, ih, List.replicate_succ', List.flatten_append]
        congr 1
        simp only [List.map_map, List.flatten_singleton]
        refine List.ext_getElem (by simp [hzs]) fun i h1 h2 => ?_
        have hi : i < sz := by simpa using h1
        simp [Nat.mod_eq_of_lt hi, hzs, hi]
    apply Array.ext'
    simp only [Array.toList_map, Array.toList_range, List.toList_toArray]
    exact key len
theorem Oq.lit {d : Nat} {len : Nat} {inf : TypeInfo} {z : Value} {cs0 cells : List Value} {l : List (Nat × Operand)} {ps : List (Nat × List Value)} (hs : St w0 D S0 S L w) (ht : P.underlying t = some (.slice e)) (hi : P.info? e = some inf) (hsz : inf.size = sz)
    (hbig : Nat.ble (len * sz) 16777216 = true) (hlen : Nat.ble len 16777216 = true) (hz : inf.zero = some z) (hzs : z.cells.size = sz) (h0 : (List.replicate len z.cells.toList).flatten = cs0)
    (hparts : Parts K l ps) (hfill : fillL (fun i => some (i * sz, sz)) cs0 ps = some cells) (hl : Nat.beq cells.length (len * sz) = true) (hdn : Nat.ble (d + 1) n = true)
    (h : ∀ b w' S', St w0 D S0 S' (.app (some b) (.slice (some ⟨b, 0, none⟩) len len) len e sz :: L) w' → Le S S' → El S' ⟨b, 0, none⟩ cells → Nx ((d, .slice (some ⟨b, 0, none⟩) len len) :: K) w') :
    Oq P n Q K w ⟨some d, .buildSlice t len l.toArray, ty, pos, af, gd'⟩ Nx := by
  have hl' := Nat.eq_of_beq_eq_true hl
  have hb' := Nat.le_of_ble_eq_true hbig
  obtain ⟨h1, h2, h3⟩ := hs.newRow cells.toArray e len len sz (Nat.le_refl _) (by have := Nat.le_of_ble_eq_true hlen; simp only [maxLen]; omega) (by simpa using hl')
  refine Oq.val (X.buildSlice ht hi hsz hb' hz (zeros_eq hzs h0) hparts hfill) rfl hdn (h _ _ _ h1 h2 ?_)
  rw [List.take_of_length_le (by simp; omega)] at h3
  exact h3
theorem Oq.appendS {d : Nat} [Mono R] (hs : St w0 D S0 S L w) (i : Nat) {g : Option Nat} {v1 v2 : Value} {bytes : Nat} {zs : List α} (hi : L[i]? = some (.app g v1 xs.length e sz)) {inf : TypeInfo} {zv : Value} (ht : P.underlying t = some (.slice e)) (hinf : P.info? e = some inf) (hz : inf.zero = some zv)
    (hsize : inf.size = sz) (hby : inf.bytes = bytes) (hzs : zv.cells.size = sz) (hsz : Nat.ble 1 sz = true) (hbp : Nat.ble 1 bytes = true) (hr : Rd S sz R v1 xs) (hu : Rd S sz R v2 ys) (happ : app bytes xs ys = some zs)
    (hx : ev K x = some v1) (hy : ev K y = some v2) (hdn : Nat.ble (d + 1) n = true)
    (h : ∀ v' w' S' g', St w0 D S0 S' (L.set i (.app g' v' zs.length e sz)) w' → Le S S' → Rd S' sz R v' zs → Nx ((d, v') :: K) w') :
    Oq P n Q K w ⟨some d, .call { callee := .builtin .append, args := #[x, y], argTypes := #[t, t] }, ty, pos, af, gd'⟩ Nx := by
  obtain ⟨rfl, hm⟩ := app_s happ
  have hb1 := Nat.le_of_ble_eq_true hbp
  have hm2 : xs.length + ys.length ≤ maxLen := by
    have : xs.length + ys.length ≤ (xs.length + ys.length) * bytes := Nat.le_mul_of_pos_right _ hb1
    simp only [maxLen]
    omega
  obtain ⟨v', w', S', g', hrun, h1, h2, h3⟩ := hs.append i hi t ty inf zv ht hinf hz hsize hby hzs (Nat.le_of_ble_eq_true hsz) hr hu hm hm2
  exact Oq.append (R := fun a b => a = v' ∧ b = w') hx hy hdn ⟨v', w', hrun, rfl, rfl⟩ (fun a b hab => by
    obtain ⟨rfl, rfl⟩ := hab
    exact h _ _ _ _ h1 h2 h3)
end
end Go.Lk
