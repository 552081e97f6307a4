/- A part of this proof: RtcpTells returns true for every input and leaves its arguments as they were; there are no conditions. -/
import Derived.Test.YtnpgmljphheabaaL8
import Derived.Lib.AppendStr
import Derived.Laws.Cover3
set_option linter.unusedVariables false
set_option linter.unusedSimpArgs false
namespace Go.Lk
open Go.RowKit Go.Lib
theorem get_g {K : Env} {t : Nat} {g : Bool} {v : Value} (h : get K t = some (gv g v)) (hg : g = true) : get K t = some v := by
  subst hg; exact h
section
variable {P : Program} {n : Nat} {Q : Exit → Act → World → Prop} {K : Env} {w w' : World} {ops : Array Oper} {rest : List Oper} {o : Oper} {v : Value}
variable {Nx : Env → World → Prop} {dst : Option Nat} {ty : TypeId} {pos : String} {af : Array Edge} {gd' : Option (Nat × Bool)} {x y z : Operand} {u : Value} {k k' : IntKind} {i j : Int} {t t' : TypeId}
variable {w0 : World} {D : List Nat} {S0 S : Mp} {L : List Res} {α : Type} {sz : Nat} {R : Rel α} {xs ys : List α} {e : TypeId} {C : Array Bool → World → Prop}
theorem fl_str (s : ByteArray) : Fl S 1 (RI .u8) (strCells s) (bytesOf s) := by
  unfold strCells bytesOf
  induction s.data.toList with
  | nil => rfl
  | cons b l ih => exact ⟨[.int .u8 (b.toNat : Int)], _, rfl, rfl, by intro u hu; simp at hu; subst hu; rfl, rfl, ih⟩
theorem bytesOf_length (s : ByteArray) : (bytesOf s).length = s.size := by rw [bytesOf, List.length_map, Array.length_toList]; rfl
theorem Src.str {t2 : TypeId} {inf : TypeInfo} (ht : P.underlying t = some (.slice e)) (hu : P.underlying t2 = some .string) (hinf : P.info? e = some inf) (hz : inf.zero = some (.int .u8 0)) (hsize : inf.size = 1) (hby : inf.bytes = 1) (s : ByteArray) :
    Src P w t t2 e 1 1 (.int .u8 0) (.string s) s.size (strCells s) := by
  refine ⟨by rw [strCells_length, Nat.mul_one], strCells_oneCell s, fun h0 ty => ?_, fun ty g n cap cur hg hroom hfit => ⟨_, ?_, .inr rfl⟩, fun ty b n cap olds hlo holds hc hm hm2 => ?_, fun ty h0 hm hm2 => ?_⟩
  · have hf := run_firstCells_string (P := P) w 1 s
    rw [h0] at hf
    have hn : strCells s = [] := List.eq_nil_of_length_eq_zero (by rw [strCells_length]; exact h0)
    rw [hn] at hf
    simp [Builtin.append_, run_underlying ht, run_underlying hu, sizeOf, typeInfo, hinf, hsize, Builtin.lenOf, h0, hf]
  · have := run_append_room_string (P := P) w t t2 ty e inf ht hu hinf hsize g n cap cur hg s hroom (by rw [strCells_length, Nat.mul_one] at hfit; exact hfit)
    rw [this]
    simp only [Nat.mul_one, strCells_length]
  · exact run_append_grow_string (P := P) w t t2 ty e inf (.int .u8 0) ht hu hinf hz b n cap olds (by rw [hsize]; exact hlo) holds s hc (by simp only [maxLen] at hm2; omega) (by rw [hby]; exact growslice_fits (by omega) hm)
  · have hr := run_append_nil_string (P := P) w t t2 ty e inf (.int .u8 0) ht hu hinf hz s h0 (by simp only [maxLen] at hm2; omega) (by rw [hby]; omega)
    have e1 : (s.data.map fun b => Value.int .u8 b.toNat) = (strCells s).toArray := by
      apply Array.ext'
      simp [strCells]
    rw [e1] at hr
    exact hr
theorem zeroCells_eq (z : Array Value) (n : Nat) : Builtin.zeroCells z n = (List.replicate n z.toList).flatten.toArray := by
  have key : ∀ l : Nat, (List.range (l * z.size)).map (fun i => z[i % z.size]!) = (List.replicate l z.toList).flatten := by
    intro l
    induction l with
    | zero => simp
    | succ l ih =>
      rw [Nat.add_mul, Nat.one_mul, List.range_add, List.map_append, ih, List.replicate_succ', List.flatten_append]
      congr 1
      simp only [List.map_map, List.flatten_singleton]
      refine List.ext_getElem (by simp) fun i h1 h2 => ?_
      have hi : i < z.size := by simpa using h1
      simp [Nat.mod_eq_of_lt hi, hi]
  apply Array.ext'
  unfold Builtin.zeroCells
  simp only [Array.toList_map, Array.toList_range, List.toList_toArray]
  exact key n
theorem fl_rep {vals : List Value} {x0 : α} (h1 : ∀ u ∈ vals, u.oneCell' = true) (hR : R S vals x0) : ∀ n, Fl S vals.length R (List.replicate n vals).flatten (List.replicate n x0)
  | 0 => rfl
  | n + 1 => ⟨vals, _, by rw [List.replicate_succ, List.flatten_cons], rfl, h1, hR, fl_rep h1 hR n⟩
def apz {α : Type} (bytes : Nat) (x0 : α) (xs : List α) (i : Int) : Option (List α) := if 0 ≤ i ∧ (xs.length + i.toNat) * bytes ≤ 140737488355328 then some (xs ++ List.replicate i.toNat x0) else none
theorem apz_s {bytes : Nat} {x0 : α} {r : List α} (h : apz bytes x0 xs i = some r) : r = xs ++ List.replicate i.toNat x0 ∧ 0 ≤ i ∧ (xs.length + i.toNat) * bytes ≤ 140737488355328 := by
  unfold apz at h
  split at h
  · rename_i h0; exact ⟨(Option.some.inj h).symm, h0⟩
  · cases h
theorem wrap_small {i : Int} (h0 : 0 ≤ i) (h1 : i ≤ 140737488355328) : IntKind.i64.wrap i = i := by
  have h2 : i % 18446744073709551616 = i := Int.emod_eq_of_lt h0 (by omega)
  unfold IntKind.wrap
  simp [IntKind.signed, IntKind.bits]
  omega
theorem Src.zeros {t2 : TypeId} {inf : TypeInfo} {zv : Value} {bytes : Nat} {k2 : IntKind} (ht : P.underlying t = some (.slice e)) (hu : P.underlying t2 = some (.int k2)) (hinf : P.info? e = some inf) (hz : inf.zero = some zv) (hsize : inf.size = sz) (hby : inf.bytes = bytes) (hzs : zv.cells.size = sz) (hsz : 0 < sz) (h1 : ∀ u ∈ zv.cells.toList, u.oneCell' = true)
    (hb : 1 ≤ bytes) (h0 : 0 ≤ i) (hi : i.toNat * bytes ≤ 140737488355328) :
    Src P w t t2 e sz bytes zv (.int k i) i.toNat (List.replicate i.toNat zv.cells.toList).flatten := by
  obtain ⟨m, rfl⟩ := Int.eq_ofNat_of_zero_le h0
  simp only [Int.ofNat_eq_natCast, Int.toNat_natCast] at hi ⊢
  have hle : m ≤ 140737488355328 := Nat.le_trans (Nat.le_mul_of_pos_right _ hb) hi
  have hw : IntKind.i64.wrap (m : Int) = (m : Int) := wrap_small (by omega) (by omega)
  have hneg : ¬ (m : Int) < 0 := by omega
  have hlen : (List.replicate m zv.cells.toList).flatten.length = m * sz := by simp [hzs]
  have h48b : ¬ ((281474976710656 : Int) < (m : Int) * (inf.bytes : Int)) := by
    rw [hby, ← Int.natCast_mul]
    omega
  have hzc := zeroCells_eq zv.cells m
  have hmz : m * inf.size = 0 → m = 0 := fun h => by
    rw [hsize] at h
    rcases Nat.mul_eq_zero.1 h with h | h
    · exact h
    · omega
  have hone : ∀ u ∈ (List.replicate m zv.cells.toList).flatten, u.oneCell' = true := fun u hu => by
    rw [List.mem_flatten] at hu
    obtain ⟨l, hl, hul⟩ := hu
    rw [(List.mem_replicate.1 hl).2] at hul
    exact h1 u hul
  have hsne : ¬ (inf.size = 0) := by omega
  refine ⟨hlen, hone, fun h0' ty => ?_, fun ty g n cap cur hg hroom hfit => ?_, fun ty b n cap olds hlo holds hc hm hm2 => ?_, fun ty h0' hm hm2 => ?_⟩
  · subst h0'
    simp only [Int.natCast_zero] at hw hneg h48b
    simp [Builtin.append_, run_underlying ht, run_underlying hu, sizeOf, typeInfo, hinf, asInt, asIntOf, hw]
  · by_cases hm0 : m = 0
    · subst hm0
      refine ⟨w, ?_, .inl ⟨rfl, rfl⟩⟩
      have hn : n ≤ cap := by omega
      simp only [Int.natCast_zero] at hw hneg h48b
      simp [Builtin.append_, run_underlying ht, run_underlying hu, sizeOf, typeInfo, hinf, asInt, asIntOf, hw, hn, storeCells]
    · have hms : ¬ (m * inf.size = 0) := fun h => hm0 (hmz h)
      have hst := run_storeCells_at P g (n * sz) e (List.replicate m zv.cells.toList).flatten 0 cur w hg (by simpa using hfit) hone
      simp only [Nat.add_zero] at hst
      refine ⟨_, ?_, .inr rfl⟩
      simp [Builtin.append_, run_underlying ht, run_underlying hu, sizeOf, typeInfo, hinf, asInt, asIntOf, hw, hneg, h48b, hm0, hsne, hms, hroom, zeroValue, hz, hzc, Addr.add_lit]
      have hms2 : ¬ (m * sz = 0) := by rw [← hsize]; exact hms
      rw [hsize, hst]
      simp
  · have hn : ¬ (n + m ≤ cap) := by omega
    have h63 : ¬ (9223372036854775807 < ((n : Int) + (m : Int))) := by simp only [maxLen] at hm2; omega
    have hfo := run_firstCells_some (P := P) w.drew inf.size n b n cap olds (by rw [hsize]; exact hlo) (by simpa using holds)
    have h48' : ¬ (281474976710656 < Builtin.nextslicecap (n + m) cap * inf.bytes) := by
      have := growslice_fits (need := n + m) (old := cap) (bytes := inf.bytes) (by omega) (by rw [hby]; exact hm)
      omega
    by_cases hm0 : m = 0
    · subst hm0
      have hn' : ¬ (n ≤ cap) := by omega
      have h63c : ¬ (9223372036854775807 < (n : Int)) := by omega
      simp only [Nat.add_zero] at h48'
      simp only [Int.natCast_zero] at hw hneg h48b
      simp [Builtin.append_, run_underlying ht, run_underlying hu, sizeOf, typeInfo, zeroValue, hinf, hz, asInt, asIntOf, hw, hn', h63c, h48', Question.forced, hfo, newRow, grownCap]
    · have hms : ¬ (m * inf.size = 0) := fun h => hm0 (hmz h)
      simp [Builtin.append_, run_underlying ht, run_underlying hu, sizeOf, typeInfo, zeroValue, hinf, hz, asInt, asIntOf, hw, hneg, h48b, hm0, hsne, hms, hn, h63, h48', Question.forced, hfo, newRow, grownCap, hzc]
      congr 2
      apply Array.ext'
      simp
  · have hn : ¬ (m = 0) := by omega
    have h63 : ¬ (9223372036854775807 < (m : Int)) := by omega
    have h48' : ¬ (281474976710656 < Builtin.nextslicecap m 0 * inf.bytes) := by rw [nextslicecap_zero h0', hby]; omega
    have hms : ¬ (m * inf.size = 0) := fun h => hn (hmz h)
    simp [Builtin.append_, run_underlying ht, run_underlying hu, sizeOf, typeInfo, zeroValue, hinf, hz, asInt, asIntOf, hw, hneg, h48b, hn, hsne, hms, h63, h48', Question.forced, run_firstCells_none, newRow, grownCap, hzc]
theorem Oq.appendG {d : Nat} [Mono R] {t2 : TypeId} (hs : St w0 D S0 S L w) (q : Nat) {g : Option Nat} {v1 v2 : Value} {bytes : Nat} (hi : L[q]? = some (.app g v1 xs.length e sz)) {zv : Value} {flat : List Value}
    (hsrc : Src P w t t2 e sz bytes zv v2 ys.length flat) (hF : Fl S sz R flat ys) (hzs : zv.cells.size = sz) (hb1 : 1 ≤ bytes) (hr : Rd S sz R v1 xs) (hm : (xs.length + ys.length) * bytes ≤ 140737488355328)
    (hx : ev K x = some v1) (hy : ev K y = some v2) (hdn : Nat.ble (d + 1) n = true)
    (h : ∀ v' w' S' g', St w0 D S0 S' (L.set q (.app g' v' (xs ++ ys).length e sz)) w' → Le S S' → Rd S' sz R v' (xs ++ ys) → Nx ((d, v') :: K) w') :
    Oq P n Q K w ⟨some d, .call { callee := .builtin .append, args := #[x, y], argTypes := #[t, t2] }, ty, pos, af, gd'⟩ Nx := by
  have hm2 : xs.length + ys.length ≤ maxLen := by
    have : xs.length + ys.length ≤ (xs.length + ys.length) * bytes := Nat.le_mul_of_pos_right _ hb1
    simp only [maxLen]
    omega
  obtain ⟨v', w', S', g', hrun, h1, h2, h3⟩ := hs.appendSrc q hi (ty := ty) hsrc hF hzs hr hm hm2
  exact Oq.append (R := fun a b => a = v' ∧ b = w') hx hy hdn ⟨v', w', hrun, rfl, rfl⟩ (fun a b hab => by
    obtain ⟨rfl, rfl⟩ := hab
    exact h _ _ _ _ h1 h2 h3)
theorem Oq.appendStr {d : Nat} {t2 : TypeId} (hs : St w0 D S0 S L w) (q : Nat) {g : Option Nat} {v1 : Value} {s : ByteArray} {xs zs : List Int} (hi : L[q]? = some (.app g v1 xs.length e 1)) {inf : TypeInfo} (ht : P.underlying t = some (.slice e)) (hu : P.underlying t2 = some .string)
    (hinf : P.info? e = some inf) (hz : inf.zero = some (.int .u8 0)) (hsize : inf.size = 1) (hby : inf.bytes = 1) (hr : Rd S 1 (RI .u8) v1 xs) {bs : List Int} (hbs : bytesOf s = bs) (happ : app 1 xs bs = some zs)
    (hx : ev K x = some v1) (hy : ev K y = some (.string s)) (hdn : Nat.ble (d + 1) n = true)
    (h : ∀ v' w' S' g', St w0 D S0 S' (L.set q (.app g' v' zs.length e 1)) w' → Le S S' → Rd S' 1 (RI .u8) v' zs → Nx ((d, v') :: K) w') :
    Oq P n Q K w ⟨some d, .call { callee := .builtin .append, args := #[x, y], argTypes := #[t, t2] }, ty, pos, af, gd'⟩ Nx := by
  subst hbs
  obtain ⟨rfl, hm⟩ := app_s happ
  have hsrc := Src.str (P := P) (w := w) ht hu hinf hz hsize hby s
  rw [← bytesOf_length s] at hsrc
  exact Oq.appendG hs q hi hsrc (fl_str s) rfl (Nat.le_refl _) hr hm hx hy hdn h
theorem Oq.appendZ {d : Nat} [Mono R] {t2 : TypeId} {k2 : IntKind} (hs : St w0 D S0 S L w) (q : Nat) {g : Option Nat} {v1 : Value} {bytes : Nat} {zs : List α} (hi : L[q]? = some (.app g v1 xs.length e sz)) {inf : TypeInfo} {zv : Value} (ht : P.underlying t = some (.slice e)) (hu : P.underlying t2 = some (.int k2))
    (hinf : P.info? e = some inf) (hz : inf.zero = some zv) (hsize : inf.size = sz) (hby : inf.bytes = bytes) (hzs : zv.cells.size = sz) (hsz : Nat.ble 1 sz = true) (hbp : Nat.ble 1 bytes = true) (h1 : ∀ u ∈ zv.cells.toList, u.oneCell' = true)
    {x0 : α} (hR : R S zv.cells.toList x0) (hr : Rd S sz R v1 xs) (happ : apz bytes x0 xs i = some zs)
    (hx : ev K x = some v1) (hy : ev K y = some (.int k i)) (hdn : Nat.ble (d + 1) n = true)
    (h : ∀ v' w' S' g', St w0 D S0 S' (L.set q (.app g' v' zs.length e sz)) w' → Le S S' → Rd S' sz R v' zs → Nx ((d, v') :: K) w') :
    Oq P n Q K w ⟨some d, .call { callee := .builtin .append, args := #[x, y], argTypes := #[t, t2] }, ty, pos, af, gd'⟩ Nx := by
  obtain ⟨rfl, h0, hm⟩ := apz_s happ
  have hb1 := Nat.le_of_ble_eq_true hbp
  have him : i.toNat * bytes ≤ 140737488355328 := Nat.le_trans (Nat.mul_le_mul_right _ (by omega)) hm
  have hsrc := Src.zeros (P := P) (w := w) (k := k) ht hu hinf hz hsize hby hzs (Nat.le_of_ble_eq_true hsz) h1 hb1 h0 him
  have hF := fl_rep (S := S) h1 hR i.toNat
  have hl : zv.cells.toList.length = sz := by rw [Array.length_toList]; exact hzs
  rw [hl] at hF
  have hrep : i.toNat = (List.replicate i.toNat x0).length := by simp
  rw [hrep] at hsrc
  have hsrc2 : Src P w t t2 e sz bytes zv (.int k i) (List.replicate i.toNat x0).length (List.replicate i.toNat zv.cells.toList).flatten := by simpa using hsrc
  exact Oq.appendG hs q hi hsrc2 hF hzs hb1 hr (by simpa using hm) hx hy hdn h
def isNil : Value → Bool
  | .slice none _ _ => true
  | _ => false
theorem X.eqlNil (hr : Rd S sz R v xs) (ht : P.underlying t = some (.slice e)) (hx : ev K x = some v) : Ex P n K w ⟨dst, .binOp .eql t x (.const (.slice none 0 0)) t', ty, pos, af, gd'⟩ (.bool (isNil v)) w := fun a ha => by
  obtain ⟨A, c, rfl⟩ := hr.len
  have e2 : a.eval (.const (.slice none 0 0)) = .slice none 0 0 := rfl
  have h1 := run_equal_slice_nil (P := P) w t e A xs.length c ht
  cases A <;> simp [execOp, ha.ev hx, e2, eqGuard, binOp, h1, isNil]
theorem nil_of (hr : Rd S sz R v xs) (hsz : 0 < sz) (h : isNil v = true) : xs = [] := by
  obtain ⟨A, c, flat, rfl, hc, hm, hF, hE⟩ := hr
  cases A with
  | some a => cases h
  | none =>
    have hfl : flat = [] := by
      cases flat with
      | nil => rfl
      | cons f fs => obtain ⟨ad, e, _⟩ := hE (by simp); cases e
    subst hfl
    have h0 : 0 = xs.length * sz := hF.length
    rcases Nat.mul_eq_zero.1 h0.symm with h | h
    · exact List.eq_nil_of_length_eq_zero h
    · omega
theorem clone_nil {b : Nat} {r : List α} (e : xs = []) (h : ((app b [] xs).bind fun y => some y) = some r) : (some [] : Option (List α)) = some r := by
  subst e
  have e1 : app b ([] : List α) [] = some [] := by simp [app]
  rw [e1] at h
  exact h
theorem X.indexSc {s : ByteArray} {m : Int} (ht : P.underlying t = some .string) (hx : ev K x = some (.string s)) (hy : ev K y = some (.int k i)) (h0 : 0 ≤ i) {b : UInt8} (hb : s[i.toNat]? = some b) (hm : (b.toNat : Int) = m) :
    Ex P n K w ⟨dst, .index t x y, ty, pos, af, gd'⟩ (.int .u8 m) w := by
  subst hm; exact X.indexS ht hx hy h0 hb
theorem Oq.appendFG {d : Nat} [Mono R] {t2 : TypeId} (hs : St w0 D S0 S L w) {v1 v2 : Value} {bytes : Nat} {zv : Value} {flat : List Value} (hsrc : Src P w t t2 e sz bytes zv v2 ys.length flat) (hF : Fl S sz R flat ys) (hzs : zv.cells.size = sz) (hb1 : 1 ≤ bytes) (hsz : 0 < sz)
    (hr : Rd S sz R v1 xs) (hfull : ∃ A, v1 = .slice A xs.length xs.length) (hne : 0 < ys.length) (hm : (xs.length + ys.length) * bytes ≤ 140737488355328)
    (hx : ev K x = some v1) (hy : ev K y = some v2) (hdn : Nat.ble (d + 1) n = true)
    (h : ∀ v' w' S' g', St w0 D S0 S' (.app g' v' (xs ++ ys).length e sz :: L) w' → Le S S' → Rd S' sz R v' (xs ++ ys) → Nx ((d, v') :: K) w') :
    Oq P n Q K w ⟨some d, .call { callee := .builtin .append, args := #[x, y], argTypes := #[t, t2] }, ty, pos, af, gd'⟩ Nx := by
  obtain ⟨A, rfl⟩ := hfull
  obtain ⟨A2, c2, flat2, hv2, _, _, hF2, hE2⟩ := id hr
  injection hv2 with q1 q2 q3
  subst q1; subst q3
  have hm2 : xs.length + ys.length ≤ maxLen := by
    have : xs.length + ys.length ≤ (xs.length + ys.length) * bytes := Nat.le_mul_of_pos_right _ hb1
    simp only [maxLen]
    omega
  have hxy : (xs ++ ys).length = xs.length + ys.length := List.length_append
  obtain ⟨old, hrun⟩ : ∃ old, (Builtin.append_ #[t, t2] ty #[.slice A xs.length xs.length, v2]).run P w =
      .ok (.slice (some ⟨w.heap.size, 0, none⟩) (xs.length + ys.length) (grownCap w (xs.length + ys.length) old e))
        (w.drew.alloc (.cells (flat2.toArray ++ flat.toArray ++ Builtin.zeroCells zv.cells (grownCap w (xs.length + ys.length) old e - (xs.length + ys.length))) e)) := by
    cases A with
    | none =>
      have hf2 : flat2 = [] := by
        cases flat2 with
        | nil => rfl
        | cons a b => obtain ⟨_, e1, _⟩ := hE2 (by simp); cases e1
      subst hf2
      have hx0 : xs = [] := by
        have h0 : 0 = xs.length * sz := hF2.length
        rcases Nat.mul_eq_zero.1 h0.symm with h | h
        · exact List.eq_nil_of_length_eq_zero h
        · omega
      subst hx0
      refine ⟨0, ?_⟩
      have hr1 := hsrc.nil ty (by omega) (by simpa using hm) (by simpa using hm2)
      simpa using hr1
    | some ad2 =>
      refine ⟨xs.length, ?_⟩
      have holds : ∀ j u, flat2[j]? = some u → w.cell? (ad2.add j) = some u := fun j u hj => by
        have hj0 : j < flat2.length := (List.getElem?_eq_some_iff.1 hj).1
        have hne : flat2 ≠ [] := fun e => by rw [e] at hj0; exact absurd hj0 (by simp)
        obtain ⟨ad', e1, hEl2⟩ := hE2 hne
        injection e1 with e1
        subst e1
        exact hs.has _ _ (hEl2 j u hj)
      exact hsrc.grow ty ad2 xs.length xs.length flat2 hF2.length holds (by omega) hm hm2
  have hge := grownCap_ge w (xs.length + ys.length) old e
  have hcm2 : grownCap w (xs.length + ys.length) old e ≤ maxLen := grownCap_le_maxLen w (xs.length + ys.length) old e hm2
  have hcs : (flat2.toArray ++ flat.toArray ++ Builtin.zeroCells zv.cells (grownCap w (xs.length + ys.length) old e - (xs.length + ys.length))).size = grownCap w (xs.length + ys.length) old e * sz := by
    simp only [Array.size_append, List.size_toArray, size_zeroCells, hzs, hF2.length, hF.length, ← Nat.add_mul]
    congr 1
    omega
  obtain ⟨h1, h2, h3⟩ := hs.drew.newRow _ e (xs.length + ys.length) _ sz hge hcm2 hcs
  have htk : (flat2.toArray ++ flat.toArray ++ Builtin.zeroCells zv.cells (grownCap w (xs.length + ys.length) old e - (xs.length + ys.length))).toList.take ((xs.length + ys.length) * sz) = flat2 ++ flat := by
    have hl : (flat2 ++ flat).length = (xs.length + ys.length) * sz := by rw [List.length_append, hF2.length, hF.length, Nat.add_mul]
    simp only [Array.toList_append, List.append_assoc]
    rw [← List.append_assoc, ← hl]
    exact List.take_left
  rw [htk] at h3
  refine Oq.append (R := fun a b => a = _ ∧ b = _) hx hy hdn ⟨_, _, hrun, rfl, rfl⟩ (fun a b hab => ?_)
  obtain ⟨rfl, rfl⟩ := hab
  refine h _ _ _ (some w.heap.size) ?_ h2 ?_
  · rw [hxy]; exact h1
  · have := Rd.of_cells (g := w.heap.size) (cap := grownCap w (xs.length + ys.length) old e) ((hF2.mono h2).append (hF.mono h2)) h3 (by rw [hxy]; exact hge) hcm2
    rw [hxy] at this
    exact this
theorem Oq.appendStrF {d : Nat} {t2 : TypeId} (hs : St w0 D S0 S L w) {v1 : Value} {s : ByteArray} {xs zs : List Int} {inf : TypeInfo} (ht : P.underlying t = some (.slice e)) (hu : P.underlying t2 = some .string)
    (hinf : P.info? e = some inf) (hz : inf.zero = some (.int .u8 0)) (hsize : inf.size = 1) (hby : inf.bytes = 1) (hr : Rd S 1 (RI .u8) v1 xs) (hfull : ∃ A, v1 = .slice A xs.length xs.length) {bs : List Int} (hbs : bytesOf s = bs) (hne : Nat.ble 1 bs.length = true) (happ : app 1 xs bs = some zs)
    (hx : ev K x = some v1) (hy : ev K y = some (.string s)) (hdn : Nat.ble (d + 1) n = true)
    (h : ∀ v' w' S' g', St w0 D S0 S' (.app g' v' zs.length e 1 :: L) w' → Le S S' → Rd S' 1 (RI .u8) v' zs → Nx ((d, v') :: K) w') :
    Oq P n Q K w ⟨some d, .call { callee := .builtin .append, args := #[x, y], argTypes := #[t, t2] }, ty, pos, af, gd'⟩ Nx := by
  subst hbs
  obtain ⟨rfl, hm⟩ := app_s happ
  have hsrc := Src.str (P := P) (w := w) ht hu hinf hz hsize hby s
  rw [← bytesOf_length s] at hsrc
  exact Oq.appendFG hs hsrc (fl_str s) rfl (Nat.le_refl _) (Nat.le_refl _) hr hfull (Nat.le_of_ble_eq_true hne) hm hx hy hdn h
theorem St.enterP (h : St w0 D S0 S L w) (is : List Nat) (hn : is.Nodup) {L' : List Res} (hm : is.mapM (fun i => L[i]?) = some L') {D' : List Nat} (hD : L'.filterMap Res.blk = D') : St w D' S S L' w := by
  have h2 := h.pick is hn hm
  refine ⟨rfl, rfl, rfl, Nat.le_refl _, fun _ _ _ => rfl, Le.refl _, fun _ _ e => .inl e, h.has, h2.ok, h2.nodup, fun r hr b hb => .inl ?_⟩
  rw [← hD]
  exact List.mem_filterMap.2 ⟨r, hr, hb⟩
def without (is : List Nat) : Nat → List Res → List Res
  | _, [] => []
  | k, r :: l => bif is.any (Nat.beq k) then without is (k + 1) l else r :: without is (k + 1) l
theorem without_sub (is : List Nat) : ∀ (k : Nat) (L : List Res), (without is k L).Sublist L
  | _, [] => List.Sublist.slnil
  | k, r :: l => by
    unfold without
    cases is.any (Nat.beq k) with
    | true => exact (without_sub is (k + 1) l).cons r
    | false => exact (without_sub is (k + 1) l).cons_cons r
theorem without_mem {is : List Nat} : ∀ {k : Nat} {L : List Res} {s : Res}, s ∈ without is k L → ∃ j, k + j ∉ is ∧ L[j]? = some s
  | _, [], s, h => by cases h
  | k, r :: l, s, h => by
    unfold without at h
    cases e : is.any (Nat.beq k) with
    | true =>
      rw [e] at h
      obtain ⟨j, h1, h2⟩ := without_mem (k := k + 1) (L := l) h
      exact ⟨j + 1, by rw [show k + (j + 1) = k + 1 + j by omega]; exact h1, h2⟩
    | false =>
      rw [e] at h
      rcases List.mem_cons.1 h with h1 | h1
      · subst h1
        refine ⟨0, fun hm => ?_, rfl⟩
        have : is.any (Nat.beq k) = true := List.any_eq_true.2 ⟨k, hm, by simp⟩
        rw [this] at e; cases e
      · obtain ⟨j, h1, h2⟩ := without_mem (k := k + 1) (L := l) h1
        exact ⟨j + 1, by rw [show k + (j + 1) = k + 1 + j by omega]; exact h1, h2⟩
theorem St.callP {S' : Mp} {N L' : List Res} {w' : World} {D' : List Nat} (h : St w0 D S0 S L w) (is : List Nat) (hm : is.mapM (fun i => L[i]?) = some L') (hD : L'.filterMap Res.blk = D') (h' : St w D' S S' N w') :
    St w0 D S0 S' (N ++ without is 0 L) w' := by
  refine h.call h' (without_sub is 0 L) (fun y hy d hd hmem => ?_) (fun d hd => ?_)
  · obtain ⟨j, h1, h2⟩ := without_mem hy
    rw [← hD] at hmem
    obtain ⟨r, hr, hrd⟩ := List.mem_filterMap.1 hmem
    obtain ⟨i, hi, hi2⟩ := pick_mem hm r hr
    exact nodup_ne h.nodup hi2 h2 (fun e => h1 (by rw [Nat.zero_add, ← e]; exact hi)) hrd hd
  · rw [← hD] at hd
    obtain ⟨r, hr, hrd⟩ := List.mem_filterMap.1 hd
    obtain ⟨i, hi, hi2⟩ := pick_mem hm r hr
    exact h.own r (List.mem_of_getElem? hi2) d hrd
theorem get_u {K : Env} {t : Nat} {g : Bool} {v : Value} (h : get K t = some (gv g v)) (hg : (!g) = true) : get K t = some undef := by
  cases g with
  | true => cases hg
  | false => exact h
theorem not_and_l {a b : Bool} (h : (!a) = true) : (!(a && b)) = true := by cases a <;> simp_all
end
end Go.Lk
