/- A part of this proof: AlarmLast returns true for every input and leaves its arguments as they were; there are no conditions. -/
import Derived.Test.YtaclkgdbkejfjaaL15
import Derived.Shelf.SlSortCmp.InsertionK
set_option linter.unusedVariables false
set_option linter.unusedSimpArgs false
namespace Go.Lk
open Go.RowKit Go.Lib Go.Sort Go.Proofs
section
variable {P : Program} {w0 w : World} {D : List Nat} {S0 S : Mp} {L : List Res} {α : Type} {sz : Nat} {R : Rel α} {xs : List α} {e : TypeId} {cur : Array Value} {b : Nat} {v : Value} {enc : α → List Value}
theorem grown_of {L : List Res} {w w' : World} (h : St w [] S0 S L w') : ∃ q os', w' = grow (w.drewN q) os' := by
  refine ⟨w'.drawn - w.drawn, w'.heap.extract w.heap.size w'.heap.size, ?_⟩
  have h1 := h.os.1
  have h2 := h.os.2
  have h3 := h.tape
  have h4 := h.output
  have h5 : w.heap ++ w'.heap.extract w.heap.size w'.heap.size = w'.heap := by
    refine Array.ext_getElem? fun i => ?_
    rw [Array.getElem?_append]
    split
    · rename_i hi; exact (h.old i hi (by simp)).symm
    · rename_i hi
      rw [Array.getElem?_extract]
      have := h.size
      split
      · rw [show w.heap.size + (i - w.heap.size) = i by omega]
      · rw [Array.getElem?_eq_none (by omega)]
  cases w with
  | mk hp tp dr os out =>
    cases w' with
    | mk hp' tp' dr' os' out' =>
      simp only at h1 h2 h3 h4 h5
      subst h1; subst h3; subst h4
      simp only [grow, World.drewN, h5]
      congr 1
      omega
theorem cmpLays_of [Inhabited α] {g : Nat} {cb : Array Value} {k : Nat} {cf : α → α → Int} {blk off size : Nat}
    (h : ∀ (x y : α) (W : World), Calls P g (#[.agg (enc x).toArray, .agg (enc y).toArray] ++ cb) W (Re fun v w1 => ∃ S0 S1 L, v = .int .i64 (cf x y) ∧ St W [] S0 S1 L w1)) : CmpLays P g cb enc k cf blk off size w := fun m os dk hs x y =>
  (h x y _).mono fun e w' ⟨v, he, S0, S1, L, hv, hst⟩ => ⟨by rw [he, hv], grown_of hst⟩
theorem flatMap_get (hk : ∀ x, (enc x).length = sz) [Inhabited α] : ∀ (xs : List α) (i c : Nat), i < xs.length → c < sz → (xs.flatMap enc)[i * sz + c]? = (enc xs[i]!)[c]?
  | [], i, c, h, _ => by simp at h
  | x :: xs, 0, c, _, hc => by
    rw [List.flatMap_cons, Nat.zero_mul, Nat.zero_add, List.getElem?_append_left (by rw [hk]; exact hc)]
    rfl
  | x :: xs, i + 1, c, h, hc => by
    rw [List.flatMap_cons, List.getElem?_append_right (by rw [hk, Nat.add_mul]; omega), hk, show (i + 1) * sz + c - sz = i * sz + c by rw [Nat.add_mul]; omega, flatMap_get hk xs i c (by simpa using h) hc]
    rfl
theorem flatMap_len (hk : ∀ x, (enc x).length = sz) : ∀ xs : List α, (xs.flatMap enc).length = xs.length * sz
  | [] => by simp
  | x :: xs => by rw [List.flatMap_cons, List.length_append, hk, flatMap_len hk xs, List.length_cons, Nat.add_mul]; omega
theorem flatK_list [Inhabited α] (hk : ∀ x, (enc x).length = sz) (xs : List α) : (flatK enc sz xs.toArray).toList = xs.flatMap enc := by
  refine List.ext_getElem? fun t => ?_
  by_cases ht : t < xs.length * sz
  · have h0 : 0 < sz := by rcases Nat.eq_zero_or_pos sz with q | q; rw [q] at ht; simp at ht; exact q
    have h1 : t / sz < xs.length := (Nat.div_lt_iff_lt_mul h0).2 ht
    have h2 := Nat.mod_lt t h0
    have e1 := flatMap_get hk xs (t / sz) (t % sz) h1 h2
    rw [show t / sz * sz + t % sz = t by rw [Nat.mul_comm]; exact Nat.div_add_mod t sz] at e1
    rw [e1]
    have e2 := get_flatK enc sz xs.toArray t (by simpa using ht)
    have hs : t < (flatK enc sz xs.toArray).size := by rw [size_flatK]; simpa using ht
    rw [getElem!_pos (flatK enc sz xs.toArray) t hs] at e2
    have h3 : t % sz < (enc xs.toArray[t / sz]!).length := by rw [hk]; exact h2
    rw [getElem!_pos (enc xs.toArray[t / sz]!) _ h3] at e2
    rw [List.getElem?_eq_getElem (by simpa using hs)]
    simp only [Array.getElem_toList]
    rw [e2, List.getElem?_eq_getElem (by rw [hk]; exact h2)]
    simp
  · rw [List.getElem?_eq_none (by simp; omega), List.getElem?_eq_none (by rw [flatMap_len hk]; omega)]
theorem Fl.flatMap (hE : ∀ S vals x, R S vals x → vals = enc x) : ∀ {xs : List α} {f : List Value}, Fl S sz R f xs → f = xs.flatMap enc
  | [], _, h => h
  | x :: xs, _, ⟨vals, rest, h1, h2, h3, h4, h5⟩ => by rw [h1, hE _ _ _ h4, Fl.flatMap hE h5, List.flatMap_cons]
theorem Fl.of_enc (hR : ∀ S x, R S (enc x) x) (hk : ∀ x, (enc x).length = sz) (h1 : ∀ x, ∀ u ∈ enc x, u.oneCell' = true) : ∀ xs : List α, Fl S sz R (xs.flatMap enc) xs
  | [] => rfl
  | x :: xs => ⟨enc x, xs.flatMap enc, by rw [List.flatMap_cons], hk x, h1 x, hR S x, Fl.of_enc hR hk h1 xs⟩
theorem Rw.holds [Inhabited α] (h : St w0 D S0 S L w) (i : Nat) (hi : L[i]? = some (.row (some b) cur e)) (hr : Rw S sz R (some b) cur v xs) (hE : ∀ S vals x, R S vals x → vals = enc x) (hk : ∀ x, (enc x).length = sz) : HoldsK enc sz w b 0 xs.toArray := by
  obtain ⟨cap, hv, h1, h2, h3, hF⟩ := hr
  have hf := hF.flatMap hE
  intro j hj
  rw [size_flatK] at hj
  have hj' : j < xs.length * sz := by simpa using hj
  rw [Nat.zero_add]
  constructor
  · refine h.rowcell i hi j ?_
    have hs : j < (flatK enc sz xs.toArray).size := by rw [size_flatK]; exact hj
    have e1 : (cur.toList.take (xs.length * sz))[j]? = (flatK enc sz xs.toArray).toList[j]? := by rw [hf, flatK_list hk]
    rw [List.getElem?_take, if_pos hj', Array.getElem?_toList, Array.getElem?_toList, Array.getElem?_eq_getElem hs] at e1
    rw [getElem!_pos (flatK enc sz xs.toArray) j hs]
    exact e1
  · have := h.rowheap i hi
    simp [World.frozen?, this]
theorem St.sortRow [Inhabited α] (h : St w0 D S0 S L w) (i : Nat) (hi : L[i]? = some (.row (some b) cur e)) (hr : Rw S sz R (some b) cur v xs) (hR : ∀ S x, R S (enc x) x) (hk : ∀ x, (enc x).length = sz) (h1 : ∀ x, ∀ u ∈ enc x, u.oneCell' = true)
    {d' : Array α} (hd : d'.size = xs.length) (n : Nat) (os : Array Obj) : ∃ cur', St w0 D S0 S (L.set i (.row (some b) cur' e)) (sortWorldK enc sz w b 0 n d' os) ∧ Rw S sz R (some b) cur' v d'.toList := by
  obtain ⟨cap, hv, c1, c2, c3, hF⟩ := hr
  have hlen : d'.toList.length = xs.length := by rw [Array.length_toList, hd]
  have hok := h.ok _ (List.mem_of_getElem? hi)
  have hb : b < w.heap.size := (Array.getElem?_eq_some_iff.1 hok.1).1
  have hheap : ∀ k, k < w.heap.size → (sortWorldK enc sz w b 0 n d' os).heap[k]? = (w.heap[k]?).map (fun o => if k = b then onCells (putCells id 0 (flatK enc sz d')) o else o) := fun k hk => by
    show (grow (putRow id (Sort.ahead w n) b 0 (flatK enc sz d')) os).heap[k]? = _
    rw [heap_grow_old _ _ (by simpa using hk)]
    simp only [putRow, mapBlock, heap_ahead, Array.getElem?_modify]
    by_cases hkb : b = k
    · subst hkb; simp
    · rw [if_neg hkb]; simp [Ne.symm hkb]
  have hcur : (sortWorldK enc sz w b 0 n d' os).heap[b]? = some (.cells (putCells id 0 (flatK enc sz d') cur) e (0, 0)) := by
    rw [hheap b hb, hok.1]; simp [onCells]
  have hother : ∀ k, k < w.heap.size → k ≠ b → (sortWorldK enc sz w b 0 n d' os).heap[k]? = w.heap[k]? := fun k hk hne => by
    rw [hheap k hk]; simp [hne]
  refine ⟨putCells id 0 (flatK enc sz d') cur, h.change (r := .row (some b) cur e) hi rfl rfl rfl (by simp [sortWorldK, putRowK]) (fun k hk hb' => hother k hk (fun e => hb' (by simp [Res.blk, e]))) (Le.refl _) (fun a u e => .inl e)
    (h.has.keep fun a u ea => hother _ (World.block_lt_of_cell? w a (h.has a u ea)) fun e' => by have := hok.2 a e'; rw [this] at ea; cases ea) ⟨hcur, hok.2⟩ (fun b' e => .inl e) (by show w.drawn ≤ w.drawn + n; omega), cap, by rw [hv, hlen], by rw [hlen]; exact c1, c2, by simpa [putCells] using c3, ?_⟩
  have e1 : (putCells id 0 (flatK enc sz d') cur).toList.take (d'.toList.length * sz) = (flatK enc sz d').toList := by
    refine List.ext_getElem? fun t => ?_
    rw [List.getElem?_take]
    have hsz : (flatK enc sz d').size = d'.toList.length * sz := by rw [size_flatK, Array.length_toList]
    have hm := Nat.mul_le_mul_right sz c1
    split
    · rename_i ht
      have hc : t < cur.size := by rw [c3]; rw [hlen] at ht; omega
      have hs : t < (flatK enc sz d').size := by omega
      simp only [putCells, Array.getElem?_toList, Array.getElem?_mapIdx, Array.getElem?_eq_getElem hc, Array.getElem?_eq_getElem hs, Option.map_some]
      rw [if_pos ⟨Nat.zero_le _, by rw [Nat.zero_add]; exact hs⟩, Nat.sub_zero, getElem!_pos (flatK enc sz d') t hs]
      rfl
    · rename_i ht
      rw [List.getElem?_eq_none (by rw [Array.length_toList]; omega)]
  rw [e1]
  have e2 := flatK_list hk d'.toList
  rw [show d'.toList.toArray = d' from rfl] at e2
  rw [e2]
  exact Fl.of_enc hR hk h1 _
end
end Go.Lk
