/- A part of this proof: AlarmLast returns true for every input and leaves its arguments as they were; there are no conditions. -/
import Derived.Test.YtaclkgdbkejfjaaL16
import Derived.MapKept
set_option linter.unusedVariables false
set_option linter.unusedSimpArgs false
namespace Go.Lk
open Go.RowKit Go.Lib Go.Proofs Go.MapKept
def mget (a : Int) : List (Int × Int) → Option Int
  | [] => none
  | p :: ps => if p.1 == a then some p.2 else mget a ps
def mput (a x : Int) : List (Int × Int) → List (Int × Int)
  | [] => [(a, x)]
  | p :: ps => if p.1 == a then (a, x) :: ps else p :: mput a x ps
section
variable {P : Program} {n : Nat} {Q : Exit → Act → World → Prop} {K : Env} {w w' : World} {o : Oper} {v : Value}
variable {Nx : Env → World → Prop} {dst : Option Nat} {ty : TypeId} {pos : String} {af : Array Edge} {gd' : Option (Nat × Bool)} {x y z : Operand} {k1 k2 : IntKind} {a c : Int} {t kt et : TypeId}
variable {w0 : World} {D : List Nat} {S0 S : Mp} {L : List Res} {b : Nat} {ps : List (Int × Int)}
theorem findNow_mp : ∀ (es : List MapEntry) (ps : List (Int × Int)) (i : Nat), es.map (fun e => (e.key, e.val)) = ps.map (fun p => (Value.int k1 p.1, Value.int k2 p.2)) →
    (mget a ps = none ∧ Instr.findNow (.int k1) (.int k1 a) es i = some none ∧ ∀ x, mput a x ps = ps ++ [(a, x)]) ∨
    (∃ j v e, mget a ps = some v ∧ Instr.findNow (.int k1) (.int k1 a) es i = some (some (i + j, .int k2 v)) ∧ es[j]? = some e ∧ e.key = .int k1 a ∧ (∀ x, mput a x ps = ps.set j (a, x)))
  | [], [], i, _ => .inl ⟨rfl, rfl, fun _ => rfl⟩
  | [], p :: ps, i, h => by simp at h
  | e :: es, [], i, h => by simp at h
  | e :: es, p :: ps, i, h => by
    simp only [List.map_cons, List.cons.injEq, Prod.mk.injEq] at h
    obtain ⟨⟨hk, hv⟩, ht⟩ := h
    by_cases hp : p.1 = a
    · refine .inr ⟨0, p.2, e, by simp [mget, hp], ?_, rfl, by rw [hk, hp], fun x => by simp [mput, hp]⟩
      simp [Instr.findNow, Instr.sameNow, hk, hp, hv]
    · have hs : Instr.sameNow (.int k1) (.int k1 a) e.key = some false := by simp [Instr.sameNow, hk, Ne.symm hp]
      rcases findNow_mp es ps (i + 1) ht with ⟨h1, h2, h3⟩ | ⟨j, v, e', h1, h2, h3, h4, h5⟩
      · exact .inl ⟨by simp [mget, hp, h1], by simp [Instr.findNow, hs, h2], fun x => by simp [mput, hp, h3 x]⟩
      · refine .inr ⟨j + 1, v, e', by simp [mget, hp, h1], ?_, by simpa using h3, h4, fun x => by simp [mput, hp, h5 x]⟩
        simp only [Instr.findNow, hs, h2]
        rw [show i + 1 + j = i + (j + 1) by omega]
theorem Oq.makeMap {d : Nat} (k1 k2 : IntKind) (hs : St w0 D S0 S L w) (hdn : Nat.ble (d + 1) n = true) (h : ∀ b w', St w0 D S0 S (.mp b k1 k2 [] :: L) w' → Nx ((d, .map (some b)) :: K) w') :
    Oq P n Q K w ⟨some d, .makeMap t none, ty, pos, af, gd'⟩ Nx := by
  have hS : ∀ a, a.block = w.heap.size → S a = none := fun a ha => by
    cases e : S a with
    | none => rfl
    | some v => have := World.block_lt_of_cell? w a (hs.has a v e); omega
  refine Oq.val (v := .map (some w.heap.size)) (w' := w.alloc (.map #[] 0)) (fun f hf => by simp [execOp, run_makeMap]) rfl hdn (h _ _ ((hs.alloc _).push ⟨⟨#[], 0, heap_alloc_new w _, rfl⟩, hS⟩ fun b e => ?_))
  have : b = w.heap.size := by simpa [Res.blk] using e.symm
  subst this
  exact ⟨hs.size, fun s hs' e => by have := (hs.ok s hs').lt e; omega⟩
theorem St.mapHeap (hs : St w0 D S0 S L w) (q : Nat) (hq : L[q]? = some (.mp b k1 k2 ps)) : ∃ es clock, w.heap[b]? = some (.map es clock) ∧ es.toList.map (fun e => (e.key, e.val)) = ps.map (fun p => (Value.int k1 p.1, Value.int k2 p.2)) :=
  (hs.ok _ (List.mem_of_getElem? hq)).1
theorem X.lookupM (hs : St w0 D S0 S L w) (q : Nat) (hq : L[q]? = some (.mp b k1 k2 ps)) (ht : P.underlying t = some (.map kt et)) (hk : P.underlying kt = some (.int k1)) (hz : ∀ w, (zeroValue et).run P w = .ok (.int k2 0) w)
    (hx : ev K x = some (.map (some b))) (hy : ev K y = some (.int k1 a)) :
    Ex P n K w ⟨dst, .lookup t x y true, ty, pos, af, gd'⟩ (.tuple #[.int k2 ((mget a ps).getD 0), .bool (mget a ps).isSome]) w := fun f hf => by
  obtain ⟨es, clock, hb, he⟩ := hs.mapHeap q hq
  have h1 : ∀ e, (Instr.checkKey e 10000 kt (.int k1 a)).run P w = .ok () w := fun e => run_checkKey (P := P) (w := w) (kt := kt) (d := .int k1) (k := .int k1 a) hk (by simp [IsKey]) e 9999
  rcases findNow_mp (a := a) es.toList ps 0 he with ⟨h2, h3, _⟩ | ⟨j, v, e, h2, h3, h4, h5, _⟩
  · have h6 := run_findKey (P := P) (w := w) (kt := kt) hk h3
    simp [execOp, hf.ev hx, hf.ev hy, Instr.lookup, run_underlying ht, Go.MapKept.run_getObj_map hb, Result.andThen, h1, h6, hz, h2]
  · have h6 := run_findKey (P := P) (w := w) (kt := kt) hk h3
    simp [execOp, hf.ev hx, hf.ev hy, Instr.lookup, run_underlying ht, Go.MapKept.run_getObj_map hb, Result.andThen, h1, h6, h2]
theorem X.lenM (hs : St w0 D S0 S L w) (q : Nat) (hq : L[q]? = some (.mp b k1 k2 ps)) (ht : P.underlying t = some (.map kt et)) (hx : ev K x = some (.map (some b))) :
    Ex P n K w ⟨dst, .call { callee := .builtin .len, args := #[x], argTypes := #[t] }, ty, pos, af, gd'⟩ (.int .i64 (ps.length : Int)) w := fun f hf => by
  obtain ⟨es, clock, hb, he⟩ := hs.mapHeap q hq
  have hl : es.size = ps.length := by have := congrArg List.length he; simpa using this
  have h1 : (Builtin.len_ #[t] ty #[.map (some b)]).run P w = .ok (.int .i64 (ps.length : Int)) w := by
    simp [Builtin.len_, run_underlying ht, Go.MapKept.run_getObj_map hb, Result.andThen, goInt, hl]
  simp [execOp, hf.ev hx, resolve, invoke, builtin, h1]
theorem Oq.mapUpdate (hs : St w0 D S0 S L w) (q : Nat) (hq : L[q]? = some (.mp b k1 k2 ps)) (ht : P.underlying t = some (.map kt et)) (hk : P.underlying kt = some (.int k1))
    (hx : ev K x = some (.map (some b))) (hy : ev K y = some (.int k1 a)) (hz : ev K z = some (.int k2 c))
    (h : ∀ w', St w0 D S0 S (L.set q (.mp b k1 k2 (mput a c ps))) w' → Nx K w') : Oq P n Q K w ⟨none, .mapUpdate t x y z, ty, pos, af, gd'⟩ Nx := by
  obtain ⟨es, clock, hb, he⟩ := hs.mapHeap q hq
  have hok := hs.ok _ (List.mem_of_getElem? hq)
  have h1 : ∀ e, (Instr.checkKey e 10000 kt (.int k1 a)).run P w = .ok () w := fun e => run_checkKey (P := P) (w := w) (kt := kt) (d := .int k1) (k := .int k1 a) hk (by simp [IsKey]) e 9999
  have done : ∀ es', es'.toList.map (fun e => (e.key, e.val)) = (mput a c ps).map (fun p => (Value.int k1 p.1, Value.int k2 p.2)) → ∀ ck, St w0 D S0 S (L.set q (.mp b k1 k2 (mput a c ps))) { w with heap := w.heap.setIfInBounds b (.map es' ck) } := fun es' he' ck => by
    have hset := heap_set (o' := .map es' ck) hb
    refine hs.change (r := .mp b k1 k2 ps) hq rfl rfl rfl (by simp) (fun k hk hne => hset.2 k (fun e => hne (by simp [Res.blk, e]))) (Le.refl _) (fun a u e => .inl e)
      (hs.has.keep fun a u ea => hset.2 _ fun e' => by have := hok.2 a e'; rw [this] at ea; cases ea) ⟨⟨es', ck, hset.1, he'⟩, hok.2⟩ (fun b' e => .inl e)
  rcases findNow_mp (a := a) es.toList ps 0 he with ⟨h2, h3, h4⟩ | ⟨j, v, e, h2, h3, h5, h6, h4⟩
  · have h7 := run_findKey (P := P) (w := w) (kt := kt) hk h3
    refine Oq.skip (w' := { w with heap := w.heap.setIfInBounds b (.map (es.push { key := .int k1 a, val := .int k2 c, born := clock }) (clock + 1)) }) (fun f hf => ?_) rfl (h _ (done _ ?_ _))
    · simp [execOp, hf.ev hx, hf.ev hy, hf.ev hz, Instr.mapUpdate, run_underlying ht, Go.MapKept.run_getObj_map hb, h1, h7, Go.MapKept.run_setObj_map _ hb, Result.andThen]
    · rw [h4]; simp [he]
  · rw [Nat.zero_add] at h3
    have h7 := run_findKey (P := P) (w := w) (kt := kt) hk h3
    have h8 : es[j]? = some e := by simpa using h5
    have h9 : (Instr.keyThatStays (.int k1 a) (.int k1 a)).run P w = .ok (.int k1 a) w := run_keyThatStays (d := .int k1) (by simp [IsKey])
    refine Oq.skip (w' := { w with heap := w.heap.setIfInBounds b (.map (es.modify j fun e => { e with key := .int k1 a, val := .int k2 c }) clock) }) (fun f hf => ?_) rfl (h _ (done _ ?_ _))
    · simp [execOp, hf.ev hx, hf.ev hy, hf.ev hz, Instr.mapUpdate, run_underlying ht, Go.MapKept.run_getObj_map hb, h1, h7, h8, h6, h9, Go.MapKept.run_setObj_map _ hb, Result.andThen]
    · rw [h4]
      refine List.ext_getElem? fun i => ?_
      have hi := congrArg (fun l => l[i]?) he
      simp only [List.getElem?_map] at hi
      have hm : (es.modify j fun e => { e with key := Value.int k1 a, val := Value.int k2 c }).toList[i]? = (es.toList[i]?).map (fun e => if j = i then { e with key := Value.int k1 a, val := Value.int k2 c } else e) := by
        simp only [Array.getElem?_toList, Array.getElem?_modify]
        split <;> simp
      rw [List.getElem?_map, List.getElem?_map, hm, List.getElem?_set]
      by_cases hji : j = i
      · subst hji
        have hl : j < ps.length := by
          have := congrArg List.length he
          simp at this
          have := (Array.getElem?_eq_some_iff.1 h8).1
          omega
        simp [h8, hl]
      · simp only [hji, if_false]
        rw [← hi]
        cases es.toList[i]? <;> simp
end
end Go.Lk
