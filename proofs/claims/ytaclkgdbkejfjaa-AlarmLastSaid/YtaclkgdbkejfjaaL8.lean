/- A part of this proof: AlarmLast returns true for every input and leaves its arguments as they were; there are no conditions. -/
import Derived.Test.YtaclkgdbkejfjaaL7
set_option linter.unusedVariables false
set_option linter.unusedSimpArgs false
namespace Go.Lk
open Go.RowKit
section
variable {P : Program} {n : Nat} {Q : Exit → Act → World → Prop} {K : Env} {w w' : World} {ops : Array Oper} {rest : List Oper} {o : Oper} {v : Value}
variable {dst : Option Nat} {ty : TypeId} {pos : String} {af : Array Edge} {gd' : Option (Nat × Bool)} {x y z lo hi mx : Operand} {u : Value} {k k' kl kh km : IntKind} {i j a b : Int} {t t' : TypeId}
variable {w0 : World} {D : List Nat} {S0 S : Mp} {L : List Res} {α : Type} {sz : Nat} {R : Rel α} {xs ys : List α} {e : TypeId}
theorem mk_sliceH (ht : P.underlying t = some (.slice e)) (hs : (P.info? e).map (·.size) = some sz) (hr : Rd S sz R v xs) (hb : 0 ≤ b ∧ b ≤ (xs.length : Int)) :
    ∃ v', Rd S sz R v' (xs.take b.toNat) ∧ ∀ {n : Nat} {K : Env} {w : World} {dst : Option Nat} {x hi : Operand} {kh : IntKind} {ty : TypeId} {pos : String} {af : Array Edge} {g : Option (Nat × Bool)},
      ev K x = some v → ev K hi = some (.int kh b) → Ex P n K w ⟨dst, .slice t x none (some hi) none, ty, pos, af, g⟩ v' w := by
  obtain ⟨A, c, rfl, hc, hR⟩ := sliced_rd hr 0 b.toNat (by omega) (by omega)
  refine ⟨_, hR c (by omega) (Nat.le_refl _), fun {n K w dst x hi kh ty pos af g} hx hhi f hf => ?_⟩
  have h1 := run_sliceAt (P := P) (w := w) (A := A) ht hs (lo := none) (hi := some (.int kh b)) (mx := none) (l := xs.length) (c := c) (a0 := 0) (b0 := b.toNat) (c0 := c) (by
    simp [Instr.sliceBounds, bound_run (P := P) hb.1 (show b ≤ (c : Int) by omega) w])
  simp [execOp, hf.ev hx, hf.ev hhi, h1]
theorem mk_sliceL (ht : P.underlying t = some (.slice e)) (hs : (P.info? e).map (·.size) = some sz) (hr : Rd S sz R v xs) (hb : 0 ≤ a ∧ a ≤ (xs.length : Int)) :
    ∃ v', Rd S sz R v' (xs.drop a.toNat) ∧ ∀ {n : Nat} {K : Env} {w : World} {dst : Option Nat} {x lo : Operand} {kl : IntKind} {ty : TypeId} {pos : String} {af : Array Edge} {g : Option (Nat × Bool)},
      ev K x = some v → ev K lo = some (.int kl a) → Ex P n K w ⟨dst, .slice t x (some lo) none none, ty, pos, af, g⟩ v' w := by
  obtain ⟨A, c, rfl, hc, hR⟩ := sliced_rd hr a.toNat xs.length (by omega) (Nat.le_refl _)
  have hR2 := hR c (by omega) (Nat.le_refl _)
  rw [List.take_of_length_le (by simp)] at hR2
  refine ⟨_, hR2, fun {n K w dst x lo kl ty pos af g} hx hlo f hf => ?_⟩
  have h1 := run_sliceAt (P := P) (w := w) (A := A) ht hs (lo := some (.int kl a)) (hi := none) (mx := none) (l := xs.length) (c := c) (a0 := a.toNat) (b0 := xs.length) (c0 := c) (by
    simp [Instr.sliceBounds, bound_run (P := P) hb.1 (show a ≤ (xs.length : Int) by omega) w])
  simp [execOp, hf.ev hx, hf.ev hlo, h1]
theorem mk_index {c : α} (ht : P.underlying t = some (.slice e)) (hs : (P.info? e).map (·.size) = some sz) (hsz : 0 < sz) (hr : Rd S sz R v xs) (hi : ix xs i = some c) :
    ∃ ad vals, vals.length = sz ∧ R S vals c ∧ El S ad vals ∧ ∀ {n : Nat} {K : Env} {w : World} {dst : Option Nat} {x y : Operand} {k : IntKind} {ty : TypeId} {pos : String} {af : Array Edge} {g : Option (Nat × Bool)},
      ev K x = some v → ev K y = some (.int k i) → Ex P n K w ⟨dst, .indexAddr t x y, ty, pos, af, g⟩ (.pointer (some ad)) w := by
  obtain ⟨h0, h1, h2⟩ := ix_s hi
  obtain ⟨ad, c, vals, rfl, hl, hR, hE⟩ := hr.at_ hsz h2
  exact ⟨_, vals, hl, hR, hE, fun {n K w dst x y k ty pos af g} hx hy => X.indexAddr ht hs hx hy h0 h1⟩
theorem run_lvN {ad : Addr} {d : TypeDesc} {vals : List Value} (ht : P.underlying t = some d) (hna : isRowD d = true) (hs : (P.info? t).map (·.size) = some vals.length) (hc : ∀ q u, vals[q]? = some u → w.cell? (ad.add q) = some u) :
    (loadVar t ad).run P w = .ok (.agg vals.toArray) w := by
  cases hq : P.info? t with
  | none => simp [hq] at hs
  | some inf =>
    have h1 : inf.size = vals.length := by simpa [hq] using hs
    have hl := run_loadCells_list (P := P) w ad vals hc
    simp [loadVar, run_isAgg ht, hna, sizeOf, typeInfo, hq, h1, hl]
theorem pick_mem {L L' : List Res} : ∀ {is : List Nat}, is.mapM (fun i => L[i]?) = some L' → ∀ r ∈ L', ∃ i ∈ is, L[i]? = some r
  | [], h, r, hr => by simp at h; subst h; cases hr
  | i :: is, h, r, hr => by
    simp only [List.mapM_cons, Option.bind_eq_bind, Option.pure_def] at h
    obtain ⟨a, ha, h⟩ := bind_s h
    obtain ⟨l, hl, h⟩ := bind_s h
    have e := some_s h
    subst e
    rcases List.mem_cons.1 hr with h1 | h1
    · exact ⟨i, by simp, by rw [h1]; exact ha⟩
    · obtain ⟨j, hj, hj2⟩ := pick_mem hl r h1
      exact ⟨j, by simp [hj], hj2⟩
theorem pick_nodup {L : List Res} (h : (L.filterMap Res.blk).Nodup) : ∀ {is : List Nat} {L' : List Res}, is.Nodup → is.mapM (fun i => L[i]?) = some L' → (L'.filterMap Res.blk).Nodup
  | [], L', _, hm => by simp at hm; subst hm; simp
  | i :: is, L', hn, hm => by
    simp only [List.mapM_cons, Option.bind_eq_bind, Option.pure_def] at hm
    obtain ⟨a, ha, hm⟩ := bind_s hm
    obtain ⟨l, hl, hm⟩ := bind_s hm
    have e := some_s hm
    subst e
    have ih := pick_nodup h (List.nodup_cons.1 hn).2 hl
    cases e : a.blk with
    | none => simpa [List.filterMap_cons, e] using ih
    | some b =>
      simp only [List.filterMap_cons, e, List.nodup_cons]
      refine ⟨fun hb => ?_, ih⟩
      obtain ⟨r, hr, hrb⟩ := List.mem_filterMap.1 hb
      obtain ⟨j, hj, hj2⟩ := pick_mem hl r hr
      exact nodup_ne h ha hj2 (fun e2 => (List.nodup_cons.1 hn).1 (by rw [e2]; exact hj)) e hrb
theorem St.pick (h : St w0 D S0 S L w) (is : List Nat) {L' : List Res} (hn : is.Nodup) (hm : is.mapM (fun i => L[i]?) = some L') : St w0 D S0 S L' w :=
  ⟨h.os, h.tape, h.output, h.size, h.old, h.le, h.new, h.has, fun r hr => by obtain ⟨i, _, hi⟩ := pick_mem hm r hr; exact h.ok r (List.mem_of_getElem? hi),
    pick_nodup h.nodup hn hm, fun r hr => by obtain ⟨i, _, hi⟩ := pick_mem hm r hr; exact h.own r (List.mem_of_getElem? hi)⟩
def One : List Value → Prop
  | [] => True
  | [v] => v.oneCell' = true ∧ True
  | v :: l => v.oneCell' = true ∧ One l
theorem one_all : ∀ {l : List Value}, One l → ∀ u ∈ l, u.oneCell' = true
  | [], _, u, hu => by cases hu
  | [v], h, u, hu => by simp at hu; rw [hu]; exact h.1
  | v :: x :: l, h, u, hu => by
    rcases List.mem_cons.1 hu with h1 | h1
    · rw [h1]; exact h.1
    · exact one_all h.2 u h1
end
theorem Cd.retA {P : Program} {n : Nat} {K : Env} {w : World} {fn : Func} {R : Ending → World → Prop} {a : Act} (ha : Ag n a K) {l : List ResultVar} {vs : List Value} (hres : fn.results = l.toArray) (hv : ResV P w K l vs) (hR : R (.returned (packed vs)) w) : bodyPost P fn R .ret a w :=
  Cd.retPost hres hv hR a ha
theorem Cd.fallA {P : Program} {n : Nat} {K : Env} {w : World} {fn : Func} {R : Ending → World → Prop} {a : Act} (ha : Ag n a K) (hres : fn.results = #[]) (hR : R (.returned (.tuple #[])) w) : bodyPost P fn R .normal a w :=
  Cd.fall hres hR a ha
theorem not_f {c : Bool} (h : c = false) : (!c) = true := by rw [h]; rfl
theorem el_brk {σ ρ β : Type} {s : σ} {a b : σ → Option β} {c : ρ → Option β} {r : β} (h : Flow.el (.brk s) a b c = some r) : b s = some r := h
theorem el_ret {σ ρ β : Type} {x : ρ} {a b : σ → Option β} {c : ρ → Option β} {r : β} (h : Flow.el (.ret x) a b c = some r) : c x = some r := h
end Go.Lk
