/- A part of this proof: AlarmOrder returns true for every input and leaves its arguments as they were; there are no conditions. -/
import Derived.Test.YtaclkgdbkejfjaaH15
set_option linter.unusedVariables false
set_option linter.unusedSimpArgs false
set_option maxRecDepth 100000
namespace Go.Lk
open Go.RowKit Go.Proofs
noncomputable def alarm_Table_Set (t_0 : alarm_Table) (key_1 : Int) (at_2 : Int) : Option alarm_Table :=
 (alarm_Table_Clear (⟨t_0.l_⟩ : alarm_Table) key_1).bind fun x11 =>
 (app 16 x11.2.l_ ([(⟨at_2, key_1⟩ : alarm_Due)] : List alarm_Due)).bind fun y30 =>
 (slices_SortFunc_alarm_Due y30).bind fun x38 =>
 some (⟨x38⟩ : alarm_Table)
def Po8 (S0 : Mp) (w0 : World) (D : List Nat) (b1 : Nat) (r : alarm_Table) (v : Value) (w1 : World) : Prop :=
  ∃ (S1 : Mp) (v8 : Value) (g9 : Option Nat) (cur10 : Array Value), v = .tuple #[] ∧ St w0 D S0 S1 [.row g9 cur10 30, .box b1 #[v8] 44] w1 ∧ Rw S1 2 R_alarm_Due g9 cur10 v8 r.l_
set_option maxHeartbeats 4000000 in
theorem c8 (S0 : Mp) {w0 : World} (b1 : Nat) (t_0 : alarm_Table) (v2 : Value) (g3 : Option Nat) (cur4 : Array Value) (f5 : Rw S0 2 R_alarm_Due g3 cur4 v2 t_0.l_) (key_1 : Int) (at_2 : Int) (hs : St w0 (b1 :: g3.toList) S0 S0 [.box b1 #[v2] 44, .row g3 cur4 30] w0) (r : alarm_Table) (h0 : alarm_Table_Set t_0 key_1 at_2 = some r) :
    Calls Try.prog 8 #[.pointer (some ⟨b1, 0, none⟩), .int .u64 key_1, .int .i64 at_2] w0 (Re (Po8 S0 w0 (b1 :: g3.toList) b1 r)) := by
 unfold alarm_Table_Set at h0
 refine calls_of_cd Try.func8 rfl Try.ntmps8 rfl ?_
 refine Cd.sr ?_
 refine Rg.mv rfl rfl ?_
 refine Rg.mv rfl rfl ?_
 obtain ⟨x11, hx12, h0⟩ := bind_s h0
 refine Rg.step rfl (Oq.call Try.call14 rfl rfl (c14 S0 _ (⟨t_0.l_⟩ : alarm_Table) _ _ _ f5 _ (hs.enterP [0, 1] (by decide) rfl (by cases g3 <;> rfl)) _ hx12) (fun v13 w14 h15 => ?_))
 obtain ⟨S16, v19, g20, cur21, rfl, hs17, f22⟩ := h15
 have le18 := hs17.le
 have hs := hs.callP [0, 1] rfl (by cases g3 <;> rfl) hs17
 refine Rg.go ?_
 refine Cd.sr ?_
 refine Rg.mv rfl rfl ?_
 refine Rg.mv rfl rfl ?_
 refine Rg.vN (X.nilCheck rfl) rfl ?_
 refine Rg.vN (X.fieldB Try.underlying44 rfl zz27 rfl rfl) rfl ?_
 refine Rg.vN (X.load1 Try.underlying27 rfl rfl (hs.cell 1 rfl 0 rfl)) rfl ?_
 refine Rg.mv rfl rfl ?_
 refine Rg.mv rfl rfl ?_
 refine Rg.vN (X.build (zc := [.int .i64 0, .int .u64 0]) (cells := [.int .i64 at_2, .int .u64 key_1]) ii30 rfl rfl Try.underlying30 (pp30 _ Try.underlying30) ⟨_, [.int .i64 at_2], _, rfl, rfl, rfl, ⟨_, [.int .u64 key_1], _, rfl, rfl, rfl, rfl⟩⟩ rfl) rfl ?_
 refine Rg.step rfl (Oq.lit (sz := 2) (cs0 := [.int .i64 0, .int .u64 0]) (cells := [.int .i64 at_2, .int .u64 key_1]) hs Try.underlying27 ii30 rfl rfl rfl rfl rfl rfl ⟨_, [.int .i64 at_2, .int .u64 key_1], _, rfl, rfl, rfl, rfl⟩ rfl rfl rfl (fun b23 w24 S25 hs le26 hE27 => ?_))
 have f29 : Rd S25 2 R_alarm_Due (.slice (some ⟨b23, 0, none⟩) 1 1) ([(⟨at_2, key_1⟩ : alarm_Due)] : List alarm_Due) := Rd.of_cells (xs := ([(⟨at_2, key_1⟩ : alarm_Due)] : List alarm_Due)) ⟨[.int .i64 at_2, .int .u64 key_1], _, rfl, rfl, one_all ⟨rfl, rfl, trivial⟩, rfl, rfl⟩ hE27 (Nat.le_of_ble_eq_true rfl) (Nat.le_of_ble_eq_true rfl)
 obtain ⟨y30, hx31, h0⟩ := bind_s h0
 refine Rg.step rfl (Oq.appendRow hs 1 rfl Try.underlying27 ii30 rfl rfl rfl rfl rfl rfl (f22.mono le26) f29 hx31 rfl rfl rfl (fun v32 w33 g34 cur35 hs f36 => ?_))
 refine Rg.vN (X.nilCheck rfl) rfl ?_
 refine Rg.vN (X.fieldB Try.underlying44 rfl zz27 rfl rfl) rfl ?_
 refine Rg.step rfl (Oq.store hs 2 rfl 0 zz27 rfl rfl (Rw.cells f36) (Rw.one f36) rfl [.app (some b23) (.slice (some ⟨b23, 0, none⟩) 1 1) ([(⟨at_2, key_1⟩ : alarm_Due)] : List alarm_Due).length 30 2, .row g34 cur35 30, .box b1 #[v32] 44] rfl (fun w37 hs => ?_))
 refine Rg.go ?_
 refine Cd.region ?_
 refine Rg.mv rfl rfl ?_
 refine Rg.vN (X.nilCheck rfl) rfl ?_
 refine Rg.vN (X.fieldB Try.underlying44 rfl zz27 rfl rfl) rfl ?_
 refine Rg.weak [(23, .pointer (some ⟨b1, 0, none⟩))] ⟨rfl, trivial⟩ ?_
 refine Rg.vN (X.load1 Try.underlying27 rfl rfl (hs.cell 2 rfl 0 rfl)) rfl ?_
 obtain ⟨x38, hx39, h0⟩ := bind_s h0
 refine Rg.step rfl (Oq.call Try.call15 rfl rfl (c15 S25 y30 _ _ _ f36 (hs.enterP [1] (by decide) rfl (by cases g34 <;> rfl)) _ hx39) (fun v40 w41 h42 => ?_))
 obtain ⟨S43, g46, cur47, rfl, hs44, f48⟩ := h42
 have le45 := hs44.le
 have hs := hs.callP [1] rfl (by cases g34 <;> rfl) hs44
 refine Rg.nil ?_
 obtain rfl := some_s h0
 exact fun a ha => Cd.fallA (R := Re (Po8 S0 w0 _ b1 _)) ha Try.results8 ⟨_, rfl, S43, v32, g46, cur47, rfl, (hs.pick [0, 2] (by decide) rfl), f48⟩
noncomputable def slices_Clone_alarm_Due (s_0 : (List alarm_Due)) : Option (List alarm_Due) :=
 (app 16 ([] : List alarm_Due) s_0).bind fun y14 =>
 some y14
def Po20 (S0 : Mp) (w0 : World) (D : List Nat) (r : (List alarm_Due)) (v : Value) (w1 : World) : Prop :=
  ∃ (S1 : Mp) (v3 : Value) (g4 : Option Nat), v = v3 ∧ St w0 D S0 S1 [.app g4 v3 r.length 30 2] w1 ∧ Rd S1 2 R_alarm_Due v3 r
set_option maxHeartbeats 4000000 in
theorem c20 (S0 : Mp) {w0 : World} (hs : St w0 [] S0 S0 [] w0) (s_0 : (List alarm_Due)) (v1 : Value) (f2 : Rd S0 2 R_alarm_Due v1 s_0) (r : (List alarm_Due)) (h0 : slices_Clone_alarm_Due s_0 = some r) :
    Calls Try.prog 20 #[v1] w0 (Re (Po20 S0 w0 [] r)) := by
 unfold slices_Clone_alarm_Due at h0
 refine calls_of_cd Try.func20 rfl Try.ntmps20 rfl ?_
 refine Cd.sr ?_
 refine Rg.st rfl rfl ?_
 refine Rg.go ?_
 refine Cd.seq ?_
 refine Cd.sr ?_
 refine Rg.mv rfl rfl ?_
 refine Rg.vN (X.eqlNil f2 Try.underlying27 rfl) rfl ?_
 refine Rg.go ?_
 refine Cd.cond (t := isNil v1) rfl (fun hc5 => ?_) (fun hc5 => ?_)
 ·have h0 := clone_nil (nil_of f2 (Nat.le_of_ble_eq_true rfl) hc5) h0
  refine Cd.sr ?_
  refine Rg.st rfl rfl ?_
  refine Rg.go ?_
  refine Cd.ret ?_
  have hs := hs.nil 30 2
  obtain rfl := some_s h0
  exact fun a ha => Cd.retA (R := Re (Po20 S0 w0 _ _)) ha Try.results20 ⟨_, _, rfl, rfl, rfl⟩ ⟨_, rfl, S0, (.slice none 0 0), none, rfl, hs, (Rd.nil _ _ _)⟩
 ·skip
  refine Cd.sg ?_
  refine Cd.sr ?_
  refine Rg.step rfl (Oq.lit (sz := 2) (cs0 := []) (cells := []) hs Try.underlying27 ii30 rfl rfl rfl rfl rfl rfl rfl rfl rfl rfl (fun b7 w8 S9 hs le10 hE11 => ?_))
  have f13 : Rd S9 2 R_alarm_Due (.slice (some ⟨b7, 0, none⟩) 0 0) ([] : List alarm_Due) := Rd.of_cells (xs := ([] : List alarm_Due)) rfl hE11 (Nat.le_of_ble_eq_true rfl) (Nat.le_of_ble_eq_true rfl)
  refine Rg.mv rfl rfl ?_
  obtain ⟨y14, hx15, h0⟩ := bind_s h0
  refine Rg.step rfl (Oq.appendS hs 0 rfl Try.underlying27 ii30 rfl rfl rfl rfl rfl rfl f13 (f2.mono le10) hx15 rfl rfl rfl (fun v16 w17 S18 g19 hs le20 f21 => ?_))
  refine Rg.st rfl rfl ?_
  refine Rg.go ?_
  refine Cd.ret ?_
  obtain rfl := some_s h0
  exact fun a ha => Cd.retA (R := Re (Po20 S0 w0 _ _)) ha Try.results20 ⟨_, _, rfl, rfl, rfl⟩ ⟨_, rfl, S18, v16, g19, rfl, hs, f21⟩
noncomputable def alarm_Table_Due_l0 (t_0 : alarm_Table) (now_1 : Int) (q68 : Int) : Option (Flow Int ((List alarm_Due) × alarm_Table)) :=
 ((
  if (decide (q68 < (t_0.l_.length : Int))) = true then (
   (ix t_0.l_ q68).bind fun x86 =>
   some (decide (x86.At ≤ now_1)))
  else (
   some false) : Option Bool)).bind fun p78 =>
 if p78 = true then (
  some (Flow.next (add .i64 q68 1)))
 else (
  some (Flow.brk q68))
noncomputable def alarm_Table_Due (t_0 : alarm_Table) (now_1 : Int) : Option ((List alarm_Due) × alarm_Table) :=
 (loopF (fun sg => alarm_Table_Due_l0 t_0 now_1 sg) 0).bind fun fl13 =>
 Flow.el fl13 (fun s95 => (
  none))
 (fun s96 => (
  (cutTo t_0.l_ s96).bind fun y23 =>
  (slices_Clone_alarm_Due y23).bind fun x27 =>
  (cutFrom t_0.l_ s96).bind fun y45 =>
  (slices_Clone_alarm_Due y45).bind fun x49 =>
  some (x27, (⟨x49⟩ : alarm_Table))))
 (fun r97 => (
  none))
def Po9 (S0 : Mp) (w0 : World) (D : List Nat) (b1 : Nat) (r : ((List alarm_Due) × alarm_Table)) (v : Value) (w1 : World) : Prop :=
  ∃ (S1 : Mp) (v8 : Value) (g9 : Option Nat) (v10 : Value) (g11 : Option Nat) (cur12 : Array Value), v = v8 ∧ St w0 D S0 S1 [.app g9 v8 r.1.length 30 2, .row g11 cur12 30, .box b1 #[v10] 44] w1 ∧ Rd S1 2 R_alarm_Due v8 r.1 ∧ Rw S1 2 R_alarm_Due g11 cur12 v10 r.2.l_
set_option maxHeartbeats 4000000 in
theorem c9 (S0 : Mp) {w0 : World} (b1 : Nat) (t_0 : alarm_Table) (v2 : Value) (g3 : Option Nat) (cur4 : Array Value) (f5 : Rw S0 2 R_alarm_Due g3 cur4 v2 t_0.l_) (now_1 : Int) (hs : St w0 (b1 :: g3.toList) S0 S0 [.box b1 #[v2] 44, .row g3 cur4 30] w0) (r : ((List alarm_Due) × alarm_Table)) (h0 : alarm_Table_Due t_0 now_1 = some r) :
    Calls Try.prog 9 #[.pointer (some ⟨b1, 0, none⟩), .int .i64 now_1] w0 (Re (Po9 S0 w0 (b1 :: g3.toList) b1 r)) := by
 unfold alarm_Table_Due at h0
 refine calls_of_cd Try.func9 rfl Try.ntmps9 rfl ?_
 refine Cd.sr ?_
 refine Rg.st rfl rfl ?_
 refine Rg.go ?_
 refine Cd.sr ?_
 refine Rg.st rfl rfl ?_
 refine Rg.go ?_
 refine Cd.seq ?_
 obtain ⟨fl13, hfl14, h0⟩ := bind_s h0
 refine Cd.post (fun K w => ∃ (j15 : Int) (S16 : Mp), K = [(0, .pointer (some ⟨b1, 0, none⟩)), (5, .int .i64 j15)] ∧ fl13 = Flow.brk j15 ∧ Le S0 S16 ∧ St w0 (b1 :: g3.toList) S0 S16 [.box b1 #[v2] 44, .row g3 cur4 30] w) ?_ ?_
 ·rintro K19 w18 ⟨j15, S16, rfl, rfl, le17, hs⟩
  have h0 := el_brk h0
  try dsimp only at h0
  refine Cd.go ?_
  refine Cd.sr ?_
  refine Rg.mv rfl rfl ?_
  refine Rg.vN (X.nilCheck rfl) rfl ?_
  refine Rg.vN (X.fieldB Try.underlying44 rfl zz27 rfl rfl) rfl ?_
  refine Rg.vN (X.load1 Try.underlying27 rfl rfl (hs.cell 0 rfl 0 rfl)) rfl ?_
  refine Rg.mv rfl rfl ?_
  obtain ⟨y23, hx24, h0⟩ := bind_s h0
  obtain ⟨hb25, he26⟩ := cutTo_s hx24
  obtain ⟨v20, f21, hX22⟩ := mk_sliceH Try.underlying27 zz30 (Rw.lend (S := S16) (f5.mono le17)) hb25
  rw [he26] at f21
  refine Rg.vN (hX22 rfl rfl) rfl ?_
  obtain ⟨x27, hx28, h0⟩ := bind_s h0
  refine Rg.step rfl (Oq.call Try.call20 rfl rfl (c20 (S16.lend g3 (t_0.l_.length * 2) cur4) (St.start _ _ (hs.lend 1 rfl _)) _ _ f21 _ hx28) (fun v29 w30 h31 => ?_))
  obtain ⟨S32, v35, g37, rfl, hs33, f36⟩ := h31
  obtain ⟨S39, hs40, hx41⟩ := hs.unlend 1 rfl (D' := []) (fun _ _ h => by cases h) hs33
  have f36 := hx41 (List.mem_of_getElem? (i := 0) rfl) f36
  have le34 := hs40.le
  have hs := hs.call0 hs40
  refine Rg.st rfl rfl ?_
  refine Rg.go ?_
  refine Cd.sr ?_
  refine Rg.mv rfl rfl ?_
  refine Rg.mv rfl rfl ?_
  refine Rg.vN (X.nilCheck rfl) rfl ?_
  refine Rg.vN (X.fieldB Try.underlying44 rfl zz27 rfl rfl) rfl ?_
  refine Rg.vN (X.load1 Try.underlying27 rfl rfl (hs.cell 1 rfl 0 rfl)) rfl ?_
  refine Rg.mv rfl rfl ?_
  refine Rg.weak [(6, v29), (35, .pointer (some ⟨b1, 0, none⟩)), (39, v2), (40, .int .i64 j15)] ⟨rfl, rfl, rfl, rfl, trivial⟩ ?_
  obtain ⟨y45, hx46, h0⟩ := bind_s h0
  obtain ⟨hb47, he48⟩ := cutFrom_s hx46
  obtain ⟨v42, f43, hX44⟩ := mk_sliceL Try.underlying27 zz30 (Rw.lend (S := S39) (f5.mono (le17.trans le34))) hb47
  rw [he48] at f43
  refine Rg.vN (hX44 rfl rfl) rfl ?_
  obtain ⟨x49, hx50, h0⟩ := bind_s h0
  refine Rg.step rfl (Oq.call Try.call20 rfl rfl (c20 (S39.lend g3 (t_0.l_.length * 2) cur4) (St.start _ _ (hs.lend 2 rfl _)) _ _ f43 _ hx50) (fun v51 w52 h53 => ?_))
  obtain ⟨S54, v57, g59, rfl, hs55, f58⟩ := h53
  obtain ⟨S61, hs62, hx63⟩ := hs.unlend 2 rfl (D' := []) (fun _ _ h => by cases h) hs55
  have f58 := hx63 (List.mem_of_getElem? (i := 0) rfl) f58
  obtain ⟨S64, cur65, hs62, f66⟩ := hs62.unseal hs.has 0 rfl f58
  have le56 := hs62.le
  have hs := hs.call0 hs62
  refine Rg.vN (X.nilCheck rfl) rfl ?_
  refine Rg.vN (X.fieldB Try.underlying44 rfl zz27 rfl rfl) rfl ?_
  refine Rg.step rfl (Oq.store hs 2 rfl 0 zz27 rfl rfl (Rw.cells f66) (Rw.one f66) rfl [.row g59 cur65 30, .app g37 v29 x27.length 30 2, .box b1 #[v51] 44, .row g3 cur4 30] rfl (fun w67 hs => ?_))
  refine Rg.go ?_
  refine Cd.sr ?_
  refine Rg.mv rfl rfl ?_
  refine Rg.st rfl rfl ?_
  refine Rg.go ?_
  refine Cd.ret ?_
  obtain rfl := some_s h0
  exact fun a ha => Cd.retA (R := Re (Po9 S0 w0 _ b1 _)) ha Try.results9 ⟨_, _, rfl, rfl, rfl⟩ ⟨_, rfl, S64, v29, g37, v51, g59, cur65, rfl, (hs.pick [1, 0, 2] (by decide) rfl), (f36.mono le56), f66⟩
 ·skip
  refine Cd.weak [(0, .pointer (some ⟨b1, 0, none⟩)), (1, .int .i64 now_1), (5, .int .i64 0)] ⟨rfl, rfl, rfl, trivial⟩ ?_
  refine Cd.block (Cd.loop (fun sg => alarm_Table_Due_l0 t_0 now_1 sg) (fun (sg : Int) K w => ∃ (S69 : Mp), K = [(0, .pointer (some ⟨b1, 0, none⟩)), (1, .int .i64 now_1), (5, .int .i64 sg)] ∧ Le S0 S69 ∧ St w0 (b1 :: g3.toList) S0 S69 [.box b1 #[v2] 44, .row g3 cur4 30] w) 0 fl13 hfl14 ⟨S0, rfl, Le.refl _, hs⟩ ?_)
  rintro q68 fl71 K76 w75 hb72 ⟨S69, rfl, le70, hs⟩ hl73
  have h74 : alarm_Table_Due_l0 t_0 now_1 q68 = some fl71 := hb72
  unfold alarm_Table_Due_l0 at h74
  refine Cd.seq ?_
  refine Cd.seq ?_
  obtain ⟨p78, hp79, h74⟩ := bind_s h74
  refine Cd.post (fun K w => ∃ (S80 : Mp), K = [(0, .pointer (some ⟨b1, 0, none⟩)), (1, .int .i64 now_1), (5, .int .i64 q68), (25, .bool p78)] ∧ Le S69 S80 ∧ St w0 (b1 :: g3.toList) S0 S80 [.box b1 #[v2] 44, .row g3 cur4 30] w) ?_ ?_
  ·rintro K83 w81 ⟨S80, rfl, le82, hs⟩
   refine Cd.go ?_
   refine Cd.cond (t := p78) rfl (fun hc84 => ?_) (fun hc84 => ?_)
   ·have h74 := ite_t hc84 h74
    refine Cd.sg ?_
    refine Cd.block ?_
    refine Cd.region ?_
    refine Rg.mv rfl rfl ?_
    refine Rg.vN (X.add rfl rfl) rfl ?_
    refine Rg.st rfl rfl ?_
    refine Rg.nil ?_
    exact fun a ha => ⟨add .i64 q68 1, [(0, .pointer (some ⟨b1, 0, none⟩)), (1, .int .i64 now_1), (5, .int .i64 (add .i64 q68 1))], (some_s h74).symm, ha.weak ⟨rfl, rfl, rfl, trivial⟩, S80, rfl, (le70.trans le82), hs⟩
   ·have h74 := ite_f hc84 h74
    refine Cd.exit ?_
    obtain rfl := some_s h74
    have e := hl73 (fun _ e => by cases e)
    exact fun a ha => ⟨[(0, .pointer (some ⟨b1, 0, none⟩)), (5, .int .i64 q68)], ha.weak ⟨rfl, rfl, trivial⟩, _, S80, rfl, e.symm, (le70.trans le82), hs⟩
  ·skip
   refine Cd.region ?_
   refine Rg.mv rfl rfl ?_
   refine Rg.mv rfl rfl ?_
   refine Rg.vN (X.nilCheck rfl) rfl ?_
   refine Rg.vN (X.fieldB Try.underlying44 rfl zz27 rfl rfl) rfl ?_
   refine Rg.vN (X.load1 Try.underlying27 rfl rfl (hs.cell 0 rfl 0 rfl)) rfl ?_
   refine Rg.vN (X.lenRw Try.underlying27 rfl (f5.mono le70)) rfl ?_
   refine Rg.vN (X.lss rfl rfl) rfl ?_
   refine Rg.mv rfl rfl ?_
   refine Rg.vT rfl rfl rfl (fun hW => X.move rfl) ?_
   refine Rg.vT rfl rfl rfl (fun hW => X.nilCheck (ev_g rfl hW)) ?_
   refine Rg.vT rfl rfl rfl (fun hW => X.fieldB Try.underlying44 rfl zz27 (ev_g rfl hW) rfl) ?_
   refine Rg.vT rfl rfl rfl (fun hW => X.load1 Try.underlying27 rfl (ev_g rfl hW) (hs.cell 0 rfl 0 rfl)) ?_
   refine Rg.vT rfl rfl rfl (fun hW => X.move rfl) ?_
   refine Rg.weak [(0, .pointer (some ⟨b1, 0, none⟩)), (1, .int .i64 now_1), (5, .int .i64 q68), (14, .bool (decide (q68 < (t_0.l_.length : Int)))), (18, gv (decide (q68 < (t_0.l_.length : Int))) (v2)), (19, gv (decide (q68 < (t_0.l_.length : Int))) (.int .i64 q68))] ⟨rfl, rfl, rfl, rfl, rfl, rfl, trivial⟩ ?_
   refine Rg.split (c := decide (q68 < (t_0.l_.length : Int))) (tj := 14) rfl (fun hc85 => ?_) (fun hc85 => ?_)
   ·have hp79 := ite_t hc85 hp79
    refine Rg.weak [(0, .pointer (some ⟨b1, 0, none⟩)), (1, .int .i64 now_1), (5, .int .i64 q68), (14, .bool true), (18, v2), (19, .int .i64 q68)] ⟨rfl, rfl, rfl, rfl, get_g rfl hc85, get_g rfl hc85, trivial⟩ ?_
    refine Rg.gon rfl rfl rfl ?_
    obtain ⟨x86, hx87, hp79⟩ := bind_s hp79
    obtain ⟨b88, vals89, hg90, hl91, hR92, hC93, hX94⟩ := mk_rowix Try.underlying27 zz30 (f5.mono le70) hx87
    subst hg90
    unfold R_alarm_Due at hR92
    subst hR92
    refine Rg.vN (hX94 rfl rfl) rfl ?_
    refine Rg.gon rfl rfl rfl ?_
    refine Rg.vN (X.fieldB Try.underlying30 rfl zz2 rfl rfl) rfl ?_
    refine Rg.gon rfl rfl rfl ?_
    refine Rg.vN (X.load1 Try.underlying2 rfl rfl (hs.rowcell 1 rfl (q68.toNat * 2 + 0) (hC93 0 _ rfl))) rfl ?_
    refine Rg.gon rfl rfl rfl ?_
    refine Rg.mv rfl rfl ?_
    refine Rg.gon rfl rfl rfl ?_
    refine Rg.vN (X.leq rfl rfl) rfl ?_
    refine Rg.vN (X.pickT rfl rfl) rfl ?_
    refine Rg.nil ?_
    have e := some_s hp79
    subst e
    exact fun a ha => ⟨[(0, .pointer (some ⟨b1, 0, none⟩)), (1, .int .i64 now_1), (5, .int .i64 q68), (25, .bool (decide (x86.At ≤ now_1)))], ha.weak ⟨rfl, rfl, rfl, rfl, trivial⟩, S69, rfl, Le.refl _, hs⟩
   ·have hp79 := ite_f hc85 hp79
    refine Rg.weak [(0, .pointer (some ⟨b1, 0, none⟩)), (1, .int .i64 now_1), (5, .int .i64 q68), (14, .bool false), (18, undef), (19, undef)] ⟨rfl, rfl, rfl, rfl, get_u rfl (not_f hc85), get_u rfl (not_f hc85), trivial⟩ ?_
    refine Rg.vO rfl rfl rfl rfl ?_
    refine Rg.vO rfl rfl rfl rfl ?_
    refine Rg.vO rfl rfl rfl rfl ?_
    refine Rg.vO rfl rfl rfl rfl ?_
    refine Rg.vO rfl rfl rfl rfl ?_
    refine Rg.vN (X.pickF rfl rfl) rfl ?_
    refine Rg.nil ?_
    have e := some_s hp79
    subst e
    exact fun a ha => ⟨[(0, .pointer (some ⟨b1, 0, none⟩)), (1, .int .i64 now_1), (5, .int .i64 q68), (25, .bool false)], ha.weak ⟨rfl, rfl, rfl, rfl, trivial⟩, S69, rfl, Le.refl _, hs⟩
noncomputable def alarm_Table_Len (t_0 : alarm_Table) : Option (Int × alarm_Table) :=
 some ((t_0.l_.length : Int), t_0)
def Po10 (S0 : Mp) (w0 : World) (D : List Nat) (b1 : Nat) (r : (Int × alarm_Table)) (v : Value) (w1 : World) : Prop :=
  ∃ (S1 : Mp) (v8 : Value) (g9 : Option Nat) (cur10 : Array Value), v = .int .i64 r.1 ∧ St w0 D S0 S1 [.row g9 cur10 30, .box b1 #[v8] 44] w1 ∧ Rw S1 2 R_alarm_Due g9 cur10 v8 r.2.l_
set_option maxHeartbeats 4000000 in
theorem c10 (S0 : Mp) {w0 : World} (b1 : Nat) (t_0 : alarm_Table) (v2 : Value) (g3 : Option Nat) (cur4 : Array Value) (f5 : Rw S0 2 R_alarm_Due g3 cur4 v2 t_0.l_) (hs : St w0 (b1 :: g3.toList) S0 S0 [.box b1 #[v2] 44, .row g3 cur4 30] w0) (r : (Int × alarm_Table)) (h0 : alarm_Table_Len t_0 = some r) :
    Calls Try.prog 10 #[.pointer (some ⟨b1, 0, none⟩)] w0 (Re (Po10 S0 w0 (b1 :: g3.toList) b1 r)) := by
 unfold alarm_Table_Len at h0
 refine calls_of_cd Try.func10 rfl Try.ntmps10 rfl ?_
 refine Cd.sr ?_
 refine Rg.st rfl rfl ?_
 refine Rg.go ?_
 refine Cd.sr ?_
 refine Rg.mv rfl rfl ?_
 refine Rg.vN (X.nilCheck rfl) rfl ?_
 refine Rg.vN (X.fieldB Try.underlying44 rfl zz27 rfl rfl) rfl ?_
 refine Rg.vN (X.load1 Try.underlying27 rfl rfl (hs.cell 0 rfl 0 rfl)) rfl ?_
 refine Rg.vN (X.lenRw Try.underlying27 rfl f5) rfl ?_
 refine Rg.st rfl rfl ?_
 refine Rg.go ?_
 refine Cd.ret ?_
 obtain rfl := some_s h0
 exact fun a ha => Cd.retA (R := Re (Po10 S0 w0 _ b1 _)) ha Try.results10 ⟨_, _, rfl, rfl, rfl⟩ ⟨_, rfl, S0, v2, g3, cur4, rfl, (hs.pick [1, 0] (by decide) rfl), f5⟩
noncomputable def alarm_Table_Next (t_0 : alarm_Table) : Option (alarm_Due × Bool × alarm_Table) :=
 if ((t_0.l_.length : Int) == 0) = true then (
  some ((⟨0, 0⟩ : alarm_Due), false, t_0))
 else (
  (ix t_0.l_ 0).bind fun x16 =>
  some ((⟨x16.At, x16.Key⟩ : alarm_Due), true, t_0))
def Po21 (S0 : Mp) (w0 : World) (D : List Nat) (b1 : Nat) (r : (alarm_Due × Bool × alarm_Table)) (v : Value) (w1 : World) : Prop :=
  ∃ (S1 : Mp) (v8 : Value) (g9 : Option Nat) (cur10 : Array Value), v = .tuple #[.agg (#[.int .i64 r.1.At, .int .u64 r.1.Key]), .bool r.2.1] ∧ St w0 D S0 S1 [.row g9 cur10 30, .box b1 #[v8] 44] w1 ∧ Rw S1 2 R_alarm_Due g9 cur10 v8 r.2.2.l_
set_option maxHeartbeats 4000000 in
theorem c21 (S0 : Mp) {w0 : World} (b1 : Nat) (t_0 : alarm_Table) (v2 : Value) (g3 : Option Nat) (cur4 : Array Value) (f5 : Rw S0 2 R_alarm_Due g3 cur4 v2 t_0.l_) (hs : St w0 (b1 :: g3.toList) S0 S0 [.box b1 #[v2] 44, .row g3 cur4 30] w0) (r : (alarm_Due × Bool × alarm_Table)) (h0 : alarm_Table_Next t_0 = some r) :
    Calls Try.prog 21 #[.pointer (some ⟨b1, 0, none⟩)] w0 (Re (Po21 S0 w0 (b1 :: g3.toList) b1 r)) := by
 unfold alarm_Table_Next at h0
 refine calls_of_cd Try.func21 rfl Try.ntmps21 rfl ?_
 refine Cd.sr ?_
 refine Rg.step rfl (Oq.alloc (cs := #[.int .i64 0, .int .u64 0]) hs ii30 rfl rfl rfl (fun b11 w12 hs => ?_))
 refine Rg.st rfl rfl ?_
 refine Rg.go ?_
 refine Cd.seq ?_
 refine Cd.sr ?_
 refine Rg.mv rfl rfl ?_
 refine Rg.vN (X.nilCheck rfl) rfl ?_
 refine Rg.vN (X.fieldB Try.underlying44 rfl zz27 rfl rfl) rfl ?_
 refine Rg.vN (X.load1 Try.underlying27 rfl rfl (hs.cell 1 rfl 0 rfl)) rfl ?_
 refine Rg.vN (X.lenRw Try.underlying27 rfl f5) rfl ?_
 refine Rg.vN (X.eql rfl rfl) rfl ?_
 refine Rg.go ?_
 refine Cd.cond (t := (t_0.l_.length : Int) == 0) rfl (fun hc14 => ?_) (fun hc14 => ?_)
 ·have h0 := ite_t hc14 h0
  refine Cd.sr ?_
  refine Rg.vN (X.build (zc := [.int .i64 0, .int .u64 0]) (cells := [.int .i64 0, .int .u64 0]) ii30 rfl rfl Try.underlying30 (pp30 _ Try.underlying30) rfl rfl) rfl ?_
  refine Rg.step rfl (Oq.storeN hs 0 rfl (vals := [.int .i64 0, .int .u64 0]) zz30 rfl rfl (one_all ⟨rfl, rfl, trivial⟩) rfl [.box b11 #[.int .i64 0, .int .u64 0] 30, .box b1 #[v2] 44, .row g3 cur4 30] rfl (fun w15 hs => ?_))
  refine Rg.st rfl rfl ?_
  refine Rg.go ?_
  refine Cd.ret ?_
  obtain rfl := some_s h0
  exact fun a ha => Cd.retA (R := Re (Po21 S0 w0 _ b1 _)) ha Try.results21 ⟨_, _, _, rfl, rfl, run_lvN (vals := [.int .i64 0, .int .u64 0]) Try.underlying30 rfl zz30 (hs.range 0 rfl 0 rfl), ⟨_, _, rfl, rfl, rfl⟩⟩ ⟨_, rfl, S0, v2, g3, cur4, rfl, (hs.pick [2, 1] (by decide) rfl), f5⟩
 ·have h0 := ite_f hc14 h0
  refine Cd.sg ?_
  refine Cd.sr ?_
  refine Rg.mv rfl rfl ?_
  refine Rg.vN (X.nilCheck rfl) rfl ?_
  refine Rg.vN (X.fieldB Try.underlying44 rfl zz27 rfl rfl) rfl ?_
  refine Rg.vN (X.load1 Try.underlying27 rfl rfl (hs.cell 1 rfl 0 rfl)) rfl ?_
  obtain ⟨x16, hx17, h0⟩ := bind_s h0
  obtain ⟨b18, vals19, hg20, hl21, hR22, hC23, hX24⟩ := mk_rowix Try.underlying27 zz30 f5 hx17
  subst hg20
  unfold R_alarm_Due at hR22
  subst hR22
  refine Rg.vN (hX24 rfl rfl) rfl ?_
  refine Rg.vN (X.loadN (vals := [.int .i64 x16.At, .int .u64 x16.Key]) Try.underlying30 rfl zz30 rfl (hs.rowrange 2 rfl hC23)) rfl ?_
  refine Rg.step rfl (Oq.storeN hs 0 rfl (vals := [.int .i64 x16.At, .int .u64 x16.Key]) zz30 rfl rfl (one_all ⟨rfl, rfl, trivial⟩) rfl [.box b11 #[.int .i64 x16.At, .int .u64 x16.Key] 30, .box b1 #[v2] 44, .row (some b18) cur4 30] rfl (fun w25 hs => ?_))
  refine Rg.st rfl rfl ?_
  refine Rg.go ?_
  refine Cd.ret ?_
  obtain rfl := some_s h0
  exact fun a ha => Cd.retA (R := Re (Po21 S0 w0 _ b1 _)) ha Try.results21 ⟨_, _, _, rfl, rfl, run_lvN (vals := [.int .i64 x16.At, .int .u64 x16.Key]) Try.underlying30 rfl zz30 (hs.range 0 rfl 0 rfl), ⟨_, _, rfl, rfl, rfl⟩⟩ ⟨_, rfl, S0, v2, (some b18), cur4, rfl, (hs.pick [2, 1] (by decide) rfl), f5⟩
noncomputable def limelightlaw12_known : Option Bool :=
 (alarm_New ).bind fun x1 =>
 (alarm_Table_Next (⟨x1.l_⟩ : alarm_Table)).bind fun x16 =>
 (alarm_Table_Clear (⟨x16.2.2.l_⟩ : alarm_Table) 1).bind fun x32 =>
 (alarm_Table_Set (⟨x32.2.l_⟩ : alarm_Table) 1 5).bind fun x44 =>
 (alarm_Table_Set (⟨x44.l_⟩ : alarm_Table) 1 7).bind fun x56 =>
 (alarm_Table_Due (⟨x56.l_⟩ : alarm_Table) 6).bind fun x68 =>
 (alarm_Table_Set (⟨x68.2.l_⟩ : alarm_Table) 2 7).bind fun x84 =>
 (alarm_Table_Due (⟨x84.l_⟩ : alarm_Table) 7).bind fun x96 =>
 ((
  if ((((!x16.2.1) && (!x32.1)) && ((x68.1.length : Int) == 0)) && ((x96.1.length : Int) == 2)) = true then (
   (ix x96.1 0).bind fun x120 =>
   if ((x120.At == 7) && ((x120.Key == 1) && true)) = true then (
    (alarm_Table_Len (⟨x96.2.l_⟩ : alarm_Table)).bind fun x128 =>
    some (x128.1 == 0))
   else (
    some false))
  else (
   some false) : Option Bool)).bind fun p113 =>
 some p113
def Po11 (S0 : Mp) (w0 : World) (D : List Nat) (r : Bool) (v : Value) (w1 : World) : Prop :=
  ∃ (S1 : Mp), v = .bool r ∧ St w0 D S0 S1 [] w1
set_option maxHeartbeats 4000000 in
theorem c11 (S0 : Mp) {w0 : World} (hs : St w0 [] S0 S0 [] w0)  (r : Bool) (h0 : limelightlaw12_known = some r) :
    Calls Try.prog 11 #[] w0 (Re (Po11 S0 w0 [] r)) := by
 unfold limelightlaw12_known at h0
 refine calls_of_cd Try.func11 rfl Try.ntmps11 rfl ?_
 refine Cd.sr ?_
 refine Rg.st rfl rfl ?_
 refine Rg.go ?_
 refine Cd.sr ?_
 obtain ⟨x1, hx2, h0⟩ := bind_s h0
 refine Rg.step rfl (Oq.call Try.call7 rfl rfl (c7 S0 (St.start _ _ hs.has)  _ hx2) (fun v3 w4 h5 => ?_))
 obtain ⟨S6, b9, v11, g12, cur13, rfl, hs7, f14⟩ := h5
 have le8 := hs7.le
 have hs := hs.call0 hs7
 refine Rg.st rfl rfl ?_
 refine Rg.go ?_
 refine Cd.seq ?_
 refine Cd.sr ?_
 refine Rg.mv rfl rfl ?_
 refine Rg.vN (X.eqlNilP Try.underlying23 rfl) rfl ?_
 refine Rg.go ?_
 refine Cd.cond0 rfl ?_
 refine Cd.sg ?_
 refine Cd.sr ?_
 refine Rg.mv rfl rfl ?_
 obtain ⟨x16, hx17, h0⟩ := bind_s h0
 refine Rg.step rfl (Oq.call Try.call21 rfl rfl (c21 S6 _ (⟨x1.l_⟩ : alarm_Table) _ _ _ f14 (hs.enterP [1, 0] (by decide) rfl (by cases g12 <;> rfl)) _ hx17) (fun v18 w19 h20 => ?_))
 obtain ⟨S21, v24, g25, cur26, rfl, hs22, f27⟩ := h20
 have le23 := hs22.le
 have hs := hs.callP [1, 0] rfl (by cases g12 <;> rfl) hs22
 refine Rg.mv rfl rfl ?_
 refine Rg.vN (X.extract rfl rfl) rfl ?_
 refine Rg.vN (X.extract rfl rfl) rfl ?_
 refine Rg.step rfl (Oq.alloc (cs := #[.int .i64 0, .int .u64 0]) hs ii30 rfl rfl rfl (fun b28 w29 hs => ?_))
 refine Rg.step rfl (Oq.storeN hs 0 rfl (vals := [.int .i64 x16.1.At, .int .u64 x16.1.Key]) zz30 rfl rfl (one_all ⟨rfl, rfl, trivial⟩) rfl [.box b28 #[.int .i64 x16.1.At, .int .u64 x16.1.Key] 30, .row g25 cur26 30, .box b9 #[v24] 44] rfl (fun w31 hs => ?_))
 refine Rg.st rfl rfl ?_
 refine Rg.go ?_
 refine Cd.sr ?_
 refine Rg.mv rfl rfl ?_
 obtain ⟨x32, hx33, h0⟩ := bind_s h0
 refine Rg.step rfl (Oq.call Try.call14 rfl rfl (c14 S21 _ (⟨x16.2.2.l_⟩ : alarm_Table) _ _ _ f27 _ (hs.enterP [2, 1] (by decide) rfl (by cases g25 <;> rfl)) _ hx33) (fun v34 w35 h36 => ?_))
 obtain ⟨S37, v40, g41, cur42, rfl, hs38, f43⟩ := h36
 have le39 := hs38.le
 have hs := hs.callP [2, 1] rfl (by cases g25 <;> rfl) hs38
 refine Rg.st rfl rfl ?_
 refine Rg.go ?_
 refine Cd.sr ?_
 refine Rg.mv rfl rfl ?_
 obtain ⟨x44, hx45, h0⟩ := bind_s h0
 refine Rg.step rfl (Oq.call Try.call8 rfl rfl (c8 S37 _ (⟨x32.2.l_⟩ : alarm_Table) _ _ _ f43 _ _ (hs.enterP [1, 0] (by decide) rfl (by cases g41 <;> rfl)) _ hx45) (fun v46 w47 h48 => ?_))
 obtain ⟨S49, v52, g53, cur54, rfl, hs50, f55⟩ := h48
 have le51 := hs50.le
 have hs := hs.callP [1, 0] rfl (by cases g41 <;> rfl) hs50
 refine Rg.go ?_
 refine Cd.sr ?_
 refine Rg.mv rfl rfl ?_
 obtain ⟨x56, hx57, h0⟩ := bind_s h0
 refine Rg.step rfl (Oq.call Try.call8 rfl rfl (c8 S49 _ (⟨x44.l_⟩ : alarm_Table) _ _ _ f55 _ _ (hs.enterP [1, 0] (by decide) rfl (by cases g53 <;> rfl)) _ hx57) (fun v58 w59 h60 => ?_))
 obtain ⟨S61, v64, g65, cur66, rfl, hs62, f67⟩ := h60
 have le63 := hs62.le
 have hs := hs.callP [1, 0] rfl (by cases g53 <;> rfl) hs62
 refine Rg.go ?_
 refine Cd.sr ?_
 refine Rg.mv rfl rfl ?_
 obtain ⟨x68, hx69, h0⟩ := bind_s h0
 refine Rg.step rfl (Oq.call Try.call9 rfl rfl (c9 S61 _ (⟨x56.l_⟩ : alarm_Table) _ _ _ f67 _ (hs.enterP [1, 0] (by decide) rfl (by cases g65 <;> rfl)) _ hx69) (fun v70 w71 h72 => ?_))
 obtain ⟨S73, v76, g78, v80, g81, cur82, rfl, hs74, f77, f83⟩ := h72
 have le75 := hs74.le
 have hs := hs.callP [1, 0] rfl (by cases g65 <;> rfl) hs74
 refine Rg.vN (X.lenR Try.underlying27 rfl f77) rfl ?_
 refine Rg.st rfl rfl ?_
 refine Rg.go ?_
 refine Cd.weak [(1, .pointer (some ⟨b9, 0, none⟩)), (3, .bool x16.2.1), (4, .bool x32.1), (5, .int .i64 (x68.1.length : Int))] ⟨rfl, rfl, rfl, rfl, trivial⟩ ?_
 refine Cd.sr ?_
 refine Rg.mv rfl rfl ?_
 obtain ⟨x84, hx85, h0⟩ := bind_s h0
 refine Rg.step rfl (Oq.call Try.call8 rfl rfl (c8 S73 _ (⟨x68.2.l_⟩ : alarm_Table) _ _ _ f83 _ _ (hs.enterP [2, 1] (by decide) rfl (by cases g81 <;> rfl)) _ hx85) (fun v86 w87 h88 => ?_))
 obtain ⟨S89, v92, g93, cur94, rfl, hs90, f95⟩ := h88
 have le91 := hs90.le
 have hs := hs.callP [2, 1] rfl (by cases g81 <;> rfl) hs90
 refine Rg.go ?_
 refine Cd.sr ?_
 refine Rg.mv rfl rfl ?_
 obtain ⟨x96, hx97, h0⟩ := bind_s h0
 refine Rg.step rfl (Oq.call Try.call9 rfl rfl (c9 S89 _ (⟨x84.l_⟩ : alarm_Table) _ _ _ f95 _ (hs.enterP [1, 0] (by decide) rfl (by cases g93 <;> rfl)) _ hx97) (fun v98 w99 h100 => ?_))
 obtain ⟨S101, v104, g106, v108, g109, cur110, rfl, hs102, f105, f111⟩ := h100
 have le103 := hs102.le
 have hs := hs.callP [1, 0] rfl (by cases g93 <;> rfl) hs102
 refine Rg.st rfl rfl ?_
 refine Rg.go ?_
 refine Cd.seq ?_
 obtain ⟨p113, hp114, h0⟩ := bind_s h0
 refine Cd.post (fun K w => ∃ (S115 : Mp), K = [(0, .bool p113)] ∧ Le S101 S115 ∧ St w0 [] S0 S115 [] w) ?_ ?_
 ·rintro K118 w116 ⟨S115, rfl, le117, hs⟩
  refine Cd.go ?_
  refine Cd.ret ?_
  obtain rfl := some_s h0
  exact fun a ha => Cd.retA (R := Re (Po11 S0 w0 _ _)) ha Try.results11 ⟨_, _, rfl, rfl, rfl⟩ ⟨_, rfl, S115, rfl, hs⟩
 ·skip
  refine Cd.region ?_
  refine Rg.mv rfl rfl ?_
  refine Rg.vN (X.not rfl) rfl ?_
  refine Rg.mv rfl rfl ?_
  refine Rg.vT rfl rfl rfl (fun hW => X.move rfl) ?_
  refine Rg.vT rfl rfl rfl (fun hW => X.not (ev_g rfl hW)) ?_
  refine Rg.vN (X.pickAnd rfl rfl rfl) rfl ?_
  refine Rg.mv rfl rfl ?_
  refine Rg.vT rfl rfl rfl (fun hW => X.move rfl) ?_
  refine Rg.weak [(1, .pointer (some ⟨b9, 0, none⟩)), (6, v98), (34, .bool ((!x16.2.1) && (!x32.1))), (35, gv ((!x16.2.1) && (!x32.1)) (.int .i64 (x68.1.length : Int)))] ⟨rfl, rfl, rfl, rfl, trivial⟩ ?_
  refine Rg.vT rfl rfl rfl (fun hW => X.eql (ev_g rfl hW) rfl) ?_
  refine Rg.vN (X.pickAnd rfl rfl rfl) rfl ?_
  refine Rg.mv rfl rfl ?_
  refine Rg.vT rfl rfl rfl (fun hW => X.move rfl) ?_
  refine Rg.vT rfl rfl rfl (fun hW => X.lenR Try.underlying27 (ev_g rfl hW) f105) ?_
  refine Rg.vT rfl rfl rfl (fun hW => X.eql (ev_g rfl hW) rfl) ?_
  refine Rg.vN (X.pickAnd rfl rfl rfl) rfl ?_
  refine Rg.mv rfl rfl ?_
  refine Rg.vT rfl rfl rfl (fun hW => X.move rfl) ?_
  refine Rg.split (c := (((!x16.2.1) && (!x32.1)) && ((x68.1.length : Int) == 0)) && ((x96.1.length : Int) == 2)) (tj := 43) rfl (fun hc119 => ?_) (fun hc119 => ?_)
  ·have hp114 := ite_t hc119 hp114
   refine Rg.weak [(1, .pointer (some ⟨b9, 0, none⟩)), (43, .bool true), (44, v98)] ⟨rfl, rfl, get_g rfl hc119, trivial⟩ ?_
   refine Rg.gon rfl rfl rfl ?_
   obtain ⟨x120, hx121, hp114⟩ := bind_s hp114
   obtain ⟨ad122, vals123, _, hR124, hE125, hX126⟩ := mk_index Try.underlying27 zz30 (by decide) f105 hx121
   unfold R_alarm_Due at hR124
   subst hR124
   refine Rg.vN (hX126 rfl rfl) rfl ?_
   refine Rg.gon rfl rfl rfl ?_
   refine Rg.vN (X.loadE (vals := [.int .i64 x120.At, .int .u64 x120.Key]) hs.has Try.underlying30 rfl zz30 rfl hE125) rfl ?_
   refine Rg.gon rfl rfl rfl ?_
   refine Rg.vN (X.build (zc := [.int .i64 0, .int .u64 0]) (cells := [.int .i64 7, .int .u64 1]) ii30 rfl rfl Try.underlying30 (pp30 _ Try.underlying30) ⟨_, [.int .i64 7], _, rfl, rfl, rfl, ⟨_, [.int .u64 1], _, rfl, rfl, rfl, rfl⟩⟩ rfl) rfl ?_
   refine Rg.gon rfl rfl rfl ?_
   refine Rg.vN (X.eqlA eqg30 (eqs30 _ _ _ _) rfl rfl) rfl ?_
   refine Rg.vN (X.pickT rfl rfl) rfl ?_
   refine Rg.mv rfl rfl ?_
   refine Rg.vT rfl rfl rfl (fun hW => X.move rfl) ?_
   refine Rg.split (c := ((x120.At == 7) && ((x120.Key == 1) && true))) (tj := 50) rfl (fun hc127 => ?_) (fun hc127 => ?_)
   ·have hp114 := ite_t hc127 hp114
    refine Rg.weak [(50, .bool true), (51, .pointer (some ⟨b9, 0, none⟩))] ⟨rfl, get_g rfl hc127, trivial⟩ ?_
    refine Rg.gon rfl rfl rfl ?_
    obtain ⟨x128, hx129, hp114⟩ := bind_s hp114
    refine Rg.step rfl (Oq.call Try.call10 rfl rfl (c10 S101 _ (⟨x96.2.l_⟩ : alarm_Table) _ _ _ f111 (hs.enterP [2, 1] (by decide) rfl (by cases g109 <;> rfl)) _ hx129) (fun v130 w131 h132 => ?_))
    obtain ⟨S133, v136, g137, cur138, rfl, hs134, f139⟩ := h132
    have le135 := hs134.le
    have hs := hs.callP [2, 1] rfl (by cases g109 <;> rfl) hs134
    refine Rg.gon rfl rfl rfl ?_
    refine Rg.vN (X.eql rfl rfl) rfl ?_
    refine Rg.vN (X.pickT rfl rfl) rfl ?_
    refine Rg.st rfl rfl ?_
    refine Rg.nil ?_
    have e := some_s hp114
    subst e
    exact fun a ha => ⟨[(0, .bool (x128.1 == 0))], ha.weak ⟨rfl, trivial⟩, S133, rfl, le135, (hs.pick [] (by decide) rfl)⟩
   ·have hp114 := ite_f hc127 hp114
    refine Rg.weak [(50, .bool false), (51, undef)] ⟨rfl, get_u rfl (not_f hc127), trivial⟩ ?_
    refine Rg.vO rfl rfl rfl rfl ?_
    refine Rg.vO rfl rfl rfl rfl ?_
    refine Rg.vN (X.pickF rfl rfl) rfl ?_
    refine Rg.st rfl rfl ?_
    refine Rg.nil ?_
    have e := some_s hp114
    subst e
    exact fun a ha => ⟨[(0, .bool false)], ha.weak ⟨rfl, trivial⟩, S101, rfl, Le.refl _, (hs.pick [] (by decide) rfl)⟩
  ·have hp114 := ite_f hc119 hp114
   refine Rg.weak [(1, .pointer (some ⟨b9, 0, none⟩)), (43, .bool false), (44, undef)] ⟨rfl, rfl, get_u rfl (not_f hc119), trivial⟩ ?_
   refine Rg.vO rfl rfl rfl rfl ?_
   refine Rg.vO rfl rfl rfl rfl ?_
   refine Rg.vO rfl rfl rfl rfl ?_
   refine Rg.vO rfl rfl rfl rfl ?_
   refine Rg.vN (X.pickF rfl rfl) rfl ?_
   refine Rg.mv rfl rfl ?_
   refine Rg.vO rfl rfl rfl rfl ?_
   refine Rg.vO rfl rfl rfl rfl ?_
   refine Rg.vO rfl rfl rfl rfl ?_
   refine Rg.vN (X.pickF rfl rfl) rfl ?_
   refine Rg.st rfl rfl ?_
   refine Rg.nil ?_
   have e := some_s hp114
   subst e
   exact fun a ha => ⟨[(0, .bool false)], ha.weak ⟨rfl, trivial⟩, S101, rfl, Le.refl _, (hs.pick [] (by decide) rfl)⟩
noncomputable def limelightlaw12_AlarmOrder_l1 (G_0 : (List Int)) (o_1 : Int) (x31 : ((List alarm_Due) × alarm_Table)) (q100 : Int) : Option (Flow Int Bool) :=
 if (decide (q100 < (x31.1.length : Int))) = true then (
  ((
   ((
    (ix x31.1 q100).bind fun x125 =>
    if (decide (o_1 < x125.At)) = true then (
     some true)
    else (
     (ix x31.1 q100).bind fun x133 =>
     if (decide ((cv .u64 (G_0.length : Int)) ≤ x133.Key)) = true then (
      some true)
     else (
      (ix x31.1 q100).bind fun x141 =>
      (ix G_0 x141.Key).bind fun x148 =>
      (ix x31.1 q100).bind fun x155 =>
      if (x148 != x155.At) = true then (
       some true)
      else (
       if (decide (0 < q100)) = true then (
        (ix x31.1 q100).bind fun x164 =>
        (ix x31.1 (sub .i64 q100 1)).bind fun x171 =>
        if (decide (x164.At < x171.At)) = true then (
         some true)
        else (
         (ix x31.1 q100).bind fun x179 =>
         (ix x31.1 (sub .i64 q100 1)).bind fun x186 =>
         if (x179.At == x186.At) = true then (
          (ix x31.1 q100).bind fun x194 =>
          (ix x31.1 (sub .i64 q100 1)).bind fun x201 =>
          some (decide (x194.Key ≤ x201.Key)))
         else (
          some false)))
       else (
        some false)))) : Option Bool)).bind fun p117 =>
   if p117 = true then (
    some (Flow.ret false))
   else (
    some (Flow.next ())) : Option (Flow Unit Bool))).bind fun p110 =>
  Flow.el p110 (fun s208 => (
   some (Flow.next (add .i64 q100 1))))
  (fun s209 => (
   none))
  (fun r210 => (
   some (Flow.ret r210))))
 else (
  some (Flow.brk q100))
noncomputable def limelightlaw12_AlarmOrder_l0 (G_0 : (List Int)) (o_1 : Int) (q214 : Int) (q215 : Int) (q216 : (List alarm_Due)) : Option (Flow (Int × Int × (List alarm_Due)) Bool) :=
 if ((decide (q215 < (G_0.length : Int))) && (decide (q215 < 60))) = true then (
  ((
   (ix G_0 q215).bind fun x242 =>
   (alarm_Table_Set (⟨q216⟩ : alarm_Table) (cv .u64 q215) x242).bind fun x249 =>
   (ix G_0 q215).bind fun x261 =>
   ((
    if (decide (x261 ≤ o_1)) = true then (
     some (add .i64 q214 1))
    else (
     some q214) : Option Int)).bind fun p269 =>
   some (p269, x249.l_) : Option (Int × (List alarm_Due)))).bind fun p232 =>
  some (Flow.next (p232.1, add .i64 q215 1, p232.2)))
 else (
  some (Flow.brk (q214, q215, q216)))
noncomputable def limelightlaw12_AlarmOrder (G_0 : (List Int)) (o_1 : Int) : Option Bool :=
 (alarm_New ).bind fun x3 =>
 (loopF (fun sg => limelightlaw12_AlarmOrder_l0 G_0 o_1 sg.1 sg.2.1 sg.2.2) (0, 0, x3.l_)).bind fun fl18 =>
 Flow.el fl18 (fun s276 => (
  none))
 (fun s277 => (
  (alarm_Table_Due (⟨s277.2.2⟩ : alarm_Table) o_1).bind fun x31 =>
  (loopF (fun sg => limelightlaw12_AlarmOrder_l1 G_0 o_1 x31 sg) 0).bind fun fl47 =>
  Flow.el fl47 (fun s211 => (
   none))
  (fun s212 => (
   ((
    if ((x31.1.length : Int) == s277.1) = true then (
     (alarm_Table_Due (⟨x31.2.l_⟩ : alarm_Table) o_1).bind fun x62 =>
     if ((x62.1.length : Int) == 0) = true then (
      (alarm_Table_Len (⟨x62.2.l_⟩ : alarm_Table)).bind fun x79 =>
      if (x79.1 == (sub .i64 (mn (G_0.length : Int) 60) s277.1)) = true then (
       (limelightlaw12_known ).bind fun x92 =>
       some x92)
      else (
       some false))
     else (
      some false))
    else (
     some false) : Option Bool)).bind fun p55 =>
   some p55))
  (fun r213 => (
   some r213))))
 (fun r278 => (
  none))
def Po3 (S0 : Mp) (w0 : World) (D : List Nat) (r : Bool) (v : Value) (w1 : World) : Prop :=
  ∃ (S1 : Mp), v = .bool r ∧ St w0 D S0 S1 [] w1
set_option maxHeartbeats 4000000 in
theorem c3 (S0 : Mp) {w0 : World} (hs : St w0 [] S0 S0 [] w0) (G_0 : (List Int)) (v1 : Value) (f2 : Rd S0 1 (RI .i64) v1 G_0) (o_1 : Int) (r : Bool) (h0 : limelightlaw12_AlarmOrder G_0 o_1 = some r) :
    Calls Try.prog 3 #[v1, .int .i64 o_1] w0 (Re (Po3 S0 w0 [] r)) := by
 unfold limelightlaw12_AlarmOrder at h0
 refine calls_of_cd Try.func3 rfl Try.ntmps3 rfl ?_
 refine Cd.sr ?_
 refine Rg.st rfl rfl ?_
 refine Rg.go ?_
 refine Cd.sr ?_
 obtain ⟨x3, hx4, h0⟩ := bind_s h0
 refine Rg.step rfl (Oq.call Try.call7 rfl rfl (c7 S0 (St.start _ _ hs.has)  _ hx4) (fun v5 w6 h7 => ?_))
 obtain ⟨S8, b11, v13, g14, cur15, rfl, hs9, f16⟩ := h7
 have le10 := hs9.le
 have hs := hs.call0 hs9
 refine Rg.st rfl rfl ?_
 refine Rg.go ?_
 refine Cd.seq ?_
 refine Cd.sr ?_
 refine Rg.mv rfl rfl ?_
 refine Rg.vN (X.eqlNilP Try.underlying23 rfl) rfl ?_
 refine Rg.go ?_
 refine Cd.cond0 rfl ?_
 refine Cd.sg ?_
 refine Cd.sr ?_
 refine Rg.st rfl rfl ?_
 refine Rg.go ?_
 refine Cd.seq ?_
 refine Cd.sr ?_
 refine Rg.st rfl rfl ?_
 refine Rg.go ?_
 obtain ⟨fl18, hfl19, h0⟩ := bind_s h0
 refine Cd.post (fun K w => ∃ (j20 : Int) (j21 : Int) (j22 : (List alarm_Due)) (S23 : Mp) (v25 : Value) (g26 : Option Nat) (cur27 : Array Value), K = [(0, v1), (1, .int .i64 o_1), (5, .pointer (some ⟨b11, 0, none⟩)), (6, .int .i64 j20)] ∧ fl18 = Flow.brk (j20, j21, j22) ∧ Le S8 S23 ∧ St w0 [] S0 S23 [.row g26 cur27 30, .box b11 #[v25] 44] w ∧ Rw S23 2 R_alarm_Due g26 cur27 v25 j22) ?_ ?_
 ·rintro K30 w29 ⟨j20, j21, j22, S23, v25, g26, cur27, rfl, rfl, le24, hs, f28⟩
  have h0 := el_brk h0
  try dsimp only at h0
  refine Cd.go ?_
  refine Cd.sr ?_
  refine Rg.mv rfl rfl ?_
  refine Rg.mv rfl rfl ?_
  obtain ⟨x31, hx32, h0⟩ := bind_s h0
  refine Rg.step rfl (Oq.call Try.call9 rfl rfl (c9 S23 _ (⟨j22⟩ : alarm_Table) _ _ _ f28 _ (hs.enterP [1, 0] (by decide) rfl (by cases g26 <;> rfl)) _ hx32) (fun v33 w34 h35 => ?_))
  obtain ⟨S36, v39, g41, v43, g44, cur45, rfl, hs37, f40, f46⟩ := h35
  have le38 := hs37.le
  have hs := hs.callP [1, 0] rfl (by cases g26 <;> rfl) hs37
  refine Rg.st rfl rfl ?_
  refine Rg.go ?_
  refine Cd.seq ?_
  refine Cd.sr ?_
  refine Rg.mv rfl rfl ?_
  refine Rg.vN (X.lenR Try.underlying27 rfl f40) rfl ?_
  refine Rg.mv rfl rfl ?_
  refine Rg.go ?_
  obtain ⟨fl47, hfl48, h0⟩ := bind_s h0
  refine Cd.post (fun K w => ∃ (j49 : Int) (S50 : Mp), K = [(0, v1), (1, .int .i64 o_1), (5, .pointer (some ⟨b11, 0, none⟩)), (6, .int .i64 j20), (8, v33)] ∧ fl47 = Flow.brk j49 ∧ Le S36 S50 ∧ St w0 [] S0 S50 [.app g41 v33 x31.1.length 30 2, .row g44 cur45 30, .box b11 #[v43] 44] w) ?_ ?_
  ·rintro K53 w52 ⟨j49, S50, rfl, rfl, le51, hs⟩
   have h0 := el_brk h0
   try dsimp only at h0
   refine Cd.go ?_
   refine Cd.seq ?_
   obtain ⟨p55, hp56, h0⟩ := bind_s h0
   refine Cd.post (fun K w => ∃ (S57 : Mp), K = [(4, .bool p55)] ∧ Le S50 S57 ∧ St w0 [] S0 S57 [] w) ?_ ?_
   ·rintro K60 w58 ⟨S57, rfl, le59, hs⟩
    refine Cd.go ?_
    refine Cd.ret ?_
    obtain rfl := some_s h0
    exact fun a ha => Cd.retA (R := Re (Po3 S0 w0 _ _)) ha Try.results3 ⟨_, _, rfl, rfl, rfl⟩ ⟨_, rfl, S57, rfl, hs⟩
   ·skip
    refine Cd.region ?_
    refine Rg.mv rfl rfl ?_
    refine Rg.vN (X.lenR Try.underlying27 rfl (f40.mono le51)) rfl ?_
    refine Rg.mv rfl rfl ?_
    refine Rg.weak [(0, v1), (1, .int .i64 o_1), (5, .pointer (some ⟨b11, 0, none⟩)), (6, .int .i64 j20), (129, .int .i64 (x31.1.length : Int)), (130, .int .i64 j20)] ⟨rfl, rfl, rfl, rfl, rfl, rfl, trivial⟩ ?_
    refine Rg.vN (X.eql rfl rfl) rfl ?_
    refine Rg.mv rfl rfl ?_
    refine Rg.vT rfl rfl rfl (fun hW => X.move rfl) ?_
    refine Rg.vT rfl rfl rfl (fun hW => X.move rfl) ?_
    refine Rg.split (c := (x31.1.length : Int) == j20) (tj := 132) rfl (fun hc61 => ?_) (fun hc61 => ?_)
    ·have hp56 := ite_t hc61 hp56
     refine Rg.weak [(0, v1), (5, .pointer (some ⟨b11, 0, none⟩)), (6, .int .i64 j20), (132, .bool true), (133, .pointer (some ⟨b11, 0, none⟩)), (134, .int .i64 o_1)] ⟨rfl, rfl, rfl, rfl, get_g rfl hc61, get_g rfl hc61, trivial⟩ ?_
     refine Rg.gon rfl rfl rfl ?_
     obtain ⟨x62, hx63, hp56⟩ := bind_s hp56
     refine Rg.step rfl (Oq.call Try.call9 rfl rfl (c9 S50 _ (⟨x31.2.l_⟩ : alarm_Table) _ _ _ (f46.mono le51) _ (hs.enterP [2, 1] (by decide) rfl (by cases g44 <;> rfl)) _ hx63) (fun v64 w65 h66 => ?_))
     obtain ⟨S67, v70, g72, v74, g75, cur76, rfl, hs68, f71, f77⟩ := h66
     have le69 := hs68.le
     have hs := hs.callP [2, 1] rfl (by cases g44 <;> rfl) hs68
     refine Rg.gon rfl rfl rfl ?_
     refine Rg.vN (X.lenR Try.underlying27 rfl f71) rfl ?_
     refine Rg.gon rfl rfl rfl ?_
     refine Rg.vN (X.eql rfl rfl) rfl ?_
     refine Rg.vN (X.pickT rfl rfl) rfl ?_
     refine Rg.mv rfl rfl ?_
     refine Rg.vT rfl rfl rfl (fun hW => X.move rfl) ?_
     refine Rg.split (c := (x62.1.length : Int) == 0) (tj := 139) rfl (fun hc78 => ?_) (fun hc78 => ?_)
     ·have hp56 := ite_t hc78 hp56
      refine Rg.weak [(0, v1), (6, .int .i64 j20), (139, .bool true), (140, .pointer (some ⟨b11, 0, none⟩))] ⟨rfl, rfl, rfl, get_g rfl hc78, trivial⟩ ?_
      refine Rg.gon rfl rfl rfl ?_
      obtain ⟨x79, hx80, hp56⟩ := bind_s hp56
      refine Rg.step rfl (Oq.call Try.call10 rfl rfl (c10 S67 _ (⟨x62.2.l_⟩ : alarm_Table) _ _ _ f77 (hs.enterP [2, 1] (by decide) rfl (by cases g75 <;> rfl)) _ hx80) (fun v81 w82 h83 => ?_))
      obtain ⟨S84, v87, g88, cur89, rfl, hs85, f90⟩ := h83
      have le86 := hs85.le
      have hs := hs.callP [2, 1] rfl (by cases g75 <;> rfl) hs85
      refine Rg.gon rfl rfl rfl ?_
      refine Rg.mv rfl rfl ?_
      refine Rg.gon rfl rfl rfl ?_
      refine Rg.vN (X.lenR Try.underlying22 rfl (f2.mono (le10.trans (le24.trans (le38.trans (le51.trans (le69.trans le86))))))) rfl ?_
      refine Rg.gon rfl rfl rfl ?_
      refine Rg.vN (X.min2 rfl rfl) rfl ?_
      refine Rg.gon rfl rfl rfl ?_
      refine Rg.mv rfl rfl ?_
      refine Rg.gon rfl rfl rfl ?_
      refine Rg.vN (X.sub rfl rfl) rfl ?_
      refine Rg.gon rfl rfl rfl ?_
      refine Rg.vN (X.eql rfl rfl) rfl ?_
      refine Rg.vN (X.pickT rfl rfl) rfl ?_
      refine Rg.mv rfl rfl ?_
      refine Rg.split (c := x79.1 == (sub .i64 (mn (G_0.length : Int) 60) j20)) (tj := 149) rfl (fun hc91 => ?_) (fun hc91 => ?_)
      ·have hp56 := ite_t hc91 hp56
       refine Rg.weak [(149, .bool true)] ⟨rfl, trivial⟩ ?_
       refine Rg.gon rfl rfl rfl ?_
       obtain ⟨x92, hx93, hp56⟩ := bind_s hp56
       refine Rg.step rfl (Oq.call Try.call11 rfl rfl (c11 S84 (St.start _ _ hs.has)  _ hx93) (fun v94 w95 h96 => ?_))
       obtain ⟨S97, rfl, hs98⟩ := h96
       have le99 := hs98.le
       have hs := hs.call0 hs98
       refine Rg.vN (X.pickT rfl rfl) rfl ?_
       refine Rg.st rfl rfl ?_
       refine Rg.nil ?_
       have e := some_s hp56
       subst e
       exact fun a ha => ⟨[(4, .bool x92)], ha.weak ⟨rfl, trivial⟩, S97, rfl, (le69.trans (le86.trans le99)), (hs.pick [] (by decide) rfl)⟩
      ·have hp56 := ite_f hc91 hp56
       refine Rg.weak [(149, .bool false)] ⟨rfl, trivial⟩ ?_
       refine Rg.vO rfl rfl rfl rfl ?_
       refine Rg.vN (X.pickF rfl rfl) rfl ?_
       refine Rg.st rfl rfl ?_
       refine Rg.nil ?_
       have e := some_s hp56
       subst e
       exact fun a ha => ⟨[(4, .bool false)], ha.weak ⟨rfl, trivial⟩, S84, rfl, (le69.trans le86), (hs.pick [] (by decide) rfl)⟩
     ·have hp56 := ite_f hc78 hp56
      refine Rg.weak [(0, v1), (6, .int .i64 j20), (139, .bool false), (140, undef)] ⟨rfl, rfl, rfl, get_u rfl (not_f hc78), trivial⟩ ?_
      refine Rg.vO rfl rfl rfl rfl ?_
      refine Rg.vO rfl rfl rfl rfl ?_
      refine Rg.vO rfl rfl rfl rfl ?_
      refine Rg.vO rfl rfl rfl rfl ?_
      refine Rg.vO rfl rfl rfl rfl ?_
      refine Rg.vO rfl rfl rfl rfl ?_
      refine Rg.vO rfl rfl rfl rfl ?_
      refine Rg.vN (X.pickF rfl rfl) rfl ?_
      refine Rg.mv rfl rfl ?_
      refine Rg.vO rfl rfl rfl rfl ?_
      refine Rg.vN (X.pickF rfl rfl) rfl ?_
      refine Rg.st rfl rfl ?_
      refine Rg.nil ?_
      have e := some_s hp56
      subst e
      exact fun a ha => ⟨[(4, .bool false)], ha.weak ⟨rfl, trivial⟩, S67, rfl, le69, (hs.pick [] (by decide) rfl)⟩
    ·have hp56 := ite_f hc61 hp56
     refine Rg.weak [(0, v1), (5, .pointer (some ⟨b11, 0, none⟩)), (6, .int .i64 j20), (132, .bool false), (133, undef), (134, undef)] ⟨rfl, rfl, rfl, rfl, get_u rfl (not_f hc61), get_u rfl (not_f hc61), trivial⟩ ?_
     refine Rg.vO rfl rfl rfl rfl ?_
     refine Rg.vO rfl rfl rfl rfl ?_
     refine Rg.vO rfl rfl rfl rfl ?_
     refine Rg.vN (X.pickF rfl rfl) rfl ?_
     refine Rg.mv rfl rfl ?_
     refine Rg.vO rfl rfl rfl rfl ?_
     refine Rg.vO rfl rfl rfl rfl ?_
     refine Rg.vO rfl rfl rfl rfl ?_
     refine Rg.vO rfl rfl rfl rfl ?_
     refine Rg.vO rfl rfl rfl rfl ?_
     refine Rg.vO rfl rfl rfl rfl ?_
     refine Rg.vO rfl rfl rfl rfl ?_
     refine Rg.vO rfl rfl rfl rfl ?_
     refine Rg.vN (X.pickF rfl rfl) rfl ?_
     refine Rg.mv rfl rfl ?_
     refine Rg.vO rfl rfl rfl rfl ?_
     refine Rg.vN (X.pickF rfl rfl) rfl ?_
     refine Rg.st rfl rfl ?_
     refine Rg.nil ?_
     have e := some_s hp56
     subst e
     exact fun a ha => ⟨[(4, .bool false)], ha.weak ⟨rfl, trivial⟩, S50, rfl, Le.refl _, (hs.pick [] (by decide) rfl)⟩
  ·skip
   refine Cd.weak [(0, v1), (1, .int .i64 o_1), (5, .pointer (some ⟨b11, 0, none⟩)), (6, .int .i64 j20), (8, v33), (43, .int .i64 (x31.1.length : Int)), (44, .int .i64 0)] ⟨rfl, rfl, rfl, rfl, rfl, rfl, rfl, trivial⟩ ?_
   refine Cd.block (Cd.loop (fun sg => limelightlaw12_AlarmOrder_l1 G_0 o_1 x31 sg) (fun (sg : Int) K w => ∃ (S101 : Mp), K = [(0, v1), (1, .int .i64 o_1), (5, .pointer (some ⟨b11, 0, none⟩)), (6, .int .i64 j20), (8, v33), (43, .int .i64 (x31.1.length : Int)), (44, .int .i64 sg)] ∧ Le S36 S101 ∧ St w0 [] S0 S101 [.app g41 v33 x31.1.length 30 2, .row g44 cur45 30, .box b11 #[v43] 44] w) 0 fl47 hfl48 ⟨S36, rfl, Le.refl _, hs⟩ ?_)
   rintro q100 fl103 K108 w107 hb104 ⟨S101, rfl, le102, hs⟩ hl105
   have h106 : limelightlaw12_AlarmOrder_l1 G_0 o_1 x31 q100 = some fl103 := hb104
   unfold limelightlaw12_AlarmOrder_l1 at h106
   refine Cd.sr ?_
   refine Rg.vN (X.lss rfl rfl) rfl ?_
   refine Rg.go ?_
   refine Cd.seq ?_
   refine Cd.cond (t := decide (q100 < (x31.1.length : Int))) rfl (fun hc109 => ?_) (fun hc109 => ?_)
   ·have h106 := ite_t hc109 h106
    refine Cd.sg ?_
    refine Cd.seq ?_
    obtain ⟨p110, hp111, h106⟩ := bind_s h106
    refine Cd.post (fun K w => ∃ (S112 : Mp), K = [(0, v1), (1, .int .i64 o_1), (5, .pointer (some ⟨b11, 0, none⟩)), (6, .int .i64 j20), (8, v33), (43, .int .i64 (x31.1.length : Int)), (44, .int .i64 q100)] ∧ p110 = Flow.next () ∧ Le S101 S112 ∧ St w0 [] S0 S112 [.app g41 v33 x31.1.length 30 2, .row g44 cur45 30, .box b11 #[v43] 44] w) ?_ ?_
    ·rintro K115 w113 ⟨S112, rfl, rfl, le114, hs⟩
     have h106 := el_next h106
     try dsimp only at h106
     refine Cd.go ?_
     refine Cd.region ?_
     refine Rg.vN (X.add rfl rfl) rfl ?_
     refine Rg.mv rfl rfl ?_
     refine Rg.nil ?_
     exact fun a ha => ⟨add .i64 q100 1, [(0, v1), (1, .int .i64 o_1), (5, .pointer (some ⟨b11, 0, none⟩)), (6, .int .i64 j20), (8, v33), (43, .int .i64 (x31.1.length : Int)), (44, .int .i64 (add .i64 q100 1))], (some_s h106).symm, ha.weak ⟨rfl, rfl, rfl, rfl, rfl, rfl, rfl, trivial⟩, S112, rfl, (le102.trans le114), hs⟩
    ·skip
     refine Cd.block ?_
     refine Cd.sr ?_
     refine Rg.mv rfl rfl ?_
     refine Rg.st rfl rfl ?_
     refine Rg.go ?_
     refine Cd.weak [(0, v1), (1, .int .i64 o_1), (5, .pointer (some ⟨b11, 0, none⟩)), (6, .int .i64 j20), (8, v33), (9, .int .i64 q100), (43, .int .i64 (x31.1.length : Int)), (44, .int .i64 q100)] ⟨rfl, rfl, rfl, rfl, rfl, rfl, rfl, rfl, trivial⟩ ?_
     refine Cd.seq ?_
     obtain ⟨p117, hp118, hp111⟩ := bind_s hp111
     refine Cd.post (fun K w => ∃ (S119 : Mp), K = [(0, v1), (1, .int .i64 o_1), (5, .pointer (some ⟨b11, 0, none⟩)), (6, .int .i64 j20), (8, v33), (43, .int .i64 (x31.1.length : Int)), (44, .int .i64 q100), (126, .bool p117)] ∧ Le S101 S119 ∧ St w0 [] S0 S119 [.app g41 v33 x31.1.length 30 2, .row g44 cur45 30, .box b11 #[v43] 44] w) ?_ ?_
     ·rintro K122 w120 ⟨S119, rfl, le121, hs⟩
      refine Cd.go ?_
      refine Cd.cond (t := p117) rfl (fun hc123 => ?_) (fun hc123 => ?_)
      ·have hp111 := ite_t hc123 hp111
       refine Cd.sr ?_
       refine Rg.st rfl rfl ?_
       refine Rg.go ?_
       refine Cd.ret ?_
       obtain rfl := some_s hp111
       have h106 := el_ret h106
       obtain rfl := some_s h106
       have e := hl105 (fun _ e => by cases e)
       subst e
       have h0 := el_ret h0
       obtain rfl := some_s h0
       exact fun a ha => Cd.retA (R := Re (Po3 S0 w0 _ _)) ha Try.results3 ⟨_, _, rfl, rfl, rfl⟩ ⟨_, rfl, S119, rfl, (hs.pick [] (by decide) rfl)⟩
      ·have hp111 := ite_f hc123 hp111
       refine Cd.skip ?_
       obtain rfl := some_s hp111
       exact fun a ha => ⟨[(0, v1), (1, .int .i64 o_1), (5, .pointer (some ⟨b11, 0, none⟩)), (6, .int .i64 j20), (8, v33), (43, .int .i64 (x31.1.length : Int)), (44, .int .i64 q100)], ha.weak ⟨rfl, rfl, rfl, rfl, rfl, rfl, rfl, trivial⟩, S119, rfl, rfl, le121, hs⟩
     ·skip
      refine Cd.rD mixed (fun l w => Has S101 w) hs (fun _ _ _ _ _ h => h) (by kernel_rfl) (fun w124 hs => ⟨hs.has, ?_⟩)
      refine Rk.tN 0 rfl rfl (fun _ _ => X.move rfl) ?_
      refine Rk.tN 1 rfl rfl (fun _ _ => X.move rfl) ?_
      obtain ⟨x125, hx126, hp118⟩ := bind_s hp118
      obtain ⟨ad127, vals128, _, hR129, hE130, hX131⟩ := mk_index Try.underlying27 zz30 (by decide) (f40.mono le102) hx126
      unfold R_alarm_Due at hR129
      subst hR129
      refine Rk.tN 2 rfl rfl (fun _ _ => hX131 rfl rfl) ?_
      refine Rk.tN 3 rfl rfl (fun _ _ => X.fieldE Try.underlying30 rfl zz2 rfl rfl) ?_
      refine Rk.tN 4 rfl rfl (fun w hc => X.load1 Try.underlying2 rfl rfl ((El.part (part := [.int .i64 x125.At]) hE130 0 rfl).at0 rfl hc)) ?_
      refine Rk.tN 5 rfl rfl (fun _ _ => X.move rfl) ?_
      refine Rk.tN 6 rfl rfl (fun _ _ => X.gtr rfl rfl) ?_
      refine Rk.tN 7 rfl rfl (fun _ _ => X.move rfl) ?_
      refine Rk.tF 8 rfl rfl rfl rfl (fun hW => fun _ _ => X.move rfl) ?_
      refine Rk.tF 9 rfl rfl rfl rfl (fun hW => fun _ _ => X.move rfl) ?_
      refine Rk.tF 13 rfl rfl rfl rfl (fun hW => fun _ _ => X.move rfl) ?_
      refine Rk.tF 14 rfl rfl rfl rfl (fun hW => fun _ _ => X.lenR Try.underlying22 (ev_g rfl hW) (f2.mono (le10.trans (le24.trans (le38.trans le102))))) ?_
      refine Rk.tF 15 rfl rfl rfl rfl (fun hW => fun _ _ => X.conv Try.underlying3 Try.underlying26 (ev_g rfl hW)) ?_
      refine Rk.split (b := decide (o_1 < x125.At)) (tj := 54) rfl (fun hc132 => ?_) (fun hc132 => ?_)
      ·have hp118 := ite_t hc132 hp118
       refine Rk.weak [(0, v1), (1, .int .i64 o_1), (5, .pointer (some ⟨b11, 0, none⟩)), (6, .int .i64 j20), (8, v33), (9, .int .i64 q100), (43, .int .i64 (x31.1.length : Int)), (44, .int .i64 q100), (54, .bool true), (55, undef), (56, undef), (62, undef)] ⟨rfl, rfl, rfl, rfl, rfl, rfl, rfl, rfl, rfl, get_u rfl (nn hc132), get_u rfl (nn hc132), get_u rfl (nn hc132), trivial⟩ ?_
       refine Rk.tO 10 rfl rfl rfl rfl rfl ?_
       refine Rk.tO 11 rfl rfl rfl rfl rfl ?_
       refine Rk.tO 12 rfl rfl rfl rfl rfl ?_
       refine Rk.tO 16 rfl rfl rfl rfl rfl ?_
       refine Rk.tN 17 rfl rfl (fun _ _ => X.pickT rfl rfl) ?_
       refine Rk.tN 18 rfl rfl (fun _ _ => X.move rfl) ?_
       refine Rk.tO 19 rfl rfl rfl rfl rfl ?_
       refine Rk.tO 20 rfl rfl rfl rfl rfl ?_
       refine Rk.tO 21 rfl rfl rfl rfl rfl ?_
       refine Rk.tO 22 rfl rfl rfl rfl rfl ?_
       refine Rk.tO 23 rfl rfl rfl rfl rfl ?_
       refine Rk.tO 24 rfl rfl rfl rfl rfl ?_
       refine Rk.tO 25 rfl rfl rfl rfl rfl ?_
       refine Rk.tO 26 rfl rfl rfl rfl rfl ?_
       refine Rk.tO 27 rfl rfl rfl rfl rfl ?_
       refine Rk.tO 28 rfl rfl rfl rfl rfl ?_
       refine Rk.tO 29 rfl rfl rfl rfl rfl ?_
       refine Rk.tO 30 rfl rfl rfl rfl rfl ?_
       refine Rk.tO 31 rfl rfl rfl rfl rfl ?_
       refine Rk.tO 32 rfl rfl rfl rfl rfl ?_
       refine Rk.tN 33 rfl rfl (fun _ _ => X.pickT rfl rfl) ?_
       refine Rk.tN 34 rfl rfl (fun _ _ => X.move rfl) ?_
       refine Rk.tO 35 rfl rfl rfl rfl rfl ?_
       refine Rk.tO 36 rfl rfl rfl rfl rfl ?_
       refine Rk.tO 37 rfl rfl rfl rfl rfl ?_
       refine Rk.tO 38 rfl rfl rfl rfl rfl ?_
       refine Rk.tO 39 rfl rfl rfl rfl rfl ?_
       refine Rk.tO 40 rfl rfl rfl rfl rfl ?_
       refine Rk.tO 41 rfl rfl rfl rfl rfl ?_
       refine Rk.tO 42 rfl rfl rfl rfl rfl ?_
       refine Rk.tO 43 rfl rfl rfl rfl rfl ?_
       refine Rk.tO 44 rfl rfl rfl rfl rfl ?_
       refine Rk.tO 45 rfl rfl rfl rfl rfl ?_
       refine Rk.tO 46 rfl rfl rfl rfl rfl ?_
       refine Rk.tO 47 rfl rfl rfl rfl rfl ?_
       refine Rk.tO 48 rfl rfl rfl rfl rfl ?_
       refine Rk.tO 49 rfl rfl rfl rfl rfl ?_
       refine Rk.tO 50 rfl rfl rfl rfl rfl ?_
       refine Rk.tO 51 rfl rfl rfl rfl rfl ?_
       refine Rk.tO 52 rfl rfl rfl rfl rfl ?_
       refine Rk.tO 53 rfl rfl rfl rfl rfl ?_
       refine Rk.tO 54 rfl rfl rfl rfl rfl ?_
       refine Rk.tO 55 rfl rfl rfl rfl rfl ?_
       refine Rk.tO 56 rfl rfl rfl rfl rfl ?_
       refine Rk.tO 57 rfl rfl rfl rfl rfl ?_
       refine Rk.tO 58 rfl rfl rfl rfl rfl ?_
       refine Rk.tO 59 rfl rfl rfl rfl rfl ?_
       refine Rk.tO 60 rfl rfl rfl rfl rfl ?_
       refine Rk.tO 61 rfl rfl rfl rfl rfl ?_
       refine Rk.tO 62 rfl rfl rfl rfl rfl ?_
       refine Rk.tO 63 rfl rfl rfl rfl rfl ?_
       refine Rk.tO 64 rfl rfl rfl rfl rfl ?_
       refine Rk.tO 65 rfl rfl rfl rfl rfl ?_
       refine Rk.tO 66 rfl rfl rfl rfl rfl ?_
       refine Rk.tO 67 rfl rfl rfl rfl rfl ?_
       refine Rk.tO 68 rfl rfl rfl rfl rfl ?_
       refine Rk.tO 69 rfl rfl rfl rfl rfl ?_
       refine Rk.tO 70 rfl rfl rfl rfl rfl ?_
       refine Rk.tO 71 rfl rfl rfl rfl rfl ?_
       refine Rk.tO 72 rfl rfl rfl rfl rfl ?_
       refine Rk.tO 73 rfl rfl rfl rfl rfl ?_
       refine Rk.tO 74 rfl rfl rfl rfl rfl ?_
       refine Rk.tO 75 rfl rfl rfl rfl rfl ?_
       refine Rk.tO 76 rfl rfl rfl rfl rfl ?_
       refine Rk.tO 77 rfl rfl rfl rfl rfl ?_
       refine Rk.tO 78 rfl rfl rfl rfl rfl ?_
       refine Rk.tN 79 rfl rfl (fun _ _ => X.pickT rfl rfl) ?_
       refine Rk.done ?_
       have e := some_s hp118
       subst e
       exact fun a ha => ⟨[(0, v1), (1, .int .i64 o_1), (5, .pointer (some ⟨b11, 0, none⟩)), (6, .int .i64 j20), (8, v33), (43, .int .i64 (x31.1.length : Int)), (44, .int .i64 q100), (126, .bool true)], ha.weak ⟨rfl, rfl, rfl, rfl, rfl, rfl, rfl, rfl, trivial⟩, S101, rfl, Le.refl _, hs⟩
      ·have hp118 := ite_f hc132 hp118
       refine Rk.weak [(0, v1), (1, .int .i64 o_1), (5, .pointer (some ⟨b11, 0, none⟩)), (6, .int .i64 j20), (8, v33), (9, .int .i64 q100), (43, .int .i64 (x31.1.length : Int)), (44, .int .i64 q100), (54, .bool false), (55, v33), (56, .int .i64 q100), (62, .int .u64 (cv .u64 (G_0.length : Int)))] ⟨rfl, rfl, rfl, rfl, rfl, rfl, rfl, rfl, rfl, get_g rfl (not_f hc132), get_g rfl (not_f hc132), get_g rfl (not_f hc132), trivial⟩ ?_
       obtain ⟨x133, hx134, hp118⟩ := bind_s hp118
       obtain ⟨ad135, vals136, _, hR137, hE138, hX139⟩ := mk_index Try.underlying27 zz30 (by decide) (f40.mono le102) hx134
       unfold R_alarm_Due at hR137
       subst hR137
       refine Rk.tF 10 rfl rfl rfl rfl (fun hW => fun _ _ => hX139 rfl rfl) ?_
       refine Rk.tF 11 rfl rfl rfl rfl (fun hW => fun _ _ => X.fieldE Try.underlying30 rfl zz26 rfl rfl) ?_
       refine Rk.tF 12 rfl rfl rfl rfl (fun hW => fun w hc => X.load1 Try.underlying26 rfl rfl ((El.part (part := [.int .u64 x133.Key]) hE138 1 rfl).at0 rfl hc)) ?_
       refine Rk.tF 16 rfl rfl rfl rfl (fun hW => fun _ _ => X.geq rfl rfl) ?_
       refine Rk.tN 17 rfl rfl (fun _ _ => X.pickF rfl rfl) ?_
       refine Rk.tN 18 rfl rfl (fun _ _ => X.move rfl) ?_
       refine Rk.tF 19 rfl rfl rfl rfl (fun hW => fun _ _ => X.move rfl) ?_
       refine Rk.tF 20 rfl rfl rfl rfl (fun hW => fun _ _ => X.move rfl) ?_
       refine Rk.tF 21 rfl rfl rfl rfl (fun hW => fun _ _ => X.move rfl) ?_
       refine Rk.tF 27 rfl rfl rfl rfl (fun hW => fun _ _ => X.move rfl) ?_
       refine Rk.tF 28 rfl rfl rfl rfl (fun hW => fun _ _ => X.move rfl) ?_
       refine Rk.split (b := decide ((cv .u64 (G_0.length : Int)) ≤ x133.Key)) (tj := 65) rfl (fun hc140 => ?_) (fun hc140 => ?_)
       ·have hp118 := ite_t hc140 hp118
        refine Rk.weak [(0, v1), (1, .int .i64 o_1), (5, .pointer (some ⟨b11, 0, none⟩)), (6, .int .i64 j20), (8, v33), (9, .int .i64 q100), (43, .int .i64 (x31.1.length : Int)), (44, .int .i64 q100), (65, .bool true), (66, undef), (67, undef), (68, undef), (74, undef), (75, undef)] ⟨rfl, rfl, rfl, rfl, rfl, rfl, rfl, rfl, rfl, get_u rfl (nn hc140), get_u rfl (nn hc140), get_u rfl (nn hc140), get_u rfl (nn hc140), get_u rfl (nn hc140), trivial⟩ ?_
        refine Rk.tO 22 rfl rfl rfl rfl rfl ?_
        refine Rk.tO 23 rfl rfl rfl rfl rfl ?_
        refine Rk.tO 24 rfl rfl rfl rfl rfl ?_
        refine Rk.tO 25 rfl rfl rfl rfl rfl ?_
        refine Rk.tO 26 rfl rfl rfl rfl rfl ?_
        refine Rk.tO 29 rfl rfl rfl rfl rfl ?_
        refine Rk.tO 30 rfl rfl rfl rfl rfl ?_
        refine Rk.tO 31 rfl rfl rfl rfl rfl ?_
        refine Rk.tO 32 rfl rfl rfl rfl rfl ?_
        refine Rk.tN 33 rfl rfl (fun _ _ => X.pickT rfl rfl) ?_
        refine Rk.tN 34 rfl rfl (fun _ _ => X.move rfl) ?_
        refine Rk.tO 35 rfl rfl rfl rfl rfl ?_
        refine Rk.tO 36 rfl rfl rfl rfl rfl ?_
        refine Rk.tO 37 rfl rfl rfl rfl rfl ?_
        refine Rk.tO 38 rfl rfl rfl rfl rfl ?_
        refine Rk.tO 39 rfl rfl rfl rfl rfl ?_
        refine Rk.tO 40 rfl rfl rfl rfl rfl ?_
        refine Rk.tO 41 rfl rfl rfl rfl rfl ?_
        refine Rk.tO 42 rfl rfl rfl rfl rfl ?_
        refine Rk.tO 43 rfl rfl rfl rfl rfl ?_
        refine Rk.tO 44 rfl rfl rfl rfl rfl ?_
        refine Rk.tO 45 rfl rfl rfl rfl rfl ?_
        refine Rk.tO 46 rfl rfl rfl rfl rfl ?_
        refine Rk.tO 47 rfl rfl rfl rfl rfl ?_
        refine Rk.tO 48 rfl rfl rfl rfl rfl ?_
        refine Rk.tO 49 rfl rfl rfl rfl rfl ?_
        refine Rk.tO 50 rfl rfl rfl rfl rfl ?_
        refine Rk.tO 51 rfl rfl rfl rfl rfl ?_
        refine Rk.tO 52 rfl rfl rfl rfl rfl ?_
        refine Rk.tO 53 rfl rfl rfl rfl rfl ?_
        refine Rk.tO 54 rfl rfl rfl rfl rfl ?_
        refine Rk.tO 55 rfl rfl rfl rfl rfl ?_
        refine Rk.tO 56 rfl rfl rfl rfl rfl ?_
        refine Rk.tO 57 rfl rfl rfl rfl rfl ?_
        refine Rk.tO 58 rfl rfl rfl rfl rfl ?_
        refine Rk.tO 59 rfl rfl rfl rfl rfl ?_
        refine Rk.tO 60 rfl rfl rfl rfl rfl ?_
        refine Rk.tO 61 rfl rfl rfl rfl rfl ?_
        refine Rk.tO 62 rfl rfl rfl rfl rfl ?_
        refine Rk.tO 63 rfl rfl rfl rfl rfl ?_
        refine Rk.tO 64 rfl rfl rfl rfl rfl ?_
        refine Rk.tO 65 rfl rfl rfl rfl rfl ?_
        refine Rk.tO 66 rfl rfl rfl rfl rfl ?_
        refine Rk.tO 67 rfl rfl rfl rfl rfl ?_
        refine Rk.tO 68 rfl rfl rfl rfl rfl ?_
        refine Rk.tO 69 rfl rfl rfl rfl rfl ?_
        refine Rk.tO 70 rfl rfl rfl rfl rfl ?_
        refine Rk.tO 71 rfl rfl rfl rfl rfl ?_
        refine Rk.tO 72 rfl rfl rfl rfl rfl ?_
        refine Rk.tO 73 rfl rfl rfl rfl rfl ?_
        refine Rk.tO 74 rfl rfl rfl rfl rfl ?_
        refine Rk.tO 75 rfl rfl rfl rfl rfl ?_
        refine Rk.tO 76 rfl rfl rfl rfl rfl ?_
        refine Rk.tO 77 rfl rfl rfl rfl rfl ?_
        refine Rk.tO 78 rfl rfl rfl rfl rfl ?_
        refine Rk.tN 79 rfl rfl (fun _ _ => X.pickT rfl rfl) ?_
        refine Rk.done ?_
        have e := some_s hp118
        subst e
        exact fun a ha => ⟨[(0, v1), (1, .int .i64 o_1), (5, .pointer (some ⟨b11, 0, none⟩)), (6, .int .i64 j20), (8, v33), (43, .int .i64 (x31.1.length : Int)), (44, .int .i64 q100), (126, .bool true)], ha.weak ⟨rfl, rfl, rfl, rfl, rfl, rfl, rfl, rfl, trivial⟩, S101, rfl, Le.refl _, hs⟩
       ·have hp118 := ite_f hc140 hp118
        refine Rk.weak [(0, v1), (1, .int .i64 o_1), (5, .pointer (some ⟨b11, 0, none⟩)), (6, .int .i64 j20), (8, v33), (9, .int .i64 q100), (43, .int .i64 (x31.1.length : Int)), (44, .int .i64 q100), (65, .bool false), (66, v1), (67, v33), (68, .int .i64 q100), (74, v33), (75, .int .i64 q100)] ⟨rfl, rfl, rfl, rfl, rfl, rfl, rfl, rfl, rfl, get_g rfl (not_f hc140), get_g rfl (not_f hc140), get_g rfl (not_f hc140), get_g rfl (not_f hc140), get_g rfl (not_f hc140), trivial⟩ ?_
        obtain ⟨x141, hx142, hp118⟩ := bind_s hp118
        obtain ⟨ad143, vals144, _, hR145, hE146, hX147⟩ := mk_index Try.underlying27 zz30 (by decide) (f40.mono le102) hx142
        unfold R_alarm_Due at hR145
        subst hR145
        refine Rk.tF 22 rfl rfl rfl rfl (fun hW => fun _ _ => hX147 rfl rfl) ?_
        refine Rk.tF 23 rfl rfl rfl rfl (fun hW => fun _ _ => X.fieldE Try.underlying30 rfl zz26 rfl rfl) ?_
        refine Rk.tF 24 rfl rfl rfl rfl (fun hW => fun w hc => X.load1 Try.underlying26 rfl rfl ((El.part (part := [.int .u64 x141.Key]) hE146 1 rfl).at0 rfl hc)) ?_
        obtain ⟨x148, hx149, hp118⟩ := bind_s hp118
        obtain ⟨ad150, vals151, _, hR152, hE153, hX154⟩ := mk_index Try.underlying22 zz2 (by decide) (f2.mono (le10.trans (le24.trans (le38.trans le102)))) hx149
        obtain rfl : vals151 = [.int .i64 x148] := hR152
        refine Rk.tF 25 rfl rfl rfl rfl (fun hW => fun _ _ => hX154 rfl rfl) ?_
        refine Rk.tF 26 rfl rfl rfl rfl (fun hW => fun w hc => X.load1 Try.underlying2 rfl rfl (hE153.at0 rfl hc)) ?_
        obtain ⟨x155, hx156, hp118⟩ := bind_s hp118
        obtain ⟨ad157, vals158, _, hR159, hE160, hX161⟩ := mk_index Try.underlying27 zz30 (by decide) (f40.mono le102) hx156
        unfold R_alarm_Due at hR159
        subst hR159
        refine Rk.tF 29 rfl rfl rfl rfl (fun hW => fun _ _ => hX161 rfl rfl) ?_
        refine Rk.tF 30 rfl rfl rfl rfl (fun hW => fun _ _ => X.fieldE Try.underlying30 rfl zz2 rfl rfl) ?_
        refine Rk.tF 31 rfl rfl rfl rfl (fun hW => fun w hc => X.load1 Try.underlying2 rfl rfl ((El.part (part := [.int .i64 x155.At]) hE160 0 rfl).at0 rfl hc)) ?_
        refine Rk.tF 32 rfl rfl rfl rfl (fun hW => fun _ _ => X.neq rfl rfl) ?_
        refine Rk.tN 33 rfl rfl (fun _ _ => X.pickF rfl rfl) ?_
        refine Rk.tN 34 rfl rfl (fun _ _ => X.move rfl) ?_
        refine Rk.tF 35 rfl rfl rfl rfl (fun hW => fun _ _ => X.move rfl) ?_
        refine Rk.tF 36 rfl rfl rfl rfl (fun hW => fun _ _ => X.gtr (ev_g rfl hW) rfl) ?_
        refine Rk.tF 37 rfl rfl rfl rfl (fun hW => fun _ _ => X.move (ev_g rfl hW)) ?_
        refine Rk.tGT 38 rfl rfl rfl rfl (fun hW => fun _ _ => X.move rfl) ?_
        refine Rk.tGT 39 rfl rfl rfl rfl (fun hW => fun _ _ => X.move rfl) ?_
        refine Rk.tGT 43 rfl rfl rfl rfl (fun hW => fun _ _ => X.move rfl) ?_
        refine Rk.tGT 44 rfl rfl rfl rfl (fun hW => fun _ _ => X.move rfl) ?_
        refine Rk.tGT 45 rfl rfl rfl rfl (fun hW => fun _ _ => X.sub (ev_g rfl hW) rfl) ?_
        refine Rk.split (b := x148 != x155.At) (tj := 81) rfl (fun hc162 => ?_) (fun hc162 => ?_)
        ·have hp118 := ite_t hc162 hp118
         refine Rk.weak [(0, v1), (1, .int .i64 o_1), (5, .pointer (some ⟨b11, 0, none⟩)), (6, .int .i64 j20), (8, v33), (9, .int .i64 q100), (43, .int .i64 (x31.1.length : Int)), (44, .int .i64 q100), (81, .bool true), (84, undef), (85, undef), (86, undef), (90, undef), (92, undef)] ⟨rfl, rfl, rfl, rfl, rfl, rfl, rfl, rfl, rfl, get_u rfl (nn hc162), get_u rfl (not_and_l (nn hc162)), get_u rfl (not_and_l (nn hc162)), get_u rfl (not_and_l (nn hc162)), get_u rfl (not_and_l (nn hc162)), trivial⟩ ?_
         refine Rk.tO 40 rfl rfl rfl rfl rfl ?_
         refine Rk.tO 41 rfl rfl rfl rfl rfl ?_
         refine Rk.tO 42 rfl rfl rfl rfl rfl ?_
         refine Rk.tO 46 rfl rfl rfl rfl rfl ?_
         refine Rk.tO 47 rfl rfl rfl rfl rfl ?_
         refine Rk.tO 48 rfl rfl rfl rfl rfl ?_
         refine Rk.tO 49 rfl rfl rfl rfl rfl ?_
         refine Rk.tO 50 rfl rfl rfl rfl rfl ?_
         refine Rk.tO 51 rfl rfl rfl rfl rfl ?_
         refine Rk.tO 52 rfl rfl rfl rfl rfl ?_
         refine Rk.tO 53 rfl rfl rfl rfl rfl ?_
         refine Rk.tO 54 rfl rfl rfl rfl rfl ?_
         refine Rk.tO 55 rfl rfl rfl rfl rfl ?_
         refine Rk.tO 56 rfl rfl rfl rfl rfl ?_
         refine Rk.tO 57 rfl rfl rfl rfl rfl ?_
         refine Rk.tO 58 rfl rfl rfl rfl rfl ?_
         refine Rk.tO 59 rfl rfl rfl rfl rfl ?_
         refine Rk.tO 60 rfl rfl rfl rfl rfl ?_
         refine Rk.tO 61 rfl rfl rfl rfl rfl ?_
         refine Rk.tO 62 rfl rfl rfl rfl rfl ?_
         refine Rk.tO 63 rfl rfl rfl rfl rfl ?_
         refine Rk.tO 64 rfl rfl rfl rfl rfl ?_
         refine Rk.tO 65 rfl rfl rfl rfl rfl ?_
         refine Rk.tO 66 rfl rfl rfl rfl rfl ?_
         refine Rk.tO 67 rfl rfl rfl rfl rfl ?_
         refine Rk.tO 68 rfl rfl rfl rfl rfl ?_
         refine Rk.tO 69 rfl rfl rfl rfl rfl ?_
         refine Rk.tO 70 rfl rfl rfl rfl rfl ?_
         refine Rk.tO 71 rfl rfl rfl rfl rfl ?_
         refine Rk.tO 72 rfl rfl rfl rfl rfl ?_
         refine Rk.tO 73 rfl rfl rfl rfl rfl ?_
         refine Rk.tO 74 rfl rfl rfl rfl rfl ?_
         refine Rk.tO 75 rfl rfl rfl rfl rfl ?_
         refine Rk.tO 76 rfl rfl rfl rfl rfl ?_
         refine Rk.tO 77 rfl rfl rfl rfl rfl ?_
         refine Rk.tO 78 rfl rfl rfl rfl rfl ?_
         refine Rk.tN 79 rfl rfl (fun _ _ => X.pickT rfl rfl) ?_
         refine Rk.done ?_
         have e := some_s hp118
         subst e
         exact fun a ha => ⟨[(0, v1), (1, .int .i64 o_1), (5, .pointer (some ⟨b11, 0, none⟩)), (6, .int .i64 j20), (8, v33), (43, .int .i64 (x31.1.length : Int)), (44, .int .i64 q100), (126, .bool true)], ha.weak ⟨rfl, rfl, rfl, rfl, rfl, rfl, rfl, rfl, trivial⟩, S101, rfl, Le.refl _, hs⟩
        ·have hp118 := ite_f hc162 hp118
         refine Rk.weak [(0, v1), (1, .int .i64 o_1), (5, .pointer (some ⟨b11, 0, none⟩)), (6, .int .i64 j20), (8, v33), (9, .int .i64 q100), (43, .int .i64 (x31.1.length : Int)), (44, .int .i64 q100), (81, .bool false), (84, .bool (decide (0 < q100))), (85, gv ((!(x148 != x155.At)) && (decide (0 < q100))) (v33)), (86, gv ((!(x148 != x155.At)) && (decide (0 < q100))) (.int .i64 q100)), (90, gv ((!(x148 != x155.At)) && (decide (0 < q100))) (v33)), (92, gv ((!(x148 != x155.At)) && (decide (0 < q100))) (.int .i64 (sub .i64 q100 1)))] ⟨rfl, rfl, rfl, rfl, rfl, rfl, rfl, rfl, rfl, get_g rfl (not_f hc162), rfl, rfl, rfl, rfl, trivial⟩ ?_
         refine Rk.split (b := decide (0 < q100)) (tj := 84) rfl (fun hc163 => ?_) (fun hc163 => ?_)
         ·have hp118 := ite_t hc163 hp118
          refine Rk.weak [(0, v1), (1, .int .i64 o_1), (5, .pointer (some ⟨b11, 0, none⟩)), (6, .int .i64 j20), (8, v33), (9, .int .i64 q100), (43, .int .i64 (x31.1.length : Int)), (44, .int .i64 q100), (81, .bool false), (84, .bool true), (85, v33), (86, .int .i64 q100), (90, v33), (92, .int .i64 (sub .i64 q100 1))] ⟨rfl, rfl, rfl, rfl, rfl, rfl, rfl, rfl, rfl, rfl, get_g rfl (and_i (not_f hc162) hc163), get_g rfl (and_i (not_f hc162) hc163), get_g rfl (and_i (not_f hc162) hc163), get_g rfl (and_i (not_f hc162) hc163), trivial⟩ ?_
          obtain ⟨x164, hx165, hp118⟩ := bind_s hp118
          obtain ⟨ad166, vals167, _, hR168, hE169, hX170⟩ := mk_index Try.underlying27 zz30 (by decide) (f40.mono le102) hx165
          unfold R_alarm_Due at hR168
          subst hR168
          refine Rk.tT 40 rfl rfl rfl rfl (fun hW => fun _ _ => hX170 rfl rfl) ?_
          refine Rk.tT 41 rfl rfl rfl rfl (fun hW => fun _ _ => X.fieldE Try.underlying30 rfl zz2 rfl rfl) ?_
          refine Rk.tT 42 rfl rfl rfl rfl (fun hW => fun w hc => X.load1 Try.underlying2 rfl rfl ((El.part (part := [.int .i64 x164.At]) hE169 0 rfl).at0 rfl hc)) ?_
          obtain ⟨x171, hx172, hp118⟩ := bind_s hp118
          obtain ⟨ad173, vals174, _, hR175, hE176, hX177⟩ := mk_index Try.underlying27 zz30 (by decide) (f40.mono le102) hx172
          unfold R_alarm_Due at hR175
          subst hR175
          refine Rk.tT 46 rfl rfl rfl rfl (fun hW => fun _ _ => hX177 rfl rfl) ?_
          refine Rk.tT 47 rfl rfl rfl rfl (fun hW => fun _ _ => X.fieldE Try.underlying30 rfl zz2 rfl rfl) ?_
          refine Rk.tT 48 rfl rfl rfl rfl (fun hW => fun w hc => X.load1 Try.underlying2 rfl rfl ((El.part (part := [.int .i64 x171.At]) hE176 0 rfl).at0 rfl hc)) ?_
          refine Rk.tT 49 rfl rfl rfl rfl (fun hW => fun _ _ => X.lss rfl rfl) ?_
          refine Rk.tT 50 rfl rfl rfl rfl (fun hW => fun _ _ => X.move rfl) ?_
          refine Rk.tF 51 rfl rfl rfl rfl (fun hW => fun _ _ => X.move rfl) ?_
          refine Rk.tF 52 rfl rfl rfl rfl (fun hW => fun _ _ => X.move rfl) ?_
          refine Rk.tF 56 rfl rfl rfl rfl (fun hW => fun _ _ => X.move rfl) ?_
          refine Rk.tF 57 rfl rfl rfl rfl (fun hW => fun _ _ => X.move rfl) ?_
          refine Rk.tF 58 rfl rfl rfl rfl (fun hW => fun _ _ => X.sub (ev_g rfl hW) rfl) ?_
          refine Rk.split (b := decide (x164.At < x171.At)) (tj := 97) rfl (fun hc178 => ?_) (fun hc178 => ?_)
          ·have hp118 := ite_t hc178 hp118
           refine Rk.weak [(0, v1), (1, .int .i64 o_1), (5, .pointer (some ⟨b11, 0, none⟩)), (6, .int .i64 j20), (8, v33), (9, .int .i64 q100), (43, .int .i64 (x31.1.length : Int)), (44, .int .i64 q100), (81, .bool false), (84, .bool true), (97, .bool true), (98, undef), (99, undef), (103, undef), (105, undef)] ⟨rfl, rfl, rfl, rfl, rfl, rfl, rfl, rfl, rfl, rfl, rfl, get_u rfl (nn hc178), get_u rfl (nn hc178), get_u rfl (nn hc178), get_u rfl (nn hc178), trivial⟩ ?_
           refine Rk.tO 53 rfl rfl rfl rfl rfl ?_
           refine Rk.tO 54 rfl rfl rfl rfl rfl ?_
           refine Rk.tO 55 rfl rfl rfl rfl rfl ?_
           refine Rk.tO 59 rfl rfl rfl rfl rfl ?_
           refine Rk.tO 60 rfl rfl rfl rfl rfl ?_
           refine Rk.tO 61 rfl rfl rfl rfl rfl ?_
           refine Rk.tO 62 rfl rfl rfl rfl rfl ?_
           refine Rk.tO 63 rfl rfl rfl rfl rfl ?_
           refine Rk.tO 64 rfl rfl rfl rfl rfl ?_
           refine Rk.tO 65 rfl rfl rfl rfl rfl ?_
           refine Rk.tO 66 rfl rfl rfl rfl rfl ?_
           refine Rk.tO 67 rfl rfl rfl rfl rfl ?_
           refine Rk.tO 68 rfl rfl rfl rfl rfl ?_
           refine Rk.tO 69 rfl rfl rfl rfl rfl ?_
           refine Rk.tO 70 rfl rfl rfl rfl rfl ?_
           refine Rk.tO 71 rfl rfl rfl rfl rfl ?_
           refine Rk.tO 72 rfl rfl rfl rfl rfl ?_
           refine Rk.tO 73 rfl rfl rfl rfl rfl ?_
           refine Rk.tO 74 rfl rfl rfl rfl rfl ?_
           refine Rk.tO 75 rfl rfl rfl rfl rfl ?_
           refine Rk.tO 76 rfl rfl rfl rfl rfl ?_
           refine Rk.tT 77 rfl rfl rfl rfl (fun hW => fun _ _ => X.pickT rfl rfl) ?_
           refine Rk.tF 78 rfl rfl rfl rfl (fun hW => fun _ _ => X.pickT rfl rfl) ?_
           refine Rk.weak [(0, v1), (1, .int .i64 o_1), (5, .pointer (some ⟨b11, 0, none⟩)), (6, .int .i64 j20), (8, v33), (43, .int .i64 (x31.1.length : Int)), (44, .int .i64 q100), (81, .bool false), (125, .bool true)] ⟨rfl, rfl, rfl, rfl, rfl, rfl, rfl, rfl, rfl, trivial⟩ ?_
           refine Rk.tN 79 rfl rfl (fun _ _ => X.pickF rfl rfl) ?_
           refine Rk.done ?_
           have e := some_s hp118
           subst e
           exact fun a ha => ⟨[(0, v1), (1, .int .i64 o_1), (5, .pointer (some ⟨b11, 0, none⟩)), (6, .int .i64 j20), (8, v33), (43, .int .i64 (x31.1.length : Int)), (44, .int .i64 q100), (126, .bool true)], ha.weak ⟨rfl, rfl, rfl, rfl, rfl, rfl, rfl, rfl, trivial⟩, S101, rfl, Le.refl _, hs⟩
          ·have hp118 := ite_f hc178 hp118
           refine Rk.weak [(0, v1), (1, .int .i64 o_1), (5, .pointer (some ⟨b11, 0, none⟩)), (6, .int .i64 j20), (8, v33), (9, .int .i64 q100), (43, .int .i64 (x31.1.length : Int)), (44, .int .i64 q100), (81, .bool false), (84, .bool true), (97, .bool false), (98, v33), (99, .int .i64 q100), (103, v33), (105, .int .i64 (sub .i64 q100 1))] ⟨rfl, rfl, rfl, rfl, rfl, rfl, rfl, rfl, rfl, rfl, rfl, get_g rfl (not_f hc178), get_g rfl (not_f hc178), get_g rfl (not_f hc178), get_g rfl (not_f hc178), trivial⟩ ?_
           obtain ⟨x179, hx180, hp118⟩ := bind_s hp118
           obtain ⟨ad181, vals182, _, hR183, hE184, hX185⟩ := mk_index Try.underlying27 zz30 (by decide) (f40.mono le102) hx180
           unfold R_alarm_Due at hR183
           subst hR183
           refine Rk.tF 53 rfl rfl rfl rfl (fun hW => fun _ _ => hX185 rfl rfl) ?_
           refine Rk.tF 54 rfl rfl rfl rfl (fun hW => fun _ _ => X.fieldE Try.underlying30 rfl zz2 rfl rfl) ?_
           refine Rk.tF 55 rfl rfl rfl rfl (fun hW => fun w hc => X.load1 Try.underlying2 rfl rfl ((El.part (part := [.int .i64 x179.At]) hE184 0 rfl).at0 rfl hc)) ?_
           obtain ⟨x186, hx187, hp118⟩ := bind_s hp118
           obtain ⟨ad188, vals189, _, hR190, hE191, hX192⟩ := mk_index Try.underlying27 zz30 (by decide) (f40.mono le102) hx187
           unfold R_alarm_Due at hR190
           subst hR190
           refine Rk.tF 59 rfl rfl rfl rfl (fun hW => fun _ _ => hX192 rfl rfl) ?_
           refine Rk.tF 60 rfl rfl rfl rfl (fun hW => fun _ _ => X.fieldE Try.underlying30 rfl zz2 rfl rfl) ?_
           refine Rk.tF 61 rfl rfl rfl rfl (fun hW => fun w hc => X.load1 Try.underlying2 rfl rfl ((El.part (part := [.int .i64 x186.At]) hE191 0 rfl).at0 rfl hc)) ?_
           refine Rk.tF 62 rfl rfl rfl rfl (fun hW => fun _ _ => X.eql rfl rfl) ?_
           refine Rk.tF 63 rfl rfl rfl rfl (fun hW => fun _ _ => X.move rfl) ?_
           refine Rk.tT 64 rfl rfl rfl rfl (fun hW => fun _ _ => X.move rfl) ?_
           refine Rk.tT 65 rfl rfl rfl rfl (fun hW => fun _ _ => X.move rfl) ?_
           refine Rk.tT 69 rfl rfl rfl rfl (fun hW => fun _ _ => X.move rfl) ?_
           refine Rk.tT 70 rfl rfl rfl rfl (fun hW => fun _ _ => X.move rfl) ?_
           refine Rk.tT 71 rfl rfl rfl rfl (fun hW => fun _ _ => X.sub (ev_g rfl hW) rfl) ?_
           refine Rk.split (b := x179.At == x186.At) (tj := 110) rfl (fun hc193 => ?_) (fun hc193 => ?_)
           ·have hp118 := ite_t hc193 hp118
            refine Rk.weak [(0, v1), (1, .int .i64 o_1), (5, .pointer (some ⟨b11, 0, none⟩)), (6, .int .i64 j20), (8, v33), (43, .int .i64 (x31.1.length : Int)), (44, .int .i64 q100), (81, .bool false), (84, .bool true), (97, .bool false), (110, .bool true), (111, v33), (112, .int .i64 q100), (116, v33), (118, .int .i64 (sub .i64 q100 1))] ⟨rfl, rfl, rfl, rfl, rfl, rfl, rfl, rfl, rfl, rfl, rfl, get_g rfl hc193, get_g rfl hc193, get_g rfl hc193, get_g rfl hc193, trivial⟩ ?_
            obtain ⟨x194, hx195, hp118⟩ := bind_s hp118
            obtain ⟨ad196, vals197, _, hR198, hE199, hX200⟩ := mk_index Try.underlying27 zz30 (by decide) (f40.mono le102) hx195
            unfold R_alarm_Due at hR198
            subst hR198
            refine Rk.tT 66 rfl rfl rfl rfl (fun hW => fun _ _ => hX200 rfl rfl) ?_
            refine Rk.tT 67 rfl rfl rfl rfl (fun hW => fun _ _ => X.fieldE Try.underlying30 rfl zz26 rfl rfl) ?_
            refine Rk.tT 68 rfl rfl rfl rfl (fun hW => fun w hc => X.load1 Try.underlying26 rfl rfl ((El.part (part := [.int .u64 x194.Key]) hE199 1 rfl).at0 rfl hc)) ?_
            obtain ⟨x201, hx202, hp118⟩ := bind_s hp118
            obtain ⟨ad203, vals204, _, hR205, hE206, hX207⟩ := mk_index Try.underlying27 zz30 (by decide) (f40.mono le102) hx202
            unfold R_alarm_Due at hR205
            subst hR205
            refine Rk.tT 72 rfl rfl rfl rfl (fun hW => fun _ _ => hX207 rfl rfl) ?_
            refine Rk.tT 73 rfl rfl rfl rfl (fun hW => fun _ _ => X.fieldE Try.underlying30 rfl zz26 rfl rfl) ?_
            refine Rk.tT 74 rfl rfl rfl rfl (fun hW => fun w hc => X.load1 Try.underlying26 rfl rfl ((El.part (part := [.int .u64 x201.Key]) hE206 1 rfl).at0 rfl hc)) ?_
            refine Rk.tT 75 rfl rfl rfl rfl (fun hW => fun _ _ => X.leq rfl rfl) ?_
            refine Rk.tF 76 rfl rfl rfl rfl (fun hW => fun _ _ => X.pickT rfl rfl) ?_
            refine Rk.weak [(0, v1), (1, .int .i64 o_1), (5, .pointer (some ⟨b11, 0, none⟩)), (6, .int .i64 j20), (8, v33), (43, .int .i64 (x31.1.length : Int)), (44, .int .i64 q100), (81, .bool false), (84, .bool true), (97, .bool false), (123, .bool (decide (x194.Key ≤ x201.Key)))] ⟨rfl, rfl, rfl, rfl, rfl, rfl, rfl, rfl, rfl, rfl, rfl, trivial⟩ ?_
            refine Rk.tT 77 rfl rfl rfl rfl (fun hW => fun _ _ => X.pickF rfl rfl) ?_
            refine Rk.tF 78 rfl rfl rfl rfl (fun hW => fun _ _ => X.pickT rfl rfl) ?_
            refine Rk.tN 79 rfl rfl (fun _ _ => X.pickF rfl rfl) ?_
            refine Rk.done ?_
            have e := some_s hp118
            subst e
            exact fun a ha => ⟨[(0, v1), (1, .int .i64 o_1), (5, .pointer (some ⟨b11, 0, none⟩)), (6, .int .i64 j20), (8, v33), (43, .int .i64 (x31.1.length : Int)), (44, .int .i64 q100), (126, .bool (decide (x194.Key ≤ x201.Key)))], ha.weak ⟨rfl, rfl, rfl, rfl, rfl, rfl, rfl, rfl, trivial⟩, S101, rfl, Le.refl _, hs⟩
           ·have hp118 := ite_f hc193 hp118
            refine Rk.weak [(0, v1), (1, .int .i64 o_1), (5, .pointer (some ⟨b11, 0, none⟩)), (6, .int .i64 j20), (8, v33), (43, .int .i64 (x31.1.length : Int)), (44, .int .i64 q100), (81, .bool false), (84, .bool true), (97, .bool false), (110, .bool false), (111, undef), (112, undef), (116, undef), (118, undef)] ⟨rfl, rfl, rfl, rfl, rfl, rfl, rfl, rfl, rfl, rfl, rfl, get_u rfl (not_f hc193), get_u rfl (not_f hc193), get_u rfl (not_f hc193), get_u rfl (not_f hc193), trivial⟩ ?_
            refine Rk.tO 66 rfl rfl rfl rfl rfl ?_
            refine Rk.tO 67 rfl rfl rfl rfl rfl ?_
            refine Rk.tO 68 rfl rfl rfl rfl rfl ?_
            refine Rk.tO 72 rfl rfl rfl rfl rfl ?_
            refine Rk.tO 73 rfl rfl rfl rfl rfl ?_
            refine Rk.tO 74 rfl rfl rfl rfl rfl ?_
            refine Rk.tO 75 rfl rfl rfl rfl rfl ?_
            refine Rk.tF 76 rfl rfl rfl rfl (fun hW => fun _ _ => X.pickF rfl rfl) ?_
            refine Rk.tT 77 rfl rfl rfl rfl (fun hW => fun _ _ => X.pickF rfl rfl) ?_
            refine Rk.tF 78 rfl rfl rfl rfl (fun hW => fun _ _ => X.pickT rfl rfl) ?_
            refine Rk.weak [(0, v1), (1, .int .i64 o_1), (5, .pointer (some ⟨b11, 0, none⟩)), (6, .int .i64 j20), (8, v33), (43, .int .i64 (x31.1.length : Int)), (44, .int .i64 q100), (81, .bool false), (125, .bool false)] ⟨rfl, rfl, rfl, rfl, rfl, rfl, rfl, rfl, rfl, trivial⟩ ?_
            refine Rk.tN 79 rfl rfl (fun _ _ => X.pickF rfl rfl) ?_
            refine Rk.done ?_
            have e := some_s hp118
            subst e
            exact fun a ha => ⟨[(0, v1), (1, .int .i64 o_1), (5, .pointer (some ⟨b11, 0, none⟩)), (6, .int .i64 j20), (8, v33), (43, .int .i64 (x31.1.length : Int)), (44, .int .i64 q100), (126, .bool false)], ha.weak ⟨rfl, rfl, rfl, rfl, rfl, rfl, rfl, rfl, trivial⟩, S101, rfl, Le.refl _, hs⟩
         ·have hp118 := ite_f hc163 hp118
          refine Rk.weak [(0, v1), (1, .int .i64 o_1), (5, .pointer (some ⟨b11, 0, none⟩)), (6, .int .i64 j20), (8, v33), (9, .int .i64 q100), (43, .int .i64 (x31.1.length : Int)), (44, .int .i64 q100), (81, .bool false), (84, .bool false), (85, undef), (86, undef), (90, undef), (92, undef)] ⟨rfl, rfl, rfl, rfl, rfl, rfl, rfl, rfl, rfl, rfl, get_u rfl (not_and_r (not_f hc163)), get_u rfl (not_and_r (not_f hc163)), get_u rfl (not_and_r (not_f hc163)), get_u rfl (not_and_r (not_f hc163)), trivial⟩ ?_
          refine Rk.tO 40 rfl rfl rfl rfl rfl ?_
          refine Rk.tO 41 rfl rfl rfl rfl rfl ?_
          refine Rk.tO 42 rfl rfl rfl rfl rfl ?_
          refine Rk.tO 46 rfl rfl rfl rfl rfl ?_
          refine Rk.tO 47 rfl rfl rfl rfl rfl ?_
          refine Rk.tO 48 rfl rfl rfl rfl rfl ?_
          refine Rk.tO 49 rfl rfl rfl rfl rfl ?_
          refine Rk.tO 50 rfl rfl rfl rfl rfl ?_
          refine Rk.tO 51 rfl rfl rfl rfl rfl ?_
          refine Rk.tO 52 rfl rfl rfl rfl rfl ?_
          refine Rk.tO 53 rfl rfl rfl rfl rfl ?_
          refine Rk.tO 54 rfl rfl rfl rfl rfl ?_
          refine Rk.tO 55 rfl rfl rfl rfl rfl ?_
          refine Rk.tO 56 rfl rfl rfl rfl rfl ?_
          refine Rk.tO 57 rfl rfl rfl rfl rfl ?_
          refine Rk.tO 58 rfl rfl rfl rfl rfl ?_
          refine Rk.tO 59 rfl rfl rfl rfl rfl ?_
          refine Rk.tO 60 rfl rfl rfl rfl rfl ?_
          refine Rk.tO 61 rfl rfl rfl rfl rfl ?_
          refine Rk.tO 62 rfl rfl rfl rfl rfl ?_
          refine Rk.tO 63 rfl rfl rfl rfl rfl ?_
          refine Rk.tO 64 rfl rfl rfl rfl rfl ?_
          refine Rk.tO 65 rfl rfl rfl rfl rfl ?_
          refine Rk.tO 66 rfl rfl rfl rfl rfl ?_
          refine Rk.tO 67 rfl rfl rfl rfl rfl ?_
          refine Rk.tO 68 rfl rfl rfl rfl rfl ?_
          refine Rk.tO 69 rfl rfl rfl rfl rfl ?_
          refine Rk.tO 70 rfl rfl rfl rfl rfl ?_
          refine Rk.tO 71 rfl rfl rfl rfl rfl ?_
          refine Rk.tO 72 rfl rfl rfl rfl rfl ?_
          refine Rk.tO 73 rfl rfl rfl rfl rfl ?_
          refine Rk.tO 74 rfl rfl rfl rfl rfl ?_
          refine Rk.tO 75 rfl rfl rfl rfl rfl ?_
          refine Rk.tO 76 rfl rfl rfl rfl rfl ?_
          refine Rk.tO 77 rfl rfl rfl rfl rfl ?_
          refine Rk.tF 78 rfl rfl rfl rfl (fun hW => fun _ _ => X.pickF rfl rfl) ?_
          refine Rk.tN 79 rfl rfl (fun _ _ => X.pickF rfl rfl) ?_
          refine Rk.done ?_
          have e := some_s hp118
          subst e
          exact fun a ha => ⟨[(0, v1), (1, .int .i64 o_1), (5, .pointer (some ⟨b11, 0, none⟩)), (6, .int .i64 j20), (8, v33), (43, .int .i64 (x31.1.length : Int)), (44, .int .i64 q100), (126, .bool false)], ha.weak ⟨rfl, rfl, rfl, rfl, rfl, rfl, rfl, rfl, trivial⟩, S101, rfl, Le.refl _, hs⟩
   ·have h106 := ite_f hc109 h106
    refine Cd.exit ?_
    obtain rfl := some_s h106
    have e := hl105 (fun _ e => by cases e)
    exact fun a ha => ⟨[(0, v1), (1, .int .i64 o_1), (5, .pointer (some ⟨b11, 0, none⟩)), (6, .int .i64 j20), (8, v33)], ha.weak ⟨rfl, rfl, rfl, rfl, rfl, trivial⟩, _, S101, rfl, e.symm, le102, hs⟩
 ·skip
  refine Cd.weak [(0, v1), (1, .int .i64 o_1), (5, .pointer (some ⟨b11, 0, none⟩)), (6, .int .i64 0), (7, .int .i64 0)] ⟨rfl, rfl, rfl, rfl, rfl, trivial⟩ ?_
  refine Cd.block (Cd.loop (fun sg => limelightlaw12_AlarmOrder_l0 G_0 o_1 sg.1 sg.2.1 sg.2.2) (fun (sg : (Int × Int × (List alarm_Due))) K w => ∃ (S217 : Mp) (v219 : Value) (g220 : Option Nat) (cur221 : Array Value), K = [(0, v1), (1, .int .i64 o_1), (5, .pointer (some ⟨b11, 0, none⟩)), (6, .int .i64 sg.1), (7, .int .i64 sg.2.1)] ∧ Le S8 S217 ∧ St w0 [] S0 S217 [.row g220 cur221 30, .box b11 #[v219] 44] w ∧ Rw S217 2 R_alarm_Due g220 cur221 v219 sg.2.2) (0, 0, x3.l_) fl18 hfl19 ⟨S8, v13, g14, cur15, rfl, Le.refl _, hs, f16⟩ ?_)
  rintro ⟨q214, q215, q216⟩ fl223 K228 w227 hb224 ⟨S217, v219, g220, cur221, rfl, le218, hs, f222⟩ hl225
  have h226 : limelightlaw12_AlarmOrder_l0 G_0 o_1 q214 q215 q216 = some fl223 := hb224
  unfold limelightlaw12_AlarmOrder_l0 at h226
  refine Cd.seq ?_
  refine Cd.sr ?_
  refine Rg.mv rfl rfl ?_
  refine Rg.mv rfl rfl ?_
  refine Rg.vN (X.lenR Try.underlying22 rfl (f2.mono (le10.trans le218))) rfl ?_
  refine Rg.vN (X.lss rfl rfl) rfl ?_
  refine Rg.mv rfl rfl ?_
  refine Rg.vT rfl rfl rfl (fun hW => X.move rfl) ?_
  refine Rg.vT rfl rfl rfl (fun hW => X.lss (ev_g rfl hW) rfl) ?_
  refine Rg.vN (X.pickAnd rfl rfl rfl) rfl ?_
  refine Rg.go ?_
  refine Cd.cond (t := (decide (q215 < (G_0.length : Int))) && (decide (q215 < 60))) rfl (fun hc229 => ?_) (fun hc229 => ?_)
  ·have h226 := ite_t hc229 h226
   refine Cd.sg ?_
   refine Cd.seq ?_
   obtain ⟨p232, hp233, h226⟩ := bind_s h226
   refine Cd.post (fun K w => ∃ (S234 : Mp) (v237 : Value) (g238 : Option Nat) (cur239 : Array Value), K = [(0, v1), (1, .int .i64 o_1), (5, .pointer (some ⟨b11, 0, none⟩)), (6, .int .i64 p232.1), (7, .int .i64 q215)] ∧ Le S217 S234 ∧ St w0 [] S0 S234 [.row g238 cur239 30, .box b11 #[v237] 44] w ∧ Rw S234 2 R_alarm_Due g238 cur239 v237 p232.2) ?_ ?_
   ·rintro K241 w235 ⟨S234, v237, g238, cur239, rfl, le236, hs, f240⟩
    refine Cd.go ?_
    refine Cd.region ?_
    refine Rg.mv rfl rfl ?_
    refine Rg.weak [(0, v1), (1, .int .i64 o_1), (5, .pointer (some ⟨b11, 0, none⟩)), (6, .int .i64 p232.1), (21, .int .i64 q215)] ⟨rfl, rfl, rfl, rfl, rfl, trivial⟩ ?_
    refine Rg.vN (X.add rfl rfl) rfl ?_
    refine Rg.st rfl rfl ?_
    refine Rg.nil ?_
    exact fun a ha => ⟨(p232.1, add .i64 q215 1, p232.2), [(0, v1), (1, .int .i64 o_1), (5, .pointer (some ⟨b11, 0, none⟩)), (6, .int .i64 p232.1), (7, .int .i64 (add .i64 q215 1))], (some_s h226).symm, ha.weak ⟨rfl, rfl, rfl, rfl, rfl, trivial⟩, S234, v237, g238, cur239, rfl, (le218.trans le236), hs, f240⟩
   ·skip
    refine Cd.block ?_
    refine Cd.sr ?_
    refine Rg.mv rfl rfl ?_
    refine Rg.weak [(0, v1), (1, .int .i64 o_1), (5, .pointer (some ⟨b11, 0, none⟩)), (6, .int .i64 q214), (7, .int .i64 q215), (23, .pointer (some ⟨b11, 0, none⟩))] ⟨rfl, rfl, rfl, rfl, rfl, rfl, trivial⟩ ?_
    refine Rg.mv rfl rfl ?_
    refine Rg.vN (X.conv Try.underlying3 Try.underlying26 rfl) rfl ?_
    refine Rg.mv rfl rfl ?_
    refine Rg.mv rfl rfl ?_
    obtain ⟨x242, hx243, hp233⟩ := bind_s hp233
    obtain ⟨ad244, vals245, _, hR246, hE247, hX248⟩ := mk_index Try.underlying22 zz2 (by decide) (f2.mono (le10.trans le218)) hx243
    obtain rfl : vals245 = [.int .i64 x242] := hR246
    refine Rg.vN (hX248 rfl rfl) rfl ?_
    refine Rg.vN (X.load1 Try.underlying2 rfl rfl (hE247.at0 rfl hs.has)) rfl ?_
    obtain ⟨x249, hx250, hp233⟩ := bind_s hp233
    refine Rg.step rfl (Oq.call Try.call8 rfl rfl (c8 S217 _ (⟨q216⟩ : alarm_Table) _ _ _ f222 _ _ (hs.enterP [1, 0] (by decide) rfl (by cases g220 <;> rfl)) _ hx250) (fun v251 w252 h253 => ?_))
    obtain ⟨S254, v257, g258, cur259, rfl, hs255, f260⟩ := h253
    have le256 := hs255.le
    have hs := hs.callP [1, 0] rfl (by cases g220 <;> rfl) hs255
    refine Rg.go ?_
    refine Cd.sr ?_
    refine Rg.mv rfl rfl ?_
    refine Rg.mv rfl rfl ?_
    obtain ⟨x261, hx262, hp233⟩ := bind_s hp233
    obtain ⟨ad263, vals264, _, hR265, hE266, hX267⟩ := mk_index Try.underlying22 zz2 (by decide) (f2.mono (le10.trans (le218.trans le256))) hx262
    obtain rfl : vals264 = [.int .i64 x261] := hR265
    refine Rg.vN (hX267 rfl rfl) rfl ?_
    refine Rg.weak [(0, v1), (1, .int .i64 o_1), (5, .pointer (some ⟨b11, 0, none⟩)), (6, .int .i64 q214), (7, .int .i64 q215), (33, .pointer (some ad263))] ⟨rfl, rfl, rfl, rfl, rfl, rfl, trivial⟩ ?_
    refine Rg.vN (X.load1 Try.underlying2 rfl rfl (hE266.at0 rfl hs.has)) rfl ?_
    refine Rg.mv rfl rfl ?_
    refine Rg.vN (X.leq rfl rfl) rfl ?_
    refine Rg.go ?_
    obtain ⟨p269, hp270, hp233⟩ := bind_s hp233
    refine Cd.post (fun K w => ∃ (S271 : Mp), K = [(0, v1), (1, .int .i64 o_1), (5, .pointer (some ⟨b11, 0, none⟩)), (6, .int .i64 p269), (7, .int .i64 q215)] ∧ Le S254 S271 ∧ St w0 [] S0 S271 [.row g258 cur259 30, .box b11 #[v257] 44] w) ?_ ?_
    ·rintro K274 w272 ⟨S271, rfl, le273, hs⟩
     obtain rfl := some_s hp233
     exact fun a ha => ⟨[(0, v1), (1, .int .i64 o_1), (5, .pointer (some ⟨b11, 0, none⟩)), (6, .int .i64 p269), (7, .int .i64 q215)], ha.weak ⟨rfl, rfl, rfl, rfl, rfl, trivial⟩, S271, v257, g258, cur259, rfl, (le256.trans le273), hs, (f260.mono le273)⟩
    ·skip
     refine Cd.cond (t := decide (x261 ≤ o_1)) rfl (fun hc275 => ?_) (fun hc275 => ?_)
     ·have hp270 := ite_t hc275 hp270
      refine Cd.region ?_
      refine Rg.mv rfl rfl ?_
      refine Rg.vN (X.add rfl rfl) rfl ?_
      refine Rg.st rfl rfl ?_
      refine Rg.nil ?_
      have e := some_s hp270
      subst e
      exact fun a ha => ⟨[(0, v1), (1, .int .i64 o_1), (5, .pointer (some ⟨b11, 0, none⟩)), (6, .int .i64 (add .i64 q214 1)), (7, .int .i64 q215)], ha.weak ⟨rfl, rfl, rfl, rfl, rfl, trivial⟩, S254, rfl, Le.refl _, hs⟩
     ·have hp270 := ite_f hc275 hp270
      refine Cd.skip ?_
      have e := some_s hp270
      subst e
      exact fun a ha => ⟨[(0, v1), (1, .int .i64 o_1), (5, .pointer (some ⟨b11, 0, none⟩)), (6, .int .i64 q214), (7, .int .i64 q215)], ha.weak ⟨rfl, rfl, rfl, rfl, rfl, trivial⟩, S254, rfl, Le.refl _, hs⟩
  ·have h226 := ite_f hc229 h226
   refine Cd.exit ?_
   obtain rfl := some_s h226
   have e := hl225 (fun _ e => by cases e)
   exact fun a ha => ⟨[(0, v1), (1, .int .i64 o_1), (5, .pointer (some ⟨b11, 0, none⟩)), (6, .int .i64 q214)], ha.weak ⟨rfl, rfl, rfl, rfl, trivial⟩, _, _, _, S217, v219, g220, cur221, rfl, e.symm, le218, hs, f222⟩
end Go.Lk
