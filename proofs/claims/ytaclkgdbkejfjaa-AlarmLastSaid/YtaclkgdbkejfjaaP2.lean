/- A part of this proof: AlarmLast returns true for every input and leaves its arguments as they were; there are no conditions. -/
import Derived.Test.YtaclkgdbkejfjaaH15
set_option linter.unusedVariables false
set_option linter.unusedSimpArgs false
set_option maxRecDepth 100000
namespace Go.Lk
open Go.RowKit Go.Proofs
noncomputable def alarm_Table_Set (t_0 : alarm_Table) (key_1 : Int) (at_2 : Int) : Option alarm_Table :=
 (alarm_Table_Clear (⟨t_0.l_⟩ : alarm_Table) key_1).bind fun x11 =>
 (app 16 x11.2.l_ ([(⟨at_2, key_1⟩ : alarm_Due)] : List alarm_Due)).bind fun y30 =>
 (slices_SortFunc_alarm_Due y30).bind fun x38 =>
 some (⟨x38⟩ : alarm_Table)
def Po8 (S0 : Mp) (w0 : World) (D : List Nat) (b1 : Nat) (r : alarm_Table) (v : Value) (w1 : World) : Prop :=
  ∃ (S1 : Mp) (v8 : Value) (g9 : Option Nat) (cur10 : Array Value), v = .tuple #[] ∧ St w0 D S0 S1 [.row g9 cur10 30, .box b1 #[v8] 44] w1 ∧ Rw S1 2 R_alarm_Due g9 cur10 v8 r.l_
set_option maxHeartbeats 4000000 in
theorem c8 (S0 : Mp) {w0 : World} (b1 : Nat) (t_0 : alarm_Table) (v2 : Value) (g3 : Option Nat) (cur4 : Array Value) (f5 : Rw S0 2 R_alarm_Due g3 cur4 v2 t_0.l_) (key_1 : Int) (at_2 : Int) (hs : St w0 (b1 :: g3.toList) S0 S0 [.box b1 #[v2] 44, .row g3 cur4 30] w0) (r : alarm_Table) (h0 : alarm_Table_Set t_0 key_1 at_2 = some r) :
    Calls Try.prog 8 #[.pointer (some ⟨b1, 0, none⟩), .int .u64 key_1, .int .i64 at_2] w0 (Re (Po8 S0 w0 (b1 :: g3.toList) b1 r)) := by
 unfold alarm_Table_Set at h0
 refine calls_of_cd Try.func8 rfl Try.ntmps8 rfl ?_
 refine Cd.sr ?_
 refine Rg.mv rfl rfl ?_
 refine Rg.mv rfl rfl ?_
 obtain ⟨x11, hx12, h0⟩ := bind_s h0
 refine Rg.step rfl (Oq.call Try.call14 rfl rfl (c14 S0 _ (⟨t_0.l_⟩ : alarm_Table) _ _ _ f5 _ (hs.enterP [0, 1] (by decide) rfl (by cases g3 <;> rfl)) _ hx12) (fun v13 w14 h15 => ?_))
 obtain ⟨S16, v19, g20, cur21, rfl, hs17, f22⟩ := h15
 have le18 := hs17.le
 have hs := hs.callP [0, 1] rfl (by cases g3 <;> rfl) hs17
 refine Rg.go ?_
 refine Cd.sr ?_
 refine Rg.mv rfl rfl ?_
 refine Rg.mv rfl rfl ?_
 refine Rg.vN (X.nilCheck rfl) rfl ?_
 refine Rg.vN (X.fieldB Try.underlying44 rfl zz27 rfl rfl) rfl ?_
 refine Rg.vN (X.load1 Try.underlying27 rfl rfl (hs.cell 1 rfl 0 rfl)) rfl ?_
 refine Rg.mv rfl rfl ?_
 refine Rg.mv rfl rfl ?_
 refine Rg.vN (X.build (zc := [.int .i64 0, .int .u64 0]) (cells := [.int .i64 at_2, .int .u64 key_1]) ii30 rfl rfl Try.underlying30 (pp30 _ Try.underlying30) ⟨_, [.int .i64 at_2], _, rfl, rfl, rfl, ⟨_, [.int .u64 key_1], _, rfl, rfl, rfl, rfl⟩⟩ rfl) rfl ?_
 refine Rg.step rfl (Oq.lit (sz := 2) (cs0 := [.int .i64 0, .int .u64 0]) (cells := [.int .i64 at_2, .int .u64 key_1]) hs Try.underlying27 ii30 rfl rfl rfl rfl rfl rfl ⟨_, [.int .i64 at_2, .int .u64 key_1], _, rfl, rfl, rfl, rfl⟩ rfl rfl rfl (fun b23 w24 S25 hs le26 hE27 => ?_))
 have f29 : Rd S25 2 R_alarm_Due (.slice (some ⟨b23, 0, none⟩) 1 1) ([(⟨at_2, key_1⟩ : alarm_Due)] : List alarm_Due) := Rd.of_cells (xs := ([(⟨at_2, key_1⟩ : alarm_Due)] : List alarm_Due)) ⟨[.int .i64 at_2, .int .u64 key_1], _, rfl, rfl, one_all ⟨rfl, rfl, trivial⟩, rfl, rfl⟩ hE27 (Nat.le_of_ble_eq_true rfl) (Nat.le_of_ble_eq_true rfl)
 obtain ⟨y30, hx31, h0⟩ := bind_s h0
 refine Rg.step rfl (Oq.appendRow hs 1 rfl Try.underlying27 ii30 rfl rfl rfl rfl rfl rfl (f22.mono le26) f29 hx31 rfl rfl rfl (fun v32 w33 g34 cur35 hs f36 => ?_))
 refine Rg.vN (X.nilCheck rfl) rfl ?_
 refine Rg.vN (X.fieldB Try.underlying44 rfl zz27 rfl rfl) rfl ?_
 refine Rg.step rfl (Oq.store hs 2 rfl 0 zz27 rfl rfl (Rw.cells f36) (Rw.one f36) rfl [.app (some b23) (.slice (some ⟨b23, 0, none⟩) 1 1) ([(⟨at_2, key_1⟩ : alarm_Due)] : List alarm_Due).length 30 2, .row g34 cur35 30, .box b1 #[v32] 44] rfl (fun w37 hs => ?_))
 refine Rg.go ?_
 refine Cd.region ?_
 refine Rg.mv rfl rfl ?_
 refine Rg.vN (X.nilCheck rfl) rfl ?_
 refine Rg.vN (X.fieldB Try.underlying44 rfl zz27 rfl rfl) rfl ?_
 refine Rg.weak [(23, .pointer (some ⟨b1, 0, none⟩))] ⟨rfl, trivial⟩ ?_
 refine Rg.vN (X.load1 Try.underlying27 rfl rfl (hs.cell 2 rfl 0 rfl)) rfl ?_
 obtain ⟨x38, hx39, h0⟩ := bind_s h0
 refine Rg.step rfl (Oq.call Try.call15 rfl rfl (c15 S25 y30 _ _ _ f36 (hs.enterP [1] (by decide) rfl (by cases g34 <;> rfl)) _ hx39) (fun v40 w41 h42 => ?_))
 obtain ⟨S43, g46, cur47, rfl, hs44, f48⟩ := h42
 have le45 := hs44.le
 have hs := hs.callP [1] rfl (by cases g34 <;> rfl) hs44
 refine Rg.nil ?_
 obtain rfl := some_s h0
 exact fun a ha => Cd.fallA (R := Re (Po8 S0 w0 _ b1 _)) ha Try.results8 ⟨_, rfl, S43, v32, g46, cur47, rfl, (hs.pick [0, 2] (by decide) rfl), f48⟩
noncomputable def slices_Clone_alarm_Due (s_0 : (List alarm_Due)) : Option (List alarm_Due) :=
 (app 16 ([] : List alarm_Due) s_0).bind fun y14 =>
 some y14
def Po20 (S0 : Mp) (w0 : World) (D : List Nat) (r : (List alarm_Due)) (v : Value) (w1 : World) : Prop :=
  ∃ (S1 : Mp) (v3 : Value) (g4 : Option Nat), v = v3 ∧ St w0 D S0 S1 [.app g4 v3 r.length 30 2] w1 ∧ Rd S1 2 R_alarm_Due v3 r
set_option maxHeartbeats 4000000 in
theorem c20 (S0 : Mp) {w0 : World} (hs : St w0 [] S0 S0 [] w0) (s_0 : (List alarm_Due)) (v1 : Value) (f2 : Rd S0 2 R_alarm_Due v1 s_0) (r : (List alarm_Due)) (h0 : slices_Clone_alarm_Due s_0 = some r) :
    Calls Try.prog 20 #[v1] w0 (Re (Po20 S0 w0 [] r)) := by
 unfold slices_Clone_alarm_Due at h0
 refine calls_of_cd Try.func20 rfl Try.ntmps20 rfl ?_
 refine Cd.sr ?_
 refine Rg.st rfl rfl ?_
 refine Rg.go ?_
 refine Cd.seq ?_
 refine Cd.sr ?_
 refine Rg.mv rfl rfl ?_
 refine Rg.vN (X.eqlNil f2 Try.underlying27 rfl) rfl ?_
 refine Rg.go ?_
 refine Cd.cond (t := isNil v1) rfl (fun hc5 => ?_) (fun hc5 => ?_)
 ·have h0 := clone_nil (nil_of f2 (Nat.le_of_ble_eq_true rfl) hc5) h0
  refine Cd.sr ?_
  refine Rg.st rfl rfl ?_
  refine Rg.go ?_
  refine Cd.ret ?_
  have hs := hs.nil 30 2
  obtain rfl := some_s h0
  exact fun a ha => Cd.retA (R := Re (Po20 S0 w0 _ _)) ha Try.results20 ⟨_, _, rfl, rfl, rfl⟩ ⟨_, rfl, S0, (.slice none 0 0), none, rfl, hs, (Rd.nil _ _ _)⟩
 ·skip
  refine Cd.sg ?_
  refine Cd.sr ?_
  refine Rg.step rfl (Oq.lit (sz := 2) (cs0 := []) (cells := []) hs Try.underlying27 ii30 rfl rfl rfl rfl rfl rfl rfl rfl rfl rfl (fun b7 w8 S9 hs le10 hE11 => ?_))
  have f13 : Rd S9 2 R_alarm_Due (.slice (some ⟨b7, 0, none⟩) 0 0) ([] : List alarm_Due) := Rd.of_cells (xs := ([] : List alarm_Due)) rfl hE11 (Nat.le_of_ble_eq_true rfl) (Nat.le_of_ble_eq_true rfl)
  refine Rg.mv rfl rfl ?_
  obtain ⟨y14, hx15, h0⟩ := bind_s h0
  refine Rg.step rfl (Oq.appendS hs 0 rfl Try.underlying27 ii30 rfl rfl rfl rfl rfl rfl f13 (f2.mono le10) hx15 rfl rfl rfl (fun v16 w17 S18 g19 hs le20 f21 => ?_))
  refine Rg.st rfl rfl ?_
  refine Rg.go ?_
  refine Cd.ret ?_
  obtain rfl := some_s h0
  exact fun a ha => Cd.retA (R := Re (Po20 S0 w0 _ _)) ha Try.results20 ⟨_, _, rfl, rfl, rfl⟩ ⟨_, rfl, S18, v16, g19, rfl, hs, f21⟩
noncomputable def alarm_Table_Due_l0 (t_0 : alarm_Table) (now_1 : Int) (q68 : Int) : Option (Flow Int ((List alarm_Due) × alarm_Table)) :=
 ((
  if (decide (q68 < (t_0.l_.length : Int))) = true then (
   (ix t_0.l_ q68).bind fun x86 =>
   some (decide (x86.At ≤ now_1)))
  else (
   some false) : Option Bool)).bind fun p78 =>
 if p78 = true then (
  some (Flow.next (add .i64 q68 1)))
 else (
  some (Flow.brk q68))
noncomputable def alarm_Table_Due (t_0 : alarm_Table) (now_1 : Int) : Option ((List alarm_Due) × alarm_Table) :=
 (loopF (fun sg => alarm_Table_Due_l0 t_0 now_1 sg) 0).bind fun fl13 =>
 Flow.el fl13 (fun s95 => (
  none))
 (fun s96 => (
  (cutTo t_0.l_ s96).bind fun y23 =>
  (slices_Clone_alarm_Due y23).bind fun x27 =>
  (cutFrom t_0.l_ s96).bind fun y45 =>
  (slices_Clone_alarm_Due y45).bind fun x49 =>
  some (x27, (⟨x49⟩ : alarm_Table))))
 (fun r97 => (
  none))
def Po9 (S0 : Mp) (w0 : World) (D : List Nat) (b1 : Nat) (r : ((List alarm_Due) × alarm_Table)) (v : Value) (w1 : World) : Prop :=
  ∃ (S1 : Mp) (v8 : Value) (g9 : Option Nat) (v10 : Value) (g11 : Option Nat) (cur12 : Array Value), v = v8 ∧ St w0 D S0 S1 [.app g9 v8 r.1.length 30 2, .row g11 cur12 30, .box b1 #[v10] 44] w1 ∧ Rd S1 2 R_alarm_Due v8 r.1 ∧ Rw S1 2 R_alarm_Due g11 cur12 v10 r.2.l_
set_option maxHeartbeats 4000000 in
theorem c9 (S0 : Mp) {w0 : World} (b1 : Nat) (t_0 : alarm_Table) (v2 : Value) (g3 : Option Nat) (cur4 : Array Value) (f5 : Rw S0 2 R_alarm_Due g3 cur4 v2 t_0.l_) (now_1 : Int) (hs : St w0 (b1 :: g3.toList) S0 S0 [.box b1 #[v2] 44, .row g3 cur4 30] w0) (r : ((List alarm_Due) × alarm_Table)) (h0 : alarm_Table_Due t_0 now_1 = some r) :
    Calls Try.prog 9 #[.pointer (some ⟨b1, 0, none⟩), .int .i64 now_1] w0 (Re (Po9 S0 w0 (b1 :: g3.toList) b1 r)) := by
 unfold alarm_Table_Due at h0
 refine calls_of_cd Try.func9 rfl Try.ntmps9 rfl ?_
 refine Cd.sr ?_
 refine Rg.st rfl rfl ?_
 refine Rg.go ?_
 refine Cd.sr ?_
 refine Rg.st rfl rfl ?_
 refine Rg.go ?_
 refine Cd.seq ?_
 obtain ⟨fl13, hfl14, h0⟩ := bind_s h0
 refine Cd.post (fun K w => ∃ (j15 : Int) (S16 : Mp), K = [(0, .pointer (some ⟨b1, 0, none⟩)), (5, .int .i64 j15)] ∧ fl13 = Flow.brk j15 ∧ Le S0 S16 ∧ St w0 (b1 :: g3.toList) S0 S16 [.box b1 #[v2] 44, .row g3 cur4 30] w) ?_ ?_
 ·rintro K19 w18 ⟨j15, S16, rfl, rfl, le17, hs⟩
  have h0 := el_brk h0
  try dsimp only at h0
  refine Cd.go ?_
  refine Cd.sr ?_
  refine Rg.mv rfl rfl ?_
  refine Rg.vN (X.nilCheck rfl) rfl ?_
  refine Rg.vN (X.fieldB Try.underlying44 rfl zz27 rfl rfl) rfl ?_
  refine Rg.vN (X.load1 Try.underlying27 rfl rfl (hs.cell 0 rfl 0 rfl)) rfl ?_
  refine Rg.mv rfl rfl ?_
  obtain ⟨y23, hx24, h0⟩ := bind_s h0
  obtain ⟨hb25, he26⟩ := cutTo_s hx24
  obtain ⟨v20, f21, hX22⟩ := mk_sliceH Try.underlying27 zz30 (Rw.lend (S := S16) (f5.mono le17)) hb25
  rw [he26] at f21
  refine Rg.vN (hX22 rfl rfl) rfl ?_
  obtain ⟨x27, hx28, h0⟩ := bind_s h0
  refine Rg.step rfl (Oq.call Try.call20 rfl rfl (c20 (S16.lend g3 (t_0.l_.length * 2) cur4) (St.start _ _ (hs.lend 1 rfl _)) _ _ f21 _ hx28) (fun v29 w30 h31 => ?_))
  obtain ⟨S32, v35, g37, rfl, hs33, f36⟩ := h31
  obtain ⟨S39, hs40, hx41⟩ := hs.unlend 1 rfl (D' := []) (fun _ _ h => by cases h) hs33
  have f36 := hx41 (List.mem_of_getElem? (i := 0) rfl) f36
  have le34 := hs40.le
  have hs := hs.call0 hs40
  refine Rg.st rfl rfl ?_
  refine Rg.go ?_
  refine Cd.sr ?_
  refine Rg.mv rfl rfl ?_
  refine Rg.mv rfl rfl ?_
  refine Rg.vN (X.nilCheck rfl) rfl ?_
  refine Rg.vN (X.fieldB Try.underlying44 rfl zz27 rfl rfl) rfl ?_
  refine Rg.vN (X.load1 Try.underlying27 rfl rfl (hs.cell 1 rfl 0 rfl)) rfl ?_
  refine Rg.mv rfl rfl ?_
  refine Rg.weak [(6, v29), (35, .pointer (some ⟨b1, 0, none⟩)), (39, v2), (40, .int .i64 j15)] ⟨rfl, rfl, rfl, rfl, trivial⟩ ?_
  obtain ⟨y45, hx46, h0⟩ := bind_s h0
  obtain ⟨hb47, he48⟩ := cutFrom_s hx46
  obtain ⟨v42, f43, hX44⟩ := mk_sliceL Try.underlying27 zz30 (Rw.lend (S := S39) (f5.mono (le17.trans le34))) hb47
  rw [he48] at f43
  refine Rg.vN (hX44 rfl rfl) rfl ?_
  obtain ⟨x49, hx50, h0⟩ := bind_s h0
  refine Rg.step rfl (Oq.call Try.call20 rfl rfl (c20 (S39.lend g3 (t_0.l_.length * 2) cur4) (St.start _ _ (hs.lend 2 rfl _)) _ _ f43 _ hx50) (fun v51 w52 h53 => ?_))
  obtain ⟨S54, v57, g59, rfl, hs55, f58⟩ := h53
  obtain ⟨S61, hs62, hx63⟩ := hs.unlend 2 rfl (D' := []) (fun _ _ h => by cases h) hs55
  have f58 := hx63 (List.mem_of_getElem? (i := 0) rfl) f58
  obtain ⟨S64, cur65, hs62, f66⟩ := hs62.unseal hs.has 0 rfl f58
  have le56 := hs62.le
  have hs := hs.call0 hs62
  refine Rg.vN (X.nilCheck rfl) rfl ?_
  refine Rg.vN (X.fieldB Try.underlying44 rfl zz27 rfl rfl) rfl ?_
  refine Rg.step rfl (Oq.store hs 2 rfl 0 zz27 rfl rfl (Rw.cells f66) (Rw.one f66) rfl [.row g59 cur65 30, .app g37 v29 x27.length 30 2, .box b1 #[v51] 44, .row g3 cur4 30] rfl (fun w67 hs => ?_))
  refine Rg.go ?_
  refine Cd.sr ?_
  refine Rg.mv rfl rfl ?_
  refine Rg.st rfl rfl ?_
  refine Rg.go ?_
  refine Cd.ret ?_
  obtain rfl := some_s h0
  exact fun a ha => Cd.retA (R := Re (Po9 S0 w0 _ b1 _)) ha Try.results9 ⟨_, _, rfl, rfl, rfl⟩ ⟨_, rfl, S64, v29, g37, v51, g59, cur65, rfl, (hs.pick [1, 0, 2] (by decide) rfl), (f36.mono le56), f66⟩
 ·skip
  refine Cd.weak [(0, .pointer (some ⟨b1, 0, none⟩)), (1, .int .i64 now_1), (5, .int .i64 0)] ⟨rfl, rfl, rfl, trivial⟩ ?_
  refine Cd.block (Cd.loop (fun sg => alarm_Table_Due_l0 t_0 now_1 sg) (fun (sg : Int) K w => ∃ (S69 : Mp), K = [(0, .pointer (some ⟨b1, 0, none⟩)), (1, .int .i64 now_1), (5, .int .i64 sg)] ∧ Le S0 S69 ∧ St w0 (b1 :: g3.toList) S0 S69 [.box b1 #[v2] 44, .row g3 cur4 30] w) 0 fl13 hfl14 ⟨S0, rfl, Le.refl _, hs⟩ ?_)
  rintro q68 fl71 K76 w75 hb72 ⟨S69, rfl, le70, hs⟩ hl73
  have h74 : alarm_Table_Due_l0 t_0 now_1 q68 = some fl71 := hb72
  unfold alarm_Table_Due_l0 at h74
  refine Cd.seq ?_
  refine Cd.seq ?_
  obtain ⟨p78, hp79, h74⟩ := bind_s h74
  refine Cd.post (fun K w => ∃ (S80 : Mp), K = [(0, .pointer (some ⟨b1, 0, none⟩)), (1, .int .i64 now_1), (5, .int .i64 q68), (25, .bool p78)] ∧ Le S69 S80 ∧ St w0 (b1 :: g3.toList) S0 S80 [.box b1 #[v2] 44, .row g3 cur4 30] w) ?_ ?_
  ·rintro K83 w81 ⟨S80, rfl, le82, hs⟩
   refine Cd.go ?_
   refine Cd.cond (t := p78) rfl (fun hc84 => ?_) (fun hc84 => ?_)
   ·have h74 := ite_t hc84 h74
    refine Cd.sg ?_
    refine Cd.block ?_
    refine Cd.region ?_
    refine Rg.mv rfl rfl ?_
    refine Rg.vN (X.add rfl rfl) rfl ?_
    refine Rg.st rfl rfl ?_
    refine Rg.nil ?_
    exact fun a ha => ⟨add .i64 q68 1, [(0, .pointer (some ⟨b1, 0, none⟩)), (1, .int .i64 now_1), (5, .int .i64 (add .i64 q68 1))], (some_s h74).symm, ha.weak ⟨rfl, rfl, rfl, trivial⟩, S80, rfl, (le70.trans le82), hs⟩
   ·have h74 := ite_f hc84 h74
    refine Cd.exit ?_
    obtain rfl := some_s h74
    have e := hl73 (fun _ e => by cases e)
    exact fun a ha => ⟨[(0, .pointer (some ⟨b1, 0, none⟩)), (5, .int .i64 q68)], ha.weak ⟨rfl, rfl, trivial⟩, _, S80, rfl, e.symm, (le70.trans le82), hs⟩
  ·skip
   refine Cd.region ?_
   refine Rg.mv rfl rfl ?_
   refine Rg.mv rfl rfl ?_
   refine Rg.vN (X.nilCheck rfl) rfl ?_
   refine Rg.vN (X.fieldB Try.underlying44 rfl zz27 rfl rfl) rfl ?_
   refine Rg.vN (X.load1 Try.underlying27 rfl rfl (hs.cell 0 rfl 0 rfl)) rfl ?_
   refine Rg.vN (X.lenRw Try.underlying27 rfl (f5.mono le70)) rfl ?_
   refine Rg.vN (X.lss rfl rfl) rfl ?_
   refine Rg.mv rfl rfl ?_
   refine Rg.vT rfl rfl rfl (fun hW => X.move rfl) ?_
   refine Rg.vT rfl rfl rfl (fun hW => X.nilCheck (ev_g rfl hW)) ?_
   refine Rg.vT rfl rfl rfl (fun hW => X.fieldB Try.underlying44 rfl zz27 (ev_g rfl hW) rfl) ?_
   refine Rg.vT rfl rfl rfl (fun hW => X.load1 Try.underlying27 rfl (ev_g rfl hW) (hs.cell 0 rfl 0 rfl)) ?_
   refine Rg.vT rfl rfl rfl (fun hW => X.move rfl) ?_
   refine Rg.weak [(0, .pointer (some ⟨b1, 0, none⟩)), (1, .int .i64 now_1), (5, .int .i64 q68), (14, .bool (decide (q68 < (t_0.l_.length : Int)))), (18, gv (decide (q68 < (t_0.l_.length : Int))) (v2)), (19, gv (decide (q68 < (t_0.l_.length : Int))) (.int .i64 q68))] ⟨rfl, rfl, rfl, rfl, rfl, rfl, trivial⟩ ?_
   refine Rg.split (c := decide (q68 < (t_0.l_.length : Int))) (tj := 14) rfl (fun hc85 => ?_) (fun hc85 => ?_)
   ·have hp79 := ite_t hc85 hp79
    refine Rg.weak [(0, .pointer (some ⟨b1, 0, none⟩)), (1, .int .i64 now_1), (5, .int .i64 q68), (14, .bool true), (18, v2), (19, .int .i64 q68)] ⟨rfl, rfl, rfl, rfl, get_g rfl hc85, get_g rfl hc85, trivial⟩ ?_
    refine Rg.gon rfl rfl rfl ?_
    obtain ⟨x86, hx87, hp79⟩ := bind_s hp79
    obtain ⟨b88, vals89, hg90, hl91, hR92, hC93, hX94⟩ := mk_rowix Try.underlying27 zz30 (f5.mono le70) hx87
    subst hg90
    unfold R_alarm_Due at hR92
    subst hR92
    refine Rg.vN (hX94 rfl rfl) rfl ?_
    refine Rg.gon rfl rfl rfl ?_
    refine Rg.vN (X.fieldB Try.underlying30 rfl zz2 rfl rfl) rfl ?_
    refine Rg.gon rfl rfl rfl ?_
    refine Rg.vN (X.load1 Try.underlying2 rfl rfl (hs.rowcell 1 rfl (q68.toNat * 2 + 0) (hC93 0 _ rfl))) rfl ?_
    refine Rg.gon rfl rfl rfl ?_
    refine Rg.mv rfl rfl ?_
    refine Rg.gon rfl rfl rfl ?_
    refine Rg.vN (X.leq rfl rfl) rfl ?_
    refine Rg.vN (X.pickT rfl rfl) rfl ?_
    refine Rg.nil ?_
    have e := some_s hp79
    subst e
    exact fun a ha => ⟨[(0, .pointer (some ⟨b1, 0, none⟩)), (1, .int .i64 now_1), (5, .int .i64 q68), (25, .bool (decide (x86.At ≤ now_1)))], ha.weak ⟨rfl, rfl, rfl, rfl, trivial⟩, S69, rfl, Le.refl _, hs⟩
   ·have hp79 := ite_f hc85 hp79
    refine Rg.weak [(0, .pointer (some ⟨b1, 0, none⟩)), (1, .int .i64 now_1), (5, .int .i64 q68), (14, .bool false), (18, undef), (19, undef)] ⟨rfl, rfl, rfl, rfl, get_u rfl (not_f hc85), get_u rfl (not_f hc85), trivial⟩ ?_
    refine Rg.vO rfl rfl rfl rfl ?_
    refine Rg.vO rfl rfl rfl rfl ?_
    refine Rg.vO rfl rfl rfl rfl ?_
    refine Rg.vO rfl rfl rfl rfl ?_
    refine Rg.vO rfl rfl rfl rfl ?_
    refine Rg.vN (X.pickF rfl rfl) rfl ?_
    refine Rg.nil ?_
    have e := some_s hp79
    subst e
    exact fun a ha => ⟨[(0, .pointer (some ⟨b1, 0, none⟩)), (1, .int .i64 now_1), (5, .int .i64 q68), (25, .bool false)], ha.weak ⟨rfl, rfl, rfl, rfl, trivial⟩, S69, rfl, Le.refl _, hs⟩
noncomputable def alarm_Table_Len (t_0 : alarm_Table) : Option (Int × alarm_Table) :=
 some ((t_0.l_.length : Int), t_0)
def Po10 (S0 : Mp) (w0 : World) (D : List Nat) (b1 : Nat) (r : (Int × alarm_Table)) (v : Value) (w1 : World) : Prop :=
  ∃ (S1 : Mp) (v8 : Value) (g9 : Option Nat) (cur10 : Array Value), v = .int .i64 r.1 ∧ St w0 D S0 S1 [.row g9 cur10 30, .box b1 #[v8] 44] w1 ∧ Rw S1 2 R_alarm_Due g9 cur10 v8 r.2.l_
set_option maxHeartbeats 4000000 in
theorem c10 (S0 : Mp) {w0 : World} (b1 : Nat) (t_0 : alarm_Table) (v2 : Value) (g3 : Option Nat) (cur4 : Array Value) (f5 : Rw S0 2 R_alarm_Due g3 cur4 v2 t_0.l_) (hs : St w0 (b1 :: g3.toList) S0 S0 [.box b1 #[v2] 44, .row g3 cur4 30] w0) (r : (Int × alarm_Table)) (h0 : alarm_Table_Len t_0 = some r) :
    Calls Try.prog 10 #[.pointer (some ⟨b1, 0, none⟩)] w0 (Re (Po10 S0 w0 (b1 :: g3.toList) b1 r)) := by
 unfold alarm_Table_Len at h0
 refine calls_of_cd Try.func10 rfl Try.ntmps10 rfl ?_
 refine Cd.sr ?_
 refine Rg.st rfl rfl ?_
 refine Rg.go ?_
 refine Cd.sr ?_
 refine Rg.mv rfl rfl ?_
 refine Rg.vN (X.nilCheck rfl) rfl ?_
 refine Rg.vN (X.fieldB Try.underlying44 rfl zz27 rfl rfl) rfl ?_
 refine Rg.vN (X.load1 Try.underlying27 rfl rfl (hs.cell 0 rfl 0 rfl)) rfl ?_
 refine Rg.vN (X.lenRw Try.underlying27 rfl f5) rfl ?_
 refine Rg.st rfl rfl ?_
 refine Rg.go ?_
 refine Cd.ret ?_
 obtain rfl := some_s h0
 exact fun a ha => Cd.retA (R := Re (Po10 S0 w0 _ b1 _)) ha Try.results10 ⟨_, _, rfl, rfl, rfl⟩ ⟨_, rfl, S0, v2, g3, cur4, rfl, (hs.pick [1, 0] (by decide) rfl), f5⟩
noncomputable def alarm_Table_Next (t_0 : alarm_Table) : Option (alarm_Due × Bool × alarm_Table) :=
 if ((t_0.l_.length : Int) == 0) = true then (
  some ((⟨0, 0⟩ : alarm_Due), false, t_0))
 else (
  (ix t_0.l_ 0).bind fun x16 =>
  some ((⟨x16.At, x16.Key⟩ : alarm_Due), true, t_0))
def Po21 (S0 : Mp) (w0 : World) (D : List Nat) (b1 : Nat) (r : (alarm_Due × Bool × alarm_Table)) (v : Value) (w1 : World) : Prop :=
  ∃ (S1 : Mp) (v8 : Value) (g9 : Option Nat) (cur10 : Array Value), v = .tuple #[.agg (#[.int .i64 r.1.At, .int .u64 r.1.Key]), .bool r.2.1] ∧ St w0 D S0 S1 [.row g9 cur10 30, .box b1 #[v8] 44] w1 ∧ Rw S1 2 R_alarm_Due g9 cur10 v8 r.2.2.l_
set_option maxHeartbeats 4000000 in
theorem c21 (S0 : Mp) {w0 : World} (b1 : Nat) (t_0 : alarm_Table) (v2 : Value) (g3 : Option Nat) (cur4 : Array Value) (f5 : Rw S0 2 R_alarm_Due g3 cur4 v2 t_0.l_) (hs : St w0 (b1 :: g3.toList) S0 S0 [.box b1 #[v2] 44, .row g3 cur4 30] w0) (r : (alarm_Due × Bool × alarm_Table)) (h0 : alarm_Table_Next t_0 = some r) :
    Calls Try.prog 21 #[.pointer (some ⟨b1, 0, none⟩)] w0 (Re (Po21 S0 w0 (b1 :: g3.toList) b1 r)) := by
 unfold alarm_Table_Next at h0
 refine calls_of_cd Try.func21 rfl Try.ntmps21 rfl ?_
 refine Cd.sr ?_
 refine Rg.step rfl (Oq.alloc (cs := #[.int .i64 0, .int .u64 0]) hs ii30 rfl rfl rfl (fun b11 w12 hs => ?_))
 refine Rg.st rfl rfl ?_
 refine Rg.go ?_
 refine Cd.seq ?_
 refine Cd.sr ?_
 refine Rg.mv rfl rfl ?_
 refine Rg.vN (X.nilCheck rfl) rfl ?_
 refine Rg.vN (X.fieldB Try.underlying44 rfl zz27 rfl rfl) rfl ?_
 refine Rg.vN (X.load1 Try.underlying27 rfl rfl (hs.cell 1 rfl 0 rfl)) rfl ?_
 refine Rg.vN (X.lenRw Try.underlying27 rfl f5) rfl ?_
 refine Rg.vN (X.eql rfl rfl) rfl ?_
 refine Rg.go ?_
 refine Cd.cond (t := (t_0.l_.length : Int) == 0) rfl (fun hc14 => ?_) (fun hc14 => ?_)
 ·have h0 := ite_t hc14 h0
  refine Cd.sr ?_
  refine Rg.vN (X.build (zc := [.int .i64 0, .int .u64 0]) (cells := [.int .i64 0, .int .u64 0]) ii30 rfl rfl Try.underlying30 (pp30 _ Try.underlying30) rfl rfl) rfl ?_
  refine Rg.step rfl (Oq.storeN hs 0 rfl (vals := [.int .i64 0, .int .u64 0]) zz30 rfl rfl (one_all ⟨rfl, rfl, trivial⟩) rfl [.box b11 #[.int .i64 0, .int .u64 0] 30, .box b1 #[v2] 44, .row g3 cur4 30] rfl (fun w15 hs => ?_))
  refine Rg.st rfl rfl ?_
  refine Rg.go ?_
  refine Cd.ret ?_
  obtain rfl := some_s h0
  exact fun a ha => Cd.retA (R := Re (Po21 S0 w0 _ b1 _)) ha Try.results21 ⟨_, _, _, rfl, rfl, run_lvN (vals := [.int .i64 0, .int .u64 0]) Try.underlying30 rfl zz30 (hs.range 0 rfl 0 rfl), ⟨_, _, rfl, rfl, rfl⟩⟩ ⟨_, rfl, S0, v2, g3, cur4, rfl, (hs.pick [2, 1] (by decide) rfl), f5⟩
 ·have h0 := ite_f hc14 h0
  refine Cd.sg ?_
  refine Cd.sr ?_
  refine Rg.mv rfl rfl ?_
  refine Rg.vN (X.nilCheck rfl) rfl ?_
  refine Rg.vN (X.fieldB Try.underlying44 rfl zz27 rfl rfl) rfl ?_
  refine Rg.vN (X.load1 Try.underlying27 rfl rfl (hs.cell 1 rfl 0 rfl)) rfl ?_
  obtain ⟨x16, hx17, h0⟩ := bind_s h0
  obtain ⟨b18, vals19, hg20, hl21, hR22, hC23, hX24⟩ := mk_rowix Try.underlying27 zz30 f5 hx17
  subst hg20
  unfold R_alarm_Due at hR22
  subst hR22
  refine Rg.vN (hX24 rfl rfl) rfl ?_
  refine Rg.vN (X.loadN (vals := [.int .i64 x16.At, .int .u64 x16.Key]) Try.underlying30 rfl zz30 rfl (hs.rowrange 2 rfl hC23)) rfl ?_
  refine Rg.step rfl (Oq.storeN hs 0 rfl (vals := [.int .i64 x16.At, .int .u64 x16.Key]) zz30 rfl rfl (one_all ⟨rfl, rfl, trivial⟩) rfl [.box b11 #[.int .i64 x16.At, .int .u64 x16.Key] 30, .box b1 #[v2] 44, .row (some b18) cur4 30] rfl (fun w25 hs => ?_))
  refine Rg.st rfl rfl ?_
  refine Rg.go ?_
  refine Cd.ret ?_
  obtain rfl := some_s h0
  exact fun a ha => Cd.retA (R := Re (Po21 S0 w0 _ b1 _)) ha Try.results21 ⟨_, _, _, rfl, rfl, run_lvN (vals := [.int .i64 x16.At, .int .u64 x16.Key]) Try.underlying30 rfl zz30 (hs.range 0 rfl 0 rfl), ⟨_, _, rfl, rfl, rfl⟩⟩ ⟨_, rfl, S0, v2, (some b18), cur4, rfl, (hs.pick [2, 1] (by decide) rfl), f5⟩
noncomputable def limelightlaw12_known : Option Bool :=
 (alarm_New ).bind fun x1 =>
 (alarm_Table_Next (⟨x1.l_⟩ : alarm_Table)).bind fun x16 =>
 (alarm_Table_Clear (⟨x16.2.2.l_⟩ : alarm_Table) 1).bind fun x32 =>
 (alarm_Table_Set (⟨x32.2.l_⟩ : alarm_Table) 1 5).bind fun x44 =>
 (alarm_Table_Set (⟨x44.l_⟩ : alarm_Table) 1 7).bind fun x56 =>
 (alarm_Table_Due (⟨x56.l_⟩ : alarm_Table) 6).bind fun x68 =>
 (alarm_Table_Set (⟨x68.2.l_⟩ : alarm_Table) 2 7).bind fun x84 =>
 (alarm_Table_Due (⟨x84.l_⟩ : alarm_Table) 7).bind fun x96 =>
 ((
  if ((((!x16.2.1) && (!x32.1)) && ((x68.1.length : Int) == 0)) && ((x96.1.length : Int) == 2)) = true then (
   (ix x96.1 0).bind fun x120 =>
   if ((x120.At == 7) && ((x120.Key == 1) && true)) = true then (
    (alarm_Table_Len (⟨x96.2.l_⟩ : alarm_Table)).bind fun x128 =>
    some (x128.1 == 0))
   else (
    some false))
  else (
   some false) : Option Bool)).bind fun p113 =>
 some p113
def Po11 (S0 : Mp) (w0 : World) (D : List Nat) (r : Bool) (v : Value) (w1 : World) : Prop :=
  ∃ (S1 : Mp), v = .bool r ∧ St w0 D S0 S1 [] w1
set_option maxHeartbeats 4000000 in
theorem c11 (S0 : Mp) {w0 : World} (hs : St w0 [] S0 S0 [] w0)  (r : Bool) (h0 : limelightlaw12_known = some r) :
    Calls Try.prog 11 #[] w0 (Re (Po11 S0 w0 [] r)) := by
 unfold limelightlaw12_known at h0
 refine calls_of_cd Try.func11 rfl Try.ntmps11 rfl ?_
 refine Cd.sr ?_
 refine Rg.st rfl rfl ?_
 refine Rg.go ?_
 refine Cd.sr ?_
 obtain ⟨x1, hx2, h0⟩ := bind_s h0
 refine Rg.step rfl (Oq.call Try.call7 rfl rfl (c7 S0 (St.start _ _ hs.has)  _ hx2) (fun v3 w4 h5 => ?_))
 obtain ⟨S6, b9, v11, g12, cur13, rfl, hs7, f14⟩ := h5
 have le8 := hs7.le
 have hs := hs.call0 hs7
 refine Rg.st rfl rfl ?_
 refine Rg.go ?_
 refine Cd.seq ?_
 refine Cd.sr ?_
 refine Rg.mv rfl rfl ?_
 refine Rg.vN (X.eqlNilP Try.underlying23 rfl) rfl ?_
 refine Rg.go ?_
 refine Cd.cond0 rfl ?_
 refine Cd.sg ?_
 refine Cd.sr ?_
 refine Rg.mv rfl rfl ?_
 obtain ⟨x16, hx17, h0⟩ := bind_s h0
 refine Rg.step rfl (Oq.call Try.call21 rfl rfl (c21 S6 _ (⟨x1.l_⟩ : alarm_Table) _ _ _ f14 (hs.enterP [1, 0] (by decide) rfl (by cases g12 <;> rfl)) _ hx17) (fun v18 w19 h20 => ?_))
 obtain ⟨S21, v24, g25, cur26, rfl, hs22, f27⟩ := h20
 have le23 := hs22.le
 have hs := hs.callP [1, 0] rfl (by cases g12 <;> rfl) hs22
 refine Rg.mv rfl rfl ?_
 refine Rg.vN (X.extract rfl rfl) rfl ?_
 refine Rg.vN (X.extract rfl rfl) rfl ?_
 refine Rg.step rfl (Oq.alloc (cs := #[.int .i64 0, .int .u64 0]) hs ii30 rfl rfl rfl (fun b28 w29 hs => ?_))
 refine Rg.step rfl (Oq.storeN hs 0 rfl (vals := [.int .i64 x16.1.At, .int .u64 x16.1.Key]) zz30 rfl rfl (one_all ⟨rfl, rfl, trivial⟩) rfl [.box b28 #[.int .i64 x16.1.At, .int .u64 x16.1.Key] 30, .row g25 cur26 30, .box b9 #[v24] 44] rfl (fun w31 hs => ?_))
 refine Rg.st rfl rfl ?_
 refine Rg.go ?_
 refine Cd.sr ?_
 refine Rg.mv rfl rfl ?_
 obtain ⟨x32, hx33, h0⟩ := bind_s h0
 refine Rg.step rfl (Oq.call Try.call14 rfl rfl (c14 S21 _ (⟨x16.2.2.l_⟩ : alarm_Table) _ _ _ f27 _ (hs.enterP [2, 1] (by decide) rfl (by cases g25 <;> rfl)) _ hx33) (fun v34 w35 h36 => ?_))
 obtain ⟨S37, v40, g41, cur42, rfl, hs38, f43⟩ := h36
 have le39 := hs38.le
 have hs := hs.callP [2, 1] rfl (by cases g25 <;> rfl) hs38
 refine Rg.st rfl rfl ?_
 refine Rg.go ?_
 refine Cd.sr ?_
 refine Rg.mv rfl rfl ?_
 obtain ⟨x44, hx45, h0⟩ := bind_s h0
 refine Rg.step rfl (Oq.call Try.call8 rfl rfl (c8 S37 _ (⟨x32.2.l_⟩ : alarm_Table) _ _ _ f43 _ _ (hs.enterP [1, 0] (by decide) rfl (by cases g41 <;> rfl)) _ hx45) (fun v46 w47 h48 => ?_))
 obtain ⟨S49, v52, g53, cur54, rfl, hs50, f55⟩ := h48
 have le51 := hs50.le
 have hs := hs.callP [1, 0] rfl (by cases g41 <;> rfl) hs50
 refine Rg.go ?_
 refine Cd.sr ?_
 refine Rg.mv rfl rfl ?_
 obtain ⟨x56, hx57, h0⟩ := bind_s h0
 refine Rg.step rfl (Oq.call Try.call8 rfl rfl (c8 S49 _ (⟨x44.l_⟩ : alarm_Table) _ _ _ f55 _ _ (hs.enterP [1, 0] (by decide) rfl (by cases g53 <;> rfl)) _ hx57) (fun v58 w59 h60 => ?_))
 obtain ⟨S61, v64, g65, cur66, rfl, hs62, f67⟩ := h60
 have le63 := hs62.le
 have hs := hs.callP [1, 0] rfl (by cases g53 <;> rfl) hs62
 refine Rg.go ?_
 refine Cd.sr ?_
 refine Rg.mv rfl rfl ?_
 obtain ⟨x68, hx69, h0⟩ := bind_s h0
 refine Rg.step rfl (Oq.call Try.call9 rfl rfl (c9 S61 _ (⟨x56.l_⟩ : alarm_Table) _ _ _ f67 _ (hs.enterP [1, 0] (by decide) rfl (by cases g65 <;> rfl)) _ hx69) (fun v70 w71 h72 => ?_))
 obtain ⟨S73, v76, g78, v80, g81, cur82, rfl, hs74, f77, f83⟩ := h72
 have le75 := hs74.le
 have hs := hs.callP [1, 0] rfl (by cases g65 <;> rfl) hs74
 refine Rg.vN (X.lenR Try.underlying27 rfl f77) rfl ?_
 refine Rg.st rfl rfl ?_
 refine Rg.go ?_
 refine Cd.weak [(1, .pointer (some ⟨b9, 0, none⟩)), (3, .bool x16.2.1), (4, .bool x32.1), (5, .int .i64 (x68.1.length : Int))] ⟨rfl, rfl, rfl, rfl, trivial⟩ ?_
 refine Cd.sr ?_
 refine Rg.mv rfl rfl ?_
 obtain ⟨x84, hx85, h0⟩ := bind_s h0
 refine Rg.step rfl (Oq.call Try.call8 rfl rfl (c8 S73 _ (⟨x68.2.l_⟩ : alarm_Table) _ _ _ f83 _ _ (hs.enterP [2, 1] (by decide) rfl (by cases g81 <;> rfl)) _ hx85) (fun v86 w87 h88 => ?_))
 obtain ⟨S89, v92, g93, cur94, rfl, hs90, f95⟩ := h88
 have le91 := hs90.le
 have hs := hs.callP [2, 1] rfl (by cases g81 <;> rfl) hs90
 refine Rg.go ?_
 refine Cd.sr ?_
 refine Rg.mv rfl rfl ?_
 obtain ⟨x96, hx97, h0⟩ := bind_s h0
 refine Rg.step rfl (Oq.call Try.call9 rfl rfl (c9 S89 _ (⟨x84.l_⟩ : alarm_Table) _ _ _ f95 _ (hs.enterP [1, 0] (by decide) rfl (by cases g93 <;> rfl)) _ hx97) (fun v98 w99 h100 => ?_))
 obtain ⟨S101, v104, g106, v108, g109, cur110, rfl, hs102, f105, f111⟩ := h100
 have le103 := hs102.le
 have hs := hs.callP [1, 0] rfl (by cases g93 <;> rfl) hs102
 refine Rg.st rfl rfl ?_
 refine Rg.go ?_
 refine Cd.seq ?_
 obtain ⟨p113, hp114, h0⟩ := bind_s h0
 refine Cd.post (fun K w => ∃ (S115 : Mp), K = [(0, .bool p113)] ∧ Le S101 S115 ∧ St w0 [] S0 S115 [] w) ?_ ?_
 ·rintro K118 w116 ⟨S115, rfl, le117, hs⟩
  refine Cd.go ?_
  refine Cd.ret ?_
  obtain rfl := some_s h0
  exact fun a ha => Cd.retA (R := Re (Po11 S0 w0 _ _)) ha Try.results11 ⟨_, _, rfl, rfl, rfl⟩ ⟨_, rfl, S115, rfl, hs⟩
 ·skip
  refine Cd.region ?_
  refine Rg.mv rfl rfl ?_
  refine Rg.vN (X.not rfl) rfl ?_
  refine Rg.mv rfl rfl ?_
  refine Rg.vT rfl rfl rfl (fun hW => X.move rfl) ?_
  refine Rg.vT rfl rfl rfl (fun hW => X.not (ev_g rfl hW)) ?_
  refine Rg.vN (X.pickAnd rfl rfl rfl) rfl ?_
  refine Rg.mv rfl rfl ?_
  refine Rg.vT rfl rfl rfl (fun hW => X.move rfl) ?_
  refine Rg.weak [(1, .pointer (some ⟨b9, 0, none⟩)), (6, v98), (34, .bool ((!x16.2.1) && (!x32.1))), (35, gv ((!x16.2.1) && (!x32.1)) (.int .i64 (x68.1.length : Int)))] ⟨rfl, rfl, rfl, rfl, trivial⟩ ?_
  refine Rg.vT rfl rfl rfl (fun hW => X.eql (ev_g rfl hW) rfl) ?_
  refine Rg.vN (X.pickAnd rfl rfl rfl) rfl ?_
  refine Rg.mv rfl rfl ?_
  refine Rg.vT rfl rfl rfl (fun hW => X.move rfl) ?_
  refine Rg.vT rfl rfl rfl (fun hW => X.lenR Try.underlying27 (ev_g rfl hW) f105) ?_
  refine Rg.vT rfl rfl rfl (fun hW => X.eql (ev_g rfl hW) rfl) ?_
  refine Rg.vN (X.pickAnd rfl rfl rfl) rfl ?_
  refine Rg.mv rfl rfl ?_
  refine Rg.vT rfl rfl rfl (fun hW => X.move rfl) ?_
  refine Rg.split (c := (((!x16.2.1) && (!x32.1)) && ((x68.1.length : Int) == 0)) && ((x96.1.length : Int) == 2)) (tj := 43) rfl (fun hc119 => ?_) (fun hc119 => ?_)
  ·have hp114 := ite_t hc119 hp114
   refine Rg.weak [(1, .pointer (some ⟨b9, 0, none⟩)), (43, .bool true), (44, v98)] ⟨rfl, rfl, get_g rfl hc119, trivial⟩ ?_
   refine Rg.gon rfl rfl rfl ?_
   obtain ⟨x120, hx121, hp114⟩ := bind_s hp114
   obtain ⟨ad122, vals123, _, hR124, hE125, hX126⟩ := mk_index Try.underlying27 zz30 (by decide) f105 hx121
   unfold R_alarm_Due at hR124
   subst hR124
   refine Rg.vN (hX126 rfl rfl) rfl ?_
   refine Rg.gon rfl rfl rfl ?_
   refine Rg.vN (X.loadE (vals := [.int .i64 x120.At, .int .u64 x120.Key]) hs.has Try.underlying30 rfl zz30 rfl hE125) rfl ?_
   refine Rg.gon rfl rfl rfl ?_
   refine Rg.vN (X.build (zc := [.int .i64 0, .int .u64 0]) (cells := [.int .i64 7, .int .u64 1]) ii30 rfl rfl Try.underlying30 (pp30 _ Try.underlying30) ⟨_, [.int .i64 7], _, rfl, rfl, rfl, ⟨_, [.int .u64 1], _, rfl, rfl, rfl, rfl⟩⟩ rfl) rfl ?_
   refine Rg.gon rfl rfl rfl ?_
   refine Rg.vN (X.eqlA eqg30 (eqs30 _ _ _ _) rfl rfl) rfl ?_
   refine Rg.vN (X.pickT rfl rfl) rfl ?_
   refine Rg.mv rfl rfl ?_
   refine Rg.vT rfl rfl rfl (fun hW => X.move rfl) ?_
   refine Rg.split (c := ((x120.At == 7) && ((x120.Key == 1) && true))) (tj := 50) rfl (fun hc127 => ?_) (fun hc127 => ?_)
   ·have hp114 := ite_t hc127 hp114
    refine Rg.weak [(50, .bool true), (51, .pointer (some ⟨b9, 0, none⟩))] ⟨rfl, get_g rfl hc127, trivial⟩ ?_
    refine Rg.gon rfl rfl rfl ?_
    obtain ⟨x128, hx129, hp114⟩ := bind_s hp114
    refine Rg.step rfl (Oq.call Try.call10 rfl rfl (c10 S101 _ (⟨x96.2.l_⟩ : alarm_Table) _ _ _ f111 (hs.enterP [2, 1] (by decide) rfl (by cases g109 <;> rfl)) _ hx129) (fun v130 w131 h132 => ?_))
    obtain ⟨S133, v136, g137, cur138, rfl, hs134, f139⟩ := h132
    have le135 := hs134.le
    have hs := hs.callP [2, 1] rfl (by cases g109 <;> rfl) hs134
    refine Rg.gon rfl rfl rfl ?_
    refine Rg.vN (X.eql rfl rfl) rfl ?_
    refine Rg.vN (X.pickT rfl rfl) rfl ?_
    refine Rg.st rfl rfl ?_
    refine Rg.nil ?_
    have e := some_s hp114
    subst e
    exact fun a ha => ⟨[(0, .bool (x128.1 == 0))], ha.weak ⟨rfl, trivial⟩, S133, rfl, le135, (hs.pick [] (by decide) rfl)⟩
   ·have hp114 := ite_f hc127 hp114
    refine Rg.weak [(50, .bool false), (51, undef)] ⟨rfl, get_u rfl (not_f hc127), trivial⟩ ?_
    refine Rg.vO rfl rfl rfl rfl ?_
    refine Rg.vO rfl rfl rfl rfl ?_
    refine Rg.vN (X.pickF rfl rfl) rfl ?_
    refine Rg.st rfl rfl ?_
    refine Rg.nil ?_
    have e := some_s hp114
    subst e
    exact fun a ha => ⟨[(0, .bool false)], ha.weak ⟨rfl, trivial⟩, S101, rfl, Le.refl _, (hs.pick [] (by decide) rfl)⟩
  ·have hp114 := ite_f hc119 hp114
   refine Rg.weak [(1, .pointer (some ⟨b9, 0, none⟩)), (43, .bool false), (44, undef)] ⟨rfl, rfl, get_u rfl (not_f hc119), trivial⟩ ?_
   refine Rg.vO rfl rfl rfl rfl ?_
   refine Rg.vO rfl rfl rfl rfl ?_
   refine Rg.vO rfl rfl rfl rfl ?_
   refine Rg.vO rfl rfl rfl rfl ?_
   refine Rg.vN (X.pickF rfl rfl) rfl ?_
   refine Rg.mv rfl rfl ?_
   refine Rg.vO rfl rfl rfl rfl ?_
   refine Rg.vO rfl rfl rfl rfl ?_
   refine Rg.vO rfl rfl rfl rfl ?_
   refine Rg.vN (X.pickF rfl rfl) rfl ?_
   refine Rg.st rfl rfl ?_
   refine Rg.nil ?_
   have e := some_s hp114
   subst e
   exact fun a ha => ⟨[(0, .bool false)], ha.weak ⟨rfl, trivial⟩, S101, rfl, Le.refl _, (hs.pick [] (by decide) rfl)⟩
noncomputable def alarm_Table_At (t_0 : alarm_Table) (key_1 : Int) : Option (Int × Bool × alarm_Table) :=
 (alarm_Table_find (⟨t_0.l_⟩ : alarm_Table) key_1).bind fun x11 =>
 if (decide (x11.1 < 0)) = true then (
  some (0, false, x11.2))
 else (
  (ix x11.2.l_ x11.1).bind fun x24 =>
  some (x24.At, true, x11.2))
def Po13 (S0 : Mp) (w0 : World) (D : List Nat) (b1 : Nat) (r : (Int × Bool × alarm_Table)) (v : Value) (w1 : World) : Prop :=
  ∃ (S1 : Mp) (v8 : Value) (g9 : Option Nat) (cur10 : Array Value), v = .tuple #[.int .i64 r.1, .bool r.2.1] ∧ St w0 D S0 S1 [.row g9 cur10 30, .box b1 #[v8] 44] w1 ∧ Rw S1 2 R_alarm_Due g9 cur10 v8 r.2.2.l_
set_option maxHeartbeats 4000000 in
theorem c13 (S0 : Mp) {w0 : World} (b1 : Nat) (t_0 : alarm_Table) (v2 : Value) (g3 : Option Nat) (cur4 : Array Value) (f5 : Rw S0 2 R_alarm_Due g3 cur4 v2 t_0.l_) (key_1 : Int) (hs : St w0 (b1 :: g3.toList) S0 S0 [.box b1 #[v2] 44, .row g3 cur4 30] w0) (r : (Int × Bool × alarm_Table)) (h0 : alarm_Table_At t_0 key_1 = some r) :
    Calls Try.prog 13 #[.pointer (some ⟨b1, 0, none⟩), .int .u64 key_1] w0 (Re (Po13 S0 w0 (b1 :: g3.toList) b1 r)) := by
 unfold alarm_Table_At at h0
 refine calls_of_cd Try.func13 rfl Try.ntmps13 rfl ?_
 refine Cd.sr ?_
 refine Rg.st rfl rfl ?_
 refine Rg.st rfl rfl ?_
 refine Rg.go ?_
 refine Cd.sr ?_
 refine Rg.mv rfl rfl ?_
 refine Rg.mv rfl rfl ?_
 obtain ⟨x11, hx12, h0⟩ := bind_s h0
 refine Rg.step rfl (Oq.call Try.call24 rfl rfl (c24 S0 _ (⟨t_0.l_⟩ : alarm_Table) _ _ _ f5 _ (hs.enterP [0, 1] (by decide) rfl (by cases g3 <;> rfl)) _ hx12) (fun v13 w14 h15 => ?_))
 obtain ⟨S16, v19, g20, cur21, rfl, hs17, f22⟩ := h15
 have le18 := hs17.le
 have hs := hs.callP [0, 1] rfl (by cases g3 <;> rfl) hs17
 refine Rg.st rfl rfl ?_
 refine Rg.go ?_
 refine Cd.seq ?_
 refine Cd.sr ?_
 refine Rg.mv rfl rfl ?_
 refine Rg.vN (X.lss rfl rfl) rfl ?_
 refine Rg.go ?_
 refine Cd.cond (t := decide (x11.1 < 0)) rfl (fun hc23 => ?_) (fun hc23 => ?_)
 ·have h0 := ite_t hc23 h0
  refine Cd.sr ?_
  refine Rg.st rfl rfl ?_
  refine Rg.st rfl rfl ?_
  refine Rg.go ?_
  refine Cd.ret ?_
  obtain rfl := some_s h0
  exact fun a ha => Cd.retA (R := Re (Po13 S0 w0 _ b1 _)) ha Try.results13 ⟨_, _, rfl, rfl, ⟨_, _, rfl, rfl, rfl⟩⟩ ⟨_, rfl, S16, v19, g20, cur21, rfl, hs, f22⟩
 ·have h0 := ite_f hc23 h0
  refine Cd.sg ?_
  refine Cd.sr ?_
  refine Rg.mv rfl rfl ?_
  refine Rg.vN (X.nilCheck rfl) rfl ?_
  refine Rg.vN (X.fieldB Try.underlying44 rfl zz27 rfl rfl) rfl ?_
  refine Rg.vN (X.load1 Try.underlying27 rfl rfl (hs.cell 1 rfl 0 rfl)) rfl ?_
  refine Rg.mv rfl rfl ?_
  obtain ⟨x24, hx25, h0⟩ := bind_s h0
  obtain ⟨b26, vals27, hg28, hl29, hR30, hC31, hX32⟩ := mk_rowix Try.underlying27 zz30 f22 hx25
  subst hg28
  unfold R_alarm_Due at hR30
  subst hR30
  refine Rg.vN (hX32 rfl rfl) rfl ?_
  refine Rg.vN (X.fieldB Try.underlying30 rfl zz2 rfl rfl) rfl ?_
  refine Rg.vN (X.load1 Try.underlying2 rfl rfl (hs.rowcell 0 rfl (x11.1.toNat * 2 + 0) (hC31 0 _ rfl))) rfl ?_
  refine Rg.weak [(19, .int .i64 x24.At)] ⟨rfl, trivial⟩ ?_
  refine Rg.st rfl rfl ?_
  refine Rg.st rfl rfl ?_
  refine Rg.go ?_
  refine Cd.ret ?_
  obtain rfl := some_s h0
  exact fun a ha => Cd.retA (R := Re (Po13 S0 w0 _ b1 _)) ha Try.results13 ⟨_, _, rfl, rfl, ⟨_, _, rfl, rfl, rfl⟩⟩ ⟨_, rfl, S16, v19, (some b26), cur21, rfl, hs, f22⟩
noncomputable def limelightlaw12_AlarmLast_l1 (j26 : (List (Int × Int))) (q76 : Int) (q77 : (List alarm_Due)) : Option (Flow (Int × (List alarm_Due)) Bool) :=
 if (decide (q76 < 8)) = true then (
  (alarm_Table_At (⟨q77⟩ : alarm_Table) q76).bind fun x91 =>
  if ((!(x91.2.1 == ((mget q76 j26).isSome))) || (x91.1 != ((mget q76 j26).getD 0))) = true then (
   some (Flow.ret false))
  else (
   some (Flow.next (add .u64 q76 1, x91.2.2.l_))))
 else (
  some (Flow.brk (q76, q77)))
noncomputable def limelightlaw12_AlarmLast_l0 (G_0 : (List Int)) (o_1 : (List Int)) (q107 : Int) (q108 : (List (Int × Int))) (q109 : (List alarm_Due)) : Option (Flow (Int × (List (Int × Int)) × (List alarm_Due)) Bool) :=
 if (((decide (q107 < (G_0.length : Int))) && (decide (q107 < (o_1.length : Int)))) && (decide (q107 < 60))) = true then (
  (ix G_0 q107).bind fun x124 =>
  (ix o_1 q107).bind fun x131 =>
  (alarm_Table_Set (⟨q109⟩ : alarm_Table) (band .u64 x124 7) x131).bind fun x138 =>
  (ix G_0 q107).bind fun x151 =>
  (ix o_1 q107).bind fun x158 =>
  some (Flow.next (add .i64 q107 1, mput (band .u64 x151 7) x158 q108, x138.l_)))
 else (
  some (Flow.brk (q107, q108, q109)))
noncomputable def limelightlaw12_AlarmLast (G_0 : (List Int)) (o_1 : (List Int)) : Option Bool :=
 (alarm_New ).bind fun x5 =>
 (loopF (fun sg => limelightlaw12_AlarmLast_l0 G_0 o_1 sg.1 sg.2.1 sg.2.2) (0, ([] : List (Int × Int)), x5.l_)).bind fun fl23 =>
 Flow.el fl23 (fun s166 => (
  none))
 (fun s167 => (
  (loopF (fun sg => limelightlaw12_AlarmLast_l1 s167.2.1 sg.1 sg.2) (0, s167.2.2)).bind fun fl36 =>
  Flow.el fl36 (fun s104 => (
   none))
  (fun s105 => (
   ((
    (alarm_Table_Len (⟨s105.2⟩ : alarm_Table)).bind fun x55 =>
    if (x55.1 == (s167.2.1.length : Int)) = true then (
     (limelightlaw12_known ).bind fun x68 =>
     some x68)
    else (
     some false) : Option Bool)).bind fun p49 =>
   some p49))
  (fun r106 => (
   some r106))))
 (fun r168 => (
  none))
def Po6 (S0 : Mp) (w0 : World) (D : List Nat) (r : Bool) (v : Value) (w1 : World) : Prop :=
  ∃ (S1 : Mp), v = .bool r ∧ St w0 D S0 S1 [] w1
set_option maxHeartbeats 4000000 in
theorem c6 (S0 : Mp) {w0 : World} (hs : St w0 [] S0 S0 [] w0) (G_0 : (List Int)) (v1 : Value) (f2 : Rd S0 1 (RI .u64) v1 G_0) (o_1 : (List Int)) (v3 : Value) (f4 : Rd S0 1 (RI .i64) v3 o_1) (r : Bool) (h0 : limelightlaw12_AlarmLast G_0 o_1 = some r) :
    Calls Try.prog 6 #[v1, v3] w0 (Re (Po6 S0 w0 [] r)) := by
 unfold limelightlaw12_AlarmLast at h0
 refine calls_of_cd Try.func6 rfl Try.ntmps6 rfl ?_
 refine Cd.sr ?_
 refine Rg.st rfl rfl ?_
 refine Rg.go ?_
 refine Cd.sr ?_
 obtain ⟨x5, hx6, h0⟩ := bind_s h0
 refine Rg.step rfl (Oq.call Try.call7 rfl rfl (c7 S0 (St.start _ _ hs.has)  _ hx6) (fun v7 w8 h9 => ?_))
 obtain ⟨S10, b13, v15, g16, cur17, rfl, hs11, f18⟩ := h9
 have le12 := hs11.le
 have hs := hs.call0 hs11
 refine Rg.st rfl rfl ?_
 refine Rg.go ?_
 refine Cd.seq ?_
 refine Cd.sr ?_
 refine Rg.mv rfl rfl ?_
 refine Rg.vN (X.eqlNilP Try.underlying23 rfl) rfl ?_
 refine Rg.go ?_
 refine Cd.cond0 rfl ?_
 refine Cd.sg ?_
 refine Cd.sr ?_
 refine Rg.step rfl (Oq.makeMap .u64 .i64 hs rfl (fun b20 w21 hs => ?_))
 refine Rg.st rfl rfl ?_
 refine Rg.go ?_
 refine Cd.seq ?_
 refine Cd.sr ?_
 refine Rg.st rfl rfl ?_
 refine Rg.go ?_
 obtain ⟨fl23, hfl24, h0⟩ := bind_s h0
 refine Cd.post (fun K w => ∃ (j25 : Int) (j26 : (List (Int × Int))) (j27 : (List alarm_Due)) (S28 : Mp) (v30 : Value) (g31 : Option Nat) (cur32 : Array Value), K = [(5, .pointer (some ⟨b13, 0, none⟩)), (6, .map (some b20))] ∧ fl23 = Flow.brk (j25, j26, j27) ∧ Le S10 S28 ∧ St w0 [] S0 S28 [.mp b20 .u64 .i64 j26, .row g31 cur32 30, .box b13 #[v30] 44] w ∧ Rw S28 2 R_alarm_Due g31 cur32 v30 j27) ?_ ?_
 ·rintro K35 w34 ⟨j25, j26, j27, S28, v30, g31, cur32, rfl, rfl, le29, hs, f33⟩
  have h0 := el_brk h0
  try dsimp only at h0
  refine Cd.go ?_
  refine Cd.seq ?_
  refine Cd.sr ?_
  refine Rg.st rfl rfl ?_
  refine Rg.go ?_
  obtain ⟨fl36, hfl37, h0⟩ := bind_s h0
  refine Cd.post (fun K w => ∃ (j38 : Int) (j39 : (List alarm_Due)) (S40 : Mp) (v42 : Value) (g43 : Option Nat) (cur44 : Array Value), K = [(5, .pointer (some ⟨b13, 0, none⟩)), (6, .map (some b20))] ∧ fl36 = Flow.brk (j38, j39) ∧ Le S28 S40 ∧ St w0 [] S0 S40 [.mp b20 .u64 .i64 j26, .row g43 cur44 30, .box b13 #[v42] 44] w ∧ Rw S40 2 R_alarm_Due g43 cur44 v42 j39) ?_ ?_
  ·rintro K47 w46 ⟨j38, j39, S40, v42, g43, cur44, rfl, rfl, le41, hs, f45⟩
   have h0 := el_brk h0
   try dsimp only at h0
   refine Cd.go ?_
   refine Cd.seq ?_
   obtain ⟨p49, hp50, h0⟩ := bind_s h0
   refine Cd.post (fun K w => ∃ (S51 : Mp), K = [(4, .bool p49)] ∧ Le S40 S51 ∧ St w0 [] S0 S51 [] w) ?_ ?_
   ·rintro K54 w52 ⟨S51, rfl, le53, hs⟩
    refine Cd.go ?_
    refine Cd.ret ?_
    obtain rfl := some_s h0
    exact fun a ha => Cd.retA (R := Re (Po6 S0 w0 _ _)) ha Try.results6 ⟨_, _, rfl, rfl, rfl⟩ ⟨_, rfl, S51, rfl, hs⟩
   ·skip
    refine Cd.region ?_
    refine Rg.mv rfl rfl ?_
    obtain ⟨x55, hx56, hp50⟩ := bind_s hp50
    refine Rg.step rfl (Oq.call Try.call10 rfl rfl (c10 S40 _ (⟨j39⟩ : alarm_Table) _ _ _ f45 (hs.enterP [2, 1] (by decide) rfl (by cases g43 <;> rfl)) _ hx56) (fun v57 w58 h59 => ?_))
    obtain ⟨S60, v63, g64, cur65, rfl, hs61, f66⟩ := h59
    have le62 := hs61.le
    have hs := hs.callP [2, 1] rfl (by cases g43 <;> rfl) hs61
    refine Rg.mv rfl rfl ?_
    refine Rg.vN (X.lenM hs 2 rfl Try.underlying39 rfl) rfl ?_
    refine Rg.vN (X.eql rfl rfl) rfl ?_
    refine Rg.mv rfl rfl ?_
    refine Rg.split (c := x55.1 == (j26.length : Int)) (tj := 83) rfl (fun hc67 => ?_) (fun hc67 => ?_)
    ·have hp50 := ite_t hc67 hp50
     refine Rg.weak [(83, .bool true)] ⟨rfl, trivial⟩ ?_
     refine Rg.gon rfl rfl rfl ?_
     obtain ⟨x68, hx69, hp50⟩ := bind_s hp50
     refine Rg.step rfl (Oq.call Try.call11 rfl rfl (c11 S60 (St.start _ _ hs.has)  _ hx69) (fun v70 w71 h72 => ?_))
     obtain ⟨S73, rfl, hs74⟩ := h72
     have le75 := hs74.le
     have hs := hs.call0 hs74
     refine Rg.vN (X.pickT rfl rfl) rfl ?_
     refine Rg.st rfl rfl ?_
     refine Rg.nil ?_
     have e := some_s hp50
     subst e
     exact fun a ha => ⟨[(4, .bool x68)], ha.weak ⟨rfl, trivial⟩, S73, rfl, (le62.trans le75), (hs.pick [] (by decide) rfl)⟩
    ·have hp50 := ite_f hc67 hp50
     refine Rg.weak [(83, .bool false)] ⟨rfl, trivial⟩ ?_
     refine Rg.vO rfl rfl rfl rfl ?_
     refine Rg.vN (X.pickF rfl rfl) rfl ?_
     refine Rg.st rfl rfl ?_
     refine Rg.nil ?_
     have e := some_s hp50
     subst e
     exact fun a ha => ⟨[(4, .bool false)], ha.weak ⟨rfl, trivial⟩, S60, rfl, le62, (hs.pick [] (by decide) rfl)⟩
  ·skip
   refine Cd.weak [(5, .pointer (some ⟨b13, 0, none⟩)), (6, .map (some b20)), (8, .int .u64 0)] ⟨rfl, rfl, rfl, trivial⟩ ?_
   refine Cd.block (Cd.loop (fun sg => limelightlaw12_AlarmLast_l1 j26 sg.1 sg.2) (fun (sg : (Int × (List alarm_Due))) K w => ∃ (S78 : Mp) (v80 : Value) (g81 : Option Nat) (cur82 : Array Value), K = [(5, .pointer (some ⟨b13, 0, none⟩)), (6, .map (some b20)), (8, .int .u64 sg.1)] ∧ Le S28 S78 ∧ St w0 [] S0 S78 [.mp b20 .u64 .i64 j26, .row g81 cur82 30, .box b13 #[v80] 44] w ∧ Rw S78 2 R_alarm_Due g81 cur82 v80 sg.2) (0, j27) fl36 hfl37 ⟨S28, v30, g31, cur32, rfl, Le.refl _, hs, f33⟩ ?_)
   rintro ⟨q76, q77⟩ fl84 K89 w88 hb85 ⟨S78, v80, g81, cur82, rfl, le79, hs, f83⟩ hl86
   have h87 : limelightlaw12_AlarmLast_l1 j26 q76 q77 = some fl84 := hb85
   unfold limelightlaw12_AlarmLast_l1 at h87
   refine Cd.seq ?_
   refine Cd.sr ?_
   refine Rg.mv rfl rfl ?_
   refine Rg.vN (X.lss rfl rfl) rfl ?_
   refine Rg.go ?_
   refine Cd.cond (t := decide (q76 < 8)) rfl (fun hc90 => ?_) (fun hc90 => ?_)
   ·have h87 := ite_t hc90 h87
    refine Cd.sg ?_
    refine Cd.seq ?_
    refine Cd.block ?_
    refine Cd.sr ?_
    refine Rg.mv rfl rfl ?_
    refine Rg.mv rfl rfl ?_
    obtain ⟨x91, hx92, h87⟩ := bind_s h87
    refine Rg.step rfl (Oq.call Try.call13 rfl rfl (c13 S78 _ (⟨q77⟩ : alarm_Table) _ _ _ f83 _ (hs.enterP [2, 1] (by decide) rfl (by cases g81 <;> rfl)) _ hx92) (fun v93 w94 h95 => ?_))
    obtain ⟨S96, v99, g100, cur101, rfl, hs97, f102⟩ := h95
    have le98 := hs97.le
    have hs := hs.callP [2, 1] rfl (by cases g81 <;> rfl) hs97
    refine Rg.mv rfl rfl ?_
    refine Rg.vN (X.extract rfl rfl) rfl ?_
    refine Rg.vN (X.extract rfl rfl) rfl ?_
    refine Rg.st rfl rfl ?_
    refine Rg.st rfl rfl ?_
    refine Rg.go ?_
    refine Cd.weak [(5, .pointer (some ⟨b13, 0, none⟩)), (6, .map (some b20)), (8, .int .u64 q76), (9, .int .i64 x91.1), (10, .bool x91.2.1)] ⟨rfl, rfl, rfl, rfl, rfl, trivial⟩ ?_
    refine Cd.sr ?_
    refine Rg.mv rfl rfl ?_
    refine Rg.mv rfl rfl ?_
    refine Rg.vN (X.lookupM hs 2 rfl Try.underlying39 Try.underlying26 Try.zeroValue2 rfl rfl) rfl ?_
    refine Rg.mv rfl rfl ?_
    refine Rg.vN (X.extract rfl rfl) rfl ?_
    refine Rg.vN (X.extract rfl rfl) rfl ?_
    refine Rg.st rfl rfl ?_
    refine Rg.st rfl rfl ?_
    refine Rg.go ?_
    refine Cd.sr ?_
    refine Rg.mv rfl rfl ?_
    refine Rg.mv rfl rfl ?_
    refine Rg.weak [(5, .pointer (some ⟨b13, 0, none⟩)), (6, .map (some b20)), (8, .int .u64 q76), (9, .int .i64 x91.1), (11, .int .i64 ((mget q76 j26).getD 0)), (70, .bool x91.2.1), (71, .bool ((mget q76 j26).isSome))] ⟨rfl, rfl, rfl, rfl, rfl, rfl, rfl, trivial⟩ ?_
    refine Rg.vN (X.neqB Try.underlying4 rfl rfl) rfl ?_
    refine Rg.mv rfl rfl ?_
    refine Rg.vF rfl rfl rfl (fun hW => X.move rfl) ?_
    refine Rg.vF rfl rfl rfl (fun hW => X.move rfl) ?_
    refine Rg.vF rfl rfl rfl (fun hW => X.neq (ev_g rfl hW) (ev_g rfl hW)) ?_
    refine Rg.vN (X.pickOr rfl rfl rfl) rfl ?_
    refine Rg.go ?_
    refine Cd.cond (t := (!(x91.2.1 == ((mget q76 j26).isSome))) || (x91.1 != ((mget q76 j26).getD 0))) rfl (fun hc103 => ?_) (fun hc103 => ?_)
    ·have h87 := ite_t hc103 h87
     refine Cd.sr ?_
     refine Rg.st rfl rfl ?_
     refine Rg.go ?_
     refine Cd.ret ?_
     obtain rfl := some_s h87
     have e := hl86 (fun _ e => by cases e)
     subst e
     have h0 := el_ret h0
     obtain rfl := some_s h0
     exact fun a ha => Cd.retA (R := Re (Po6 S0 w0 _ _)) ha Try.results6 ⟨_, _, rfl, rfl, rfl⟩ ⟨_, rfl, S96, rfl, (hs.pick [] (by decide) rfl)⟩
    ·have h87 := ite_f hc103 h87
     refine Cd.skip ?_
     refine Cd.go ?_
     refine Cd.region ?_
     refine Rg.mv rfl rfl ?_
     refine Rg.vN (X.add rfl rfl) rfl ?_
     refine Rg.st rfl rfl ?_
     refine Rg.nil ?_
     exact fun a ha => ⟨(add .u64 q76 1, x91.2.2.l_), [(5, .pointer (some ⟨b13, 0, none⟩)), (6, .map (some b20)), (8, .int .u64 (add .u64 q76 1))], (some_s h87).symm, ha.weak ⟨rfl, rfl, rfl, trivial⟩, S96, v99, g100, cur101, rfl, (le79.trans le98), (hs.pick [2, 0, 1] (by decide) rfl), f102⟩
   ·have h87 := ite_f hc90 h87
    refine Cd.exit ?_
    obtain rfl := some_s h87
    have e := hl86 (fun _ e => by cases e)
    exact fun a ha => ⟨[(5, .pointer (some ⟨b13, 0, none⟩)), (6, .map (some b20))], ha.weak ⟨rfl, rfl, trivial⟩, _, _, S78, v80, g81, cur82, rfl, e.symm, le79, hs, f83⟩
 ·skip
  refine Cd.weak [(0, v1), (1, v3), (5, .pointer (some ⟨b13, 0, none⟩)), (6, .map (some b20)), (7, .int .i64 0)] ⟨rfl, rfl, rfl, rfl, rfl, trivial⟩ ?_
  refine Cd.block (Cd.loop (fun sg => limelightlaw12_AlarmLast_l0 G_0 o_1 sg.1 sg.2.1 sg.2.2) (fun (sg : (Int × (List (Int × Int)) × (List alarm_Due))) K w => ∃ (S110 : Mp) (v112 : Value) (g113 : Option Nat) (cur114 : Array Value), K = [(0, v1), (1, v3), (5, .pointer (some ⟨b13, 0, none⟩)), (6, .map (some b20)), (7, .int .i64 sg.1)] ∧ Le S10 S110 ∧ St w0 [] S0 S110 [.mp b20 .u64 .i64 sg.2.1, .row g113 cur114 30, .box b13 #[v112] 44] w ∧ Rw S110 2 R_alarm_Due g113 cur114 v112 sg.2.2) (0, ([] : List (Int × Int)), x5.l_) fl23 hfl24 ⟨S10, v15, g16, cur17, rfl, Le.refl _, hs, f18⟩ ?_)
  rintro ⟨q107, q108, q109⟩ fl116 K121 w120 hb117 ⟨S110, v112, g113, cur114, rfl, le111, hs, f115⟩ hl118
  have h119 : limelightlaw12_AlarmLast_l0 G_0 o_1 q107 q108 q109 = some fl116 := hb117
  unfold limelightlaw12_AlarmLast_l0 at h119
  refine Cd.seq ?_
  refine Cd.sr ?_
  refine Rg.mv rfl rfl ?_
  refine Rg.mv rfl rfl ?_
  refine Rg.vN (X.lenR Try.underlying38 rfl (f2.mono (le12.trans le111))) rfl ?_
  refine Rg.vN (X.lss rfl rfl) rfl ?_
  refine Rg.mv rfl rfl ?_
  refine Rg.vT rfl rfl rfl (fun hW => X.move rfl) ?_
  refine Rg.vT rfl rfl rfl (fun hW => X.move rfl) ?_
  refine Rg.vT rfl rfl rfl (fun hW => X.lenR Try.underlying22 (ev_g rfl hW) (f4.mono (le12.trans le111))) ?_
  refine Rg.vT rfl rfl rfl (fun hW => X.lss (ev_g rfl hW) (ev_g rfl hW)) ?_
  refine Rg.weak [(0, v1), (1, v3), (5, .pointer (some ⟨b13, 0, none⟩)), (6, .map (some b20)), (7, .int .i64 q107), (21, .bool (decide (q107 < (G_0.length : Int)))), (25, gv (decide (q107 < (G_0.length : Int))) (.bool (decide (q107 < (o_1.length : Int)))))] ⟨rfl, rfl, rfl, rfl, rfl, rfl, rfl, trivial⟩ ?_
  refine Rg.vN (X.pickAnd rfl rfl rfl) rfl ?_
  refine Rg.mv rfl rfl ?_
  refine Rg.vT rfl rfl rfl (fun hW => X.move rfl) ?_
  refine Rg.vT rfl rfl rfl (fun hW => X.lss (ev_g rfl hW) rfl) ?_
  refine Rg.vN (X.pickAnd rfl rfl rfl) rfl ?_
  refine Rg.go ?_
  refine Cd.cond (t := ((decide (q107 < (G_0.length : Int))) && (decide (q107 < (o_1.length : Int)))) && (decide (q107 < 60))) rfl (fun hc122 => ?_) (fun hc122 => ?_)
  ·have h119 := ite_t hc122 h119
   refine Cd.sg ?_
   refine Cd.seq ?_
   refine Cd.block ?_
   refine Cd.seq ?_
   refine Cd.rD mixed (fun l w => Has S110 w) hs (fun _ _ _ _ _ h => h) (by kernel_rfl) (fun w123 hs => ⟨hs.has, ?_⟩)
   refine Rk.tN 0 rfl rfl (fun _ _ => X.move rfl) ?_
   refine Rk.tN 1 rfl rfl (fun _ _ => X.move rfl) ?_
   refine Rk.tN 2 rfl rfl (fun _ _ => X.move rfl) ?_
   obtain ⟨x124, hx125, h119⟩ := bind_s h119
   obtain ⟨ad126, vals127, _, hR128, hE129, hX130⟩ := mk_index Try.underlying38 zz26 (by decide) (f2.mono (le12.trans le111)) hx125
   obtain rfl : vals127 = [.int .u64 x124] := hR128
   refine Rk.tN 3 rfl rfl (fun _ _ => hX130 rfl rfl) ?_
   refine Rk.tN 4 rfl rfl (fun w hc => X.load1 Try.underlying26 rfl rfl (hE129.at0 rfl hc)) ?_
   refine Rk.tN 5 rfl rfl (fun _ _ => X.and rfl rfl) ?_
   refine Rk.weak [(0, v1), (1, v3), (5, .pointer (some ⟨b13, 0, none⟩)), (6, .map (some b20)), (7, .int .i64 q107), (33, .pointer (some ⟨b13, 0, none⟩)), (38, .int .u64 (band .u64 x124 7))] ⟨rfl, rfl, rfl, rfl, rfl, rfl, rfl, trivial⟩ ?_
   refine Rk.tN 6 rfl rfl (fun _ _ => X.move rfl) ?_
   refine Rk.tN 7 rfl rfl (fun _ _ => X.move rfl) ?_
   obtain ⟨x131, hx132, h119⟩ := bind_s h119
   obtain ⟨ad133, vals134, _, hR135, hE136, hX137⟩ := mk_index Try.underlying22 zz2 (by decide) (f4.mono (le12.trans le111)) hx132
   obtain rfl : vals134 = [.int .i64 x131] := hR135
   refine Rk.tN 8 rfl rfl (fun _ _ => hX137 rfl rfl) ?_
   refine Rk.tN 9 rfl rfl (fun w hc => X.load1 Try.underlying2 rfl rfl (hE136.at0 rfl hc)) ?_
   obtain ⟨x138, hx139, h119⟩ := bind_s h119
   refine Rk.eN 10 rfl rfl (Oq.call Try.call8 rfl rfl (c8 S110 _ (⟨q109⟩ : alarm_Table) _ _ _ f115 _ _ (hs.enterP [2, 1] (by decide) rfl (by cases g113 <;> rfl)) _ hx139) (fun v140 w141 h142 => ?_))
   obtain ⟨S143, v146, g147, cur148, rfl, hs144, f149⟩ := h142
   have le145 := hs144.le
   have hs := hs.callP [2, 1] rfl (by cases g113 <;> rfl) hs144
   refine ⟨(hs.has.down le145), Rk.mk (C' := fun l w => Has S143 w) hs.has (fun l w hc => hc.down le145) ?_⟩
   refine Rk.done ?_
   refine Cd.go ?_
   refine Cd.rD mixed (fun l w => Has S143 w) hs (fun _ _ _ _ _ h => h) (by kernel_rfl) (fun w150 hs => ⟨hs.has, ?_⟩)
   refine Rk.tN 0 rfl rfl (fun _ _ => X.move rfl) ?_
   refine Rk.tN 1 rfl rfl (fun _ _ => X.move rfl) ?_
   refine Rk.tN 2 rfl rfl (fun _ _ => X.move rfl) ?_
   obtain ⟨x151, hx152, h119⟩ := bind_s h119
   obtain ⟨ad153, vals154, _, hR155, hE156, hX157⟩ := mk_index Try.underlying38 zz26 (by decide) (f2.mono (le12.trans (le111.trans le145))) hx152
   obtain rfl : vals154 = [.int .u64 x151] := hR155
   refine Rk.tN 3 rfl rfl (fun _ _ => hX157 rfl rfl) ?_
   refine Rk.tN 4 rfl rfl (fun w hc => X.load1 Try.underlying26 rfl rfl (hE156.at0 rfl hc)) ?_
   refine Rk.tN 5 rfl rfl (fun _ _ => X.and rfl rfl) ?_
   refine Rk.tN 6 rfl rfl (fun _ _ => X.move rfl) ?_
   refine Rk.weak [(0, v1), (1, v3), (5, .pointer (some ⟨b13, 0, none⟩)), (6, .map (some b20)), (7, .int .i64 q107), (44, .map (some b20)), (49, .int .u64 (band .u64 x151 7)), (50, v3)] ⟨rfl, rfl, rfl, rfl, rfl, rfl, rfl, rfl, trivial⟩ ?_
   refine Rk.tN 7 rfl rfl (fun _ _ => X.move rfl) ?_
   obtain ⟨x158, hx159, h119⟩ := bind_s h119
   obtain ⟨ad160, vals161, _, hR162, hE163, hX164⟩ := mk_index Try.underlying22 zz2 (by decide) (f4.mono (le12.trans (le111.trans le145))) hx159
   obtain rfl : vals161 = [.int .i64 x158] := hR162
   refine Rk.tN 8 rfl rfl (fun _ _ => hX164 rfl rfl) ?_
   refine Rk.tN 9 rfl rfl (fun w hc => X.load1 Try.underlying2 rfl rfl (hE163.at0 rfl hc)) ?_
   refine Rk.eN 10 rfl rfl (Oq.mapUpdate hs 2 rfl Try.underlying39 Try.underlying26 rfl rfl rfl (fun w165 hs => ?_))
   refine ⟨hs.has, ?_⟩
   refine Rk.done ?_
   refine Cd.go ?_
   refine Cd.region ?_
   refine Rg.mv rfl rfl ?_
   refine Rg.vN (X.add rfl rfl) rfl ?_
   refine Rg.st rfl rfl ?_
   refine Rg.nil ?_
   exact fun a ha => ⟨(add .i64 q107 1, mput (band .u64 x151 7) x158 q108, x138.l_), [(0, v1), (1, v3), (5, .pointer (some ⟨b13, 0, none⟩)), (6, .map (some b20)), (7, .int .i64 (add .i64 q107 1))], (some_s h119).symm, ha.weak ⟨rfl, rfl, rfl, rfl, rfl, trivial⟩, S143, v146, g147, cur148, rfl, (le111.trans le145), (hs.pick [2, 0, 1] (by decide) rfl), f149⟩
  ·have h119 := ite_f hc122 h119
   refine Cd.exit ?_
   obtain rfl := some_s h119
   have e := hl118 (fun _ e => by cases e)
   exact fun a ha => ⟨[(5, .pointer (some ⟨b13, 0, none⟩)), (6, .map (some b20))], ha.weak ⟨rfl, rfl, trivial⟩, _, _, _, S110, v112, g113, cur114, rfl, e.symm, le111, hs, f115⟩
end Go.Lk
