/- A part of this proof: AlarmNumbers returns true for every input and leaves its arguments as they were; there are no conditions. -/
import Derived.Test.YtaclkgdbkejfjaaH15
set_option linter.unusedVariables false
set_option linter.unusedSimpArgs false
set_option maxRecDepth 100000
namespace Go.Lk
open Go.RowKit Go.Proofs
noncomputable def alarm_Table_Set (t_0 : alarm_Table) (key_1 : Int) (at_2 : Int) : Option alarm_Table :=
 (alarm_Table_Clear (⟨t_0.l_⟩ : alarm_Table) key_1).bind fun x11 =>
 (app 16 x11.2.l_ ([(⟨at_2, key_1⟩ : alarm_Due)] : List alarm_Due)).bind fun y30 =>
 (slices_SortFunc_alarm_Due y30).bind fun x38 =>
 some (⟨x38⟩ : alarm_Table)
def Po8 (S0 : Mp) (w0 : World) (D : List Nat) (b1 : Nat) (r : alarm_Table) (v : Value) (w1 : World) : Prop :=
  ∃ (S1 : Mp) (v8 : Value) (g9 : Option Nat) (cur10 : Array Value), v = .tuple #[] ∧ St w0 D S0 S1 [.row g9 cur10 30, .box b1 #[v8] 44] w1 ∧ Rw S1 2 R_alarm_Due g9 cur10 v8 r.l_
set_option maxHeartbeats 4000000 in
theorem c8 (S0 : Mp) {w0 : World} (b1 : Nat) (t_0 : alarm_Table) (v2 : Value) (g3 : Option Nat) (cur4 : Array Value) (f5 : Rw S0 2 R_alarm_Due g3 cur4 v2 t_0.l_) (key_1 : Int) (at_2 : Int) (hs : St w0 (b1 :: g3.toList) S0 S0 [.box b1 #[v2] 44, .row g3 cur4 30] w0) (r : alarm_Table) (h0 : alarm_Table_Set t_0 key_1 at_2 = some r) :
    Calls Try.prog 8 #[.pointer (some ⟨b1, 0, none⟩), .int .u64 key_1, .int .i64 at_2] w0 (Re (Po8 S0 w0 (b1 :: g3.toList) b1 r)) := by
 unfold alarm_Table_Set at h0
 refine calls_of_cd Try.func8 rfl Try.ntmps8 rfl ?_
 refine Cd.sr ?_
 refine Rg.mv rfl rfl ?_
 refine Rg.mv rfl rfl ?_
 obtain ⟨x11, hx12, h0⟩ := bind_s h0
 refine Rg.step rfl (Oq.call Try.call14 rfl rfl (c14 S0 _ (⟨t_0.l_⟩ : alarm_Table) _ _ _ f5 _ (hs.enterP [0, 1] (by decide) rfl (by cases g3 <;> rfl)) _ hx12) (fun v13 w14 h15 => ?_))
 obtain ⟨S16, v19, g20, cur21, rfl, hs17, f22⟩ := h15
 have le18 := hs17.le
 have hs := hs.callP [0, 1] rfl (by cases g3 <;> rfl) hs17
 refine Rg.go ?_
 refine Cd.sr ?_
 refine Rg.mv rfl rfl ?_
 refine Rg.mv rfl rfl ?_
 refine Rg.vN (X.nilCheck rfl) rfl ?_
 refine Rg.vN (X.fieldB Try.underlying44 rfl zz27 rfl rfl) rfl ?_
 refine Rg.vN (X.load1 Try.underlying27 rfl rfl (hs.cell 1 rfl 0 rfl)) rfl ?_
 refine Rg.mv rfl rfl ?_
 refine Rg.mv rfl rfl ?_
 refine Rg.vN (X.build (zc := [.int .i64 0, .int .u64 0]) (cells := [.int .i64 at_2, .int .u64 key_1]) ii30 rfl rfl Try.underlying30 (pp30 _ Try.underlying30) ⟨_, [.int .i64 at_2], _, rfl, rfl, rfl, ⟨_, [.int .u64 key_1], _, rfl, rfl, rfl, rfl⟩⟩ rfl) rfl ?_
 refine Rg.step rfl (Oq.lit (sz := 2) (cs0 := [.int .i64 0, .int .u64 0]) (cells := [.int .i64 at_2, .int .u64 key_1]) hs Try.underlying27 ii30 rfl rfl rfl rfl rfl rfl ⟨_, [.int .i64 at_2, .int .u64 key_1], _, rfl, rfl, rfl, rfl⟩ rfl rfl rfl (fun b23 w24 S25 hs le26 hE27 => ?_))
 have f29 : Rd S25 2 R_alarm_Due (.slice (some ⟨b23, 0, none⟩) 1 1) ([(⟨at_2, key_1⟩ : alarm_Due)] : List alarm_Due) := Rd.of_cells (xs := ([(⟨at_2, key_1⟩ : alarm_Due)] : List alarm_Due)) ⟨[.int .i64 at_2, .int .u64 key_1], _, rfl, rfl, one_all ⟨rfl, rfl, trivial⟩, rfl, rfl⟩ hE27 (Nat.le_of_ble_eq_true rfl) (Nat.le_of_ble_eq_true rfl)
 obtain ⟨y30, hx31, h0⟩ := bind_s h0
 refine Rg.step rfl (Oq.appendRow hs 1 rfl Try.underlying27 ii30 rfl rfl rfl rfl rfl rfl (f22.mono le26) f29 hx31 rfl rfl rfl (fun v32 w33 g34 cur35 hs f36 => ?_))
 refine Rg.vN (X.nilCheck rfl) rfl ?_
 refine Rg.vN (X.fieldB Try.underlying44 rfl zz27 rfl rfl) rfl ?_
 refine Rg.step rfl (Oq.store hs 2 rfl 0 zz27 rfl rfl (Rw.cells f36) (Rw.one f36) rfl [.app (some b23) (.slice (some ⟨b23, 0, none⟩) 1 1) ([(⟨at_2, key_1⟩ : alarm_Due)] : List alarm_Due).length 30 2, .row g34 cur35 30, .box b1 #[v32] 44] rfl (fun w37 hs => ?_))
 refine Rg.go ?_
 refine Cd.region ?_
 refine Rg.mv rfl rfl ?_
 refine Rg.vN (X.nilCheck rfl) rfl ?_
 refine Rg.vN (X.fieldB Try.underlying44 rfl zz27 rfl rfl) rfl ?_
 refine Rg.weak [(23, .pointer (some ⟨b1, 0, none⟩))] ⟨rfl, trivial⟩ ?_
 refine Rg.vN (X.load1 Try.underlying27 rfl rfl (hs.cell 2 rfl 0 rfl)) rfl ?_
 obtain ⟨x38, hx39, h0⟩ := bind_s h0
 refine Rg.step rfl (Oq.call Try.call15 rfl rfl (c15 S25 y30 _ _ _ f36 (hs.enterP [1] (by decide) rfl (by cases g34 <;> rfl)) _ hx39) (fun v40 w41 h42 => ?_))
 obtain ⟨S43, g46, cur47, rfl, hs44, f48⟩ := h42
 have le45 := hs44.le
 have hs := hs.callP [1] rfl (by cases g34 <;> rfl) hs44
 refine Rg.nil ?_
 obtain rfl := some_s h0
 exact fun a ha => Cd.fallA (R := Re (Po8 S0 w0 _ b1 _)) ha Try.results8 ⟨_, rfl, S43, v32, g46, cur47, rfl, (hs.pick [0, 2] (by decide) rfl), f48⟩
noncomputable def slices_Clone_alarm_Due (s_0 : (List alarm_Due)) : Option (List alarm_Due) :=
 (app 16 ([] : List alarm_Due) s_0).bind fun y14 =>
 some y14
def Po20 (S0 : Mp) (w0 : World) (D : List Nat) (r : (List alarm_Due)) (v : Value) (w1 : World) : Prop :=
  ∃ (S1 : Mp) (v3 : Value) (g4 : Option Nat), v = v3 ∧ St w0 D S0 S1 [.app g4 v3 r.length 30 2] w1 ∧ Rd S1 2 R_alarm_Due v3 r
set_option maxHeartbeats 4000000 in
theorem c20 (S0 : Mp) {w0 : World} (hs : St w0 [] S0 S0 [] w0) (s_0 : (List alarm_Due)) (v1 : Value) (f2 : Rd S0 2 R_alarm_Due v1 s_0) (r : (List alarm_Due)) (h0 : slices_Clone_alarm_Due s_0 = some r) :
    Calls Try.prog 20 #[v1] w0 (Re (Po20 S0 w0 [] r)) := by
 unfold slices_Clone_alarm_Due at h0
 refine calls_of_cd Try.func20 rfl Try.ntmps20 rfl ?_
 refine Cd.sr ?_
 refine Rg.st rfl rfl ?_
 refine Rg.go ?_
 refine Cd.seq ?_
 refine Cd.sr ?_
 refine Rg.mv rfl rfl ?_
 refine Rg.vN (X.eqlNil f2 Try.underlying27 rfl) rfl ?_
 refine Rg.go ?_
 refine Cd.cond (t := isNil v1) rfl (fun hc5 => ?_) (fun hc5 => ?_)
 ·have h0 := clone_nil (nil_of f2 (Nat.le_of_ble_eq_true rfl) hc5) h0
  refine Cd.sr ?_
  refine Rg.st rfl rfl ?_
  refine Rg.go ?_
  refine Cd.ret ?_
  have hs := hs.nil 30 2
  obtain rfl := some_s h0
  exact fun a ha => Cd.retA (R := Re (Po20 S0 w0 _ _)) ha Try.results20 ⟨_, _, rfl, rfl, rfl⟩ ⟨_, rfl, S0, (.slice none 0 0), none, rfl, hs, (Rd.nil _ _ _)⟩
 ·skip
  refine Cd.sg ?_
  refine Cd.sr ?_
  refine Rg.step rfl (Oq.lit (sz := 2) (cs0 := []) (cells := []) hs Try.underlying27 ii30 rfl rfl rfl rfl rfl rfl rfl rfl rfl rfl (fun b7 w8 S9 hs le10 hE11 => ?_))
  have f13 : Rd S9 2 R_alarm_Due (.slice (some ⟨b7, 0, none⟩) 0 0) ([] : List alarm_Due) := Rd.of_cells (xs := ([] : List alarm_Due)) rfl hE11 (Nat.le_of_ble_eq_true rfl) (Nat.le_of_ble_eq_true rfl)
  refine Rg.mv rfl rfl ?_
  obtain ⟨y14, hx15, h0⟩ := bind_s h0
  refine Rg.step rfl (Oq.appendS hs 0 rfl Try.underlying27 ii30 rfl rfl rfl rfl rfl rfl f13 (f2.mono le10) hx15 rfl rfl rfl (fun v16 w17 S18 g19 hs le20 f21 => ?_))
  refine Rg.st rfl rfl ?_
  refine Rg.go ?_
  refine Cd.ret ?_
  obtain rfl := some_s h0
  exact fun a ha => Cd.retA (R := Re (Po20 S0 w0 _ _)) ha Try.results20 ⟨_, _, rfl, rfl, rfl⟩ ⟨_, rfl, S18, v16, g19, rfl, hs, f21⟩
noncomputable def alarm_Table_Due_l0 (t_0 : alarm_Table) (now_1 : Int) (q68 : Int) : Option (Flow Int ((List alarm_Due) × alarm_Table)) :=
 ((
  if (decide (q68 < (t_0.l_.length : Int))) = true then (
   (ix t_0.l_ q68).bind fun x86 =>
   some (decide (x86.At ≤ now_1)))
  else (
   some false) : Option Bool)).bind fun p78 =>
 if p78 = true then (
  some (Flow.next (add .i64 q68 1)))
 else (
  some (Flow.brk q68))
noncomputable def alarm_Table_Due (t_0 : alarm_Table) (now_1 : Int) : Option ((List alarm_Due) × alarm_Table) :=
 (loopF (fun sg => alarm_Table_Due_l0 t_0 now_1 sg) 0).bind fun fl13 =>
 Flow.el fl13 (fun s95 => (
  none))
 (fun s96 => (
  (cutTo t_0.l_ s96).bind fun y23 =>
  (slices_Clone_alarm_Due y23).bind fun x27 =>
  (cutFrom t_0.l_ s96).bind fun y45 =>
  (slices_Clone_alarm_Due y45).bind fun x49 =>
  some (x27, (⟨x49⟩ : alarm_Table))))
 (fun r97 => (
  none))
def Po9 (S0 : Mp) (w0 : World) (D : List Nat) (b1 : Nat) (r : ((List alarm_Due) × alarm_Table)) (v : Value) (w1 : World) : Prop :=
  ∃ (S1 : Mp) (v8 : Value) (g9 : Option Nat) (v10 : Value) (g11 : Option Nat) (cur12 : Array Value), v = v8 ∧ St w0 D S0 S1 [.app g9 v8 r.1.length 30 2, .row g11 cur12 30, .box b1 #[v10] 44] w1 ∧ Rd S1 2 R_alarm_Due v8 r.1 ∧ Rw S1 2 R_alarm_Due g11 cur12 v10 r.2.l_
set_option maxHeartbeats 4000000 in
theorem c9 (S0 : Mp) {w0 : World} (b1 : Nat) (t_0 : alarm_Table) (v2 : Value) (g3 : Option Nat) (cur4 : Array Value) (f5 : Rw S0 2 R_alarm_Due g3 cur4 v2 t_0.l_) (now_1 : Int) (hs : St w0 (b1 :: g3.toList) S0 S0 [.box b1 #[v2] 44, .row g3 cur4 30] w0) (r : ((List alarm_Due) × alarm_Table)) (h0 : alarm_Table_Due t_0 now_1 = some r) :
    Calls Try.prog 9 #[.pointer (some ⟨b1, 0, none⟩), .int .i64 now_1] w0 (Re (Po9 S0 w0 (b1 :: g3.toList) b1 r)) := by
 unfold alarm_Table_Due at h0
 refine calls_of_cd Try.func9 rfl Try.ntmps9 rfl ?_
 refine Cd.sr ?_
 refine Rg.st rfl rfl ?_
 refine Rg.go ?_
 refine Cd.sr ?_
 refine Rg.st rfl rfl ?_
 refine Rg.go ?_
 refine Cd.seq ?_
 obtain ⟨fl13, hfl14, h0⟩ := bind_s h0
 refine Cd.post (fun K w => ∃ (j15 : Int) (S16 : Mp), K = [(0, .pointer (some ⟨b1, 0, none⟩)), (5, .int .i64 j15)] ∧ fl13 = Flow.brk j15 ∧ Le S0 S16 ∧ St w0 (b1 :: g3.toList) S0 S16 [.box b1 #[v2] 44, .row g3 cur4 30] w) ?_ ?_
 ·rintro K19 w18 ⟨j15, S16, rfl, rfl, le17, hs⟩
  have h0 := el_brk h0
  try dsimp only at h0
  refine Cd.go ?_
  refine Cd.sr ?_
  refine Rg.mv rfl rfl ?_
  refine Rg.vN (X.nilCheck rfl) rfl ?_
  refine Rg.vN (X.fieldB Try.underlying44 rfl zz27 rfl rfl) rfl ?_
  refine Rg.vN (X.load1 Try.underlying27 rfl rfl (hs.cell 0 rfl 0 rfl)) rfl ?_
  refine Rg.mv rfl rfl ?_
  obtain ⟨y23, hx24, h0⟩ := bind_s h0
  obtain ⟨hb25, he26⟩ := cutTo_s hx24
  obtain ⟨v20, f21, hX22⟩ := mk_sliceH Try.underlying27 zz30 (Rw.lend (S := S16) (f5.mono le17)) hb25
  rw [he26] at f21
  refine Rg.vN (hX22 rfl rfl) rfl ?_
  obtain ⟨x27, hx28, h0⟩ := bind_s h0
  refine Rg.step rfl (Oq.call Try.call20 rfl rfl (c20 (S16.lend g3 (t_0.l_.length * 2) cur4) (St.start _ _ (hs.lend 1 rfl _)) _ _ f21 _ hx28) (fun v29 w30 h31 => ?_))
  obtain ⟨S32, v35, g37, rfl, hs33, f36⟩ := h31
  obtain ⟨S39, hs40, hx41⟩ := hs.unlend 1 rfl (D' := []) (fun _ _ h => by cases h) hs33
  have f36 := hx41 (List.mem_of_getElem? (i := 0) rfl) f36
  have le34 := hs40.le
  have hs := hs.call0 hs40
  refine Rg.st rfl rfl ?_
  refine Rg.go ?_
  refine Cd.sr ?_
  refine Rg.mv rfl rfl ?_
  refine Rg.mv rfl rfl ?_
  refine Rg.vN (X.nilCheck rfl) rfl ?_
  refine Rg.vN (X.fieldB Try.underlying44 rfl zz27 rfl rfl) rfl ?_
  refine Rg.vN (X.load1 Try.underlying27 rfl rfl (hs.cell 1 rfl 0 rfl)) rfl ?_
  refine Rg.mv rfl rfl ?_
  refine Rg.weak [(6, v29), (35, .pointer (some ⟨b1, 0, none⟩)), (39, v2), (40, .int .i64 j15)] ⟨rfl, rfl, rfl, rfl, trivial⟩ ?_
  obtain ⟨y45, hx46, h0⟩ := bind_s h0
  obtain ⟨hb47, he48⟩ := cutFrom_s hx46
  obtain ⟨v42, f43, hX44⟩ := mk_sliceL Try.underlying27 zz30 (Rw.lend (S := S39) (f5.mono (le17.trans le34))) hb47
  rw [he48] at f43
  refine Rg.vN (hX44 rfl rfl) rfl ?_
  obtain ⟨x49, hx50, h0⟩ := bind_s h0
  refine Rg.step rfl (Oq.call Try.call20 rfl rfl (c20 (S39.lend g3 (t_0.l_.length * 2) cur4) (St.start _ _ (hs.lend 2 rfl _)) _ _ f43 _ hx50) (fun v51 w52 h53 => ?_))
  obtain ⟨S54, v57, g59, rfl, hs55, f58⟩ := h53
  obtain ⟨S61, hs62, hx63⟩ := hs.unlend 2 rfl (D' := []) (fun _ _ h => by cases h) hs55
  have f58 := hx63 (List.mem_of_getElem? (i := 0) rfl) f58
  obtain ⟨S64, cur65, hs62, f66⟩ := hs62.unseal hs.has 0 rfl f58
  have le56 := hs62.le
  have hs := hs.call0 hs62
  refine Rg.vN (X.nilCheck rfl) rfl ?_
  refine Rg.vN (X.fieldB Try.underlying44 rfl zz27 rfl rfl) rfl ?_
  refine Rg.step rfl (Oq.store hs 2 rfl 0 zz27 rfl rfl (Rw.cells f66) (Rw.one f66) rfl [.row g59 cur65 30, .app g37 v29 x27.length 30 2, .box b1 #[v51] 44, .row g3 cur4 30] rfl (fun w67 hs => ?_))
  refine Rg.go ?_
  refine Cd.sr ?_
  refine Rg.mv rfl rfl ?_
  refine Rg.st rfl rfl ?_
  refine Rg.go ?_
  refine Cd.ret ?_
  obtain rfl := some_s h0
  exact fun a ha => Cd.retA (R := Re (Po9 S0 w0 _ b1 _)) ha Try.results9 ⟨_, _, rfl, rfl, rfl⟩ ⟨_, rfl, S64, v29, g37, v51, g59, cur65, rfl, (hs.pick [1, 0, 2] (by decide) rfl), (f36.mono le56), f66⟩
 ·skip
  refine Cd.weak [(0, .pointer (some ⟨b1, 0, none⟩)), (1, .int .i64 now_1), (5, .int .i64 0)] ⟨rfl, rfl, rfl, trivial⟩ ?_
  refine Cd.block (Cd.loop (fun sg => alarm_Table_Due_l0 t_0 now_1 sg) (fun (sg : Int) K w => ∃ (S69 : Mp), K = [(0, .pointer (some ⟨b1, 0, none⟩)), (1, .int .i64 now_1), (5, .int .i64 sg)] ∧ Le S0 S69 ∧ St w0 (b1 :: g3.toList) S0 S69 [.box b1 #[v2] 44, .row g3 cur4 30] w) 0 fl13 hfl14 ⟨S0, rfl, Le.refl _, hs⟩ ?_)
  rintro q68 fl71 K76 w75 hb72 ⟨S69, rfl, le70, hs⟩ hl73
  have h74 : alarm_Table_Due_l0 t_0 now_1 q68 = some fl71 := hb72
  unfold alarm_Table_Due_l0 at h74
  refine Cd.seq ?_
  refine Cd.seq ?_
  obtain ⟨p78, hp79, h74⟩ := bind_s h74
  refine Cd.post (fun K w => ∃ (S80 : Mp), K = [(0, .pointer (some ⟨b1, 0, none⟩)), (1, .int .i64 now_1), (5, .int .i64 q68), (25, .bool p78)] ∧ Le S69 S80 ∧ St w0 (b1 :: g3.toList) S0 S80 [.box b1 #[v2] 44, .row g3 cur4 30] w) ?_ ?_
  ·rintro K83 w81 ⟨S80, rfl, le82, hs⟩
   refine Cd.go ?_
   refine Cd.cond (t := p78) rfl (fun hc84 => ?_) (fun hc84 => ?_)
   ·have h74 := ite_t hc84 h74
    refine Cd.sg ?_
    refine Cd.block ?_
    refine Cd.region ?_
    refine Rg.mv rfl rfl ?_
    refine Rg.vN (X.add rfl rfl) rfl ?_
    refine Rg.st rfl rfl ?_
    refine Rg.nil ?_
    exact fun a ha => ⟨add .i64 q68 1, [(0, .pointer (some ⟨b1, 0, none⟩)), (1, .int .i64 now_1), (5, .int .i64 (add .i64 q68 1))], (some_s h74).symm, ha.weak ⟨rfl, rfl, rfl, trivial⟩, S80, rfl, (le70.trans le82), hs⟩
   ·have h74 := ite_f hc84 h74
    refine Cd.exit ?_
    obtain rfl := some_s h74
    have e := hl73 (fun _ e => by cases e)
    exact fun a ha => ⟨[(0, .pointer (some ⟨b1, 0, none⟩)), (5, .int .i64 q68)], ha.weak ⟨rfl, rfl, trivial⟩, _, S80, rfl, e.symm, (le70.trans le82), hs⟩
  ·skip
   refine Cd.region ?_
   refine Rg.mv rfl rfl ?_
   refine Rg.mv rfl rfl ?_
   refine Rg.vN (X.nilCheck rfl) rfl ?_
   refine Rg.vN (X.fieldB Try.underlying44 rfl zz27 rfl rfl) rfl ?_
   refine Rg.vN (X.load1 Try.underlying27 rfl rfl (hs.cell 0 rfl 0 rfl)) rfl ?_
   refine Rg.vN (X.lenRw Try.underlying27 rfl (f5.mono le70)) rfl ?_
   refine Rg.vN (X.lss rfl rfl) rfl ?_
   refine Rg.mv rfl rfl ?_
   refine Rg.vT rfl rfl rfl (fun hW => X.move rfl) ?_
   refine Rg.vT rfl rfl rfl (fun hW => X.nilCheck (ev_g rfl hW)) ?_
   refine Rg.vT rfl rfl rfl (fun hW => X.fieldB Try.underlying44 rfl zz27 (ev_g rfl hW) rfl) ?_
   refine Rg.vT rfl rfl rfl (fun hW => X.load1 Try.underlying27 rfl (ev_g rfl hW) (hs.cell 0 rfl 0 rfl)) ?_
   refine Rg.vT rfl rfl rfl (fun hW => X.move rfl) ?_
   refine Rg.weak [(0, .pointer (some ⟨b1, 0, none⟩)), (1, .int .i64 now_1), (5, .int .i64 q68), (14, .bool (decide (q68 < (t_0.l_.length : Int)))), (18, gv (decide (q68 < (t_0.l_.length : Int))) (v2)), (19, gv (decide (q68 < (t_0.l_.length : Int))) (.int .i64 q68))] ⟨rfl, rfl, rfl, rfl, rfl, rfl, trivial⟩ ?_
   refine Rg.split (c := decide (q68 < (t_0.l_.length : Int))) (tj := 14) rfl (fun hc85 => ?_) (fun hc85 => ?_)
   ·have hp79 := ite_t hc85 hp79
    refine Rg.weak [(0, .pointer (some ⟨b1, 0, none⟩)), (1, .int .i64 now_1), (5, .int .i64 q68), (14, .bool true), (18, v2), (19, .int .i64 q68)] ⟨rfl, rfl, rfl, rfl, get_g rfl hc85, get_g rfl hc85, trivial⟩ ?_
    refine Rg.gon rfl rfl rfl ?_
    obtain ⟨x86, hx87, hp79⟩ := bind_s hp79
    obtain ⟨b88, vals89, hg90, hl91, hR92, hC93, hX94⟩ := mk_rowix Try.underlying27 zz30 (f5.mono le70) hx87
    subst hg90
    unfold R_alarm_Due at hR92
    subst hR92
    refine Rg.vN (hX94 rfl rfl) rfl ?_
    refine Rg.gon rfl rfl rfl ?_
    refine Rg.vN (X.fieldB Try.underlying30 rfl zz2 rfl rfl) rfl ?_
    refine Rg.gon rfl rfl rfl ?_
    refine Rg.vN (X.load1 Try.underlying2 rfl rfl (hs.rowcell 1 rfl (q68.toNat * 2 + 0) (hC93 0 _ rfl))) rfl ?_
    refine Rg.gon rfl rfl rfl ?_
    refine Rg.mv rfl rfl ?_
    refine Rg.gon rfl rfl rfl ?_
    refine Rg.vN (X.leq rfl rfl) rfl ?_
    refine Rg.vN (X.pickT rfl rfl) rfl ?_
    refine Rg.nil ?_
    have e := some_s hp79
    subst e
    exact fun a ha => ⟨[(0, .pointer (some ⟨b1, 0, none⟩)), (1, .int .i64 now_1), (5, .int .i64 q68), (25, .bool (decide (x86.At ≤ now_1)))], ha.weak ⟨rfl, rfl, rfl, rfl, trivial⟩, S69, rfl, Le.refl _, hs⟩
   ·have hp79 := ite_f hc85 hp79
    refine Rg.weak [(0, .pointer (some ⟨b1, 0, none⟩)), (1, .int .i64 now_1), (5, .int .i64 q68), (14, .bool false), (18, undef), (19, undef)] ⟨rfl, rfl, rfl, rfl, get_u rfl (not_f hc85), get_u rfl (not_f hc85), trivial⟩ ?_
    refine Rg.vO rfl rfl rfl rfl ?_
    refine Rg.vO rfl rfl rfl rfl ?_
    refine Rg.vO rfl rfl rfl rfl ?_
    refine Rg.vO rfl rfl rfl rfl ?_
    refine Rg.vO rfl rfl rfl rfl ?_
    refine Rg.vN (X.pickF rfl rfl) rfl ?_
    refine Rg.nil ?_
    have e := some_s hp79
    subst e
    exact fun a ha => ⟨[(0, .pointer (some ⟨b1, 0, none⟩)), (1, .int .i64 now_1), (5, .int .i64 q68), (25, .bool false)], ha.weak ⟨rfl, rfl, rfl, rfl, trivial⟩, S69, rfl, Le.refl _, hs⟩
noncomputable def alarm_Table_Len (t_0 : alarm_Table) : Option (Int × alarm_Table) :=
 some ((t_0.l_.length : Int), t_0)
def Po10 (S0 : Mp) (w0 : World) (D : List Nat) (b1 : Nat) (r : (Int × alarm_Table)) (v : Value) (w1 : World) : Prop :=
  ∃ (S1 : Mp) (v8 : Value) (g9 : Option Nat) (cur10 : Array Value), v = .int .i64 r.1 ∧ St w0 D S0 S1 [.row g9 cur10 30, .box b1 #[v8] 44] w1 ∧ Rw S1 2 R_alarm_Due g9 cur10 v8 r.2.l_
set_option maxHeartbeats 4000000 in
theorem c10 (S0 : Mp) {w0 : World} (b1 : Nat) (t_0 : alarm_Table) (v2 : Value) (g3 : Option Nat) (cur4 : Array Value) (f5 : Rw S0 2 R_alarm_Due g3 cur4 v2 t_0.l_) (hs : St w0 (b1 :: g3.toList) S0 S0 [.box b1 #[v2] 44, .row g3 cur4 30] w0) (r : (Int × alarm_Table)) (h0 : alarm_Table_Len t_0 = some r) :
    Calls Try.prog 10 #[.pointer (some ⟨b1, 0, none⟩)] w0 (Re (Po10 S0 w0 (b1 :: g3.toList) b1 r)) := by
 unfold alarm_Table_Len at h0
 refine calls_of_cd Try.func10 rfl Try.ntmps10 rfl ?_
 refine Cd.sr ?_
 refine Rg.st rfl rfl ?_
 refine Rg.go ?_
 refine Cd.sr ?_
 refine Rg.mv rfl rfl ?_
 refine Rg.vN (X.nilCheck rfl) rfl ?_
 refine Rg.vN (X.fieldB Try.underlying44 rfl zz27 rfl rfl) rfl ?_
 refine Rg.vN (X.load1 Try.underlying27 rfl rfl (hs.cell 0 rfl 0 rfl)) rfl ?_
 refine Rg.vN (X.lenRw Try.underlying27 rfl f5) rfl ?_
 refine Rg.st rfl rfl ?_
 refine Rg.go ?_
 refine Cd.ret ?_
 obtain rfl := some_s h0
 exact fun a ha => Cd.retA (R := Re (Po10 S0 w0 _ b1 _)) ha Try.results10 ⟨_, _, rfl, rfl, rfl⟩ ⟨_, rfl, S0, v2, g3, cur4, rfl, (hs.pick [1, 0] (by decide) rfl), f5⟩
noncomputable def alarm_Table_Next (t_0 : alarm_Table) : Option (alarm_Due × Bool × alarm_Table) :=
 if ((t_0.l_.length : Int) == 0) = true then (
  some ((⟨0, 0⟩ : alarm_Due), false, t_0))
 else (
  (ix t_0.l_ 0).bind fun x16 =>
  some ((⟨x16.At, x16.Key⟩ : alarm_Due), true, t_0))
def Po21 (S0 : Mp) (w0 : World) (D : List Nat) (b1 : Nat) (r : (alarm_Due × Bool × alarm_Table)) (v : Value) (w1 : World) : Prop :=
  ∃ (S1 : Mp) (v8 : Value) (g9 : Option Nat) (cur10 : Array Value), v = .tuple #[.agg (#[.int .i64 r.1.At, .int .u64 r.1.Key]), .bool r.2.1] ∧ St w0 D S0 S1 [.row g9 cur10 30, .box b1 #[v8] 44] w1 ∧ Rw S1 2 R_alarm_Due g9 cur10 v8 r.2.2.l_
set_option maxHeartbeats 4000000 in
theorem c21 (S0 : Mp) {w0 : World} (b1 : Nat) (t_0 : alarm_Table) (v2 : Value) (g3 : Option Nat) (cur4 : Array Value) (f5 : Rw S0 2 R_alarm_Due g3 cur4 v2 t_0.l_) (hs : St w0 (b1 :: g3.toList) S0 S0 [.box b1 #[v2] 44, .row g3 cur4 30] w0) (r : (alarm_Due × Bool × alarm_Table)) (h0 : alarm_Table_Next t_0 = some r) :
    Calls Try.prog 21 #[.pointer (some ⟨b1, 0, none⟩)] w0 (Re (Po21 S0 w0 (b1 :: g3.toList) b1 r)) := by
 unfold alarm_Table_Next at h0
 refine calls_of_cd Try.func21 rfl Try.ntmps21 rfl ?_
 refine Cd.sr ?_
 refine Rg.step rfl (Oq.alloc (cs := #[.int .i64 0, .int .u64 0]) hs ii30 rfl rfl rfl (fun b11 w12 hs => ?_))
 refine Rg.st rfl rfl ?_
 refine Rg.go ?_
 refine Cd.seq ?_
 refine Cd.sr ?_
 refine Rg.mv rfl rfl ?_
 refine Rg.vN (X.nilCheck rfl) rfl ?_
 refine Rg.vN (X.fieldB Try.underlying44 rfl zz27 rfl rfl) rfl ?_
 refine Rg.vN (X.load1 Try.underlying27 rfl rfl (hs.cell 1 rfl 0 rfl)) rfl ?_
 refine Rg.vN (X.lenRw Try.underlying27 rfl f5) rfl ?_
 refine Rg.vN (X.eql rfl rfl) rfl ?_
 refine Rg.go ?_
 refine Cd.cond (t := (t_0.l_.length : Int) == 0) rfl (fun hc14 => ?_) (fun hc14 => ?_)
 ·have h0 := ite_t hc14 h0
  refine Cd.sr ?_
  refine Rg.vN (X.build (zc := [.int .i64 0, .int .u64 0]) (cells := [.int .i64 0, .int .u64 0]) ii30 rfl rfl Try.underlying30 (pp30 _ Try.underlying30) rfl rfl) rfl ?_
  refine Rg.step rfl (Oq.storeN hs 0 rfl (vals := [.int .i64 0, .int .u64 0]) zz30 rfl rfl (one_all ⟨rfl, rfl, trivial⟩) rfl [.box b11 #[.int .i64 0, .int .u64 0] 30, .box b1 #[v2] 44, .row g3 cur4 30] rfl (fun w15 hs => ?_))
  refine Rg.st rfl rfl ?_
  refine Rg.go ?_
  refine Cd.ret ?_
  obtain rfl := some_s h0
  exact fun a ha => Cd.retA (R := Re (Po21 S0 w0 _ b1 _)) ha Try.results21 ⟨_, _, _, rfl, rfl, run_lvN (vals := [.int .i64 0, .int .u64 0]) Try.underlying30 rfl zz30 (hs.range 0 rfl 0 rfl), ⟨_, _, rfl, rfl, rfl⟩⟩ ⟨_, rfl, S0, v2, g3, cur4, rfl, (hs.pick [2, 1] (by decide) rfl), f5⟩
 ·have h0 := ite_f hc14 h0
  refine Cd.sg ?_
  refine Cd.sr ?_
  refine Rg.mv rfl rfl ?_
  refine Rg.vN (X.nilCheck rfl) rfl ?_
  refine Rg.vN (X.fieldB Try.underlying44 rfl zz27 rfl rfl) rfl ?_
  refine Rg.vN (X.load1 Try.underlying27 rfl rfl (hs.cell 1 rfl 0 rfl)) rfl ?_
  obtain ⟨x16, hx17, h0⟩ := bind_s h0
  obtain ⟨b18, vals19, hg20, hl21, hR22, hC23, hX24⟩ := mk_rowix Try.underlying27 zz30 f5 hx17
  subst hg20
  unfold R_alarm_Due at hR22
  subst hR22
  refine Rg.vN (hX24 rfl rfl) rfl ?_
  refine Rg.vN (X.loadN (vals := [.int .i64 x16.At, .int .u64 x16.Key]) Try.underlying30 rfl zz30 rfl (hs.rowrange 2 rfl hC23)) rfl ?_
  refine Rg.step rfl (Oq.storeN hs 0 rfl (vals := [.int .i64 x16.At, .int .u64 x16.Key]) zz30 rfl rfl (one_all ⟨rfl, rfl, trivial⟩) rfl [.box b11 #[.int .i64 x16.At, .int .u64 x16.Key] 30, .box b1 #[v2] 44, .row (some b18) cur4 30] rfl (fun w25 hs => ?_))
  refine Rg.st rfl rfl ?_
  refine Rg.go ?_
  refine Cd.ret ?_
  obtain rfl := some_s h0
  exact fun a ha => Cd.retA (R := Re (Po21 S0 w0 _ b1 _)) ha Try.results21 ⟨_, _, _, rfl, rfl, run_lvN (vals := [.int .i64 x16.At, .int .u64 x16.Key]) Try.underlying30 rfl zz30 (hs.range 0 rfl 0 rfl), ⟨_, _, rfl, rfl, rfl⟩⟩ ⟨_, rfl, S0, v2, (some b18), cur4, rfl, (hs.pick [2, 1] (by decide) rfl), f5⟩
noncomputable def limelightlaw12_known : Option Bool :=
 (alarm_New ).bind fun x1 =>
 (alarm_Table_Next (⟨x1.l_⟩ : alarm_Table)).bind fun x16 =>
 (alarm_Table_Clear (⟨x16.2.2.l_⟩ : alarm_Table) 1).bind fun x32 =>
 (alarm_Table_Set (⟨x32.2.l_⟩ : alarm_Table) 1 5).bind fun x44 =>
 (alarm_Table_Set (⟨x44.l_⟩ : alarm_Table) 1 7).bind fun x56 =>
 (alarm_Table_Due (⟨x56.l_⟩ : alarm_Table) 6).bind fun x68 =>
 (alarm_Table_Set (⟨x68.2.l_⟩ : alarm_Table) 2 7).bind fun x84 =>
 (alarm_Table_Due (⟨x84.l_⟩ : alarm_Table) 7).bind fun x96 =>
 ((
  if ((((!x16.2.1) && (!x32.1)) && ((x68.1.length : Int) == 0)) && ((x96.1.length : Int) == 2)) = true then (
   (ix x96.1 0).bind fun x120 =>
   if ((x120.At == 7) && ((x120.Key == 1) && true)) = true then (
    (alarm_Table_Len (⟨x96.2.l_⟩ : alarm_Table)).bind fun x128 =>
    some (x128.1 == 0))
   else (
    some false))
  else (
   some false) : Option Bool)).bind fun p113 =>
 some p113
def Po11 (S0 : Mp) (w0 : World) (D : List Nat) (r : Bool) (v : Value) (w1 : World) : Prop :=
  ∃ (S1 : Mp), v = .bool r ∧ St w0 D S0 S1 [] w1
set_option maxHeartbeats 4000000 in
theorem c11 (S0 : Mp) {w0 : World} (hs : St w0 [] S0 S0 [] w0)  (r : Bool) (h0 : limelightlaw12_known = some r) :
    Calls Try.prog 11 #[] w0 (Re (Po11 S0 w0 [] r)) := by
 unfold limelightlaw12_known at h0
 refine calls_of_cd Try.func11 rfl Try.ntmps11 rfl ?_
 refine Cd.sr ?_
 refine Rg.st rfl rfl ?_
 refine Rg.go ?_
 refine Cd.sr ?_
 obtain ⟨x1, hx2, h0⟩ := bind_s h0
 refine Rg.step rfl (Oq.call Try.call7 rfl rfl (c7 S0 (St.start _ _ hs.has)  _ hx2) (fun v3 w4 h5 => ?_))
 obtain ⟨S6, b9, v11, g12, cur13, rfl, hs7, f14⟩ := h5
 have le8 := hs7.le
 have hs := hs.call0 hs7
 refine Rg.st rfl rfl ?_
 refine Rg.go ?_
 refine Cd.seq ?_
 refine Cd.sr ?_
 refine Rg.mv rfl rfl ?_
 refine Rg.vN (X.eqlNilP Try.underlying23 rfl) rfl ?_
 refine Rg.go ?_
 refine Cd.cond0 rfl ?_
 refine Cd.sg ?_
 refine Cd.sr ?_
 refine Rg.mv rfl rfl ?_
 obtain ⟨x16, hx17, h0⟩ := bind_s h0
 refine Rg.step rfl (Oq.call Try.call21 rfl rfl (c21 S6 _ (⟨x1.l_⟩ : alarm_Table) _ _ _ f14 (hs.enterP [1, 0] (by decide) rfl (by cases g12 <;> rfl)) _ hx17) (fun v18 w19 h20 => ?_))
 obtain ⟨S21, v24, g25, cur26, rfl, hs22, f27⟩ := h20
 have le23 := hs22.le
 have hs := hs.callP [1, 0] rfl (by cases g12 <;> rfl) hs22
 refine Rg.mv rfl rfl ?_
 refine Rg.vN (X.extract rfl rfl) rfl ?_
 refine Rg.vN (X.extract rfl rfl) rfl ?_
 refine Rg.step rfl (Oq.alloc (cs := #[.int .i64 0, .int .u64 0]) hs ii30 rfl rfl rfl (fun b28 w29 hs => ?_))
 refine Rg.step rfl (Oq.storeN hs 0 rfl (vals := [.int .i64 x16.1.At, .int .u64 x16.1.Key]) zz30 rfl rfl (one_all ⟨rfl, rfl, trivial⟩) rfl [.box b28 #[.int .i64 x16.1.At, .int .u64 x16.1.Key] 30, .row g25 cur26 30, .box b9 #[v24] 44] rfl (fun w31 hs => ?_))
 refine Rg.st rfl rfl ?_
 refine Rg.go ?_
 refine Cd.sr ?_
 refine Rg.mv rfl rfl ?_
 obtain ⟨x32, hx33, h0⟩ := bind_s h0
 refine Rg.step rfl (Oq.call Try.call14 rfl rfl (c14 S21 _ (⟨x16.2.2.l_⟩ : alarm_Table) _ _ _ f27 _ (hs.enterP [2, 1] (by decide) rfl (by cases g25 <;> rfl)) _ hx33) (fun v34 w35 h36 => ?_))
 obtain ⟨S37, v40, g41, cur42, rfl, hs38, f43⟩ := h36
 have le39 := hs38.le
 have hs := hs.callP [2, 1] rfl (by cases g25 <;> rfl) hs38
 refine Rg.st rfl rfl ?_
 refine Rg.go ?_
 refine Cd.sr ?_
 refine Rg.mv rfl rfl ?_
 obtain ⟨x44, hx45, h0⟩ := bind_s h0
 refine Rg.step rfl (Oq.call Try.call8 rfl rfl (c8 S37 _ (⟨x32.2.l_⟩ : alarm_Table) _ _ _ f43 _ _ (hs.enterP [1, 0] (by decide) rfl (by cases g41 <;> rfl)) _ hx45) (fun v46 w47 h48 => ?_))
 obtain ⟨S49, v52, g53, cur54, rfl, hs50, f55⟩ := h48
 have le51 := hs50.le
 have hs := hs.callP [1, 0] rfl (by cases g41 <;> rfl) hs50
 refine Rg.go ?_
 refine Cd.sr ?_
 refine Rg.mv rfl rfl ?_
 obtain ⟨x56, hx57, h0⟩ := bind_s h0
 refine Rg.step rfl (Oq.call Try.call8 rfl rfl (c8 S49 _ (⟨x44.l_⟩ : alarm_Table) _ _ _ f55 _ _ (hs.enterP [1, 0] (by decide) rfl (by cases g53 <;> rfl)) _ hx57) (fun v58 w59 h60 => ?_))
 obtain ⟨S61, v64, g65, cur66, rfl, hs62, f67⟩ := h60
 have le63 := hs62.le
 have hs := hs.callP [1, 0] rfl (by cases g53 <;> rfl) hs62
 refine Rg.go ?_
 refine Cd.sr ?_
 refine Rg.mv rfl rfl ?_
 obtain ⟨x68, hx69, h0⟩ := bind_s h0
 refine Rg.step rfl (Oq.call Try.call9 rfl rfl (c9 S61 _ (⟨x56.l_⟩ : alarm_Table) _ _ _ f67 _ (hs.enterP [1, 0] (by decide) rfl (by cases g65 <;> rfl)) _ hx69) (fun v70 w71 h72 => ?_))
 obtain ⟨S73, v76, g78, v80, g81, cur82, rfl, hs74, f77, f83⟩ := h72
 have le75 := hs74.le
 have hs := hs.callP [1, 0] rfl (by cases g65 <;> rfl) hs74
 refine Rg.vN (X.lenR Try.underlying27 rfl f77) rfl ?_
 refine Rg.st rfl rfl ?_
 refine Rg.go ?_
 refine Cd.weak [(1, .pointer (some ⟨b9, 0, none⟩)), (3, .bool x16.2.1), (4, .bool x32.1), (5, .int .i64 (x68.1.length : Int))] ⟨rfl, rfl, rfl, rfl, trivial⟩ ?_
 refine Cd.sr ?_
 refine Rg.mv rfl rfl ?_
 obtain ⟨x84, hx85, h0⟩ := bind_s h0
 refine Rg.step rfl (Oq.call Try.call8 rfl rfl (c8 S73 _ (⟨x68.2.l_⟩ : alarm_Table) _ _ _ f83 _ _ (hs.enterP [2, 1] (by decide) rfl (by cases g81 <;> rfl)) _ hx85) (fun v86 w87 h88 => ?_))
 obtain ⟨S89, v92, g93, cur94, rfl, hs90, f95⟩ := h88
 have le91 := hs90.le
 have hs := hs.callP [2, 1] rfl (by cases g81 <;> rfl) hs90
 refine Rg.go ?_
 refine Cd.sr ?_
 refine Rg.mv rfl rfl ?_
 obtain ⟨x96, hx97, h0⟩ := bind_s h0
 refine Rg.step rfl (Oq.call Try.call9 rfl rfl (c9 S89 _ (⟨x84.l_⟩ : alarm_Table) _ _ _ f95 _ (hs.enterP [1, 0] (by decide) rfl (by cases g93 <;> rfl)) _ hx97) (fun v98 w99 h100 => ?_))
 obtain ⟨S101, v104, g106, v108, g109, cur110, rfl, hs102, f105, f111⟩ := h100
 have le103 := hs102.le
 have hs := hs.callP [1, 0] rfl (by cases g93 <;> rfl) hs102
 refine Rg.st rfl rfl ?_
 refine Rg.go ?_
 refine Cd.seq ?_
 obtain ⟨p113, hp114, h0⟩ := bind_s h0
 refine Cd.post (fun K w => ∃ (S115 : Mp), K = [(0, .bool p113)] ∧ Le S101 S115 ∧ St w0 [] S0 S115 [] w) ?_ ?_
 ·rintro K118 w116 ⟨S115, rfl, le117, hs⟩
  refine Cd.go ?_
  refine Cd.ret ?_
  obtain rfl := some_s h0
  exact fun a ha => Cd.retA (R := Re (Po11 S0 w0 _ _)) ha Try.results11 ⟨_, _, rfl, rfl, rfl⟩ ⟨_, rfl, S115, rfl, hs⟩
 ·skip
  refine Cd.region ?_
  refine Rg.mv rfl rfl ?_
  refine Rg.vN (X.not rfl) rfl ?_
  refine Rg.mv rfl rfl ?_
  refine Rg.vT rfl rfl rfl (fun hW => X.move rfl) ?_
  refine Rg.vT rfl rfl rfl (fun hW => X.not (ev_g rfl hW)) ?_
  refine Rg.vN (X.pickAnd rfl rfl rfl) rfl ?_
  refine Rg.mv rfl rfl ?_
  refine Rg.vT rfl rfl rfl (fun hW => X.move rfl) ?_
  refine Rg.weak [(1, .pointer (some ⟨b9, 0, none⟩)), (6, v98), (34, .bool ((!x16.2.1) && (!x32.1))), (35, gv ((!x16.2.1) && (!x32.1)) (.int .i64 (x68.1.length : Int)))] ⟨rfl, rfl, rfl, rfl, trivial⟩ ?_
  refine Rg.vT rfl rfl rfl (fun hW => X.eql (ev_g rfl hW) rfl) ?_
  refine Rg.vN (X.pickAnd rfl rfl rfl) rfl ?_
  refine Rg.mv rfl rfl ?_
  refine Rg.vT rfl rfl rfl (fun hW => X.move rfl) ?_
  refine Rg.vT rfl rfl rfl (fun hW => X.lenR Try.underlying27 (ev_g rfl hW) f105) ?_
  refine Rg.vT rfl rfl rfl (fun hW => X.eql (ev_g rfl hW) rfl) ?_
  refine Rg.vN (X.pickAnd rfl rfl rfl) rfl ?_
  refine Rg.mv rfl rfl ?_
  refine Rg.vT rfl rfl rfl (fun hW => X.move rfl) ?_
  refine Rg.split (c := (((!x16.2.1) && (!x32.1)) && ((x68.1.length : Int) == 0)) && ((x96.1.length : Int) == 2)) (tj := 43) rfl (fun hc119 => ?_) (fun hc119 => ?_)
  ·have hp114 := ite_t hc119 hp114
   refine Rg.weak [(1, .pointer (some ⟨b9, 0, none⟩)), (43, .bool true), (44, v98)] ⟨rfl, rfl, get_g rfl hc119, trivial⟩ ?_
   refine Rg.gon rfl rfl rfl ?_
   obtain ⟨x120, hx121, hp114⟩ := bind_s hp114
   obtain ⟨ad122, vals123, _, hR124, hE125, hX126⟩ := mk_index Try.underlying27 zz30 (by decide) f105 hx121
   unfold R_alarm_Due at hR124
   subst hR124
   refine Rg.vN (hX126 rfl rfl) rfl ?_
   refine Rg.gon rfl rfl rfl ?_
   refine Rg.vN (X.loadE (vals := [.int .i64 x120.At, .int .u64 x120.Key]) hs.has Try.underlying30 rfl zz30 rfl hE125) rfl ?_
   refine Rg.gon rfl rfl rfl ?_
   refine Rg.vN (X.build (zc := [.int .i64 0, .int .u64 0]) (cells := [.int .i64 7, .int .u64 1]) ii30 rfl rfl Try.underlying30 (pp30 _ Try.underlying30) ⟨_, [.int .i64 7], _, rfl, rfl, rfl, ⟨_, [.int .u64 1], _, rfl, rfl, rfl, rfl⟩⟩ rfl) rfl ?_
   refine Rg.gon rfl rfl rfl ?_
   refine Rg.vN (X.eqlA eqg30 (eqs30 _ _ _ _) rfl rfl) rfl ?_
   refine Rg.vN (X.pickT rfl rfl) rfl ?_
   refine Rg.mv rfl rfl ?_
   refine Rg.vT rfl rfl rfl (fun hW => X.move rfl) ?_
   refine Rg.split (c := ((x120.At == 7) && ((x120.Key == 1) && true))) (tj := 50) rfl (fun hc127 => ?_) (fun hc127 => ?_)
   ·have hp114 := ite_t hc127 hp114
    refine Rg.weak [(50, .bool true), (51, .pointer (some ⟨b9, 0, none⟩))] ⟨rfl, get_g rfl hc127, trivial⟩ ?_
    refine Rg.gon rfl rfl rfl ?_
    obtain ⟨x128, hx129, hp114⟩ := bind_s hp114
    refine Rg.step rfl (Oq.call Try.call10 rfl rfl (c10 S101 _ (⟨x96.2.l_⟩ : alarm_Table) _ _ _ f111 (hs.enterP [2, 1] (by decide) rfl (by cases g109 <;> rfl)) _ hx129) (fun v130 w131 h132 => ?_))
    obtain ⟨S133, v136, g137, cur138, rfl, hs134, f139⟩ := h132
    have le135 := hs134.le
    have hs := hs.callP [2, 1] rfl (by cases g109 <;> rfl) hs134
    refine Rg.gon rfl rfl rfl ?_
    refine Rg.vN (X.eql rfl rfl) rfl ?_
    refine Rg.vN (X.pickT rfl rfl) rfl ?_
    refine Rg.st rfl rfl ?_
    refine Rg.nil ?_
    have e := some_s hp114
    subst e
    exact fun a ha => ⟨[(0, .bool (x128.1 == 0))], ha.weak ⟨rfl, trivial⟩, S133, rfl, le135, (hs.pick [] (by decide) rfl)⟩
   ·have hp114 := ite_f hc127 hp114
    refine Rg.weak [(50, .bool false), (51, undef)] ⟨rfl, get_u rfl (not_f hc127), trivial⟩ ?_
    refine Rg.vO rfl rfl rfl rfl ?_
    refine Rg.vO rfl rfl rfl rfl ?_
    refine Rg.vN (X.pickF rfl rfl) rfl ?_
    refine Rg.st rfl rfl ?_
    refine Rg.nil ?_
    have e := some_s hp114
    subst e
    exact fun a ha => ⟨[(0, .bool false)], ha.weak ⟨rfl, trivial⟩, S101, rfl, Le.refl _, (hs.pick [] (by decide) rfl)⟩
  ·have hp114 := ite_f hc119 hp114
   refine Rg.weak [(1, .pointer (some ⟨b9, 0, none⟩)), (43, .bool false), (44, undef)] ⟨rfl, rfl, get_u rfl (not_f hc119), trivial⟩ ?_
   refine Rg.vO rfl rfl rfl rfl ?_
   refine Rg.vO rfl rfl rfl rfl ?_
   refine Rg.vO rfl rfl rfl rfl ?_
   refine Rg.vO rfl rfl rfl rfl ?_
   refine Rg.vN (X.pickF rfl rfl) rfl ?_
   refine Rg.mv rfl rfl ?_
   refine Rg.vO rfl rfl rfl rfl ?_
   refine Rg.vO rfl rfl rfl rfl ?_
   refine Rg.vO rfl rfl rfl rfl ?_
   refine Rg.vN (X.pickF rfl rfl) rfl ?_
   refine Rg.st rfl rfl ?_
   refine Rg.nil ?_
   have e := some_s hp114
   subst e
   exact fun a ha => ⟨[(0, .bool false)], ha.weak ⟨rfl, trivial⟩, S101, rfl, Le.refl _, (hs.pick [] (by decide) rfl)⟩
noncomputable def alarm_Table_At (t_0 : alarm_Table) (key_1 : Int) : Option (Int × Bool × alarm_Table) :=
 (alarm_Table_find (⟨t_0.l_⟩ : alarm_Table) key_1).bind fun x11 =>
 if (decide (x11.1 < 0)) = true then (
  some (0, false, x11.2))
 else (
  (ix x11.2.l_ x11.1).bind fun x24 =>
  some (x24.At, true, x11.2))
def Po13 (S0 : Mp) (w0 : World) (D : List Nat) (b1 : Nat) (r : (Int × Bool × alarm_Table)) (v : Value) (w1 : World) : Prop :=
  ∃ (S1 : Mp) (v8 : Value) (g9 : Option Nat) (cur10 : Array Value), v = .tuple #[.int .i64 r.1, .bool r.2.1] ∧ St w0 D S0 S1 [.row g9 cur10 30, .box b1 #[v8] 44] w1 ∧ Rw S1 2 R_alarm_Due g9 cur10 v8 r.2.2.l_
set_option maxHeartbeats 4000000 in
theorem c13 (S0 : Mp) {w0 : World} (b1 : Nat) (t_0 : alarm_Table) (v2 : Value) (g3 : Option Nat) (cur4 : Array Value) (f5 : Rw S0 2 R_alarm_Due g3 cur4 v2 t_0.l_) (key_1 : Int) (hs : St w0 (b1 :: g3.toList) S0 S0 [.box b1 #[v2] 44, .row g3 cur4 30] w0) (r : (Int × Bool × alarm_Table)) (h0 : alarm_Table_At t_0 key_1 = some r) :
    Calls Try.prog 13 #[.pointer (some ⟨b1, 0, none⟩), .int .u64 key_1] w0 (Re (Po13 S0 w0 (b1 :: g3.toList) b1 r)) := by
 unfold alarm_Table_At at h0
 refine calls_of_cd Try.func13 rfl Try.ntmps13 rfl ?_
 refine Cd.sr ?_
 refine Rg.st rfl rfl ?_
 refine Rg.st rfl rfl ?_
 refine Rg.go ?_
 refine Cd.sr ?_
 refine Rg.mv rfl rfl ?_
 refine Rg.mv rfl rfl ?_
 obtain ⟨x11, hx12, h0⟩ := bind_s h0
 refine Rg.step rfl (Oq.call Try.call24 rfl rfl (c24 S0 _ (⟨t_0.l_⟩ : alarm_Table) _ _ _ f5 _ (hs.enterP [0, 1] (by decide) rfl (by cases g3 <;> rfl)) _ hx12) (fun v13 w14 h15 => ?_))
 obtain ⟨S16, v19, g20, cur21, rfl, hs17, f22⟩ := h15
 have le18 := hs17.le
 have hs := hs.callP [0, 1] rfl (by cases g3 <;> rfl) hs17
 refine Rg.st rfl rfl ?_
 refine Rg.go ?_
 refine Cd.seq ?_
 refine Cd.sr ?_
 refine Rg.mv rfl rfl ?_
 refine Rg.vN (X.lss rfl rfl) rfl ?_
 refine Rg.go ?_
 refine Cd.cond (t := decide (x11.1 < 0)) rfl (fun hc23 => ?_) (fun hc23 => ?_)
 ·have h0 := ite_t hc23 h0
  refine Cd.sr ?_
  refine Rg.st rfl rfl ?_
  refine Rg.st rfl rfl ?_
  refine Rg.go ?_
  refine Cd.ret ?_
  obtain rfl := some_s h0
  exact fun a ha => Cd.retA (R := Re (Po13 S0 w0 _ b1 _)) ha Try.results13 ⟨_, _, rfl, rfl, ⟨_, _, rfl, rfl, rfl⟩⟩ ⟨_, rfl, S16, v19, g20, cur21, rfl, hs, f22⟩
 ·have h0 := ite_f hc23 h0
  refine Cd.sg ?_
  refine Cd.sr ?_
  refine Rg.mv rfl rfl ?_
  refine Rg.vN (X.nilCheck rfl) rfl ?_
  refine Rg.vN (X.fieldB Try.underlying44 rfl zz27 rfl rfl) rfl ?_
  refine Rg.vN (X.load1 Try.underlying27 rfl rfl (hs.cell 1 rfl 0 rfl)) rfl ?_
  refine Rg.mv rfl rfl ?_
  obtain ⟨x24, hx25, h0⟩ := bind_s h0
  obtain ⟨b26, vals27, hg28, hl29, hR30, hC31, hX32⟩ := mk_rowix Try.underlying27 zz30 f22 hx25
  subst hg28
  unfold R_alarm_Due at hR30
  subst hR30
  refine Rg.vN (hX32 rfl rfl) rfl ?_
  refine Rg.vN (X.fieldB Try.underlying30 rfl zz2 rfl rfl) rfl ?_
  refine Rg.vN (X.load1 Try.underlying2 rfl rfl (hs.rowcell 0 rfl (x11.1.toNat * 2 + 0) (hC31 0 _ rfl))) rfl ?_
  refine Rg.weak [(19, .int .i64 x24.At)] ⟨rfl, trivial⟩ ?_
  refine Rg.st rfl rfl ?_
  refine Rg.st rfl rfl ?_
  refine Rg.go ?_
  refine Cd.ret ?_
  obtain rfl := some_s h0
  exact fun a ha => Cd.retA (R := Re (Po13 S0 w0 _ b1 _)) ha Try.results13 ⟨_, _, rfl, rfl, ⟨_, _, rfl, rfl, rfl⟩⟩ ⟨_, rfl, S16, v19, (some b26), cur21, rfl, hs, f22⟩
noncomputable def limelightlaw12_drop_l0 (l_0 : (List alarm_Due)) (key_1 : Int) (q18 : (List alarm_Due)) (q19 : Int) : Option (Flow ((List alarm_Due) × Int) (List alarm_Due)) :=
 if (decide (q19 < (l_0.length : Int))) = true then (
  ((
   (ix l_0 q19).bind fun x44 =>
   ((
    if (x44.Key != key_1) = true then (
     (app 16 q18 ([x44] : List alarm_Due)).bind fun y74 =>
     some y74)
    else (
     some q18) : Option (List alarm_Due))).bind fun p56 =>
   some p56 : Option (List alarm_Due))).bind fun p34 =>
  some (Flow.next (p34, add .i64 q19 1)))
 else (
  some (Flow.brk (q18, q19)))
noncomputable def limelightlaw12_drop (l_0 : (List alarm_Due)) (key_1 : Int) : Option (List alarm_Due) :=
 (loopF (fun sg => limelightlaw12_drop_l0 l_0 key_1 sg.1 sg.2) (([] : List alarm_Due), 0)).bind fun fl6 =>
 Flow.el fl6 (fun s82 => (
  none))
 (fun s83 => (
  some s83.1))
 (fun r84 => (
  none))
def Po22 (S0 : Mp) (w0 : World) (D : List Nat) (r : (List alarm_Due)) (v : Value) (w1 : World) : Prop :=
  ∃ (S1 : Mp) (v3 : Value) (g4 : Option Nat), v = v3 ∧ St w0 D S0 S1 [.app g4 v3 r.length 30 2] w1 ∧ Rd S1 2 R_alarm_Due v3 r
set_option maxHeartbeats 4000000 in
theorem c22 (S0 : Mp) {w0 : World} (hs : St w0 [] S0 S0 [] w0) (l_0 : (List alarm_Due)) (v1 : Value) (f2 : Rd S0 2 R_alarm_Due v1 l_0) (key_1 : Int) (r : (List alarm_Due)) (h0 : limelightlaw12_drop l_0 key_1 = some r) :
    Calls Try.prog 22 #[v1, .int .u64 key_1] w0 (Re (Po22 S0 w0 [] r)) := by
 unfold limelightlaw12_drop at h0
 refine calls_of_cd Try.func22 rfl Try.ntmps22 rfl ?_
 refine Cd.sr ?_
 refine Rg.st rfl rfl ?_
 refine Rg.go ?_
 refine Cd.sr ?_
 refine Rg.st rfl rfl ?_
 refine Rg.go ?_
 refine Cd.seq ?_
 refine Cd.sr ?_
 refine Rg.mv rfl rfl ?_
 refine Rg.vN (X.lenR Try.underlying27 rfl f2) rfl ?_
 refine Rg.mv rfl rfl ?_
 refine Rg.go ?_
 have hs := hs.nil 30 2
 obtain ⟨fl6, hfl7, h0⟩ := bind_s h0
 refine Cd.post (fun K w => ∃ (j8 : (List alarm_Due)) (j9 : Int) (S10 : Mp) (v12 : Value) (g14 : Option Nat), K = [(5, v12)] ∧ fl6 = Flow.brk (j8, j9) ∧ Le S0 S10 ∧ St w0 [] S0 S10 [.app g14 v12 j8.length 30 2] w ∧ Rd S10 2 R_alarm_Due v12 j8) ?_ ?_
 ·rintro K17 w16 ⟨j8, j9, S10, v12, g14, rfl, rfl, le11, hs, f13⟩
  have h0 := el_brk h0
  try dsimp only at h0
  refine Cd.go ?_
  refine Cd.sr ?_
  refine Rg.mv rfl rfl ?_
  refine Rg.st rfl rfl ?_
  refine Rg.go ?_
  refine Cd.ret ?_
  obtain rfl := some_s h0
  exact fun a ha => Cd.retA (R := Re (Po22 S0 w0 _ _)) ha Try.results22 ⟨_, _, rfl, rfl, rfl⟩ ⟨_, rfl, S10, v12, g14, rfl, hs, f13⟩
 ·skip
  refine Cd.weak [(1, .int .u64 key_1), (5, .slice none 0 0), (8, v1), (9, .int .i64 (l_0.length : Int)), (10, .int .i64 0)] ⟨rfl, rfl, rfl, rfl, rfl, trivial⟩ ?_
  refine Cd.block (Cd.loop (fun sg => limelightlaw12_drop_l0 l_0 key_1 sg.1 sg.2) (fun (sg : ((List alarm_Due) × Int)) K w => ∃ (S20 : Mp) (v22 : Value) (g24 : Option Nat), K = [(1, .int .u64 key_1), (5, v22), (8, v1), (9, .int .i64 (l_0.length : Int)), (10, .int .i64 sg.2)] ∧ Le S0 S20 ∧ St w0 [] S0 S20 [.app g24 v22 sg.1.length 30 2] w ∧ Rd S20 2 R_alarm_Due v22 sg.1) (([] : List alarm_Due), 0) fl6 hfl7 ⟨S0, (.slice none 0 0), none, rfl, Le.refl _, hs, (Rd.nil _ _ _)⟩ ?_)
  rintro ⟨q18, q19⟩ fl26 K31 w30 hb27 ⟨S20, v22, g24, rfl, le21, hs, f23⟩ hl28
  have h29 : limelightlaw12_drop_l0 l_0 key_1 q18 q19 = some fl26 := hb27
  unfold limelightlaw12_drop_l0 at h29
  refine Cd.sr ?_
  refine Rg.vN (X.lss rfl rfl) rfl ?_
  refine Rg.go ?_
  refine Cd.seq ?_
  refine Cd.cond (t := decide (q19 < (l_0.length : Int))) rfl (fun hc32 => ?_) (fun hc32 => ?_)
  ·have h29 := ite_t hc32 h29
   refine Cd.sg ?_
   refine Cd.seq ?_
   obtain ⟨p34, hp35, h29⟩ := bind_s h29
   refine Cd.post (fun K w => ∃ (S36 : Mp) (v39 : Value) (g41 : Option Nat), K = [(1, .int .u64 key_1), (5, v39), (8, v1), (9, .int .i64 (l_0.length : Int)), (10, .int .i64 q19)] ∧ Le S20 S36 ∧ St w0 [] S0 S36 [.app g41 v39 p34.length 30 2] w ∧ Rd S36 2 R_alarm_Due v39 p34) ?_ ?_
   ·rintro K43 w37 ⟨S36, v39, g41, rfl, le38, hs, f40⟩
    refine Cd.go ?_
    refine Cd.region ?_
    refine Rg.vN (X.add rfl rfl) rfl ?_
    refine Rg.mv rfl rfl ?_
    refine Rg.nil ?_
    exact fun a ha => ⟨(p34, add .i64 q19 1), [(1, .int .u64 key_1), (5, v39), (8, v1), (9, .int .i64 (l_0.length : Int)), (10, .int .i64 (add .i64 q19 1))], (some_s h29).symm, ha.weak ⟨rfl, rfl, rfl, rfl, rfl, trivial⟩, S36, v39, g41, rfl, (le21.trans le38), hs, f40⟩
   ·skip
    refine Cd.block ?_
    refine Cd.sr ?_
    obtain ⟨x44, hx45, hp35⟩ := bind_s hp35
    obtain ⟨ad46, vals47, _, hR48, hE49, hX50⟩ := mk_index Try.underlying27 zz30 (by decide) (f2.mono le21) hx45
    unfold R_alarm_Due at hR48
    subst hR48
    refine Rg.vN (hX50 rfl rfl) rfl ?_
    refine Rg.vN (X.loadE (vals := [.int .i64 x44.At, .int .u64 x44.Key]) hs.has Try.underlying30 rfl zz30 rfl hE49) rfl ?_
    refine Rg.step rfl (Oq.alloc (cs := #[.int .i64 0, .int .u64 0]) hs ii30 rfl rfl rfl (fun b51 w52 hs => ?_))
    refine Rg.step rfl (Oq.storeN hs 0 rfl (vals := [.int .i64 x44.At, .int .u64 x44.Key]) zz30 rfl rfl (one_all ⟨rfl, rfl, trivial⟩) rfl [.box b51 #[.int .i64 x44.At, .int .u64 x44.Key] 30, .app g24 v22 q18.length 30 2] rfl (fun w54 hs => ?_))
    refine Rg.go ?_
    refine Cd.sr ?_
    refine Rg.vN (X.fieldB Try.underlying30 rfl zz26 rfl rfl) rfl ?_
    refine Rg.vN (X.load1 Try.underlying26 rfl rfl (hs.cell 0 rfl 1 rfl)) rfl ?_
    refine Rg.mv rfl rfl ?_
    refine Rg.vN (X.neq rfl rfl) rfl ?_
    refine Rg.go ?_
    obtain ⟨p56, hp57, hp35⟩ := bind_s hp35
    refine Cd.post (fun K w => ∃ (S58 : Mp) (v61 : Value) (g63 : Option Nat), K = [(1, .int .u64 key_1), (5, v61), (8, v1), (9, .int .i64 (l_0.length : Int)), (10, .int .i64 q19)] ∧ Le S20 S58 ∧ St w0 [] S0 S58 [.app g63 v61 p56.length 30 2] w ∧ Rd S58 2 R_alarm_Due v61 p56) ?_ ?_
    ·rintro K65 w59 ⟨S58, v61, g63, rfl, le60, hs, f62⟩
     have e := some_s hp35
     subst e
     exact fun a ha => ⟨[(1, .int .u64 key_1), (5, v61), (8, v1), (9, .int .i64 (l_0.length : Int)), (10, .int .i64 q19)], ha.weak ⟨rfl, rfl, rfl, rfl, rfl, trivial⟩, S58, v61, g63, rfl, le60, hs, f62⟩
    ·skip
     refine Cd.cond (t := x44.Key != key_1) rfl (fun hc66 => ?_) (fun hc66 => ?_)
     ·have hp57 := ite_t hc66 hp57
      refine Cd.region ?_
      refine Rg.mv rfl rfl ?_
      refine Rg.vN (X.loadN (vals := [.int .i64 x44.At, .int .u64 x44.Key]) Try.underlying30 rfl zz30 rfl (hs.range 0 rfl 0 rfl)) rfl ?_
      refine Rg.step rfl (Oq.lit (sz := 2) (cs0 := [.int .i64 0, .int .u64 0]) (cells := [.int .i64 x44.At, .int .u64 x44.Key]) hs Try.underlying27 ii30 rfl rfl rfl rfl rfl rfl ⟨_, [.int .i64 x44.At, .int .u64 x44.Key], _, rfl, rfl, rfl, rfl⟩ rfl rfl rfl (fun b67 w68 S69 hs le70 hE71 => ?_))
      have f73 : Rd S69 2 R_alarm_Due (.slice (some ⟨b67, 0, none⟩) 1 1) ([x44] : List alarm_Due) := Rd.of_cells (xs := ([x44] : List alarm_Due)) ⟨[.int .i64 x44.At, .int .u64 x44.Key], _, rfl, rfl, one_all ⟨rfl, rfl, trivial⟩, rfl, rfl⟩ hE71 (Nat.le_of_ble_eq_true rfl) (Nat.le_of_ble_eq_true rfl)
      obtain ⟨y74, hx75, hp57⟩ := bind_s hp57
      refine Rg.step rfl (Oq.appendS hs 2 rfl Try.underlying27 ii30 rfl rfl rfl rfl rfl rfl (f23.mono le70) f73 hx75 rfl rfl rfl (fun v76 w77 S78 g79 hs le80 f81 => ?_))
      refine Rg.st rfl rfl ?_
      refine Rg.nil ?_
      have e := some_s hp57
      subst e
      exact fun a ha => ⟨[(1, .int .u64 key_1), (5, v76), (8, v1), (9, .int .i64 (l_0.length : Int)), (10, .int .i64 q19)], ha.weak ⟨rfl, rfl, rfl, rfl, rfl, trivial⟩, S78, v76, g79, rfl, (le70.trans le80), (hs.pick [2] (by decide) rfl), f81⟩
     ·have hp57 := ite_f hc66 hp57
      refine Cd.skip ?_
      have e := some_s hp57
      subst e
      exact fun a ha => ⟨[(1, .int .u64 key_1), (5, v22), (8, v1), (9, .int .i64 (l_0.length : Int)), (10, .int .i64 q19)], ha.weak ⟨rfl, rfl, rfl, rfl, rfl, trivial⟩, S20, v22, g24, rfl, Le.refl _, (hs.pick [1] (by decide) rfl), f23⟩
  ·have h29 := ite_f hc32 h29
   refine Cd.exit ?_
   obtain rfl := some_s h29
   have e := hl28 (fun _ e => by cases e)
   exact fun a ha => ⟨[(5, v22)], ha.weak ⟨rfl, trivial⟩, _, _, S20, v22, g24, rfl, e.symm, le21, hs, f23⟩
noncomputable def limelightlaw12_first_l0 (l_0 : (List alarm_Due)) (q11 : Int) (q12 : Int) : Option (Flow (Int × Int) Int) :=
 if (decide (q11 < (l_0.length : Int))) = true then (
  ((
   ((
    (ix l_0 q11).bind fun x45 =>
    (ix l_0 q12).bind fun x52 =>
    if (decide (x45.At < x52.At)) = true then (
     some true)
    else (
     (ix l_0 q11).bind fun x60 =>
     (ix l_0 q12).bind fun x67 =>
     if (x60.At == x67.At) = true then (
      (ix l_0 q11).bind fun x75 =>
      (ix l_0 q12).bind fun x82 =>
      some (decide (x75.Key < x82.Key)))
     else (
      some false)) : Option Bool)).bind fun p30 =>
   ((
    if p30 = true then (
     some q11)
    else (
     some q12) : Option Int)).bind fun p37 =>
   some p37 : Option Int)).bind fun p23 =>
  some (Flow.next (add .i64 q11 1, p23)))
 else (
  some (Flow.brk (q11, q12)))
noncomputable def limelightlaw12_first (l_0 : (List alarm_Due)) : Option Int :=
 (loopF (fun sg => limelightlaw12_first_l0 l_0 sg.1 sg.2) (0, 0)).bind fun fl3 =>
 Flow.el fl3 (fun s89 => (
  none))
 (fun s90 => (
  some s90.2))
 (fun r91 => (
  none))
def Po23 (S0 : Mp) (w0 : World) (D : List Nat) (r : Int) (v : Value) (w1 : World) : Prop :=
  ∃ (S1 : Mp), v = .int .i64 r ∧ St w0 D S0 S1 [] w1
set_option maxHeartbeats 4000000 in
theorem c23 (S0 : Mp) {w0 : World} (hs : St w0 [] S0 S0 [] w0) (l_0 : (List alarm_Due)) (v1 : Value) (f2 : Rd S0 2 R_alarm_Due v1 l_0) (r : Int) (h0 : limelightlaw12_first l_0 = some r) :
    Calls Try.prog 23 #[v1] w0 (Re (Po23 S0 w0 [] r)) := by
 unfold limelightlaw12_first at h0
 refine calls_of_cd Try.func23 rfl Try.ntmps23 rfl ?_
 refine Cd.sr ?_
 refine Rg.st rfl rfl ?_
 refine Rg.go ?_
 refine Cd.sr ?_
 refine Rg.st rfl rfl ?_
 refine Rg.go ?_
 refine Cd.seq ?_
 refine Cd.sr ?_
 refine Rg.mv rfl rfl ?_
 refine Rg.vN (X.lenR Try.underlying27 rfl f2) rfl ?_
 refine Rg.mv rfl rfl ?_
 refine Rg.go ?_
 obtain ⟨fl3, hfl4, h0⟩ := bind_s h0
 refine Cd.post (fun K w => ∃ (j5 : Int) (j6 : Int) (S7 : Mp), K = [(3, .int .i64 j6)] ∧ fl3 = Flow.brk (j5, j6) ∧ Le S0 S7 ∧ St w0 [] S0 S7 [] w) ?_ ?_
 ·rintro K10 w9 ⟨j5, j6, S7, rfl, rfl, le8, hs⟩
  have h0 := el_brk h0
  try dsimp only at h0
  refine Cd.go ?_
  refine Cd.sr ?_
  refine Rg.mv rfl rfl ?_
  refine Rg.st rfl rfl ?_
  refine Rg.go ?_
  refine Cd.ret ?_
  obtain rfl := some_s h0
  exact fun a ha => Cd.retA (R := Re (Po23 S0 w0 _ _)) ha Try.results23 ⟨_, _, rfl, rfl, rfl⟩ ⟨_, rfl, S7, rfl, hs⟩
 ·skip
  refine Cd.weak [(0, v1), (3, .int .i64 0), (6, .int .i64 (l_0.length : Int)), (7, .int .i64 0)] ⟨rfl, rfl, rfl, rfl, trivial⟩ ?_
  refine Cd.block (Cd.loop (fun sg => limelightlaw12_first_l0 l_0 sg.1 sg.2) (fun (sg : (Int × Int)) K w => ∃ (S13 : Mp), K = [(0, v1), (3, .int .i64 sg.2), (6, .int .i64 (l_0.length : Int)), (7, .int .i64 sg.1)] ∧ Le S0 S13 ∧ St w0 [] S0 S13 [] w) (0, 0) fl3 hfl4 ⟨S0, rfl, Le.refl _, hs⟩ ?_)
  rintro ⟨q11, q12⟩ fl15 K20 w19 hb16 ⟨S13, rfl, le14, hs⟩ hl17
  have h18 : limelightlaw12_first_l0 l_0 q11 q12 = some fl15 := hb16
  unfold limelightlaw12_first_l0 at h18
  refine Cd.sr ?_
  refine Rg.vN (X.lss rfl rfl) rfl ?_
  refine Rg.go ?_
  refine Cd.seq ?_
  refine Cd.cond (t := decide (q11 < (l_0.length : Int))) rfl (fun hc21 => ?_) (fun hc21 => ?_)
  ·have h18 := ite_t hc21 h18
   refine Cd.sg ?_
   refine Cd.seq ?_
   obtain ⟨p23, hp24, h18⟩ := bind_s h18
   refine Cd.post (fun K w => ∃ (S25 : Mp), K = [(0, v1), (3, .int .i64 p23), (6, .int .i64 (l_0.length : Int)), (7, .int .i64 q11)] ∧ Le S13 S25 ∧ St w0 [] S0 S25 [] w) ?_ ?_
   ·rintro K28 w26 ⟨S25, rfl, le27, hs⟩
    refine Cd.go ?_
    refine Cd.region ?_
    refine Rg.vN (X.add rfl rfl) rfl ?_
    refine Rg.mv rfl rfl ?_
    refine Rg.nil ?_
    exact fun a ha => ⟨(add .i64 q11 1, p23), [(0, v1), (3, .int .i64 p23), (6, .int .i64 (l_0.length : Int)), (7, .int .i64 (add .i64 q11 1))], (some_s h18).symm, ha.weak ⟨rfl, rfl, rfl, rfl, trivial⟩, S25, rfl, (le14.trans le27), hs⟩
   ·skip
    refine Cd.block ?_
    refine Cd.sr ?_
    refine Rg.mv rfl rfl ?_
    refine Rg.st rfl rfl ?_
    refine Rg.go ?_
    refine Cd.seq ?_
    obtain ⟨p30, hp31, hp24⟩ := bind_s hp24
    refine Cd.post (fun K w => ∃ (S32 : Mp), K = [(0, v1), (3, .int .i64 q12), (4, .int .i64 q11), (6, .int .i64 (l_0.length : Int)), (7, .int .i64 q11), (46, .bool p30)] ∧ Le S13 S32 ∧ St w0 [] S0 S32 [] w) ?_ ?_
    ·rintro K35 w33 ⟨S32, rfl, le34, hs⟩
     refine Cd.go ?_
     obtain ⟨p37, hp38, hp24⟩ := bind_s hp24
     refine Cd.post (fun K w => ∃ (S39 : Mp), K = [(0, v1), (3, .int .i64 p37), (6, .int .i64 (l_0.length : Int)), (7, .int .i64 q11)] ∧ Le S32 S39 ∧ St w0 [] S0 S39 [] w) ?_ ?_
     ·rintro K42 w40 ⟨S39, rfl, le41, hs⟩
      have e := some_s hp24
      subst e
      exact fun a ha => ⟨[(0, v1), (3, .int .i64 p37), (6, .int .i64 (l_0.length : Int)), (7, .int .i64 q11)], ha.weak ⟨rfl, rfl, rfl, rfl, trivial⟩, S39, rfl, (le34.trans le41), hs⟩
     ·skip
      refine Cd.cond (t := p30) rfl (fun hc43 => ?_) (fun hc43 => ?_)
      ·have hp38 := ite_t hc43 hp38
       refine Cd.region ?_
       refine Rg.mv rfl rfl ?_
       refine Rg.st rfl rfl ?_
       refine Rg.nil ?_
       have e := some_s hp38
       subst e
       exact fun a ha => ⟨[(0, v1), (3, .int .i64 q11), (6, .int .i64 (l_0.length : Int)), (7, .int .i64 q11)], ha.weak ⟨rfl, rfl, rfl, rfl, trivial⟩, S32, rfl, Le.refl _, hs⟩
      ·have hp38 := ite_f hc43 hp38
       refine Cd.skip ?_
       have e := some_s hp38
       subst e
       exact fun a ha => ⟨[(0, v1), (3, .int .i64 q12), (6, .int .i64 (l_0.length : Int)), (7, .int .i64 q11)], ha.weak ⟨rfl, rfl, rfl, rfl, trivial⟩, S32, rfl, Le.refl _, hs⟩
    ·skip
     refine Cd.rD mixed (fun l w => Has S13 w) hs (fun _ _ _ _ _ h => h) (by kernel_rfl) (fun w44 hs => ⟨hs.has, ?_⟩)
     refine Rk.tN 0 rfl rfl (fun _ _ => X.move rfl) ?_
     refine Rk.tN 1 rfl rfl (fun _ _ => X.move rfl) ?_
     obtain ⟨x45, hx46, hp31⟩ := bind_s hp31
     obtain ⟨ad47, vals48, _, hR49, hE50, hX51⟩ := mk_index Try.underlying27 zz30 (by decide) (f2.mono le14) hx46
     unfold R_alarm_Due at hR49
     subst hR49
     refine Rk.tN 2 rfl rfl (fun _ _ => hX51 rfl rfl) ?_
     refine Rk.tN 3 rfl rfl (fun _ _ => X.fieldE Try.underlying30 rfl zz2 rfl rfl) ?_
     refine Rk.tN 4 rfl rfl (fun w hc => X.load1 Try.underlying2 rfl rfl ((El.part (part := [.int .i64 x45.At]) hE50 0 rfl).at0 rfl hc)) ?_
     refine Rk.tN 5 rfl rfl (fun _ _ => X.move rfl) ?_
     refine Rk.tN 6 rfl rfl (fun _ _ => X.move rfl) ?_
     obtain ⟨x52, hx53, hp31⟩ := bind_s hp31
     obtain ⟨ad54, vals55, _, hR56, hE57, hX58⟩ := mk_index Try.underlying27 zz30 (by decide) (f2.mono le14) hx53
     unfold R_alarm_Due at hR56
     subst hR56
     refine Rk.tN 7 rfl rfl (fun _ _ => hX58 rfl rfl) ?_
     refine Rk.tN 8 rfl rfl (fun _ _ => X.fieldE Try.underlying30 rfl zz2 rfl rfl) ?_
     refine Rk.tN 9 rfl rfl (fun w hc => X.load1 Try.underlying2 rfl rfl ((El.part (part := [.int .i64 x52.At]) hE57 0 rfl).at0 rfl hc)) ?_
     refine Rk.tN 10 rfl rfl (fun _ _ => X.lss rfl rfl) ?_
     refine Rk.tN 11 rfl rfl (fun _ _ => X.move rfl) ?_
     refine Rk.tF 12 rfl rfl rfl rfl (fun hW => fun _ _ => X.move rfl) ?_
     refine Rk.tF 13 rfl rfl rfl rfl (fun hW => fun _ _ => X.move rfl) ?_
     refine Rk.tF 17 rfl rfl rfl rfl (fun hW => fun _ _ => X.move rfl) ?_
     refine Rk.tF 18 rfl rfl rfl rfl (fun hW => fun _ _ => X.move rfl) ?_
     refine Rk.split (b := decide (x45.At < x52.At)) (tj := 21) rfl (fun hc59 => ?_) (fun hc59 => ?_)
     ·have hp31 := ite_t hc59 hp31
      refine Rk.weak [(0, v1), (3, .int .i64 q12), (4, .int .i64 q11), (6, .int .i64 (l_0.length : Int)), (7, .int .i64 q11), (21, .bool true), (22, undef), (23, undef), (27, undef), (28, undef)] ⟨rfl, rfl, rfl, rfl, rfl, rfl, get_u rfl (nn hc59), get_u rfl (nn hc59), get_u rfl (nn hc59), get_u rfl (nn hc59), trivial⟩ ?_
      refine Rk.tO 14 rfl rfl rfl rfl rfl ?_
      refine Rk.tO 15 rfl rfl rfl rfl rfl ?_
      refine Rk.tO 16 rfl rfl rfl rfl rfl ?_
      refine Rk.tO 19 rfl rfl rfl rfl rfl ?_
      refine Rk.tO 20 rfl rfl rfl rfl rfl ?_
      refine Rk.tO 21 rfl rfl rfl rfl rfl ?_
      refine Rk.tO 22 rfl rfl rfl rfl rfl ?_
      refine Rk.tO 23 rfl rfl rfl rfl rfl ?_
      refine Rk.tO 24 rfl rfl rfl rfl rfl ?_
      refine Rk.tO 25 rfl rfl rfl rfl rfl ?_
      refine Rk.tO 26 rfl rfl rfl rfl rfl ?_
      refine Rk.tO 27 rfl rfl rfl rfl rfl ?_
      refine Rk.tO 28 rfl rfl rfl rfl rfl ?_
      refine Rk.tO 29 rfl rfl rfl rfl rfl ?_
      refine Rk.tO 30 rfl rfl rfl rfl rfl ?_
      refine Rk.tO 31 rfl rfl rfl rfl rfl ?_
      refine Rk.tO 32 rfl rfl rfl rfl rfl ?_
      refine Rk.tO 33 rfl rfl rfl rfl rfl ?_
      refine Rk.tO 34 rfl rfl rfl rfl rfl ?_
      refine Rk.tO 35 rfl rfl rfl rfl rfl ?_
      refine Rk.tN 36 rfl rfl (fun _ _ => X.pickT rfl rfl) ?_
      refine Rk.done ?_
      have e := some_s hp31
      subst e
      exact fun a ha => ⟨[(0, v1), (3, .int .i64 q12), (4, .int .i64 q11), (6, .int .i64 (l_0.length : Int)), (7, .int .i64 q11), (46, .bool true)], ha.weak ⟨rfl, rfl, rfl, rfl, rfl, rfl, trivial⟩, S13, rfl, Le.refl _, hs⟩
     ·have hp31 := ite_f hc59 hp31
      refine Rk.weak [(0, v1), (3, .int .i64 q12), (4, .int .i64 q11), (6, .int .i64 (l_0.length : Int)), (7, .int .i64 q11), (21, .bool false), (22, v1), (23, .int .i64 q11), (27, v1), (28, .int .i64 q12)] ⟨rfl, rfl, rfl, rfl, rfl, rfl, get_g rfl (not_f hc59), get_g rfl (not_f hc59), get_g rfl (not_f hc59), get_g rfl (not_f hc59), trivial⟩ ?_
      obtain ⟨x60, hx61, hp31⟩ := bind_s hp31
      obtain ⟨ad62, vals63, _, hR64, hE65, hX66⟩ := mk_index Try.underlying27 zz30 (by decide) (f2.mono le14) hx61
      unfold R_alarm_Due at hR64
      subst hR64
      refine Rk.tF 14 rfl rfl rfl rfl (fun hW => fun _ _ => hX66 rfl rfl) ?_
      refine Rk.tF 15 rfl rfl rfl rfl (fun hW => fun _ _ => X.fieldE Try.underlying30 rfl zz2 rfl rfl) ?_
      refine Rk.tF 16 rfl rfl rfl rfl (fun hW => fun w hc => X.load1 Try.underlying2 rfl rfl ((El.part (part := [.int .i64 x60.At]) hE65 0 rfl).at0 rfl hc)) ?_
      obtain ⟨x67, hx68, hp31⟩ := bind_s hp31
      obtain ⟨ad69, vals70, _, hR71, hE72, hX73⟩ := mk_index Try.underlying27 zz30 (by decide) (f2.mono le14) hx68
      unfold R_alarm_Due at hR71
      subst hR71
      refine Rk.tF 19 rfl rfl rfl rfl (fun hW => fun _ _ => hX73 rfl rfl) ?_
      refine Rk.tF 20 rfl rfl rfl rfl (fun hW => fun _ _ => X.fieldE Try.underlying30 rfl zz2 rfl rfl) ?_
      refine Rk.tF 21 rfl rfl rfl rfl (fun hW => fun w hc => X.load1 Try.underlying2 rfl rfl ((El.part (part := [.int .i64 x67.At]) hE72 0 rfl).at0 rfl hc)) ?_
      refine Rk.tF 22 rfl rfl rfl rfl (fun hW => fun _ _ => X.eql rfl rfl) ?_
      refine Rk.tF 23 rfl rfl rfl rfl (fun hW => fun _ _ => X.move rfl) ?_
      refine Rk.tT 24 rfl rfl rfl rfl (fun hW => fun _ _ => X.move rfl) ?_
      refine Rk.tT 25 rfl rfl rfl rfl (fun hW => fun _ _ => X.move rfl) ?_
      refine Rk.tT 29 rfl rfl rfl rfl (fun hW => fun _ _ => X.move rfl) ?_
      refine Rk.tT 30 rfl rfl rfl rfl (fun hW => fun _ _ => X.move rfl) ?_
      refine Rk.split (b := x60.At == x67.At) (tj := 33) rfl (fun hc74 => ?_) (fun hc74 => ?_)
      ·have hp31 := ite_t hc74 hp31
       refine Rk.weak [(0, v1), (3, .int .i64 q12), (4, .int .i64 q11), (6, .int .i64 (l_0.length : Int)), (7, .int .i64 q11), (21, .bool false), (33, .bool true), (34, v1), (35, .int .i64 q11), (39, v1), (40, .int .i64 q12)] ⟨rfl, rfl, rfl, rfl, rfl, rfl, rfl, get_g rfl hc74, get_g rfl hc74, get_g rfl hc74, get_g rfl hc74, trivial⟩ ?_
       obtain ⟨x75, hx76, hp31⟩ := bind_s hp31
       obtain ⟨ad77, vals78, _, hR79, hE80, hX81⟩ := mk_index Try.underlying27 zz30 (by decide) (f2.mono le14) hx76
       unfold R_alarm_Due at hR79
       subst hR79
       refine Rk.tT 26 rfl rfl rfl rfl (fun hW => fun _ _ => hX81 rfl rfl) ?_
       refine Rk.tT 27 rfl rfl rfl rfl (fun hW => fun _ _ => X.fieldE Try.underlying30 rfl zz26 rfl rfl) ?_
       refine Rk.tT 28 rfl rfl rfl rfl (fun hW => fun w hc => X.load1 Try.underlying26 rfl rfl ((El.part (part := [.int .u64 x75.Key]) hE80 1 rfl).at0 rfl hc)) ?_
       obtain ⟨x82, hx83, hp31⟩ := bind_s hp31
       obtain ⟨ad84, vals85, _, hR86, hE87, hX88⟩ := mk_index Try.underlying27 zz30 (by decide) (f2.mono le14) hx83
       unfold R_alarm_Due at hR86
       subst hR86
       refine Rk.tT 31 rfl rfl rfl rfl (fun hW => fun _ _ => hX88 rfl rfl) ?_
       refine Rk.tT 32 rfl rfl rfl rfl (fun hW => fun _ _ => X.fieldE Try.underlying30 rfl zz26 rfl rfl) ?_
       refine Rk.tT 33 rfl rfl rfl rfl (fun hW => fun w hc => X.load1 Try.underlying26 rfl rfl ((El.part (part := [.int .u64 x82.Key]) hE87 1 rfl).at0 rfl hc)) ?_
       refine Rk.tT 34 rfl rfl rfl rfl (fun hW => fun _ _ => X.lss rfl rfl) ?_
       refine Rk.weak [(0, v1), (3, .int .i64 q12), (4, .int .i64 q11), (6, .int .i64 (l_0.length : Int)), (7, .int .i64 q11), (21, .bool false), (33, .bool true), (44, .bool (decide (x75.Key < x82.Key)))] ⟨rfl, rfl, rfl, rfl, rfl, rfl, rfl, rfl, trivial⟩ ?_
       refine Rk.tF 35 rfl rfl rfl rfl (fun hW => fun _ _ => X.pickT rfl rfl) ?_
       refine Rk.tN 36 rfl rfl (fun _ _ => X.pickF rfl rfl) ?_
       refine Rk.done ?_
       have e := some_s hp31
       subst e
       exact fun a ha => ⟨[(0, v1), (3, .int .i64 q12), (4, .int .i64 q11), (6, .int .i64 (l_0.length : Int)), (7, .int .i64 q11), (46, .bool (decide (x75.Key < x82.Key)))], ha.weak ⟨rfl, rfl, rfl, rfl, rfl, rfl, trivial⟩, S13, rfl, Le.refl _, hs⟩
      ·have hp31 := ite_f hc74 hp31
       refine Rk.weak [(0, v1), (3, .int .i64 q12), (4, .int .i64 q11), (6, .int .i64 (l_0.length : Int)), (7, .int .i64 q11), (21, .bool false), (33, .bool false), (34, undef), (35, undef), (39, undef), (40, undef)] ⟨rfl, rfl, rfl, rfl, rfl, rfl, rfl, get_u rfl (not_f hc74), get_u rfl (not_f hc74), get_u rfl (not_f hc74), get_u rfl (not_f hc74), trivial⟩ ?_
       refine Rk.tO 26 rfl rfl rfl rfl rfl ?_
       refine Rk.tO 27 rfl rfl rfl rfl rfl ?_
       refine Rk.tO 28 rfl rfl rfl rfl rfl ?_
       refine Rk.tO 31 rfl rfl rfl rfl rfl ?_
       refine Rk.tO 32 rfl rfl rfl rfl rfl ?_
       refine Rk.tO 33 rfl rfl rfl rfl rfl ?_
       refine Rk.tO 34 rfl rfl rfl rfl rfl ?_
       refine Rk.tF 35 rfl rfl rfl rfl (fun hW => fun _ _ => X.pickF rfl rfl) ?_
       refine Rk.tN 36 rfl rfl (fun _ _ => X.pickF rfl rfl) ?_
       refine Rk.done ?_
       have e := some_s hp31
       subst e
       exact fun a ha => ⟨[(0, v1), (3, .int .i64 q12), (4, .int .i64 q11), (6, .int .i64 (l_0.length : Int)), (7, .int .i64 q11), (46, .bool false)], ha.weak ⟨rfl, rfl, rfl, rfl, rfl, rfl, trivial⟩, S13, rfl, Le.refl _, hs⟩
  ·have h18 := ite_f hc21 h18
   refine Cd.exit ?_
   obtain rfl := some_s h18
   have e := hl17 (fun _ e => by cases e)
   exact fun a ha => ⟨[(3, .int .i64 q12)], ha.weak ⟨rfl, trivial⟩, _, _, S13, rfl, e.symm, le14, hs⟩
noncomputable def limelightlaw12_play_l1 (x72 : limelightlaw12_Ask) (j83 : (List alarm_Due)) (q150 : Int) (q151 : Bool) (q152 : Int) : Option (Flow (Int × Bool × Int) Bool) :=
 if (decide (q152 < (j83.length : Int))) = true then (
  ((
   (ix j83 q152).bind fun x170 =>
   ((
    if (x170.Key == x72.Key) = true then (
     some (x170.At, true))
    else (
     some (q150, q151)) : Option (Int × Bool))).bind fun p183 =>
   some (p183.1, p183.2) : Option (Int × Bool))).bind fun p164 =>
  some (Flow.next (p164.1, p164.2, add .i64 q152 1)))
 else (
  some (Flow.brk (q150, q151, q152)))
noncomputable def limelightlaw12_play_l2 (x72 : limelightlaw12_Ask) (q313 : (List alarm_Due)) (q314 : (List alarm_Due)) : Option (Flow ((List alarm_Due) × (List alarm_Due)) Bool) :=
 ((
  if (decide (0 < (q313.length : Int))) = true then (
   (limelightlaw12_first q313).bind fun x412 =>
   (ix q313 x412).bind fun x420 =>
   some (decide (x420.At ≤ x72.At)))
  else (
   some false) : Option Bool)).bind fun p330 =>
 if p330 = true then (
  ((
   (limelightlaw12_first q313).bind fun x351 =>
   (ix q313 x351).bind fun x359 =>
   ((
    if ((q314.length : Int) == 0) = true then (
     some true)
    else (
     (ix q314 0).bind fun x400 =>
     some (!((x400.At == x359.At) && ((x400.Key == x359.Key) && true)))) : Option Bool)).bind fun p371 =>
   if p371 = true then (
    some (Flow.ret false))
   else (
    (cutFrom q314 1).bind fun y382 =>
    (limelightlaw12_drop q313 x359.Key).bind fun x386 =>
    some (Flow.next (x386, y382))) : Option (Flow ((List alarm_Due) × (List alarm_Due)) Bool))).bind fun p339 =>
  Flow.el p339 (fun s407 => (
   some (Flow.next (s407.1, s407.2))))
  (fun s408 => (
   none))
  (fun r409 => (
   some (Flow.ret r409))))
 else (
  some (Flow.brk (q313, q314)))
noncomputable def limelightlaw12_play_l0 (G_0 : (List limelightlaw12_Ask)) (q36 : (List alarm_Due)) (q37 : Int) (q38 : (List alarm_Due)) : Option (Flow ((List alarm_Due) × Int × (List alarm_Due)) Bool) :=
 if ((decide (q37 < (G_0.length : Int))) && (decide (q37 < 120))) = true then (
  ((
   (ix G_0 q37).bind fun x72 =>
   ((
    ((
     if (x72.Kind == 3) = true then (
      (limelightlaw12_drop q36 x72.Key).bind fun x240 =>
      (alarm_Table_Clear (⟨q38⟩ : alarm_Table) x72.Key).bind fun x252 =>
      if (!(x252.1 == (decide ((x240.length : Int) < (q36.length : Int))))) = true then (
       some (Flow.ret false))
      else (
       some (Flow.next (x240, x252.2.l_))))
     else (
      ((
       if (x72.Kind == 4) = true then (
        (alarm_Table_Due (⟨q38⟩ : alarm_Table) x72.At).bind fun x282 =>
        (loopF (fun sg => limelightlaw12_play_l2 x72 sg.1 sg.2) (q36, x282.1)).bind fun fl298 =>
        Flow.el fl298 (fun s427 => (
         none))
        (fun s428 => (
         if (decide (0 < (s428.2.length : Int))) = true then (
          some (Flow.ret false))
         else (
          some (Flow.next (s428.1, x282.2.l_)))))
        (fun r429 => (
         some (Flow.ret r429))))
       else (
        (alarm_Table_Set (⟨q38⟩ : alarm_Table) x72.Key x72.At).bind fun x430 =>
        ((
         (limelightlaw12_drop q36 x72.Key).bind fun x454 =>
         (app 16 x454 ([(⟨x72.At, x72.Key⟩ : alarm_Due)] : List alarm_Due)).bind fun y473 =>
         some y473 : Option (List alarm_Due))).bind fun p443 =>
        some (Flow.next (p443, x430.l_))) : Option (Flow ((List alarm_Due) × (List alarm_Due)) Bool))).bind fun p267 =>
      Flow.el p267 (fun s508 => (
       some (Flow.next (s508.1, s508.2))))
      (fun s509 => (
       none))
      (fun r510 => (
       some (Flow.ret r510)))) : Option (Flow ((List alarm_Due) × (List alarm_Due)) Bool))).bind fun p225 =>
    Flow.el p225 (fun s511 => (
     some (Flow.next (s511.1, s511.2))))
    (fun s512 => (
     none))
    (fun r513 => (
     some (Flow.ret r513))) : Option (Flow ((List alarm_Due) × (List alarm_Due)) Bool))).bind fun p85 =>
   Flow.el p85 (fun s514 => (
    (alarm_Table_At (⟨s514.2⟩ : alarm_Table) x72.Key).bind fun x99 =>
    (alarm_Table_Next (⟨x99.2.2.l_⟩ : alarm_Table)).bind fun x111 =>
    ((
     (alarm_Table_Len (⟨x111.2.2.l_⟩ : alarm_Table)).bind fun x194 =>
     if ((x194.1 != (s514.1.length : Int)) || (!(x111.2.1 == (decide (0 < (s514.1.length : Int)))))) = true then (
      some (true, x194.2.l_))
     else (
      if x111.2.1 = true then (
       (limelightlaw12_first s514.1).bind fun x208 =>
       (ix s514.1 x208).bind fun x216 =>
       some (!((x111.1.At == x216.At) && ((x111.1.Key == x216.Key) && true)), x194.2.l_))
      else (
       some (false, x194.2.l_))) : Option (Bool × (List alarm_Due)))).bind fun p129 =>
    if p129.1 = true then (
     some (Flow.ret false))
    else (
     (loopF (fun sg => limelightlaw12_play_l1 x72 s514.1 sg.1 sg.2.1 sg.2.2) (0, false, 0)).bind fun fl140 =>
     Flow.el fl140 (fun s190 => (
      none))
     (fun s191 => (
      if ((x99.1 != s191.1) || (!(x99.2.1 == s191.2.1))) = true then (
       some (Flow.ret false))
      else (
       some (Flow.next (s514.1, p129.2)))))
     (fun r192 => (
      none)))))
   (fun s515 => (
    none))
   (fun r516 => (
    some (Flow.ret r516))) : Option (Flow ((List alarm_Due) × (List alarm_Due)) Bool))).bind fun p58 =>
  Flow.el p58 (fun s517 => (
   some (Flow.next (s517.1, add .i64 q37 1, s517.2))))
  (fun s518 => (
   none))
  (fun r519 => (
   some (Flow.ret r519))))
 else (
  some (Flow.brk (q36, q37, q38)))
noncomputable def limelightlaw12_play (G_0 : (List limelightlaw12_Ask)) : Option Bool :=
 (alarm_New ).bind fun x3 =>
 (loopF (fun sg => limelightlaw12_play_l0 G_0 sg.1 sg.2.1 sg.2.2) (([] : List alarm_Due), 0, x3.l_)).bind fun fl19 =>
 Flow.el fl19 (fun s520 => (
  none))
 (fun s521 => (
  some true))
 (fun r522 => (
  some r522))
def Po12 (S0 : Mp) (w0 : World) (D : List Nat) (r : Bool) (v : Value) (w1 : World) : Prop :=
  ∃ (S1 : Mp), v = .bool r ∧ St w0 D S0 S1 [] w1
set_option maxHeartbeats 4000000 in
theorem c12 (S0 : Mp) {w0 : World} (hs : St w0 [] S0 S0 [] w0) (G_0 : (List limelightlaw12_Ask)) (v1 : Value) (f2 : Rd S0 3 R_limelightlaw12_Ask v1 G_0) (r : Bool) (h0 : limelightlaw12_play G_0 = some r) :
    Calls Try.prog 12 #[v1] w0 (Re (Po12 S0 w0 [] r)) := by
 unfold limelightlaw12_play at h0
 refine calls_of_cd Try.func12 rfl Try.ntmps12 rfl ?_
 refine Cd.sr ?_
 refine Rg.st rfl rfl ?_
 refine Rg.go ?_
 refine Cd.sr ?_
 obtain ⟨x3, hx4, h0⟩ := bind_s h0
 refine Rg.step rfl (Oq.call Try.call7 rfl rfl (c7 S0 (St.start _ _ hs.has)  _ hx4) (fun v5 w6 h7 => ?_))
 obtain ⟨S8, b11, v13, g14, cur15, rfl, hs9, f16⟩ := h7
 have le10 := hs9.le
 have hs := hs.call0 hs9
 refine Rg.st rfl rfl ?_
 refine Rg.go ?_
 refine Cd.sr ?_
 refine Rg.st rfl rfl ?_
 refine Rg.go ?_
 refine Cd.seq ?_
 refine Cd.sr ?_
 refine Rg.st rfl rfl ?_
 refine Rg.go ?_
 have hs := hs.nil 30 2
 obtain ⟨fl19, hfl20, h0⟩ := bind_s h0
 refine Cd.post (fun K w => ∃ (j21 : (List alarm_Due)) (j22 : Int) (j23 : (List alarm_Due)) (S24 : Mp) (v26 : Value) (g28 : Option Nat) (v30 : Value) (g31 : Option Nat) (cur32 : Array Value), K = [(3, .pointer (some ⟨b11, 0, none⟩))] ∧ fl19 = Flow.brk (j21, j22, j23) ∧ Le S8 S24 ∧ St w0 [] S0 S24 [.row g31 cur32 30, .box b11 #[v30] 44, .app g28 v26 j21.length 30 2] w ∧ Rd S24 2 R_alarm_Due v26 j21 ∧ Rw S24 2 R_alarm_Due g31 cur32 v30 j23) ?_ ?_
 ·rintro K35 w34 ⟨j21, j22, j23, S24, v26, g28, v30, g31, cur32, rfl, rfl, le25, hs, f27, f33⟩
  have h0 := el_brk h0
  try dsimp only at h0
  refine Cd.go ?_
  refine Cd.sr ?_
  refine Rg.mv rfl rfl ?_
  refine Rg.vN (X.neqNilP Try.underlying23 rfl) rfl ?_
  refine Rg.st rfl rfl ?_
  refine Rg.go ?_
  refine Cd.ret ?_
  obtain rfl := some_s h0
  exact fun a ha => Cd.retA (R := Re (Po12 S0 w0 _ _)) ha Try.results12 ⟨_, _, rfl, rfl, rfl⟩ ⟨_, rfl, S24, rfl, (hs.pick [] (by decide) rfl)⟩
 ·skip
  refine Cd.weak [(0, v1), (3, .pointer (some ⟨b11, 0, none⟩)), (4, .slice none 0 0), (5, .int .i64 0)] ⟨rfl, rfl, rfl, rfl, trivial⟩ ?_
  refine Cd.block (Cd.loop (fun sg => limelightlaw12_play_l0 G_0 sg.1 sg.2.1 sg.2.2) (fun (sg : ((List alarm_Due) × Int × (List alarm_Due))) K w => ∃ (S39 : Mp) (v41 : Value) (g43 : Option Nat) (v45 : Value) (g46 : Option Nat) (cur47 : Array Value), K = [(0, v1), (3, .pointer (some ⟨b11, 0, none⟩)), (4, v41), (5, .int .i64 sg.2.1)] ∧ Le S8 S39 ∧ St w0 [] S0 S39 [.row g46 cur47 30, .box b11 #[v45] 44, .app g43 v41 sg.1.length 30 2] w ∧ Rd S39 2 R_alarm_Due v41 sg.1 ∧ Rw S39 2 R_alarm_Due g46 cur47 v45 sg.2.2) (([] : List alarm_Due), 0, x3.l_) fl19 hfl20 ⟨S8, (.slice none 0 0), none, v13, g14, cur15, rfl, Le.refl _, (hs.pick [1, 2, 0] (by decide) rfl), (Rd.nil _ _ _), f16⟩ ?_)
  rintro ⟨q36, q37, q38⟩ fl49 K54 w53 hb50 ⟨S39, v41, g43, v45, g46, cur47, rfl, le40, hs, f42, f48⟩ hl51
  have h52 : limelightlaw12_play_l0 G_0 q36 q37 q38 = some fl49 := hb50
  unfold limelightlaw12_play_l0 at h52
  refine Cd.seq ?_
  refine Cd.sr ?_
  refine Rg.mv rfl rfl ?_
  refine Rg.mv rfl rfl ?_
  refine Rg.vN (X.lenR Try.underlying34 rfl (f2.mono (le10.trans le40))) rfl ?_
  refine Rg.vN (X.lss rfl rfl) rfl ?_
  refine Rg.mv rfl rfl ?_
  refine Rg.vT rfl rfl rfl (fun hW => X.move rfl) ?_
  refine Rg.vT rfl rfl rfl (fun hW => X.lss (ev_g rfl hW) rfl) ?_
  refine Rg.vN (X.pickAnd rfl rfl rfl) rfl ?_
  refine Rg.go ?_
  refine Cd.cond (t := (decide (q37 < (G_0.length : Int))) && (decide (q37 < 120))) rfl (fun hc55 => ?_) (fun hc55 => ?_)
  ·have h52 := ite_t hc55 h52
   refine Cd.sg ?_
   refine Cd.seq ?_
   obtain ⟨p58, hp59, h52⟩ := bind_s h52
   refine Cd.post (fun K w => ∃ (j56 : (List alarm_Due)) (j57 : (List alarm_Due)) (S60 : Mp) (v63 : Value) (g65 : Option Nat) (v67 : Value) (g68 : Option Nat) (cur69 : Array Value), K = [(0, v1), (3, .pointer (some ⟨b11, 0, none⟩)), (4, v63), (5, .int .i64 q37)] ∧ p58 = Flow.next (j56, j57) ∧ Le S39 S60 ∧ St w0 [] S0 S60 [.row g68 cur69 30, .box b11 #[v67] 44, .app g65 v63 j56.length 30 2] w ∧ Rd S60 2 R_alarm_Due v63 j56 ∧ Rw S60 2 R_alarm_Due g68 cur69 v67 j57) ?_ ?_
   ·rintro K71 w61 ⟨j56, j57, S60, v63, g65, v67, g68, cur69, rfl, rfl, le62, hs, f64, f70⟩
    have h52 := el_next h52
    try dsimp only at h52
    refine Cd.go ?_
    refine Cd.region ?_
    refine Rg.mv rfl rfl ?_
    refine Rg.vN (X.add rfl rfl) rfl ?_
    refine Rg.st rfl rfl ?_
    refine Rg.nil ?_
    exact fun a ha => ⟨(j56, add .i64 q37 1, j57), [(0, v1), (3, .pointer (some ⟨b11, 0, none⟩)), (4, v63), (5, .int .i64 (add .i64 q37 1))], (some_s h52).symm, ha.weak ⟨rfl, rfl, rfl, rfl, trivial⟩, S60, v63, g65, v67, g68, cur69, rfl, (le40.trans le62), hs, f64, f70⟩
   ·skip
    refine Cd.block ?_
    refine Cd.sr ?_
    refine Rg.mv rfl rfl ?_
    refine Rg.mv rfl rfl ?_
    obtain ⟨x72, hx73, hp59⟩ := bind_s hp59
    obtain ⟨ad74, vals75, _, hR76, hE77, hX78⟩ := mk_index Try.underlying34 zz36 (by decide) (f2.mono (le10.trans le40)) hx73
    unfold R_limelightlaw12_Ask at hR76
    subst hR76
    refine Rg.vN (hX78 rfl rfl) rfl ?_
    refine Rg.weak [(0, v1), (3, .pointer (some ⟨b11, 0, none⟩)), (4, v41), (5, .int .i64 q37), (31, .pointer (some ad74))] ⟨rfl, rfl, rfl, rfl, rfl, trivial⟩ ?_
    refine Rg.vN (X.loadE (vals := [.int .i64 x72.Kind, .int .u64 x72.Key, .int .i64 x72.At]) hs.has Try.underlying36 rfl zz36 rfl hE77) rfl ?_
    refine Rg.step rfl (Oq.alloc (cs := #[.int .i64 0, .int .u64 0, .int .i64 0]) hs ii36 rfl rfl rfl (fun b79 w80 hs => ?_))
    refine Rg.step rfl (Oq.storeN hs 0 rfl (vals := [.int .i64 x72.Kind, .int .u64 x72.Key, .int .i64 x72.At]) zz36 rfl rfl (one_all ⟨rfl, rfl, rfl, trivial⟩) rfl [.box b79 #[.int .i64 x72.Kind, .int .u64 x72.Key, .int .i64 x72.At] 36, .row g46 cur47 30, .box b11 #[v45] 44, .app g43 v41 q36.length 30 2] rfl (fun w82 hs => ?_))
    refine Rg.go ?_
    refine Cd.seq ?_
    refine Cd.sr ?_
    refine Rg.mv rfl rfl ?_
    refine Rg.vN (X.eqlNilP Try.underlying23 rfl) rfl ?_
    refine Rg.go ?_
    refine Cd.cond0 rfl ?_
    refine Cd.sg ?_
    refine Cd.sr ?_
    refine Rg.mv rfl rfl ?_
    refine Rg.vN (X.lenR Try.underlying27 rfl f42) rfl ?_
    refine Rg.st rfl rfl ?_
    refine Rg.go ?_
    refine Cd.seq ?_
    refine Cd.sr ?_
    refine Rg.vN (X.fieldB Try.underlying36 rfl zz3 rfl rfl) rfl ?_
    refine Rg.vN (X.load1 Try.underlying3 rfl rfl (hs.cell 0 rfl 0 rfl)) rfl ?_
    refine Rg.go ?_
    obtain ⟨p85, hp86, hp59⟩ := bind_s hp59
    refine Cd.post (fun K w => ∃ (j83 : (List alarm_Due)) (j84 : (List alarm_Due)) (S87 : Mp) (v90 : Value) (g92 : Option Nat) (v94 : Value) (g95 : Option Nat) (cur96 : Array Value), K = [(0, v1), (3, .pointer (some ⟨b11, 0, none⟩)), (4, v90), (5, .int .i64 q37), (6, .pointer (some ⟨b79, 0, none⟩))] ∧ p85 = Flow.next (j83, j84) ∧ Le S39 S87 ∧ St w0 [] S0 S87 [.box b79 #[.int .i64 x72.Kind, .int .u64 x72.Key, .int .i64 x72.At] 36, .row g95 cur96 30, .box b11 #[v94] 44, .app g92 v90 j83.length 30 2] w ∧ Rd S87 2 R_alarm_Due v90 j83 ∧ Rw S87 2 R_alarm_Due g95 cur96 v94 j84) ?_ ?_
    ·rintro K98 w88 ⟨j83, j84, S87, v90, g92, v94, g95, cur96, rfl, rfl, le89, hs, f91, f97⟩
     have hp59 := el_next hp59
     try dsimp only at hp59
     refine Cd.go ?_
     refine Cd.sr ?_
     refine Rg.mv rfl rfl ?_
     refine Rg.vN (X.fieldB Try.underlying36 rfl zz26 rfl rfl) rfl ?_
     refine Rg.weak [(0, v1), (3, .pointer (some ⟨b11, 0, none⟩)), (4, v90), (5, .int .i64 q37), (6, .pointer (some ⟨b79, 0, none⟩)), (116, .pointer (some ⟨b11, 0, none⟩)), (117, .pointer (some ⟨b79, 1, none⟩))] ⟨rfl, rfl, rfl, rfl, rfl, rfl, rfl, trivial⟩ ?_
     refine Rg.vN (X.load1 Try.underlying26 rfl rfl (hs.cell 0 rfl 1 rfl)) rfl ?_
     obtain ⟨x99, hx100, hp59⟩ := bind_s hp59
     refine Rg.step rfl (Oq.call Try.call13 rfl rfl (c13 S87 _ (⟨j84⟩ : alarm_Table) _ _ _ f97 _ (hs.enterP [2, 1] (by decide) rfl (by cases g95 <;> rfl)) _ hx100) (fun v101 w102 h103 => ?_))
     obtain ⟨S104, v107, g108, cur109, rfl, hs105, f110⟩ := h103
     have le106 := hs105.le
     have hs := hs.callP [2, 1] rfl (by cases g95 <;> rfl) hs105
     refine Rg.mv rfl rfl ?_
     refine Rg.vN (X.extract rfl rfl) rfl ?_
     refine Rg.vN (X.extract rfl rfl) rfl ?_
     refine Rg.st rfl rfl ?_
     refine Rg.st rfl rfl ?_
     refine Rg.go ?_
     refine Cd.sr ?_
     refine Rg.mv rfl rfl ?_
     obtain ⟨x111, hx112, hp59⟩ := bind_s hp59
     refine Rg.step rfl (Oq.call Try.call21 rfl rfl (c21 S104 _ (⟨x99.2.2.l_⟩ : alarm_Table) _ _ _ f110 (hs.enterP [1, 0] (by decide) rfl (by cases g108 <;> rfl)) _ hx112) (fun v113 w114 h115 => ?_))
     obtain ⟨S116, v119, g120, cur121, rfl, hs117, f122⟩ := h115
     have le118 := hs117.le
     have hs := hs.callP [1, 0] rfl (by cases g108 <;> rfl) hs117
     refine Rg.mv rfl rfl ?_
     refine Rg.weak [(0, v1), (3, .pointer (some ⟨b11, 0, none⟩)), (4, v90), (5, .int .i64 q37), (6, .pointer (some ⟨b79, 0, none⟩)), (10, .int .i64 x99.1), (11, .bool x99.2.1), (122, .tuple #[.agg (#[.int .i64 x111.1.At, .int .u64 x111.1.Key]), .bool x111.2.1])] ⟨rfl, rfl, rfl, rfl, rfl, rfl, rfl, rfl, trivial⟩ ?_
     refine Rg.vN (X.extract rfl rfl) rfl ?_
     refine Rg.vN (X.extract rfl rfl) rfl ?_
     refine Rg.step rfl (Oq.alloc (cs := #[.int .i64 0, .int .u64 0]) hs ii30 rfl rfl rfl (fun b123 w124 hs => ?_))
     refine Rg.step rfl (Oq.storeN hs 0 rfl (vals := [.int .i64 x111.1.At, .int .u64 x111.1.Key]) zz30 rfl rfl (one_all ⟨rfl, rfl, trivial⟩) rfl [.box b123 #[.int .i64 x111.1.At, .int .u64 x111.1.Key] 30, .row g120 cur121 30, .box b11 #[v119] 44, .box b79 #[.int .i64 x72.Kind, .int .u64 x72.Key, .int .i64 x72.At] 36, .app g92 v90 j83.length 30 2] rfl (fun w126 hs => ?_))
     refine Rg.st rfl rfl ?_
     refine Rg.go ?_
     refine Cd.seq ?_
     refine Cd.seq ?_
     obtain ⟨p129, hp130, hp59⟩ := bind_s hp59
     refine Cd.post (fun K w => ∃ (S131 : Mp) (v134 : Value) (g135 : Option Nat) (cur136 : Array Value), K = [(0, v1), (3, .pointer (some ⟨b11, 0, none⟩)), (4, v90), (5, .int .i64 q37), (6, .pointer (some ⟨b79, 0, none⟩)), (10, .int .i64 x99.1), (11, .bool x99.2.1), (150, .bool p129.1)] ∧ Le S116 S131 ∧ St w0 [] S0 S131 [.row g135 cur136 30, .box b11 #[v134] 44, .box b79 #[.int .i64 x72.Kind, .int .u64 x72.Key, .int .i64 x72.At] 36, .app g92 v90 j83.length 30 2] w ∧ Rw S131 2 R_alarm_Due g135 cur136 v134 p129.2) ?_ ?_
     ·rintro K138 w132 ⟨S131, v134, g135, cur136, rfl, le133, hs, f137⟩
      refine Cd.go ?_
      refine Cd.cond (t := p129.1) rfl (fun hc139 => ?_) (fun hc139 => ?_)
      ·have hp59 := ite_t hc139 hp59
       refine Cd.sr ?_
       refine Rg.st rfl rfl ?_
       refine Rg.go ?_
       refine Cd.ret ?_
       obtain rfl := some_s hp59
       have h52 := el_ret h52
       obtain rfl := some_s h52
       have e := hl51 (fun _ e => by cases e)
       subst e
       have h0 := el_ret h0
       obtain rfl := some_s h0
       exact fun a ha => Cd.retA (R := Re (Po12 S0 w0 _ _)) ha Try.results12 ⟨_, _, rfl, rfl, rfl⟩ ⟨_, rfl, S131, rfl, (hs.pick [] (by decide) rfl)⟩
      ·have hp59 := ite_f hc139 hp59
       refine Cd.sg ?_
       refine Cd.sr ?_
       refine Rg.st rfl rfl ?_
       refine Rg.st rfl rfl ?_
       refine Rg.go ?_
       refine Cd.seq ?_
       refine Cd.sr ?_
       refine Rg.mv rfl rfl ?_
       refine Rg.vN (X.lenR Try.underlying27 rfl (f91.mono (le106.trans (le118.trans le133)))) rfl ?_
       refine Rg.mv rfl rfl ?_
       refine Rg.go ?_
       obtain ⟨fl140, hfl141, hp59⟩ := bind_s hp59
       refine Cd.post (fun K w => ∃ (j142 : Int) (j143 : Bool) (j144 : Int) (S145 : Mp), K = [(0, v1), (3, .pointer (some ⟨b11, 0, none⟩)), (4, v90), (5, .int .i64 q37), (10, .int .i64 x99.1), (11, .bool x99.2.1), (14, .int .i64 j142), (15, .bool j143)] ∧ fl140 = Flow.brk (j142, j143, j144) ∧ Le S131 S145 ∧ St w0 [] S0 S145 [.row g135 cur136 30, .box b11 #[v134] 44, .app g92 v90 j83.length 30 2] w) ?_ ?_
       ·rintro K148 w147 ⟨j142, j143, j144, S145, rfl, rfl, le146, hs⟩
        have hp59 := el_brk hp59
        try dsimp only at hp59
        refine Cd.go ?_
        refine Cd.weak [(0, v1), (3, .pointer (some ⟨b11, 0, none⟩)), (4, v90), (5, .int .i64 q37), (10, .int .i64 x99.1), (11, .bool x99.2.1), (14, .int .i64 j142), (15, .bool j143)] ⟨rfl, rfl, rfl, rfl, rfl, rfl, rfl, rfl, trivial⟩ ?_
        refine Cd.sr ?_
        refine Rg.mv rfl rfl ?_
        refine Rg.mv rfl rfl ?_
        refine Rg.vN (X.neq rfl rfl) rfl ?_
        refine Rg.mv rfl rfl ?_
        refine Rg.vF rfl rfl rfl (fun hW => X.move rfl) ?_
        refine Rg.vF rfl rfl rfl (fun hW => X.move rfl) ?_
        refine Rg.vF rfl rfl rfl (fun hW => X.neqB Try.underlying4 (ev_g rfl hW) (ev_g rfl hW)) ?_
        refine Rg.vN (X.pickOr rfl rfl rfl) rfl ?_
        refine Rg.go ?_
        refine Cd.weak [(0, v1), (3, .pointer (some ⟨b11, 0, none⟩)), (4, v90), (5, .int .i64 q37), (172, .bool ((x99.1 != j142) || (!(x99.2.1 == j143))))] ⟨rfl, rfl, rfl, rfl, rfl, trivial⟩ ?_
        refine Cd.cond (t := (x99.1 != j142) || (!(x99.2.1 == j143))) rfl (fun hc149 => ?_) (fun hc149 => ?_)
        ·have hp59 := ite_t hc149 hp59
         refine Cd.sr ?_
         refine Rg.st rfl rfl ?_
         refine Rg.go ?_
         refine Cd.ret ?_
         obtain rfl := some_s hp59
         have h52 := el_ret h52
         obtain rfl := some_s h52
         have e := hl51 (fun _ e => by cases e)
         subst e
         have h0 := el_ret h0
         obtain rfl := some_s h0
         exact fun a ha => Cd.retA (R := Re (Po12 S0 w0 _ _)) ha Try.results12 ⟨_, _, rfl, rfl, rfl⟩ ⟨_, rfl, S145, rfl, (hs.pick [] (by decide) rfl)⟩
        ·have hp59 := ite_f hc149 hp59
         refine Cd.skip ?_
         obtain rfl := some_s hp59
         exact fun a ha => ⟨[(0, v1), (3, .pointer (some ⟨b11, 0, none⟩)), (4, v90), (5, .int .i64 q37)], ha.weak ⟨rfl, rfl, rfl, rfl, trivial⟩, _, _, S145, v90, g92, v134, g135, cur136, rfl, rfl, (le89.trans (le106.trans (le118.trans (le133.trans le146)))), hs, (f91.mono (le106.trans (le118.trans (le133.trans le146)))), (f137.mono le146)⟩
       ·skip
        refine Cd.weak [(0, v1), (3, .pointer (some ⟨b11, 0, none⟩)), (4, v90), (5, .int .i64 q37), (6, .pointer (some ⟨b79, 0, none⟩)), (10, .int .i64 x99.1), (11, .bool x99.2.1), (14, .int .i64 0), (15, .bool false), (151, v90), (152, .int .i64 (j83.length : Int)), (153, .int .i64 0)] ⟨rfl, rfl, rfl, rfl, rfl, rfl, rfl, rfl, rfl, rfl, rfl, rfl, trivial⟩ ?_
        refine Cd.block (Cd.loop (fun sg => limelightlaw12_play_l1 x72 j83 sg.1 sg.2.1 sg.2.2) (fun (sg : (Int × Bool × Int)) K w => ∃ (S153 : Mp), K = [(0, v1), (3, .pointer (some ⟨b11, 0, none⟩)), (4, v90), (5, .int .i64 q37), (6, .pointer (some ⟨b79, 0, none⟩)), (10, .int .i64 x99.1), (11, .bool x99.2.1), (14, .int .i64 sg.1), (15, .bool sg.2.1), (151, v90), (152, .int .i64 (j83.length : Int)), (153, .int .i64 sg.2.2)] ∧ Le S131 S153 ∧ St w0 [] S0 S153 [.row g135 cur136 30, .box b11 #[v134] 44, .box b79 #[.int .i64 x72.Kind, .int .u64 x72.Key, .int .i64 x72.At] 36, .app g92 v90 j83.length 30 2] w) (0, false, 0) fl140 hfl141 ⟨S131, rfl, Le.refl _, hs⟩ ?_)
        rintro ⟨q150, q151, q152⟩ fl155 K160 w159 hb156 ⟨S153, rfl, le154, hs⟩ hl157
        have h158 : limelightlaw12_play_l1 x72 j83 q150 q151 q152 = some fl155 := hb156
        unfold limelightlaw12_play_l1 at h158
        refine Cd.sr ?_
        refine Rg.vN (X.lss rfl rfl) rfl ?_
        refine Rg.go ?_
        refine Cd.seq ?_
        refine Cd.cond (t := decide (q152 < (j83.length : Int))) rfl (fun hc161 => ?_) (fun hc161 => ?_)
        ·have h158 := ite_t hc161 h158
         refine Cd.sg ?_
         refine Cd.seq ?_
         obtain ⟨p164, hp165, h158⟩ := bind_s h158
         refine Cd.post (fun K w => ∃ (S166 : Mp), K = [(0, v1), (3, .pointer (some ⟨b11, 0, none⟩)), (4, v90), (5, .int .i64 q37), (6, .pointer (some ⟨b79, 0, none⟩)), (10, .int .i64 x99.1), (11, .bool x99.2.1), (14, .int .i64 p164.1), (15, .bool p164.2), (151, v90), (152, .int .i64 (j83.length : Int)), (153, .int .i64 q152)] ∧ Le S153 S166 ∧ St w0 [] S0 S166 [.row g135 cur136 30, .box b11 #[v134] 44, .box b79 #[.int .i64 x72.Kind, .int .u64 x72.Key, .int .i64 x72.At] 36, .app g92 v90 j83.length 30 2] w) ?_ ?_
         ·rintro K169 w167 ⟨S166, rfl, le168, hs⟩
          refine Cd.go ?_
          refine Cd.region ?_
          refine Rg.vN (X.add rfl rfl) rfl ?_
          refine Rg.mv rfl rfl ?_
          refine Rg.nil ?_
          exact fun a ha => ⟨(p164.1, p164.2, add .i64 q152 1), [(0, v1), (3, .pointer (some ⟨b11, 0, none⟩)), (4, v90), (5, .int .i64 q37), (6, .pointer (some ⟨b79, 0, none⟩)), (10, .int .i64 x99.1), (11, .bool x99.2.1), (14, .int .i64 p164.1), (15, .bool p164.2), (151, v90), (152, .int .i64 (j83.length : Int)), (153, .int .i64 (add .i64 q152 1))], (some_s h158).symm, ha.weak ⟨rfl, rfl, rfl, rfl, rfl, rfl, rfl, rfl, rfl, rfl, rfl, rfl, trivial⟩, S166, rfl, (le154.trans le168), hs⟩
         ·skip
          refine Cd.block ?_
          refine Cd.sr ?_
          obtain ⟨x170, hx171, hp165⟩ := bind_s hp165
          obtain ⟨ad172, vals173, _, hR174, hE175, hX176⟩ := mk_index Try.underlying27 zz30 (by decide) (f91.mono (le106.trans (le118.trans (le133.trans le154)))) hx171
          unfold R_alarm_Due at hR174
          subst hR174
          refine Rg.vN (hX176 rfl rfl) rfl ?_
          refine Rg.vN (X.loadE (vals := [.int .i64 x170.At, .int .u64 x170.Key]) hs.has Try.underlying30 rfl zz30 rfl hE175) rfl ?_
          refine Rg.step rfl (Oq.alloc (cs := #[.int .i64 0, .int .u64 0]) hs ii30 rfl rfl rfl (fun b177 w178 hs => ?_))
          refine Rg.step rfl (Oq.storeN hs 0 rfl (vals := [.int .i64 x170.At, .int .u64 x170.Key]) zz30 rfl rfl (one_all ⟨rfl, rfl, trivial⟩) rfl [.box b177 #[.int .i64 x170.At, .int .u64 x170.Key] 30, .row g135 cur136 30, .box b11 #[v134] 44, .box b79 #[.int .i64 x72.Kind, .int .u64 x72.Key, .int .i64 x72.At] 36, .app g92 v90 j83.length 30 2] rfl (fun w180 hs => ?_))
          refine Rg.go ?_
          refine Cd.sr ?_
          refine Rg.vN (X.fieldB Try.underlying30 rfl zz26 rfl rfl) rfl ?_
          refine Rg.vN (X.load1 Try.underlying26 rfl rfl (hs.cell 0 rfl 1 rfl)) rfl ?_
          refine Rg.weak [(0, v1), (3, .pointer (some ⟨b11, 0, none⟩)), (4, v90), (5, .int .i64 q37), (6, .pointer (some ⟨b79, 0, none⟩)), (10, .int .i64 x99.1), (11, .bool x99.2.1), (14, .int .i64 q150), (15, .bool q151), (17, .pointer (some ⟨b177, 0, none⟩)), (151, v90), (152, .int .i64 (j83.length : Int)), (153, .int .i64 q152), (158, .int .u64 x170.Key)] ⟨rfl, rfl, rfl, rfl, rfl, rfl, rfl, rfl, rfl, rfl, rfl, rfl, rfl, rfl, trivial⟩ ?_
          refine Rg.vN (X.fieldB Try.underlying36 rfl zz26 rfl rfl) rfl ?_
          refine Rg.vN (X.load1 Try.underlying26 rfl rfl (hs.cell 3 rfl 1 rfl)) rfl ?_
          refine Rg.vN (X.eql rfl rfl) rfl ?_
          refine Rg.go ?_
          obtain ⟨p183, hp184, hp165⟩ := bind_s hp165
          refine Cd.post (fun K w => ∃ (S185 : Mp), K = [(0, v1), (3, .pointer (some ⟨b11, 0, none⟩)), (4, v90), (5, .int .i64 q37), (6, .pointer (some ⟨b79, 0, none⟩)), (10, .int .i64 x99.1), (11, .bool x99.2.1), (14, .int .i64 p183.1), (15, .bool p183.2), (151, v90), (152, .int .i64 (j83.length : Int)), (153, .int .i64 q152)] ∧ Le S153 S185 ∧ St w0 [] S0 S185 [.row g135 cur136 30, .box b11 #[v134] 44, .box b79 #[.int .i64 x72.Kind, .int .u64 x72.Key, .int .i64 x72.At] 36, .app g92 v90 j83.length 30 2] w) ?_ ?_
          ·rintro K188 w186 ⟨S185, rfl, le187, hs⟩
           obtain rfl := some_s hp165
           exact fun a ha => ⟨[(0, v1), (3, .pointer (some ⟨b11, 0, none⟩)), (4, v90), (5, .int .i64 q37), (6, .pointer (some ⟨b79, 0, none⟩)), (10, .int .i64 x99.1), (11, .bool x99.2.1), (14, .int .i64 p183.1), (15, .bool p183.2), (151, v90), (152, .int .i64 (j83.length : Int)), (153, .int .i64 q152)], ha.weak ⟨rfl, rfl, rfl, rfl, rfl, rfl, rfl, rfl, rfl, rfl, rfl, rfl, trivial⟩, S185, rfl, le187, hs⟩
          ·skip
           refine Cd.cond (t := x170.Key == x72.Key) rfl (fun hc189 => ?_) (fun hc189 => ?_)
           ·have hp184 := ite_t hc189 hp184
            refine Cd.region ?_
            refine Rg.vN (X.fieldB Try.underlying30 rfl zz2 rfl rfl) rfl ?_
            refine Rg.weak [(0, v1), (3, .pointer (some ⟨b11, 0, none⟩)), (4, v90), (5, .int .i64 q37), (6, .pointer (some ⟨b79, 0, none⟩)), (10, .int .i64 x99.1), (11, .bool x99.2.1), (151, v90), (152, .int .i64 (j83.length : Int)), (153, .int .i64 q152), (162, .pointer (some ⟨b177, 0, none⟩))] ⟨rfl, rfl, rfl, rfl, rfl, rfl, rfl, rfl, rfl, rfl, rfl, trivial⟩ ?_
            refine Rg.vN (X.load1 Try.underlying2 rfl rfl (hs.cell 0 rfl 0 rfl)) rfl ?_
            refine Rg.st rfl rfl ?_
            refine Rg.st rfl rfl ?_
            refine Rg.nil ?_
            obtain rfl := some_s hp184
            exact fun a ha => ⟨[(0, v1), (3, .pointer (some ⟨b11, 0, none⟩)), (4, v90), (5, .int .i64 q37), (6, .pointer (some ⟨b79, 0, none⟩)), (10, .int .i64 x99.1), (11, .bool x99.2.1), (14, .int .i64 x170.At), (15, .bool true), (151, v90), (152, .int .i64 (j83.length : Int)), (153, .int .i64 q152)], ha.weak ⟨rfl, rfl, rfl, rfl, rfl, rfl, rfl, rfl, rfl, rfl, rfl, rfl, trivial⟩, S153, rfl, Le.refl _, (hs.pick [1, 2, 3, 4] (by decide) rfl)⟩
           ·have hp184 := ite_f hc189 hp184
            refine Cd.skip ?_
            obtain rfl := some_s hp184
            exact fun a ha => ⟨[(0, v1), (3, .pointer (some ⟨b11, 0, none⟩)), (4, v90), (5, .int .i64 q37), (6, .pointer (some ⟨b79, 0, none⟩)), (10, .int .i64 x99.1), (11, .bool x99.2.1), (14, .int .i64 q150), (15, .bool q151), (151, v90), (152, .int .i64 (j83.length : Int)), (153, .int .i64 q152)], ha.weak ⟨rfl, rfl, rfl, rfl, rfl, rfl, rfl, rfl, rfl, rfl, rfl, rfl, trivial⟩, S153, rfl, Le.refl _, (hs.pick [1, 2, 3, 4] (by decide) rfl)⟩
        ·have h158 := ite_f hc161 h158
         refine Cd.exit ?_
         obtain rfl := some_s h158
         have e := hl157 (fun _ e => by cases e)
         exact fun a ha => ⟨[(0, v1), (3, .pointer (some ⟨b11, 0, none⟩)), (4, v90), (5, .int .i64 q37), (10, .int .i64 x99.1), (11, .bool x99.2.1), (14, .int .i64 q150), (15, .bool q151)], ha.weak ⟨rfl, rfl, rfl, rfl, rfl, rfl, rfl, rfl, trivial⟩, _, _, _, S153, rfl, e.symm, le154, (hs.pick [0, 1, 3] (by decide) rfl)⟩
     ·skip
      refine Cd.rD mixed (fun l w => Has S116 w ∧ Hp b123 #[.int .i64 x111.1.At, .int .u64 x111.1.Key] 30 w) hs (fun _ _ _ _ _ h => h) (by kernel_rfl) (fun w193 hs => ⟨⟨hs.has, (hs.heap 0 rfl)⟩, ?_⟩)
      refine Rk.tN 0 rfl rfl (fun _ _ => X.move rfl) ?_
      refine Rk.tN 2 rfl rfl (fun _ _ => X.move rfl) ?_
      refine Rk.tN 3 rfl rfl (fun _ _ => X.lenR Try.underlying27 rfl (f91.mono (le106.trans le118))) ?_
      obtain ⟨x194, hx195, hp130⟩ := bind_s hp130
      refine Rk.eN 1 rfl rfl (Oq.call Try.call10 rfl rfl (c10 S116 _ (⟨x111.2.2.l_⟩ : alarm_Table) _ _ _ f122 (hs.enterP [2, 1] (by decide) rfl (by cases g120 <;> rfl)) _ hx195) (fun v196 w197 h198 => ?_))
      obtain ⟨S199, v202, g203, cur204, rfl, hs200, f205⟩ := h198
      have le201 := hs200.le
      have hs := hs.callP [2, 1] rfl (by cases g120 <;> rfl) hs200
      refine ⟨⟨(hs.has.down le201), (hs.heap 2 rfl)⟩, Rk.mk (C' := fun l w => Has S199 w ∧ Hp b123 #[.int .i64 x111.1.At, .int .u64 x111.1.Key] 30 w) ⟨hs.has, (hs.heap 2 rfl)⟩ (fun l w hc => ⟨hc.1.down le201, hc.2⟩) ?_⟩
      refine Rk.tN 4 rfl rfl (fun _ _ => X.neq rfl rfl) ?_
      refine Rk.tN 5 rfl rfl (fun _ _ => X.move rfl) ?_
      refine Rk.tF 6 rfl rfl rfl rfl (fun hW => fun _ _ => X.move rfl) ?_
      refine Rk.tF 7 rfl rfl rfl rfl (fun hW => fun _ _ => X.move rfl) ?_
      refine Rk.tF 8 rfl rfl rfl rfl (fun hW => fun _ _ => X.lenR Try.underlying27 (ev_g rfl hW) (f91.mono (le106.trans (le118.trans le201)))) ?_
      refine Rk.tF 9 rfl rfl rfl rfl (fun hW => fun _ _ => X.gtr (ev_g rfl hW) rfl) ?_
      refine Rk.tF 10 rfl rfl rfl rfl (fun hW => fun _ _ => X.neqB Try.underlying4 (ev_g rfl hW) (ev_g rfl hW)) ?_
      refine Rk.tN 11 rfl rfl (fun _ _ => X.pickOr rfl rfl rfl) ?_
      refine Rk.tN 12 rfl rfl (fun _ _ => X.move rfl) ?_
      refine Rk.tF 13 rfl rfl rfl rfl (fun hW => fun _ _ => X.move rfl) ?_
      refine Rk.tF 14 rfl rfl rfl rfl (fun hW => fun _ _ => X.move (ev_g rfl hW)) ?_
      refine Rk.tGT 15 rfl rfl rfl rfl (fun hW => fun w hc => X.loadN (vals := [.int .i64 x111.1.At, .int .u64 x111.1.Key]) Try.underlying30 rfl zz30 rfl (heap_range hc.2 0 rfl)) ?_
      refine Rk.weak [(0, v1), (3, .pointer (some ⟨b11, 0, none⟩)), (4, v90), (5, .int .i64 q37), (6, .pointer (some ⟨b79, 0, none⟩)), (10, .int .i64 x99.1), (11, .bool x99.2.1), (139, .bool ((x194.1 != (j83.length : Int)) || (!(x111.2.1 == (decide (0 < (j83.length : Int))))))), (141, gv (!((x194.1 != (j83.length : Int)) || (!(x111.2.1 == (decide (0 < (j83.length : Int))))))) (.bool x111.2.1)), (142, gv ((!((x194.1 != (j83.length : Int)) || (!(x111.2.1 == (decide (0 < (j83.length : Int))))))) && x111.2.1) (.agg (#[.int .i64 x111.1.At, .int .u64 x111.1.Key])))] ⟨rfl, rfl, rfl, rfl, rfl, rfl, rfl, rfl, rfl, rfl, trivial⟩ ?_
      refine Rk.tGT 16 rfl rfl rfl rfl (fun hW => fun _ _ => X.move rfl) ?_
      refine Rk.tGT 17 rfl rfl rfl rfl (fun hW => fun _ _ => X.move rfl) ?_
      refine Rk.split (b := (x194.1 != (j83.length : Int)) || (!(x111.2.1 == (decide (0 < (j83.length : Int)))))) (tj := 139) rfl (fun hc206 => ?_) (fun hc206 => ?_)
      ·have hp130 := ite_t hc206 hp130
       refine Rk.weak [(0, v1), (3, .pointer (some ⟨b11, 0, none⟩)), (4, v90), (5, .int .i64 q37), (6, .pointer (some ⟨b79, 0, none⟩)), (10, .int .i64 x99.1), (11, .bool x99.2.1), (139, .bool true), (141, undef), (142, undef), (143, undef), (144, undef)] ⟨rfl, rfl, rfl, rfl, rfl, rfl, rfl, rfl, get_u rfl (nn hc206), get_u rfl (not_and_l (nn hc206)), get_u rfl (not_and_l (nn hc206)), get_u rfl (not_and_l (nn hc206)), trivial⟩ ?_
       refine Rk.tO 18 rfl rfl rfl rfl rfl ?_
       refine Rk.tO 19 rfl rfl rfl rfl rfl ?_
       refine Rk.tO 20 rfl rfl rfl rfl rfl ?_
       refine Rk.tO 21 rfl rfl rfl rfl rfl ?_
       refine Rk.tO 22 rfl rfl rfl rfl rfl ?_
       refine Rk.tN 23 rfl rfl (fun _ _ => X.pickT rfl rfl) ?_
       refine Rk.done ?_
       obtain rfl := some_s hp130
       exact fun a ha => ⟨[(0, v1), (3, .pointer (some ⟨b11, 0, none⟩)), (4, v90), (5, .int .i64 q37), (6, .pointer (some ⟨b79, 0, none⟩)), (10, .int .i64 x99.1), (11, .bool x99.2.1), (150, .bool true)], ha.weak ⟨rfl, rfl, rfl, rfl, rfl, rfl, rfl, rfl, trivial⟩, S199, v202, g203, cur204, rfl, le201, (hs.pick [0, 1, 3, 4] (by decide) rfl), f205⟩
      ·have hp130 := ite_f hc206 hp130
       refine Rk.weak [(0, v1), (3, .pointer (some ⟨b11, 0, none⟩)), (4, v90), (5, .int .i64 q37), (6, .pointer (some ⟨b79, 0, none⟩)), (10, .int .i64 x99.1), (11, .bool x99.2.1), (139, .bool false), (141, .bool x111.2.1), (142, gv ((!((x194.1 != (j83.length : Int)) || (!(x111.2.1 == (decide (0 < (j83.length : Int))))))) && x111.2.1) (.agg (#[.int .i64 x111.1.At, .int .u64 x111.1.Key]))), (143, gv ((!((x194.1 != (j83.length : Int)) || (!(x111.2.1 == (decide (0 < (j83.length : Int))))))) && x111.2.1) (v90)), (144, gv ((!((x194.1 != (j83.length : Int)) || (!(x111.2.1 == (decide (0 < (j83.length : Int))))))) && x111.2.1) (v90))] ⟨rfl, rfl, rfl, rfl, rfl, rfl, rfl, rfl, get_g rfl (not_f hc206), rfl, rfl, rfl, trivial⟩ ?_
       refine Rk.split (b := x111.2.1) (tj := 141) rfl (fun hc207 => ?_) (fun hc207 => ?_)
       ·have hp130 := ite_t hc207 hp130
        refine Rk.weak [(0, v1), (3, .pointer (some ⟨b11, 0, none⟩)), (4, v90), (5, .int .i64 q37), (6, .pointer (some ⟨b79, 0, none⟩)), (10, .int .i64 x99.1), (11, .bool x99.2.1), (139, .bool false), (141, .bool true), (142, .agg (#[.int .i64 x111.1.At, .int .u64 x111.1.Key])), (143, v90), (144, v90)] ⟨rfl, rfl, rfl, rfl, rfl, rfl, rfl, rfl, rfl, get_g rfl (and_i (not_f hc206) hc207), get_g rfl (and_i (not_f hc206) hc207), get_g rfl (and_i (not_f hc206) hc207), trivial⟩ ?_
        obtain ⟨x208, hx209, hp130⟩ := bind_s hp130
        refine Rk.eG 18 rfl rfl rfl rfl (Oq.call Try.call23 rfl rfl (c23 S199 (St.start _ _ hs.has) _ _ (f91.mono (le106.trans (le118.trans le201))) _ hx209) (fun v210 w211 h212 => ?_))
        obtain ⟨S213, rfl, hs214⟩ := h212
        have le215 := hs214.le
        have hs := hs.call0 hs214
        refine ⟨⟨(hs.has.down le215), (hs.heap 2 rfl)⟩, Rk.mk (C' := fun l w => Has S213 w ∧ Hp b123 #[.int .i64 x111.1.At, .int .u64 x111.1.Key] 30 w) ⟨hs.has, (hs.heap 2 rfl)⟩ (fun l w hc => ⟨hc.1.down le215, hc.2⟩) ?_⟩
        obtain ⟨x216, hx217, hp130⟩ := bind_s hp130
        obtain ⟨ad218, vals219, _, hR220, hE221, hX222⟩ := mk_index Try.underlying27 zz30 (by decide) (f91.mono (le106.trans (le118.trans (le201.trans le215)))) hx217
        unfold R_alarm_Due at hR220
        subst hR220
        refine Rk.tT 19 rfl rfl rfl rfl (fun hW => fun _ _ => hX222 rfl rfl) ?_
        refine Rk.tT 20 rfl rfl rfl rfl (fun hW => fun w hc => X.loadE (vals := [.int .i64 x216.At, .int .u64 x216.Key]) hc.1 Try.underlying30 rfl zz30 rfl hE221) ?_
        refine Rk.tT 21 rfl rfl rfl rfl (fun hW => fun _ _ => X.neqA eqg30 (eqs30 _ _ _ _) rfl rfl) ?_
        refine Rk.tF 22 rfl rfl rfl rfl (fun hW => fun _ _ => X.pickT rfl rfl) ?_
        refine Rk.tN 23 rfl rfl (fun _ _ => X.pickF rfl rfl) ?_
        refine Rk.done ?_
        obtain rfl := some_s hp130
        exact fun a ha => ⟨[(0, v1), (3, .pointer (some ⟨b11, 0, none⟩)), (4, v90), (5, .int .i64 q37), (6, .pointer (some ⟨b79, 0, none⟩)), (10, .int .i64 x99.1), (11, .bool x99.2.1), (150, .bool (!((x111.1.At == x216.At) && ((x111.1.Key == x216.Key) && true))))], ha.weak ⟨rfl, rfl, rfl, rfl, rfl, rfl, rfl, rfl, trivial⟩, S213, v202, g203, cur204, rfl, (le201.trans le215), (hs.pick [0, 1, 3, 4] (by decide) rfl), (f205.mono le215)⟩
       ·have hp130 := ite_f hc207 hp130
        refine Rk.weak [(0, v1), (3, .pointer (some ⟨b11, 0, none⟩)), (4, v90), (5, .int .i64 q37), (6, .pointer (some ⟨b79, 0, none⟩)), (10, .int .i64 x99.1), (11, .bool x99.2.1), (139, .bool false), (141, .bool false), (142, undef), (143, undef), (144, undef)] ⟨rfl, rfl, rfl, rfl, rfl, rfl, rfl, rfl, rfl, get_u rfl (not_and_r (not_f hc207)), get_u rfl (not_and_r (not_f hc207)), get_u rfl (not_and_r (not_f hc207)), trivial⟩ ?_
        refine Rk.tO 18 rfl rfl rfl rfl rfl ?_
        refine Rk.tO 19 rfl rfl rfl rfl rfl ?_
        refine Rk.tO 20 rfl rfl rfl rfl rfl ?_
        refine Rk.tO 21 rfl rfl rfl rfl rfl ?_
        refine Rk.tF 22 rfl rfl rfl rfl (fun hW => fun _ _ => X.pickF rfl rfl) ?_
        refine Rk.tN 23 rfl rfl (fun _ _ => X.pickF rfl rfl) ?_
        refine Rk.done ?_
        obtain rfl := some_s hp130
        exact fun a ha => ⟨[(0, v1), (3, .pointer (some ⟨b11, 0, none⟩)), (4, v90), (5, .int .i64 q37), (6, .pointer (some ⟨b79, 0, none⟩)), (10, .int .i64 x99.1), (11, .bool x99.2.1), (150, .bool false)], ha.weak ⟨rfl, rfl, rfl, rfl, rfl, rfl, rfl, rfl, trivial⟩, S199, v202, g203, cur204, rfl, le201, (hs.pick [0, 1, 3, 4] (by decide) rfl), f205⟩
    ·skip
     refine Cd.block ?_
     refine Cd.sr ?_
     refine Rg.vN (X.eql rfl rfl) rfl ?_
     refine Rg.st rfl rfl ?_
     refine Rg.go ?_
     refine Cd.weak [(0, v1), (3, .pointer (some ⟨b11, 0, none⟩)), (4, v41), (5, .int .i64 q37), (6, .pointer (some ⟨b79, 0, none⟩)), (7, .int .i64 (q36.length : Int)), (38, .int .i64 x72.Kind), (56, .bool (x72.Kind == 3))] ⟨rfl, rfl, rfl, rfl, rfl, rfl, rfl, rfl, trivial⟩ ?_
     obtain ⟨p225, hp226, hp86⟩ := bind_s hp86
     refine Cd.post (fun K w => ∃ (j223 : (List alarm_Due)) (j224 : (List alarm_Due)) (S227 : Mp) (v230 : Value) (g232 : Option Nat) (v234 : Value) (g235 : Option Nat) (cur236 : Array Value), K = [(0, v1), (3, .pointer (some ⟨b11, 0, none⟩)), (4, v230), (5, .int .i64 q37), (6, .pointer (some ⟨b79, 0, none⟩))] ∧ p225 = Flow.next (j223, j224) ∧ Le S39 S227 ∧ St w0 [] S0 S227 [.box b79 #[.int .i64 x72.Kind, .int .u64 x72.Key, .int .i64 x72.At] 36, .row g235 cur236 30, .box b11 #[v234] 44, .app g232 v230 j223.length 30 2] w ∧ Rd S227 2 R_alarm_Due v230 j223 ∧ Rw S227 2 R_alarm_Due g235 cur236 v234 j224) ?_ ?_
     ·rintro K238 w228 ⟨j223, j224, S227, v230, g232, v234, g235, cur236, rfl, rfl, le229, hs, f231, f237⟩
      have hp86 := el_next hp86
      try dsimp only at hp86
      obtain rfl := some_s hp86
      exact fun a ha => ⟨[(0, v1), (3, .pointer (some ⟨b11, 0, none⟩)), (4, v230), (5, .int .i64 q37), (6, .pointer (some ⟨b79, 0, none⟩))], ha.weak ⟨rfl, rfl, rfl, rfl, rfl, trivial⟩, _, _, S227, v230, g232, v234, g235, cur236, rfl, rfl, le229, hs, f231, f237⟩
     ·skip
      refine Cd.cond (t := x72.Kind == 3) rfl (fun hc239 => ?_) (fun hc239 => ?_)
      ·have hp226 := ite_t hc239 hp226
       refine Cd.sr ?_
       refine Rg.mv rfl rfl ?_
       refine Rg.vN (X.fieldB Try.underlying36 rfl zz26 rfl rfl) rfl ?_
       refine Rg.vN (X.load1 Try.underlying26 rfl rfl (hs.cell 0 rfl 1 rfl)) rfl ?_
       obtain ⟨x240, hx241, hp226⟩ := bind_s hp226
       refine Rg.step rfl (Oq.call Try.call22 rfl rfl (c22 S39 (St.start _ _ hs.has) _ _ f42 _ _ hx241) (fun v242 w243 h244 => ?_))
       obtain ⟨S245, v248, g250, rfl, hs246, f249⟩ := h244
       have le247 := hs246.le
       have hs := hs.call0 hs246
       refine Rg.st rfl rfl ?_
       refine Rg.go ?_
       refine Cd.sr ?_
       refine Rg.mv rfl rfl ?_
       refine Rg.vN (X.fieldB Try.underlying36 rfl zz26 rfl rfl) rfl ?_
       refine Rg.vN (X.load1 Try.underlying26 rfl rfl (hs.cell 1 rfl 1 rfl)) rfl ?_
       refine Rg.weak [(0, v1), (3, .pointer (some ⟨b11, 0, none⟩)), (4, v242), (5, .int .i64 q37), (6, .pointer (some ⟨b79, 0, none⟩)), (7, .int .i64 (q36.length : Int)), (62, .pointer (some ⟨b11, 0, none⟩)), (64, .int .u64 x72.Key)] ⟨rfl, rfl, rfl, rfl, rfl, rfl, rfl, rfl, trivial⟩ ?_
       obtain ⟨x252, hx253, hp226⟩ := bind_s hp226
       refine Rg.step rfl (Oq.call Try.call14 rfl rfl (c14 S245 _ (⟨q38⟩ : alarm_Table) _ _ _ (f48.mono le247) _ (hs.enterP [3, 2] (by decide) rfl (by cases g46 <;> rfl)) _ hx253) (fun v254 w255 h256 => ?_))
       obtain ⟨S257, v260, g261, cur262, rfl, hs258, f263⟩ := h256
       have le259 := hs258.le
       have hs := hs.callP [3, 2] rfl (by cases g46 <;> rfl) hs258
       refine Rg.mv rfl rfl ?_
       refine Rg.vN (X.lenR Try.underlying27 rfl (f249.mono le259)) rfl ?_
       refine Rg.mv rfl rfl ?_
       refine Rg.vN (X.lss rfl rfl) rfl ?_
       refine Rg.vN (X.neqB Try.underlying4 rfl rfl) rfl ?_
       refine Rg.go ?_
       refine Cd.cond (t := !(x252.1 == (decide ((x240.length : Int) < (q36.length : Int))))) rfl (fun hc264 => ?_) (fun hc264 => ?_)
       ·have hp226 := ite_t hc264 hp226
        refine Cd.sr ?_
        refine Rg.st rfl rfl ?_
        refine Rg.go ?_
        refine Cd.ret ?_
        obtain rfl := some_s hp226
        have hp86 := el_ret hp86
        obtain rfl := some_s hp86
        have hp59 := el_ret hp59
        obtain rfl := some_s hp59
        have h52 := el_ret h52
        obtain rfl := some_s h52
        have e := hl51 (fun _ e => by cases e)
        subst e
        have h0 := el_ret h0
        obtain rfl := some_s h0
        exact fun a ha => Cd.retA (R := Re (Po12 S0 w0 _ _)) ha Try.results12 ⟨_, _, rfl, rfl, rfl⟩ ⟨_, rfl, S257, rfl, (hs.pick [] (by decide) rfl)⟩
       ·have hp226 := ite_f hc264 hp226
        refine Cd.skip ?_
        obtain rfl := some_s hp226
        exact fun a ha => ⟨[(0, v1), (3, .pointer (some ⟨b11, 0, none⟩)), (4, v242), (5, .int .i64 q37), (6, .pointer (some ⟨b79, 0, none⟩))], ha.weak ⟨rfl, rfl, rfl, rfl, rfl, trivial⟩, _, _, S257, v242, g250, v260, g261, cur262, rfl, rfl, (le247.trans le259), (hs.pick [3, 0, 1, 2] (by decide) rfl), (f249.mono le259), f263⟩
      ·have hp226 := ite_f hc239 hp226
       refine Cd.sr ?_
       refine Rg.vN (X.eql rfl rfl) rfl ?_
       refine Rg.st rfl rfl ?_
       refine Rg.go ?_
       obtain ⟨p267, hp268, hp226⟩ := bind_s hp226
       refine Cd.post (fun K w => ∃ (j265 : (List alarm_Due)) (j266 : (List alarm_Due)) (S269 : Mp) (v272 : Value) (g274 : Option Nat) (v276 : Value) (g277 : Option Nat) (cur278 : Array Value), K = [(0, v1), (3, .pointer (some ⟨b11, 0, none⟩)), (4, v272), (5, .int .i64 q37), (6, .pointer (some ⟨b79, 0, none⟩))] ∧ p267 = Flow.next (j265, j266) ∧ Le S39 S269 ∧ St w0 [] S0 S269 [.box b79 #[.int .i64 x72.Kind, .int .u64 x72.Key, .int .i64 x72.At] 36, .row g277 cur278 30, .box b11 #[v276] 44, .app g274 v272 j265.length 30 2] w ∧ Rd S269 2 R_alarm_Due v272 j265 ∧ Rw S269 2 R_alarm_Due g277 cur278 v276 j266) ?_ ?_
       ·rintro K280 w270 ⟨j265, j266, S269, v272, g274, v276, g277, cur278, rfl, rfl, le271, hs, f273, f279⟩
        have hp226 := el_next hp226
        try dsimp only at hp226
        obtain rfl := some_s hp226
        exact fun a ha => ⟨[(0, v1), (3, .pointer (some ⟨b11, 0, none⟩)), (4, v272), (5, .int .i64 q37), (6, .pointer (some ⟨b79, 0, none⟩))], ha.weak ⟨rfl, rfl, rfl, rfl, rfl, trivial⟩, _, _, S269, v272, g274, v276, g277, cur278, rfl, rfl, le271, hs, f273, f279⟩
       ·skip
        refine Cd.cond (t := x72.Kind == 4) rfl (fun hc281 => ?_) (fun hc281 => ?_)
        ·have hp268 := ite_t hc281 hp268
         refine Cd.sr ?_
         refine Rg.mv rfl rfl ?_
         refine Rg.vN (X.fieldB Try.underlying36 rfl zz2 rfl rfl) rfl ?_
         refine Rg.vN (X.load1 Try.underlying2 rfl rfl (hs.cell 0 rfl 2 rfl)) rfl ?_
         obtain ⟨x282, hx283, hp268⟩ := bind_s hp268
         refine Rg.step rfl (Oq.call Try.call9 rfl rfl (c9 S39 _ (⟨q38⟩ : alarm_Table) _ _ _ f48 _ (hs.enterP [2, 1] (by decide) rfl (by cases g46 <;> rfl)) _ hx283) (fun v284 w285 h286 => ?_))
         obtain ⟨S287, v290, g292, v294, g295, cur296, rfl, hs288, f291, f297⟩ := h286
         have le289 := hs288.le
         have hs := hs.callP [2, 1] rfl (by cases g46 <;> rfl) hs288
         refine Rg.st rfl rfl ?_
         refine Rg.go ?_
         refine Cd.seq ?_
         obtain ⟨fl298, hfl299, hp268⟩ := bind_s hp268
         refine Cd.post (fun K w => ∃ (j300 : (List alarm_Due)) (j301 : (List alarm_Due)) (S302 : Mp) (v304 : Value) (g306 : Option Nat) (v308 : Value), K = [(0, v1), (3, .pointer (some ⟨b11, 0, none⟩)), (4, v304), (5, .int .i64 q37), (6, .pointer (some ⟨b79, 0, none⟩)), (8, v308)] ∧ fl298 = Flow.brk (j300, j301) ∧ Le S287 S302 ∧ St w0 [] S0 S302 [.row g295 cur296 30, .box b11 #[v294] 44, .box b79 #[.int .i64 x72.Kind, .int .u64 x72.Key, .int .i64 x72.At] 36, .app g306 v304 j300.length 30 2] w ∧ Rd S302 2 R_alarm_Due v304 j300 ∧ Rd S302 2 R_alarm_Due v308 j301) ?_ ?_
         ·rintro K311 w310 ⟨j300, j301, S302, v304, g306, v308, rfl, rfl, le303, hs, f305, f309⟩
          have hp268 := el_brk hp268
          try dsimp only at hp268
          refine Cd.go ?_
          refine Cd.sr ?_
          refine Rg.mv rfl rfl ?_
          refine Rg.weak [(0, v1), (3, .pointer (some ⟨b11, 0, none⟩)), (4, v304), (5, .int .i64 q37), (6, .pointer (some ⟨b79, 0, none⟩)), (112, v308)] ⟨rfl, rfl, rfl, rfl, rfl, rfl, trivial⟩ ?_
          refine Rg.vN (X.lenR Try.underlying27 rfl f309) rfl ?_
          refine Rg.vN (X.gtr rfl rfl) rfl ?_
          refine Rg.go ?_
          refine Cd.cond (t := decide (0 < (j301.length : Int))) rfl (fun hc312 => ?_) (fun hc312 => ?_)
          ·have hp268 := ite_t hc312 hp268
           refine Cd.sr ?_
           refine Rg.st rfl rfl ?_
           refine Rg.go ?_
           refine Cd.ret ?_
           obtain rfl := some_s hp268
           have hp226 := el_ret hp226
           obtain rfl := some_s hp226
           have hp86 := el_ret hp86
           obtain rfl := some_s hp86
           have hp59 := el_ret hp59
           obtain rfl := some_s hp59
           have h52 := el_ret h52
           obtain rfl := some_s h52
           have e := hl51 (fun _ e => by cases e)
           subst e
           have h0 := el_ret h0
           obtain rfl := some_s h0
           exact fun a ha => Cd.retA (R := Re (Po12 S0 w0 _ _)) ha Try.results12 ⟨_, _, rfl, rfl, rfl⟩ ⟨_, rfl, S302, rfl, (hs.pick [] (by decide) rfl)⟩
          ·have hp268 := ite_f hc312 hp268
           refine Cd.skip ?_
           obtain rfl := some_s hp268
           exact fun a ha => ⟨[(0, v1), (3, .pointer (some ⟨b11, 0, none⟩)), (4, v304), (5, .int .i64 q37), (6, .pointer (some ⟨b79, 0, none⟩))], ha.weak ⟨rfl, rfl, rfl, rfl, rfl, trivial⟩, _, _, S302, v304, g306, v294, g295, cur296, rfl, rfl, (le289.trans le303), (hs.pick [2, 0, 1, 3] (by decide) rfl), f305, (f297.mono le303)⟩
         ·skip
          refine Cd.weak [(0, v1), (3, .pointer (some ⟨b11, 0, none⟩)), (4, v41), (5, .int .i64 q37), (6, .pointer (some ⟨b79, 0, none⟩)), (8, v284)] ⟨rfl, rfl, rfl, rfl, rfl, rfl, trivial⟩ ?_
          refine Cd.block (Cd.loop (fun sg => limelightlaw12_play_l2 x72 sg.1 sg.2) (fun (sg : ((List alarm_Due) × (List alarm_Due))) K w => ∃ (S315 : Mp) (v317 : Value) (g319 : Option Nat) (v321 : Value), K = [(0, v1), (3, .pointer (some ⟨b11, 0, none⟩)), (4, v317), (5, .int .i64 q37), (6, .pointer (some ⟨b79, 0, none⟩)), (8, v321)] ∧ Le S287 S315 ∧ St w0 [] S0 S315 [.row g295 cur296 30, .box b11 #[v294] 44, .box b79 #[.int .i64 x72.Kind, .int .u64 x72.Key, .int .i64 x72.At] 36, .app g319 v317 sg.1.length 30 2] w ∧ Rd S315 2 R_alarm_Due v317 sg.1 ∧ Rd S315 2 R_alarm_Due v321 sg.2) (q36, x282.1) fl298 hfl299 ⟨S287, v41, g43, v284, rfl, Le.refl _, (hs.pick [1, 2, 3, 4] (by decide) rfl), (f42.mono le289), f291⟩ ?_)
          rintro ⟨q313, q314⟩ fl323 K328 w327 hb324 ⟨S315, v317, g319, v321, rfl, le316, hs, f318, f322⟩ hl325
          have h326 : limelightlaw12_play_l2 x72 q313 q314 = some fl323 := hb324
          unfold limelightlaw12_play_l2 at h326
          refine Cd.seq ?_
          refine Cd.seq ?_
          obtain ⟨p330, hp331, h326⟩ := bind_s h326
          refine Cd.post (fun K w => ∃ (S332 : Mp), K = [(0, v1), (3, .pointer (some ⟨b11, 0, none⟩)), (4, v317), (5, .int .i64 q37), (6, .pointer (some ⟨b79, 0, none⟩)), (8, v321), (90, .bool p330)] ∧ Le S315 S332 ∧ St w0 [] S0 S332 [.row g295 cur296 30, .box b11 #[v294] 44, .box b79 #[.int .i64 x72.Kind, .int .u64 x72.Key, .int .i64 x72.At] 36, .app g319 v317 q313.length 30 2] w) ?_ ?_
          ·rintro K335 w333 ⟨S332, rfl, le334, hs⟩
           refine Cd.go ?_
           refine Cd.cond (t := p330) rfl (fun hc336 => ?_) (fun hc336 => ?_)
           ·have h326 := ite_t hc336 h326
            refine Cd.sg ?_
            obtain ⟨p339, hp340, h326⟩ := bind_s h326
            refine Cd.post (fun K w => ∃ (j337 : (List alarm_Due)) (j338 : (List alarm_Due)) (S341 : Mp) (v344 : Value) (g346 : Option Nat) (v348 : Value), K = [(0, v1), (3, .pointer (some ⟨b11, 0, none⟩)), (4, v344), (5, .int .i64 q37), (6, .pointer (some ⟨b79, 0, none⟩)), (8, v348)] ∧ p339 = Flow.next (j337, j338) ∧ Le S332 S341 ∧ St w0 [] S0 S341 [.row g295 cur296 30, .box b11 #[v294] 44, .box b79 #[.int .i64 x72.Kind, .int .u64 x72.Key, .int .i64 x72.At] 36, .app g346 v344 j337.length 30 2] w ∧ Rd S341 2 R_alarm_Due v344 j337 ∧ Rd S341 2 R_alarm_Due v348 j338) ?_ ?_
            ·rintro K350 w342 ⟨j337, j338, S341, v344, g346, v348, rfl, rfl, le343, hs, f345, f349⟩
             have h326 := el_next h326
             try dsimp only at h326
             exact fun a ha => ⟨(j337, j338), [(0, v1), (3, .pointer (some ⟨b11, 0, none⟩)), (4, v344), (5, .int .i64 q37), (6, .pointer (some ⟨b79, 0, none⟩)), (8, v348)], (some_s h326).symm, ha.weak ⟨rfl, rfl, rfl, rfl, rfl, rfl, trivial⟩, S341, v344, g346, v348, rfl, (le316.trans (le334.trans le343)), hs, f345, f349⟩
            ·skip
             refine Cd.block ?_
             refine Cd.sr ?_
             refine Rg.mv rfl rfl ?_
             refine Rg.weak [(0, v1), (3, .pointer (some ⟨b11, 0, none⟩)), (4, v317), (5, .int .i64 q37), (6, .pointer (some ⟨b79, 0, none⟩)), (8, v321), (91, v317)] ⟨rfl, rfl, rfl, rfl, rfl, rfl, rfl, trivial⟩ ?_
             refine Rg.mv rfl rfl ?_
             obtain ⟨x351, hx352, hp340⟩ := bind_s hp340
             refine Rg.step rfl (Oq.call Try.call23 rfl rfl (c23 S332 (St.start _ _ hs.has) _ _ (f318.mono le334) _ hx352) (fun v353 w354 h355 => ?_))
             obtain ⟨S356, rfl, hs357⟩ := h355
             have le358 := hs357.le
             have hs := hs.call0 hs357
             obtain ⟨x359, hx360, hp340⟩ := bind_s hp340
             obtain ⟨ad361, vals362, _, hR363, hE364, hX365⟩ := mk_index Try.underlying27 zz30 (by decide) (f318.mono (le334.trans le358)) hx360
             unfold R_alarm_Due at hR363
             subst hR363
             refine Rg.vN (hX365 rfl rfl) rfl ?_
             refine Rg.vN (X.loadE (vals := [.int .i64 x359.At, .int .u64 x359.Key]) hs.has Try.underlying30 rfl zz30 rfl hE364) rfl ?_
             refine Rg.step rfl (Oq.alloc (cs := #[.int .i64 0, .int .u64 0]) hs ii30 rfl rfl rfl (fun b366 w367 hs => ?_))
             refine Rg.step rfl (Oq.storeN hs 0 rfl (vals := [.int .i64 x359.At, .int .u64 x359.Key]) zz30 rfl rfl (one_all ⟨rfl, rfl, trivial⟩) rfl [.box b366 #[.int .i64 x359.At, .int .u64 x359.Key] 30, .row g295 cur296 30, .box b11 #[v294] 44, .box b79 #[.int .i64 x72.Kind, .int .u64 x72.Key, .int .i64 x72.At] 36, .app g319 v317 q313.length 30 2] rfl (fun w369 hs => ?_))
             refine Rg.go ?_
             refine Cd.seq ?_
             refine Cd.seq ?_
             obtain ⟨p371, hp372, hp340⟩ := bind_s hp340
             refine Cd.post (fun K w => ∃ (S373 : Mp), K = [(0, v1), (3, .pointer (some ⟨b11, 0, none⟩)), (4, v317), (5, .int .i64 q37), (6, .pointer (some ⟨b79, 0, none⟩)), (8, v321), (9, .pointer (some ⟨b366, 0, none⟩)), (105, .bool p371)] ∧ Le S356 S373 ∧ St w0 [] S0 S373 [.box b366 #[.int .i64 x359.At, .int .u64 x359.Key] 30, .row g295 cur296 30, .box b11 #[v294] 44, .box b79 #[.int .i64 x72.Kind, .int .u64 x72.Key, .int .i64 x72.At] 36, .app g319 v317 q313.length 30 2] w) ?_ ?_
             ·rintro K376 w374 ⟨S373, rfl, le375, hs⟩
              refine Cd.go ?_
              refine Cd.cond (t := p371) rfl (fun hc377 => ?_) (fun hc377 => ?_)
              ·have hp340 := ite_t hc377 hp340
               refine Cd.sr ?_
               refine Rg.st rfl rfl ?_
               refine Rg.go ?_
               refine Cd.ret ?_
               obtain rfl := some_s hp340
               have h326 := el_ret h326
               obtain rfl := some_s h326
               have e := hl325 (fun _ e => by cases e)
               subst e
               have hp268 := el_ret hp268
               obtain rfl := some_s hp268
               have hp226 := el_ret hp226
               obtain rfl := some_s hp226
               have hp86 := el_ret hp86
               obtain rfl := some_s hp86
               have hp59 := el_ret hp59
               obtain rfl := some_s hp59
               have h52 := el_ret h52
               obtain rfl := some_s h52
               have e := hl51 (fun _ e => by cases e)
               subst e
               have h0 := el_ret h0
               obtain rfl := some_s h0
               exact fun a ha => Cd.retA (R := Re (Po12 S0 w0 _ _)) ha Try.results12 ⟨_, _, rfl, rfl, rfl⟩ ⟨_, rfl, S373, rfl, (hs.pick [] (by decide) rfl)⟩
              ·have hp340 := ite_f hc377 hp340
               refine Cd.sg ?_
               refine Cd.rD mixed (fun l w => Has S373 w ∧ Hp b366 #[.int .i64 x359.At, .int .u64 x359.Key] 30 w) hs (fun _ _ _ _ _ h => h) (by kernel_rfl) (fun w378 hs => ⟨⟨hs.has, (hs.heap 0 rfl)⟩, ?_⟩)
               refine Rk.tN 0 rfl rfl (fun _ _ => X.move rfl) ?_
               obtain ⟨y382, hx383, hp340⟩ := bind_s hp340
               obtain ⟨hb384, he385⟩ := cutFrom_s hx383
               obtain ⟨v379, f380, hX381⟩ := mk_sliceL Try.underlying27 zz30 (f322.mono (le334.trans (le358.trans le375))) hb384
               rw [he385] at f380
               refine Rk.tN 1 rfl rfl (fun _ _ => hX381 rfl rfl) ?_
               refine Rk.tN 2 rfl rfl (fun _ _ => X.move rfl) ?_
               refine Rk.tN 3 rfl rfl (fun _ _ => X.fieldB Try.underlying30 rfl zz26 rfl rfl) ?_
               refine Rk.tN 4 rfl rfl (fun w hc => X.load1 Try.underlying26 rfl rfl (heap_cell hc.2 rfl)) ?_
               obtain ⟨x386, hx387, hp340⟩ := bind_s hp340
               refine Rk.eN 5 rfl rfl (Oq.call Try.call22 rfl rfl (c22 S373 (St.start _ _ hs.has) _ _ (f318.mono (le334.trans (le358.trans le375))) _ _ hx387) (fun v388 w389 h390 => ?_))
               obtain ⟨S391, v394, g396, rfl, hs392, f395⟩ := h390
               have le393 := hs392.le
               have hs := hs.call0 hs392
               refine ⟨⟨(hs.has.down le393), (hs.heap 1 rfl)⟩, Rk.mk (C' := fun l w => Has S391 w ∧ Hp b366 #[.int .i64 x359.At, .int .u64 x359.Key] 30 w) ⟨hs.has, (hs.heap 1 rfl)⟩ (fun l w hc => ⟨hc.1.down le393, hc.2⟩) ?_⟩
               refine Rk.weak [(0, v1), (3, .pointer (some ⟨b11, 0, none⟩)), (4, v317), (5, .int .i64 q37), (6, .pointer (some ⟨b79, 0, none⟩)), (8, v321), (107, v379), (111, v388)] ⟨rfl, rfl, rfl, rfl, rfl, rfl, rfl, rfl, trivial⟩ ?_
               refine Rk.tN 6 rfl rfl (fun _ _ => X.assign rfl) ?_
               refine Rk.tN 7 rfl rfl (fun _ _ => X.assign rfl) ?_
               refine Rk.done ?_
               obtain rfl := some_s hp340
               exact fun a ha => ⟨[(0, v1), (3, .pointer (some ⟨b11, 0, none⟩)), (4, v388), (5, .int .i64 q37), (6, .pointer (some ⟨b79, 0, none⟩)), (8, v379)], ha.weak ⟨rfl, rfl, rfl, rfl, rfl, rfl, trivial⟩, _, _, S391, v388, g396, v379, rfl, rfl, (le358.trans (le375.trans le393)), (hs.pick [2, 3, 4, 0] (by decide) rfl), f395, (f380.mono le393)⟩
             ·skip
              refine Cd.rD mixed (fun l w => Has S356 w ∧ Hp b366 #[.int .i64 x359.At, .int .u64 x359.Key] 30 w) hs (fun _ _ _ _ _ h => h) (by kernel_rfl) (fun w398 hs => ⟨⟨hs.has, (hs.heap 0 rfl)⟩, ?_⟩)
              refine Rk.tN 0 rfl rfl (fun _ _ => X.move rfl) ?_
              refine Rk.tN 1 rfl rfl (fun _ _ => X.lenR Try.underlying27 rfl (f322.mono (le334.trans le358))) ?_
              refine Rk.tN 2 rfl rfl (fun _ _ => X.eql rfl rfl) ?_
              refine Rk.tN 3 rfl rfl (fun _ _ => X.move rfl) ?_
              refine Rk.tF 4 rfl rfl rfl rfl (fun hW => fun _ _ => X.move rfl) ?_
              refine Rk.tF 7 rfl rfl rfl rfl (fun hW => fun w hc => X.loadN (vals := [.int .i64 x359.At, .int .u64 x359.Key]) Try.underlying30 rfl zz30 rfl (heap_range hc.2 0 rfl)) ?_
              refine Rk.split (b := (q314.length : Int) == 0) (tj := 99) rfl (fun hc399 => ?_) (fun hc399 => ?_)
              ·have hp372 := ite_t hc399 hp372
               refine Rk.weak [(0, v1), (3, .pointer (some ⟨b11, 0, none⟩)), (4, v317), (5, .int .i64 q37), (6, .pointer (some ⟨b79, 0, none⟩)), (8, v321), (9, .pointer (some ⟨b366, 0, none⟩)), (99, .bool true), (100, undef), (103, undef)] ⟨rfl, rfl, rfl, rfl, rfl, rfl, rfl, rfl, get_u rfl (nn hc399), get_u rfl (nn hc399), trivial⟩ ?_
               refine Rk.tO 5 rfl rfl rfl rfl rfl ?_
               refine Rk.tO 6 rfl rfl rfl rfl rfl ?_
               refine Rk.tO 8 rfl rfl rfl rfl rfl ?_
               refine Rk.tN 9 rfl rfl (fun _ _ => X.pickT rfl rfl) ?_
               refine Rk.done ?_
               have e := some_s hp372
               subst e
               exact fun a ha => ⟨[(0, v1), (3, .pointer (some ⟨b11, 0, none⟩)), (4, v317), (5, .int .i64 q37), (6, .pointer (some ⟨b79, 0, none⟩)), (8, v321), (9, .pointer (some ⟨b366, 0, none⟩)), (105, .bool true)], ha.weak ⟨rfl, rfl, rfl, rfl, rfl, rfl, rfl, rfl, trivial⟩, S356, rfl, Le.refl _, hs⟩
              ·have hp372 := ite_f hc399 hp372
               refine Rk.weak [(0, v1), (3, .pointer (some ⟨b11, 0, none⟩)), (4, v317), (5, .int .i64 q37), (6, .pointer (some ⟨b79, 0, none⟩)), (8, v321), (9, .pointer (some ⟨b366, 0, none⟩)), (99, .bool false), (100, v321), (103, .agg (#[.int .i64 x359.At, .int .u64 x359.Key]))] ⟨rfl, rfl, rfl, rfl, rfl, rfl, rfl, rfl, get_g rfl (not_f hc399), get_g rfl (not_f hc399), trivial⟩ ?_
               obtain ⟨x400, hx401, hp372⟩ := bind_s hp372
               obtain ⟨ad402, vals403, _, hR404, hE405, hX406⟩ := mk_index Try.underlying27 zz30 (by decide) (f322.mono (le334.trans le358)) hx401
               unfold R_alarm_Due at hR404
               subst hR404
               refine Rk.tF 5 rfl rfl rfl rfl (fun hW => fun _ _ => hX406 rfl rfl) ?_
               refine Rk.tF 6 rfl rfl rfl rfl (fun hW => fun w hc => X.loadE (vals := [.int .i64 x400.At, .int .u64 x400.Key]) hc.1 Try.underlying30 rfl zz30 rfl hE405) ?_
               refine Rk.tF 8 rfl rfl rfl rfl (fun hW => fun _ _ => X.neqA eqg30 (eqs30 _ _ _ _) rfl rfl) ?_
               refine Rk.tN 9 rfl rfl (fun _ _ => X.pickF rfl rfl) ?_
               refine Rk.done ?_
               have e := some_s hp372
               subst e
               exact fun a ha => ⟨[(0, v1), (3, .pointer (some ⟨b11, 0, none⟩)), (4, v317), (5, .int .i64 q37), (6, .pointer (some ⟨b79, 0, none⟩)), (8, v321), (9, .pointer (some ⟨b366, 0, none⟩)), (105, .bool (!((x400.At == x359.At) && ((x400.Key == x359.Key) && true))))], ha.weak ⟨rfl, rfl, rfl, rfl, rfl, rfl, rfl, rfl, trivial⟩, S356, rfl, Le.refl _, hs⟩
           ·have h326 := ite_f hc336 h326
            refine Cd.exit ?_
            obtain rfl := some_s h326
            have e := hl325 (fun _ e => by cases e)
            exact fun a ha => ⟨[(0, v1), (3, .pointer (some ⟨b11, 0, none⟩)), (4, v317), (5, .int .i64 q37), (6, .pointer (some ⟨b79, 0, none⟩)), (8, v321)], ha.weak ⟨rfl, rfl, rfl, rfl, rfl, rfl, trivial⟩, _, _, S332, v317, g319, v321, rfl, e.symm, (le316.trans le334), hs, (f318.mono le334), (f322.mono le334)⟩
          ·skip
           refine Cd.rD mixed (fun l w => Has S315 w ∧ Hp b79 #[.int .i64 x72.Kind, .int .u64 x72.Key, .int .i64 x72.At] 36 w) hs (fun _ _ _ _ _ h => h) (by kernel_rfl) (fun w410 hs => ⟨⟨hs.has, (hs.heap 2 rfl)⟩, ?_⟩)
           refine Rk.tN 0 rfl rfl (fun _ _ => X.move rfl) ?_
           refine Rk.tN 1 rfl rfl (fun _ _ => X.lenR Try.underlying27 rfl f318) ?_
           refine Rk.tN 2 rfl rfl (fun _ _ => X.gtr rfl rfl) ?_
           refine Rk.tN 3 rfl rfl (fun _ _ => X.move rfl) ?_
           refine Rk.tT 4 rfl rfl rfl rfl (fun hW => fun _ _ => X.move rfl) ?_
           refine Rk.tT 5 rfl rfl rfl rfl (fun hW => fun _ _ => X.move rfl) ?_
           refine Rk.tT 10 rfl rfl rfl rfl (fun hW => fun _ _ => X.fieldB Try.underlying36 rfl zz2 rfl rfl) ?_
           refine Rk.tT 11 rfl rfl rfl rfl (fun hW => fun w hc => X.load1 Try.underlying2 rfl (ev_g rfl hW) (heap_cell hc.2 rfl)) ?_
           refine Rk.split (b := decide (0 < (q313.length : Int))) (tj := 80) rfl (fun hc411 => ?_) (fun hc411 => ?_)
           ·have hp331 := ite_t hc411 hp331
            refine Rk.weak [(0, v1), (3, .pointer (some ⟨b11, 0, none⟩)), (4, v317), (5, .int .i64 q37), (6, .pointer (some ⟨b79, 0, none⟩)), (8, v321), (80, .bool true), (81, v317), (82, v317), (88, .int .i64 x72.At)] ⟨rfl, rfl, rfl, rfl, rfl, rfl, rfl, get_g rfl hc411, get_g rfl hc411, get_g rfl hc411, trivial⟩ ?_
            obtain ⟨x412, hx413, hp331⟩ := bind_s hp331
            refine Rk.eG 6 rfl rfl rfl rfl (Oq.call Try.call23 rfl rfl (c23 S315 (St.start _ _ hs.has) _ _ f318 _ hx413) (fun v414 w415 h416 => ?_))
            obtain ⟨S417, rfl, hs418⟩ := h416
            have le419 := hs418.le
            have hs := hs.call0 hs418
            refine ⟨⟨(hs.has.down le419), (hs.heap 2 rfl)⟩, Rk.mk (C' := fun l w => Has S417 w ∧ Hp b79 #[.int .i64 x72.Kind, .int .u64 x72.Key, .int .i64 x72.At] 36 w) ⟨hs.has, (hs.heap 2 rfl)⟩ (fun l w hc => ⟨hc.1.down le419, hc.2⟩) ?_⟩
            obtain ⟨x420, hx421, hp331⟩ := bind_s hp331
            obtain ⟨ad422, vals423, _, hR424, hE425, hX426⟩ := mk_index Try.underlying27 zz30 (by decide) (f318.mono le419) hx421
            unfold R_alarm_Due at hR424
            subst hR424
            refine Rk.tT 7 rfl rfl rfl rfl (fun hW => fun _ _ => hX426 rfl rfl) ?_
            refine Rk.tT 8 rfl rfl rfl rfl (fun hW => fun _ _ => X.fieldE Try.underlying30 rfl zz2 rfl rfl) ?_
            refine Rk.tT 9 rfl rfl rfl rfl (fun hW => fun w hc => X.load1 Try.underlying2 rfl rfl ((El.part (part := [.int .i64 x420.At]) hE425 0 rfl).at0 rfl hc.1)) ?_
            refine Rk.tT 12 rfl rfl rfl rfl (fun hW => fun _ _ => X.leq rfl rfl) ?_
            refine Rk.tN 13 rfl rfl (fun _ _ => X.pickT rfl rfl) ?_
            refine Rk.done ?_
            have e := some_s hp331
            subst e
            exact fun a ha => ⟨[(0, v1), (3, .pointer (some ⟨b11, 0, none⟩)), (4, v317), (5, .int .i64 q37), (6, .pointer (some ⟨b79, 0, none⟩)), (8, v321), (90, .bool (decide (x420.At ≤ x72.At)))], ha.weak ⟨rfl, rfl, rfl, rfl, rfl, rfl, rfl, trivial⟩, S417, rfl, le419, hs⟩
           ·have hp331 := ite_f hc411 hp331
            refine Rk.weak [(0, v1), (3, .pointer (some ⟨b11, 0, none⟩)), (4, v317), (5, .int .i64 q37), (6, .pointer (some ⟨b79, 0, none⟩)), (8, v321), (80, .bool false), (81, undef), (82, undef), (88, undef)] ⟨rfl, rfl, rfl, rfl, rfl, rfl, rfl, get_u rfl (not_f hc411), get_u rfl (not_f hc411), get_u rfl (not_f hc411), trivial⟩ ?_
            refine Rk.tO 6 rfl rfl rfl rfl rfl ?_
            refine Rk.tO 7 rfl rfl rfl rfl rfl ?_
            refine Rk.tO 8 rfl rfl rfl rfl rfl ?_
            refine Rk.tO 9 rfl rfl rfl rfl rfl ?_
            refine Rk.tO 12 rfl rfl rfl rfl rfl ?_
            refine Rk.tN 13 rfl rfl (fun _ _ => X.pickF rfl rfl) ?_
            refine Rk.done ?_
            have e := some_s hp331
            subst e
            exact fun a ha => ⟨[(0, v1), (3, .pointer (some ⟨b11, 0, none⟩)), (4, v317), (5, .int .i64 q37), (6, .pointer (some ⟨b79, 0, none⟩)), (8, v321), (90, .bool false)], ha.weak ⟨rfl, rfl, rfl, rfl, rfl, rfl, rfl, trivial⟩, S315, rfl, Le.refl _, hs⟩
        ·have hp268 := ite_f hc281 hp268
         refine Cd.sr ?_
         refine Rg.mv rfl rfl ?_
         refine Rg.vN (X.fieldB Try.underlying36 rfl zz26 rfl rfl) rfl ?_
         refine Rg.vN (X.load1 Try.underlying26 rfl rfl (hs.cell 0 rfl 1 rfl)) rfl ?_
         refine Rg.vN (X.fieldB Try.underlying36 rfl zz2 rfl rfl) rfl ?_
         refine Rg.vN (X.load1 Try.underlying2 rfl rfl (hs.cell 0 rfl 2 rfl)) rfl ?_
         obtain ⟨x430, hx431, hp268⟩ := bind_s hp268
         refine Rg.step rfl (Oq.call Try.call8 rfl rfl (c8 S39 _ (⟨q38⟩ : alarm_Table) _ _ _ f48 _ _ (hs.enterP [2, 1] (by decide) rfl (by cases g46 <;> rfl)) _ hx431) (fun v432 w433 h434 => ?_))
         obtain ⟨S435, v438, g439, cur440, rfl, hs436, f441⟩ := h434
         have le437 := hs436.le
         have hs := hs.callP [2, 1] rfl (by cases g46 <;> rfl) hs436
         refine Rg.go ?_
         refine Cd.weak [(0, v1), (3, .pointer (some ⟨b11, 0, none⟩)), (4, v41), (5, .int .i64 q37), (6, .pointer (some ⟨b79, 0, none⟩))] ⟨rfl, rfl, rfl, rfl, rfl, trivial⟩ ?_
         obtain ⟨p443, hp444, hp268⟩ := bind_s hp268
         refine Cd.post (fun K w => ∃ (S445 : Mp) (v448 : Value) (g450 : Option Nat), K = [(0, v1), (3, .pointer (some ⟨b11, 0, none⟩)), (4, v448), (5, .int .i64 q37), (6, .pointer (some ⟨b79, 0, none⟩))] ∧ Le S435 S445 ∧ St w0 [] S0 S445 [.row g439 cur440 30, .box b11 #[v438] 44, .box b79 #[.int .i64 x72.Kind, .int .u64 x72.Key, .int .i64 x72.At] 36, .app g450 v448 p443.length 30 2] w ∧ Rd S445 2 R_alarm_Due v448 p443) ?_ ?_
         ·rintro K452 w446 ⟨S445, v448, g450, rfl, le447, hs, f449⟩
          obtain rfl := some_s hp268
          exact fun a ha => ⟨[(0, v1), (3, .pointer (some ⟨b11, 0, none⟩)), (4, v448), (5, .int .i64 q37), (6, .pointer (some ⟨b79, 0, none⟩))], ha.weak ⟨rfl, rfl, rfl, rfl, rfl, trivial⟩, _, _, S445, v448, g450, v438, g439, cur440, rfl, rfl, (le437.trans le447), (hs.pick [2, 0, 1, 3] (by decide) rfl), f449, (f441.mono le447)⟩
         ·skip
          refine Cd.rD mixed (fun l w => Has S435 w ∧ Hp b79 #[.int .i64 x72.Kind, .int .u64 x72.Key, .int .i64 x72.At] 36 w) hs (fun _ _ _ _ _ h => h) (by kernel_rfl) (fun w453 hs => ⟨⟨hs.has, (hs.heap 2 rfl)⟩, ?_⟩)
          refine Rk.tN 0 rfl rfl (fun _ _ => X.move rfl) ?_
          refine Rk.tN 1 rfl rfl (fun _ _ => X.fieldB Try.underlying36 rfl zz26 rfl rfl) ?_
          refine Rk.tN 2 rfl rfl (fun w hc => X.load1 Try.underlying26 rfl rfl (heap_cell hc.2 rfl)) ?_
          refine Rk.tN 4 rfl rfl (fun _ _ => X.fieldB Try.underlying36 rfl zz2 rfl rfl) ?_
          refine Rk.tN 5 rfl rfl (fun w hc => X.load1 Try.underlying2 rfl rfl (heap_cell hc.2 rfl)) ?_
          refine Rk.tN 6 rfl rfl (fun _ _ => X.fieldB Try.underlying36 rfl zz26 rfl rfl) ?_
          refine Rk.tN 7 rfl rfl (fun w hc => X.load1 Try.underlying26 rfl rfl (heap_cell hc.2 rfl)) ?_
          refine Rk.tN 8 rfl rfl (fun _ _ => X.build (zc := [.int .i64 0, .int .u64 0]) (cells := [.int .i64 x72.At, .int .u64 x72.Key]) ii30 rfl rfl Try.underlying30 (pp30 _ Try.underlying30) ⟨_, [.int .i64 x72.At], _, rfl, rfl, rfl, ⟨_, [.int .u64 x72.Key], _, rfl, rfl, rfl, rfl⟩⟩ rfl) ?_
          refine Rk.two 3 9 rfl rfl rfl rfl ?_ ?_
          ·skip
           obtain ⟨x454, hx455, hp444⟩ := bind_s hp444
           refine Oq.call Try.call22 rfl rfl (c22 S435 (St.start _ _ hs.has) _ _ (f42.mono le437) _ _ hx455) (fun v456 w457 h458 => ?_)
           obtain ⟨S459, v462, g464, rfl, hs460, f463⟩ := h458
           have le461 := hs460.le
           have hs := hs.call0 hs460
           refine ⟨⟨(hs.has.down le461), (hs.heap 3 rfl)⟩, Rk.mk (C' := fun l w => Has S459 w ∧ Hp b79 #[.int .i64 x72.Kind, .int .u64 x72.Key, .int .i64 x72.At] 36 w) ⟨hs.has, (hs.heap 3 rfl)⟩ (fun l w hc => ⟨hc.1.down le461, hc.2⟩) ?_⟩
           refine Rk.eN 9 rfl rfl (Oq.lit (sz := 2) (cs0 := [.int .i64 0, .int .u64 0]) (cells := [.int .i64 x72.At, .int .u64 x72.Key]) hs Try.underlying27 ii30 rfl rfl rfl rfl rfl rfl ⟨_, [.int .i64 x72.At, .int .u64 x72.Key], _, rfl, rfl, rfl, rfl⟩ rfl rfl rfl (fun b466 w467 S468 hs le469 hE470 => ?_))
           have f472 : Rd S468 2 R_alarm_Due (.slice (some ⟨b466, 0, none⟩) 1 1) ([(⟨x72.At, x72.Key⟩ : alarm_Due)] : List alarm_Due) := Rd.of_cells (xs := ([(⟨x72.At, x72.Key⟩ : alarm_Due)] : List alarm_Due)) ⟨[.int .i64 x72.At, .int .u64 x72.Key], _, rfl, rfl, one_all ⟨rfl, rfl, trivial⟩, rfl, rfl⟩ hE470 (Nat.le_of_ble_eq_true rfl) (Nat.le_of_ble_eq_true rfl)
           refine ⟨⟨(hs.has.down le469), (hs.heap 4 rfl)⟩, Rk.mk (C' := fun l w => Has S468 w ∧ Hp b79 #[.int .i64 x72.Kind, .int .u64 x72.Key, .int .i64 x72.At] 36 w) ⟨hs.has, (hs.heap 4 rfl)⟩ (fun l w hc => ⟨hc.1.down le469, hc.2⟩) ?_⟩
           obtain ⟨y473, hx474, hp444⟩ := bind_s hp444
           refine Rk.eN 10 rfl rfl (Oq.appendS hs 1 rfl Try.underlying27 ii30 rfl rfl rfl rfl rfl rfl (f463.mono le469) f472 hx474 rfl rfl rfl (fun v475 w476 S477 g478 hs le479 f480 => ?_))
           refine ⟨⟨(hs.has.down le479), (hs.heap 4 rfl)⟩, Rk.mk (C' := fun l w => Has S477 w ∧ Hp b79 #[.int .i64 x72.Kind, .int .u64 x72.Key, .int .i64 x72.At] 36 w) ⟨hs.has, (hs.heap 4 rfl)⟩ (fun l w hc => ⟨hc.1.down le479, hc.2⟩) ?_⟩
           refine Rk.tN 11 rfl rfl (fun _ _ => X.assign rfl) ?_
           refine Rk.done ?_
           have e := some_s hp444
           subst e
           exact fun a ha => ⟨[(0, v1), (3, .pointer (some ⟨b11, 0, none⟩)), (4, v475), (5, .int .i64 q37), (6, .pointer (some ⟨b79, 0, none⟩))], ha.weak ⟨rfl, rfl, rfl, rfl, rfl, trivial⟩, S477, v475, g478, rfl, (le461.trans (le469.trans le479)), (hs.pick [2, 3, 4, 1] (by decide) rfl), f480⟩
          ·skip
           refine Oq.lit (sz := 2) (cs0 := [.int .i64 0, .int .u64 0]) (cells := [.int .i64 x72.At, .int .u64 x72.Key]) hs Try.underlying27 ii30 rfl rfl rfl rfl rfl rfl ⟨_, [.int .i64 x72.At, .int .u64 x72.Key], _, rfl, rfl, rfl, rfl⟩ rfl rfl rfl (fun b481 w482 S483 hs le484 hE485 => ?_)
           have f487 : Rd S483 2 R_alarm_Due (.slice (some ⟨b481, 0, none⟩) 1 1) ([(⟨x72.At, x72.Key⟩ : alarm_Due)] : List alarm_Due) := Rd.of_cells (xs := ([(⟨x72.At, x72.Key⟩ : alarm_Due)] : List alarm_Due)) ⟨[.int .i64 x72.At, .int .u64 x72.Key], _, rfl, rfl, one_all ⟨rfl, rfl, trivial⟩, rfl, rfl⟩ hE485 (Nat.le_of_ble_eq_true rfl) (Nat.le_of_ble_eq_true rfl)
           refine ⟨⟨(hs.has.down le484), (hs.heap 3 rfl)⟩, Rk.mk (C' := fun l w => Has S483 w ∧ Hp b79 #[.int .i64 x72.Kind, .int .u64 x72.Key, .int .i64 x72.At] 36 w) ⟨hs.has, (hs.heap 3 rfl)⟩ (fun l w hc => ⟨hc.1.down le484, hc.2⟩) ?_⟩
           obtain ⟨x488, hx489, hp444⟩ := bind_s hp444
           refine Rk.eN 3 rfl rfl (Oq.call Try.call22 rfl rfl (c22 S483 (St.start _ _ hs.has) _ _ (f42.mono (le437.trans le484)) _ _ hx489) (fun v490 w491 h492 => ?_))
           obtain ⟨S493, v496, g498, rfl, hs494, f497⟩ := h492
           have le495 := hs494.le
           have hs := hs.call0 hs494
           refine ⟨⟨(hs.has.down le495), (hs.heap 4 rfl)⟩, Rk.mk (C' := fun l w => Has S493 w ∧ Hp b79 #[.int .i64 x72.Kind, .int .u64 x72.Key, .int .i64 x72.At] 36 w) ⟨hs.has, (hs.heap 4 rfl)⟩ (fun l w hc => ⟨hc.1.down le495, hc.2⟩) ?_⟩
           obtain ⟨y500, hx501, hp444⟩ := bind_s hp444
           refine Rk.eN 10 rfl rfl (Oq.appendS hs 0 rfl Try.underlying27 ii30 rfl rfl rfl rfl rfl rfl f497 (f487.mono le495) hx501 rfl rfl rfl (fun v502 w503 S504 g505 hs le506 f507 => ?_))
           refine ⟨⟨(hs.has.down le506), (hs.heap 4 rfl)⟩, Rk.mk (C' := fun l w => Has S504 w ∧ Hp b79 #[.int .i64 x72.Kind, .int .u64 x72.Key, .int .i64 x72.At] 36 w) ⟨hs.has, (hs.heap 4 rfl)⟩ (fun l w hc => ⟨hc.1.down le506, hc.2⟩) ?_⟩
           refine Rk.tN 11 rfl rfl (fun _ _ => X.assign rfl) ?_
           refine Rk.done ?_
           have e := some_s hp444
           subst e
           exact fun a ha => ⟨[(0, v1), (3, .pointer (some ⟨b11, 0, none⟩)), (4, v502), (5, .int .i64 q37), (6, .pointer (some ⟨b79, 0, none⟩))], ha.weak ⟨rfl, rfl, rfl, rfl, rfl, trivial⟩, S504, v502, g505, rfl, (le484.trans (le495.trans le506)), (hs.pick [2, 3, 4, 0] (by decide) rfl), f507⟩
  ·have h52 := ite_f hc55 h52
   refine Cd.exit ?_
   obtain rfl := some_s h52
   have e := hl51 (fun _ e => by cases e)
   exact fun a ha => ⟨[(3, .pointer (some ⟨b11, 0, none⟩))], ha.weak ⟨rfl, trivial⟩, _, _, _, S39, v41, g43, v45, g46, cur47, rfl, e.symm, le40, hs, f42, f48⟩
end Go.Lk
