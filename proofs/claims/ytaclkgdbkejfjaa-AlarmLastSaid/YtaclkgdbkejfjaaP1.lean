/- A part of this proof: AlarmLast returns true for every input and leaves its arguments as they were; there are no conditions. -/
import Derived.Test.YtaclkgdbkejfjaaL17
import Derived.Test.YtaclkgdbkejfjaaProg
import Derived.KernelRfl
set_option linter.unusedVariables false
set_option linter.unusedSimpArgs false
set_option maxRecDepth 100000
namespace Go.Lk
open Go.RowKit Go.Proofs
theorem mixed : Try.prog.follows .mixedOrders = true := by kernel_rfl
structure alarm_Due where
  At : Int
  Key : Int
structure limelightlaw12_Ask where
  Kind : Int
  Key : Int
  At : Int
structure alarm_Table where
  l_ : (List alarm_Due)
def R_alarm_Due : Rel alarm_Due := fun S vals x => vals = [.int .i64 x.At, .int .u64 x.Key]
instance : Mono R_alarm_Due := ⟨fun _ h => h⟩
instance : Flat R_alarm_Due := ⟨fun h => h⟩
def R_limelightlaw12_Ask : Rel limelightlaw12_Ask := fun S vals x => vals = [.int .i64 x.Kind, .int .u64 x.Key, .int .i64 x.At]
instance : Mono R_limelightlaw12_Ask := ⟨fun _ h => h⟩
instance : Flat R_limelightlaw12_Ask := ⟨fun h => h⟩
def R_alarm_Table : Rel alarm_Table := fun S vals x => ∃ v0, vals = [v0] ∧ Rd S 2 R_alarm_Due v0 x.l_
instance : Mono R_alarm_Table := ⟨fun hl h => by
  obtain ⟨v0, h0, h1⟩ := h
  exact ⟨v0, h0, h1.mono hl⟩⟩
theorem ii2 : Try.prog.info? 2 = some Try.t2 := Try.type2
theorem ii3 : Try.prog.info? 3 = some Try.t3 := Try.type3
theorem ii26 : Try.prog.info? 26 = some Try.t26 := Try.type26
theorem ii27 : Try.prog.info? 27 = some Try.t27 := Try.type27
theorem ii30 : Try.prog.info? 30 = some Try.t30 := Try.type30
theorem ii44 : Try.prog.info? 44 = some Try.t44 := Try.type44
theorem zz2 : (Try.prog.info? 2).map (·.size) = some 1 := by rw [ii2]; rfl
theorem zz3 : (Try.prog.info? 3).map (·.size) = some 1 := by rw [ii3]; rfl
theorem zz26 : (Try.prog.info? 26).map (·.size) = some 1 := by rw [ii26]; rfl
theorem zz27 : (Try.prog.info? 27).map (·.size) = some 1 := by rw [ii27]; rfl
theorem zz30 : (Try.prog.info? 30).map (·.size) = some 2 := by rw [ii30]; rfl
theorem pp30 : ∀ fs : Array Field, Try.prog.underlying 30 = some (.struct fs) → fs.toList.mapM (fun f => (Try.prog.info? f.type).map fun i => (f.offset, i.size)) = some [(0, 1), (1, 1)] := by
  intro fs h
  rw [Try.underlying30] at h
  injection h with h
  injection h with h
  subst h
  kernel_rfl
theorem pp44 : ∀ fs : Array Field, Try.prog.underlying 44 = some (.struct fs) → fs.toList.mapM (fun f => (Try.prog.info? f.type).map fun i => (f.offset, i.size)) = some [(0, 1)] := by
  intro fs h
  rw [Try.underlying44] at h
  injection h with h
  injection h with h
  subst h
  kernel_rfl
theorem eqg30 : Try.prog.eqGuardType Try.prog.depth 30 = false := Try.eqGuardType30
theorem eqh30 : Try.prog.stoodInHeld 30 = false := by kernel_rfl
theorem eqs30 (a0 b0 : Int) (a1 b1 : Int) (w : World) : (Op.equal 30 (.agg #[.int .i64 a0, .int .u64 a1]) (.agg #[.int .i64 b0, .int .u64 b1])).run Try.prog w = .ok (((a0 == b0) && ((a1 == b1) && true))) w :=
  run_eqStruct (ps := [(.int .i64 a0, .int .i64 b0), (.int .u64 a1, .int .u64 b1)]) Try.underlying30 eqh30 ⟨_, _, _, rfl, rfl, by decide, .inl ⟨_, _, _, rfl, rfl, Try.underlying2⟩, ⟨_, _, _, rfl, rfl, by decide, .inl ⟨_, _, _, rfl, rfl, Try.underlying26⟩, rfl⟩⟩ w
noncomputable def alarm_New : Option alarm_Table :=
 some (⟨([] : List alarm_Due)⟩ : alarm_Table)
def Po7 (S0 : Mp) (w0 : World) (D : List Nat) (r : alarm_Table) (v : Value) (w1 : World) : Prop :=
  ∃ (S1 : Mp) (b1 : Nat) (v2 : Value) (g3 : Option Nat) (cur4 : Array Value), v = .pointer (some ⟨b1, 0, none⟩) ∧ St w0 D S0 S1 [.row g3 cur4 30, .box b1 #[v2] 44] w1 ∧ Rw S1 2 R_alarm_Due g3 cur4 v2 r.l_
set_option maxHeartbeats 4000000 in
theorem c7 (S0 : Mp) {w0 : World} (hs : St w0 [] S0 S0 [] w0)  (r : alarm_Table) (h0 : alarm_New = some r) :
    Calls Try.prog 7 #[] w0 (Re (Po7 S0 w0 [] r)) := by
 unfold alarm_New at h0
 refine calls_of_cd Try.func7 rfl Try.ntmps7 rfl ?_
 refine Cd.sr ?_
 refine Rg.st rfl rfl ?_
 refine Rg.go ?_
 refine Cd.sr ?_
 refine Rg.vN (X.build (zc := [.slice none 0 0]) (cells := [.slice none 0 0]) ii44 rfl rfl Try.underlying44 (pp44 _ Try.underlying44) rfl rfl) rfl ?_
 refine Rg.step rfl (Oq.box (cs := #[.slice none 0 0]) hs rfl rfl rfl (fun b5 w6 hs => ?_))
 refine Rg.st rfl rfl ?_
 refine Rg.go ?_
 refine Cd.ret ?_
 have hs := hs.nilRow 30
 obtain rfl := some_s h0
 exact fun a ha => Cd.retA (R := Re (Po7 S0 w0 _ _)) ha Try.results7 ⟨_, _, rfl, rfl, rfl⟩ ⟨_, rfl, S0, b5, (.slice none 0 0), none, (#[]), rfl, hs, Rw.nil⟩
noncomputable def slices_IndexFunc_alarm_Due_l0 (s_0 : (List alarm_Due)) (f_1 : (alarm_Due → Option Bool)) (q14 : Int) : Option (Flow Int Int) :=
 if (decide (q14 < (s_0.length : Int))) = true then (
  (ix s_0 q14).bind fun x24 =>
  (f_1 x24).bind fun x31 =>
  if x31 = true then (
   some (Flow.ret q14))
  else (
   some (Flow.next (add .i64 q14 1))))
 else (
  some (Flow.brk q14))
noncomputable def slices_IndexFunc_alarm_Due (s_0 : (List alarm_Due)) (f_1 : (alarm_Due → Option Bool)) : Option Int :=
 (loopF (fun sg => slices_IndexFunc_alarm_Due_l0 s_0 f_1 sg) 0).bind fun fl7 =>
 Flow.el fl7 (fun s40 => (
  none))
 (fun s41 => (
  some (-1)))
 (fun r42 => (
  some r42))
def Po30 (S0 : Mp) (w0 : World) (D : List Nat) (r : Int) (v : Value) (w1 : World) : Prop :=
  ∃ (S1 : Mp), v = .int .i64 r ∧ St w0 D S0 S1 [] w1
set_option maxHeartbeats 4000000 in
theorem c30 (S0 : Mp) {w0 : World} (hs : St w0 [] S0 S0 [] w0) (s_0 : (List alarm_Due)) (v1 : Value) (f2 : Rd S0 2 R_alarm_Due v1 s_0) (fv3 : FuncId) (cap4 : Array Value) (f_1 : (alarm_Due → Option Bool)) (hcall5 : ∀ (args : Array Value) (w : World), (callFunc fv3 args).run Try.prog w = .ok (.enter fv3 args) w) (hf6 : ∀ (S : Mp) (w : World), Le S0 S → Has S w → ∀ (y0 : alarm_Due) (z : Bool), f_1 y0 = some z → Calls Try.prog fv3 (#[] ++ [.agg #[.int .i64 y0.At, .int .u64 y0.Key]].toArray ++ cap4) w (Re (fun v w1 => ∃ S1, v = .bool z ∧ St w [] S S1 [] w1))) (r : Int) (h0 : slices_IndexFunc_alarm_Due s_0 f_1 = some r) :
    Calls Try.prog 30 #[v1, .func (.func fv3) #[] cap4] w0 (Re (Po30 S0 w0 [] r)) := by
 unfold slices_IndexFunc_alarm_Due at h0
 refine calls_of_cd Try.func30 rfl Try.ntmps30 rfl ?_
 refine Cd.sr ?_
 refine Rg.st rfl rfl ?_
 refine Rg.go ?_
 refine Cd.seq ?_
 refine Cd.sr ?_
 refine Rg.mv rfl rfl ?_
 refine Rg.vN (X.lenR Try.underlying27 rfl f2) rfl ?_
 refine Rg.mv rfl rfl ?_
 refine Rg.go ?_
 obtain ⟨fl7, hfl8, h0⟩ := bind_s h0
 refine Cd.post (fun K w => ∃ (j9 : Int) (S10 : Mp), K = [] ∧ fl7 = Flow.brk j9 ∧ Le S0 S10 ∧ St w0 [] S0 S10 [] w) ?_ ?_
 ·rintro K13 w12 ⟨j9, S10, rfl, rfl, le11, hs⟩
  have h0 := el_brk h0
  try dsimp only at h0
  refine Cd.go ?_
  refine Cd.sr ?_
  refine Rg.st rfl rfl ?_
  refine Rg.go ?_
  refine Cd.ret ?_
  obtain rfl := some_s h0
  exact fun a ha => Cd.retA (R := Re (Po30 S0 w0 _ _)) ha Try.results30 ⟨_, _, rfl, rfl, rfl⟩ ⟨_, rfl, S10, rfl, hs⟩
 ·skip
  refine Cd.weak [(0, v1), (1, .func (.func fv3) #[] cap4), (7, .int .i64 (s_0.length : Int)), (8, .int .i64 0)] ⟨rfl, rfl, rfl, rfl, trivial⟩ ?_
  refine Cd.block (Cd.loop (fun sg => slices_IndexFunc_alarm_Due_l0 s_0 f_1 sg) (fun (sg : Int) K w => ∃ (S15 : Mp), K = [(0, v1), (1, .func (.func fv3) #[] cap4), (7, .int .i64 (s_0.length : Int)), (8, .int .i64 sg)] ∧ Le S0 S15 ∧ St w0 [] S0 S15 [] w) 0 fl7 hfl8 ⟨S0, rfl, Le.refl _, hs⟩ ?_)
  rintro q14 fl17 K22 w21 hb18 ⟨S15, rfl, le16, hs⟩ hl19
  have h20 : slices_IndexFunc_alarm_Due_l0 s_0 f_1 q14 = some fl17 := hb18
  unfold slices_IndexFunc_alarm_Due_l0 at h20
  refine Cd.sr ?_
  refine Rg.vN (X.lss rfl rfl) rfl ?_
  refine Rg.go ?_
  refine Cd.seq ?_
  refine Cd.cond (t := decide (q14 < (s_0.length : Int))) rfl (fun hc23 => ?_) (fun hc23 => ?_)
  ·have h20 := ite_t hc23 h20
   refine Cd.sg ?_
   refine Cd.seq ?_
   refine Cd.block ?_
   refine Cd.sr ?_
   refine Rg.mv rfl rfl ?_
   refine Rg.st rfl rfl ?_
   refine Rg.go ?_
   refine Cd.sr ?_
   refine Rg.mv rfl rfl ?_
   refine Rg.mv rfl rfl ?_
   refine Rg.mv rfl rfl ?_
   obtain ⟨x24, hx25, h20⟩ := bind_s h20
   obtain ⟨ad26, vals27, _, hR28, hE29, hX30⟩ := mk_index Try.underlying27 zz30 (by decide) (f2.mono le16) hx25
   unfold R_alarm_Due at hR28
   subst hR28
   refine Rg.vN (hX30 rfl rfl) rfl ?_
   refine Rg.vN (X.loadE (vals := [.int .i64 x24.At, .int .u64 x24.Key]) hs.has Try.underlying30 rfl zz30 rfl hE29) rfl ?_
   obtain ⟨x31, hx32, h20⟩ := bind_s h20
   refine Rg.step rfl (Oq.callC rfl hcall5 rfl rfl (hf6 _ _ le16 hs.has _ _ hx32) (fun v33 w34 h35 => ?_))
   obtain ⟨S36, rfl, hs37⟩ := h35
   have le38 := hs37.le
   have hs := hs.call0 hs37
   refine Rg.go ?_
   refine Cd.cond (t := x31) rfl (fun hc39 => ?_) (fun hc39 => ?_)
   ·have h20 := ite_t hc39 h20
    refine Cd.sr ?_
    refine Rg.mv rfl rfl ?_
    refine Rg.st rfl rfl ?_
    refine Rg.go ?_
    refine Cd.ret ?_
    obtain rfl := some_s h20
    have e := hl19 (fun _ e => by cases e)
    subst e
    have h0 := el_ret h0
    obtain rfl := some_s h0
    exact fun a ha => Cd.retA (R := Re (Po30 S0 w0 _ _)) ha Try.results30 ⟨_, _, rfl, rfl, rfl⟩ ⟨_, rfl, S36, rfl, hs⟩
   ·have h20 := ite_f hc39 h20
    refine Cd.skip ?_
    refine Cd.go ?_
    refine Cd.region ?_
    refine Rg.vN (X.add rfl rfl) rfl ?_
    refine Rg.mv rfl rfl ?_
    refine Rg.nil ?_
    exact fun a ha => ⟨add .i64 q14 1, [(0, v1), (1, .func (.func fv3) #[] cap4), (7, .int .i64 (s_0.length : Int)), (8, .int .i64 (add .i64 q14 1))], (some_s h20).symm, ha.weak ⟨rfl, rfl, rfl, rfl, trivial⟩, S36, rfl, (le16.trans le38), hs⟩
  ·have h20 := ite_f hc23 h20
   refine Cd.exit ?_
   obtain rfl := some_s h20
   have e := hl19 (fun _ e => by cases e)
   exact fun a ha => ⟨[], ha.weak trivial, _, S15, rfl, e.symm, le16, hs⟩
noncomputable def alarm_Table_find_1 (d_0 : alarm_Due) (p_1 : Int) : Option Bool :=
 some (d_0.Key == p_1)
def Po31 (S0 : Mp) (w0 : World) (D : List Nat) (r : Bool) (v : Value) (w1 : World) : Prop :=
  ∃ (S1 : Mp), v = .bool r ∧ St w0 D S0 S1 [] w1
set_option maxHeartbeats 4000000 in
theorem c31 (S0 : Mp) {w0 : World} (hs : St w0 [] S0 S0 [] w0) (d_0 : alarm_Due) (ad1 : Addr) (p_1 : Int) (f2 : El S0 ad1 [.int .u64 p_1]) (r : Bool) (h0 : alarm_Table_find_1 d_0 p_1 = some r) :
    Calls Try.prog 31 #[.agg (#[.int .i64 d_0.At, .int .u64 d_0.Key]), .pointer (some ad1)] w0 (Re (Po31 S0 w0 [] r)) := by
 unfold alarm_Table_find_1 at h0
 refine calls_of_cd Try.func31 rfl Try.ntmps31 rfl ?_
 refine Cd.sr ?_
 refine Rg.step rfl (Oq.box (cs := #[.int .i64 d_0.At, .int .u64 d_0.Key]) hs rfl rfl rfl (fun b3 w4 hs => ?_))
 refine Rg.st rfl rfl ?_
 refine Rg.go ?_
 refine Cd.sr ?_
 refine Rg.vN (X.fieldB Try.underlying30 rfl zz26 rfl rfl) rfl ?_
 refine Rg.vN (X.load1 Try.underlying26 rfl rfl (hs.cell 0 rfl 1 rfl)) rfl ?_
 refine Rg.vN (X.load1 Try.underlying26 rfl rfl (f2.at0 rfl hs.has)) rfl ?_
 refine Rg.vN (X.eql rfl rfl) rfl ?_
 refine Rg.st rfl rfl ?_
 refine Rg.go ?_
 refine Cd.ret ?_
 obtain rfl := some_s h0
 exact fun a ha => Cd.retA (R := Re (Po31 S0 w0 _ _)) ha Try.results31 ⟨_, _, rfl, rfl, rfl⟩ ⟨_, rfl, S0, rfl, (hs.pick [] (by decide) rfl)⟩
theorem qf31 (S0 : Mp) (ad0 : Addr) (p_1 : Int) (g0 : El S0 ad0 [.int .u64 p_1]) : ∀ (S : Mp) (w : World), Le S0 S → Has S w → ∀ (y0 : alarm_Due) (z : Bool), (fun y0 => alarm_Table_find_1 y0 p_1) y0 = some z → Calls Try.prog 31 (#[] ++ [.agg #[.int .i64 y0.At, .int .u64 y0.Key]].toArray ++ #[.pointer (some ad0)]) w (Re (fun v w1 => ∃ S1, v = .bool z ∧ St w [] S S1 [] w1)) := by
  intro S w hl hS y0 z hz
  rw [show (#[] ++ [.agg #[.int .i64 y0.At, .int .u64 y0.Key]].toArray ++ #[.pointer (some ad0)] : Array Value) = #[.agg #[.int .i64 y0.At, .int .u64 y0.Key], .pointer (some ad0)] from by simp]
  exact c31 S (St.start _ _ hS) y0 ad0 p_1 (g0.mono hl) _ hz
noncomputable def alarm_Table_find (t_0 : alarm_Table) (key_1 : Int) : Option (Int × alarm_Table) :=
 (slices_IndexFunc_alarm_Due t_0.l_ (fun y0 => alarm_Table_find_1 y0 key_1)).bind fun x17 =>
 some (x17, t_0)
def Po24 (S0 : Mp) (w0 : World) (D : List Nat) (b1 : Nat) (r : (Int × alarm_Table)) (v : Value) (w1 : World) : Prop :=
  ∃ (S1 : Mp) (v8 : Value) (g9 : Option Nat) (cur10 : Array Value), v = .int .i64 r.1 ∧ St w0 D S0 S1 [.row g9 cur10 30, .box b1 #[v8] 44] w1 ∧ Rw S1 2 R_alarm_Due g9 cur10 v8 r.2.l_
set_option maxHeartbeats 4000000 in
theorem c24 (S0 : Mp) {w0 : World} (b1 : Nat) (t_0 : alarm_Table) (v2 : Value) (g3 : Option Nat) (cur4 : Array Value) (f5 : Rw S0 2 R_alarm_Due g3 cur4 v2 t_0.l_) (key_1 : Int) (hs : St w0 (b1 :: g3.toList) S0 S0 [.box b1 #[v2] 44, .row g3 cur4 30] w0) (r : (Int × alarm_Table)) (h0 : alarm_Table_find t_0 key_1 = some r) :
    Calls Try.prog 24 #[.pointer (some ⟨b1, 0, none⟩), .int .u64 key_1] w0 (Re (Po24 S0 w0 (b1 :: g3.toList) b1 r)) := by
 unfold alarm_Table_find at h0
 refine calls_of_cd Try.func24 rfl Try.ntmps24 rfl ?_
 refine Cd.sr ?_
 refine Rg.step rfl (Oq.box (cs := #[.int .u64 key_1]) hs rfl rfl rfl (fun b11 w12 hs => ?_))
 refine Rg.st rfl rfl ?_
 refine Rg.go ?_
 refine Cd.sr ?_
 refine Rg.mv rfl rfl ?_
 refine Rg.vN (X.nilCheck rfl) rfl ?_
 refine Rg.vN (X.fieldB Try.underlying44 rfl zz27 rfl rfl) rfl ?_
 refine Rg.vN (X.load1 Try.underlying27 rfl rfl (hs.cell 1 rfl 0 rfl)) rfl ?_
 obtain ⟨S14, hs, le15, f16⟩ := hs.freeze 0 rfl
 have f16 : El S14 ⟨b11, 0, none⟩ [.int .u64 key_1] := f16
 refine Rg.vN (X.makeFn rfl) rfl ?_
 obtain ⟨x17, hx18, h0⟩ := bind_s h0
 refine Rg.step rfl (Oq.call Try.call30 rfl rfl (c30 (S14.lend g3 (t_0.l_.length * 2) cur4) (St.start _ _ (hs.lend 1 rfl _)) _ _ (Rw.lend (f5.mono le15)) 31 _ (fun y0 => alarm_Table_find_1 y0 key_1) Try.call31 (qf31 _ ⟨b11, 0, none⟩ key_1 (El.mono f16 (hs.lend_le 1 rfl _))) _ hx18) (fun v19 w20 h21 => ?_))
 obtain ⟨S22, rfl, hs23⟩ := h21
 obtain ⟨S25, hs26, hx27⟩ := hs.unlend 1 rfl (D' := []) (fun _ _ h => by cases h) hs23
 have le24 := hs26.le
 have hs := hs.call0 hs26
 refine Rg.st rfl rfl ?_
 refine Rg.go ?_
 refine Cd.ret ?_
 obtain rfl := some_s h0
 exact fun a ha => Cd.retA (R := Re (Po24 S0 w0 _ b1 _)) ha Try.results24 ⟨_, _, rfl, rfl, rfl⟩ ⟨_, rfl, S25, v2, g3, cur4, rfl, (hs.pick [1, 0] (by decide) rfl), (f5.mono (le15.trans le24))⟩
noncomputable def slices_Delete_alarm_Due (s_0 : (List alarm_Due)) (i_1 : Int) (j_2 : Int) : Option (List alarm_Due) :=
 (cutL s_0 i_1 j_2).bind fun y12 =>
 if (i_1 == j_2) = true then (
  some s_0)
 else (
  (cutTo s_0 i_1).bind fun y21 =>
  (cutFrom s_0 j_2).bind fun y29 =>
  gd (y21.length + y29.length ≤ s_0.length) (
   some (y21 ++ y29)))
def Po25 (S0 : Mp) (w0 : World) (D : List Nat) (r : (List alarm_Due)) (v : Value) (w1 : World) : Prop :=
  ∃ (S1 : Mp) (v6 : Value) (g7 : Option Nat) (cur8 : Array Value), v = v6 ∧ St w0 D S0 S1 [.row g7 cur8 30] w1 ∧ Rw S1 2 R_alarm_Due g7 cur8 v6 r
set_option maxHeartbeats 4000000 in
theorem c25 (S0 : Mp) {w0 : World} (s_0 : (List alarm_Due)) (v1 : Value) (g2 : Option Nat) (cur3 : Array Value) (f4 : Rw S0 2 R_alarm_Due g2 cur3 v1 s_0) (i_1 : Int) (j_2 : Int) (hs : St w0 (g2.toList) S0 S0 [.row g2 cur3 30] w0) (r : (List alarm_Due)) (h0 : slices_Delete_alarm_Due s_0 i_1 j_2 = some r) :
    Calls Try.prog 25 #[v1, .int .i64 i_1, .int .i64 j_2] w0 (Re (Po25 S0 w0 (g2.toList) r)) := by
 unfold slices_Delete_alarm_Due at h0
 refine calls_of_cd Try.func25 rfl Try.ntmps25 rfl ?_
 refine Cd.sr ?_
 refine Rg.st rfl rfl ?_
 refine Rg.go ?_
 refine Cd.sr ?_
 refine Rg.mv rfl rfl ?_
 refine Rg.mv rfl rfl ?_
 refine Rg.mv rfl rfl ?_
 refine Rg.mv rfl rfl ?_
 refine Rg.vN (X.lenRw Try.underlying27 rfl f4) rfl ?_
 obtain ⟨y12, hx13, h0⟩ := bind_s h0
 obtain ⟨hb14, he15⟩ := cutL_s hx13
 obtain ⟨v9, f10, hX11⟩ := mk_slice3 Try.underlying27 zz30 (Rw.lend (S := S0) f4) hb14
 rw [he15] at f10
 refine Rg.vN (hX11 rfl rfl rfl rfl) rfl ?_
 refine Rg.go ?_
 refine Cd.seq ?_
 refine Cd.sr ?_
 refine Rg.mv rfl rfl ?_
 refine Rg.mv rfl rfl ?_
 refine Rg.vN (X.eql rfl rfl) rfl ?_
 refine Rg.go ?_
 refine Cd.cond (t := i_1 == j_2) rfl (fun hc16 => ?_) (fun hc16 => ?_)
 ·have h0 := ite_t hc16 h0
  refine Cd.sr ?_
  refine Rg.mv rfl rfl ?_
  refine Rg.st rfl rfl ?_
  refine Rg.go ?_
  refine Cd.ret ?_
  obtain rfl := some_s h0
  exact fun a ha => Cd.retA (R := Re (Po25 S0 w0 _ _)) ha Try.results25 ⟨_, _, rfl, rfl, rfl⟩ ⟨_, rfl, S0, v1, g2, cur3, rfl, hs, f4⟩
 ·have h0 := ite_f hc16 h0
  refine Cd.sg ?_
  refine Cd.sr ?_
  refine Rg.mv rfl rfl ?_
  refine Rg.vN (X.lenRw Try.underlying27 rfl f4) rfl ?_
  refine Rg.st rfl rfl ?_
  refine Rg.go ?_
  refine Cd.seq ?_
  refine Cd.rD mixed (fun l w => Has S0 w) hs (fun _ _ _ _ _ h => h) (by kernel_rfl) (fun w17 hs => ⟨hs.has, ?_⟩)
  refine Rk.tN 0 rfl rfl (fun _ _ => X.move rfl) ?_
  refine Rk.tN 1 rfl rfl (fun _ _ => X.move rfl) ?_
  obtain ⟨y21, hx22, h0⟩ := bind_s h0
  obtain ⟨hb23, he24⟩ := cutTo_s hx22
  obtain ⟨v18, f19, hc25, hX20⟩ := mk_rowto Try.underlying27 zz30 f4 hb23
  rw [he24] at f19
  refine Rk.tN 2 rfl rfl (fun _ _ => hX20 rfl rfl) ?_
  refine Rk.weak [(0, v1), (2, .int .i64 j_2), (7, .int .i64 (s_0.length : Int)), (22, v18)] ⟨rfl, rfl, rfl, rfl, trivial⟩ ?_
  refine Rk.tN 3 rfl rfl (fun _ _ => X.move rfl) ?_
  refine Rk.tN 4 rfl rfl (fun _ _ => X.move rfl) ?_
  obtain ⟨y29, hx30, h0⟩ := bind_s h0
  obtain ⟨hb31, he32⟩ := cutFrom_s hx30
  obtain ⟨v26, f27, hX28⟩ := mk_sliceL Try.underlying27 zz30 (Rw.lend (S := S0) f4) hb31
  rw [he32] at f27
  refine Rk.tN 5 rfl rfl (fun _ _ => hX28 rfl rfl) ?_
  obtain ⟨hg33, h0⟩ := gd_s h0
  refine Rk.eN 6 rfl rfl (Oq.appendFit hs 0 rfl Try.underlying27 ii30 rfl rfl rfl rfl f4 f19 hc25 f27 hg33 rfl rfl rfl (fun v34 w35 cur36 hs f37 hc38 => ?_))
  refine ⟨hs.has, ?_⟩
  refine Rk.tN 7 rfl rfl (fun _ _ => X.assign rfl) ?_
  refine Rk.done ?_
  refine Cd.go ?_
  refine Cd.sr ?_
  refine Rg.mv rfl rfl ?_
  refine Rg.mv rfl rfl ?_
  refine Rg.vN (X.lenRw Try.underlying27 rfl f37) rfl ?_
  refine Rg.mv rfl rfl ?_
  obtain ⟨v39, hT40, hX41⟩ := mk_rowtail Try.underlying27 zz30 f37 hc38 (by rw [List.length_append]; exact hg33)
  refine Rg.vN (hX41 rfl rfl rfl) rfl ?_
  refine Rg.step rfl (Oq.clearTail hs 0 rfl Try.underlying27 ii30 rfl rfl (one_all (l := [.int .i64 0, .int .u64 0]) ⟨rfl, rfl, trivial⟩) f37 (by rw [List.length_append]; exact hg33) hT40 rfl (fun w42 cur43 hs f44 => ?_))
  refine Rg.go ?_
  refine Cd.sr ?_
  refine Rg.mv rfl rfl ?_
  refine Rg.st rfl rfl ?_
  refine Rg.go ?_
  refine Cd.weak [(6, v34)] ⟨rfl, trivial⟩ ?_
  refine Cd.ret ?_
  obtain rfl := some_s h0
  exact fun a ha => Cd.retA (R := Re (Po25 S0 w0 _ _)) ha Try.results25 ⟨_, _, rfl, rfl, rfl⟩ ⟨_, rfl, S0, v34, g2, cur43, rfl, hs, f44⟩
noncomputable def alarm_Table_Clear (t_0 : alarm_Table) (key_1 : Int) : Option (Bool × alarm_Table) :=
 (alarm_Table_find (⟨t_0.l_⟩ : alarm_Table) key_1).bind fun x11 =>
 if (decide (0 ≤ x11.1)) = true then (
  (slices_Delete_alarm_Due x11.2.l_ x11.1 (add .i64 x11.1 1)).bind fun x24 =>
  some (decide (0 ≤ x11.1), (⟨x24⟩ : alarm_Table)))
 else (
  some (decide (0 ≤ x11.1), x11.2))
def Po14 (S0 : Mp) (w0 : World) (D : List Nat) (b1 : Nat) (r : (Bool × alarm_Table)) (v : Value) (w1 : World) : Prop :=
  ∃ (S1 : Mp) (v8 : Value) (g9 : Option Nat) (cur10 : Array Value), v = .bool r.1 ∧ St w0 D S0 S1 [.row g9 cur10 30, .box b1 #[v8] 44] w1 ∧ Rw S1 2 R_alarm_Due g9 cur10 v8 r.2.l_
set_option maxHeartbeats 4000000 in
theorem c14 (S0 : Mp) {w0 : World} (b1 : Nat) (t_0 : alarm_Table) (v2 : Value) (g3 : Option Nat) (cur4 : Array Value) (f5 : Rw S0 2 R_alarm_Due g3 cur4 v2 t_0.l_) (key_1 : Int) (hs : St w0 (b1 :: g3.toList) S0 S0 [.box b1 #[v2] 44, .row g3 cur4 30] w0) (r : (Bool × alarm_Table)) (h0 : alarm_Table_Clear t_0 key_1 = some r) :
    Calls Try.prog 14 #[.pointer (some ⟨b1, 0, none⟩), .int .u64 key_1] w0 (Re (Po14 S0 w0 (b1 :: g3.toList) b1 r)) := by
 unfold alarm_Table_Clear at h0
 refine calls_of_cd Try.func14 rfl Try.ntmps14 rfl ?_
 refine Cd.sr ?_
 refine Rg.st rfl rfl ?_
 refine Rg.go ?_
 refine Cd.sr ?_
 refine Rg.mv rfl rfl ?_
 refine Rg.mv rfl rfl ?_
 obtain ⟨x11, hx12, h0⟩ := bind_s h0
 refine Rg.step rfl (Oq.call Try.call24 rfl rfl (c24 S0 _ (⟨t_0.l_⟩ : alarm_Table) _ _ _ f5 _ (hs.enterP [0, 1] (by decide) rfl (by cases g3 <;> rfl)) _ hx12) (fun v13 w14 h15 => ?_))
 obtain ⟨S16, v19, g20, cur21, rfl, hs17, f22⟩ := h15
 have le18 := hs17.le
 have hs := hs.callP [0, 1] rfl (by cases g3 <;> rfl) hs17
 refine Rg.st rfl rfl ?_
 refine Rg.go ?_
 refine Cd.seq ?_
 refine Cd.sr ?_
 refine Rg.mv rfl rfl ?_
 refine Rg.vN (X.geq rfl rfl) rfl ?_
 refine Rg.go ?_
 refine Cd.cond (t := decide (0 ≤ x11.1)) rfl (fun hc23 => ?_) (fun hc23 => ?_)
 ·have h0 := ite_t hc23 h0
  refine Cd.region ?_
  refine Rg.mv rfl rfl ?_
  refine Rg.mv rfl rfl ?_
  refine Rg.vN (X.nilCheck rfl) rfl ?_
  refine Rg.vN (X.fieldB Try.underlying44 rfl zz27 rfl rfl) rfl ?_
  refine Rg.vN (X.load1 Try.underlying27 rfl rfl (hs.cell 1 rfl 0 rfl)) rfl ?_
  refine Rg.mv rfl rfl ?_
  refine Rg.mv rfl rfl ?_
  refine Rg.vN (X.add rfl rfl) rfl ?_
  obtain ⟨x24, hx25, h0⟩ := bind_s h0
  refine Rg.step rfl (Oq.call Try.call25 rfl rfl (c25 S16 x11.2.l_ _ _ _ f22 _ _ (hs.enterP [0] (by decide) rfl (by cases g20 <;> rfl)) _ hx25) (fun v26 w27 h28 => ?_))
  obtain ⟨S29, v35, g32, cur33, rfl, hs30, f34⟩ := h28
  have le31 := hs30.le
  have hs := hs.callP [0] rfl (by cases g20 <;> rfl) hs30
  refine Rg.vN (X.nilCheck rfl) rfl ?_
  refine Rg.weak [(5, .int .i64 x11.1), (19, v26), (20, .pointer (some ⟨b1, 0, none⟩))] ⟨rfl, rfl, rfl, trivial⟩ ?_
  refine Rg.vN (X.fieldB Try.underlying44 rfl zz27 rfl rfl) rfl ?_
  refine Rg.step rfl (Oq.store hs 1 rfl 0 zz27 rfl rfl (Rw.cells f34) (Rw.one f34) rfl [.row g32 cur33 30, .box b1 #[v26] 44] rfl (fun w36 hs => ?_))
  refine Rg.go ?_
  refine Cd.sr ?_
  refine Rg.mv rfl rfl ?_
  refine Rg.vN (X.geq rfl rfl) rfl ?_
  refine Rg.st rfl rfl ?_
  refine Rg.go ?_
  refine Cd.ret ?_
  obtain rfl := some_s h0
  exact fun a ha => Cd.retA (R := Re (Po14 S0 w0 _ b1 _)) ha Try.results14 ⟨_, _, rfl, rfl, rfl⟩ ⟨_, rfl, S29, v26, g32, cur33, rfl, hs, f34⟩
 ·have h0 := ite_f hc23 h0
  refine Cd.sg ?_
  refine Cd.sr ?_
  refine Rg.mv rfl rfl ?_
  refine Rg.vN (X.geq rfl rfl) rfl ?_
  refine Rg.st rfl rfl ?_
  refine Rg.go ?_
  refine Cd.ret ?_
  obtain rfl := some_s h0
  exact fun a ha => Cd.retA (R := Re (Po14 S0 w0 _ b1 _)) ha Try.results14 ⟨_, _, rfl, rfl, rfl⟩ ⟨_, rfl, S16, v19, g20, cur21, rfl, hs, f22⟩
noncomputable def cmp_Or_int_l0 (vals_0 : (List Int)) (q10 : Int) : Option (Flow Int Int) :=
 if (decide (q10 < (vals_0.length : Int))) = true then (
  (ix vals_0 q10).bind fun x20 =>
  if (x20 != 0) = true then (
   some (Flow.ret x20))
  else (
   some (Flow.next (add .i64 q10 1))))
 else (
  some (Flow.brk q10))
noncomputable def cmp_Or_int (vals_0 : (List Int)) : Option Int :=
 (loopF (fun sg => cmp_Or_int_l0 vals_0 sg) 0).bind fun fl3 =>
 Flow.el fl3 (fun s28 => (
  none))
 (fun s29 => (
  some 0))
 (fun r30 => (
  some r30))
def Po17 (S0 : Mp) (w0 : World) (D : List Nat) (r : Int) (v : Value) (w1 : World) : Prop :=
  ∃ (S1 : Mp), v = .int .i64 r ∧ St w0 D S0 S1 [] w1
set_option maxHeartbeats 4000000 in
theorem c17 (S0 : Mp) {w0 : World} (hs : St w0 [] S0 S0 [] w0) (vals_0 : (List Int)) (v1 : Value) (f2 : Rd S0 1 (RI .i64) v1 vals_0) (r : Int) (h0 : cmp_Or_int vals_0 = some r) :
    Calls Try.prog 17 #[v1] w0 (Re (Po17 S0 w0 [] r)) := by
 unfold cmp_Or_int at h0
 refine calls_of_cd Try.func17 rfl Try.ntmps17 rfl ?_
 refine Cd.sr ?_
 refine Rg.st rfl rfl ?_
 refine Rg.go ?_
 refine Cd.sr ?_
 refine Rg.st rfl rfl ?_
 refine Rg.go ?_
 refine Cd.seq ?_
 refine Cd.sr ?_
 refine Rg.mv rfl rfl ?_
 refine Rg.vN (X.lenR Try.underlying61 rfl f2) rfl ?_
 refine Rg.mv rfl rfl ?_
 refine Rg.go ?_
 obtain ⟨fl3, hfl4, h0⟩ := bind_s h0
 refine Cd.post (fun K w => ∃ (j5 : Int) (S6 : Mp), K = [(3, .int .i64 0)] ∧ fl3 = Flow.brk j5 ∧ Le S0 S6 ∧ St w0 [] S0 S6 [] w) ?_ ?_
 ·rintro K9 w8 ⟨j5, S6, rfl, rfl, le7, hs⟩
  have h0 := el_brk h0
  try dsimp only at h0
  refine Cd.go ?_
  refine Cd.sr ?_
  refine Rg.mv rfl rfl ?_
  refine Rg.st rfl rfl ?_
  refine Rg.go ?_
  refine Cd.ret ?_
  obtain rfl := some_s h0
  exact fun a ha => Cd.retA (R := Re (Po17 S0 w0 _ _)) ha Try.results17 ⟨_, _, rfl, rfl, rfl⟩ ⟨_, rfl, S6, rfl, hs⟩
 ·skip
  refine Cd.weak [(3, .int .i64 0), (6, v1), (7, .int .i64 (vals_0.length : Int)), (8, .int .i64 0)] ⟨rfl, rfl, rfl, rfl, trivial⟩ ?_
  refine Cd.block (Cd.loop (fun sg => cmp_Or_int_l0 vals_0 sg) (fun (sg : Int) K w => ∃ (S11 : Mp), K = [(3, .int .i64 0), (6, v1), (7, .int .i64 (vals_0.length : Int)), (8, .int .i64 sg)] ∧ Le S0 S11 ∧ St w0 [] S0 S11 [] w) 0 fl3 hfl4 ⟨S0, rfl, Le.refl _, hs⟩ ?_)
  rintro q10 fl13 K18 w17 hb14 ⟨S11, rfl, le12, hs⟩ hl15
  have h16 : cmp_Or_int_l0 vals_0 q10 = some fl13 := hb14
  unfold cmp_Or_int_l0 at h16
  refine Cd.sr ?_
  refine Rg.vN (X.lss rfl rfl) rfl ?_
  refine Rg.go ?_
  refine Cd.seq ?_
  refine Cd.cond (t := decide (q10 < (vals_0.length : Int))) rfl (fun hc19 => ?_) (fun hc19 => ?_)
  ·have h16 := ite_t hc19 h16
   refine Cd.sg ?_
   refine Cd.seq ?_
   refine Cd.block ?_
   refine Cd.sr ?_
   obtain ⟨x20, hx21, h16⟩ := bind_s h16
   obtain ⟨ad22, vals23, _, hR24, hE25, hX26⟩ := mk_index Try.underlying61 zz3 (by decide) (f2.mono le12) hx21
   obtain rfl : vals23 = [.int .i64 x20] := hR24
   refine Rg.vN (hX26 rfl rfl) rfl ?_
   refine Rg.vN (X.load1 Try.underlying3 rfl rfl (hE25.at0 rfl hs.has)) rfl ?_
   refine Rg.st rfl rfl ?_
   refine Rg.go ?_
   refine Cd.sr ?_
   refine Rg.mv rfl rfl ?_
   refine Rg.mv rfl rfl ?_
   refine Rg.vN (X.neq rfl rfl) rfl ?_
   refine Rg.go ?_
   refine Cd.cond (t := x20 != 0) rfl (fun hc27 => ?_) (fun hc27 => ?_)
   ·have h16 := ite_t hc27 h16
    refine Cd.sr ?_
    refine Rg.mv rfl rfl ?_
    refine Rg.st rfl rfl ?_
    refine Rg.go ?_
    refine Cd.ret ?_
    obtain rfl := some_s h16
    have e := hl15 (fun _ e => by cases e)
    subst e
    have h0 := el_ret h0
    obtain rfl := some_s h0
    exact fun a ha => Cd.retA (R := Re (Po17 S0 w0 _ _)) ha Try.results17 ⟨_, _, rfl, rfl, rfl⟩ ⟨_, rfl, S11, rfl, hs⟩
   ·have h16 := ite_f hc27 h16
    refine Cd.skip ?_
    refine Cd.go ?_
    refine Cd.region ?_
    refine Rg.vN (X.add rfl rfl) rfl ?_
    refine Rg.mv rfl rfl ?_
    refine Rg.nil ?_
    exact fun a ha => ⟨add .i64 q10 1, [(3, .int .i64 0), (6, v1), (7, .int .i64 (vals_0.length : Int)), (8, .int .i64 (add .i64 q10 1))], (some_s h16).symm, ha.weak ⟨rfl, rfl, rfl, rfl, trivial⟩, S11, rfl, le12, hs⟩
  ·have h16 := ite_f hc19 h16
   refine Cd.exit ?_
   obtain rfl := some_s h16
   have e := hl15 (fun _ e => by cases e)
   exact fun a ha => ⟨[(3, .int .i64 0)], ha.weak ⟨rfl, trivial⟩, _, S11, rfl, e.symm, le12, hs⟩
noncomputable def cmp_isNaN_int64 (x_0 : Int) : Option Bool :=
 some (x_0 != x_0)
def Po28 (S0 : Mp) (w0 : World) (D : List Nat) (r : Bool) (v : Value) (w1 : World) : Prop :=
  ∃ (S1 : Mp), v = .bool r ∧ St w0 D S0 S1 [] w1
set_option maxHeartbeats 4000000 in
theorem c28 (S0 : Mp) {w0 : World} (hs : St w0 [] S0 S0 [] w0) (x_0 : Int) (r : Bool) (h0 : cmp_isNaN_int64 x_0 = some r) :
    Calls Try.prog 28 #[.int .i64 x_0] w0 (Re (Po28 S0 w0 [] r)) := by
 unfold cmp_isNaN_int64 at h0
 refine calls_of_cd Try.func28 rfl Try.ntmps28 rfl ?_
 refine Cd.sr ?_
 refine Rg.st rfl rfl ?_
 refine Rg.go ?_
 refine Cd.sr ?_
 refine Rg.mv rfl rfl ?_
 refine Rg.mv rfl rfl ?_
 refine Rg.vN (X.neq rfl rfl) rfl ?_
 refine Rg.st rfl rfl ?_
 refine Rg.go ?_
 refine Cd.ret ?_
 obtain rfl := some_s h0
 exact fun a ha => Cd.retA (R := Re (Po28 S0 w0 _ _)) ha Try.results28 ⟨_, _, rfl, rfl, rfl⟩ ⟨_, rfl, S0, rfl, hs⟩
noncomputable def cmp_Compare_int64 (x_0 : Int) (y_1 : Int) : Option Int :=
 (cmp_isNaN_int64 x_0).bind fun x1 =>
 (cmp_isNaN_int64 y_1).bind fun x9 =>
 if x1 = true then (
  if x9 = true then (
   some 0)
  else (
   some (-1)))
 else (
  if x9 = true then (
   some 1)
  else (
   if (decide (x_0 < y_1)) = true then (
    some (-1))
   else (
    if (decide (y_1 < x_0)) = true then (
     some 1)
    else (
     some 0))))
def Po18 (S0 : Mp) (w0 : World) (D : List Nat) (r : Int) (v : Value) (w1 : World) : Prop :=
  ∃ (S1 : Mp), v = .int .i64 r ∧ St w0 D S0 S1 [] w1
set_option maxHeartbeats 4000000 in
theorem c18 (S0 : Mp) {w0 : World} (hs : St w0 [] S0 S0 [] w0) (x_0 : Int) (y_1 : Int) (r : Int) (h0 : cmp_Compare_int64 x_0 y_1 = some r) :
    Calls Try.prog 18 #[.int .i64 x_0, .int .i64 y_1] w0 (Re (Po18 S0 w0 [] r)) := by
 unfold cmp_Compare_int64 at h0
 refine calls_of_cd Try.func18 rfl Try.ntmps18 rfl ?_
 refine Cd.sr ?_
 refine Rg.st rfl rfl ?_
 refine Rg.go ?_
 refine Cd.sr ?_
 refine Rg.mv rfl rfl ?_
 obtain ⟨x1, hx2, h0⟩ := bind_s h0
 refine Rg.step rfl (Oq.call Try.call28 rfl rfl (c28 S0 (St.start _ _ hs.has) _ _ hx2) (fun v3 w4 h5 => ?_))
 obtain ⟨S6, rfl, hs7⟩ := h5
 have le8 := hs7.le
 have hs := hs.call0 hs7
 refine Rg.st rfl rfl ?_
 refine Rg.go ?_
 refine Cd.sr ?_
 refine Rg.mv rfl rfl ?_
 obtain ⟨x9, hx10, h0⟩ := bind_s h0
 refine Rg.step rfl (Oq.call Try.call28 rfl rfl (c28 S6 (St.start _ _ hs.has) _ _ hx10) (fun v11 w12 h13 => ?_))
 obtain ⟨S14, rfl, hs15⟩ := h13
 have le16 := hs15.le
 have hs := hs.call0 hs15
 refine Rg.st rfl rfl ?_
 refine Rg.go ?_
 refine Cd.seq ?_
 refine Cd.sr ?_
 refine Rg.mv rfl rfl ?_
 refine Rg.go ?_
 refine Cd.cond (t := x1) rfl (fun hc17 => ?_) (fun hc17 => ?_)
 ·have h0 := ite_t hc17 h0
  refine Cd.seq ?_
  refine Cd.sr ?_
  refine Rg.mv rfl rfl ?_
  refine Rg.go ?_
  refine Cd.cond (t := x9) rfl (fun hc18 => ?_) (fun hc18 => ?_)
  ·have h0 := ite_t hc18 h0
   refine Cd.sr ?_
   refine Rg.st rfl rfl ?_
   refine Rg.go ?_
   refine Cd.ret ?_
   obtain rfl := some_s h0
   exact fun a ha => Cd.retA (R := Re (Po18 S0 w0 _ _)) ha Try.results18 ⟨_, _, rfl, rfl, rfl⟩ ⟨_, rfl, S14, rfl, hs⟩
  ·have h0 := ite_f hc18 h0
   refine Cd.sg ?_
   refine Cd.sr ?_
   refine Rg.st rfl rfl ?_
   refine Rg.go ?_
   refine Cd.ret ?_
   obtain rfl := some_s h0
   exact fun a ha => Cd.retA (R := Re (Po18 S0 w0 _ _)) ha Try.results18 ⟨_, _, rfl, rfl, rfl⟩ ⟨_, rfl, S14, rfl, hs⟩
 ·have h0 := ite_f hc17 h0
  refine Cd.sg ?_
  refine Cd.seq ?_
  refine Cd.sr ?_
  refine Rg.mv rfl rfl ?_
  refine Rg.go ?_
  refine Cd.cond (t := x9) rfl (fun hc19 => ?_) (fun hc19 => ?_)
  ·have h0 := ite_t hc19 h0
   refine Cd.sr ?_
   refine Rg.st rfl rfl ?_
   refine Rg.go ?_
   refine Cd.ret ?_
   obtain rfl := some_s h0
   exact fun a ha => Cd.retA (R := Re (Po18 S0 w0 _ _)) ha Try.results18 ⟨_, _, rfl, rfl, rfl⟩ ⟨_, rfl, S14, rfl, hs⟩
  ·have h0 := ite_f hc19 h0
   refine Cd.sg ?_
   refine Cd.seq ?_
   refine Cd.sr ?_
   refine Rg.mv rfl rfl ?_
   refine Rg.mv rfl rfl ?_
   refine Rg.vN (X.lss rfl rfl) rfl ?_
   refine Rg.go ?_
   refine Cd.cond (t := decide (x_0 < y_1)) rfl (fun hc20 => ?_) (fun hc20 => ?_)
   ·have h0 := ite_t hc20 h0
    refine Cd.sr ?_
    refine Rg.st rfl rfl ?_
    refine Rg.go ?_
    refine Cd.ret ?_
    obtain rfl := some_s h0
    exact fun a ha => Cd.retA (R := Re (Po18 S0 w0 _ _)) ha Try.results18 ⟨_, _, rfl, rfl, rfl⟩ ⟨_, rfl, S14, rfl, hs⟩
   ·have h0 := ite_f hc20 h0
    refine Cd.sg ?_
    refine Cd.seq ?_
    refine Cd.sr ?_
    refine Rg.mv rfl rfl ?_
    refine Rg.mv rfl rfl ?_
    refine Rg.vN (X.gtr rfl rfl) rfl ?_
    refine Rg.go ?_
    refine Cd.cond (t := decide (y_1 < x_0)) rfl (fun hc21 => ?_) (fun hc21 => ?_)
    ·have h0 := ite_t hc21 h0
     refine Cd.sr ?_
     refine Rg.st rfl rfl ?_
     refine Rg.go ?_
     refine Cd.ret ?_
     obtain rfl := some_s h0
     exact fun a ha => Cd.retA (R := Re (Po18 S0 w0 _ _)) ha Try.results18 ⟨_, _, rfl, rfl, rfl⟩ ⟨_, rfl, S14, rfl, hs⟩
    ·have h0 := ite_f hc21 h0
     refine Cd.sg ?_
     refine Cd.sr ?_
     refine Rg.st rfl rfl ?_
     refine Rg.go ?_
     refine Cd.ret ?_
     obtain rfl := some_s h0
     exact fun a ha => Cd.retA (R := Re (Po18 S0 w0 _ _)) ha Try.results18 ⟨_, _, rfl, rfl, rfl⟩ ⟨_, rfl, S14, rfl, hs⟩
noncomputable def cmp_isNaN_uint64 (x_0 : Int) : Option Bool :=
 some (x_0 != x_0)
def Po29 (S0 : Mp) (w0 : World) (D : List Nat) (r : Bool) (v : Value) (w1 : World) : Prop :=
  ∃ (S1 : Mp), v = .bool r ∧ St w0 D S0 S1 [] w1
set_option maxHeartbeats 4000000 in
theorem c29 (S0 : Mp) {w0 : World} (hs : St w0 [] S0 S0 [] w0) (x_0 : Int) (r : Bool) (h0 : cmp_isNaN_uint64 x_0 = some r) :
    Calls Try.prog 29 #[.int .u64 x_0] w0 (Re (Po29 S0 w0 [] r)) := by
 unfold cmp_isNaN_uint64 at h0
 refine calls_of_cd Try.func29 rfl Try.ntmps29 rfl ?_
 refine Cd.sr ?_
 refine Rg.st rfl rfl ?_
 refine Rg.go ?_
 refine Cd.sr ?_
 refine Rg.mv rfl rfl ?_
 refine Rg.mv rfl rfl ?_
 refine Rg.vN (X.neq rfl rfl) rfl ?_
 refine Rg.st rfl rfl ?_
 refine Rg.go ?_
 refine Cd.ret ?_
 obtain rfl := some_s h0
 exact fun a ha => Cd.retA (R := Re (Po29 S0 w0 _ _)) ha Try.results29 ⟨_, _, rfl, rfl, rfl⟩ ⟨_, rfl, S0, rfl, hs⟩
noncomputable def cmp_Compare_uint64 (x_0 : Int) (y_1 : Int) : Option Int :=
 (cmp_isNaN_uint64 x_0).bind fun x1 =>
 (cmp_isNaN_uint64 y_1).bind fun x9 =>
 if x1 = true then (
  if x9 = true then (
   some 0)
  else (
   some (-1)))
 else (
  if x9 = true then (
   some 1)
  else (
   if (decide (x_0 < y_1)) = true then (
    some (-1))
   else (
    if (decide (y_1 < x_0)) = true then (
     some 1)
    else (
     some 0))))
def Po19 (S0 : Mp) (w0 : World) (D : List Nat) (r : Int) (v : Value) (w1 : World) : Prop :=
  ∃ (S1 : Mp), v = .int .i64 r ∧ St w0 D S0 S1 [] w1
set_option maxHeartbeats 4000000 in
theorem c19 (S0 : Mp) {w0 : World} (hs : St w0 [] S0 S0 [] w0) (x_0 : Int) (y_1 : Int) (r : Int) (h0 : cmp_Compare_uint64 x_0 y_1 = some r) :
    Calls Try.prog 19 #[.int .u64 x_0, .int .u64 y_1] w0 (Re (Po19 S0 w0 [] r)) := by
 unfold cmp_Compare_uint64 at h0
 refine calls_of_cd Try.func19 rfl Try.ntmps19 rfl ?_
 refine Cd.sr ?_
 refine Rg.st rfl rfl ?_
 refine Rg.go ?_
 refine Cd.sr ?_
 refine Rg.mv rfl rfl ?_
 obtain ⟨x1, hx2, h0⟩ := bind_s h0
 refine Rg.step rfl (Oq.call Try.call29 rfl rfl (c29 S0 (St.start _ _ hs.has) _ _ hx2) (fun v3 w4 h5 => ?_))
 obtain ⟨S6, rfl, hs7⟩ := h5
 have le8 := hs7.le
 have hs := hs.call0 hs7
 refine Rg.st rfl rfl ?_
 refine Rg.go ?_
 refine Cd.sr ?_
 refine Rg.mv rfl rfl ?_
 obtain ⟨x9, hx10, h0⟩ := bind_s h0
 refine Rg.step rfl (Oq.call Try.call29 rfl rfl (c29 S6 (St.start _ _ hs.has) _ _ hx10) (fun v11 w12 h13 => ?_))
 obtain ⟨S14, rfl, hs15⟩ := h13
 have le16 := hs15.le
 have hs := hs.call0 hs15
 refine Rg.st rfl rfl ?_
 refine Rg.go ?_
 refine Cd.seq ?_
 refine Cd.sr ?_
 refine Rg.mv rfl rfl ?_
 refine Rg.go ?_
 refine Cd.cond (t := x1) rfl (fun hc17 => ?_) (fun hc17 => ?_)
 ·have h0 := ite_t hc17 h0
  refine Cd.seq ?_
  refine Cd.sr ?_
  refine Rg.mv rfl rfl ?_
  refine Rg.go ?_
  refine Cd.cond (t := x9) rfl (fun hc18 => ?_) (fun hc18 => ?_)
  ·have h0 := ite_t hc18 h0
   refine Cd.sr ?_
   refine Rg.st rfl rfl ?_
   refine Rg.go ?_
   refine Cd.ret ?_
   obtain rfl := some_s h0
   exact fun a ha => Cd.retA (R := Re (Po19 S0 w0 _ _)) ha Try.results19 ⟨_, _, rfl, rfl, rfl⟩ ⟨_, rfl, S14, rfl, hs⟩
  ·have h0 := ite_f hc18 h0
   refine Cd.sg ?_
   refine Cd.sr ?_
   refine Rg.st rfl rfl ?_
   refine Rg.go ?_
   refine Cd.ret ?_
   obtain rfl := some_s h0
   exact fun a ha => Cd.retA (R := Re (Po19 S0 w0 _ _)) ha Try.results19 ⟨_, _, rfl, rfl, rfl⟩ ⟨_, rfl, S14, rfl, hs⟩
 ·have h0 := ite_f hc17 h0
  refine Cd.sg ?_
  refine Cd.seq ?_
  refine Cd.sr ?_
  refine Rg.mv rfl rfl ?_
  refine Rg.go ?_
  refine Cd.cond (t := x9) rfl (fun hc19 => ?_) (fun hc19 => ?_)
  ·have h0 := ite_t hc19 h0
   refine Cd.sr ?_
   refine Rg.st rfl rfl ?_
   refine Rg.go ?_
   refine Cd.ret ?_
   obtain rfl := some_s h0
   exact fun a ha => Cd.retA (R := Re (Po19 S0 w0 _ _)) ha Try.results19 ⟨_, _, rfl, rfl, rfl⟩ ⟨_, rfl, S14, rfl, hs⟩
  ·have h0 := ite_f hc19 h0
   refine Cd.sg ?_
   refine Cd.seq ?_
   refine Cd.sr ?_
   refine Rg.mv rfl rfl ?_
   refine Rg.mv rfl rfl ?_
   refine Rg.vN (X.lss rfl rfl) rfl ?_
   refine Rg.go ?_
   refine Cd.cond (t := decide (x_0 < y_1)) rfl (fun hc20 => ?_) (fun hc20 => ?_)
   ·have h0 := ite_t hc20 h0
    refine Cd.sr ?_
    refine Rg.st rfl rfl ?_
    refine Rg.go ?_
    refine Cd.ret ?_
    obtain rfl := some_s h0
    exact fun a ha => Cd.retA (R := Re (Po19 S0 w0 _ _)) ha Try.results19 ⟨_, _, rfl, rfl, rfl⟩ ⟨_, rfl, S14, rfl, hs⟩
   ·have h0 := ite_f hc20 h0
    refine Cd.sg ?_
    refine Cd.seq ?_
    refine Cd.sr ?_
    refine Rg.mv rfl rfl ?_
    refine Rg.mv rfl rfl ?_
    refine Rg.vN (X.gtr rfl rfl) rfl ?_
    refine Rg.go ?_
    refine Cd.cond (t := decide (y_1 < x_0)) rfl (fun hc21 => ?_) (fun hc21 => ?_)
    ·have h0 := ite_t hc21 h0
     refine Cd.sr ?_
     refine Rg.st rfl rfl ?_
     refine Rg.go ?_
     refine Cd.ret ?_
     obtain rfl := some_s h0
     exact fun a ha => Cd.retA (R := Re (Po19 S0 w0 _ _)) ha Try.results19 ⟨_, _, rfl, rfl, rfl⟩ ⟨_, rfl, S14, rfl, hs⟩
    ·have h0 := ite_f hc21 h0
     refine Cd.sg ?_
     refine Cd.sr ?_
     refine Rg.st rfl rfl ?_
     refine Rg.go ?_
     refine Cd.ret ?_
     obtain rfl := some_s h0
     exact fun a ha => Cd.retA (R := Re (Po19 S0 w0 _ _)) ha Try.results19 ⟨_, _, rfl, rfl, rfl⟩ ⟨_, rfl, S14, rfl, hs⟩
noncomputable def alarm_Table_Set_1 (a_0 : alarm_Due) (b_1 : alarm_Due) : Option Int :=
 ((
  (cmp_Compare_int64 a_0.At b_1.At).bind fun x15 =>
  (cmp_Compare_uint64 a_0.Key b_1.Key).bind fun x23 =>
  (cmp_Or_int ([x15, x23] : List Int)).bind fun x38 =>
  some x38 : Option Int)).bind fun p8 =>
 some p8
def Po16 (S0 : Mp) (w0 : World) (D : List Nat) (r : Int) (v : Value) (w1 : World) : Prop :=
  ∃ (S1 : Mp), v = .int .i64 r ∧ St w0 D S0 S1 [] w1
set_option maxHeartbeats 4000000 in
theorem c16 (S0 : Mp) {w0 : World} (hs : St w0 [] S0 S0 [] w0) (a_0 : alarm_Due) (b_1 : alarm_Due) (r : Int) (h0 : alarm_Table_Set_1 a_0 b_1 = some r) :
    Calls Try.prog 16 #[.agg (#[.int .i64 a_0.At, .int .u64 a_0.Key]), .agg (#[.int .i64 b_1.At, .int .u64 b_1.Key])] w0 (Re (Po16 S0 w0 [] r)) := by
 unfold alarm_Table_Set_1 at h0
 refine calls_of_cd Try.func16 rfl Try.ntmps16 rfl ?_
 refine Cd.sr ?_
 refine Rg.step rfl (Oq.box (cs := #[.int .i64 a_0.At, .int .u64 a_0.Key]) hs rfl rfl rfl (fun b1 w2 hs => ?_))
 refine Rg.step rfl (Oq.box (cs := #[.int .i64 b_1.At, .int .u64 b_1.Key]) hs rfl rfl rfl (fun b4 w5 hs => ?_))
 refine Rg.st rfl rfl ?_
 refine Rg.go ?_
 refine Cd.seq ?_
 obtain ⟨p8, hp9, h0⟩ := bind_s h0
 refine Cd.post (fun K w => ∃ (S10 : Mp), K = [(4, .int .i64 p8)] ∧ Le S0 S10 ∧ St w0 [] S0 S10 [] w) ?_ ?_
 ·rintro K13 w11 ⟨S10, rfl, le12, hs⟩
  refine Cd.go ?_
  refine Cd.ret ?_
  obtain rfl := some_s h0
  exact fun a ha => Cd.retA (R := Re (Po16 S0 w0 _ _)) ha Try.results16 ⟨_, _, rfl, rfl, rfl⟩ ⟨_, rfl, S10, rfl, hs⟩
 ·skip
  refine Cd.rD mixed (fun l w => Has S0 w ∧ Hp b4 #[.int .i64 b_1.At, .int .u64 b_1.Key] 30 w ∧ Hp b1 #[.int .i64 a_0.At, .int .u64 a_0.Key] 30 w) hs (fun _ _ _ _ _ h => h) (by kernel_rfl) (fun w14 hs => ⟨⟨hs.has, (hs.heap 0 rfl), (hs.heap 1 rfl)⟩, ?_⟩)
  refine Rk.tN 0 rfl rfl (fun _ _ => X.fieldB Try.underlying30 rfl zz2 rfl rfl) ?_
  refine Rk.tN 1 rfl rfl (fun w hc => X.load1 Try.underlying2 rfl rfl (heap_cell hc.2.2 rfl)) ?_
  refine Rk.tN 2 rfl rfl (fun _ _ => X.fieldB Try.underlying30 rfl zz2 rfl rfl) ?_
  refine Rk.tN 3 rfl rfl (fun w hc => X.load1 Try.underlying2 rfl rfl (heap_cell hc.2.1 rfl)) ?_
  refine Rk.tN 5 rfl rfl (fun _ _ => X.fieldB Try.underlying30 rfl zz26 rfl rfl) ?_
  refine Rk.tN 6 rfl rfl (fun w hc => X.load1 Try.underlying26 rfl rfl (heap_cell hc.2.2 rfl)) ?_
  refine Rk.tN 7 rfl rfl (fun _ _ => X.fieldB Try.underlying30 rfl zz26 rfl rfl) ?_
  refine Rk.tN 8 rfl rfl (fun w hc => X.load1 Try.underlying26 rfl rfl (heap_cell hc.2.1 rfl)) ?_
  obtain ⟨x15, hx16, hp9⟩ := bind_s hp9
  refine Rk.eN 4 rfl rfl (Oq.call Try.call18 rfl rfl (c18 S0 (St.start _ _ hs.has) _ _ _ hx16) (fun v17 w18 h19 => ?_))
  obtain ⟨S20, rfl, hs21⟩ := h19
  have le22 := hs21.le
  have hs := hs.call0 hs21
  refine ⟨⟨(hs.has.down le22), (hs.heap 0 rfl), (hs.heap 1 rfl)⟩, Rk.mk (C' := fun l w => Has S20 w ∧ Hp b4 #[.int .i64 b_1.At, .int .u64 b_1.Key] 30 w ∧ Hp b1 #[.int .i64 a_0.At, .int .u64 a_0.Key] 30 w) ⟨hs.has, (hs.heap 0 rfl), (hs.heap 1 rfl)⟩ (fun l w hc => ⟨hc.1.down le22, hc.2.1, hc.2.2⟩) ?_⟩
  obtain ⟨x23, hx24, hp9⟩ := bind_s hp9
  refine Rk.eN 9 rfl rfl (Oq.call Try.call19 rfl rfl (c19 S20 (St.start _ _ hs.has) _ _ _ hx24) (fun v25 w26 h27 => ?_))
  obtain ⟨S28, rfl, hs29⟩ := h27
  have le30 := hs29.le
  have hs := hs.call0 hs29
  refine ⟨⟨(hs.has.down le30), (hs.heap 0 rfl), (hs.heap 1 rfl)⟩, Rk.mk (C' := fun l w => Has S28 w ∧ Hp b4 #[.int .i64 b_1.At, .int .u64 b_1.Key] 30 w ∧ Hp b1 #[.int .i64 a_0.At, .int .u64 a_0.Key] 30 w) ⟨hs.has, (hs.heap 0 rfl), (hs.heap 1 rfl)⟩ (fun l w hc => ⟨hc.1.down le30, hc.2.1, hc.2.2⟩) ?_⟩
  refine Rk.eN 10 rfl rfl (Oq.lit (sz := 1) (cs0 := [.int .i64 0, .int .i64 0]) (cells := [.int .i64 x15, .int .i64 x23]) hs Try.underlying61 ii3 rfl rfl rfl rfl rfl rfl ⟨_, [.int .i64 x15], _, rfl, rfl, rfl, ⟨_, [.int .i64 x23], _, rfl, rfl, rfl, rfl⟩⟩ rfl rfl rfl (fun b31 w32 S33 hs le34 hE35 => ?_))
  have f37 : Rd S33 1 (RI .i64) (.slice (some ⟨b31, 0, none⟩) 2 2) ([x15, x23] : List Int) := Rd.of_cells (xs := ([x15, x23] : List Int)) ⟨[.int .i64 x15], _, rfl, rfl, one_all ⟨rfl, trivial⟩, rfl, ⟨[.int .i64 x23], _, rfl, rfl, one_all ⟨rfl, trivial⟩, rfl, rfl⟩⟩ hE35 (Nat.le_of_ble_eq_true rfl) (Nat.le_of_ble_eq_true rfl)
  refine ⟨⟨(hs.has.down le34), (hs.heap 1 rfl), (hs.heap 2 rfl)⟩, Rk.mk (C' := fun l w => Has S33 w ∧ Hp b4 #[.int .i64 b_1.At, .int .u64 b_1.Key] 30 w ∧ Hp b1 #[.int .i64 a_0.At, .int .u64 a_0.Key] 30 w) ⟨hs.has, (hs.heap 1 rfl), (hs.heap 2 rfl)⟩ (fun l w hc => ⟨hc.1.down le34, hc.2.1, hc.2.2⟩) ?_⟩
  obtain ⟨x38, hx39, hp9⟩ := bind_s hp9
  refine Rk.eN 11 rfl rfl (Oq.call Try.call17 rfl rfl (c17 S33 (St.start _ _ hs.has) _ _ f37 _ hx39) (fun v40 w41 h42 => ?_))
  obtain ⟨S43, rfl, hs44⟩ := h42
  have le45 := hs44.le
  have hs := hs.call0 hs44
  refine ⟨⟨(hs.has.down le45), (hs.heap 1 rfl), (hs.heap 2 rfl)⟩, Rk.mk (C' := fun l w => Has S43 w ∧ Hp b4 #[.int .i64 b_1.At, .int .u64 b_1.Key] 30 w ∧ Hp b1 #[.int .i64 a_0.At, .int .u64 a_0.Key] 30 w) ⟨hs.has, (hs.heap 1 rfl), (hs.heap 2 rfl)⟩ (fun l w hc => ⟨hc.1.down le45, hc.2.1, hc.2.2⟩) ?_⟩
  refine Rk.tN 12 rfl rfl (fun _ _ => X.assign rfl) ?_
  refine Rk.done ?_
  have e := some_s hp9
  subst e
  exact fun a ha => ⟨[(4, .int .i64 x38)], ha.weak ⟨rfl, trivial⟩, S43, rfl, (le22.trans (le30.trans (le34.trans le45))), (hs.pick [] (by decide) rfl)⟩
end Go.Lk
