/- A part of this proof: RtcpTells returns true for every input and leaves its arguments as they were; there are no conditions. -/
import Derived.Test.YtnpgmljphheabaaL13
import Derived.Test.YtnpgmljphheabaaProg
import Derived.KernelRfl
set_option linter.unusedVariables false
set_option linter.unusedSimpArgs false
set_option maxRecDepth 100000
namespace Go.Lk
open Go.RowKit Go.Proofs
theorem mixed : Try.prog.follows .mixedOrders = true := by kernel_rfl
structure limelightkeep_Tape where
  L : (List Int)
  At : Int
structure api_Tuple where
  Owner : Int
  Rate : Int
  Over : Int
structure api_Report where
  Kind : Int
  From : Int
  About : Int
  Tuples : (List api_Tuple)
  Abouts : (List Int)
  Numbers : (List Int)
  Rate : Int
  Type_ : Int
  Count : Int
  Body : (List Int)
structure rtcp_reader where
  b_ : (List Int)
  at_ : Int
  bad_ : Bool
def R_limelightkeep_Tape : Rel limelightkeep_Tape := fun S vals x => ∃ v0, vals = [v0, .int .i64 x.At] ∧ Rd S 1 (RI .i64) v0 x.L
instance : Mono R_limelightkeep_Tape := ⟨fun hl h => by
  obtain ⟨v0, h0, h1⟩ := h
  exact ⟨v0, h0, h1.mono hl⟩⟩
def R_api_Tuple : Rel api_Tuple := fun S vals x => vals = [.int .u32 x.Owner, .int .u64 x.Rate, .int .i64 x.Over]
instance : Mono R_api_Tuple := ⟨fun _ h => h⟩
def R_api_Report : Rel api_Report := fun S vals x => ∃ v0 v1 v2 v3, vals = [.int .i64 x.Kind, .int .u32 x.From, .int .u32 x.About, v0, v1, v2, .int .u64 x.Rate, .int .i64 x.Type_, .int .i64 x.Count, v3] ∧ Rd S 3 R_api_Tuple v0 x.Tuples ∧ Rd S 1 (RI .u32) v1 x.Abouts ∧ Rd S 1 (RI .i64) v2 x.Numbers ∧ Rd S 1 (RI .u8) v3 x.Body
instance : Mono R_api_Report := ⟨fun hl h => by
  obtain ⟨v0, v1, v2, v3, h0, h1, h2, h3, h4⟩ := h
  exact ⟨v0, v1, v2, v3, h0, h1.mono hl, h2.mono hl, h3.mono hl, h4.mono hl⟩⟩
def R_rtcp_reader : Rel rtcp_reader := fun S vals x => ∃ v0, vals = [v0, .int .i64 x.at_, .bool x.bad_] ∧ Rd S 1 (RI .u8) v0 x.b_
instance : Mono R_rtcp_reader := ⟨fun hl h => by
  obtain ⟨v0, h0, h1⟩ := h
  exact ⟨v0, h0, h1.mono hl⟩⟩
theorem ii3 : Try.prog.info? 3 = some Try.t3 := Try.type3
theorem ii4 : Try.prog.info? 4 = some Try.t4 := Try.type4
theorem ii5 : Try.prog.info? 5 = some Try.t5 := Try.type5
theorem ii23 : Try.prog.info? 23 = some Try.t23 := Try.type23
theorem ii26 : Try.prog.info? 26 = some Try.t26 := Try.type26
theorem ii27 : Try.prog.info? 27 = some Try.t27 := Try.type27
theorem ii28 : Try.prog.info? 28 = some Try.t28 := Try.type28
theorem ii29 : Try.prog.info? 29 = some Try.t29 := Try.type29
theorem ii30 : Try.prog.info? 30 = some Try.t30 := Try.type30
theorem ii31 : Try.prog.info? 31 = some Try.t31 := Try.type31
theorem ii33 : Try.prog.info? 33 = some Try.t33 := Try.type33
theorem ii57 : Try.prog.info? 57 = some Try.t57 := Try.type57
theorem ii101 : Try.prog.info? 101 = some Try.t101 := Try.type101
theorem zz3 : (Try.prog.info? 3).map (·.size) = some 1 := by rw [ii3]; rfl
theorem zz4 : (Try.prog.info? 4).map (·.size) = some 1 := by rw [ii4]; rfl
theorem zz5 : (Try.prog.info? 5).map (·.size) = some 1 := by rw [ii5]; rfl
theorem zz23 : (Try.prog.info? 23).map (·.size) = some 1 := by rw [ii23]; rfl
theorem zz27 : (Try.prog.info? 27).map (·.size) = some 1 := by rw [ii27]; rfl
theorem zz28 : (Try.prog.info? 28).map (·.size) = some 1 := by rw [ii28]; rfl
theorem zz29 : (Try.prog.info? 29).map (·.size) = some 1 := by rw [ii29]; rfl
theorem zz30 : (Try.prog.info? 30).map (·.size) = some 1 := by rw [ii30]; rfl
theorem zz31 : (Try.prog.info? 31).map (·.size) = some 1 := by rw [ii31]; rfl
theorem zz33 : (Try.prog.info? 33).map (·.size) = some 10 := by rw [ii33]; rfl
theorem zz57 : (Try.prog.info? 57).map (·.size) = some 3 := by rw [ii57]; rfl
theorem pp26 : ∀ fs : Array Field, Try.prog.underlying 26 = some (.struct fs) → fs.toList.mapM (fun f => (Try.prog.info? f.type).map fun i => (f.offset, i.size)) = some [(0, 1), (1, 1)] := by
  intro fs h
  rw [Try.underlying26] at h
  injection h with h
  injection h with h
  subst h
  kernel_rfl
theorem pp33 : ∀ fs : Array Field, Try.prog.underlying 33 = some (.struct fs) → fs.toList.mapM (fun f => (Try.prog.info? f.type).map fun i => (f.offset, i.size)) = some [(0, 1), (1, 1), (2, 1), (3, 1), (4, 1), (5, 1), (6, 1), (7, 1), (8, 1), (9, 1)] := by
  intro fs h
  rw [Try.underlying33] at h
  injection h with h
  injection h with h
  subst h
  kernel_rfl
theorem pp57 : ∀ fs : Array Field, Try.prog.underlying 57 = some (.struct fs) → fs.toList.mapM (fun f => (Try.prog.info? f.type).map fun i => (f.offset, i.size)) = some [(0, 1), (1, 1), (2, 1)] := by
  intro fs h
  rw [Try.underlying57] at h
  injection h with h
  injection h with h
  subst h
  kernel_rfl
theorem pp101 : ∀ fs : Array Field, Try.prog.underlying 101 = some (.struct fs) → fs.toList.mapM (fun f => (Try.prog.info? f.type).map fun i => (f.offset, i.size)) = some [(0, 1), (1, 1), (2, 1)] := by
  intro fs h
  rw [Try.underlying101] at h
  injection h with h
  injection h with h
  subst h
  kernel_rfl
theorem eqg57 : Try.prog.eqGuardType Try.prog.depth 57 = false := Try.eqGuardType57
theorem eqh57 : Try.prog.stoodInHeld 57 = false := by kernel_rfl
theorem eqs57 (a0 b0 : Int) (a1 b1 : Int) (a2 b2 : Int) (w : World) : (Op.equal 57 (.agg #[.int .u32 a0, .int .u64 a1, .int .i64 a2]) (.agg #[.int .u32 b0, .int .u64 b1, .int .i64 b2])).run Try.prog w = .ok (((a0 == b0) && ((a1 == b1) && ((a2 == b2) && true)))) w :=
  run_eqStruct (ps := [(.int .u32 a0, .int .u32 b0), (.int .u64 a1, .int .u64 b1), (.int .i64 a2, .int .i64 b2)]) Try.underlying57 eqh57 ⟨_, _, _, rfl, rfl, by decide, .inl ⟨_, _, _, rfl, rfl, Try.underlying27⟩, ⟨_, _, _, rfl, rfl, by decide, .inl ⟨_, _, _, rfl, rfl, Try.underlying30⟩, ⟨_, _, _, rfl, rfl, by decide, .inl ⟨_, _, _, rfl, rfl, Try.underlying3⟩, rfl⟩⟩⟩ w
noncomputable def slices_Clip_byte (s_0 : (List Int)) : Option (List Int) :=
 some s_0
def Po43 (S0 : Mp) (w0 : World) (D : List Nat) (r : (List Int)) (v : Value) (w1 : World) : Prop :=
  ∃ (S1 : Mp) (v3 : Value), v = v3 ∧ St w0 D S0 S1 [] w1 ∧ Rd S1 1 (RI .u8) v3 r ∧ (∃ A, v3 = .slice A r.length r.length)
set_option maxHeartbeats 4000000 in
theorem c43 (S0 : Mp) {w0 : World} (hs : St w0 [] S0 S0 [] w0) (s_0 : (List Int)) (v1 : Value) (f2 : Rd S0 1 (RI .u8) v1 s_0) (r : (List Int)) (h0 : slices_Clip_byte s_0 = some r) :
    Calls Try.prog 43 #[v1] w0 (Re (Po43 S0 w0 [] r)) := by
 unfold slices_Clip_byte at h0
 refine calls_of_cd Try.func43 rfl Try.ntmps43 rfl ?_
 refine Cd.sr ?_
 refine Rg.st rfl rfl ?_
 refine Rg.go ?_
 refine Cd.sr ?_
 refine Rg.mv rfl rfl ?_
 refine Rg.mv rfl rfl ?_
 refine Rg.vN (X.lenR Try.underlying31 rfl f2) rfl ?_
 refine Rg.mv rfl rfl ?_
 refine Rg.vN (X.lenR Try.underlying31 rfl f2) rfl ?_
 obtain ⟨v4, f5, hf9, hX6⟩ := mk_clip Try.underlying31 zz5 f2
 refine Rg.vN (hX6 rfl rfl rfl) rfl ?_
 refine Rg.st rfl rfl ?_
 refine Rg.go ?_
 refine Cd.ret ?_
 obtain rfl := some_s h0
 exact fun a ha => Cd.retA (R := Re (Po43 S0 w0 [] _)) ha Try.results43 ⟨_, _, rfl, rfl, rfl⟩ ⟨_, rfl, S0, v4, rfl, hs, f5, hf9⟩
noncomputable def slices_Clone_byte (s_0 : (List Int)) : Option (List Int) :=
 (app 1 ([] : List Int) s_0).bind fun y14 =>
 some y14
def Po59 (S0 : Mp) (w0 : World) (D : List Nat) (r : (List Int)) (v : Value) (w1 : World) : Prop :=
  ∃ (S1 : Mp) (v3 : Value) (g4 : Option Nat), v = v3 ∧ St w0 D S0 S1 [.app g4 v3 r.length 5 1] w1 ∧ Rd S1 1 (RI .u8) v3 r
set_option maxHeartbeats 4000000 in
theorem c59 (S0 : Mp) {w0 : World} (hs : St w0 [] S0 S0 [] w0) (s_0 : (List Int)) (v1 : Value) (f2 : Rd S0 1 (RI .u8) v1 s_0) (r : (List Int)) (h0 : slices_Clone_byte s_0 = some r) :
    Calls Try.prog 59 #[v1] w0 (Re (Po59 S0 w0 [] r)) := by
 unfold slices_Clone_byte at h0
 refine calls_of_cd Try.func59 rfl Try.ntmps59 rfl ?_
 refine Cd.sr ?_
 refine Rg.st rfl rfl ?_
 refine Rg.go ?_
 refine Cd.seq ?_
 refine Cd.sr ?_
 refine Rg.mv rfl rfl ?_
 refine Rg.vN (X.eqlNil f2 Try.underlying31 rfl) rfl ?_
 refine Rg.go ?_
 refine Cd.cond (t := isNil v1) rfl (fun hc5 => ?_) (fun hc5 => ?_)
 ·have h0 := clone_nil (nil_of f2 (Nat.le_of_ble_eq_true rfl) hc5) h0
  refine Cd.sr ?_
  refine Rg.st rfl rfl ?_
  refine Rg.go ?_
  refine Cd.ret ?_
  have hs := hs.nil 5 1
  obtain rfl := some_s h0
  exact fun a ha => Cd.retA (R := Re (Po59 S0 w0 [] _)) ha Try.results59 ⟨_, _, rfl, rfl, rfl⟩ ⟨_, rfl, S0, (.slice none 0 0), none, rfl, hs, (Rd.nil _ _ _)⟩
 ·skip
  refine Cd.sg ?_
  refine Cd.sr ?_
  refine Rg.step rfl (Oq.lit (sz := 1) (cs0 := []) (cells := []) hs Try.underlying31 ii5 rfl rfl rfl rfl rfl rfl rfl rfl rfl rfl (fun b7 w8 S9 hs le10 hE11 => ?_))
  have f13 : Rd S9 1 (RI .u8) (.slice (some ⟨b7, 0, none⟩) 0 0) ([] : List Int) := Rd.of_cells (xs := ([] : List Int)) rfl hE11 (Nat.le_of_ble_eq_true rfl) (Nat.le_of_ble_eq_true rfl)
  refine Rg.mv rfl rfl ?_
  obtain ⟨y14, hx15, h0⟩ := bind_s h0
  refine Rg.step rfl (Oq.appendS hs 0 rfl Try.underlying31 ii5 rfl rfl rfl rfl rfl rfl f13 (f2.mono le10) hx15 rfl rfl rfl (fun v16 w17 S18 g19 hs le20 f21 => ?_))
  refine Rg.st rfl rfl ?_
  refine Rg.go ?_
  refine Cd.ret ?_
  obtain rfl := some_s h0
  exact fun a ha => Cd.retA (R := Re (Po59 S0 w0 [] _)) ha Try.results59 ⟨_, _, rfl, rfl, rfl⟩ ⟨_, rfl, S18, v16, g19, rfl, hs, f21⟩
noncomputable def octet_Put_l0 (n_1 : Int) (q40 : (List Int)) (q41 : Int) : Option (Flow ((List Int) × Int) (List Int)) :=
 if (decide (0 ≤ q41)) = true then (
  gd ((0 : Int) ≤ (mul .i64 q41 8)) (
   (app 1 q40 ([cv .u8 (shr .u64 n_1 (mul .i64 q41 8))] : List Int)).bind fun y63 =>
   some (Flow.next (y63, sub .i64 q41 1))))
 else (
  some (Flow.brk (q40, q41)))
noncomputable def octet_Put (b_0 : (List Int)) (n_1 : Int) (size_2 : Int) : Option (List Int) :=
 (slices_Clone_byte b_0).bind fun x4 =>
 if ((decide (size_2 < 1)) || (decide (8 < size_2))) = true then (
  none)
 else (
  (loopF (fun sg => octet_Put_l0 n_1 sg.1 sg.2) (x4, sub .i64 size_2 1)).bind fun fl17 =>
  Flow.el fl17 (fun s71 => (
   none))
  (fun s72 => (
   (slices_Clip_byte s72.1).bind fun x29 =>
   some x29))
  (fun r73 => (
   none)))
def Po42 (S0 : Mp) (w0 : World) (D : List Nat) (r : (List Int)) (v : Value) (w1 : World) : Prop :=
  ∃ (S1 : Mp) (v3 : Value), v = v3 ∧ St w0 D S0 S1 [] w1 ∧ Rd S1 1 (RI .u8) v3 r ∧ (∃ A, v3 = .slice A r.length r.length)
set_option maxHeartbeats 4000000 in
theorem c42 (S0 : Mp) {w0 : World} (hs : St w0 [] S0 S0 [] w0) (b_0 : (List Int)) (v1 : Value) (f2 : Rd S0 1 (RI .u8) v1 b_0) (n_1 : Int) (size_2 : Int) (r : (List Int)) (h0 : octet_Put b_0 n_1 size_2 = some r) :
    Calls Try.prog 42 #[v1, .int .u64 n_1, .int .i64 size_2] w0 (Re (Po42 S0 w0 [] r)) := by
 unfold octet_Put at h0
 refine calls_of_cd Try.func42 rfl Try.ntmps42 rfl ?_
 refine Cd.sr ?_
 refine Rg.st rfl rfl ?_
 refine Rg.go ?_
 refine Cd.sr ?_
 refine Rg.mv rfl rfl ?_
 obtain ⟨x4, hx5, h0⟩ := bind_s h0
 refine Rg.step rfl (Oq.call Try.call59 rfl rfl (c59 S0 (St.start _ _ hs.has) _ _ f2 _ hx5) (fun v6 w7 h8 => ?_))
 obtain ⟨S9, v12, g14, rfl, hs10, f13⟩ := h8
 have le11 := hs10.le
 have hs := hs.call0 hs10
 refine Rg.st rfl rfl ?_
 refine Rg.go ?_
 refine Cd.seq ?_
 refine Cd.sr ?_
 refine Rg.mv rfl rfl ?_
 refine Rg.vN (X.lss rfl rfl) rfl ?_
 refine Rg.mv rfl rfl ?_
 refine Rg.vF rfl rfl rfl (fun hW => X.move rfl) ?_
 refine Rg.vF rfl rfl rfl (fun hW => X.gtr (ev_g rfl hW) rfl) ?_
 refine Rg.vN (X.pickOr rfl rfl rfl) rfl ?_
 refine Rg.go ?_
 refine Cd.cond (t := (decide (size_2 < 1)) || (decide (8 < size_2))) rfl (fun hc16 => ?_) (fun hc16 => ?_)
 ·have h0 := ite_t hc16 h0
  cases h0
 ·have h0 := ite_f hc16 h0
  refine Cd.sg ?_
  refine Cd.seq ?_
  refine Cd.sr ?_
  refine Rg.mv rfl rfl ?_
  refine Rg.vN (X.sub rfl rfl) rfl ?_
  refine Rg.st rfl rfl ?_
  refine Rg.go ?_
  obtain ⟨fl17, hfl18, h0⟩ := bind_s h0
  refine Cd.post (fun K w => ∃ (j19 : (List Int)) (j20 : Int) (S21 : Mp) (v23 : Value) (g25 : Option Nat), K = [(7, v23)] ∧ fl17 = Flow.brk (j19, j20) ∧ Le S9 S21 ∧ St w0 [] S0 S21 [.app g25 v23 j19.length 5 1] w ∧ Rd S21 1 (RI .u8) v23 j19) ?_ ?_
  ·rintro K28 w27 ⟨j19, j20, S21, v23, g25, rfl, rfl, le22, hs, f24⟩
   have h0 := el_brk h0
   try dsimp only at h0
   refine Cd.go ?_
   refine Cd.sr ?_
   refine Rg.mv rfl rfl ?_
   obtain ⟨x29, hx30, h0⟩ := bind_s h0
   refine Rg.step rfl (Oq.call Try.call43 rfl rfl (c43 S21 (St.start _ _ hs.has) _ _ f24 _ hx30) (fun v31 w32 h33 => ?_))
   obtain ⟨S34, v37, rfl, hs35, f38, fu39⟩ := h33
   have le36 := hs35.le
   have hs := hs.call0 hs35
   refine Rg.st rfl rfl ?_
   refine Rg.go ?_
   refine Cd.ret ?_
   obtain rfl := some_s h0
   exact fun a ha => Cd.retA (R := Re (Po42 S0 w0 [] _)) ha Try.results42 ⟨_, _, rfl, rfl, rfl⟩ ⟨_, rfl, S34, v31, rfl, (hs.pick [] (by decide) rfl), f38, fu39⟩
  ·skip
   refine Cd.weak [(1, .int .u64 n_1), (7, v6), (8, .int .i64 (sub .i64 size_2 1))] ⟨rfl, rfl, rfl, trivial⟩ ?_
   refine Cd.block (Cd.loop (fun sg => octet_Put_l0 n_1 sg.1 sg.2) (fun (sg : ((List Int) × Int)) K w => ∃ (S42 : Mp) (v44 : Value) (g46 : Option Nat), K = [(1, .int .u64 n_1), (7, v44), (8, .int .i64 sg.2)] ∧ Le S9 S42 ∧ St w0 [] S0 S42 [.app g46 v44 sg.1.length 5 1] w ∧ Rd S42 1 (RI .u8) v44 sg.1) (x4, sub .i64 size_2 1) fl17 hfl18 ⟨S9, v6, g14, rfl, Le.refl _, hs, f13⟩ ?_)
   rintro ⟨q40, q41⟩ fl48 K53 w52 hb49 ⟨S42, v44, g46, rfl, le43, hs, f45⟩ hl50
   have h51 : octet_Put_l0 n_1 q40 q41 = some fl48 := hb49
   unfold octet_Put_l0 at h51
   refine Cd.seq ?_
   refine Cd.sr ?_
   refine Rg.mv rfl rfl ?_
   refine Rg.vN (X.geq rfl rfl) rfl ?_
   refine Rg.go ?_
   refine Cd.cond (t := decide (0 ≤ q41)) rfl (fun hc54 => ?_) (fun hc54 => ?_)
   ·have h51 := ite_t hc54 h51
    refine Cd.sg ?_
    refine Cd.seq ?_
    refine Cd.block ?_
    refine Cd.region ?_
    refine Rg.mv rfl rfl ?_
    refine Rg.weak [(1, .int .u64 n_1), (8, .int .i64 q41), (24, v44)] ⟨rfl, rfl, rfl, trivial⟩ ?_
    refine Rg.mv rfl rfl ?_
    refine Rg.mv rfl rfl ?_
    refine Rg.vN (X.mul rfl rfl) rfl ?_
    obtain ⟨hg55, h51⟩ := gd_s h51
    refine Rg.vN (X.shr rfl rfl hg55) rfl ?_
    refine Rg.vN (X.conv Try.underlying30 Try.underlying5 rfl) rfl ?_
    refine Rg.step rfl (Oq.lit (sz := 1) (cs0 := [.int .u8 0]) (cells := [.int .u8 (cv .u8 (shr .u64 n_1 (mul .i64 q41 8)))]) hs Try.underlying31 ii5 rfl rfl rfl rfl rfl rfl ⟨_, [.int .u8 (cv .u8 (shr .u64 n_1 (mul .i64 q41 8)))], _, rfl, rfl, rfl, rfl⟩ rfl rfl rfl (fun b56 w57 S58 hs le59 hE60 => ?_))
    have f62 : Rd S58 1 (RI .u8) (.slice (some ⟨b56, 0, none⟩) 1 1) ([cv .u8 (shr .u64 n_1 (mul .i64 q41 8))] : List Int) := Rd.of_cells (xs := ([cv .u8 (shr .u64 n_1 (mul .i64 q41 8))] : List Int)) ⟨[.int .u8 (cv .u8 (shr .u64 n_1 (mul .i64 q41 8)))], _, rfl, rfl, one_all ⟨rfl, trivial⟩, rfl, rfl⟩ hE60 (Nat.le_of_ble_eq_true rfl) (Nat.le_of_ble_eq_true rfl)
    obtain ⟨y63, hx64, h51⟩ := bind_s h51
    refine Rg.step rfl (Oq.appendS hs 1 rfl Try.underlying31 ii5 rfl rfl rfl rfl rfl rfl (f45.mono le59) f62 hx64 rfl rfl rfl (fun v65 w66 S67 g68 hs le69 f70 => ?_))
    refine Rg.st rfl rfl ?_
    refine Rg.nil ?_
    refine Cd.go ?_
    refine Cd.region ?_
    refine Rg.mv rfl rfl ?_
    refine Rg.vN (X.sub rfl rfl) rfl ?_
    refine Rg.st rfl rfl ?_
    refine Rg.nil ?_
    exact fun a ha => ⟨(y63, sub .i64 q41 1), [(1, .int .u64 n_1), (7, v65), (8, .int .i64 (sub .i64 q41 1))], (some_s h51).symm, ha.weak ⟨rfl, rfl, rfl, trivial⟩, S67, v65, g68, rfl, (le43.trans (le59.trans le69)), (hs.pick [1] (by decide) rfl), f70⟩
   ·have h51 := ite_f hc54 h51
    refine Cd.exit ?_
    obtain rfl := some_s h51
    have e := hl50 (fun _ e => by cases e)
    exact fun a ha => ⟨[(7, v44)], ha.weak ⟨rfl, trivial⟩, _, _, S42, v44, g46, rfl, e.symm, le43, hs, f45⟩
noncomputable def limelightref1_Put_l0 (n_1 : Int) (q33 : (List Int)) (q34 : Int) : Option (Flow ((List Int) × Int) (List Int)) :=
 if (decide (0 ≤ q34)) = true then (
  gd ((0 : Int) ≤ (cv .u64 (mul .i64 8 q34))) (
   (app 1 q33 ([cv .u8 (shr .u64 n_1 (cv .u64 (mul .i64 8 q34)))] : List Int)).bind fun y56 =>
   some (Flow.next (y56, sub .i64 q34 1))))
 else (
  some (Flow.brk (q33, q34)))
noncomputable def limelightref1_Put (b_0 : (List Int)) (n_1 : Int) (size_2 : Int) : Option (List Int) :=
 (app 1 ([] : List Int) b_0).bind fun y12 =>
 if ((decide (size_2 < 1)) || (decide (8 < size_2))) = true then (
  some y12)
 else (
  (loopF (fun sg => limelightref1_Put_l0 n_1 sg.1 sg.2) (y12, sub .i64 size_2 1)).bind fun fl21 =>
  Flow.el fl21 (fun s64 => (
   none))
  (fun s65 => (
   some s65.1))
  (fun r66 => (
   none)))
def Po53 (S0 : Mp) (w0 : World) (D : List Nat) (r : (List Int)) (v : Value) (w1 : World) : Prop :=
  ∃ (S1 : Mp) (v3 : Value) (g4 : Option Nat), v = v3 ∧ St w0 D S0 S1 [.app g4 v3 r.length 5 1] w1 ∧ Rd S1 1 (RI .u8) v3 r
set_option maxHeartbeats 4000000 in
theorem c53 (S0 : Mp) {w0 : World} (hs : St w0 [] S0 S0 [] w0) (b_0 : (List Int)) (v1 : Value) (f2 : Rd S0 1 (RI .u8) v1 b_0) (n_1 : Int) (size_2 : Int) (r : (List Int)) (h0 : limelightref1_Put b_0 n_1 size_2 = some r) :
    Calls Try.prog 53 #[v1, .int .u64 n_1, .int .i64 size_2] w0 (Re (Po53 S0 w0 [] r)) := by
 unfold limelightref1_Put at h0
 refine calls_of_cd Try.func53 rfl Try.ntmps53 rfl ?_
 refine Cd.sr ?_
 refine Rg.st rfl rfl ?_
 refine Rg.go ?_
 refine Cd.sr ?_
 refine Rg.step rfl (Oq.lit (sz := 1) (cs0 := []) (cells := []) hs Try.underlying31 ii5 rfl rfl rfl rfl rfl rfl rfl rfl rfl rfl (fun b5 w6 S7 hs le8 hE9 => ?_))
 have f11 : Rd S7 1 (RI .u8) (.slice (some ⟨b5, 0, none⟩) 0 0) ([] : List Int) := Rd.of_cells (xs := ([] : List Int)) rfl hE9 (Nat.le_of_ble_eq_true rfl) (Nat.le_of_ble_eq_true rfl)
 refine Rg.mv rfl rfl ?_
 obtain ⟨y12, hx13, h0⟩ := bind_s h0
 refine Rg.step rfl (Oq.appendS hs 0 rfl Try.underlying31 ii5 rfl rfl rfl rfl rfl rfl f11 (f2.mono le8) hx13 rfl rfl rfl (fun v14 w15 S16 g17 hs le18 f19 => ?_))
 refine Rg.st rfl rfl ?_
 refine Rg.go ?_
 refine Cd.seq ?_
 refine Cd.sr ?_
 refine Rg.mv rfl rfl ?_
 refine Rg.vN (X.lss rfl rfl) rfl ?_
 refine Rg.mv rfl rfl ?_
 refine Rg.vF rfl rfl rfl (fun hW => X.move rfl) ?_
 refine Rg.vF rfl rfl rfl (fun hW => X.gtr (ev_g rfl hW) rfl) ?_
 refine Rg.vN (X.pickOr rfl rfl rfl) rfl ?_
 refine Rg.go ?_
 refine Cd.cond (t := (decide (size_2 < 1)) || (decide (8 < size_2))) rfl (fun hc20 => ?_) (fun hc20 => ?_)
 ·have h0 := ite_t hc20 h0
  refine Cd.sr ?_
  refine Rg.mv rfl rfl ?_
  refine Rg.st rfl rfl ?_
  refine Rg.go ?_
  refine Cd.ret ?_
  obtain rfl := some_s h0
  exact fun a ha => Cd.retA (R := Re (Po53 S0 w0 [] _)) ha Try.results53 ⟨_, _, rfl, rfl, rfl⟩ ⟨_, rfl, S16, v14, g17, rfl, hs, f19⟩
 ·have h0 := ite_f hc20 h0
  refine Cd.sg ?_
  refine Cd.seq ?_
  refine Cd.sr ?_
  refine Rg.mv rfl rfl ?_
  refine Rg.vN (X.sub rfl rfl) rfl ?_
  refine Rg.st rfl rfl ?_
  refine Rg.go ?_
  obtain ⟨fl21, hfl22, h0⟩ := bind_s h0
  refine Cd.post (fun K w => ∃ (j23 : (List Int)) (j24 : Int) (S25 : Mp) (v27 : Value) (g29 : Option Nat), K = [(7, v27)] ∧ fl21 = Flow.brk (j23, j24) ∧ Le S16 S25 ∧ St w0 [] S0 S25 [.app g29 v27 j23.length 5 1] w ∧ Rd S25 1 (RI .u8) v27 j23) ?_ ?_
  ·rintro K32 w31 ⟨j23, j24, S25, v27, g29, rfl, rfl, le26, hs, f28⟩
   have h0 := el_brk h0
   try dsimp only at h0
   refine Cd.go ?_
   refine Cd.sr ?_
   refine Rg.mv rfl rfl ?_
   refine Rg.st rfl rfl ?_
   refine Rg.go ?_
   refine Cd.ret ?_
   obtain rfl := some_s h0
   exact fun a ha => Cd.retA (R := Re (Po53 S0 w0 [] _)) ha Try.results53 ⟨_, _, rfl, rfl, rfl⟩ ⟨_, rfl, S25, v27, g29, rfl, hs, f28⟩
  ·skip
   refine Cd.weak [(1, .int .u64 n_1), (7, v14), (8, .int .i64 (sub .i64 size_2 1))] ⟨rfl, rfl, rfl, trivial⟩ ?_
   refine Cd.block (Cd.loop (fun sg => limelightref1_Put_l0 n_1 sg.1 sg.2) (fun (sg : ((List Int) × Int)) K w => ∃ (S35 : Mp) (v37 : Value) (g39 : Option Nat), K = [(1, .int .u64 n_1), (7, v37), (8, .int .i64 sg.2)] ∧ Le S16 S35 ∧ St w0 [] S0 S35 [.app g39 v37 sg.1.length 5 1] w ∧ Rd S35 1 (RI .u8) v37 sg.1) (y12, sub .i64 size_2 1) fl21 hfl22 ⟨S16, v14, g17, rfl, Le.refl _, hs, f19⟩ ?_)
   rintro ⟨q33, q34⟩ fl41 K46 w45 hb42 ⟨S35, v37, g39, rfl, le36, hs, f38⟩ hl43
   have h44 : limelightref1_Put_l0 n_1 q33 q34 = some fl41 := hb42
   unfold limelightref1_Put_l0 at h44
   refine Cd.seq ?_
   refine Cd.sr ?_
   refine Rg.mv rfl rfl ?_
   refine Rg.vN (X.geq rfl rfl) rfl ?_
   refine Rg.go ?_
   refine Cd.cond (t := decide (0 ≤ q34)) rfl (fun hc47 => ?_) (fun hc47 => ?_)
   ·have h44 := ite_t hc47 h44
    refine Cd.sg ?_
    refine Cd.seq ?_
    refine Cd.block ?_
    refine Cd.region ?_
    refine Rg.mv rfl rfl ?_
    refine Rg.weak [(1, .int .u64 n_1), (8, .int .i64 q34), (25, v37)] ⟨rfl, rfl, rfl, trivial⟩ ?_
    refine Rg.mv rfl rfl ?_
    refine Rg.mv rfl rfl ?_
    refine Rg.vN (X.mul rfl rfl) rfl ?_
    refine Rg.vN (X.conv Try.underlying3 Try.underlying42 rfl) rfl ?_
    obtain ⟨hg48, h44⟩ := gd_s h44
    refine Rg.vN (X.shr rfl rfl hg48) rfl ?_
    refine Rg.vN (X.conv Try.underlying30 Try.underlying5 rfl) rfl ?_
    refine Rg.step rfl (Oq.lit (sz := 1) (cs0 := [.int .u8 0]) (cells := [.int .u8 (cv .u8 (shr .u64 n_1 (cv .u64 (mul .i64 8 q34))))]) hs Try.underlying31 ii5 rfl rfl rfl rfl rfl rfl ⟨_, [.int .u8 (cv .u8 (shr .u64 n_1 (cv .u64 (mul .i64 8 q34))))], _, rfl, rfl, rfl, rfl⟩ rfl rfl rfl (fun b49 w50 S51 hs le52 hE53 => ?_))
    have f55 : Rd S51 1 (RI .u8) (.slice (some ⟨b49, 0, none⟩) 1 1) ([cv .u8 (shr .u64 n_1 (cv .u64 (mul .i64 8 q34)))] : List Int) := Rd.of_cells (xs := ([cv .u8 (shr .u64 n_1 (cv .u64 (mul .i64 8 q34)))] : List Int)) ⟨[.int .u8 (cv .u8 (shr .u64 n_1 (cv .u64 (mul .i64 8 q34))))], _, rfl, rfl, one_all ⟨rfl, trivial⟩, rfl, rfl⟩ hE53 (Nat.le_of_ble_eq_true rfl) (Nat.le_of_ble_eq_true rfl)
    obtain ⟨y56, hx57, h44⟩ := bind_s h44
    refine Rg.step rfl (Oq.appendS hs 1 rfl Try.underlying31 ii5 rfl rfl rfl rfl rfl rfl (f38.mono le52) f55 hx57 rfl rfl rfl (fun v58 w59 S60 g61 hs le62 f63 => ?_))
    refine Rg.st rfl rfl ?_
    refine Rg.nil ?_
    refine Cd.go ?_
    refine Cd.region ?_
    refine Rg.mv rfl rfl ?_
    refine Rg.vN (X.sub rfl rfl) rfl ?_
    refine Rg.st rfl rfl ?_
    refine Rg.nil ?_
    exact fun a ha => ⟨(y56, sub .i64 q34 1), [(1, .int .u64 n_1), (7, v58), (8, .int .i64 (sub .i64 q34 1))], (some_s h44).symm, ha.weak ⟨rfl, rfl, rfl, trivial⟩, S60, v58, g61, rfl, (le36.trans (le52.trans le62)), (hs.pick [1] (by decide) rfl), f63⟩
   ·have h44 := ite_f hc47 h44
    refine Cd.exit ?_
    obtain rfl := some_s h44
    have e := hl43 (fun _ e => by cases e)
    exact fun a ha => ⟨[(7, v37)], ha.weak ⟨rfl, trivial⟩, _, _, S35, v37, g39, rfl, e.symm, le36, hs, f38⟩
noncomputable def octet_Cut (b_0 : (List Int)) (at_1 : Int) (n_2 : Int) : Option ((List Int) × Bool) :=
 if ((((decide (at_1 < 0)) || (decide (n_2 < 0))) || (decide ((b_0.length : Int) < at_1))) || (decide ((sub .i64 (b_0.length : Int) at_1) < n_2))) = true then (
  some (([] : List Int), false))
 else (
  (cutL b_0 at_1 (add .i64 at_1 n_2)).bind fun y10 =>
  (slices_Clone_byte y10).bind fun x14 =>
  some (x14, true))
def Po71 (S0 : Mp) (w0 : World) (D : List Nat) (r : ((List Int) × Bool)) (v : Value) (w1 : World) : Prop :=
  ∃ (S1 : Mp) (v3 : Value) (g4 : Option Nat), v = .tuple #[v3, .bool r.2] ∧ St w0 D S0 S1 [.app g4 v3 r.1.length 5 1] w1 ∧ Rd S1 1 (RI .u8) v3 r.1
set_option maxHeartbeats 4000000 in
theorem c71 (S0 : Mp) {w0 : World} (hs : St w0 [] S0 S0 [] w0) (b_0 : (List Int)) (v1 : Value) (f2 : Rd S0 1 (RI .u8) v1 b_0) (at_1 : Int) (n_2 : Int) (r : ((List Int) × Bool)) (h0 : octet_Cut b_0 at_1 n_2 = some r) :
    Calls Try.prog 71 #[v1, .int .i64 at_1, .int .i64 n_2] w0 (Re (Po71 S0 w0 [] r)) := by
 unfold octet_Cut at h0
 refine calls_of_cd Try.func71 rfl Try.ntmps71 rfl ?_
 refine Cd.sr ?_
 refine Rg.st rfl rfl ?_
 refine Rg.st rfl rfl ?_
 refine Rg.go ?_
 refine Cd.seq ?_
 refine Cd.sr ?_
 refine Rg.mv rfl rfl ?_
 refine Rg.vN (X.lss rfl rfl) rfl ?_
 refine Rg.mv rfl rfl ?_
 refine Rg.vF rfl rfl rfl (fun hW => X.move rfl) ?_
 refine Rg.vF rfl rfl rfl (fun hW => X.lss (ev_g rfl hW) rfl) ?_
 refine Rg.vN (X.pickOr rfl rfl rfl) rfl ?_
 refine Rg.mv rfl rfl ?_
 refine Rg.vF rfl rfl rfl (fun hW => X.move rfl) ?_
 refine Rg.vF rfl rfl rfl (fun hW => X.move rfl) ?_
 refine Rg.vF rfl rfl rfl (fun hW => X.lenR Try.underlying31 (ev_g rfl hW) f2) ?_
 refine Rg.vF rfl rfl rfl (fun hW => X.gtr (ev_g rfl hW) (ev_g rfl hW)) ?_
 refine Rg.vN (X.pickOr rfl rfl rfl) rfl ?_
 refine Rg.mv rfl rfl ?_
 refine Rg.weak [(0, v1), (1, .int .i64 at_1), (2, .int .i64 n_2), (20, .bool (((decide (at_1 < 0)) || (decide (n_2 < 0))) || (decide ((b_0.length : Int) < at_1))))] ⟨rfl, rfl, rfl, rfl, trivial⟩ ?_
 refine Rg.vF rfl rfl rfl (fun hW => X.move rfl) ?_
 refine Rg.vF rfl rfl rfl (fun hW => X.move rfl) ?_
 refine Rg.vF rfl rfl rfl (fun hW => X.lenR Try.underlying31 (ev_g rfl hW) f2) ?_
 refine Rg.vF rfl rfl rfl (fun hW => X.move rfl) ?_
 refine Rg.vF rfl rfl rfl (fun hW => X.sub (ev_g rfl hW) (ev_g rfl hW)) ?_
 refine Rg.vF rfl rfl rfl (fun hW => X.gtr (ev_g rfl hW) (ev_g rfl hW)) ?_
 refine Rg.vN (X.pickOr rfl rfl rfl) rfl ?_
 refine Rg.go ?_
 refine Cd.cond (t := (((decide (at_1 < 0)) || (decide (n_2 < 0))) || (decide ((b_0.length : Int) < at_1))) || (decide ((sub .i64 (b_0.length : Int) at_1) < n_2))) rfl (fun hc5 => ?_) (fun hc5 => ?_)
 ·have h0 := ite_t hc5 h0
  refine Cd.sr ?_
  refine Rg.st rfl rfl ?_
  refine Rg.st rfl rfl ?_
  refine Rg.go ?_
  refine Cd.ret ?_
  have hs := hs.nil 5 1
  obtain rfl := some_s h0
  exact fun a ha => Cd.retA (R := Re (Po71 S0 w0 [] _)) ha Try.results71 ⟨_, _, rfl, rfl, ⟨_, _, rfl, rfl, rfl⟩⟩ ⟨_, rfl, S0, (.slice none 0 0), none, rfl, hs, (Rd.nil _ _ _)⟩
 ·have h0 := ite_f hc5 h0
  refine Cd.sg ?_
  refine Cd.sr ?_
  refine Rg.mv rfl rfl ?_
  refine Rg.mv rfl rfl ?_
  refine Rg.mv rfl rfl ?_
  refine Rg.mv rfl rfl ?_
  refine Rg.weak [(28, v1), (29, .int .i64 at_1), (30, .int .i64 at_1), (31, .int .i64 n_2)] ⟨rfl, rfl, rfl, rfl, trivial⟩ ?_
  refine Rg.vN (X.add rfl rfl) rfl ?_
  obtain ⟨y10, hx11, h0⟩ := bind_s h0
  obtain ⟨hb12, he13⟩ := cutL_s hx11
  obtain ⟨v7, f8, hX9⟩ := mk_sliceLH Try.underlying31 zz5 f2 hb12
  rw [he13] at f8
  refine Rg.vN (hX9 rfl rfl rfl) rfl ?_
  obtain ⟨x14, hx15, h0⟩ := bind_s h0
  refine Rg.step rfl (Oq.call Try.call59 rfl rfl (c59 S0 (St.start _ _ hs.has) _ _ f8 _ hx15) (fun v16 w17 h18 => ?_))
  obtain ⟨S19, v22, g24, rfl, hs20, f23⟩ := h18
  have le21 := hs20.le
  have hs := hs.call0 hs20
  refine Rg.st rfl rfl ?_
  refine Rg.st rfl rfl ?_
  refine Rg.go ?_
  refine Cd.ret ?_
  obtain rfl := some_s h0
  exact fun a ha => Cd.retA (R := Re (Po71 S0 w0 [] _)) ha Try.results71 ⟨_, _, rfl, rfl, ⟨_, _, rfl, rfl, rfl⟩⟩ ⟨_, rfl, S19, v16, g24, rfl, hs, f23⟩
noncomputable def octet_Get_l0 (x3 : ((List Int) × Bool)) (q24 : Int) (q25 : Int) : Option (Flow (Int × Int) (Int × Bool)) :=
 if (decide (q25 < (x3.1.length : Int))) = true then (
  (ix x3.1 q25).bind fun x35 =>
  some (Flow.next (bor .u64 (shl .u64 q24 8) (cv .u64 x35), add .i64 q25 1)))
 else (
  some (Flow.brk (q24, q25)))
noncomputable def octet_Get (b_0 : (List Int)) (at_1 : Int) (size_2 : Int) : Option (Int × Bool) :=
 (octet_Cut b_0 at_1 size_2).bind fun x3 =>
 if (((!x3.2) || (decide (size_2 < 1))) || (decide (8 < size_2))) = true then (
  some (0, false))
 else (
  (loopF (fun sg => octet_Get_l0 x3 sg.1 sg.2) (0, 0)).bind fun fl16 =>
  Flow.el fl16 (fun s42 => (
   none))
  (fun s43 => (
   some (s43.1, true)))
  (fun r44 => (
   none)))
def Po60 (S0 : Mp) (w0 : World) (D : List Nat) (r : (Int × Bool)) (v : Value) (w1 : World) : Prop :=
  ∃ (S1 : Mp), v = .tuple #[.int .u64 r.1, .bool r.2] ∧ St w0 D S0 S1 [] w1
set_option maxHeartbeats 4000000 in
theorem c60 (S0 : Mp) {w0 : World} (hs : St w0 [] S0 S0 [] w0) (b_0 : (List Int)) (v1 : Value) (f2 : Rd S0 1 (RI .u8) v1 b_0) (at_1 : Int) (size_2 : Int) (r : (Int × Bool)) (h0 : octet_Get b_0 at_1 size_2 = some r) :
    Calls Try.prog 60 #[v1, .int .i64 at_1, .int .i64 size_2] w0 (Re (Po60 S0 w0 [] r)) := by
 unfold octet_Get at h0
 refine calls_of_cd Try.func60 rfl Try.ntmps60 rfl ?_
 refine Cd.sr ?_
 refine Rg.st rfl rfl ?_
 refine Rg.st rfl rfl ?_
 refine Rg.go ?_
 refine Cd.sr ?_
 refine Rg.mv rfl rfl ?_
 refine Rg.mv rfl rfl ?_
 refine Rg.mv rfl rfl ?_
 obtain ⟨x3, hx4, h0⟩ := bind_s h0
 refine Rg.step rfl (Oq.call Try.call71 rfl rfl (c71 S0 (St.start _ _ hs.has) _ _ f2 _ _ _ hx4) (fun v5 w6 h7 => ?_))
 obtain ⟨S8, v11, g13, rfl, hs9, f12⟩ := h7
 have le10 := hs9.le
 have hs := hs.call0 hs9
 refine Rg.mv rfl rfl ?_
 refine Rg.vN (X.extract rfl rfl) rfl ?_
 refine Rg.vN (X.extract rfl rfl) rfl ?_
 refine Rg.st rfl rfl ?_
 refine Rg.st rfl rfl ?_
 refine Rg.go ?_
 refine Cd.seq ?_
 refine Cd.sr ?_
 refine Rg.mv rfl rfl ?_
 refine Rg.vN (X.not rfl) rfl ?_
 refine Rg.mv rfl rfl ?_
 refine Rg.vF rfl rfl rfl (fun hW => X.move rfl) ?_
 refine Rg.vF rfl rfl rfl (fun hW => X.lss (ev_g rfl hW) rfl) ?_
 refine Rg.weak [(2, .int .i64 size_2), (8, v11), (22, .bool (!x3.2)), (24, gv (!(!x3.2)) (.bool (decide (size_2 < 1))))] ⟨rfl, rfl, rfl, rfl, trivial⟩ ?_
 refine Rg.vN (X.pickOr rfl rfl rfl) rfl ?_
 refine Rg.mv rfl rfl ?_
 refine Rg.vF rfl rfl rfl (fun hW => X.move rfl) ?_
 refine Rg.vF rfl rfl rfl (fun hW => X.gtr (ev_g rfl hW) rfl) ?_
 refine Rg.vN (X.pickOr rfl rfl rfl) rfl ?_
 refine Rg.go ?_
 refine Cd.cond (t := ((!x3.2) || (decide (size_2 < 1))) || (decide (8 < size_2))) rfl (fun hc15 => ?_) (fun hc15 => ?_)
 ·have h0 := ite_t hc15 h0
  refine Cd.sr ?_
  refine Rg.st rfl rfl ?_
  refine Rg.st rfl rfl ?_
  refine Rg.go ?_
  refine Cd.ret ?_
  obtain rfl := some_s h0
  exact fun a ha => Cd.retA (R := Re (Po60 S0 w0 [] _)) ha Try.results60 ⟨_, _, rfl, rfl, ⟨_, _, rfl, rfl, rfl⟩⟩ ⟨_, rfl, S8, rfl, (hs.pick [] (by decide) rfl)⟩
 ·have h0 := ite_f hc15 h0
  refine Cd.sg ?_
  refine Cd.sr ?_
  refine Rg.st rfl rfl ?_
  refine Rg.go ?_
  refine Cd.seq ?_
  refine Cd.sr ?_
  refine Rg.mv rfl rfl ?_
  refine Rg.vN (X.lenR Try.underlying31 rfl f12) rfl ?_
  refine Rg.mv rfl rfl ?_
  refine Rg.go ?_
  obtain ⟨fl16, hfl17, h0⟩ := bind_s h0
  refine Cd.post (fun K w => ∃ (j18 : Int) (j19 : Int) (S20 : Mp), K = [(10, .int .u64 j18)] ∧ fl16 = Flow.brk (j18, j19) ∧ Le S8 S20 ∧ St w0 [] S0 S20 [] w) ?_ ?_
  ·rintro K23 w22 ⟨j18, j19, S20, rfl, rfl, le21, hs⟩
   have h0 := el_brk h0
   try dsimp only at h0
   refine Cd.go ?_
   refine Cd.sr ?_
   refine Rg.mv rfl rfl ?_
   refine Rg.st rfl rfl ?_
   refine Rg.st rfl rfl ?_
   refine Rg.go ?_
   refine Cd.weak [(6, .int .u64 j18), (7, .bool true)] ⟨rfl, rfl, trivial⟩ ?_
   refine Cd.ret ?_
   obtain rfl := some_s h0
   exact fun a ha => Cd.retA (R := Re (Po60 S0 w0 [] _)) ha Try.results60 ⟨_, _, rfl, rfl, ⟨_, _, rfl, rfl, rfl⟩⟩ ⟨_, rfl, S20, rfl, hs⟩
  ·skip
   refine Cd.weak [(10, .int .u64 0), (30, v11), (31, .int .i64 (x3.1.length : Int)), (32, .int .i64 0)] ⟨rfl, rfl, rfl, rfl, trivial⟩ ?_
   refine Cd.block (Cd.loop (fun sg => octet_Get_l0 x3 sg.1 sg.2) (fun (sg : (Int × Int)) K w => ∃ (S26 : Mp), K = [(10, .int .u64 sg.1), (30, v11), (31, .int .i64 (x3.1.length : Int)), (32, .int .i64 sg.2)] ∧ Le S8 S26 ∧ St w0 [] S0 S26 [.app g13 v11 x3.1.length 5 1] w) (0, 0) fl16 hfl17 ⟨S8, rfl, Le.refl _, hs⟩ ?_)
   rintro ⟨q24, q25⟩ fl28 K33 w32 hb29 ⟨S26, rfl, le27, hs⟩ hl30
   have h31 : octet_Get_l0 x3 q24 q25 = some fl28 := hb29
   unfold octet_Get_l0 at h31
   refine Cd.sr ?_
   refine Rg.vN (X.lss rfl rfl) rfl ?_
   refine Rg.go ?_
   refine Cd.seq ?_
   refine Cd.cond (t := decide (q25 < (x3.1.length : Int))) rfl (fun hc34 => ?_) (fun hc34 => ?_)
   ·have h31 := ite_t hc34 h31
    refine Cd.sg ?_
    refine Cd.seq ?_
    refine Cd.block ?_
    refine Cd.sr ?_
    obtain ⟨x35, hx36, h31⟩ := bind_s h31
    obtain ⟨ad37, vals38, _, hR39, hE40, hX41⟩ := mk_index Try.underlying31 zz5 (by decide) (f12.mono le27) hx36
    obtain rfl : vals38 = [.int .u8 x35] := hR39
    refine Rg.vN (hX41 rfl rfl) rfl ?_
    refine Rg.weak [(10, .int .u64 q24), (30, v11), (31, .int .i64 (x3.1.length : Int)), (32, .int .i64 q25), (34, .pointer (some ad37))] ⟨rfl, rfl, rfl, rfl, rfl, trivial⟩ ?_
    refine Rg.vN (X.load1 Try.underlying5 rfl rfl (hE40.at0 rfl hs.has)) rfl ?_
    refine Rg.st rfl rfl ?_
    refine Rg.go ?_
    refine Cd.region ?_
    refine Rg.mv rfl rfl ?_
    refine Rg.vN (X.shl rfl rfl (by decide)) rfl ?_
    refine Rg.mv rfl rfl ?_
    refine Rg.vN (X.conv Try.underlying5 Try.underlying30 rfl) rfl ?_
    refine Rg.vN (X.or rfl rfl) rfl ?_
    refine Rg.st rfl rfl ?_
    refine Rg.nil ?_
    refine Cd.go ?_
    refine Cd.region ?_
    refine Rg.vN (X.add rfl rfl) rfl ?_
    refine Rg.mv rfl rfl ?_
    refine Rg.nil ?_
    exact fun a ha => ⟨(bor .u64 (shl .u64 q24 8) (cv .u64 x35), add .i64 q25 1), [(10, .int .u64 (bor .u64 (shl .u64 q24 8) (cv .u64 x35))), (30, v11), (31, .int .i64 (x3.1.length : Int)), (32, .int .i64 (add .i64 q25 1))], (some_s h31).symm, ha.weak ⟨rfl, rfl, rfl, rfl, trivial⟩, S26, rfl, le27, hs⟩
   ·have h31 := ite_f hc34 h31
    refine Cd.exit ?_
    obtain rfl := some_s h31
    have e := hl30 (fun _ e => by cases e)
    exact fun a ha => ⟨[(10, .int .u64 q24)], ha.weak ⟨rfl, trivial⟩, _, _, S26, rfl, e.symm, le27, (hs.pick [] (by decide) rfl)⟩
noncomputable def limelightref1_Get_l0 (b_0 : (List Int)) (at_1 : Int) (size_2 : Int) (q12 : Int) (q13 : Int) : Option (Flow (Int × Int) (Int × Bool)) :=
 if (decide (q13 < size_2)) = true then (
  (ix b_0 (add .i64 at_1 q13)).bind fun x23 =>
  some (Flow.next (bor .u64 (shl .u64 q12 8) (cv .u64 x23), add .i64 q13 1)))
 else (
  some (Flow.brk (q12, q13)))
noncomputable def limelightref1_Get (b_0 : (List Int)) (at_1 : Int) (size_2 : Int) : Option (Int × Bool) :=
 if (((((decide (size_2 < 1)) || (decide (8 < size_2))) || (decide (at_1 < 0))) || (decide ((b_0.length : Int) < at_1))) || (decide ((sub .i64 (b_0.length : Int) at_1) < size_2))) = true then (
  some (0, false))
 else (
  (loopF (fun sg => limelightref1_Get_l0 b_0 at_1 size_2 sg.1 sg.2) (0, 0)).bind fun fl4 =>
  Flow.el fl4 (fun s30 => (
   none))
  (fun s31 => (
   some (s31.1, true)))
  (fun r32 => (
   none)))
def Po54 (S0 : Mp) (w0 : World) (D : List Nat) (r : (Int × Bool)) (v : Value) (w1 : World) : Prop :=
  ∃ (S1 : Mp), v = .tuple #[.int .u64 r.1, .bool r.2] ∧ St w0 D S0 S1 [] w1
set_option maxHeartbeats 4000000 in
theorem c54 (S0 : Mp) {w0 : World} (hs : St w0 [] S0 S0 [] w0) (b_0 : (List Int)) (v1 : Value) (f2 : Rd S0 1 (RI .u8) v1 b_0) (at_1 : Int) (size_2 : Int) (r : (Int × Bool)) (h0 : limelightref1_Get b_0 at_1 size_2 = some r) :
    Calls Try.prog 54 #[v1, .int .i64 at_1, .int .i64 size_2] w0 (Re (Po54 S0 w0 [] r)) := by
 unfold limelightref1_Get at h0
 refine calls_of_cd Try.func54 rfl Try.ntmps54 rfl ?_
 refine Cd.sr ?_
 refine Rg.st rfl rfl ?_
 refine Rg.st rfl rfl ?_
 refine Rg.go ?_
 refine Cd.seq ?_
 refine Cd.sr ?_
 refine Rg.mv rfl rfl ?_
 refine Rg.vN (X.lss rfl rfl) rfl ?_
 refine Rg.mv rfl rfl ?_
 refine Rg.vF rfl rfl rfl (fun hW => X.move rfl) ?_
 refine Rg.vF rfl rfl rfl (fun hW => X.gtr (ev_g rfl hW) rfl) ?_
 refine Rg.vN (X.pickOr rfl rfl rfl) rfl ?_
 refine Rg.mv rfl rfl ?_
 refine Rg.vF rfl rfl rfl (fun hW => X.move rfl) ?_
 refine Rg.vF rfl rfl rfl (fun hW => X.lss (ev_g rfl hW) rfl) ?_
 refine Rg.vN (X.pickOr rfl rfl rfl) rfl ?_
 refine Rg.mv rfl rfl ?_
 refine Rg.vF rfl rfl rfl (fun hW => X.move rfl) ?_
 refine Rg.vF rfl rfl rfl (fun hW => X.move rfl) ?_
 refine Rg.weak [(0, v1), (1, .int .i64 at_1), (2, .int .i64 size_2), (20, .bool (((decide (size_2 < 1)) || (decide (8 < size_2))) || (decide (at_1 < 0)))), (21, gv (!(((decide (size_2 < 1)) || (decide (8 < size_2))) || (decide (at_1 < 0)))) (.int .i64 at_1)), (22, gv (!(((decide (size_2 < 1)) || (decide (8 < size_2))) || (decide (at_1 < 0)))) (v1))] ⟨rfl, rfl, rfl, rfl, rfl, rfl, trivial⟩ ?_
 refine Rg.vF rfl rfl rfl (fun hW => X.lenR Try.underlying31 (ev_g rfl hW) f2) ?_
 refine Rg.vF rfl rfl rfl (fun hW => X.gtr (ev_g rfl hW) (ev_g rfl hW)) ?_
 refine Rg.vN (X.pickOr rfl rfl rfl) rfl ?_
 refine Rg.mv rfl rfl ?_
 refine Rg.vF rfl rfl rfl (fun hW => X.move rfl) ?_
 refine Rg.vF rfl rfl rfl (fun hW => X.move rfl) ?_
 refine Rg.vF rfl rfl rfl (fun hW => X.lenR Try.underlying31 (ev_g rfl hW) f2) ?_
 refine Rg.vF rfl rfl rfl (fun hW => X.move rfl) ?_
 refine Rg.vF rfl rfl rfl (fun hW => X.sub (ev_g rfl hW) (ev_g rfl hW)) ?_
 refine Rg.weak [(0, v1), (1, .int .i64 at_1), (2, .int .i64 size_2), (26, .bool ((((decide (size_2 < 1)) || (decide (8 < size_2))) || (decide (at_1 < 0))) || (decide ((b_0.length : Int) < at_1)))), (27, gv (!((((decide (size_2 < 1)) || (decide (8 < size_2))) || (decide (at_1 < 0))) || (decide ((b_0.length : Int) < at_1)))) (.int .i64 size_2)), (31, gv (!((((decide (size_2 < 1)) || (decide (8 < size_2))) || (decide (at_1 < 0))) || (decide ((b_0.length : Int) < at_1)))) (.int .i64 (sub .i64 (b_0.length : Int) at_1)))] ⟨rfl, rfl, rfl, rfl, rfl, rfl, trivial⟩ ?_
 refine Rg.vF rfl rfl rfl (fun hW => X.gtr (ev_g rfl hW) (ev_g rfl hW)) ?_
 refine Rg.vN (X.pickOr rfl rfl rfl) rfl ?_
 refine Rg.go ?_
 refine Cd.cond (t := ((((decide (size_2 < 1)) || (decide (8 < size_2))) || (decide (at_1 < 0))) || (decide ((b_0.length : Int) < at_1))) || (decide ((sub .i64 (b_0.length : Int) at_1) < size_2))) rfl (fun hc3 => ?_) (fun hc3 => ?_)
 ·have h0 := ite_t hc3 h0
  refine Cd.sr ?_
  refine Rg.st rfl rfl ?_
  refine Rg.st rfl rfl ?_
  refine Rg.go ?_
  refine Cd.ret ?_
  obtain rfl := some_s h0
  exact fun a ha => Cd.retA (R := Re (Po54 S0 w0 [] _)) ha Try.results54 ⟨_, _, rfl, rfl, ⟨_, _, rfl, rfl, rfl⟩⟩ ⟨_, rfl, S0, rfl, hs⟩
 ·have h0 := ite_f hc3 h0
  refine Cd.sg ?_
  refine Cd.sr ?_
  refine Rg.st rfl rfl ?_
  refine Rg.go ?_
  refine Cd.seq ?_
  refine Cd.sr ?_
  refine Rg.st rfl rfl ?_
  refine Rg.go ?_
  obtain ⟨fl4, hfl5, h0⟩ := bind_s h0
  refine Cd.post (fun K w => ∃ (j6 : Int) (j7 : Int) (S8 : Mp), K = [(8, .int .u64 j6)] ∧ fl4 = Flow.brk (j6, j7) ∧ Le S0 S8 ∧ St w0 [] S0 S8 [] w) ?_ ?_
  ·rintro K11 w10 ⟨j6, j7, S8, rfl, rfl, le9, hs⟩
   have h0 := el_brk h0
   try dsimp only at h0
   refine Cd.go ?_
   refine Cd.sr ?_
   refine Rg.mv rfl rfl ?_
   refine Rg.st rfl rfl ?_
   refine Rg.st rfl rfl ?_
   refine Rg.go ?_
   refine Cd.ret ?_
   obtain rfl := some_s h0
   exact fun a ha => Cd.retA (R := Re (Po54 S0 w0 [] _)) ha Try.results54 ⟨_, _, rfl, rfl, ⟨_, _, rfl, rfl, rfl⟩⟩ ⟨_, rfl, S8, rfl, hs⟩
  ·skip
   refine Cd.weak [(0, v1), (1, .int .i64 at_1), (2, .int .i64 size_2), (8, .int .u64 0), (9, .int .i64 0)] ⟨rfl, rfl, rfl, rfl, rfl, trivial⟩ ?_
   refine Cd.block (Cd.loop (fun sg => limelightref1_Get_l0 b_0 at_1 size_2 sg.1 sg.2) (fun (sg : (Int × Int)) K w => ∃ (S14 : Mp), K = [(0, v1), (1, .int .i64 at_1), (2, .int .i64 size_2), (8, .int .u64 sg.1), (9, .int .i64 sg.2)] ∧ Le S0 S14 ∧ St w0 [] S0 S14 [] w) (0, 0) fl4 hfl5 ⟨S0, rfl, Le.refl _, hs⟩ ?_)
   rintro ⟨q12, q13⟩ fl16 K21 w20 hb17 ⟨S14, rfl, le15, hs⟩ hl18
   have h19 : limelightref1_Get_l0 b_0 at_1 size_2 q12 q13 = some fl16 := hb17
   unfold limelightref1_Get_l0 at h19
   refine Cd.seq ?_
   refine Cd.sr ?_
   refine Rg.mv rfl rfl ?_
   refine Rg.mv rfl rfl ?_
   refine Rg.vN (X.lss rfl rfl) rfl ?_
   refine Rg.go ?_
   refine Cd.cond (t := decide (q13 < size_2)) rfl (fun hc22 => ?_) (fun hc22 => ?_)
   ·have h19 := ite_t hc22 h19
    refine Cd.sg ?_
    refine Cd.seq ?_
    refine Cd.block ?_
    refine Cd.region ?_
    refine Rg.mv rfl rfl ?_
    refine Rg.vN (X.shl rfl rfl (by decide)) rfl ?_
    refine Rg.weak [(0, v1), (1, .int .i64 at_1), (2, .int .i64 size_2), (9, .int .i64 q13), (40, .int .u64 (shl .u64 q12 8))] ⟨rfl, rfl, rfl, rfl, rfl, trivial⟩ ?_
    refine Rg.mv rfl rfl ?_
    refine Rg.mv rfl rfl ?_
    refine Rg.mv rfl rfl ?_
    refine Rg.vN (X.add rfl rfl) rfl ?_
    obtain ⟨x23, hx24, h19⟩ := bind_s h19
    obtain ⟨ad25, vals26, _, hR27, hE28, hX29⟩ := mk_index Try.underlying31 zz5 (by decide) (f2.mono le15) hx24
    obtain rfl : vals26 = [.int .u8 x23] := hR27
    refine Rg.vN (hX29 rfl rfl) rfl ?_
    refine Rg.vN (X.load1 Try.underlying5 rfl rfl (hE28.at0 rfl hs.has)) rfl ?_
    refine Rg.vN (X.conv Try.underlying5 Try.underlying30 rfl) rfl ?_
    refine Rg.vN (X.or rfl rfl) rfl ?_
    refine Rg.st rfl rfl ?_
    refine Rg.nil ?_
    refine Cd.go ?_
    refine Cd.region ?_
    refine Rg.mv rfl rfl ?_
    refine Rg.weak [(0, v1), (1, .int .i64 at_1), (2, .int .i64 size_2), (8, .int .u64 (bor .u64 (shl .u64 q12 8) (cv .u64 x23))), (37, .int .i64 q13)] ⟨rfl, rfl, rfl, rfl, rfl, trivial⟩ ?_
    refine Rg.vN (X.add rfl rfl) rfl ?_
    refine Rg.st rfl rfl ?_
    refine Rg.nil ?_
    exact fun a ha => ⟨(bor .u64 (shl .u64 q12 8) (cv .u64 x23), add .i64 q13 1), [(0, v1), (1, .int .i64 at_1), (2, .int .i64 size_2), (8, .int .u64 (bor .u64 (shl .u64 q12 8) (cv .u64 x23))), (9, .int .i64 (add .i64 q13 1))], (some_s h19).symm, ha.weak ⟨rfl, rfl, rfl, rfl, rfl, trivial⟩, S14, rfl, le15, hs⟩
   ·have h19 := ite_f hc22 h19
    refine Cd.exit ?_
    obtain rfl := some_s h19
    have e := hl18 (fun _ e => by cases e)
    exact fun a ha => ⟨[(8, .int .u64 q12)], ha.weak ⟨rfl, trivial⟩, _, _, S14, rfl, e.symm, le15, hs⟩
noncomputable def limelightref1_Cut (b_0 : (List Int)) (at_1 : Int) (n_2 : Int) : Option ((List Int) × Bool) :=
 if ((((decide (at_1 < 0)) || (decide (n_2 < 0))) || (decide ((b_0.length : Int) < at_1))) || (decide ((sub .i64 (b_0.length : Int) at_1) < n_2))) = true then (
  some (([] : List Int), false))
 else (
  (cutL b_0 at_1 (add .i64 at_1 n_2)).bind fun y17 =>
  (app 1 ([] : List Int) y17).bind fun y21 =>
  some (y21, true))
def Po55 (S0 : Mp) (w0 : World) (D : List Nat) (r : ((List Int) × Bool)) (v : Value) (w1 : World) : Prop :=
  ∃ (S1 : Mp) (v3 : Value) (g4 : Option Nat), v = .tuple #[v3, .bool r.2] ∧ St w0 D S0 S1 [.app g4 v3 r.1.length 5 1] w1 ∧ Rd S1 1 (RI .u8) v3 r.1
set_option maxHeartbeats 4000000 in
theorem c55 (S0 : Mp) {w0 : World} (hs : St w0 [] S0 S0 [] w0) (b_0 : (List Int)) (v1 : Value) (f2 : Rd S0 1 (RI .u8) v1 b_0) (at_1 : Int) (n_2 : Int) (r : ((List Int) × Bool)) (h0 : limelightref1_Cut b_0 at_1 n_2 = some r) :
    Calls Try.prog 55 #[v1, .int .i64 at_1, .int .i64 n_2] w0 (Re (Po55 S0 w0 [] r)) := by
 unfold limelightref1_Cut at h0
 refine calls_of_cd Try.func55 rfl Try.ntmps55 rfl ?_
 refine Cd.sr ?_
 refine Rg.st rfl rfl ?_
 refine Rg.st rfl rfl ?_
 refine Rg.go ?_
 refine Cd.seq ?_
 refine Cd.sr ?_
 refine Rg.mv rfl rfl ?_
 refine Rg.vN (X.lss rfl rfl) rfl ?_
 refine Rg.mv rfl rfl ?_
 refine Rg.vF rfl rfl rfl (fun hW => X.move rfl) ?_
 refine Rg.vF rfl rfl rfl (fun hW => X.lss (ev_g rfl hW) rfl) ?_
 refine Rg.vN (X.pickOr rfl rfl rfl) rfl ?_
 refine Rg.mv rfl rfl ?_
 refine Rg.vF rfl rfl rfl (fun hW => X.move rfl) ?_
 refine Rg.vF rfl rfl rfl (fun hW => X.move rfl) ?_
 refine Rg.vF rfl rfl rfl (fun hW => X.lenR Try.underlying31 (ev_g rfl hW) f2) ?_
 refine Rg.vF rfl rfl rfl (fun hW => X.gtr (ev_g rfl hW) (ev_g rfl hW)) ?_
 refine Rg.vN (X.pickOr rfl rfl rfl) rfl ?_
 refine Rg.mv rfl rfl ?_
 refine Rg.weak [(0, v1), (1, .int .i64 at_1), (2, .int .i64 n_2), (20, .bool (((decide (at_1 < 0)) || (decide (n_2 < 0))) || (decide ((b_0.length : Int) < at_1))))] ⟨rfl, rfl, rfl, rfl, trivial⟩ ?_
 refine Rg.vF rfl rfl rfl (fun hW => X.move rfl) ?_
 refine Rg.vF rfl rfl rfl (fun hW => X.move rfl) ?_
 refine Rg.vF rfl rfl rfl (fun hW => X.lenR Try.underlying31 (ev_g rfl hW) f2) ?_
 refine Rg.vF rfl rfl rfl (fun hW => X.move rfl) ?_
 refine Rg.vF rfl rfl rfl (fun hW => X.sub (ev_g rfl hW) (ev_g rfl hW)) ?_
 refine Rg.vF rfl rfl rfl (fun hW => X.gtr (ev_g rfl hW) (ev_g rfl hW)) ?_
 refine Rg.vN (X.pickOr rfl rfl rfl) rfl ?_
 refine Rg.go ?_
 refine Cd.cond (t := (((decide (at_1 < 0)) || (decide (n_2 < 0))) || (decide ((b_0.length : Int) < at_1))) || (decide ((sub .i64 (b_0.length : Int) at_1) < n_2))) rfl (fun hc5 => ?_) (fun hc5 => ?_)
 ·have h0 := ite_t hc5 h0
  refine Cd.sr ?_
  refine Rg.st rfl rfl ?_
  refine Rg.st rfl rfl ?_
  refine Rg.go ?_
  refine Cd.ret ?_
  have hs := hs.nil 5 1
  obtain rfl := some_s h0
  exact fun a ha => Cd.retA (R := Re (Po55 S0 w0 [] _)) ha Try.results55 ⟨_, _, rfl, rfl, ⟨_, _, rfl, rfl, rfl⟩⟩ ⟨_, rfl, S0, (.slice none 0 0), none, rfl, hs, (Rd.nil _ _ _)⟩
 ·have h0 := ite_f hc5 h0
  refine Cd.sg ?_
  refine Cd.sr ?_
  refine Rg.step rfl (Oq.lit (sz := 1) (cs0 := []) (cells := []) hs Try.underlying31 ii5 rfl rfl rfl rfl rfl rfl rfl rfl rfl rfl (fun b7 w8 S9 hs le10 hE11 => ?_))
  have f13 : Rd S9 1 (RI .u8) (.slice (some ⟨b7, 0, none⟩) 0 0) ([] : List Int) := Rd.of_cells (xs := ([] : List Int)) rfl hE11 (Nat.le_of_ble_eq_true rfl) (Nat.le_of_ble_eq_true rfl)
  refine Rg.mv rfl rfl ?_
  refine Rg.mv rfl rfl ?_
  refine Rg.mv rfl rfl ?_
  refine Rg.mv rfl rfl ?_
  refine Rg.weak [(28, .slice (some ⟨b7, 0, none⟩) 0 0), (29, v1), (30, .int .i64 at_1), (31, .int .i64 at_1), (32, .int .i64 n_2)] ⟨rfl, rfl, rfl, rfl, rfl, trivial⟩ ?_
  refine Rg.vN (X.add rfl rfl) rfl ?_
  obtain ⟨y17, hx18, h0⟩ := bind_s h0
  obtain ⟨hb19, he20⟩ := cutL_s hx18
  obtain ⟨v14, f15, hX16⟩ := mk_sliceLH Try.underlying31 zz5 (f2.mono le10) hb19
  rw [he20] at f15
  refine Rg.vN (hX16 rfl rfl rfl) rfl ?_
  obtain ⟨y21, hx22, h0⟩ := bind_s h0
  refine Rg.step rfl (Oq.appendS hs 0 rfl Try.underlying31 ii5 rfl rfl rfl rfl rfl rfl f13 f15 hx22 rfl rfl rfl (fun v23 w24 S25 g26 hs le27 f28 => ?_))
  refine Rg.st rfl rfl ?_
  refine Rg.st rfl rfl ?_
  refine Rg.go ?_
  refine Cd.ret ?_
  obtain rfl := some_s h0
  exact fun a ha => Cd.retA (R := Re (Po55 S0 w0 [] _)) ha Try.results55 ⟨_, _, rfl, rfl, ⟨_, _, rfl, rfl, rfl⟩⟩ ⟨_, rfl, S25, v23, g26, rfl, hs, f28⟩
noncomputable def rate_may (bits_0 : Int) : Option Bool :=
 some ((decide (1 ≤ bits_0)) && (decide (bits_0 ≤ 24)))
def Po80 (S0 : Mp) (w0 : World) (D : List Nat) (r : Bool) (v : Value) (w1 : World) : Prop :=
  ∃ (S1 : Mp), v = .bool r ∧ St w0 D S0 S1 [] w1
set_option maxHeartbeats 4000000 in
theorem c80 (S0 : Mp) {w0 : World} (hs : St w0 [] S0 S0 [] w0) (bits_0 : Int) (r : Bool) (h0 : rate_may bits_0 = some r) :
    Calls Try.prog 80 #[.int .i64 bits_0] w0 (Re (Po80 S0 w0 [] r)) := by
 unfold rate_may at h0
 refine calls_of_cd Try.func80 rfl Try.ntmps80 rfl ?_
 refine Cd.sr ?_
 refine Rg.st rfl rfl ?_
 refine Rg.go ?_
 refine Cd.sr ?_
 refine Rg.mv rfl rfl ?_
 refine Rg.vN (X.geq rfl rfl) rfl ?_
 refine Rg.mv rfl rfl ?_
 refine Rg.vT rfl rfl rfl (fun hW => X.move rfl) ?_
 refine Rg.vT rfl rfl rfl (fun hW => X.leq (ev_g rfl hW) rfl) ?_
 refine Rg.vN (X.pickAnd rfl rfl rfl) rfl ?_
 refine Rg.st rfl rfl ?_
 refine Rg.go ?_
 refine Cd.ret ?_
 obtain rfl := some_s h0
 exact fun a ha => Cd.retA (R := Re (Po80 S0 w0 [] _)) ha Try.results80 ⟨_, _, rfl, rfl, rfl⟩ ⟨_, rfl, S0, rfl, hs⟩
noncomputable def rate_Pack_l0 (bits_1 : Int) (q18 : Int) (q19 : Int) : Option (Flow (Int × Int) (Int × Int)) :=
 gd ((0 : Int) ≤ bits_1) (
  if (decide (0 < (shr .u64 q18 bits_1))) = true then (
   some (Flow.next (shr .u64 q18 1, add .i64 q19 1)))
  else (
   some (Flow.brk (q18, q19))))
noncomputable def rate_Pack (n_0 : Int) (bits_1 : Int) : Option (Int × Int) :=
 (rate_may bits_1).bind fun x1 =>
 if (!x1) = true then (
  some (0, 0))
 else (
  (loopF (fun sg => rate_Pack_l0 bits_1 sg.1 sg.2) (n_0, 0)).bind fun fl10 =>
  Flow.el fl10 (fun s30 => (
   none))
  (fun s31 => (
   some (s31.2, cv .u32 s31.1)))
  (fun r32 => (
   none)))
def Po70 (S0 : Mp) (w0 : World) (D : List Nat) (r : (Int × Int)) (v : Value) (w1 : World) : Prop :=
  ∃ (S1 : Mp), v = .tuple #[.int .i64 r.1, .int .u32 r.2] ∧ St w0 D S0 S1 [] w1
set_option maxHeartbeats 4000000 in
theorem c70 (S0 : Mp) {w0 : World} (hs : St w0 [] S0 S0 [] w0) (n_0 : Int) (bits_1 : Int) (r : (Int × Int)) (h0 : rate_Pack n_0 bits_1 = some r) :
    Calls Try.prog 70 #[.int .u64 n_0, .int .i64 bits_1] w0 (Re (Po70 S0 w0 [] r)) := by
 unfold rate_Pack at h0
 refine calls_of_cd Try.func70 rfl Try.ntmps70 rfl ?_
 refine Cd.sr ?_
 refine Rg.st rfl rfl ?_
 refine Rg.st rfl rfl ?_
 refine Rg.go ?_
 refine Cd.seq ?_
 refine Cd.sr ?_
 refine Rg.mv rfl rfl ?_
 obtain ⟨x1, hx2, h0⟩ := bind_s h0
 refine Rg.step rfl (Oq.call Try.call80 rfl rfl (c80 S0 (St.start _ _ hs.has) _ _ hx2) (fun v3 w4 h5 => ?_))
 obtain ⟨S6, rfl, hs7⟩ := h5
 have le8 := hs7.le
 have hs := hs.call0 hs7
 refine Rg.vN (X.not rfl) rfl ?_
 refine Rg.go ?_
 refine Cd.cond (t := !x1) rfl (fun hc9 => ?_) (fun hc9 => ?_)
 ·have h0 := ite_t hc9 h0
  refine Cd.sr ?_
  refine Rg.st rfl rfl ?_
  refine Rg.st rfl rfl ?_
  refine Rg.go ?_
  refine Cd.ret ?_
  obtain rfl := some_s h0
  exact fun a ha => Cd.retA (R := Re (Po70 S0 w0 [] _)) ha Try.results70 ⟨_, _, rfl, rfl, ⟨_, _, rfl, rfl, rfl⟩⟩ ⟨_, rfl, S6, rfl, hs⟩
 ·have h0 := ite_f hc9 h0
  refine Cd.sg ?_
  refine Cd.sr ?_
  refine Rg.st rfl rfl ?_
  refine Rg.go ?_
  refine Cd.seq ?_
  obtain ⟨fl10, hfl11, h0⟩ := bind_s h0
  refine Cd.post (fun K w => ∃ (j12 : Int) (j13 : Int) (S14 : Mp), K = [(0, .int .u64 j12), (6, .int .i64 j13)] ∧ fl10 = Flow.brk (j12, j13) ∧ Le S6 S14 ∧ St w0 [] S0 S14 [] w) ?_ ?_
  ·rintro K17 w16 ⟨j12, j13, S14, rfl, rfl, le15, hs⟩
   have h0 := el_brk h0
   try dsimp only at h0
   refine Cd.go ?_
   refine Cd.sr ?_
   refine Rg.mv rfl rfl ?_
   refine Rg.mv rfl rfl ?_
   refine Rg.vN (X.conv Try.underlying30 Try.underlying27 rfl) rfl ?_
   refine Rg.st rfl rfl ?_
   refine Rg.st rfl rfl ?_
   refine Rg.go ?_
   refine Cd.ret ?_
   obtain rfl := some_s h0
   exact fun a ha => Cd.retA (R := Re (Po70 S0 w0 [] _)) ha Try.results70 ⟨_, _, rfl, rfl, ⟨_, _, rfl, rfl, rfl⟩⟩ ⟨_, rfl, S14, rfl, hs⟩
  ·skip
   refine Cd.weak [(0, .int .u64 n_0), (1, .int .i64 bits_1), (6, .int .i64 0)] ⟨rfl, rfl, rfl, trivial⟩ ?_
   refine Cd.block (Cd.loop (fun sg => rate_Pack_l0 bits_1 sg.1 sg.2) (fun (sg : (Int × Int)) K w => ∃ (S20 : Mp), K = [(0, .int .u64 sg.1), (1, .int .i64 bits_1), (6, .int .i64 sg.2)] ∧ Le S6 S20 ∧ St w0 [] S0 S20 [] w) (n_0, 0) fl10 hfl11 ⟨S6, rfl, Le.refl _, hs⟩ ?_)
   rintro ⟨q18, q19⟩ fl22 K27 w26 hb23 ⟨S20, rfl, le21, hs⟩ hl24
   have h25 : rate_Pack_l0 bits_1 q18 q19 = some fl22 := hb23
   unfold rate_Pack_l0 at h25
   refine Cd.seq ?_
   refine Cd.sr ?_
   refine Rg.mv rfl rfl ?_
   refine Rg.mv rfl rfl ?_
   obtain ⟨hg28, h25⟩ := gd_s h25
   refine Rg.vN (X.shr rfl rfl hg28) rfl ?_
   refine Rg.vN (X.gtr rfl rfl) rfl ?_
   refine Rg.go ?_
   refine Cd.cond (t := decide (0 < (shr .u64 q18 bits_1))) rfl (fun hc29 => ?_) (fun hc29 => ?_)
   ·have h25 := ite_t hc29 h25
    refine Cd.sg ?_
    refine Cd.block ?_
    refine Cd.sr ?_
    refine Rg.mv rfl rfl ?_
    refine Rg.vN (X.shr rfl rfl (by decide)) rfl ?_
    refine Rg.st rfl rfl ?_
    refine Rg.go ?_
    refine Cd.region ?_
    refine Rg.mv rfl rfl ?_
    refine Rg.vN (X.add rfl rfl) rfl ?_
    refine Rg.st rfl rfl ?_
    refine Rg.nil ?_
    exact fun a ha => ⟨(shr .u64 q18 1, add .i64 q19 1), [(0, .int .u64 (shr .u64 q18 1)), (1, .int .i64 bits_1), (6, .int .i64 (add .i64 q19 1))], (some_s h25).symm, ha.weak ⟨rfl, rfl, rfl, trivial⟩, S20, rfl, le21, hs⟩
   ·have h25 := ite_f hc29 h25
    refine Cd.exit ?_
    obtain rfl := some_s h25
    have e := hl24 (fun _ e => by cases e)
    exact fun a ha => ⟨[(0, .int .u64 q18), (6, .int .i64 q19)], ha.weak ⟨rfl, rfl, trivial⟩, _, _, S20, rfl, e.symm, le21, hs⟩
noncomputable def rate_Open (exp_0 : Int) (man_1 : Int) (bits_2 : Int) : Option Int :=
 ((
  (rate_may bits_2).bind fun x12 =>
  if (((!x12) || (decide (exp_0 < 0))) || (decide (63 < exp_0))) = true then (
   some true)
  else (
   gd ((0 : Int) ≤ bits_2) (
    some (decide (0 < (shr .u32 man_1 bits_2))))) : Option Bool)).bind fun p2 =>
 if p2 = true then (
  some 0)
 else (
  gd ((0 : Int) ≤ exp_0) (
   gd ((0 : Int) ≤ exp_0) (
    if ((shr .u64 (shl .u64 (cv .u64 man_1) exp_0) exp_0) != (cv .u64 man_1)) = true then (
     some 18446744073709551615)
    else (
     some (shl .u64 (cv .u64 man_1) exp_0)))))
def Po78 (S0 : Mp) (w0 : World) (D : List Nat) (r : Int) (v : Value) (w1 : World) : Prop :=
  ∃ (S1 : Mp), v = .int .u64 r ∧ St w0 D S0 S1 [] w1
set_option maxHeartbeats 4000000 in
theorem c78 (S0 : Mp) {w0 : World} (hs : St w0 [] S0 S0 [] w0) (exp_0 : Int) (man_1 : Int) (bits_2 : Int) (r : Int) (h0 : rate_Open exp_0 man_1 bits_2 = some r) :
    Calls Try.prog 78 #[.int .i64 exp_0, .int .u32 man_1, .int .i64 bits_2] w0 (Re (Po78 S0 w0 [] r)) := by
 unfold rate_Open at h0
 refine calls_of_cd Try.func78 rfl Try.ntmps78 rfl ?_
 refine Cd.sr ?_
 refine Rg.st rfl rfl ?_
 refine Rg.go ?_
 refine Cd.seq ?_
 refine Cd.seq ?_
 obtain ⟨p2, hp3, h0⟩ := bind_s h0
 refine Cd.post (fun K w => ∃ (S4 : Mp), K = [(0, .int .i64 exp_0), (1, .int .u32 man_1), (24, .bool p2)] ∧ Le S0 S4 ∧ St w0 [] S0 S4 [] w) ?_ ?_
 ·rintro K7 w5 ⟨S4, rfl, le6, hs⟩
  refine Cd.go ?_
  refine Cd.cond (t := p2) rfl (fun hc8 => ?_) (fun hc8 => ?_)
  ·have h0 := ite_t hc8 h0
   refine Cd.sr ?_
   refine Rg.st rfl rfl ?_
   refine Rg.go ?_
   refine Cd.ret ?_
   obtain rfl := some_s h0
   exact fun a ha => Cd.retA (R := Re (Po78 S0 w0 [] _)) ha Try.results78 ⟨_, _, rfl, rfl, rfl⟩ ⟨_, rfl, S4, rfl, hs⟩
  ·have h0 := ite_f hc8 h0
   refine Cd.sg ?_
   refine Cd.sr ?_
   refine Rg.mv rfl rfl ?_
   refine Rg.vN (X.conv Try.underlying27 Try.underlying30 rfl) rfl ?_
   refine Rg.mv rfl rfl ?_
   obtain ⟨hg9, h0⟩ := gd_s h0
   refine Rg.vN (X.shl rfl rfl hg9) rfl ?_
   refine Rg.st rfl rfl ?_
   refine Rg.go ?_
   refine Cd.seq ?_
   refine Cd.sr ?_
   refine Rg.mv rfl rfl ?_
   refine Rg.mv rfl rfl ?_
   obtain ⟨hg10, h0⟩ := gd_s h0
   refine Rg.vN (X.shr rfl rfl hg10) rfl ?_
   refine Rg.mv rfl rfl ?_
   refine Rg.vN (X.conv Try.underlying27 Try.underlying30 rfl) rfl ?_
   refine Rg.vN (X.neq rfl rfl) rfl ?_
   refine Rg.go ?_
   refine Cd.cond (t := (shr .u64 (shl .u64 (cv .u64 man_1) exp_0) exp_0) != (cv .u64 man_1)) rfl (fun hc11 => ?_) (fun hc11 => ?_)
   ·have h0 := ite_t hc11 h0
    refine Cd.sr ?_
    refine Rg.st rfl rfl ?_
    refine Rg.go ?_
    refine Cd.ret ?_
    obtain rfl := some_s h0
    exact fun a ha => Cd.retA (R := Re (Po78 S0 w0 [] _)) ha Try.results78 ⟨_, _, rfl, rfl, rfl⟩ ⟨_, rfl, S4, rfl, hs⟩
   ·have h0 := ite_f hc11 h0
    refine Cd.sg ?_
    refine Cd.sr ?_
    refine Rg.mv rfl rfl ?_
    refine Rg.st rfl rfl ?_
    refine Rg.go ?_
    refine Cd.ret ?_
    obtain rfl := some_s h0
    exact fun a ha => Cd.retA (R := Re (Po78 S0 w0 [] _)) ha Try.results78 ⟨_, _, rfl, rfl, rfl⟩ ⟨_, rfl, S4, rfl, hs⟩
 ·skip
  refine Cd.region ?_
  refine Rg.mv rfl rfl ?_
  obtain ⟨x12, hx13, hp3⟩ := bind_s hp3
  refine Rg.step rfl (Oq.call Try.call80 rfl rfl (c80 S0 (St.start _ _ hs.has) _ _ hx13) (fun v14 w15 h16 => ?_))
  obtain ⟨S17, rfl, hs18⟩ := h16
  have le19 := hs18.le
  have hs := hs.call0 hs18
  refine Rg.vN (X.not rfl) rfl ?_
  refine Rg.mv rfl rfl ?_
  refine Rg.vF rfl rfl rfl (fun hW => X.move rfl) ?_
  refine Rg.vF rfl rfl rfl (fun hW => X.lss (ev_g rfl hW) rfl) ?_
  refine Rg.vN (X.pickOr rfl rfl rfl) rfl ?_
  refine Rg.mv rfl rfl ?_
  refine Rg.vF rfl rfl rfl (fun hW => X.move rfl) ?_
  refine Rg.vF rfl rfl rfl (fun hW => X.gtr (ev_g rfl hW) rfl) ?_
  refine Rg.vN (X.pickOr rfl rfl rfl) rfl ?_
  refine Rg.mv rfl rfl ?_
  refine Rg.vF rfl rfl rfl (fun hW => X.move rfl) ?_
  refine Rg.vF rfl rfl rfl (fun hW => X.move rfl) ?_
  refine Rg.split (c := ((!x12) || (decide (exp_0 < 0))) || (decide (63 < exp_0))) (tj := 19) rfl (fun hc20 => ?_) (fun hc20 => ?_)
  ·have hp3 := ite_t hc20 hp3
   refine Rg.weak [(0, .int .i64 exp_0), (1, .int .u32 man_1), (19, .bool true), (20, undef), (21, undef)] ⟨rfl, rfl, rfl, get_u rfl (nn hc20), get_u rfl (nn hc20), trivial⟩ ?_
   refine Rg.vO rfl rfl rfl rfl ?_
   refine Rg.vO rfl rfl rfl rfl ?_
   refine Rg.vN (X.pickT rfl rfl) rfl ?_
   refine Rg.nil ?_
   obtain rfl := some_s hp3
   exact fun a ha => ⟨[(0, .int .i64 exp_0), (1, .int .u32 man_1), (24, .bool true)], ha.weak ⟨rfl, rfl, rfl, trivial⟩, S17, rfl, le19, hs⟩
  ·have hp3 := ite_f hc20 hp3
   refine Rg.weak [(0, .int .i64 exp_0), (1, .int .u32 man_1), (19, .bool false), (20, .int .u32 man_1), (21, .int .i64 bits_2)] ⟨rfl, rfl, rfl, get_g rfl (not_f hc20), get_g rfl (not_f hc20), trivial⟩ ?_
   refine Rg.gon rfl rfl rfl ?_
   obtain ⟨hg21, hp3⟩ := gd_s hp3
   refine Rg.vN (X.shr rfl rfl hg21) rfl ?_
   refine Rg.gon rfl rfl rfl ?_
   refine Rg.vN (X.gtr rfl rfl) rfl ?_
   refine Rg.vN (X.pickF rfl rfl) rfl ?_
   refine Rg.nil ?_
   obtain rfl := some_s hp3
   exact fun a ha => ⟨[(0, .int .i64 exp_0), (1, .int .u32 man_1), (24, .bool (decide (0 < (shr .u32 man_1 bits_2))))], ha.weak ⟨rfl, rfl, rfl, trivial⟩, S17, rfl, le19, hs⟩
noncomputable def rate_Down (n_0 : Int) (bits_1 : Int) : Option Int :=
 (rate_Pack n_0 bits_1).bind fun x1 =>
 (rate_Open x1.1 x1.2 bits_1).bind fun x9 =>
 some x9
def Po64 (S0 : Mp) (w0 : World) (D : List Nat) (r : Int) (v : Value) (w1 : World) : Prop :=
  ∃ (S1 : Mp), v = .int .u64 r ∧ St w0 D S0 S1 [] w1
set_option maxHeartbeats 4000000 in
theorem c64 (S0 : Mp) {w0 : World} (hs : St w0 [] S0 S0 [] w0) (n_0 : Int) (bits_1 : Int) (r : Int) (h0 : rate_Down n_0 bits_1 = some r) :
    Calls Try.prog 64 #[.int .u64 n_0, .int .i64 bits_1] w0 (Re (Po64 S0 w0 [] r)) := by
 unfold rate_Down at h0
 refine calls_of_cd Try.func64 rfl Try.ntmps64 rfl ?_
 refine Cd.sr ?_
 refine Rg.st rfl rfl ?_
 refine Rg.go ?_
 refine Cd.sr ?_
 refine Rg.mv rfl rfl ?_
 refine Rg.mv rfl rfl ?_
 obtain ⟨x1, hx2, h0⟩ := bind_s h0
 refine Rg.step rfl (Oq.call Try.call70 rfl rfl (c70 S0 (St.start _ _ hs.has) _ _ _ hx2) (fun v3 w4 h5 => ?_))
 obtain ⟨S6, rfl, hs7⟩ := h5
 have le8 := hs7.le
 have hs := hs.call0 hs7
 refine Rg.mv rfl rfl ?_
 refine Rg.vN (X.extract rfl rfl) rfl ?_
 refine Rg.vN (X.extract rfl rfl) rfl ?_
 refine Rg.st rfl rfl ?_
 refine Rg.st rfl rfl ?_
 refine Rg.go ?_
 refine Cd.sr ?_
 refine Rg.mv rfl rfl ?_
 refine Rg.mv rfl rfl ?_
 refine Rg.mv rfl rfl ?_
 obtain ⟨x9, hx10, h0⟩ := bind_s h0
 refine Rg.step rfl (Oq.call Try.call78 rfl rfl (c78 S6 (St.start _ _ hs.has) _ _ _ _ hx10) (fun v11 w12 h13 => ?_))
 obtain ⟨S14, rfl, hs15⟩ := h13
 have le16 := hs15.le
 have hs := hs.call0 hs15
 refine Rg.st rfl rfl ?_
 refine Rg.go ?_
 refine Cd.ret ?_
 obtain rfl := some_s h0
 exact fun a ha => Cd.retA (R := Re (Po64 S0 w0 [] _)) ha Try.results64 ⟨_, _, rfl, rfl, rfl⟩ ⟨_, rfl, S14, rfl, hs⟩
noncomputable def limelightref1_Pack_l0 (n_0 : Int) (bits_1 : Int) (q10 : Int) : Option (Flow Int (Int × Int)) :=
 gd ((0 : Int) ≤ (cv .u64 q10)) (
  gd ((0 : Int) ≤ (cv .u64 bits_1)) (
   if (decide ((shl .u64 1 (cv .u64 bits_1)) ≤ (shr .u64 n_0 (cv .u64 q10)))) = true then (
    some (Flow.next (add .i64 q10 1)))
   else (
    some (Flow.brk q10))))
noncomputable def limelightref1_Pack (n_0 : Int) (bits_1 : Int) : Option (Int × Int) :=
 if ((decide (bits_1 < 1)) || (decide (24 < bits_1))) = true then (
  some (0, 0))
 else (
  (loopF (fun sg => limelightref1_Pack_l0 n_0 bits_1 sg) 0).bind fun fl2 =>
  Flow.el fl2 (fun s22 => (
   none))
  (fun s23 => (
   gd ((0 : Int) ≤ (cv .u64 s23)) (
    some (s23, cv .u32 (shr .u64 n_0 (cv .u64 s23))))))
  (fun r24 => (
   none)))
def Po48 (S0 : Mp) (w0 : World) (D : List Nat) (r : (Int × Int)) (v : Value) (w1 : World) : Prop :=
  ∃ (S1 : Mp), v = .tuple #[.int .i64 r.1, .int .u32 r.2] ∧ St w0 D S0 S1 [] w1
set_option maxHeartbeats 4000000 in
theorem c48 (S0 : Mp) {w0 : World} (hs : St w0 [] S0 S0 [] w0) (n_0 : Int) (bits_1 : Int) (r : (Int × Int)) (h0 : limelightref1_Pack n_0 bits_1 = some r) :
    Calls Try.prog 48 #[.int .u64 n_0, .int .i64 bits_1] w0 (Re (Po48 S0 w0 [] r)) := by
 unfold limelightref1_Pack at h0
 refine calls_of_cd Try.func48 rfl Try.ntmps48 rfl ?_
 refine Cd.sr ?_
 refine Rg.st rfl rfl ?_
 refine Rg.st rfl rfl ?_
 refine Rg.go ?_
 refine Cd.seq ?_
 refine Cd.sr ?_
 refine Rg.mv rfl rfl ?_
 refine Rg.vN (X.lss rfl rfl) rfl ?_
 refine Rg.mv rfl rfl ?_
 refine Rg.vF rfl rfl rfl (fun hW => X.move rfl) ?_
 refine Rg.vF rfl rfl rfl (fun hW => X.gtr (ev_g rfl hW) rfl) ?_
 refine Rg.vN (X.pickOr rfl rfl rfl) rfl ?_
 refine Rg.go ?_
 refine Cd.cond (t := (decide (bits_1 < 1)) || (decide (24 < bits_1))) rfl (fun hc1 => ?_) (fun hc1 => ?_)
 ·have h0 := ite_t hc1 h0
  refine Cd.sr ?_
  refine Rg.st rfl rfl ?_
  refine Rg.st rfl rfl ?_
  refine Rg.go ?_
  refine Cd.ret ?_
  obtain rfl := some_s h0
  exact fun a ha => Cd.retA (R := Re (Po48 S0 w0 [] _)) ha Try.results48 ⟨_, _, rfl, rfl, ⟨_, _, rfl, rfl, rfl⟩⟩ ⟨_, rfl, S0, rfl, hs⟩
 ·have h0 := ite_f hc1 h0
  refine Cd.sg ?_
  refine Cd.sr ?_
  refine Rg.st rfl rfl ?_
  refine Rg.go ?_
  refine Cd.seq ?_
  obtain ⟨fl2, hfl3, h0⟩ := bind_s h0
  refine Cd.post (fun K w => ∃ (j4 : Int) (S5 : Mp), K = [(0, .int .u64 n_0), (6, .int .i64 j4)] ∧ fl2 = Flow.brk j4 ∧ Le S0 S5 ∧ St w0 [] S0 S5 [] w) ?_ ?_
  ·rintro K8 w7 ⟨j4, S5, rfl, rfl, le6, hs⟩
   have h0 := el_brk h0
   try dsimp only at h0
   refine Cd.go ?_
   refine Cd.sr ?_
   refine Rg.mv rfl rfl ?_
   refine Rg.mv rfl rfl ?_
   refine Rg.mv rfl rfl ?_
   refine Rg.vN (X.conv Try.underlying3 Try.underlying42 rfl) rfl ?_
   obtain ⟨hg9, h0⟩ := gd_s h0
   refine Rg.vN (X.shr rfl rfl hg9) rfl ?_
   refine Rg.vN (X.conv Try.underlying30 Try.underlying27 rfl) rfl ?_
   refine Rg.weak [(23, .int .i64 j4), (28, .int .u32 (cv .u32 (shr .u64 n_0 (cv .u64 j4))))] ⟨rfl, rfl, trivial⟩ ?_
   refine Rg.st rfl rfl ?_
   refine Rg.st rfl rfl ?_
   refine Rg.go ?_
   refine Cd.ret ?_
   obtain rfl := some_s h0
   exact fun a ha => Cd.retA (R := Re (Po48 S0 w0 [] _)) ha Try.results48 ⟨_, _, rfl, rfl, ⟨_, _, rfl, rfl, rfl⟩⟩ ⟨_, rfl, S5, rfl, hs⟩
  ·skip
   refine Cd.weak [(0, .int .u64 n_0), (1, .int .i64 bits_1), (6, .int .i64 0)] ⟨rfl, rfl, rfl, trivial⟩ ?_
   refine Cd.block (Cd.loop (fun sg => limelightref1_Pack_l0 n_0 bits_1 sg) (fun (sg : Int) K w => ∃ (S11 : Mp), K = [(0, .int .u64 n_0), (1, .int .i64 bits_1), (6, .int .i64 sg)] ∧ Le S0 S11 ∧ St w0 [] S0 S11 [] w) 0 fl2 hfl3 ⟨S0, rfl, Le.refl _, hs⟩ ?_)
   rintro q10 fl13 K18 w17 hb14 ⟨S11, rfl, le12, hs⟩ hl15
   have h16 : limelightref1_Pack_l0 n_0 bits_1 q10 = some fl13 := hb14
   unfold limelightref1_Pack_l0 at h16
   refine Cd.seq ?_
   refine Cd.sr ?_
   refine Rg.mv rfl rfl ?_
   refine Rg.mv rfl rfl ?_
   refine Rg.vN (X.conv Try.underlying3 Try.underlying42 rfl) rfl ?_
   obtain ⟨hg19, h16⟩ := gd_s h16
   refine Rg.vN (X.shr rfl rfl hg19) rfl ?_
   refine Rg.mv rfl rfl ?_
   refine Rg.vN (X.conv Try.underlying3 Try.underlying42 rfl) rfl ?_
   refine Rg.weak [(0, .int .u64 n_0), (1, .int .i64 bits_1), (6, .int .i64 q10), (16, .int .u64 (shr .u64 n_0 (cv .u64 q10))), (18, .int .u64 (cv .u64 bits_1))] ⟨rfl, rfl, rfl, rfl, rfl, trivial⟩ ?_
   obtain ⟨hg20, h16⟩ := gd_s h16
   refine Rg.vN (X.shl rfl rfl hg20) rfl ?_
   refine Rg.vN (X.geq rfl rfl) rfl ?_
   refine Rg.go ?_
   refine Cd.cond (t := decide ((shl .u64 1 (cv .u64 bits_1)) ≤ (shr .u64 n_0 (cv .u64 q10)))) rfl (fun hc21 => ?_) (fun hc21 => ?_)
   ·have h16 := ite_t hc21 h16
    refine Cd.sg ?_
    refine Cd.block ?_
    refine Cd.region ?_
    refine Rg.mv rfl rfl ?_
    refine Rg.vN (X.add rfl rfl) rfl ?_
    refine Rg.st rfl rfl ?_
    refine Rg.nil ?_
    exact fun a ha => ⟨add .i64 q10 1, [(0, .int .u64 n_0), (1, .int .i64 bits_1), (6, .int .i64 (add .i64 q10 1))], (some_s h16).symm, ha.weak ⟨rfl, rfl, rfl, trivial⟩, S11, rfl, le12, hs⟩
   ·have h16 := ite_f hc21 h16
    refine Cd.exit ?_
    obtain rfl := some_s h16
    have e := hl15 (fun _ e => by cases e)
    exact fun a ha => ⟨[(0, .int .u64 n_0), (6, .int .i64 q10)], ha.weak ⟨rfl, rfl, trivial⟩, _, S11, rfl, e.symm, le12, hs⟩
noncomputable def limelightref1_Open (exp_0 : Int) (man_1 : Int) (bits_2 : Int) : Option Int :=
 ((
  if ((((decide (bits_2 < 1)) || (decide (24 < bits_2))) || (decide (exp_0 < 0))) || (decide (63 < exp_0))) = true then (
   some true)
  else (
   gd ((0 : Int) ≤ (cv .u64 bits_2)) (
    some (decide ((shl .u32 1 (cv .u64 bits_2)) ≤ man_1)))) : Option Bool)).bind fun p2 =>
 if p2 = true then (
  some 0)
 else (
  gd ((0 : Int) ≤ (cv .u64 exp_0)) (
   gd ((0 : Int) ≤ (cv .u64 exp_0)) (
    if ((shr .u64 (shl .u64 (cv .u64 man_1) (cv .u64 exp_0)) (cv .u64 exp_0)) != (cv .u64 man_1)) = true then (
     some 18446744073709551615)
    else (
     some (shl .u64 (cv .u64 man_1) (cv .u64 exp_0))))))
def Po22 (S0 : Mp) (w0 : World) (D : List Nat) (r : Int) (v : Value) (w1 : World) : Prop :=
  ∃ (S1 : Mp), v = .int .u64 r ∧ St w0 D S0 S1 [] w1
set_option maxHeartbeats 4000000 in
theorem c22 (S0 : Mp) {w0 : World} (hs : St w0 [] S0 S0 [] w0) (exp_0 : Int) (man_1 : Int) (bits_2 : Int) (r : Int) (h0 : limelightref1_Open exp_0 man_1 bits_2 = some r) :
    Calls Try.prog 22 #[.int .i64 exp_0, .int .u32 man_1, .int .i64 bits_2] w0 (Re (Po22 S0 w0 [] r)) := by
 unfold limelightref1_Open at h0
 refine calls_of_cd Try.func22 rfl Try.ntmps22 rfl ?_
 refine Cd.sr ?_
 refine Rg.st rfl rfl ?_
 refine Rg.go ?_
 refine Cd.seq ?_
 refine Cd.seq ?_
 obtain ⟨p2, hp3, h0⟩ := bind_s h0
 refine Cd.post (fun K w => ∃ (S4 : Mp), K = [(0, .int .i64 exp_0), (1, .int .u32 man_1), (28, .bool p2)] ∧ Le S0 S4 ∧ St w0 [] S0 S4 [] w) ?_ ?_
 ·rintro K7 w5 ⟨S4, rfl, le6, hs⟩
  refine Cd.go ?_
  refine Cd.cond (t := p2) rfl (fun hc8 => ?_) (fun hc8 => ?_)
  ·have h0 := ite_t hc8 h0
   refine Cd.sr ?_
   refine Rg.st rfl rfl ?_
   refine Rg.go ?_
   refine Cd.ret ?_
   obtain rfl := some_s h0
   exact fun a ha => Cd.retA (R := Re (Po22 S0 w0 [] _)) ha Try.results22 ⟨_, _, rfl, rfl, rfl⟩ ⟨_, rfl, S4, rfl, hs⟩
  ·have h0 := ite_f hc8 h0
   refine Cd.sg ?_
   refine Cd.sr ?_
   refine Rg.mv rfl rfl ?_
   refine Rg.vN (X.conv Try.underlying27 Try.underlying30 rfl) rfl ?_
   refine Rg.mv rfl rfl ?_
   refine Rg.vN (X.conv Try.underlying3 Try.underlying42 rfl) rfl ?_
   obtain ⟨hg9, h0⟩ := gd_s h0
   refine Rg.vN (X.shl rfl rfl hg9) rfl ?_
   refine Rg.st rfl rfl ?_
   refine Rg.go ?_
   refine Cd.seq ?_
   refine Cd.sr ?_
   refine Rg.mv rfl rfl ?_
   refine Rg.mv rfl rfl ?_
   refine Rg.vN (X.conv Try.underlying3 Try.underlying42 rfl) rfl ?_
   obtain ⟨hg10, h0⟩ := gd_s h0
   refine Rg.vN (X.shr rfl rfl hg10) rfl ?_
   refine Rg.mv rfl rfl ?_
   refine Rg.vN (X.conv Try.underlying27 Try.underlying30 rfl) rfl ?_
   refine Rg.vN (X.neq rfl rfl) rfl ?_
   refine Rg.go ?_
   refine Cd.cond (t := (shr .u64 (shl .u64 (cv .u64 man_1) (cv .u64 exp_0)) (cv .u64 exp_0)) != (cv .u64 man_1)) rfl (fun hc11 => ?_) (fun hc11 => ?_)
   ·have h0 := ite_t hc11 h0
    refine Cd.sr ?_
    refine Rg.st rfl rfl ?_
    refine Rg.go ?_
    refine Cd.weak [(6, .int .u64 18446744073709551615)] ⟨rfl, trivial⟩ ?_
    refine Cd.ret ?_
    obtain rfl := some_s h0
    exact fun a ha => Cd.retA (R := Re (Po22 S0 w0 [] _)) ha Try.results22 ⟨_, _, rfl, rfl, rfl⟩ ⟨_, rfl, S4, rfl, hs⟩
   ·have h0 := ite_f hc11 h0
    refine Cd.sg ?_
    refine Cd.sr ?_
    refine Rg.mv rfl rfl ?_
    refine Rg.st rfl rfl ?_
    refine Rg.go ?_
    refine Cd.weak [(6, .int .u64 (shl .u64 (cv .u64 man_1) (cv .u64 exp_0)))] ⟨rfl, trivial⟩ ?_
    refine Cd.ret ?_
    obtain rfl := some_s h0
    exact fun a ha => Cd.retA (R := Re (Po22 S0 w0 [] _)) ha Try.results22 ⟨_, _, rfl, rfl, rfl⟩ ⟨_, rfl, S4, rfl, hs⟩
 ·skip
  refine Cd.region ?_
  refine Rg.mv rfl rfl ?_
  refine Rg.vN (X.lss rfl rfl) rfl ?_
  refine Rg.mv rfl rfl ?_
  refine Rg.vF rfl rfl rfl (fun hW => X.move rfl) ?_
  refine Rg.vF rfl rfl rfl (fun hW => X.gtr (ev_g rfl hW) rfl) ?_
  refine Rg.vN (X.pickOr rfl rfl rfl) rfl ?_
  refine Rg.mv rfl rfl ?_
  refine Rg.vF rfl rfl rfl (fun hW => X.move rfl) ?_
  refine Rg.vF rfl rfl rfl (fun hW => X.lss (ev_g rfl hW) rfl) ?_
  refine Rg.vN (X.pickOr rfl rfl rfl) rfl ?_
  refine Rg.mv rfl rfl ?_
  refine Rg.vF rfl rfl rfl (fun hW => X.move rfl) ?_
  refine Rg.vF rfl rfl rfl (fun hW => X.gtr (ev_g rfl hW) rfl) ?_
  refine Rg.vN (X.pickOr rfl rfl rfl) rfl ?_
  refine Rg.weak [(0, .int .i64 exp_0), (1, .int .u32 man_1), (2, .int .i64 bits_2), (21, .bool ((((decide (bits_2 < 1)) || (decide (24 < bits_2))) || (decide (exp_0 < 0))) || (decide (63 < exp_0))))] ⟨rfl, rfl, rfl, rfl, trivial⟩ ?_
  refine Rg.mv rfl rfl ?_
  refine Rg.vF rfl rfl rfl (fun hW => X.move rfl) ?_
  refine Rg.vF rfl rfl rfl (fun hW => X.move rfl) ?_
  refine Rg.vF rfl rfl rfl (fun hW => X.conv Try.underlying3 Try.underlying42 (ev_g rfl hW)) ?_
  refine Rg.split (c := (((decide (bits_2 < 1)) || (decide (24 < bits_2))) || (decide (exp_0 < 0))) || (decide (63 < exp_0))) (tj := 22) rfl (fun hc12 => ?_) (fun hc12 => ?_)
  ·have hp3 := ite_t hc12 hp3
   refine Rg.weak [(0, .int .i64 exp_0), (1, .int .u32 man_1), (22, .bool true), (23, undef), (25, undef)] ⟨rfl, rfl, rfl, get_u rfl (nn hc12), get_u rfl (nn hc12), trivial⟩ ?_
   refine Rg.vO rfl rfl rfl rfl ?_
   refine Rg.vO rfl rfl rfl rfl ?_
   refine Rg.vN (X.pickT rfl rfl) rfl ?_
   refine Rg.nil ?_
   obtain rfl := some_s hp3
   exact fun a ha => ⟨[(0, .int .i64 exp_0), (1, .int .u32 man_1), (28, .bool true)], ha.weak ⟨rfl, rfl, rfl, trivial⟩, S0, rfl, Le.refl _, hs⟩
  ·have hp3 := ite_f hc12 hp3
   refine Rg.weak [(0, .int .i64 exp_0), (1, .int .u32 man_1), (22, .bool false), (23, .int .u32 man_1), (25, .int .u64 (cv .u64 bits_2))] ⟨rfl, rfl, rfl, get_g rfl (not_f hc12), get_g rfl (not_f hc12), trivial⟩ ?_
   refine Rg.gon rfl rfl rfl ?_
   obtain ⟨hg13, hp3⟩ := gd_s hp3
   refine Rg.vN (X.shl rfl rfl hg13) rfl ?_
   refine Rg.gon rfl rfl rfl ?_
   refine Rg.vN (X.geq rfl rfl) rfl ?_
   refine Rg.vN (X.pickF rfl rfl) rfl ?_
   refine Rg.nil ?_
   obtain rfl := some_s hp3
   exact fun a ha => ⟨[(0, .int .i64 exp_0), (1, .int .u32 man_1), (28, .bool (decide ((shl .u32 1 (cv .u64 bits_2)) ≤ man_1)))], ha.weak ⟨rfl, rfl, rfl, trivial⟩, S0, rfl, Le.refl _, hs⟩
noncomputable def limelightref1_Down (n_0 : Int) (bits_1 : Int) : Option Int :=
 (limelightref1_Pack n_0 bits_1).bind fun x1 =>
 (limelightref1_Open x1.1 x1.2 bits_1).bind fun x9 =>
 some x9
def Po29 (S0 : Mp) (w0 : World) (D : List Nat) (r : Int) (v : Value) (w1 : World) : Prop :=
  ∃ (S1 : Mp), v = .int .u64 r ∧ St w0 D S0 S1 [] w1
set_option maxHeartbeats 4000000 in
theorem c29 (S0 : Mp) {w0 : World} (hs : St w0 [] S0 S0 [] w0) (n_0 : Int) (bits_1 : Int) (r : Int) (h0 : limelightref1_Down n_0 bits_1 = some r) :
    Calls Try.prog 29 #[.int .u64 n_0, .int .i64 bits_1] w0 (Re (Po29 S0 w0 [] r)) := by
 unfold limelightref1_Down at h0
 refine calls_of_cd Try.func29 rfl Try.ntmps29 rfl ?_
 refine Cd.sr ?_
 refine Rg.st rfl rfl ?_
 refine Rg.go ?_
 refine Cd.sr ?_
 refine Rg.mv rfl rfl ?_
 refine Rg.mv rfl rfl ?_
 obtain ⟨x1, hx2, h0⟩ := bind_s h0
 refine Rg.step rfl (Oq.call Try.call48 rfl rfl (c48 S0 (St.start _ _ hs.has) _ _ _ hx2) (fun v3 w4 h5 => ?_))
 obtain ⟨S6, rfl, hs7⟩ := h5
 have le8 := hs7.le
 have hs := hs.call0 hs7
 refine Rg.mv rfl rfl ?_
 refine Rg.vN (X.extract rfl rfl) rfl ?_
 refine Rg.vN (X.extract rfl rfl) rfl ?_
 refine Rg.st rfl rfl ?_
 refine Rg.st rfl rfl ?_
 refine Rg.go ?_
 refine Cd.sr ?_
 refine Rg.mv rfl rfl ?_
 refine Rg.mv rfl rfl ?_
 refine Rg.mv rfl rfl ?_
 obtain ⟨x9, hx10, h0⟩ := bind_s h0
 refine Rg.step rfl (Oq.call Try.call22 rfl rfl (c22 S6 (St.start _ _ hs.has) _ _ _ _ hx10) (fun v11 w12 h13 => ?_))
 obtain ⟨S14, rfl, hs15⟩ := h13
 have le16 := hs15.le
 have hs := hs.call0 hs15
 refine Rg.st rfl rfl ?_
 refine Rg.go ?_
 refine Cd.ret ?_
 obtain rfl := some_s h0
 exact fun a ha => Cd.retA (R := Re (Po29 S0 w0 [] _)) ha Try.results29 ⟨_, _, rfl, rfl, rfl⟩ ⟨_, rfl, S14, rfl, hs⟩
noncomputable def limelightref6_tuples_l0 (l_0 : (List api_Tuple)) (q10 : Int) : Option (Flow Int Bool) :=
 if (decide (q10 < (l_0.length : Int))) = true then (
  ((
   (ix l_0 q10).bind fun x26 =>
   ((
    if ((decide (x26.Over < 0)) || (decide (511 < x26.Over))) = true then (
     some true)
    else (
     (limelightref1_Down x26.Rate 17).bind fun x47 =>
     some (x47 != x26.Rate)) : Option Bool)).bind fun p38 =>
   if p38 = true then (
    some (Flow.ret false))
   else (
    some (Flow.next ())) : Option (Flow Unit Bool))).bind fun p20 =>
  Flow.el p20 (fun s55 => (
   some (Flow.next (add .i64 q10 1))))
  (fun s56 => (
   none))
  (fun r57 => (
   some (Flow.ret r57))))
 else (
  some (Flow.brk q10))
noncomputable def limelightref6_tuples (l_0 : (List api_Tuple)) : Option Bool :=
 (loopF (fun sg => limelightref6_tuples_l0 l_0 sg) 0).bind fun fl3 =>
 Flow.el fl3 (fun s58 => (
  none))
 (fun s59 => (
  some (decide ((l_0.length : Int) ≤ 6))))
 (fun r60 => (
  some r60))
def Po49 (S0 : Mp) (w0 : World) (D : List Nat) (r : Bool) (v : Value) (w1 : World) : Prop :=
  ∃ (S1 : Mp), v = .bool r ∧ St w0 D S0 S1 [] w1
set_option maxHeartbeats 4000000 in
theorem c49 (S0 : Mp) {w0 : World} (hs : St w0 [] S0 S0 [] w0) (l_0 : (List api_Tuple)) (v1 : Value) (f2 : Rd S0 3 R_api_Tuple v1 l_0) (r : Bool) (h0 : limelightref6_tuples l_0 = some r) :
    Calls Try.prog 49 #[v1] w0 (Re (Po49 S0 w0 [] r)) := by
 unfold limelightref6_tuples at h0
 refine calls_of_cd Try.func49 rfl Try.ntmps49 rfl ?_
 refine Cd.sr ?_
 refine Rg.st rfl rfl ?_
 refine Rg.go ?_
 refine Cd.seq ?_
 refine Cd.sr ?_
 refine Rg.mv rfl rfl ?_
 refine Rg.vN (X.lenR Try.underlying28 rfl f2) rfl ?_
 refine Rg.mv rfl rfl ?_
 refine Rg.go ?_
 obtain ⟨fl3, hfl4, h0⟩ := bind_s h0
 refine Cd.post (fun K w => ∃ (j5 : Int) (S6 : Mp), K = [(0, v1)] ∧ fl3 = Flow.brk j5 ∧ Le S0 S6 ∧ St w0 [] S0 S6 [] w) ?_ ?_
 ·rintro K9 w8 ⟨j5, S6, rfl, rfl, le7, hs⟩
  have h0 := el_brk h0
  try dsimp only at h0
  refine Cd.go ?_
  refine Cd.sr ?_
  refine Rg.mv rfl rfl ?_
  refine Rg.vN (X.lenR Try.underlying28 rfl (f2.mono le7)) rfl ?_
  refine Rg.vN (X.leq rfl rfl) rfl ?_
  refine Rg.st rfl rfl ?_
  refine Rg.go ?_
  refine Cd.ret ?_
  obtain rfl := some_s h0
  exact fun a ha => Cd.retA (R := Re (Po49 S0 w0 [] _)) ha Try.results49 ⟨_, _, rfl, rfl, rfl⟩ ⟨_, rfl, S6, rfl, hs⟩
 ·skip
  refine Cd.weak [(0, v1), (5, v1), (6, .int .i64 (l_0.length : Int)), (7, .int .i64 0)] ⟨rfl, rfl, rfl, rfl, trivial⟩ ?_
  refine Cd.block (Cd.loop (fun sg => limelightref6_tuples_l0 l_0 sg) (fun (sg : Int) K w => ∃ (S11 : Mp), K = [(0, v1), (5, v1), (6, .int .i64 (l_0.length : Int)), (7, .int .i64 sg)] ∧ Le S0 S11 ∧ St w0 [] S0 S11 [] w) 0 fl3 hfl4 ⟨S0, rfl, Le.refl _, hs⟩ ?_)
  rintro q10 fl13 K18 w17 hb14 ⟨S11, rfl, le12, hs⟩ hl15
  have h16 : limelightref6_tuples_l0 l_0 q10 = some fl13 := hb14
  unfold limelightref6_tuples_l0 at h16
  refine Cd.sr ?_
  refine Rg.vN (X.lss rfl rfl) rfl ?_
  refine Rg.go ?_
  refine Cd.seq ?_
  refine Cd.cond (t := decide (q10 < (l_0.length : Int))) rfl (fun hc19 => ?_) (fun hc19 => ?_)
  ·have h16 := ite_t hc19 h16
   refine Cd.sg ?_
   refine Cd.seq ?_
   obtain ⟨p20, hp21, h16⟩ := bind_s h16
   refine Cd.post (fun K w => ∃ (S22 : Mp), K = [(0, v1), (5, v1), (6, .int .i64 (l_0.length : Int)), (7, .int .i64 q10)] ∧ p20 = Flow.next () ∧ Le S11 S22 ∧ St w0 [] S0 S22 [] w) ?_ ?_
   ·rintro K25 w23 ⟨S22, rfl, rfl, le24, hs⟩
    have h16 := el_next h16
    try dsimp only at h16
    refine Cd.go ?_
    refine Cd.region ?_
    refine Rg.vN (X.add rfl rfl) rfl ?_
    refine Rg.mv rfl rfl ?_
    refine Rg.nil ?_
    exact fun a ha => ⟨add .i64 q10 1, [(0, v1), (5, v1), (6, .int .i64 (l_0.length : Int)), (7, .int .i64 (add .i64 q10 1))], (some_s h16).symm, ha.weak ⟨rfl, rfl, rfl, rfl, trivial⟩, S22, rfl, (le12.trans le24), hs⟩
   ·skip
    refine Cd.block ?_
    refine Cd.sr ?_
    obtain ⟨x26, hx27, hp21⟩ := bind_s hp21
    obtain ⟨ad28, vals29, _, hR30, hE31, hX32⟩ := mk_index Try.underlying28 zz57 (by decide) (f2.mono le12) hx27
    unfold R_api_Tuple at hR30
    subst hR30
    refine Rg.vN (hX32 rfl rfl) rfl ?_
    refine Rg.vN (X.loadE (vals := [.int .u32 x26.Owner, .int .u64 x26.Rate, .int .i64 x26.Over]) hs.has Try.underlying57 rfl zz57 rfl hE31) rfl ?_
    refine Rg.step rfl (Oq.alloc (cs := #[.int .u32 0, .int .u64 0, .int .i64 0]) hs ii57 rfl rfl rfl (fun b33 w34 hs => ?_))
    refine Rg.step rfl (Oq.storeN hs 0 rfl (vals := [.int .u32 x26.Owner, .int .u64 x26.Rate, .int .i64 x26.Over]) zz57 rfl rfl (one_all ⟨rfl, rfl, rfl, trivial⟩) rfl [.box b33 #[.int .u32 x26.Owner, .int .u64 x26.Rate, .int .i64 x26.Over] 57] rfl (fun w36 hs => ?_))
    refine Rg.go ?_
    refine Cd.seq ?_
    obtain ⟨p38, hp39, hp21⟩ := bind_s hp21
    refine Cd.post (fun K w => ∃ (S40 : Mp), K = [(0, v1), (5, v1), (6, .int .i64 (l_0.length : Int)), (7, .int .i64 q10), (26, .bool p38)] ∧ Le S11 S40 ∧ St w0 [] S0 S40 [] w) ?_ ?_
    ·rintro K43 w41 ⟨S40, rfl, le42, hs⟩
     refine Cd.go ?_
     refine Cd.cond (t := p38) rfl (fun hc44 => ?_) (fun hc44 => ?_)
     ·have hp21 := ite_t hc44 hp21
      refine Cd.sr ?_
      refine Rg.st rfl rfl ?_
      refine Rg.go ?_
      refine Cd.ret ?_
      obtain rfl := some_s hp21
      have h16 := el_ret h16
      obtain rfl := some_s h16
      have e := hl15 (fun _ e => by cases e)
      subst e
      have h0 := el_ret h0
      obtain rfl := some_s h0
      exact fun a ha => Cd.retA (R := Re (Po49 S0 w0 [] _)) ha Try.results49 ⟨_, _, rfl, rfl, rfl⟩ ⟨_, rfl, S40, rfl, hs⟩
     ·have hp21 := ite_f hc44 hp21
      refine Cd.skip ?_
      obtain rfl := some_s hp21
      exact fun a ha => ⟨[(0, v1), (5, v1), (6, .int .i64 (l_0.length : Int)), (7, .int .i64 q10)], ha.weak ⟨rfl, rfl, rfl, rfl, trivial⟩, S40, rfl, rfl, le42, hs⟩
    ·skip
     refine Cd.rD mixed (fun l w => Has S11 w ∧ Hp b33 #[.int .u32 x26.Owner, .int .u64 x26.Rate, .int .i64 x26.Over] 57 w) hs (fun _ _ _ _ _ h => h) (by kernel_rfl) (fun w45 hs => ⟨⟨hs.has, (hs.heap 0 rfl)⟩, ?_⟩)
     refine Rk.tN 0 rfl rfl (fun _ _ => X.fieldB Try.underlying57 rfl zz3 rfl rfl) ?_
     refine Rk.tN 1 rfl rfl (fun w hc => X.load1 Try.underlying3 rfl rfl (heap_cell hc.2 rfl)) ?_
     refine Rk.tN 2 rfl rfl (fun _ _ => X.lss rfl rfl) ?_
     refine Rk.tN 3 rfl rfl (fun _ _ => X.move rfl) ?_
     refine Rk.tF 4 rfl rfl rfl rfl (fun hW => fun _ _ => X.fieldB Try.underlying57 rfl zz3 rfl rfl) ?_
     refine Rk.tF 5 rfl rfl rfl rfl (fun hW => fun w hc => X.load1 Try.underlying3 rfl (ev_g rfl hW) (heap_cell hc.2 rfl)) ?_
     refine Rk.tF 6 rfl rfl rfl rfl (fun hW => fun _ _ => X.gtr (ev_g rfl hW) rfl) ?_
     refine Rk.tN 7 rfl rfl (fun _ _ => X.pickOr rfl rfl rfl) ?_
     refine Rk.tN 8 rfl rfl (fun _ _ => X.move rfl) ?_
     refine Rk.tF 9 rfl rfl rfl rfl (fun hW => fun _ _ => X.fieldB Try.underlying57 rfl zz30 rfl rfl) ?_
     refine Rk.tF 10 rfl rfl rfl rfl (fun hW => fun w hc => X.load1 Try.underlying30 rfl (ev_g rfl hW) (heap_cell hc.2 rfl)) ?_
     refine Rk.tF 12 rfl rfl rfl rfl (fun hW => fun _ _ => X.fieldB Try.underlying57 rfl zz30 rfl rfl) ?_
     refine Rk.weak [(0, v1), (5, v1), (6, .int .i64 (l_0.length : Int)), (7, .int .i64 q10), (19, .bool ((decide (x26.Over < 0)) || (decide (511 < x26.Over)))), (21, gv (!((decide (x26.Over < 0)) || (decide (511 < x26.Over)))) (.int .u64 x26.Rate)), (23, gv (!((decide (x26.Over < 0)) || (decide (511 < x26.Over)))) (.pointer (some ⟨b33, 1, none⟩)))] ⟨rfl, rfl, rfl, rfl, rfl, rfl, rfl, trivial⟩ ?_
     refine Rk.tF 13 rfl rfl rfl rfl (fun hW => fun w hc => X.load1 Try.underlying30 rfl (ev_g rfl hW) (heap_cell hc.2 rfl)) ?_
     refine Rk.split (b := (decide (x26.Over < 0)) || (decide (511 < x26.Over))) (tj := 19) rfl (fun hc46 => ?_) (fun hc46 => ?_)
     ·have hp39 := ite_t hc46 hp39
      refine Rk.weak [(0, v1), (5, v1), (6, .int .i64 (l_0.length : Int)), (7, .int .i64 q10), (19, .bool true), (21, undef), (24, undef)] ⟨rfl, rfl, rfl, rfl, rfl, get_u rfl (nn hc46), get_u rfl (nn hc46), trivial⟩ ?_
      refine Rk.tO 11 rfl rfl rfl rfl rfl ?_
      refine Rk.tO 14 rfl rfl rfl rfl rfl ?_
      refine Rk.tN 15 rfl rfl (fun _ _ => X.pickT rfl rfl) ?_
      refine Rk.done ?_
      obtain rfl := some_s hp39
      exact fun a ha => ⟨[(0, v1), (5, v1), (6, .int .i64 (l_0.length : Int)), (7, .int .i64 q10), (26, .bool true)], ha.weak ⟨rfl, rfl, rfl, rfl, rfl, trivial⟩, S11, rfl, Le.refl _, (hs.pick [] (by decide) rfl)⟩
     ·have hp39 := ite_f hc46 hp39
      refine Rk.weak [(0, v1), (5, v1), (6, .int .i64 (l_0.length : Int)), (7, .int .i64 q10), (19, .bool false), (21, .int .u64 x26.Rate), (24, .int .u64 x26.Rate)] ⟨rfl, rfl, rfl, rfl, rfl, get_g rfl (not_f hc46), get_g rfl (not_f hc46), trivial⟩ ?_
      obtain ⟨x47, hx48, hp39⟩ := bind_s hp39
      refine Rk.eG 11 rfl rfl rfl rfl (Oq.call Try.call29 rfl rfl (c29 S11 (St.start _ _ hs.has) _ _ _ hx48) (fun v49 w50 h51 => ?_))
      obtain ⟨S52, rfl, hs53⟩ := h51
      have le54 := hs53.le
      have hs := hs.call0 hs53
      refine ⟨⟨(hs.has.down le54), (hs.heap 0 rfl)⟩, Rk.mk (C' := fun l w => Has S52 w ∧ Hp b33 #[.int .u32 x26.Owner, .int .u64 x26.Rate, .int .i64 x26.Over] 57 w) ⟨hs.has, (hs.heap 0 rfl)⟩ (fun l w hc => ⟨hc.1.down le54, hc.2⟩) ?_⟩
      refine Rk.tF 14 rfl rfl rfl rfl (fun hW => fun _ _ => X.neq rfl rfl) ?_
      refine Rk.tN 15 rfl rfl (fun _ _ => X.pickF rfl rfl) ?_
      refine Rk.done ?_
      obtain rfl := some_s hp39
      exact fun a ha => ⟨[(0, v1), (5, v1), (6, .int .i64 (l_0.length : Int)), (7, .int .i64 q10), (26, .bool (x47 != x26.Rate))], ha.weak ⟨rfl, rfl, rfl, rfl, rfl, trivial⟩, S52, rfl, le54, (hs.pick [] (by decide) rfl)⟩
  ·have h16 := ite_f hc19 h16
   refine Cd.exit ?_
   obtain rfl := some_s h16
   have e := hl15 (fun _ e => by cases e)
   exact fun a ha => ⟨[(0, v1)], ha.weak ⟨rfl, trivial⟩, _, S11, rfl, e.symm, le12, hs⟩
noncomputable def limelightref6_known (t_0 : Int) (c_1 : Int) : Option Bool :=
 some (((t_0 == 205) && ((c_1 == 3) || (c_1 == 4))) || ((t_0 == 206) && (((c_1 == 1) || (c_1 == 4)) || (c_1 == 15))))
def Po50 (S0 : Mp) (w0 : World) (D : List Nat) (r : Bool) (v : Value) (w1 : World) : Prop :=
  ∃ (S1 : Mp), v = .bool r ∧ St w0 D S0 S1 [] w1
set_option maxHeartbeats 4000000 in
theorem c50 (S0 : Mp) {w0 : World} (hs : St w0 [] S0 S0 [] w0) (t_0 : Int) (c_1 : Int) (r : Bool) (h0 : limelightref6_known t_0 c_1 = some r) :
    Calls Try.prog 50 #[.int .i64 t_0, .int .i64 c_1] w0 (Re (Po50 S0 w0 [] r)) := by
 unfold limelightref6_known at h0
 refine calls_of_cd Try.func50 rfl Try.ntmps50 rfl ?_
 refine Cd.sr ?_
 refine Rg.st rfl rfl ?_
 refine Rg.go ?_
 refine Cd.sr ?_
 refine Rg.mv rfl rfl ?_
 refine Rg.vN (X.eql rfl rfl) rfl ?_
 refine Rg.mv rfl rfl ?_
 refine Rg.vT rfl rfl rfl (fun hW => X.move rfl) ?_
 refine Rg.vT rfl rfl rfl (fun hW => X.eql (ev_g rfl hW) rfl) ?_
 refine Rg.vT rfl rfl rfl (fun hW => X.move (ev_g rfl hW)) ?_
 refine Rg.vGF rfl rfl rfl (fun hW => X.move rfl) ?_
 refine Rg.vGF rfl rfl rfl (fun hW => X.eql (ev_g rfl hW) rfl) ?_
 refine Rg.vT rfl rfl rfl (fun hW => X.pickOrG hW (ev_g rfl hW) rfl rfl) ?_
 refine Rg.vN (X.pickAnd rfl rfl rfl) rfl ?_
 refine Rg.mv rfl rfl ?_
 refine Rg.vF rfl rfl rfl (fun hW => X.move rfl) ?_
 refine Rg.vF rfl rfl rfl (fun hW => X.eql (ev_g rfl hW) rfl) ?_
 refine Rg.vF rfl rfl rfl (fun hW => X.move (ev_g rfl hW)) ?_
 refine Rg.weak [(1, .int .i64 c_1), (15, .bool ((t_0 == 205) && ((c_1 == 3) || (c_1 == 4)))), (18, gv (!((t_0 == 205) && ((c_1 == 3) || (c_1 == 4)))) (.bool (t_0 == 206)))] ⟨rfl, rfl, rfl, trivial⟩ ?_
 refine Rg.vGT rfl rfl rfl (fun hW => X.move rfl) ?_
 refine Rg.vGT rfl rfl rfl (fun hW => X.eql (ev_g rfl hW) rfl) ?_
 refine Rg.vGT rfl rfl rfl (fun hW => X.move (ev_g rfl hW)) ?_
 refine Rg.vGF rfl rfl rfl (fun hW => X.move rfl) ?_
 refine Rg.vGF rfl rfl rfl (fun hW => X.eql (ev_g rfl hW) rfl) ?_
 refine Rg.vGT rfl rfl rfl (fun hW => X.pickOrG hW (ev_g rfl hW) rfl rfl) ?_
 refine Rg.vGT rfl rfl rfl (fun hW => X.move (ev_g rfl hW)) ?_
 refine Rg.vGF rfl rfl rfl (fun hW => X.move rfl) ?_
 refine Rg.vGF rfl rfl rfl (fun hW => X.eql (ev_g rfl hW) rfl) ?_
 refine Rg.vGT rfl rfl rfl (fun hW => X.pickOrG hW (ev_g rfl hW) rfl rfl) ?_
 refine Rg.vF rfl rfl rfl (fun hW => X.pickAndG hW (ev_g rfl hW) rfl rfl) ?_
 refine Rg.vN (X.pickOr rfl rfl rfl) rfl ?_
 refine Rg.st rfl rfl ?_
 refine Rg.go ?_
 refine Cd.weak [(4, .bool (((t_0 == 205) && ((c_1 == 3) || (c_1 == 4))) || ((t_0 == 206) && (((c_1 == 1) || (c_1 == 4)) || (c_1 == 15)))))] ⟨rfl, trivial⟩ ?_
 refine Cd.ret ?_
 obtain rfl := some_s h0
 exact fun a ha => Cd.retA (R := Re (Po50 S0 w0 [] _)) ha Try.results50 ⟨_, _, rfl, rfl, rfl⟩ ⟨_, rfl, S0, rfl, hs⟩
noncomputable def limelightref6_empty (G_0 : api_Report) : Option Bool :=
 if ((((G_0.Kind == 6) && (G_0.From != 0)) || ((G_0.Kind != 3) && (G_0.About != 0))) || (((G_0.Kind != 1) && (G_0.Kind != 2)) && (decide (0 < (G_0.Tuples.length : Int))))) = true then (
  some false)
 else (
  if (((((G_0.Kind != 4) && (G_0.Kind != 5)) && (decide (0 < (G_0.Abouts.length : Int)))) || ((G_0.Kind != 4) && (decide (0 < (G_0.Numbers.length : Int))))) || ((G_0.Kind != 5) && (G_0.Rate != 0))) = true then (
   some false)
  else (
   some ((G_0.Kind == 6) || (((G_0.Type_ == 0) && (G_0.Count == 0)) && ((G_0.Body.length : Int) == 0)))))
def Po51 (S0 : Mp) (w0 : World) (D : List Nat) (r : Bool) (v : Value) (w1 : World) : Prop :=
  ∃ (S1 : Mp), v = .bool r ∧ St w0 D S0 S1 [] w1
set_option maxHeartbeats 4000000 in
theorem c51 (S0 : Mp) {w0 : World} (hs : St w0 [] S0 S0 [] w0) (G_0 : api_Report) (v1 : Value) (f2 : Rd S0 3 R_api_Tuple v1 G_0.Tuples) (v3 : Value) (f4 : Rd S0 1 (RI .u32) v3 G_0.Abouts) (v5 : Value) (f6 : Rd S0 1 (RI .i64) v5 G_0.Numbers) (v7 : Value) (f8 : Rd S0 1 (RI .u8) v7 G_0.Body) (r : Bool) (h0 : limelightref6_empty G_0 = some r) :
    Calls Try.prog 51 #[.agg (#[.int .i64 G_0.Kind, .int .u32 G_0.From, .int .u32 G_0.About, v1, v3, v5, .int .u64 G_0.Rate, .int .i64 G_0.Type_, .int .i64 G_0.Count, v7])] w0 (Re (Po51 S0 w0 [] r)) := by
 unfold limelightref6_empty at h0
 refine calls_of_cd Try.func51 rfl Try.ntmps51 rfl ?_
 refine Cd.sr ?_
 refine Rg.step rfl (Oq.box (cs := #[.int .i64 G_0.Kind, .int .u32 G_0.From, .int .u32 G_0.About, v1, v3, v5, .int .u64 G_0.Rate, .int .i64 G_0.Type_, .int .i64 G_0.Count, v7]) hs rfl rfl rfl (fun b9 w10 hs => ?_))
 refine Rg.st rfl rfl ?_
 refine Rg.go ?_
 refine Cd.sr ?_
 refine Rg.vN (X.fieldB Try.underlying33 rfl zz3 rfl rfl) rfl ?_
 refine Rg.vN (X.load1 Try.underlying3 rfl rfl (hs.cell 0 rfl 0 rfl)) rfl ?_
 refine Rg.st rfl rfl ?_
 refine Rg.go ?_
 refine Cd.seq ?_
 refine Cd.sr ?_
 refine Rg.mv rfl rfl ?_
 refine Rg.vN (X.eql rfl rfl) rfl ?_
 refine Rg.mv rfl rfl ?_
 refine Rg.vT rfl rfl rfl (fun hW => X.fieldB Try.underlying33 rfl zz27 rfl rfl) ?_
 refine Rg.vT rfl rfl rfl (fun hW => X.load1 Try.underlying27 rfl (ev_g rfl hW) (hs.cell 0 rfl 1 rfl)) ?_
 refine Rg.vT rfl rfl rfl (fun hW => X.neq (ev_g rfl hW) rfl) ?_
 refine Rg.vN (X.pickAnd rfl rfl rfl) rfl ?_
 refine Rg.mv rfl rfl ?_
 refine Rg.vF rfl rfl rfl (fun hW => X.move rfl) ?_
 refine Rg.vF rfl rfl rfl (fun hW => X.neq (ev_g rfl hW) rfl) ?_
 refine Rg.vF rfl rfl rfl (fun hW => X.move (ev_g rfl hW)) ?_
 refine Rg.weak [(1, .pointer (some ⟨b9, 0, none⟩)), (3, .int .i64 G_0.Kind), (13, .bool ((G_0.Kind == 6) && (G_0.From != 0))), (16, gv (!((G_0.Kind == 6) && (G_0.From != 0))) (.bool (G_0.Kind != 3)))] ⟨rfl, rfl, rfl, rfl, trivial⟩ ?_
 refine Rg.vGT rfl rfl rfl (fun hW => X.fieldB Try.underlying33 rfl zz27 rfl rfl) ?_
 refine Rg.vGT rfl rfl rfl (fun hW => X.load1 Try.underlying27 rfl (ev_g rfl hW) (hs.cell 0 rfl 2 rfl)) ?_
 refine Rg.vGT rfl rfl rfl (fun hW => X.neq (ev_g rfl hW) rfl) ?_
 refine Rg.vF rfl rfl rfl (fun hW => X.pickAndG hW (ev_g rfl hW) rfl rfl) ?_
 refine Rg.vN (X.pickOr rfl rfl rfl) rfl ?_
 refine Rg.mv rfl rfl ?_
 refine Rg.vF rfl rfl rfl (fun hW => X.move rfl) ?_
 refine Rg.vF rfl rfl rfl (fun hW => X.neq (ev_g rfl hW) rfl) ?_
 refine Rg.vF rfl rfl rfl (fun hW => X.move (ev_g rfl hW)) ?_
 refine Rg.vGT rfl rfl rfl (fun hW => X.move rfl) ?_
 refine Rg.vGT rfl rfl rfl (fun hW => X.neq (ev_g rfl hW) rfl) ?_
 refine Rg.weak [(1, .pointer (some ⟨b9, 0, none⟩)), (3, .int .i64 G_0.Kind), (22, .bool (((G_0.Kind == 6) && (G_0.From != 0)) || ((G_0.Kind != 3) && (G_0.About != 0)))), (25, gv (!(((G_0.Kind == 6) && (G_0.From != 0)) || ((G_0.Kind != 3) && (G_0.About != 0)))) (.bool (G_0.Kind != 1))), (27, gv ((!(((G_0.Kind == 6) && (G_0.From != 0)) || ((G_0.Kind != 3) && (G_0.About != 0)))) && (G_0.Kind != 1)) (.bool (G_0.Kind != 2)))] ⟨rfl, rfl, rfl, rfl, rfl, trivial⟩ ?_
 refine Rg.vF rfl rfl rfl (fun hW => X.pickAndG hW (ev_g rfl hW) rfl rfl) ?_
 refine Rg.vF rfl rfl rfl (fun hW => X.move (ev_g rfl hW)) ?_
 refine Rg.vGT rfl rfl rfl (fun hW => X.fieldB Try.underlying33 rfl zz28 rfl rfl) ?_
 refine Rg.vGT rfl rfl rfl (fun hW => X.load1 Try.underlying28 rfl (ev_g rfl hW) (hs.cell 0 rfl 3 rfl)) ?_
 refine Rg.vGT rfl rfl rfl (fun hW => X.lenR Try.underlying28 (ev_g rfl hW) f2) ?_
 refine Rg.vGT rfl rfl rfl (fun hW => X.gtr (ev_g rfl hW) rfl) ?_
 refine Rg.vF rfl rfl rfl (fun hW => X.pickAndG hW (ev_g rfl hW) rfl rfl) ?_
 refine Rg.vN (X.pickOr rfl rfl rfl) rfl ?_
 refine Rg.go ?_
 refine Cd.cond (t := (((G_0.Kind == 6) && (G_0.From != 0)) || ((G_0.Kind != 3) && (G_0.About != 0))) || (((G_0.Kind != 1) && (G_0.Kind != 2)) && (decide (0 < (G_0.Tuples.length : Int))))) rfl (fun hc12 => ?_) (fun hc12 => ?_)
 ·have h0 := ite_t hc12 h0
  refine Cd.sr ?_
  refine Rg.st rfl rfl ?_
  refine Rg.go ?_
  refine Cd.ret ?_
  obtain rfl := some_s h0
  exact fun a ha => Cd.retA (R := Re (Po51 S0 w0 [] _)) ha Try.results51 ⟨_, _, rfl, rfl, rfl⟩ ⟨_, rfl, S0, rfl, (hs.pick [] (by decide) rfl)⟩
 ·have h0 := ite_f hc12 h0
  refine Cd.sg ?_
  refine Cd.seq ?_
  refine Cd.sr ?_
  refine Rg.mv rfl rfl ?_
  refine Rg.vN (X.neq rfl rfl) rfl ?_
  refine Rg.weak [(1, .pointer (some ⟨b9, 0, none⟩)), (3, .int .i64 G_0.Kind), (37, .bool (G_0.Kind != 4))] ⟨rfl, rfl, rfl, trivial⟩ ?_
  refine Rg.mv rfl rfl ?_
  refine Rg.vT rfl rfl rfl (fun hW => X.move rfl) ?_
  refine Rg.vT rfl rfl rfl (fun hW => X.neq (ev_g rfl hW) rfl) ?_
  refine Rg.vN (X.pickAnd rfl rfl rfl) rfl ?_
  refine Rg.mv rfl rfl ?_
  refine Rg.vT rfl rfl rfl (fun hW => X.fieldB Try.underlying33 rfl zz29 rfl rfl) ?_
  refine Rg.vT rfl rfl rfl (fun hW => X.load1 Try.underlying29 rfl (ev_g rfl hW) (hs.cell 0 rfl 4 rfl)) ?_
  refine Rg.vT rfl rfl rfl (fun hW => X.lenR Try.underlying29 (ev_g rfl hW) f4) ?_
  refine Rg.vT rfl rfl rfl (fun hW => X.gtr (ev_g rfl hW) rfl) ?_
  refine Rg.vN (X.pickAnd rfl rfl rfl) rfl ?_
  refine Rg.mv rfl rfl ?_
  refine Rg.vF rfl rfl rfl (fun hW => X.move rfl) ?_
  refine Rg.weak [(1, .pointer (some ⟨b9, 0, none⟩)), (3, .int .i64 G_0.Kind), (48, .bool (((G_0.Kind != 4) && (G_0.Kind != 5)) && (decide (0 < (G_0.Abouts.length : Int))))), (49, gv (!(((G_0.Kind != 4) && (G_0.Kind != 5)) && (decide (0 < (G_0.Abouts.length : Int))))) (.int .i64 G_0.Kind))] ⟨rfl, rfl, rfl, rfl, trivial⟩ ?_
  refine Rg.vF rfl rfl rfl (fun hW => X.neq (ev_g rfl hW) rfl) ?_
  refine Rg.vF rfl rfl rfl (fun hW => X.move (ev_g rfl hW)) ?_
  refine Rg.vGT rfl rfl rfl (fun hW => X.fieldB Try.underlying33 rfl zz23 rfl rfl) ?_
  refine Rg.vGT rfl rfl rfl (fun hW => X.load1 Try.underlying23 rfl (ev_g rfl hW) (hs.cell 0 rfl 5 rfl)) ?_
  refine Rg.vGT rfl rfl rfl (fun hW => X.lenR Try.underlying23 (ev_g rfl hW) f6) ?_
  refine Rg.vGT rfl rfl rfl (fun hW => X.gtr (ev_g rfl hW) rfl) ?_
  refine Rg.vF rfl rfl rfl (fun hW => X.pickAndG hW (ev_g rfl hW) rfl rfl) ?_
  refine Rg.vN (X.pickOr rfl rfl rfl) rfl ?_
  refine Rg.mv rfl rfl ?_
  refine Rg.vF rfl rfl rfl (fun hW => X.move rfl) ?_
  refine Rg.vF rfl rfl rfl (fun hW => X.neq (ev_g rfl hW) rfl) ?_
  refine Rg.weak [(1, .pointer (some ⟨b9, 0, none⟩)), (3, .int .i64 G_0.Kind), (58, .bool ((((G_0.Kind != 4) && (G_0.Kind != 5)) && (decide (0 < (G_0.Abouts.length : Int)))) || ((G_0.Kind != 4) && (decide (0 < (G_0.Numbers.length : Int)))))), (60, gv (!((((G_0.Kind != 4) && (G_0.Kind != 5)) && (decide (0 < (G_0.Abouts.length : Int)))) || ((G_0.Kind != 4) && (decide (0 < (G_0.Numbers.length : Int)))))) (.bool (G_0.Kind != 5)))] ⟨rfl, rfl, rfl, rfl, trivial⟩ ?_
  refine Rg.vF rfl rfl rfl (fun hW => X.move (ev_g rfl hW)) ?_
  refine Rg.vGT rfl rfl rfl (fun hW => X.fieldB Try.underlying33 rfl zz30 rfl rfl) ?_
  refine Rg.vGT rfl rfl rfl (fun hW => X.load1 Try.underlying30 rfl (ev_g rfl hW) (hs.cell 0 rfl 6 rfl)) ?_
  refine Rg.vGT rfl rfl rfl (fun hW => X.neq (ev_g rfl hW) rfl) ?_
  refine Rg.vF rfl rfl rfl (fun hW => X.pickAndG hW (ev_g rfl hW) rfl rfl) ?_
  refine Rg.vN (X.pickOr rfl rfl rfl) rfl ?_
  refine Rg.go ?_
  refine Cd.cond (t := ((((G_0.Kind != 4) && (G_0.Kind != 5)) && (decide (0 < (G_0.Abouts.length : Int)))) || ((G_0.Kind != 4) && (decide (0 < (G_0.Numbers.length : Int))))) || ((G_0.Kind != 5) && (G_0.Rate != 0))) rfl (fun hc13 => ?_) (fun hc13 => ?_)
  ·have h0 := ite_t hc13 h0
   refine Cd.sr ?_
   refine Rg.st rfl rfl ?_
   refine Rg.go ?_
   refine Cd.ret ?_
   obtain rfl := some_s h0
   exact fun a ha => Cd.retA (R := Re (Po51 S0 w0 [] _)) ha Try.results51 ⟨_, _, rfl, rfl, rfl⟩ ⟨_, rfl, S0, rfl, (hs.pick [] (by decide) rfl)⟩
  ·have h0 := ite_f hc13 h0
   refine Cd.sg ?_
   refine Cd.sr ?_
   refine Rg.mv rfl rfl ?_
   refine Rg.vN (X.eql rfl rfl) rfl ?_
   refine Rg.mv rfl rfl ?_
   refine Rg.vF rfl rfl rfl (fun hW => X.fieldB Try.underlying33 rfl zz3 rfl rfl) ?_
   refine Rg.vF rfl rfl rfl (fun hW => X.load1 Try.underlying3 rfl (ev_g rfl hW) (hs.cell 0 rfl 7 rfl)) ?_
   refine Rg.weak [(1, .pointer (some ⟨b9, 0, none⟩)), (69, .bool (G_0.Kind == 6)), (71, gv (!(G_0.Kind == 6)) (.int .i64 G_0.Type_))] ⟨rfl, rfl, rfl, trivial⟩ ?_
   refine Rg.vF rfl rfl rfl (fun hW => X.eql (ev_g rfl hW) rfl) ?_
   refine Rg.vF rfl rfl rfl (fun hW => X.move (ev_g rfl hW)) ?_
   refine Rg.vGT rfl rfl rfl (fun hW => X.fieldB Try.underlying33 rfl zz3 rfl rfl) ?_
   refine Rg.vGT rfl rfl rfl (fun hW => X.load1 Try.underlying3 rfl (ev_g rfl hW) (hs.cell 0 rfl 8 rfl)) ?_
   refine Rg.vGT rfl rfl rfl (fun hW => X.eql (ev_g rfl hW) rfl) ?_
   refine Rg.vF rfl rfl rfl (fun hW => X.pickAndG hW (ev_g rfl hW) rfl rfl) ?_
   refine Rg.vF rfl rfl rfl (fun hW => X.move (ev_g rfl hW)) ?_
   refine Rg.vGT rfl rfl rfl (fun hW => X.fieldB Try.underlying33 rfl zz31 rfl rfl) ?_
   refine Rg.vGT rfl rfl rfl (fun hW => X.load1 Try.underlying31 rfl (ev_g rfl hW) (hs.cell 0 rfl 9 rfl)) ?_
   refine Rg.vGT rfl rfl rfl (fun hW => X.lenR Try.underlying31 (ev_g rfl hW) f8) ?_
   refine Rg.vGT rfl rfl rfl (fun hW => X.eql (ev_g rfl hW) rfl) ?_
   refine Rg.vF rfl rfl rfl (fun hW => X.pickAndG hW (ev_g rfl hW) rfl rfl) ?_
   refine Rg.weak [(69, .bool (G_0.Kind == 6)), (83, gv (!(G_0.Kind == 6)) (.bool (((G_0.Type_ == 0) && (G_0.Count == 0)) && ((G_0.Body.length : Int) == 0))))] ⟨rfl, rfl, trivial⟩ ?_
   refine Rg.vN (X.pickOr rfl rfl rfl) rfl ?_
   refine Rg.st rfl rfl ?_
   refine Rg.go ?_
   refine Cd.ret ?_
   obtain rfl := some_s h0
   exact fun a ha => Cd.retA (R := Re (Po51 S0 w0 [] _)) ha Try.results51 ⟨_, _, rfl, rfl, rfl⟩ ⟨_, rfl, S0, rfl, (hs.pick [] (by decide) rfl)⟩
noncomputable def limelightref6_Right_l0 (G_0 : api_Report) (q69 : Bool) (q70 : Int) : Option (Flow (Bool × Int) Int) :=
 if (decide (q70 < (G_0.Numbers.length : Int))) = true then (
  (ix G_0.Numbers q70).bind fun x80 =>
  some (Flow.next ((q69 && (decide (0 ≤ x80))) && (decide (x80 ≤ 255)), add .i64 q70 1)))
 else (
  some (Flow.brk (q69, q70)))
noncomputable def limelightref6_Right (G_0 : api_Report) : Option Int :=
 if ((decide (G_0.Kind < 1)) || (decide (6 < G_0.Kind))) = true then (
  some 12)
 else (
  ((
   ((
    if (G_0.Kind == 1) = true then (
     some (G_0.Kind == 1))
    else (
     some (G_0.Kind == 2)) : Option Bool)).bind fun p31 =>
   ((
    if p31 = true then (
     (limelightref6_tuples G_0.Tuples).bind fun x45 =>
     some x45)
    else (
     ((
      if (G_0.Kind == 4) = true then (
       (loopF (fun sg => limelightref6_Right_l0 G_0 sg.1 sg.2) ((((G_0.Abouts.length : Int) == (G_0.Numbers.length : Int)) && (decide (1 ≤ (G_0.Abouts.length : Int)))) && (decide ((G_0.Abouts.length : Int) ≤ 16)), 0)).bind fun fl61 =>
       Flow.el fl61 (fun s87 => (
        none))
       (fun s88 => (
        some s88.1))
       (fun r89 => (
        none)))
      else (
       ((
        if (G_0.Kind == 5) = true then (
         ((
          if (decide ((G_0.Abouts.length : Int) ≤ 16)) = true then (
           (limelightref1_Down G_0.Rate 18).bind fun x107 =>
           some (x107 == G_0.Rate))
          else (
           some false) : Option Bool)).bind fun p99 =>
         some p99)
        else (
         ((
          if (G_0.Kind == 6) = true then (
           ((
            if ((((((decide (192 ≤ G_0.Type_)) && (decide (G_0.Type_ ≤ 223))) && (decide (0 ≤ G_0.Count))) && (decide (G_0.Count ≤ 31))) && ((rem .i64 (G_0.Body.length : Int) 4) == 0)) && (decide ((G_0.Body.length : Int) ≤ 262140))) = true then (
             (limelightref6_known G_0.Type_ G_0.Count).bind fun x131 =>
             some (!x131))
            else (
             some false) : Option Bool)).bind fun p124 =>
           some p124)
          else (
           some true) : Option Bool)).bind fun p116 =>
         some p116) : Option Bool)).bind fun p91 =>
       some p91) : Option Bool)).bind fun p54 =>
     some p54) : Option Bool)).bind fun p38 =>
   some p38 : Option Bool)).bind fun p14 =>
  if (!p14) = true then (
   some 1)
  else (
   (limelightref6_empty G_0).bind fun x21 =>
   if (!x21) = true then (
    some 12)
   else (
    some 0)))
def Po32 (S0 : Mp) (w0 : World) (D : List Nat) (r : Int) (v : Value) (w1 : World) : Prop :=
  ∃ (S1 : Mp), v = .int .i64 r ∧ St w0 D S0 S1 [] w1
set_option maxHeartbeats 4000000 in
theorem c32 (S0 : Mp) {w0 : World} (hs : St w0 [] S0 S0 [] w0) (G_0 : api_Report) (v1 : Value) (f2 : Rd S0 3 R_api_Tuple v1 G_0.Tuples) (v3 : Value) (f4 : Rd S0 1 (RI .u32) v3 G_0.Abouts) (v5 : Value) (f6 : Rd S0 1 (RI .i64) v5 G_0.Numbers) (v7 : Value) (f8 : Rd S0 1 (RI .u8) v7 G_0.Body) (r : Int) (h0 : limelightref6_Right G_0 = some r) :
    Calls Try.prog 32 #[.agg (#[.int .i64 G_0.Kind, .int .u32 G_0.From, .int .u32 G_0.About, v1, v3, v5, .int .u64 G_0.Rate, .int .i64 G_0.Type_, .int .i64 G_0.Count, v7])] w0 (Re (Po32 S0 w0 [] r)) := by
 unfold limelightref6_Right at h0
 refine calls_of_cd Try.func32 rfl Try.ntmps32 rfl ?_
 refine Cd.sr ?_
 refine Rg.step rfl (Oq.box (cs := #[.int .i64 G_0.Kind, .int .u32 G_0.From, .int .u32 G_0.About, v1, v3, v5, .int .u64 G_0.Rate, .int .i64 G_0.Type_, .int .i64 G_0.Count, v7]) hs rfl rfl rfl (fun b9 w10 hs => ?_))
 refine Rg.st rfl rfl ?_
 refine Rg.go ?_
 refine Cd.seq ?_
 refine Cd.sr ?_
 refine Rg.vN (X.fieldB Try.underlying33 rfl zz3 rfl rfl) rfl ?_
 refine Rg.vN (X.load1 Try.underlying3 rfl rfl (hs.cell 0 rfl 0 rfl)) rfl ?_
 refine Rg.vN (X.lss rfl rfl) rfl ?_
 refine Rg.mv rfl rfl ?_
 refine Rg.vF rfl rfl rfl (fun hW => X.fieldB Try.underlying33 rfl zz3 rfl rfl) ?_
 refine Rg.vF rfl rfl rfl (fun hW => X.load1 Try.underlying3 rfl (ev_g rfl hW) (hs.cell 0 rfl 0 rfl)) ?_
 refine Rg.vF rfl rfl rfl (fun hW => X.gtr (ev_g rfl hW) rfl) ?_
 refine Rg.vN (X.pickOr rfl rfl rfl) rfl ?_
 refine Rg.go ?_
 refine Cd.cond (t := (decide (G_0.Kind < 1)) || (decide (6 < G_0.Kind))) rfl (fun hc12 => ?_) (fun hc12 => ?_)
 ·have h0 := ite_t hc12 h0
  refine Cd.sr ?_
  refine Rg.st rfl rfl ?_
  refine Rg.go ?_
  refine Cd.ret ?_
  obtain rfl := some_s h0
  exact fun a ha => Cd.retA (R := Re (Po32 S0 w0 [] _)) ha Try.results32 ⟨_, _, rfl, rfl, rfl⟩ ⟨_, rfl, S0, rfl, (hs.pick [] (by decide) rfl)⟩
 ·have h0 := ite_f hc12 h0
  refine Cd.sg ?_
  refine Cd.sr ?_
  refine Rg.st rfl rfl ?_
  refine Rg.go ?_
  refine Cd.seq ?_
  refine Cd.sr ?_
  refine Rg.vN (X.fieldB Try.underlying33 rfl zz3 rfl rfl) rfl ?_
  refine Rg.vN (X.load1 Try.underlying3 rfl rfl (hs.cell 0 rfl 0 rfl)) rfl ?_
  refine Rg.go ?_
  obtain ⟨p14, hp15, h0⟩ := bind_s h0
  refine Cd.post (fun K w => ∃ (S16 : Mp), K = [(1, .pointer (some ⟨b9, 0, none⟩)), (3, .bool p14)] ∧ Le S0 S16 ∧ St w0 [] S0 S16 [.box b9 #[.int .i64 G_0.Kind, .int .u32 G_0.From, .int .u32 G_0.About, v1, v3, v5, .int .u64 G_0.Rate, .int .i64 G_0.Type_, .int .i64 G_0.Count, v7] 33] w) ?_ ?_
  ·rintro K19 w17 ⟨S16, rfl, le18, hs⟩
   refine Cd.go ?_
   refine Cd.seq ?_
   refine Cd.sr ?_
   refine Rg.mv rfl rfl ?_
   refine Rg.vN (X.not rfl) rfl ?_
   refine Rg.go ?_
   refine Cd.cond (t := !p14) rfl (fun hc20 => ?_) (fun hc20 => ?_)
   ·have h0 := ite_t hc20 h0
    refine Cd.sr ?_
    refine Rg.st rfl rfl ?_
    refine Rg.go ?_
    refine Cd.weak [(2, .int .i64 1)] ⟨rfl, trivial⟩ ?_
    refine Cd.ret ?_
    obtain rfl := some_s h0
    exact fun a ha => Cd.retA (R := Re (Po32 S0 w0 [] _)) ha Try.results32 ⟨_, _, rfl, rfl, rfl⟩ ⟨_, rfl, S16, rfl, (hs.pick [] (by decide) rfl)⟩
   ·have h0 := ite_f hc20 h0
    refine Cd.sg ?_
    refine Cd.seq ?_
    refine Cd.sr ?_
    refine Rg.vN (X.loadN (vals := [.int .i64 G_0.Kind, .int .u32 G_0.From, .int .u32 G_0.About, v1, v3, v5, .int .u64 G_0.Rate, .int .i64 G_0.Type_, .int .i64 G_0.Count, v7]) Try.underlying33 rfl zz33 rfl (hs.range 0 rfl 0 rfl)) rfl ?_
    refine Rg.weak [(117, .agg (#[.int .i64 G_0.Kind, .int .u32 G_0.From, .int .u32 G_0.About, v1, v3, v5, .int .u64 G_0.Rate, .int .i64 G_0.Type_, .int .i64 G_0.Count, v7]))] ⟨rfl, trivial⟩ ?_
    obtain ⟨x21, hx22, h0⟩ := bind_s h0
    refine Rg.step rfl (Oq.call Try.call51 rfl rfl (c51 S16 (St.start _ _ hs.has) G_0 _ (f2.mono le18) _ (f4.mono le18) _ (f6.mono le18) _ (f8.mono le18) _ hx22) (fun v23 w24 h25 => ?_))
    obtain ⟨S26, rfl, hs27⟩ := h25
    have le28 := hs27.le
    have hs := hs.call0 hs27
    refine Rg.vN (X.not rfl) rfl ?_
    refine Rg.go ?_
    refine Cd.cond (t := !x21) rfl (fun hc29 => ?_) (fun hc29 => ?_)
    ·have h0 := ite_t hc29 h0
     refine Cd.sr ?_
     refine Rg.st rfl rfl ?_
     refine Rg.go ?_
     refine Cd.ret ?_
     obtain rfl := some_s h0
     exact fun a ha => Cd.retA (R := Re (Po32 S0 w0 [] _)) ha Try.results32 ⟨_, _, rfl, rfl, rfl⟩ ⟨_, rfl, S26, rfl, (hs.pick [] (by decide) rfl)⟩
    ·have h0 := ite_f hc29 h0
     refine Cd.sg ?_
     refine Cd.sr ?_
     refine Rg.st rfl rfl ?_
     refine Rg.go ?_
     refine Cd.ret ?_
     obtain rfl := some_s h0
     exact fun a ha => Cd.retA (R := Re (Po32 S0 w0 [] _)) ha Try.results32 ⟨_, _, rfl, rfl, rfl⟩ ⟨_, rfl, S26, rfl, (hs.pick [] (by decide) rfl)⟩
  ·skip
   refine Cd.block ?_
   refine Cd.seq ?_
   refine Cd.sr ?_
   refine Rg.vN (X.eql rfl rfl) rfl ?_
   refine Rg.st rfl rfl ?_
   refine Rg.go ?_
   obtain ⟨p31, hp32, hp15⟩ := bind_s hp15
   refine Cd.post (fun K w => ∃ (S33 : Mp), K = [(1, .pointer (some ⟨b9, 0, none⟩)), (3, .bool true), (15, .int .i64 G_0.Kind), (16, .bool p31)] ∧ Le S0 S33 ∧ St w0 [] S0 S33 [.box b9 #[.int .i64 G_0.Kind, .int .u32 G_0.From, .int .u32 G_0.About, v1, v3, v5, .int .u64 G_0.Rate, .int .i64 G_0.Type_, .int .i64 G_0.Count, v7] 33] w) ?_ ?_
   ·rintro K36 w34 ⟨S33, rfl, le35, hs⟩
    refine Cd.go ?_
    obtain ⟨p38, hp39, hp15⟩ := bind_s hp15
    refine Cd.post (fun K w => ∃ (S40 : Mp), K = [(1, .pointer (some ⟨b9, 0, none⟩)), (3, .bool p38)] ∧ Le S33 S40 ∧ St w0 [] S0 S40 [.box b9 #[.int .i64 G_0.Kind, .int .u32 G_0.From, .int .u32 G_0.About, v1, v3, v5, .int .u64 G_0.Rate, .int .i64 G_0.Type_, .int .i64 G_0.Count, v7] 33] w) ?_ ?_
    ·rintro K43 w41 ⟨S40, rfl, le42, hs⟩
     obtain rfl := some_s hp15
     exact fun a ha => ⟨[(1, .pointer (some ⟨b9, 0, none⟩)), (3, .bool p38)], ha.weak ⟨rfl, rfl, trivial⟩, S40, rfl, (le35.trans le42), hs⟩
    ·skip
     refine Cd.cond (t := p31) rfl (fun hc44 => ?_) (fun hc44 => ?_)
     ·have hp39 := ite_t hc44 hp39
      refine Cd.region ?_
      refine Rg.vN (X.fieldB Try.underlying33 rfl zz28 rfl rfl) rfl ?_
      refine Rg.weak [(1, .pointer (some ⟨b9, 0, none⟩)), (19, .pointer (some ⟨b9, 3, none⟩))] ⟨rfl, rfl, trivial⟩ ?_
      refine Rg.vN (X.load1 Try.underlying28 rfl rfl (hs.cell 0 rfl 3 rfl)) rfl ?_
      obtain ⟨x45, hx46, hp39⟩ := bind_s hp39
      refine Rg.step rfl (Oq.call Try.call49 rfl rfl (c49 S33 (St.start _ _ hs.has) _ _ (f2.mono le35) _ hx46) (fun v47 w48 h49 => ?_))
      obtain ⟨S50, rfl, hs51⟩ := h49
      have le52 := hs51.le
      have hs := hs.call0 hs51
      refine Rg.st rfl rfl ?_
      refine Rg.nil ?_
      obtain rfl := some_s hp39
      exact fun a ha => ⟨[(1, .pointer (some ⟨b9, 0, none⟩)), (3, .bool x45)], ha.weak ⟨rfl, rfl, trivial⟩, S50, rfl, le52, hs⟩
     ·have hp39 := ite_f hc44 hp39
      refine Cd.sr ?_
      refine Rg.vN (X.eql rfl rfl) rfl ?_
      refine Rg.st rfl rfl ?_
      refine Rg.go ?_
      refine Cd.weak [(1, .pointer (some ⟨b9, 0, none⟩)), (3, .bool true), (15, .int .i64 G_0.Kind), (22, .bool (G_0.Kind == 4))] ⟨rfl, rfl, rfl, rfl, trivial⟩ ?_
      obtain ⟨p54, hp55, hp39⟩ := bind_s hp39
      refine Cd.post (fun K w => ∃ (S56 : Mp), K = [(1, .pointer (some ⟨b9, 0, none⟩)), (3, .bool p54)] ∧ Le S33 S56 ∧ St w0 [] S0 S56 [.box b9 #[.int .i64 G_0.Kind, .int .u32 G_0.From, .int .u32 G_0.About, v1, v3, v5, .int .u64 G_0.Rate, .int .i64 G_0.Type_, .int .i64 G_0.Count, v7] 33] w) ?_ ?_
      ·rintro K59 w57 ⟨S56, rfl, le58, hs⟩
       obtain rfl := some_s hp39
       exact fun a ha => ⟨[(1, .pointer (some ⟨b9, 0, none⟩)), (3, .bool p54)], ha.weak ⟨rfl, rfl, trivial⟩, S56, rfl, le58, hs⟩
      ·skip
       refine Cd.cond (t := G_0.Kind == 4) rfl (fun hc60 => ?_) (fun hc60 => ?_)
       ·have hp55 := ite_t hc60 hp55
        refine Cd.sr ?_
        refine Rg.vN (X.fieldB Try.underlying33 rfl zz29 rfl rfl) rfl ?_
        refine Rg.vN (X.load1 Try.underlying29 rfl rfl (hs.cell 0 rfl 4 rfl)) rfl ?_
        refine Rg.vN (X.lenR Try.underlying29 rfl (f4.mono le35)) rfl ?_
        refine Rg.vN (X.fieldB Try.underlying33 rfl zz23 rfl rfl) rfl ?_
        refine Rg.vN (X.load1 Try.underlying23 rfl rfl (hs.cell 0 rfl 5 rfl)) rfl ?_
        refine Rg.vN (X.lenR Try.underlying23 rfl (f6.mono le35)) rfl ?_
        refine Rg.vN (X.eql rfl rfl) rfl ?_
        refine Rg.mv rfl rfl ?_
        refine Rg.vT rfl rfl rfl (fun hW => X.fieldB Try.underlying33 rfl zz29 rfl rfl) ?_
        refine Rg.vT rfl rfl rfl (fun hW => X.load1 Try.underlying29 rfl (ev_g rfl hW) (hs.cell 0 rfl 4 rfl)) ?_
        refine Rg.vT rfl rfl rfl (fun hW => X.lenR Try.underlying29 (ev_g rfl hW) (f4.mono le35)) ?_
        refine Rg.weak [(1, .pointer (some ⟨b9, 0, none⟩)), (31, .bool ((G_0.Abouts.length : Int) == (G_0.Numbers.length : Int))), (34, gv ((G_0.Abouts.length : Int) == (G_0.Numbers.length : Int)) (.int .i64 (G_0.Abouts.length : Int)))] ⟨rfl, rfl, rfl, trivial⟩ ?_
        refine Rg.vT rfl rfl rfl (fun hW => X.geq (ev_g rfl hW) rfl) ?_
        refine Rg.vN (X.pickAnd rfl rfl rfl) rfl ?_
        refine Rg.mv rfl rfl ?_
        refine Rg.vT rfl rfl rfl (fun hW => X.fieldB Try.underlying33 rfl zz29 rfl rfl) ?_
        refine Rg.vT rfl rfl rfl (fun hW => X.load1 Try.underlying29 rfl (ev_g rfl hW) (hs.cell 0 rfl 4 rfl)) ?_
        refine Rg.vT rfl rfl rfl (fun hW => X.lenR Try.underlying29 (ev_g rfl hW) (f4.mono le35)) ?_
        refine Rg.vT rfl rfl rfl (fun hW => X.leq (ev_g rfl hW) rfl) ?_
        refine Rg.vN (X.pickAnd rfl rfl rfl) rfl ?_
        refine Rg.st rfl rfl ?_
        refine Rg.go ?_
        refine Cd.sr ?_
        refine Rg.vN (X.fieldB Try.underlying33 rfl zz23 rfl rfl) rfl ?_
        refine Rg.vN (X.load1 Try.underlying23 rfl rfl (hs.cell 0 rfl 5 rfl)) rfl ?_
        refine Rg.vN (X.lenR Try.underlying23 rfl (f6.mono le35)) rfl ?_
        refine Rg.mv rfl rfl ?_
        refine Rg.go ?_
        refine Cd.weak [(1, .pointer (some ⟨b9, 0, none⟩)), (3, .bool ((((G_0.Abouts.length : Int) == (G_0.Numbers.length : Int)) && (decide (1 ≤ (G_0.Abouts.length : Int)))) && (decide ((G_0.Abouts.length : Int) ≤ 16)))), (44, v5), (45, .int .i64 (G_0.Numbers.length : Int)), (46, .int .i64 0)] ⟨rfl, rfl, rfl, rfl, rfl, trivial⟩ ?_
        obtain ⟨fl61, hfl62, hp55⟩ := bind_s hp55
        refine Cd.post (fun K w => ∃ (j63 : Bool) (j64 : Int) (S65 : Mp), K = [(1, .pointer (some ⟨b9, 0, none⟩)), (3, .bool j63)] ∧ fl61 = Flow.brk (j63, j64) ∧ Le S33 S65 ∧ St w0 [] S0 S65 [.box b9 #[.int .i64 G_0.Kind, .int .u32 G_0.From, .int .u32 G_0.About, v1, v3, v5, .int .u64 G_0.Rate, .int .i64 G_0.Type_, .int .i64 G_0.Count, v7] 33] w) ?_ ?_
        ·rintro K68 w67 ⟨j63, j64, S65, rfl, rfl, le66, hs⟩
         have hp55 := el_brk hp55
         try dsimp only at hp55
         obtain rfl := some_s hp55
         exact fun a ha => ⟨[(1, .pointer (some ⟨b9, 0, none⟩)), (3, .bool j63)], ha.weak ⟨rfl, rfl, trivial⟩, S65, rfl, le66, hs⟩
        ·skip
         refine Cd.weak [(1, .pointer (some ⟨b9, 0, none⟩)), (3, .bool ((((G_0.Abouts.length : Int) == (G_0.Numbers.length : Int)) && (decide (1 ≤ (G_0.Abouts.length : Int)))) && (decide ((G_0.Abouts.length : Int) ≤ 16)))), (44, v5), (45, .int .i64 (G_0.Numbers.length : Int)), (46, .int .i64 0)] ⟨rfl, rfl, rfl, rfl, rfl, trivial⟩ ?_
         refine Cd.block (Cd.loop (fun sg => limelightref6_Right_l0 G_0 sg.1 sg.2) (fun (sg : (Bool × Int)) K w => ∃ (S71 : Mp), K = [(1, .pointer (some ⟨b9, 0, none⟩)), (3, .bool sg.1), (44, v5), (45, .int .i64 (G_0.Numbers.length : Int)), (46, .int .i64 sg.2)] ∧ Le S33 S71 ∧ St w0 [] S0 S71 [.box b9 #[.int .i64 G_0.Kind, .int .u32 G_0.From, .int .u32 G_0.About, v1, v3, v5, .int .u64 G_0.Rate, .int .i64 G_0.Type_, .int .i64 G_0.Count, v7] 33] w) ((((G_0.Abouts.length : Int) == (G_0.Numbers.length : Int)) && (decide (1 ≤ (G_0.Abouts.length : Int)))) && (decide ((G_0.Abouts.length : Int) ≤ 16)), 0) fl61 hfl62 ⟨S33, rfl, Le.refl _, hs⟩ ?_)
         rintro ⟨q69, q70⟩ fl73 K78 w77 hb74 ⟨S71, rfl, le72, hs⟩ hl75
         have h76 : limelightref6_Right_l0 G_0 q69 q70 = some fl73 := hb74
         unfold limelightref6_Right_l0 at h76
         refine Cd.sr ?_
         refine Rg.vN (X.lss rfl rfl) rfl ?_
         refine Rg.go ?_
         refine Cd.seq ?_
         refine Cd.cond (t := decide (q70 < (G_0.Numbers.length : Int))) rfl (fun hc79 => ?_) (fun hc79 => ?_)
         ·have h76 := ite_t hc79 h76
          refine Cd.sg ?_
          refine Cd.seq ?_
          refine Cd.block ?_
          refine Cd.sr ?_
          obtain ⟨x80, hx81, h76⟩ := bind_s h76
          obtain ⟨ad82, vals83, _, hR84, hE85, hX86⟩ := mk_index Try.underlying23 zz3 (by decide) (f6.mono (le35.trans le72)) hx81
          obtain rfl : vals83 = [.int .i64 x80] := hR84
          refine Rg.vN (hX86 rfl rfl) rfl ?_
          refine Rg.vN (X.load1 Try.underlying3 rfl rfl (hE85.at0 rfl hs.has)) rfl ?_
          refine Rg.st rfl rfl ?_
          refine Rg.go ?_
          refine Cd.region ?_
          refine Rg.mv rfl rfl ?_
          refine Rg.mv rfl rfl ?_
          refine Rg.vT rfl rfl rfl (fun hW => X.move rfl) ?_
          refine Rg.vT rfl rfl rfl (fun hW => X.geq (ev_g rfl hW) rfl) ?_
          refine Rg.vN (X.pickAnd rfl rfl rfl) rfl ?_
          refine Rg.mv rfl rfl ?_
          refine Rg.weak [(1, .pointer (some ⟨b9, 0, none⟩)), (5, .int .i64 x80), (44, v5), (45, .int .i64 (G_0.Numbers.length : Int)), (46, .int .i64 q70), (55, .bool (q69 && (decide (0 ≤ x80))))] ⟨rfl, rfl, rfl, rfl, rfl, rfl, trivial⟩ ?_
          refine Rg.vT rfl rfl rfl (fun hW => X.move rfl) ?_
          refine Rg.vT rfl rfl rfl (fun hW => X.leq (ev_g rfl hW) rfl) ?_
          refine Rg.vN (X.pickAnd rfl rfl rfl) rfl ?_
          refine Rg.st rfl rfl ?_
          refine Rg.nil ?_
          refine Cd.go ?_
          refine Cd.region ?_
          refine Rg.vN (X.add rfl rfl) rfl ?_
          refine Rg.mv rfl rfl ?_
          refine Rg.nil ?_
          exact fun a ha => ⟨((q69 && (decide (0 ≤ x80))) && (decide (x80 ≤ 255)), add .i64 q70 1), [(1, .pointer (some ⟨b9, 0, none⟩)), (3, .bool ((q69 && (decide (0 ≤ x80))) && (decide (x80 ≤ 255)))), (44, v5), (45, .int .i64 (G_0.Numbers.length : Int)), (46, .int .i64 (add .i64 q70 1))], (some_s h76).symm, ha.weak ⟨rfl, rfl, rfl, rfl, rfl, trivial⟩, S71, rfl, le72, hs⟩
         ·have h76 := ite_f hc79 h76
          refine Cd.exit ?_
          obtain rfl := some_s h76
          have e := hl75 (fun _ e => by cases e)
          exact fun a ha => ⟨[(1, .pointer (some ⟨b9, 0, none⟩)), (3, .bool q69)], ha.weak ⟨rfl, rfl, trivial⟩, _, _, S71, rfl, e.symm, le72, hs⟩
       ·have hp55 := ite_f hc60 hp55
        refine Cd.sr ?_
        refine Rg.vN (X.eql rfl rfl) rfl ?_
        refine Rg.st rfl rfl ?_
        refine Rg.go ?_
        obtain ⟨p91, hp92, hp55⟩ := bind_s hp55
        refine Cd.post (fun K w => ∃ (S93 : Mp), K = [(1, .pointer (some ⟨b9, 0, none⟩)), (3, .bool p91)] ∧ Le S33 S93 ∧ St w0 [] S0 S93 [.box b9 #[.int .i64 G_0.Kind, .int .u32 G_0.From, .int .u32 G_0.About, v1, v3, v5, .int .u64 G_0.Rate, .int .i64 G_0.Type_, .int .i64 G_0.Count, v7] 33] w) ?_ ?_
        ·rintro K96 w94 ⟨S93, rfl, le95, hs⟩
         obtain rfl := some_s hp55
         exact fun a ha => ⟨[(1, .pointer (some ⟨b9, 0, none⟩)), (3, .bool p91)], ha.weak ⟨rfl, rfl, trivial⟩, S93, rfl, le95, hs⟩
        ·skip
         refine Cd.cond (t := G_0.Kind == 5) rfl (fun hc97 => ?_) (fun hc97 => ?_)
         ·have hp92 := ite_t hc97 hp92
          obtain ⟨p99, hp100, hp92⟩ := bind_s hp92
          refine Cd.post (fun K w => ∃ (S101 : Mp), K = [(1, .pointer (some ⟨b9, 0, none⟩)), (3, .bool p99)] ∧ Le S33 S101 ∧ St w0 [] S0 S101 [.box b9 #[.int .i64 G_0.Kind, .int .u32 G_0.From, .int .u32 G_0.About, v1, v3, v5, .int .u64 G_0.Rate, .int .i64 G_0.Type_, .int .i64 G_0.Count, v7] 33] w) ?_ ?_
          ·rintro K104 w102 ⟨S101, rfl, le103, hs⟩
           obtain rfl := some_s hp92
           exact fun a ha => ⟨[(1, .pointer (some ⟨b9, 0, none⟩)), (3, .bool p99)], ha.weak ⟨rfl, rfl, trivial⟩, S101, rfl, le103, hs⟩
          ·skip
           refine Cd.rD mixed (fun l w => Has S33 w ∧ Hp b9 #[.int .i64 G_0.Kind, .int .u32 G_0.From, .int .u32 G_0.About, v1, v3, v5, .int .u64 G_0.Rate, .int .i64 G_0.Type_, .int .i64 G_0.Count, v7] 33 w) hs (fun _ _ _ _ _ h => h) (by kernel_rfl) (fun w105 hs => ⟨⟨hs.has, (hs.heap 0 rfl)⟩, ?_⟩)
           refine Rk.tN 0 rfl rfl (fun _ _ => X.fieldB Try.underlying33 rfl zz29 rfl rfl) ?_
           refine Rk.tN 1 rfl rfl (fun w hc => X.load1 Try.underlying29 rfl rfl (heap_cell hc.2 rfl)) ?_
           refine Rk.tN 2 rfl rfl (fun _ _ => X.lenR Try.underlying29 rfl (f4.mono le35)) ?_
           refine Rk.tN 3 rfl rfl (fun _ _ => X.leq rfl rfl) ?_
           refine Rk.tN 4 rfl rfl (fun _ _ => X.move rfl) ?_
           refine Rk.tT 5 rfl rfl rfl rfl (fun hW => fun _ _ => X.fieldB Try.underlying33 rfl zz30 rfl rfl) ?_
           refine Rk.tT 6 rfl rfl rfl rfl (fun hW => fun w hc => X.load1 Try.underlying30 rfl (ev_g rfl hW) (heap_cell hc.2 rfl)) ?_
           refine Rk.tT 8 rfl rfl rfl rfl (fun hW => fun _ _ => X.fieldB Try.underlying33 rfl zz30 rfl rfl) ?_
           refine Rk.tT 9 rfl rfl rfl rfl (fun hW => fun w hc => X.load1 Try.underlying30 rfl (ev_g rfl hW) (heap_cell hc.2 rfl)) ?_
           refine Rk.weak [(1, .pointer (some ⟨b9, 0, none⟩)), (3, .bool true), (66, .bool (decide ((G_0.Abouts.length : Int) ≤ 16))), (68, gv (decide ((G_0.Abouts.length : Int) ≤ 16)) (.int .u64 G_0.Rate)), (71, gv (decide ((G_0.Abouts.length : Int) ≤ 16)) (.int .u64 G_0.Rate))] ⟨rfl, rfl, rfl, rfl, rfl, trivial⟩ ?_
           refine Rk.split (b := decide ((G_0.Abouts.length : Int) ≤ 16)) (tj := 66) rfl (fun hc106 => ?_) (fun hc106 => ?_)
           ·have hp100 := ite_t hc106 hp100
            refine Rk.weak [(1, .pointer (some ⟨b9, 0, none⟩)), (3, .bool true), (66, .bool true), (68, .int .u64 G_0.Rate), (71, .int .u64 G_0.Rate)] ⟨rfl, rfl, rfl, get_g rfl hc106, get_g rfl hc106, trivial⟩ ?_
            obtain ⟨x107, hx108, hp100⟩ := bind_s hp100
            refine Rk.eG 7 rfl rfl rfl rfl (Oq.call Try.call29 rfl rfl (c29 S33 (St.start _ _ hs.has) _ _ _ hx108) (fun v109 w110 h111 => ?_))
            obtain ⟨S112, rfl, hs113⟩ := h111
            have le114 := hs113.le
            have hs := hs.call0 hs113
            refine ⟨⟨(hs.has.down le114), (hs.heap 0 rfl)⟩, Rk.mk (C' := fun l w => Has S112 w ∧ Hp b9 #[.int .i64 G_0.Kind, .int .u32 G_0.From, .int .u32 G_0.About, v1, v3, v5, .int .u64 G_0.Rate, .int .i64 G_0.Type_, .int .i64 G_0.Count, v7] 33 w) ⟨hs.has, (hs.heap 0 rfl)⟩ (fun l w hc => ⟨hc.1.down le114, hc.2⟩) ?_⟩
            refine Rk.tT 10 rfl rfl rfl rfl (fun hW => fun _ _ => X.eql rfl rfl) ?_
            refine Rk.tN 11 rfl rfl (fun _ _ => X.pickT rfl rfl) ?_
            refine Rk.tN 12 rfl rfl (fun _ _ => X.assign rfl) ?_
            refine Rk.done ?_
            obtain rfl := some_s hp100
            exact fun a ha => ⟨[(1, .pointer (some ⟨b9, 0, none⟩)), (3, .bool (x107 == G_0.Rate))], ha.weak ⟨rfl, rfl, trivial⟩, S112, rfl, le114, hs⟩
           ·have hp100 := ite_f hc106 hp100
            refine Rk.weak [(1, .pointer (some ⟨b9, 0, none⟩)), (3, .bool true), (66, .bool false), (68, undef), (71, undef)] ⟨rfl, rfl, rfl, get_u rfl (not_f hc106), get_u rfl (not_f hc106), trivial⟩ ?_
            refine Rk.tO 7 rfl rfl rfl rfl rfl ?_
            refine Rk.tO 10 rfl rfl rfl rfl rfl ?_
            refine Rk.tN 11 rfl rfl (fun _ _ => X.pickF rfl rfl) ?_
            refine Rk.tN 12 rfl rfl (fun _ _ => X.assign rfl) ?_
            refine Rk.done ?_
            obtain rfl := some_s hp100
            exact fun a ha => ⟨[(1, .pointer (some ⟨b9, 0, none⟩)), (3, .bool false)], ha.weak ⟨rfl, rfl, trivial⟩, S33, rfl, Le.refl _, hs⟩
         ·have hp92 := ite_f hc97 hp92
          refine Cd.sr ?_
          refine Rg.vN (X.eql rfl rfl) rfl ?_
          refine Rg.st rfl rfl ?_
          refine Rg.go ?_
          obtain ⟨p116, hp117, hp92⟩ := bind_s hp92
          refine Cd.post (fun K w => ∃ (S118 : Mp), K = [(1, .pointer (some ⟨b9, 0, none⟩)), (3, .bool p116)] ∧ Le S33 S118 ∧ St w0 [] S0 S118 [.box b9 #[.int .i64 G_0.Kind, .int .u32 G_0.From, .int .u32 G_0.About, v1, v3, v5, .int .u64 G_0.Rate, .int .i64 G_0.Type_, .int .i64 G_0.Count, v7] 33] w) ?_ ?_
          ·rintro K121 w119 ⟨S118, rfl, le120, hs⟩
           obtain rfl := some_s hp92
           exact fun a ha => ⟨[(1, .pointer (some ⟨b9, 0, none⟩)), (3, .bool p116)], ha.weak ⟨rfl, rfl, trivial⟩, S118, rfl, le120, hs⟩
          ·skip
           refine Cd.cond (t := G_0.Kind == 6) rfl (fun hc122 => ?_) (fun hc122 => ?_)
           ·have hp117 := ite_t hc122 hp117
            obtain ⟨p124, hp125, hp117⟩ := bind_s hp117
            refine Cd.post (fun K w => ∃ (S126 : Mp), K = [(1, .pointer (some ⟨b9, 0, none⟩)), (3, .bool p124)] ∧ Le S33 S126 ∧ St w0 [] S0 S126 [.box b9 #[.int .i64 G_0.Kind, .int .u32 G_0.From, .int .u32 G_0.About, v1, v3, v5, .int .u64 G_0.Rate, .int .i64 G_0.Type_, .int .i64 G_0.Count, v7] 33] w) ?_ ?_
            ·rintro K129 w127 ⟨S126, rfl, le128, hs⟩
             obtain rfl := some_s hp117
             exact fun a ha => ⟨[(1, .pointer (some ⟨b9, 0, none⟩)), (3, .bool p124)], ha.weak ⟨rfl, rfl, trivial⟩, S126, rfl, le128, hs⟩
            ·skip
             refine Cd.region ?_
             refine Rg.vN (X.fieldB Try.underlying33 rfl zz3 rfl rfl) rfl ?_
             refine Rg.vN (X.load1 Try.underlying3 rfl rfl (hs.cell 0 rfl 7 rfl)) rfl ?_
             refine Rg.vN (X.geq rfl rfl) rfl ?_
             refine Rg.mv rfl rfl ?_
             refine Rg.vT rfl rfl rfl (fun hW => X.fieldB Try.underlying33 rfl zz3 rfl rfl) ?_
             refine Rg.vT rfl rfl rfl (fun hW => X.load1 Try.underlying3 rfl (ev_g rfl hW) (hs.cell 0 rfl 7 rfl)) ?_
             refine Rg.vT rfl rfl rfl (fun hW => X.leq (ev_g rfl hW) rfl) ?_
             refine Rg.weak [(1, .pointer (some ⟨b9, 0, none⟩)), (79, .bool (decide (192 ≤ G_0.Type_))), (82, gv (decide (192 ≤ G_0.Type_)) (.bool (decide (G_0.Type_ ≤ 223))))] ⟨rfl, rfl, rfl, trivial⟩ ?_
             refine Rg.vN (X.pickAnd rfl rfl rfl) rfl ?_
             refine Rg.mv rfl rfl ?_
             refine Rg.vT rfl rfl rfl (fun hW => X.fieldB Try.underlying33 rfl zz3 rfl rfl) ?_
             refine Rg.vT rfl rfl rfl (fun hW => X.load1 Try.underlying3 rfl (ev_g rfl hW) (hs.cell 0 rfl 8 rfl)) ?_
             refine Rg.vT rfl rfl rfl (fun hW => X.geq (ev_g rfl hW) rfl) ?_
             refine Rg.vN (X.pickAnd rfl rfl rfl) rfl ?_
             refine Rg.mv rfl rfl ?_
             refine Rg.vT rfl rfl rfl (fun hW => X.fieldB Try.underlying33 rfl zz3 rfl rfl) ?_
             refine Rg.vT rfl rfl rfl (fun hW => X.load1 Try.underlying3 rfl (ev_g rfl hW) (hs.cell 0 rfl 8 rfl)) ?_
             refine Rg.vT rfl rfl rfl (fun hW => X.leq (ev_g rfl hW) rfl) ?_
             refine Rg.vN (X.pickAnd rfl rfl rfl) rfl ?_
             refine Rg.mv rfl rfl ?_
             refine Rg.weak [(1, .pointer (some ⟨b9, 0, none⟩)), (94, .bool ((((decide (192 ≤ G_0.Type_)) && (decide (G_0.Type_ ≤ 223))) && (decide (0 ≤ G_0.Count))) && (decide (G_0.Count ≤ 31))))] ⟨rfl, rfl, trivial⟩ ?_
             refine Rg.vT rfl rfl rfl (fun hW => X.fieldB Try.underlying33 rfl zz31 rfl rfl) ?_
             refine Rg.vT rfl rfl rfl (fun hW => X.load1 Try.underlying31 rfl (ev_g rfl hW) (hs.cell 0 rfl 9 rfl)) ?_
             refine Rg.vT rfl rfl rfl (fun hW => X.lenR Try.underlying31 (ev_g rfl hW) (f8.mono le35)) ?_
             refine Rg.vT rfl rfl rfl (fun hW => X.rem (ev_g rfl hW) rfl (by decide)) ?_
             refine Rg.vT rfl rfl rfl (fun hW => X.eql (ev_g rfl hW) rfl) ?_
             refine Rg.vN (X.pickAnd rfl rfl rfl) rfl ?_
             refine Rg.mv rfl rfl ?_
             refine Rg.vT rfl rfl rfl (fun hW => X.fieldB Try.underlying33 rfl zz31 rfl rfl) ?_
             refine Rg.vT rfl rfl rfl (fun hW => X.load1 Try.underlying31 rfl (ev_g rfl hW) (hs.cell 0 rfl 9 rfl)) ?_
             refine Rg.vT rfl rfl rfl (fun hW => X.lenR Try.underlying31 (ev_g rfl hW) (f8.mono le35)) ?_
             refine Rg.vT rfl rfl rfl (fun hW => X.leq (ev_g rfl hW) rfl) ?_
             refine Rg.vN (X.pickAnd rfl rfl rfl) rfl ?_
             refine Rg.mv rfl rfl ?_
             refine Rg.weak [(1, .pointer (some ⟨b9, 0, none⟩)), (107, .bool ((((((decide (192 ≤ G_0.Type_)) && (decide (G_0.Type_ ≤ 223))) && (decide (0 ≤ G_0.Count))) && (decide (G_0.Count ≤ 31))) && ((rem .i64 (G_0.Body.length : Int) 4) == 0)) && (decide ((G_0.Body.length : Int) ≤ 262140))))] ⟨rfl, rfl, trivial⟩ ?_
             refine Rg.vT rfl rfl rfl (fun hW => X.fieldB Try.underlying33 rfl zz3 rfl rfl) ?_
             refine Rg.vT rfl rfl rfl (fun hW => X.load1 Try.underlying3 rfl (ev_g rfl hW) (hs.cell 0 rfl 7 rfl)) ?_
             refine Rg.vT rfl rfl rfl (fun hW => X.fieldB Try.underlying33 rfl zz3 rfl rfl) ?_
             refine Rg.vT rfl rfl rfl (fun hW => X.load1 Try.underlying3 rfl (ev_g rfl hW) (hs.cell 0 rfl 8 rfl)) ?_
             refine Rg.split (c := (((((decide (192 ≤ G_0.Type_)) && (decide (G_0.Type_ ≤ 223))) && (decide (0 ≤ G_0.Count))) && (decide (G_0.Count ≤ 31))) && ((rem .i64 (G_0.Body.length : Int) 4) == 0)) && (decide ((G_0.Body.length : Int) ≤ 262140))) (tj := 107) rfl (fun hc130 => ?_) (fun hc130 => ?_)
             ·have hp125 := ite_t hc130 hp125
              refine Rg.weak [(1, .pointer (some ⟨b9, 0, none⟩)), (107, .bool true), (109, .int .i64 G_0.Type_), (111, .int .i64 G_0.Count)] ⟨rfl, rfl, get_g rfl hc130, get_g rfl hc130, trivial⟩ ?_
              refine Rg.gon rfl rfl rfl ?_
              obtain ⟨x131, hx132, hp125⟩ := bind_s hp125
              refine Rg.step rfl (Oq.call Try.call50 rfl rfl (c50 S33 (St.start _ _ hs.has) _ _ _ hx132) (fun v133 w134 h135 => ?_))
              obtain ⟨S136, rfl, hs137⟩ := h135
              have le138 := hs137.le
              have hs := hs.call0 hs137
              refine Rg.gon rfl rfl rfl ?_
              refine Rg.vN (X.not rfl) rfl ?_
              refine Rg.vN (X.pickT rfl rfl) rfl ?_
              refine Rg.st rfl rfl ?_
              refine Rg.nil ?_
              obtain rfl := some_s hp125
              exact fun a ha => ⟨[(1, .pointer (some ⟨b9, 0, none⟩)), (3, .bool (!x131))], ha.weak ⟨rfl, rfl, trivial⟩, S136, rfl, le138, hs⟩
             ·have hp125 := ite_f hc130 hp125
              refine Rg.weak [(1, .pointer (some ⟨b9, 0, none⟩)), (107, .bool false), (109, undef), (111, undef)] ⟨rfl, rfl, get_u rfl (not_f hc130), get_u rfl (not_f hc130), trivial⟩ ?_
              refine Rg.vO rfl rfl rfl rfl ?_
              refine Rg.vO rfl rfl rfl rfl ?_
              refine Rg.vN (X.pickF rfl rfl) rfl ?_
              refine Rg.st rfl rfl ?_
              refine Rg.nil ?_
              obtain rfl := some_s hp125
              exact fun a ha => ⟨[(1, .pointer (some ⟨b9, 0, none⟩)), (3, .bool false)], ha.weak ⟨rfl, rfl, trivial⟩, S33, rfl, Le.refl _, hs⟩
           ·have hp117 := ite_f hc122 hp117
            refine Cd.skip ?_
            obtain rfl := some_s hp117
            exact fun a ha => ⟨[(1, .pointer (some ⟨b9, 0, none⟩)), (3, .bool true)], ha.weak ⟨rfl, rfl, trivial⟩, S33, rfl, Le.refl _, hs⟩
   ·skip
    refine Cd.cond (t := G_0.Kind == 1) rfl (fun hc139 => ?_) (fun hc139 => ?_)
    ·have hp32 := ite_t hc139 hp32
     refine Cd.skip ?_
     obtain rfl := some_s hp32
     exact fun a ha => ⟨[(1, .pointer (some ⟨b9, 0, none⟩)), (3, .bool true), (15, .int .i64 G_0.Kind), (16, .bool (G_0.Kind == 1))], ha.weak ⟨rfl, rfl, rfl, rfl, trivial⟩, S0, rfl, Le.refl _, hs⟩
    ·have hp32 := ite_f hc139 hp32
     refine Cd.region ?_
     refine Rg.vN (X.eql rfl rfl) rfl ?_
     refine Rg.st rfl rfl ?_
     refine Rg.nil ?_
     obtain rfl := some_s hp32
     exact fun a ha => ⟨[(1, .pointer (some ⟨b9, 0, none⟩)), (3, .bool true), (15, .int .i64 G_0.Kind), (16, .bool (G_0.Kind == 2))], ha.weak ⟨rfl, rfl, rfl, rfl, trivial⟩, S0, rfl, Le.refl _, hs⟩
noncomputable def rtcp_kind (typ_0 : Int) (count_1 : Int) : Option Int :=
 if ((typ_0 == 205) && (count_1 == 3)) = true then (
  some 1)
 else (
  if ((typ_0 == 205) && (count_1 == 4)) = true then (
   some 2)
  else (
   if ((typ_0 == 206) && (count_1 == 1)) = true then (
    some 3)
   else (
    if ((typ_0 == 206) && (count_1 == 4)) = true then (
     some 4)
    else (
     if ((typ_0 == 206) && (count_1 == 15)) = true then (
      some 5)
     else (
      some 6)))))
def Po67 (S0 : Mp) (w0 : World) (D : List Nat) (r : Int) (v : Value) (w1 : World) : Prop :=
  ∃ (S1 : Mp), v = .int .i64 r ∧ St w0 D S0 S1 [] w1
set_option maxHeartbeats 4000000 in
theorem c67 (S0 : Mp) {w0 : World} (hs : St w0 [] S0 S0 [] w0) (typ_0 : Int) (count_1 : Int) (r : Int) (h0 : rtcp_kind typ_0 count_1 = some r) :
    Calls Try.prog 67 #[.int .i64 typ_0, .int .i64 count_1] w0 (Re (Po67 S0 w0 [] r)) := by
 unfold rtcp_kind at h0
 refine calls_of_cd Try.func67 rfl Try.ntmps67 rfl ?_
 refine Cd.sr ?_
 refine Rg.st rfl rfl ?_
 refine Rg.go ?_
 refine Cd.seq ?_
 refine Cd.block ?_
 refine Cd.sr ?_
 refine Rg.mv rfl rfl ?_
 refine Rg.vN (X.eql rfl rfl) rfl ?_
 refine Rg.mv rfl rfl ?_
 refine Rg.vT rfl rfl rfl (fun hW => X.move rfl) ?_
 refine Rg.vT rfl rfl rfl (fun hW => X.eql (ev_g rfl hW) rfl) ?_
 refine Rg.vN (X.pickAnd rfl rfl rfl) rfl ?_
 refine Rg.st rfl rfl ?_
 refine Rg.go ?_
 refine Cd.cond (t := (typ_0 == 205) && (count_1 == 3)) rfl (fun hc1 => ?_) (fun hc1 => ?_)
 ·have h0 := ite_t hc1 h0
  refine Cd.sr ?_
  refine Rg.st rfl rfl ?_
  refine Rg.go ?_
  refine Cd.ret ?_
  obtain rfl := some_s h0
  exact fun a ha => Cd.retA (R := Re (Po67 S0 w0 [] _)) ha Try.results67 ⟨_, _, rfl, rfl, rfl⟩ ⟨_, rfl, S0, rfl, hs⟩
 ·have h0 := ite_f hc1 h0
  refine Cd.sr ?_
  refine Rg.mv rfl rfl ?_
  refine Rg.vN (X.eql rfl rfl) rfl ?_
  refine Rg.mv rfl rfl ?_
  refine Rg.vT rfl rfl rfl (fun hW => X.move rfl) ?_
  refine Rg.vT rfl rfl rfl (fun hW => X.eql (ev_g rfl hW) rfl) ?_
  refine Rg.vN (X.pickAnd rfl rfl rfl) rfl ?_
  refine Rg.st rfl rfl ?_
  refine Rg.go ?_
  refine Cd.weak [(0, .int .i64 typ_0), (1, .int .i64 count_1), (12, .bool ((typ_0 == 205) && (count_1 == 4)))] ⟨rfl, rfl, rfl, trivial⟩ ?_
  refine Cd.cond (t := (typ_0 == 205) && (count_1 == 4)) rfl (fun hc2 => ?_) (fun hc2 => ?_)
  ·have h0 := ite_t hc2 h0
   refine Cd.sr ?_
   refine Rg.st rfl rfl ?_
   refine Rg.go ?_
   refine Cd.ret ?_
   obtain rfl := some_s h0
   exact fun a ha => Cd.retA (R := Re (Po67 S0 w0 [] _)) ha Try.results67 ⟨_, _, rfl, rfl, rfl⟩ ⟨_, rfl, S0, rfl, hs⟩
  ·have h0 := ite_f hc2 h0
   refine Cd.sr ?_
   refine Rg.mv rfl rfl ?_
   refine Rg.vN (X.eql rfl rfl) rfl ?_
   refine Rg.mv rfl rfl ?_
   refine Rg.vT rfl rfl rfl (fun hW => X.move rfl) ?_
   refine Rg.vT rfl rfl rfl (fun hW => X.eql (ev_g rfl hW) rfl) ?_
   refine Rg.vN (X.pickAnd rfl rfl rfl) rfl ?_
   refine Rg.st rfl rfl ?_
   refine Rg.go ?_
   refine Cd.cond (t := (typ_0 == 206) && (count_1 == 1)) rfl (fun hc3 => ?_) (fun hc3 => ?_)
   ·have h0 := ite_t hc3 h0
    refine Cd.sr ?_
    refine Rg.st rfl rfl ?_
    refine Rg.go ?_
    refine Cd.ret ?_
    obtain rfl := some_s h0
    exact fun a ha => Cd.retA (R := Re (Po67 S0 w0 [] _)) ha Try.results67 ⟨_, _, rfl, rfl, rfl⟩ ⟨_, rfl, S0, rfl, hs⟩
   ·have h0 := ite_f hc3 h0
    refine Cd.sr ?_
    refine Rg.mv rfl rfl ?_
    refine Rg.vN (X.eql rfl rfl) rfl ?_
    refine Rg.mv rfl rfl ?_
    refine Rg.vT rfl rfl rfl (fun hW => X.move rfl) ?_
    refine Rg.vT rfl rfl rfl (fun hW => X.eql (ev_g rfl hW) rfl) ?_
    refine Rg.weak [(0, .int .i64 typ_0), (1, .int .i64 count_1), (29, .bool (typ_0 == 206)), (31, gv (typ_0 == 206) (.bool (count_1 == 4)))] ⟨rfl, rfl, rfl, rfl, trivial⟩ ?_
    refine Rg.vN (X.pickAnd rfl rfl rfl) rfl ?_
    refine Rg.st rfl rfl ?_
    refine Rg.go ?_
    refine Cd.cond (t := (typ_0 == 206) && (count_1 == 4)) rfl (fun hc4 => ?_) (fun hc4 => ?_)
    ·have h0 := ite_t hc4 h0
     refine Cd.sr ?_
     refine Rg.st rfl rfl ?_
     refine Rg.go ?_
     refine Cd.ret ?_
     obtain rfl := some_s h0
     exact fun a ha => Cd.retA (R := Re (Po67 S0 w0 [] _)) ha Try.results67 ⟨_, _, rfl, rfl, rfl⟩ ⟨_, rfl, S0, rfl, hs⟩
    ·have h0 := ite_f hc4 h0
     refine Cd.sr ?_
     refine Rg.mv rfl rfl ?_
     refine Rg.vN (X.eql rfl rfl) rfl ?_
     refine Rg.mv rfl rfl ?_
     refine Rg.vT rfl rfl rfl (fun hW => X.move rfl) ?_
     refine Rg.vT rfl rfl rfl (fun hW => X.eql (ev_g rfl hW) rfl) ?_
     refine Rg.vN (X.pickAnd rfl rfl rfl) rfl ?_
     refine Rg.st rfl rfl ?_
     refine Rg.go ?_
     refine Cd.cond (t := (typ_0 == 206) && (count_1 == 15)) rfl (fun hc5 => ?_) (fun hc5 => ?_)
     ·have h0 := ite_t hc5 h0
      refine Cd.sr ?_
      refine Rg.st rfl rfl ?_
      refine Rg.go ?_
      refine Cd.ret ?_
      obtain rfl := some_s h0
      exact fun a ha => Cd.retA (R := Re (Po67 S0 w0 [] _)) ha Try.results67 ⟨_, _, rfl, rfl, rfl⟩ ⟨_, rfl, S0, rfl, hs⟩
     ·have h0 := ite_f hc5 h0
      refine Cd.skip ?_
      refine Cd.go ?_
      refine Cd.sr ?_
      refine Rg.st rfl rfl ?_
      refine Rg.go ?_
      refine Cd.ret ?_
      obtain rfl := some_s h0
      exact fun a ha => Cd.retA (R := Re (Po67 S0 w0 [] _)) ha Try.results67 ⟨_, _, rfl, rfl, rfl⟩ ⟨_, rfl, S0, rfl, hs⟩
noncomputable def slices_IndexFunc_api_Tuple_l0 (s_0 : (List api_Tuple)) (f_1 : (api_Tuple → Option Bool)) (q14 : Int) : Option (Flow Int Int) :=
 if (decide (q14 < (s_0.length : Int))) = true then (
  (ix s_0 q14).bind fun x24 =>
  (f_1 x24).bind fun x31 =>
  if x31 = true then (
   some (Flow.ret q14))
  else (
   some (Flow.next (add .i64 q14 1))))
 else (
  some (Flow.brk q14))
noncomputable def slices_IndexFunc_api_Tuple (s_0 : (List api_Tuple)) (f_1 : (api_Tuple → Option Bool)) : Option Int :=
 (loopF (fun sg => slices_IndexFunc_api_Tuple_l0 s_0 f_1 sg) 0).bind fun fl7 =>
 Flow.el fl7 (fun s40 => (
  none))
 (fun s41 => (
  some (-1)))
 (fun r42 => (
  some r42))
def Po77 (S0 : Mp) (w0 : World) (D : List Nat) (r : Int) (v : Value) (w1 : World) : Prop :=
  ∃ (S1 : Mp), v = .int .i64 r ∧ St w0 D S0 S1 [] w1
set_option maxHeartbeats 4000000 in
theorem c77 (S0 : Mp) {w0 : World} (hs : St w0 [] S0 S0 [] w0) (s_0 : (List api_Tuple)) (v1 : Value) (f2 : Rd S0 3 R_api_Tuple v1 s_0) (fv3 : FuncId) (cap4 : Array Value) (f_1 : (api_Tuple → Option Bool)) (hcall5 : ∀ (args : Array Value) (w : World), (callFunc fv3 args).run Try.prog w = .ok (.enter fv3 args) w) (hf6 : ∀ (S : Mp) (w : World), Has S w → ∀ (y0 : api_Tuple) (z : Bool), f_1 y0 = some z → Calls Try.prog fv3 (#[] ++ [.agg #[.int .u32 y0.Owner, .int .u64 y0.Rate, .int .i64 y0.Over]].toArray ++ cap4) w (Re (fun v w1 => ∃ S1, v = .bool z ∧ St w [] S S1 [] w1))) (r : Int) (h0 : slices_IndexFunc_api_Tuple s_0 f_1 = some r) :
    Calls Try.prog 77 #[v1, .func (.func fv3) #[] cap4] w0 (Re (Po77 S0 w0 [] r)) := by
 unfold slices_IndexFunc_api_Tuple at h0
 refine calls_of_cd Try.func77 rfl Try.ntmps77 rfl ?_
 refine Cd.sr ?_
 refine Rg.st rfl rfl ?_
 refine Rg.go ?_
 refine Cd.seq ?_
 refine Cd.sr ?_
 refine Rg.mv rfl rfl ?_
 refine Rg.vN (X.lenR Try.underlying28 rfl f2) rfl ?_
 refine Rg.mv rfl rfl ?_
 refine Rg.go ?_
 obtain ⟨fl7, hfl8, h0⟩ := bind_s h0
 refine Cd.post (fun K w => ∃ (j9 : Int) (S10 : Mp), K = [] ∧ fl7 = Flow.brk j9 ∧ Le S0 S10 ∧ St w0 [] S0 S10 [] w) ?_ ?_
 ·rintro K13 w12 ⟨j9, S10, rfl, rfl, le11, hs⟩
  have h0 := el_brk h0
  try dsimp only at h0
  refine Cd.go ?_
  refine Cd.sr ?_
  refine Rg.st rfl rfl ?_
  refine Rg.go ?_
  refine Cd.ret ?_
  obtain rfl := some_s h0
  exact fun a ha => Cd.retA (R := Re (Po77 S0 w0 [] _)) ha Try.results77 ⟨_, _, rfl, rfl, rfl⟩ ⟨_, rfl, S10, rfl, hs⟩
 ·skip
  refine Cd.weak [(0, v1), (1, .func (.func fv3) #[] cap4), (7, .int .i64 (s_0.length : Int)), (8, .int .i64 0)] ⟨rfl, rfl, rfl, rfl, trivial⟩ ?_
  refine Cd.block (Cd.loop (fun sg => slices_IndexFunc_api_Tuple_l0 s_0 f_1 sg) (fun (sg : Int) K w => ∃ (S15 : Mp), K = [(0, v1), (1, .func (.func fv3) #[] cap4), (7, .int .i64 (s_0.length : Int)), (8, .int .i64 sg)] ∧ Le S0 S15 ∧ St w0 [] S0 S15 [] w) 0 fl7 hfl8 ⟨S0, rfl, Le.refl _, hs⟩ ?_)
  rintro q14 fl17 K22 w21 hb18 ⟨S15, rfl, le16, hs⟩ hl19
  have h20 : slices_IndexFunc_api_Tuple_l0 s_0 f_1 q14 = some fl17 := hb18
  unfold slices_IndexFunc_api_Tuple_l0 at h20
  refine Cd.sr ?_
  refine Rg.vN (X.lss rfl rfl) rfl ?_
  refine Rg.go ?_
  refine Cd.seq ?_
  refine Cd.cond (t := decide (q14 < (s_0.length : Int))) rfl (fun hc23 => ?_) (fun hc23 => ?_)
  ·have h20 := ite_t hc23 h20
   refine Cd.sg ?_
   refine Cd.seq ?_
   refine Cd.block ?_
   refine Cd.sr ?_
   refine Rg.mv rfl rfl ?_
   refine Rg.st rfl rfl ?_
   refine Rg.go ?_
   refine Cd.sr ?_
   refine Rg.mv rfl rfl ?_
   refine Rg.mv rfl rfl ?_
   refine Rg.mv rfl rfl ?_
   obtain ⟨x24, hx25, h20⟩ := bind_s h20
   obtain ⟨ad26, vals27, _, hR28, hE29, hX30⟩ := mk_index Try.underlying28 zz57 (by decide) (f2.mono le16) hx25
   unfold R_api_Tuple at hR28
   subst hR28
   refine Rg.vN (hX30 rfl rfl) rfl ?_
   refine Rg.vN (X.loadE (vals := [.int .u32 x24.Owner, .int .u64 x24.Rate, .int .i64 x24.Over]) hs.has Try.underlying57 rfl zz57 rfl hE29) rfl ?_
   obtain ⟨x31, hx32, h20⟩ := bind_s h20
   refine Rg.step rfl (Oq.callC rfl hcall5 rfl rfl (hf6 _ _ hs.has _ _ hx32) (fun v33 w34 h35 => ?_))
   obtain ⟨S36, rfl, hs37⟩ := h35
   have le38 := hs37.le
   have hs := hs.call0 hs37
   refine Rg.go ?_
   refine Cd.cond (t := x31) rfl (fun hc39 => ?_) (fun hc39 => ?_)
   ·have h20 := ite_t hc39 h20
    refine Cd.sr ?_
    refine Rg.mv rfl rfl ?_
    refine Rg.st rfl rfl ?_
    refine Rg.go ?_
    refine Cd.ret ?_
    obtain rfl := some_s h20
    have e := hl19 (fun _ e => by cases e)
    subst e
    have h0 := el_ret h0
    obtain rfl := some_s h0
    exact fun a ha => Cd.retA (R := Re (Po77 S0 w0 [] _)) ha Try.results77 ⟨_, _, rfl, rfl, rfl⟩ ⟨_, rfl, S36, rfl, hs⟩
   ·have h20 := ite_f hc39 h20
    refine Cd.skip ?_
    refine Cd.go ?_
    refine Cd.region ?_
    refine Rg.vN (X.add rfl rfl) rfl ?_
    refine Rg.mv rfl rfl ?_
    refine Rg.nil ?_
    exact fun a ha => ⟨add .i64 q14 1, [(0, v1), (1, .func (.func fv3) #[] cap4), (7, .int .i64 (s_0.length : Int)), (8, .int .i64 (add .i64 q14 1))], (some_s h20).symm, ha.weak ⟨rfl, rfl, rfl, rfl, trivial⟩, S36, rfl, (le16.trans le38), hs⟩
  ·have h20 := ite_f hc23 h20
   refine Cd.exit ?_
   obtain rfl := some_s h20
   have e := hl19 (fun _ e => by cases e)
   exact fun a ha => ⟨[], ha.weak trivial, _, S15, rfl, e.symm, le16, hs⟩
noncomputable def slices_ContainsFunc_api_Tuple (s_0 : (List api_Tuple)) (f_1 : (api_Tuple → Option Bool)) : Option Bool :=
 (slices_IndexFunc_api_Tuple s_0 f_1).bind fun x7 =>
 some (decide (0 ≤ x7))
def Po62 (S0 : Mp) (w0 : World) (D : List Nat) (r : Bool) (v : Value) (w1 : World) : Prop :=
  ∃ (S1 : Mp), v = .bool r ∧ St w0 D S0 S1 [] w1
set_option maxHeartbeats 4000000 in
theorem c62 (S0 : Mp) {w0 : World} (hs : St w0 [] S0 S0 [] w0) (s_0 : (List api_Tuple)) (v1 : Value) (f2 : Rd S0 3 R_api_Tuple v1 s_0) (fv3 : FuncId) (cap4 : Array Value) (f_1 : (api_Tuple → Option Bool)) (hcall5 : ∀ (args : Array Value) (w : World), (callFunc fv3 args).run Try.prog w = .ok (.enter fv3 args) w) (hf6 : ∀ (S : Mp) (w : World), Has S w → ∀ (y0 : api_Tuple) (z : Bool), f_1 y0 = some z → Calls Try.prog fv3 (#[] ++ [.agg #[.int .u32 y0.Owner, .int .u64 y0.Rate, .int .i64 y0.Over]].toArray ++ cap4) w (Re (fun v w1 => ∃ S1, v = .bool z ∧ St w [] S S1 [] w1))) (r : Bool) (h0 : slices_ContainsFunc_api_Tuple s_0 f_1 = some r) :
    Calls Try.prog 62 #[v1, .func (.func fv3) #[] cap4] w0 (Re (Po62 S0 w0 [] r)) := by
 unfold slices_ContainsFunc_api_Tuple at h0
 refine calls_of_cd Try.func62 rfl Try.ntmps62 rfl ?_
 refine Cd.sr ?_
 refine Rg.st rfl rfl ?_
 refine Rg.go ?_
 refine Cd.sr ?_
 refine Rg.mv rfl rfl ?_
 refine Rg.mv rfl rfl ?_
 obtain ⟨x7, hx8, h0⟩ := bind_s h0
 refine Rg.step rfl (Oq.call Try.call77 rfl rfl (c77 S0 (St.start _ _ hs.has) _ _ f2 _ _ _ hcall5 hf6 _ hx8) (fun v9 w10 h11 => ?_))
 obtain ⟨S12, rfl, hs13⟩ := h11
 have le14 := hs13.le
 have hs := hs.call0 hs13
 refine Rg.vN (X.geq rfl rfl) rfl ?_
 refine Rg.st rfl rfl ?_
 refine Rg.go ?_
 refine Cd.ret ?_
 obtain rfl := some_s h0
 exact fun a ha => Cd.retA (R := Re (Po62 S0 w0 [] _)) ha Try.results62 ⟨_, _, rfl, rfl, rfl⟩ ⟨_, rfl, S12, rfl, hs⟩
noncomputable def rtcp_values_1 (t_0 : api_Tuple) : Option Bool :=
 ((
  if ((decide (t_0.Over < 0)) || (decide (511 < t_0.Over))) = true then (
   some true)
  else (
   (rate_Down t_0.Rate 17).bind fun x13 =>
   some (x13 != t_0.Rate)) : Option Bool)).bind fun p5 =>
 some p5
def Po63 (S0 : Mp) (w0 : World) (D : List Nat) (r : Bool) (v : Value) (w1 : World) : Prop :=
  ∃ (S1 : Mp), v = .bool r ∧ St w0 D S0 S1 [] w1
set_option maxHeartbeats 4000000 in
theorem c63 (S0 : Mp) {w0 : World} (hs : St w0 [] S0 S0 [] w0) (t_0 : api_Tuple) (r : Bool) (h0 : rtcp_values_1 t_0 = some r) :
    Calls Try.prog 63 #[.agg (#[.int .u32 t_0.Owner, .int .u64 t_0.Rate, .int .i64 t_0.Over])] w0 (Re (Po63 S0 w0 [] r)) := by
 unfold rtcp_values_1 at h0
 refine calls_of_cd Try.func63 rfl Try.ntmps63 rfl ?_
 refine Cd.sr ?_
 refine Rg.step rfl (Oq.box (cs := #[.int .u32 t_0.Owner, .int .u64 t_0.Rate, .int .i64 t_0.Over]) hs rfl rfl rfl (fun b1 w2 hs => ?_))
 refine Rg.st rfl rfl ?_
 refine Rg.go ?_
 refine Cd.seq ?_
 obtain ⟨p5, hp6, h0⟩ := bind_s h0
 refine Cd.post (fun K w => ∃ (S7 : Mp), K = [(2, .bool p5)] ∧ Le S0 S7 ∧ St w0 [] S0 S7 [] w) ?_ ?_
 ·rintro K10 w8 ⟨S7, rfl, le9, hs⟩
  refine Cd.go ?_
  refine Cd.ret ?_
  obtain rfl := some_s h0
  exact fun a ha => Cd.retA (R := Re (Po63 S0 w0 [] _)) ha Try.results63 ⟨_, _, rfl, rfl, rfl⟩ ⟨_, rfl, S7, rfl, hs⟩
 ·skip
  refine Cd.rD mixed (fun l w => Has S0 w ∧ Hp b1 #[.int .u32 t_0.Owner, .int .u64 t_0.Rate, .int .i64 t_0.Over] 57 w) hs (fun _ _ _ _ _ h => h) (by kernel_rfl) (fun w11 hs => ⟨⟨hs.has, (hs.heap 0 rfl)⟩, ?_⟩)
  refine Rk.tN 0 rfl rfl (fun _ _ => X.fieldB Try.underlying57 rfl zz3 rfl rfl) ?_
  refine Rk.tN 1 rfl rfl (fun w hc => X.load1 Try.underlying3 rfl rfl (heap_cell hc.2 rfl)) ?_
  refine Rk.tN 2 rfl rfl (fun _ _ => X.lss rfl rfl) ?_
  refine Rk.tN 3 rfl rfl (fun _ _ => X.move rfl) ?_
  refine Rk.tF 4 rfl rfl rfl rfl (fun hW => fun _ _ => X.fieldB Try.underlying57 rfl zz3 rfl rfl) ?_
  refine Rk.tF 5 rfl rfl rfl rfl (fun hW => fun w hc => X.load1 Try.underlying3 rfl (ev_g rfl hW) (heap_cell hc.2 rfl)) ?_
  refine Rk.tF 6 rfl rfl rfl rfl (fun hW => fun _ _ => X.gtr (ev_g rfl hW) rfl) ?_
  refine Rk.tN 7 rfl rfl (fun _ _ => X.pickOr rfl rfl rfl) ?_
  refine Rk.tN 8 rfl rfl (fun _ _ => X.move rfl) ?_
  refine Rk.tF 9 rfl rfl rfl rfl (fun hW => fun _ _ => X.fieldB Try.underlying57 rfl zz30 rfl rfl) ?_
  refine Rk.tF 10 rfl rfl rfl rfl (fun hW => fun w hc => X.load1 Try.underlying30 rfl (ev_g rfl hW) (heap_cell hc.2 rfl)) ?_
  refine Rk.tF 12 rfl rfl rfl rfl (fun hW => fun _ _ => X.fieldB Try.underlying57 rfl zz30 rfl rfl) ?_
  refine Rk.tF 13 rfl rfl rfl rfl (fun hW => fun w hc => X.load1 Try.underlying30 rfl (ev_g rfl hW) (heap_cell hc.2 rfl)) ?_
  refine Rk.split (b := (decide (t_0.Over < 0)) || (decide (511 < t_0.Over))) (tj := 11) rfl (fun hc12 => ?_) (fun hc12 => ?_)
  ·have hp6 := ite_t hc12 hp6
   refine Rk.weak [(2, .bool false), (11, .bool true), (13, undef), (16, undef)] ⟨rfl, rfl, get_u rfl (nn hc12), get_u rfl (nn hc12), trivial⟩ ?_
   refine Rk.tO 11 rfl rfl rfl rfl rfl ?_
   refine Rk.tO 14 rfl rfl rfl rfl rfl ?_
   refine Rk.tN 15 rfl rfl (fun _ _ => X.pickT rfl rfl) ?_
   refine Rk.tN 16 rfl rfl (fun _ _ => X.assign rfl) ?_
   refine Rk.done ?_
   obtain rfl := some_s hp6
   exact fun a ha => ⟨[(2, .bool true)], ha.weak ⟨rfl, trivial⟩, S0, rfl, Le.refl _, (hs.pick [] (by decide) rfl)⟩
  ·have hp6 := ite_f hc12 hp6
   refine Rk.weak [(2, .bool false), (11, .bool false), (13, .int .u64 t_0.Rate), (16, .int .u64 t_0.Rate)] ⟨rfl, rfl, get_g rfl (not_f hc12), get_g rfl (not_f hc12), trivial⟩ ?_
   obtain ⟨x13, hx14, hp6⟩ := bind_s hp6
   refine Rk.eG 11 rfl rfl rfl rfl (Oq.call Try.call64 rfl rfl (c64 S0 (St.start _ _ hs.has) _ _ _ hx14) (fun v15 w16 h17 => ?_))
   obtain ⟨S18, rfl, hs19⟩ := h17
   have le20 := hs19.le
   have hs := hs.call0 hs19
   refine ⟨⟨(hs.has.down le20), (hs.heap 0 rfl)⟩, Rk.mk (C' := fun l w => Has S18 w ∧ Hp b1 #[.int .u32 t_0.Owner, .int .u64 t_0.Rate, .int .i64 t_0.Over] 57 w) ⟨hs.has, (hs.heap 0 rfl)⟩ (fun l w hc => ⟨hc.1.down le20, hc.2⟩) ?_⟩
   refine Rk.tF 14 rfl rfl rfl rfl (fun hW => fun _ _ => X.neq rfl rfl) ?_
   refine Rk.tN 15 rfl rfl (fun _ _ => X.pickF rfl rfl) ?_
   refine Rk.tN 16 rfl rfl (fun _ _ => X.assign rfl) ?_
   refine Rk.done ?_
   obtain rfl := some_s hp6
   exact fun a ha => ⟨[(2, .bool (x13 != t_0.Rate))], ha.weak ⟨rfl, trivial⟩, S18, rfl, le20, (hs.pick [] (by decide) rfl)⟩
theorem qf63 : ∀ (S : Mp) (w : World), Has S w → ∀ (y0 : api_Tuple) (z : Bool), rtcp_values_1 y0 = some z → Calls Try.prog 63 (#[] ++ [.agg #[.int .u32 y0.Owner, .int .u64 y0.Rate, .int .i64 y0.Over]].toArray ++ #[]) w (Re (fun v w1 => ∃ S1, v = .bool z ∧ St w [] S S1 [] w1)) := by
  intro S w hS y0 z hz
  rw [show (#[] ++ [.agg #[.int .u32 y0.Owner, .int .u64 y0.Rate, .int .i64 y0.Over]].toArray ++ #[] : Array Value) = #[.agg #[.int .u32 y0.Owner, .int .u64 y0.Rate, .int .i64 y0.Over]] from by simp]
  exact c63 S (St.start _ _ hS) y0 _ hz
noncomputable def slices_IndexFunc_int_l0 (s_0 : (List Int)) (f_1 : (Int → Option Bool)) (q14 : Int) : Option (Flow Int Int) :=
 if (decide (q14 < (s_0.length : Int))) = true then (
  (ix s_0 q14).bind fun x24 =>
  (f_1 x24).bind fun x31 =>
  if x31 = true then (
   some (Flow.ret q14))
  else (
   some (Flow.next (add .i64 q14 1))))
 else (
  some (Flow.brk q14))
noncomputable def slices_IndexFunc_int (s_0 : (List Int)) (f_1 : (Int → Option Bool)) : Option Int :=
 (loopF (fun sg => slices_IndexFunc_int_l0 s_0 f_1 sg) 0).bind fun fl7 =>
 Flow.el fl7 (fun s40 => (
  none))
 (fun s41 => (
  some (-1)))
 (fun r42 => (
  some r42))
def Po79 (S0 : Mp) (w0 : World) (D : List Nat) (r : Int) (v : Value) (w1 : World) : Prop :=
  ∃ (S1 : Mp), v = .int .i64 r ∧ St w0 D S0 S1 [] w1
set_option maxHeartbeats 4000000 in
theorem c79 (S0 : Mp) {w0 : World} (hs : St w0 [] S0 S0 [] w0) (s_0 : (List Int)) (v1 : Value) (f2 : Rd S0 1 (RI .i64) v1 s_0) (fv3 : FuncId) (cap4 : Array Value) (f_1 : (Int → Option Bool)) (hcall5 : ∀ (args : Array Value) (w : World), (callFunc fv3 args).run Try.prog w = .ok (.enter fv3 args) w) (hf6 : ∀ (S : Mp) (w : World), Has S w → ∀ (y0 : Int) (z : Bool), f_1 y0 = some z → Calls Try.prog fv3 (#[] ++ [.int .i64 y0].toArray ++ cap4) w (Re (fun v w1 => ∃ S1, v = .bool z ∧ St w [] S S1 [] w1))) (r : Int) (h0 : slices_IndexFunc_int s_0 f_1 = some r) :
    Calls Try.prog 79 #[v1, .func (.func fv3) #[] cap4] w0 (Re (Po79 S0 w0 [] r)) := by
 unfold slices_IndexFunc_int at h0
 refine calls_of_cd Try.func79 rfl Try.ntmps79 rfl ?_
 refine Cd.sr ?_
 refine Rg.st rfl rfl ?_
 refine Rg.go ?_
 refine Cd.seq ?_
 refine Cd.sr ?_
 refine Rg.mv rfl rfl ?_
 refine Rg.vN (X.lenR Try.underlying23 rfl f2) rfl ?_
 refine Rg.mv rfl rfl ?_
 refine Rg.go ?_
 obtain ⟨fl7, hfl8, h0⟩ := bind_s h0
 refine Cd.post (fun K w => ∃ (j9 : Int) (S10 : Mp), K = [] ∧ fl7 = Flow.brk j9 ∧ Le S0 S10 ∧ St w0 [] S0 S10 [] w) ?_ ?_
 ·rintro K13 w12 ⟨j9, S10, rfl, rfl, le11, hs⟩
  have h0 := el_brk h0
  try dsimp only at h0
  refine Cd.go ?_
  refine Cd.sr ?_
  refine Rg.st rfl rfl ?_
  refine Rg.go ?_
  refine Cd.ret ?_
  obtain rfl := some_s h0
  exact fun a ha => Cd.retA (R := Re (Po79 S0 w0 [] _)) ha Try.results79 ⟨_, _, rfl, rfl, rfl⟩ ⟨_, rfl, S10, rfl, hs⟩
 ·skip
  refine Cd.weak [(0, v1), (1, .func (.func fv3) #[] cap4), (7, .int .i64 (s_0.length : Int)), (8, .int .i64 0)] ⟨rfl, rfl, rfl, rfl, trivial⟩ ?_
  refine Cd.block (Cd.loop (fun sg => slices_IndexFunc_int_l0 s_0 f_1 sg) (fun (sg : Int) K w => ∃ (S15 : Mp), K = [(0, v1), (1, .func (.func fv3) #[] cap4), (7, .int .i64 (s_0.length : Int)), (8, .int .i64 sg)] ∧ Le S0 S15 ∧ St w0 [] S0 S15 [] w) 0 fl7 hfl8 ⟨S0, rfl, Le.refl _, hs⟩ ?_)
  rintro q14 fl17 K22 w21 hb18 ⟨S15, rfl, le16, hs⟩ hl19
  have h20 : slices_IndexFunc_int_l0 s_0 f_1 q14 = some fl17 := hb18
  unfold slices_IndexFunc_int_l0 at h20
  refine Cd.sr ?_
  refine Rg.vN (X.lss rfl rfl) rfl ?_
  refine Rg.go ?_
  refine Cd.seq ?_
  refine Cd.cond (t := decide (q14 < (s_0.length : Int))) rfl (fun hc23 => ?_) (fun hc23 => ?_)
  ·have h20 := ite_t hc23 h20
   refine Cd.sg ?_
   refine Cd.seq ?_
   refine Cd.block ?_
   refine Cd.sr ?_
   refine Rg.mv rfl rfl ?_
   refine Rg.st rfl rfl ?_
   refine Rg.go ?_
   refine Cd.sr ?_
   refine Rg.mv rfl rfl ?_
   refine Rg.mv rfl rfl ?_
   refine Rg.mv rfl rfl ?_
   obtain ⟨x24, hx25, h20⟩ := bind_s h20
   obtain ⟨ad26, vals27, _, hR28, hE29, hX30⟩ := mk_index Try.underlying23 zz3 (by decide) (f2.mono le16) hx25
   obtain rfl : vals27 = [.int .i64 x24] := hR28
   refine Rg.vN (hX30 rfl rfl) rfl ?_
   refine Rg.vN (X.load1 Try.underlying3 rfl rfl (hE29.at0 rfl hs.has)) rfl ?_
   obtain ⟨x31, hx32, h20⟩ := bind_s h20
   refine Rg.step rfl (Oq.callC rfl hcall5 rfl rfl (hf6 _ _ hs.has _ _ hx32) (fun v33 w34 h35 => ?_))
   obtain ⟨S36, rfl, hs37⟩ := h35
   have le38 := hs37.le
   have hs := hs.call0 hs37
   refine Rg.go ?_
   refine Cd.cond (t := x31) rfl (fun hc39 => ?_) (fun hc39 => ?_)
   ·have h20 := ite_t hc39 h20
    refine Cd.sr ?_
    refine Rg.mv rfl rfl ?_
    refine Rg.st rfl rfl ?_
    refine Rg.go ?_
    refine Cd.ret ?_
    obtain rfl := some_s h20
    have e := hl19 (fun _ e => by cases e)
    subst e
    have h0 := el_ret h0
    obtain rfl := some_s h0
    exact fun a ha => Cd.retA (R := Re (Po79 S0 w0 [] _)) ha Try.results79 ⟨_, _, rfl, rfl, rfl⟩ ⟨_, rfl, S36, rfl, hs⟩
   ·have h20 := ite_f hc39 h20
    refine Cd.skip ?_
    refine Cd.go ?_
    refine Cd.region ?_
    refine Rg.vN (X.add rfl rfl) rfl ?_
    refine Rg.mv rfl rfl ?_
    refine Rg.nil ?_
    exact fun a ha => ⟨add .i64 q14 1, [(0, v1), (1, .func (.func fv3) #[] cap4), (7, .int .i64 (s_0.length : Int)), (8, .int .i64 (add .i64 q14 1))], (some_s h20).symm, ha.weak ⟨rfl, rfl, rfl, rfl, trivial⟩, S36, rfl, (le16.trans le38), hs⟩
  ·have h20 := ite_f hc23 h20
   refine Cd.exit ?_
   obtain rfl := some_s h20
   have e := hl19 (fun _ e => by cases e)
   exact fun a ha => ⟨[], ha.weak trivial, _, S15, rfl, e.symm, le16, hs⟩
noncomputable def slices_ContainsFunc_int (s_0 : (List Int)) (f_1 : (Int → Option Bool)) : Option Bool :=
 (slices_IndexFunc_int s_0 f_1).bind fun x7 =>
 some (decide (0 ≤ x7))
def Po65 (S0 : Mp) (w0 : World) (D : List Nat) (r : Bool) (v : Value) (w1 : World) : Prop :=
  ∃ (S1 : Mp), v = .bool r ∧ St w0 D S0 S1 [] w1
set_option maxHeartbeats 4000000 in
theorem c65 (S0 : Mp) {w0 : World} (hs : St w0 [] S0 S0 [] w0) (s_0 : (List Int)) (v1 : Value) (f2 : Rd S0 1 (RI .i64) v1 s_0) (fv3 : FuncId) (cap4 : Array Value) (f_1 : (Int → Option Bool)) (hcall5 : ∀ (args : Array Value) (w : World), (callFunc fv3 args).run Try.prog w = .ok (.enter fv3 args) w) (hf6 : ∀ (S : Mp) (w : World), Has S w → ∀ (y0 : Int) (z : Bool), f_1 y0 = some z → Calls Try.prog fv3 (#[] ++ [.int .i64 y0].toArray ++ cap4) w (Re (fun v w1 => ∃ S1, v = .bool z ∧ St w [] S S1 [] w1))) (r : Bool) (h0 : slices_ContainsFunc_int s_0 f_1 = some r) :
    Calls Try.prog 65 #[v1, .func (.func fv3) #[] cap4] w0 (Re (Po65 S0 w0 [] r)) := by
 unfold slices_ContainsFunc_int at h0
 refine calls_of_cd Try.func65 rfl Try.ntmps65 rfl ?_
 refine Cd.sr ?_
 refine Rg.st rfl rfl ?_
 refine Rg.go ?_
 refine Cd.sr ?_
 refine Rg.mv rfl rfl ?_
 refine Rg.mv rfl rfl ?_
 obtain ⟨x7, hx8, h0⟩ := bind_s h0
 refine Rg.step rfl (Oq.call Try.call79 rfl rfl (c79 S0 (St.start _ _ hs.has) _ _ f2 _ _ _ hcall5 hf6 _ hx8) (fun v9 w10 h11 => ?_))
 obtain ⟨S12, rfl, hs13⟩ := h11
 have le14 := hs13.le
 have hs := hs.call0 hs13
 refine Rg.vN (X.geq rfl rfl) rfl ?_
 refine Rg.st rfl rfl ?_
 refine Rg.go ?_
 refine Cd.ret ?_
 obtain rfl := some_s h0
 exact fun a ha => Cd.retA (R := Re (Po65 S0 w0 [] _)) ha Try.results65 ⟨_, _, rfl, rfl, rfl⟩ ⟨_, rfl, S12, rfl, hs⟩
noncomputable def rtcp_values_2 (n_0 : Int) : Option Bool :=
 some ((decide (n_0 < 0)) || (decide (255 < n_0)))
def Po66 (S0 : Mp) (w0 : World) (D : List Nat) (r : Bool) (v : Value) (w1 : World) : Prop :=
  ∃ (S1 : Mp), v = .bool r ∧ St w0 D S0 S1 [] w1
set_option maxHeartbeats 4000000 in
theorem c66 (S0 : Mp) {w0 : World} (hs : St w0 [] S0 S0 [] w0) (n_0 : Int) (r : Bool) (h0 : rtcp_values_2 n_0 = some r) :
    Calls Try.prog 66 #[.int .i64 n_0] w0 (Re (Po66 S0 w0 [] r)) := by
 unfold rtcp_values_2 at h0
 refine calls_of_cd Try.func66 rfl Try.ntmps66 rfl ?_
 refine Cd.sr ?_
 refine Rg.st rfl rfl ?_
 refine Rg.go ?_
 refine Cd.sr ?_
 refine Rg.mv rfl rfl ?_
 refine Rg.vN (X.lss rfl rfl) rfl ?_
 refine Rg.mv rfl rfl ?_
 refine Rg.vF rfl rfl rfl (fun hW => X.move rfl) ?_
 refine Rg.vF rfl rfl rfl (fun hW => X.gtr (ev_g rfl hW) rfl) ?_
 refine Rg.vN (X.pickOr rfl rfl rfl) rfl ?_
 refine Rg.st rfl rfl ?_
 refine Rg.go ?_
 refine Cd.ret ?_
 obtain rfl := some_s h0
 exact fun a ha => Cd.retA (R := Re (Po66 S0 w0 [] _)) ha Try.results66 ⟨_, _, rfl, rfl, rfl⟩ ⟨_, rfl, S0, rfl, hs⟩
theorem qf66 : ∀ (S : Mp) (w : World), Has S w → ∀ (y0 : Int) (z : Bool), rtcp_values_2 y0 = some z → Calls Try.prog 66 (#[] ++ [.int .i64 y0].toArray ++ #[]) w (Re (fun v w1 => ∃ S1, v = .bool z ∧ St w [] S S1 [] w1)) := by
  intro S w hS y0 z hz
  rw [show (#[] ++ [.int .i64 y0].toArray ++ #[] : Array Value) = #[.int .i64 y0] from by simp]
  exact c66 S (St.start _ _ hS) y0 _ hz
end Go.Lk
