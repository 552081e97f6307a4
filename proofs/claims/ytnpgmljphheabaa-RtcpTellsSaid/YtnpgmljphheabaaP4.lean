/- A part of this proof: RtcpTells returns true for every input and leaves its arguments as they were; there are no conditions. -/
import Derived.Test.YtnpgmljphheabaaP3
set_option linter.unusedVariables false
set_option linter.unusedSimpArgs false
set_option maxRecDepth 100000
namespace Go.Lk
open Go.RowKit Go.Proofs
noncomputable def rtcp_reader_remb_l0 (q82 : (List Int)) (q83 : Int) (q84 : Bool) (q85 : (List Int)) : Option (Flow ((List Int) × Int × Bool × (List Int)) (rtcp_reader × api_Report)) :=
 (rtcp_reader_left (⟨q82, q83, q84⟩ : rtcp_reader)).bind fun x100 =>
 if x100.1 = true then (
  ((
   ((
    (rtcp_reader_num (⟨x100.2.b_, x100.2.at_, x100.2.bad_⟩ : rtcp_reader) 4).bind fun x144 =>
    (app 4 q85 ([cv .u32 x144.1] : List Int)).bind fun y161 =>
    some (x144.2.b_, x144.2.at_, x144.2.bad_, y161) : Option ((List Int) × Int × Bool × (List Int)))).bind fun p131 =>
   some (p131.1, p131.2.1, p131.2.2.1, p131.2.2.2) : Option ((List Int) × Int × Bool × (List Int)))).bind fun p115 =>
  some (Flow.next (p115.1, p115.2.1, p115.2.2.1, p115.2.2.2)))
 else (
  some (Flow.brk (x100.2.b_, x100.2.at_, x100.2.bad_, q85)))
noncomputable def rtcp_reader_remb (G_0 : rtcp_reader) (o_1 : api_Report) : Option (rtcp_reader × api_Report) :=
 ((
  (rtcp_reader_num (⟨G_0.b_, G_0.at_, G_0.bad_⟩ : rtcp_reader) 4).bind fun x174 =>
  some (x174.2.b_, x174.2.at_, (x174.1 != (bor .u64 (bor .u64 (bor .u64 (shl .u64 (cv .u64 82) 24) (shl .u64 (cv .u64 69) 16)) (shl .u64 (cv .u64 77) 8)) (cv .u64 66))) || x174.2.bad_) : Option ((List Int) × Int × Bool))).bind fun p26 =>
 (rtcp_reader_num (⟨p26.1, p26.2.1, p26.2.2⟩ : rtcp_reader) 1).bind fun x34 =>
 (rtcp_reader_num (⟨x34.2.b_, x34.2.at_, x34.2.bad_⟩ : rtcp_reader) 3).bind fun x44 =>
 (rtcp_reader_rate (⟨x44.2.b_, x44.2.at_, x44.2.bad_⟩ : rtcp_reader) x44.1 18).bind fun x54 =>
 (loopF (fun sg => rtcp_reader_remb_l0 sg.1 sg.2.1 sg.2.2.1 sg.2.2.2) (x54.2.b_, x54.2.at_, x54.2.bad_, o_1.Abouts)).bind fun fl65 =>
 Flow.el fl65 (fun s170 => (
  none))
 (fun s171 => (
  some ((⟨s171.1, s171.2.1, (s171.2.2.1 || (x34.1 != (cv .u64 (s171.2.2.2.length : Int)))) || (decide (16 < x34.1))⟩ : rtcp_reader), (⟨o_1.Kind, o_1.From, o_1.About, o_1.Tuples, s171.2.2.2, o_1.Numbers, x54.1, o_1.Type_, o_1.Count, o_1.Body⟩ : api_Report))))
 (fun r172 => (
  none))
def Po76 (S0 : Mp) (w0 : World) (D : List Nat) (b1 : Nat) (b5 : Nat) (r : (rtcp_reader × api_Report)) (v : Value) (w1 : World) : Prop :=
  ∃ (S1 : Mp) (v17 : Value) (v18 : Value) (v19 : Value) (v20 : Value) (v21 : Value) (g22 : Option Nat), v = .tuple #[] ∧ St w0 D S0 S1 [.app g22 v19 r.2.Abouts.length 27 1, .box b1 #[v17, .int .i64 r.1.at_, .bool r.1.bad_] 101, .box b5 #[.int .i64 r.2.Kind, .int .u32 r.2.From, .int .u32 r.2.About, v18, v19, v20, .int .u64 r.2.Rate, .int .i64 r.2.Type_, .int .i64 r.2.Count, v21] 33] w1 ∧ Rd S1 1 (RI .u8) v17 r.1.b_ ∧ Rd S1 3 R_api_Tuple v18 r.2.Tuples ∧ Rd S1 1 (RI .u32) v19 r.2.Abouts ∧ Rd S1 1 (RI .i64) v20 r.2.Numbers ∧ Rd S1 1 (RI .u8) v21 r.2.Body
set_option maxHeartbeats 4000000 in
theorem c76 (S0 : Mp) {w0 : World} (b1 : Nat) (G_0 : rtcp_reader) (v2 : Value) (f3 : Rd S0 1 (RI .u8) v2 G_0.b_) (b5 : Nat) (o_1 : api_Report) (v6 : Value) (f7 : Rd S0 3 R_api_Tuple v6 o_1.Tuples) (v8 : Value) (f9 : Rd S0 1 (RI .u32) v8 o_1.Abouts) (v10 : Value) (f11 : Rd S0 1 (RI .i64) v10 o_1.Numbers) (v12 : Value) (f13 : Rd S0 1 (RI .u8) v12 o_1.Body) (g15 : Option Nat) (hs : St w0 (b1 :: b5 :: g15.toList) S0 S0 [.box b1 #[v2, .int .i64 G_0.at_, .bool G_0.bad_] 101, .box b5 #[.int .i64 o_1.Kind, .int .u32 o_1.From, .int .u32 o_1.About, v6, v8, v10, .int .u64 o_1.Rate, .int .i64 o_1.Type_, .int .i64 o_1.Count, v12] 33, .app g15 v8 o_1.Abouts.length 27 1] w0) (r : (rtcp_reader × api_Report)) (h0 : rtcp_reader_remb G_0 o_1 = some r) :
    Calls Try.prog 76 #[.pointer (some ⟨b1, 0, none⟩), .pointer (some ⟨b5, 0, none⟩)] w0 (Re (Po76 S0 w0 (b1 :: b5 :: g15.toList) b1 b5 r)) := by
 unfold rtcp_reader_remb at h0
 refine calls_of_cd Try.func76 rfl Try.ntmps76 rfl ?_
 refine Cd.seq ?_
 obtain ⟨p26, hp27, h0⟩ := bind_s h0
 obtain ⟨j23, j24, j25⟩ := p26
 dsimp only at h0
 refine Cd.post (fun K w => ∃ (S28 : Mp) (v31 : Value), K = [(0, .pointer (some ⟨b1, 0, none⟩)), (1, .pointer (some ⟨b5, 0, none⟩))] ∧ Le S0 S28 ∧ St w0 (b1 :: b5 :: g15.toList) S0 S28 [.box b1 #[v31, .int .i64 j24, .bool j25] 101, .box b5 #[.int .i64 o_1.Kind, .int .u32 o_1.From, .int .u32 o_1.About, v6, v8, v10, .int .u64 o_1.Rate, .int .i64 o_1.Type_, .int .i64 o_1.Count, v12] 33, .app g15 v8 o_1.Abouts.length 27 1] w ∧ Rd S28 1 (RI .u8) v31 j23) ?_ ?_
 ·rintro K33 w29 ⟨S28, v31, rfl, le30, hs, f32⟩
  refine Cd.go ?_
  refine Cd.sr ?_
  refine Rg.mv rfl rfl ?_
  obtain ⟨x34, hx35, h0⟩ := bind_s h0
  refine Rg.step rfl (Oq.call Try.call72 rfl rfl (c72 S28 _ (⟨j23, j24, j25⟩ : rtcp_reader) _ f32 _ (hs.enter 0 rfl rfl) _ hx35) (fun v36 w37 h38 => ?_))
  obtain ⟨S39, v42, rfl, hs40, f43⟩ := h38
  have le41 := hs40.le
  have hs := hs.call1 0 rfl rfl hs40
  refine Rg.st rfl rfl ?_
  refine Rg.go ?_
  refine Cd.sr ?_
  refine Rg.mv rfl rfl ?_
  obtain ⟨x44, hx45, h0⟩ := bind_s h0
  refine Rg.step rfl (Oq.call Try.call72 rfl rfl (c72 S39 _ (⟨x34.2.b_, x34.2.at_, x34.2.bad_⟩ : rtcp_reader) _ f43 _ (hs.enter 0 rfl rfl) _ hx45) (fun v46 w47 h48 => ?_))
  obtain ⟨S49, v52, rfl, hs50, f53⟩ := h48
  have le51 := hs50.le
  have hs := hs.call1 0 rfl rfl hs50
  refine Rg.st rfl rfl ?_
  refine Rg.go ?_
  refine Cd.sr ?_
  refine Rg.mv rfl rfl ?_
  refine Rg.mv rfl rfl ?_
  refine Rg.mv rfl rfl ?_
  obtain ⟨x54, hx55, h0⟩ := bind_s h0
  refine Rg.step rfl (Oq.call Try.call81 rfl rfl (c81 S49 _ (⟨x44.2.b_, x44.2.at_, x44.2.bad_⟩ : rtcp_reader) _ f53 _ _ (hs.enter 0 rfl rfl) _ hx55) (fun v56 w57 h58 => ?_))
  obtain ⟨S59, v62, rfl, hs60, f63⟩ := h58
  have le61 := hs60.le
  have hs := hs.call1 0 rfl rfl hs60
  refine Rg.vN (X.nilCheck rfl) rfl ?_
  refine Rg.vN (X.fieldB Try.underlying33 rfl zz30 rfl rfl) rfl ?_
  refine Rg.step rfl (Oq.store hs 1 rfl 6 zz30 rfl rfl rfl rfl rfl [.box b1 #[v62, .int .i64 x54.2.at_, .bool x54.2.bad_] 101, .box b5 #[.int .i64 o_1.Kind, .int .u32 o_1.From, .int .u32 o_1.About, v6, v8, v10, .int .u64 x54.1, .int .i64 o_1.Type_, .int .i64 o_1.Count, v12] 33, .app g15 v8 o_1.Abouts.length 27 1] rfl (fun w64 hs => ?_))
  refine Rg.go ?_
  refine Cd.seq ?_
  obtain ⟨fl65, hfl66, h0⟩ := bind_s h0
  refine Cd.post (fun K w => ∃ (j67 : (List Int)) (j68 : Int) (j69 : Bool) (j70 : (List Int)) (S71 : Mp) (v73 : Value) (v75 : Value) (g77 : Option Nat), K = [(0, .pointer (some ⟨b1, 0, none⟩)), (1, .pointer (some ⟨b5, 0, none⟩)), (4, .int .u64 x34.1)] ∧ fl65 = Flow.brk (j67, j68, j69, j70) ∧ Le S59 S71 ∧ St w0 (b1 :: b5 :: g15.toList) S0 S71 [.box b1 #[v73, .int .i64 j68, .bool j69] 101, .box b5 #[.int .i64 o_1.Kind, .int .u32 o_1.From, .int .u32 o_1.About, v6, v75, v10, .int .u64 x54.1, .int .i64 o_1.Type_, .int .i64 o_1.Count, v12] 33, .app g77 v75 j70.length 27 1] w ∧ Rd S71 1 (RI .u8) v73 j67 ∧ Rd S71 1 (RI .u32) v75 j70) ?_ ?_
  ·rintro K80 w79 ⟨j67, j68, j69, j70, S71, v73, v75, g77, rfl, rfl, le72, hs, f74, f76⟩
   have h0 := el_brk h0
   try dsimp only at h0
   refine Cd.go ?_
   refine Cd.region ?_
   refine Rg.mv rfl rfl ?_
   refine Rg.mv rfl rfl ?_
   refine Rg.vN (X.nilCheck rfl) rfl ?_
   refine Rg.vN (X.fieldB Try.underlying101 rfl zz4 rfl rfl) rfl ?_
   refine Rg.vN (X.load1 Try.underlying4 rfl rfl (hs.cell 0 rfl 2 rfl)) rfl ?_
   refine Rg.mv rfl rfl ?_
   refine Rg.weak [(1, .pointer (some ⟨b5, 0, none⟩)), (4, .int .u64 x34.1), (56, .pointer (some ⟨b1, 0, none⟩)), (61, .bool j69)] ⟨rfl, rfl, rfl, rfl, trivial⟩ ?_
   refine Rg.vF rfl rfl rfl (fun hW => X.move rfl) ?_
   refine Rg.vF rfl rfl rfl (fun hW => X.move rfl) ?_
   refine Rg.vF rfl rfl rfl (fun hW => X.nilCheck (ev_g rfl hW)) ?_
   refine Rg.vF rfl rfl rfl (fun hW => X.fieldB Try.underlying33 rfl zz29 (ev_g rfl hW) rfl) ?_
   refine Rg.vF rfl rfl rfl (fun hW => X.load1 Try.underlying29 rfl (ev_g rfl hW) (hs.cell 1 rfl 4 rfl)) ?_
   refine Rg.vF rfl rfl rfl (fun hW => X.lenR Try.underlying29 (ev_g rfl hW) f76) ?_
   refine Rg.vF rfl rfl rfl (fun hW => X.conv Try.underlying3 Try.underlying30 (ev_g rfl hW)) ?_
   refine Rg.vF rfl rfl rfl (fun hW => X.neq (ev_g rfl hW) (ev_g rfl hW)) ?_
   refine Rg.vN (X.pickOr rfl rfl rfl) rfl ?_
   refine Rg.mv rfl rfl ?_
   refine Rg.vF rfl rfl rfl (fun hW => X.move rfl) ?_
   refine Rg.weak [(56, .pointer (some ⟨b1, 0, none⟩)), (71, .bool (j69 || (x34.1 != (cv .u64 (j70.length : Int))))), (72, gv (!(j69 || (x34.1 != (cv .u64 (j70.length : Int))))) (.int .u64 x34.1))] ⟨rfl, rfl, rfl, trivial⟩ ?_
   refine Rg.vF rfl rfl rfl (fun hW => X.gtr (ev_g rfl hW) rfl) ?_
   refine Rg.vN (X.pickOr rfl rfl rfl) rfl ?_
   refine Rg.vN (X.nilCheck rfl) rfl ?_
   refine Rg.vN (X.fieldB Try.underlying101 rfl zz4 rfl rfl) rfl ?_
   refine Rg.step rfl (Oq.store hs 0 rfl 2 zz4 rfl rfl rfl rfl rfl [.box b1 #[v73, .int .i64 j68, .bool ((j69 || (x34.1 != (cv .u64 (j70.length : Int)))) || (decide (16 < x34.1)))] 101, .box b5 #[.int .i64 o_1.Kind, .int .u32 o_1.From, .int .u32 o_1.About, v6, v75, v10, .int .u64 x54.1, .int .i64 o_1.Type_, .int .i64 o_1.Count, v12] 33, .app g77 v75 j70.length 27 1] rfl (fun w81 hs => ?_))
   refine Rg.nil ?_
   obtain rfl := some_s h0
   exact fun a ha => Cd.fallA (R := Re (Po76 S0 w0 (b1 :: b5 :: g15.toList) b1 b5 _)) ha Try.results76 ⟨_, rfl, S71, v73, v6, v75, v10, v12, g77, rfl, (hs.pick [2, 0, 1] (by decide) rfl), f74, (f7.mono (le30.trans (le41.trans (le51.trans (le61.trans le72))))), f76, (f11.mono (le30.trans (le41.trans (le51.trans (le61.trans le72))))), (f13.mono (le30.trans (le41.trans (le51.trans (le61.trans le72)))))⟩
  ·skip
   refine Cd.weak [(0, .pointer (some ⟨b1, 0, none⟩)), (1, .pointer (some ⟨b5, 0, none⟩)), (4, .int .u64 x34.1)] ⟨rfl, rfl, rfl, trivial⟩ ?_
   refine Cd.block (Cd.loop (fun sg => rtcp_reader_remb_l0 sg.1 sg.2.1 sg.2.2.1 sg.2.2.2) (fun (sg : ((List Int) × Int × Bool × (List Int))) K w => ∃ (S86 : Mp) (v88 : Value) (v90 : Value) (g92 : Option Nat), K = [(0, .pointer (some ⟨b1, 0, none⟩)), (1, .pointer (some ⟨b5, 0, none⟩)), (4, .int .u64 x34.1)] ∧ Le S59 S86 ∧ St w0 (b1 :: b5 :: g15.toList) S0 S86 [.box b1 #[v88, .int .i64 sg.2.1, .bool sg.2.2.1] 101, .box b5 #[.int .i64 o_1.Kind, .int .u32 o_1.From, .int .u32 o_1.About, v6, v90, v10, .int .u64 x54.1, .int .i64 o_1.Type_, .int .i64 o_1.Count, v12] 33, .app g92 v90 sg.2.2.2.length 27 1] w ∧ Rd S86 1 (RI .u8) v88 sg.1 ∧ Rd S86 1 (RI .u32) v90 sg.2.2.2) (x54.2.b_, x54.2.at_, x54.2.bad_, o_1.Abouts) fl65 hfl66 ⟨S59, v62, v8, g15, rfl, Le.refl _, hs, f63, (f9.mono (le30.trans (le41.trans (le51.trans le61))))⟩ ?_)
   rintro ⟨q82, q83, q84, q85⟩ fl94 K99 w98 hb95 ⟨S86, v88, v90, g92, rfl, le87, hs, f89, f91⟩ hl96
   have h97 : rtcp_reader_remb_l0 q82 q83 q84 q85 = some fl94 := hb95
   unfold rtcp_reader_remb_l0 at h97
   refine Cd.seq ?_
   refine Cd.sr ?_
   refine Rg.mv rfl rfl ?_
   obtain ⟨x100, hx101, h97⟩ := bind_s h97
   refine Rg.step rfl (Oq.call Try.call74 rfl rfl (c74 S86 _ (⟨q82, q83, q84⟩ : rtcp_reader) _ f89 (hs.enter 0 rfl rfl) _ hx101) (fun v102 w103 h104 => ?_))
   obtain ⟨S105, v108, rfl, hs106, f109⟩ := h104
   have le107 := hs106.le
   have hs := hs.call1 0 rfl rfl hs106
   refine Rg.go ?_
   refine Cd.cond (t := x100.1) rfl (fun hc110 => ?_) (fun hc110 => ?_)
   ·have h97 := ite_t hc110 h97
    refine Cd.sg ?_
    obtain ⟨p115, hp116, h97⟩ := bind_s h97
    obtain ⟨j111, j112, j113, j114⟩ := p115
    dsimp only at h97
    refine Cd.post (fun K w => ∃ (S117 : Mp) (v120 : Value) (v122 : Value) (g124 : Option Nat), K = [(0, .pointer (some ⟨b1, 0, none⟩)), (1, .pointer (some ⟨b5, 0, none⟩)), (4, .int .u64 x34.1)] ∧ Le S105 S117 ∧ St w0 (b1 :: b5 :: g15.toList) S0 S117 [.box b1 #[v120, .int .i64 j112, .bool j113] 101, .box b5 #[.int .i64 o_1.Kind, .int .u32 o_1.From, .int .u32 o_1.About, v6, v122, v10, .int .u64 x54.1, .int .i64 o_1.Type_, .int .i64 o_1.Count, v12] 33, .app g124 v122 j114.length 27 1] w ∧ Rd S117 1 (RI .u8) v120 j111 ∧ Rd S117 1 (RI .u32) v122 j114) ?_ ?_
    ·rintro K126 w118 ⟨S117, v120, v122, g124, rfl, le119, hs, f121, f123⟩
     exact fun a ha => ⟨(j111, j112, j113, j114), [(0, .pointer (some ⟨b1, 0, none⟩)), (1, .pointer (some ⟨b5, 0, none⟩)), (4, .int .u64 x34.1)], (some_s h97).symm, ha.weak ⟨rfl, rfl, rfl, trivial⟩, S117, v120, v122, g124, rfl, (le87.trans (le107.trans le119)), hs, f121, f123⟩
    ·skip
     refine Cd.block ?_
     obtain ⟨p131, hp132, hp116⟩ := bind_s hp116
     obtain ⟨j127, j128, j129, j130⟩ := p131
     dsimp only at hp116
     refine Cd.post (fun K w => ∃ (S133 : Mp) (v136 : Value) (v138 : Value) (g140 : Option Nat), K = [(0, .pointer (some ⟨b1, 0, none⟩)), (1, .pointer (some ⟨b5, 0, none⟩)), (4, .int .u64 x34.1)] ∧ Le S105 S133 ∧ St w0 (b1 :: b5 :: g15.toList) S0 S133 [.box b1 #[v136, .int .i64 j128, .bool j129] 101, .box b5 #[.int .i64 o_1.Kind, .int .u32 o_1.From, .int .u32 o_1.About, v6, v138, v10, .int .u64 x54.1, .int .i64 o_1.Type_, .int .i64 o_1.Count, v12] 33, .app g140 v138 j130.length 27 1] w ∧ Rd S133 1 (RI .u8) v136 j127 ∧ Rd S133 1 (RI .u32) v138 j130) ?_ ?_
     ·rintro K142 w134 ⟨S133, v136, v138, g140, rfl, le135, hs, f137, f139⟩
      cases some_s hp116
      exact fun a ha => ⟨[(0, .pointer (some ⟨b1, 0, none⟩)), (1, .pointer (some ⟨b5, 0, none⟩)), (4, .int .u64 x34.1)], ha.weak ⟨rfl, rfl, rfl, trivial⟩, S133, v136, v138, g140, rfl, le135, hs, f137, f139⟩
     ·skip
      refine Cd.rD mixed (fun l w => Has S105 w ∧ (l.getD 12 false = false → Hp b5 #[.int .i64 o_1.Kind, .int .u32 o_1.From, .int .u32 o_1.About, v6, v90, v10, .int .u64 x54.1, .int .i64 o_1.Type_, .int .i64 o_1.Count, v12] 33 w)) hs (fun _ _ _ _ _ h => h) (by kernel_rfl) (fun w143 hs => ⟨⟨hs.has, (fun _ => hs.heap 1 rfl)⟩, ?_⟩)
      refine Rk.uN 0 rfl rfl (fun _ _ => by simp only [getD_set_ne false (show (0 : Nat) ≠ 12 by decide)]) (fun l w hl hcl hc => X.move rfl) ?_
      refine Rk.uN 1 rfl rfl (fun _ _ => by simp only [getD_set_ne false (show (1 : Nat) ≠ 12 by decide)]) (fun l w hl hcl hc => X.move rfl) ?_
      refine Rk.uN 2 rfl rfl (fun _ _ => by simp only [getD_set_ne false (show (2 : Nat) ≠ 12 by decide)]) (fun l w hl hcl hc => X.nilCheck rfl) ?_
      refine Rk.uN 3 rfl rfl (fun _ _ => by simp only [getD_set_ne false (show (3 : Nat) ≠ 12 by decide)]) (fun l w hl hcl hc => X.fieldB Try.underlying33 rfl zz29 rfl rfl) ?_
      refine Rk.uN 4 rfl rfl (fun _ _ => by simp only [getD_set_ne false (show (4 : Nat) ≠ 12 by decide)]) (fun l w hl hcl hc => X.load1 Try.underlying29 rfl rfl (heap_cell (hc.2 (hcl.lt rfl (by kernel_rfl) hl)) rfl)) ?_
      refine Rk.uN 5 rfl rfl (fun _ _ => by simp only [getD_set_ne false (show (5 : Nat) ≠ 12 by decide)]) (fun l w hl hcl hc => X.move rfl) ?_
      obtain ⟨x144, hx145, hp132⟩ := bind_s hp132
      refine Rk.eN 6 rfl rfl (Oq.call Try.call72 rfl rfl (c72 S105 _ (⟨x100.2.b_, x100.2.at_, x100.2.bad_⟩ : rtcp_reader) _ f109 _ (hs.enter 0 rfl rfl) _ hx145) (fun v146 w147 h148 => ?_))
      obtain ⟨S149, v152, rfl, hs150, f153⟩ := h148
      have le151 := hs150.le
      have hs := hs.call1 0 rfl rfl hs150
      refine ⟨⟨(hs.has.down le151), (fun _ => hs.heap 1 rfl)⟩, Rk.mk (C' := fun l w => Has S149 w ∧ (l.getD 12 false = false → Hp b5 #[.int .i64 o_1.Kind, .int .u32 o_1.From, .int .u32 o_1.About, v6, v90, v10, .int .u64 x54.1, .int .i64 o_1.Type_, .int .i64 o_1.Count, v12] 33 w)) ⟨hs.has, (fun _ => hs.heap 1 rfl)⟩ (fun l w hc => ⟨hc.1.down le151, hc.2⟩) ?_⟩
      refine Rk.uN 7 rfl rfl (fun _ _ => by simp only [getD_set_ne false (show (7 : Nat) ≠ 12 by decide)]) (fun l w hl hcl hc => X.conv Try.underlying30 Try.underlying27 rfl) ?_
      refine Rk.weak [(0, .pointer (some ⟨b1, 0, none⟩)), (1, .pointer (some ⟨b5, 0, none⟩)), (4, .int .u64 x34.1), (44, .pointer (some ⟨b5, 0, none⟩)), (48, v90), (51, .int .u32 (cv .u32 x144.1))] ⟨rfl, rfl, rfl, rfl, rfl, rfl, trivial⟩ ?_
      refine Rk.eN 8 rfl rfl (Oq.lit (sz := 1) (cs0 := [.int .u32 0]) (cells := [.int .u32 (cv .u32 x144.1)]) hs Try.underlying29 ii27 rfl rfl rfl rfl rfl rfl ⟨_, [.int .u32 (cv .u32 x144.1)], _, rfl, rfl, rfl, rfl⟩ rfl rfl rfl (fun b154 w155 S156 hs le157 hE158 => ?_))
      have f160 : Rd S156 1 (RI .u32) (.slice (some ⟨b154, 0, none⟩) 1 1) ([cv .u32 x144.1] : List Int) := Rd.of_cells (xs := ([cv .u32 x144.1] : List Int)) ⟨[.int .u32 (cv .u32 x144.1)], _, rfl, rfl, one_all ⟨rfl, trivial⟩, rfl, rfl⟩ hE158 (Nat.le_of_ble_eq_true rfl) (Nat.le_of_ble_eq_true rfl)
      refine ⟨⟨(hs.has.down le157), (fun _ => hs.heap 2 rfl)⟩, Rk.mk (C' := fun l w => Has S156 w ∧ (l.getD 12 false = false → Hp b5 #[.int .i64 o_1.Kind, .int .u32 o_1.From, .int .u32 o_1.About, v6, v90, v10, .int .u64 x54.1, .int .i64 o_1.Type_, .int .i64 o_1.Count, v12] 33 w)) ⟨hs.has, (fun _ => hs.heap 2 rfl)⟩ (fun l w hc => ⟨hc.1.down le157, hc.2⟩) ?_⟩
      obtain ⟨y161, hx162, hp132⟩ := bind_s hp132
      refine Rk.eN 9 rfl rfl (Oq.appendS hs 3 rfl Try.underlying29 ii27 rfl rfl rfl rfl rfl rfl (f91.mono (le107.trans (le151.trans le157))) f160 hx162 rfl rfl rfl (fun v163 w164 S165 g166 hs le167 f168 => ?_))
      refine ⟨⟨(hs.has.down le167), (fun _ => hs.heap 2 rfl)⟩, Rk.mk (C' := fun l w => Has S165 w ∧ (l.getD 12 false = false → Hp b5 #[.int .i64 o_1.Kind, .int .u32 o_1.From, .int .u32 o_1.About, v6, v90, v10, .int .u64 x54.1, .int .i64 o_1.Type_, .int .i64 o_1.Count, v12] 33 w)) ⟨hs.has, (fun _ => hs.heap 2 rfl)⟩ (fun l w hc => ⟨hc.1.down le167, hc.2⟩) ?_⟩
      refine Rk.uN 10 rfl rfl (fun _ _ => by simp only [getD_set_ne false (show (10 : Nat) ≠ 12 by decide)]) (fun l w hl hcl hc => X.nilCheck rfl) ?_
      refine Rk.uN 11 rfl rfl (fun _ _ => by simp only [getD_set_ne false (show (11 : Nat) ≠ 12 by decide)]) (fun l w hl hcl hc => X.fieldB Try.underlying33 rfl zz29 rfl rfl) ?_
      refine Rk.eN 12 rfl rfl (Oq.store hs 2 rfl 4 zz29 rfl rfl f168.cells f168.one rfl [.app (some b154) (.slice (some ⟨b154, 0, none⟩) 1 1) ([cv .u32 x144.1] : List Int).length 27 1, .box b1 #[v152, .int .i64 x144.2.at_, .bool x144.2.bad_] 101, .box b5 #[.int .i64 o_1.Kind, .int .u32 o_1.From, .int .u32 o_1.About, v6, v163, v10, .int .u64 x54.1, .int .i64 o_1.Type_, .int .i64 o_1.Count, v12] 33, .app g166 v163 y161.length 27 1] rfl (fun w169 hs => ?_))
      refine ⟨⟨hs.has, (fun h => absurd h (by decide))⟩, ?_⟩
      refine Rk.done ?_
      cases some_s hp132
      exact fun a ha => ⟨[(0, .pointer (some ⟨b1, 0, none⟩)), (1, .pointer (some ⟨b5, 0, none⟩)), (4, .int .u64 x34.1)], ha.weak ⟨rfl, rfl, rfl, trivial⟩, S165, v152, v163, g166, rfl, (le151.trans (le157.trans le167)), (hs.pick [1, 2, 3] (by decide) rfl), (f153.mono (le157.trans le167)), f168⟩
   ·have h97 := ite_f hc110 h97
    refine Cd.exit ?_
    obtain rfl := some_s h97
    have e := hl96 (fun _ e => by cases e)
    exact fun a ha => ⟨[(0, .pointer (some ⟨b1, 0, none⟩)), (1, .pointer (some ⟨b5, 0, none⟩)), (4, .int .u64 x34.1)], ha.weak ⟨rfl, rfl, rfl, trivial⟩, _, _, _, _, S105, v108, v90, g92, rfl, e.symm, (le87.trans le107), hs, f109, (f91.mono le107)⟩
 ·skip
  refine Cd.rD mixed (fun l w => Has S0 w ∧ (l.getD 2 false = false → Hp b1 #[v2, .int .i64 G_0.at_, .bool G_0.bad_] 101 w)) hs (fun _ _ _ _ _ h => h) (by kernel_rfl) (fun w173 hs => ⟨⟨hs.has, (fun _ => hs.heap 0 rfl)⟩, ?_⟩)
  refine Rk.uN 0 rfl rfl (fun _ _ => by simp only [getD_set_ne false (show (0 : Nat) ≠ 2 by decide)]) (fun l w hl hcl hc => X.move rfl) ?_
  refine Rk.uN 1 rfl rfl (fun _ _ => by simp only [getD_set_ne false (show (1 : Nat) ≠ 2 by decide)]) (fun l w hl hcl hc => X.move rfl) ?_
  refine Rk.uN 3 rfl rfl (fun _ _ => by simp only [getD_set_ne false (show (3 : Nat) ≠ 2 by decide)]) (fun l w hl hcl hc => X.indexSc Try.underlying9 rfl rfl (by decide) (b := 82) rfl rfl) ?_
  refine Rk.uN 4 rfl rfl (fun _ _ => by simp only [getD_set_ne false (show (4 : Nat) ≠ 2 by decide)]) (fun l w hl hcl hc => X.conv Try.underlying5 Try.underlying30 rfl) ?_
  refine Rk.uN 5 rfl rfl (fun _ _ => by simp only [getD_set_ne false (show (5 : Nat) ≠ 2 by decide)]) (fun l w hl hcl hc => X.shl rfl rfl (by decide)) ?_
  refine Rk.uN 6 rfl rfl (fun _ _ => by simp only [getD_set_ne false (show (6 : Nat) ≠ 2 by decide)]) (fun l w hl hcl hc => X.indexSc Try.underlying9 rfl rfl (by decide) (b := 69) rfl rfl) ?_
  refine Rk.uN 7 rfl rfl (fun _ _ => by simp only [getD_set_ne false (show (7 : Nat) ≠ 2 by decide)]) (fun l w hl hcl hc => X.conv Try.underlying5 Try.underlying30 rfl) ?_
  refine Rk.uN 8 rfl rfl (fun _ _ => by simp only [getD_set_ne false (show (8 : Nat) ≠ 2 by decide)]) (fun l w hl hcl hc => X.shl rfl rfl (by decide)) ?_
  refine Rk.uN 9 rfl rfl (fun _ _ => by simp only [getD_set_ne false (show (9 : Nat) ≠ 2 by decide)]) (fun l w hl hcl hc => X.or rfl rfl) ?_
  refine Rk.uN 10 rfl rfl (fun _ _ => by simp only [getD_set_ne false (show (10 : Nat) ≠ 2 by decide)]) (fun l w hl hcl hc => X.indexSc Try.underlying9 rfl rfl (by decide) (b := 77) rfl rfl) ?_
  refine Rk.uN 11 rfl rfl (fun _ _ => by simp only [getD_set_ne false (show (11 : Nat) ≠ 2 by decide)]) (fun l w hl hcl hc => X.conv Try.underlying5 Try.underlying30 rfl) ?_
  refine Rk.uN 12 rfl rfl (fun _ _ => by simp only [getD_set_ne false (show (12 : Nat) ≠ 2 by decide)]) (fun l w hl hcl hc => X.shl rfl rfl (by decide)) ?_
  refine Rk.uN 13 rfl rfl (fun _ _ => by simp only [getD_set_ne false (show (13 : Nat) ≠ 2 by decide)]) (fun l w hl hcl hc => X.or rfl rfl) ?_
  refine Rk.uN 14 rfl rfl (fun _ _ => by simp only [getD_set_ne false (show (14 : Nat) ≠ 2 by decide)]) (fun l w hl hcl hc => X.indexSc Try.underlying9 rfl rfl (by decide) (b := 66) rfl rfl) ?_
  refine Rk.uN 15 rfl rfl (fun _ _ => by simp only [getD_set_ne false (show (15 : Nat) ≠ 2 by decide)]) (fun l w hl hcl hc => X.conv Try.underlying5 Try.underlying30 rfl) ?_
  refine Rk.uN 16 rfl rfl (fun _ _ => by simp only [getD_set_ne false (show (16 : Nat) ≠ 2 by decide)]) (fun l w hl hcl hc => X.or rfl rfl) ?_
  obtain ⟨x174, hx175, hp27⟩ := bind_s hp27
  refine Rk.eN 2 rfl rfl (Oq.call Try.call72 rfl rfl (c72 S0 _ (⟨G_0.b_, G_0.at_, G_0.bad_⟩ : rtcp_reader) _ f3 _ (hs.enter 0 rfl rfl) _ hx175) (fun v176 w177 h178 => ?_))
  obtain ⟨S179, v182, rfl, hs180, f183⟩ := h178
  have le181 := hs180.le
  have hs := hs.call1 0 rfl rfl hs180
  refine ⟨⟨(hs.has.down le181), (fun h => absurd h (by decide))⟩, Rk.mk (C' := fun l w => Has S179 w ∧ (l.getD 26 false = false → Hp b1 #[v182, .int .i64 x174.2.at_, .bool x174.2.bad_] 101 w) ∧ (l.getD 2 false = false → Hp b1 #[v2, .int .i64 G_0.at_, .bool G_0.bad_] 101 w)) ⟨hs.has, (fun _ => hs.heap 0 rfl), (fun h => absurd h (by decide))⟩ (fun l w hc => ⟨hc.1.down le181, hc.2.2⟩) ?_⟩
  refine Rk.uN 17 rfl rfl (fun _ _ => by simp only [getD_set_ne false (show (17 : Nat) ≠ 2 by decide), getD_set_ne false (show (17 : Nat) ≠ 26 by decide)]) (fun l w hl hcl hc => X.neq rfl rfl) ?_
  refine Rk.uN 18 rfl rfl (fun _ _ => by simp only [getD_set_ne false (show (18 : Nat) ≠ 2 by decide), getD_set_ne false (show (18 : Nat) ≠ 26 by decide)]) (fun l w hl hcl hc => X.move rfl) ?_
  refine Rk.weak [(0, .pointer (some ⟨b1, 0, none⟩)), (1, .pointer (some ⟨b5, 0, none⟩)), (6, .pointer (some ⟨b1, 0, none⟩)), (24, .bool (x174.1 != (bor .u64 (bor .u64 (bor .u64 (shl .u64 (cv .u64 82) 24) (shl .u64 (cv .u64 69) 16)) (shl .u64 (cv .u64 77) 8)) (cv .u64 66))))] ⟨rfl, rfl, rfl, rfl, trivial⟩ ?_
  refine Rk.uF 19 rfl rfl (fun _ _ => by simp only [getD_set_ne false (show (19 : Nat) ≠ 2 by decide), getD_set_ne false (show (19 : Nat) ≠ 26 by decide)]) rfl rfl (fun hW => fun l w hl hcl hc => X.move rfl) ?_
  refine Rk.uF 20 rfl rfl (fun _ _ => by simp only [getD_set_ne false (show (20 : Nat) ≠ 2 by decide), getD_set_ne false (show (20 : Nat) ≠ 26 by decide)]) rfl rfl (fun hW => fun l w hl hcl hc => X.nilCheck (ev_g rfl hW)) ?_
  refine Rk.uF 21 rfl rfl (fun _ _ => by simp only [getD_set_ne false (show (21 : Nat) ≠ 2 by decide), getD_set_ne false (show (21 : Nat) ≠ 26 by decide)]) rfl rfl (fun hW => fun l w hl hcl hc => X.fieldB Try.underlying101 rfl zz4 (ev_g rfl hW) rfl) ?_
  refine Rk.uF 22 rfl rfl (fun _ _ => by simp only [getD_set_ne false (show (22 : Nat) ≠ 2 by decide), getD_set_ne false (show (22 : Nat) ≠ 26 by decide)]) rfl rfl (fun hW => fun l w hl hcl hc => X.load1 Try.underlying4 rfl (ev_g rfl hW) (heap_cell (hc.2.1 (hcl.lt rfl (by kernel_rfl) hl)) rfl)) ?_
  refine Rk.uN 23 rfl rfl (fun _ _ => by simp only [getD_set_ne false (show (23 : Nat) ≠ 2 by decide), getD_set_ne false (show (23 : Nat) ≠ 26 by decide)]) (fun l w hl hcl hc => X.pickOr rfl rfl rfl) ?_
  refine Rk.uN 24 rfl rfl (fun _ _ => by simp only [getD_set_ne false (show (24 : Nat) ≠ 2 by decide), getD_set_ne false (show (24 : Nat) ≠ 26 by decide)]) (fun l w hl hcl hc => X.nilCheck rfl) ?_
  refine Rk.uN 25 rfl rfl (fun _ _ => by simp only [getD_set_ne false (show (25 : Nat) ≠ 2 by decide), getD_set_ne false (show (25 : Nat) ≠ 26 by decide)]) (fun l w hl hcl hc => X.fieldB Try.underlying101 rfl zz4 rfl rfl) ?_
  refine Rk.eN 26 rfl rfl (Oq.store hs 0 rfl 2 zz4 rfl rfl rfl rfl rfl [.box b1 #[v182, .int .i64 x174.2.at_, .bool ((x174.1 != (bor .u64 (bor .u64 (bor .u64 (shl .u64 (cv .u64 82) 24) (shl .u64 (cv .u64 69) 16)) (shl .u64 (cv .u64 77) 8)) (cv .u64 66))) || x174.2.bad_)] 101, .box b5 #[.int .i64 o_1.Kind, .int .u32 o_1.From, .int .u32 o_1.About, v6, v8, v10, .int .u64 o_1.Rate, .int .i64 o_1.Type_, .int .i64 o_1.Count, v12] 33, .app g15 v8 o_1.Abouts.length 27 1] rfl (fun w184 hs => ?_))
  refine ⟨⟨hs.has, (fun h => absurd h (by decide)), (fun h => absurd h (by decide))⟩, ?_⟩
  refine Rk.done ?_
  cases some_s hp27
  exact fun a ha => ⟨[(0, .pointer (some ⟨b1, 0, none⟩)), (1, .pointer (some ⟨b5, 0, none⟩))], ha.weak ⟨rfl, rfl, trivial⟩, S179, v182, rfl, le181, hs, f183⟩
noncomputable def rtcp_parse_l0 (q185 : (List Int)) (q186 : Int) (q187 : Bool) (q188 : (List api_Tuple)) : Option (Flow ((List Int) × Int × Bool × (List api_Tuple)) (api_Report × Bool)) :=
 (rtcp_reader_left (⟨q185, q186, q187⟩ : rtcp_reader)).bind fun x203 =>
 if x203.1 = true then (
  ((
   ((
    (rtcp_reader_tuple (⟨x203.2.b_, x203.2.at_, x203.2.bad_⟩ : rtcp_reader)).bind fun x247 =>
    (app 24 q188 ([x247.1] : List api_Tuple)).bind fun y264 =>
    some (x247.2.b_, x247.2.at_, x247.2.bad_, y264) : Option ((List Int) × Int × Bool × (List api_Tuple)))).bind fun p234 =>
   some (p234.1, p234.2.1, p234.2.2.1, p234.2.2.2) : Option ((List Int) × Int × Bool × (List api_Tuple)))).bind fun p218 =>
  some (Flow.next (p218.1, p218.2.1, p218.2.2.1, p218.2.2.2)))
 else (
  some (Flow.brk (x203.2.b_, x203.2.at_, x203.2.bad_, q188)))
noncomputable def rtcp_parse_l1 (q374 : (List Int)) (q375 : Int) (q376 : Bool) (q377 : (List Int)) (q378 : (List Int)) : Option (Flow ((List Int) × Int × Bool × (List Int) × (List Int)) (api_Report × Bool)) :=
 (rtcp_reader_left (⟨q374, q375, q376⟩ : rtcp_reader)).bind fun x397 =>
 if x397.1 = true then (
  ((
   ((
    (rtcp_reader_num (⟨x397.2.b_, x397.2.at_, x397.2.bad_⟩ : rtcp_reader) 4).bind fun x499 =>
    (app 4 q377 ([cv .u32 x499.1] : List Int)).bind fun y516 =>
    some (x499.2.b_, x499.2.at_, x499.2.bad_, y516) : Option ((List Int) × Int × Bool × (List Int)))).bind fun p433 =>
   ((
    (rtcp_reader_num (⟨p433.1, p433.2.1, p433.2.2.1⟩ : rtcp_reader) 1).bind fun x472 =>
    (app 8 q378 ([cv .i64 x472.1] : List Int)).bind fun y489 =>
    some (x472.2.b_, x472.2.at_, x472.2.bad_, y489) : Option ((List Int) × Int × Bool × (List Int)))).bind fun p449 =>
   (rtcp_reader_nought (⟨p449.1, p449.2.1, p449.2.2.1⟩ : rtcp_reader) 3).bind fun x461 =>
   some (x461.b_, x461.at_, x461.bad_, p433.2.2.2, p449.2.2.2) : Option ((List Int) × Int × Bool × (List Int) × (List Int)))).bind fun p413 =>
  some (Flow.next (p413.1, p413.2.1, p413.2.2.1, p413.2.2.2.1, p413.2.2.2.2)))
 else (
  some (Flow.brk (x397.2.b_, x397.2.at_, x397.2.bad_, q377, q378)))
noncomputable def rtcp_parse (G_0 : Int) (o_1 : Int) (p_2 : (List Int)) : Option (api_Report × Bool) :=
 (rtcp_kind G_0 o_1).bind fun x10 =>
 if (x10 == 6) = true then (
  (slices_Clone_byte p_2).bind fun x23 =>
  some ((⟨x10, 0, 0, ([] : List api_Tuple), ([] : List Int), ([] : List Int), 0, G_0, o_1, x23⟩ : api_Report), true))
 else (
  (rtcp_reader_num (⟨p_2, 0, false⟩ : rtcp_reader) 4).bind fun x42 =>
  ((
   if (x10 != 3) = true then (
    (rtcp_reader_nought (⟨x42.2.b_, x42.2.at_, x42.2.bad_⟩ : rtcp_reader) 4).bind fun x582 =>
    some (x582.b_, x582.at_, x582.bad_))
   else (
    some (x42.2.b_, x42.2.at_, x42.2.bad_)) : Option ((List Int) × Int × Bool))).bind fun p56 =>
  ((
   ((
    if (x10 == 1) = true then (
     some (x10 == 1))
    else (
     some (x10 == 2)) : Option Bool)).bind fun p127 =>
   ((
    if p127 = true then (
     (loopF (fun sg => rtcp_parse_l0 sg.1 sg.2.1 sg.2.2.1 sg.2.2.2) (p56.1, p56.2.1, p56.2.2, ([] : List api_Tuple))).bind fun fl167 =>
     Flow.el fl167 (fun s273 => (
      none))
     (fun s274 => (
      some (s274.1, s274.2.1, s274.2.2.1 || (decide (6 < (s274.2.2.2.length : Int))), x10, cv .u32 x42.1, 0, s274.2.2.2, ([] : List Int), ([] : List Int), 0, 0, 0, ([] : List Int))))
     (fun r275 => (
      none)))
    else (
     ((
      if (x10 == 3) = true then (
       (rtcp_reader_num (⟨p56.1, p56.2.1, p56.2.2⟩ : rtcp_reader) 4).bind fun x308 =>
       some (x308.2.b_, x308.2.at_, x308.2.bad_, x10, cv .u32 x42.1, cv .u32 x308.1, ([] : List api_Tuple), ([] : List Int), ([] : List Int), 0, 0, 0, ([] : List Int)))
      else (
       ((
        if (x10 == 4) = true then (
         (loopF (fun sg => rtcp_parse_l1 sg.1 sg.2.1 sg.2.2.1 sg.2.2.2.1 sg.2.2.2.2) (p56.1, p56.2.1, p56.2.2, ([] : List Int), ([] : List Int))).bind fun fl352 =>
         Flow.el fl352 (fun s525 => (
          none))
         (fun s526 => (
          some (s526.1, s526.2.1, (s526.2.2.1 || (decide ((s526.2.2.2.1.length : Int) < 1))) || (decide (16 < (s526.2.2.2.1.length : Int))), x10, cv .u32 x42.1, 0, ([] : List api_Tuple), s526.2.2.2.1, s526.2.2.2.2, 0, 0, 0, ([] : List Int))))
         (fun r527 => (
          none)))
        else (
         ((
          if (x10 == 5) = true then (
           (rtcp_reader_remb (⟨p56.1, p56.2.1, p56.2.2⟩ : rtcp_reader) (⟨x10, cv .u32 x42.1, 0, ([] : List api_Tuple), ([] : List Int), ([] : List Int), 0, 0, 0, ([] : List Int)⟩ : api_Report)).bind fun x560 =>
           some (x560.1.b_, x560.1.at_, x560.1.bad_, x560.2.Kind, x560.2.From, x560.2.About, x560.2.Tuples, x560.2.Abouts, x560.2.Numbers, x560.2.Rate, x560.2.Type_, x560.2.Count, x560.2.Body))
          else (
           some (p56.1, p56.2.1, p56.2.2, x10, cv .u32 x42.1, 0, ([] : List api_Tuple), ([] : List Int), ([] : List Int), 0, 0, 0, ([] : List Int))) : Option ((List Int) × Int × Bool × Int × Int × Int × (List api_Tuple) × (List Int) × (List Int) × Int × Int × Int × (List Int)))).bind fun p541 =>
         some (p541.1, p541.2.1, p541.2.2.1, p541.2.2.2.1, p541.2.2.2.2.1, p541.2.2.2.2.2.1, p541.2.2.2.2.2.2.1, p541.2.2.2.2.2.2.2.1, p541.2.2.2.2.2.2.2.2.1, p541.2.2.2.2.2.2.2.2.2.1, p541.2.2.2.2.2.2.2.2.2.2.1, p541.2.2.2.2.2.2.2.2.2.2.2.1, p541.2.2.2.2.2.2.2.2.2.2.2.2)) : Option ((List Int) × Int × Bool × Int × Int × Int × (List api_Tuple) × (List Int) × (List Int) × Int × Int × Int × (List Int)))).bind fun p332 =>
       some (p332.1, p332.2.1, p332.2.2.1, p332.2.2.2.1, p332.2.2.2.2.1, p332.2.2.2.2.2.1, p332.2.2.2.2.2.2.1, p332.2.2.2.2.2.2.2.1, p332.2.2.2.2.2.2.2.2.1, p332.2.2.2.2.2.2.2.2.2.1, p332.2.2.2.2.2.2.2.2.2.2.1, p332.2.2.2.2.2.2.2.2.2.2.2.1, p332.2.2.2.2.2.2.2.2.2.2.2.2)) : Option ((List Int) × Int × Bool × Int × Int × Int × (List api_Tuple) × (List Int) × (List Int) × Int × Int × Int × (List Int)))).bind fun p289 =>
     some (p289.1, p289.2.1, p289.2.2.1, p289.2.2.2.1, p289.2.2.2.2.1, p289.2.2.2.2.2.1, p289.2.2.2.2.2.2.1, p289.2.2.2.2.2.2.2.1, p289.2.2.2.2.2.2.2.2.1, p289.2.2.2.2.2.2.2.2.2.1, p289.2.2.2.2.2.2.2.2.2.2.1, p289.2.2.2.2.2.2.2.2.2.2.2.1, p289.2.2.2.2.2.2.2.2.2.2.2.2)) : Option ((List Int) × Int × Bool × Int × Int × Int × (List api_Tuple) × (List Int) × (List Int) × Int × Int × Int × (List Int)))).bind fun p147 =>
   some (p147.1, p147.2.1, p147.2.2.1, p147.2.2.2.1, p147.2.2.2.2.1, p147.2.2.2.2.2.1, p147.2.2.2.2.2.2.1, p147.2.2.2.2.2.2.2.1, p147.2.2.2.2.2.2.2.2.1, p147.2.2.2.2.2.2.2.2.2.1, p147.2.2.2.2.2.2.2.2.2.2.1, p147.2.2.2.2.2.2.2.2.2.2.2.1, p147.2.2.2.2.2.2.2.2.2.2.2.2) : Option ((List Int) × Int × Bool × Int × Int × Int × (List api_Tuple) × (List Int) × (List Int) × Int × Int × Int × (List Int)))).bind fun p78 =>
  ((
   some ((!p78.2.2.1) && (p78.2.1 == (p_2.length : Int)), p78.2.2.2.1, p78.2.2.2.2.1, p78.2.2.2.2.2.1, p78.2.2.2.2.2.2.1, p78.2.2.2.2.2.2.2.1, p78.2.2.2.2.2.2.2.2.1, p78.2.2.2.2.2.2.2.2.2.1, p78.2.2.2.2.2.2.2.2.2.2.1, p78.2.2.2.2.2.2.2.2.2.2.2.1, p78.2.2.2.2.2.2.2.2.2.2.2.2) : Option (Bool × Int × Int × Int × (List api_Tuple) × (List Int) × (List Int) × Int × Int × Int × (List Int)))).bind fun p108 =>
  some ((⟨p108.2.1, p108.2.2.1, p108.2.2.2.1, p108.2.2.2.2.1, p108.2.2.2.2.2.1, p108.2.2.2.2.2.2.1, p108.2.2.2.2.2.2.2.1, p108.2.2.2.2.2.2.2.2.1, p108.2.2.2.2.2.2.2.2.2.1, p108.2.2.2.2.2.2.2.2.2.2⟩ : api_Report), p108.1))
def Po61 (S0 : Mp) (w0 : World) (D : List Nat) (r : (api_Report × Bool)) (v : Value) (w1 : World) : Prop :=
  ∃ (S1 : Mp) (v3 : Value) (v4 : Value) (v5 : Value) (v6 : Value), v = .tuple #[.agg (#[.int .i64 r.1.Kind, .int .u32 r.1.From, .int .u32 r.1.About, v3, v4, v5, .int .u64 r.1.Rate, .int .i64 r.1.Type_, .int .i64 r.1.Count, v6]), .bool r.2] ∧ St w0 D S0 S1 [] w1 ∧ Rd S1 3 R_api_Tuple v3 r.1.Tuples ∧ Rd S1 1 (RI .u32) v4 r.1.Abouts ∧ Rd S1 1 (RI .i64) v5 r.1.Numbers ∧ Rd S1 1 (RI .u8) v6 r.1.Body
set_option maxHeartbeats 4000000 in
theorem c61 (S0 : Mp) {w0 : World} (hs : St w0 [] S0 S0 [] w0) (G_0 : Int) (o_1 : Int) (p_2 : (List Int)) (v1 : Value) (f2 : Rd S0 1 (RI .u8) v1 p_2) (r : (api_Report × Bool)) (h0 : rtcp_parse G_0 o_1 p_2 = some r) :
    Calls Try.prog 61 #[.int .i64 G_0, .int .i64 o_1, v1] w0 (Re (Po61 S0 w0 [] r)) := by
 unfold rtcp_parse at h0
 refine calls_of_cd Try.func61 rfl Try.ntmps61 rfl ?_
 refine Cd.sr ?_
 refine Rg.step rfl (Oq.alloc (cs := #[.int .i64 0, .int .u32 0, .int .u32 0, .slice none 0 0, .slice none 0 0, .slice none 0 0, .int .u64 0, .int .i64 0, .int .i64 0, .slice none 0 0]) hs ii33 rfl rfl rfl (fun b7 w8 hs => ?_))
 refine Rg.st rfl rfl ?_
 refine Rg.go ?_
 refine Cd.sr ?_
 refine Rg.mv rfl rfl ?_
 refine Rg.mv rfl rfl ?_
 obtain ⟨x10, hx11, h0⟩ := bind_s h0
 refine Rg.step rfl (Oq.call Try.call67 rfl rfl (c67 S0 (St.start _ _ hs.has) _ _ _ hx11) (fun v12 w13 h14 => ?_))
 obtain ⟨S15, rfl, hs16⟩ := h14
 have le17 := hs16.le
 have hs := hs.call0 hs16
 refine Rg.vN (X.build (zc := [.int .i64 0, .int .u32 0, .int .u32 0, .slice none 0 0, .slice none 0 0, .slice none 0 0, .int .u64 0, .int .i64 0, .int .i64 0, .slice none 0 0]) (cells := [.int .i64 x10, .int .u32 0, .int .u32 0, .slice none 0 0, .slice none 0 0, .slice none 0 0, .int .u64 0, .int .i64 0, .int .i64 0, .slice none 0 0]) ii33 rfl rfl Try.underlying33 (pp33 _ Try.underlying33) ⟨_, [.int .i64 x10], _, rfl, rfl, rfl, rfl⟩ rfl) rfl ?_
 refine Rg.step rfl (Oq.alloc (cs := #[.int .i64 0, .int .u32 0, .int .u32 0, .slice none 0 0, .slice none 0 0, .slice none 0 0, .int .u64 0, .int .i64 0, .int .i64 0, .slice none 0 0]) hs ii33 rfl rfl rfl (fun b18 w19 hs => ?_))
 refine Rg.step rfl (Oq.storeN hs 0 rfl (vals := [.int .i64 x10, .int .u32 0, .int .u32 0, .slice none 0 0, .slice none 0 0, .slice none 0 0, .int .u64 0, .int .i64 0, .int .i64 0, .slice none 0 0]) zz33 rfl rfl (one_all ⟨rfl, rfl, rfl, rfl, rfl, rfl, rfl, rfl, rfl, rfl, trivial⟩) rfl [.box b18 #[.int .i64 x10, .int .u32 0, .int .u32 0, .slice none 0 0, .slice none 0 0, .slice none 0 0, .int .u64 0, .int .i64 0, .int .i64 0, .slice none 0 0] 33, .box b7 #[.int .i64 0, .int .u32 0, .int .u32 0, .slice none 0 0, .slice none 0 0, .slice none 0 0, .int .u64 0, .int .i64 0, .int .i64 0, .slice none 0 0] 33] rfl (fun w21 hs => ?_))
 refine Rg.go ?_
 refine Cd.seq ?_
 refine Cd.sr ?_
 refine Rg.vN (X.fieldB Try.underlying33 rfl zz3 rfl rfl) rfl ?_
 refine Rg.vN (X.load1 Try.underlying3 rfl rfl (hs.cell 0 rfl 0 rfl)) rfl ?_
 refine Rg.vN (X.eql rfl rfl) rfl ?_
 refine Rg.go ?_
 refine Cd.cond (t := x10 == 6) rfl (fun hc22 => ?_) (fun hc22 => ?_)
 ·have h0 := ite_t hc22 h0
  refine Cd.sr ?_
  refine Rg.mv rfl rfl ?_
  refine Rg.mv rfl rfl ?_
  refine Rg.mv rfl rfl ?_
  obtain ⟨x23, hx24, h0⟩ := bind_s h0
  refine Rg.step rfl (Oq.call Try.call59 rfl rfl (c59 S15 (St.start _ _ hs.has) _ _ (f2.mono le17) _ hx24) (fun v25 w26 h27 => ?_))
  obtain ⟨S28, v31, g33, rfl, hs29, f32⟩ := h27
  have le30 := hs29.le
  have hs := hs.call0 hs29
  refine Rg.vN (X.fieldB Try.underlying33 rfl zz3 rfl rfl) rfl ?_
  refine Rg.step rfl (Oq.store hs 1 rfl 7 zz3 rfl rfl rfl rfl rfl [.app g33 v25 x23.length 5 1, .box b18 #[.int .i64 x10, .int .u32 0, .int .u32 0, .slice none 0 0, .slice none 0 0, .slice none 0 0, .int .u64 0, .int .i64 G_0, .int .i64 0, .slice none 0 0] 33, .box b7 #[.int .i64 0, .int .u32 0, .int .u32 0, .slice none 0 0, .slice none 0 0, .slice none 0 0, .int .u64 0, .int .i64 0, .int .i64 0, .slice none 0 0] 33] rfl (fun w35 hs => ?_))
  refine Rg.vN (X.fieldB Try.underlying33 rfl zz3 rfl rfl) rfl ?_
  refine Rg.step rfl (Oq.store hs 1 rfl 8 zz3 rfl rfl rfl rfl rfl [.app g33 v25 x23.length 5 1, .box b18 #[.int .i64 x10, .int .u32 0, .int .u32 0, .slice none 0 0, .slice none 0 0, .slice none 0 0, .int .u64 0, .int .i64 G_0, .int .i64 o_1, .slice none 0 0] 33, .box b7 #[.int .i64 0, .int .u32 0, .int .u32 0, .slice none 0 0, .slice none 0 0, .slice none 0 0, .int .u64 0, .int .i64 0, .int .i64 0, .slice none 0 0] 33] rfl (fun w36 hs => ?_))
  refine Rg.vN (X.fieldB Try.underlying33 rfl zz31 rfl rfl) rfl ?_
  refine Rg.step rfl (Oq.store hs 1 rfl 9 zz31 rfl rfl f32.cells f32.one rfl [.app g33 v25 x23.length 5 1, .box b18 #[.int .i64 x10, .int .u32 0, .int .u32 0, .slice none 0 0, .slice none 0 0, .slice none 0 0, .int .u64 0, .int .i64 G_0, .int .i64 o_1, v25] 33, .box b7 #[.int .i64 0, .int .u32 0, .int .u32 0, .slice none 0 0, .slice none 0 0, .slice none 0 0, .int .u64 0, .int .i64 0, .int .i64 0, .slice none 0 0] 33] rfl (fun w37 hs => ?_))
  refine Rg.go ?_
  refine Cd.sr ?_
  refine Rg.vN (X.loadN (vals := [.int .i64 x10, .int .u32 0, .int .u32 0, .slice none 0 0, .slice none 0 0, .slice none 0 0, .int .u64 0, .int .i64 G_0, .int .i64 o_1, v25]) Try.underlying33 rfl zz33 rfl (hs.range 1 rfl 0 rfl)) rfl ?_
  refine Rg.step rfl (Oq.storeN hs 2 rfl (vals := [.int .i64 x10, .int .u32 0, .int .u32 0, .slice none 0 0, .slice none 0 0, .slice none 0 0, .int .u64 0, .int .i64 G_0, .int .i64 o_1, v25]) zz33 rfl rfl (one_all ⟨rfl, rfl, rfl, rfl, rfl, rfl, rfl, rfl, rfl, f32.one, trivial⟩) rfl [.app g33 v25 x23.length 5 1, .box b18 #[.int .i64 x10, .int .u32 0, .int .u32 0, .slice none 0 0, .slice none 0 0, .slice none 0 0, .int .u64 0, .int .i64 G_0, .int .i64 o_1, v25] 33, .box b7 #[.int .i64 x10, .int .u32 0, .int .u32 0, .slice none 0 0, .slice none 0 0, .slice none 0 0, .int .u64 0, .int .i64 G_0, .int .i64 o_1, v25] 33] rfl (fun w38 hs => ?_))
  refine Rg.st rfl rfl ?_
  refine Rg.go ?_
  refine Cd.weak [(6, .pointer (some ⟨b7, 0, none⟩)), (7, .bool true)] ⟨rfl, rfl, trivial⟩ ?_
  refine Cd.ret ?_
  obtain rfl := some_s h0
  exact fun a ha => Cd.retA (R := Re (Po61 S0 w0 [] _)) ha Try.results61 ⟨_, _, _, rfl, rfl, run_lvN (vals := [.int .i64 x10, .int .u32 0, .int .u32 0, .slice none 0 0, .slice none 0 0, .slice none 0 0, .int .u64 0, .int .i64 G_0, .int .i64 o_1, v25]) Try.underlying33 rfl zz33 (hs.range 2 rfl 0 rfl), ⟨_, _, rfl, rfl, rfl⟩⟩ ⟨_, rfl, S28, (.slice none 0 0), (.slice none 0 0), (.slice none 0 0), v25, rfl, (hs.pick [] (by decide) rfl), (Rd.nil _ _ _), (Rd.nil _ _ _), (Rd.nil _ _ _), f32⟩
 ·have h0 := ite_f hc22 h0
  refine Cd.sg ?_
  refine Cd.sr ?_
  refine Rg.mv rfl rfl ?_
  refine Rg.vN (X.build (zc := [.slice none 0 0, .int .i64 0, .bool false]) (cells := [v1, .int .i64 0, .bool false]) ii101 rfl rfl Try.underlying101 (pp101 _ Try.underlying101) ⟨_, [v1], _, rfl, rfl, (f2.mono le17).cells, rfl⟩ rfl) rfl ?_
  refine Rg.step rfl (Oq.box (cs := #[v1, .int .i64 0, .bool false]) hs rfl rfl rfl (fun b39 w40 hs => ?_))
  refine Rg.st rfl rfl ?_
  refine Rg.go ?_
  refine Cd.sr ?_
  refine Rg.mv rfl rfl ?_
  obtain ⟨x42, hx43, h0⟩ := bind_s h0
  refine Rg.step rfl (Oq.call Try.call72 rfl rfl (c72 S15 _ (⟨p_2, 0, false⟩ : rtcp_reader) _ (f2.mono le17) _ (hs.enter 0 rfl rfl) _ hx43) (fun v44 w45 h46 => ?_))
  obtain ⟨S47, v50, rfl, hs48, f51⟩ := h46
  have le49 := hs48.le
  have hs := hs.call1 0 rfl rfl hs48
  refine Rg.vN (X.conv Try.underlying30 Try.underlying27 rfl) rfl ?_
  refine Rg.vN (X.fieldB Try.underlying33 rfl zz27 rfl rfl) rfl ?_
  refine Rg.step rfl (Oq.store hs 1 rfl 1 zz27 rfl rfl rfl rfl rfl [.box b39 #[v50, .int .i64 x42.2.at_, .bool x42.2.bad_] 101, .box b18 #[.int .i64 x10, .int .u32 (cv .u32 x42.1), .int .u32 0, .slice none 0 0, .slice none 0 0, .slice none 0 0, .int .u64 0, .int .i64 0, .int .i64 0, .slice none 0 0] 33, .box b7 #[.int .i64 0, .int .u32 0, .int .u32 0, .slice none 0 0, .slice none 0 0, .slice none 0 0, .int .u64 0, .int .i64 0, .int .i64 0, .slice none 0 0] 33] rfl (fun w52 hs => ?_))
  refine Rg.go ?_
  refine Cd.seq ?_
  refine Cd.sr ?_
  refine Rg.vN (X.fieldB Try.underlying33 rfl zz3 rfl rfl) rfl ?_
  refine Rg.vN (X.load1 Try.underlying3 rfl rfl (hs.cell 1 rfl 0 rfl)) rfl ?_
  refine Rg.vN (X.neq rfl rfl) rfl ?_
  refine Rg.go ?_
  refine Cd.weak [(2, v1), (6, .pointer (some ⟨b7, 0, none⟩)), (8, .pointer (some ⟨b18, 0, none⟩)), (9, .pointer (some ⟨b39, 0, none⟩)), (34, .bool (x10 != 3))] ⟨rfl, rfl, rfl, rfl, rfl, trivial⟩ ?_
  obtain ⟨p56, hp57, h0⟩ := bind_s h0
  obtain ⟨j53, j54, j55⟩ := p56
  dsimp only at h0
  refine Cd.post (fun K w => ∃ (S58 : Mp) (v61 : Value), K = [(2, v1), (6, .pointer (some ⟨b7, 0, none⟩)), (8, .pointer (some ⟨b18, 0, none⟩)), (9, .pointer (some ⟨b39, 0, none⟩))] ∧ Le S47 S58 ∧ St w0 [] S0 S58 [.box b39 #[v61, .int .i64 j54, .bool j55] 101, .box b18 #[.int .i64 x10, .int .u32 (cv .u32 x42.1), .int .u32 0, .slice none 0 0, .slice none 0 0, .slice none 0 0, .int .u64 0, .int .i64 0, .int .i64 0, .slice none 0 0] 33, .box b7 #[.int .i64 0, .int .u32 0, .int .u32 0, .slice none 0 0, .slice none 0 0, .slice none 0 0, .int .u64 0, .int .i64 0, .int .i64 0, .slice none 0 0] 33] w ∧ Rd S58 1 (RI .u8) v61 j53) ?_ ?_
  ·rintro K63 w59 ⟨S58, v61, rfl, le60, hs, f62⟩
   refine Cd.go ?_
   refine Cd.seq ?_
   refine Cd.sr ?_
   refine Rg.vN (X.fieldB Try.underlying33 rfl zz3 rfl rfl) rfl ?_
   refine Rg.vN (X.load1 Try.underlying3 rfl rfl (hs.cell 1 rfl 0 rfl)) rfl ?_
   refine Rg.go ?_
   have hs := hs.nil 27 1
   obtain ⟨p78, hp79, h0⟩ := bind_s h0
   obtain ⟨j65, j66, j67, j68, j69, j70, j71, j72, j73, j74, j75, j76, j77⟩ := p78
   dsimp only at h0
   refine Cd.post (fun K w => ∃ (S80 : Mp) (v83 : Value) (v85 : Value) (v87 : Value) (g89 : Option Nat) (v91 : Value) (v93 : Value), K = [(2, v1), (6, .pointer (some ⟨b7, 0, none⟩)), (8, .pointer (some ⟨b18, 0, none⟩)), (9, .pointer (some ⟨b39, 0, none⟩))] ∧ Le S58 S80 ∧ St w0 [] S0 S80 [.box b39 #[v83, .int .i64 j66, .bool j67] 101, .box b18 #[.int .i64 j68, .int .u32 j69, .int .u32 j70, v85, v87, v91, .int .u64 j74, .int .i64 j75, .int .i64 j76, v93] 33, .box b7 #[.int .i64 0, .int .u32 0, .int .u32 0, .slice none 0 0, .slice none 0 0, .slice none 0 0, .int .u64 0, .int .i64 0, .int .i64 0, .slice none 0 0] 33, .app g89 v87 j72.length 27 1] w ∧ Rd S80 1 (RI .u8) v83 j65 ∧ Rd S80 3 R_api_Tuple v85 j71 ∧ Rd S80 1 (RI .u32) v87 j72 ∧ Rd S80 1 (RI .i64) v91 j73 ∧ Rd S80 1 (RI .u8) v93 j77) ?_ ?_
   ·rintro K95 w81 ⟨S80, v83, v85, v87, g89, v91, v93, rfl, le82, hs, f84, f86, f88, f92, f94⟩
    refine Cd.go ?_
    refine Cd.seq ?_
    have hs := hs.nil 27 1
    obtain ⟨p108, hp109, h0⟩ := bind_s h0
    obtain ⟨j97, j98, j99, j100, j101, j102, j103, j104, j105, j106, j107⟩ := p108
    dsimp only at h0
    refine Cd.post (fun K w => ∃ (S110 : Mp) (v113 : Value) (v115 : Value) (g117 : Option Nat) (v119 : Value) (v121 : Value), K = [(6, .pointer (some ⟨b7, 0, none⟩)), (7, .bool j97)] ∧ Le S80 S110 ∧ St w0 [] S0 S110 [.box b7 #[.int .i64 j98, .int .u32 j99, .int .u32 j100, v113, v115, v119, .int .u64 j104, .int .i64 j105, .int .i64 j106, v121] 33, .app g117 v115 j102.length 27 1] w ∧ Rd S110 3 R_api_Tuple v113 j101 ∧ Rd S110 1 (RI .u32) v115 j102 ∧ Rd S110 1 (RI .i64) v119 j103 ∧ Rd S110 1 (RI .u8) v121 j107) ?_ ?_
    ·rintro K123 w111 ⟨S110, v113, v115, g117, v119, v121, rfl, le112, hs, f114, f116, f120, f122⟩
     refine Cd.go ?_
     refine Cd.ret ?_
     obtain rfl := some_s h0
     exact fun a ha => Cd.retA (R := Re (Po61 S0 w0 [] _)) ha Try.results61 ⟨_, _, _, rfl, rfl, run_lvN (vals := [.int .i64 j98, .int .u32 j99, .int .u32 j100, v113, v115, v119, .int .u64 j104, .int .i64 j105, .int .i64 j106, v121]) Try.underlying33 rfl zz33 (hs.range 0 rfl 0 rfl), ⟨_, _, rfl, rfl, rfl⟩⟩ ⟨_, rfl, S110, v113, v115, v119, v121, rfl, (hs.pick [] (by decide) rfl), f114, f116, f120, f122⟩
    ·skip
     refine Cd.rD mixed (fun l w => Has S80 w ∧ Hp b39 #[v83, .int .i64 j66, .bool j67] 101 w ∧ Hp b18 #[.int .i64 j68, .int .u32 j69, .int .u32 j70, v85, v87, v91, .int .u64 j74, .int .i64 j75, .int .i64 j76, v93] 33 w) hs (fun _ _ _ _ _ h => h) (by kernel_rfl) (fun w124 hs => ⟨⟨hs.has, (hs.heap 1 rfl), (hs.heap 2 rfl)⟩, ?_⟩)
     refine Rk.tN 0 rfl rfl (fun w hc => X.loadN (vals := [.int .i64 j68, .int .u32 j69, .int .u32 j70, v85, v87, v91, .int .u64 j74, .int .i64 j75, .int .i64 j76, v93]) Try.underlying33 rfl zz33 rfl (heap_range hc.2.2 0 rfl)) ?_
     refine Rk.tN 1 rfl rfl (fun _ _ => X.move rfl) ?_
     refine Rk.tN 2 rfl rfl (fun _ _ => X.nilCheck rfl) ?_
     refine Rk.tN 3 rfl rfl (fun _ _ => X.fieldB Try.underlying101 rfl zz4 rfl rfl) ?_
     refine Rk.tN 4 rfl rfl (fun w hc => X.load1 Try.underlying4 rfl rfl (heap_cell hc.2.1 rfl)) ?_
     refine Rk.tN 5 rfl rfl (fun _ _ => X.not rfl) ?_
     refine Rk.tN 6 rfl rfl (fun _ _ => X.move rfl) ?_
     refine Rk.tT 7 rfl rfl rfl rfl (fun hW => fun _ _ => X.move rfl) ?_
     refine Rk.tT 8 rfl rfl rfl rfl (fun hW => fun _ _ => X.nilCheck (ev_g rfl hW)) ?_
     refine Rk.tT 9 rfl rfl rfl rfl (fun hW => fun _ _ => X.fieldB Try.underlying101 rfl zz3 (ev_g rfl hW) rfl) ?_
     refine Rk.tT 10 rfl rfl rfl rfl (fun hW => fun w hc => X.load1 Try.underlying3 rfl (ev_g rfl hW) (heap_cell hc.2.1 rfl)) ?_
     refine Rk.weak [(2, v1), (6, .pointer (some ⟨b7, 0, none⟩)), (115, .agg (#[.int .i64 j68, .int .u32 j69, .int .u32 j70, v85, v87, v91, .int .u64 j74, .int .i64 j75, .int .i64 j76, v93])), (121, .bool (!j67)), (125, gv (!j67) (.int .i64 j66))] ⟨rfl, rfl, rfl, rfl, rfl, trivial⟩ ?_
     refine Rk.tT 11 rfl rfl rfl rfl (fun hW => fun _ _ => X.move rfl) ?_
     refine Rk.tT 12 rfl rfl rfl rfl (fun hW => fun _ _ => X.lenR Try.underlying31 (ev_g rfl hW) (f2.mono (le17.trans (le49.trans (le60.trans le82))))) ?_
     refine Rk.tT 13 rfl rfl rfl rfl (fun hW => fun _ _ => X.eql (ev_g rfl hW) (ev_g rfl hW)) ?_
     refine Rk.tN 14 rfl rfl (fun _ _ => X.pickAnd rfl rfl rfl) ?_
     refine Rk.eN 15 rfl rfl (Oq.storeN hs 3 rfl (vals := [.int .i64 j68, .int .u32 j69, .int .u32 j70, v85, v87, v91, .int .u64 j74, .int .i64 j75, .int .i64 j76, v93]) zz33 rfl rfl (one_all ⟨rfl, rfl, rfl, f86.one, f88.one, f92.one, rfl, rfl, rfl, f94.one, trivial⟩) rfl [.app none (.slice none 0 0) ([] : List Int).length 27 1, .box b39 #[v83, .int .i64 j66, .bool j67] 101, .box b18 #[.int .i64 j68, .int .u32 j69, .int .u32 j70, v85, v87, v91, .int .u64 j74, .int .i64 j75, .int .i64 j76, v93] 33, .box b7 #[.int .i64 j68, .int .u32 j69, .int .u32 j70, v85, v87, v91, .int .u64 j74, .int .i64 j75, .int .i64 j76, v93] 33, .app g89 v87 j72.length 27 1] rfl (fun w125 hs => ?_))
     refine ⟨⟨hs.has, (hs.heap 1 rfl), (hs.heap 2 rfl)⟩, ?_⟩
     refine Rk.tN 16 rfl rfl (fun _ _ => X.assign rfl) ?_
     refine Rk.done ?_
     cases some_s hp109
     exact fun a ha => ⟨[(6, .pointer (some ⟨b7, 0, none⟩)), (7, .bool ((!j67) && (j66 == (p_2.length : Int))))], ha.weak ⟨rfl, rfl, trivial⟩, S80, v85, v87, g89, v91, v93, rfl, Le.refl _, (hs.pick [3, 4] (by decide) rfl), f86, f88, f92, f94⟩
   ·skip
    refine Cd.block ?_
    refine Cd.seq ?_
    refine Cd.sr ?_
    refine Rg.vN (X.eql rfl rfl) rfl ?_
    refine Rg.st rfl rfl ?_
    refine Rg.go ?_
    obtain ⟨p127, hp128, hp79⟩ := bind_s hp79
    refine Cd.post (fun K w => ∃ (S129 : Mp), K = [(2, v1), (6, .pointer (some ⟨b7, 0, none⟩)), (8, .pointer (some ⟨b18, 0, none⟩)), (9, .pointer (some ⟨b39, 0, none⟩)), (38, .int .i64 x10), (39, .bool p127)] ∧ Le S58 S129 ∧ St w0 [] S0 S129 [.box b39 #[v61, .int .i64 j54, .bool j55] 101, .box b18 #[.int .i64 x10, .int .u32 (cv .u32 x42.1), .int .u32 0, .slice none 0 0, .slice none 0 0, .slice none 0 0, .int .u64 0, .int .i64 0, .int .i64 0, .slice none 0 0] 33, .box b7 #[.int .i64 0, .int .u32 0, .int .u32 0, .slice none 0 0, .slice none 0 0, .slice none 0 0, .int .u64 0, .int .i64 0, .int .i64 0, .slice none 0 0] 33] w) ?_ ?_
    ·rintro K132 w130 ⟨S129, rfl, le131, hs⟩
     refine Cd.go ?_
     have hs := hs.nil 27 1
     obtain ⟨p147, hp148, hp79⟩ := bind_s hp79
     obtain ⟨j134, j135, j136, j137, j138, j139, j140, j141, j142, j143, j144, j145, j146⟩ := p147
     dsimp only at hp79
     refine Cd.post (fun K w => ∃ (S149 : Mp) (v152 : Value) (v154 : Value) (v156 : Value) (g158 : Option Nat) (v160 : Value) (v162 : Value), K = [(2, v1), (6, .pointer (some ⟨b7, 0, none⟩)), (8, .pointer (some ⟨b18, 0, none⟩)), (9, .pointer (some ⟨b39, 0, none⟩))] ∧ Le S129 S149 ∧ St w0 [] S0 S149 [.box b39 #[v152, .int .i64 j135, .bool j136] 101, .box b18 #[.int .i64 j137, .int .u32 j138, .int .u32 j139, v154, v156, v160, .int .u64 j143, .int .i64 j144, .int .i64 j145, v162] 33, .box b7 #[.int .i64 0, .int .u32 0, .int .u32 0, .slice none 0 0, .slice none 0 0, .slice none 0 0, .int .u64 0, .int .i64 0, .int .i64 0, .slice none 0 0] 33, .app g158 v156 j141.length 27 1] w ∧ Rd S149 1 (RI .u8) v152 j134 ∧ Rd S149 3 R_api_Tuple v154 j140 ∧ Rd S149 1 (RI .u32) v156 j141 ∧ Rd S149 1 (RI .i64) v160 j142 ∧ Rd S149 1 (RI .u8) v162 j146) ?_ ?_
     ·rintro K164 w150 ⟨S149, v152, v154, v156, g158, v160, v162, rfl, le151, hs, f153, f155, f157, f161, f163⟩
      cases some_s hp79
      exact fun a ha => ⟨[(2, v1), (6, .pointer (some ⟨b7, 0, none⟩)), (8, .pointer (some ⟨b18, 0, none⟩)), (9, .pointer (some ⟨b39, 0, none⟩))], ha.weak ⟨rfl, rfl, rfl, rfl, trivial⟩, S149, v152, v154, v156, g158, v160, v162, rfl, (le131.trans le151), hs, f153, f155, f157, f161, f163⟩
     ·skip
      refine Cd.cond (t := p127) rfl (fun hc165 => ?_) (fun hc165 => ?_)
      ·have hp148 := ite_t hc165 hp148
       refine Cd.seq ?_
       have hs := hs.nil 57 3
       obtain ⟨fl167, hfl168, hp148⟩ := bind_s hp148
       refine Cd.post (fun K w => ∃ (j169 : (List Int)) (j170 : Int) (j171 : Bool) (j172 : (List api_Tuple)) (S173 : Mp) (v175 : Value) (v177 : Value) (g179 : Option Nat), K = [(2, v1), (6, .pointer (some ⟨b7, 0, none⟩)), (8, .pointer (some ⟨b18, 0, none⟩)), (9, .pointer (some ⟨b39, 0, none⟩))] ∧ fl167 = Flow.brk (j169, j170, j171, j172) ∧ Le S129 S173 ∧ St w0 [] S0 S173 [.box b39 #[v175, .int .i64 j170, .bool j171] 101, .box b18 #[.int .i64 x10, .int .u32 (cv .u32 x42.1), .int .u32 0, v177, .slice none 0 0, .slice none 0 0, .int .u64 0, .int .i64 0, .int .i64 0, .slice none 0 0] 33, .box b7 #[.int .i64 0, .int .u32 0, .int .u32 0, .slice none 0 0, .slice none 0 0, .slice none 0 0, .int .u64 0, .int .i64 0, .int .i64 0, .slice none 0 0] 33, .app g179 v177 j172.length 57 3] w ∧ Rd S173 1 (RI .u8) v175 j169 ∧ Rd S173 3 R_api_Tuple v177 j172) ?_ ?_
       ·rintro K182 w181 ⟨j169, j170, j171, j172, S173, v175, v177, g179, rfl, rfl, le174, hs, f176, f178⟩
        have hp148 := el_brk hp148
        try dsimp only at hp148
        refine Cd.go ?_
        refine Cd.region ?_
        refine Rg.mv rfl rfl ?_
        refine Rg.mv rfl rfl ?_
        refine Rg.vN (X.nilCheck rfl) rfl ?_
        refine Rg.vN (X.fieldB Try.underlying101 rfl zz4 rfl rfl) rfl ?_
        refine Rg.vN (X.load1 Try.underlying4 rfl rfl (hs.cell 0 rfl 2 rfl)) rfl ?_
        refine Rg.mv rfl rfl ?_
        refine Rg.weak [(2, v1), (6, .pointer (some ⟨b7, 0, none⟩)), (8, .pointer (some ⟨b18, 0, none⟩)), (9, .pointer (some ⟨b39, 0, none⟩)), (51, .pointer (some ⟨b39, 0, none⟩)), (56, .bool j171)] ⟨rfl, rfl, rfl, rfl, rfl, rfl, trivial⟩ ?_
        refine Rg.vF rfl rfl rfl (fun hW => X.fieldB Try.underlying33 rfl zz28 rfl rfl) ?_
        refine Rg.vF rfl rfl rfl (fun hW => X.load1 Try.underlying28 rfl (ev_g rfl hW) (hs.cell 1 rfl 3 rfl)) ?_
        refine Rg.vF rfl rfl rfl (fun hW => X.lenR Try.underlying28 (ev_g rfl hW) f178) ?_
        refine Rg.vF rfl rfl rfl (fun hW => X.gtr (ev_g rfl hW) rfl) ?_
        refine Rg.vN (X.pickOr rfl rfl rfl) rfl ?_
        refine Rg.vN (X.nilCheck rfl) rfl ?_
        refine Rg.vN (X.fieldB Try.underlying101 rfl zz4 rfl rfl) rfl ?_
        refine Rg.step rfl (Oq.store hs 0 rfl 2 zz4 rfl rfl rfl rfl rfl [.box b39 #[v175, .int .i64 j170, .bool (j171 || (decide (6 < (j172.length : Int))))] 101, .box b18 #[.int .i64 x10, .int .u32 (cv .u32 x42.1), .int .u32 0, v177, .slice none 0 0, .slice none 0 0, .int .u64 0, .int .i64 0, .int .i64 0, .slice none 0 0] 33, .box b7 #[.int .i64 0, .int .u32 0, .int .u32 0, .slice none 0 0, .slice none 0 0, .slice none 0 0, .int .u64 0, .int .i64 0, .int .i64 0, .slice none 0 0] 33, .app g179 v177 j172.length 57 3] rfl (fun w183 hs => ?_))
        refine Rg.nil ?_
        have hs := hs.nil 27 1
        cases some_s hp148
        exact fun a ha => ⟨[(2, v1), (6, .pointer (some ⟨b7, 0, none⟩)), (8, .pointer (some ⟨b18, 0, none⟩)), (9, .pointer (some ⟨b39, 0, none⟩))], ha.weak ⟨rfl, rfl, rfl, rfl, trivial⟩, S173, v175, v177, (.slice none 0 0), none, (.slice none 0 0), (.slice none 0 0), rfl, le174, (hs.pick [1, 2, 3, 0] (by decide) rfl), f176, f178, (Rd.nil _ _ _), (Rd.nil _ _ _), (Rd.nil _ _ _)⟩
       ·skip
        refine Cd.weak [(2, v1), (6, .pointer (some ⟨b7, 0, none⟩)), (8, .pointer (some ⟨b18, 0, none⟩)), (9, .pointer (some ⟨b39, 0, none⟩))] ⟨rfl, rfl, rfl, rfl, trivial⟩ ?_
        refine Cd.block (Cd.loop (fun sg => rtcp_parse_l0 sg.1 sg.2.1 sg.2.2.1 sg.2.2.2) (fun (sg : ((List Int) × Int × Bool × (List api_Tuple))) K w => ∃ (S189 : Mp) (v191 : Value) (v193 : Value) (g195 : Option Nat), K = [(2, v1), (6, .pointer (some ⟨b7, 0, none⟩)), (8, .pointer (some ⟨b18, 0, none⟩)), (9, .pointer (some ⟨b39, 0, none⟩))] ∧ Le S129 S189 ∧ St w0 [] S0 S189 [.box b39 #[v191, .int .i64 sg.2.1, .bool sg.2.2.1] 101, .box b18 #[.int .i64 x10, .int .u32 (cv .u32 x42.1), .int .u32 0, v193, .slice none 0 0, .slice none 0 0, .int .u64 0, .int .i64 0, .int .i64 0, .slice none 0 0] 33, .box b7 #[.int .i64 0, .int .u32 0, .int .u32 0, .slice none 0 0, .slice none 0 0, .slice none 0 0, .int .u64 0, .int .i64 0, .int .i64 0, .slice none 0 0] 33, .app g195 v193 sg.2.2.2.length 57 3] w ∧ Rd S189 1 (RI .u8) v191 sg.1 ∧ Rd S189 3 R_api_Tuple v193 sg.2.2.2) (j53, j54, j55, ([] : List api_Tuple)) fl167 hfl168 ⟨S129, v61, (.slice none 0 0), none, rfl, Le.refl _, (hs.pick [2, 3, 4, 0] (by decide) rfl), (f62.mono le131), (Rd.nil _ _ _)⟩ ?_)
        rintro ⟨q185, q186, q187, q188⟩ fl197 K202 w201 hb198 ⟨S189, v191, v193, g195, rfl, le190, hs, f192, f194⟩ hl199
        have h200 : rtcp_parse_l0 q185 q186 q187 q188 = some fl197 := hb198
        unfold rtcp_parse_l0 at h200
        refine Cd.seq ?_
        refine Cd.sr ?_
        refine Rg.mv rfl rfl ?_
        obtain ⟨x203, hx204, h200⟩ := bind_s h200
        refine Rg.step rfl (Oq.call Try.call74 rfl rfl (c74 S189 _ (⟨q185, q186, q187⟩ : rtcp_reader) _ f192 (hs.enter 0 rfl rfl) _ hx204) (fun v205 w206 h207 => ?_))
        obtain ⟨S208, v211, rfl, hs209, f212⟩ := h207
        have le210 := hs209.le
        have hs := hs.call1 0 rfl rfl hs209
        refine Rg.go ?_
        refine Cd.cond (t := x203.1) rfl (fun hc213 => ?_) (fun hc213 => ?_)
        ·have h200 := ite_t hc213 h200
         refine Cd.sg ?_
         obtain ⟨p218, hp219, h200⟩ := bind_s h200
         obtain ⟨j214, j215, j216, j217⟩ := p218
         dsimp only at h200
         refine Cd.post (fun K w => ∃ (S220 : Mp) (v223 : Value) (v225 : Value) (g227 : Option Nat), K = [(2, v1), (6, .pointer (some ⟨b7, 0, none⟩)), (8, .pointer (some ⟨b18, 0, none⟩)), (9, .pointer (some ⟨b39, 0, none⟩))] ∧ Le S208 S220 ∧ St w0 [] S0 S220 [.box b39 #[v223, .int .i64 j215, .bool j216] 101, .box b18 #[.int .i64 x10, .int .u32 (cv .u32 x42.1), .int .u32 0, v225, .slice none 0 0, .slice none 0 0, .int .u64 0, .int .i64 0, .int .i64 0, .slice none 0 0] 33, .box b7 #[.int .i64 0, .int .u32 0, .int .u32 0, .slice none 0 0, .slice none 0 0, .slice none 0 0, .int .u64 0, .int .i64 0, .int .i64 0, .slice none 0 0] 33, .app g227 v225 j217.length 57 3] w ∧ Rd S220 1 (RI .u8) v223 j214 ∧ Rd S220 3 R_api_Tuple v225 j217) ?_ ?_
         ·rintro K229 w221 ⟨S220, v223, v225, g227, rfl, le222, hs, f224, f226⟩
          exact fun a ha => ⟨(j214, j215, j216, j217), [(2, v1), (6, .pointer (some ⟨b7, 0, none⟩)), (8, .pointer (some ⟨b18, 0, none⟩)), (9, .pointer (some ⟨b39, 0, none⟩))], (some_s h200).symm, ha.weak ⟨rfl, rfl, rfl, rfl, trivial⟩, S220, v223, v225, g227, rfl, (le190.trans (le210.trans le222)), hs, f224, f226⟩
         ·skip
          refine Cd.block ?_
          obtain ⟨p234, hp235, hp219⟩ := bind_s hp219
          obtain ⟨j230, j231, j232, j233⟩ := p234
          dsimp only at hp219
          refine Cd.post (fun K w => ∃ (S236 : Mp) (v239 : Value) (v241 : Value) (g243 : Option Nat), K = [(2, v1), (6, .pointer (some ⟨b7, 0, none⟩)), (8, .pointer (some ⟨b18, 0, none⟩)), (9, .pointer (some ⟨b39, 0, none⟩))] ∧ Le S208 S236 ∧ St w0 [] S0 S236 [.box b39 #[v239, .int .i64 j231, .bool j232] 101, .box b18 #[.int .i64 x10, .int .u32 (cv .u32 x42.1), .int .u32 0, v241, .slice none 0 0, .slice none 0 0, .int .u64 0, .int .i64 0, .int .i64 0, .slice none 0 0] 33, .box b7 #[.int .i64 0, .int .u32 0, .int .u32 0, .slice none 0 0, .slice none 0 0, .slice none 0 0, .int .u64 0, .int .i64 0, .int .i64 0, .slice none 0 0] 33, .app g243 v241 j233.length 57 3] w ∧ Rd S236 1 (RI .u8) v239 j230 ∧ Rd S236 3 R_api_Tuple v241 j233) ?_ ?_
          ·rintro K245 w237 ⟨S236, v239, v241, g243, rfl, le238, hs, f240, f242⟩
           cases some_s hp219
           exact fun a ha => ⟨[(2, v1), (6, .pointer (some ⟨b7, 0, none⟩)), (8, .pointer (some ⟨b18, 0, none⟩)), (9, .pointer (some ⟨b39, 0, none⟩))], ha.weak ⟨rfl, rfl, rfl, rfl, trivial⟩, S236, v239, v241, g243, rfl, le238, hs, f240, f242⟩
          ·skip
           refine Cd.rD mixed (fun l w => Has S208 w ∧ (l.getD 7 false = false → Hp b18 #[.int .i64 x10, .int .u32 (cv .u32 x42.1), .int .u32 0, v193, .slice none 0 0, .slice none 0 0, .int .u64 0, .int .i64 0, .int .i64 0, .slice none 0 0] 33 w)) hs (fun _ _ _ _ _ h => h) (by kernel_rfl) (fun w246 hs => ⟨⟨hs.has, (fun _ => hs.heap 1 rfl)⟩, ?_⟩)
           refine Rk.uN 0 rfl rfl (fun _ _ => by simp only [getD_set_ne false (show (0 : Nat) ≠ 7 by decide)]) (fun l w hl hcl hc => X.fieldB Try.underlying33 rfl zz28 rfl rfl) ?_
           refine Rk.uN 1 rfl rfl (fun _ _ => by simp only [getD_set_ne false (show (1 : Nat) ≠ 7 by decide)]) (fun l w hl hcl hc => X.load1 Try.underlying28 rfl rfl (heap_cell (hc.2 (hcl.lt rfl (by kernel_rfl) hl)) rfl)) ?_
           refine Rk.uN 2 rfl rfl (fun _ _ => by simp only [getD_set_ne false (show (2 : Nat) ≠ 7 by decide)]) (fun l w hl hcl hc => X.move rfl) ?_
           obtain ⟨x247, hx248, hp235⟩ := bind_s hp235
           refine Rk.eN 3 rfl rfl (Oq.call Try.call75 rfl rfl (c75 S208 _ (⟨x203.2.b_, x203.2.at_, x203.2.bad_⟩ : rtcp_reader) _ f212 (hs.enter 0 rfl rfl) _ hx248) (fun v249 w250 h251 => ?_))
           obtain ⟨S252, v255, rfl, hs253, f256⟩ := h251
           have le254 := hs253.le
           have hs := hs.call1 0 rfl rfl hs253
           refine ⟨⟨(hs.has.down le254), (fun _ => hs.heap 1 rfl)⟩, Rk.mk (C' := fun l w => Has S252 w ∧ (l.getD 7 false = false → Hp b18 #[.int .i64 x10, .int .u32 (cv .u32 x42.1), .int .u32 0, v193, .slice none 0 0, .slice none 0 0, .int .u64 0, .int .i64 0, .int .i64 0, .slice none 0 0] 33 w)) ⟨hs.has, (fun _ => hs.heap 1 rfl)⟩ (fun l w hc => ⟨hc.1.down le254, hc.2⟩) ?_⟩
           refine Rk.eN 4 rfl rfl (Oq.lit (sz := 3) (cs0 := [.int .u32 0, .int .u64 0, .int .i64 0]) (cells := [.int .u32 x247.1.Owner, .int .u64 x247.1.Rate, .int .i64 x247.1.Over]) hs Try.underlying28 ii57 rfl rfl rfl rfl rfl rfl ⟨_, [.int .u32 x247.1.Owner, .int .u64 x247.1.Rate, .int .i64 x247.1.Over], _, rfl, rfl, rfl, rfl⟩ rfl rfl rfl (fun b257 w258 S259 hs le260 hE261 => ?_))
           have f263 : Rd S259 3 R_api_Tuple (.slice (some ⟨b257, 0, none⟩) 1 1) ([x247.1] : List api_Tuple) := Rd.of_cells (xs := ([x247.1] : List api_Tuple)) ⟨[.int .u32 x247.1.Owner, .int .u64 x247.1.Rate, .int .i64 x247.1.Over], _, rfl, rfl, one_all ⟨rfl, rfl, rfl, trivial⟩, rfl, rfl⟩ hE261 (Nat.le_of_ble_eq_true rfl) (Nat.le_of_ble_eq_true rfl)
           refine ⟨⟨(hs.has.down le260), (fun _ => hs.heap 2 rfl)⟩, Rk.mk (C' := fun l w => Has S259 w ∧ (l.getD 7 false = false → Hp b18 #[.int .i64 x10, .int .u32 (cv .u32 x42.1), .int .u32 0, v193, .slice none 0 0, .slice none 0 0, .int .u64 0, .int .i64 0, .int .i64 0, .slice none 0 0] 33 w)) ⟨hs.has, (fun _ => hs.heap 2 rfl)⟩ (fun l w hc => ⟨hc.1.down le260, hc.2⟩) ?_⟩
           obtain ⟨y264, hx265, hp235⟩ := bind_s hp235
           refine Rk.eN 5 rfl rfl (Oq.appendS hs 4 rfl Try.underlying28 ii57 rfl rfl rfl rfl rfl rfl (f194.mono (le210.trans (le254.trans le260))) f263 hx265 rfl rfl rfl (fun v266 w267 S268 g269 hs le270 f271 => ?_))
           refine ⟨⟨(hs.has.down le270), (fun _ => hs.heap 2 rfl)⟩, Rk.mk (C' := fun l w => Has S268 w ∧ (l.getD 7 false = false → Hp b18 #[.int .i64 x10, .int .u32 (cv .u32 x42.1), .int .u32 0, v193, .slice none 0 0, .slice none 0 0, .int .u64 0, .int .i64 0, .int .i64 0, .slice none 0 0] 33 w)) ⟨hs.has, (fun _ => hs.heap 2 rfl)⟩ (fun l w hc => ⟨hc.1.down le270, hc.2⟩) ?_⟩
           refine Rk.uN 6 rfl rfl (fun _ _ => by simp only [getD_set_ne false (show (6 : Nat) ≠ 7 by decide)]) (fun l w hl hcl hc => X.fieldB Try.underlying33 rfl zz28 rfl rfl) ?_
           refine Rk.eN 7 rfl rfl (Oq.store hs 2 rfl 3 zz28 rfl rfl f271.cells f271.one rfl [.app (some b257) (.slice (some ⟨b257, 0, none⟩) 1 1) ([x247.1] : List api_Tuple).length 57 3, .box b39 #[v255, .int .i64 x247.2.at_, .bool x247.2.bad_] 101, .box b18 #[.int .i64 x10, .int .u32 (cv .u32 x42.1), .int .u32 0, v266, .slice none 0 0, .slice none 0 0, .int .u64 0, .int .i64 0, .int .i64 0, .slice none 0 0] 33, .box b7 #[.int .i64 0, .int .u32 0, .int .u32 0, .slice none 0 0, .slice none 0 0, .slice none 0 0, .int .u64 0, .int .i64 0, .int .i64 0, .slice none 0 0] 33, .app g269 v266 y264.length 57 3] rfl (fun w272 hs => ?_))
           refine ⟨⟨hs.has, (fun h => absurd h (by decide))⟩, ?_⟩
           refine Rk.done ?_
           cases some_s hp235
           exact fun a ha => ⟨[(2, v1), (6, .pointer (some ⟨b7, 0, none⟩)), (8, .pointer (some ⟨b18, 0, none⟩)), (9, .pointer (some ⟨b39, 0, none⟩))], ha.weak ⟨rfl, rfl, rfl, rfl, trivial⟩, S268, v255, v266, g269, rfl, (le254.trans (le260.trans le270)), (hs.pick [1, 2, 3, 4] (by decide) rfl), (f256.mono (le260.trans le270)), f271⟩
        ·have h200 := ite_f hc213 h200
         refine Cd.exit ?_
         obtain rfl := some_s h200
         have e := hl199 (fun _ e => by cases e)
         exact fun a ha => ⟨[(2, v1), (6, .pointer (some ⟨b7, 0, none⟩)), (8, .pointer (some ⟨b18, 0, none⟩)), (9, .pointer (some ⟨b39, 0, none⟩))], ha.weak ⟨rfl, rfl, rfl, rfl, trivial⟩, _, _, _, _, S208, v211, v193, g195, rfl, e.symm, (le190.trans le210), hs, f212, (f194.mono le210)⟩
      ·have hp148 := ite_f hc165 hp148
       refine Cd.sr ?_
       refine Rg.vN (X.eql rfl rfl) rfl ?_
       refine Rg.st rfl rfl ?_
       refine Rg.go ?_
       obtain ⟨p289, hp290, hp148⟩ := bind_s hp148
       obtain ⟨j276, j277, j278, j279, j280, j281, j282, j283, j284, j285, j286, j287, j288⟩ := p289
       dsimp only at hp148
       refine Cd.post (fun K w => ∃ (S291 : Mp) (v294 : Value) (v296 : Value) (v298 : Value) (g300 : Option Nat) (v302 : Value) (v304 : Value), K = [(2, v1), (6, .pointer (some ⟨b7, 0, none⟩)), (8, .pointer (some ⟨b18, 0, none⟩)), (9, .pointer (some ⟨b39, 0, none⟩))] ∧ Le S129 S291 ∧ St w0 [] S0 S291 [.box b39 #[v294, .int .i64 j277, .bool j278] 101, .box b18 #[.int .i64 j279, .int .u32 j280, .int .u32 j281, v296, v298, v302, .int .u64 j285, .int .i64 j286, .int .i64 j287, v304] 33, .box b7 #[.int .i64 0, .int .u32 0, .int .u32 0, .slice none 0 0, .slice none 0 0, .slice none 0 0, .int .u64 0, .int .i64 0, .int .i64 0, .slice none 0 0] 33, .app g300 v298 j283.length 27 1] w ∧ Rd S291 1 (RI .u8) v294 j276 ∧ Rd S291 3 R_api_Tuple v296 j282 ∧ Rd S291 1 (RI .u32) v298 j283 ∧ Rd S291 1 (RI .i64) v302 j284 ∧ Rd S291 1 (RI .u8) v304 j288) ?_ ?_
       ·rintro K306 w292 ⟨S291, v294, v296, v298, g300, v302, v304, rfl, le293, hs, f295, f297, f299, f303, f305⟩
        cases some_s hp148
        exact fun a ha => ⟨[(2, v1), (6, .pointer (some ⟨b7, 0, none⟩)), (8, .pointer (some ⟨b18, 0, none⟩)), (9, .pointer (some ⟨b39, 0, none⟩))], ha.weak ⟨rfl, rfl, rfl, rfl, trivial⟩, S291, v294, v296, v298, g300, v302, v304, rfl, le293, hs, f295, f297, f299, f303, f305⟩
       ·skip
        refine Cd.cond (t := x10 == 3) rfl (fun hc307 => ?_) (fun hc307 => ?_)
        ·have hp290 := ite_t hc307 hp290
         refine Cd.region ?_
         refine Rg.mv rfl rfl ?_
         obtain ⟨x308, hx309, hp290⟩ := bind_s hp290
         refine Rg.step rfl (Oq.call Try.call72 rfl rfl (c72 S129 _ (⟨j53, j54, j55⟩ : rtcp_reader) _ (f62.mono le131) _ (hs.enter 1 rfl rfl) _ hx309) (fun v310 w311 h312 => ?_))
         obtain ⟨S313, v316, rfl, hs314, f317⟩ := h312
         have le315 := hs314.le
         have hs := hs.call1 1 rfl rfl hs314
         refine Rg.vN (X.conv Try.underlying30 Try.underlying27 rfl) rfl ?_
         refine Rg.vN (X.fieldB Try.underlying33 rfl zz27 rfl rfl) rfl ?_
         refine Rg.step rfl (Oq.store hs 2 rfl 2 zz27 rfl rfl rfl rfl rfl [.box b39 #[v316, .int .i64 x308.2.at_, .bool x308.2.bad_] 101, .app none (.slice none 0 0) ([] : List Int).length 27 1, .box b18 #[.int .i64 x10, .int .u32 (cv .u32 x42.1), .int .u32 (cv .u32 x308.1), .slice none 0 0, .slice none 0 0, .slice none 0 0, .int .u64 0, .int .i64 0, .int .i64 0, .slice none 0 0] 33, .box b7 #[.int .i64 0, .int .u32 0, .int .u32 0, .slice none 0 0, .slice none 0 0, .slice none 0 0, .int .u64 0, .int .i64 0, .int .i64 0, .slice none 0 0] 33] rfl (fun w318 hs => ?_))
         refine Rg.nil ?_
         cases some_s hp290
         exact fun a ha => ⟨[(2, v1), (6, .pointer (some ⟨b7, 0, none⟩)), (8, .pointer (some ⟨b18, 0, none⟩)), (9, .pointer (some ⟨b39, 0, none⟩))], ha.weak ⟨rfl, rfl, rfl, rfl, trivial⟩, S313, v316, (.slice none 0 0), (.slice none 0 0), none, (.slice none 0 0), (.slice none 0 0), rfl, le315, (hs.pick [0, 2, 3, 1] (by decide) rfl), f317, (Rd.nil _ _ _), (Rd.nil _ _ _), (Rd.nil _ _ _), (Rd.nil _ _ _)⟩
        ·have hp290 := ite_f hc307 hp290
         refine Cd.sr ?_
         refine Rg.vN (X.eql rfl rfl) rfl ?_
         refine Rg.st rfl rfl ?_
         refine Rg.go ?_
         obtain ⟨p332, hp333, hp290⟩ := bind_s hp290
         obtain ⟨j319, j320, j321, j322, j323, j324, j325, j326, j327, j328, j329, j330, j331⟩ := p332
         dsimp only at hp290
         refine Cd.post (fun K w => ∃ (S334 : Mp) (v337 : Value) (v339 : Value) (v341 : Value) (g343 : Option Nat) (v345 : Value) (v347 : Value), K = [(2, v1), (6, .pointer (some ⟨b7, 0, none⟩)), (8, .pointer (some ⟨b18, 0, none⟩)), (9, .pointer (some ⟨b39, 0, none⟩))] ∧ Le S129 S334 ∧ St w0 [] S0 S334 [.box b39 #[v337, .int .i64 j320, .bool j321] 101, .box b18 #[.int .i64 j322, .int .u32 j323, .int .u32 j324, v339, v341, v345, .int .u64 j328, .int .i64 j329, .int .i64 j330, v347] 33, .box b7 #[.int .i64 0, .int .u32 0, .int .u32 0, .slice none 0 0, .slice none 0 0, .slice none 0 0, .int .u64 0, .int .i64 0, .int .i64 0, .slice none 0 0] 33, .app g343 v341 j326.length 27 1] w ∧ Rd S334 1 (RI .u8) v337 j319 ∧ Rd S334 3 R_api_Tuple v339 j325 ∧ Rd S334 1 (RI .u32) v341 j326 ∧ Rd S334 1 (RI .i64) v345 j327 ∧ Rd S334 1 (RI .u8) v347 j331) ?_ ?_
         ·rintro K349 w335 ⟨S334, v337, v339, v341, g343, v345, v347, rfl, le336, hs, f338, f340, f342, f346, f348⟩
          cases some_s hp290
          exact fun a ha => ⟨[(2, v1), (6, .pointer (some ⟨b7, 0, none⟩)), (8, .pointer (some ⟨b18, 0, none⟩)), (9, .pointer (some ⟨b39, 0, none⟩))], ha.weak ⟨rfl, rfl, rfl, rfl, trivial⟩, S334, v337, v339, v341, g343, v345, v347, rfl, le336, hs, f338, f340, f342, f346, f348⟩
         ·skip
          refine Cd.cond (t := x10 == 4) rfl (fun hc350 => ?_) (fun hc350 => ?_)
          ·have hp333 := ite_t hc350 hp333
           refine Cd.seq ?_
           have hs := hs.nil 3 1
           obtain ⟨fl352, hfl353, hp333⟩ := bind_s hp333
           refine Cd.post (fun K w => ∃ (j354 : (List Int)) (j355 : Int) (j356 : Bool) (j357 : (List Int)) (j358 : (List Int)) (S359 : Mp) (v361 : Value) (v363 : Value) (g365 : Option Nat) (v367 : Value) (g369 : Option Nat), K = [(2, v1), (6, .pointer (some ⟨b7, 0, none⟩)), (8, .pointer (some ⟨b18, 0, none⟩)), (9, .pointer (some ⟨b39, 0, none⟩))] ∧ fl352 = Flow.brk (j354, j355, j356, j357, j358) ∧ Le S129 S359 ∧ St w0 [] S0 S359 [.box b39 #[v361, .int .i64 j355, .bool j356] 101, .box b18 #[.int .i64 x10, .int .u32 (cv .u32 x42.1), .int .u32 0, .slice none 0 0, v363, v367, .int .u64 0, .int .i64 0, .int .i64 0, .slice none 0 0] 33, .box b7 #[.int .i64 0, .int .u32 0, .int .u32 0, .slice none 0 0, .slice none 0 0, .slice none 0 0, .int .u64 0, .int .i64 0, .int .i64 0, .slice none 0 0] 33, .app g365 v363 j357.length 27 1, .app g369 v367 j358.length 3 1] w ∧ Rd S359 1 (RI .u8) v361 j354 ∧ Rd S359 1 (RI .u32) v363 j357 ∧ Rd S359 1 (RI .i64) v367 j358) ?_ ?_
           ·rintro K372 w371 ⟨j354, j355, j356, j357, j358, S359, v361, v363, g365, v367, g369, rfl, rfl, le360, hs, f362, f364, f368⟩
            have hp333 := el_brk hp333
            try dsimp only at hp333
            refine Cd.go ?_
            refine Cd.region ?_
            refine Rg.mv rfl rfl ?_
            refine Rg.mv rfl rfl ?_
            refine Rg.weak [(2, v1), (6, .pointer (some ⟨b7, 0, none⟩)), (8, .pointer (some ⟨b18, 0, none⟩)), (9, .pointer (some ⟨b39, 0, none⟩)), (92, .pointer (some ⟨b39, 0, none⟩)), (93, .pointer (some ⟨b39, 0, none⟩))] ⟨rfl, rfl, rfl, rfl, rfl, rfl, trivial⟩ ?_
            refine Rg.vN (X.nilCheck rfl) rfl ?_
            refine Rg.vN (X.fieldB Try.underlying101 rfl zz4 rfl rfl) rfl ?_
            refine Rg.vN (X.load1 Try.underlying4 rfl rfl (hs.cell 0 rfl 2 rfl)) rfl ?_
            refine Rg.mv rfl rfl ?_
            refine Rg.vF rfl rfl rfl (fun hW => X.fieldB Try.underlying33 rfl zz29 rfl rfl) ?_
            refine Rg.vF rfl rfl rfl (fun hW => X.load1 Try.underlying29 rfl (ev_g rfl hW) (hs.cell 1 rfl 4 rfl)) ?_
            refine Rg.vF rfl rfl rfl (fun hW => X.lenR Try.underlying29 (ev_g rfl hW) f364) ?_
            refine Rg.vF rfl rfl rfl (fun hW => X.lss (ev_g rfl hW) rfl) ?_
            refine Rg.vN (X.pickOr rfl rfl rfl) rfl ?_
            refine Rg.weak [(2, v1), (6, .pointer (some ⟨b7, 0, none⟩)), (8, .pointer (some ⟨b18, 0, none⟩)), (9, .pointer (some ⟨b39, 0, none⟩)), (92, .pointer (some ⟨b39, 0, none⟩)), (102, .bool (j356 || (decide ((j357.length : Int) < 1))))] ⟨rfl, rfl, rfl, rfl, rfl, rfl, trivial⟩ ?_
            refine Rg.mv rfl rfl ?_
            refine Rg.vF rfl rfl rfl (fun hW => X.fieldB Try.underlying33 rfl zz29 rfl rfl) ?_
            refine Rg.vF rfl rfl rfl (fun hW => X.load1 Try.underlying29 rfl (ev_g rfl hW) (hs.cell 1 rfl 4 rfl)) ?_
            refine Rg.vF rfl rfl rfl (fun hW => X.lenR Try.underlying29 (ev_g rfl hW) f364) ?_
            refine Rg.vF rfl rfl rfl (fun hW => X.gtr (ev_g rfl hW) rfl) ?_
            refine Rg.vN (X.pickOr rfl rfl rfl) rfl ?_
            refine Rg.vN (X.nilCheck rfl) rfl ?_
            refine Rg.vN (X.fieldB Try.underlying101 rfl zz4 rfl rfl) rfl ?_
            refine Rg.step rfl (Oq.store hs 0 rfl 2 zz4 rfl rfl rfl rfl rfl [.box b39 #[v361, .int .i64 j355, .bool ((j356 || (decide ((j357.length : Int) < 1))) || (decide (16 < (j357.length : Int))))] 101, .box b18 #[.int .i64 x10, .int .u32 (cv .u32 x42.1), .int .u32 0, .slice none 0 0, v363, v367, .int .u64 0, .int .i64 0, .int .i64 0, .slice none 0 0] 33, .box b7 #[.int .i64 0, .int .u32 0, .int .u32 0, .slice none 0 0, .slice none 0 0, .slice none 0 0, .int .u64 0, .int .i64 0, .int .i64 0, .slice none 0 0] 33, .app g365 v363 j357.length 27 1, .app g369 v367 j358.length 3 1] rfl (fun w373 hs => ?_))
            refine Rg.nil ?_
            cases some_s hp333
            exact fun a ha => ⟨[(2, v1), (6, .pointer (some ⟨b7, 0, none⟩)), (8, .pointer (some ⟨b18, 0, none⟩)), (9, .pointer (some ⟨b39, 0, none⟩))], ha.weak ⟨rfl, rfl, rfl, rfl, trivial⟩, S359, v361, (.slice none 0 0), v363, g365, v367, (.slice none 0 0), rfl, le360, (hs.pick [0, 1, 2, 3] (by decide) rfl), f362, (Rd.nil _ _ _), f364, f368, (Rd.nil _ _ _)⟩
           ·skip
            refine Cd.weak [(2, v1), (6, .pointer (some ⟨b7, 0, none⟩)), (8, .pointer (some ⟨b18, 0, none⟩)), (9, .pointer (some ⟨b39, 0, none⟩))] ⟨rfl, rfl, rfl, rfl, trivial⟩ ?_
            refine Cd.block (Cd.loop (fun sg => rtcp_parse_l1 sg.1 sg.2.1 sg.2.2.1 sg.2.2.2.1 sg.2.2.2.2) (fun (sg : ((List Int) × Int × Bool × (List Int) × (List Int))) K w => ∃ (S379 : Mp) (v381 : Value) (v383 : Value) (g385 : Option Nat) (v387 : Value) (g389 : Option Nat), K = [(2, v1), (6, .pointer (some ⟨b7, 0, none⟩)), (8, .pointer (some ⟨b18, 0, none⟩)), (9, .pointer (some ⟨b39, 0, none⟩))] ∧ Le S129 S379 ∧ St w0 [] S0 S379 [.box b39 #[v381, .int .i64 sg.2.1, .bool sg.2.2.1] 101, .box b18 #[.int .i64 x10, .int .u32 (cv .u32 x42.1), .int .u32 0, .slice none 0 0, v383, v387, .int .u64 0, .int .i64 0, .int .i64 0, .slice none 0 0] 33, .box b7 #[.int .i64 0, .int .u32 0, .int .u32 0, .slice none 0 0, .slice none 0 0, .slice none 0 0, .int .u64 0, .int .i64 0, .int .i64 0, .slice none 0 0] 33, .app g385 v383 sg.2.2.2.1.length 27 1, .app g389 v387 sg.2.2.2.2.length 3 1] w ∧ Rd S379 1 (RI .u8) v381 sg.1 ∧ Rd S379 1 (RI .u32) v383 sg.2.2.2.1 ∧ Rd S379 1 (RI .i64) v387 sg.2.2.2.2) (j53, j54, j55, ([] : List Int), ([] : List Int)) fl352 hfl353 ⟨S129, v61, (.slice none 0 0), none, (.slice none 0 0), none, rfl, Le.refl _, (hs.pick [2, 3, 4, 1, 0] (by decide) rfl), (f62.mono le131), (Rd.nil _ _ _), (Rd.nil _ _ _)⟩ ?_)
            rintro ⟨q374, q375, q376, q377, q378⟩ fl391 K396 w395 hb392 ⟨S379, v381, v383, g385, v387, g389, rfl, le380, hs, f382, f384, f388⟩ hl393
            have h394 : rtcp_parse_l1 q374 q375 q376 q377 q378 = some fl391 := hb392
            unfold rtcp_parse_l1 at h394
            refine Cd.seq ?_
            refine Cd.sr ?_
            refine Rg.mv rfl rfl ?_
            obtain ⟨x397, hx398, h394⟩ := bind_s h394
            refine Rg.step rfl (Oq.call Try.call74 rfl rfl (c74 S379 _ (⟨q374, q375, q376⟩ : rtcp_reader) _ f382 (hs.enter 0 rfl rfl) _ hx398) (fun v399 w400 h401 => ?_))
            obtain ⟨S402, v405, rfl, hs403, f406⟩ := h401
            have le404 := hs403.le
            have hs := hs.call1 0 rfl rfl hs403
            refine Rg.go ?_
            refine Cd.cond (t := x397.1) rfl (fun hc407 => ?_) (fun hc407 => ?_)
            ·have h394 := ite_t hc407 h394
             refine Cd.sg ?_
             obtain ⟨p413, hp414, h394⟩ := bind_s h394
             obtain ⟨j408, j409, j410, j411, j412⟩ := p413
             dsimp only at h394
             refine Cd.post (fun K w => ∃ (S415 : Mp) (v418 : Value) (v420 : Value) (g422 : Option Nat) (v424 : Value) (g426 : Option Nat), K = [(2, v1), (6, .pointer (some ⟨b7, 0, none⟩)), (8, .pointer (some ⟨b18, 0, none⟩)), (9, .pointer (some ⟨b39, 0, none⟩))] ∧ Le S402 S415 ∧ St w0 [] S0 S415 [.box b39 #[v418, .int .i64 j409, .bool j410] 101, .box b18 #[.int .i64 x10, .int .u32 (cv .u32 x42.1), .int .u32 0, .slice none 0 0, v420, v424, .int .u64 0, .int .i64 0, .int .i64 0, .slice none 0 0] 33, .box b7 #[.int .i64 0, .int .u32 0, .int .u32 0, .slice none 0 0, .slice none 0 0, .slice none 0 0, .int .u64 0, .int .i64 0, .int .i64 0, .slice none 0 0] 33, .app g422 v420 j411.length 27 1, .app g426 v424 j412.length 3 1] w ∧ Rd S415 1 (RI .u8) v418 j408 ∧ Rd S415 1 (RI .u32) v420 j411 ∧ Rd S415 1 (RI .i64) v424 j412) ?_ ?_
             ·rintro K428 w416 ⟨S415, v418, v420, g422, v424, g426, rfl, le417, hs, f419, f421, f425⟩
              exact fun a ha => ⟨(j408, j409, j410, j411, j412), [(2, v1), (6, .pointer (some ⟨b7, 0, none⟩)), (8, .pointer (some ⟨b18, 0, none⟩)), (9, .pointer (some ⟨b39, 0, none⟩))], (some_s h394).symm, ha.weak ⟨rfl, rfl, rfl, rfl, trivial⟩, S415, v418, v420, g422, v424, g426, rfl, (le380.trans (le404.trans le417)), hs, f419, f421, f425⟩
             ·skip
              refine Cd.block ?_
              refine Cd.seq ?_
              obtain ⟨p433, hp434, hp414⟩ := bind_s hp414
              obtain ⟨j429, j430, j431, j432⟩ := p433
              dsimp only at hp414
              refine Cd.post (fun K w => ∃ (S435 : Mp) (v438 : Value) (v440 : Value) (g442 : Option Nat), K = [(2, v1), (6, .pointer (some ⟨b7, 0, none⟩)), (8, .pointer (some ⟨b18, 0, none⟩)), (9, .pointer (some ⟨b39, 0, none⟩))] ∧ Le S402 S435 ∧ St w0 [] S0 S435 [.box b39 #[v438, .int .i64 j430, .bool j431] 101, .box b18 #[.int .i64 x10, .int .u32 (cv .u32 x42.1), .int .u32 0, .slice none 0 0, v440, v387, .int .u64 0, .int .i64 0, .int .i64 0, .slice none 0 0] 33, .box b7 #[.int .i64 0, .int .u32 0, .int .u32 0, .slice none 0 0, .slice none 0 0, .slice none 0 0, .int .u64 0, .int .i64 0, .int .i64 0, .slice none 0 0] 33, .app g389 v387 q378.length 3 1, .app g442 v440 j432.length 27 1] w ∧ Rd S435 1 (RI .u8) v438 j429 ∧ Rd S435 1 (RI .u32) v440 j432) ?_ ?_
              ·rintro K444 w436 ⟨S435, v438, v440, g442, rfl, le437, hs, f439, f441⟩
               refine Cd.go ?_
               refine Cd.seq ?_
               obtain ⟨p449, hp450, hp414⟩ := bind_s hp414
               obtain ⟨j445, j446, j447, j448⟩ := p449
               dsimp only at hp414
               refine Cd.post (fun K w => ∃ (S451 : Mp) (v454 : Value) (v456 : Value) (g458 : Option Nat), K = [(2, v1), (6, .pointer (some ⟨b7, 0, none⟩)), (8, .pointer (some ⟨b18, 0, none⟩)), (9, .pointer (some ⟨b39, 0, none⟩))] ∧ Le S435 S451 ∧ St w0 [] S0 S451 [.box b39 #[v454, .int .i64 j446, .bool j447] 101, .box b18 #[.int .i64 x10, .int .u32 (cv .u32 x42.1), .int .u32 0, .slice none 0 0, v440, v456, .int .u64 0, .int .i64 0, .int .i64 0, .slice none 0 0] 33, .box b7 #[.int .i64 0, .int .u32 0, .int .u32 0, .slice none 0 0, .slice none 0 0, .slice none 0 0, .int .u64 0, .int .i64 0, .int .i64 0, .slice none 0 0] 33, .app g442 v440 j432.length 27 1, .app g458 v456 j448.length 3 1] w ∧ Rd S451 1 (RI .u8) v454 j445 ∧ Rd S451 1 (RI .i64) v456 j448) ?_ ?_
               ·rintro K460 w452 ⟨S451, v454, v456, g458, rfl, le453, hs, f455, f457⟩
                refine Cd.go ?_
                refine Cd.region ?_
                refine Rg.mv rfl rfl ?_
                obtain ⟨x461, hx462, hp414⟩ := bind_s hp414
                refine Rg.step rfl (Oq.call Try.call73 rfl rfl (c73 S451 _ (⟨j445, j446, j447⟩ : rtcp_reader) _ f455 _ (hs.enter 0 rfl rfl) _ hx462) (fun v463 w464 h465 => ?_))
                obtain ⟨S466, v469, rfl, hs467, f470⟩ := h465
                have le468 := hs467.le
                have hs := hs.call1 0 rfl rfl hs467
                refine Rg.nil ?_
                cases some_s hp414
                exact fun a ha => ⟨[(2, v1), (6, .pointer (some ⟨b7, 0, none⟩)), (8, .pointer (some ⟨b18, 0, none⟩)), (9, .pointer (some ⟨b39, 0, none⟩))], ha.weak ⟨rfl, rfl, rfl, rfl, trivial⟩, S466, v469, v440, g442, v456, g458, rfl, (le437.trans (le453.trans le468)), hs, f470, (f441.mono (le453.trans le468)), (f457.mono le468)⟩
               ·skip
                refine Cd.rD mixed (fun l w => Has S435 w ∧ (l.getD 8 false = false → Hp b18 #[.int .i64 x10, .int .u32 (cv .u32 x42.1), .int .u32 0, .slice none 0 0, v440, v387, .int .u64 0, .int .i64 0, .int .i64 0, .slice none 0 0] 33 w)) hs (fun _ _ _ _ _ h => h) (by kernel_rfl) (fun w471 hs => ⟨⟨hs.has, (fun _ => hs.heap 1 rfl)⟩, ?_⟩)
                refine Rk.uN 0 rfl rfl (fun _ _ => by simp only [getD_set_ne false (show (0 : Nat) ≠ 8 by decide)]) (fun l w hl hcl hc => X.fieldB Try.underlying33 rfl zz23 rfl rfl) ?_
                refine Rk.uN 1 rfl rfl (fun _ _ => by simp only [getD_set_ne false (show (1 : Nat) ≠ 8 by decide)]) (fun l w hl hcl hc => X.load1 Try.underlying23 rfl rfl (heap_cell (hc.2 (hcl.lt rfl (by kernel_rfl) hl)) rfl)) ?_
                refine Rk.uN 2 rfl rfl (fun _ _ => by simp only [getD_set_ne false (show (2 : Nat) ≠ 8 by decide)]) (fun l w hl hcl hc => X.move rfl) ?_
                obtain ⟨x472, hx473, hp450⟩ := bind_s hp450
                refine Rk.eN 3 rfl rfl (Oq.call Try.call72 rfl rfl (c72 S435 _ (⟨j429, j430, j431⟩ : rtcp_reader) _ f439 _ (hs.enter 0 rfl rfl) _ hx473) (fun v474 w475 h476 => ?_))
                obtain ⟨S477, v480, rfl, hs478, f481⟩ := h476
                have le479 := hs478.le
                have hs := hs.call1 0 rfl rfl hs478
                refine ⟨⟨(hs.has.down le479), (fun _ => hs.heap 1 rfl)⟩, Rk.mk (C' := fun l w => Has S477 w ∧ (l.getD 8 false = false → Hp b18 #[.int .i64 x10, .int .u32 (cv .u32 x42.1), .int .u32 0, .slice none 0 0, v440, v387, .int .u64 0, .int .i64 0, .int .i64 0, .slice none 0 0] 33 w)) ⟨hs.has, (fun _ => hs.heap 1 rfl)⟩ (fun l w hc => ⟨hc.1.down le479, hc.2⟩) ?_⟩
                refine Rk.weak [(2, v1), (6, .pointer (some ⟨b7, 0, none⟩)), (8, .pointer (some ⟨b18, 0, none⟩)), (9, .pointer (some ⟨b39, 0, none⟩)), (83, v387), (85, .int .u64 x472.1)] ⟨rfl, rfl, rfl, rfl, rfl, rfl, trivial⟩ ?_
                refine Rk.uN 4 rfl rfl (fun _ _ => by simp only [getD_set_ne false (show (4 : Nat) ≠ 8 by decide)]) (fun l w hl hcl hc => X.conv Try.underlying30 Try.underlying3 rfl) ?_
                refine Rk.eN 5 rfl rfl (Oq.lit (sz := 1) (cs0 := [.int .i64 0]) (cells := [.int .i64 (cv .i64 x472.1)]) hs Try.underlying23 ii3 rfl rfl rfl rfl rfl rfl ⟨_, [.int .i64 (cv .i64 x472.1)], _, rfl, rfl, rfl, rfl⟩ rfl rfl rfl (fun b482 w483 S484 hs le485 hE486 => ?_))
                have f488 : Rd S484 1 (RI .i64) (.slice (some ⟨b482, 0, none⟩) 1 1) ([cv .i64 x472.1] : List Int) := Rd.of_cells (xs := ([cv .i64 x472.1] : List Int)) ⟨[.int .i64 (cv .i64 x472.1)], _, rfl, rfl, one_all ⟨rfl, trivial⟩, rfl, rfl⟩ hE486 (Nat.le_of_ble_eq_true rfl) (Nat.le_of_ble_eq_true rfl)
                refine ⟨⟨(hs.has.down le485), (fun _ => hs.heap 2 rfl)⟩, Rk.mk (C' := fun l w => Has S484 w ∧ (l.getD 8 false = false → Hp b18 #[.int .i64 x10, .int .u32 (cv .u32 x42.1), .int .u32 0, .slice none 0 0, v440, v387, .int .u64 0, .int .i64 0, .int .i64 0, .slice none 0 0] 33 w)) ⟨hs.has, (fun _ => hs.heap 2 rfl)⟩ (fun l w hc => ⟨hc.1.down le485, hc.2⟩) ?_⟩
                obtain ⟨y489, hx490, hp450⟩ := bind_s hp450
                refine Rk.eN 6 rfl rfl (Oq.appendS hs 4 rfl Try.underlying23 ii3 rfl rfl rfl rfl rfl rfl (f388.mono (le404.trans (le437.trans (le479.trans le485)))) f488 hx490 rfl rfl rfl (fun v491 w492 S493 g494 hs le495 f496 => ?_))
                refine ⟨⟨(hs.has.down le495), (fun _ => hs.heap 2 rfl)⟩, Rk.mk (C' := fun l w => Has S493 w ∧ (l.getD 8 false = false → Hp b18 #[.int .i64 x10, .int .u32 (cv .u32 x42.1), .int .u32 0, .slice none 0 0, v440, v387, .int .u64 0, .int .i64 0, .int .i64 0, .slice none 0 0] 33 w)) ⟨hs.has, (fun _ => hs.heap 2 rfl)⟩ (fun l w hc => ⟨hc.1.down le495, hc.2⟩) ?_⟩
                refine Rk.uN 7 rfl rfl (fun _ _ => by simp only [getD_set_ne false (show (7 : Nat) ≠ 8 by decide)]) (fun l w hl hcl hc => X.fieldB Try.underlying33 rfl zz23 rfl rfl) ?_
                refine Rk.eN 8 rfl rfl (Oq.store hs 2 rfl 5 zz23 rfl rfl f496.cells f496.one rfl [.app (some b482) (.slice (some ⟨b482, 0, none⟩) 1 1) ([cv .i64 x472.1] : List Int).length 3 1, .box b39 #[v480, .int .i64 x472.2.at_, .bool x472.2.bad_] 101, .box b18 #[.int .i64 x10, .int .u32 (cv .u32 x42.1), .int .u32 0, .slice none 0 0, v440, v491, .int .u64 0, .int .i64 0, .int .i64 0, .slice none 0 0] 33, .box b7 #[.int .i64 0, .int .u32 0, .int .u32 0, .slice none 0 0, .slice none 0 0, .slice none 0 0, .int .u64 0, .int .i64 0, .int .i64 0, .slice none 0 0] 33, .app g494 v491 y489.length 3 1, .app g442 v440 j432.length 27 1] rfl (fun w497 hs => ?_))
                refine ⟨⟨hs.has, (fun h => absurd h (by decide))⟩, ?_⟩
                refine Rk.done ?_
                cases some_s hp450
                exact fun a ha => ⟨[(2, v1), (6, .pointer (some ⟨b7, 0, none⟩)), (8, .pointer (some ⟨b18, 0, none⟩)), (9, .pointer (some ⟨b39, 0, none⟩))], ha.weak ⟨rfl, rfl, rfl, rfl, trivial⟩, S493, v480, v491, g494, rfl, (le479.trans (le485.trans le495)), (hs.pick [1, 2, 3, 5, 4] (by decide) rfl), (f481.mono (le485.trans le495)), f496⟩
              ·skip
               refine Cd.rD mixed (fun l w => Has S402 w ∧ (l.getD 8 false = false → Hp b18 #[.int .i64 x10, .int .u32 (cv .u32 x42.1), .int .u32 0, .slice none 0 0, v383, v387, .int .u64 0, .int .i64 0, .int .i64 0, .slice none 0 0] 33 w)) hs (fun _ _ _ _ _ h => h) (by kernel_rfl) (fun w498 hs => ⟨⟨hs.has, (fun _ => hs.heap 1 rfl)⟩, ?_⟩)
               refine Rk.uN 0 rfl rfl (fun _ _ => by simp only [getD_set_ne false (show (0 : Nat) ≠ 8 by decide)]) (fun l w hl hcl hc => X.fieldB Try.underlying33 rfl zz29 rfl rfl) ?_
               refine Rk.uN 1 rfl rfl (fun _ _ => by simp only [getD_set_ne false (show (1 : Nat) ≠ 8 by decide)]) (fun l w hl hcl hc => X.load1 Try.underlying29 rfl rfl (heap_cell (hc.2 (hcl.lt rfl (by kernel_rfl) hl)) rfl)) ?_
               refine Rk.uN 2 rfl rfl (fun _ _ => by simp only [getD_set_ne false (show (2 : Nat) ≠ 8 by decide)]) (fun l w hl hcl hc => X.move rfl) ?_
               obtain ⟨x499, hx500, hp434⟩ := bind_s hp434
               refine Rk.eN 3 rfl rfl (Oq.call Try.call72 rfl rfl (c72 S402 _ (⟨x397.2.b_, x397.2.at_, x397.2.bad_⟩ : rtcp_reader) _ f406 _ (hs.enter 0 rfl rfl) _ hx500) (fun v501 w502 h503 => ?_))
               obtain ⟨S504, v507, rfl, hs505, f508⟩ := h503
               have le506 := hs505.le
               have hs := hs.call1 0 rfl rfl hs505
               refine ⟨⟨(hs.has.down le506), (fun _ => hs.heap 1 rfl)⟩, Rk.mk (C' := fun l w => Has S504 w ∧ (l.getD 8 false = false → Hp b18 #[.int .i64 x10, .int .u32 (cv .u32 x42.1), .int .u32 0, .slice none 0 0, v383, v387, .int .u64 0, .int .i64 0, .int .i64 0, .slice none 0 0] 33 w)) ⟨hs.has, (fun _ => hs.heap 1 rfl)⟩ (fun l w hc => ⟨hc.1.down le506, hc.2⟩) ?_⟩
               refine Rk.weak [(2, v1), (6, .pointer (some ⟨b7, 0, none⟩)), (8, .pointer (some ⟨b18, 0, none⟩)), (9, .pointer (some ⟨b39, 0, none⟩)), (75, v383), (77, .int .u64 x499.1)] ⟨rfl, rfl, rfl, rfl, rfl, rfl, trivial⟩ ?_
               refine Rk.uN 4 rfl rfl (fun _ _ => by simp only [getD_set_ne false (show (4 : Nat) ≠ 8 by decide)]) (fun l w hl hcl hc => X.conv Try.underlying30 Try.underlying27 rfl) ?_
               refine Rk.eN 5 rfl rfl (Oq.lit (sz := 1) (cs0 := [.int .u32 0]) (cells := [.int .u32 (cv .u32 x499.1)]) hs Try.underlying29 ii27 rfl rfl rfl rfl rfl rfl ⟨_, [.int .u32 (cv .u32 x499.1)], _, rfl, rfl, rfl, rfl⟩ rfl rfl rfl (fun b509 w510 S511 hs le512 hE513 => ?_))
               have f515 : Rd S511 1 (RI .u32) (.slice (some ⟨b509, 0, none⟩) 1 1) ([cv .u32 x499.1] : List Int) := Rd.of_cells (xs := ([cv .u32 x499.1] : List Int)) ⟨[.int .u32 (cv .u32 x499.1)], _, rfl, rfl, one_all ⟨rfl, trivial⟩, rfl, rfl⟩ hE513 (Nat.le_of_ble_eq_true rfl) (Nat.le_of_ble_eq_true rfl)
               refine ⟨⟨(hs.has.down le512), (fun _ => hs.heap 2 rfl)⟩, Rk.mk (C' := fun l w => Has S511 w ∧ (l.getD 8 false = false → Hp b18 #[.int .i64 x10, .int .u32 (cv .u32 x42.1), .int .u32 0, .slice none 0 0, v383, v387, .int .u64 0, .int .i64 0, .int .i64 0, .slice none 0 0] 33 w)) ⟨hs.has, (fun _ => hs.heap 2 rfl)⟩ (fun l w hc => ⟨hc.1.down le512, hc.2⟩) ?_⟩
               obtain ⟨y516, hx517, hp434⟩ := bind_s hp434
               refine Rk.eN 6 rfl rfl (Oq.appendS hs 4 rfl Try.underlying29 ii27 rfl rfl rfl rfl rfl rfl (f384.mono (le404.trans (le506.trans le512))) f515 hx517 rfl rfl rfl (fun v518 w519 S520 g521 hs le522 f523 => ?_))
               refine ⟨⟨(hs.has.down le522), (fun _ => hs.heap 2 rfl)⟩, Rk.mk (C' := fun l w => Has S520 w ∧ (l.getD 8 false = false → Hp b18 #[.int .i64 x10, .int .u32 (cv .u32 x42.1), .int .u32 0, .slice none 0 0, v383, v387, .int .u64 0, .int .i64 0, .int .i64 0, .slice none 0 0] 33 w)) ⟨hs.has, (fun _ => hs.heap 2 rfl)⟩ (fun l w hc => ⟨hc.1.down le522, hc.2⟩) ?_⟩
               refine Rk.uN 7 rfl rfl (fun _ _ => by simp only [getD_set_ne false (show (7 : Nat) ≠ 8 by decide)]) (fun l w hl hcl hc => X.fieldB Try.underlying33 rfl zz29 rfl rfl) ?_
               refine Rk.eN 8 rfl rfl (Oq.store hs 2 rfl 4 zz29 rfl rfl f523.cells f523.one rfl [.app (some b509) (.slice (some ⟨b509, 0, none⟩) 1 1) ([cv .u32 x499.1] : List Int).length 27 1, .box b39 #[v507, .int .i64 x499.2.at_, .bool x499.2.bad_] 101, .box b18 #[.int .i64 x10, .int .u32 (cv .u32 x42.1), .int .u32 0, .slice none 0 0, v518, v387, .int .u64 0, .int .i64 0, .int .i64 0, .slice none 0 0] 33, .box b7 #[.int .i64 0, .int .u32 0, .int .u32 0, .slice none 0 0, .slice none 0 0, .slice none 0 0, .int .u64 0, .int .i64 0, .int .i64 0, .slice none 0 0] 33, .app g521 v518 y516.length 27 1, .app g389 v387 q378.length 3 1] rfl (fun w524 hs => ?_))
               refine ⟨⟨hs.has, (fun h => absurd h (by decide))⟩, ?_⟩
               refine Rk.done ?_
               cases some_s hp434
               exact fun a ha => ⟨[(2, v1), (6, .pointer (some ⟨b7, 0, none⟩)), (8, .pointer (some ⟨b18, 0, none⟩)), (9, .pointer (some ⟨b39, 0, none⟩))], ha.weak ⟨rfl, rfl, rfl, rfl, trivial⟩, S520, v507, v518, g521, rfl, (le506.trans (le512.trans le522)), (hs.pick [1, 2, 3, 5, 4] (by decide) rfl), (f508.mono (le512.trans le522)), f523⟩
            ·have h394 := ite_f hc407 h394
             refine Cd.exit ?_
             obtain rfl := some_s h394
             have e := hl393 (fun _ e => by cases e)
             exact fun a ha => ⟨[(2, v1), (6, .pointer (some ⟨b7, 0, none⟩)), (8, .pointer (some ⟨b18, 0, none⟩)), (9, .pointer (some ⟨b39, 0, none⟩))], ha.weak ⟨rfl, rfl, rfl, rfl, trivial⟩, _, _, _, _, _, S402, v405, v383, g385, v387, g389, rfl, e.symm, (le380.trans le404), hs, f406, (f384.mono le404), (f388.mono le404)⟩
          ·have hp333 := ite_f hc350 hp333
           refine Cd.sr ?_
           refine Rg.vN (X.eql rfl rfl) rfl ?_
           refine Rg.st rfl rfl ?_
           refine Rg.go ?_
           refine Cd.weak [(2, v1), (6, .pointer (some ⟨b7, 0, none⟩)), (8, .pointer (some ⟨b18, 0, none⟩)), (9, .pointer (some ⟨b39, 0, none⟩)), (111, .bool (x10 == 5))] ⟨rfl, rfl, rfl, rfl, rfl, trivial⟩ ?_
           obtain ⟨p541, hp542, hp333⟩ := bind_s hp333
           obtain ⟨j528, j529, j530, j531, j532, j533, j534, j535, j536, j537, j538, j539, j540⟩ := p541
           dsimp only at hp333
           refine Cd.post (fun K w => ∃ (S543 : Mp) (v546 : Value) (v548 : Value) (v550 : Value) (g552 : Option Nat) (v554 : Value) (v556 : Value), K = [(2, v1), (6, .pointer (some ⟨b7, 0, none⟩)), (8, .pointer (some ⟨b18, 0, none⟩)), (9, .pointer (some ⟨b39, 0, none⟩))] ∧ Le S129 S543 ∧ St w0 [] S0 S543 [.box b39 #[v546, .int .i64 j529, .bool j530] 101, .box b18 #[.int .i64 j531, .int .u32 j532, .int .u32 j533, v548, v550, v554, .int .u64 j537, .int .i64 j538, .int .i64 j539, v556] 33, .box b7 #[.int .i64 0, .int .u32 0, .int .u32 0, .slice none 0 0, .slice none 0 0, .slice none 0 0, .int .u64 0, .int .i64 0, .int .i64 0, .slice none 0 0] 33, .app g552 v550 j535.length 27 1] w ∧ Rd S543 1 (RI .u8) v546 j528 ∧ Rd S543 3 R_api_Tuple v548 j534 ∧ Rd S543 1 (RI .u32) v550 j535 ∧ Rd S543 1 (RI .i64) v554 j536 ∧ Rd S543 1 (RI .u8) v556 j540) ?_ ?_
           ·rintro K558 w544 ⟨S543, v546, v548, v550, g552, v554, v556, rfl, le545, hs, f547, f549, f551, f555, f557⟩
            cases some_s hp333
            exact fun a ha => ⟨[(2, v1), (6, .pointer (some ⟨b7, 0, none⟩)), (8, .pointer (some ⟨b18, 0, none⟩)), (9, .pointer (some ⟨b39, 0, none⟩))], ha.weak ⟨rfl, rfl, rfl, rfl, trivial⟩, S543, v546, v548, v550, g552, v554, v556, rfl, le545, hs, f547, f549, f551, f555, f557⟩
           ·skip
            refine Cd.cond (t := x10 == 5) rfl (fun hc559 => ?_) (fun hc559 => ?_)
            ·have hp542 := ite_t hc559 hp542
             refine Cd.region ?_
             refine Rg.mv rfl rfl ?_
             obtain ⟨x560, hx561, hp542⟩ := bind_s hp542
             refine Rg.step rfl (Oq.call Try.call76 rfl rfl (c76 S129 _ (⟨j53, j54, j55⟩ : rtcp_reader) _ (f62.mono le131) _ (⟨x10, cv .u32 x42.1, 0, ([] : List api_Tuple), ([] : List Int), ([] : List Int), 0, 0, 0, ([] : List Int)⟩ : api_Report) _ (Rd.nil _ _ _) _ (Rd.nil _ _ _) _ (Rd.nil _ _ _) _ (Rd.nil _ _ _) _ (hs.enterP [1, 2, 0] (by decide) rfl rfl) _ hx561) (fun v562 w563 h564 => ?_))
             obtain ⟨S565, v568, v570, v572, v574, v576, g578, rfl, hs566, f569, f571, f573, f575, f577⟩ := h564
             have le567 := hs566.le
             have hs := hs.callP [1, 2, 0] rfl rfl hs566
             refine Rg.nil ?_
             cases some_s hp542
             exact fun a ha => ⟨[(2, v1), (6, .pointer (some ⟨b7, 0, none⟩)), (8, .pointer (some ⟨b18, 0, none⟩)), (9, .pointer (some ⟨b39, 0, none⟩))], ha.weak ⟨rfl, rfl, rfl, rfl, trivial⟩, S565, v568, v570, v572, g578, v574, v576, rfl, le567, (hs.pick [1, 2, 3, 0] (by decide) rfl), f569, f571, f573, f575, f577⟩
            ·have hp542 := ite_f hc559 hp542
             refine Cd.skip ?_
             cases some_s hp542
             exact fun a ha => ⟨[(2, v1), (6, .pointer (some ⟨b7, 0, none⟩)), (8, .pointer (some ⟨b18, 0, none⟩)), (9, .pointer (some ⟨b39, 0, none⟩))], ha.weak ⟨rfl, rfl, rfl, rfl, trivial⟩, S129, v61, (.slice none 0 0), (.slice none 0 0), none, (.slice none 0 0), (.slice none 0 0), rfl, Le.refl _, (hs.pick [1, 2, 3, 0] (by decide) rfl), (f62.mono le131), (Rd.nil _ _ _), (Rd.nil _ _ _), (Rd.nil _ _ _), (Rd.nil _ _ _)⟩
    ·skip
     refine Cd.cond (t := x10 == 1) rfl (fun hc580 => ?_) (fun hc580 => ?_)
     ·have hp128 := ite_t hc580 hp128
      refine Cd.skip ?_
      obtain rfl := some_s hp128
      exact fun a ha => ⟨[(2, v1), (6, .pointer (some ⟨b7, 0, none⟩)), (8, .pointer (some ⟨b18, 0, none⟩)), (9, .pointer (some ⟨b39, 0, none⟩)), (38, .int .i64 x10), (39, .bool (x10 == 1))], ha.weak ⟨rfl, rfl, rfl, rfl, rfl, rfl, trivial⟩, S58, rfl, Le.refl _, (hs.pick [1, 2, 3] (by decide) rfl)⟩
     ·have hp128 := ite_f hc580 hp128
      refine Cd.region ?_
      refine Rg.vN (X.eql rfl rfl) rfl ?_
      refine Rg.st rfl rfl ?_
      refine Rg.nil ?_
      obtain rfl := some_s hp128
      exact fun a ha => ⟨[(2, v1), (6, .pointer (some ⟨b7, 0, none⟩)), (8, .pointer (some ⟨b18, 0, none⟩)), (9, .pointer (some ⟨b39, 0, none⟩)), (38, .int .i64 x10), (39, .bool (x10 == 2))], ha.weak ⟨rfl, rfl, rfl, rfl, rfl, rfl, trivial⟩, S58, rfl, Le.refl _, (hs.pick [1, 2, 3] (by decide) rfl)⟩
  ·skip
   refine Cd.cond (t := x10 != 3) rfl (fun hc581 => ?_) (fun hc581 => ?_)
   ·have hp57 := ite_t hc581 hp57
    refine Cd.region ?_
    refine Rg.mv rfl rfl ?_
    obtain ⟨x582, hx583, hp57⟩ := bind_s hp57
    refine Rg.step rfl (Oq.call Try.call73 rfl rfl (c73 S47 _ (⟨x42.2.b_, x42.2.at_, x42.2.bad_⟩ : rtcp_reader) _ f51 _ (hs.enter 0 rfl rfl) _ hx583) (fun v584 w585 h586 => ?_))
    obtain ⟨S587, v590, rfl, hs588, f591⟩ := h586
    have le589 := hs588.le
    have hs := hs.call1 0 rfl rfl hs588
    refine Rg.nil ?_
    cases some_s hp57
    exact fun a ha => ⟨[(2, v1), (6, .pointer (some ⟨b7, 0, none⟩)), (8, .pointer (some ⟨b18, 0, none⟩)), (9, .pointer (some ⟨b39, 0, none⟩))], ha.weak ⟨rfl, rfl, rfl, rfl, trivial⟩, S587, v590, rfl, le589, hs, f591⟩
   ·have hp57 := ite_f hc581 hp57
    refine Cd.skip ?_
    cases some_s hp57
    exact fun a ha => ⟨[(2, v1), (6, .pointer (some ⟨b7, 0, none⟩)), (8, .pointer (some ⟨b18, 0, none⟩)), (9, .pointer (some ⟨b39, 0, none⟩))], ha.weak ⟨rfl, rfl, rfl, rfl, trivial⟩, S47, v50, rfl, Le.refl _, hs, f51⟩
noncomputable def limelightref6_word (b_0 : (List Int)) (i_1 : Int) : Option Int :=
 (limelightref1_Get b_0 (mul .i64 4 i_1) 4).bind fun x3 =>
 some (cv .u32 x3.1)
def Po69 (S0 : Mp) (w0 : World) (D : List Nat) (r : Int) (v : Value) (w1 : World) : Prop :=
  ∃ (S1 : Mp), v = .int .u32 r ∧ St w0 D S0 S1 [] w1
set_option maxHeartbeats 4000000 in
theorem c69 (S0 : Mp) {w0 : World} (hs : St w0 [] S0 S0 [] w0) (b_0 : (List Int)) (v1 : Value) (f2 : Rd S0 1 (RI .u8) v1 b_0) (i_1 : Int) (r : Int) (h0 : limelightref6_word b_0 i_1 = some r) :
    Calls Try.prog 69 #[v1, .int .i64 i_1] w0 (Re (Po69 S0 w0 [] r)) := by
 unfold limelightref6_word at h0
 refine calls_of_cd Try.func69 rfl Try.ntmps69 rfl ?_
 refine Cd.sr ?_
 refine Rg.st rfl rfl ?_
 refine Rg.go ?_
 refine Cd.sr ?_
 refine Rg.mv rfl rfl ?_
 refine Rg.mv rfl rfl ?_
 refine Rg.vN (X.mul rfl rfl) rfl ?_
 obtain ⟨x3, hx4, h0⟩ := bind_s h0
 refine Rg.step rfl (Oq.call Try.call54 rfl rfl (c54 S0 (St.start _ _ hs.has) _ _ f2 _ _ _ hx4) (fun v5 w6 h7 => ?_))
 obtain ⟨S8, rfl, hs9⟩ := h7
 have le10 := hs9.le
 have hs := hs.call0 hs9
 refine Rg.mv rfl rfl ?_
 refine Rg.vN (X.extract rfl rfl) rfl ?_
 refine Rg.vN (X.extract rfl rfl) rfl ?_
 refine Rg.st rfl rfl ?_
 refine Rg.st rfl rfl ?_
 refine Rg.go ?_
 refine Cd.sr ?_
 refine Rg.mv rfl rfl ?_
 refine Rg.vN (X.conv Try.underlying30 Try.underlying27 rfl) rfl ?_
 refine Rg.st rfl rfl ?_
 refine Rg.go ?_
 refine Cd.ret ?_
 obtain rfl := some_s h0
 exact fun a ha => Cd.retA (R := Re (Po69 S0 w0 [] _)) ha Try.results69 ⟨_, _, rfl, rfl, rfl⟩ ⟨_, rfl, S8, rfl, hs⟩
noncomputable def limelightref6_parse_l0 (p_2 : (List Int)) (q63 : Int) (q64 : (List api_Tuple)) : Option (Flow (Int × (List api_Tuple)) api_Report) :=
 if (decide ((add .i64 q63 1) < (quo .i64 (p_2.length : Int) 4))) = true then (
  ((
   (limelightref6_word p_2 (add .i64 q63 1)).bind fun x89 =>
   ((
    (limelightref6_word p_2 q63).bind fun x109 =>
    (limelightref1_Open (cv .i64 (shr .u32 x89 26)) (band .u32 (shr .u32 x89 9) 131071) 17).bind fun x117 =>
    (app 24 q64 ([(⟨x109, x117, cv .i64 (band .u32 x89 511)⟩ : api_Tuple)] : List api_Tuple)).bind fun y132 =>
    some y132 : Option (List api_Tuple))).bind fun p98 =>
   some p98 : Option (List api_Tuple))).bind fun p79 =>
  some (Flow.next (add .i64 q63 2, p79)))
 else (
  some (Flow.brk (q63, q64)))
noncomputable def limelightref6_parse_l1 (p_2 : (List Int)) (q178 : Int) (q179 : (List Int)) (q180 : (List Int)) : Option (Flow (Int × (List Int) × (List Int)) api_Report) :=
 if (decide ((add .i64 q178 1) < (quo .i64 (p_2.length : Int) 4))) = true then (
  ((
   ((
    (limelightref6_word p_2 q178).bind fun x231 =>
    (app 4 q179 ([x231] : List Int)).bind fun y246 =>
    (limelightref6_word p_2 (add .i64 q178 1)).bind fun x254 =>
    (app 8 q180 ([cv .i64 (shr .u32 x254 24)] : List Int)).bind fun y269 =>
    some (y246, y269) : Option ((List Int) × (List Int)))).bind fun p216 =>
   some (p216.1, p216.2) : Option ((List Int) × (List Int)))).bind fun p200 =>
  some (Flow.next (add .i64 q178 2, p200.1, p200.2)))
 else (
  some (Flow.brk (q178, q179, q180)))
noncomputable def limelightref6_parse_l2 (p_2 : (List Int)) (q314 : Int) (q315 : (List Int)) : Option (Flow (Int × (List Int)) api_Report) :=
 if (decide (q314 < (quo .i64 (p_2.length : Int) 4))) = true then (
  ((
   ((
    (limelightref6_word p_2 q314).bind fun x352 =>
    (app 4 q315 ([x352] : List Int)).bind fun y367 =>
    some y367 : Option (List Int))).bind fun p341 =>
   some p341 : Option (List Int))).bind fun p330 =>
  some (Flow.next (add .i64 q314 1, p330)))
 else (
  some (Flow.brk (q314, q315)))
noncomputable def limelightref6_parse (G_0 : Int) (o_1 : Int) (p_2 : (List Int)) : Option api_Report :=
 (limelightref6_word p_2 0).bind fun x10 =>
 (limelightref6_known G_0 o_1).bind fun x22 =>
 if (!x22) = true then (
  (app 1 ([] : List Int) p_2).bind fun y38 =>
  some (⟨6, 0, 0, ([] : List api_Tuple), ([] : List Int), ([] : List Int), 0, G_0, o_1, y38⟩ : api_Report))
 else (
  if (G_0 == 205) = true then (
   (loopF (fun sg => limelightref6_parse_l0 p_2 sg.1 sg.2) (2, ([] : List api_Tuple))).bind fun fl50 =>
   Flow.el fl50 (fun s141 => (
    none))
   (fun s142 => (
    some (⟨sub .i64 o_1 2, x10, 0, s142.2, ([] : List Int), ([] : List Int), 0, 0, 0, ([] : List Int)⟩ : api_Report)))
   (fun r143 => (
    none)))
  else (
   if (o_1 == 1) = true then (
    (limelightref6_word p_2 1).bind fun x145 =>
    some (⟨3, x10, x145, ([] : List api_Tuple), ([] : List Int), ([] : List Int), 0, 0, 0, ([] : List Int)⟩ : api_Report))
   else (
    if (o_1 == 4) = true then (
     (loopF (fun sg => limelightref6_parse_l1 p_2 sg.1 sg.2.1 sg.2.2) (2, ([] : List Int), ([] : List Int))).bind fun fl160 =>
     Flow.el fl160 (fun s279 => (
      none))
     (fun s280 => (
      some (⟨4, x10, 0, ([] : List api_Tuple), s280.2.1, s280.2.2, 0, 0, 0, ([] : List Int)⟩ : api_Report)))
     (fun r281 => (
      none)))
    else (
     (limelightref6_word p_2 3).bind fun x283 =>
     (limelightref1_Open (cv .i64 (band .u32 (shr .u32 x283 18) 63)) (band .u32 x283 262143) 18).bind fun x291 =>
     (loopF (fun sg => limelightref6_parse_l2 p_2 sg.1 sg.2) (4, ([] : List Int))).bind fun fl301 =>
     Flow.el fl301 (fun s376 => (
      none))
     (fun s377 => (
      some (⟨5, x10, 0, ([] : List api_Tuple), s377.2, ([] : List Int), x291, 0, 0, ([] : List Int)⟩ : api_Report)))
     (fun r378 => (
      none))))))
def Po56 (S0 : Mp) (w0 : World) (D : List Nat) (r : api_Report) (v : Value) (w1 : World) : Prop :=
  ∃ (S1 : Mp) (v3 : Value) (v4 : Value) (v5 : Value) (v6 : Value), v = .agg (#[.int .i64 r.Kind, .int .u32 r.From, .int .u32 r.About, v3, v4, v5, .int .u64 r.Rate, .int .i64 r.Type_, .int .i64 r.Count, v6]) ∧ St w0 D S0 S1 [] w1 ∧ Rd S1 3 R_api_Tuple v3 r.Tuples ∧ Rd S1 1 (RI .u32) v4 r.Abouts ∧ Rd S1 1 (RI .i64) v5 r.Numbers ∧ Rd S1 1 (RI .u8) v6 r.Body
set_option maxHeartbeats 4000000 in
theorem c56 (S0 : Mp) {w0 : World} (hs : St w0 [] S0 S0 [] w0) (G_0 : Int) (o_1 : Int) (p_2 : (List Int)) (v1 : Value) (f2 : Rd S0 1 (RI .u8) v1 p_2) (r : api_Report) (h0 : limelightref6_parse G_0 o_1 p_2 = some r) :
    Calls Try.prog 56 #[.int .i64 G_0, .int .i64 o_1, v1] w0 (Re (Po56 S0 w0 [] r)) := by
 unfold limelightref6_parse at h0
 refine calls_of_cd Try.func56 rfl Try.ntmps56 rfl ?_
 refine Cd.sr ?_
 refine Rg.step rfl (Oq.alloc (cs := #[.int .i64 0, .int .u32 0, .int .u32 0, .slice none 0 0, .slice none 0 0, .slice none 0 0, .int .u64 0, .int .i64 0, .int .i64 0, .slice none 0 0]) hs ii33 rfl rfl rfl (fun b7 w8 hs => ?_))
 refine Rg.go ?_
 refine Cd.sr ?_
 refine Rg.mv rfl rfl ?_
 refine Rg.vN (X.lenR Try.underlying31 rfl f2) rfl ?_
 refine Rg.vN (X.quo rfl rfl (by decide)) rfl ?_
 refine Rg.st rfl rfl ?_
 refine Rg.go ?_
 refine Cd.sr ?_
 refine Rg.mv rfl rfl ?_
 obtain ⟨x10, hx11, h0⟩ := bind_s h0
 refine Rg.step rfl (Oq.call Try.call69 rfl rfl (c69 S0 (St.start _ _ hs.has) _ _ f2 _ _ hx11) (fun v12 w13 h14 => ?_))
 obtain ⟨S15, rfl, hs16⟩ := h14
 have le17 := hs16.le
 have hs := hs.call0 hs16
 refine Rg.vN (X.build (zc := [.int .i64 0, .int .u32 0, .int .u32 0, .slice none 0 0, .slice none 0 0, .slice none 0 0, .int .u64 0, .int .i64 0, .int .i64 0, .slice none 0 0]) (cells := [.int .i64 0, .int .u32 x10, .int .u32 0, .slice none 0 0, .slice none 0 0, .slice none 0 0, .int .u64 0, .int .i64 0, .int .i64 0, .slice none 0 0]) ii33 rfl rfl Try.underlying33 (pp33 _ Try.underlying33) ⟨_, [.int .u32 x10], _, rfl, rfl, rfl, rfl⟩ rfl) rfl ?_
 refine Rg.step rfl (Oq.alloc (cs := #[.int .i64 0, .int .u32 0, .int .u32 0, .slice none 0 0, .slice none 0 0, .slice none 0 0, .int .u64 0, .int .i64 0, .int .i64 0, .slice none 0 0]) hs ii33 rfl rfl rfl (fun b18 w19 hs => ?_))
 refine Rg.step rfl (Oq.storeN hs 0 rfl (vals := [.int .i64 0, .int .u32 x10, .int .u32 0, .slice none 0 0, .slice none 0 0, .slice none 0 0, .int .u64 0, .int .i64 0, .int .i64 0, .slice none 0 0]) zz33 rfl rfl (one_all ⟨rfl, rfl, rfl, rfl, rfl, rfl, rfl, rfl, rfl, rfl, trivial⟩) rfl [.box b18 #[.int .i64 0, .int .u32 x10, .int .u32 0, .slice none 0 0, .slice none 0 0, .slice none 0 0, .int .u64 0, .int .i64 0, .int .i64 0, .slice none 0 0] 33, .box b7 #[.int .i64 0, .int .u32 0, .int .u32 0, .slice none 0 0, .slice none 0 0, .slice none 0 0, .int .u64 0, .int .i64 0, .int .i64 0, .slice none 0 0] 33] rfl (fun w21 hs => ?_))
 refine Rg.go ?_
 refine Cd.seq ?_
 refine Cd.block ?_
 refine Cd.sr ?_
 refine Rg.mv rfl rfl ?_
 refine Rg.mv rfl rfl ?_
 obtain ⟨x22, hx23, h0⟩ := bind_s h0
 refine Rg.step rfl (Oq.call Try.call50 rfl rfl (c50 S15 (St.start _ _ hs.has) _ _ _ hx23) (fun v24 w25 h26 => ?_))
 obtain ⟨S27, rfl, hs28⟩ := h26
 have le29 := hs28.le
 have hs := hs.call0 hs28
 refine Rg.vN (X.not rfl) rfl ?_
 refine Rg.st rfl rfl ?_
 refine Rg.go ?_
 refine Cd.cond (t := !x22) rfl (fun hc30 => ?_) (fun hc30 => ?_)
 ·have h0 := ite_t hc30 h0
  refine Cd.sr ?_
  refine Rg.mv rfl rfl ?_
  refine Rg.mv rfl rfl ?_
  refine Rg.step rfl (Oq.lit (sz := 1) (cs0 := []) (cells := []) hs Try.underlying31 ii5 rfl rfl rfl rfl rfl rfl rfl rfl rfl rfl (fun b31 w32 S33 hs le34 hE35 => ?_))
  have f37 : Rd S33 1 (RI .u8) (.slice (some ⟨b31, 0, none⟩) 0 0) ([] : List Int) := Rd.of_cells (xs := ([] : List Int)) rfl hE35 (Nat.le_of_ble_eq_true rfl) (Nat.le_of_ble_eq_true rfl)
  refine Rg.mv rfl rfl ?_
  obtain ⟨y38, hx39, h0⟩ := bind_s h0
  refine Rg.step rfl (Oq.appendS hs 0 rfl Try.underlying31 ii5 rfl rfl rfl rfl rfl rfl f37 (f2.mono (le17.trans (le29.trans le34))) hx39 rfl rfl rfl (fun v40 w41 S42 g43 hs le44 f45 => ?_))
  refine Rg.vN (X.build (zc := [.int .i64 0, .int .u32 0, .int .u32 0, .slice none 0 0, .slice none 0 0, .slice none 0 0, .int .u64 0, .int .i64 0, .int .i64 0, .slice none 0 0]) (cells := [.int .i64 6, .int .u32 0, .int .u32 0, .slice none 0 0, .slice none 0 0, .slice none 0 0, .int .u64 0, .int .i64 G_0, .int .i64 o_1, v40]) ii33 rfl rfl Try.underlying33 (pp33 _ Try.underlying33) ⟨_, [.int .i64 6], _, rfl, rfl, rfl, ⟨_, [.int .i64 G_0], _, rfl, rfl, rfl, ⟨_, [.int .i64 o_1], _, rfl, rfl, rfl, ⟨_, [v40], _, rfl, rfl, f45.cells, rfl⟩⟩⟩⟩ rfl) rfl ?_
  refine Rg.step rfl (Oq.storeN hs 2 rfl (vals := [.int .i64 6, .int .u32 0, .int .u32 0, .slice none 0 0, .slice none 0 0, .slice none 0 0, .int .u64 0, .int .i64 G_0, .int .i64 o_1, v40]) zz33 rfl rfl (one_all ⟨rfl, rfl, rfl, rfl, rfl, rfl, rfl, rfl, rfl, f45.one, trivial⟩) rfl [.app g43 v40 y38.length 5 1, .box b18 #[.int .i64 0, .int .u32 x10, .int .u32 0, .slice none 0 0, .slice none 0 0, .slice none 0 0, .int .u64 0, .int .i64 0, .int .i64 0, .slice none 0 0] 33, .box b7 #[.int .i64 6, .int .u32 0, .int .u32 0, .slice none 0 0, .slice none 0 0, .slice none 0 0, .int .u64 0, .int .i64 G_0, .int .i64 o_1, v40] 33] rfl (fun w46 hs => ?_))
  refine Rg.go ?_
  refine Cd.ret ?_
  obtain rfl := some_s h0
  exact fun a ha => Cd.retA (R := Re (Po56 S0 w0 [] _)) ha Try.results56 ⟨_, _, _, rfl, rfl, run_lvN (vals := [.int .i64 6, .int .u32 0, .int .u32 0, .slice none 0 0, .slice none 0 0, .slice none 0 0, .int .u64 0, .int .i64 G_0, .int .i64 o_1, v40]) Try.underlying33 rfl zz33 (hs.range 2 rfl 0 rfl), rfl⟩ ⟨_, rfl, S42, (.slice none 0 0), (.slice none 0 0), (.slice none 0 0), v40, rfl, (hs.pick [] (by decide) rfl), (Rd.nil _ _ _), (Rd.nil _ _ _), (Rd.nil _ _ _), f45⟩
 ·have h0 := ite_f hc30 h0
  refine Cd.sr ?_
  refine Rg.mv rfl rfl ?_
  refine Rg.vN (X.eql rfl rfl) rfl ?_
  refine Rg.st rfl rfl ?_
  refine Rg.go ?_
  refine Cd.cond (t := G_0 == 205) rfl (fun hc47 => ?_) (fun hc47 => ?_)
  ·have h0 := ite_t hc47 h0
   refine Cd.sr ?_
   refine Rg.mv rfl rfl ?_
   refine Rg.vN (X.sub rfl rfl) rfl ?_
   refine Rg.weak [(2, v1), (6, .pointer (some ⟨b7, 0, none⟩)), (7, .int .i64 (quo .i64 (p_2.length : Int) 4)), (8, .pointer (some ⟨b18, 0, none⟩)), (59, .int .i64 (sub .i64 o_1 2))] ⟨rfl, rfl, rfl, rfl, rfl, trivial⟩ ?_
   refine Rg.vN (X.fieldB Try.underlying33 rfl zz3 rfl rfl) rfl ?_
   refine Rg.step rfl (Oq.store hs 0 rfl 0 zz3 rfl rfl rfl rfl rfl [.box b18 #[.int .i64 (sub .i64 o_1 2), .int .u32 x10, .int .u32 0, .slice none 0 0, .slice none 0 0, .slice none 0 0, .int .u64 0, .int .i64 0, .int .i64 0, .slice none 0 0] 33, .box b7 #[.int .i64 0, .int .u32 0, .int .u32 0, .slice none 0 0, .slice none 0 0, .slice none 0 0, .int .u64 0, .int .i64 0, .int .i64 0, .slice none 0 0] 33] rfl (fun w48 hs => ?_))
   refine Rg.go ?_
   refine Cd.sr ?_
   refine Rg.st rfl rfl ?_
   refine Rg.go ?_
   have hs := hs.nil 57 3
   obtain ⟨fl50, hfl51, h0⟩ := bind_s h0
   refine Cd.post (fun K w => ∃ (j52 : Int) (j53 : (List api_Tuple)) (S54 : Mp) (v56 : Value) (g58 : Option Nat), K = [(6, .pointer (some ⟨b7, 0, none⟩)), (8, .pointer (some ⟨b18, 0, none⟩))] ∧ fl50 = Flow.brk (j52, j53) ∧ Le S27 S54 ∧ St w0 [] S0 S54 [.box b18 #[.int .i64 (sub .i64 o_1 2), .int .u32 x10, .int .u32 0, v56, .slice none 0 0, .slice none 0 0, .int .u64 0, .int .i64 0, .int .i64 0, .slice none 0 0] 33, .box b7 #[.int .i64 0, .int .u32 0, .int .u32 0, .slice none 0 0, .slice none 0 0, .slice none 0 0, .int .u64 0, .int .i64 0, .int .i64 0, .slice none 0 0] 33, .app g58 v56 j53.length 57 3] w ∧ Rd S54 3 R_api_Tuple v56 j53) ?_ ?_
   ·rintro K61 w60 ⟨j52, j53, S54, v56, g58, rfl, rfl, le55, hs, f57⟩
    have h0 := el_brk h0
    try dsimp only at h0
    refine Cd.go ?_
    refine Cd.sr ?_
    refine Rg.vN (X.loadN (vals := [.int .i64 (sub .i64 o_1 2), .int .u32 x10, .int .u32 0, v56, .slice none 0 0, .slice none 0 0, .int .u64 0, .int .i64 0, .int .i64 0, .slice none 0 0]) Try.underlying33 rfl zz33 rfl (hs.range 0 rfl 0 rfl)) rfl ?_
    refine Rg.step rfl (Oq.storeN hs 1 rfl (vals := [.int .i64 (sub .i64 o_1 2), .int .u32 x10, .int .u32 0, v56, .slice none 0 0, .slice none 0 0, .int .u64 0, .int .i64 0, .int .i64 0, .slice none 0 0]) zz33 rfl rfl (one_all ⟨rfl, rfl, rfl, f57.one, rfl, rfl, rfl, rfl, rfl, rfl, trivial⟩) rfl [.box b18 #[.int .i64 (sub .i64 o_1 2), .int .u32 x10, .int .u32 0, v56, .slice none 0 0, .slice none 0 0, .int .u64 0, .int .i64 0, .int .i64 0, .slice none 0 0] 33, .box b7 #[.int .i64 (sub .i64 o_1 2), .int .u32 x10, .int .u32 0, v56, .slice none 0 0, .slice none 0 0, .int .u64 0, .int .i64 0, .int .i64 0, .slice none 0 0] 33, .app g58 v56 j53.length 57 3] rfl (fun w62 hs => ?_))
    refine Rg.go ?_
    refine Cd.ret ?_
    obtain rfl := some_s h0
    exact fun a ha => Cd.retA (R := Re (Po56 S0 w0 [] _)) ha Try.results56 ⟨_, _, _, rfl, rfl, run_lvN (vals := [.int .i64 (sub .i64 o_1 2), .int .u32 x10, .int .u32 0, v56, .slice none 0 0, .slice none 0 0, .int .u64 0, .int .i64 0, .int .i64 0, .slice none 0 0]) Try.underlying33 rfl zz33 (hs.range 1 rfl 0 rfl), rfl⟩ ⟨_, rfl, S54, v56, (.slice none 0 0), (.slice none 0 0), (.slice none 0 0), rfl, (hs.pick [] (by decide) rfl), f57, (Rd.nil _ _ _), (Rd.nil _ _ _), (Rd.nil _ _ _)⟩
   ·skip
    refine Cd.weak [(2, v1), (6, .pointer (some ⟨b7, 0, none⟩)), (7, .int .i64 (quo .i64 (p_2.length : Int) 4)), (8, .pointer (some ⟨b18, 0, none⟩)), (9, .int .i64 2)] ⟨rfl, rfl, rfl, rfl, rfl, trivial⟩ ?_
    refine Cd.block (Cd.loop (fun sg => limelightref6_parse_l0 p_2 sg.1 sg.2) (fun (sg : (Int × (List api_Tuple))) K w => ∃ (S65 : Mp) (v67 : Value) (g69 : Option Nat), K = [(2, v1), (6, .pointer (some ⟨b7, 0, none⟩)), (7, .int .i64 (quo .i64 (p_2.length : Int) 4)), (8, .pointer (some ⟨b18, 0, none⟩)), (9, .int .i64 sg.1)] ∧ Le S27 S65 ∧ St w0 [] S0 S65 [.box b18 #[.int .i64 (sub .i64 o_1 2), .int .u32 x10, .int .u32 0, v67, .slice none 0 0, .slice none 0 0, .int .u64 0, .int .i64 0, .int .i64 0, .slice none 0 0] 33, .box b7 #[.int .i64 0, .int .u32 0, .int .u32 0, .slice none 0 0, .slice none 0 0, .slice none 0 0, .int .u64 0, .int .i64 0, .int .i64 0, .slice none 0 0] 33, .app g69 v67 sg.2.length 57 3] w ∧ Rd S65 3 R_api_Tuple v67 sg.2) (2, ([] : List api_Tuple)) fl50 hfl51 ⟨S27, (.slice none 0 0), none, rfl, Le.refl _, (hs.pick [1, 2, 0] (by decide) rfl), (Rd.nil _ _ _)⟩ ?_)
    rintro ⟨q63, q64⟩ fl71 K76 w75 hb72 ⟨S65, v67, g69, rfl, le66, hs, f68⟩ hl73
    have h74 : limelightref6_parse_l0 p_2 q63 q64 = some fl71 := hb72
    unfold limelightref6_parse_l0 at h74
    refine Cd.seq ?_
    refine Cd.sr ?_
    refine Rg.mv rfl rfl ?_
    refine Rg.vN (X.add rfl rfl) rfl ?_
    refine Rg.mv rfl rfl ?_
    refine Rg.vN (X.lss rfl rfl) rfl ?_
    refine Rg.go ?_
    refine Cd.cond (t := decide ((add .i64 q63 1) < (quo .i64 (p_2.length : Int) 4))) rfl (fun hc77 => ?_) (fun hc77 => ?_)
    ·have h74 := ite_t hc77 h74
     refine Cd.sg ?_
     refine Cd.seq ?_
     obtain ⟨p79, hp80, h74⟩ := bind_s h74
     refine Cd.post (fun K w => ∃ (S81 : Mp) (v84 : Value) (g86 : Option Nat), K = [(2, v1), (6, .pointer (some ⟨b7, 0, none⟩)), (7, .int .i64 (quo .i64 (p_2.length : Int) 4)), (8, .pointer (some ⟨b18, 0, none⟩)), (9, .int .i64 q63)] ∧ Le S65 S81 ∧ St w0 [] S0 S81 [.box b18 #[.int .i64 (sub .i64 o_1 2), .int .u32 x10, .int .u32 0, v84, .slice none 0 0, .slice none 0 0, .int .u64 0, .int .i64 0, .int .i64 0, .slice none 0 0] 33, .box b7 #[.int .i64 0, .int .u32 0, .int .u32 0, .slice none 0 0, .slice none 0 0, .slice none 0 0, .int .u64 0, .int .i64 0, .int .i64 0, .slice none 0 0] 33, .app g86 v84 p79.length 57 3] w ∧ Rd S81 3 R_api_Tuple v84 p79) ?_ ?_
     ·rintro K88 w82 ⟨S81, v84, g86, rfl, le83, hs, f85⟩
      refine Cd.go ?_
      refine Cd.region ?_
      refine Rg.mv rfl rfl ?_
      refine Rg.vN (X.add rfl rfl) rfl ?_
      refine Rg.st rfl rfl ?_
      refine Rg.nil ?_
      exact fun a ha => ⟨(add .i64 q63 2, p79), [(2, v1), (6, .pointer (some ⟨b7, 0, none⟩)), (7, .int .i64 (quo .i64 (p_2.length : Int) 4)), (8, .pointer (some ⟨b18, 0, none⟩)), (9, .int .i64 (add .i64 q63 2))], (some_s h74).symm, ha.weak ⟨rfl, rfl, rfl, rfl, rfl, trivial⟩, S81, v84, g86, rfl, (le66.trans le83), hs, f85⟩
     ·skip
      refine Cd.block ?_
      refine Cd.sr ?_
      refine Rg.mv rfl rfl ?_
      refine Rg.mv rfl rfl ?_
      refine Rg.vN (X.add rfl rfl) rfl ?_
      obtain ⟨x89, hx90, hp80⟩ := bind_s hp80
      refine Rg.step rfl (Oq.call Try.call69 rfl rfl (c69 S65 (St.start _ _ hs.has) _ _ (f2.mono (le17.trans (le29.trans le66))) _ _ hx90) (fun v91 w92 h93 => ?_))
      obtain ⟨S94, rfl, hs95⟩ := h93
      have le96 := hs95.le
      have hs := hs.call0 hs95
      refine Rg.st rfl rfl ?_
      refine Rg.go ?_
      refine Cd.weak [(2, v1), (6, .pointer (some ⟨b7, 0, none⟩)), (7, .int .i64 (quo .i64 (p_2.length : Int) 4)), (8, .pointer (some ⟨b18, 0, none⟩)), (9, .int .i64 q63), (10, .int .u32 x89)] ⟨rfl, rfl, rfl, rfl, rfl, rfl, trivial⟩ ?_
      obtain ⟨p98, hp99, hp80⟩ := bind_s hp80
      refine Cd.post (fun K w => ∃ (S100 : Mp) (v103 : Value) (g105 : Option Nat), K = [(2, v1), (6, .pointer (some ⟨b7, 0, none⟩)), (7, .int .i64 (quo .i64 (p_2.length : Int) 4)), (8, .pointer (some ⟨b18, 0, none⟩)), (9, .int .i64 q63)] ∧ Le S94 S100 ∧ St w0 [] S0 S100 [.box b18 #[.int .i64 (sub .i64 o_1 2), .int .u32 x10, .int .u32 0, v103, .slice none 0 0, .slice none 0 0, .int .u64 0, .int .i64 0, .int .i64 0, .slice none 0 0] 33, .box b7 #[.int .i64 0, .int .u32 0, .int .u32 0, .slice none 0 0, .slice none 0 0, .slice none 0 0, .int .u64 0, .int .i64 0, .int .i64 0, .slice none 0 0] 33, .app g105 v103 p98.length 57 3] w ∧ Rd S100 3 R_api_Tuple v103 p98) ?_ ?_
      ·rintro K107 w101 ⟨S100, v103, g105, rfl, le102, hs, f104⟩
       obtain rfl := some_s hp80
       exact fun a ha => ⟨[(2, v1), (6, .pointer (some ⟨b7, 0, none⟩)), (7, .int .i64 (quo .i64 (p_2.length : Int) 4)), (8, .pointer (some ⟨b18, 0, none⟩)), (9, .int .i64 q63)], ha.weak ⟨rfl, rfl, rfl, rfl, rfl, trivial⟩, S100, v103, g105, rfl, (le96.trans le102), hs, f104⟩
      ·skip
       refine Cd.rD mixed (fun l w => Has S94 w ∧ (l.getD 19 false = false → Hp b18 #[.int .i64 (sub .i64 o_1 2), .int .u32 x10, .int .u32 0, v67, .slice none 0 0, .slice none 0 0, .int .u64 0, .int .i64 0, .int .i64 0, .slice none 0 0] 33 w)) hs (fun _ _ _ _ _ h => h) (by kernel_rfl) (fun w108 hs => ⟨⟨hs.has, (fun _ => hs.heap 0 rfl)⟩, ?_⟩)
       refine Rk.uN 0 rfl rfl (fun _ _ => by simp only [getD_set_ne false (show (0 : Nat) ≠ 19 by decide)]) (fun l w hl hcl hc => X.fieldB Try.underlying33 rfl zz28 rfl rfl) ?_
       refine Rk.uN 1 rfl rfl (fun _ _ => by simp only [getD_set_ne false (show (1 : Nat) ≠ 19 by decide)]) (fun l w hl hcl hc => X.load1 Try.underlying28 rfl rfl (heap_cell (hc.2 (hcl.lt rfl (by kernel_rfl) hl)) rfl)) ?_
       refine Rk.uN 2 rfl rfl (fun _ _ => by simp only [getD_set_ne false (show (2 : Nat) ≠ 19 by decide)]) (fun l w hl hcl hc => X.move rfl) ?_
       refine Rk.uN 3 rfl rfl (fun _ _ => by simp only [getD_set_ne false (show (3 : Nat) ≠ 19 by decide)]) (fun l w hl hcl hc => X.move rfl) ?_
       refine Rk.uN 5 rfl rfl (fun _ _ => by simp only [getD_set_ne false (show (5 : Nat) ≠ 19 by decide)]) (fun l w hl hcl hc => X.move rfl) ?_
       refine Rk.uN 6 rfl rfl (fun _ _ => by simp only [getD_set_ne false (show (6 : Nat) ≠ 19 by decide)]) (fun l w hl hcl hc => X.shr rfl rfl (by decide)) ?_
       refine Rk.uN 7 rfl rfl (fun _ _ => by simp only [getD_set_ne false (show (7 : Nat) ≠ 19 by decide)]) (fun l w hl hcl hc => X.conv Try.underlying27 Try.underlying3 rfl) ?_
       refine Rk.uN 8 rfl rfl (fun _ _ => by simp only [getD_set_ne false (show (8 : Nat) ≠ 19 by decide)]) (fun l w hl hcl hc => X.move rfl) ?_
       refine Rk.uN 9 rfl rfl (fun _ _ => by simp only [getD_set_ne false (show (9 : Nat) ≠ 19 by decide)]) (fun l w hl hcl hc => X.shr rfl rfl (by decide)) ?_
       refine Rk.uN 10 rfl rfl (fun _ _ => by simp only [getD_set_ne false (show (10 : Nat) ≠ 19 by decide)]) (fun l w hl hcl hc => X.and rfl rfl) ?_
       refine Rk.uN 12 rfl rfl (fun _ _ => by simp only [getD_set_ne false (show (12 : Nat) ≠ 19 by decide)]) (fun l w hl hcl hc => X.move rfl) ?_
       refine Rk.uN 13 rfl rfl (fun _ _ => by simp only [getD_set_ne false (show (13 : Nat) ≠ 19 by decide)]) (fun l w hl hcl hc => X.and rfl rfl) ?_
       refine Rk.uN 14 rfl rfl (fun _ _ => by simp only [getD_set_ne false (show (14 : Nat) ≠ 19 by decide)]) (fun l w hl hcl hc => X.conv Try.underlying27 Try.underlying3 rfl) ?_
       obtain ⟨x109, hx110, hp99⟩ := bind_s hp99
       refine Rk.eN 4 rfl rfl (Oq.call Try.call69 rfl rfl (c69 S94 (St.start _ _ hs.has) _ _ (f2.mono (le17.trans (le29.trans (le66.trans le96)))) _ _ hx110) (fun v111 w112 h113 => ?_))
       obtain ⟨S114, rfl, hs115⟩ := h113
       have le116 := hs115.le
       have hs := hs.call0 hs115
       refine ⟨⟨(hs.has.down le116), (fun _ => hs.heap 0 rfl)⟩, Rk.mk (C' := fun l w => Has S114 w ∧ (l.getD 19 false = false → Hp b18 #[.int .i64 (sub .i64 o_1 2), .int .u32 x10, .int .u32 0, v67, .slice none 0 0, .slice none 0 0, .int .u64 0, .int .i64 0, .int .i64 0, .slice none 0 0] 33 w)) ⟨hs.has, (fun _ => hs.heap 0 rfl)⟩ (fun l w hc => ⟨hc.1.down le116, hc.2⟩) ?_⟩
       obtain ⟨x117, hx118, hp99⟩ := bind_s hp99
       refine Rk.eN 11 rfl rfl (Oq.call Try.call22 rfl rfl (c22 S114 (St.start _ _ hs.has) _ _ _ _ hx118) (fun v119 w120 h121 => ?_))
       obtain ⟨S122, rfl, hs123⟩ := h121
       have le124 := hs123.le
       have hs := hs.call0 hs123
       refine ⟨⟨(hs.has.down le124), (fun _ => hs.heap 0 rfl)⟩, Rk.mk (C' := fun l w => Has S122 w ∧ (l.getD 19 false = false → Hp b18 #[.int .i64 (sub .i64 o_1 2), .int .u32 x10, .int .u32 0, v67, .slice none 0 0, .slice none 0 0, .int .u64 0, .int .i64 0, .int .i64 0, .slice none 0 0] 33 w)) ⟨hs.has, (fun _ => hs.heap 0 rfl)⟩ (fun l w hc => ⟨hc.1.down le124, hc.2⟩) ?_⟩
       refine Rk.uN 15 rfl rfl (fun _ _ => by simp only [getD_set_ne false (show (15 : Nat) ≠ 19 by decide)]) (fun l w hl hcl hc => X.build (zc := [.int .u32 0, .int .u64 0, .int .i64 0]) (cells := [.int .u32 x109, .int .u64 x117, .int .i64 (cv .i64 (band .u32 x89 511))]) ii57 rfl rfl Try.underlying57 (pp57 _ Try.underlying57) ⟨_, [.int .u32 x109], _, rfl, rfl, rfl, ⟨_, [.int .u64 x117], _, rfl, rfl, rfl, ⟨_, [.int .i64 (cv .i64 (band .u32 x89 511))], _, rfl, rfl, rfl, rfl⟩⟩⟩ rfl) ?_
       refine Rk.weak [(2, v1), (6, .pointer (some ⟨b7, 0, none⟩)), (7, .int .i64 (quo .i64 (p_2.length : Int) 4)), (8, .pointer (some ⟨b18, 0, none⟩)), (9, .int .i64 q63), (72, v67), (86, .agg (#[.int .u32 x109, .int .u64 x117, .int .i64 (cv .i64 (band .u32 x89 511))]))] ⟨rfl, rfl, rfl, rfl, rfl, rfl, rfl, trivial⟩ ?_
       refine Rk.eN 16 rfl rfl (Oq.lit (sz := 3) (cs0 := [.int .u32 0, .int .u64 0, .int .i64 0]) (cells := [.int .u32 x109, .int .u64 x117, .int .i64 (cv .i64 (band .u32 x89 511))]) hs Try.underlying28 ii57 rfl rfl rfl rfl rfl rfl ⟨_, [.int .u32 x109, .int .u64 x117, .int .i64 (cv .i64 (band .u32 x89 511))], _, rfl, rfl, rfl, rfl⟩ rfl rfl rfl (fun b125 w126 S127 hs le128 hE129 => ?_))
       have f131 : Rd S127 3 R_api_Tuple (.slice (some ⟨b125, 0, none⟩) 1 1) ([(⟨x109, x117, cv .i64 (band .u32 x89 511)⟩ : api_Tuple)] : List api_Tuple) := Rd.of_cells (xs := ([(⟨x109, x117, cv .i64 (band .u32 x89 511)⟩ : api_Tuple)] : List api_Tuple)) ⟨[.int .u32 x109, .int .u64 x117, .int .i64 (cv .i64 (band .u32 x89 511))], _, rfl, rfl, one_all ⟨rfl, rfl, rfl, trivial⟩, rfl, rfl⟩ hE129 (Nat.le_of_ble_eq_true rfl) (Nat.le_of_ble_eq_true rfl)
       refine ⟨⟨(hs.has.down le128), (fun _ => hs.heap 1 rfl)⟩, Rk.mk (C' := fun l w => Has S127 w ∧ (l.getD 19 false = false → Hp b18 #[.int .i64 (sub .i64 o_1 2), .int .u32 x10, .int .u32 0, v67, .slice none 0 0, .slice none 0 0, .int .u64 0, .int .i64 0, .int .i64 0, .slice none 0 0] 33 w)) ⟨hs.has, (fun _ => hs.heap 1 rfl)⟩ (fun l w hc => ⟨hc.1.down le128, hc.2⟩) ?_⟩
       obtain ⟨y132, hx133, hp99⟩ := bind_s hp99
       refine Rk.eN 17 rfl rfl (Oq.appendS hs 3 rfl Try.underlying28 ii57 rfl rfl rfl rfl rfl rfl (f68.mono (le96.trans (le116.trans (le124.trans le128)))) f131 hx133 rfl rfl rfl (fun v134 w135 S136 g137 hs le138 f139 => ?_))
       refine ⟨⟨(hs.has.down le138), (fun _ => hs.heap 1 rfl)⟩, Rk.mk (C' := fun l w => Has S136 w ∧ (l.getD 19 false = false → Hp b18 #[.int .i64 (sub .i64 o_1 2), .int .u32 x10, .int .u32 0, v67, .slice none 0 0, .slice none 0 0, .int .u64 0, .int .i64 0, .int .i64 0, .slice none 0 0] 33 w)) ⟨hs.has, (fun _ => hs.heap 1 rfl)⟩ (fun l w hc => ⟨hc.1.down le138, hc.2⟩) ?_⟩
       refine Rk.uN 18 rfl rfl (fun _ _ => by simp only [getD_set_ne false (show (18 : Nat) ≠ 19 by decide)]) (fun l w hl hcl hc => X.fieldB Try.underlying33 rfl zz28 rfl rfl) ?_
       refine Rk.eN 19 rfl rfl (Oq.store hs 1 rfl 3 zz28 rfl rfl f139.cells f139.one rfl [.app (some b125) (.slice (some ⟨b125, 0, none⟩) 1 1) ([(⟨x109, x117, cv .i64 (band .u32 x89 511)⟩ : api_Tuple)] : List api_Tuple).length 57 3, .box b18 #[.int .i64 (sub .i64 o_1 2), .int .u32 x10, .int .u32 0, v134, .slice none 0 0, .slice none 0 0, .int .u64 0, .int .i64 0, .int .i64 0, .slice none 0 0] 33, .box b7 #[.int .i64 0, .int .u32 0, .int .u32 0, .slice none 0 0, .slice none 0 0, .slice none 0 0, .int .u64 0, .int .i64 0, .int .i64 0, .slice none 0 0] 33, .app g137 v134 y132.length 57 3] rfl (fun w140 hs => ?_))
       refine ⟨⟨hs.has, (fun h => absurd h (by decide))⟩, ?_⟩
       refine Rk.done ?_
       obtain rfl := some_s hp99
       exact fun a ha => ⟨[(2, v1), (6, .pointer (some ⟨b7, 0, none⟩)), (7, .int .i64 (quo .i64 (p_2.length : Int) 4)), (8, .pointer (some ⟨b18, 0, none⟩)), (9, .int .i64 q63)], ha.weak ⟨rfl, rfl, rfl, rfl, rfl, trivial⟩, S136, v134, g137, rfl, (le116.trans (le124.trans (le128.trans le138))), (hs.pick [1, 2, 3] (by decide) rfl), f139⟩
    ·have h74 := ite_f hc77 h74
     refine Cd.exit ?_
     obtain rfl := some_s h74
     have e := hl73 (fun _ e => by cases e)
     exact fun a ha => ⟨[(6, .pointer (some ⟨b7, 0, none⟩)), (8, .pointer (some ⟨b18, 0, none⟩))], ha.weak ⟨rfl, rfl, trivial⟩, _, _, S65, v67, g69, rfl, e.symm, le66, hs, f68⟩
  ·have h0 := ite_f hc47 h0
   refine Cd.sr ?_
   refine Rg.mv rfl rfl ?_
   refine Rg.vN (X.eql rfl rfl) rfl ?_
   refine Rg.st rfl rfl ?_
   refine Rg.go ?_
   refine Cd.weak [(1, .int .i64 o_1), (2, v1), (6, .pointer (some ⟨b7, 0, none⟩)), (7, .int .i64 (quo .i64 (p_2.length : Int) 4)), (8, .pointer (some ⟨b18, 0, none⟩)), (90, .bool (o_1 == 1))] ⟨rfl, rfl, rfl, rfl, rfl, rfl, trivial⟩ ?_
   refine Cd.cond (t := o_1 == 1) rfl (fun hc144 => ?_) (fun hc144 => ?_)
   ·have h0 := ite_t hc144 h0
    refine Cd.region ?_
    refine Rg.mv rfl rfl ?_
    obtain ⟨x145, hx146, h0⟩ := bind_s h0
    refine Rg.step rfl (Oq.call Try.call69 rfl rfl (c69 S27 (St.start _ _ hs.has) _ _ (f2.mono (le17.trans le29)) _ _ hx146) (fun v147 w148 h149 => ?_))
    obtain ⟨S150, rfl, hs151⟩ := h149
    have le152 := hs151.le
    have hs := hs.call0 hs151
    refine Rg.vN (X.fieldB Try.underlying33 rfl zz3 rfl rfl) rfl ?_
    refine Rg.step rfl (Oq.store hs 0 rfl 0 zz3 rfl rfl rfl rfl rfl [.box b18 #[.int .i64 3, .int .u32 x10, .int .u32 0, .slice none 0 0, .slice none 0 0, .slice none 0 0, .int .u64 0, .int .i64 0, .int .i64 0, .slice none 0 0] 33, .box b7 #[.int .i64 0, .int .u32 0, .int .u32 0, .slice none 0 0, .slice none 0 0, .slice none 0 0, .int .u64 0, .int .i64 0, .int .i64 0, .slice none 0 0] 33] rfl (fun w153 hs => ?_))
    refine Rg.vN (X.fieldB Try.underlying33 rfl zz27 rfl rfl) rfl ?_
    refine Rg.step rfl (Oq.store hs 0 rfl 2 zz27 rfl rfl rfl rfl rfl [.box b18 #[.int .i64 3, .int .u32 x10, .int .u32 x145, .slice none 0 0, .slice none 0 0, .slice none 0 0, .int .u64 0, .int .i64 0, .int .i64 0, .slice none 0 0] 33, .box b7 #[.int .i64 0, .int .u32 0, .int .u32 0, .slice none 0 0, .slice none 0 0, .slice none 0 0, .int .u64 0, .int .i64 0, .int .i64 0, .slice none 0 0] 33] rfl (fun w154 hs => ?_))
    refine Rg.nil ?_
    refine Cd.go ?_
    refine Cd.sr ?_
    refine Rg.vN (X.loadN (vals := [.int .i64 3, .int .u32 x10, .int .u32 x145, .slice none 0 0, .slice none 0 0, .slice none 0 0, .int .u64 0, .int .i64 0, .int .i64 0, .slice none 0 0]) Try.underlying33 rfl zz33 rfl (hs.range 0 rfl 0 rfl)) rfl ?_
    refine Rg.step rfl (Oq.storeN hs 1 rfl (vals := [.int .i64 3, .int .u32 x10, .int .u32 x145, .slice none 0 0, .slice none 0 0, .slice none 0 0, .int .u64 0, .int .i64 0, .int .i64 0, .slice none 0 0]) zz33 rfl rfl (one_all ⟨rfl, rfl, rfl, rfl, rfl, rfl, rfl, rfl, rfl, rfl, trivial⟩) rfl [.box b18 #[.int .i64 3, .int .u32 x10, .int .u32 x145, .slice none 0 0, .slice none 0 0, .slice none 0 0, .int .u64 0, .int .i64 0, .int .i64 0, .slice none 0 0] 33, .box b7 #[.int .i64 3, .int .u32 x10, .int .u32 x145, .slice none 0 0, .slice none 0 0, .slice none 0 0, .int .u64 0, .int .i64 0, .int .i64 0, .slice none 0 0] 33] rfl (fun w155 hs => ?_))
    refine Rg.go ?_
    refine Cd.ret ?_
    obtain rfl := some_s h0
    exact fun a ha => Cd.retA (R := Re (Po56 S0 w0 [] _)) ha Try.results56 ⟨_, _, _, rfl, rfl, run_lvN (vals := [.int .i64 3, .int .u32 x10, .int .u32 x145, .slice none 0 0, .slice none 0 0, .slice none 0 0, .int .u64 0, .int .i64 0, .int .i64 0, .slice none 0 0]) Try.underlying33 rfl zz33 (hs.range 1 rfl 0 rfl), rfl⟩ ⟨_, rfl, S150, (.slice none 0 0), (.slice none 0 0), (.slice none 0 0), (.slice none 0 0), rfl, (hs.pick [] (by decide) rfl), (Rd.nil _ _ _), (Rd.nil _ _ _), (Rd.nil _ _ _), (Rd.nil _ _ _)⟩
   ·have h0 := ite_f hc144 h0
    refine Cd.sr ?_
    refine Rg.mv rfl rfl ?_
    refine Rg.vN (X.eql rfl rfl) rfl ?_
    refine Rg.st rfl rfl ?_
    refine Rg.go ?_
    refine Cd.cond (t := o_1 == 4) rfl (fun hc156 => ?_) (fun hc156 => ?_)
    ·have h0 := ite_t hc156 h0
     refine Cd.sr ?_
     refine Rg.vN (X.fieldB Try.underlying33 rfl zz3 rfl rfl) rfl ?_
     refine Rg.step rfl (Oq.store hs 0 rfl 0 zz3 rfl rfl rfl rfl rfl [.box b18 #[.int .i64 4, .int .u32 x10, .int .u32 0, .slice none 0 0, .slice none 0 0, .slice none 0 0, .int .u64 0, .int .i64 0, .int .i64 0, .slice none 0 0] 33, .box b7 #[.int .i64 0, .int .u32 0, .int .u32 0, .slice none 0 0, .slice none 0 0, .slice none 0 0, .int .u64 0, .int .i64 0, .int .i64 0, .slice none 0 0] 33] rfl (fun w157 hs => ?_))
     refine Rg.go ?_
     refine Cd.sr ?_
     refine Rg.st rfl rfl ?_
     refine Rg.go ?_
     have hs := hs.nil 27 1
     have hs := hs.nil 3 1
     obtain ⟨fl160, hfl161, h0⟩ := bind_s h0
     refine Cd.post (fun K w => ∃ (j162 : Int) (j163 : (List Int)) (j164 : (List Int)) (S165 : Mp) (v167 : Value) (g169 : Option Nat) (v171 : Value) (g173 : Option Nat), K = [(6, .pointer (some ⟨b7, 0, none⟩)), (8, .pointer (some ⟨b18, 0, none⟩))] ∧ fl160 = Flow.brk (j162, j163, j164) ∧ Le S27 S165 ∧ St w0 [] S0 S165 [.box b18 #[.int .i64 4, .int .u32 x10, .int .u32 0, .slice none 0 0, v167, v171, .int .u64 0, .int .i64 0, .int .i64 0, .slice none 0 0] 33, .box b7 #[.int .i64 0, .int .u32 0, .int .u32 0, .slice none 0 0, .slice none 0 0, .slice none 0 0, .int .u64 0, .int .i64 0, .int .i64 0, .slice none 0 0] 33, .app g169 v167 j163.length 27 1, .app g173 v171 j164.length 3 1] w ∧ Rd S165 1 (RI .u32) v167 j163 ∧ Rd S165 1 (RI .i64) v171 j164) ?_ ?_
     ·rintro K176 w175 ⟨j162, j163, j164, S165, v167, g169, v171, g173, rfl, rfl, le166, hs, f168, f172⟩
      have h0 := el_brk h0
      try dsimp only at h0
      refine Cd.go ?_
      refine Cd.sr ?_
      refine Rg.vN (X.loadN (vals := [.int .i64 4, .int .u32 x10, .int .u32 0, .slice none 0 0, v167, v171, .int .u64 0, .int .i64 0, .int .i64 0, .slice none 0 0]) Try.underlying33 rfl zz33 rfl (hs.range 0 rfl 0 rfl)) rfl ?_
      refine Rg.step rfl (Oq.storeN hs 1 rfl (vals := [.int .i64 4, .int .u32 x10, .int .u32 0, .slice none 0 0, v167, v171, .int .u64 0, .int .i64 0, .int .i64 0, .slice none 0 0]) zz33 rfl rfl (one_all ⟨rfl, rfl, rfl, rfl, f168.one, f172.one, rfl, rfl, rfl, rfl, trivial⟩) rfl [.box b18 #[.int .i64 4, .int .u32 x10, .int .u32 0, .slice none 0 0, v167, v171, .int .u64 0, .int .i64 0, .int .i64 0, .slice none 0 0] 33, .box b7 #[.int .i64 4, .int .u32 x10, .int .u32 0, .slice none 0 0, v167, v171, .int .u64 0, .int .i64 0, .int .i64 0, .slice none 0 0] 33, .app g169 v167 j163.length 27 1, .app g173 v171 j164.length 3 1] rfl (fun w177 hs => ?_))
      refine Rg.go ?_
      refine Cd.ret ?_
      obtain rfl := some_s h0
      exact fun a ha => Cd.retA (R := Re (Po56 S0 w0 [] _)) ha Try.results56 ⟨_, _, _, rfl, rfl, run_lvN (vals := [.int .i64 4, .int .u32 x10, .int .u32 0, .slice none 0 0, v167, v171, .int .u64 0, .int .i64 0, .int .i64 0, .slice none 0 0]) Try.underlying33 rfl zz33 (hs.range 1 rfl 0 rfl), rfl⟩ ⟨_, rfl, S165, (.slice none 0 0), v167, v171, (.slice none 0 0), rfl, (hs.pick [] (by decide) rfl), (Rd.nil _ _ _), f168, f172, (Rd.nil _ _ _)⟩
     ·skip
      refine Cd.weak [(2, v1), (6, .pointer (some ⟨b7, 0, none⟩)), (7, .int .i64 (quo .i64 (p_2.length : Int) 4)), (8, .pointer (some ⟨b18, 0, none⟩)), (11, .int .i64 2)] ⟨rfl, rfl, rfl, rfl, rfl, trivial⟩ ?_
      refine Cd.block (Cd.loop (fun sg => limelightref6_parse_l1 p_2 sg.1 sg.2.1 sg.2.2) (fun (sg : (Int × (List Int) × (List Int))) K w => ∃ (S181 : Mp) (v183 : Value) (g185 : Option Nat) (v187 : Value) (g189 : Option Nat), K = [(2, v1), (6, .pointer (some ⟨b7, 0, none⟩)), (7, .int .i64 (quo .i64 (p_2.length : Int) 4)), (8, .pointer (some ⟨b18, 0, none⟩)), (11, .int .i64 sg.1)] ∧ Le S27 S181 ∧ St w0 [] S0 S181 [.box b18 #[.int .i64 4, .int .u32 x10, .int .u32 0, .slice none 0 0, v183, v187, .int .u64 0, .int .i64 0, .int .i64 0, .slice none 0 0] 33, .box b7 #[.int .i64 0, .int .u32 0, .int .u32 0, .slice none 0 0, .slice none 0 0, .slice none 0 0, .int .u64 0, .int .i64 0, .int .i64 0, .slice none 0 0] 33, .app g185 v183 sg.2.1.length 27 1, .app g189 v187 sg.2.2.length 3 1] w ∧ Rd S181 1 (RI .u32) v183 sg.2.1 ∧ Rd S181 1 (RI .i64) v187 sg.2.2) (2, ([] : List Int), ([] : List Int)) fl160 hfl161 ⟨S27, (.slice none 0 0), none, (.slice none 0 0), none, rfl, Le.refl _, (hs.pick [2, 3, 1, 0] (by decide) rfl), (Rd.nil _ _ _), (Rd.nil _ _ _)⟩ ?_)
      rintro ⟨q178, q179, q180⟩ fl191 K196 w195 hb192 ⟨S181, v183, g185, v187, g189, rfl, le182, hs, f184, f188⟩ hl193
      have h194 : limelightref6_parse_l1 p_2 q178 q179 q180 = some fl191 := hb192
      unfold limelightref6_parse_l1 at h194
      refine Cd.seq ?_
      refine Cd.sr ?_
      refine Rg.mv rfl rfl ?_
      refine Rg.vN (X.add rfl rfl) rfl ?_
      refine Rg.mv rfl rfl ?_
      refine Rg.vN (X.lss rfl rfl) rfl ?_
      refine Rg.go ?_
      refine Cd.weak [(2, v1), (6, .pointer (some ⟨b7, 0, none⟩)), (7, .int .i64 (quo .i64 (p_2.length : Int) 4)), (8, .pointer (some ⟨b18, 0, none⟩)), (11, .int .i64 q178), (104, .bool (decide ((add .i64 q178 1) < (quo .i64 (p_2.length : Int) 4))))] ⟨rfl, rfl, rfl, rfl, rfl, rfl, trivial⟩ ?_
      refine Cd.cond (t := decide ((add .i64 q178 1) < (quo .i64 (p_2.length : Int) 4))) rfl (fun hc197 => ?_) (fun hc197 => ?_)
      ·have h194 := ite_t hc197 h194
       refine Cd.sg ?_
       refine Cd.seq ?_
       obtain ⟨p200, hp201, h194⟩ := bind_s h194
       obtain ⟨j198, j199⟩ := p200
       dsimp only at h194
       refine Cd.post (fun K w => ∃ (S202 : Mp) (v205 : Value) (g207 : Option Nat) (v209 : Value) (g211 : Option Nat), K = [(2, v1), (6, .pointer (some ⟨b7, 0, none⟩)), (7, .int .i64 (quo .i64 (p_2.length : Int) 4)), (8, .pointer (some ⟨b18, 0, none⟩)), (11, .int .i64 q178)] ∧ Le S181 S202 ∧ St w0 [] S0 S202 [.box b18 #[.int .i64 4, .int .u32 x10, .int .u32 0, .slice none 0 0, v205, v209, .int .u64 0, .int .i64 0, .int .i64 0, .slice none 0 0] 33, .box b7 #[.int .i64 0, .int .u32 0, .int .u32 0, .slice none 0 0, .slice none 0 0, .slice none 0 0, .int .u64 0, .int .i64 0, .int .i64 0, .slice none 0 0] 33, .app g207 v205 j198.length 27 1, .app g211 v209 j199.length 3 1] w ∧ Rd S202 1 (RI .u32) v205 j198 ∧ Rd S202 1 (RI .i64) v209 j199) ?_ ?_
       ·rintro K213 w203 ⟨S202, v205, g207, v209, g211, rfl, le204, hs, f206, f210⟩
        refine Cd.go ?_
        refine Cd.region ?_
        refine Rg.mv rfl rfl ?_
        refine Rg.vN (X.add rfl rfl) rfl ?_
        refine Rg.st rfl rfl ?_
        refine Rg.nil ?_
        exact fun a ha => ⟨(add .i64 q178 2, j198, j199), [(2, v1), (6, .pointer (some ⟨b7, 0, none⟩)), (7, .int .i64 (quo .i64 (p_2.length : Int) 4)), (8, .pointer (some ⟨b18, 0, none⟩)), (11, .int .i64 (add .i64 q178 2))], (some_s h194).symm, ha.weak ⟨rfl, rfl, rfl, rfl, rfl, trivial⟩, S202, v205, g207, v209, g211, rfl, (le182.trans le204), hs, f206, f210⟩
       ·skip
        refine Cd.block ?_
        obtain ⟨p216, hp217, hp201⟩ := bind_s hp201
        obtain ⟨j214, j215⟩ := p216
        dsimp only at hp201
        refine Cd.post (fun K w => ∃ (S218 : Mp) (v221 : Value) (g223 : Option Nat) (v225 : Value) (g227 : Option Nat), K = [(2, v1), (6, .pointer (some ⟨b7, 0, none⟩)), (7, .int .i64 (quo .i64 (p_2.length : Int) 4)), (8, .pointer (some ⟨b18, 0, none⟩)), (11, .int .i64 q178)] ∧ Le S181 S218 ∧ St w0 [] S0 S218 [.box b18 #[.int .i64 4, .int .u32 x10, .int .u32 0, .slice none 0 0, v221, v225, .int .u64 0, .int .i64 0, .int .i64 0, .slice none 0 0] 33, .box b7 #[.int .i64 0, .int .u32 0, .int .u32 0, .slice none 0 0, .slice none 0 0, .slice none 0 0, .int .u64 0, .int .i64 0, .int .i64 0, .slice none 0 0] 33, .app g223 v221 j214.length 27 1, .app g227 v225 j215.length 3 1] w ∧ Rd S218 1 (RI .u32) v221 j214 ∧ Rd S218 1 (RI .i64) v225 j215) ?_ ?_
        ·rintro K229 w219 ⟨S218, v221, g223, v225, g227, rfl, le220, hs, f222, f226⟩
         cases some_s hp201
         exact fun a ha => ⟨[(2, v1), (6, .pointer (some ⟨b7, 0, none⟩)), (7, .int .i64 (quo .i64 (p_2.length : Int) 4)), (8, .pointer (some ⟨b18, 0, none⟩)), (11, .int .i64 q178)], ha.weak ⟨rfl, rfl, rfl, rfl, rfl, trivial⟩, S218, v221, g223, v225, g227, rfl, le220, hs, f222, f226⟩
        ·skip
         refine Cd.rD mixed (fun l w => Has S181 w ∧ (l.getD 18 false = false → Hp b18 #[.int .i64 4, .int .u32 x10, .int .u32 0, .slice none 0 0, v183, v187, .int .u64 0, .int .i64 0, .int .i64 0, .slice none 0 0] 33 w)) hs (fun _ _ _ _ _ h => h) (by kernel_rfl) (fun w230 hs => ⟨⟨hs.has, (fun _ => hs.heap 0 rfl)⟩, ?_⟩)
         refine Rk.uN 0 rfl rfl (fun _ _ => by simp only [getD_set_ne false (show (0 : Nat) ≠ 18 by decide)]) (fun l w hl hcl hc => X.fieldB Try.underlying33 rfl zz29 rfl rfl) ?_
         refine Rk.uN 1 rfl rfl (fun _ _ => by simp only [getD_set_ne false (show (1 : Nat) ≠ 18 by decide)]) (fun l w hl hcl hc => X.load1 Try.underlying29 rfl rfl (heap_cell (hc.2 (hcl.lt rfl (by kernel_rfl) hl)) rfl)) ?_
         refine Rk.uN 2 rfl rfl (fun _ _ => by simp only [getD_set_ne false (show (2 : Nat) ≠ 18 by decide)]) (fun l w hl hcl hc => X.move rfl) ?_
         refine Rk.uN 3 rfl rfl (fun _ _ => by simp only [getD_set_ne false (show (3 : Nat) ≠ 18 by decide)]) (fun l w hl hcl hc => X.move rfl) ?_
         refine Rk.uN 7 rfl rfl (fun _ _ => by simp only [getD_set_ne false (show (7 : Nat) ≠ 18 by decide)]) (fun l w hl hcl hc => X.fieldB Try.underlying33 rfl zz23 rfl rfl) ?_
         refine Rk.uN 8 rfl rfl (fun _ _ => by simp only [getD_set_ne false (show (8 : Nat) ≠ 18 by decide)]) (fun l w hl hcl hc => X.load1 Try.underlying23 rfl rfl (heap_cell (hc.2 (hcl.lt rfl (by kernel_rfl) hl)) rfl)) ?_
         refine Rk.uN 9 rfl rfl (fun _ _ => by simp only [getD_set_ne false (show (9 : Nat) ≠ 18 by decide)]) (fun l w hl hcl hc => X.move rfl) ?_
         refine Rk.uN 10 rfl rfl (fun _ _ => by simp only [getD_set_ne false (show (10 : Nat) ≠ 18 by decide)]) (fun l w hl hcl hc => X.move rfl) ?_
         refine Rk.uN 11 rfl rfl (fun _ _ => by simp only [getD_set_ne false (show (11 : Nat) ≠ 18 by decide)]) (fun l w hl hcl hc => X.add rfl rfl) ?_
         obtain ⟨x231, hx232, hp217⟩ := bind_s hp217
         refine Rk.eN 4 rfl rfl (Oq.call Try.call69 rfl rfl (c69 S181 (St.start _ _ hs.has) _ _ (f2.mono (le17.trans (le29.trans le182))) _ _ hx232) (fun v233 w234 h235 => ?_))
         obtain ⟨S236, rfl, hs237⟩ := h235
         have le238 := hs237.le
         have hs := hs.call0 hs237
         refine ⟨⟨(hs.has.down le238), (fun _ => hs.heap 0 rfl)⟩, Rk.mk (C' := fun l w => Has S236 w ∧ (l.getD 18 false = false → Hp b18 #[.int .i64 4, .int .u32 x10, .int .u32 0, .slice none 0 0, v183, v187, .int .u64 0, .int .i64 0, .int .i64 0, .slice none 0 0] 33 w)) ⟨hs.has, (fun _ => hs.heap 0 rfl)⟩ (fun l w hc => ⟨hc.1.down le238, hc.2⟩) ?_⟩
         refine Rk.eN 5 rfl rfl (Oq.lit (sz := 1) (cs0 := [.int .u32 0]) (cells := [.int .u32 x231]) hs Try.underlying29 ii27 rfl rfl rfl rfl rfl rfl ⟨_, [.int .u32 x231], _, rfl, rfl, rfl, rfl⟩ rfl rfl rfl (fun b239 w240 S241 hs le242 hE243 => ?_))
         have f245 : Rd S241 1 (RI .u32) (.slice (some ⟨b239, 0, none⟩) 1 1) ([x231] : List Int) := Rd.of_cells (xs := ([x231] : List Int)) ⟨[.int .u32 x231], _, rfl, rfl, one_all ⟨rfl, trivial⟩, rfl, rfl⟩ hE243 (Nat.le_of_ble_eq_true rfl) (Nat.le_of_ble_eq_true rfl)
         refine ⟨⟨(hs.has.down le242), (fun _ => hs.heap 1 rfl)⟩, Rk.mk (C' := fun l w => Has S241 w ∧ (l.getD 18 false = false → Hp b18 #[.int .i64 4, .int .u32 x10, .int .u32 0, .slice none 0 0, v183, v187, .int .u64 0, .int .i64 0, .int .i64 0, .slice none 0 0] 33 w)) ⟨hs.has, (fun _ => hs.heap 1 rfl)⟩ (fun l w hc => ⟨hc.1.down le242, hc.2⟩) ?_⟩
         obtain ⟨y246, hx247, hp217⟩ := bind_s hp217
         refine Rk.eN 6 rfl rfl (Oq.appendS hs 3 rfl Try.underlying29 ii27 rfl rfl rfl rfl rfl rfl (f184.mono (le238.trans le242)) f245 hx247 rfl rfl rfl (fun v248 w249 S250 g251 hs le252 f253 => ?_))
         refine ⟨⟨(hs.has.down le252), (fun _ => hs.heap 1 rfl)⟩, Rk.mk (C' := fun l w => Has S250 w ∧ (l.getD 18 false = false → Hp b18 #[.int .i64 4, .int .u32 x10, .int .u32 0, .slice none 0 0, v183, v187, .int .u64 0, .int .i64 0, .int .i64 0, .slice none 0 0] 33 w)) ⟨hs.has, (fun _ => hs.heap 1 rfl)⟩ (fun l w hc => ⟨hc.1.down le252, hc.2⟩) ?_⟩
         refine Rk.uN 17 rfl rfl (fun _ _ => by simp only [getD_set_ne false (show (17 : Nat) ≠ 18 by decide)]) (fun l w hl hcl hc => X.fieldB Try.underlying33 rfl zz29 rfl rfl) ?_
         obtain ⟨x254, hx255, hp217⟩ := bind_s hp217
         refine Rk.eN 12 rfl rfl (Oq.call Try.call69 rfl rfl (c69 S250 (St.start _ _ hs.has) _ _ (f2.mono (le17.trans (le29.trans (le182.trans (le238.trans (le242.trans le252)))))) _ _ hx255) (fun v256 w257 h258 => ?_))
         obtain ⟨S259, rfl, hs260⟩ := h258
         have le261 := hs260.le
         have hs := hs.call0 hs260
         refine ⟨⟨(hs.has.down le261), (fun _ => hs.heap 1 rfl)⟩, Rk.mk (C' := fun l w => Has S259 w ∧ (l.getD 18 false = false → Hp b18 #[.int .i64 4, .int .u32 x10, .int .u32 0, .slice none 0 0, v183, v187, .int .u64 0, .int .i64 0, .int .i64 0, .slice none 0 0] 33 w)) ⟨hs.has, (fun _ => hs.heap 1 rfl)⟩ (fun l w hc => ⟨hc.1.down le261, hc.2⟩) ?_⟩
         refine Rk.uN 13 rfl rfl (fun _ _ => by simp only [getD_set_ne false (show (13 : Nat) ≠ 18 by decide)]) (fun l w hl hcl hc => X.shr rfl rfl (by decide)) ?_
         refine Rk.uN 14 rfl rfl (fun _ _ => by simp only [getD_set_ne false (show (14 : Nat) ≠ 18 by decide)]) (fun l w hl hcl hc => X.conv Try.underlying27 Try.underlying3 rfl) ?_
         refine Rk.eN 15 rfl rfl (Oq.lit (sz := 1) (cs0 := [.int .i64 0]) (cells := [.int .i64 (cv .i64 (shr .u32 x254 24))]) hs Try.underlying23 ii3 rfl rfl rfl rfl rfl rfl ⟨_, [.int .i64 (cv .i64 (shr .u32 x254 24))], _, rfl, rfl, rfl, rfl⟩ rfl rfl rfl (fun b262 w263 S264 hs le265 hE266 => ?_))
         have f268 : Rd S264 1 (RI .i64) (.slice (some ⟨b262, 0, none⟩) 1 1) ([cv .i64 (shr .u32 x254 24)] : List Int) := Rd.of_cells (xs := ([cv .i64 (shr .u32 x254 24)] : List Int)) ⟨[.int .i64 (cv .i64 (shr .u32 x254 24))], _, rfl, rfl, one_all ⟨rfl, trivial⟩, rfl, rfl⟩ hE266 (Nat.le_of_ble_eq_true rfl) (Nat.le_of_ble_eq_true rfl)
         refine ⟨⟨(hs.has.down le265), (fun _ => hs.heap 2 rfl)⟩, Rk.mk (C' := fun l w => Has S264 w ∧ (l.getD 18 false = false → Hp b18 #[.int .i64 4, .int .u32 x10, .int .u32 0, .slice none 0 0, v183, v187, .int .u64 0, .int .i64 0, .int .i64 0, .slice none 0 0] 33 w)) ⟨hs.has, (fun _ => hs.heap 2 rfl)⟩ (fun l w hc => ⟨hc.1.down le265, hc.2⟩) ?_⟩
         refine Rk.weak [(2, v1), (6, .pointer (some ⟨b7, 0, none⟩)), (7, .int .i64 (quo .i64 (p_2.length : Int) 4)), (8, .pointer (some ⟨b18, 0, none⟩)), (11, .int .i64 q178), (113, v248), (115, v187), (122, .slice (some ⟨b262, 0, none⟩) 1 1), (124, .pointer (some ⟨b18, 4, none⟩))] ⟨rfl, rfl, rfl, rfl, rfl, rfl, rfl, rfl, rfl, trivial⟩ ?_
         obtain ⟨y269, hx270, hp217⟩ := bind_s hp217
         refine Rk.eN 16 rfl rfl (Oq.appendS hs 5 rfl Try.underlying23 ii3 rfl rfl rfl rfl rfl rfl (f188.mono (le238.trans (le242.trans (le252.trans (le261.trans le265))))) f268 hx270 rfl rfl rfl (fun v271 w272 S273 g274 hs le275 f276 => ?_))
         refine ⟨⟨(hs.has.down le275), (fun _ => hs.heap 2 rfl)⟩, Rk.mk (C' := fun l w => Has S273 w ∧ (l.getD 18 false = false → Hp b18 #[.int .i64 4, .int .u32 x10, .int .u32 0, .slice none 0 0, v183, v187, .int .u64 0, .int .i64 0, .int .i64 0, .slice none 0 0] 33 w)) ⟨hs.has, (fun _ => hs.heap 2 rfl)⟩ (fun l w hc => ⟨hc.1.down le275, hc.2⟩) ?_⟩
         refine Rk.eN 18 rfl rfl (Oq.store hs 2 rfl 4 zz29 rfl rfl (f253.mono (le261.trans (le265.trans le275))).cells (f253.mono (le261.trans (le265.trans le275))).one rfl [.app (some b262) (.slice (some ⟨b262, 0, none⟩) 1 1) ([cv .i64 (shr .u32 x254 24)] : List Int).length 3 1, .app (some b239) (.slice (some ⟨b239, 0, none⟩) 1 1) ([x231] : List Int).length 27 1, .box b18 #[.int .i64 4, .int .u32 x10, .int .u32 0, .slice none 0 0, v248, v187, .int .u64 0, .int .i64 0, .int .i64 0, .slice none 0 0] 33, .box b7 #[.int .i64 0, .int .u32 0, .int .u32 0, .slice none 0 0, .slice none 0 0, .slice none 0 0, .int .u64 0, .int .i64 0, .int .i64 0, .slice none 0 0] 33, .app g251 v248 y246.length 27 1, .app g274 v271 y269.length 3 1] rfl (fun w277 hs => ?_))
         refine ⟨⟨hs.has, (fun h => absurd h (by decide))⟩, ?_⟩
         refine Rk.uN 19 rfl rfl (fun _ _ => by simp only [getD_set_ne false (show (19 : Nat) ≠ 18 by decide)]) (fun l w hl hcl hc => X.fieldB Try.underlying33 rfl zz23 rfl rfl) ?_
         refine Rk.eN 20 rfl rfl (Oq.store hs 2 rfl 5 zz23 rfl rfl f276.cells f276.one rfl [.app (some b262) (.slice (some ⟨b262, 0, none⟩) 1 1) ([cv .i64 (shr .u32 x254 24)] : List Int).length 3 1, .app (some b239) (.slice (some ⟨b239, 0, none⟩) 1 1) ([x231] : List Int).length 27 1, .box b18 #[.int .i64 4, .int .u32 x10, .int .u32 0, .slice none 0 0, v248, v271, .int .u64 0, .int .i64 0, .int .i64 0, .slice none 0 0] 33, .box b7 #[.int .i64 0, .int .u32 0, .int .u32 0, .slice none 0 0, .slice none 0 0, .slice none 0 0, .int .u64 0, .int .i64 0, .int .i64 0, .slice none 0 0] 33, .app g251 v248 y246.length 27 1, .app g274 v271 y269.length 3 1] rfl (fun w278 hs => ?_))
         refine ⟨⟨hs.has, (fun h => absurd h (by decide))⟩, ?_⟩
         refine Rk.done ?_
         cases some_s hp217
         exact fun a ha => ⟨[(2, v1), (6, .pointer (some ⟨b7, 0, none⟩)), (7, .int .i64 (quo .i64 (p_2.length : Int) 4)), (8, .pointer (some ⟨b18, 0, none⟩)), (11, .int .i64 q178)], ha.weak ⟨rfl, rfl, rfl, rfl, rfl, trivial⟩, S273, v248, g251, v271, g274, rfl, (le238.trans (le242.trans (le252.trans (le261.trans (le265.trans le275))))), (hs.pick [2, 3, 4, 5] (by decide) rfl), (f253.mono (le261.trans (le265.trans le275))), f276⟩
      ·have h194 := ite_f hc197 h194
       refine Cd.exit ?_
       obtain rfl := some_s h194
       have e := hl193 (fun _ e => by cases e)
       exact fun a ha => ⟨[(6, .pointer (some ⟨b7, 0, none⟩)), (8, .pointer (some ⟨b18, 0, none⟩))], ha.weak ⟨rfl, rfl, trivial⟩, _, _, _, S181, v183, g185, v187, g189, rfl, e.symm, le182, hs, f184, f188⟩
    ·have h0 := ite_f hc156 h0
     refine Cd.sr ?_
     refine Rg.vN (X.fieldB Try.underlying33 rfl zz3 rfl rfl) rfl ?_
     refine Rg.step rfl (Oq.store hs 0 rfl 0 zz3 rfl rfl rfl rfl rfl [.box b18 #[.int .i64 5, .int .u32 x10, .int .u32 0, .slice none 0 0, .slice none 0 0, .slice none 0 0, .int .u64 0, .int .i64 0, .int .i64 0, .slice none 0 0] 33, .box b7 #[.int .i64 0, .int .u32 0, .int .u32 0, .slice none 0 0, .slice none 0 0, .slice none 0 0, .int .u64 0, .int .i64 0, .int .i64 0, .slice none 0 0] 33] rfl (fun w282 hs => ?_))
     refine Rg.go ?_
     refine Cd.sr ?_
     refine Rg.mv rfl rfl ?_
     obtain ⟨x283, hx284, h0⟩ := bind_s h0
     refine Rg.step rfl (Oq.call Try.call69 rfl rfl (c69 S27 (St.start _ _ hs.has) _ _ (f2.mono (le17.trans le29)) _ _ hx284) (fun v285 w286 h287 => ?_))
     obtain ⟨S288, rfl, hs289⟩ := h287
     have le290 := hs289.le
     have hs := hs.call0 hs289
     refine Rg.st rfl rfl ?_
     refine Rg.go ?_
     refine Cd.sr ?_
     refine Rg.mv rfl rfl ?_
     refine Rg.vN (X.shr rfl rfl (by decide)) rfl ?_
     refine Rg.vN (X.and rfl rfl) rfl ?_
     refine Rg.weak [(2, v1), (6, .pointer (some ⟨b7, 0, none⟩)), (7, .int .i64 (quo .i64 (p_2.length : Int) 4)), (8, .pointer (some ⟨b18, 0, none⟩)), (12, .int .u32 x283), (25, .int .u32 (band .u32 (shr .u32 x283 18) 63))] ⟨rfl, rfl, rfl, rfl, rfl, rfl, trivial⟩ ?_
     refine Rg.vN (X.conv Try.underlying27 Try.underlying3 rfl) rfl ?_
     refine Rg.mv rfl rfl ?_
     refine Rg.vN (X.and rfl rfl) rfl ?_
     obtain ⟨x291, hx292, h0⟩ := bind_s h0
     refine Rg.step rfl (Oq.call Try.call22 rfl rfl (c22 S288 (St.start _ _ hs.has) _ _ _ _ hx292) (fun v293 w294 h295 => ?_))
     obtain ⟨S296, rfl, hs297⟩ := h295
     have le298 := hs297.le
     have hs := hs.call0 hs297
     refine Rg.vN (X.fieldB Try.underlying33 rfl zz30 rfl rfl) rfl ?_
     refine Rg.step rfl (Oq.store hs 0 rfl 6 zz30 rfl rfl rfl rfl rfl [.box b18 #[.int .i64 5, .int .u32 x10, .int .u32 0, .slice none 0 0, .slice none 0 0, .slice none 0 0, .int .u64 x291, .int .i64 0, .int .i64 0, .slice none 0 0] 33, .box b7 #[.int .i64 0, .int .u32 0, .int .u32 0, .slice none 0 0, .slice none 0 0, .slice none 0 0, .int .u64 0, .int .i64 0, .int .i64 0, .slice none 0 0] 33] rfl (fun w299 hs => ?_))
     refine Rg.go ?_
     refine Cd.sr ?_
     refine Rg.st rfl rfl ?_
     refine Rg.go ?_
     have hs := hs.nil 27 1
     obtain ⟨fl301, hfl302, h0⟩ := bind_s h0
     refine Cd.post (fun K w => ∃ (j303 : Int) (j304 : (List Int)) (S305 : Mp) (v307 : Value) (g309 : Option Nat), K = [(6, .pointer (some ⟨b7, 0, none⟩)), (8, .pointer (some ⟨b18, 0, none⟩))] ∧ fl301 = Flow.brk (j303, j304) ∧ Le S296 S305 ∧ St w0 [] S0 S305 [.box b18 #[.int .i64 5, .int .u32 x10, .int .u32 0, .slice none 0 0, v307, .slice none 0 0, .int .u64 x291, .int .i64 0, .int .i64 0, .slice none 0 0] 33, .box b7 #[.int .i64 0, .int .u32 0, .int .u32 0, .slice none 0 0, .slice none 0 0, .slice none 0 0, .int .u64 0, .int .i64 0, .int .i64 0, .slice none 0 0] 33, .app g309 v307 j304.length 27 1] w ∧ Rd S305 1 (RI .u32) v307 j304) ?_ ?_
     ·rintro K312 w311 ⟨j303, j304, S305, v307, g309, rfl, rfl, le306, hs, f308⟩
      have h0 := el_brk h0
      try dsimp only at h0
      refine Cd.go ?_
      refine Cd.sr ?_
      refine Rg.vN (X.loadN (vals := [.int .i64 5, .int .u32 x10, .int .u32 0, .slice none 0 0, v307, .slice none 0 0, .int .u64 x291, .int .i64 0, .int .i64 0, .slice none 0 0]) Try.underlying33 rfl zz33 rfl (hs.range 0 rfl 0 rfl)) rfl ?_
      refine Rg.step rfl (Oq.storeN hs 1 rfl (vals := [.int .i64 5, .int .u32 x10, .int .u32 0, .slice none 0 0, v307, .slice none 0 0, .int .u64 x291, .int .i64 0, .int .i64 0, .slice none 0 0]) zz33 rfl rfl (one_all ⟨rfl, rfl, rfl, rfl, f308.one, rfl, rfl, rfl, rfl, rfl, trivial⟩) rfl [.box b18 #[.int .i64 5, .int .u32 x10, .int .u32 0, .slice none 0 0, v307, .slice none 0 0, .int .u64 x291, .int .i64 0, .int .i64 0, .slice none 0 0] 33, .box b7 #[.int .i64 5, .int .u32 x10, .int .u32 0, .slice none 0 0, v307, .slice none 0 0, .int .u64 x291, .int .i64 0, .int .i64 0, .slice none 0 0] 33, .app g309 v307 j304.length 27 1] rfl (fun w313 hs => ?_))
      refine Rg.go ?_
      refine Cd.ret ?_
      obtain rfl := some_s h0
      exact fun a ha => Cd.retA (R := Re (Po56 S0 w0 [] _)) ha Try.results56 ⟨_, _, _, rfl, rfl, run_lvN (vals := [.int .i64 5, .int .u32 x10, .int .u32 0, .slice none 0 0, v307, .slice none 0 0, .int .u64 x291, .int .i64 0, .int .i64 0, .slice none 0 0]) Try.underlying33 rfl zz33 (hs.range 1 rfl 0 rfl), rfl⟩ ⟨_, rfl, S305, (.slice none 0 0), v307, (.slice none 0 0), (.slice none 0 0), rfl, (hs.pick [] (by decide) rfl), (Rd.nil _ _ _), f308, (Rd.nil _ _ _), (Rd.nil _ _ _)⟩
     ·skip
      refine Cd.weak [(2, v1), (6, .pointer (some ⟨b7, 0, none⟩)), (7, .int .i64 (quo .i64 (p_2.length : Int) 4)), (8, .pointer (some ⟨b18, 0, none⟩)), (13, .int .i64 4)] ⟨rfl, rfl, rfl, rfl, rfl, trivial⟩ ?_
      refine Cd.block (Cd.loop (fun sg => limelightref6_parse_l2 p_2 sg.1 sg.2) (fun (sg : (Int × (List Int))) K w => ∃ (S316 : Mp) (v318 : Value) (g320 : Option Nat), K = [(2, v1), (6, .pointer (some ⟨b7, 0, none⟩)), (7, .int .i64 (quo .i64 (p_2.length : Int) 4)), (8, .pointer (some ⟨b18, 0, none⟩)), (13, .int .i64 sg.1)] ∧ Le S296 S316 ∧ St w0 [] S0 S316 [.box b18 #[.int .i64 5, .int .u32 x10, .int .u32 0, .slice none 0 0, v318, .slice none 0 0, .int .u64 x291, .int .i64 0, .int .i64 0, .slice none 0 0] 33, .box b7 #[.int .i64 0, .int .u32 0, .int .u32 0, .slice none 0 0, .slice none 0 0, .slice none 0 0, .int .u64 0, .int .i64 0, .int .i64 0, .slice none 0 0] 33, .app g320 v318 sg.2.length 27 1] w ∧ Rd S316 1 (RI .u32) v318 sg.2) (4, ([] : List Int)) fl301 hfl302 ⟨S296, (.slice none 0 0), none, rfl, Le.refl _, (hs.pick [1, 2, 0] (by decide) rfl), (Rd.nil _ _ _)⟩ ?_)
      rintro ⟨q314, q315⟩ fl322 K327 w326 hb323 ⟨S316, v318, g320, rfl, le317, hs, f319⟩ hl324
      have h325 : limelightref6_parse_l2 p_2 q314 q315 = some fl322 := hb323
      unfold limelightref6_parse_l2 at h325
      refine Cd.seq ?_
      refine Cd.sr ?_
      refine Rg.mv rfl rfl ?_
      refine Rg.mv rfl rfl ?_
      refine Rg.vN (X.lss rfl rfl) rfl ?_
      refine Rg.go ?_
      refine Cd.cond (t := decide (q314 < (quo .i64 (p_2.length : Int) 4))) rfl (fun hc328 => ?_) (fun hc328 => ?_)
      ·have h325 := ite_t hc328 h325
       refine Cd.sg ?_
       refine Cd.seq ?_
       obtain ⟨p330, hp331, h325⟩ := bind_s h325
       refine Cd.post (fun K w => ∃ (S332 : Mp) (v335 : Value) (g337 : Option Nat), K = [(2, v1), (6, .pointer (some ⟨b7, 0, none⟩)), (7, .int .i64 (quo .i64 (p_2.length : Int) 4)), (8, .pointer (some ⟨b18, 0, none⟩)), (13, .int .i64 q314)] ∧ Le S316 S332 ∧ St w0 [] S0 S332 [.box b18 #[.int .i64 5, .int .u32 x10, .int .u32 0, .slice none 0 0, v335, .slice none 0 0, .int .u64 x291, .int .i64 0, .int .i64 0, .slice none 0 0] 33, .box b7 #[.int .i64 0, .int .u32 0, .int .u32 0, .slice none 0 0, .slice none 0 0, .slice none 0 0, .int .u64 0, .int .i64 0, .int .i64 0, .slice none 0 0] 33, .app g337 v335 p330.length 27 1] w ∧ Rd S332 1 (RI .u32) v335 p330) ?_ ?_
       ·rintro K339 w333 ⟨S332, v335, g337, rfl, le334, hs, f336⟩
        refine Cd.go ?_
        refine Cd.region ?_
        refine Rg.mv rfl rfl ?_
        refine Rg.weak [(2, v1), (6, .pointer (some ⟨b7, 0, none⟩)), (7, .int .i64 (quo .i64 (p_2.length : Int) 4)), (8, .pointer (some ⟨b18, 0, none⟩)), (34, .int .i64 q314)] ⟨rfl, rfl, rfl, rfl, rfl, trivial⟩ ?_
        refine Rg.vN (X.add rfl rfl) rfl ?_
        refine Rg.st rfl rfl ?_
        refine Rg.nil ?_
        exact fun a ha => ⟨(add .i64 q314 1, p330), [(2, v1), (6, .pointer (some ⟨b7, 0, none⟩)), (7, .int .i64 (quo .i64 (p_2.length : Int) 4)), (8, .pointer (some ⟨b18, 0, none⟩)), (13, .int .i64 (add .i64 q314 1))], (some_s h325).symm, ha.weak ⟨rfl, rfl, rfl, rfl, rfl, trivial⟩, S332, v335, g337, rfl, (le317.trans le334), hs, f336⟩
       ·skip
        refine Cd.block ?_
        obtain ⟨p341, hp342, hp331⟩ := bind_s hp331
        refine Cd.post (fun K w => ∃ (S343 : Mp) (v346 : Value) (g348 : Option Nat), K = [(2, v1), (6, .pointer (some ⟨b7, 0, none⟩)), (7, .int .i64 (quo .i64 (p_2.length : Int) 4)), (8, .pointer (some ⟨b18, 0, none⟩)), (13, .int .i64 q314)] ∧ Le S316 S343 ∧ St w0 [] S0 S343 [.box b18 #[.int .i64 5, .int .u32 x10, .int .u32 0, .slice none 0 0, v346, .slice none 0 0, .int .u64 x291, .int .i64 0, .int .i64 0, .slice none 0 0] 33, .box b7 #[.int .i64 0, .int .u32 0, .int .u32 0, .slice none 0 0, .slice none 0 0, .slice none 0 0, .int .u64 0, .int .i64 0, .int .i64 0, .slice none 0 0] 33, .app g348 v346 p341.length 27 1] w ∧ Rd S343 1 (RI .u32) v346 p341) ?_ ?_
        ·rintro K350 w344 ⟨S343, v346, g348, rfl, le345, hs, f347⟩
         obtain rfl := some_s hp331
         exact fun a ha => ⟨[(2, v1), (6, .pointer (some ⟨b7, 0, none⟩)), (7, .int .i64 (quo .i64 (p_2.length : Int) 4)), (8, .pointer (some ⟨b18, 0, none⟩)), (13, .int .i64 q314)], ha.weak ⟨rfl, rfl, rfl, rfl, rfl, trivial⟩, S343, v346, g348, rfl, le345, hs, f347⟩
        ·skip
         refine Cd.rD mixed (fun l w => Has S316 w ∧ (l.getD 8 false = false → Hp b18 #[.int .i64 5, .int .u32 x10, .int .u32 0, .slice none 0 0, v318, .slice none 0 0, .int .u64 x291, .int .i64 0, .int .i64 0, .slice none 0 0] 33 w)) hs (fun _ _ _ _ _ h => h) (by kernel_rfl) (fun w351 hs => ⟨⟨hs.has, (fun _ => hs.heap 0 rfl)⟩, ?_⟩)
         refine Rk.uN 0 rfl rfl (fun _ _ => by simp only [getD_set_ne false (show (0 : Nat) ≠ 8 by decide)]) (fun l w hl hcl hc => X.fieldB Try.underlying33 rfl zz29 rfl rfl) ?_
         refine Rk.uN 1 rfl rfl (fun _ _ => by simp only [getD_set_ne false (show (1 : Nat) ≠ 8 by decide)]) (fun l w hl hcl hc => X.load1 Try.underlying29 rfl rfl (heap_cell (hc.2 (hcl.lt rfl (by kernel_rfl) hl)) rfl)) ?_
         refine Rk.uN 2 rfl rfl (fun _ _ => by simp only [getD_set_ne false (show (2 : Nat) ≠ 8 by decide)]) (fun l w hl hcl hc => X.move rfl) ?_
         refine Rk.uN 3 rfl rfl (fun _ _ => by simp only [getD_set_ne false (show (3 : Nat) ≠ 8 by decide)]) (fun l w hl hcl hc => X.move rfl) ?_
         obtain ⟨x352, hx353, hp342⟩ := bind_s hp342
         refine Rk.eN 4 rfl rfl (Oq.call Try.call69 rfl rfl (c69 S316 (St.start _ _ hs.has) _ _ (f2.mono (le17.trans (le29.trans (le290.trans (le298.trans le317))))) _ _ hx353) (fun v354 w355 h356 => ?_))
         obtain ⟨S357, rfl, hs358⟩ := h356
         have le359 := hs358.le
         have hs := hs.call0 hs358
         refine ⟨⟨(hs.has.down le359), (fun _ => hs.heap 0 rfl)⟩, Rk.mk (C' := fun l w => Has S357 w ∧ (l.getD 8 false = false → Hp b18 #[.int .i64 5, .int .u32 x10, .int .u32 0, .slice none 0 0, v318, .slice none 0 0, .int .u64 x291, .int .i64 0, .int .i64 0, .slice none 0 0] 33 w)) ⟨hs.has, (fun _ => hs.heap 0 rfl)⟩ (fun l w hc => ⟨hc.1.down le359, hc.2⟩) ?_⟩
         refine Rk.weak [(2, v1), (6, .pointer (some ⟨b7, 0, none⟩)), (7, .int .i64 (quo .i64 (p_2.length : Int) 4)), (8, .pointer (some ⟨b18, 0, none⟩)), (13, .int .i64 q314), (37, v318), (40, .int .u32 x352)] ⟨rfl, rfl, rfl, rfl, rfl, rfl, rfl, trivial⟩ ?_
         refine Rk.eN 5 rfl rfl (Oq.lit (sz := 1) (cs0 := [.int .u32 0]) (cells := [.int .u32 x352]) hs Try.underlying29 ii27 rfl rfl rfl rfl rfl rfl ⟨_, [.int .u32 x352], _, rfl, rfl, rfl, rfl⟩ rfl rfl rfl (fun b360 w361 S362 hs le363 hE364 => ?_))
         have f366 : Rd S362 1 (RI .u32) (.slice (some ⟨b360, 0, none⟩) 1 1) ([x352] : List Int) := Rd.of_cells (xs := ([x352] : List Int)) ⟨[.int .u32 x352], _, rfl, rfl, one_all ⟨rfl, trivial⟩, rfl, rfl⟩ hE364 (Nat.le_of_ble_eq_true rfl) (Nat.le_of_ble_eq_true rfl)
         refine ⟨⟨(hs.has.down le363), (fun _ => hs.heap 1 rfl)⟩, Rk.mk (C' := fun l w => Has S362 w ∧ (l.getD 8 false = false → Hp b18 #[.int .i64 5, .int .u32 x10, .int .u32 0, .slice none 0 0, v318, .slice none 0 0, .int .u64 x291, .int .i64 0, .int .i64 0, .slice none 0 0] 33 w)) ⟨hs.has, (fun _ => hs.heap 1 rfl)⟩ (fun l w hc => ⟨hc.1.down le363, hc.2⟩) ?_⟩
         obtain ⟨y367, hx368, hp342⟩ := bind_s hp342
         refine Rk.eN 6 rfl rfl (Oq.appendS hs 3 rfl Try.underlying29 ii27 rfl rfl rfl rfl rfl rfl (f319.mono (le359.trans le363)) f366 hx368 rfl rfl rfl (fun v369 w370 S371 g372 hs le373 f374 => ?_))
         refine ⟨⟨(hs.has.down le373), (fun _ => hs.heap 1 rfl)⟩, Rk.mk (C' := fun l w => Has S371 w ∧ (l.getD 8 false = false → Hp b18 #[.int .i64 5, .int .u32 x10, .int .u32 0, .slice none 0 0, v318, .slice none 0 0, .int .u64 x291, .int .i64 0, .int .i64 0, .slice none 0 0] 33 w)) ⟨hs.has, (fun _ => hs.heap 1 rfl)⟩ (fun l w hc => ⟨hc.1.down le373, hc.2⟩) ?_⟩
         refine Rk.uN 7 rfl rfl (fun _ _ => by simp only [getD_set_ne false (show (7 : Nat) ≠ 8 by decide)]) (fun l w hl hcl hc => X.fieldB Try.underlying33 rfl zz29 rfl rfl) ?_
         refine Rk.eN 8 rfl rfl (Oq.store hs 1 rfl 4 zz29 rfl rfl f374.cells f374.one rfl [.app (some b360) (.slice (some ⟨b360, 0, none⟩) 1 1) ([x352] : List Int).length 27 1, .box b18 #[.int .i64 5, .int .u32 x10, .int .u32 0, .slice none 0 0, v369, .slice none 0 0, .int .u64 x291, .int .i64 0, .int .i64 0, .slice none 0 0] 33, .box b7 #[.int .i64 0, .int .u32 0, .int .u32 0, .slice none 0 0, .slice none 0 0, .slice none 0 0, .int .u64 0, .int .i64 0, .int .i64 0, .slice none 0 0] 33, .app g372 v369 y367.length 27 1] rfl (fun w375 hs => ?_))
         refine ⟨⟨hs.has, (fun h => absurd h (by decide))⟩, ?_⟩
         refine Rk.done ?_
         obtain rfl := some_s hp342
         exact fun a ha => ⟨[(2, v1), (6, .pointer (some ⟨b7, 0, none⟩)), (7, .int .i64 (quo .i64 (p_2.length : Int) 4)), (8, .pointer (some ⟨b18, 0, none⟩)), (13, .int .i64 q314)], ha.weak ⟨rfl, rfl, rfl, rfl, rfl, trivial⟩, S371, v369, g372, rfl, (le359.trans (le363.trans le373)), (hs.pick [1, 2, 3] (by decide) rfl), f374⟩
      ·have h325 := ite_f hc328 h325
       refine Cd.exit ?_
       obtain rfl := some_s h325
       have e := hl324 (fun _ e => by cases e)
       exact fun a ha => ⟨[(6, .pointer (some ⟨b7, 0, none⟩)), (8, .pointer (some ⟨b18, 0, none⟩))], ha.weak ⟨rfl, rfl, trivial⟩, _, _, S316, v318, g320, rfl, e.symm, le317, hs, f319⟩
end Go.Lk
