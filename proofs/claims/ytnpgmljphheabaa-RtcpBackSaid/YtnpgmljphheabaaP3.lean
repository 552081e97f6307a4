/- A part of this proof: RtcpBack returns true for every input and leaves its arguments as they were; there are no conditions. -/
import Derived.Test.YtnpgmljphheabaaP2
set_option linter.unusedVariables false
set_option linter.unusedSimpArgs false
set_option maxRecDepth 100000
namespace Go.Lk
open Go.RowKit Go.Proofs
noncomputable def rtcp_parse_l0 (q185 : (List Int)) (q186 : Int) (q187 : Bool) (q188 : (List api_Tuple)) : Option (Flow ((List Int) × Int × Bool × (List api_Tuple)) (api_Report × Bool)) :=
 (rtcp_reader_left (⟨q185, q186, q187⟩ : rtcp_reader)).bind fun x203 =>
 if x203.1 = true then (
  ((
   ((
    (rtcp_reader_tuple (⟨x203.2.b_, x203.2.at_, x203.2.bad_⟩ : rtcp_reader)).bind fun x247 =>
    (app 24 q188 ([x247.1] : List api_Tuple)).bind fun y264 =>
    some (x247.2.b_, x247.2.at_, x247.2.bad_, y264) : Option ((List Int) × Int × Bool × (List api_Tuple)))).bind fun p234 =>
   some (p234.1, p234.2.1, p234.2.2.1, p234.2.2.2) : Option ((List Int) × Int × Bool × (List api_Tuple)))).bind fun p218 =>
  some (Flow.next (p218.1, p218.2.1, p218.2.2.1, p218.2.2.2)))
 else (
  some (Flow.brk (x203.2.b_, x203.2.at_, x203.2.bad_, q188)))
noncomputable def rtcp_parse_l1 (q374 : (List Int)) (q375 : Int) (q376 : Bool) (q377 : (List Int)) (q378 : (List Int)) : Option (Flow ((List Int) × Int × Bool × (List Int) × (List Int)) (api_Report × Bool)) :=
 (rtcp_reader_left (⟨q374, q375, q376⟩ : rtcp_reader)).bind fun x397 =>
 if x397.1 = true then (
  ((
   ((
    (rtcp_reader_num (⟨x397.2.b_, x397.2.at_, x397.2.bad_⟩ : rtcp_reader) 4).bind fun x499 =>
    (app 4 q377 ([cv .u32 x499.1] : List Int)).bind fun y516 =>
    some (x499.2.b_, x499.2.at_, x499.2.bad_, y516) : Option ((List Int) × Int × Bool × (List Int)))).bind fun p433 =>
   ((
    (rtcp_reader_num (⟨p433.1, p433.2.1, p433.2.2.1⟩ : rtcp_reader) 1).bind fun x472 =>
    (app 8 q378 ([cv .i64 x472.1] : List Int)).bind fun y489 =>
    some (x472.2.b_, x472.2.at_, x472.2.bad_, y489) : Option ((List Int) × Int × Bool × (List Int)))).bind fun p449 =>
   (rtcp_reader_nought (⟨p449.1, p449.2.1, p449.2.2.1⟩ : rtcp_reader) 3).bind fun x461 =>
   some (x461.b_, x461.at_, x461.bad_, p433.2.2.2, p449.2.2.2) : Option ((List Int) × Int × Bool × (List Int) × (List Int)))).bind fun p413 =>
  some (Flow.next (p413.1, p413.2.1, p413.2.2.1, p413.2.2.2.1, p413.2.2.2.2)))
 else (
  some (Flow.brk (x397.2.b_, x397.2.at_, x397.2.bad_, q377, q378)))
noncomputable def rtcp_parse (G_0 : Int) (o_1 : Int) (p_2 : (List Int)) : Option (api_Report × Bool) :=
 (rtcp_kind G_0 o_1).bind fun x10 =>
 if (x10 == 6) = true then (
  (slices_Clone_byte p_2).bind fun x23 =>
  some ((⟨x10, 0, 0, ([] : List api_Tuple), ([] : List Int), ([] : List Int), 0, G_0, o_1, x23⟩ : api_Report), true))
 else (
  (rtcp_reader_num (⟨p_2, 0, false⟩ : rtcp_reader) 4).bind fun x42 =>
  ((
   if (x10 != 3) = true then (
    (rtcp_reader_nought (⟨x42.2.b_, x42.2.at_, x42.2.bad_⟩ : rtcp_reader) 4).bind fun x582 =>
    some (x582.b_, x582.at_, x582.bad_))
   else (
    some (x42.2.b_, x42.2.at_, x42.2.bad_)) : Option ((List Int) × Int × Bool))).bind fun p56 =>
  ((
   ((
    if (x10 == 1) = true then (
     some (x10 == 1))
    else (
     some (x10 == 2)) : Option Bool)).bind fun p127 =>
   ((
    if p127 = true then (
     (loopF (fun sg => rtcp_parse_l0 sg.1 sg.2.1 sg.2.2.1 sg.2.2.2) (p56.1, p56.2.1, p56.2.2, ([] : List api_Tuple))).bind fun fl167 =>
     Flow.el fl167 (fun s273 => (
      none))
     (fun s274 => (
      some (s274.1, s274.2.1, s274.2.2.1 || (decide (6 < (s274.2.2.2.length : Int))), x10, cv .u32 x42.1, 0, s274.2.2.2, ([] : List Int), ([] : List Int), 0, 0, 0, ([] : List Int))))
     (fun r275 => (
      none)))
    else (
     ((
      if (x10 == 3) = true then (
       (rtcp_reader_num (⟨p56.1, p56.2.1, p56.2.2⟩ : rtcp_reader) 4).bind fun x308 =>
       some (x308.2.b_, x308.2.at_, x308.2.bad_, x10, cv .u32 x42.1, cv .u32 x308.1, ([] : List api_Tuple), ([] : List Int), ([] : List Int), 0, 0, 0, ([] : List Int)))
      else (
       ((
        if (x10 == 4) = true then (
         (loopF (fun sg => rtcp_parse_l1 sg.1 sg.2.1 sg.2.2.1 sg.2.2.2.1 sg.2.2.2.2) (p56.1, p56.2.1, p56.2.2, ([] : List Int), ([] : List Int))).bind fun fl352 =>
         Flow.el fl352 (fun s525 => (
          none))
         (fun s526 => (
          some (s526.1, s526.2.1, (s526.2.2.1 || (decide ((s526.2.2.2.1.length : Int) < 1))) || (decide (16 < (s526.2.2.2.1.length : Int))), x10, cv .u32 x42.1, 0, ([] : List api_Tuple), s526.2.2.2.1, s526.2.2.2.2, 0, 0, 0, ([] : List Int))))
         (fun r527 => (
          none)))
        else (
         ((
          if (x10 == 5) = true then (
           (rtcp_reader_remb (⟨p56.1, p56.2.1, p56.2.2⟩ : rtcp_reader) (⟨x10, cv .u32 x42.1, 0, ([] : List api_Tuple), ([] : List Int), ([] : List Int), 0, 0, 0, ([] : List Int)⟩ : api_Report)).bind fun x560 =>
           some (x560.1.b_, x560.1.at_, x560.1.bad_, x560.2.Kind, x560.2.From, x560.2.About, x560.2.Tuples, x560.2.Abouts, x560.2.Numbers, x560.2.Rate, x560.2.Type_, x560.2.Count, x560.2.Body))
          else (
           some (p56.1, p56.2.1, p56.2.2, x10, cv .u32 x42.1, 0, ([] : List api_Tuple), ([] : List Int), ([] : List Int), 0, 0, 0, ([] : List Int))) : Option ((List Int) × Int × Bool × Int × Int × Int × (List api_Tuple) × (List Int) × (List Int) × Int × Int × Int × (List Int)))).bind fun p541 =>
         some (p541.1, p541.2.1, p541.2.2.1, p541.2.2.2.1, p541.2.2.2.2.1, p541.2.2.2.2.2.1, p541.2.2.2.2.2.2.1, p541.2.2.2.2.2.2.2.1, p541.2.2.2.2.2.2.2.2.1, p541.2.2.2.2.2.2.2.2.2.1, p541.2.2.2.2.2.2.2.2.2.2.1, p541.2.2.2.2.2.2.2.2.2.2.2.1, p541.2.2.2.2.2.2.2.2.2.2.2.2)) : Option ((List Int) × Int × Bool × Int × Int × Int × (List api_Tuple) × (List Int) × (List Int) × Int × Int × Int × (List Int)))).bind fun p332 =>
       some (p332.1, p332.2.1, p332.2.2.1, p332.2.2.2.1, p332.2.2.2.2.1, p332.2.2.2.2.2.1, p332.2.2.2.2.2.2.1, p332.2.2.2.2.2.2.2.1, p332.2.2.2.2.2.2.2.2.1, p332.2.2.2.2.2.2.2.2.2.1, p332.2.2.2.2.2.2.2.2.2.2.1, p332.2.2.2.2.2.2.2.2.2.2.2.1, p332.2.2.2.2.2.2.2.2.2.2.2.2)) : Option ((List Int) × Int × Bool × Int × Int × Int × (List api_Tuple) × (List Int) × (List Int) × Int × Int × Int × (List Int)))).bind fun p289 =>
     some (p289.1, p289.2.1, p289.2.2.1, p289.2.2.2.1, p289.2.2.2.2.1, p289.2.2.2.2.2.1, p289.2.2.2.2.2.2.1, p289.2.2.2.2.2.2.2.1, p289.2.2.2.2.2.2.2.2.1, p289.2.2.2.2.2.2.2.2.2.1, p289.2.2.2.2.2.2.2.2.2.2.1, p289.2.2.2.2.2.2.2.2.2.2.2.1, p289.2.2.2.2.2.2.2.2.2.2.2.2)) : Option ((List Int) × Int × Bool × Int × Int × Int × (List api_Tuple) × (List Int) × (List Int) × Int × Int × Int × (List Int)))).bind fun p147 =>
   some (p147.1, p147.2.1, p147.2.2.1, p147.2.2.2.1, p147.2.2.2.2.1, p147.2.2.2.2.2.1, p147.2.2.2.2.2.2.1, p147.2.2.2.2.2.2.2.1, p147.2.2.2.2.2.2.2.2.1, p147.2.2.2.2.2.2.2.2.2.1, p147.2.2.2.2.2.2.2.2.2.2.1, p147.2.2.2.2.2.2.2.2.2.2.2.1, p147.2.2.2.2.2.2.2.2.2.2.2.2) : Option ((List Int) × Int × Bool × Int × Int × Int × (List api_Tuple) × (List Int) × (List Int) × Int × Int × Int × (List Int)))).bind fun p78 =>
  ((
   some ((!p78.2.2.1) && (p78.2.1 == (p_2.length : Int)), p78.2.2.2.1, p78.2.2.2.2.1, p78.2.2.2.2.2.1, p78.2.2.2.2.2.2.1, p78.2.2.2.2.2.2.2.1, p78.2.2.2.2.2.2.2.2.1, p78.2.2.2.2.2.2.2.2.2.1, p78.2.2.2.2.2.2.2.2.2.2.1, p78.2.2.2.2.2.2.2.2.2.2.2.1, p78.2.2.2.2.2.2.2.2.2.2.2.2) : Option (Bool × Int × Int × Int × (List api_Tuple) × (List Int) × (List Int) × Int × Int × Int × (List Int)))).bind fun p108 =>
  some ((⟨p108.2.1, p108.2.2.1, p108.2.2.2.1, p108.2.2.2.2.1, p108.2.2.2.2.2.1, p108.2.2.2.2.2.2.1, p108.2.2.2.2.2.2.2.1, p108.2.2.2.2.2.2.2.2.1, p108.2.2.2.2.2.2.2.2.2.1, p108.2.2.2.2.2.2.2.2.2.2⟩ : api_Report), p108.1))
def Po61 (S0 : Mp) (w0 : World) (D : List Nat) (r : (api_Report × Bool)) (v : Value) (w1 : World) : Prop :=
  ∃ (S1 : Mp) (v3 : Value) (v4 : Value) (v5 : Value) (v6 : Value), v = .tuple #[.agg (#[.int .i64 r.1.Kind, .int .u32 r.1.From, .int .u32 r.1.About, v3, v4, v5, .int .u64 r.1.Rate, .int .i64 r.1.Type_, .int .i64 r.1.Count, v6]), .bool r.2] ∧ St w0 D S0 S1 [] w1 ∧ Rd S1 3 R_api_Tuple v3 r.1.Tuples ∧ Rd S1 1 (RI .u32) v4 r.1.Abouts ∧ Rd S1 1 (RI .i64) v5 r.1.Numbers ∧ Rd S1 1 (RI .u8) v6 r.1.Body
set_option maxHeartbeats 4000000 in
theorem c61 (S0 : Mp) {w0 : World} (hs : St w0 [] S0 S0 [] w0) (G_0 : Int) (o_1 : Int) (p_2 : (List Int)) (v1 : Value) (f2 : Rd S0 1 (RI .u8) v1 p_2) (r : (api_Report × Bool)) (h0 : rtcp_parse G_0 o_1 p_2 = some r) :
    Calls Try.prog 61 #[.int .i64 G_0, .int .i64 o_1, v1] w0 (Re (Po61 S0 w0 [] r)) := by
 unfold rtcp_parse at h0
 refine calls_of_cd Try.func61 rfl Try.ntmps61 rfl ?_
 refine Cd.sr ?_
 refine Rg.step rfl (Oq.alloc (cs := #[.int .i64 0, .int .u32 0, .int .u32 0, .slice none 0 0, .slice none 0 0, .slice none 0 0, .int .u64 0, .int .i64 0, .int .i64 0, .slice none 0 0]) hs ii33 rfl rfl rfl (fun b7 w8 hs => ?_))
 refine Rg.vN (X.assign rfl) rfl ?_
 refine Rg.go ?_
 refine Cd.sr ?_
 refine Rg.vN (X.move rfl) rfl ?_
 refine Rg.vN (X.move rfl) rfl ?_
 obtain ⟨x10, hx11, h0⟩ := bind_s h0
 refine Rg.step rfl (Oq.call Try.call67 rfl rfl (c67 S0 (St.start _ _ hs.has) _ _ _ hx11) (fun v12 w13 h14 => ?_))
 obtain ⟨S15, rfl, hs16⟩ := h14
 have _ := 0
 have le17 : Le S0 S15 := hs16.le
 have hs := hs.call0 hs16
 refine Rg.vN (X.build (zc := [.int .i64 0, .int .u32 0, .int .u32 0, .slice none 0 0, .slice none 0 0, .slice none 0 0, .int .u64 0, .int .i64 0, .int .i64 0, .slice none 0 0]) (cells := [.int .i64 x10, .int .u32 0, .int .u32 0, .slice none 0 0, .slice none 0 0, .slice none 0 0, .int .u64 0, .int .i64 0, .int .i64 0, .slice none 0 0]) ii33 rfl rfl Try.underlying33 (pp33 _ Try.underlying33) ⟨_, [.int .i64 x10], _, rfl, rfl, rfl, rfl⟩ rfl) rfl ?_
 refine Rg.step rfl (Oq.alloc (cs := #[.int .i64 0, .int .u32 0, .int .u32 0, .slice none 0 0, .slice none 0 0, .slice none 0 0, .int .u64 0, .int .i64 0, .int .i64 0, .slice none 0 0]) hs ii33 rfl rfl rfl (fun b18 w19 hs => ?_))
 refine Rg.step rfl (Oq.storeN hs 0 rfl (vals := [.int .i64 x10, .int .u32 0, .int .u32 0, .slice none 0 0, .slice none 0 0, .slice none 0 0, .int .u64 0, .int .i64 0, .int .i64 0, .slice none 0 0]) zz33 rfl rfl (one_all ⟨rfl, rfl, rfl, rfl, rfl, rfl, rfl, rfl, rfl, rfl, trivial⟩) rfl [.box b18 #[.int .i64 x10, .int .u32 0, .int .u32 0, .slice none 0 0, .slice none 0 0, .slice none 0 0, .int .u64 0, .int .i64 0, .int .i64 0, .slice none 0 0] 33, .box b7 #[.int .i64 0, .int .u32 0, .int .u32 0, .slice none 0 0, .slice none 0 0, .slice none 0 0, .int .u64 0, .int .i64 0, .int .i64 0, .slice none 0 0] 33] rfl (fun w21 hs => ?_))
 refine Rg.go ?_
 refine Cd.seq ?_
 refine Cd.sr ?_
 refine Rg.vN (X.fieldB Try.underlying33 rfl zz3 rfl rfl) rfl ?_
 refine Rg.vN (X.load1 Try.underlying3 rfl rfl (hs.cell 0 rfl 0 rfl)) rfl ?_
 refine Rg.vN (X.eql rfl rfl) rfl ?_
 refine Rg.go ?_
 refine Cd.cond (t := x10 == 6) rfl (fun hc22 => ?_) (fun hc22 => ?_)
 ·have h0 := ite_t hc22 h0
  refine Cd.sr ?_
  refine Rg.vN (X.move rfl) rfl ?_
  refine Rg.vN (X.move rfl) rfl ?_
  refine Rg.vN (X.move rfl) rfl ?_
  obtain ⟨x23, hx24, h0⟩ := bind_s h0
  refine Rg.step rfl (Oq.call Try.call59 rfl rfl (c59 S15 (St.start _ _ hs.has) _ _ (f2.mono le17) _ hx24) (fun v25 w26 h27 => ?_))
  obtain ⟨S28, v31, g33, rfl, hs29, f32⟩ := h27
  have _ := 0
  have le30 : Le S15 S28 := hs29.le
  have hs := hs.call0 hs29
  refine Rg.vN (X.fieldB Try.underlying33 rfl zz3 rfl rfl) rfl ?_
  refine Rg.step rfl (Oq.store hs 1 rfl 7 zz3 rfl rfl rfl rfl rfl [.app g33 v25 x23.length 5 1, .box b18 #[.int .i64 x10, .int .u32 0, .int .u32 0, .slice none 0 0, .slice none 0 0, .slice none 0 0, .int .u64 0, .int .i64 G_0, .int .i64 0, .slice none 0 0] 33, .box b7 #[.int .i64 0, .int .u32 0, .int .u32 0, .slice none 0 0, .slice none 0 0, .slice none 0 0, .int .u64 0, .int .i64 0, .int .i64 0, .slice none 0 0] 33] rfl (fun w35 hs => ?_))
  refine Rg.vN (X.fieldB Try.underlying33 rfl zz3 rfl rfl) rfl ?_
  refine Rg.step rfl (Oq.store hs 1 rfl 8 zz3 rfl rfl rfl rfl rfl [.app g33 v25 x23.length 5 1, .box b18 #[.int .i64 x10, .int .u32 0, .int .u32 0, .slice none 0 0, .slice none 0 0, .slice none 0 0, .int .u64 0, .int .i64 G_0, .int .i64 o_1, .slice none 0 0] 33, .box b7 #[.int .i64 0, .int .u32 0, .int .u32 0, .slice none 0 0, .slice none 0 0, .slice none 0 0, .int .u64 0, .int .i64 0, .int .i64 0, .slice none 0 0] 33] rfl (fun w36 hs => ?_))
  refine Rg.vN (X.fieldB Try.underlying33 rfl zz31 rfl rfl) rfl ?_
  refine Rg.step rfl (Oq.store hs 1 rfl 9 zz31 rfl rfl f32.cells f32.one rfl [.app g33 v25 x23.length 5 1, .box b18 #[.int .i64 x10, .int .u32 0, .int .u32 0, .slice none 0 0, .slice none 0 0, .slice none 0 0, .int .u64 0, .int .i64 G_0, .int .i64 o_1, v25] 33, .box b7 #[.int .i64 0, .int .u32 0, .int .u32 0, .slice none 0 0, .slice none 0 0, .slice none 0 0, .int .u64 0, .int .i64 0, .int .i64 0, .slice none 0 0] 33] rfl (fun w37 hs => ?_))
  refine Rg.go ?_
  refine Cd.sr ?_
  refine Rg.vN (X.loadN (vals := [.int .i64 x10, .int .u32 0, .int .u32 0, .slice none 0 0, .slice none 0 0, .slice none 0 0, .int .u64 0, .int .i64 G_0, .int .i64 o_1, v25]) Try.underlying33 rfl zz33 rfl (hs.range 1 rfl 0 rfl)) rfl ?_
  refine Rg.step rfl (Oq.storeN hs 2 rfl (vals := [.int .i64 x10, .int .u32 0, .int .u32 0, .slice none 0 0, .slice none 0 0, .slice none 0 0, .int .u64 0, .int .i64 G_0, .int .i64 o_1, v25]) zz33 rfl rfl (one_all ⟨rfl, rfl, rfl, rfl, rfl, rfl, rfl, rfl, rfl, f32.one, trivial⟩) rfl [.app g33 v25 x23.length 5 1, .box b18 #[.int .i64 x10, .int .u32 0, .int .u32 0, .slice none 0 0, .slice none 0 0, .slice none 0 0, .int .u64 0, .int .i64 G_0, .int .i64 o_1, v25] 33, .box b7 #[.int .i64 x10, .int .u32 0, .int .u32 0, .slice none 0 0, .slice none 0 0, .slice none 0 0, .int .u64 0, .int .i64 G_0, .int .i64 o_1, v25] 33] rfl (fun w38 hs => ?_))
  refine Rg.vN (X.assign rfl) rfl ?_
  refine Rg.go ?_
  refine Cd.weak [(6, .pointer (some ⟨b7, 0, none⟩)), (7, .bool true)] ⟨rfl, rfl, trivial⟩ ?_
  refine Cd.ret ?_
  have e := some_s h0
  subst e
  exact fun a ha => Cd.retA (P := Try.prog) (fn := Try.f61) (R := Re (Po61 S0 w0 [] _)) ha Try.results61 ⟨_, _, _, rfl, rfl, run_lvN (vals := [.int .i64 x10, .int .u32 0, .int .u32 0, .slice none 0 0, .slice none 0 0, .slice none 0 0, .int .u64 0, .int .i64 G_0, .int .i64 o_1, v25]) Try.underlying33 rfl zz33 (hs.range 2 rfl 0 rfl), ⟨_, _, rfl, rfl, rfl⟩⟩ ⟨_, rfl, S28, (.slice none 0 0), (.slice none 0 0), (.slice none 0 0), v25, rfl, (hs.pick [] (by decide) rfl), (Rd.nil _ _ _), (Rd.nil _ _ _), (Rd.nil _ _ _), f32⟩
 ·have h0 := ite_f hc22 h0
  refine Cd.sg ?_
  refine Cd.sr ?_
  refine Rg.vN (X.move rfl) rfl ?_
  refine Rg.vN (X.build (zc := [.slice none 0 0, .int .i64 0, .bool false]) (cells := [v1, .int .i64 0, .bool false]) ii101 rfl rfl Try.underlying101 (pp101 _ Try.underlying101) ⟨_, [v1], _, rfl, rfl, (f2.mono le17).cells, rfl⟩ rfl) rfl ?_
  refine Rg.step rfl (Oq.box (cs := #[v1, .int .i64 0, .bool false]) hs rfl rfl rfl (fun b39 w40 hs => ?_))
  refine Rg.vN (X.assign rfl) rfl ?_
  refine Rg.go ?_
  refine Cd.sr ?_
  refine Rg.vN (X.move rfl) rfl ?_
  obtain ⟨x42, hx43, h0⟩ := bind_s h0
  refine Rg.step rfl (Oq.call Try.call72 rfl rfl (c72 S15 _ (⟨p_2, 0, false⟩ : rtcp_reader) _ (f2.mono le17) _ (hs.enter 0 rfl rfl) _ hx43) (fun v44 w45 h46 => ?_))
  obtain ⟨S47, v50, rfl, hs48, f51⟩ := h46
  have _ := 0
  have le49 : Le S15 S47 := hs48.le
  have hs := hs.call1 0 rfl rfl hs48
  refine Rg.vN (X.conv Try.underlying30 Try.underlying27 rfl) rfl ?_
  refine Rg.vN (X.fieldB Try.underlying33 rfl zz27 rfl rfl) rfl ?_
  refine Rg.step rfl (Oq.store hs 1 rfl 1 zz27 rfl rfl rfl rfl rfl [.box b39 #[v50, .int .i64 x42.2.at_, .bool x42.2.bad_] 101, .box b18 #[.int .i64 x10, .int .u32 (cv .u32 x42.1), .int .u32 0, .slice none 0 0, .slice none 0 0, .slice none 0 0, .int .u64 0, .int .i64 0, .int .i64 0, .slice none 0 0] 33, .box b7 #[.int .i64 0, .int .u32 0, .int .u32 0, .slice none 0 0, .slice none 0 0, .slice none 0 0, .int .u64 0, .int .i64 0, .int .i64 0, .slice none 0 0] 33] rfl (fun w52 hs => ?_))
  refine Rg.go ?_
  refine Cd.seq ?_
  refine Cd.sr ?_
  refine Rg.vN (X.fieldB Try.underlying33 rfl zz3 rfl rfl) rfl ?_
  refine Rg.vN (X.load1 Try.underlying3 rfl rfl (hs.cell 1 rfl 0 rfl)) rfl ?_
  refine Rg.vN (X.neq rfl rfl) rfl ?_
  refine Rg.go ?_
  refine Cd.weak [(2, v1), (6, .pointer (some ⟨b7, 0, none⟩)), (8, .pointer (some ⟨b18, 0, none⟩)), (9, .pointer (some ⟨b39, 0, none⟩)), (34, .bool (x10 != 3))] ⟨rfl, rfl, rfl, rfl, rfl, trivial⟩ ?_
  obtain ⟨p56, hp57, h0⟩ := bind_s h0
  obtain ⟨j53, j54, j55⟩ := p56
  dsimp only at h0
  refine Cd.post (fun K w => ∃ (S58 : Mp) (v61 : Value), K = [(2, v1), (6, .pointer (some ⟨b7, 0, none⟩)), (8, .pointer (some ⟨b18, 0, none⟩)), (9, .pointer (some ⟨b39, 0, none⟩))] ∧ Le S47 S58 ∧ St w0 [] S0 S58 [.box b39 #[v61, .int .i64 j54, .bool j55] 101, .box b18 #[.int .i64 x10, .int .u32 (cv .u32 x42.1), .int .u32 0, .slice none 0 0, .slice none 0 0, .slice none 0 0, .int .u64 0, .int .i64 0, .int .i64 0, .slice none 0 0] 33, .box b7 #[.int .i64 0, .int .u32 0, .int .u32 0, .slice none 0 0, .slice none 0 0, .slice none 0 0, .int .u64 0, .int .i64 0, .int .i64 0, .slice none 0 0] 33] w ∧ Rd S58 1 (RI .u8) v61 j53) ?_ ?_
  ·rintro K63 w59 ⟨S58, v61, rfl, le60, hs, f62⟩
   refine Cd.go ?_
   refine Cd.seq ?_
   refine Cd.sr ?_
   refine Rg.vN (X.fieldB Try.underlying33 rfl zz3 rfl rfl) rfl ?_
   refine Rg.vN (X.load1 Try.underlying3 rfl rfl (hs.cell 1 rfl 0 rfl)) rfl ?_
   refine Rg.go ?_
   have hs := hs.nil 27 1
   obtain ⟨p78, hp79, h0⟩ := bind_s h0
   obtain ⟨j65, j66, j67, j68, j69, j70, j71, j72, j73, j74, j75, j76, j77⟩ := p78
   dsimp only at h0
   refine Cd.post (fun K w => ∃ (S80 : Mp) (v83 : Value) (v85 : Value) (v87 : Value) (g89 : Option Nat) (v91 : Value) (v93 : Value), K = [(2, v1), (6, .pointer (some ⟨b7, 0, none⟩)), (8, .pointer (some ⟨b18, 0, none⟩)), (9, .pointer (some ⟨b39, 0, none⟩))] ∧ Le S58 S80 ∧ St w0 [] S0 S80 [.box b39 #[v83, .int .i64 j66, .bool j67] 101, .box b18 #[.int .i64 j68, .int .u32 j69, .int .u32 j70, v85, v87, v91, .int .u64 j74, .int .i64 j75, .int .i64 j76, v93] 33, .box b7 #[.int .i64 0, .int .u32 0, .int .u32 0, .slice none 0 0, .slice none 0 0, .slice none 0 0, .int .u64 0, .int .i64 0, .int .i64 0, .slice none 0 0] 33, .app g89 v87 j72.length 27 1] w ∧ Rd S80 1 (RI .u8) v83 j65 ∧ Rd S80 3 R_api_Tuple v85 j71 ∧ Rd S80 1 (RI .u32) v87 j72 ∧ Rd S80 1 (RI .i64) v91 j73 ∧ Rd S80 1 (RI .u8) v93 j77) ?_ ?_
   ·rintro K95 w81 ⟨S80, v83, v85, v87, g89, v91, v93, rfl, le82, hs, f84, f86, f88, f92, f94⟩
    refine Cd.go ?_
    refine Cd.seq ?_
    have hs := hs.nil 27 1
    obtain ⟨p108, hp109, h0⟩ := bind_s h0
    obtain ⟨j97, j98, j99, j100, j101, j102, j103, j104, j105, j106, j107⟩ := p108
    dsimp only at h0
    refine Cd.post (fun K w => ∃ (S110 : Mp) (v113 : Value) (v115 : Value) (g117 : Option Nat) (v119 : Value) (v121 : Value), K = [(6, .pointer (some ⟨b7, 0, none⟩)), (7, .bool j97)] ∧ Le S80 S110 ∧ St w0 [] S0 S110 [.box b7 #[.int .i64 j98, .int .u32 j99, .int .u32 j100, v113, v115, v119, .int .u64 j104, .int .i64 j105, .int .i64 j106, v121] 33, .app g117 v115 j102.length 27 1] w ∧ Rd S110 3 R_api_Tuple v113 j101 ∧ Rd S110 1 (RI .u32) v115 j102 ∧ Rd S110 1 (RI .i64) v119 j103 ∧ Rd S110 1 (RI .u8) v121 j107) ?_ ?_
    ·rintro K123 w111 ⟨S110, v113, v115, g117, v119, v121, rfl, le112, hs, f114, f116, f120, f122⟩
     refine Cd.go ?_
     refine Cd.ret ?_
     have e := some_s h0
     subst e
     exact fun a ha => Cd.retA (P := Try.prog) (fn := Try.f61) (R := Re (Po61 S0 w0 [] _)) ha Try.results61 ⟨_, _, _, rfl, rfl, run_lvN (vals := [.int .i64 j98, .int .u32 j99, .int .u32 j100, v113, v115, v119, .int .u64 j104, .int .i64 j105, .int .i64 j106, v121]) Try.underlying33 rfl zz33 (hs.range 0 rfl 0 rfl), ⟨_, _, rfl, rfl, rfl⟩⟩ ⟨_, rfl, S110, v113, v115, v119, v121, rfl, (hs.pick [] (by decide) rfl), f114, f116, f120, f122⟩
    ·skip
     refine Cd.rD mixed (fun l w => Has S80 w ∧ Hp b39 #[v83, .int .i64 j66, .bool j67] 101 w ∧ Hp b18 #[.int .i64 j68, .int .u32 j69, .int .u32 j70, v85, v87, v91, .int .u64 j74, .int .i64 j75, .int .i64 j76, v93] 33 w) hs (fun _ _ _ _ _ h => h) (by kernel_rfl) (fun w124 hs => ⟨⟨hs.has, (hs.heap 1 rfl), (hs.heap 2 rfl)⟩, ?_⟩)
     refine Rk.tN 0 rfl (by kernel_rfl) rfl (fun w hc => X.loadN (vals := [.int .i64 j68, .int .u32 j69, .int .u32 j70, v85, v87, v91, .int .u64 j74, .int .i64 j75, .int .i64 j76, v93]) Try.underlying33 rfl zz33 rfl (heap_range hc.2.2 0 rfl)) ?_
     refine Rk.tN 1 rfl (by kernel_rfl) rfl (fun _ _ => X.move rfl) ?_
     refine Rk.tN 2 rfl (by kernel_rfl) rfl (fun _ _ => X.nilCheck rfl) ?_
     refine Rk.tN 3 rfl (by kernel_rfl) rfl (fun _ _ => X.fieldB Try.underlying101 rfl zz4 rfl rfl) ?_
     refine Rk.tN 4 rfl (by kernel_rfl) rfl (fun w hc => X.load1 Try.underlying4 rfl rfl (heap_cell hc.2.1 rfl)) ?_
     refine Rk.tN 5 rfl (by kernel_rfl) rfl (fun _ _ => X.not rfl) ?_
     refine Rk.tN 6 rfl (by kernel_rfl) rfl (fun _ _ => X.move rfl) ?_
     refine Rk.tT 7 rfl (by kernel_rfl) rfl rfl rfl (fun hW => fun _ _ => X.move rfl) ?_
     refine Rk.tT 8 rfl (by kernel_rfl) rfl rfl rfl (fun hW => fun _ _ => X.nilCheck (ev_g rfl hW)) ?_
     refine Rk.tT 9 rfl (by kernel_rfl) rfl rfl rfl (fun hW => fun _ _ => X.fieldB Try.underlying101 rfl zz3 (ev_g rfl hW) rfl) ?_
     refine Rk.tT 10 rfl (by kernel_rfl) rfl rfl rfl (fun hW => fun w hc => X.load1 Try.underlying3 rfl (ev_g rfl hW) (heap_cell hc.2.1 rfl)) ?_
     refine Rk.weak [(2, v1), (6, .pointer (some ⟨b7, 0, none⟩)), (115, .agg (#[.int .i64 j68, .int .u32 j69, .int .u32 j70, v85, v87, v91, .int .u64 j74, .int .i64 j75, .int .i64 j76, v93])), (121, .bool (!j67)), (125, gv (!j67) (.int .i64 j66))] ⟨rfl, rfl, rfl, rfl, rfl, trivial⟩ ?_
     refine Rk.tT 11 rfl (by kernel_rfl) rfl rfl rfl (fun hW => fun _ _ => X.move rfl) ?_
     refine Rk.tT 12 rfl (by kernel_rfl) rfl rfl rfl (fun hW => fun _ _ => X.lenR Try.underlying31 (ev_g rfl hW) (f2.mono (le17.trans (le49.trans (le60.trans le82))))) ?_
     refine Rk.tT 13 rfl (by kernel_rfl) rfl rfl rfl (fun hW => fun _ _ => X.eql (ev_g rfl hW) (ev_g rfl hW)) ?_
     refine Rk.tN 14 rfl (by kernel_rfl) rfl (fun _ _ => X.pickAnd rfl rfl rfl) ?_
     refine Rk.eN 15 rfl (by kernel_rfl) rfl (Oq.storeN hs 3 rfl (vals := [.int .i64 j68, .int .u32 j69, .int .u32 j70, v85, v87, v91, .int .u64 j74, .int .i64 j75, .int .i64 j76, v93]) zz33 rfl rfl (one_all ⟨rfl, rfl, rfl, f86.one, f88.one, f92.one, rfl, rfl, rfl, f94.one, trivial⟩) rfl [.app none (.slice none 0 0) ([] : List Int).length 27 1, .box b39 #[v83, .int .i64 j66, .bool j67] 101, .box b18 #[.int .i64 j68, .int .u32 j69, .int .u32 j70, v85, v87, v91, .int .u64 j74, .int .i64 j75, .int .i64 j76, v93] 33, .box b7 #[.int .i64 j68, .int .u32 j69, .int .u32 j70, v85, v87, v91, .int .u64 j74, .int .i64 j75, .int .i64 j76, v93] 33, .app g89 v87 j72.length 27 1] rfl (fun w125 hs => ?_))
     refine ⟨⟨hs.has, (hs.heap 1 rfl), (hs.heap 2 rfl)⟩, ?_⟩
     refine Rk.tN 16 rfl (by kernel_rfl) rfl (fun _ _ => X.assign rfl) ?_
     refine Rk.done (by kernel_rfl) ?_
     have e := some_s hp109
     cases e
     exact fun a ha => ⟨[(6, .pointer (some ⟨b7, 0, none⟩)), (7, .bool ((!j67) && (j66 == (p_2.length : Int))))], ha.weak ⟨rfl, rfl, trivial⟩, S80, v85, v87, g89, v91, v93, rfl, Le.refl _, (hs.pick [3, 4] (by decide) rfl), f86, f88, f92, f94⟩
   ·skip
    refine Cd.block ?_
    refine Cd.seq ?_
    refine Cd.sr ?_
    refine Rg.vN (X.eql rfl rfl) rfl ?_
    refine Rg.vN (X.assign rfl) rfl ?_
    refine Rg.go ?_
    obtain ⟨p127, hp128, hp79⟩ := bind_s hp79
    refine Cd.post (fun K w => ∃ (S129 : Mp), K = [(2, v1), (6, .pointer (some ⟨b7, 0, none⟩)), (8, .pointer (some ⟨b18, 0, none⟩)), (9, .pointer (some ⟨b39, 0, none⟩)), (38, .int .i64 x10), (39, .bool p127)] ∧ Le S58 S129 ∧ St w0 [] S0 S129 [.box b39 #[v61, .int .i64 j54, .bool j55] 101, .box b18 #[.int .i64 x10, .int .u32 (cv .u32 x42.1), .int .u32 0, .slice none 0 0, .slice none 0 0, .slice none 0 0, .int .u64 0, .int .i64 0, .int .i64 0, .slice none 0 0] 33, .box b7 #[.int .i64 0, .int .u32 0, .int .u32 0, .slice none 0 0, .slice none 0 0, .slice none 0 0, .int .u64 0, .int .i64 0, .int .i64 0, .slice none 0 0] 33] w) ?_ ?_
    ·rintro K132 w130 ⟨S129, rfl, le131, hs⟩
     refine Cd.go ?_
     have hs := hs.nil 27 1
     obtain ⟨p147, hp148, hp79⟩ := bind_s hp79
     obtain ⟨j134, j135, j136, j137, j138, j139, j140, j141, j142, j143, j144, j145, j146⟩ := p147
     dsimp only at hp79
     refine Cd.post (fun K w => ∃ (S149 : Mp) (v152 : Value) (v154 : Value) (v156 : Value) (g158 : Option Nat) (v160 : Value) (v162 : Value), K = [(2, v1), (6, .pointer (some ⟨b7, 0, none⟩)), (8, .pointer (some ⟨b18, 0, none⟩)), (9, .pointer (some ⟨b39, 0, none⟩))] ∧ Le S129 S149 ∧ St w0 [] S0 S149 [.box b39 #[v152, .int .i64 j135, .bool j136] 101, .box b18 #[.int .i64 j137, .int .u32 j138, .int .u32 j139, v154, v156, v160, .int .u64 j143, .int .i64 j144, .int .i64 j145, v162] 33, .box b7 #[.int .i64 0, .int .u32 0, .int .u32 0, .slice none 0 0, .slice none 0 0, .slice none 0 0, .int .u64 0, .int .i64 0, .int .i64 0, .slice none 0 0] 33, .app g158 v156 j141.length 27 1] w ∧ Rd S149 1 (RI .u8) v152 j134 ∧ Rd S149 3 R_api_Tuple v154 j140 ∧ Rd S149 1 (RI .u32) v156 j141 ∧ Rd S149 1 (RI .i64) v160 j142 ∧ Rd S149 1 (RI .u8) v162 j146) ?_ ?_
     ·rintro K164 w150 ⟨S149, v152, v154, v156, g158, v160, v162, rfl, le151, hs, f153, f155, f157, f161, f163⟩
      have e := some_s hp79
      cases e
      exact fun a ha => ⟨[(2, v1), (6, .pointer (some ⟨b7, 0, none⟩)), (8, .pointer (some ⟨b18, 0, none⟩)), (9, .pointer (some ⟨b39, 0, none⟩))], ha.weak ⟨rfl, rfl, rfl, rfl, trivial⟩, S149, v152, v154, v156, g158, v160, v162, rfl, (le131.trans le151), hs, f153, f155, f157, f161, f163⟩
     ·skip
      refine Cd.cond (t := p127) rfl (fun hc165 => ?_) (fun hc165 => ?_)
      ·have hp148 := ite_t hc165 hp148
       refine Cd.seq ?_
       have hs := hs.nil 57 3
       obtain ⟨fl167, hfl168, hp148⟩ := bind_s hp148
       refine Cd.post (fun K w => ∃ (j169 : (List Int)) (j170 : Int) (j171 : Bool) (j172 : (List api_Tuple)) (S173 : Mp) (v175 : Value) (v177 : Value) (g179 : Option Nat), K = [(2, v1), (6, .pointer (some ⟨b7, 0, none⟩)), (8, .pointer (some ⟨b18, 0, none⟩)), (9, .pointer (some ⟨b39, 0, none⟩))] ∧ fl167 = Flow.brk (j169, j170, j171, j172) ∧ Le S129 S173 ∧ St w0 [] S0 S173 [.box b39 #[v175, .int .i64 j170, .bool j171] 101, .box b18 #[.int .i64 x10, .int .u32 (cv .u32 x42.1), .int .u32 0, v177, .slice none 0 0, .slice none 0 0, .int .u64 0, .int .i64 0, .int .i64 0, .slice none 0 0] 33, .box b7 #[.int .i64 0, .int .u32 0, .int .u32 0, .slice none 0 0, .slice none 0 0, .slice none 0 0, .int .u64 0, .int .i64 0, .int .i64 0, .slice none 0 0] 33, .app g179 v177 j172.length 57 3] w ∧ Rd S173 1 (RI .u8) v175 j169 ∧ Rd S173 3 R_api_Tuple v177 j172) ?_ ?_
       ·rintro K182 w181 ⟨j169, j170, j171, j172, S173, v175, v177, g179, rfl, rfl, le174, hs, f176, f178⟩
        have hp148 := el_brk hp148
        try dsimp only at hp148
        refine Cd.go ?_
        refine Cd.region ?_
        refine Rg.vN (X.move rfl) rfl ?_
        refine Rg.vN (X.move rfl) rfl ?_
        refine Rg.vN (X.nilCheck rfl) rfl ?_
        refine Rg.vN (X.fieldB Try.underlying101 rfl zz4 rfl rfl) rfl ?_
        refine Rg.vN (X.load1 Try.underlying4 rfl rfl (hs.cell 0 rfl 2 rfl)) rfl ?_
        refine Rg.vN (X.move rfl) rfl ?_
        refine Rg.weak [(2, v1), (6, .pointer (some ⟨b7, 0, none⟩)), (8, .pointer (some ⟨b18, 0, none⟩)), (9, .pointer (some ⟨b39, 0, none⟩)), (51, .pointer (some ⟨b39, 0, none⟩)), (56, .bool j171)] ⟨rfl, rfl, rfl, rfl, rfl, rfl, trivial⟩ ?_
        refine Rg.vF rfl rfl rfl (fun hW => X.fieldB Try.underlying33 rfl zz28 rfl rfl) ?_
        refine Rg.vF rfl rfl rfl (fun hW => X.load1 Try.underlying28 rfl (ev_g rfl hW) (hs.cell 1 rfl 3 rfl)) ?_
        refine Rg.vF rfl rfl rfl (fun hW => X.lenR Try.underlying28 (ev_g rfl hW) f178) ?_
        refine Rg.vF rfl rfl rfl (fun hW => X.gtr (ev_g rfl hW) rfl) ?_
        refine Rg.vN (X.pickOr rfl rfl rfl) rfl ?_
        refine Rg.vN (X.nilCheck rfl) rfl ?_
        refine Rg.vN (X.fieldB Try.underlying101 rfl zz4 rfl rfl) rfl ?_
        refine Rg.step rfl (Oq.store hs 0 rfl 2 zz4 rfl rfl rfl rfl rfl [.box b39 #[v175, .int .i64 j170, .bool (j171 || (decide (6 < (j172.length : Int))))] 101, .box b18 #[.int .i64 x10, .int .u32 (cv .u32 x42.1), .int .u32 0, v177, .slice none 0 0, .slice none 0 0, .int .u64 0, .int .i64 0, .int .i64 0, .slice none 0 0] 33, .box b7 #[.int .i64 0, .int .u32 0, .int .u32 0, .slice none 0 0, .slice none 0 0, .slice none 0 0, .int .u64 0, .int .i64 0, .int .i64 0, .slice none 0 0] 33, .app g179 v177 j172.length 57 3] rfl (fun w183 hs => ?_))
        refine Rg.nil ?_
        have hs := hs.nil 27 1
        have e := some_s hp148
        cases e
        exact fun a ha => ⟨[(2, v1), (6, .pointer (some ⟨b7, 0, none⟩)), (8, .pointer (some ⟨b18, 0, none⟩)), (9, .pointer (some ⟨b39, 0, none⟩))], ha.weak ⟨rfl, rfl, rfl, rfl, trivial⟩, S173, v175, v177, (.slice none 0 0), none, (.slice none 0 0), (.slice none 0 0), rfl, le174, (hs.pick [1, 2, 3, 0] (by decide) rfl), f176, f178, (Rd.nil _ _ _), (Rd.nil _ _ _), (Rd.nil _ _ _)⟩
       ·skip
        refine Cd.weak [(2, v1), (6, .pointer (some ⟨b7, 0, none⟩)), (8, .pointer (some ⟨b18, 0, none⟩)), (9, .pointer (some ⟨b39, 0, none⟩))] ⟨rfl, rfl, rfl, rfl, trivial⟩ ?_
        refine Cd.block (Cd.loop (fun sg => rtcp_parse_l0 sg.1 sg.2.1 sg.2.2.1 sg.2.2.2) (fun (sg : ((List Int) × Int × Bool × (List api_Tuple))) K w => ∃ (S189 : Mp) (v191 : Value) (v193 : Value) (g195 : Option Nat), K = [(2, v1), (6, .pointer (some ⟨b7, 0, none⟩)), (8, .pointer (some ⟨b18, 0, none⟩)), (9, .pointer (some ⟨b39, 0, none⟩))] ∧ Le S129 S189 ∧ St w0 [] S0 S189 [.box b39 #[v191, .int .i64 sg.2.1, .bool sg.2.2.1] 101, .box b18 #[.int .i64 x10, .int .u32 (cv .u32 x42.1), .int .u32 0, v193, .slice none 0 0, .slice none 0 0, .int .u64 0, .int .i64 0, .int .i64 0, .slice none 0 0] 33, .box b7 #[.int .i64 0, .int .u32 0, .int .u32 0, .slice none 0 0, .slice none 0 0, .slice none 0 0, .int .u64 0, .int .i64 0, .int .i64 0, .slice none 0 0] 33, .app g195 v193 sg.2.2.2.length 57 3] w ∧ Rd S189 1 (RI .u8) v191 sg.1 ∧ Rd S189 3 R_api_Tuple v193 sg.2.2.2) (j53, j54, j55, ([] : List api_Tuple)) fl167 hfl168 ⟨S129, v61, (.slice none 0 0), none, rfl, Le.refl _, (hs.pick [2, 3, 4, 0] (by decide) rfl), (f62.mono le131), (Rd.nil _ _ _)⟩ ?_)
        rintro ⟨q185, q186, q187, q188⟩ fl197 K202 w201 hb198 ⟨S189, v191, v193, g195, rfl, le190, hs, f192, f194⟩ hl199
        have h200 : rtcp_parse_l0 q185 q186 q187 q188 = some fl197 := hb198
        unfold rtcp_parse_l0 at h200
        refine Cd.seq ?_
        refine Cd.sr ?_
        refine Rg.vN (X.move rfl) rfl ?_
        obtain ⟨x203, hx204, h200⟩ := bind_s h200
        refine Rg.step rfl (Oq.call Try.call74 rfl rfl (c74 S189 _ (⟨q185, q186, q187⟩ : rtcp_reader) _ f192 (hs.enter 0 rfl rfl) _ hx204) (fun v205 w206 h207 => ?_))
        obtain ⟨S208, v211, rfl, hs209, f212⟩ := h207
        have _ := 0
        have le210 : Le S189 S208 := hs209.le
        have hs := hs.call1 0 rfl rfl hs209
        refine Rg.go ?_
        refine Cd.cond (t := x203.1) rfl (fun hc213 => ?_) (fun hc213 => ?_)
        ·have h200 := ite_t hc213 h200
         refine Cd.sg ?_
         obtain ⟨p218, hp219, h200⟩ := bind_s h200
         obtain ⟨j214, j215, j216, j217⟩ := p218
         dsimp only at h200
         refine Cd.post (fun K w => ∃ (S220 : Mp) (v223 : Value) (v225 : Value) (g227 : Option Nat), K = [(2, v1), (6, .pointer (some ⟨b7, 0, none⟩)), (8, .pointer (some ⟨b18, 0, none⟩)), (9, .pointer (some ⟨b39, 0, none⟩))] ∧ Le S208 S220 ∧ St w0 [] S0 S220 [.box b39 #[v223, .int .i64 j215, .bool j216] 101, .box b18 #[.int .i64 x10, .int .u32 (cv .u32 x42.1), .int .u32 0, v225, .slice none 0 0, .slice none 0 0, .int .u64 0, .int .i64 0, .int .i64 0, .slice none 0 0] 33, .box b7 #[.int .i64 0, .int .u32 0, .int .u32 0, .slice none 0 0, .slice none 0 0, .slice none 0 0, .int .u64 0, .int .i64 0, .int .i64 0, .slice none 0 0] 33, .app g227 v225 j217.length 57 3] w ∧ Rd S220 1 (RI .u8) v223 j214 ∧ Rd S220 3 R_api_Tuple v225 j217) ?_ ?_
         ·rintro K229 w221 ⟨S220, v223, v225, g227, rfl, le222, hs, f224, f226⟩
          exact fun a ha => ⟨(j214, j215, j216, j217), [(2, v1), (6, .pointer (some ⟨b7, 0, none⟩)), (8, .pointer (some ⟨b18, 0, none⟩)), (9, .pointer (some ⟨b39, 0, none⟩))], (some_s h200).symm, ha.weak ⟨rfl, rfl, rfl, rfl, trivial⟩, S220, v223, v225, g227, rfl, (le190.trans (le210.trans le222)), hs, f224, f226⟩
         ·skip
          refine Cd.block ?_
          obtain ⟨p234, hp235, hp219⟩ := bind_s hp219
          obtain ⟨j230, j231, j232, j233⟩ := p234
          dsimp only at hp219
          refine Cd.post (fun K w => ∃ (S236 : Mp) (v239 : Value) (v241 : Value) (g243 : Option Nat), K = [(2, v1), (6, .pointer (some ⟨b7, 0, none⟩)), (8, .pointer (some ⟨b18, 0, none⟩)), (9, .pointer (some ⟨b39, 0, none⟩))] ∧ Le S208 S236 ∧ St w0 [] S0 S236 [.box b39 #[v239, .int .i64 j231, .bool j232] 101, .box b18 #[.int .i64 x10, .int .u32 (cv .u32 x42.1), .int .u32 0, v241, .slice none 0 0, .slice none 0 0, .int .u64 0, .int .i64 0, .int .i64 0, .slice none 0 0] 33, .box b7 #[.int .i64 0, .int .u32 0, .int .u32 0, .slice none 0 0, .slice none 0 0, .slice none 0 0, .int .u64 0, .int .i64 0, .int .i64 0, .slice none 0 0] 33, .app g243 v241 j233.length 57 3] w ∧ Rd S236 1 (RI .u8) v239 j230 ∧ Rd S236 3 R_api_Tuple v241 j233) ?_ ?_
          ·rintro K245 w237 ⟨S236, v239, v241, g243, rfl, le238, hs, f240, f242⟩
           have e := some_s hp219
           cases e
           exact fun a ha => ⟨[(2, v1), (6, .pointer (some ⟨b7, 0, none⟩)), (8, .pointer (some ⟨b18, 0, none⟩)), (9, .pointer (some ⟨b39, 0, none⟩))], ha.weak ⟨rfl, rfl, rfl, rfl, trivial⟩, S236, v239, v241, g243, rfl, le238, hs, f240, f242⟩
          ·skip
           refine Cd.rD mixed (fun l w => Has S208 w ∧ (l.getD 7 false = false → Hp b18 #[.int .i64 x10, .int .u32 (cv .u32 x42.1), .int .u32 0, v193, .slice none 0 0, .slice none 0 0, .int .u64 0, .int .i64 0, .int .i64 0, .slice none 0 0] 33 w)) hs (fun _ _ _ _ _ h => h) (by kernel_rfl) (fun w246 hs => ⟨⟨hs.has, (fun _ => hs.heap 1 rfl)⟩, ?_⟩)
           refine Rk.uN 0 rfl (by kernel_rfl) rfl (fun _ _ => by simp only [getD_set_ne false (show (0 : Nat) ≠ 7 by decide)]) (fun l w hl hcl hc => X.fieldB Try.underlying33 rfl zz28 rfl rfl) ?_
           refine Rk.uN 1 rfl (by kernel_rfl) rfl (fun _ _ => by simp only [getD_set_ne false (show (1 : Nat) ≠ 7 by decide)]) (fun l w hl hcl hc => X.load1 Try.underlying28 rfl rfl (heap_cell (hc.2 (hcl.lt rfl (by kernel_rfl) hl)) rfl)) ?_
           refine Rk.uN 2 rfl (by kernel_rfl) rfl (fun _ _ => by simp only [getD_set_ne false (show (2 : Nat) ≠ 7 by decide)]) (fun l w hl hcl hc => X.move rfl) ?_
           obtain ⟨x247, hx248, hp235⟩ := bind_s hp235
           refine Rk.eN 3 rfl (by kernel_rfl) rfl (Oq.call Try.call75 rfl rfl (c75 S208 _ (⟨x203.2.b_, x203.2.at_, x203.2.bad_⟩ : rtcp_reader) _ f212 (hs.enter 0 rfl rfl) _ hx248) (fun v249 w250 h251 => ?_))
           obtain ⟨S252, v255, rfl, hs253, f256⟩ := h251
           have _ := 0
           have le254 : Le S208 S252 := hs253.le
           have hs := hs.call1 0 rfl rfl hs253
           refine ⟨⟨(hs.has.down le254), (fun _ => hs.heap 1 rfl)⟩, Rk.mk (C' := fun l w => Has S252 w ∧ (l.getD 7 false = false → Hp b18 #[.int .i64 x10, .int .u32 (cv .u32 x42.1), .int .u32 0, v193, .slice none 0 0, .slice none 0 0, .int .u64 0, .int .i64 0, .int .i64 0, .slice none 0 0] 33 w)) ⟨hs.has, (fun _ => hs.heap 1 rfl)⟩ (fun l w hc => ⟨hc.1.down le254, hc.2⟩) ?_⟩
           refine Rk.eN 4 rfl (by kernel_rfl) rfl (Oq.lit (sz := 3) (cs0 := [.int .u32 0, .int .u64 0, .int .i64 0]) (cells := [.int .u32 x247.1.Owner, .int .u64 x247.1.Rate, .int .i64 x247.1.Over]) hs Try.underlying28 ii57 rfl rfl rfl rfl rfl rfl ⟨_, [.int .u32 x247.1.Owner, .int .u64 x247.1.Rate, .int .i64 x247.1.Over], _, rfl, rfl, rfl, rfl⟩ rfl rfl rfl (fun b257 w258 S259 hs le260 hE261 => ?_))
           have f263 : Rd S259 3 R_api_Tuple (.slice (some ⟨b257, 0, none⟩) 1 1) ([x247.1] : List api_Tuple) := Rd.of_cells (xs := ([x247.1] : List api_Tuple)) ⟨[.int .u32 x247.1.Owner, .int .u64 x247.1.Rate, .int .i64 x247.1.Over], _, rfl, rfl, one_all ⟨rfl, rfl, rfl, trivial⟩, rfl, rfl⟩ hE261 (Nat.le_of_ble_eq_true rfl) (Nat.le_of_ble_eq_true rfl)
           refine ⟨⟨(hs.has.down le260), (fun _ => hs.heap 2 rfl)⟩, Rk.mk (C' := fun l w => Has S259 w ∧ (l.getD 7 false = false → Hp b18 #[.int .i64 x10, .int .u32 (cv .u32 x42.1), .int .u32 0, v193, .slice none 0 0, .slice none 0 0, .int .u64 0, .int .i64 0, .int .i64 0, .slice none 0 0] 33 w)) ⟨hs.has, (fun _ => hs.heap 2 rfl)⟩ (fun l w hc => ⟨hc.1.down le260, hc.2⟩) ?_⟩
           obtain ⟨y264, hx265, hp235⟩ := bind_s hp235
           refine Rk.eN 5 rfl (by kernel_rfl) rfl (Oq.appendS hs 4 rfl Try.underlying28 ii57 rfl rfl rfl rfl rfl rfl (f194.mono (le210.trans (le254.trans le260))) f263 hx265 rfl rfl rfl (fun v266 w267 S268 g269 hs le270 f271 => ?_))
           refine ⟨⟨(hs.has.down le270), (fun _ => hs.heap 2 rfl)⟩, Rk.mk (C' := fun l w => Has S268 w ∧ (l.getD 7 false = false → Hp b18 #[.int .i64 x10, .int .u32 (cv .u32 x42.1), .int .u32 0, v193, .slice none 0 0, .slice none 0 0, .int .u64 0, .int .i64 0, .int .i64 0, .slice none 0 0] 33 w)) ⟨hs.has, (fun _ => hs.heap 2 rfl)⟩ (fun l w hc => ⟨hc.1.down le270, hc.2⟩) ?_⟩
           refine Rk.uN 6 rfl (by kernel_rfl) rfl (fun _ _ => by simp only [getD_set_ne false (show (6 : Nat) ≠ 7 by decide)]) (fun l w hl hcl hc => X.fieldB Try.underlying33 rfl zz28 rfl rfl) ?_
           refine Rk.eN 7 rfl (by kernel_rfl) rfl (Oq.store hs 2 rfl 3 zz28 rfl rfl f271.cells f271.one rfl [.app (some b257) (.slice (some ⟨b257, 0, none⟩) 1 1) ([x247.1] : List api_Tuple).length 57 3, .box b39 #[v255, .int .i64 x247.2.at_, .bool x247.2.bad_] 101, .box b18 #[.int .i64 x10, .int .u32 (cv .u32 x42.1), .int .u32 0, v266, .slice none 0 0, .slice none 0 0, .int .u64 0, .int .i64 0, .int .i64 0, .slice none 0 0] 33, .box b7 #[.int .i64 0, .int .u32 0, .int .u32 0, .slice none 0 0, .slice none 0 0, .slice none 0 0, .int .u64 0, .int .i64 0, .int .i64 0, .slice none 0 0] 33, .app g269 v266 y264.length 57 3] rfl (fun w272 hs => ?_))
           refine ⟨⟨hs.has, (fun h => absurd h (by decide))⟩, ?_⟩
           refine Rk.done (by kernel_rfl) ?_
           have e := some_s hp235
           cases e
           exact fun a ha => ⟨[(2, v1), (6, .pointer (some ⟨b7, 0, none⟩)), (8, .pointer (some ⟨b18, 0, none⟩)), (9, .pointer (some ⟨b39, 0, none⟩))], ha.weak ⟨rfl, rfl, rfl, rfl, trivial⟩, S268, v255, v266, g269, rfl, (le254.trans (le260.trans le270)), (hs.pick [1, 2, 3, 4] (by decide) rfl), (f256.mono (le260.trans le270)), f271⟩
        ·have h200 := ite_f hc213 h200
         refine Cd.exit ?_
         have e := some_s h200
         subst e
         have e := hl199 (fun _ e => by cases e)
         exact fun a ha => ⟨[(2, v1), (6, .pointer (some ⟨b7, 0, none⟩)), (8, .pointer (some ⟨b18, 0, none⟩)), (9, .pointer (some ⟨b39, 0, none⟩))], ha.weak ⟨rfl, rfl, rfl, rfl, trivial⟩, _, _, _, _, S208, v211, v193, g195, rfl, e.symm, (le190.trans le210), hs, f212, (f194.mono le210)⟩
      ·have hp148 := ite_f hc165 hp148
       refine Cd.sr ?_
       refine Rg.vN (X.eql rfl rfl) rfl ?_
       refine Rg.vN (X.assign rfl) rfl ?_
       refine Rg.go ?_
       obtain ⟨p289, hp290, hp148⟩ := bind_s hp148
       obtain ⟨j276, j277, j278, j279, j280, j281, j282, j283, j284, j285, j286, j287, j288⟩ := p289
       dsimp only at hp148
       refine Cd.post (fun K w => ∃ (S291 : Mp) (v294 : Value) (v296 : Value) (v298 : Value) (g300 : Option Nat) (v302 : Value) (v304 : Value), K = [(2, v1), (6, .pointer (some ⟨b7, 0, none⟩)), (8, .pointer (some ⟨b18, 0, none⟩)), (9, .pointer (some ⟨b39, 0, none⟩))] ∧ Le S129 S291 ∧ St w0 [] S0 S291 [.box b39 #[v294, .int .i64 j277, .bool j278] 101, .box b18 #[.int .i64 j279, .int .u32 j280, .int .u32 j281, v296, v298, v302, .int .u64 j285, .int .i64 j286, .int .i64 j287, v304] 33, .box b7 #[.int .i64 0, .int .u32 0, .int .u32 0, .slice none 0 0, .slice none 0 0, .slice none 0 0, .int .u64 0, .int .i64 0, .int .i64 0, .slice none 0 0] 33, .app g300 v298 j283.length 27 1] w ∧ Rd S291 1 (RI .u8) v294 j276 ∧ Rd S291 3 R_api_Tuple v296 j282 ∧ Rd S291 1 (RI .u32) v298 j283 ∧ Rd S291 1 (RI .i64) v302 j284 ∧ Rd S291 1 (RI .u8) v304 j288) ?_ ?_
       ·rintro K306 w292 ⟨S291, v294, v296, v298, g300, v302, v304, rfl, le293, hs, f295, f297, f299, f303, f305⟩
        have e := some_s hp148
        cases e
        exact fun a ha => ⟨[(2, v1), (6, .pointer (some ⟨b7, 0, none⟩)), (8, .pointer (some ⟨b18, 0, none⟩)), (9, .pointer (some ⟨b39, 0, none⟩))], ha.weak ⟨rfl, rfl, rfl, rfl, trivial⟩, S291, v294, v296, v298, g300, v302, v304, rfl, le293, hs, f295, f297, f299, f303, f305⟩
       ·skip
        refine Cd.cond (t := x10 == 3) rfl (fun hc307 => ?_) (fun hc307 => ?_)
        ·have hp290 := ite_t hc307 hp290
         refine Cd.region ?_
         refine Rg.vN (X.move rfl) rfl ?_
         obtain ⟨x308, hx309, hp290⟩ := bind_s hp290
         refine Rg.step rfl (Oq.call Try.call72 rfl rfl (c72 S129 _ (⟨j53, j54, j55⟩ : rtcp_reader) _ (f62.mono le131) _ (hs.enter 1 rfl rfl) _ hx309) (fun v310 w311 h312 => ?_))
         obtain ⟨S313, v316, rfl, hs314, f317⟩ := h312
         have _ := 0
         have le315 : Le S129 S313 := hs314.le
         have hs := hs.call1 1 rfl rfl hs314
         refine Rg.vN (X.conv Try.underlying30 Try.underlying27 rfl) rfl ?_
         refine Rg.vN (X.fieldB Try.underlying33 rfl zz27 rfl rfl) rfl ?_
         refine Rg.step rfl (Oq.store hs 2 rfl 2 zz27 rfl rfl rfl rfl rfl [.box b39 #[v316, .int .i64 x308.2.at_, .bool x308.2.bad_] 101, .app none (.slice none 0 0) ([] : List Int).length 27 1, .box b18 #[.int .i64 x10, .int .u32 (cv .u32 x42.1), .int .u32 (cv .u32 x308.1), .slice none 0 0, .slice none 0 0, .slice none 0 0, .int .u64 0, .int .i64 0, .int .i64 0, .slice none 0 0] 33, .box b7 #[.int .i64 0, .int .u32 0, .int .u32 0, .slice none 0 0, .slice none 0 0, .slice none 0 0, .int .u64 0, .int .i64 0, .int .i64 0, .slice none 0 0] 33] rfl (fun w318 hs => ?_))
         refine Rg.nil ?_
         have e := some_s hp290
         cases e
         exact fun a ha => ⟨[(2, v1), (6, .pointer (some ⟨b7, 0, none⟩)), (8, .pointer (some ⟨b18, 0, none⟩)), (9, .pointer (some ⟨b39, 0, none⟩))], ha.weak ⟨rfl, rfl, rfl, rfl, trivial⟩, S313, v316, (.slice none 0 0), (.slice none 0 0), none, (.slice none 0 0), (.slice none 0 0), rfl, le315, (hs.pick [0, 2, 3, 1] (by decide) rfl), f317, (Rd.nil _ _ _), (Rd.nil _ _ _), (Rd.nil _ _ _), (Rd.nil _ _ _)⟩
        ·have hp290 := ite_f hc307 hp290
         refine Cd.sr ?_
         refine Rg.vN (X.eql rfl rfl) rfl ?_
         refine Rg.vN (X.assign rfl) rfl ?_
         refine Rg.go ?_
         obtain ⟨p332, hp333, hp290⟩ := bind_s hp290
         obtain ⟨j319, j320, j321, j322, j323, j324, j325, j326, j327, j328, j329, j330, j331⟩ := p332
         dsimp only at hp290
         refine Cd.post (fun K w => ∃ (S334 : Mp) (v337 : Value) (v339 : Value) (v341 : Value) (g343 : Option Nat) (v345 : Value) (v347 : Value), K = [(2, v1), (6, .pointer (some ⟨b7, 0, none⟩)), (8, .pointer (some ⟨b18, 0, none⟩)), (9, .pointer (some ⟨b39, 0, none⟩))] ∧ Le S129 S334 ∧ St w0 [] S0 S334 [.box b39 #[v337, .int .i64 j320, .bool j321] 101, .box b18 #[.int .i64 j322, .int .u32 j323, .int .u32 j324, v339, v341, v345, .int .u64 j328, .int .i64 j329, .int .i64 j330, v347] 33, .box b7 #[.int .i64 0, .int .u32 0, .int .u32 0, .slice none 0 0, .slice none 0 0, .slice none 0 0, .int .u64 0, .int .i64 0, .int .i64 0, .slice none 0 0] 33, .app g343 v341 j326.length 27 1] w ∧ Rd S334 1 (RI .u8) v337 j319 ∧ Rd S334 3 R_api_Tuple v339 j325 ∧ Rd S334 1 (RI .u32) v341 j326 ∧ Rd S334 1 (RI .i64) v345 j327 ∧ Rd S334 1 (RI .u8) v347 j331) ?_ ?_
         ·rintro K349 w335 ⟨S334, v337, v339, v341, g343, v345, v347, rfl, le336, hs, f338, f340, f342, f346, f348⟩
          have e := some_s hp290
          cases e
          exact fun a ha => ⟨[(2, v1), (6, .pointer (some ⟨b7, 0, none⟩)), (8, .pointer (some ⟨b18, 0, none⟩)), (9, .pointer (some ⟨b39, 0, none⟩))], ha.weak ⟨rfl, rfl, rfl, rfl, trivial⟩, S334, v337, v339, v341, g343, v345, v347, rfl, le336, hs, f338, f340, f342, f346, f348⟩
         ·skip
          refine Cd.cond (t := x10 == 4) rfl (fun hc350 => ?_) (fun hc350 => ?_)
          ·have hp333 := ite_t hc350 hp333
           refine Cd.seq ?_
           have hs := hs.nil 3 1
           obtain ⟨fl352, hfl353, hp333⟩ := bind_s hp333
           refine Cd.post (fun K w => ∃ (j354 : (List Int)) (j355 : Int) (j356 : Bool) (j357 : (List Int)) (j358 : (List Int)) (S359 : Mp) (v361 : Value) (v363 : Value) (g365 : Option Nat) (v367 : Value) (g369 : Option Nat), K = [(2, v1), (6, .pointer (some ⟨b7, 0, none⟩)), (8, .pointer (some ⟨b18, 0, none⟩)), (9, .pointer (some ⟨b39, 0, none⟩))] ∧ fl352 = Flow.brk (j354, j355, j356, j357, j358) ∧ Le S129 S359 ∧ St w0 [] S0 S359 [.box b39 #[v361, .int .i64 j355, .bool j356] 101, .box b18 #[.int .i64 x10, .int .u32 (cv .u32 x42.1), .int .u32 0, .slice none 0 0, v363, v367, .int .u64 0, .int .i64 0, .int .i64 0, .slice none 0 0] 33, .box b7 #[.int .i64 0, .int .u32 0, .int .u32 0, .slice none 0 0, .slice none 0 0, .slice none 0 0, .int .u64 0, .int .i64 0, .int .i64 0, .slice none 0 0] 33, .app g365 v363 j357.length 27 1, .app g369 v367 j358.length 3 1] w ∧ Rd S359 1 (RI .u8) v361 j354 ∧ Rd S359 1 (RI .u32) v363 j357 ∧ Rd S359 1 (RI .i64) v367 j358) ?_ ?_
           ·rintro K372 w371 ⟨j354, j355, j356, j357, j358, S359, v361, v363, g365, v367, g369, rfl, rfl, le360, hs, f362, f364, f368⟩
            have hp333 := el_brk hp333
            try dsimp only at hp333
            refine Cd.go ?_
            refine Cd.region ?_
            refine Rg.vN (X.move rfl) rfl ?_
            refine Rg.vN (X.move rfl) rfl ?_
            refine Rg.weak [(2, v1), (6, .pointer (some ⟨b7, 0, none⟩)), (8, .pointer (some ⟨b18, 0, none⟩)), (9, .pointer (some ⟨b39, 0, none⟩)), (92, .pointer (some ⟨b39, 0, none⟩)), (93, .pointer (some ⟨b39, 0, none⟩))] ⟨rfl, rfl, rfl, rfl, rfl, rfl, trivial⟩ ?_
            refine Rg.vN (X.nilCheck rfl) rfl ?_
            refine Rg.vN (X.fieldB Try.underlying101 rfl zz4 rfl rfl) rfl ?_
            refine Rg.vN (X.load1 Try.underlying4 rfl rfl (hs.cell 0 rfl 2 rfl)) rfl ?_
            refine Rg.vN (X.move rfl) rfl ?_
            refine Rg.vF rfl rfl rfl (fun hW => X.fieldB Try.underlying33 rfl zz29 rfl rfl) ?_
            refine Rg.vF rfl rfl rfl (fun hW => X.load1 Try.underlying29 rfl (ev_g rfl hW) (hs.cell 1 rfl 4 rfl)) ?_
            refine Rg.vF rfl rfl rfl (fun hW => X.lenR Try.underlying29 (ev_g rfl hW) f364) ?_
            refine Rg.vF rfl rfl rfl (fun hW => X.lss (ev_g rfl hW) rfl) ?_
            refine Rg.vN (X.pickOr rfl rfl rfl) rfl ?_
            refine Rg.weak [(2, v1), (6, .pointer (some ⟨b7, 0, none⟩)), (8, .pointer (some ⟨b18, 0, none⟩)), (9, .pointer (some ⟨b39, 0, none⟩)), (92, .pointer (some ⟨b39, 0, none⟩)), (102, .bool (j356 || (decide ((j357.length : Int) < 1))))] ⟨rfl, rfl, rfl, rfl, rfl, rfl, trivial⟩ ?_
            refine Rg.vN (X.move rfl) rfl ?_
            refine Rg.vF rfl rfl rfl (fun hW => X.fieldB Try.underlying33 rfl zz29 rfl rfl) ?_
            refine Rg.vF rfl rfl rfl (fun hW => X.load1 Try.underlying29 rfl (ev_g rfl hW) (hs.cell 1 rfl 4 rfl)) ?_
            refine Rg.vF rfl rfl rfl (fun hW => X.lenR Try.underlying29 (ev_g rfl hW) f364) ?_
            refine Rg.vF rfl rfl rfl (fun hW => X.gtr (ev_g rfl hW) rfl) ?_
            refine Rg.vN (X.pickOr rfl rfl rfl) rfl ?_
            refine Rg.vN (X.nilCheck rfl) rfl ?_
            refine Rg.vN (X.fieldB Try.underlying101 rfl zz4 rfl rfl) rfl ?_
            refine Rg.step rfl (Oq.store hs 0 rfl 2 zz4 rfl rfl rfl rfl rfl [.box b39 #[v361, .int .i64 j355, .bool ((j356 || (decide ((j357.length : Int) < 1))) || (decide (16 < (j357.length : Int))))] 101, .box b18 #[.int .i64 x10, .int .u32 (cv .u32 x42.1), .int .u32 0, .slice none 0 0, v363, v367, .int .u64 0, .int .i64 0, .int .i64 0, .slice none 0 0] 33, .box b7 #[.int .i64 0, .int .u32 0, .int .u32 0, .slice none 0 0, .slice none 0 0, .slice none 0 0, .int .u64 0, .int .i64 0, .int .i64 0, .slice none 0 0] 33, .app g365 v363 j357.length 27 1, .app g369 v367 j358.length 3 1] rfl (fun w373 hs => ?_))
            refine Rg.nil ?_
            have e := some_s hp333
            cases e
            exact fun a ha => ⟨[(2, v1), (6, .pointer (some ⟨b7, 0, none⟩)), (8, .pointer (some ⟨b18, 0, none⟩)), (9, .pointer (some ⟨b39, 0, none⟩))], ha.weak ⟨rfl, rfl, rfl, rfl, trivial⟩, S359, v361, (.slice none 0 0), v363, g365, v367, (.slice none 0 0), rfl, le360, (hs.pick [0, 1, 2, 3] (by decide) rfl), f362, (Rd.nil _ _ _), f364, f368, (Rd.nil _ _ _)⟩
           ·skip
            refine Cd.weak [(2, v1), (6, .pointer (some ⟨b7, 0, none⟩)), (8, .pointer (some ⟨b18, 0, none⟩)), (9, .pointer (some ⟨b39, 0, none⟩))] ⟨rfl, rfl, rfl, rfl, trivial⟩ ?_
            refine Cd.block (Cd.loop (fun sg => rtcp_parse_l1 sg.1 sg.2.1 sg.2.2.1 sg.2.2.2.1 sg.2.2.2.2) (fun (sg : ((List Int) × Int × Bool × (List Int) × (List Int))) K w => ∃ (S379 : Mp) (v381 : Value) (v383 : Value) (g385 : Option Nat) (v387 : Value) (g389 : Option Nat), K = [(2, v1), (6, .pointer (some ⟨b7, 0, none⟩)), (8, .pointer (some ⟨b18, 0, none⟩)), (9, .pointer (some ⟨b39, 0, none⟩))] ∧ Le S129 S379 ∧ St w0 [] S0 S379 [.box b39 #[v381, .int .i64 sg.2.1, .bool sg.2.2.1] 101, .box b18 #[.int .i64 x10, .int .u32 (cv .u32 x42.1), .int .u32 0, .slice none 0 0, v383, v387, .int .u64 0, .int .i64 0, .int .i64 0, .slice none 0 0] 33, .box b7 #[.int .i64 0, .int .u32 0, .int .u32 0, .slice none 0 0, .slice none 0 0, .slice none 0 0, .int .u64 0, .int .i64 0, .int .i64 0, .slice none 0 0] 33, .app g385 v383 sg.2.2.2.1.length 27 1, .app g389 v387 sg.2.2.2.2.length 3 1] w ∧ Rd S379 1 (RI .u8) v381 sg.1 ∧ Rd S379 1 (RI .u32) v383 sg.2.2.2.1 ∧ Rd S379 1 (RI .i64) v387 sg.2.2.2.2) (j53, j54, j55, ([] : List Int), ([] : List Int)) fl352 hfl353 ⟨S129, v61, (.slice none 0 0), none, (.slice none 0 0), none, rfl, Le.refl _, (hs.pick [2, 3, 4, 1, 0] (by decide) rfl), (f62.mono le131), (Rd.nil _ _ _), (Rd.nil _ _ _)⟩ ?_)
            rintro ⟨q374, q375, q376, q377, q378⟩ fl391 K396 w395 hb392 ⟨S379, v381, v383, g385, v387, g389, rfl, le380, hs, f382, f384, f388⟩ hl393
            have h394 : rtcp_parse_l1 q374 q375 q376 q377 q378 = some fl391 := hb392
            unfold rtcp_parse_l1 at h394
            refine Cd.seq ?_
            refine Cd.sr ?_
            refine Rg.vN (X.move rfl) rfl ?_
            obtain ⟨x397, hx398, h394⟩ := bind_s h394
            refine Rg.step rfl (Oq.call Try.call74 rfl rfl (c74 S379 _ (⟨q374, q375, q376⟩ : rtcp_reader) _ f382 (hs.enter 0 rfl rfl) _ hx398) (fun v399 w400 h401 => ?_))
            obtain ⟨S402, v405, rfl, hs403, f406⟩ := h401
            have _ := 0
            have le404 : Le S379 S402 := hs403.le
            have hs := hs.call1 0 rfl rfl hs403
            refine Rg.go ?_
            refine Cd.cond (t := x397.1) rfl (fun hc407 => ?_) (fun hc407 => ?_)
            ·have h394 := ite_t hc407 h394
             refine Cd.sg ?_
             obtain ⟨p413, hp414, h394⟩ := bind_s h394
             obtain ⟨j408, j409, j410, j411, j412⟩ := p413
             dsimp only at h394
             refine Cd.post (fun K w => ∃ (S415 : Mp) (v418 : Value) (v420 : Value) (g422 : Option Nat) (v424 : Value) (g426 : Option Nat), K = [(2, v1), (6, .pointer (some ⟨b7, 0, none⟩)), (8, .pointer (some ⟨b18, 0, none⟩)), (9, .pointer (some ⟨b39, 0, none⟩))] ∧ Le S402 S415 ∧ St w0 [] S0 S415 [.box b39 #[v418, .int .i64 j409, .bool j410] 101, .box b18 #[.int .i64 x10, .int .u32 (cv .u32 x42.1), .int .u32 0, .slice none 0 0, v420, v424, .int .u64 0, .int .i64 0, .int .i64 0, .slice none 0 0] 33, .box b7 #[.int .i64 0, .int .u32 0, .int .u32 0, .slice none 0 0, .slice none 0 0, .slice none 0 0, .int .u64 0, .int .i64 0, .int .i64 0, .slice none 0 0] 33, .app g422 v420 j411.length 27 1, .app g426 v424 j412.length 3 1] w ∧ Rd S415 1 (RI .u8) v418 j408 ∧ Rd S415 1 (RI .u32) v420 j411 ∧ Rd S415 1 (RI .i64) v424 j412) ?_ ?_
             ·rintro K428 w416 ⟨S415, v418, v420, g422, v424, g426, rfl, le417, hs, f419, f421, f425⟩
              exact fun a ha => ⟨(j408, j409, j410, j411, j412), [(2, v1), (6, .pointer (some ⟨b7, 0, none⟩)), (8, .pointer (some ⟨b18, 0, none⟩)), (9, .pointer (some ⟨b39, 0, none⟩))], (some_s h394).symm, ha.weak ⟨rfl, rfl, rfl, rfl, trivial⟩, S415, v418, v420, g422, v424, g426, rfl, (le380.trans (le404.trans le417)), hs, f419, f421, f425⟩
             ·skip
              refine Cd.block ?_
              refine Cd.seq ?_
              obtain ⟨p433, hp434, hp414⟩ := bind_s hp414
              obtain ⟨j429, j430, j431, j432⟩ := p433
              dsimp only at hp414
              refine Cd.post (fun K w => ∃ (S435 : Mp) (v438 : Value) (v440 : Value) (g442 : Option Nat), K = [(2, v1), (6, .pointer (some ⟨b7, 0, none⟩)), (8, .pointer (some ⟨b18, 0, none⟩)), (9, .pointer (some ⟨b39, 0, none⟩))] ∧ Le S402 S435 ∧ St w0 [] S0 S435 [.box b39 #[v438, .int .i64 j430, .bool j431] 101, .box b18 #[.int .i64 x10, .int .u32 (cv .u32 x42.1), .int .u32 0, .slice none 0 0, v440, v387, .int .u64 0, .int .i64 0, .int .i64 0, .slice none 0 0] 33, .box b7 #[.int .i64 0, .int .u32 0, .int .u32 0, .slice none 0 0, .slice none 0 0, .slice none 0 0, .int .u64 0, .int .i64 0, .int .i64 0, .slice none 0 0] 33, .app g389 v387 q378.length 3 1, .app g442 v440 j432.length 27 1] w ∧ Rd S435 1 (RI .u8) v438 j429 ∧ Rd S435 1 (RI .u32) v440 j432) ?_ ?_
              ·rintro K444 w436 ⟨S435, v438, v440, g442, rfl, le437, hs, f439, f441⟩
               refine Cd.go ?_
               refine Cd.seq ?_
               obtain ⟨p449, hp450, hp414⟩ := bind_s hp414
               obtain ⟨j445, j446, j447, j448⟩ := p449
               dsimp only at hp414
               refine Cd.post (fun K w => ∃ (S451 : Mp) (v454 : Value) (v456 : Value) (g458 : Option Nat), K = [(2, v1), (6, .pointer (some ⟨b7, 0, none⟩)), (8, .pointer (some ⟨b18, 0, none⟩)), (9, .pointer (some ⟨b39, 0, none⟩))] ∧ Le S435 S451 ∧ St w0 [] S0 S451 [.box b39 #[v454, .int .i64 j446, .bool j447] 101, .box b18 #[.int .i64 x10, .int .u32 (cv .u32 x42.1), .int .u32 0, .slice none 0 0, v440, v456, .int .u64 0, .int .i64 0, .int .i64 0, .slice none 0 0] 33, .box b7 #[.int .i64 0, .int .u32 0, .int .u32 0, .slice none 0 0, .slice none 0 0, .slice none 0 0, .int .u64 0, .int .i64 0, .int .i64 0, .slice none 0 0] 33, .app g442 v440 j432.length 27 1, .app g458 v456 j448.length 3 1] w ∧ Rd S451 1 (RI .u8) v454 j445 ∧ Rd S451 1 (RI .i64) v456 j448) ?_ ?_
               ·rintro K460 w452 ⟨S451, v454, v456, g458, rfl, le453, hs, f455, f457⟩
                refine Cd.go ?_
                refine Cd.region ?_
                refine Rg.vN (X.move rfl) rfl ?_
                obtain ⟨x461, hx462, hp414⟩ := bind_s hp414
                refine Rg.step rfl (Oq.call Try.call73 rfl rfl (c73 S451 _ (⟨j445, j446, j447⟩ : rtcp_reader) _ f455 _ (hs.enter 0 rfl rfl) _ hx462) (fun v463 w464 h465 => ?_))
                obtain ⟨S466, v469, rfl, hs467, f470⟩ := h465
                have _ := 0
                have le468 : Le S451 S466 := hs467.le
                have hs := hs.call1 0 rfl rfl hs467
                refine Rg.nil ?_
                have e := some_s hp414
                cases e
                exact fun a ha => ⟨[(2, v1), (6, .pointer (some ⟨b7, 0, none⟩)), (8, .pointer (some ⟨b18, 0, none⟩)), (9, .pointer (some ⟨b39, 0, none⟩))], ha.weak ⟨rfl, rfl, rfl, rfl, trivial⟩, S466, v469, v440, g442, v456, g458, rfl, (le437.trans (le453.trans le468)), hs, f470, (f441.mono (le453.trans le468)), (f457.mono le468)⟩
               ·skip
                refine Cd.rD mixed (fun l w => Has S435 w ∧ (l.getD 8 false = false → Hp b18 #[.int .i64 x10, .int .u32 (cv .u32 x42.1), .int .u32 0, .slice none 0 0, v440, v387, .int .u64 0, .int .i64 0, .int .i64 0, .slice none 0 0] 33 w)) hs (fun _ _ _ _ _ h => h) (by kernel_rfl) (fun w471 hs => ⟨⟨hs.has, (fun _ => hs.heap 1 rfl)⟩, ?_⟩)
                refine Rk.uN 0 rfl (by kernel_rfl) rfl (fun _ _ => by simp only [getD_set_ne false (show (0 : Nat) ≠ 8 by decide)]) (fun l w hl hcl hc => X.fieldB Try.underlying33 rfl zz23 rfl rfl) ?_
                refine Rk.uN 1 rfl (by kernel_rfl) rfl (fun _ _ => by simp only [getD_set_ne false (show (1 : Nat) ≠ 8 by decide)]) (fun l w hl hcl hc => X.load1 Try.underlying23 rfl rfl (heap_cell (hc.2 (hcl.lt rfl (by kernel_rfl) hl)) rfl)) ?_
                refine Rk.uN 2 rfl (by kernel_rfl) rfl (fun _ _ => by simp only [getD_set_ne false (show (2 : Nat) ≠ 8 by decide)]) (fun l w hl hcl hc => X.move rfl) ?_
                obtain ⟨x472, hx473, hp450⟩ := bind_s hp450
                refine Rk.eN 3 rfl (by kernel_rfl) rfl (Oq.call Try.call72 rfl rfl (c72 S435 _ (⟨j429, j430, j431⟩ : rtcp_reader) _ f439 _ (hs.enter 0 rfl rfl) _ hx473) (fun v474 w475 h476 => ?_))
                obtain ⟨S477, v480, rfl, hs478, f481⟩ := h476
                have _ := 0
                have le479 : Le S435 S477 := hs478.le
                have hs := hs.call1 0 rfl rfl hs478
                refine ⟨⟨(hs.has.down le479), (fun _ => hs.heap 1 rfl)⟩, Rk.mk (C' := fun l w => Has S477 w ∧ (l.getD 8 false = false → Hp b18 #[.int .i64 x10, .int .u32 (cv .u32 x42.1), .int .u32 0, .slice none 0 0, v440, v387, .int .u64 0, .int .i64 0, .int .i64 0, .slice none 0 0] 33 w)) ⟨hs.has, (fun _ => hs.heap 1 rfl)⟩ (fun l w hc => ⟨hc.1.down le479, hc.2⟩) ?_⟩
                refine Rk.weak [(2, v1), (6, .pointer (some ⟨b7, 0, none⟩)), (8, .pointer (some ⟨b18, 0, none⟩)), (9, .pointer (some ⟨b39, 0, none⟩)), (83, v387), (85, .int .u64 x472.1)] ⟨rfl, rfl, rfl, rfl, rfl, rfl, trivial⟩ ?_
                refine Rk.uN 4 rfl (by kernel_rfl) rfl (fun _ _ => by simp only [getD_set_ne false (show (4 : Nat) ≠ 8 by decide)]) (fun l w hl hcl hc => X.conv Try.underlying30 Try.underlying3 rfl) ?_
                refine Rk.eN 5 rfl (by kernel_rfl) rfl (Oq.lit (sz := 1) (cs0 := [.int .i64 0]) (cells := [.int .i64 (cv .i64 x472.1)]) hs Try.underlying23 ii3 rfl rfl rfl rfl rfl rfl ⟨_, [.int .i64 (cv .i64 x472.1)], _, rfl, rfl, rfl, rfl⟩ rfl rfl rfl (fun b482 w483 S484 hs le485 hE486 => ?_))
                have f488 : Rd S484 1 (RI .i64) (.slice (some ⟨b482, 0, none⟩) 1 1) ([cv .i64 x472.1] : List Int) := Rd.of_cells (xs := ([cv .i64 x472.1] : List Int)) ⟨[.int .i64 (cv .i64 x472.1)], _, rfl, rfl, one_all ⟨rfl, trivial⟩, rfl, rfl⟩ hE486 (Nat.le_of_ble_eq_true rfl) (Nat.le_of_ble_eq_true rfl)
                refine ⟨⟨(hs.has.down le485), (fun _ => hs.heap 2 rfl)⟩, Rk.mk (C' := fun l w => Has S484 w ∧ (l.getD 8 false = false → Hp b18 #[.int .i64 x10, .int .u32 (cv .u32 x42.1), .int .u32 0, .slice none 0 0, v440, v387, .int .u64 0, .int .i64 0, .int .i64 0, .slice none 0 0] 33 w)) ⟨hs.has, (fun _ => hs.heap 2 rfl)⟩ (fun l w hc => ⟨hc.1.down le485, hc.2⟩) ?_⟩
                obtain ⟨y489, hx490, hp450⟩ := bind_s hp450
                refine Rk.eN 6 rfl (by kernel_rfl) rfl (Oq.appendS hs 4 rfl Try.underlying23 ii3 rfl rfl rfl rfl rfl rfl (f388.mono (le404.trans (le437.trans (le479.trans le485)))) f488 hx490 rfl rfl rfl (fun v491 w492 S493 g494 hs le495 f496 => ?_))
                refine ⟨⟨(hs.has.down le495), (fun _ => hs.heap 2 rfl)⟩, Rk.mk (C' := fun l w => Has S493 w ∧ (l.getD 8 false = false → Hp b18 #[.int .i64 x10, .int .u32 (cv .u32 x42.1), .int .u32 0, .slice none 0 0, v440, v387, .int .u64 0, .int .i64 0, .int .i64 0, .slice none 0 0] 33 w)) ⟨hs.has, (fun _ => hs.heap 2 rfl)⟩ (fun l w hc => ⟨hc.1.down le495, hc.2⟩) ?_⟩
                refine Rk.uN 7 rfl (by kernel_rfl) rfl (fun _ _ => by simp only [getD_set_ne false (show (7 : Nat) ≠ 8 by decide)]) (fun l w hl hcl hc => X.fieldB Try.underlying33 rfl zz23 rfl rfl) ?_
                refine Rk.eN 8 rfl (by kernel_rfl) rfl (Oq.store hs 2 rfl 5 zz23 rfl rfl f496.cells f496.one rfl [.app (some b482) (.slice (some ⟨b482, 0, none⟩) 1 1) ([cv .i64 x472.1] : List Int).length 3 1, .box b39 #[v480, .int .i64 x472.2.at_, .bool x472.2.bad_] 101, .box b18 #[.int .i64 x10, .int .u32 (cv .u32 x42.1), .int .u32 0, .slice none 0 0, v440, v491, .int .u64 0, .int .i64 0, .int .i64 0, .slice none 0 0] 33, .box b7 #[.int .i64 0, .int .u32 0, .int .u32 0, .slice none 0 0, .slice none 0 0, .slice none 0 0, .int .u64 0, .int .i64 0, .int .i64 0, .slice none 0 0] 33, .app g494 v491 y489.length 3 1, .app g442 v440 j432.length 27 1] rfl (fun w497 hs => ?_))
                refine ⟨⟨hs.has, (fun h => absurd h (by decide))⟩, ?_⟩
                refine Rk.done (by kernel_rfl) ?_
                have e := some_s hp450
                cases e
                exact fun a ha => ⟨[(2, v1), (6, .pointer (some ⟨b7, 0, none⟩)), (8, .pointer (some ⟨b18, 0, none⟩)), (9, .pointer (some ⟨b39, 0, none⟩))], ha.weak ⟨rfl, rfl, rfl, rfl, trivial⟩, S493, v480, v491, g494, rfl, (le479.trans (le485.trans le495)), (hs.pick [1, 2, 3, 5, 4] (by decide) rfl), (f481.mono (le485.trans le495)), f496⟩
              ·skip
               refine Cd.rD mixed (fun l w => Has S402 w ∧ (l.getD 8 false = false → Hp b18 #[.int .i64 x10, .int .u32 (cv .u32 x42.1), .int .u32 0, .slice none 0 0, v383, v387, .int .u64 0, .int .i64 0, .int .i64 0, .slice none 0 0] 33 w)) hs (fun _ _ _ _ _ h => h) (by kernel_rfl) (fun w498 hs => ⟨⟨hs.has, (fun _ => hs.heap 1 rfl)⟩, ?_⟩)
               refine Rk.uN 0 rfl (by kernel_rfl) rfl (fun _ _ => by simp only [getD_set_ne false (show (0 : Nat) ≠ 8 by decide)]) (fun l w hl hcl hc => X.fieldB Try.underlying33 rfl zz29 rfl rfl) ?_
               refine Rk.uN 1 rfl (by kernel_rfl) rfl (fun _ _ => by simp only [getD_set_ne false (show (1 : Nat) ≠ 8 by decide)]) (fun l w hl hcl hc => X.load1 Try.underlying29 rfl rfl (heap_cell (hc.2 (hcl.lt rfl (by kernel_rfl) hl)) rfl)) ?_
               refine Rk.uN 2 rfl (by kernel_rfl) rfl (fun _ _ => by simp only [getD_set_ne false (show (2 : Nat) ≠ 8 by decide)]) (fun l w hl hcl hc => X.move rfl) ?_
               obtain ⟨x499, hx500, hp434⟩ := bind_s hp434
               refine Rk.eN 3 rfl (by kernel_rfl) rfl (Oq.call Try.call72 rfl rfl (c72 S402 _ (⟨x397.2.b_, x397.2.at_, x397.2.bad_⟩ : rtcp_reader) _ f406 _ (hs.enter 0 rfl rfl) _ hx500) (fun v501 w502 h503 => ?_))
               obtain ⟨S504, v507, rfl, hs505, f508⟩ := h503
               have _ := 0
               have le506 : Le S402 S504 := hs505.le
               have hs := hs.call1 0 rfl rfl hs505
               refine ⟨⟨(hs.has.down le506), (fun _ => hs.heap 1 rfl)⟩, Rk.mk (C' := fun l w => Has S504 w ∧ (l.getD 8 false = false → Hp b18 #[.int .i64 x10, .int .u32 (cv .u32 x42.1), .int .u32 0, .slice none 0 0, v383, v387, .int .u64 0, .int .i64 0, .int .i64 0, .slice none 0 0] 33 w)) ⟨hs.has, (fun _ => hs.heap 1 rfl)⟩ (fun l w hc => ⟨hc.1.down le506, hc.2⟩) ?_⟩
               refine Rk.weak [(2, v1), (6, .pointer (some ⟨b7, 0, none⟩)), (8, .pointer (some ⟨b18, 0, none⟩)), (9, .pointer (some ⟨b39, 0, none⟩)), (75, v383), (77, .int .u64 x499.1)] ⟨rfl, rfl, rfl, rfl, rfl, rfl, trivial⟩ ?_
               refine Rk.uN 4 rfl (by kernel_rfl) rfl (fun _ _ => by simp only [getD_set_ne false (show (4 : Nat) ≠ 8 by decide)]) (fun l w hl hcl hc => X.conv Try.underlying30 Try.underlying27 rfl) ?_
               refine Rk.eN 5 rfl (by kernel_rfl) rfl (Oq.lit (sz := 1) (cs0 := [.int .u32 0]) (cells := [.int .u32 (cv .u32 x499.1)]) hs Try.underlying29 ii27 rfl rfl rfl rfl rfl rfl ⟨_, [.int .u32 (cv .u32 x499.1)], _, rfl, rfl, rfl, rfl⟩ rfl rfl rfl (fun b509 w510 S511 hs le512 hE513 => ?_))
               have f515 : Rd S511 1 (RI .u32) (.slice (some ⟨b509, 0, none⟩) 1 1) ([cv .u32 x499.1] : List Int) := Rd.of_cells (xs := ([cv .u32 x499.1] : List Int)) ⟨[.int .u32 (cv .u32 x499.1)], _, rfl, rfl, one_all ⟨rfl, trivial⟩, rfl, rfl⟩ hE513 (Nat.le_of_ble_eq_true rfl) (Nat.le_of_ble_eq_true rfl)
               refine ⟨⟨(hs.has.down le512), (fun _ => hs.heap 2 rfl)⟩, Rk.mk (C' := fun l w => Has S511 w ∧ (l.getD 8 false = false → Hp b18 #[.int .i64 x10, .int .u32 (cv .u32 x42.1), .int .u32 0, .slice none 0 0, v383, v387, .int .u64 0, .int .i64 0, .int .i64 0, .slice none 0 0] 33 w)) ⟨hs.has, (fun _ => hs.heap 2 rfl)⟩ (fun l w hc => ⟨hc.1.down le512, hc.2⟩) ?_⟩
               obtain ⟨y516, hx517, hp434⟩ := bind_s hp434
               refine Rk.eN 6 rfl (by kernel_rfl) rfl (Oq.appendS hs 4 rfl Try.underlying29 ii27 rfl rfl rfl rfl rfl rfl (f384.mono (le404.trans (le506.trans le512))) f515 hx517 rfl rfl rfl (fun v518 w519 S520 g521 hs le522 f523 => ?_))
               refine ⟨⟨(hs.has.down le522), (fun _ => hs.heap 2 rfl)⟩, Rk.mk (C' := fun l w => Has S520 w ∧ (l.getD 8 false = false → Hp b18 #[.int .i64 x10, .int .u32 (cv .u32 x42.1), .int .u32 0, .slice none 0 0, v383, v387, .int .u64 0, .int .i64 0, .int .i64 0, .slice none 0 0] 33 w)) ⟨hs.has, (fun _ => hs.heap 2 rfl)⟩ (fun l w hc => ⟨hc.1.down le522, hc.2⟩) ?_⟩
               refine Rk.uN 7 rfl (by kernel_rfl) rfl (fun _ _ => by simp only [getD_set_ne false (show (7 : Nat) ≠ 8 by decide)]) (fun l w hl hcl hc => X.fieldB Try.underlying33 rfl zz29 rfl rfl) ?_
               refine Rk.eN 8 rfl (by kernel_rfl) rfl (Oq.store hs 2 rfl 4 zz29 rfl rfl f523.cells f523.one rfl [.app (some b509) (.slice (some ⟨b509, 0, none⟩) 1 1) ([cv .u32 x499.1] : List Int).length 27 1, .box b39 #[v507, .int .i64 x499.2.at_, .bool x499.2.bad_] 101, .box b18 #[.int .i64 x10, .int .u32 (cv .u32 x42.1), .int .u32 0, .slice none 0 0, v518, v387, .int .u64 0, .int .i64 0, .int .i64 0, .slice none 0 0] 33, .box b7 #[.int .i64 0, .int .u32 0, .int .u32 0, .slice none 0 0, .slice none 0 0, .slice none 0 0, .int .u64 0, .int .i64 0, .int .i64 0, .slice none 0 0] 33, .app g521 v518 y516.length 27 1, .app g389 v387 q378.length 3 1] rfl (fun w524 hs => ?_))
               refine ⟨⟨hs.has, (fun h => absurd h (by decide))⟩, ?_⟩
               refine Rk.done (by kernel_rfl) ?_
               have e := some_s hp434
               cases e
               exact fun a ha => ⟨[(2, v1), (6, .pointer (some ⟨b7, 0, none⟩)), (8, .pointer (some ⟨b18, 0, none⟩)), (9, .pointer (some ⟨b39, 0, none⟩))], ha.weak ⟨rfl, rfl, rfl, rfl, trivial⟩, S520, v507, v518, g521, rfl, (le506.trans (le512.trans le522)), (hs.pick [1, 2, 3, 5, 4] (by decide) rfl), (f508.mono (le512.trans le522)), f523⟩
            ·have h394 := ite_f hc407 h394
             refine Cd.exit ?_
             have e := some_s h394
             subst e
             have e := hl393 (fun _ e => by cases e)
             exact fun a ha => ⟨[(2, v1), (6, .pointer (some ⟨b7, 0, none⟩)), (8, .pointer (some ⟨b18, 0, none⟩)), (9, .pointer (some ⟨b39, 0, none⟩))], ha.weak ⟨rfl, rfl, rfl, rfl, trivial⟩, _, _, _, _, _, S402, v405, v383, g385, v387, g389, rfl, e.symm, (le380.trans le404), hs, f406, (f384.mono le404), (f388.mono le404)⟩
          ·have hp333 := ite_f hc350 hp333
           refine Cd.sr ?_
           refine Rg.vN (X.eql rfl rfl) rfl ?_
           refine Rg.vN (X.assign rfl) rfl ?_
           refine Rg.go ?_
           refine Cd.weak [(2, v1), (6, .pointer (some ⟨b7, 0, none⟩)), (8, .pointer (some ⟨b18, 0, none⟩)), (9, .pointer (some ⟨b39, 0, none⟩)), (111, .bool (x10 == 5))] ⟨rfl, rfl, rfl, rfl, rfl, trivial⟩ ?_
           obtain ⟨p541, hp542, hp333⟩ := bind_s hp333
           obtain ⟨j528, j529, j530, j531, j532, j533, j534, j535, j536, j537, j538, j539, j540⟩ := p541
           dsimp only at hp333
           refine Cd.post (fun K w => ∃ (S543 : Mp) (v546 : Value) (v548 : Value) (v550 : Value) (g552 : Option Nat) (v554 : Value) (v556 : Value), K = [(2, v1), (6, .pointer (some ⟨b7, 0, none⟩)), (8, .pointer (some ⟨b18, 0, none⟩)), (9, .pointer (some ⟨b39, 0, none⟩))] ∧ Le S129 S543 ∧ St w0 [] S0 S543 [.box b39 #[v546, .int .i64 j529, .bool j530] 101, .box b18 #[.int .i64 j531, .int .u32 j532, .int .u32 j533, v548, v550, v554, .int .u64 j537, .int .i64 j538, .int .i64 j539, v556] 33, .box b7 #[.int .i64 0, .int .u32 0, .int .u32 0, .slice none 0 0, .slice none 0 0, .slice none 0 0, .int .u64 0, .int .i64 0, .int .i64 0, .slice none 0 0] 33, .app g552 v550 j535.length 27 1] w ∧ Rd S543 1 (RI .u8) v546 j528 ∧ Rd S543 3 R_api_Tuple v548 j534 ∧ Rd S543 1 (RI .u32) v550 j535 ∧ Rd S543 1 (RI .i64) v554 j536 ∧ Rd S543 1 (RI .u8) v556 j540) ?_ ?_
           ·rintro K558 w544 ⟨S543, v546, v548, v550, g552, v554, v556, rfl, le545, hs, f547, f549, f551, f555, f557⟩
            have e := some_s hp333
            cases e
            exact fun a ha => ⟨[(2, v1), (6, .pointer (some ⟨b7, 0, none⟩)), (8, .pointer (some ⟨b18, 0, none⟩)), (9, .pointer (some ⟨b39, 0, none⟩))], ha.weak ⟨rfl, rfl, rfl, rfl, trivial⟩, S543, v546, v548, v550, g552, v554, v556, rfl, le545, hs, f547, f549, f551, f555, f557⟩
           ·skip
            refine Cd.cond (t := x10 == 5) rfl (fun hc559 => ?_) (fun hc559 => ?_)
            ·have hp542 := ite_t hc559 hp542
             refine Cd.region ?_
             refine Rg.vN (X.move rfl) rfl ?_
             obtain ⟨x560, hx561, hp542⟩ := bind_s hp542
             refine Rg.step rfl (Oq.call Try.call76 rfl rfl (c76 S129 _ (⟨j53, j54, j55⟩ : rtcp_reader) _ (f62.mono le131) _ (⟨x10, cv .u32 x42.1, 0, ([] : List api_Tuple), ([] : List Int), ([] : List Int), 0, 0, 0, ([] : List Int)⟩ : api_Report) _ (Rd.nil _ _ _) _ (Rd.nil _ _ _) _ (Rd.nil _ _ _) _ (Rd.nil _ _ _) _ (hs.enterP [1, 2, 0] (by decide) rfl rfl) _ hx561) (fun v562 w563 h564 => ?_))
             obtain ⟨S565, v568, v570, v572, v574, v576, g578, rfl, hs566, f569, f571, f573, f575, f577⟩ := h564
             have _ := 0
             have le567 : Le S129 S565 := hs566.le
             have hs := hs.callP [1, 2, 0] rfl rfl hs566
             refine Rg.nil ?_
             have e := some_s hp542
             cases e
             exact fun a ha => ⟨[(2, v1), (6, .pointer (some ⟨b7, 0, none⟩)), (8, .pointer (some ⟨b18, 0, none⟩)), (9, .pointer (some ⟨b39, 0, none⟩))], ha.weak ⟨rfl, rfl, rfl, rfl, trivial⟩, S565, v568, v570, v572, g578, v574, v576, rfl, le567, (hs.pick [1, 2, 3, 0] (by decide) rfl), f569, f571, f573, f575, f577⟩
            ·have hp542 := ite_f hc559 hp542
             refine Cd.skip ?_
             have e := some_s hp542
             cases e
             exact fun a ha => ⟨[(2, v1), (6, .pointer (some ⟨b7, 0, none⟩)), (8, .pointer (some ⟨b18, 0, none⟩)), (9, .pointer (some ⟨b39, 0, none⟩))], ha.weak ⟨rfl, rfl, rfl, rfl, trivial⟩, S129, v61, (.slice none 0 0), (.slice none 0 0), none, (.slice none 0 0), (.slice none 0 0), rfl, Le.refl _, (hs.pick [1, 2, 3, 0] (by decide) rfl), (f62.mono le131), (Rd.nil _ _ _), (Rd.nil _ _ _), (Rd.nil _ _ _), (Rd.nil _ _ _)⟩
    ·skip
     refine Cd.cond (t := x10 == 1) rfl (fun hc580 => ?_) (fun hc580 => ?_)
     ·have hp128 := ite_t hc580 hp128
      refine Cd.skip ?_
      have e := some_s hp128
      subst e
      exact fun a ha => ⟨[(2, v1), (6, .pointer (some ⟨b7, 0, none⟩)), (8, .pointer (some ⟨b18, 0, none⟩)), (9, .pointer (some ⟨b39, 0, none⟩)), (38, .int .i64 x10), (39, .bool (x10 == 1))], ha.weak ⟨rfl, rfl, rfl, rfl, rfl, rfl, trivial⟩, S58, rfl, Le.refl _, (hs.pick [1, 2, 3] (by decide) rfl)⟩
     ·have hp128 := ite_f hc580 hp128
      refine Cd.region ?_
      refine Rg.vN (X.eql rfl rfl) rfl ?_
      refine Rg.vN (X.assign rfl) rfl ?_
      refine Rg.nil ?_
      have e := some_s hp128
      subst e
      exact fun a ha => ⟨[(2, v1), (6, .pointer (some ⟨b7, 0, none⟩)), (8, .pointer (some ⟨b18, 0, none⟩)), (9, .pointer (some ⟨b39, 0, none⟩)), (38, .int .i64 x10), (39, .bool (x10 == 2))], ha.weak ⟨rfl, rfl, rfl, rfl, rfl, rfl, trivial⟩, S58, rfl, Le.refl _, (hs.pick [1, 2, 3] (by decide) rfl)⟩
  ·skip
   refine Cd.cond (t := x10 != 3) rfl (fun hc581 => ?_) (fun hc581 => ?_)
   ·have hp57 := ite_t hc581 hp57
    refine Cd.region ?_
    refine Rg.vN (X.move rfl) rfl ?_
    obtain ⟨x582, hx583, hp57⟩ := bind_s hp57
    refine Rg.step rfl (Oq.call Try.call73 rfl rfl (c73 S47 _ (⟨x42.2.b_, x42.2.at_, x42.2.bad_⟩ : rtcp_reader) _ f51 _ (hs.enter 0 rfl rfl) _ hx583) (fun v584 w585 h586 => ?_))
    obtain ⟨S587, v590, rfl, hs588, f591⟩ := h586
    have _ := 0
    have le589 : Le S47 S587 := hs588.le
    have hs := hs.call1 0 rfl rfl hs588
    refine Rg.nil ?_
    have e := some_s hp57
    cases e
    exact fun a ha => ⟨[(2, v1), (6, .pointer (some ⟨b7, 0, none⟩)), (8, .pointer (some ⟨b18, 0, none⟩)), (9, .pointer (some ⟨b39, 0, none⟩))], ha.weak ⟨rfl, rfl, rfl, rfl, trivial⟩, S587, v590, rfl, le589, hs, f591⟩
   ·have hp57 := ite_f hc581 hp57
    refine Cd.skip ?_
    have e := some_s hp57
    cases e
    exact fun a ha => ⟨[(2, v1), (6, .pointer (some ⟨b7, 0, none⟩)), (8, .pointer (some ⟨b18, 0, none⟩)), (9, .pointer (some ⟨b39, 0, none⟩))], ha.weak ⟨rfl, rfl, rfl, rfl, trivial⟩, S47, v50, rfl, Le.refl _, hs, f51⟩
noncomputable def rtcp_one (G_0 : (List Int)) : Option (api_Report × Int × Int) :=
 if (decide ((G_0.length : Int) < 4)) = true then (
  some ((⟨0, 0, 0, ([] : List api_Tuple), ([] : List Int), ([] : List Int), 0, 0, 0, ([] : List Int)⟩ : api_Report), 0, 13))
 else (
  (octet_Get G_0 2 2).bind fun x12 =>
  ((
   ((
    if (decide ((G_0.length : Int) < (add .i64 4 (mul .i64 4 (cv .i64 x12.1))))) = true then (
     some (Flow.ret ((⟨0, 0, 0, ([] : List api_Tuple), ([] : List Int), ([] : List Int), 0, 0, 0, ([] : List Int)⟩ : api_Report), 0, 13)))
    else (
     ((
      (ix G_0 0).bind fun x126 =>
      if ((band .u8 x126 192) != 128) = true then (
       some true)
      else (
       (ix G_0 0).bind fun x134 =>
       if ((band .u8 x134 32) != 0) = true then (
        some true)
       else (
        (ix G_0 1).bind fun x142 =>
        if (decide (x142 < 192)) = true then (
         some true)
        else (
         (ix G_0 1).bind fun x150 =>
         some (decide (223 < x150))))) : Option Bool)).bind fun p118 =>
     if p118 = true then (
      some (Flow.ret ((⟨0, 0, 0, ([] : List api_Tuple), ([] : List Int), ([] : List Int), 0, 0, 0, ([] : List Int)⟩ : api_Report), 0, 12)))
     else (
      some (Flow.next ()))) : Option (Flow Unit (api_Report × Int × Int)))).bind fun p109 =>
   Flow.el p109 (fun s157 => (
    some (Flow.next ())))
   (fun s158 => (
    none))
   (fun r159 => (
    some (Flow.ret r159))) : Option (Flow Unit (api_Report × Int × Int)))).bind fun p20 =>
  Flow.el p20 (fun s160 => (
   ((
    (ix G_0 1).bind fun x48 =>
    (ix G_0 0).bind fun x55 =>
    (cutL G_0 4 (add .i64 4 (mul .i64 4 (cv .i64 x12.1)))).bind fun y65 =>
    (rtcp_parse (cv .i64 x48) (cv .i64 (band .u8 x55 31)) y65).bind fun x69 =>
    some (x69.1, x69.2) : Option (api_Report × Bool))).bind fun p28 =>
   if (!p28.2) = true then (
    some ((⟨0, 0, 0, ([] : List api_Tuple), ([] : List Int), ([] : List Int), 0, 0, 0, ([] : List Int)⟩ : api_Report), 0, 12))
   else (
    some ((⟨p28.1.Kind, p28.1.From, p28.1.About, p28.1.Tuples, p28.1.Abouts, p28.1.Numbers, p28.1.Rate, p28.1.Type_, p28.1.Count, p28.1.Body⟩ : api_Report), add .i64 4 (mul .i64 4 (cv .i64 x12.1)), 0))))
  (fun s161 => (
   none))
  (fun r162 => (
   some r162)))
def Po44 (S0 : Mp) (w0 : World) (D : List Nat) (r : (api_Report × Int × Int)) (v : Value) (w1 : World) : Prop :=
  ∃ (S1 : Mp) (v3 : Value) (v4 : Value) (v5 : Value) (v6 : Value), v = .tuple #[.agg (#[.int .i64 r.1.Kind, .int .u32 r.1.From, .int .u32 r.1.About, v3, v4, v5, .int .u64 r.1.Rate, .int .i64 r.1.Type_, .int .i64 r.1.Count, v6]), .int .i64 r.2.1, .int .i64 r.2.2] ∧ St w0 D S0 S1 [] w1 ∧ Rd S1 3 R_api_Tuple v3 r.1.Tuples ∧ Rd S1 1 (RI .u32) v4 r.1.Abouts ∧ Rd S1 1 (RI .i64) v5 r.1.Numbers ∧ Rd S1 1 (RI .u8) v6 r.1.Body
set_option maxHeartbeats 4000000 in
theorem c44 (S0 : Mp) {w0 : World} (hs : St w0 [] S0 S0 [] w0) (G_0 : (List Int)) (v1 : Value) (f2 : Rd S0 1 (RI .u8) v1 G_0) (r : (api_Report × Int × Int)) (h0 : rtcp_one G_0 = some r) :
    Calls Try.prog 44 #[v1] w0 (Re (Po44 S0 w0 [] r)) := by
 unfold rtcp_one at h0
 refine calls_of_cd Try.func44 rfl Try.ntmps44 rfl ?_
 refine Cd.sr ?_
 refine Rg.step rfl (Oq.alloc (cs := #[.int .i64 0, .int .u32 0, .int .u32 0, .slice none 0 0, .slice none 0 0, .slice none 0 0, .int .u64 0, .int .i64 0, .int .i64 0, .slice none 0 0]) hs ii33 rfl rfl rfl (fun b7 w8 hs => ?_))
 refine Rg.vN (X.assign rfl) rfl ?_
 refine Rg.vN (X.assign rfl) rfl ?_
 refine Rg.go ?_
 refine Cd.seq ?_
 refine Cd.sr ?_
 refine Rg.vN (X.move rfl) rfl ?_
 refine Rg.vN (X.lenR Try.underlying31 rfl f2) rfl ?_
 refine Rg.vN (X.lss rfl rfl) rfl ?_
 refine Rg.go ?_
 refine Cd.cond (t := decide ((G_0.length : Int) < 4)) rfl (fun hc10 => ?_) (fun hc10 => ?_)
 ·have h0 := ite_t hc10 h0
  refine Cd.sr ?_
  refine Rg.vN (X.build (zc := [.int .i64 0, .int .u32 0, .int .u32 0, .slice none 0 0, .slice none 0 0, .slice none 0 0, .int .u64 0, .int .i64 0, .int .i64 0, .slice none 0 0]) (cells := [.int .i64 0, .int .u32 0, .int .u32 0, .slice none 0 0, .slice none 0 0, .slice none 0 0, .int .u64 0, .int .i64 0, .int .i64 0, .slice none 0 0]) ii33 rfl rfl Try.underlying33 (pp33 _ Try.underlying33) rfl rfl) rfl ?_
  refine Rg.step rfl (Oq.storeN hs 0 rfl (vals := [.int .i64 0, .int .u32 0, .int .u32 0, .slice none 0 0, .slice none 0 0, .slice none 0 0, .int .u64 0, .int .i64 0, .int .i64 0, .slice none 0 0]) zz33 rfl rfl (one_all ⟨rfl, rfl, rfl, rfl, rfl, rfl, rfl, rfl, rfl, rfl, trivial⟩) rfl [.box b7 #[.int .i64 0, .int .u32 0, .int .u32 0, .slice none 0 0, .slice none 0 0, .slice none 0 0, .int .u64 0, .int .i64 0, .int .i64 0, .slice none 0 0] 33] rfl (fun w11 hs => ?_))
  refine Rg.vN (X.assign rfl) rfl ?_
  refine Rg.vN (X.assign rfl) rfl ?_
  refine Rg.go ?_
  refine Cd.ret ?_
  have e := some_s h0
  subst e
  exact fun a ha => Cd.retA (P := Try.prog) (fn := Try.f44) (R := Re (Po44 S0 w0 [] _)) ha Try.results44 ⟨_, _, _, rfl, rfl, run_lvN (vals := [.int .i64 0, .int .u32 0, .int .u32 0, .slice none 0 0, .slice none 0 0, .slice none 0 0, .int .u64 0, .int .i64 0, .int .i64 0, .slice none 0 0]) Try.underlying33 rfl zz33 (hs.range 0 rfl 0 rfl), ⟨_, _, rfl, rfl, ⟨_, _, rfl, rfl, rfl⟩⟩⟩ ⟨_, rfl, S0, (.slice none 0 0), (.slice none 0 0), (.slice none 0 0), (.slice none 0 0), rfl, (hs.pick [] (by decide) rfl), (Rd.nil _ _ _), (Rd.nil _ _ _), (Rd.nil _ _ _), (Rd.nil _ _ _)⟩
 ·have h0 := ite_f hc10 h0
  refine Cd.sg ?_
  refine Cd.sr ?_
  refine Rg.vN (X.move rfl) rfl ?_
  obtain ⟨x12, hx13, h0⟩ := bind_s h0
  refine Rg.step rfl (Oq.call Try.call60 rfl rfl (c60 S0 (St.start _ _ hs.has) _ _ f2 _ _ _ hx13) (fun v14 w15 h16 => ?_))
  obtain ⟨S17, rfl, hs18⟩ := h16
  have _ := 0
  have le19 : Le S0 S17 := hs18.le
  have hs := hs.call0 hs18
  refine Rg.vN (X.move rfl) rfl ?_
  refine Rg.vN (X.extract rfl rfl) rfl ?_
  refine Rg.vN (X.extract rfl rfl) rfl ?_
  refine Rg.vN (X.assign rfl) rfl ?_
  refine Rg.vN (X.assign rfl) rfl ?_
  refine Rg.go ?_
  refine Cd.sr ?_
  refine Rg.vN (X.move rfl) rfl ?_
  refine Rg.vN (X.conv Try.underlying30 Try.underlying3 rfl) rfl ?_
  refine Rg.vN (X.mul rfl rfl) rfl ?_
  refine Rg.vN (X.add rfl rfl) rfl ?_
  refine Rg.vN (X.assign rfl) rfl ?_
  refine Rg.go ?_
  refine Cd.weak [(0, v1), (2, .pointer (some ⟨b7, 0, none⟩)), (7, .int .i64 (add .i64 4 (mul .i64 4 (cv .i64 x12.1))))] ⟨rfl, rfl, rfl, trivial⟩ ?_
  refine Cd.seq ?_
  obtain ⟨p20, hp21, h0⟩ := bind_s h0
  refine Cd.post (fun K w => ∃ (S22 : Mp), K = [(0, v1), (2, .pointer (some ⟨b7, 0, none⟩)), (7, .int .i64 (add .i64 4 (mul .i64 4 (cv .i64 x12.1))))] ∧ p20 = Flow.next () ∧ Le S17 S22 ∧ St w0 [] S0 S22 [.box b7 #[.int .i64 0, .int .u32 0, .int .u32 0, .slice none 0 0, .slice none 0 0, .slice none 0 0, .int .u64 0, .int .i64 0, .int .i64 0, .slice none 0 0] 33] w) ?_ ?_
  ·rintro K25 w23 ⟨S22, rfl, rfl, le24, hs⟩
   have h0 := el_next h0
   try dsimp only at h0
   refine Cd.go ?_
   refine Cd.seq ?_
   obtain ⟨p28, hp29, h0⟩ := bind_s h0
   obtain ⟨j26, j27⟩ := p28
   dsimp only at h0
   refine Cd.post (fun K w => ∃ (S30 : Mp) (b33 : Nat) (v34 : Value) (v36 : Value) (v38 : Value) (v40 : Value), K = [(2, .pointer (some ⟨b7, 0, none⟩)), (7, .int .i64 (add .i64 4 (mul .i64 4 (cv .i64 x12.1)))), (8, .pointer (some ⟨b33, 0, none⟩)), (9, .bool j27)] ∧ Le S22 S30 ∧ St w0 [] S0 S30 [.box b7 #[.int .i64 0, .int .u32 0, .int .u32 0, .slice none 0 0, .slice none 0 0, .slice none 0 0, .int .u64 0, .int .i64 0, .int .i64 0, .slice none 0 0] 33, .box b33 #[.int .i64 j26.Kind, .int .u32 j26.From, .int .u32 j26.About, v34, v36, v38, .int .u64 j26.Rate, .int .i64 j26.Type_, .int .i64 j26.Count, v40] 33] w ∧ Rd S30 3 R_api_Tuple v34 j26.Tuples ∧ Rd S30 1 (RI .u32) v36 j26.Abouts ∧ Rd S30 1 (RI .i64) v38 j26.Numbers ∧ Rd S30 1 (RI .u8) v40 j26.Body) ?_ ?_
   ·rintro K43 w31 ⟨S30, b33, v34, v36, v38, v40, rfl, le32, hs, f35, f37, f39, f41⟩
    refine Cd.go ?_
    refine Cd.seq ?_
    refine Cd.sr ?_
    refine Rg.vN (X.move rfl) rfl ?_
    refine Rg.vN (X.not rfl) rfl ?_
    refine Rg.go ?_
    refine Cd.cond (t := !j27) rfl (fun hc44 => ?_) (fun hc44 => ?_)
    ·have h0 := ite_t hc44 h0
     refine Cd.sr ?_
     refine Rg.vN (X.build (zc := [.int .i64 0, .int .u32 0, .int .u32 0, .slice none 0 0, .slice none 0 0, .slice none 0 0, .int .u64 0, .int .i64 0, .int .i64 0, .slice none 0 0]) (cells := [.int .i64 0, .int .u32 0, .int .u32 0, .slice none 0 0, .slice none 0 0, .slice none 0 0, .int .u64 0, .int .i64 0, .int .i64 0, .slice none 0 0]) ii33 rfl rfl Try.underlying33 (pp33 _ Try.underlying33) rfl rfl) rfl ?_
     refine Rg.step rfl (Oq.storeN hs 0 rfl (vals := [.int .i64 0, .int .u32 0, .int .u32 0, .slice none 0 0, .slice none 0 0, .slice none 0 0, .int .u64 0, .int .i64 0, .int .i64 0, .slice none 0 0]) zz33 rfl rfl (one_all ⟨rfl, rfl, rfl, rfl, rfl, rfl, rfl, rfl, rfl, rfl, trivial⟩) rfl [.box b7 #[.int .i64 0, .int .u32 0, .int .u32 0, .slice none 0 0, .slice none 0 0, .slice none 0 0, .int .u64 0, .int .i64 0, .int .i64 0, .slice none 0 0] 33, .box b33 #[.int .i64 j26.Kind, .int .u32 j26.From, .int .u32 j26.About, v34, v36, v38, .int .u64 j26.Rate, .int .i64 j26.Type_, .int .i64 j26.Count, v40] 33] rfl (fun w45 hs => ?_))
     refine Rg.vN (X.assign rfl) rfl ?_
     refine Rg.vN (X.assign rfl) rfl ?_
     refine Rg.go ?_
     refine Cd.ret ?_
     have e := some_s h0
     subst e
     exact fun a ha => Cd.retA (P := Try.prog) (fn := Try.f44) (R := Re (Po44 S0 w0 [] _)) ha Try.results44 ⟨_, _, _, rfl, rfl, run_lvN (vals := [.int .i64 0, .int .u32 0, .int .u32 0, .slice none 0 0, .slice none 0 0, .slice none 0 0, .int .u64 0, .int .i64 0, .int .i64 0, .slice none 0 0]) Try.underlying33 rfl zz33 (hs.range 0 rfl 0 rfl), ⟨_, _, rfl, rfl, ⟨_, _, rfl, rfl, rfl⟩⟩⟩ ⟨_, rfl, S30, (.slice none 0 0), (.slice none 0 0), (.slice none 0 0), (.slice none 0 0), rfl, (hs.pick [] (by decide) rfl), (Rd.nil _ _ _), (Rd.nil _ _ _), (Rd.nil _ _ _), (Rd.nil _ _ _)⟩
    ·have h0 := ite_f hc44 h0
     refine Cd.sg ?_
     refine Cd.sr ?_
     refine Rg.vN (X.loadN (vals := [.int .i64 j26.Kind, .int .u32 j26.From, .int .u32 j26.About, v34, v36, v38, .int .u64 j26.Rate, .int .i64 j26.Type_, .int .i64 j26.Count, v40]) Try.underlying33 rfl zz33 rfl (hs.range 1 rfl 0 rfl)) rfl ?_
     refine Rg.vN (X.move rfl) rfl ?_
     refine Rg.step rfl (Oq.storeN hs 0 rfl (vals := [.int .i64 j26.Kind, .int .u32 j26.From, .int .u32 j26.About, v34, v36, v38, .int .u64 j26.Rate, .int .i64 j26.Type_, .int .i64 j26.Count, v40]) zz33 rfl rfl (one_all ⟨rfl, rfl, rfl, f35.one, f37.one, f39.one, rfl, rfl, rfl, f41.one, trivial⟩) rfl [.box b7 #[.int .i64 j26.Kind, .int .u32 j26.From, .int .u32 j26.About, v34, v36, v38, .int .u64 j26.Rate, .int .i64 j26.Type_, .int .i64 j26.Count, v40] 33, .box b33 #[.int .i64 j26.Kind, .int .u32 j26.From, .int .u32 j26.About, v34, v36, v38, .int .u64 j26.Rate, .int .i64 j26.Type_, .int .i64 j26.Count, v40] 33] rfl (fun w46 hs => ?_))
     refine Rg.vN (X.assign rfl) rfl ?_
     refine Rg.vN (X.assign rfl) rfl ?_
     refine Rg.go ?_
     refine Cd.ret ?_
     have e := some_s h0
     subst e
     exact fun a ha => Cd.retA (P := Try.prog) (fn := Try.f44) (R := Re (Po44 S0 w0 [] _)) ha Try.results44 ⟨_, _, _, rfl, rfl, run_lvN (vals := [.int .i64 j26.Kind, .int .u32 j26.From, .int .u32 j26.About, v34, v36, v38, .int .u64 j26.Rate, .int .i64 j26.Type_, .int .i64 j26.Count, v40]) Try.underlying33 rfl zz33 (hs.range 0 rfl 0 rfl), ⟨_, _, rfl, rfl, ⟨_, _, rfl, rfl, rfl⟩⟩⟩ ⟨_, rfl, S30, v34, v36, v38, v40, rfl, (hs.pick [] (by decide) rfl), f35, f37, f39, f41⟩
   ·skip
    refine Cd.rD mixed (fun l w => Has S22 w) hs (fun _ _ _ _ _ h => h) (by kernel_rfl) (fun w47 hs => ⟨hs.has, ?_⟩)
    refine Rk.tN 0 rfl (by kernel_rfl) rfl (fun _ _ => X.move rfl) ?_
    obtain ⟨x48, hx49, hp29⟩ := bind_s hp29
    obtain ⟨ad50, vals51, _, hR52, hE53, hX54⟩ := mk_index Try.underlying31 zz5 (by decide) (f2.mono (le19.trans le24)) hx49
    obtain rfl : vals51 = [.int .u8 x48] := hR52
    refine Rk.tN 1 rfl (by kernel_rfl) rfl (fun _ _ => hX54 rfl rfl) ?_
    refine Rk.tN 2 rfl (by kernel_rfl) rfl (fun w hc => X.load1 Try.underlying5 rfl rfl (hE53.at0 rfl hc)) ?_
    refine Rk.tN 3 rfl (by kernel_rfl) rfl (fun _ _ => X.conv Try.underlying5 Try.underlying3 rfl) ?_
    refine Rk.tN 4 rfl (by kernel_rfl) rfl (fun _ _ => X.move rfl) ?_
    obtain ⟨x55, hx56, hp29⟩ := bind_s hp29
    obtain ⟨ad57, vals58, _, hR59, hE60, hX61⟩ := mk_index Try.underlying31 zz5 (by decide) (f2.mono (le19.trans le24)) hx56
    obtain rfl : vals58 = [.int .u8 x55] := hR59
    refine Rk.tN 5 rfl (by kernel_rfl) rfl (fun _ _ => hX61 rfl rfl) ?_
    refine Rk.tN 6 rfl (by kernel_rfl) rfl (fun w hc => X.load1 Try.underlying5 rfl rfl (hE60.at0 rfl hc)) ?_
    refine Rk.tN 7 rfl (by kernel_rfl) rfl (fun _ _ => X.and rfl rfl) ?_
    refine Rk.tN 8 rfl (by kernel_rfl) rfl (fun _ _ => X.conv Try.underlying5 Try.underlying3 rfl) ?_
    refine Rk.tN 9 rfl (by kernel_rfl) rfl (fun _ _ => X.move rfl) ?_
    refine Rk.tN 10 rfl (by kernel_rfl) rfl (fun _ _ => X.move rfl) ?_
    obtain ⟨y65, hx66, hp29⟩ := bind_s hp29
    obtain ⟨hb67, he68⟩ := cutL_s hx66
    obtain ⟨v62, f63, hX64⟩ := mk_sliceLH Try.underlying31 zz5 (f2.mono (le19.trans le24)) hb67
    rw [he68] at f63
    refine Rk.tN 11 rfl (by kernel_rfl) rfl (fun _ _ => hX64 rfl rfl rfl) ?_
    refine Rk.two 12 16 rfl rfl (by kernel_rfl) rfl rfl ?_ ?_
    ·skip
     obtain ⟨x69, hx70, hp29⟩ := bind_s hp29
     refine Oq.call Try.call61 rfl rfl (c61 S22 (St.start _ _ hs.has) _ _ _ _ f63 _ hx70) (fun v71 w72 h73 => ?_)
     obtain ⟨S74, v77, v79, v81, v83, rfl, hs75, f78, f80, f82, f84⟩ := h73
     have _ := 0
     have le76 : Le S22 S74 := hs75.le
     have hs := hs.call0 hs75
     refine ⟨(hs.has.down le76), Rk.mk (C' := fun l w => Has S74 w) hs.has (fun l w hc => hc.down le76) ?_⟩
     refine Rk.weak [(2, .pointer (some ⟨b7, 0, none⟩)), (7, .int .i64 (add .i64 4 (mul .i64 4 (cv .i64 x12.1)))), (68, .tuple #[.agg (#[.int .i64 x69.1.Kind, .int .u32 x69.1.From, .int .u32 x69.1.About, v77, v79, v81, .int .u64 x69.1.Rate, .int .i64 x69.1.Type_, .int .i64 x69.1.Count, v83]), .bool x69.2])] ⟨rfl, rfl, rfl, trivial⟩ ?_
     refine Rk.tN 13 rfl (by kernel_rfl) rfl (fun _ _ => X.move rfl) ?_
     refine Rk.tN 14 rfl (by kernel_rfl) rfl (fun _ _ => X.extract rfl rfl) ?_
     refine Rk.tN 15 rfl (by kernel_rfl) rfl (fun _ _ => X.extract rfl rfl) ?_
     refine Rk.eN 16 rfl (by kernel_rfl) rfl (Oq.alloc (cs := #[.int .i64 0, .int .u32 0, .int .u32 0, .slice none 0 0, .slice none 0 0, .slice none 0 0, .int .u64 0, .int .i64 0, .int .i64 0, .slice none 0 0]) hs ii33 rfl rfl rfl (fun b85 w86 hs => ?_))
     refine ⟨hs.has, ?_⟩
     refine Rk.eN 17 rfl (by kernel_rfl) rfl (Oq.storeN hs 0 rfl (vals := [.int .i64 x69.1.Kind, .int .u32 x69.1.From, .int .u32 x69.1.About, v77, v79, v81, .int .u64 x69.1.Rate, .int .i64 x69.1.Type_, .int .i64 x69.1.Count, v83]) zz33 rfl rfl (one_all ⟨rfl, rfl, rfl, f78.one, f80.one, f82.one, rfl, rfl, rfl, f84.one, trivial⟩) rfl [.box b85 #[.int .i64 x69.1.Kind, .int .u32 x69.1.From, .int .u32 x69.1.About, v77, v79, v81, .int .u64 x69.1.Rate, .int .i64 x69.1.Type_, .int .i64 x69.1.Count, v83] 33, .box b7 #[.int .i64 0, .int .u32 0, .int .u32 0, .slice none 0 0, .slice none 0 0, .slice none 0 0, .int .u64 0, .int .i64 0, .int .i64 0, .slice none 0 0] 33] rfl (fun w88 hs => ?_))
     refine ⟨hs.has, ?_⟩
     refine Rk.tN 18 rfl (by kernel_rfl) rfl (fun _ _ => X.assign rfl) ?_
     refine Rk.done (by kernel_rfl) ?_
     have e := some_s hp29
     cases e
     exact fun a ha => ⟨[(2, .pointer (some ⟨b7, 0, none⟩)), (7, .int .i64 (add .i64 4 (mul .i64 4 (cv .i64 x12.1)))), (8, .pointer (some ⟨b85, 0, none⟩)), (9, .bool x69.2)], ha.weak ⟨rfl, rfl, rfl, rfl, trivial⟩, S74, b85, v77, v79, v81, v83, rfl, le76, (hs.pick [1, 0] (by decide) rfl), f78, f80, f82, f84⟩
    ·skip
     refine Oq.alloc (cs := #[.int .i64 0, .int .u32 0, .int .u32 0, .slice none 0 0, .slice none 0 0, .slice none 0 0, .int .u64 0, .int .i64 0, .int .i64 0, .slice none 0 0]) hs ii33 rfl rfl rfl (fun b89 w90 hs => ?_)
     refine ⟨hs.has, ?_⟩
     obtain ⟨x92, hx93, hp29⟩ := bind_s hp29
     refine Rk.eN 12 rfl (by kernel_rfl) rfl (Oq.call Try.call61 rfl rfl (c61 S22 (St.start _ _ hs.has) _ _ _ _ f63 _ hx93) (fun v94 w95 h96 => ?_))
     obtain ⟨S97, v100, v102, v104, v106, rfl, hs98, f101, f103, f105, f107⟩ := h96
     have _ := 0
     have le99 : Le S22 S97 := hs98.le
     have hs := hs.call0 hs98
     refine ⟨(hs.has.down le99), Rk.mk (C' := fun l w => Has S97 w) hs.has (fun l w hc => hc.down le99) ?_⟩
     refine Rk.weak [(2, .pointer (some ⟨b7, 0, none⟩)), (7, .int .i64 (add .i64 4 (mul .i64 4 (cv .i64 x12.1)))), (8, .pointer (some ⟨b89, 0, none⟩)), (68, .tuple #[.agg (#[.int .i64 x92.1.Kind, .int .u32 x92.1.From, .int .u32 x92.1.About, v100, v102, v104, .int .u64 x92.1.Rate, .int .i64 x92.1.Type_, .int .i64 x92.1.Count, v106]), .bool x92.2])] ⟨rfl, rfl, rfl, rfl, trivial⟩ ?_
     refine Rk.tN 13 rfl (by kernel_rfl) rfl (fun _ _ => X.move rfl) ?_
     refine Rk.tN 14 rfl (by kernel_rfl) rfl (fun _ _ => X.extract rfl rfl) ?_
     refine Rk.tN 15 rfl (by kernel_rfl) rfl (fun _ _ => X.extract rfl rfl) ?_
     refine Rk.eN 17 rfl (by kernel_rfl) rfl (Oq.storeN hs 0 rfl (vals := [.int .i64 x92.1.Kind, .int .u32 x92.1.From, .int .u32 x92.1.About, v100, v102, v104, .int .u64 x92.1.Rate, .int .i64 x92.1.Type_, .int .i64 x92.1.Count, v106]) zz33 rfl rfl (one_all ⟨rfl, rfl, rfl, f101.one, f103.one, f105.one, rfl, rfl, rfl, f107.one, trivial⟩) rfl [.box b89 #[.int .i64 x92.1.Kind, .int .u32 x92.1.From, .int .u32 x92.1.About, v100, v102, v104, .int .u64 x92.1.Rate, .int .i64 x92.1.Type_, .int .i64 x92.1.Count, v106] 33, .box b7 #[.int .i64 0, .int .u32 0, .int .u32 0, .slice none 0 0, .slice none 0 0, .slice none 0 0, .int .u64 0, .int .i64 0, .int .i64 0, .slice none 0 0] 33] rfl (fun w108 hs => ?_))
     refine ⟨hs.has, ?_⟩
     refine Rk.tN 18 rfl (by kernel_rfl) rfl (fun _ _ => X.assign rfl) ?_
     refine Rk.done (by kernel_rfl) ?_
     have e := some_s hp29
     cases e
     exact fun a ha => ⟨[(2, .pointer (some ⟨b7, 0, none⟩)), (7, .int .i64 (add .i64 4 (mul .i64 4 (cv .i64 x12.1)))), (8, .pointer (some ⟨b89, 0, none⟩)), (9, .bool x92.2)], ha.weak ⟨rfl, rfl, rfl, rfl, trivial⟩, S97, b89, v100, v102, v104, v106, rfl, le99, (hs.pick [1, 0] (by decide) rfl), f101, f103, f105, f107⟩
  ·skip
   refine Cd.block ?_
   refine Cd.sr ?_
   refine Rg.vN (X.move rfl) rfl ?_
   refine Rg.vN (X.move rfl) rfl ?_
   refine Rg.vN (X.lenR Try.underlying31 rfl (f2.mono le19)) rfl ?_
   refine Rg.vN (X.gtr rfl rfl) rfl ?_
   refine Rg.vN (X.assign rfl) rfl ?_
   refine Rg.go ?_
   obtain ⟨p109, hp110, hp21⟩ := bind_s hp21
   refine Cd.post (fun K w => ∃ (S111 : Mp), K = [(0, v1), (2, .pointer (some ⟨b7, 0, none⟩)), (7, .int .i64 (add .i64 4 (mul .i64 4 (cv .i64 x12.1))))] ∧ p109 = Flow.next () ∧ Le S17 S111 ∧ St w0 [] S0 S111 [.box b7 #[.int .i64 0, .int .u32 0, .int .u32 0, .slice none 0 0, .slice none 0 0, .slice none 0 0, .int .u64 0, .int .i64 0, .int .i64 0, .slice none 0 0] 33] w) ?_ ?_
   ·rintro K114 w112 ⟨S111, rfl, rfl, le113, hs⟩
    have hp21 := el_next hp21
    try dsimp only at hp21
    have e := some_s hp21
    subst e
    exact fun a ha => ⟨[(0, v1), (2, .pointer (some ⟨b7, 0, none⟩)), (7, .int .i64 (add .i64 4 (mul .i64 4 (cv .i64 x12.1))))], ha.weak ⟨rfl, rfl, rfl, trivial⟩, S111, rfl, rfl, le113, hs⟩
   ·skip
    refine Cd.cond (t := decide ((G_0.length : Int) < (add .i64 4 (mul .i64 4 (cv .i64 x12.1))))) rfl (fun hc115 => ?_) (fun hc115 => ?_)
    ·have hp110 := ite_t hc115 hp110
     refine Cd.sr ?_
     refine Rg.vN (X.build (zc := [.int .i64 0, .int .u32 0, .int .u32 0, .slice none 0 0, .slice none 0 0, .slice none 0 0, .int .u64 0, .int .i64 0, .int .i64 0, .slice none 0 0]) (cells := [.int .i64 0, .int .u32 0, .int .u32 0, .slice none 0 0, .slice none 0 0, .slice none 0 0, .int .u64 0, .int .i64 0, .int .i64 0, .slice none 0 0]) ii33 rfl rfl Try.underlying33 (pp33 _ Try.underlying33) rfl rfl) rfl ?_
     refine Rg.step rfl (Oq.storeN hs 0 rfl (vals := [.int .i64 0, .int .u32 0, .int .u32 0, .slice none 0 0, .slice none 0 0, .slice none 0 0, .int .u64 0, .int .i64 0, .int .i64 0, .slice none 0 0]) zz33 rfl rfl (one_all ⟨rfl, rfl, rfl, rfl, rfl, rfl, rfl, rfl, rfl, rfl, trivial⟩) rfl [.box b7 #[.int .i64 0, .int .u32 0, .int .u32 0, .slice none 0 0, .slice none 0 0, .slice none 0 0, .int .u64 0, .int .i64 0, .int .i64 0, .slice none 0 0] 33] rfl (fun w116 hs => ?_))
     refine Rg.vN (X.assign rfl) rfl ?_
     refine Rg.vN (X.assign rfl) rfl ?_
     refine Rg.go ?_
     refine Cd.ret ?_
     have e := some_s hp110
     subst e
     have hp21 := el_ret hp21
     have e := some_s hp21
     subst e
     have h0 := el_ret h0
     have e := some_s h0
     subst e
     exact fun a ha => Cd.retA (P := Try.prog) (fn := Try.f44) (R := Re (Po44 S0 w0 [] _)) ha Try.results44 ⟨_, _, _, rfl, rfl, run_lvN (vals := [.int .i64 0, .int .u32 0, .int .u32 0, .slice none 0 0, .slice none 0 0, .slice none 0 0, .int .u64 0, .int .i64 0, .int .i64 0, .slice none 0 0]) Try.underlying33 rfl zz33 (hs.range 0 rfl 0 rfl), ⟨_, _, rfl, rfl, ⟨_, _, rfl, rfl, rfl⟩⟩⟩ ⟨_, rfl, S17, (.slice none 0 0), (.slice none 0 0), (.slice none 0 0), (.slice none 0 0), rfl, (hs.pick [] (by decide) rfl), (Rd.nil _ _ _), (Rd.nil _ _ _), (Rd.nil _ _ _), (Rd.nil _ _ _)⟩
    ·have hp110 := ite_f hc115 hp110
     refine Cd.seq ?_
     obtain ⟨p118, hp119, hp110⟩ := bind_s hp110
     refine Cd.post (fun K w => ∃ (S120 : Mp), K = [(0, v1), (2, .pointer (some ⟨b7, 0, none⟩)), (7, .int .i64 (add .i64 4 (mul .i64 4 (cv .i64 x12.1)))), (29, .bool p118)] ∧ Le S17 S120 ∧ St w0 [] S0 S120 [.box b7 #[.int .i64 0, .int .u32 0, .int .u32 0, .slice none 0 0, .slice none 0 0, .slice none 0 0, .int .u64 0, .int .i64 0, .int .i64 0, .slice none 0 0] 33] w) ?_ ?_
     ·rintro K123 w121 ⟨S120, rfl, le122, hs⟩
      refine Cd.go ?_
      refine Cd.cond (t := p118) rfl (fun hc124 => ?_) (fun hc124 => ?_)
      ·have hp110 := ite_t hc124 hp110
       refine Cd.sr ?_
       refine Rg.vN (X.build (zc := [.int .i64 0, .int .u32 0, .int .u32 0, .slice none 0 0, .slice none 0 0, .slice none 0 0, .int .u64 0, .int .i64 0, .int .i64 0, .slice none 0 0]) (cells := [.int .i64 0, .int .u32 0, .int .u32 0, .slice none 0 0, .slice none 0 0, .slice none 0 0, .int .u64 0, .int .i64 0, .int .i64 0, .slice none 0 0]) ii33 rfl rfl Try.underlying33 (pp33 _ Try.underlying33) rfl rfl) rfl ?_
       refine Rg.step rfl (Oq.storeN hs 0 rfl (vals := [.int .i64 0, .int .u32 0, .int .u32 0, .slice none 0 0, .slice none 0 0, .slice none 0 0, .int .u64 0, .int .i64 0, .int .i64 0, .slice none 0 0]) zz33 rfl rfl (one_all ⟨rfl, rfl, rfl, rfl, rfl, rfl, rfl, rfl, rfl, rfl, trivial⟩) rfl [.box b7 #[.int .i64 0, .int .u32 0, .int .u32 0, .slice none 0 0, .slice none 0 0, .slice none 0 0, .int .u64 0, .int .i64 0, .int .i64 0, .slice none 0 0] 33] rfl (fun w125 hs => ?_))
       refine Rg.vN (X.assign rfl) rfl ?_
       refine Rg.vN (X.assign rfl) rfl ?_
       refine Rg.go ?_
       refine Cd.ret ?_
       have e := some_s hp110
       subst e
       have hp21 := el_ret hp21
       have e := some_s hp21
       subst e
       have h0 := el_ret h0
       have e := some_s h0
       subst e
       exact fun a ha => Cd.retA (P := Try.prog) (fn := Try.f44) (R := Re (Po44 S0 w0 [] _)) ha Try.results44 ⟨_, _, _, rfl, rfl, run_lvN (vals := [.int .i64 0, .int .u32 0, .int .u32 0, .slice none 0 0, .slice none 0 0, .slice none 0 0, .int .u64 0, .int .i64 0, .int .i64 0, .slice none 0 0]) Try.underlying33 rfl zz33 (hs.range 0 rfl 0 rfl), ⟨_, _, rfl, rfl, ⟨_, _, rfl, rfl, rfl⟩⟩⟩ ⟨_, rfl, S120, (.slice none 0 0), (.slice none 0 0), (.slice none 0 0), (.slice none 0 0), rfl, (hs.pick [] (by decide) rfl), (Rd.nil _ _ _), (Rd.nil _ _ _), (Rd.nil _ _ _), (Rd.nil _ _ _)⟩
      ·have hp110 := ite_f hc124 hp110
       refine Cd.skip ?_
       have e := some_s hp110
       subst e
       exact fun a ha => ⟨[(0, v1), (2, .pointer (some ⟨b7, 0, none⟩)), (7, .int .i64 (add .i64 4 (mul .i64 4 (cv .i64 x12.1))))], ha.weak ⟨rfl, rfl, rfl, trivial⟩, S120, rfl, rfl, le122, hs⟩
     ·skip
      refine Cd.region ?_
      refine Rg.vN (X.move rfl) rfl ?_
      obtain ⟨x126, hx127, hp119⟩ := bind_s hp119
      obtain ⟨ad128, vals129, _, hR130, hE131, hX132⟩ := mk_index Try.underlying31 zz5 (by decide) (f2.mono le19) hx127
      obtain rfl : vals129 = [.int .u8 x126] := hR130
      refine Rg.vN (hX132 rfl rfl) rfl ?_
      refine Rg.vN (X.load1 Try.underlying5 rfl rfl (hE131.at0 rfl hs.has)) rfl ?_
      refine Rg.vN (X.and rfl rfl) rfl ?_
      refine Rg.vN (X.neq rfl rfl) rfl ?_
      refine Rg.vN (X.move rfl) rfl ?_
      refine Rg.vF rfl rfl rfl (fun hW => X.move rfl) ?_
      refine Rg.weak [(0, v1), (2, .pointer (some ⟨b7, 0, none⟩)), (7, .int .i64 (add .i64 4 (mul .i64 4 (cv .i64 x12.1)))), (35, .bool ((band .u8 x126 192) != 128)), (36, gv (!((band .u8 x126 192) != 128)) (v1))] ⟨rfl, rfl, rfl, rfl, rfl, trivial⟩ ?_
      refine Rg.split (c := (band .u8 x126 192) != 128) (tj := 35) rfl (fun hc133 => ?_) (fun hc133 => ?_)
      ·have hp119 := ite_t hc133 hp119
       refine Rg.weak [(0, v1), (2, .pointer (some ⟨b7, 0, none⟩)), (7, .int .i64 (add .i64 4 (mul .i64 4 (cv .i64 x12.1)))), (35, .bool true), (36, undef)] ⟨rfl, rfl, rfl, rfl, get_u rfl (nn hc133), trivial⟩ ?_
       refine Rg.vO rfl rfl rfl rfl ?_
       refine Rg.vO rfl rfl rfl rfl ?_
       refine Rg.vO rfl rfl rfl rfl ?_
       refine Rg.vO rfl rfl rfl rfl ?_
       refine Rg.vN (X.pickT rfl rfl) rfl ?_
       refine Rg.vN (X.move rfl) rfl ?_
       refine Rg.vO rfl rfl rfl rfl ?_
       refine Rg.vO rfl rfl rfl rfl ?_
       refine Rg.vO rfl rfl rfl rfl ?_
       refine Rg.vO rfl rfl rfl rfl ?_
       refine Rg.vN (X.pickT rfl rfl) rfl ?_
       refine Rg.vN (X.move rfl) rfl ?_
       refine Rg.vO rfl rfl rfl rfl ?_
       refine Rg.vO rfl rfl rfl rfl ?_
       refine Rg.vO rfl rfl rfl rfl ?_
       refine Rg.vO rfl rfl rfl rfl ?_
       refine Rg.vN (X.pickT rfl rfl) rfl ?_
       refine Rg.vN (X.assign rfl) rfl ?_
       refine Rg.nil ?_
       have e := some_s hp119
       subst e
       exact fun a ha => ⟨[(0, v1), (2, .pointer (some ⟨b7, 0, none⟩)), (7, .int .i64 (add .i64 4 (mul .i64 4 (cv .i64 x12.1)))), (29, .bool true)], ha.weak ⟨rfl, rfl, rfl, rfl, trivial⟩, S17, rfl, Le.refl _, hs⟩
      ·have hp119 := ite_f hc133 hp119
       refine Rg.weak [(0, v1), (2, .pointer (some ⟨b7, 0, none⟩)), (7, .int .i64 (add .i64 4 (mul .i64 4 (cv .i64 x12.1)))), (35, .bool false), (36, v1)] ⟨rfl, rfl, rfl, rfl, get_g rfl (not_f hc133), trivial⟩ ?_
       refine Rg.gon rfl rfl rfl ?_
       obtain ⟨x134, hx135, hp119⟩ := bind_s hp119
       obtain ⟨ad136, vals137, _, hR138, hE139, hX140⟩ := mk_index Try.underlying31 zz5 (by decide) (f2.mono le19) hx135
       obtain rfl : vals137 = [.int .u8 x134] := hR138
       refine Rg.vN (hX140 rfl rfl) rfl ?_
       refine Rg.gon rfl rfl rfl ?_
       refine Rg.vN (X.load1 Try.underlying5 rfl rfl (hE139.at0 rfl hs.has)) rfl ?_
       refine Rg.gon rfl rfl rfl ?_
       refine Rg.vN (X.and rfl rfl) rfl ?_
       refine Rg.gon rfl rfl rfl ?_
       refine Rg.vN (X.neq rfl rfl) rfl ?_
       refine Rg.vN (X.pickF rfl rfl) rfl ?_
       refine Rg.vN (X.move rfl) rfl ?_
       refine Rg.vF rfl rfl rfl (fun hW => X.move rfl) ?_
       refine Rg.split (c := (band .u8 x134 32) != 0) (tj := 42) rfl (fun hc141 => ?_) (fun hc141 => ?_)
       ·have hp119 := ite_t hc141 hp119
        refine Rg.weak [(0, v1), (2, .pointer (some ⟨b7, 0, none⟩)), (7, .int .i64 (add .i64 4 (mul .i64 4 (cv .i64 x12.1)))), (42, .bool true), (43, undef)] ⟨rfl, rfl, rfl, rfl, get_u rfl (nn hc141), trivial⟩ ?_
        refine Rg.vO rfl rfl rfl rfl ?_
        refine Rg.vO rfl rfl rfl rfl ?_
        refine Rg.vO rfl rfl rfl rfl ?_
        refine Rg.vN (X.pickT rfl rfl) rfl ?_
        refine Rg.vN (X.move rfl) rfl ?_
        refine Rg.vO rfl rfl rfl rfl ?_
        refine Rg.vO rfl rfl rfl rfl ?_
        refine Rg.vO rfl rfl rfl rfl ?_
        refine Rg.vO rfl rfl rfl rfl ?_
        refine Rg.vN (X.pickT rfl rfl) rfl ?_
        refine Rg.vN (X.assign rfl) rfl ?_
        refine Rg.nil ?_
        have e := some_s hp119
        subst e
        exact fun a ha => ⟨[(0, v1), (2, .pointer (some ⟨b7, 0, none⟩)), (7, .int .i64 (add .i64 4 (mul .i64 4 (cv .i64 x12.1)))), (29, .bool true)], ha.weak ⟨rfl, rfl, rfl, rfl, trivial⟩, S17, rfl, Le.refl _, hs⟩
       ·have hp119 := ite_f hc141 hp119
        refine Rg.weak [(0, v1), (2, .pointer (some ⟨b7, 0, none⟩)), (7, .int .i64 (add .i64 4 (mul .i64 4 (cv .i64 x12.1)))), (42, .bool false), (43, v1)] ⟨rfl, rfl, rfl, rfl, get_g rfl (not_f hc141), trivial⟩ ?_
        refine Rg.gon rfl rfl rfl ?_
        obtain ⟨x142, hx143, hp119⟩ := bind_s hp119
        obtain ⟨ad144, vals145, _, hR146, hE147, hX148⟩ := mk_index Try.underlying31 zz5 (by decide) (f2.mono le19) hx143
        obtain rfl : vals145 = [.int .u8 x142] := hR146
        refine Rg.vN (hX148 rfl rfl) rfl ?_
        refine Rg.gon rfl rfl rfl ?_
        refine Rg.vN (X.load1 Try.underlying5 rfl rfl (hE147.at0 rfl hs.has)) rfl ?_
        refine Rg.gon rfl rfl rfl ?_
        refine Rg.vN (X.lss rfl rfl) rfl ?_
        refine Rg.vN (X.pickF rfl rfl) rfl ?_
        refine Rg.vN (X.move rfl) rfl ?_
        refine Rg.vF rfl rfl rfl (fun hW => X.move rfl) ?_
        refine Rg.split (c := decide (x142 < 192)) (tj := 48) rfl (fun hc149 => ?_) (fun hc149 => ?_)
        ·have hp119 := ite_t hc149 hp119
         refine Rg.weak [(0, v1), (2, .pointer (some ⟨b7, 0, none⟩)), (7, .int .i64 (add .i64 4 (mul .i64 4 (cv .i64 x12.1)))), (48, .bool true), (49, undef)] ⟨rfl, rfl, rfl, rfl, get_u rfl (nn hc149), trivial⟩ ?_
         refine Rg.vO rfl rfl rfl rfl ?_
         refine Rg.vO rfl rfl rfl rfl ?_
         refine Rg.vO rfl rfl rfl rfl ?_
         refine Rg.vN (X.pickT rfl rfl) rfl ?_
         refine Rg.vN (X.assign rfl) rfl ?_
         refine Rg.nil ?_
         have e := some_s hp119
         subst e
         exact fun a ha => ⟨[(0, v1), (2, .pointer (some ⟨b7, 0, none⟩)), (7, .int .i64 (add .i64 4 (mul .i64 4 (cv .i64 x12.1)))), (29, .bool true)], ha.weak ⟨rfl, rfl, rfl, rfl, trivial⟩, S17, rfl, Le.refl _, hs⟩
        ·have hp119 := ite_f hc149 hp119
         refine Rg.weak [(0, v1), (2, .pointer (some ⟨b7, 0, none⟩)), (7, .int .i64 (add .i64 4 (mul .i64 4 (cv .i64 x12.1)))), (48, .bool false), (49, v1)] ⟨rfl, rfl, rfl, rfl, get_g rfl (not_f hc149), trivial⟩ ?_
         refine Rg.gon rfl rfl rfl ?_
         obtain ⟨x150, hx151, hp119⟩ := bind_s hp119
         obtain ⟨ad152, vals153, _, hR154, hE155, hX156⟩ := mk_index Try.underlying31 zz5 (by decide) (f2.mono le19) hx151
         obtain rfl : vals153 = [.int .u8 x150] := hR154
         refine Rg.vN (hX156 rfl rfl) rfl ?_
         refine Rg.gon rfl rfl rfl ?_
         refine Rg.vN (X.load1 Try.underlying5 rfl rfl (hE155.at0 rfl hs.has)) rfl ?_
         refine Rg.gon rfl rfl rfl ?_
         refine Rg.vN (X.gtr rfl rfl) rfl ?_
         refine Rg.vN (X.pickF rfl rfl) rfl ?_
         refine Rg.vN (X.assign rfl) rfl ?_
         refine Rg.nil ?_
         have e := some_s hp119
         subst e
         exact fun a ha => ⟨[(0, v1), (2, .pointer (some ⟨b7, 0, none⟩)), (7, .int .i64 (add .i64 4 (mul .i64 4 (cv .i64 x12.1)))), (29, .bool (decide (223 < x150)))], ha.weak ⟨rfl, rfl, rfl, rfl, trivial⟩, S17, rfl, Le.refl _, hs⟩
noncomputable def slices_Clip_api_Report (s_0 : (List api_Report)) : Option (List api_Report) :=
 some s_0
def Po45 (S0 : Mp) (w0 : World) (D : List Nat) (r : (List api_Report)) (v : Value) (w1 : World) : Prop :=
  ∃ (S1 : Mp) (v3 : Value), v = v3 ∧ St w0 D S0 S1 [] w1 ∧ Rd S1 10 R_api_Report v3 r ∧ (∃ A, v3 = .slice A r.length r.length)
set_option maxHeartbeats 4000000 in
theorem c45 (S0 : Mp) {w0 : World} (hs : St w0 [] S0 S0 [] w0) (s_0 : (List api_Report)) (v1 : Value) (f2 : Rd S0 10 R_api_Report v1 s_0) (r : (List api_Report)) (h0 : slices_Clip_api_Report s_0 = some r) :
    Calls Try.prog 45 #[v1] w0 (Re (Po45 S0 w0 [] r)) := by
 unfold slices_Clip_api_Report at h0
 refine calls_of_cd Try.func45 rfl Try.ntmps45 rfl ?_
 refine Cd.sr ?_
 refine Rg.vN (X.assign rfl) rfl ?_
 refine Rg.go ?_
 refine Cd.sr ?_
 refine Rg.vN (X.move rfl) rfl ?_
 refine Rg.vN (X.move rfl) rfl ?_
 refine Rg.vN (X.lenR Try.underlying36 rfl f2) rfl ?_
 refine Rg.vN (X.move rfl) rfl ?_
 refine Rg.vN (X.lenR Try.underlying36 rfl f2) rfl ?_
 obtain ⟨v4, f5, hf9, hX6⟩ := mk_clip Try.underlying36 zz33 f2
 refine Rg.vN (hX6 rfl rfl rfl) rfl ?_
 refine Rg.vN (X.assign rfl) rfl ?_
 refine Rg.go ?_
 refine Cd.ret ?_
 have e := some_s h0
 subst e
 exact fun a ha => Cd.retA (P := Try.prog) (fn := Try.f45) (R := Re (Po45 S0 w0 [] _)) ha Try.results45 ⟨_, _, rfl, rfl, rfl⟩ ⟨_, rfl, S0, v4, rfl, hs, f5, hf9⟩
noncomputable def rtcp_Read_l0 (b_0 : (List Int)) (q30 : (List api_Report)) (q31 : Int) : Option (Flow ((List api_Report) × Int) ((List api_Report) × Int)) :=
 if (decide (q31 < (b_0.length : Int))) = true then (
  (cutFrom b_0 q31).bind fun y48 =>
  (rtcp_one y48).bind fun x52 =>
  if (x52.2.2 != 0) = true then (
   some (Flow.ret (([] : List api_Report), x52.2.2)))
  else (
   (app 136 q30 ([x52.1] : List api_Report)).bind fun y80 =>
   some (Flow.next (y80, add .i64 q31 x52.2.1))))
 else (
  some (Flow.brk (q30, q31)))
noncomputable def rtcp_Read (b_0 : (List Int)) : Option ((List api_Report) × Int) :=
 if (decide (1500 < (b_0.length : Int))) = true then (
  some (([] : List api_Report), 3))
 else (
  if ((b_0.length : Int) == 0) = true then (
   some (([] : List api_Report), 13))
  else (
   (loopF (fun sg => rtcp_Read_l0 b_0 sg.1 sg.2) (([] : List api_Report), 0)).bind fun fl7 =>
   Flow.el fl7 (fun s88 => (
    none))
   (fun s89 => (
    (slices_Clip_api_Report s89.1).bind fun x19 =>
    some (x19, 0)))
   (fun r90 => (
    some r90))))
def Po20 (S0 : Mp) (w0 : World) (D : List Nat) (r : ((List api_Report) × Int)) (v : Value) (w1 : World) : Prop :=
  ∃ (S1 : Mp) (v3 : Value), v = .tuple #[v3, .int .i64 r.2] ∧ St w0 D S0 S1 [] w1 ∧ Rd S1 10 R_api_Report v3 r.1
set_option maxHeartbeats 4000000 in
theorem c20 (S0 : Mp) {w0 : World} (hs : St w0 [] S0 S0 [] w0) (b_0 : (List Int)) (v1 : Value) (f2 : Rd S0 1 (RI .u8) v1 b_0) (r : ((List api_Report) × Int)) (h0 : rtcp_Read b_0 = some r) :
    Calls Try.prog 20 #[v1] w0 (Re (Po20 S0 w0 [] r)) := by
 unfold rtcp_Read at h0
 refine calls_of_cd Try.func20 rfl Try.ntmps20 rfl ?_
 refine Cd.sr ?_
 refine Rg.vN (X.assign rfl) rfl ?_
 refine Rg.vN (X.assign rfl) rfl ?_
 refine Rg.go ?_
 refine Cd.seq ?_
 refine Cd.block ?_
 refine Cd.sr ?_
 refine Rg.vN (X.move rfl) rfl ?_
 refine Rg.vN (X.lenR Try.underlying31 rfl f2) rfl ?_
 refine Rg.vN (X.gtr rfl rfl) rfl ?_
 refine Rg.vN (X.assign rfl) rfl ?_
 refine Rg.go ?_
 refine Cd.cond (t := decide (1500 < (b_0.length : Int))) rfl (fun hc4 => ?_) (fun hc4 => ?_)
 ·have h0 := ite_t hc4 h0
  refine Cd.sr ?_
  refine Rg.vN (X.assign rfl) rfl ?_
  refine Rg.vN (X.assign rfl) rfl ?_
  refine Rg.go ?_
  refine Cd.ret ?_
  have e := some_s h0
  subst e
  exact fun a ha => Cd.retA (P := Try.prog) (fn := Try.f20) (R := Re (Po20 S0 w0 [] _)) ha Try.results20 ⟨_, _, rfl, rfl, ⟨_, _, rfl, rfl, rfl⟩⟩ ⟨_, rfl, S0, (.slice none 0 0), rfl, hs, (Rd.nil _ _ _)⟩
 ·have h0 := ite_f hc4 h0
  refine Cd.sr ?_
  refine Rg.vN (X.move rfl) rfl ?_
  refine Rg.vN (X.lenR Try.underlying31 rfl f2) rfl ?_
  refine Rg.vN (X.eql rfl rfl) rfl ?_
  refine Rg.vN (X.assign rfl) rfl ?_
  refine Rg.go ?_
  refine Cd.cond (t := (b_0.length : Int) == 0) rfl (fun hc5 => ?_) (fun hc5 => ?_)
  ·have h0 := ite_t hc5 h0
   refine Cd.sr ?_
   refine Rg.vN (X.assign rfl) rfl ?_
   refine Rg.vN (X.assign rfl) rfl ?_
   refine Rg.go ?_
   refine Cd.ret ?_
   have e := some_s h0
   subst e
   exact fun a ha => Cd.retA (P := Try.prog) (fn := Try.f20) (R := Re (Po20 S0 w0 [] _)) ha Try.results20 ⟨_, _, rfl, rfl, ⟨_, _, rfl, rfl, rfl⟩⟩ ⟨_, rfl, S0, (.slice none 0 0), rfl, hs, (Rd.nil _ _ _)⟩
  ·have h0 := ite_f hc5 h0
   refine Cd.skip ?_
   refine Cd.go ?_
   refine Cd.sr ?_
   refine Rg.vN (X.assign rfl) rfl ?_
   refine Rg.go ?_
   refine Cd.seq ?_
   refine Cd.sr ?_
   refine Rg.vN (X.assign rfl) rfl ?_
   refine Rg.go ?_
   have hs := hs.nil 33 10
   obtain ⟨fl7, hfl8, h0⟩ := bind_s h0
   refine Cd.post (fun K w => ∃ (j9 : (List api_Report)) (j10 : Int) (S11 : Mp) (v13 : Value) (g15 : Option Nat), K = [(4, v13)] ∧ fl7 = Flow.brk (j9, j10) ∧ Le S0 S11 ∧ St w0 [] S0 S11 [.app g15 v13 j9.length 33 10] w ∧ Rd S11 10 R_api_Report v13 j9) ?_ ?_
   ·rintro K18 w17 ⟨j9, j10, S11, v13, g15, rfl, rfl, le12, hs, f14⟩
    have h0 := el_brk h0
    try dsimp only at h0
    refine Cd.go ?_
    refine Cd.sr ?_
    refine Rg.vN (X.move rfl) rfl ?_
    obtain ⟨x19, hx20, h0⟩ := bind_s h0
    refine Rg.step rfl (Oq.call Try.call45 rfl rfl (c45 S11 (St.start _ _ hs.has) _ _ f14 _ hx20) (fun v21 w22 h23 => ?_))
    obtain ⟨S24, v27, rfl, hs25, f28, fu29⟩ := h23
    have _ := 0
    have le26 : Le S11 S24 := hs25.le
    have hs := hs.call0 hs25
    refine Rg.vN (X.assign rfl) rfl ?_
    refine Rg.vN (X.assign rfl) rfl ?_
    refine Rg.go ?_
    refine Cd.weak [(2, v21), (3, .int .i64 0)] ⟨rfl, rfl, trivial⟩ ?_
    refine Cd.ret ?_
    have e := some_s h0
    subst e
    exact fun a ha => Cd.retA (P := Try.prog) (fn := Try.f20) (R := Re (Po20 S0 w0 [] _)) ha Try.results20 ⟨_, _, rfl, rfl, ⟨_, _, rfl, rfl, rfl⟩⟩ ⟨_, rfl, S24, v21, rfl, (hs.pick [] (by decide) rfl), f28⟩
   ·skip
    refine Cd.weak [(0, v1), (4, .slice none 0 0), (5, .int .i64 0)] ⟨rfl, rfl, rfl, trivial⟩ ?_
    refine Cd.block (Cd.loop (fun sg => rtcp_Read_l0 b_0 sg.1 sg.2) (fun (sg : ((List api_Report) × Int)) K w => ∃ (S32 : Mp) (v34 : Value) (g36 : Option Nat), K = [(0, v1), (4, v34), (5, .int .i64 sg.2)] ∧ Le S0 S32 ∧ St w0 [] S0 S32 [.app g36 v34 sg.1.length 33 10] w ∧ Rd S32 10 R_api_Report v34 sg.1) (([] : List api_Report), 0) fl7 hfl8 ⟨S0, (.slice none 0 0), none, rfl, Le.refl _, hs, (Rd.nil _ _ _)⟩ ?_)
    rintro ⟨q30, q31⟩ fl38 K43 w42 hb39 ⟨S32, v34, g36, rfl, le33, hs, f35⟩ hl40
    have h41 : rtcp_Read_l0 b_0 q30 q31 = some fl38 := hb39
    unfold rtcp_Read_l0 at h41
    refine Cd.seq ?_
    refine Cd.sr ?_
    refine Rg.vN (X.move rfl) rfl ?_
    refine Rg.vN (X.move rfl) rfl ?_
    refine Rg.vN (X.lenR Try.underlying31 rfl (f2.mono le33)) rfl ?_
    refine Rg.vN (X.lss rfl rfl) rfl ?_
    refine Rg.go ?_
    refine Cd.weak [(0, v1), (4, v34), (5, .int .i64 q31), (20, .bool (decide (q31 < (b_0.length : Int))))] ⟨rfl, rfl, rfl, rfl, trivial⟩ ?_
    refine Cd.cond (t := decide (q31 < (b_0.length : Int))) rfl (fun hc44 => ?_) (fun hc44 => ?_)
    ·have h41 := ite_t hc44 h41
     refine Cd.sg ?_
     refine Cd.block ?_
     refine Cd.sr ?_
     refine Rg.vN (X.move rfl) rfl ?_
     refine Rg.vN (X.move rfl) rfl ?_
     obtain ⟨y48, hx49, h41⟩ := bind_s h41
     obtain ⟨hb50, he51⟩ := cutFrom_s hx49
     obtain ⟨v45, f46, hX47⟩ := mk_sliceL Try.underlying31 zz5 (f2.mono le33) hb50
     rw [he51] at f46
     refine Rg.vN (hX47 rfl rfl) rfl ?_
     obtain ⟨x52, hx53, h41⟩ := bind_s h41
     refine Rg.step rfl (Oq.call Try.call44 rfl rfl (c44 S32 (St.start _ _ hs.has) _ _ f46 _ hx53) (fun v54 w55 h56 => ?_))
     obtain ⟨S57, v60, v62, v64, v66, rfl, hs58, f61, f63, f65, f67⟩ := h56
     have _ := 0
     have le59 : Le S32 S57 := hs58.le
     have hs := hs.call0 hs58
     refine Rg.vN (X.move rfl) rfl ?_
     refine Rg.vN (X.extract rfl rfl) rfl ?_
     refine Rg.vN (X.extract rfl rfl) rfl ?_
     refine Rg.vN (X.extract rfl rfl) rfl ?_
     refine Rg.step rfl (Oq.alloc (cs := #[.int .i64 0, .int .u32 0, .int .u32 0, .slice none 0 0, .slice none 0 0, .slice none 0 0, .int .u64 0, .int .i64 0, .int .i64 0, .slice none 0 0]) hs ii33 rfl rfl rfl (fun b68 w69 hs => ?_))
     refine Rg.step rfl (Oq.storeN hs 0 rfl (vals := [.int .i64 x52.1.Kind, .int .u32 x52.1.From, .int .u32 x52.1.About, v60, v62, v64, .int .u64 x52.1.Rate, .int .i64 x52.1.Type_, .int .i64 x52.1.Count, v66]) zz33 rfl rfl (one_all ⟨rfl, rfl, rfl, f61.one, f63.one, f65.one, rfl, rfl, rfl, f67.one, trivial⟩) rfl [.box b68 #[.int .i64 x52.1.Kind, .int .u32 x52.1.From, .int .u32 x52.1.About, v60, v62, v64, .int .u64 x52.1.Rate, .int .i64 x52.1.Type_, .int .i64 x52.1.Count, v66] 33, .app g36 v34 q30.length 33 10] rfl (fun w71 hs => ?_))
     refine Rg.vN (X.assign rfl) rfl ?_
     refine Rg.vN (X.assign rfl) rfl ?_
     refine Rg.go ?_
     refine Cd.seq ?_
     refine Cd.sr ?_
     refine Rg.vN (X.move rfl) rfl ?_
     refine Rg.vN (X.neq rfl rfl) rfl ?_
     refine Rg.go ?_
     refine Cd.weak [(0, v1), (4, v34), (5, .int .i64 q31), (6, .pointer (some ⟨b68, 0, none⟩)), (7, .int .i64 x52.2.1), (8, .int .i64 x52.2.2), (30, .bool (x52.2.2 != 0))] ⟨rfl, rfl, rfl, rfl, rfl, rfl, rfl, trivial⟩ ?_
     refine Cd.cond (t := x52.2.2 != 0) rfl (fun hc72 => ?_) (fun hc72 => ?_)
     ·have h41 := ite_t hc72 h41
      refine Cd.sr ?_
      refine Rg.vN (X.move rfl) rfl ?_
      refine Rg.vN (X.assign rfl) rfl ?_
      refine Rg.vN (X.assign rfl) rfl ?_
      refine Rg.go ?_
      refine Cd.ret ?_
      have e := some_s h41
      subst e
      have e := hl40 (fun _ e => by cases e)
      subst e
      have h0 := el_ret h0
      have e := some_s h0
      subst e
      exact fun a ha => Cd.retA (P := Try.prog) (fn := Try.f20) (R := Re (Po20 S0 w0 [] _)) ha Try.results20 ⟨_, _, rfl, rfl, ⟨_, _, rfl, rfl, rfl⟩⟩ ⟨_, rfl, S57, (.slice none 0 0), rfl, (hs.pick [] (by decide) rfl), (Rd.nil _ _ _)⟩
     ·have h41 := ite_f hc72 h41
      refine Cd.sg ?_
      refine Cd.sr ?_
      refine Rg.vN (X.move rfl) rfl ?_
      refine Rg.vN (X.loadN (vals := [.int .i64 x52.1.Kind, .int .u32 x52.1.From, .int .u32 x52.1.About, v60, v62, v64, .int .u64 x52.1.Rate, .int .i64 x52.1.Type_, .int .i64 x52.1.Count, v66]) Try.underlying33 rfl zz33 rfl (hs.range 0 rfl 0 rfl)) rfl ?_
      refine Rg.step rfl (Oq.lit (sz := 10) (cs0 := [.int .i64 0, .int .u32 0, .int .u32 0, .slice none 0 0, .slice none 0 0, .slice none 0 0, .int .u64 0, .int .i64 0, .int .i64 0, .slice none 0 0]) (cells := [.int .i64 x52.1.Kind, .int .u32 x52.1.From, .int .u32 x52.1.About, v60, v62, v64, .int .u64 x52.1.Rate, .int .i64 x52.1.Type_, .int .i64 x52.1.Count, v66]) hs Try.underlying36 ii33 rfl rfl rfl rfl rfl rfl ⟨_, [.int .i64 x52.1.Kind, .int .u32 x52.1.From, .int .u32 x52.1.About, v60, v62, v64, .int .u64 x52.1.Rate, .int .i64 x52.1.Type_, .int .i64 x52.1.Count, v66], _, rfl, rfl, rfl, rfl⟩ rfl rfl rfl (fun b73 w74 S75 hs le76 hE77 => ?_))
      have f79 : Rd S75 10 R_api_Report (.slice (some ⟨b73, 0, none⟩) 1 1) ([x52.1] : List api_Report) := Rd.of_cells (xs := ([x52.1] : List api_Report)) ⟨[.int .i64 x52.1.Kind, .int .u32 x52.1.From, .int .u32 x52.1.About, v60, v62, v64, .int .u64 x52.1.Rate, .int .i64 x52.1.Type_, .int .i64 x52.1.Count, v66], _, rfl, rfl, one_all ⟨rfl, rfl, rfl, (f61.mono le76).one, (f63.mono le76).one, (f65.mono le76).one, rfl, rfl, rfl, (f67.mono le76).one, trivial⟩, ⟨_, _, _, _, rfl, (f61.mono le76), (f63.mono le76), (f65.mono le76), (f67.mono le76)⟩, rfl⟩ hE77 (Nat.le_of_ble_eq_true rfl) (Nat.le_of_ble_eq_true rfl)
      obtain ⟨y80, hx81, h41⟩ := bind_s h41
      refine Rg.step rfl (Oq.appendS hs 2 rfl Try.underlying36 ii33 rfl rfl rfl rfl rfl rfl (f35.mono (le59.trans le76)) f79 hx81 rfl rfl rfl (fun v82 w83 S84 g85 hs le86 f87 => ?_))
      refine Rg.vN (X.assign rfl) rfl ?_
      refine Rg.go ?_
      refine Cd.region ?_
      refine Rg.vN (X.move rfl) rfl ?_
      refine Rg.vN (X.move rfl) rfl ?_
      refine Rg.vN (X.add rfl rfl) rfl ?_
      refine Rg.vN (X.assign rfl) rfl ?_
      refine Rg.nil ?_
      exact fun a ha => ⟨(y80, add .i64 q31 x52.2.1), [(0, v1), (4, v82), (5, .int .i64 (add .i64 q31 x52.2.1))], (some_s h41).symm, ha.weak ⟨rfl, rfl, rfl, trivial⟩, S84, v82, g85, rfl, (le33.trans (le59.trans (le76.trans le86))), (hs.pick [2] (by decide) rfl), f87⟩
    ·have h41 := ite_f hc44 h41
     refine Cd.exit ?_
     have e := some_s h41
     subst e
     have e := hl40 (fun _ e => by cases e)
     exact fun a ha => ⟨[(4, v34)], ha.weak ⟨rfl, trivial⟩, _, _, S32, v34, g36, rfl, e.symm, le33, hs, f35⟩
noncomputable def rtcp_Is (b_0 : (List Int)) : Option Bool :=
 ((
  if (decide (2 ≤ (b_0.length : Int))) = true then (
   (ix b_0 1).bind fun x11 =>
   if (decide (192 ≤ x11)) = true then (
    (ix b_0 1).bind fun x19 =>
    some (decide (x19 ≤ 223)))
   else (
    some false))
  else (
   some false) : Option Bool)).bind fun p4 =>
 some p4
def Po24 (S0 : Mp) (w0 : World) (D : List Nat) (r : Bool) (v : Value) (w1 : World) : Prop :=
  ∃ (S1 : Mp), v = .bool r ∧ St w0 D S0 S1 [] w1
set_option maxHeartbeats 4000000 in
theorem c24 (S0 : Mp) {w0 : World} (hs : St w0 [] S0 S0 [] w0) (b_0 : (List Int)) (v1 : Value) (f2 : Rd S0 1 (RI .u8) v1 b_0) (r : Bool) (h0 : rtcp_Is b_0 = some r) :
    Calls Try.prog 24 #[v1] w0 (Re (Po24 S0 w0 [] r)) := by
 unfold rtcp_Is at h0
 refine calls_of_cd Try.func24 rfl Try.ntmps24 rfl ?_
 refine Cd.sr ?_
 refine Rg.vN (X.assign rfl) rfl ?_
 refine Rg.go ?_
 refine Cd.seq ?_
 obtain ⟨p4, hp5, h0⟩ := bind_s h0
 refine Cd.post (fun K w => ∃ (S6 : Mp), K = [(2, .bool p4)] ∧ Le S0 S6 ∧ St w0 [] S0 S6 [] w) ?_ ?_
 ·rintro K9 w7 ⟨S6, rfl, le8, hs⟩
  refine Cd.go ?_
  refine Cd.ret ?_
  have e := some_s h0
  subst e
  exact fun a ha => Cd.retA (P := Try.prog) (fn := Try.f24) (R := Re (Po24 S0 w0 [] _)) ha Try.results24 ⟨_, _, rfl, rfl, rfl⟩ ⟨_, rfl, S6, rfl, hs⟩
 ·skip
  refine Cd.region ?_
  refine Rg.vN (X.move rfl) rfl ?_
  refine Rg.vN (X.lenR Try.underlying31 rfl f2) rfl ?_
  refine Rg.vN (X.geq rfl rfl) rfl ?_
  refine Rg.vN (X.move rfl) rfl ?_
  refine Rg.vT rfl rfl rfl (fun hW => X.move rfl) ?_
  refine Rg.split (c := decide (2 ≤ (b_0.length : Int))) (tj := 6) rfl (fun hc10 => ?_) (fun hc10 => ?_)
  ·have hp5 := ite_t hc10 hp5
   refine Rg.weak [(0, v1), (6, .bool true), (7, v1)] ⟨rfl, rfl, get_g rfl hc10, trivial⟩ ?_
   refine Rg.gon rfl rfl rfl ?_
   obtain ⟨x11, hx12, hp5⟩ := bind_s hp5
   obtain ⟨ad13, vals14, _, hR15, hE16, hX17⟩ := mk_index Try.underlying31 zz5 (by decide) f2 hx12
   obtain rfl : vals14 = [.int .u8 x11] := hR15
   refine Rg.vN (hX17 rfl rfl) rfl ?_
   refine Rg.gon rfl rfl rfl ?_
   refine Rg.vN (X.load1 Try.underlying5 rfl rfl (hE16.at0 rfl hs.has)) rfl ?_
   refine Rg.gon rfl rfl rfl ?_
   refine Rg.vN (X.geq rfl rfl) rfl ?_
   refine Rg.vN (X.pickT rfl rfl) rfl ?_
   refine Rg.vN (X.move rfl) rfl ?_
   refine Rg.vT rfl rfl rfl (fun hW => X.move rfl) ?_
   refine Rg.split (c := decide (192 ≤ x11)) (tj := 12) rfl (fun hc18 => ?_) (fun hc18 => ?_)
   ·have hp5 := ite_t hc18 hp5
    refine Rg.weak [(12, .bool true), (13, v1)] ⟨rfl, get_g rfl hc18, trivial⟩ ?_
    refine Rg.gon rfl rfl rfl ?_
    obtain ⟨x19, hx20, hp5⟩ := bind_s hp5
    obtain ⟨ad21, vals22, _, hR23, hE24, hX25⟩ := mk_index Try.underlying31 zz5 (by decide) f2 hx20
    obtain rfl : vals22 = [.int .u8 x19] := hR23
    refine Rg.vN (hX25 rfl rfl) rfl ?_
    refine Rg.gon rfl rfl rfl ?_
    refine Rg.vN (X.load1 Try.underlying5 rfl rfl (hE24.at0 rfl hs.has)) rfl ?_
    refine Rg.gon rfl rfl rfl ?_
    refine Rg.vN (X.leq rfl rfl) rfl ?_
    refine Rg.vN (X.pickT rfl rfl) rfl ?_
    refine Rg.vN (X.assign rfl) rfl ?_
    refine Rg.nil ?_
    have e := some_s hp5
    subst e
    exact fun a ha => ⟨[(2, .bool (decide (x19 ≤ 223)))], ha.weak ⟨rfl, trivial⟩, S0, rfl, Le.refl _, hs⟩
   ·have hp5 := ite_f hc18 hp5
    refine Rg.weak [(12, .bool false), (13, undef)] ⟨rfl, get_u rfl (not_f hc18), trivial⟩ ?_
    refine Rg.vO rfl rfl rfl rfl ?_
    refine Rg.vO rfl rfl rfl rfl ?_
    refine Rg.vO rfl rfl rfl rfl ?_
    refine Rg.vN (X.pickF rfl rfl) rfl ?_
    refine Rg.vN (X.assign rfl) rfl ?_
    refine Rg.nil ?_
    have e := some_s hp5
    subst e
    exact fun a ha => ⟨[(2, .bool false)], ha.weak ⟨rfl, trivial⟩, S0, rfl, Le.refl _, hs⟩
  ·have hp5 := ite_f hc10 hp5
   refine Rg.weak [(0, v1), (6, .bool false), (7, undef)] ⟨rfl, rfl, get_u rfl (not_f hc10), trivial⟩ ?_
   refine Rg.vO rfl rfl rfl rfl ?_
   refine Rg.vO rfl rfl rfl rfl ?_
   refine Rg.vO rfl rfl rfl rfl ?_
   refine Rg.vN (X.pickF rfl rfl) rfl ?_
   refine Rg.vN (X.move rfl) rfl ?_
   refine Rg.vO rfl rfl rfl rfl ?_
   refine Rg.vO rfl rfl rfl rfl ?_
   refine Rg.vO rfl rfl rfl rfl ?_
   refine Rg.vO rfl rfl rfl rfl ?_
   refine Rg.vN (X.pickF rfl rfl) rfl ?_
   refine Rg.vN (X.assign rfl) rfl ?_
   refine Rg.nil ?_
   have e := some_s hp5
   subst e
   exact fun a ha => ⟨[(2, .bool false)], ha.weak ⟨rfl, trivial⟩, S0, rfl, Le.refl _, hs⟩
noncomputable def limelightlaw6_known : Option Bool :=
 (rtcp_Bytes ([(⟨3, 1, 2, ([] : List api_Tuple), ([] : List Int), ([] : List Int), 0, 0, 0, ([] : List Int)⟩ : api_Report), (⟨5, 0, 0, ([] : List api_Tuple), ([5] : List Int), ([] : List Int), 8000, 0, 0, ([] : List Int)⟩ : api_Report)] : List api_Report)).bind fun x19 =>
 (rtcp_Read x19.1).bind fun x29 =>
 (rtcp_Read ([] : List Int)).bind fun x39 =>
 (rtcp_Bytes ([] : List api_Report)).bind fun x49 =>
 (rtcp_Read ([161, 206, 0, 0] : List Int)).bind fun x66 =>
 ((
  if ((x19.2 == 0) && ((x19.1.length : Int) == 36)) = true then (
   (cutTo x19.1 4).bind fun y88 =>
   if ((((strOfNums y88).toList == (⟨#[129, 206, 0, 2]⟩ : ByteArray).toList) && (x29.2 == 0)) && ((x29.1.length : Int) == 2)) = true then (
    (ix x29.1 0).bind fun x93 =>
    (rtcp_Same x93 (⟨3, 1, 2, ([] : List api_Tuple), ([] : List Int), ([] : List Int), 0, 0, 0, ([] : List Int)⟩ : api_Report)).bind fun x108 =>
    if x108 = true then (
     (ix x29.1 1).bind fun x117 =>
     if ((((x117.Rate == 8000) && (x39.2 == 13)) && (x49.2 == 1)) && (x66.2 == 12)) = true then (
      (rtcp_Is x19.1).bind fun x133 =>
      if x133 = true then (
       (rtcp_Is ([] : List Int)).bind fun x142 =>
       if (!x142) = true then (
        (rtcp_Is ([128, 96] : List Int)).bind fun x158 =>
        if (!x158) = true then (
         (rtcp_Right (⟨0, 0, 0, ([] : List api_Tuple), ([] : List Int), ([] : List Int), 0, 0, 0, ([] : List Int)⟩ : api_Report)).bind fun x167 =>
         some (x167 == 12))
        else (
         some false))
       else (
        some false))
      else (
       some false))
     else (
      some false))
    else (
     some false))
   else (
    some false))
  else (
   some false) : Option Bool)).bind fun p77 =>
 some p77
def Po15 (S0 : Mp) (w0 : World) (D : List Nat) (r : Bool) (v : Value) (w1 : World) : Prop :=
  ∃ (S1 : Mp), v = .bool r ∧ St w0 D S0 S1 [] w1
set_option maxHeartbeats 4000000 in
theorem c15 (S0 : Mp) {w0 : World} (hs : St w0 [] S0 S0 [] w0)  (r : Bool) (h0 : limelightlaw6_known = some r) :
    Calls Try.prog 15 #[] w0 (Re (Po15 S0 w0 [] r)) := by
 unfold limelightlaw6_known at h0
 refine calls_of_cd Try.func15 rfl Try.ntmps15 rfl ?_
 refine Cd.sr ?_
 refine Rg.vN (X.assign rfl) rfl ?_
 refine Rg.go ?_
 refine Cd.sr ?_
 refine Rg.vN (X.build (zc := [.int .i64 0, .int .u32 0, .int .u32 0, .slice none 0 0, .slice none 0 0, .slice none 0 0, .int .u64 0, .int .i64 0, .int .i64 0, .slice none 0 0]) (cells := [.int .i64 3, .int .u32 1, .int .u32 2, .slice none 0 0, .slice none 0 0, .slice none 0 0, .int .u64 0, .int .i64 0, .int .i64 0, .slice none 0 0]) ii33 rfl rfl Try.underlying33 (pp33 _ Try.underlying33) ⟨_, [.int .i64 3], _, rfl, rfl, rfl, ⟨_, [.int .u32 1], _, rfl, rfl, rfl, ⟨_, [.int .u32 2], _, rfl, rfl, rfl, rfl⟩⟩⟩ rfl) rfl ?_
 refine Rg.step rfl (Oq.alloc (cs := #[.int .i64 0, .int .u32 0, .int .u32 0, .slice none 0 0, .slice none 0 0, .slice none 0 0, .int .u64 0, .int .i64 0, .int .i64 0, .slice none 0 0]) hs ii33 rfl rfl rfl (fun b1 w2 hs => ?_))
 refine Rg.step rfl (Oq.storeN hs 0 rfl (vals := [.int .i64 3, .int .u32 1, .int .u32 2, .slice none 0 0, .slice none 0 0, .slice none 0 0, .int .u64 0, .int .i64 0, .int .i64 0, .slice none 0 0]) zz33 rfl rfl (one_all ⟨rfl, rfl, rfl, rfl, rfl, rfl, rfl, rfl, rfl, rfl, trivial⟩) rfl [.box b1 #[.int .i64 3, .int .u32 1, .int .u32 2, .slice none 0 0, .slice none 0 0, .slice none 0 0, .int .u64 0, .int .i64 0, .int .i64 0, .slice none 0 0] 33] rfl (fun w4 hs => ?_))
 refine Rg.go ?_
 refine Cd.sr ?_
 refine Rg.vN (X.loadN (vals := [.int .i64 3, .int .u32 1, .int .u32 2, .slice none 0 0, .slice none 0 0, .slice none 0 0, .int .u64 0, .int .i64 0, .int .i64 0, .slice none 0 0]) Try.underlying33 rfl zz33 rfl (hs.range 0 rfl 0 rfl)) rfl ?_
 refine Rg.step rfl (Oq.lit (sz := 1) (cs0 := [.int .u32 0]) (cells := [.int .u32 5]) hs Try.underlying29 ii27 rfl rfl rfl rfl rfl rfl ⟨_, [.int .u32 5], _, rfl, rfl, rfl, rfl⟩ rfl rfl rfl (fun b5 w6 S7 hs le8 hE9 => ?_))
 have f11 : Rd S7 1 (RI .u32) (.slice (some ⟨b5, 0, none⟩) 1 1) ([5] : List Int) := Rd.of_cells (xs := ([5] : List Int)) ⟨[.int .u32 5], _, rfl, rfl, one_all ⟨rfl, trivial⟩, rfl, rfl⟩ hE9 (Nat.le_of_ble_eq_true rfl) (Nat.le_of_ble_eq_true rfl)
 refine Rg.vN (X.build (zc := [.int .i64 0, .int .u32 0, .int .u32 0, .slice none 0 0, .slice none 0 0, .slice none 0 0, .int .u64 0, .int .i64 0, .int .i64 0, .slice none 0 0]) (cells := [.int .i64 5, .int .u32 0, .int .u32 0, .slice none 0 0, .slice (some ⟨b5, 0, none⟩) 1 1, .slice none 0 0, .int .u64 8000, .int .i64 0, .int .i64 0, .slice none 0 0]) ii33 rfl rfl Try.underlying33 (pp33 _ Try.underlying33) ⟨_, [.int .i64 5], _, rfl, rfl, rfl, ⟨_, [.int .u64 8000], _, rfl, rfl, rfl, ⟨_, [.slice (some ⟨b5, 0, none⟩) 1 1], _, rfl, rfl, f11.cells, rfl⟩⟩⟩ rfl) rfl ?_
 refine Rg.step rfl (Oq.lit (sz := 10) (cs0 := [.int .i64 0, .int .u32 0, .int .u32 0, .slice none 0 0, .slice none 0 0, .slice none 0 0, .int .u64 0, .int .i64 0, .int .i64 0, .slice none 0 0, .int .i64 0, .int .u32 0, .int .u32 0, .slice none 0 0, .slice none 0 0, .slice none 0 0, .int .u64 0, .int .i64 0, .int .i64 0, .slice none 0 0]) (cells := [.int .i64 3, .int .u32 1, .int .u32 2, .slice none 0 0, .slice none 0 0, .slice none 0 0, .int .u64 0, .int .i64 0, .int .i64 0, .slice none 0 0, .int .i64 5, .int .u32 0, .int .u32 0, .slice none 0 0, .slice (some ⟨b5, 0, none⟩) 1 1, .slice none 0 0, .int .u64 8000, .int .i64 0, .int .i64 0, .slice none 0 0]) hs Try.underlying36 ii33 rfl rfl rfl rfl rfl rfl ⟨_, [.int .i64 3, .int .u32 1, .int .u32 2, .slice none 0 0, .slice none 0 0, .slice none 0 0, .int .u64 0, .int .i64 0, .int .i64 0, .slice none 0 0], _, rfl, rfl, rfl, ⟨_, [.int .i64 5, .int .u32 0, .int .u32 0, .slice none 0 0, .slice (some ⟨b5, 0, none⟩) 1 1, .slice none 0 0, .int .u64 8000, .int .i64 0, .int .i64 0, .slice none 0 0], _, rfl, rfl, rfl, rfl⟩⟩ rfl rfl rfl (fun b12 w13 S14 hs le15 hE16 => ?_))
 have f18 : Rd S14 10 R_api_Report (.slice (some ⟨b12, 0, none⟩) 2 2) ([(⟨3, 1, 2, ([] : List api_Tuple), ([] : List Int), ([] : List Int), 0, 0, 0, ([] : List Int)⟩ : api_Report), (⟨5, 0, 0, ([] : List api_Tuple), ([5] : List Int), ([] : List Int), 8000, 0, 0, ([] : List Int)⟩ : api_Report)] : List api_Report) := Rd.of_cells (xs := ([(⟨3, 1, 2, ([] : List api_Tuple), ([] : List Int), ([] : List Int), 0, 0, 0, ([] : List Int)⟩ : api_Report), (⟨5, 0, 0, ([] : List api_Tuple), ([5] : List Int), ([] : List Int), 8000, 0, 0, ([] : List Int)⟩ : api_Report)] : List api_Report)) ⟨[.int .i64 3, .int .u32 1, .int .u32 2, .slice none 0 0, .slice none 0 0, .slice none 0 0, .int .u64 0, .int .i64 0, .int .i64 0, .slice none 0 0], _, rfl, rfl, one_all ⟨rfl, rfl, rfl, rfl, rfl, rfl, rfl, rfl, rfl, rfl, trivial⟩, ⟨_, _, _, _, rfl, (Rd.nil _ _ _), (Rd.nil _ _ _), (Rd.nil _ _ _), (Rd.nil _ _ _)⟩, ⟨[.int .i64 5, .int .u32 0, .int .u32 0, .slice none 0 0, .slice (some ⟨b5, 0, none⟩) 1 1, .slice none 0 0, .int .u64 8000, .int .i64 0, .int .i64 0, .slice none 0 0], _, rfl, rfl, one_all ⟨rfl, rfl, rfl, rfl, (f11.mono le15).one, rfl, rfl, rfl, rfl, rfl, trivial⟩, ⟨_, _, _, _, rfl, (Rd.nil _ _ _), (f11.mono le15), (Rd.nil _ _ _), (Rd.nil _ _ _)⟩, rfl⟩⟩ hE16 (Nat.le_of_ble_eq_true rfl) (Nat.le_of_ble_eq_true rfl)
 obtain ⟨x19, hx20, h0⟩ := bind_s h0
 refine Rg.step rfl (Oq.call Try.call19 rfl rfl (c19 S14 (St.start _ _ hs.has) _ _ f18 _ hx20) (fun v21 w22 h23 => ?_))
 obtain ⟨S24, v27, rfl, hs25, f28⟩ := h23
 have _ := 0
 have le26 : Le S14 S24 := hs25.le
 have hs := hs.call0 hs25
 refine Rg.vN (X.move rfl) rfl ?_
 refine Rg.vN (X.extract rfl rfl) rfl ?_
 refine Rg.vN (X.extract rfl rfl) rfl ?_
 refine Rg.vN (X.assign rfl) rfl ?_
 refine Rg.vN (X.assign rfl) rfl ?_
 refine Rg.go ?_
 refine Cd.sr ?_
 refine Rg.vN (X.move rfl) rfl ?_
 obtain ⟨x29, hx30, h0⟩ := bind_s h0
 refine Rg.step rfl (Oq.call Try.call20 rfl rfl (c20 S24 (St.start _ _ hs.has) _ _ f28 _ hx30) (fun v31 w32 h33 => ?_))
 obtain ⟨S34, v37, rfl, hs35, f38⟩ := h33
 have _ := 0
 have le36 : Le S24 S34 := hs35.le
 have hs := hs.call0 hs35
 refine Rg.vN (X.move rfl) rfl ?_
 refine Rg.vN (X.extract rfl rfl) rfl ?_
 refine Rg.vN (X.extract rfl rfl) rfl ?_
 refine Rg.vN (X.assign rfl) rfl ?_
 refine Rg.vN (X.assign rfl) rfl ?_
 refine Rg.go ?_
 refine Cd.weak [(1, .pointer (some ⟨b1, 0, none⟩)), (2, v27), (3, .int .i64 x19.2), (4, v37), (5, .int .i64 x29.2)] ⟨rfl, rfl, rfl, rfl, rfl, trivial⟩ ?_
 refine Cd.sr ?_
 obtain ⟨x39, hx40, h0⟩ := bind_s h0
 refine Rg.step rfl (Oq.call Try.call20 rfl rfl (c20 S34 (St.start _ _ hs.has) _ _ (Rd.nil _ _ _) _ hx40) (fun v41 w42 h43 => ?_))
 obtain ⟨S44, v47, rfl, hs45, f48⟩ := h43
 have _ := 0
 have le46 : Le S34 S44 := hs45.le
 have hs := hs.call0 hs45
 refine Rg.vN (X.move rfl) rfl ?_
 refine Rg.vN (X.extract rfl rfl) rfl ?_
 refine Rg.vN (X.extract rfl rfl) rfl ?_
 refine Rg.vN (X.assign rfl) rfl ?_
 refine Rg.vN (X.assign rfl) rfl ?_
 refine Rg.go ?_
 refine Cd.sr ?_
 obtain ⟨x49, hx50, h0⟩ := bind_s h0
 refine Rg.step rfl (Oq.call Try.call19 rfl rfl (c19 S44 (St.start _ _ hs.has) _ _ (Rd.nil _ _ _) _ hx50) (fun v51 w52 h53 => ?_))
 obtain ⟨S54, v57, rfl, hs55, f58⟩ := h53
 have _ := 0
 have le56 : Le S44 S54 := hs55.le
 have hs := hs.call0 hs55
 refine Rg.vN (X.move rfl) rfl ?_
 refine Rg.vN (X.extract rfl rfl) rfl ?_
 refine Rg.vN (X.extract rfl rfl) rfl ?_
 refine Rg.vN (X.assign rfl) rfl ?_
 refine Rg.vN (X.assign rfl) rfl ?_
 refine Rg.go ?_
 refine Cd.weak [(1, .pointer (some ⟨b1, 0, none⟩)), (2, v27), (3, .int .i64 x19.2), (4, v37), (5, .int .i64 x29.2), (7, .int .i64 x39.2), (9, .int .i64 x49.2)] ⟨rfl, rfl, rfl, rfl, rfl, rfl, rfl, trivial⟩ ?_
 refine Cd.sr ?_
 refine Rg.step rfl (Oq.lit (sz := 1) (cs0 := [.int .u8 0, .int .u8 0, .int .u8 0, .int .u8 0]) (cells := [.int .u8 161, .int .u8 206, .int .u8 0, .int .u8 0]) hs Try.underlying31 ii5 rfl rfl rfl rfl rfl rfl ⟨_, [.int .u8 161], _, rfl, rfl, rfl, ⟨_, [.int .u8 206], _, rfl, rfl, rfl, ⟨_, [.int .u8 0], _, rfl, rfl, rfl, ⟨_, [.int .u8 0], _, rfl, rfl, rfl, rfl⟩⟩⟩⟩ rfl rfl rfl (fun b59 w60 S61 hs le62 hE63 => ?_))
 have f65 : Rd S61 1 (RI .u8) (.slice (some ⟨b59, 0, none⟩) 4 4) ([161, 206, 0, 0] : List Int) := Rd.of_cells (xs := ([161, 206, 0, 0] : List Int)) ⟨[.int .u8 161], _, rfl, rfl, one_all ⟨rfl, trivial⟩, rfl, ⟨[.int .u8 206], _, rfl, rfl, one_all ⟨rfl, trivial⟩, rfl, ⟨[.int .u8 0], _, rfl, rfl, one_all ⟨rfl, trivial⟩, rfl, ⟨[.int .u8 0], _, rfl, rfl, one_all ⟨rfl, trivial⟩, rfl, rfl⟩⟩⟩⟩ hE63 (Nat.le_of_ble_eq_true rfl) (Nat.le_of_ble_eq_true rfl)
 obtain ⟨x66, hx67, h0⟩ := bind_s h0
 refine Rg.step rfl (Oq.call Try.call20 rfl rfl (c20 S61 (St.start _ _ hs.has) _ _ f65 _ hx67) (fun v68 w69 h70 => ?_))
 obtain ⟨S71, v74, rfl, hs72, f75⟩ := h70
 have _ := 0
 have le73 : Le S61 S71 := hs72.le
 have hs := hs.call0 hs72
 refine Rg.vN (X.move rfl) rfl ?_
 refine Rg.vN (X.extract rfl rfl) rfl ?_
 refine Rg.vN (X.extract rfl rfl) rfl ?_
 refine Rg.vN (X.assign rfl) rfl ?_
 refine Rg.vN (X.assign rfl) rfl ?_
 refine Rg.go ?_
 refine Cd.seq ?_
 obtain ⟨p77, hp78, h0⟩ := bind_s h0
 refine Cd.post (fun K w => ∃ (S79 : Mp), K = [(0, .bool p77)] ∧ Le S71 S79 ∧ St w0 [] S0 S79 [] w) ?_ ?_
 ·rintro K82 w80 ⟨S79, rfl, le81, hs⟩
  refine Cd.go ?_
  refine Cd.ret ?_
  have e := some_s h0
  subst e
  exact fun a ha => Cd.retA (P := Try.prog) (fn := Try.f15) (R := Re (Po15 S0 w0 [] _)) ha Try.results15 ⟨_, _, rfl, rfl, rfl⟩ ⟨_, rfl, S79, rfl, hs⟩
 ·skip
  refine Cd.rD mixed (fun l w => Has S71 w ∧ Hp b1 #[.int .i64 3, .int .u32 1, .int .u32 2, .slice none 0 0, .slice none 0 0, .slice none 0 0, .int .u64 0, .int .i64 0, .int .i64 0, .slice none 0 0] 33 w) hs (fun _ _ _ _ _ h => h) (by kernel_rfl) (fun w83 hs => ⟨⟨hs.has, (hs.heap 3 rfl)⟩, ?_⟩)
  refine Rk.tN 0 rfl (by kernel_rfl) rfl (fun _ _ => X.move rfl) ?_
  refine Rk.tN 1 rfl (by kernel_rfl) rfl (fun _ _ => X.eql rfl rfl) ?_
  refine Rk.tN 2 rfl (by kernel_rfl) rfl (fun _ _ => X.move rfl) ?_
  refine Rk.tT 3 rfl (by kernel_rfl) rfl rfl rfl (fun hW => fun _ _ => X.move rfl) ?_
  refine Rk.tT 4 rfl (by kernel_rfl) rfl rfl rfl (fun hW => fun _ _ => X.lenR Try.underlying31 (ev_g rfl hW) (f28.mono (le36.trans (le46.trans (le56.trans (le62.trans le73)))))) ?_
  refine Rk.tT 5 rfl (by kernel_rfl) rfl rfl rfl (fun hW => fun _ _ => X.eql (ev_g rfl hW) rfl) ?_
  refine Rk.tN 6 rfl (by kernel_rfl) rfl (fun _ _ => X.pickAnd rfl rfl rfl) ?_
  refine Rk.tN 7 rfl (by kernel_rfl) rfl (fun _ _ => X.move rfl) ?_
  refine Rk.tT 8 rfl (by kernel_rfl) rfl rfl rfl (fun hW => fun _ _ => X.move rfl) ?_
  refine Rk.split (b := (x19.2 == 0) && ((x19.1.length : Int) == 36)) (tj := 46) rfl (fun hc84 => ?_) (fun hc84 => ?_)
  ·have hp78 := ite_t hc84 hp78
   refine Rk.weak [(1, .pointer (some ⟨b1, 0, none⟩)), (2, v27), (4, v37), (5, .int .i64 x29.2), (7, .int .i64 x39.2), (9, .int .i64 x49.2), (11, .int .i64 x66.2), (46, .bool true), (47, v27)] ⟨rfl, rfl, rfl, rfl, rfl, rfl, rfl, rfl, get_g rfl hc84, trivial⟩ ?_
   obtain ⟨y88, hx89, hp78⟩ := bind_s hp78
   obtain ⟨hb90, he91⟩ := cutTo_s hx89
   obtain ⟨v85, f86, hX87⟩ := mk_sliceH Try.underlying31 zz5 (f28.mono (le36.trans (le46.trans (le56.trans (le62.trans le73))))) hb90
   rw [he91] at f86
   refine Rk.tT 9 rfl (by kernel_rfl) rfl rfl rfl (fun hW => fun _ _ => hX87 rfl rfl) ?_
   refine Rk.tT 10 rfl (by kernel_rfl) rfl rfl rfl (fun hW => fun w hc => X.str hc.1 Try.underlying31 Try.underlying5 Try.underlying9 f86 rfl) ?_
   refine Rk.tT 11 rfl (by kernel_rfl) rfl rfl rfl (fun hW => fun _ _ => X.eqlS rfl rfl) ?_
   refine Rk.tN 12 rfl (by kernel_rfl) rfl (fun _ _ => X.pickT rfl rfl) ?_
   refine Rk.tN 13 rfl (by kernel_rfl) rfl (fun _ _ => X.move rfl) ?_
   refine Rk.tT 14 rfl (by kernel_rfl) rfl rfl rfl (fun hW => fun _ _ => X.move rfl) ?_
   refine Rk.tT 15 rfl (by kernel_rfl) rfl rfl rfl (fun hW => fun _ _ => X.eql (ev_g rfl hW) rfl) ?_
   refine Rk.tN 16 rfl (by kernel_rfl) rfl (fun _ _ => X.pickAnd rfl rfl rfl) ?_
   refine Rk.tN 17 rfl (by kernel_rfl) rfl (fun _ _ => X.move rfl) ?_
   refine Rk.tT 18 rfl (by kernel_rfl) rfl rfl rfl (fun hW => fun _ _ => X.move rfl) ?_
   refine Rk.tT 19 rfl (by kernel_rfl) rfl rfl rfl (fun hW => fun _ _ => X.lenR Try.underlying36 (ev_g rfl hW) (f38.mono (le46.trans (le56.trans (le62.trans le73))))) ?_
   refine Rk.tT 20 rfl (by kernel_rfl) rfl rfl rfl (fun hW => fun _ _ => X.eql (ev_g rfl hW) rfl) ?_
   refine Rk.tN 21 rfl (by kernel_rfl) rfl (fun _ _ => X.pickAnd rfl rfl rfl) ?_
   refine Rk.tN 22 rfl (by kernel_rfl) rfl (fun _ _ => X.move rfl) ?_
   refine Rk.tT 23 rfl (by kernel_rfl) rfl rfl rfl (fun hW => fun _ _ => X.move rfl) ?_
   refine Rk.tT 26 rfl (by kernel_rfl) rfl rfl rfl (fun hW => fun w hc => X.loadN (vals := [.int .i64 3, .int .u32 1, .int .u32 2, .slice none 0 0, .slice none 0 0, .slice none 0 0, .int .u64 0, .int .i64 0, .int .i64 0, .slice none 0 0]) Try.underlying33 rfl zz33 rfl (heap_range hc.2 0 rfl)) ?_
   refine Rk.split (b := (((strOfNums y88).toList == (⟨#[129, 206, 0, 2]⟩ : ByteArray).toList) && (x29.2 == 0)) && ((x29.1.length : Int) == 2)) (tj := 61) rfl (fun hc92 => ?_) (fun hc92 => ?_)
   ·have hp78 := ite_t hc92 hp78
    refine Rk.weak [(2, v27), (4, v37), (7, .int .i64 x39.2), (9, .int .i64 x49.2), (11, .int .i64 x66.2), (61, .bool true), (62, v37), (65, .agg (#[.int .i64 3, .int .u32 1, .int .u32 2, .slice none 0 0, .slice none 0 0, .slice none 0 0, .int .u64 0, .int .i64 0, .int .i64 0, .slice none 0 0]))] ⟨rfl, rfl, rfl, rfl, rfl, rfl, get_g rfl hc92, get_g rfl hc92, trivial⟩ ?_
    obtain ⟨x93, hx94, hp78⟩ := bind_s hp78
    obtain ⟨ad95, vals96, _, hR97, hE98, hX99⟩ := mk_index Try.underlying36 zz33 (by decide) (f38.mono (le46.trans (le56.trans (le62.trans le73)))) hx94
    unfold R_api_Report at hR97
    obtain ⟨v100, v102, v104, v106, rfl, f101, f103, f105, f107⟩ := hR97
    refine Rk.tT 24 rfl (by kernel_rfl) rfl rfl rfl (fun hW => fun _ _ => hX99 rfl rfl) ?_
    refine Rk.tT 25 rfl (by kernel_rfl) rfl rfl rfl (fun hW => fun w hc => X.loadE (vals := [.int .i64 x93.Kind, .int .u32 x93.From, .int .u32 x93.About, v100, v102, v104, .int .u64 x93.Rate, .int .i64 x93.Type_, .int .i64 x93.Count, v106]) hc.1 Try.underlying33 rfl zz33 rfl hE98) ?_
    obtain ⟨x108, hx109, hp78⟩ := bind_s hp78
    refine Rk.eG 27 rfl (by kernel_rfl) rfl rfl rfl (Oq.call Try.call17 rfl rfl (c17 S71 (St.start _ _ hs.has) x93 _ f101 _ f103 _ f105 _ f107 (⟨3, 1, 2, ([] : List api_Tuple), ([] : List Int), ([] : List Int), 0, 0, 0, ([] : List Int)⟩ : api_Report) _ (Rd.nil _ _ _) _ (Rd.nil _ _ _) _ (Rd.nil _ _ _) _ (Rd.nil _ _ _) _ hx109) (fun v110 w111 h112 => ?_))
    obtain ⟨S113, rfl, hs114⟩ := h112
    have _ := 0
    have le115 : Le S71 S113 := hs114.le
    have hs := hs.call0 hs114
    refine ⟨⟨(hs.has.down le115), (hs.heap 3 rfl)⟩, Rk.mk (C' := fun l w => Has S113 w ∧ Hp b1 #[.int .i64 3, .int .u32 1, .int .u32 2, .slice none 0 0, .slice none 0 0, .slice none 0 0, .int .u64 0, .int .i64 0, .int .i64 0, .slice none 0 0] 33 w) ⟨hs.has, (hs.heap 3 rfl)⟩ (fun l w hc => ⟨hc.1.down le115, hc.2⟩) ?_⟩
    refine Rk.tN 28 rfl (by kernel_rfl) rfl (fun _ _ => X.pickT rfl rfl) ?_
    refine Rk.tN 29 rfl (by kernel_rfl) rfl (fun _ _ => X.move rfl) ?_
    refine Rk.tT 30 rfl (by kernel_rfl) rfl rfl rfl (fun hW => fun _ _ => X.move rfl) ?_
    refine Rk.split (b := x108) (tj := 68) rfl (fun hc116 => ?_) (fun hc116 => ?_)
    ·have hp78 := ite_t hc116 hp78
     refine Rk.weak [(2, v27), (7, .int .i64 x39.2), (9, .int .i64 x49.2), (11, .int .i64 x66.2), (68, .bool true), (69, v37)] ⟨rfl, rfl, rfl, rfl, rfl, get_g rfl hc116, trivial⟩ ?_
     obtain ⟨x117, hx118, hp78⟩ := bind_s hp78
     obtain ⟨ad119, vals120, _, hR121, hE122, hX123⟩ := mk_index Try.underlying36 zz33 (by decide) (f38.mono (le46.trans (le56.trans (le62.trans (le73.trans le115))))) hx118
     unfold R_api_Report at hR121
     obtain ⟨v124, v126, v128, v130, rfl, f125, f127, f129, f131⟩ := hR121
     refine Rk.tT 31 rfl (by kernel_rfl) rfl rfl rfl (fun hW => fun _ _ => hX123 rfl rfl) ?_
     refine Rk.tT 32 rfl (by kernel_rfl) rfl rfl rfl (fun hW => fun _ _ => X.fieldE Try.underlying33 rfl zz30 rfl rfl) ?_
     refine Rk.tT 33 rfl (by kernel_rfl) rfl rfl rfl (fun hW => fun w hc => X.load1 Try.underlying30 rfl rfl ((El.part (part := [.int .u64 x117.Rate]) hE122 6 rfl).at0 rfl hc.1)) ?_
     refine Rk.tT 34 rfl (by kernel_rfl) rfl rfl rfl (fun hW => fun _ _ => X.eql rfl rfl) ?_
     refine Rk.tN 35 rfl (by kernel_rfl) rfl (fun _ _ => X.pickT rfl rfl) ?_
     refine Rk.tN 36 rfl (by kernel_rfl) rfl (fun _ _ => X.move rfl) ?_
     refine Rk.tT 37 rfl (by kernel_rfl) rfl rfl rfl (fun hW => fun _ _ => X.move rfl) ?_
     refine Rk.tT 38 rfl (by kernel_rfl) rfl rfl rfl (fun hW => fun _ _ => X.eql (ev_g rfl hW) rfl) ?_
     refine Rk.tN 39 rfl (by kernel_rfl) rfl (fun _ _ => X.pickAnd rfl rfl rfl) ?_
     refine Rk.tN 40 rfl (by kernel_rfl) rfl (fun _ _ => X.move rfl) ?_
     refine Rk.tT 41 rfl (by kernel_rfl) rfl rfl rfl (fun hW => fun _ _ => X.move rfl) ?_
     refine Rk.tT 42 rfl (by kernel_rfl) rfl rfl rfl (fun hW => fun _ _ => X.eql (ev_g rfl hW) rfl) ?_
     refine Rk.tN 43 rfl (by kernel_rfl) rfl (fun _ _ => X.pickAnd rfl rfl rfl) ?_
     refine Rk.tN 44 rfl (by kernel_rfl) rfl (fun _ _ => X.move rfl) ?_
     refine Rk.tT 45 rfl (by kernel_rfl) rfl rfl rfl (fun hW => fun _ _ => X.move rfl) ?_
     refine Rk.tT 46 rfl (by kernel_rfl) rfl rfl rfl (fun hW => fun _ _ => X.eql (ev_g rfl hW) rfl) ?_
     refine Rk.tN 47 rfl (by kernel_rfl) rfl (fun _ _ => X.pickAnd rfl rfl rfl) ?_
     refine Rk.tN 48 rfl (by kernel_rfl) rfl (fun _ _ => X.move rfl) ?_
     refine Rk.tT 49 rfl (by kernel_rfl) rfl rfl rfl (fun hW => fun _ _ => X.move rfl) ?_
     refine Rk.split (b := (((x117.Rate == 8000) && (x39.2 == 13)) && (x49.2 == 1)) && (x66.2 == 12)) (tj := 87) rfl (fun hc132 => ?_) (fun hc132 => ?_)
     ·have hp78 := ite_t hc132 hp78
      refine Rk.weak [(87, .bool true), (88, v27)] ⟨rfl, get_g rfl hc132, trivial⟩ ?_
      obtain ⟨x133, hx134, hp78⟩ := bind_s hp78
      refine Rk.eG 50 rfl (by kernel_rfl) rfl rfl rfl (Oq.call Try.call24 rfl rfl (c24 S113 (St.start _ _ hs.has) _ _ (f28.mono (le36.trans (le46.trans (le56.trans (le62.trans (le73.trans le115)))))) _ hx134) (fun v135 w136 h137 => ?_))
      obtain ⟨S138, rfl, hs139⟩ := h137
      have _ := 0
      have le140 : Le S113 S138 := hs139.le
      have hs := hs.call0 hs139
      refine ⟨⟨(hs.has.down le140), (hs.heap 3 rfl)⟩, Rk.mk (C' := fun l w => Has S138 w ∧ Hp b1 #[.int .i64 3, .int .u32 1, .int .u32 2, .slice none 0 0, .slice none 0 0, .slice none 0 0, .int .u64 0, .int .i64 0, .int .i64 0, .slice none 0 0] 33 w) ⟨hs.has, (hs.heap 3 rfl)⟩ (fun l w hc => ⟨hc.1.down le140, hc.2⟩) ?_⟩
      refine Rk.tN 51 rfl (by kernel_rfl) rfl (fun _ _ => X.pickT rfl rfl) ?_
      refine Rk.tN 52 rfl (by kernel_rfl) rfl (fun _ _ => X.move rfl) ?_
      refine Rk.split (b := x133) (tj := 91) rfl (fun hc141 => ?_) (fun hc141 => ?_)
      ·have hp78 := ite_t hc141 hp78
       refine Rk.weak [(91, .bool true)] ⟨rfl, trivial⟩ ?_
       obtain ⟨x142, hx143, hp78⟩ := bind_s hp78
       refine Rk.eG 53 rfl (by kernel_rfl) rfl rfl rfl (Oq.call Try.call24 rfl rfl (c24 S138 (St.start _ _ hs.has) _ _ (Rd.nil _ _ _) _ hx143) (fun v144 w145 h146 => ?_))
       obtain ⟨S147, rfl, hs148⟩ := h146
       have _ := 0
       have le149 : Le S138 S147 := hs148.le
       have hs := hs.call0 hs148
       refine ⟨⟨(hs.has.down le149), (hs.heap 3 rfl)⟩, Rk.mk (C' := fun l w => Has S147 w ∧ Hp b1 #[.int .i64 3, .int .u32 1, .int .u32 2, .slice none 0 0, .slice none 0 0, .slice none 0 0, .int .u64 0, .int .i64 0, .int .i64 0, .slice none 0 0] 33 w) ⟨hs.has, (hs.heap 3 rfl)⟩ (fun l w hc => ⟨hc.1.down le149, hc.2⟩) ?_⟩
       refine Rk.tT 54 rfl (by kernel_rfl) rfl rfl rfl (fun hW => fun _ _ => X.not rfl) ?_
       refine Rk.tN 55 rfl (by kernel_rfl) rfl (fun _ _ => X.pickT rfl rfl) ?_
       refine Rk.tN 56 rfl (by kernel_rfl) rfl (fun _ _ => X.move rfl) ?_
       refine Rk.split (b := !x142) (tj := 95) rfl (fun hc150 => ?_) (fun hc150 => ?_)
       ·have hp78 := ite_t hc150 hp78
        refine Rk.weak [(95, .bool true)] ⟨rfl, trivial⟩ ?_
        refine Rk.eG 57 rfl (by kernel_rfl) rfl rfl rfl (Oq.lit (sz := 1) (cs0 := [.int .u8 0, .int .u8 0]) (cells := [.int .u8 128, .int .u8 96]) hs Try.underlying31 ii5 rfl rfl rfl rfl rfl rfl ⟨_, [.int .u8 128], _, rfl, rfl, rfl, ⟨_, [.int .u8 96], _, rfl, rfl, rfl, rfl⟩⟩ rfl rfl rfl (fun b151 w152 S153 hs le154 hE155 => ?_))
        have f157 : Rd S153 1 (RI .u8) (.slice (some ⟨b151, 0, none⟩) 2 2) ([128, 96] : List Int) := Rd.of_cells (xs := ([128, 96] : List Int)) ⟨[.int .u8 128], _, rfl, rfl, one_all ⟨rfl, trivial⟩, rfl, ⟨[.int .u8 96], _, rfl, rfl, one_all ⟨rfl, trivial⟩, rfl, rfl⟩⟩ hE155 (Nat.le_of_ble_eq_true rfl) (Nat.le_of_ble_eq_true rfl)
        refine ⟨⟨(hs.has.down le154), (hs.heap 4 rfl)⟩, Rk.mk (C' := fun l w => Has S153 w ∧ Hp b1 #[.int .i64 3, .int .u32 1, .int .u32 2, .slice none 0 0, .slice none 0 0, .slice none 0 0, .int .u64 0, .int .i64 0, .int .i64 0, .slice none 0 0] 33 w) ⟨hs.has, (hs.heap 4 rfl)⟩ (fun l w hc => ⟨hc.1.down le154, hc.2⟩) ?_⟩
        obtain ⟨x158, hx159, hp78⟩ := bind_s hp78
        refine Rk.eG 58 rfl (by kernel_rfl) rfl rfl rfl (Oq.call Try.call24 rfl rfl (c24 S153 (St.start _ _ hs.has) _ _ f157 _ hx159) (fun v160 w161 h162 => ?_))
        obtain ⟨S163, rfl, hs164⟩ := h162
        have _ := 0
        have le165 : Le S153 S163 := hs164.le
        have hs := hs.call0 hs164
        refine ⟨⟨(hs.has.down le165), (hs.heap 4 rfl)⟩, Rk.mk (C' := fun l w => Has S163 w ∧ Hp b1 #[.int .i64 3, .int .u32 1, .int .u32 2, .slice none 0 0, .slice none 0 0, .slice none 0 0, .int .u64 0, .int .i64 0, .int .i64 0, .slice none 0 0] 33 w) ⟨hs.has, (hs.heap 4 rfl)⟩ (fun l w hc => ⟨hc.1.down le165, hc.2⟩) ?_⟩
        refine Rk.tT 59 rfl (by kernel_rfl) rfl rfl rfl (fun hW => fun _ _ => X.not rfl) ?_
        refine Rk.tN 60 rfl (by kernel_rfl) rfl (fun _ _ => X.pickT rfl rfl) ?_
        refine Rk.tN 61 rfl (by kernel_rfl) rfl (fun _ _ => X.move rfl) ?_
        refine Rk.tT 62 rfl (by kernel_rfl) rfl rfl rfl (fun hW => fun _ _ => X.build (zc := [.int .i64 0, .int .u32 0, .int .u32 0, .slice none 0 0, .slice none 0 0, .slice none 0 0, .int .u64 0, .int .i64 0, .int .i64 0, .slice none 0 0]) (cells := [.int .i64 0, .int .u32 0, .int .u32 0, .slice none 0 0, .slice none 0 0, .slice none 0 0, .int .u64 0, .int .i64 0, .int .i64 0, .slice none 0 0]) ii33 rfl rfl Try.underlying33 (pp33 _ Try.underlying33) rfl rfl) ?_
        refine Rk.split (b := !x158) (tj := 100) rfl (fun hc166 => ?_) (fun hc166 => ?_)
        ·have hp78 := ite_t hc166 hp78
         refine Rk.weak [(100, .bool true), (101, .agg (#[.int .i64 0, .int .u32 0, .int .u32 0, .slice none 0 0, .slice none 0 0, .slice none 0 0, .int .u64 0, .int .i64 0, .int .i64 0, .slice none 0 0]))] ⟨rfl, get_g rfl hc166, trivial⟩ ?_
         obtain ⟨x167, hx168, hp78⟩ := bind_s hp78
         refine Rk.eG 63 rfl (by kernel_rfl) rfl rfl rfl (Oq.call Try.call23 rfl rfl (c23 S163 (St.start _ _ hs.has) (⟨0, 0, 0, ([] : List api_Tuple), ([] : List Int), ([] : List Int), 0, 0, 0, ([] : List Int)⟩ : api_Report) _ (Rd.nil _ _ _) _ (Rd.nil _ _ _) _ (Rd.nil _ _ _) _ (Rd.nil _ _ _) _ hx168) (fun v169 w170 h171 => ?_))
         obtain ⟨S172, rfl, hs173⟩ := h171
         have _ := 0
         have le174 : Le S163 S172 := hs173.le
         have hs := hs.call0 hs173
         refine ⟨⟨(hs.has.down le174), (hs.heap 4 rfl)⟩, Rk.mk (C' := fun l w => Has S172 w ∧ Hp b1 #[.int .i64 3, .int .u32 1, .int .u32 2, .slice none 0 0, .slice none 0 0, .slice none 0 0, .int .u64 0, .int .i64 0, .int .i64 0, .slice none 0 0] 33 w) ⟨hs.has, (hs.heap 4 rfl)⟩ (fun l w hc => ⟨hc.1.down le174, hc.2⟩) ?_⟩
         refine Rk.tT 64 rfl (by kernel_rfl) rfl rfl rfl (fun hW => fun _ _ => X.eql rfl rfl) ?_
         refine Rk.tN 65 rfl (by kernel_rfl) rfl (fun _ _ => X.pickT rfl rfl) ?_
         refine Rk.tN 66 rfl (by kernel_rfl) rfl (fun _ _ => X.assign rfl) ?_
         refine Rk.done (by kernel_rfl) ?_
         have e := some_s hp78
         subst e
         exact fun a ha => ⟨[(0, .bool (x167 == 12))], ha.weak ⟨rfl, trivial⟩, S172, rfl, (le115.trans (le140.trans (le149.trans (le154.trans (le165.trans le174))))), (hs.pick [] (by decide) rfl)⟩
        ·have hp78 := ite_f hc166 hp78
         refine Rk.weak [(100, .bool false), (101, undef)] ⟨rfl, get_u rfl (not_f hc166), trivial⟩ ?_
         refine Rk.eF 63 rfl (by kernel_rfl) rfl rfl rfl rfl rfl rfl ⟨⟨hs.has, (hs.heap 4 rfl)⟩, ?_⟩
         refine Rk.tO 64 rfl (by kernel_rfl) rfl rfl rfl rfl ?_
         refine Rk.tN 65 rfl (by kernel_rfl) rfl (fun _ _ => X.pickF rfl rfl) ?_
         refine Rk.tN 66 rfl (by kernel_rfl) rfl (fun _ _ => X.assign rfl) ?_
         refine Rk.done (by kernel_rfl) ?_
         have e := some_s hp78
         subst e
         exact fun a ha => ⟨[(0, .bool false)], ha.weak ⟨rfl, trivial⟩, S163, rfl, (le115.trans (le140.trans (le149.trans (le154.trans le165)))), (hs.pick [] (by decide) rfl)⟩
       ·have hp78 := ite_f hc150 hp78
        refine Rk.weak [(95, .bool false)] ⟨rfl, trivial⟩ ?_
        refine Rk.eF 57 rfl (by kernel_rfl) rfl rfl rfl rfl rfl rfl ⟨⟨hs.has, (hs.heap 3 rfl)⟩, ?_⟩
        refine Rk.eF 58 rfl (by kernel_rfl) rfl rfl rfl rfl rfl rfl ⟨⟨hs.has, (hs.heap 3 rfl)⟩, ?_⟩
        refine Rk.tO 59 rfl (by kernel_rfl) rfl rfl rfl rfl ?_
        refine Rk.tN 60 rfl (by kernel_rfl) rfl (fun _ _ => X.pickF rfl rfl) ?_
        refine Rk.tN 61 rfl (by kernel_rfl) rfl (fun _ _ => X.move rfl) ?_
        refine Rk.tO 62 rfl (by kernel_rfl) rfl rfl rfl rfl ?_
        refine Rk.eF 63 rfl (by kernel_rfl) rfl rfl rfl rfl rfl rfl ⟨⟨hs.has, (hs.heap 3 rfl)⟩, ?_⟩
        refine Rk.tO 64 rfl (by kernel_rfl) rfl rfl rfl rfl ?_
        refine Rk.tN 65 rfl (by kernel_rfl) rfl (fun _ _ => X.pickF rfl rfl) ?_
        refine Rk.tN 66 rfl (by kernel_rfl) rfl (fun _ _ => X.assign rfl) ?_
        refine Rk.done (by kernel_rfl) ?_
        have e := some_s hp78
        subst e
        exact fun a ha => ⟨[(0, .bool false)], ha.weak ⟨rfl, trivial⟩, S147, rfl, (le115.trans (le140.trans le149)), (hs.pick [] (by decide) rfl)⟩
      ·have hp78 := ite_f hc141 hp78
       refine Rk.weak [(91, .bool false)] ⟨rfl, trivial⟩ ?_
       refine Rk.eF 53 rfl (by kernel_rfl) rfl rfl rfl rfl rfl rfl ⟨⟨hs.has, (hs.heap 3 rfl)⟩, ?_⟩
       refine Rk.tO 54 rfl (by kernel_rfl) rfl rfl rfl rfl ?_
       refine Rk.tN 55 rfl (by kernel_rfl) rfl (fun _ _ => X.pickF rfl rfl) ?_
       refine Rk.tN 56 rfl (by kernel_rfl) rfl (fun _ _ => X.move rfl) ?_
       refine Rk.eF 57 rfl (by kernel_rfl) rfl rfl rfl rfl rfl rfl ⟨⟨hs.has, (hs.heap 3 rfl)⟩, ?_⟩
       refine Rk.eF 58 rfl (by kernel_rfl) rfl rfl rfl rfl rfl rfl ⟨⟨hs.has, (hs.heap 3 rfl)⟩, ?_⟩
       refine Rk.tO 59 rfl (by kernel_rfl) rfl rfl rfl rfl ?_
       refine Rk.tN 60 rfl (by kernel_rfl) rfl (fun _ _ => X.pickF rfl rfl) ?_
       refine Rk.tN 61 rfl (by kernel_rfl) rfl (fun _ _ => X.move rfl) ?_
       refine Rk.tO 62 rfl (by kernel_rfl) rfl rfl rfl rfl ?_
       refine Rk.eF 63 rfl (by kernel_rfl) rfl rfl rfl rfl rfl rfl ⟨⟨hs.has, (hs.heap 3 rfl)⟩, ?_⟩
       refine Rk.tO 64 rfl (by kernel_rfl) rfl rfl rfl rfl ?_
       refine Rk.tN 65 rfl (by kernel_rfl) rfl (fun _ _ => X.pickF rfl rfl) ?_
       refine Rk.tN 66 rfl (by kernel_rfl) rfl (fun _ _ => X.assign rfl) ?_
       refine Rk.done (by kernel_rfl) ?_
       have e := some_s hp78
       subst e
       exact fun a ha => ⟨[(0, .bool false)], ha.weak ⟨rfl, trivial⟩, S138, rfl, (le115.trans le140), (hs.pick [] (by decide) rfl)⟩
     ·have hp78 := ite_f hc132 hp78
      refine Rk.weak [(87, .bool false), (88, undef)] ⟨rfl, get_u rfl (not_f hc132), trivial⟩ ?_
      refine Rk.eF 50 rfl (by kernel_rfl) rfl rfl rfl rfl rfl rfl ⟨⟨hs.has, (hs.heap 3 rfl)⟩, ?_⟩
      refine Rk.tN 51 rfl (by kernel_rfl) rfl (fun _ _ => X.pickF rfl rfl) ?_
      refine Rk.tN 52 rfl (by kernel_rfl) rfl (fun _ _ => X.move rfl) ?_
      refine Rk.eF 53 rfl (by kernel_rfl) rfl rfl rfl rfl rfl rfl ⟨⟨hs.has, (hs.heap 3 rfl)⟩, ?_⟩
      refine Rk.tO 54 rfl (by kernel_rfl) rfl rfl rfl rfl ?_
      refine Rk.tN 55 rfl (by kernel_rfl) rfl (fun _ _ => X.pickF rfl rfl) ?_
      refine Rk.tN 56 rfl (by kernel_rfl) rfl (fun _ _ => X.move rfl) ?_
      refine Rk.eF 57 rfl (by kernel_rfl) rfl rfl rfl rfl rfl rfl ⟨⟨hs.has, (hs.heap 3 rfl)⟩, ?_⟩
      refine Rk.eF 58 rfl (by kernel_rfl) rfl rfl rfl rfl rfl rfl ⟨⟨hs.has, (hs.heap 3 rfl)⟩, ?_⟩
      refine Rk.tO 59 rfl (by kernel_rfl) rfl rfl rfl rfl ?_
      refine Rk.tN 60 rfl (by kernel_rfl) rfl (fun _ _ => X.pickF rfl rfl) ?_
      refine Rk.tN 61 rfl (by kernel_rfl) rfl (fun _ _ => X.move rfl) ?_
      refine Rk.tO 62 rfl (by kernel_rfl) rfl rfl rfl rfl ?_
      refine Rk.eF 63 rfl (by kernel_rfl) rfl rfl rfl rfl rfl rfl ⟨⟨hs.has, (hs.heap 3 rfl)⟩, ?_⟩
      refine Rk.tO 64 rfl (by kernel_rfl) rfl rfl rfl rfl ?_
      refine Rk.tN 65 rfl (by kernel_rfl) rfl (fun _ _ => X.pickF rfl rfl) ?_
      refine Rk.tN 66 rfl (by kernel_rfl) rfl (fun _ _ => X.assign rfl) ?_
      refine Rk.done (by kernel_rfl) ?_
      have e := some_s hp78
      subst e
      exact fun a ha => ⟨[(0, .bool false)], ha.weak ⟨rfl, trivial⟩, S113, rfl, le115, (hs.pick [] (by decide) rfl)⟩
    ·have hp78 := ite_f hc116 hp78
     refine Rk.weak [(2, v27), (7, .int .i64 x39.2), (9, .int .i64 x49.2), (11, .int .i64 x66.2), (68, .bool false), (69, undef)] ⟨rfl, rfl, rfl, rfl, rfl, get_u rfl (not_f hc116), trivial⟩ ?_
     refine Rk.tO 31 rfl (by kernel_rfl) rfl rfl rfl rfl ?_
     refine Rk.tO 32 rfl (by kernel_rfl) rfl rfl rfl rfl ?_
     refine Rk.tO 33 rfl (by kernel_rfl) rfl rfl rfl rfl ?_
     refine Rk.tO 34 rfl (by kernel_rfl) rfl rfl rfl rfl ?_
     refine Rk.tN 35 rfl (by kernel_rfl) rfl (fun _ _ => X.pickF rfl rfl) ?_
     refine Rk.tN 36 rfl (by kernel_rfl) rfl (fun _ _ => X.move rfl) ?_
     refine Rk.tO 37 rfl (by kernel_rfl) rfl rfl rfl rfl ?_
     refine Rk.tO 38 rfl (by kernel_rfl) rfl rfl rfl rfl ?_
     refine Rk.tN 39 rfl (by kernel_rfl) rfl (fun _ _ => X.pickF rfl rfl) ?_
     refine Rk.tN 40 rfl (by kernel_rfl) rfl (fun _ _ => X.move rfl) ?_
     refine Rk.tO 41 rfl (by kernel_rfl) rfl rfl rfl rfl ?_
     refine Rk.tO 42 rfl (by kernel_rfl) rfl rfl rfl rfl ?_
     refine Rk.tN 43 rfl (by kernel_rfl) rfl (fun _ _ => X.pickF rfl rfl) ?_
     refine Rk.tN 44 rfl (by kernel_rfl) rfl (fun _ _ => X.move rfl) ?_
     refine Rk.tO 45 rfl (by kernel_rfl) rfl rfl rfl rfl ?_
     refine Rk.tO 46 rfl (by kernel_rfl) rfl rfl rfl rfl ?_
     refine Rk.tN 47 rfl (by kernel_rfl) rfl (fun _ _ => X.pickF rfl rfl) ?_
     refine Rk.tN 48 rfl (by kernel_rfl) rfl (fun _ _ => X.move rfl) ?_
     refine Rk.tO 49 rfl (by kernel_rfl) rfl rfl rfl rfl ?_
     refine Rk.eF 50 rfl (by kernel_rfl) rfl rfl rfl rfl rfl rfl ⟨⟨hs.has, (hs.heap 3 rfl)⟩, ?_⟩
     refine Rk.tN 51 rfl (by kernel_rfl) rfl (fun _ _ => X.pickF rfl rfl) ?_
     refine Rk.tN 52 rfl (by kernel_rfl) rfl (fun _ _ => X.move rfl) ?_
     refine Rk.eF 53 rfl (by kernel_rfl) rfl rfl rfl rfl rfl rfl ⟨⟨hs.has, (hs.heap 3 rfl)⟩, ?_⟩
     refine Rk.tO 54 rfl (by kernel_rfl) rfl rfl rfl rfl ?_
     refine Rk.tN 55 rfl (by kernel_rfl) rfl (fun _ _ => X.pickF rfl rfl) ?_
     refine Rk.tN 56 rfl (by kernel_rfl) rfl (fun _ _ => X.move rfl) ?_
     refine Rk.weak [(95, .bool false)] ⟨rfl, trivial⟩ ?_
     refine Rk.eF 57 rfl (by kernel_rfl) rfl rfl rfl rfl rfl rfl ⟨⟨hs.has, (hs.heap 3 rfl)⟩, ?_⟩
     refine Rk.eF 58 rfl (by kernel_rfl) rfl rfl rfl rfl rfl rfl ⟨⟨hs.has, (hs.heap 3 rfl)⟩, ?_⟩
     refine Rk.tO 59 rfl (by kernel_rfl) rfl rfl rfl rfl ?_
     refine Rk.tN 60 rfl (by kernel_rfl) rfl (fun _ _ => X.pickF rfl rfl) ?_
     refine Rk.tN 61 rfl (by kernel_rfl) rfl (fun _ _ => X.move rfl) ?_
     refine Rk.tO 62 rfl (by kernel_rfl) rfl rfl rfl rfl ?_
     refine Rk.eF 63 rfl (by kernel_rfl) rfl rfl rfl rfl rfl rfl ⟨⟨hs.has, (hs.heap 3 rfl)⟩, ?_⟩
     refine Rk.tO 64 rfl (by kernel_rfl) rfl rfl rfl rfl ?_
     refine Rk.tN 65 rfl (by kernel_rfl) rfl (fun _ _ => X.pickF rfl rfl) ?_
     refine Rk.tN 66 rfl (by kernel_rfl) rfl (fun _ _ => X.assign rfl) ?_
     refine Rk.done (by kernel_rfl) ?_
     have e := some_s hp78
     subst e
     exact fun a ha => ⟨[(0, .bool false)], ha.weak ⟨rfl, trivial⟩, S113, rfl, le115, (hs.pick [] (by decide) rfl)⟩
   ·have hp78 := ite_f hc92 hp78
    refine Rk.weak [(2, v27), (4, v37), (7, .int .i64 x39.2), (9, .int .i64 x49.2), (11, .int .i64 x66.2), (61, .bool false), (62, undef), (65, undef)] ⟨rfl, rfl, rfl, rfl, rfl, rfl, get_u rfl (not_f hc92), get_u rfl (not_f hc92), trivial⟩ ?_
    refine Rk.tO 24 rfl (by kernel_rfl) rfl rfl rfl rfl ?_
    refine Rk.tO 25 rfl (by kernel_rfl) rfl rfl rfl rfl ?_
    refine Rk.eF 27 rfl (by kernel_rfl) rfl rfl rfl rfl rfl rfl ⟨⟨hs.has, (hs.heap 3 rfl)⟩, ?_⟩
    refine Rk.tN 28 rfl (by kernel_rfl) rfl (fun _ _ => X.pickF rfl rfl) ?_
    refine Rk.tN 29 rfl (by kernel_rfl) rfl (fun _ _ => X.move rfl) ?_
    refine Rk.tO 30 rfl (by kernel_rfl) rfl rfl rfl rfl ?_
    refine Rk.tO 31 rfl (by kernel_rfl) rfl rfl rfl rfl ?_
    refine Rk.tO 32 rfl (by kernel_rfl) rfl rfl rfl rfl ?_
    refine Rk.tO 33 rfl (by kernel_rfl) rfl rfl rfl rfl ?_
    refine Rk.tO 34 rfl (by kernel_rfl) rfl rfl rfl rfl ?_
    refine Rk.tN 35 rfl (by kernel_rfl) rfl (fun _ _ => X.pickF rfl rfl) ?_
    refine Rk.tN 36 rfl (by kernel_rfl) rfl (fun _ _ => X.move rfl) ?_
    refine Rk.tO 37 rfl (by kernel_rfl) rfl rfl rfl rfl ?_
    refine Rk.tO 38 rfl (by kernel_rfl) rfl rfl rfl rfl ?_
    refine Rk.tN 39 rfl (by kernel_rfl) rfl (fun _ _ => X.pickF rfl rfl) ?_
    refine Rk.tN 40 rfl (by kernel_rfl) rfl (fun _ _ => X.move rfl) ?_
    refine Rk.tO 41 rfl (by kernel_rfl) rfl rfl rfl rfl ?_
    refine Rk.tO 42 rfl (by kernel_rfl) rfl rfl rfl rfl ?_
    refine Rk.tN 43 rfl (by kernel_rfl) rfl (fun _ _ => X.pickF rfl rfl) ?_
    refine Rk.tN 44 rfl (by kernel_rfl) rfl (fun _ _ => X.move rfl) ?_
    refine Rk.tO 45 rfl (by kernel_rfl) rfl rfl rfl rfl ?_
    refine Rk.tO 46 rfl (by kernel_rfl) rfl rfl rfl rfl ?_
    refine Rk.tN 47 rfl (by kernel_rfl) rfl (fun _ _ => X.pickF rfl rfl) ?_
    refine Rk.tN 48 rfl (by kernel_rfl) rfl (fun _ _ => X.move rfl) ?_
    refine Rk.tO 49 rfl (by kernel_rfl) rfl rfl rfl rfl ?_
    refine Rk.eF 50 rfl (by kernel_rfl) rfl rfl rfl rfl rfl rfl ⟨⟨hs.has, (hs.heap 3 rfl)⟩, ?_⟩
    refine Rk.tN 51 rfl (by kernel_rfl) rfl (fun _ _ => X.pickF rfl rfl) ?_
    refine Rk.tN 52 rfl (by kernel_rfl) rfl (fun _ _ => X.move rfl) ?_
    refine Rk.eF 53 rfl (by kernel_rfl) rfl rfl rfl rfl rfl rfl ⟨⟨hs.has, (hs.heap 3 rfl)⟩, ?_⟩
    refine Rk.tO 54 rfl (by kernel_rfl) rfl rfl rfl rfl ?_
    refine Rk.tN 55 rfl (by kernel_rfl) rfl (fun _ _ => X.pickF rfl rfl) ?_
    refine Rk.weak [(94, .bool false)] ⟨rfl, trivial⟩ ?_
    refine Rk.tN 56 rfl (by kernel_rfl) rfl (fun _ _ => X.move rfl) ?_
    refine Rk.eF 57 rfl (by kernel_rfl) rfl rfl rfl rfl rfl rfl ⟨⟨hs.has, (hs.heap 3 rfl)⟩, ?_⟩
    refine Rk.eF 58 rfl (by kernel_rfl) rfl rfl rfl rfl rfl rfl ⟨⟨hs.has, (hs.heap 3 rfl)⟩, ?_⟩
    refine Rk.tO 59 rfl (by kernel_rfl) rfl rfl rfl rfl ?_
    refine Rk.tN 60 rfl (by kernel_rfl) rfl (fun _ _ => X.pickF rfl rfl) ?_
    refine Rk.tN 61 rfl (by kernel_rfl) rfl (fun _ _ => X.move rfl) ?_
    refine Rk.tO 62 rfl (by kernel_rfl) rfl rfl rfl rfl ?_
    refine Rk.eF 63 rfl (by kernel_rfl) rfl rfl rfl rfl rfl rfl ⟨⟨hs.has, (hs.heap 3 rfl)⟩, ?_⟩
    refine Rk.tO 64 rfl (by kernel_rfl) rfl rfl rfl rfl ?_
    refine Rk.tN 65 rfl (by kernel_rfl) rfl (fun _ _ => X.pickF rfl rfl) ?_
    refine Rk.tN 66 rfl (by kernel_rfl) rfl (fun _ _ => X.assign rfl) ?_
    refine Rk.done (by kernel_rfl) ?_
    have e := some_s hp78
    subst e
    exact fun a ha => ⟨[(0, .bool false)], ha.weak ⟨rfl, trivial⟩, S71, rfl, Le.refl _, (hs.pick [] (by decide) rfl)⟩
  ·have hp78 := ite_f hc84 hp78
   refine Rk.weak [(1, .pointer (some ⟨b1, 0, none⟩)), (2, v27), (4, v37), (5, .int .i64 x29.2), (7, .int .i64 x39.2), (9, .int .i64 x49.2), (11, .int .i64 x66.2), (46, .bool false), (47, undef)] ⟨rfl, rfl, rfl, rfl, rfl, rfl, rfl, rfl, get_u rfl (not_f hc84), trivial⟩ ?_
   refine Rk.tO 9 rfl (by kernel_rfl) rfl rfl rfl rfl ?_
   refine Rk.tO 10 rfl (by kernel_rfl) rfl rfl rfl rfl ?_
   refine Rk.tO 11 rfl (by kernel_rfl) rfl rfl rfl rfl ?_
   refine Rk.tN 12 rfl (by kernel_rfl) rfl (fun _ _ => X.pickF rfl rfl) ?_
   refine Rk.tN 13 rfl (by kernel_rfl) rfl (fun _ _ => X.move rfl) ?_
   refine Rk.tO 14 rfl (by kernel_rfl) rfl rfl rfl rfl ?_
   refine Rk.tO 15 rfl (by kernel_rfl) rfl rfl rfl rfl ?_
   refine Rk.tN 16 rfl (by kernel_rfl) rfl (fun _ _ => X.pickF rfl rfl) ?_
   refine Rk.tN 17 rfl (by kernel_rfl) rfl (fun _ _ => X.move rfl) ?_
   refine Rk.tO 18 rfl (by kernel_rfl) rfl rfl rfl rfl ?_
   refine Rk.tO 19 rfl (by kernel_rfl) rfl rfl rfl rfl ?_
   refine Rk.tO 20 rfl (by kernel_rfl) rfl rfl rfl rfl ?_
   refine Rk.tN 21 rfl (by kernel_rfl) rfl (fun _ _ => X.pickF rfl rfl) ?_
   refine Rk.tN 22 rfl (by kernel_rfl) rfl (fun _ _ => X.move rfl) ?_
   refine Rk.tO 23 rfl (by kernel_rfl) rfl rfl rfl rfl ?_
   refine Rk.tO 24 rfl (by kernel_rfl) rfl rfl rfl rfl ?_
   refine Rk.tO 25 rfl (by kernel_rfl) rfl rfl rfl rfl ?_
   refine Rk.tO 26 rfl (by kernel_rfl) rfl rfl rfl rfl ?_
   refine Rk.eF 27 rfl (by kernel_rfl) rfl rfl rfl rfl rfl rfl ⟨⟨hs.has, (hs.heap 3 rfl)⟩, ?_⟩
   refine Rk.tN 28 rfl (by kernel_rfl) rfl (fun _ _ => X.pickF rfl rfl) ?_
   refine Rk.tN 29 rfl (by kernel_rfl) rfl (fun _ _ => X.move rfl) ?_
   refine Rk.tO 30 rfl (by kernel_rfl) rfl rfl rfl rfl ?_
   refine Rk.tO 31 rfl (by kernel_rfl) rfl rfl rfl rfl ?_
   refine Rk.tO 32 rfl (by kernel_rfl) rfl rfl rfl rfl ?_
   refine Rk.tO 33 rfl (by kernel_rfl) rfl rfl rfl rfl ?_
   refine Rk.tO 34 rfl (by kernel_rfl) rfl rfl rfl rfl ?_
   refine Rk.tN 35 rfl (by kernel_rfl) rfl (fun _ _ => X.pickF rfl rfl) ?_
   refine Rk.tN 36 rfl (by kernel_rfl) rfl (fun _ _ => X.move rfl) ?_
   refine Rk.tO 37 rfl (by kernel_rfl) rfl rfl rfl rfl ?_
   refine Rk.tO 38 rfl (by kernel_rfl) rfl rfl rfl rfl ?_
   refine Rk.tN 39 rfl (by kernel_rfl) rfl (fun _ _ => X.pickF rfl rfl) ?_
   refine Rk.tN 40 rfl (by kernel_rfl) rfl (fun _ _ => X.move rfl) ?_
   refine Rk.tO 41 rfl (by kernel_rfl) rfl rfl rfl rfl ?_
   refine Rk.tO 42 rfl (by kernel_rfl) rfl rfl rfl rfl ?_
   refine Rk.tN 43 rfl (by kernel_rfl) rfl (fun _ _ => X.pickF rfl rfl) ?_
   refine Rk.tN 44 rfl (by kernel_rfl) rfl (fun _ _ => X.move rfl) ?_
   refine Rk.tO 45 rfl (by kernel_rfl) rfl rfl rfl rfl ?_
   refine Rk.tO 46 rfl (by kernel_rfl) rfl rfl rfl rfl ?_
   refine Rk.tN 47 rfl (by kernel_rfl) rfl (fun _ _ => X.pickF rfl rfl) ?_
   refine Rk.tN 48 rfl (by kernel_rfl) rfl (fun _ _ => X.move rfl) ?_
   refine Rk.tO 49 rfl (by kernel_rfl) rfl rfl rfl rfl ?_
   refine Rk.eF 50 rfl (by kernel_rfl) rfl rfl rfl rfl rfl rfl ⟨⟨hs.has, (hs.heap 3 rfl)⟩, ?_⟩
   refine Rk.weak [(87, .bool false), (89, undef)] ⟨rfl, rfl, trivial⟩ ?_
   refine Rk.tN 51 rfl (by kernel_rfl) rfl (fun _ _ => X.pickF rfl rfl) ?_
   refine Rk.tN 52 rfl (by kernel_rfl) rfl (fun _ _ => X.move rfl) ?_
   refine Rk.eF 53 rfl (by kernel_rfl) rfl rfl rfl rfl rfl rfl ⟨⟨hs.has, (hs.heap 3 rfl)⟩, ?_⟩
   refine Rk.tO 54 rfl (by kernel_rfl) rfl rfl rfl rfl ?_
   refine Rk.tN 55 rfl (by kernel_rfl) rfl (fun _ _ => X.pickF rfl rfl) ?_
   refine Rk.tN 56 rfl (by kernel_rfl) rfl (fun _ _ => X.move rfl) ?_
   refine Rk.eF 57 rfl (by kernel_rfl) rfl rfl rfl rfl rfl rfl ⟨⟨hs.has, (hs.heap 3 rfl)⟩, ?_⟩
   refine Rk.eF 58 rfl (by kernel_rfl) rfl rfl rfl rfl rfl rfl ⟨⟨hs.has, (hs.heap 3 rfl)⟩, ?_⟩
   refine Rk.tO 59 rfl (by kernel_rfl) rfl rfl rfl rfl ?_
   refine Rk.tN 60 rfl (by kernel_rfl) rfl (fun _ _ => X.pickF rfl rfl) ?_
   refine Rk.tN 61 rfl (by kernel_rfl) rfl (fun _ _ => X.move rfl) ?_
   refine Rk.tO 62 rfl (by kernel_rfl) rfl rfl rfl rfl ?_
   refine Rk.eF 63 rfl (by kernel_rfl) rfl rfl rfl rfl rfl rfl ⟨⟨hs.has, (hs.heap 3 rfl)⟩, ?_⟩
   refine Rk.tO 64 rfl (by kernel_rfl) rfl rfl rfl rfl ?_
   refine Rk.tN 65 rfl (by kernel_rfl) rfl (fun _ _ => X.pickF rfl rfl) ?_
   refine Rk.tN 66 rfl (by kernel_rfl) rfl (fun _ _ => X.assign rfl) ?_
   refine Rk.done (by kernel_rfl) ?_
   have e := some_s hp78
   subst e
   exact fun a ha => ⟨[(0, .bool false)], ha.weak ⟨rfl, trivial⟩, S71, rfl, Le.refl _, (hs.pick [] (by decide) rfl)⟩
end Go.Lk
