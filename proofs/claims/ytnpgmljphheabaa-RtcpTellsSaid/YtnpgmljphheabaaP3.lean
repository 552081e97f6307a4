/- A part of this proof: RtcpTells returns true for every input and leaves its arguments as they were; there are no conditions. -/
import Derived.Test.YtnpgmljphheabaaP2
set_option linter.unusedVariables false
set_option linter.unusedSimpArgs false
set_option maxRecDepth 100000
namespace Go.Lk
open Go.RowKit Go.Proofs
noncomputable def rtcp_body_l0 (G_0 : api_Report) (q86 : (List Int)) (q87 : Int) : Option (Flow ((List Int) × Int) ((List Int) × Int × Int)) :=
 if (decide (q87 < (G_0.Tuples.length : Int))) = true then (
  ((
   (ix G_0.Tuples q87).bind fun x110 =>
   ((
    (octet_Put q86 (cv .u64 x110.Owner) 4).bind fun x132 =>
    (rtcp_packed x110.Rate 17 9 (cv .u64 x110.Over)).bind fun x143 =>
    (octet_Put x132 x143 4).bind fun x151 =>
    some x151 : Option (List Int))).bind fun p122 =>
   some p122 : Option (List Int))).bind fun p101 =>
  some (Flow.next (p101, add .i64 q87 1)))
 else (
  some (Flow.brk (q86, q87)))
noncomputable def rtcp_body_l1 (G_0 : api_Report) (q189 : (List Int)) (q190 : Int) : Option (Flow ((List Int) × Int) ((List Int) × Int × Int)) :=
 if (decide (q190 < (G_0.Abouts.length : Int))) = true then (
  ((
   (ix G_0.Abouts q190).bind fun x213 =>
   ((
    (ix G_0.Numbers q190).bind fun x231 =>
    (octet_Put q189 (cv .u64 x213) 4).bind fun x238 =>
    (octet_Put x238 (cv .u64 x231) 1).bind fun x249 =>
    (octet_Put x249 0 3).bind fun x260 =>
    some x260 : Option (List Int))).bind fun p221 =>
   some p221 : Option (List Int))).bind fun p204 =>
  some (Flow.next (p204, add .i64 q190 1)))
 else (
  some (Flow.brk (q189, q190)))
noncomputable def rtcp_body_l2 (G_0 : api_Report) (q315 : (List Int)) (q316 : Int) : Option (Flow ((List Int) × Int) ((List Int) × Int × Int)) :=
 if (decide (q316 < (G_0.Abouts.length : Int))) = true then (
  (ix G_0.Abouts q316).bind fun x329 =>
  (octet_Put q315 (cv .u64 x329) 4).bind fun x336 =>
  some (Flow.next (x336, add .i64 q316 1)))
 else (
  some (Flow.brk (q315, q316)))
noncomputable def rtcp_body (G_0 : api_Report) : Option ((List Int) × Int × Int) :=
 (octet_Put ([] : List Int) (cv .u64 G_0.From) 4).bind fun x13 =>
 ((
  if ((G_0.Kind != 3) && (G_0.Kind != 6)) = true then (
   (octet_Put x13 0 4).bind fun x376 =>
   some x376)
  else (
   some x13) : Option (List Int))).bind fun p25 =>
 ((
  ((
   if (G_0.Kind == 1) = true then (
    some (G_0.Kind == 1))
   else (
    some (G_0.Kind == 2)) : Option Bool)).bind fun p67 =>
  if p67 = true then (
   (loopF (fun sg => rtcp_body_l0 G_0 sg.1 sg.2) (p25, 0)).bind fun fl74 =>
   Flow.el fl74 (fun s162 => (
    none))
   (fun s163 => (
    some (Flow.ret (s163.1, 205, sub .i64 (add .i64 3 G_0.Kind) 1))))
   (fun r164 => (
    none)))
  else (
   if (G_0.Kind == 3) = true then (
    (octet_Put p25 (cv .u64 G_0.About) 4).bind fun x166 =>
    some (Flow.ret (x166, 206, 1)))
   else (
    if (G_0.Kind == 4) = true then (
     (loopF (fun sg => rtcp_body_l1 G_0 sg.1 sg.2) (p25, 0)).bind fun fl178 =>
     Flow.el fl178 (fun s271 => (
      none))
     (fun s272 => (
      some (Flow.ret (s272.1, 206, 4))))
     (fun r273 => (
      none)))
    else (
     if (G_0.Kind == 5) = true then (
      ((
       (app 1 p25 [82, 69, 77, 66]).bind fun y351 =>
       (octet_Put y351 (cv .u64 (G_0.Abouts.length : Int)) 1).bind fun x360 =>
       some x360 : Option (List Int))).bind fun p276 =>
      (rtcp_packed G_0.Rate 18 0 0).bind fun x285 =>
      (octet_Put p276 x285 3).bind fun x293 =>
      (loopF (fun sg => rtcp_body_l2 G_0 sg.1 sg.2) (x293, 0)).bind fun fl304 =>
      Flow.el fl304 (fun s347 => (
       none))
      (fun s348 => (
       some (Flow.ret (s348.1, 206, 15))))
      (fun r349 => (
       none)))
     else (
      some (Flow.next ()))))) : Option (Flow Unit ((List Int) × Int × Int)))).bind fun p34 =>
 Flow.el p34 (fun s372 => (
  ((
   (slices_Clone_byte G_0.Body).bind fun x54 =>
   some (x54, G_0.Type_, G_0.Count) : Option ((List Int) × Int × Int))).bind fun p43 =>
  some (p43.1, p43.2.1, p43.2.2)))
 (fun s373 => (
  none))
 (fun r374 => (
  some r374))
def Po41 (S0 : Mp) (w0 : World) (D : List Nat) (r : ((List Int) × Int × Int)) (v : Value) (w1 : World) : Prop :=
  ∃ (S1 : Mp) (v9 : Value), v = .tuple #[v9, .int .i64 r.2.1, .int .i64 r.2.2] ∧ St w0 D S0 S1 [] w1 ∧ Rd S1 1 (RI .u8) v9 r.1
set_option maxHeartbeats 4000000 in
theorem c41 (S0 : Mp) {w0 : World} (hs : St w0 [] S0 S0 [] w0) (G_0 : api_Report) (v1 : Value) (f2 : Rd S0 3 R_api_Tuple v1 G_0.Tuples) (v3 : Value) (f4 : Rd S0 1 (RI .u32) v3 G_0.Abouts) (v5 : Value) (f6 : Rd S0 1 (RI .i64) v5 G_0.Numbers) (v7 : Value) (f8 : Rd S0 1 (RI .u8) v7 G_0.Body) (r : ((List Int) × Int × Int)) (h0 : rtcp_body G_0 = some r) :
    Calls Try.prog 41 #[.agg (#[.int .i64 G_0.Kind, .int .u32 G_0.From, .int .u32 G_0.About, v1, v3, v5, .int .u64 G_0.Rate, .int .i64 G_0.Type_, .int .i64 G_0.Count, v7])] w0 (Re (Po41 S0 w0 [] r)) := by
 unfold rtcp_body at h0
 refine calls_of_cd Try.func41 rfl Try.ntmps41 rfl ?_
 refine Cd.sr ?_
 refine Rg.step rfl (Oq.box (cs := #[.int .i64 G_0.Kind, .int .u32 G_0.From, .int .u32 G_0.About, v1, v3, v5, .int .u64 G_0.Rate, .int .i64 G_0.Type_, .int .i64 G_0.Count, v7]) hs rfl rfl rfl (fun b10 w11 hs => ?_))
 refine Rg.st rfl rfl ?_
 refine Rg.st rfl rfl ?_
 refine Rg.st rfl rfl ?_
 refine Rg.go ?_
 refine Cd.sr ?_
 refine Rg.vN (X.fieldB Try.underlying33 rfl zz27 rfl rfl) rfl ?_
 refine Rg.vN (X.load1 Try.underlying27 rfl rfl (hs.cell 0 rfl 1 rfl)) rfl ?_
 refine Rg.vN (X.conv Try.underlying27 Try.underlying30 rfl) rfl ?_
 obtain ⟨x13, hx14, h0⟩ := bind_s h0
 refine Rg.step rfl (Oq.call Try.call42 rfl rfl (c42 S0 (St.start _ _ hs.has) _ _ (Rd.nil _ _ _) _ _ _ hx14) (fun v15 w16 h17 => ?_))
 obtain ⟨S18, v21, rfl, hs19, f22, fu23⟩ := h17
 have le20 := hs19.le
 have hs := hs.call0 hs19
 refine Rg.st rfl rfl ?_
 refine Rg.go ?_
 refine Cd.seq ?_
 refine Cd.sr ?_
 refine Rg.vN (X.fieldB Try.underlying33 rfl zz3 rfl rfl) rfl ?_
 refine Rg.vN (X.load1 Try.underlying3 rfl rfl (hs.cell 0 rfl 0 rfl)) rfl ?_
 refine Rg.vN (X.neq rfl rfl) rfl ?_
 refine Rg.mv rfl rfl ?_
 refine Rg.vT rfl rfl rfl (fun hW => X.fieldB Try.underlying33 rfl zz3 rfl rfl) ?_
 refine Rg.vT rfl rfl rfl (fun hW => X.load1 Try.underlying3 rfl (ev_g rfl hW) (hs.cell 0 rfl 0 rfl)) ?_
 refine Rg.vT rfl rfl rfl (fun hW => X.neq (ev_g rfl hW) rfl) ?_
 refine Rg.vN (X.pickAnd rfl rfl rfl) rfl ?_
 refine Rg.go ?_
 refine Cd.weak [(1, .pointer (some ⟨b10, 0, none⟩)), (2, v15), (22, .bool ((G_0.Kind != 3) && (G_0.Kind != 6)))] ⟨rfl, rfl, rfl, trivial⟩ ?_
 obtain ⟨p25, hp26, h0⟩ := bind_s h0
 refine Cd.post (fun K w => ∃ (S27 : Mp) (v30 : Value), K = [(1, .pointer (some ⟨b10, 0, none⟩)), (2, v30)] ∧ Le S18 S27 ∧ St w0 [] S0 S27 [.box b10 #[.int .i64 G_0.Kind, .int .u32 G_0.From, .int .u32 G_0.About, v1, v3, v5, .int .u64 G_0.Rate, .int .i64 G_0.Type_, .int .i64 G_0.Count, v7] 33] w ∧ Rd S27 1 (RI .u8) v30 p25 ∧ (∃ A, v30 = .slice A p25.length p25.length)) ?_ ?_
 ·rintro K33 w28 ⟨S27, v30, rfl, le29, hs, f31, fu32⟩
  refine Cd.go ?_
  refine Cd.seq ?_
  refine Cd.sr ?_
  refine Rg.vN (X.fieldB Try.underlying33 rfl zz3 rfl rfl) rfl ?_
  refine Rg.vN (X.load1 Try.underlying3 rfl rfl (hs.cell 0 rfl 0 rfl)) rfl ?_
  refine Rg.go ?_
  obtain ⟨p34, hp35, h0⟩ := bind_s h0
  refine Cd.post (fun K w => ∃ (S36 : Mp), K = [(1, .pointer (some ⟨b10, 0, none⟩))] ∧ p34 = Flow.next () ∧ Le S27 S36 ∧ St w0 [] S0 S36 [.box b10 #[.int .i64 G_0.Kind, .int .u32 G_0.From, .int .u32 G_0.About, v1, v3, v5, .int .u64 G_0.Rate, .int .i64 G_0.Type_, .int .i64 G_0.Count, v7] 33] w) ?_ ?_
  ·rintro K39 w37 ⟨S36, rfl, rfl, le38, hs⟩
   have h0 := el_next h0
   try dsimp only at h0
   refine Cd.go ?_
   refine Cd.seq ?_
   obtain ⟨p43, hp44, h0⟩ := bind_s h0
   obtain ⟨j40, j41, j42⟩ := p43
   dsimp only at h0
   refine Cd.post (fun K w => ∃ (S45 : Mp) (v48 : Value) (g50 : Option Nat), K = [(2, v48), (3, .int .i64 j41), (4, .int .i64 j42)] ∧ Le S36 S45 ∧ St w0 [] S0 S45 [.app g50 v48 j40.length 5 1] w ∧ Rd S45 1 (RI .u8) v48 j40) ?_ ?_
   ·rintro K52 w46 ⟨S45, v48, g50, rfl, le47, hs, f49⟩
    refine Cd.go ?_
    refine Cd.ret ?_
    obtain rfl := some_s h0
    exact fun a ha => Cd.retA (R := Re (Po41 S0 w0 [] _)) ha Try.results41 ⟨_, _, rfl, rfl, ⟨_, _, rfl, rfl, ⟨_, _, rfl, rfl, rfl⟩⟩⟩ ⟨_, rfl, S45, v48, rfl, (hs.pick [] (by decide) rfl), f49⟩
   ·skip
    refine Cd.rD mixed (fun l w => Has S36 w ∧ Hp b10 #[.int .i64 G_0.Kind, .int .u32 G_0.From, .int .u32 G_0.About, v1, v3, v5, .int .u64 G_0.Rate, .int .i64 G_0.Type_, .int .i64 G_0.Count, v7] 33 w) hs (fun _ _ _ _ _ h => h) (by kernel_rfl) (fun w53 hs => ⟨⟨hs.has, (hs.heap 0 rfl)⟩, ?_⟩)
    refine Rk.tN 0 rfl rfl (fun _ _ => X.fieldB Try.underlying33 rfl zz31 rfl rfl) ?_
    refine Rk.tN 1 rfl rfl (fun w hc => X.load1 Try.underlying31 rfl rfl (heap_cell hc.2 rfl)) ?_
    refine Rk.tN 3 rfl rfl (fun _ _ => X.fieldB Try.underlying33 rfl zz3 rfl rfl) ?_
    refine Rk.tN 4 rfl rfl (fun w hc => X.load1 Try.underlying3 rfl rfl (heap_cell hc.2 rfl)) ?_
    refine Rk.tN 5 rfl rfl (fun _ _ => X.fieldB Try.underlying33 rfl zz3 rfl rfl) ?_
    refine Rk.tN 6 rfl rfl (fun w hc => X.load1 Try.underlying3 rfl rfl (heap_cell hc.2 rfl)) ?_
    obtain ⟨x54, hx55, hp44⟩ := bind_s hp44
    refine Rk.eN 2 rfl rfl (Oq.call Try.call59 rfl rfl (c59 S36 (St.start _ _ hs.has) _ _ (f8.mono (le20.trans (le29.trans le38))) _ hx55) (fun v56 w57 h58 => ?_))
    obtain ⟨S59, v62, g64, rfl, hs60, f63⟩ := h58
    have le61 := hs60.le
    have hs := hs.call0 hs60
    refine ⟨⟨(hs.has.down le61), (hs.heap 1 rfl)⟩, Rk.mk (C' := fun l w => Has S59 w ∧ Hp b10 #[.int .i64 G_0.Kind, .int .u32 G_0.From, .int .u32 G_0.About, v1, v3, v5, .int .u64 G_0.Rate, .int .i64 G_0.Type_, .int .i64 G_0.Count, v7] 33 w) ⟨hs.has, (hs.heap 1 rfl)⟩ (fun l w hc => ⟨hc.1.down le61, hc.2⟩) ?_⟩
    refine Rk.tN 7 rfl rfl (fun _ _ => X.assign rfl) ?_
    refine Rk.tN 8 rfl rfl (fun _ _ => X.assign rfl) ?_
    refine Rk.tN 9 rfl rfl (fun _ _ => X.assign rfl) ?_
    refine Rk.done ?_
    cases some_s hp44
    exact fun a ha => ⟨[(2, v56), (3, .int .i64 G_0.Type_), (4, .int .i64 G_0.Count)], ha.weak ⟨rfl, rfl, rfl, trivial⟩, S59, v56, g64, rfl, le61, (hs.pick [0] (by decide) rfl), f63⟩
  ·skip
   refine Cd.block ?_
   refine Cd.seq ?_
   refine Cd.sr ?_
   refine Rg.vN (X.eql rfl rfl) rfl ?_
   refine Rg.st rfl rfl ?_
   refine Rg.go ?_
   obtain ⟨p67, hp68, hp35⟩ := bind_s hp35
   refine Cd.post (fun K w => ∃ (S69 : Mp), K = [(1, .pointer (some ⟨b10, 0, none⟩)), (2, v30), (26, .int .i64 G_0.Kind), (27, .bool p67)] ∧ Le S27 S69 ∧ St w0 [] S0 S69 [.box b10 #[.int .i64 G_0.Kind, .int .u32 G_0.From, .int .u32 G_0.About, v1, v3, v5, .int .u64 G_0.Rate, .int .i64 G_0.Type_, .int .i64 G_0.Count, v7] 33] w) ?_ ?_
   ·rintro K72 w70 ⟨S69, rfl, le71, hs⟩
    refine Cd.go ?_
    refine Cd.cond (t := p67) rfl (fun hc73 => ?_) (fun hc73 => ?_)
    ·have hp35 := ite_t hc73 hp35
     refine Cd.seq ?_
     refine Cd.sr ?_
     refine Rg.vN (X.fieldB Try.underlying33 rfl zz28 rfl rfl) rfl ?_
     refine Rg.vN (X.load1 Try.underlying28 rfl rfl (hs.cell 0 rfl 3 rfl)) rfl ?_
     refine Rg.vN (X.lenR Try.underlying28 rfl (f2.mono (le20.trans (le29.trans le71)))) rfl ?_
     refine Rg.mv rfl rfl ?_
     refine Rg.go ?_
     obtain ⟨fl74, hfl75, hp35⟩ := bind_s hp35
     refine Cd.post (fun K w => ∃ (j76 : (List Int)) (j77 : Int) (S78 : Mp) (v80 : Value), K = [(1, .pointer (some ⟨b10, 0, none⟩)), (2, v80)] ∧ fl74 = Flow.brk (j76, j77) ∧ Le S69 S78 ∧ St w0 [] S0 S78 [.box b10 #[.int .i64 G_0.Kind, .int .u32 G_0.From, .int .u32 G_0.About, v1, v3, v5, .int .u64 G_0.Rate, .int .i64 G_0.Type_, .int .i64 G_0.Count, v7] 33] w ∧ Rd S78 1 (RI .u8) v80 j76 ∧ (∃ A, v80 = .slice A j76.length j76.length)) ?_ ?_
     ·rintro K84 w83 ⟨j76, j77, S78, v80, rfl, rfl, le79, hs, f81, fu82⟩
      have hp35 := el_brk hp35
      try dsimp only at hp35
      refine Cd.go ?_
      refine Cd.seq ?_
      refine Cd.rD mixed (fun l w => Has S78 w ∧ Hp b10 #[.int .i64 G_0.Kind, .int .u32 G_0.From, .int .u32 G_0.About, v1, v3, v5, .int .u64 G_0.Rate, .int .i64 G_0.Type_, .int .i64 G_0.Count, v7] 33 w) hs (fun _ _ _ _ _ h => h) (by kernel_rfl) (fun w85 hs => ⟨⟨hs.has, (hs.heap 0 rfl)⟩, ?_⟩)
      refine Rk.tN 0 rfl rfl (fun _ _ => X.move rfl) ?_
      refine Rk.tN 1 rfl rfl (fun _ _ => X.fieldB Try.underlying33 rfl zz3 rfl rfl) ?_
      refine Rk.tN 2 rfl rfl (fun w hc => X.load1 Try.underlying3 rfl rfl (heap_cell hc.2 rfl)) ?_
      refine Rk.tN 3 rfl rfl (fun _ _ => X.add rfl rfl) ?_
      refine Rk.weak [(2, v80), (50, v80), (53, .int .i64 (add .i64 3 G_0.Kind))] ⟨rfl, rfl, rfl, trivial⟩ ?_
      refine Rk.tN 4 rfl rfl (fun _ _ => X.sub rfl rfl) ?_
      refine Rk.tN 5 rfl rfl (fun _ _ => X.assign rfl) ?_
      refine Rk.tN 6 rfl rfl (fun _ _ => X.assign rfl) ?_
      refine Rk.tN 7 rfl rfl (fun _ _ => X.assign rfl) ?_
      refine Rk.done ?_
      refine Cd.go ?_
      refine Cd.ret ?_
      obtain rfl := some_s hp35
      have h0 := el_ret h0
      obtain rfl := some_s h0
      exact fun a ha => Cd.retA (R := Re (Po41 S0 w0 [] _)) ha Try.results41 ⟨_, _, rfl, rfl, ⟨_, _, rfl, rfl, ⟨_, _, rfl, rfl, rfl⟩⟩⟩ ⟨_, rfl, S78, v80, rfl, (hs.pick [] (by decide) rfl), f81⟩
     ·skip
      refine Cd.weak [(1, .pointer (some ⟨b10, 0, none⟩)), (2, v30), (31, v1), (32, .int .i64 (G_0.Tuples.length : Int)), (33, .int .i64 0)] ⟨rfl, rfl, rfl, rfl, rfl, trivial⟩ ?_
      refine Cd.block (Cd.loop (fun sg => rtcp_body_l0 G_0 sg.1 sg.2) (fun (sg : ((List Int) × Int)) K w => ∃ (S88 : Mp) (v90 : Value), K = [(1, .pointer (some ⟨b10, 0, none⟩)), (2, v90), (31, v1), (32, .int .i64 (G_0.Tuples.length : Int)), (33, .int .i64 sg.2)] ∧ Le S69 S88 ∧ St w0 [] S0 S88 [.box b10 #[.int .i64 G_0.Kind, .int .u32 G_0.From, .int .u32 G_0.About, v1, v3, v5, .int .u64 G_0.Rate, .int .i64 G_0.Type_, .int .i64 G_0.Count, v7] 33] w ∧ Rd S88 1 (RI .u8) v90 sg.1 ∧ (∃ A, v90 = .slice A sg.1.length sg.1.length)) (p25, 0) fl74 hfl75 ⟨S69, v30, rfl, Le.refl _, hs, (f31.mono le71), fu32⟩ ?_)
      rintro ⟨q86, q87⟩ fl93 K98 w97 hb94 ⟨S88, v90, rfl, le89, hs, f91, fu92⟩ hl95
      have h96 : rtcp_body_l0 G_0 q86 q87 = some fl93 := hb94
      unfold rtcp_body_l0 at h96
      refine Cd.sr ?_
      refine Rg.vN (X.lss rfl rfl) rfl ?_
      refine Rg.go ?_
      refine Cd.seq ?_
      refine Cd.cond (t := decide (q87 < (G_0.Tuples.length : Int))) rfl (fun hc99 => ?_) (fun hc99 => ?_)
      ·have h96 := ite_t hc99 h96
       refine Cd.sg ?_
       refine Cd.seq ?_
       obtain ⟨p101, hp102, h96⟩ := bind_s h96
       refine Cd.post (fun K w => ∃ (S103 : Mp) (v106 : Value), K = [(1, .pointer (some ⟨b10, 0, none⟩)), (2, v106), (31, v1), (32, .int .i64 (G_0.Tuples.length : Int)), (33, .int .i64 q87)] ∧ Le S88 S103 ∧ St w0 [] S0 S103 [.box b10 #[.int .i64 G_0.Kind, .int .u32 G_0.From, .int .u32 G_0.About, v1, v3, v5, .int .u64 G_0.Rate, .int .i64 G_0.Type_, .int .i64 G_0.Count, v7] 33] w ∧ Rd S103 1 (RI .u8) v106 p101 ∧ (∃ A, v106 = .slice A p101.length p101.length)) ?_ ?_
       ·rintro K109 w104 ⟨S103, v106, rfl, le105, hs, f107, fu108⟩
        refine Cd.go ?_
        refine Cd.region ?_
        refine Rg.vN (X.add rfl rfl) rfl ?_
        refine Rg.mv rfl rfl ?_
        refine Rg.nil ?_
        exact fun a ha => ⟨(p101, add .i64 q87 1), [(1, .pointer (some ⟨b10, 0, none⟩)), (2, v106), (31, v1), (32, .int .i64 (G_0.Tuples.length : Int)), (33, .int .i64 (add .i64 q87 1))], (some_s h96).symm, ha.weak ⟨rfl, rfl, rfl, rfl, rfl, trivial⟩, S103, v106, rfl, (le89.trans le105), hs, f107, fu108⟩
       ·skip
        refine Cd.block ?_
        refine Cd.sr ?_
        obtain ⟨x110, hx111, hp102⟩ := bind_s hp102
        obtain ⟨ad112, vals113, _, hR114, hE115, hX116⟩ := mk_index Try.underlying28 zz57 (by decide) (f2.mono (le20.trans (le29.trans (le71.trans le89)))) hx111
        unfold R_api_Tuple at hR114
        subst hR114
        refine Rg.vN (hX116 rfl rfl) rfl ?_
        refine Rg.vN (X.loadE (vals := [.int .u32 x110.Owner, .int .u64 x110.Rate, .int .i64 x110.Over]) hs.has Try.underlying57 rfl zz57 rfl hE115) rfl ?_
        refine Rg.step rfl (Oq.alloc (cs := #[.int .u32 0, .int .u64 0, .int .i64 0]) hs ii57 rfl rfl rfl (fun b117 w118 hs => ?_))
        refine Rg.step rfl (Oq.storeN hs 0 rfl (vals := [.int .u32 x110.Owner, .int .u64 x110.Rate, .int .i64 x110.Over]) zz57 rfl rfl (one_all ⟨rfl, rfl, rfl, trivial⟩) rfl [.box b117 #[.int .u32 x110.Owner, .int .u64 x110.Rate, .int .i64 x110.Over] 57, .box b10 #[.int .i64 G_0.Kind, .int .u32 G_0.From, .int .u32 G_0.About, v1, v3, v5, .int .u64 G_0.Rate, .int .i64 G_0.Type_, .int .i64 G_0.Count, v7] 33] rfl (fun w120 hs => ?_))
        refine Rg.go ?_
        obtain ⟨p122, hp123, hp102⟩ := bind_s hp102
        refine Cd.post (fun K w => ∃ (S124 : Mp) (v127 : Value), K = [(1, .pointer (some ⟨b10, 0, none⟩)), (2, v127), (31, v1), (32, .int .i64 (G_0.Tuples.length : Int)), (33, .int .i64 q87)] ∧ Le S88 S124 ∧ St w0 [] S0 S124 [.box b10 #[.int .i64 G_0.Kind, .int .u32 G_0.From, .int .u32 G_0.About, v1, v3, v5, .int .u64 G_0.Rate, .int .i64 G_0.Type_, .int .i64 G_0.Count, v7] 33] w ∧ Rd S124 1 (RI .u8) v127 p122 ∧ (∃ A, v127 = .slice A p122.length p122.length)) ?_ ?_
        ·rintro K130 w125 ⟨S124, v127, rfl, le126, hs, f128, fu129⟩
         obtain rfl := some_s hp102
         exact fun a ha => ⟨[(1, .pointer (some ⟨b10, 0, none⟩)), (2, v127), (31, v1), (32, .int .i64 (G_0.Tuples.length : Int)), (33, .int .i64 q87)], ha.weak ⟨rfl, rfl, rfl, rfl, rfl, trivial⟩, S124, v127, rfl, le126, hs, f128, fu129⟩
        ·skip
         refine Cd.rD mixed (fun l w => Has S88 w ∧ Hp b117 #[.int .u32 x110.Owner, .int .u64 x110.Rate, .int .i64 x110.Over] 57 w) hs (fun _ _ _ _ _ h => h) (by kernel_rfl) (fun w131 hs => ⟨⟨hs.has, (hs.heap 0 rfl)⟩, ?_⟩)
         refine Rk.tN 0 rfl rfl (fun _ _ => X.move rfl) ?_
         refine Rk.tN 1 rfl rfl (fun _ _ => X.fieldB Try.underlying57 rfl zz27 rfl rfl) ?_
         refine Rk.tN 2 rfl rfl (fun w hc => X.load1 Try.underlying27 rfl rfl (heap_cell hc.2 rfl)) ?_
         refine Rk.tN 3 rfl rfl (fun _ _ => X.conv Try.underlying27 Try.underlying30 rfl) ?_
         refine Rk.tN 5 rfl rfl (fun _ _ => X.fieldB Try.underlying57 rfl zz30 rfl rfl) ?_
         refine Rk.tN 6 rfl rfl (fun w hc => X.load1 Try.underlying30 rfl rfl (heap_cell hc.2 rfl)) ?_
         refine Rk.tN 7 rfl rfl (fun _ _ => X.fieldB Try.underlying57 rfl zz3 rfl rfl) ?_
         refine Rk.weak [(1, .pointer (some ⟨b10, 0, none⟩)), (2, v90), (31, v1), (32, .int .i64 (G_0.Tuples.length : Int)), (33, .int .i64 q87), (37, v90), (40, .int .u64 (cv .u64 x110.Owner)), (43, .int .u64 x110.Rate), (44, .pointer (some ⟨b117, 2, none⟩))] ⟨rfl, rfl, rfl, rfl, rfl, rfl, rfl, rfl, rfl, trivial⟩ ?_
         refine Rk.tN 8 rfl rfl (fun w hc => X.load1 Try.underlying3 rfl rfl (heap_cell hc.2 rfl)) ?_
         refine Rk.tN 9 rfl rfl (fun _ _ => X.conv Try.underlying3 Try.underlying30 rfl) ?_
         obtain ⟨x132, hx133, hp123⟩ := bind_s hp123
         refine Rk.eN 4 rfl rfl (Oq.call Try.call42 rfl rfl (c42 S88 (St.start _ _ hs.has) _ _ f91 _ _ _ hx133) (fun v134 w135 h136 => ?_))
         obtain ⟨S137, v140, rfl, hs138, f141, fu142⟩ := h136
         have le139 := hs138.le
         have hs := hs.call0 hs138
         refine ⟨⟨(hs.has.down le139), (hs.heap 0 rfl)⟩, Rk.mk (C' := fun l w => Has S137 w ∧ Hp b117 #[.int .u32 x110.Owner, .int .u64 x110.Rate, .int .i64 x110.Over] 57 w) ⟨hs.has, (hs.heap 0 rfl)⟩ (fun l w hc => ⟨hc.1.down le139, hc.2⟩) ?_⟩
         obtain ⟨x143, hx144, hp123⟩ := bind_s hp123
         refine Rk.eN 10 rfl rfl (Oq.call Try.call58 rfl rfl (c58 S137 (St.start _ _ hs.has) _ _ _ _ _ hx144) (fun v145 w146 h147 => ?_))
         obtain ⟨S148, rfl, hs149⟩ := h147
         have le150 := hs149.le
         have hs := hs.call0 hs149
         refine ⟨⟨(hs.has.down le150), (hs.heap 0 rfl)⟩, Rk.mk (C' := fun l w => Has S148 w ∧ Hp b117 #[.int .u32 x110.Owner, .int .u64 x110.Rate, .int .i64 x110.Over] 57 w) ⟨hs.has, (hs.heap 0 rfl)⟩ (fun l w hc => ⟨hc.1.down le150, hc.2⟩) ?_⟩
         obtain ⟨x151, hx152, hp123⟩ := bind_s hp123
         refine Rk.eN 11 rfl rfl (Oq.call Try.call42 rfl rfl (c42 S148 (St.start _ _ hs.has) _ _ (f141.mono le150) _ _ _ hx152) (fun v153 w154 h155 => ?_))
         obtain ⟨S156, v159, rfl, hs157, f160, fu161⟩ := h155
         have le158 := hs157.le
         have hs := hs.call0 hs157
         refine ⟨⟨(hs.has.down le158), (hs.heap 0 rfl)⟩, Rk.mk (C' := fun l w => Has S156 w ∧ Hp b117 #[.int .u32 x110.Owner, .int .u64 x110.Rate, .int .i64 x110.Over] 57 w) ⟨hs.has, (hs.heap 0 rfl)⟩ (fun l w hc => ⟨hc.1.down le158, hc.2⟩) ?_⟩
         refine Rk.tN 12 rfl rfl (fun _ _ => X.assign rfl) ?_
         refine Rk.done ?_
         obtain rfl := some_s hp123
         exact fun a ha => ⟨[(1, .pointer (some ⟨b10, 0, none⟩)), (2, v153), (31, v1), (32, .int .i64 (G_0.Tuples.length : Int)), (33, .int .i64 q87)], ha.weak ⟨rfl, rfl, rfl, rfl, rfl, trivial⟩, S156, v153, rfl, (le139.trans (le150.trans le158)), (hs.pick [1] (by decide) rfl), f160, fu161⟩
      ·have h96 := ite_f hc99 h96
       refine Cd.exit ?_
       obtain rfl := some_s h96
       have e := hl95 (fun _ e => by cases e)
       exact fun a ha => ⟨[(1, .pointer (some ⟨b10, 0, none⟩)), (2, v90)], ha.weak ⟨rfl, rfl, trivial⟩, _, _, S88, v90, rfl, e.symm, le89, hs, f91, fu92⟩
    ·have hp35 := ite_f hc73 hp35
     refine Cd.sr ?_
     refine Rg.vN (X.eql rfl rfl) rfl ?_
     refine Rg.st rfl rfl ?_
     refine Rg.go ?_
     refine Cd.cond (t := G_0.Kind == 3) rfl (fun hc165 => ?_) (fun hc165 => ?_)
     ·have hp35 := ite_t hc165 hp35
      refine Cd.sr ?_
      refine Rg.mv rfl rfl ?_
      refine Rg.vN (X.fieldB Try.underlying33 rfl zz27 rfl rfl) rfl ?_
      refine Rg.vN (X.load1 Try.underlying27 rfl rfl (hs.cell 0 rfl 2 rfl)) rfl ?_
      refine Rg.vN (X.conv Try.underlying27 Try.underlying30 rfl) rfl ?_
      obtain ⟨x166, hx167, hp35⟩ := bind_s hp35
      refine Rg.step rfl (Oq.call Try.call42 rfl rfl (c42 S69 (St.start _ _ hs.has) _ _ (f31.mono le71) _ _ _ hx167) (fun v168 w169 h170 => ?_))
      obtain ⟨S171, v174, rfl, hs172, f175, fu176⟩ := h170
      have le173 := hs172.le
      have hs := hs.call0 hs172
      refine Rg.st rfl rfl ?_
      refine Rg.st rfl rfl ?_
      refine Rg.st rfl rfl ?_
      refine Rg.go ?_
      refine Cd.weak [(2, v168), (3, .int .i64 206), (4, .int .i64 1)] ⟨rfl, rfl, rfl, trivial⟩ ?_
      refine Cd.ret ?_
      obtain rfl := some_s hp35
      have h0 := el_ret h0
      obtain rfl := some_s h0
      exact fun a ha => Cd.retA (R := Re (Po41 S0 w0 [] _)) ha Try.results41 ⟨_, _, rfl, rfl, ⟨_, _, rfl, rfl, ⟨_, _, rfl, rfl, rfl⟩⟩⟩ ⟨_, rfl, S171, v168, rfl, (hs.pick [] (by decide) rfl), f175⟩
     ·have hp35 := ite_f hc165 hp35
      refine Cd.sr ?_
      refine Rg.vN (X.eql rfl rfl) rfl ?_
      refine Rg.st rfl rfl ?_
      refine Rg.go ?_
      refine Cd.cond (t := G_0.Kind == 4) rfl (fun hc177 => ?_) (fun hc177 => ?_)
      ·have hp35 := ite_t hc177 hp35
       refine Cd.seq ?_
       refine Cd.sr ?_
       refine Rg.vN (X.fieldB Try.underlying33 rfl zz29 rfl rfl) rfl ?_
       refine Rg.vN (X.load1 Try.underlying29 rfl rfl (hs.cell 0 rfl 4 rfl)) rfl ?_
       refine Rg.vN (X.lenR Try.underlying29 rfl (f4.mono (le20.trans (le29.trans le71)))) rfl ?_
       refine Rg.mv rfl rfl ?_
       refine Rg.go ?_
       refine Cd.weak [(1, .pointer (some ⟨b10, 0, none⟩)), (2, v30), (65, v3), (66, .int .i64 (G_0.Abouts.length : Int)), (67, .int .i64 0)] ⟨rfl, rfl, rfl, rfl, rfl, trivial⟩ ?_
       obtain ⟨fl178, hfl179, hp35⟩ := bind_s hp35
       refine Cd.post (fun K w => ∃ (j180 : (List Int)) (j181 : Int) (S182 : Mp) (v184 : Value), K = [(2, v184)] ∧ fl178 = Flow.brk (j180, j181) ∧ Le S69 S182 ∧ St w0 [] S0 S182 [] w ∧ Rd S182 1 (RI .u8) v184 j180 ∧ (∃ A, v184 = .slice A j180.length j180.length)) ?_ ?_
       ·rintro K188 w187 ⟨j180, j181, S182, v184, rfl, rfl, le183, hs, f185, fu186⟩
        have hp35 := el_brk hp35
        try dsimp only at hp35
        refine Cd.go ?_
        refine Cd.sr ?_
        refine Rg.mv rfl rfl ?_
        refine Rg.st rfl rfl ?_
        refine Rg.st rfl rfl ?_
        refine Rg.st rfl rfl ?_
        refine Rg.go ?_
        refine Cd.ret ?_
        obtain rfl := some_s hp35
        have h0 := el_ret h0
        obtain rfl := some_s h0
        exact fun a ha => Cd.retA (R := Re (Po41 S0 w0 [] _)) ha Try.results41 ⟨_, _, rfl, rfl, ⟨_, _, rfl, rfl, ⟨_, _, rfl, rfl, rfl⟩⟩⟩ ⟨_, rfl, S182, v184, rfl, hs, f185⟩
       ·skip
        refine Cd.weak [(1, .pointer (some ⟨b10, 0, none⟩)), (2, v30), (65, v3), (66, .int .i64 (G_0.Abouts.length : Int)), (67, .int .i64 0)] ⟨rfl, rfl, rfl, rfl, rfl, trivial⟩ ?_
        refine Cd.block (Cd.loop (fun sg => rtcp_body_l1 G_0 sg.1 sg.2) (fun (sg : ((List Int) × Int)) K w => ∃ (S191 : Mp) (v193 : Value), K = [(1, .pointer (some ⟨b10, 0, none⟩)), (2, v193), (65, v3), (66, .int .i64 (G_0.Abouts.length : Int)), (67, .int .i64 sg.2)] ∧ Le S69 S191 ∧ St w0 [] S0 S191 [.box b10 #[.int .i64 G_0.Kind, .int .u32 G_0.From, .int .u32 G_0.About, v1, v3, v5, .int .u64 G_0.Rate, .int .i64 G_0.Type_, .int .i64 G_0.Count, v7] 33] w ∧ Rd S191 1 (RI .u8) v193 sg.1 ∧ (∃ A, v193 = .slice A sg.1.length sg.1.length)) (p25, 0) fl178 hfl179 ⟨S69, v30, rfl, Le.refl _, hs, (f31.mono le71), fu32⟩ ?_)
        rintro ⟨q189, q190⟩ fl196 K201 w200 hb197 ⟨S191, v193, rfl, le192, hs, f194, fu195⟩ hl198
        have h199 : rtcp_body_l1 G_0 q189 q190 = some fl196 := hb197
        unfold rtcp_body_l1 at h199
        refine Cd.sr ?_
        refine Rg.vN (X.lss rfl rfl) rfl ?_
        refine Rg.go ?_
        refine Cd.seq ?_
        refine Cd.cond (t := decide (q190 < (G_0.Abouts.length : Int))) rfl (fun hc202 => ?_) (fun hc202 => ?_)
        ·have h199 := ite_t hc202 h199
         refine Cd.sg ?_
         refine Cd.seq ?_
         obtain ⟨p204, hp205, h199⟩ := bind_s h199
         refine Cd.post (fun K w => ∃ (S206 : Mp) (v209 : Value), K = [(1, .pointer (some ⟨b10, 0, none⟩)), (2, v209), (65, v3), (66, .int .i64 (G_0.Abouts.length : Int)), (67, .int .i64 q190)] ∧ Le S191 S206 ∧ St w0 [] S0 S206 [.box b10 #[.int .i64 G_0.Kind, .int .u32 G_0.From, .int .u32 G_0.About, v1, v3, v5, .int .u64 G_0.Rate, .int .i64 G_0.Type_, .int .i64 G_0.Count, v7] 33] w ∧ Rd S206 1 (RI .u8) v209 p204 ∧ (∃ A, v209 = .slice A p204.length p204.length)) ?_ ?_
         ·rintro K212 w207 ⟨S206, v209, rfl, le208, hs, f210, fu211⟩
          refine Cd.go ?_
          refine Cd.region ?_
          refine Rg.vN (X.add rfl rfl) rfl ?_
          refine Rg.mv rfl rfl ?_
          refine Rg.nil ?_
          exact fun a ha => ⟨(p204, add .i64 q190 1), [(1, .pointer (some ⟨b10, 0, none⟩)), (2, v209), (65, v3), (66, .int .i64 (G_0.Abouts.length : Int)), (67, .int .i64 (add .i64 q190 1))], (some_s h199).symm, ha.weak ⟨rfl, rfl, rfl, rfl, rfl, trivial⟩, S206, v209, rfl, (le192.trans le208), hs, f210, fu211⟩
         ·skip
          refine Cd.block ?_
          refine Cd.sr ?_
          refine Rg.mv rfl rfl ?_
          obtain ⟨x213, hx214, hp205⟩ := bind_s hp205
          obtain ⟨ad215, vals216, _, hR217, hE218, hX219⟩ := mk_index Try.underlying29 zz27 (by decide) (f4.mono (le20.trans (le29.trans (le71.trans le192)))) hx214
          obtain rfl : vals216 = [.int .u32 x213] := hR217
          refine Rg.vN (hX219 rfl rfl) rfl ?_
          refine Rg.vN (X.load1 Try.underlying27 rfl rfl (hE218.at0 rfl hs.has)) rfl ?_
          refine Rg.st rfl rfl ?_
          refine Rg.st rfl rfl ?_
          refine Rg.go ?_
          obtain ⟨p221, hp222, hp205⟩ := bind_s hp205
          refine Cd.post (fun K w => ∃ (S223 : Mp) (v226 : Value), K = [(1, .pointer (some ⟨b10, 0, none⟩)), (2, v226), (65, v3), (66, .int .i64 (G_0.Abouts.length : Int)), (67, .int .i64 q190)] ∧ Le S191 S223 ∧ St w0 [] S0 S223 [.box b10 #[.int .i64 G_0.Kind, .int .u32 G_0.From, .int .u32 G_0.About, v1, v3, v5, .int .u64 G_0.Rate, .int .i64 G_0.Type_, .int .i64 G_0.Count, v7] 33] w ∧ Rd S223 1 (RI .u8) v226 p221 ∧ (∃ A, v226 = .slice A p221.length p221.length)) ?_ ?_
          ·rintro K229 w224 ⟨S223, v226, rfl, le225, hs, f227, fu228⟩
           obtain rfl := some_s hp205
           exact fun a ha => ⟨[(1, .pointer (some ⟨b10, 0, none⟩)), (2, v226), (65, v3), (66, .int .i64 (G_0.Abouts.length : Int)), (67, .int .i64 q190)], ha.weak ⟨rfl, rfl, rfl, rfl, rfl, trivial⟩, S223, v226, rfl, le225, hs, f227, fu228⟩
          ·skip
           refine Cd.rD mixed (fun l w => Has S191 w ∧ Hp b10 #[.int .i64 G_0.Kind, .int .u32 G_0.From, .int .u32 G_0.About, v1, v3, v5, .int .u64 G_0.Rate, .int .i64 G_0.Type_, .int .i64 G_0.Count, v7] 33 w) hs (fun _ _ _ _ _ h => h) (by kernel_rfl) (fun w230 hs => ⟨⟨hs.has, (hs.heap 0 rfl)⟩, ?_⟩)
           refine Rk.tN 0 rfl rfl (fun _ _ => X.move rfl) ?_
           refine Rk.tN 1 rfl rfl (fun _ _ => X.move rfl) ?_
           refine Rk.tN 2 rfl rfl (fun _ _ => X.conv Try.underlying27 Try.underlying30 rfl) ?_
           refine Rk.tN 4 rfl rfl (fun _ _ => X.fieldB Try.underlying33 rfl zz23 rfl rfl) ?_
           refine Rk.tN 5 rfl rfl (fun w hc => X.load1 Try.underlying23 rfl rfl (heap_cell hc.2 rfl)) ?_
           refine Rk.tN 6 rfl rfl (fun _ _ => X.move rfl) ?_
           obtain ⟨x231, hx232, hp222⟩ := bind_s hp222
           obtain ⟨ad233, vals234, _, hR235, hE236, hX237⟩ := mk_index Try.underlying23 zz3 (by decide) (f6.mono (le20.trans (le29.trans (le71.trans le192)))) hx232
           obtain rfl : vals234 = [.int .i64 x231] := hR235
           refine Rk.tN 7 rfl rfl (fun _ _ => hX237 rfl rfl) ?_
           refine Rk.tN 8 rfl rfl (fun w hc => X.load1 Try.underlying3 rfl rfl (hE236.at0 rfl hc.1)) ?_
           refine Rk.weak [(1, .pointer (some ⟨b10, 0, none⟩)), (2, v193), (65, v3), (66, .int .i64 (G_0.Abouts.length : Int)), (67, .int .i64 q190), (72, v193), (74, .int .u64 (cv .u64 x213)), (80, .int .i64 x231)] ⟨rfl, rfl, rfl, rfl, rfl, rfl, rfl, rfl, trivial⟩ ?_
           refine Rk.tN 9 rfl rfl (fun _ _ => X.conv Try.underlying3 Try.underlying30 rfl) ?_
           obtain ⟨x238, hx239, hp222⟩ := bind_s hp222
           refine Rk.eN 3 rfl rfl (Oq.call Try.call42 rfl rfl (c42 S191 (St.start _ _ hs.has) _ _ f194 _ _ _ hx239) (fun v240 w241 h242 => ?_))
           obtain ⟨S243, v246, rfl, hs244, f247, fu248⟩ := h242
           have le245 := hs244.le
           have hs := hs.call0 hs244
           refine ⟨⟨(hs.has.down le245), (hs.heap 0 rfl)⟩, Rk.mk (C' := fun l w => Has S243 w ∧ Hp b10 #[.int .i64 G_0.Kind, .int .u32 G_0.From, .int .u32 G_0.About, v1, v3, v5, .int .u64 G_0.Rate, .int .i64 G_0.Type_, .int .i64 G_0.Count, v7] 33 w) ⟨hs.has, (hs.heap 0 rfl)⟩ (fun l w hc => ⟨hc.1.down le245, hc.2⟩) ?_⟩
           obtain ⟨x249, hx250, hp222⟩ := bind_s hp222
           refine Rk.eN 10 rfl rfl (Oq.call Try.call42 rfl rfl (c42 S243 (St.start _ _ hs.has) _ _ f247 _ _ _ hx250) (fun v251 w252 h253 => ?_))
           obtain ⟨S254, v257, rfl, hs255, f258, fu259⟩ := h253
           have le256 := hs255.le
           have hs := hs.call0 hs255
           refine ⟨⟨(hs.has.down le256), (hs.heap 0 rfl)⟩, Rk.mk (C' := fun l w => Has S254 w ∧ Hp b10 #[.int .i64 G_0.Kind, .int .u32 G_0.From, .int .u32 G_0.About, v1, v3, v5, .int .u64 G_0.Rate, .int .i64 G_0.Type_, .int .i64 G_0.Count, v7] 33 w) ⟨hs.has, (hs.heap 0 rfl)⟩ (fun l w hc => ⟨hc.1.down le256, hc.2⟩) ?_⟩
           obtain ⟨x260, hx261, hp222⟩ := bind_s hp222
           refine Rk.eN 11 rfl rfl (Oq.call Try.call42 rfl rfl (c42 S254 (St.start _ _ hs.has) _ _ f258 _ _ _ hx261) (fun v262 w263 h264 => ?_))
           obtain ⟨S265, v268, rfl, hs266, f269, fu270⟩ := h264
           have le267 := hs266.le
           have hs := hs.call0 hs266
           refine ⟨⟨(hs.has.down le267), (hs.heap 0 rfl)⟩, Rk.mk (C' := fun l w => Has S265 w ∧ Hp b10 #[.int .i64 G_0.Kind, .int .u32 G_0.From, .int .u32 G_0.About, v1, v3, v5, .int .u64 G_0.Rate, .int .i64 G_0.Type_, .int .i64 G_0.Count, v7] 33 w) ⟨hs.has, (hs.heap 0 rfl)⟩ (fun l w hc => ⟨hc.1.down le267, hc.2⟩) ?_⟩
           refine Rk.tN 12 rfl rfl (fun _ _ => X.assign rfl) ?_
           refine Rk.done ?_
           obtain rfl := some_s hp222
           exact fun a ha => ⟨[(1, .pointer (some ⟨b10, 0, none⟩)), (2, v262), (65, v3), (66, .int .i64 (G_0.Abouts.length : Int)), (67, .int .i64 q190)], ha.weak ⟨rfl, rfl, rfl, rfl, rfl, trivial⟩, S265, v262, rfl, (le245.trans (le256.trans le267)), hs, f269, fu270⟩
        ·have h199 := ite_f hc202 h199
         refine Cd.exit ?_
         obtain rfl := some_s h199
         have e := hl198 (fun _ e => by cases e)
         exact fun a ha => ⟨[(2, v193)], ha.weak ⟨rfl, trivial⟩, _, _, S191, v193, rfl, e.symm, le192, (hs.pick [] (by decide) rfl), f194, fu195⟩
      ·have hp35 := ite_f hc177 hp35
       refine Cd.sr ?_
       refine Rg.vN (X.eql rfl rfl) rfl ?_
       refine Rg.st rfl rfl ?_
       refine Rg.go ?_
       refine Cd.cond (t := G_0.Kind == 5) rfl (fun hc274 => ?_) (fun hc274 => ?_)
       ·have hp35 := ite_t hc274 hp35
        refine Cd.seq ?_
        obtain ⟨p276, hp277, hp35⟩ := bind_s hp35
        refine Cd.post (fun K w => ∃ (S278 : Mp) (v281 : Value), K = [(1, .pointer (some ⟨b10, 0, none⟩)), (2, v281)] ∧ Le S69 S278 ∧ St w0 [] S0 S278 [.box b10 #[.int .i64 G_0.Kind, .int .u32 G_0.From, .int .u32 G_0.About, v1, v3, v5, .int .u64 G_0.Rate, .int .i64 G_0.Type_, .int .i64 G_0.Count, v7] 33] w ∧ Rd S278 1 (RI .u8) v281 p276 ∧ (∃ A, v281 = .slice A p276.length p276.length)) ?_ ?_
        ·rintro K284 w279 ⟨S278, v281, rfl, le280, hs, f282, fu283⟩
         refine Cd.go ?_
         refine Cd.sr ?_
         refine Rg.mv rfl rfl ?_
         refine Rg.vN (X.fieldB Try.underlying33 rfl zz30 rfl rfl) rfl ?_
         refine Rg.weak [(1, .pointer (some ⟨b10, 0, none⟩)), (95, v281), (96, .pointer (some ⟨b10, 6, none⟩))] ⟨rfl, rfl, rfl, trivial⟩ ?_
         refine Rg.vN (X.load1 Try.underlying30 rfl rfl (hs.cell 0 rfl 6 rfl)) rfl ?_
         obtain ⟨x285, hx286, hp35⟩ := bind_s hp35
         refine Rg.step rfl (Oq.call Try.call58 rfl rfl (c58 S278 (St.start _ _ hs.has) _ _ _ _ _ hx286) (fun v287 w288 h289 => ?_))
         obtain ⟨S290, rfl, hs291⟩ := h289
         have le292 := hs291.le
         have hs := hs.call0 hs291
         obtain ⟨x293, hx294, hp35⟩ := bind_s hp35
         refine Rg.step rfl (Oq.call Try.call42 rfl rfl (c42 S290 (St.start _ _ hs.has) _ _ (f282.mono le292) _ _ _ hx294) (fun v295 w296 h297 => ?_))
         obtain ⟨S298, v301, rfl, hs299, f302, fu303⟩ := h297
         have le300 := hs299.le
         have hs := hs.call0 hs299
         refine Rg.st rfl rfl ?_
         refine Rg.go ?_
         refine Cd.seq ?_
         refine Cd.sr ?_
         refine Rg.vN (X.fieldB Try.underlying33 rfl zz29 rfl rfl) rfl ?_
         refine Rg.vN (X.load1 Try.underlying29 rfl rfl (hs.cell 0 rfl 4 rfl)) rfl ?_
         refine Rg.vN (X.lenR Try.underlying29 rfl (f4.mono (le20.trans (le29.trans (le71.trans (le280.trans (le292.trans le300))))))) rfl ?_
         refine Rg.mv rfl rfl ?_
         refine Rg.go ?_
         obtain ⟨fl304, hfl305, hp35⟩ := bind_s hp35
         refine Cd.post (fun K w => ∃ (j306 : (List Int)) (j307 : Int) (S308 : Mp) (v310 : Value), K = [(2, v310)] ∧ fl304 = Flow.brk (j306, j307) ∧ Le S298 S308 ∧ St w0 [] S0 S308 [] w ∧ Rd S308 1 (RI .u8) v310 j306 ∧ (∃ A, v310 = .slice A j306.length j306.length)) ?_ ?_
         ·rintro K314 w313 ⟨j306, j307, S308, v310, rfl, rfl, le309, hs, f311, fu312⟩
          have hp35 := el_brk hp35
          try dsimp only at hp35
          refine Cd.go ?_
          refine Cd.sr ?_
          refine Rg.mv rfl rfl ?_
          refine Rg.st rfl rfl ?_
          refine Rg.st rfl rfl ?_
          refine Rg.st rfl rfl ?_
          refine Rg.go ?_
          refine Cd.ret ?_
          obtain rfl := some_s hp35
          have h0 := el_ret h0
          obtain rfl := some_s h0
          exact fun a ha => Cd.retA (R := Re (Po41 S0 w0 [] _)) ha Try.results41 ⟨_, _, rfl, rfl, ⟨_, _, rfl, rfl, ⟨_, _, rfl, rfl, rfl⟩⟩⟩ ⟨_, rfl, S308, v310, rfl, hs, f311⟩
         ·skip
          refine Cd.weak [(2, v295), (101, v3), (102, .int .i64 (G_0.Abouts.length : Int)), (103, .int .i64 0)] ⟨rfl, rfl, rfl, rfl, trivial⟩ ?_
          refine Cd.block (Cd.loop (fun sg => rtcp_body_l2 G_0 sg.1 sg.2) (fun (sg : ((List Int) × Int)) K w => ∃ (S317 : Mp) (v319 : Value), K = [(2, v319), (101, v3), (102, .int .i64 (G_0.Abouts.length : Int)), (103, .int .i64 sg.2)] ∧ Le S298 S317 ∧ St w0 [] S0 S317 [] w ∧ Rd S317 1 (RI .u8) v319 sg.1 ∧ (∃ A, v319 = .slice A sg.1.length sg.1.length)) (x293, 0) fl304 hfl305 ⟨S298, v295, rfl, Le.refl _, (hs.pick [] (by decide) rfl), f302, fu303⟩ ?_)
          rintro ⟨q315, q316⟩ fl322 K327 w326 hb323 ⟨S317, v319, rfl, le318, hs, f320, fu321⟩ hl324
          have h325 : rtcp_body_l2 G_0 q315 q316 = some fl322 := hb323
          unfold rtcp_body_l2 at h325
          refine Cd.sr ?_
          refine Rg.vN (X.lss rfl rfl) rfl ?_
          refine Rg.go ?_
          refine Cd.seq ?_
          refine Cd.cond (t := decide (q316 < (G_0.Abouts.length : Int))) rfl (fun hc328 => ?_) (fun hc328 => ?_)
          ·have h325 := ite_t hc328 h325
           refine Cd.sg ?_
           refine Cd.seq ?_
           refine Cd.block ?_
           refine Cd.sr ?_
           obtain ⟨x329, hx330, h325⟩ := bind_s h325
           obtain ⟨ad331, vals332, _, hR333, hE334, hX335⟩ := mk_index Try.underlying29 zz27 (by decide) (f4.mono (le20.trans (le29.trans (le71.trans (le280.trans (le292.trans (le300.trans le318))))))) hx330
           obtain rfl : vals332 = [.int .u32 x329] := hR333
           refine Rg.vN (hX335 rfl rfl) rfl ?_
           refine Rg.vN (X.load1 Try.underlying27 rfl rfl (hE334.at0 rfl hs.has)) rfl ?_
           refine Rg.st rfl rfl ?_
           refine Rg.go ?_
           refine Cd.region ?_
           refine Rg.mv rfl rfl ?_
           refine Rg.mv rfl rfl ?_
           refine Rg.weak [(101, v3), (102, .int .i64 (G_0.Abouts.length : Int)), (103, .int .i64 q316), (107, v319), (108, .int .u32 x329)] ⟨rfl, rfl, rfl, rfl, rfl, trivial⟩ ?_
           refine Rg.vN (X.conv Try.underlying27 Try.underlying30 rfl) rfl ?_
           obtain ⟨x336, hx337, h325⟩ := bind_s h325
           refine Rg.step rfl (Oq.call Try.call42 rfl rfl (c42 S317 (St.start _ _ hs.has) _ _ f320 _ _ _ hx337) (fun v338 w339 h340 => ?_))
           obtain ⟨S341, v344, rfl, hs342, f345, fu346⟩ := h340
           have le343 := hs342.le
           have hs := hs.call0 hs342
           refine Rg.st rfl rfl ?_
           refine Rg.nil ?_
           refine Cd.go ?_
           refine Cd.region ?_
           refine Rg.vN (X.add rfl rfl) rfl ?_
           refine Rg.mv rfl rfl ?_
           refine Rg.nil ?_
           exact fun a ha => ⟨(x336, add .i64 q316 1), [(2, v338), (101, v3), (102, .int .i64 (G_0.Abouts.length : Int)), (103, .int .i64 (add .i64 q316 1))], (some_s h325).symm, ha.weak ⟨rfl, rfl, rfl, rfl, trivial⟩, S341, v338, rfl, (le318.trans le343), hs, f345, fu346⟩
          ·have h325 := ite_f hc328 h325
           refine Cd.exit ?_
           obtain rfl := some_s h325
           have e := hl324 (fun _ e => by cases e)
           exact fun a ha => ⟨[(2, v319)], ha.weak ⟨rfl, trivial⟩, _, _, S317, v319, rfl, e.symm, le318, hs, f320, fu321⟩
        ·skip
         refine Cd.rD mixed (fun l w => Has S69 w ∧ Hp b10 #[.int .i64 G_0.Kind, .int .u32 G_0.From, .int .u32 G_0.About, v1, v3, v5, .int .u64 G_0.Rate, .int .i64 G_0.Type_, .int .i64 G_0.Count, v7] 33 w) hs (fun _ _ _ _ _ h => h) (by kernel_rfl) (fun w350 hs => ⟨⟨hs.has, (hs.heap 0 rfl)⟩, ?_⟩)
         refine Rk.tN 0 rfl rfl (fun _ _ => X.move rfl) ?_
         refine Rk.tN 2 rfl rfl (fun _ _ => X.fieldB Try.underlying33 rfl zz29 rfl rfl) ?_
         refine Rk.tN 3 rfl rfl (fun w hc => X.load1 Try.underlying29 rfl rfl (heap_cell hc.2 rfl)) ?_
         refine Rk.weak [(1, .pointer (some ⟨b10, 0, none⟩)), (2, v30), (88, v30), (91, v3)] ⟨rfl, rfl, rfl, rfl, trivial⟩ ?_
         refine Rk.tN 4 rfl rfl (fun _ _ => X.lenR Try.underlying29 rfl (f4.mono (le20.trans (le29.trans le71)))) ?_
         refine Rk.tN 5 rfl rfl (fun _ _ => X.conv Try.underlying3 Try.underlying30 rfl) ?_
         obtain ⟨y351, hx352, hp277⟩ := bind_s hp277
         refine Rk.eN 1 rfl rfl (Oq.appendStrF hs Try.underlying31 Try.underlying9 ii5 rfl rfl rfl (f31.mono le71) fu32 (bs := [82, 69, 77, 66]) rfl rfl hx352 rfl rfl rfl (fun v353 w354 S355 g356 hs le357 f358 => ?_))
         refine ⟨⟨(hs.has.down le357), (hs.heap 1 rfl)⟩, Rk.mk (C' := fun l w => Has S355 w ∧ Hp b10 #[.int .i64 G_0.Kind, .int .u32 G_0.From, .int .u32 G_0.About, v1, v3, v5, .int .u64 G_0.Rate, .int .i64 G_0.Type_, .int .i64 G_0.Count, v7] 33 w) ⟨hs.has, (hs.heap 1 rfl)⟩ (fun l w hc => ⟨hc.1.down le357, hc.2⟩) ?_⟩
         obtain ⟨x360, hx361, hp277⟩ := bind_s hp277
         refine Rk.eN 6 rfl rfl (Oq.call Try.call42 rfl rfl (c42 S355 (St.start _ _ hs.has) _ _ f358 _ _ _ hx361) (fun v362 w363 h364 => ?_))
         obtain ⟨S365, v368, rfl, hs366, f369, fu370⟩ := h364
         have le367 := hs366.le
         have hs := hs.call0 hs366
         refine ⟨⟨(hs.has.down le367), (hs.heap 1 rfl)⟩, Rk.mk (C' := fun l w => Has S365 w ∧ Hp b10 #[.int .i64 G_0.Kind, .int .u32 G_0.From, .int .u32 G_0.About, v1, v3, v5, .int .u64 G_0.Rate, .int .i64 G_0.Type_, .int .i64 G_0.Count, v7] 33 w) ⟨hs.has, (hs.heap 1 rfl)⟩ (fun l w hc => ⟨hc.1.down le367, hc.2⟩) ?_⟩
         refine Rk.tN 7 rfl rfl (fun _ _ => X.assign rfl) ?_
         refine Rk.done ?_
         obtain rfl := some_s hp277
         exact fun a ha => ⟨[(1, .pointer (some ⟨b10, 0, none⟩)), (2, v362)], ha.weak ⟨rfl, rfl, trivial⟩, S365, v362, rfl, (le357.trans le367), (hs.pick [1] (by decide) rfl), f369, fu370⟩
       ·have hp35 := ite_f hc274 hp35
        refine Cd.skip ?_
        obtain rfl := some_s hp35
        exact fun a ha => ⟨[(1, .pointer (some ⟨b10, 0, none⟩))], ha.weak ⟨rfl, trivial⟩, S69, rfl, rfl, le71, hs⟩
   ·skip
    refine Cd.cond (t := G_0.Kind == 1) rfl (fun hc371 => ?_) (fun hc371 => ?_)
    ·have hp68 := ite_t hc371 hp68
     refine Cd.skip ?_
     obtain rfl := some_s hp68
     exact fun a ha => ⟨[(1, .pointer (some ⟨b10, 0, none⟩)), (2, v30), (26, .int .i64 G_0.Kind), (27, .bool (G_0.Kind == 1))], ha.weak ⟨rfl, rfl, rfl, rfl, trivial⟩, S27, rfl, Le.refl _, hs⟩
    ·have hp68 := ite_f hc371 hp68
     refine Cd.region ?_
     refine Rg.vN (X.eql rfl rfl) rfl ?_
     refine Rg.st rfl rfl ?_
     refine Rg.nil ?_
     obtain rfl := some_s hp68
     exact fun a ha => ⟨[(1, .pointer (some ⟨b10, 0, none⟩)), (2, v30), (26, .int .i64 G_0.Kind), (27, .bool (G_0.Kind == 2))], ha.weak ⟨rfl, rfl, rfl, rfl, trivial⟩, S27, rfl, Le.refl _, hs⟩
 ·skip
  refine Cd.cond (t := (G_0.Kind != 3) && (G_0.Kind != 6)) rfl (fun hc375 => ?_) (fun hc375 => ?_)
  ·have hp26 := ite_t hc375 hp26
   refine Cd.region ?_
   refine Rg.mv rfl rfl ?_
   obtain ⟨x376, hx377, hp26⟩ := bind_s hp26
   refine Rg.step rfl (Oq.call Try.call42 rfl rfl (c42 S18 (St.start _ _ hs.has) _ _ f22 _ _ _ hx377) (fun v378 w379 h380 => ?_))
   obtain ⟨S381, v384, rfl, hs382, f385, fu386⟩ := h380
   have le383 := hs382.le
   have hs := hs.call0 hs382
   refine Rg.st rfl rfl ?_
   refine Rg.nil ?_
   obtain rfl := some_s hp26
   exact fun a ha => ⟨[(1, .pointer (some ⟨b10, 0, none⟩)), (2, v378)], ha.weak ⟨rfl, rfl, trivial⟩, S381, v378, rfl, le383, hs, f385, fu386⟩
  ·have hp26 := ite_f hc375 hp26
   refine Cd.skip ?_
   obtain rfl := some_s hp26
   exact fun a ha => ⟨[(1, .pointer (some ⟨b10, 0, none⟩)), (2, v15)], ha.weak ⟨rfl, rfl, trivial⟩, S18, v15, rfl, Le.refl _, hs, f22, fu23⟩
noncomputable def rtcp_Bytes_l1 (l_0 : (List api_Report)) (q36 : (List Int)) (q37 : Int) : Option (Flow ((List Int) × Int) ((List Int) × Int)) :=
 if (decide (q37 < (l_0.length : Int))) = true then (
  (ix l_0 q37).bind fun x51 =>
  (rtcp_body x51).bind fun x70 =>
  (app 1 q36 ([cv .u8 (bor .i64 128 x70.2.2), cv .u8 x70.2.1] : List Int)).bind fun y87 =>
  (octet_Put y87 (cv .u64 (quo .i64 (x70.1.length : Int) 4)) 2).bind fun x95 =>
  (app 1 x95 x70.1).bind fun y107 =>
  if (decide (1500 < (y107.length : Int))) = true then (
   some (Flow.ret (([] : List Int), 3)))
  else (
   some (Flow.next (y107, add .i64 q37 1))))
 else (
  some (Flow.brk (q36, q37)))
noncomputable def rtcp_Bytes_l0 (l_0 : (List api_Report)) (q119 : Int) : Option (Flow Int ((List Int) × Int)) :=
 if (decide (q119 < (l_0.length : Int))) = true then (
  (ix l_0 q119).bind fun x129 =>
  (rtcp_Right x129).bind fun x148 =>
  if (x148 != 0) = true then (
   some (Flow.ret (([] : List Int), x148)))
  else (
   some (Flow.next (add .i64 q119 1))))
 else (
  some (Flow.brk q119))
noncomputable def rtcp_Bytes (l_0 : (List api_Report)) : Option ((List Int) × Int) :=
 if ((l_0.length : Int) == 0) = true then (
  some (([] : List Int), 1))
 else (
  (loopF (fun sg => rtcp_Bytes_l0 l_0 sg) 0).bind fun fl5 =>
  Flow.el fl5 (fun s157 => (
   none))
  (fun s158 => (
   (loopF (fun sg => rtcp_Bytes_l1 l_0 sg.1 sg.2) (([] : List Int), 0)).bind fun fl13 =>
   Flow.el fl13 (fun s116 => (
    none))
   (fun s117 => (
    (slices_Clip_byte s117.1).bind fun x25 =>
    some (x25, 0)))
   (fun r118 => (
    some r118))))
  (fun r159 => (
   some r159)))
def Po19 (S0 : Mp) (w0 : World) (D : List Nat) (r : ((List Int) × Int)) (v : Value) (w1 : World) : Prop :=
  ∃ (S1 : Mp) (v3 : Value), v = .tuple #[v3, .int .i64 r.2] ∧ St w0 D S0 S1 [] w1 ∧ Rd S1 1 (RI .u8) v3 r.1
set_option maxHeartbeats 4000000 in
theorem c19 (S0 : Mp) {w0 : World} (hs : St w0 [] S0 S0 [] w0) (l_0 : (List api_Report)) (v1 : Value) (f2 : Rd S0 10 R_api_Report v1 l_0) (r : ((List Int) × Int)) (h0 : rtcp_Bytes l_0 = some r) :
    Calls Try.prog 19 #[v1] w0 (Re (Po19 S0 w0 [] r)) := by
 unfold rtcp_Bytes at h0
 refine calls_of_cd Try.func19 rfl Try.ntmps19 rfl ?_
 refine Cd.sr ?_
 refine Rg.st rfl rfl ?_
 refine Rg.st rfl rfl ?_
 refine Rg.go ?_
 refine Cd.seq ?_
 refine Cd.sr ?_
 refine Rg.mv rfl rfl ?_
 refine Rg.vN (X.lenR Try.underlying36 rfl f2) rfl ?_
 refine Rg.vN (X.eql rfl rfl) rfl ?_
 refine Rg.go ?_
 refine Cd.cond (t := (l_0.length : Int) == 0) rfl (fun hc4 => ?_) (fun hc4 => ?_)
 ·have h0 := ite_t hc4 h0
  refine Cd.sr ?_
  refine Rg.st rfl rfl ?_
  refine Rg.st rfl rfl ?_
  refine Rg.go ?_
  refine Cd.ret ?_
  obtain rfl := some_s h0
  exact fun a ha => Cd.retA (R := Re (Po19 S0 w0 [] _)) ha Try.results19 ⟨_, _, rfl, rfl, ⟨_, _, rfl, rfl, rfl⟩⟩ ⟨_, rfl, S0, (.slice none 0 0), rfl, hs, (Rd.nil _ _ _)⟩
 ·have h0 := ite_f hc4 h0
  refine Cd.sg ?_
  refine Cd.sr ?_
  refine Rg.st rfl rfl ?_
  refine Rg.go ?_
  refine Cd.seq ?_
  refine Cd.sr ?_
  refine Rg.mv rfl rfl ?_
  refine Rg.vN (X.lenR Try.underlying36 rfl f2) rfl ?_
  refine Rg.mv rfl rfl ?_
  refine Rg.go ?_
  obtain ⟨fl5, hfl6, h0⟩ := bind_s h0
  refine Cd.post (fun K w => ∃ (j7 : Int) (S8 : Mp), K = [(0, v1), (4, .slice none 0 0)] ∧ fl5 = Flow.brk j7 ∧ Le S0 S8 ∧ St w0 [] S0 S8 [] w) ?_ ?_
  ·rintro K11 w10 ⟨j7, S8, rfl, rfl, le9, hs⟩
   have h0 := el_brk h0
   try dsimp only at h0
   refine Cd.go ?_
   refine Cd.seq ?_
   refine Cd.sr ?_
   refine Rg.mv rfl rfl ?_
   refine Rg.vN (X.lenR Try.underlying36 rfl (f2.mono le9)) rfl ?_
   refine Rg.mv rfl rfl ?_
   refine Rg.go ?_
   have hs := hs.nil 5 1
   have hs := hs.apfOfApp 0 rfl
   obtain ⟨fl13, hfl14, h0⟩ := bind_s h0
   refine Cd.post (fun K w => ∃ (j15 : (List Int)) (j16 : Int) (S17 : Mp) (v19 : Value) (g21 : Option Nat), K = [(4, v19)] ∧ fl13 = Flow.brk (j15, j16) ∧ Le S8 S17 ∧ St w0 [] S0 S17 [.apf g21 v19 j15.length 5 1] w ∧ Rd S17 1 (RI .u8) v19 j15) ?_ ?_
   ·rintro K24 w23 ⟨j15, j16, S17, v19, g21, rfl, rfl, le18, hs, f20⟩
    have h0 := el_brk h0
    try dsimp only at h0
    refine Cd.go ?_
    refine Cd.sr ?_
    refine Rg.mv rfl rfl ?_
    obtain ⟨x25, hx26, h0⟩ := bind_s h0
    refine Rg.step rfl (Oq.call Try.call43 rfl rfl (c43 S17 (St.start _ _ hs.has) _ _ f20 _ hx26) (fun v27 w28 h29 => ?_))
    obtain ⟨S30, v33, rfl, hs31, f34, fu35⟩ := h29
    have le32 := hs31.le
    have hs := hs.call0 hs31
    refine Rg.st rfl rfl ?_
    refine Rg.st rfl rfl ?_
    refine Rg.go ?_
    refine Cd.weak [(2, v27), (3, .int .i64 0)] ⟨rfl, rfl, trivial⟩ ?_
    refine Cd.ret ?_
    obtain rfl := some_s h0
    exact fun a ha => Cd.retA (R := Re (Po19 S0 w0 [] _)) ha Try.results19 ⟨_, _, rfl, rfl, ⟨_, _, rfl, rfl, rfl⟩⟩ ⟨_, rfl, S30, v27, rfl, (hs.pick [] (by decide) rfl), f34⟩
   ·skip
    refine Cd.weak [(4, .slice none 0 0), (28, v1), (29, .int .i64 (l_0.length : Int)), (30, .int .i64 0)] ⟨rfl, rfl, rfl, rfl, trivial⟩ ?_
    refine Cd.block (Cd.loop (fun sg => rtcp_Bytes_l1 l_0 sg.1 sg.2) (fun (sg : ((List Int) × Int)) K w => ∃ (S38 : Mp) (v40 : Value) (g42 : Option Nat), K = [(4, v40), (28, v1), (29, .int .i64 (l_0.length : Int)), (30, .int .i64 sg.2)] ∧ Le S8 S38 ∧ St w0 [] S0 S38 [.apf g42 v40 sg.1.length 5 1] w ∧ Rd S38 1 (RI .u8) v40 sg.1) (([] : List Int), 0) fl13 hfl14 ⟨S8, (.slice none 0 0), none, rfl, Le.refl _, hs, (Rd.nil _ _ _)⟩ ?_)
    rintro ⟨q36, q37⟩ fl44 K49 w48 hb45 ⟨S38, v40, g42, rfl, le39, hs, f41⟩ hl46
    have h47 : rtcp_Bytes_l1 l_0 q36 q37 = some fl44 := hb45
    unfold rtcp_Bytes_l1 at h47
    refine Cd.sr ?_
    refine Rg.vN (X.lss rfl rfl) rfl ?_
    refine Rg.go ?_
    refine Cd.seq ?_
    refine Cd.cond (t := decide (q37 < (l_0.length : Int))) rfl (fun hc50 => ?_) (fun hc50 => ?_)
    ·have h47 := ite_t hc50 h47
     refine Cd.sg ?_
     refine Cd.seq ?_
     refine Cd.block ?_
     refine Cd.sr ?_
     obtain ⟨x51, hx52, h47⟩ := bind_s h47
     obtain ⟨ad53, vals54, _, hR55, hE56, hX57⟩ := mk_index Try.underlying36 zz33 (by decide) (f2.mono (le9.trans le39)) hx52
     unfold R_api_Report at hR55
     obtain ⟨v58, v60, v62, v64, rfl, f59, f61, f63, f65⟩ := hR55
     refine Rg.vN (hX57 rfl rfl) rfl ?_
     refine Rg.vN (X.loadE (vals := [.int .i64 x51.Kind, .int .u32 x51.From, .int .u32 x51.About, v58, v60, v62, .int .u64 x51.Rate, .int .i64 x51.Type_, .int .i64 x51.Count, v64]) hs.has Try.underlying33 rfl zz33 rfl hE56) rfl ?_
     refine Rg.weak [(4, v40), (28, v1), (29, .int .i64 (l_0.length : Int)), (30, .int .i64 q37), (33, .agg (#[.int .i64 x51.Kind, .int .u32 x51.From, .int .u32 x51.About, v58, v60, v62, .int .u64 x51.Rate, .int .i64 x51.Type_, .int .i64 x51.Count, v64]))] ⟨rfl, rfl, rfl, rfl, rfl, trivial⟩ ?_
     refine Rg.step rfl (Oq.alloc (cs := #[.int .i64 0, .int .u32 0, .int .u32 0, .slice none 0 0, .slice none 0 0, .slice none 0 0, .int .u64 0, .int .i64 0, .int .i64 0, .slice none 0 0]) hs ii33 rfl rfl rfl (fun b66 w67 hs => ?_))
     refine Rg.step rfl (Oq.storeN hs 0 rfl (vals := [.int .i64 x51.Kind, .int .u32 x51.From, .int .u32 x51.About, v58, v60, v62, .int .u64 x51.Rate, .int .i64 x51.Type_, .int .i64 x51.Count, v64]) zz33 rfl rfl (one_all ⟨rfl, rfl, rfl, f59.one, f61.one, f63.one, rfl, rfl, rfl, f65.one, trivial⟩) rfl [.box b66 #[.int .i64 x51.Kind, .int .u32 x51.From, .int .u32 x51.About, v58, v60, v62, .int .u64 x51.Rate, .int .i64 x51.Type_, .int .i64 x51.Count, v64] 33, .apf g42 v40 q36.length 5 1] rfl (fun w69 hs => ?_))
     refine Rg.go ?_
     refine Cd.sr ?_
     refine Rg.vN (X.loadN (vals := [.int .i64 x51.Kind, .int .u32 x51.From, .int .u32 x51.About, v58, v60, v62, .int .u64 x51.Rate, .int .i64 x51.Type_, .int .i64 x51.Count, v64]) Try.underlying33 rfl zz33 rfl (hs.range 0 rfl 0 rfl)) rfl ?_
     obtain ⟨x70, hx71, h47⟩ := bind_s h47
     refine Rg.step rfl (Oq.call Try.call41 rfl rfl (c41 S38 (St.start _ _ hs.has) x51 _ f59 _ f61 _ f63 _ f65 _ hx71) (fun v72 w73 h74 => ?_))
     obtain ⟨S75, v78, rfl, hs76, f79⟩ := h74
     have le77 := hs76.le
     have hs := hs.call0 hs76
     refine Rg.mv rfl rfl ?_
     refine Rg.vN (X.extract rfl rfl) rfl ?_
     refine Rg.vN (X.extract rfl rfl) rfl ?_
     refine Rg.vN (X.extract rfl rfl) rfl ?_
     refine Rg.st rfl rfl ?_
     refine Rg.st rfl rfl ?_
     refine Rg.st rfl rfl ?_
     refine Rg.go ?_
     refine Cd.sr ?_
     refine Rg.mv rfl rfl ?_
     refine Rg.mv rfl rfl ?_
     refine Rg.weak [(10, v78), (11, .int .i64 x70.2.1), (28, v1), (29, .int .i64 (l_0.length : Int)), (30, .int .i64 q37), (40, v40), (41, .int .i64 x70.2.2)] ⟨rfl, rfl, rfl, rfl, rfl, rfl, rfl, trivial⟩ ?_
     refine Rg.vN (X.or rfl rfl) rfl ?_
     refine Rg.vN (X.conv Try.underlying3 Try.underlying5 rfl) rfl ?_
     refine Rg.mv rfl rfl ?_
     refine Rg.vN (X.conv Try.underlying3 Try.underlying5 rfl) rfl ?_
     refine Rg.step rfl (Oq.lit (sz := 1) (cs0 := [.int .u8 0, .int .u8 0]) (cells := [.int .u8 (cv .u8 (bor .i64 128 x70.2.2)), .int .u8 (cv .u8 x70.2.1)]) hs Try.underlying31 ii5 rfl rfl rfl rfl rfl rfl ⟨_, [.int .u8 (cv .u8 (bor .i64 128 x70.2.2))], _, rfl, rfl, rfl, ⟨_, [.int .u8 (cv .u8 x70.2.1)], _, rfl, rfl, rfl, rfl⟩⟩ rfl rfl rfl (fun b80 w81 S82 hs le83 hE84 => ?_))
     have f86 : Rd S82 1 (RI .u8) (.slice (some ⟨b80, 0, none⟩) 2 2) ([cv .u8 (bor .i64 128 x70.2.2), cv .u8 x70.2.1] : List Int) := Rd.of_cells (xs := ([cv .u8 (bor .i64 128 x70.2.2), cv .u8 x70.2.1] : List Int)) ⟨[.int .u8 (cv .u8 (bor .i64 128 x70.2.2))], _, rfl, rfl, one_all ⟨rfl, trivial⟩, rfl, ⟨[.int .u8 (cv .u8 x70.2.1)], _, rfl, rfl, one_all ⟨rfl, trivial⟩, rfl, rfl⟩⟩ hE84 (Nat.le_of_ble_eq_true rfl) (Nat.le_of_ble_eq_true rfl)
     obtain ⟨y87, hx88, h47⟩ := bind_s h47
     refine Rg.step rfl (Oq.appendP hs 2 rfl Try.underlying31 ii5 rfl rfl rfl rfl rfl rfl (f41.mono (le77.trans le83)) f86 hx88 rfl rfl rfl (fun v89 w90 S91 g92 hs le93 f94 => ?_))
     refine Rg.st rfl rfl ?_
     refine Rg.go ?_
     refine Cd.sr ?_
     refine Rg.mv rfl rfl ?_
     refine Rg.mv rfl rfl ?_
     refine Rg.vN (X.lenR Try.underlying31 rfl (f79.mono (le83.trans le93))) rfl ?_
     refine Rg.weak [(10, v78), (28, v1), (29, .int .i64 (l_0.length : Int)), (30, .int .i64 q37), (48, v89), (50, .int .i64 (x70.1.length : Int))] ⟨rfl, rfl, rfl, rfl, rfl, rfl, trivial⟩ ?_
     refine Rg.vN (X.quo rfl rfl (by decide)) rfl ?_
     refine Rg.vN (X.conv Try.underlying3 Try.underlying30 rfl) rfl ?_
     obtain ⟨x95, hx96, h47⟩ := bind_s h47
     refine Rg.step rfl (Oq.call Try.call42 rfl rfl (c42 S91 (St.start _ _ hs.has) _ _ f94 _ _ _ hx96) (fun v97 w98 h99 => ?_))
     obtain ⟨S100, v103, rfl, hs101, f104, fu105⟩ := h99
     have le102 := hs101.le
     have hs := hs.call0 hs101
     refine Rg.mv rfl rfl ?_
     have hs := hs.apfOfFull 5 1 fu105
     obtain ⟨y107, hx108, h47⟩ := bind_s h47
     refine Rg.step rfl (Oq.appendP hs 0 rfl Try.underlying31 ii5 rfl rfl rfl rfl rfl rfl f104 (f79.mono (le83.trans (le93.trans le102))) hx108 rfl rfl rfl (fun v109 w110 S111 g112 hs le113 f114 => ?_))
     refine Rg.st rfl rfl ?_
     refine Rg.go ?_
     refine Cd.sr ?_
     refine Rg.mv rfl rfl ?_
     refine Rg.vN (X.lenR Try.underlying31 rfl f114) rfl ?_
     refine Rg.vN (X.gtr rfl rfl) rfl ?_
     refine Rg.go ?_
     refine Cd.cond (t := decide (1500 < (y107.length : Int))) rfl (fun hc115 => ?_) (fun hc115 => ?_)
     ·have h47 := ite_t hc115 h47
      refine Cd.sr ?_
      refine Rg.st rfl rfl ?_
      refine Rg.st rfl rfl ?_
      refine Rg.go ?_
      refine Cd.weak [(2, .slice none 0 0), (3, .int .i64 3)] ⟨rfl, rfl, trivial⟩ ?_
      refine Cd.ret ?_
      obtain rfl := some_s h47
      have e := hl46 (fun _ e => by cases e)
      subst e
      have h0 := el_ret h0
      obtain rfl := some_s h0
      exact fun a ha => Cd.retA (R := Re (Po19 S0 w0 [] _)) ha Try.results19 ⟨_, _, rfl, rfl, ⟨_, _, rfl, rfl, rfl⟩⟩ ⟨_, rfl, S111, (.slice none 0 0), rfl, (hs.pick [] (by decide) rfl), (Rd.nil _ _ _)⟩
     ·have h47 := ite_f hc115 h47
      refine Cd.skip ?_
      refine Cd.go ?_
      refine Cd.region ?_
      refine Rg.vN (X.add rfl rfl) rfl ?_
      refine Rg.mv rfl rfl ?_
      refine Rg.nil ?_
      exact fun a ha => ⟨(y107, add .i64 q37 1), [(4, v109), (28, v1), (29, .int .i64 (l_0.length : Int)), (30, .int .i64 (add .i64 q37 1))], (some_s h47).symm, ha.weak ⟨rfl, rfl, rfl, rfl, trivial⟩, S111, v109, g112, rfl, (le39.trans (le77.trans (le83.trans (le93.trans (le102.trans le113))))), (hs.pick [0] (by decide) rfl), f114⟩
    ·have h47 := ite_f hc50 h47
     refine Cd.exit ?_
     obtain rfl := some_s h47
     have e := hl46 (fun _ e => by cases e)
     exact fun a ha => ⟨[(4, v40)], ha.weak ⟨rfl, trivial⟩, _, _, S38, v40, g42, rfl, e.symm, le39, hs, f41⟩
  ·skip
   refine Cd.weak [(0, v1), (4, .slice none 0 0), (16, v1), (17, .int .i64 (l_0.length : Int)), (18, .int .i64 0)] ⟨rfl, rfl, rfl, rfl, rfl, trivial⟩ ?_
   refine Cd.block (Cd.loop (fun sg => rtcp_Bytes_l0 l_0 sg) (fun (sg : Int) K w => ∃ (S120 : Mp), K = [(0, v1), (4, .slice none 0 0), (16, v1), (17, .int .i64 (l_0.length : Int)), (18, .int .i64 sg)] ∧ Le S0 S120 ∧ St w0 [] S0 S120 [] w) 0 fl5 hfl6 ⟨S0, rfl, Le.refl _, hs⟩ ?_)
   rintro q119 fl122 K127 w126 hb123 ⟨S120, rfl, le121, hs⟩ hl124
   have h125 : rtcp_Bytes_l0 l_0 q119 = some fl122 := hb123
   unfold rtcp_Bytes_l0 at h125
   refine Cd.sr ?_
   refine Rg.vN (X.lss rfl rfl) rfl ?_
   refine Rg.go ?_
   refine Cd.seq ?_
   refine Cd.cond (t := decide (q119 < (l_0.length : Int))) rfl (fun hc128 => ?_) (fun hc128 => ?_)
   ·have h125 := ite_t hc128 h125
    refine Cd.sg ?_
    refine Cd.seq ?_
    refine Cd.block ?_
    refine Cd.sr ?_
    obtain ⟨x129, hx130, h125⟩ := bind_s h125
    obtain ⟨ad131, vals132, _, hR133, hE134, hX135⟩ := mk_index Try.underlying36 zz33 (by decide) (f2.mono le121) hx130
    unfold R_api_Report at hR133
    obtain ⟨v136, v138, v140, v142, rfl, f137, f139, f141, f143⟩ := hR133
    refine Rg.vN (hX135 rfl rfl) rfl ?_
    refine Rg.vN (X.loadE (vals := [.int .i64 x129.Kind, .int .u32 x129.From, .int .u32 x129.About, v136, v138, v140, .int .u64 x129.Rate, .int .i64 x129.Type_, .int .i64 x129.Count, v142]) hs.has Try.underlying33 rfl zz33 rfl hE134) rfl ?_
    refine Rg.step rfl (Oq.alloc (cs := #[.int .i64 0, .int .u32 0, .int .u32 0, .slice none 0 0, .slice none 0 0, .slice none 0 0, .int .u64 0, .int .i64 0, .int .i64 0, .slice none 0 0]) hs ii33 rfl rfl rfl (fun b144 w145 hs => ?_))
    refine Rg.step rfl (Oq.storeN hs 0 rfl (vals := [.int .i64 x129.Kind, .int .u32 x129.From, .int .u32 x129.About, v136, v138, v140, .int .u64 x129.Rate, .int .i64 x129.Type_, .int .i64 x129.Count, v142]) zz33 rfl rfl (one_all ⟨rfl, rfl, rfl, f137.one, f139.one, f141.one, rfl, rfl, rfl, f143.one, trivial⟩) rfl [.box b144 #[.int .i64 x129.Kind, .int .u32 x129.From, .int .u32 x129.About, v136, v138, v140, .int .u64 x129.Rate, .int .i64 x129.Type_, .int .i64 x129.Count, v142] 33] rfl (fun w147 hs => ?_))
    refine Rg.go ?_
    refine Cd.sr ?_
    refine Rg.vN (X.loadN (vals := [.int .i64 x129.Kind, .int .u32 x129.From, .int .u32 x129.About, v136, v138, v140, .int .u64 x129.Rate, .int .i64 x129.Type_, .int .i64 x129.Count, v142]) Try.underlying33 rfl zz33 rfl (hs.range 0 rfl 0 rfl)) rfl ?_
    obtain ⟨x148, hx149, h125⟩ := bind_s h125
    refine Rg.step rfl (Oq.call Try.call23 rfl rfl (c23 S120 (St.start _ _ hs.has) x129 _ f137 _ f139 _ f141 _ f143 _ hx149) (fun v150 w151 h152 => ?_))
    obtain ⟨S153, rfl, hs154⟩ := h152
    have le155 := hs154.le
    have hs := hs.call0 hs154
    refine Rg.st rfl rfl ?_
    refine Rg.go ?_
    refine Cd.sr ?_
    refine Rg.mv rfl rfl ?_
    refine Rg.vN (X.neq rfl rfl) rfl ?_
    refine Rg.go ?_
    refine Cd.weak [(0, v1), (4, .slice none 0 0), (7, .int .i64 x148), (16, v1), (17, .int .i64 (l_0.length : Int)), (18, .int .i64 q119), (25, .bool (x148 != 0))] ⟨rfl, rfl, rfl, rfl, rfl, rfl, rfl, trivial⟩ ?_
    refine Cd.cond (t := x148 != 0) rfl (fun hc156 => ?_) (fun hc156 => ?_)
    ·have h125 := ite_t hc156 h125
     refine Cd.sr ?_
     refine Rg.mv rfl rfl ?_
     refine Rg.st rfl rfl ?_
     refine Rg.st rfl rfl ?_
     refine Rg.go ?_
     refine Cd.ret ?_
     obtain rfl := some_s h125
     have e := hl124 (fun _ e => by cases e)
     subst e
     have h0 := el_ret h0
     obtain rfl := some_s h0
     exact fun a ha => Cd.retA (R := Re (Po19 S0 w0 [] _)) ha Try.results19 ⟨_, _, rfl, rfl, ⟨_, _, rfl, rfl, rfl⟩⟩ ⟨_, rfl, S153, (.slice none 0 0), rfl, (hs.pick [] (by decide) rfl), (Rd.nil _ _ _)⟩
    ·have h125 := ite_f hc156 h125
     refine Cd.skip ?_
     refine Cd.go ?_
     refine Cd.region ?_
     refine Rg.vN (X.add rfl rfl) rfl ?_
     refine Rg.mv rfl rfl ?_
     refine Rg.nil ?_
     exact fun a ha => ⟨add .i64 q119 1, [(0, v1), (4, .slice none 0 0), (16, v1), (17, .int .i64 (l_0.length : Int)), (18, .int .i64 (add .i64 q119 1))], (some_s h125).symm, ha.weak ⟨rfl, rfl, rfl, rfl, rfl, trivial⟩, S153, rfl, (le121.trans le155), (hs.pick [] (by decide) rfl)⟩
   ·have h125 := ite_f hc128 h125
    refine Cd.exit ?_
    obtain rfl := some_s h125
    have e := hl124 (fun _ e => by cases e)
    exact fun a ha => ⟨[(0, v1), (4, .slice none 0 0)], ha.weak ⟨rfl, rfl, trivial⟩, _, S120, rfl, e.symm, le121, hs⟩
noncomputable def limelightref6_words_l0 (l_0 : (List Int)) (q18 : (List Int)) (q19 : Int) : Option (Flow ((List Int) × Int) (List Int)) :=
 if (decide (q19 < (l_0.length : Int))) = true then (
  (ix l_0 q19).bind fun x33 =>
  (limelightref1_Put q18 (cv .u64 x33) 4).bind fun x40 =>
  some (Flow.next (x40, add .i64 q19 1)))
 else (
  some (Flow.brk (q18, q19)))
noncomputable def limelightref6_words (l_0 : (List Int)) : Option (List Int) :=
 (loopF (fun sg => limelightref6_words_l0 l_0 sg.1 sg.2) (([] : List Int), 0)).bind fun fl6 =>
 Flow.el fl6 (fun s52 => (
  none))
 (fun s53 => (
  some s53.1))
 (fun r54 => (
  none))
def Po68 (S0 : Mp) (w0 : World) (D : List Nat) (r : (List Int)) (v : Value) (w1 : World) : Prop :=
  ∃ (S1 : Mp) (v3 : Value) (g4 : Option Nat), v = v3 ∧ St w0 D S0 S1 [.app g4 v3 r.length 5 1] w1 ∧ Rd S1 1 (RI .u8) v3 r
set_option maxHeartbeats 4000000 in
theorem c68 (S0 : Mp) {w0 : World} (hs : St w0 [] S0 S0 [] w0) (l_0 : (List Int)) (v1 : Value) (f2 : Rd S0 1 (RI .u32) v1 l_0) (r : (List Int)) (h0 : limelightref6_words l_0 = some r) :
    Calls Try.prog 68 #[v1] w0 (Re (Po68 S0 w0 [] r)) := by
 unfold limelightref6_words at h0
 refine calls_of_cd Try.func68 rfl Try.ntmps68 rfl ?_
 refine Cd.sr ?_
 refine Rg.st rfl rfl ?_
 refine Rg.go ?_
 refine Cd.sr ?_
 refine Rg.st rfl rfl ?_
 refine Rg.go ?_
 refine Cd.seq ?_
 refine Cd.sr ?_
 refine Rg.mv rfl rfl ?_
 refine Rg.vN (X.lenR Try.underlying29 rfl f2) rfl ?_
 refine Rg.mv rfl rfl ?_
 refine Rg.go ?_
 have hs := hs.nil 5 1
 obtain ⟨fl6, hfl7, h0⟩ := bind_s h0
 refine Cd.post (fun K w => ∃ (j8 : (List Int)) (j9 : Int) (S10 : Mp) (v12 : Value) (g14 : Option Nat), K = [(3, v12)] ∧ fl6 = Flow.brk (j8, j9) ∧ Le S0 S10 ∧ St w0 [] S0 S10 [.app g14 v12 j8.length 5 1] w ∧ Rd S10 1 (RI .u8) v12 j8) ?_ ?_
 ·rintro K17 w16 ⟨j8, j9, S10, v12, g14, rfl, rfl, le11, hs, f13⟩
  have h0 := el_brk h0
  try dsimp only at h0
  refine Cd.go ?_
  refine Cd.sr ?_
  refine Rg.mv rfl rfl ?_
  refine Rg.st rfl rfl ?_
  refine Rg.go ?_
  refine Cd.ret ?_
  obtain rfl := some_s h0
  exact fun a ha => Cd.retA (R := Re (Po68 S0 w0 [] _)) ha Try.results68 ⟨_, _, rfl, rfl, rfl⟩ ⟨_, rfl, S10, v12, g14, rfl, hs, f13⟩
 ·skip
  refine Cd.weak [(3, .slice none 0 0), (6, v1), (7, .int .i64 (l_0.length : Int)), (8, .int .i64 0)] ⟨rfl, rfl, rfl, rfl, trivial⟩ ?_
  refine Cd.block (Cd.loop (fun sg => limelightref6_words_l0 l_0 sg.1 sg.2) (fun (sg : ((List Int) × Int)) K w => ∃ (S20 : Mp) (v22 : Value) (g24 : Option Nat), K = [(3, v22), (6, v1), (7, .int .i64 (l_0.length : Int)), (8, .int .i64 sg.2)] ∧ Le S0 S20 ∧ St w0 [] S0 S20 [.app g24 v22 sg.1.length 5 1] w ∧ Rd S20 1 (RI .u8) v22 sg.1) (([] : List Int), 0) fl6 hfl7 ⟨S0, (.slice none 0 0), none, rfl, Le.refl _, hs, (Rd.nil _ _ _)⟩ ?_)
  rintro ⟨q18, q19⟩ fl26 K31 w30 hb27 ⟨S20, v22, g24, rfl, le21, hs, f23⟩ hl28
  have h29 : limelightref6_words_l0 l_0 q18 q19 = some fl26 := hb27
  unfold limelightref6_words_l0 at h29
  refine Cd.sr ?_
  refine Rg.vN (X.lss rfl rfl) rfl ?_
  refine Rg.go ?_
  refine Cd.seq ?_
  refine Cd.cond (t := decide (q19 < (l_0.length : Int))) rfl (fun hc32 => ?_) (fun hc32 => ?_)
  ·have h29 := ite_t hc32 h29
   refine Cd.sg ?_
   refine Cd.seq ?_
   refine Cd.block ?_
   refine Cd.sr ?_
   obtain ⟨x33, hx34, h29⟩ := bind_s h29
   obtain ⟨ad35, vals36, _, hR37, hE38, hX39⟩ := mk_index Try.underlying29 zz27 (by decide) (f2.mono le21) hx34
   obtain rfl : vals36 = [.int .u32 x33] := hR37
   refine Rg.vN (hX39 rfl rfl) rfl ?_
   refine Rg.vN (X.load1 Try.underlying27 rfl rfl (hE38.at0 rfl hs.has)) rfl ?_
   refine Rg.st rfl rfl ?_
   refine Rg.go ?_
   refine Cd.region ?_
   refine Rg.mv rfl rfl ?_
   refine Rg.mv rfl rfl ?_
   refine Rg.vN (X.conv Try.underlying27 Try.underlying30 rfl) rfl ?_
   obtain ⟨x40, hx41, h29⟩ := bind_s h29
   refine Rg.step rfl (Oq.call Try.call53 rfl rfl (c53 S20 (St.start _ _ hs.has) _ _ f23 _ _ _ hx41) (fun v42 w43 h44 => ?_))
   obtain ⟨S45, v48, g50, rfl, hs46, f49⟩ := h44
   have le47 := hs46.le
   have hs := hs.call0 hs46
   refine Rg.st rfl rfl ?_
   refine Rg.nil ?_
   refine Cd.go ?_
   refine Cd.region ?_
   refine Rg.vN (X.add rfl rfl) rfl ?_
   refine Rg.mv rfl rfl ?_
   refine Rg.nil ?_
   exact fun a ha => ⟨(x40, add .i64 q19 1), [(3, v42), (6, v1), (7, .int .i64 (l_0.length : Int)), (8, .int .i64 (add .i64 q19 1))], (some_s h29).symm, ha.weak ⟨rfl, rfl, rfl, rfl, trivial⟩, S45, v42, g50, rfl, (le21.trans le47), (hs.pick [0] (by decide) rfl), f49⟩
  ·have h29 := ite_f hc32 h29
   refine Cd.exit ?_
   obtain rfl := some_s h29
   have e := hl28 (fun _ e => by cases e)
   exact fun a ha => ⟨[(3, v22)], ha.weak ⟨rfl, trivial⟩, _, _, S20, v22, g24, rfl, e.symm, le21, hs, f23⟩
noncomputable def limelightref6_body_l0 (G_0 : api_Report) (q60 : (List Int)) (q61 : Int) : Option (Flow ((List Int) × Int) (Int × Int × (List Int))) :=
 if (decide (q61 < (G_0.Tuples.length : Int))) = true then (
  (ix G_0.Tuples q61).bind fun x75 =>
  (limelightref1_Pack x75.Rate 17).bind fun x86 =>
  (limelightref6_words ([x75.Owner, bor .u32 (bor .u32 (shl .u32 (cv .u32 x86.1) 26) (shl .u32 x86.2 9)) (cv .u32 x75.Over)] : List Int)).bind fun x101 =>
  (app 1 q60 x101).bind fun y113 =>
  some (Flow.next (y113, add .i64 q61 1)))
 else (
  some (Flow.brk (q60, q61)))
noncomputable def limelightref6_body_l1 (G_0 : api_Report) (q176 : (List Int)) (q177 : Int) : Option (Flow ((List Int) × Int) (Int × Int × (List Int))) :=
 if (decide (q177 < (G_0.Abouts.length : Int))) = true then (
  ((
   ((
    (ix G_0.Abouts q177).bind fun x214 =>
    (ix G_0.Numbers q177).bind fun x221 =>
    (limelightref6_words ([x214, shl .u32 (cv .u32 x221) 24] : List Int)).bind fun x235 =>
    (app 1 q176 x235).bind fun y247 =>
    some y247 : Option (List Int))).bind fun p203 =>
   some p203 : Option (List Int))).bind fun p192 =>
  some (Flow.next (p192, add .i64 q177 1)))
 else (
  some (Flow.brk (q176, q177)))
noncomputable def limelightref6_body (G_0 : api_Report) : Option (Int × Int × (List Int)) :=
 ((
  ((
   if (G_0.Kind == 1) = true then (
    some (G_0.Kind == 1))
   else (
    some (G_0.Kind == 2)) : Option Bool)).bind fun p21 =>
  if p21 = true then (
   (limelightref6_words ([G_0.From, 0] : List Int)).bind fun x35 =>
   (loopF (fun sg => limelightref6_body_l0 G_0 sg.1 sg.2) (x35, 0)).bind fun fl47 =>
   Flow.el fl47 (fun s121 => (
    none))
   (fun s122 => (
    some (Flow.ret (205, add .i64 2 G_0.Kind, s122.1))))
   (fun r123 => (
    none)))
  else (
   if (G_0.Kind == 3) = true then (
    (limelightref6_words ([G_0.From, G_0.About] : List Int)).bind fun x132 =>
    some (Flow.ret (206, 1, x132)))
   else (
    if (G_0.Kind == 4) = true then (
     (limelightref6_words ([G_0.From, 0] : List Int)).bind fun x152 =>
     (loopF (fun sg => limelightref6_body_l1 G_0 sg.1 sg.2) (x152, 0)).bind fun fl164 =>
     Flow.el fl164 (fun s255 => (
      none))
     (fun s256 => (
      some (Flow.ret (206, 4, s256.1))))
     (fun r257 => (
      none)))
    else (
     if (G_0.Kind == 5) = true then (
      (limelightref1_Pack G_0.Rate 18).bind fun x259 =>
      (limelightref6_words ([G_0.From, 0] : List Int)).bind fun x274 =>
      (app 1 x274 [82, 69, 77, 66]).bind fun y286 =>
      (app 4 ([bor .u32 (bor .u32 (shl .u32 (cv .u32 (G_0.Abouts.length : Int)) 24) (shl .u32 (cv .u32 x259.1) 18)) x259.2] : List Int) G_0.Abouts).bind fun y301 =>
      (limelightref6_words y301).bind fun x309 =>
      (app 1 y286 x309).bind fun y321 =>
      some (Flow.ret (206, 15, y321)))
     else (
      some (Flow.next ()))))) : Option (Flow Unit (Int × Int × (List Int))))).bind fun p13 =>
 Flow.el p13 (fun s330 => (
  some (G_0.Type_, G_0.Count, G_0.Body)))
 (fun s331 => (
  none))
 (fun r332 => (
  some r332))
def Po52 (S0 : Mp) (w0 : World) (D : List Nat) (r : (Int × Int × (List Int))) (v : Value) (w1 : World) : Prop :=
  ∃ (S1 : Mp) (v9 : Value), v = .tuple #[.int .i64 r.1, .int .i64 r.2.1, v9] ∧ St w0 D S0 S1 [] w1 ∧ Rd S1 1 (RI .u8) v9 r.2.2
set_option maxHeartbeats 4000000 in
theorem c52 (S0 : Mp) {w0 : World} (hs : St w0 [] S0 S0 [] w0) (G_0 : api_Report) (v1 : Value) (f2 : Rd S0 3 R_api_Tuple v1 G_0.Tuples) (v3 : Value) (f4 : Rd S0 1 (RI .u32) v3 G_0.Abouts) (v5 : Value) (f6 : Rd S0 1 (RI .i64) v5 G_0.Numbers) (v7 : Value) (f8 : Rd S0 1 (RI .u8) v7 G_0.Body) (r : (Int × Int × (List Int))) (h0 : limelightref6_body G_0 = some r) :
    Calls Try.prog 52 #[.agg (#[.int .i64 G_0.Kind, .int .u32 G_0.From, .int .u32 G_0.About, v1, v3, v5, .int .u64 G_0.Rate, .int .i64 G_0.Type_, .int .i64 G_0.Count, v7])] w0 (Re (Po52 S0 w0 [] r)) := by
 unfold limelightref6_body at h0
 refine calls_of_cd Try.func52 rfl Try.ntmps52 rfl ?_
 refine Cd.sr ?_
 refine Rg.step rfl (Oq.box (cs := #[.int .i64 G_0.Kind, .int .u32 G_0.From, .int .u32 G_0.About, v1, v3, v5, .int .u64 G_0.Rate, .int .i64 G_0.Type_, .int .i64 G_0.Count, v7]) hs rfl rfl rfl (fun b10 w11 hs => ?_))
 refine Rg.st rfl rfl ?_
 refine Rg.st rfl rfl ?_
 refine Rg.st rfl rfl ?_
 refine Rg.go ?_
 refine Cd.seq ?_
 refine Cd.sr ?_
 refine Rg.vN (X.fieldB Try.underlying33 rfl zz3 rfl rfl) rfl ?_
 refine Rg.vN (X.load1 Try.underlying3 rfl rfl (hs.cell 0 rfl 0 rfl)) rfl ?_
 refine Rg.go ?_
 obtain ⟨p13, hp14, h0⟩ := bind_s h0
 refine Cd.post (fun K w => ∃ (S15 : Mp), K = [(1, .pointer (some ⟨b10, 0, none⟩))] ∧ p13 = Flow.next () ∧ Le S0 S15 ∧ St w0 [] S0 S15 [.box b10 #[.int .i64 G_0.Kind, .int .u32 G_0.From, .int .u32 G_0.About, v1, v3, v5, .int .u64 G_0.Rate, .int .i64 G_0.Type_, .int .i64 G_0.Count, v7] 33] w) ?_ ?_
 ·rintro K18 w16 ⟨S15, rfl, rfl, le17, hs⟩
  have h0 := el_next h0
  try dsimp only at h0
  refine Cd.go ?_
  refine Cd.seq ?_
  refine Cd.rD mixed (fun l w => Has S15 w ∧ Hp b10 #[.int .i64 G_0.Kind, .int .u32 G_0.From, .int .u32 G_0.About, v1, v3, v5, .int .u64 G_0.Rate, .int .i64 G_0.Type_, .int .i64 G_0.Count, v7] 33 w) hs (fun _ _ _ _ _ h => h) (by kernel_rfl) (fun w19 hs => ⟨⟨hs.has, (hs.heap 0 rfl)⟩, ?_⟩)
  refine Rk.tN 0 rfl rfl (fun _ _ => X.fieldB Try.underlying33 rfl zz3 rfl rfl) ?_
  refine Rk.tN 1 rfl rfl (fun w hc => X.load1 Try.underlying3 rfl rfl (heap_cell hc.2 rfl)) ?_
  refine Rk.tN 2 rfl rfl (fun _ _ => X.fieldB Try.underlying33 rfl zz3 rfl rfl) ?_
  refine Rk.tN 3 rfl rfl (fun w hc => X.load1 Try.underlying3 rfl rfl (heap_cell hc.2 rfl)) ?_
  refine Rk.tN 4 rfl rfl (fun _ _ => X.fieldB Try.underlying33 rfl zz31 rfl rfl) ?_
  refine Rk.tN 5 rfl rfl (fun w hc => X.load1 Try.underlying31 rfl rfl (heap_cell hc.2 rfl)) ?_
  refine Rk.tN 6 rfl rfl (fun _ _ => X.assign rfl) ?_
  refine Rk.tN 7 rfl rfl (fun _ _ => X.assign rfl) ?_
  refine Rk.tN 8 rfl rfl (fun _ _ => X.assign rfl) ?_
  refine Rk.done ?_
  refine Cd.go ?_
  refine Cd.ret ?_
  obtain rfl := some_s h0
  exact fun a ha => Cd.retA (R := Re (Po52 S0 w0 [] _)) ha Try.results52 ⟨_, _, rfl, rfl, ⟨_, _, rfl, rfl, ⟨_, _, rfl, rfl, rfl⟩⟩⟩ ⟨_, rfl, S15, v7, rfl, (hs.pick [] (by decide) rfl), (f8.mono le17)⟩
 ·skip
  refine Cd.block ?_
  refine Cd.seq ?_
  refine Cd.sr ?_
  refine Rg.vN (X.eql rfl rfl) rfl ?_
  refine Rg.st rfl rfl ?_
  refine Rg.go ?_
  obtain ⟨p21, hp22, hp14⟩ := bind_s hp14
  refine Cd.post (fun K w => ∃ (S23 : Mp), K = [(1, .pointer (some ⟨b10, 0, none⟩)), (16, .int .i64 G_0.Kind), (17, .bool p21)] ∧ Le S0 S23 ∧ St w0 [] S0 S23 [.box b10 #[.int .i64 G_0.Kind, .int .u32 G_0.From, .int .u32 G_0.About, v1, v3, v5, .int .u64 G_0.Rate, .int .i64 G_0.Type_, .int .i64 G_0.Count, v7] 33] w) ?_ ?_
  ·rintro K26 w24 ⟨S23, rfl, le25, hs⟩
   refine Cd.go ?_
   refine Cd.cond (t := p21) rfl (fun hc27 => ?_) (fun hc27 => ?_)
   ·have hp14 := ite_t hc27 hp14
    refine Cd.sr ?_
    refine Rg.vN (X.fieldB Try.underlying33 rfl zz27 rfl rfl) rfl ?_
    refine Rg.vN (X.load1 Try.underlying27 rfl rfl (hs.cell 0 rfl 1 rfl)) rfl ?_
    refine Rg.step rfl (Oq.lit (sz := 1) (cs0 := [.int .u32 0, .int .u32 0]) (cells := [.int .u32 G_0.From, .int .u32 0]) hs Try.underlying29 ii27 rfl rfl rfl rfl rfl rfl ⟨_, [.int .u32 G_0.From], _, rfl, rfl, rfl, ⟨_, [.int .u32 0], _, rfl, rfl, rfl, rfl⟩⟩ rfl rfl rfl (fun b28 w29 S30 hs le31 hE32 => ?_))
    have f34 : Rd S30 1 (RI .u32) (.slice (some ⟨b28, 0, none⟩) 2 2) ([G_0.From, 0] : List Int) := Rd.of_cells (xs := ([G_0.From, 0] : List Int)) ⟨[.int .u32 G_0.From], _, rfl, rfl, one_all ⟨rfl, trivial⟩, rfl, ⟨[.int .u32 0], _, rfl, rfl, one_all ⟨rfl, trivial⟩, rfl, rfl⟩⟩ hE32 (Nat.le_of_ble_eq_true rfl) (Nat.le_of_ble_eq_true rfl)
    obtain ⟨x35, hx36, hp14⟩ := bind_s hp14
    refine Rg.step rfl (Oq.call Try.call68 rfl rfl (c68 S30 (St.start _ _ hs.has) _ _ f34 _ hx36) (fun v37 w38 h39 => ?_))
    obtain ⟨S40, v43, g45, rfl, hs41, f44⟩ := h39
    have le42 := hs41.le
    have hs := hs.call0 hs41
    refine Rg.st rfl rfl ?_
    refine Rg.go ?_
    refine Cd.seq ?_
    refine Cd.sr ?_
    refine Rg.vN (X.fieldB Try.underlying33 rfl zz28 rfl rfl) rfl ?_
    refine Rg.vN (X.load1 Try.underlying28 rfl rfl (hs.cell 2 rfl 3 rfl)) rfl ?_
    refine Rg.vN (X.lenR Try.underlying28 rfl (f2.mono (le25.trans (le31.trans le42)))) rfl ?_
    refine Rg.mv rfl rfl ?_
    refine Rg.go ?_
    obtain ⟨fl47, hfl48, hp14⟩ := bind_s hp14
    refine Cd.post (fun K w => ∃ (j49 : (List Int)) (j50 : Int) (S51 : Mp) (v53 : Value) (g55 : Option Nat), K = [(1, .pointer (some ⟨b10, 0, none⟩)), (5, v53)] ∧ fl47 = Flow.brk (j49, j50) ∧ Le S40 S51 ∧ St w0 [] S0 S51 [.box b10 #[.int .i64 G_0.Kind, .int .u32 G_0.From, .int .u32 G_0.About, v1, v3, v5, .int .u64 G_0.Rate, .int .i64 G_0.Type_, .int .i64 G_0.Count, v7] 33, .app g55 v53 j49.length 5 1] w ∧ Rd S51 1 (RI .u8) v53 j49) ?_ ?_
    ·rintro K58 w57 ⟨j49, j50, S51, v53, g55, rfl, rfl, le52, hs, f54⟩
     have hp14 := el_brk hp14
     try dsimp only at hp14
     refine Cd.go ?_
     refine Cd.seq ?_
     refine Cd.rD mixed (fun l w => Has S51 w ∧ Hp b10 #[.int .i64 G_0.Kind, .int .u32 G_0.From, .int .u32 G_0.About, v1, v3, v5, .int .u64 G_0.Rate, .int .i64 G_0.Type_, .int .i64 G_0.Count, v7] 33 w) hs (fun _ _ _ _ _ h => h) (by kernel_rfl) (fun w59 hs => ⟨⟨hs.has, (hs.heap 0 rfl)⟩, ?_⟩)
     refine Rk.tN 0 rfl rfl (fun _ _ => X.fieldB Try.underlying33 rfl zz3 rfl rfl) ?_
     refine Rk.weak [(5, v53), (54, .pointer (some ⟨b10, 0, none⟩))] ⟨rfl, rfl, trivial⟩ ?_
     refine Rk.tN 1 rfl rfl (fun w hc => X.load1 Try.underlying3 rfl rfl (heap_cell hc.2 rfl)) ?_
     refine Rk.tN 2 rfl rfl (fun _ _ => X.add rfl rfl) ?_
     refine Rk.tN 3 rfl rfl (fun _ _ => X.move rfl) ?_
     refine Rk.tN 4 rfl rfl (fun _ _ => X.assign rfl) ?_
     refine Rk.tN 5 rfl rfl (fun _ _ => X.assign rfl) ?_
     refine Rk.tN 6 rfl rfl (fun _ _ => X.assign rfl) ?_
     refine Rk.done ?_
     refine Cd.go ?_
     refine Cd.ret ?_
     obtain rfl := some_s hp14
     have h0 := el_ret h0
     obtain rfl := some_s h0
     exact fun a ha => Cd.retA (R := Re (Po52 S0 w0 [] _)) ha Try.results52 ⟨_, _, rfl, rfl, ⟨_, _, rfl, rfl, ⟨_, _, rfl, rfl, rfl⟩⟩⟩ ⟨_, rfl, S51, v53, rfl, (hs.pick [] (by decide) rfl), f54⟩
    ·skip
     refine Cd.weak [(1, .pointer (some ⟨b10, 0, none⟩)), (5, v37), (25, v1), (26, .int .i64 (G_0.Tuples.length : Int)), (27, .int .i64 0)] ⟨rfl, rfl, rfl, rfl, rfl, trivial⟩ ?_
     refine Cd.block (Cd.loop (fun sg => limelightref6_body_l0 G_0 sg.1 sg.2) (fun (sg : ((List Int) × Int)) K w => ∃ (S62 : Mp) (v64 : Value) (g66 : Option Nat), K = [(1, .pointer (some ⟨b10, 0, none⟩)), (5, v64), (25, v1), (26, .int .i64 (G_0.Tuples.length : Int)), (27, .int .i64 sg.2)] ∧ Le S40 S62 ∧ St w0 [] S0 S62 [.box b10 #[.int .i64 G_0.Kind, .int .u32 G_0.From, .int .u32 G_0.About, v1, v3, v5, .int .u64 G_0.Rate, .int .i64 G_0.Type_, .int .i64 G_0.Count, v7] 33, .app g66 v64 sg.1.length 5 1] w ∧ Rd S62 1 (RI .u8) v64 sg.1) (x35, 0) fl47 hfl48 ⟨S40, v37, g45, rfl, Le.refl _, (hs.pick [2, 0] (by decide) rfl), f44⟩ ?_)
     rintro ⟨q60, q61⟩ fl68 K73 w72 hb69 ⟨S62, v64, g66, rfl, le63, hs, f65⟩ hl70
     have h71 : limelightref6_body_l0 G_0 q60 q61 = some fl68 := hb69
     unfold limelightref6_body_l0 at h71
     refine Cd.sr ?_
     refine Rg.vN (X.lss rfl rfl) rfl ?_
     refine Rg.go ?_
     refine Cd.weak [(1, .pointer (some ⟨b10, 0, none⟩)), (5, v64), (25, v1), (26, .int .i64 (G_0.Tuples.length : Int)), (27, .int .i64 q61), (28, .bool (decide (q61 < (G_0.Tuples.length : Int))))] ⟨rfl, rfl, rfl, rfl, rfl, rfl, trivial⟩ ?_
     refine Cd.seq ?_
     refine Cd.cond (t := decide (q61 < (G_0.Tuples.length : Int))) rfl (fun hc74 => ?_) (fun hc74 => ?_)
     ·have h71 := ite_t hc74 h71
      refine Cd.sg ?_
      refine Cd.seq ?_
      refine Cd.block ?_
      refine Cd.sr ?_
      obtain ⟨x75, hx76, h71⟩ := bind_s h71
      obtain ⟨ad77, vals78, _, hR79, hE80, hX81⟩ := mk_index Try.underlying28 zz57 (by decide) (f2.mono (le25.trans (le31.trans (le42.trans le63)))) hx76
      unfold R_api_Tuple at hR79
      subst hR79
      refine Rg.vN (hX81 rfl rfl) rfl ?_
      refine Rg.vN (X.loadE (vals := [.int .u32 x75.Owner, .int .u64 x75.Rate, .int .i64 x75.Over]) hs.has Try.underlying57 rfl zz57 rfl hE80) rfl ?_
      refine Rg.step rfl (Oq.alloc (cs := #[.int .u32 0, .int .u64 0, .int .i64 0]) hs ii57 rfl rfl rfl (fun b82 w83 hs => ?_))
      refine Rg.step rfl (Oq.storeN hs 0 rfl (vals := [.int .u32 x75.Owner, .int .u64 x75.Rate, .int .i64 x75.Over]) zz57 rfl rfl (one_all ⟨rfl, rfl, rfl, trivial⟩) rfl [.box b82 #[.int .u32 x75.Owner, .int .u64 x75.Rate, .int .i64 x75.Over] 57, .box b10 #[.int .i64 G_0.Kind, .int .u32 G_0.From, .int .u32 G_0.About, v1, v3, v5, .int .u64 G_0.Rate, .int .i64 G_0.Type_, .int .i64 G_0.Count, v7] 33, .app g66 v64 q60.length 5 1] rfl (fun w85 hs => ?_))
      refine Rg.go ?_
      refine Cd.sr ?_
      refine Rg.vN (X.fieldB Try.underlying57 rfl zz30 rfl rfl) rfl ?_
      refine Rg.vN (X.load1 Try.underlying30 rfl rfl (hs.cell 0 rfl 1 rfl)) rfl ?_
      obtain ⟨x86, hx87, h71⟩ := bind_s h71
      refine Rg.step rfl (Oq.call Try.call48 rfl rfl (c48 S62 (St.start _ _ hs.has) _ _ _ hx87) (fun v88 w89 h90 => ?_))
      obtain ⟨S91, rfl, hs92⟩ := h90
      have le93 := hs92.le
      have hs := hs.call0 hs92
      refine Rg.mv rfl rfl ?_
      refine Rg.vN (X.extract rfl rfl) rfl ?_
      refine Rg.vN (X.extract rfl rfl) rfl ?_
      refine Rg.st rfl rfl ?_
      refine Rg.st rfl rfl ?_
      refine Rg.go ?_
      refine Cd.weak [(1, .pointer (some ⟨b10, 0, none⟩)), (5, v64), (7, .pointer (some ⟨b82, 0, none⟩)), (8, .int .i64 x86.1), (9, .int .u32 x86.2), (25, v1), (26, .int .i64 (G_0.Tuples.length : Int)), (27, .int .i64 q61)] ⟨rfl, rfl, rfl, rfl, rfl, rfl, rfl, rfl, trivial⟩ ?_
      refine Cd.region ?_
      refine Rg.mv rfl rfl ?_
      refine Rg.vN (X.fieldB Try.underlying57 rfl zz27 rfl rfl) rfl ?_
      refine Rg.vN (X.load1 Try.underlying27 rfl rfl (hs.cell 0 rfl 0 rfl)) rfl ?_
      refine Rg.mv rfl rfl ?_
      refine Rg.vN (X.conv Try.underlying3 Try.underlying27 rfl) rfl ?_
      refine Rg.vN (X.shl rfl rfl (by decide)) rfl ?_
      refine Rg.mv rfl rfl ?_
      refine Rg.vN (X.shl rfl rfl (by decide)) rfl ?_
      refine Rg.weak [(1, .pointer (some ⟨b10, 0, none⟩)), (7, .pointer (some ⟨b82, 0, none⟩)), (25, v1), (26, .int .i64 (G_0.Tuples.length : Int)), (27, .int .i64 q61), (37, v64), (39, .int .u32 x75.Owner), (42, .int .u32 (shl .u32 (cv .u32 x86.1) 26)), (44, .int .u32 (shl .u32 x86.2 9))] ⟨rfl, rfl, rfl, rfl, rfl, rfl, rfl, rfl, rfl, trivial⟩ ?_
      refine Rg.vN (X.or rfl rfl) rfl ?_
      refine Rg.vN (X.fieldB Try.underlying57 rfl zz3 rfl rfl) rfl ?_
      refine Rg.vN (X.load1 Try.underlying3 rfl rfl (hs.cell 0 rfl 2 rfl)) rfl ?_
      refine Rg.vN (X.conv Try.underlying3 Try.underlying27 rfl) rfl ?_
      refine Rg.vN (X.or rfl rfl) rfl ?_
      refine Rg.step rfl (Oq.lit (sz := 1) (cs0 := [.int .u32 0, .int .u32 0]) (cells := [.int .u32 x75.Owner, .int .u32 (bor .u32 (bor .u32 (shl .u32 (cv .u32 x86.1) 26) (shl .u32 x86.2 9)) (cv .u32 x75.Over))]) hs Try.underlying29 ii27 rfl rfl rfl rfl rfl rfl ⟨_, [.int .u32 x75.Owner], _, rfl, rfl, rfl, ⟨_, [.int .u32 (bor .u32 (bor .u32 (shl .u32 (cv .u32 x86.1) 26) (shl .u32 x86.2 9)) (cv .u32 x75.Over))], _, rfl, rfl, rfl, rfl⟩⟩ rfl rfl rfl (fun b94 w95 S96 hs le97 hE98 => ?_))
      have f100 : Rd S96 1 (RI .u32) (.slice (some ⟨b94, 0, none⟩) 2 2) ([x75.Owner, bor .u32 (bor .u32 (shl .u32 (cv .u32 x86.1) 26) (shl .u32 x86.2 9)) (cv .u32 x75.Over)] : List Int) := Rd.of_cells (xs := ([x75.Owner, bor .u32 (bor .u32 (shl .u32 (cv .u32 x86.1) 26) (shl .u32 x86.2 9)) (cv .u32 x75.Over)] : List Int)) ⟨[.int .u32 x75.Owner], _, rfl, rfl, one_all ⟨rfl, trivial⟩, rfl, ⟨[.int .u32 (bor .u32 (bor .u32 (shl .u32 (cv .u32 x86.1) 26) (shl .u32 x86.2 9)) (cv .u32 x75.Over))], _, rfl, rfl, one_all ⟨rfl, trivial⟩, rfl, rfl⟩⟩ hE98 (Nat.le_of_ble_eq_true rfl) (Nat.le_of_ble_eq_true rfl)
      obtain ⟨x101, hx102, h71⟩ := bind_s h71
      refine Rg.step rfl (Oq.call Try.call68 rfl rfl (c68 S96 (St.start _ _ hs.has) _ _ f100 _ hx102) (fun v103 w104 h105 => ?_))
      obtain ⟨S106, v109, g111, rfl, hs107, f110⟩ := h105
      have le108 := hs107.le
      have hs := hs.call0 hs107
      obtain ⟨y113, hx114, h71⟩ := bind_s h71
      refine Rg.step rfl (Oq.appendS hs 4 rfl Try.underlying31 ii5 rfl rfl rfl rfl rfl rfl (f65.mono (le93.trans (le97.trans le108))) f110 hx114 rfl rfl rfl (fun v115 w116 S117 g118 hs le119 f120 => ?_))
      refine Rg.st rfl rfl ?_
      refine Rg.nil ?_
      refine Cd.go ?_
      refine Cd.weak [(1, .pointer (some ⟨b10, 0, none⟩)), (5, v115), (25, v1), (26, .int .i64 (G_0.Tuples.length : Int)), (27, .int .i64 q61)] ⟨rfl, rfl, rfl, rfl, rfl, trivial⟩ ?_
      refine Cd.region ?_
      refine Rg.vN (X.add rfl rfl) rfl ?_
      refine Rg.mv rfl rfl ?_
      refine Rg.nil ?_
      exact fun a ha => ⟨(y113, add .i64 q61 1), [(1, .pointer (some ⟨b10, 0, none⟩)), (5, v115), (25, v1), (26, .int .i64 (G_0.Tuples.length : Int)), (27, .int .i64 (add .i64 q61 1))], (some_s h71).symm, ha.weak ⟨rfl, rfl, rfl, rfl, rfl, trivial⟩, S117, v115, g118, rfl, (le63.trans (le93.trans (le97.trans (le108.trans le119)))), (hs.pick [3, 4] (by decide) rfl), f120⟩
     ·have h71 := ite_f hc74 h71
      refine Cd.exit ?_
      obtain rfl := some_s h71
      have e := hl70 (fun _ e => by cases e)
      exact fun a ha => ⟨[(1, .pointer (some ⟨b10, 0, none⟩)), (5, v64)], ha.weak ⟨rfl, rfl, trivial⟩, _, _, S62, v64, g66, rfl, e.symm, le63, hs, f65⟩
   ·have hp14 := ite_f hc27 hp14
    refine Cd.sr ?_
    refine Rg.vN (X.eql rfl rfl) rfl ?_
    refine Rg.st rfl rfl ?_
    refine Rg.go ?_
    refine Cd.cond (t := G_0.Kind == 3) rfl (fun hc124 => ?_) (fun hc124 => ?_)
    ·have hp14 := ite_t hc124 hp14
     refine Cd.sr ?_
     refine Rg.vN (X.fieldB Try.underlying33 rfl zz27 rfl rfl) rfl ?_
     refine Rg.vN (X.load1 Try.underlying27 rfl rfl (hs.cell 0 rfl 1 rfl)) rfl ?_
     refine Rg.vN (X.fieldB Try.underlying33 rfl zz27 rfl rfl) rfl ?_
     refine Rg.vN (X.load1 Try.underlying27 rfl rfl (hs.cell 0 rfl 2 rfl)) rfl ?_
     refine Rg.step rfl (Oq.lit (sz := 1) (cs0 := [.int .u32 0, .int .u32 0]) (cells := [.int .u32 G_0.From, .int .u32 G_0.About]) hs Try.underlying29 ii27 rfl rfl rfl rfl rfl rfl ⟨_, [.int .u32 G_0.From], _, rfl, rfl, rfl, ⟨_, [.int .u32 G_0.About], _, rfl, rfl, rfl, rfl⟩⟩ rfl rfl rfl (fun b125 w126 S127 hs le128 hE129 => ?_))
     have f131 : Rd S127 1 (RI .u32) (.slice (some ⟨b125, 0, none⟩) 2 2) ([G_0.From, G_0.About] : List Int) := Rd.of_cells (xs := ([G_0.From, G_0.About] : List Int)) ⟨[.int .u32 G_0.From], _, rfl, rfl, one_all ⟨rfl, trivial⟩, rfl, ⟨[.int .u32 G_0.About], _, rfl, rfl, one_all ⟨rfl, trivial⟩, rfl, rfl⟩⟩ hE129 (Nat.le_of_ble_eq_true rfl) (Nat.le_of_ble_eq_true rfl)
     obtain ⟨x132, hx133, hp14⟩ := bind_s hp14
     refine Rg.step rfl (Oq.call Try.call68 rfl rfl (c68 S127 (St.start _ _ hs.has) _ _ f131 _ hx133) (fun v134 w135 h136 => ?_))
     obtain ⟨S137, v140, g142, rfl, hs138, f141⟩ := h136
     have le139 := hs138.le
     have hs := hs.call0 hs138
     refine Rg.st rfl rfl ?_
     refine Rg.st rfl rfl ?_
     refine Rg.st rfl rfl ?_
     refine Rg.go ?_
     refine Cd.weak [(2, .int .i64 206), (3, .int .i64 1), (4, v134)] ⟨rfl, rfl, rfl, trivial⟩ ?_
     refine Cd.ret ?_
     obtain rfl := some_s hp14
     have h0 := el_ret h0
     obtain rfl := some_s h0
     exact fun a ha => Cd.retA (R := Re (Po52 S0 w0 [] _)) ha Try.results52 ⟨_, _, rfl, rfl, ⟨_, _, rfl, rfl, ⟨_, _, rfl, rfl, rfl⟩⟩⟩ ⟨_, rfl, S137, v134, rfl, (hs.pick [] (by decide) rfl), f141⟩
    ·have hp14 := ite_f hc124 hp14
     refine Cd.sr ?_
     refine Rg.vN (X.eql rfl rfl) rfl ?_
     refine Rg.st rfl rfl ?_
     refine Rg.go ?_
     refine Cd.cond (t := G_0.Kind == 4) rfl (fun hc144 => ?_) (fun hc144 => ?_)
     ·have hp14 := ite_t hc144 hp14
      refine Cd.sr ?_
      refine Rg.vN (X.fieldB Try.underlying33 rfl zz27 rfl rfl) rfl ?_
      refine Rg.vN (X.load1 Try.underlying27 rfl rfl (hs.cell 0 rfl 1 rfl)) rfl ?_
      refine Rg.step rfl (Oq.lit (sz := 1) (cs0 := [.int .u32 0, .int .u32 0]) (cells := [.int .u32 G_0.From, .int .u32 0]) hs Try.underlying29 ii27 rfl rfl rfl rfl rfl rfl ⟨_, [.int .u32 G_0.From], _, rfl, rfl, rfl, ⟨_, [.int .u32 0], _, rfl, rfl, rfl, rfl⟩⟩ rfl rfl rfl (fun b145 w146 S147 hs le148 hE149 => ?_))
      have f151 : Rd S147 1 (RI .u32) (.slice (some ⟨b145, 0, none⟩) 2 2) ([G_0.From, 0] : List Int) := Rd.of_cells (xs := ([G_0.From, 0] : List Int)) ⟨[.int .u32 G_0.From], _, rfl, rfl, one_all ⟨rfl, trivial⟩, rfl, ⟨[.int .u32 0], _, rfl, rfl, one_all ⟨rfl, trivial⟩, rfl, rfl⟩⟩ hE149 (Nat.le_of_ble_eq_true rfl) (Nat.le_of_ble_eq_true rfl)
      obtain ⟨x152, hx153, hp14⟩ := bind_s hp14
      refine Rg.step rfl (Oq.call Try.call68 rfl rfl (c68 S147 (St.start _ _ hs.has) _ _ f151 _ hx153) (fun v154 w155 h156 => ?_))
      obtain ⟨S157, v160, g162, rfl, hs158, f161⟩ := h156
      have le159 := hs158.le
      have hs := hs.call0 hs158
      refine Rg.st rfl rfl ?_
      refine Rg.go ?_
      refine Cd.seq ?_
      refine Cd.sr ?_
      refine Rg.vN (X.fieldB Try.underlying33 rfl zz29 rfl rfl) rfl ?_
      refine Rg.weak [(1, .pointer (some ⟨b10, 0, none⟩)), (10, v154), (72, .pointer (some ⟨b10, 4, none⟩))] ⟨rfl, rfl, rfl, trivial⟩ ?_
      refine Rg.vN (X.load1 Try.underlying29 rfl rfl (hs.cell 2 rfl 4 rfl)) rfl ?_
      refine Rg.vN (X.lenR Try.underlying29 rfl (f4.mono (le25.trans (le148.trans le159)))) rfl ?_
      refine Rg.mv rfl rfl ?_
      refine Rg.go ?_
      obtain ⟨fl164, hfl165, hp14⟩ := bind_s hp14
      refine Cd.post (fun K w => ∃ (j166 : (List Int)) (j167 : Int) (S168 : Mp) (v170 : Value) (g172 : Option Nat), K = [(10, v170)] ∧ fl164 = Flow.brk (j166, j167) ∧ Le S157 S168 ∧ St w0 [] S0 S168 [.app g172 v170 j166.length 5 1] w ∧ Rd S168 1 (RI .u8) v170 j166) ?_ ?_
      ·rintro K175 w174 ⟨j166, j167, S168, v170, g172, rfl, rfl, le169, hs, f171⟩
       have hp14 := el_brk hp14
       try dsimp only at hp14
       refine Cd.go ?_
       refine Cd.sr ?_
       refine Rg.mv rfl rfl ?_
       refine Rg.st rfl rfl ?_
       refine Rg.st rfl rfl ?_
       refine Rg.st rfl rfl ?_
       refine Rg.go ?_
       refine Cd.ret ?_
       obtain rfl := some_s hp14
       have h0 := el_ret h0
       obtain rfl := some_s h0
       exact fun a ha => Cd.retA (R := Re (Po52 S0 w0 [] _)) ha Try.results52 ⟨_, _, rfl, rfl, ⟨_, _, rfl, rfl, ⟨_, _, rfl, rfl, rfl⟩⟩⟩ ⟨_, rfl, S168, v170, rfl, (hs.pick [] (by decide) rfl), f171⟩
      ·skip
       refine Cd.weak [(1, .pointer (some ⟨b10, 0, none⟩)), (10, v154), (74, .int .i64 (G_0.Abouts.length : Int)), (75, .int .i64 0)] ⟨rfl, rfl, rfl, rfl, trivial⟩ ?_
       refine Cd.block (Cd.loop (fun sg => limelightref6_body_l1 G_0 sg.1 sg.2) (fun (sg : ((List Int) × Int)) K w => ∃ (S178 : Mp) (v180 : Value) (g182 : Option Nat), K = [(1, .pointer (some ⟨b10, 0, none⟩)), (10, v180), (74, .int .i64 (G_0.Abouts.length : Int)), (75, .int .i64 sg.2)] ∧ Le S157 S178 ∧ St w0 [] S0 S178 [.box b10 #[.int .i64 G_0.Kind, .int .u32 G_0.From, .int .u32 G_0.About, v1, v3, v5, .int .u64 G_0.Rate, .int .i64 G_0.Type_, .int .i64 G_0.Count, v7] 33, .app g182 v180 sg.1.length 5 1] w ∧ Rd S178 1 (RI .u8) v180 sg.1) (x152, 0) fl164 hfl165 ⟨S157, v154, g162, rfl, Le.refl _, (hs.pick [2, 0] (by decide) rfl), f161⟩ ?_)
       rintro ⟨q176, q177⟩ fl184 K189 w188 hb185 ⟨S178, v180, g182, rfl, le179, hs, f181⟩ hl186
       have h187 : limelightref6_body_l1 G_0 q176 q177 = some fl184 := hb185
       unfold limelightref6_body_l1 at h187
       refine Cd.sr ?_
       refine Rg.vN (X.lss rfl rfl) rfl ?_
       refine Rg.go ?_
       refine Cd.seq ?_
       refine Cd.cond (t := decide (q177 < (G_0.Abouts.length : Int))) rfl (fun hc190 => ?_) (fun hc190 => ?_)
       ·have h187 := ite_t hc190 h187
        refine Cd.sg ?_
        refine Cd.seq ?_
        obtain ⟨p192, hp193, h187⟩ := bind_s h187
        refine Cd.post (fun K w => ∃ (S194 : Mp) (v197 : Value) (g199 : Option Nat), K = [(1, .pointer (some ⟨b10, 0, none⟩)), (10, v197), (74, .int .i64 (G_0.Abouts.length : Int)), (75, .int .i64 q177)] ∧ Le S178 S194 ∧ St w0 [] S0 S194 [.box b10 #[.int .i64 G_0.Kind, .int .u32 G_0.From, .int .u32 G_0.About, v1, v3, v5, .int .u64 G_0.Rate, .int .i64 G_0.Type_, .int .i64 G_0.Count, v7] 33, .app g199 v197 p192.length 5 1] w ∧ Rd S194 1 (RI .u8) v197 p192) ?_ ?_
        ·rintro K201 w195 ⟨S194, v197, g199, rfl, le196, hs, f198⟩
         refine Cd.go ?_
         refine Cd.region ?_
         refine Rg.vN (X.add rfl rfl) rfl ?_
         refine Rg.mv rfl rfl ?_
         refine Rg.nil ?_
         exact fun a ha => ⟨(p192, add .i64 q177 1), [(1, .pointer (some ⟨b10, 0, none⟩)), (10, v197), (74, .int .i64 (G_0.Abouts.length : Int)), (75, .int .i64 (add .i64 q177 1))], (some_s h187).symm, ha.weak ⟨rfl, rfl, rfl, rfl, trivial⟩, S194, v197, g199, rfl, (le179.trans le196), hs, f198⟩
        ·skip
         refine Cd.block ?_
         refine Cd.sr ?_
         refine Rg.mv rfl rfl ?_
         refine Rg.st rfl rfl ?_
         refine Rg.go ?_
         obtain ⟨p203, hp204, hp193⟩ := bind_s hp193
         refine Cd.post (fun K w => ∃ (S205 : Mp) (v208 : Value) (g210 : Option Nat), K = [(1, .pointer (some ⟨b10, 0, none⟩)), (10, v208), (74, .int .i64 (G_0.Abouts.length : Int)), (75, .int .i64 q177)] ∧ Le S178 S205 ∧ St w0 [] S0 S205 [.box b10 #[.int .i64 G_0.Kind, .int .u32 G_0.From, .int .u32 G_0.About, v1, v3, v5, .int .u64 G_0.Rate, .int .i64 G_0.Type_, .int .i64 G_0.Count, v7] 33, .app g210 v208 p203.length 5 1] w ∧ Rd S205 1 (RI .u8) v208 p203) ?_ ?_
         ·rintro K212 w206 ⟨S205, v208, g210, rfl, le207, hs, f209⟩
          obtain rfl := some_s hp193
          exact fun a ha => ⟨[(1, .pointer (some ⟨b10, 0, none⟩)), (10, v208), (74, .int .i64 (G_0.Abouts.length : Int)), (75, .int .i64 q177)], ha.weak ⟨rfl, rfl, rfl, rfl, trivial⟩, S205, v208, g210, rfl, le207, hs, f209⟩
         ·skip
          refine Cd.rD mixed (fun l w => Has S178 w ∧ Hp b10 #[.int .i64 G_0.Kind, .int .u32 G_0.From, .int .u32 G_0.About, v1, v3, v5, .int .u64 G_0.Rate, .int .i64 G_0.Type_, .int .i64 G_0.Count, v7] 33 w) hs (fun _ _ _ _ _ h => h) (by kernel_rfl) (fun w213 hs => ⟨⟨hs.has, (hs.heap 0 rfl)⟩, ?_⟩)
          refine Rk.tN 0 rfl rfl (fun _ _ => X.move rfl) ?_
          refine Rk.tN 1 rfl rfl (fun _ _ => X.fieldB Try.underlying33 rfl zz29 rfl rfl) ?_
          refine Rk.tN 2 rfl rfl (fun w hc => X.load1 Try.underlying29 rfl rfl (heap_cell hc.2 rfl)) ?_
          refine Rk.tN 3 rfl rfl (fun _ _ => X.move rfl) ?_
          obtain ⟨x214, hx215, hp204⟩ := bind_s hp204
          obtain ⟨ad216, vals217, _, hR218, hE219, hX220⟩ := mk_index Try.underlying29 zz27 (by decide) (f4.mono (le25.trans (le148.trans (le159.trans le179)))) hx215
          obtain rfl : vals217 = [.int .u32 x214] := hR218
          refine Rk.tN 4 rfl rfl (fun _ _ => hX220 rfl rfl) ?_
          refine Rk.tN 5 rfl rfl (fun w hc => X.load1 Try.underlying27 rfl rfl (hE219.at0 rfl hc.1)) ?_
          refine Rk.tN 6 rfl rfl (fun _ _ => X.fieldB Try.underlying33 rfl zz23 rfl rfl) ?_
          refine Rk.tN 7 rfl rfl (fun w hc => X.load1 Try.underlying23 rfl rfl (heap_cell hc.2 rfl)) ?_
          refine Rk.tN 8 rfl rfl (fun _ _ => X.move rfl) ?_
          obtain ⟨x221, hx222, hp204⟩ := bind_s hp204
          obtain ⟨ad223, vals224, _, hR225, hE226, hX227⟩ := mk_index Try.underlying23 zz3 (by decide) (f6.mono (le25.trans (le148.trans (le159.trans le179)))) hx222
          obtain rfl : vals224 = [.int .i64 x221] := hR225
          refine Rk.tN 9 rfl rfl (fun _ _ => hX227 rfl rfl) ?_
          refine Rk.tN 10 rfl rfl (fun w hc => X.load1 Try.underlying3 rfl rfl (hE226.at0 rfl hc.1)) ?_
          refine Rk.weak [(1, .pointer (some ⟨b10, 0, none⟩)), (10, v180), (74, .int .i64 (G_0.Abouts.length : Int)), (75, .int .i64 q177), (78, v180), (83, .int .u32 x214), (88, .int .i64 x221)] ⟨rfl, rfl, rfl, rfl, rfl, rfl, rfl, trivial⟩ ?_
          refine Rk.tN 11 rfl rfl (fun _ _ => X.conv Try.underlying3 Try.underlying27 rfl) ?_
          refine Rk.tN 12 rfl rfl (fun _ _ => X.shl rfl rfl (by decide)) ?_
          refine Rk.eN 13 rfl rfl (Oq.lit (sz := 1) (cs0 := [.int .u32 0, .int .u32 0]) (cells := [.int .u32 x214, .int .u32 (shl .u32 (cv .u32 x221) 24)]) hs Try.underlying29 ii27 rfl rfl rfl rfl rfl rfl ⟨_, [.int .u32 x214], _, rfl, rfl, rfl, ⟨_, [.int .u32 (shl .u32 (cv .u32 x221) 24)], _, rfl, rfl, rfl, rfl⟩⟩ rfl rfl rfl (fun b228 w229 S230 hs le231 hE232 => ?_))
          have f234 : Rd S230 1 (RI .u32) (.slice (some ⟨b228, 0, none⟩) 2 2) ([x214, shl .u32 (cv .u32 x221) 24] : List Int) := Rd.of_cells (xs := ([x214, shl .u32 (cv .u32 x221) 24] : List Int)) ⟨[.int .u32 x214], _, rfl, rfl, one_all ⟨rfl, trivial⟩, rfl, ⟨[.int .u32 (shl .u32 (cv .u32 x221) 24)], _, rfl, rfl, one_all ⟨rfl, trivial⟩, rfl, rfl⟩⟩ hE232 (Nat.le_of_ble_eq_true rfl) (Nat.le_of_ble_eq_true rfl)
          refine ⟨⟨(hs.has.down le231), (hs.heap 1 rfl)⟩, Rk.mk (C' := fun l w => Has S230 w ∧ Hp b10 #[.int .i64 G_0.Kind, .int .u32 G_0.From, .int .u32 G_0.About, v1, v3, v5, .int .u64 G_0.Rate, .int .i64 G_0.Type_, .int .i64 G_0.Count, v7] 33 w) ⟨hs.has, (hs.heap 1 rfl)⟩ (fun l w hc => ⟨hc.1.down le231, hc.2⟩) ?_⟩
          obtain ⟨x235, hx236, hp204⟩ := bind_s hp204
          refine Rk.eN 14 rfl rfl (Oq.call Try.call68 rfl rfl (c68 S230 (St.start _ _ hs.has) _ _ f234 _ hx236) (fun v237 w238 h239 => ?_))
          obtain ⟨S240, v243, g245, rfl, hs241, f244⟩ := h239
          have le242 := hs241.le
          have hs := hs.call0 hs241
          refine ⟨⟨(hs.has.down le242), (hs.heap 2 rfl)⟩, Rk.mk (C' := fun l w => Has S240 w ∧ Hp b10 #[.int .i64 G_0.Kind, .int .u32 G_0.From, .int .u32 G_0.About, v1, v3, v5, .int .u64 G_0.Rate, .int .i64 G_0.Type_, .int .i64 G_0.Count, v7] 33 w) ⟨hs.has, (hs.heap 2 rfl)⟩ (fun l w hc => ⟨hc.1.down le242, hc.2⟩) ?_⟩
          obtain ⟨y247, hx248, hp204⟩ := bind_s hp204
          refine Rk.eN 15 rfl rfl (Oq.appendS hs 3 rfl Try.underlying31 ii5 rfl rfl rfl rfl rfl rfl (f181.mono (le231.trans le242)) f244 hx248 rfl rfl rfl (fun v249 w250 S251 g252 hs le253 f254 => ?_))
          refine ⟨⟨(hs.has.down le253), (hs.heap 2 rfl)⟩, Rk.mk (C' := fun l w => Has S251 w ∧ Hp b10 #[.int .i64 G_0.Kind, .int .u32 G_0.From, .int .u32 G_0.About, v1, v3, v5, .int .u64 G_0.Rate, .int .i64 G_0.Type_, .int .i64 G_0.Count, v7] 33 w) ⟨hs.has, (hs.heap 2 rfl)⟩ (fun l w hc => ⟨hc.1.down le253, hc.2⟩) ?_⟩
          refine Rk.tN 16 rfl rfl (fun _ _ => X.assign rfl) ?_
          refine Rk.done ?_
          obtain rfl := some_s hp204
          exact fun a ha => ⟨[(1, .pointer (some ⟨b10, 0, none⟩)), (10, v249), (74, .int .i64 (G_0.Abouts.length : Int)), (75, .int .i64 q177)], ha.weak ⟨rfl, rfl, rfl, rfl, trivial⟩, S251, v249, g252, rfl, (le231.trans (le242.trans le253)), (hs.pick [2, 3] (by decide) rfl), f254⟩
       ·have h187 := ite_f hc190 h187
        refine Cd.exit ?_
        obtain rfl := some_s h187
        have e := hl186 (fun _ e => by cases e)
        exact fun a ha => ⟨[(10, v180)], ha.weak ⟨rfl, trivial⟩, _, _, S178, v180, g182, rfl, e.symm, le179, (hs.pick [1] (by decide) rfl), f181⟩
     ·have hp14 := ite_f hc144 hp14
      refine Cd.sr ?_
      refine Rg.vN (X.eql rfl rfl) rfl ?_
      refine Rg.st rfl rfl ?_
      refine Rg.go ?_
      refine Cd.cond (t := G_0.Kind == 5) rfl (fun hc258 => ?_) (fun hc258 => ?_)
      ·have hp14 := ite_t hc258 hp14
       refine Cd.sr ?_
       refine Rg.vN (X.fieldB Try.underlying33 rfl zz30 rfl rfl) rfl ?_
       refine Rg.vN (X.load1 Try.underlying30 rfl rfl (hs.cell 0 rfl 6 rfl)) rfl ?_
       refine Rg.weak [(1, .pointer (some ⟨b10, 0, none⟩)), (100, .int .u64 G_0.Rate)] ⟨rfl, rfl, trivial⟩ ?_
       obtain ⟨x259, hx260, hp14⟩ := bind_s hp14
       refine Rg.step rfl (Oq.call Try.call48 rfl rfl (c48 S23 (St.start _ _ hs.has) _ _ _ hx260) (fun v261 w262 h263 => ?_))
       obtain ⟨S264, rfl, hs265⟩ := h263
       have le266 := hs265.le
       have hs := hs.call0 hs265
       refine Rg.mv rfl rfl ?_
       refine Rg.vN (X.extract rfl rfl) rfl ?_
       refine Rg.vN (X.extract rfl rfl) rfl ?_
       refine Rg.st rfl rfl ?_
       refine Rg.st rfl rfl ?_
       refine Rg.go ?_
       refine Cd.sr ?_
       refine Rg.vN (X.fieldB Try.underlying33 rfl zz27 rfl rfl) rfl ?_
       refine Rg.vN (X.load1 Try.underlying27 rfl rfl (hs.cell 0 rfl 1 rfl)) rfl ?_
       refine Rg.step rfl (Oq.lit (sz := 1) (cs0 := [.int .u32 0, .int .u32 0]) (cells := [.int .u32 G_0.From, .int .u32 0]) hs Try.underlying29 ii27 rfl rfl rfl rfl rfl rfl ⟨_, [.int .u32 G_0.From], _, rfl, rfl, rfl, ⟨_, [.int .u32 0], _, rfl, rfl, rfl, rfl⟩⟩ rfl rfl rfl (fun b267 w268 S269 hs le270 hE271 => ?_))
       have f273 : Rd S269 1 (RI .u32) (.slice (some ⟨b267, 0, none⟩) 2 2) ([G_0.From, 0] : List Int) := Rd.of_cells (xs := ([G_0.From, 0] : List Int)) ⟨[.int .u32 G_0.From], _, rfl, rfl, one_all ⟨rfl, trivial⟩, rfl, ⟨[.int .u32 0], _, rfl, rfl, one_all ⟨rfl, trivial⟩, rfl, rfl⟩⟩ hE271 (Nat.le_of_ble_eq_true rfl) (Nat.le_of_ble_eq_true rfl)
       obtain ⟨x274, hx275, hp14⟩ := bind_s hp14
       refine Rg.step rfl (Oq.call Try.call68 rfl rfl (c68 S269 (St.start _ _ hs.has) _ _ f273 _ hx275) (fun v276 w277 h278 => ?_))
       obtain ⟨S279, v282, g284, rfl, hs280, f283⟩ := h278
       have le281 := hs280.le
       have hs := hs.call0 hs280
       obtain ⟨y286, hx287, hp14⟩ := bind_s hp14
       refine Rg.step rfl (Oq.appendStr hs 0 rfl Try.underlying31 Try.underlying9 ii5 rfl rfl rfl f283 (bs := [82, 69, 77, 66]) rfl hx287 rfl rfl rfl (fun v288 w289 S290 g291 hs le292 f293 => ?_))
       refine Rg.st rfl rfl ?_
       refine Rg.go ?_
       refine Cd.sr ?_
       refine Rg.mv rfl rfl ?_
       refine Rg.vN (X.fieldB Try.underlying33 rfl zz29 rfl rfl) rfl ?_
       refine Rg.vN (X.load1 Try.underlying29 rfl rfl (hs.cell 2 rfl 4 rfl)) rfl ?_
       refine Rg.vN (X.lenR Try.underlying29 rfl (f4.mono (le25.trans (le266.trans (le270.trans (le281.trans le292)))))) rfl ?_
       refine Rg.vN (X.conv Try.underlying3 Try.underlying27 rfl) rfl ?_
       refine Rg.weak [(1, .pointer (some ⟨b10, 0, none⟩)), (12, .int .i64 x259.1), (13, .int .u32 x259.2), (109, v288), (113, .int .u32 (cv .u32 (G_0.Abouts.length : Int)))] ⟨rfl, rfl, rfl, rfl, rfl, trivial⟩ ?_
       refine Rg.vN (X.shl rfl rfl (by decide)) rfl ?_
       refine Rg.mv rfl rfl ?_
       refine Rg.vN (X.conv Try.underlying3 Try.underlying27 rfl) rfl ?_
       refine Rg.vN (X.shl rfl rfl (by decide)) rfl ?_
       refine Rg.vN (X.or rfl rfl) rfl ?_
       refine Rg.mv rfl rfl ?_
       refine Rg.vN (X.or rfl rfl) rfl ?_
       refine Rg.step rfl (Oq.lit (sz := 1) (cs0 := [.int .u32 0]) (cells := [.int .u32 (bor .u32 (bor .u32 (shl .u32 (cv .u32 (G_0.Abouts.length : Int)) 24) (shl .u32 (cv .u32 x259.1) 18)) x259.2)]) hs Try.underlying29 ii27 rfl rfl rfl rfl rfl rfl ⟨_, [.int .u32 (bor .u32 (bor .u32 (shl .u32 (cv .u32 (G_0.Abouts.length : Int)) 24) (shl .u32 (cv .u32 x259.1) 18)) x259.2)], _, rfl, rfl, rfl, rfl⟩ rfl rfl rfl (fun b294 w295 S296 hs le297 hE298 => ?_))
       have f300 : Rd S296 1 (RI .u32) (.slice (some ⟨b294, 0, none⟩) 1 1) ([bor .u32 (bor .u32 (shl .u32 (cv .u32 (G_0.Abouts.length : Int)) 24) (shl .u32 (cv .u32 x259.1) 18)) x259.2] : List Int) := Rd.of_cells (xs := ([bor .u32 (bor .u32 (shl .u32 (cv .u32 (G_0.Abouts.length : Int)) 24) (shl .u32 (cv .u32 x259.1) 18)) x259.2] : List Int)) ⟨[.int .u32 (bor .u32 (bor .u32 (shl .u32 (cv .u32 (G_0.Abouts.length : Int)) 24) (shl .u32 (cv .u32 x259.1) 18)) x259.2)], _, rfl, rfl, one_all ⟨rfl, trivial⟩, rfl, rfl⟩ hE298 (Nat.le_of_ble_eq_true rfl) (Nat.le_of_ble_eq_true rfl)
       refine Rg.vN (X.fieldB Try.underlying33 rfl zz29 rfl rfl) rfl ?_
       refine Rg.vN (X.load1 Try.underlying29 rfl rfl (hs.cell 3 rfl 4 rfl)) rfl ?_
       obtain ⟨y301, hx302, hp14⟩ := bind_s hp14
       refine Rg.step rfl (Oq.appendS hs 0 rfl Try.underlying29 ii27 rfl rfl rfl rfl rfl rfl f300 (f4.mono (le25.trans (le266.trans (le270.trans (le281.trans (le292.trans le297)))))) hx302 rfl rfl rfl (fun v303 w304 S305 g306 hs le307 f308 => ?_))
       obtain ⟨x309, hx310, hp14⟩ := bind_s hp14
       refine Rg.step rfl (Oq.call Try.call68 rfl rfl (c68 S305 (St.start _ _ hs.has) _ _ f308 _ hx310) (fun v311 w312 h313 => ?_))
       obtain ⟨S314, v317, g319, rfl, hs315, f318⟩ := h313
       have le316 := hs315.le
       have hs := hs.call0 hs315
       obtain ⟨y321, hx322, hp14⟩ := bind_s hp14
       refine Rg.step rfl (Oq.appendS hs 2 rfl Try.underlying31 ii5 rfl rfl rfl rfl rfl rfl (f293.mono (le297.trans (le307.trans le316))) f318 hx322 rfl rfl rfl (fun v323 w324 S325 g326 hs le327 f328 => ?_))
       refine Rg.st rfl rfl ?_
       refine Rg.weak [(2, .int .i64 206), (126, v323)] ⟨rfl, rfl, trivial⟩ ?_
       refine Rg.st rfl rfl ?_
       refine Rg.st rfl rfl ?_
       refine Rg.go ?_
       refine Cd.ret ?_
       obtain rfl := some_s hp14
       have h0 := el_ret h0
       obtain rfl := some_s h0
       exact fun a ha => Cd.retA (R := Re (Po52 S0 w0 [] _)) ha Try.results52 ⟨_, _, rfl, rfl, ⟨_, _, rfl, rfl, ⟨_, _, rfl, rfl, rfl⟩⟩⟩ ⟨_, rfl, S325, v323, rfl, (hs.pick [] (by decide) rfl), f328⟩
      ·have hp14 := ite_f hc258 hp14
       refine Cd.skip ?_
       obtain rfl := some_s hp14
       exact fun a ha => ⟨[(1, .pointer (some ⟨b10, 0, none⟩))], ha.weak ⟨rfl, trivial⟩, S23, rfl, rfl, le25, hs⟩
  ·skip
   refine Cd.cond (t := G_0.Kind == 1) rfl (fun hc329 => ?_) (fun hc329 => ?_)
   ·have hp22 := ite_t hc329 hp22
    refine Cd.skip ?_
    obtain rfl := some_s hp22
    exact fun a ha => ⟨[(1, .pointer (some ⟨b10, 0, none⟩)), (16, .int .i64 G_0.Kind), (17, .bool (G_0.Kind == 1))], ha.weak ⟨rfl, rfl, rfl, trivial⟩, S0, rfl, Le.refl _, hs⟩
   ·have hp22 := ite_f hc329 hp22
    refine Cd.region ?_
    refine Rg.vN (X.eql rfl rfl) rfl ?_
    refine Rg.st rfl rfl ?_
    refine Rg.nil ?_
    obtain rfl := some_s hp22
    exact fun a ha => ⟨[(1, .pointer (some ⟨b10, 0, none⟩)), (16, .int .i64 G_0.Kind), (17, .bool (G_0.Kind == 2))], ha.weak ⟨rfl, rfl, rfl, trivial⟩, S0, rfl, Le.refl _, hs⟩
noncomputable def limelightref6_one (r_0 : api_Report) : Option (List Int) :=
 (limelightref6_body r_0).bind fun x14 =>
 (limelightref1_Put ([cv .u8 (bor .i64 128 x14.2.1), cv .u8 x14.1] : List Int) (cv .u64 (quo .i64 (x14.2.2.length : Int) 4)) 2).bind fun x31 =>
 (app 1 x31 x14.2.2).bind fun y43 =>
 some y43
def Po33 (S0 : Mp) (w0 : World) (D : List Nat) (r : (List Int)) (v : Value) (w1 : World) : Prop :=
  ∃ (S1 : Mp) (v9 : Value) (g10 : Option Nat), v = v9 ∧ St w0 D S0 S1 [.app g10 v9 r.length 5 1] w1 ∧ Rd S1 1 (RI .u8) v9 r
set_option maxHeartbeats 4000000 in
theorem c33 (S0 : Mp) {w0 : World} (hs : St w0 [] S0 S0 [] w0) (r_0 : api_Report) (v1 : Value) (f2 : Rd S0 3 R_api_Tuple v1 r_0.Tuples) (v3 : Value) (f4 : Rd S0 1 (RI .u32) v3 r_0.Abouts) (v5 : Value) (f6 : Rd S0 1 (RI .i64) v5 r_0.Numbers) (v7 : Value) (f8 : Rd S0 1 (RI .u8) v7 r_0.Body) (r : (List Int)) (h0 : limelightref6_one r_0 = some r) :
    Calls Try.prog 33 #[.agg (#[.int .i64 r_0.Kind, .int .u32 r_0.From, .int .u32 r_0.About, v1, v3, v5, .int .u64 r_0.Rate, .int .i64 r_0.Type_, .int .i64 r_0.Count, v7])] w0 (Re (Po33 S0 w0 [] r)) := by
 unfold limelightref6_one at h0
 refine calls_of_cd Try.func33 rfl Try.ntmps33 rfl ?_
 refine Cd.sr ?_
 refine Rg.step rfl (Oq.box (cs := #[.int .i64 r_0.Kind, .int .u32 r_0.From, .int .u32 r_0.About, v1, v3, v5, .int .u64 r_0.Rate, .int .i64 r_0.Type_, .int .i64 r_0.Count, v7]) hs rfl rfl rfl (fun b11 w12 hs => ?_))
 refine Rg.st rfl rfl ?_
 refine Rg.go ?_
 refine Cd.sr ?_
 refine Rg.vN (X.loadN (vals := [.int .i64 r_0.Kind, .int .u32 r_0.From, .int .u32 r_0.About, v1, v3, v5, .int .u64 r_0.Rate, .int .i64 r_0.Type_, .int .i64 r_0.Count, v7]) Try.underlying33 rfl zz33 rfl (hs.range 0 rfl 0 rfl)) rfl ?_
 obtain ⟨x14, hx15, h0⟩ := bind_s h0
 refine Rg.step rfl (Oq.call Try.call52 rfl rfl (c52 S0 (St.start _ _ hs.has) r_0 _ f2 _ f4 _ f6 _ f8 _ hx15) (fun v16 w17 h18 => ?_))
 obtain ⟨S19, v22, rfl, hs20, f23⟩ := h18
 have le21 := hs20.le
 have hs := hs.call0 hs20
 refine Rg.mv rfl rfl ?_
 refine Rg.vN (X.extract rfl rfl) rfl ?_
 refine Rg.vN (X.extract rfl rfl) rfl ?_
 refine Rg.vN (X.extract rfl rfl) rfl ?_
 refine Rg.st rfl rfl ?_
 refine Rg.st rfl rfl ?_
 refine Rg.st rfl rfl ?_
 refine Rg.go ?_
 refine Cd.sr ?_
 refine Rg.mv rfl rfl ?_
 refine Rg.vN (X.or rfl rfl) rfl ?_
 refine Rg.vN (X.conv Try.underlying3 Try.underlying5 rfl) rfl ?_
 refine Rg.mv rfl rfl ?_
 refine Rg.vN (X.conv Try.underlying3 Try.underlying5 rfl) rfl ?_
 refine Rg.step rfl (Oq.lit (sz := 1) (cs0 := [.int .u8 0, .int .u8 0]) (cells := [.int .u8 (cv .u8 (bor .i64 128 x14.2.1)), .int .u8 (cv .u8 x14.1)]) hs Try.underlying31 ii5 rfl rfl rfl rfl rfl rfl ⟨_, [.int .u8 (cv .u8 (bor .i64 128 x14.2.1))], _, rfl, rfl, rfl, ⟨_, [.int .u8 (cv .u8 x14.1)], _, rfl, rfl, rfl, rfl⟩⟩ rfl rfl rfl (fun b24 w25 S26 hs le27 hE28 => ?_))
 have f30 : Rd S26 1 (RI .u8) (.slice (some ⟨b24, 0, none⟩) 2 2) ([cv .u8 (bor .i64 128 x14.2.1), cv .u8 x14.1] : List Int) := Rd.of_cells (xs := ([cv .u8 (bor .i64 128 x14.2.1), cv .u8 x14.1] : List Int)) ⟨[.int .u8 (cv .u8 (bor .i64 128 x14.2.1))], _, rfl, rfl, one_all ⟨rfl, trivial⟩, rfl, ⟨[.int .u8 (cv .u8 x14.1)], _, rfl, rfl, one_all ⟨rfl, trivial⟩, rfl, rfl⟩⟩ hE28 (Nat.le_of_ble_eq_true rfl) (Nat.le_of_ble_eq_true rfl)
 refine Rg.mv rfl rfl ?_
 refine Rg.weak [(5, v22), (17, .slice (some ⟨b24, 0, none⟩) 2 2), (18, v22)] ⟨rfl, rfl, rfl, trivial⟩ ?_
 refine Rg.vN (X.lenR Try.underlying31 rfl (f23.mono le27)) rfl ?_
 refine Rg.vN (X.quo rfl rfl (by decide)) rfl ?_
 refine Rg.vN (X.conv Try.underlying3 Try.underlying30 rfl) rfl ?_
 obtain ⟨x31, hx32, h0⟩ := bind_s h0
 refine Rg.step rfl (Oq.call Try.call53 rfl rfl (c53 S26 (St.start _ _ hs.has) _ _ f30 _ _ _ hx32) (fun v33 w34 h35 => ?_))
 obtain ⟨S36, v39, g41, rfl, hs37, f40⟩ := h35
 have le38 := hs37.le
 have hs := hs.call0 hs37
 refine Rg.mv rfl rfl ?_
 obtain ⟨y43, hx44, h0⟩ := bind_s h0
 refine Rg.step rfl (Oq.appendS hs 0 rfl Try.underlying31 ii5 rfl rfl rfl rfl rfl rfl f40 (f23.mono (le27.trans le38)) hx44 rfl rfl rfl (fun v45 w46 S47 g48 hs le49 f50 => ?_))
 refine Rg.st rfl rfl ?_
 refine Rg.go ?_
 refine Cd.ret ?_
 obtain rfl := some_s h0
 exact fun a ha => Cd.retA (R := Re (Po33 S0 w0 [] _)) ha Try.results33 ⟨_, _, rfl, rfl, rfl⟩ ⟨_, rfl, S47, v45, g48, rfl, (hs.pick [0] (by decide) rfl), f50⟩
noncomputable def limelightref6_Bytes_l1 (l_0 : (List api_Report)) (q29 : (List Int)) (q30 : Int) : Option (Flow ((List Int) × Int) ((List Int) × Int)) :=
 if (decide (q30 < (l_0.length : Int))) = true then (
  (ix l_0 q30).bind fun x44 =>
  (limelightref6_one x44).bind fun x63 =>
  (app 1 q29 x63).bind fun y75 =>
  some (Flow.next (y75, add .i64 q30 1)))
 else (
  some (Flow.brk (q29, q30)))
noncomputable def limelightref6_Bytes_l0 (l_0 : (List api_Report)) (q86 : Int) : Option (Flow Int ((List Int) × Int)) :=
 if (decide (q86 < (l_0.length : Int))) = true then (
  (ix l_0 q86).bind fun x96 =>
  (limelightref6_Right x96).bind fun x115 =>
  if (x115 != 0) = true then (
   some (Flow.ret (([] : List Int), x115)))
  else (
   some (Flow.next (add .i64 q86 1))))
 else (
  some (Flow.brk q86))
noncomputable def limelightref6_Bytes (l_0 : (List api_Report)) : Option ((List Int) × Int) :=
 if ((l_0.length : Int) == 0) = true then (
  some (([] : List Int), 1))
 else (
  (loopF (fun sg => limelightref6_Bytes_l0 l_0 sg) 0).bind fun fl7 =>
  Flow.el fl7 (fun s125 => (
   none))
  (fun s126 => (
   (loopF (fun sg => limelightref6_Bytes_l1 l_0 sg.1 sg.2) (([] : List Int), 0)).bind fun fl15 =>
   Flow.el fl15 (fun s83 => (
    none))
   (fun s84 => (
    if (decide (1500 < (s84.1.length : Int))) = true then (
     some (([] : List Int), 3))
    else (
     some (s84.1, 0))))
   (fun r85 => (
    none))))
  (fun r127 => (
   some r127)))
def Po13 (S0 : Mp) (w0 : World) (D : List Nat) (r : ((List Int) × Int)) (v : Value) (w1 : World) : Prop :=
  ∃ (S1 : Mp) (v3 : Value) (g4 : Option Nat), v = .tuple #[v3, .int .i64 r.2] ∧ St w0 D S0 S1 [.app g4 v3 r.1.length 5 1] w1 ∧ Rd S1 1 (RI .u8) v3 r.1
set_option maxHeartbeats 4000000 in
theorem c13 (S0 : Mp) {w0 : World} (hs : St w0 [] S0 S0 [] w0) (l_0 : (List api_Report)) (v1 : Value) (f2 : Rd S0 10 R_api_Report v1 l_0) (r : ((List Int) × Int)) (h0 : limelightref6_Bytes l_0 = some r) :
    Calls Try.prog 13 #[v1] w0 (Re (Po13 S0 w0 [] r)) := by
 unfold limelightref6_Bytes at h0
 refine calls_of_cd Try.func13 rfl Try.ntmps13 rfl ?_
 refine Cd.sr ?_
 refine Rg.st rfl rfl ?_
 refine Rg.st rfl rfl ?_
 refine Rg.go ?_
 refine Cd.seq ?_
 refine Cd.sr ?_
 refine Rg.mv rfl rfl ?_
 refine Rg.vN (X.lenR Try.underlying36 rfl f2) rfl ?_
 refine Rg.vN (X.eql rfl rfl) rfl ?_
 refine Rg.go ?_
 refine Cd.cond (t := (l_0.length : Int) == 0) rfl (fun hc5 => ?_) (fun hc5 => ?_)
 ·have h0 := ite_t hc5 h0
  refine Cd.sr ?_
  refine Rg.st rfl rfl ?_
  refine Rg.st rfl rfl ?_
  refine Rg.go ?_
  refine Cd.ret ?_
  have hs := hs.nil 5 1
  obtain rfl := some_s h0
  exact fun a ha => Cd.retA (R := Re (Po13 S0 w0 [] _)) ha Try.results13 ⟨_, _, rfl, rfl, ⟨_, _, rfl, rfl, rfl⟩⟩ ⟨_, rfl, S0, (.slice none 0 0), none, rfl, hs, (Rd.nil _ _ _)⟩
 ·have h0 := ite_f hc5 h0
  refine Cd.sg ?_
  refine Cd.sr ?_
  refine Rg.st rfl rfl ?_
  refine Rg.go ?_
  refine Cd.seq ?_
  refine Cd.sr ?_
  refine Rg.mv rfl rfl ?_
  refine Rg.vN (X.lenR Try.underlying36 rfl f2) rfl ?_
  refine Rg.mv rfl rfl ?_
  refine Rg.go ?_
  obtain ⟨fl7, hfl8, h0⟩ := bind_s h0
  refine Cd.post (fun K w => ∃ (j9 : Int) (S10 : Mp), K = [(0, v1), (4, .slice none 0 0)] ∧ fl7 = Flow.brk j9 ∧ Le S0 S10 ∧ St w0 [] S0 S10 [] w) ?_ ?_
  ·rintro K13 w12 ⟨j9, S10, rfl, rfl, le11, hs⟩
   have h0 := el_brk h0
   try dsimp only at h0
   refine Cd.go ?_
   refine Cd.seq ?_
   refine Cd.sr ?_
   refine Rg.mv rfl rfl ?_
   refine Rg.vN (X.lenR Try.underlying36 rfl (f2.mono le11)) rfl ?_
   refine Rg.mv rfl rfl ?_
   refine Rg.go ?_
   have hs := hs.nil 5 1
   obtain ⟨fl15, hfl16, h0⟩ := bind_s h0
   refine Cd.post (fun K w => ∃ (j17 : (List Int)) (j18 : Int) (S19 : Mp) (v21 : Value) (g23 : Option Nat), K = [(4, v21)] ∧ fl15 = Flow.brk (j17, j18) ∧ Le S10 S19 ∧ St w0 [] S0 S19 [.app g23 v21 j17.length 5 1] w ∧ Rd S19 1 (RI .u8) v21 j17) ?_ ?_
   ·rintro K26 w25 ⟨j17, j18, S19, v21, g23, rfl, rfl, le20, hs, f22⟩
    have h0 := el_brk h0
    try dsimp only at h0
    refine Cd.go ?_
    refine Cd.seq ?_
    refine Cd.sr ?_
    refine Rg.mv rfl rfl ?_
    refine Rg.vN (X.lenR Try.underlying31 rfl f22) rfl ?_
    refine Rg.vN (X.gtr rfl rfl) rfl ?_
    refine Rg.go ?_
    refine Cd.weak [(4, v21), (38, .bool (decide (1500 < (j17.length : Int))))] ⟨rfl, rfl, trivial⟩ ?_
    refine Cd.cond (t := decide (1500 < (j17.length : Int))) rfl (fun hc27 => ?_) (fun hc27 => ?_)
    ·have h0 := ite_t hc27 h0
     refine Cd.sr ?_
     refine Rg.st rfl rfl ?_
     refine Rg.st rfl rfl ?_
     refine Rg.go ?_
     refine Cd.ret ?_
     have hs := hs.nil 5 1
     obtain rfl := some_s h0
     exact fun a ha => Cd.retA (R := Re (Po13 S0 w0 [] _)) ha Try.results13 ⟨_, _, rfl, rfl, ⟨_, _, rfl, rfl, rfl⟩⟩ ⟨_, rfl, S19, (.slice none 0 0), none, rfl, (hs.pick [0] (by decide) rfl), (Rd.nil _ _ _)⟩
    ·have h0 := ite_f hc27 h0
     refine Cd.sg ?_
     refine Cd.sr ?_
     refine Rg.mv rfl rfl ?_
     refine Rg.st rfl rfl ?_
     refine Rg.st rfl rfl ?_
     refine Rg.go ?_
     refine Cd.ret ?_
     obtain rfl := some_s h0
     exact fun a ha => Cd.retA (R := Re (Po13 S0 w0 [] _)) ha Try.results13 ⟨_, _, rfl, rfl, ⟨_, _, rfl, rfl, rfl⟩⟩ ⟨_, rfl, S19, v21, g23, rfl, hs, f22⟩
   ·skip
    refine Cd.weak [(4, .slice none 0 0), (25, v1), (26, .int .i64 (l_0.length : Int)), (27, .int .i64 0)] ⟨rfl, rfl, rfl, rfl, trivial⟩ ?_
    refine Cd.block (Cd.loop (fun sg => limelightref6_Bytes_l1 l_0 sg.1 sg.2) (fun (sg : ((List Int) × Int)) K w => ∃ (S31 : Mp) (v33 : Value) (g35 : Option Nat), K = [(4, v33), (25, v1), (26, .int .i64 (l_0.length : Int)), (27, .int .i64 sg.2)] ∧ Le S10 S31 ∧ St w0 [] S0 S31 [.app g35 v33 sg.1.length 5 1] w ∧ Rd S31 1 (RI .u8) v33 sg.1) (([] : List Int), 0) fl15 hfl16 ⟨S10, (.slice none 0 0), none, rfl, Le.refl _, hs, (Rd.nil _ _ _)⟩ ?_)
    rintro ⟨q29, q30⟩ fl37 K42 w41 hb38 ⟨S31, v33, g35, rfl, le32, hs, f34⟩ hl39
    have h40 : limelightref6_Bytes_l1 l_0 q29 q30 = some fl37 := hb38
    unfold limelightref6_Bytes_l1 at h40
    refine Cd.sr ?_
    refine Rg.vN (X.lss rfl rfl) rfl ?_
    refine Rg.go ?_
    refine Cd.seq ?_
    refine Cd.cond (t := decide (q30 < (l_0.length : Int))) rfl (fun hc43 => ?_) (fun hc43 => ?_)
    ·have h40 := ite_t hc43 h40
     refine Cd.sg ?_
     refine Cd.seq ?_
     refine Cd.block ?_
     refine Cd.sr ?_
     obtain ⟨x44, hx45, h40⟩ := bind_s h40
     obtain ⟨ad46, vals47, _, hR48, hE49, hX50⟩ := mk_index Try.underlying36 zz33 (by decide) (f2.mono (le11.trans le32)) hx45
     unfold R_api_Report at hR48
     obtain ⟨v51, v53, v55, v57, rfl, f52, f54, f56, f58⟩ := hR48
     refine Rg.vN (hX50 rfl rfl) rfl ?_
     refine Rg.vN (X.loadE (vals := [.int .i64 x44.Kind, .int .u32 x44.From, .int .u32 x44.About, v51, v53, v55, .int .u64 x44.Rate, .int .i64 x44.Type_, .int .i64 x44.Count, v57]) hs.has Try.underlying33 rfl zz33 rfl hE49) rfl ?_
     refine Rg.weak [(4, v33), (25, v1), (26, .int .i64 (l_0.length : Int)), (27, .int .i64 q30), (30, .agg (#[.int .i64 x44.Kind, .int .u32 x44.From, .int .u32 x44.About, v51, v53, v55, .int .u64 x44.Rate, .int .i64 x44.Type_, .int .i64 x44.Count, v57]))] ⟨rfl, rfl, rfl, rfl, rfl, trivial⟩ ?_
     refine Rg.step rfl (Oq.alloc (cs := #[.int .i64 0, .int .u32 0, .int .u32 0, .slice none 0 0, .slice none 0 0, .slice none 0 0, .int .u64 0, .int .i64 0, .int .i64 0, .slice none 0 0]) hs ii33 rfl rfl rfl (fun b59 w60 hs => ?_))
     refine Rg.step rfl (Oq.storeN hs 0 rfl (vals := [.int .i64 x44.Kind, .int .u32 x44.From, .int .u32 x44.About, v51, v53, v55, .int .u64 x44.Rate, .int .i64 x44.Type_, .int .i64 x44.Count, v57]) zz33 rfl rfl (one_all ⟨rfl, rfl, rfl, f52.one, f54.one, f56.one, rfl, rfl, rfl, f58.one, trivial⟩) rfl [.box b59 #[.int .i64 x44.Kind, .int .u32 x44.From, .int .u32 x44.About, v51, v53, v55, .int .u64 x44.Rate, .int .i64 x44.Type_, .int .i64 x44.Count, v57] 33, .app g35 v33 q29.length 5 1] rfl (fun w62 hs => ?_))
     refine Rg.go ?_
     refine Cd.region ?_
     refine Rg.mv rfl rfl ?_
     refine Rg.vN (X.loadN (vals := [.int .i64 x44.Kind, .int .u32 x44.From, .int .u32 x44.About, v51, v53, v55, .int .u64 x44.Rate, .int .i64 x44.Type_, .int .i64 x44.Count, v57]) Try.underlying33 rfl zz33 rfl (hs.range 0 rfl 0 rfl)) rfl ?_
     obtain ⟨x63, hx64, h40⟩ := bind_s h40
     refine Rg.step rfl (Oq.call Try.call33 rfl rfl (c33 S31 (St.start _ _ hs.has) x44 _ f52 _ f54 _ f56 _ f58 _ hx64) (fun v65 w66 h67 => ?_))
     obtain ⟨S68, v71, g73, rfl, hs69, f72⟩ := h67
     have le70 := hs69.le
     have hs := hs.call0 hs69
     obtain ⟨y75, hx76, h40⟩ := bind_s h40
     refine Rg.step rfl (Oq.appendS hs 2 rfl Try.underlying31 ii5 rfl rfl rfl rfl rfl rfl (f34.mono le70) f72 hx76 rfl rfl rfl (fun v77 w78 S79 g80 hs le81 f82 => ?_))
     refine Rg.st rfl rfl ?_
     refine Rg.nil ?_
     refine Cd.go ?_
     refine Cd.region ?_
     refine Rg.vN (X.add rfl rfl) rfl ?_
     refine Rg.mv rfl rfl ?_
     refine Rg.nil ?_
     exact fun a ha => ⟨(y75, add .i64 q30 1), [(4, v77), (25, v1), (26, .int .i64 (l_0.length : Int)), (27, .int .i64 (add .i64 q30 1))], (some_s h40).symm, ha.weak ⟨rfl, rfl, rfl, rfl, trivial⟩, S79, v77, g80, rfl, (le32.trans (le70.trans le81)), (hs.pick [2] (by decide) rfl), f82⟩
    ·have h40 := ite_f hc43 h40
     refine Cd.exit ?_
     obtain rfl := some_s h40
     have e := hl39 (fun _ e => by cases e)
     exact fun a ha => ⟨[(4, v33)], ha.weak ⟨rfl, trivial⟩, _, _, S31, v33, g35, rfl, e.symm, le32, hs, f34⟩
  ·skip
   refine Cd.weak [(0, v1), (4, .slice none 0 0), (13, v1), (14, .int .i64 (l_0.length : Int)), (15, .int .i64 0)] ⟨rfl, rfl, rfl, rfl, rfl, trivial⟩ ?_
   refine Cd.block (Cd.loop (fun sg => limelightref6_Bytes_l0 l_0 sg) (fun (sg : Int) K w => ∃ (S87 : Mp), K = [(0, v1), (4, .slice none 0 0), (13, v1), (14, .int .i64 (l_0.length : Int)), (15, .int .i64 sg)] ∧ Le S0 S87 ∧ St w0 [] S0 S87 [] w) 0 fl7 hfl8 ⟨S0, rfl, Le.refl _, hs⟩ ?_)
   rintro q86 fl89 K94 w93 hb90 ⟨S87, rfl, le88, hs⟩ hl91
   have h92 : limelightref6_Bytes_l0 l_0 q86 = some fl89 := hb90
   unfold limelightref6_Bytes_l0 at h92
   refine Cd.sr ?_
   refine Rg.vN (X.lss rfl rfl) rfl ?_
   refine Rg.go ?_
   refine Cd.seq ?_
   refine Cd.cond (t := decide (q86 < (l_0.length : Int))) rfl (fun hc95 => ?_) (fun hc95 => ?_)
   ·have h92 := ite_t hc95 h92
    refine Cd.sg ?_
    refine Cd.seq ?_
    refine Cd.block ?_
    refine Cd.sr ?_
    obtain ⟨x96, hx97, h92⟩ := bind_s h92
    obtain ⟨ad98, vals99, _, hR100, hE101, hX102⟩ := mk_index Try.underlying36 zz33 (by decide) (f2.mono le88) hx97
    unfold R_api_Report at hR100
    obtain ⟨v103, v105, v107, v109, rfl, f104, f106, f108, f110⟩ := hR100
    refine Rg.vN (hX102 rfl rfl) rfl ?_
    refine Rg.vN (X.loadE (vals := [.int .i64 x96.Kind, .int .u32 x96.From, .int .u32 x96.About, v103, v105, v107, .int .u64 x96.Rate, .int .i64 x96.Type_, .int .i64 x96.Count, v109]) hs.has Try.underlying33 rfl zz33 rfl hE101) rfl ?_
    refine Rg.step rfl (Oq.alloc (cs := #[.int .i64 0, .int .u32 0, .int .u32 0, .slice none 0 0, .slice none 0 0, .slice none 0 0, .int .u64 0, .int .i64 0, .int .i64 0, .slice none 0 0]) hs ii33 rfl rfl rfl (fun b111 w112 hs => ?_))
    refine Rg.step rfl (Oq.storeN hs 0 rfl (vals := [.int .i64 x96.Kind, .int .u32 x96.From, .int .u32 x96.About, v103, v105, v107, .int .u64 x96.Rate, .int .i64 x96.Type_, .int .i64 x96.Count, v109]) zz33 rfl rfl (one_all ⟨rfl, rfl, rfl, f104.one, f106.one, f108.one, rfl, rfl, rfl, f110.one, trivial⟩) rfl [.box b111 #[.int .i64 x96.Kind, .int .u32 x96.From, .int .u32 x96.About, v103, v105, v107, .int .u64 x96.Rate, .int .i64 x96.Type_, .int .i64 x96.Count, v109] 33] rfl (fun w114 hs => ?_))
    refine Rg.go ?_
    refine Cd.sr ?_
    refine Rg.vN (X.loadN (vals := [.int .i64 x96.Kind, .int .u32 x96.From, .int .u32 x96.About, v103, v105, v107, .int .u64 x96.Rate, .int .i64 x96.Type_, .int .i64 x96.Count, v109]) Try.underlying33 rfl zz33 rfl (hs.range 0 rfl 0 rfl)) rfl ?_
    obtain ⟨x115, hx116, h92⟩ := bind_s h92
    refine Rg.step rfl (Oq.call Try.call32 rfl rfl (c32 S87 (St.start _ _ hs.has) x96 _ f104 _ f106 _ f108 _ f110 _ hx116) (fun v117 w118 h119 => ?_))
    obtain ⟨S120, rfl, hs121⟩ := h119
    have le122 := hs121.le
    have hs := hs.call0 hs121
    refine Rg.st rfl rfl ?_
    refine Rg.go ?_
    refine Cd.sr ?_
    refine Rg.mv rfl rfl ?_
    refine Rg.vN (X.neq rfl rfl) rfl ?_
    refine Rg.go ?_
    refine Cd.weak [(0, v1), (4, .slice none 0 0), (7, .int .i64 x115), (13, v1), (14, .int .i64 (l_0.length : Int)), (15, .int .i64 q86), (22, .bool (x115 != 0))] ⟨rfl, rfl, rfl, rfl, rfl, rfl, rfl, trivial⟩ ?_
    refine Cd.cond (t := x115 != 0) rfl (fun hc123 => ?_) (fun hc123 => ?_)
    ·have h92 := ite_t hc123 h92
     refine Cd.sr ?_
     refine Rg.mv rfl rfl ?_
     refine Rg.st rfl rfl ?_
     refine Rg.st rfl rfl ?_
     refine Rg.go ?_
     refine Cd.ret ?_
     have hs := hs.nil 5 1
     obtain rfl := some_s h92
     have e := hl91 (fun _ e => by cases e)
     subst e
     have h0 := el_ret h0
     obtain rfl := some_s h0
     exact fun a ha => Cd.retA (R := Re (Po13 S0 w0 [] _)) ha Try.results13 ⟨_, _, rfl, rfl, ⟨_, _, rfl, rfl, rfl⟩⟩ ⟨_, rfl, S120, (.slice none 0 0), none, rfl, (hs.pick [0] (by decide) rfl), (Rd.nil _ _ _)⟩
    ·have h92 := ite_f hc123 h92
     refine Cd.skip ?_
     refine Cd.go ?_
     refine Cd.region ?_
     refine Rg.vN (X.add rfl rfl) rfl ?_
     refine Rg.mv rfl rfl ?_
     refine Rg.nil ?_
     exact fun a ha => ⟨add .i64 q86 1, [(0, v1), (4, .slice none 0 0), (13, v1), (14, .int .i64 (l_0.length : Int)), (15, .int .i64 (add .i64 q86 1))], (some_s h92).symm, ha.weak ⟨rfl, rfl, rfl, rfl, rfl, trivial⟩, S120, rfl, (le88.trans le122), (hs.pick [] (by decide) rfl)⟩
   ·have h92 := ite_f hc95 h92
    refine Cd.exit ?_
    obtain rfl := some_s h92
    have e := hl91 (fun _ e => by cases e)
    exact fun a ha => ⟨[(0, v1), (4, .slice none 0 0)], ha.weak ⟨rfl, rfl, trivial⟩, _, S87, rfl, e.symm, le88, hs⟩
noncomputable def rtcp_reader_num (r_0 : rtcp_reader) (size_1 : Int) : Option (Int × rtcp_reader) :=
 ((
  (octet_Get r_0.b_ r_0.at_ size_1).bind fun x17 =>
  some (x17.1, x17.2) : Option (Int × Bool))).bind fun p8 =>
 some (p8.1, (⟨r_0.b_, add .i64 r_0.at_ size_1, r_0.bad_ || (!p8.2)⟩ : rtcp_reader))
def Po72 (S0 : Mp) (w0 : World) (D : List Nat) (b1 : Nat) (r : (Int × rtcp_reader)) (v : Value) (w1 : World) : Prop :=
  ∃ (S1 : Mp) (v5 : Value), v = .int .u64 r.1 ∧ St w0 D S0 S1 [.box b1 #[v5, .int .i64 r.2.at_, .bool r.2.bad_] 101] w1 ∧ Rd S1 1 (RI .u8) v5 r.2.b_
set_option maxHeartbeats 4000000 in
theorem c72 (S0 : Mp) {w0 : World} (b1 : Nat) (r_0 : rtcp_reader) (v2 : Value) (f3 : Rd S0 1 (RI .u8) v2 r_0.b_) (size_1 : Int) (hs : St w0 [b1] S0 S0 [.box b1 #[v2, .int .i64 r_0.at_, .bool r_0.bad_] 101] w0) (r : (Int × rtcp_reader)) (h0 : rtcp_reader_num r_0 size_1 = some r) :
    Calls Try.prog 72 #[.pointer (some ⟨b1, 0, none⟩), .int .i64 size_1] w0 (Re (Po72 S0 w0 [b1] b1 r)) := by
 unfold rtcp_reader_num at h0
 refine calls_of_cd Try.func72 rfl Try.ntmps72 rfl ?_
 refine Cd.sr ?_
 refine Rg.st rfl rfl ?_
 refine Rg.go ?_
 refine Cd.seq ?_
 obtain ⟨p8, hp9, h0⟩ := bind_s h0
 obtain ⟨j6, j7⟩ := p8
 dsimp only at h0
 refine Cd.post (fun K w => ∃ (S10 : Mp), K = [(0, .pointer (some ⟨b1, 0, none⟩)), (1, .int .i64 size_1), (5, .int .u64 j6), (6, .bool j7)] ∧ Le S0 S10 ∧ St w0 [b1] S0 S10 [.box b1 #[v2, .int .i64 r_0.at_, .bool r_0.bad_] 101] w) ?_ ?_
 ·rintro K13 w11 ⟨S10, rfl, le12, hs⟩
  refine Cd.go ?_
  refine Cd.sr ?_
  refine Rg.mv rfl rfl ?_
  refine Rg.mv rfl rfl ?_
  refine Rg.vN (X.nilCheck rfl) rfl ?_
  refine Rg.vN (X.fieldB Try.underlying101 rfl zz4 rfl rfl) rfl ?_
  refine Rg.vN (X.load1 Try.underlying4 rfl rfl (hs.cell 0 rfl 2 rfl)) rfl ?_
  refine Rg.mv rfl rfl ?_
  refine Rg.vF rfl rfl rfl (fun hW => X.move rfl) ?_
  refine Rg.vF rfl rfl rfl (fun hW => X.not (ev_g rfl hW)) ?_
  refine Rg.vN (X.pickOr rfl rfl rfl) rfl ?_
  refine Rg.vN (X.nilCheck rfl) rfl ?_
  refine Rg.vN (X.fieldB Try.underlying101 rfl zz4 rfl rfl) rfl ?_
  refine Rg.step rfl (Oq.store hs 0 rfl 2 zz4 rfl rfl rfl rfl rfl [.box b1 #[v2, .int .i64 r_0.at_, .bool (r_0.bad_ || (!j7))] 101] rfl (fun w14 hs => ?_))
  refine Rg.go ?_
  refine Cd.sr ?_
  refine Rg.mv rfl rfl ?_
  refine Rg.vN (X.nilCheck rfl) rfl ?_
  refine Rg.vN (X.fieldB Try.underlying101 rfl zz3 rfl rfl) rfl ?_
  refine Rg.weak [(1, .int .i64 size_1), (5, .int .u64 j6), (31, .pointer (some ⟨b1, 0, none⟩)), (33, .pointer (some ⟨b1, 1, none⟩))] ⟨rfl, rfl, rfl, rfl, trivial⟩ ?_
  refine Rg.vN (X.load1 Try.underlying3 rfl rfl (hs.cell 0 rfl 1 rfl)) rfl ?_
  refine Rg.mv rfl rfl ?_
  refine Rg.vN (X.add rfl rfl) rfl ?_
  refine Rg.vN (X.nilCheck rfl) rfl ?_
  refine Rg.vN (X.fieldB Try.underlying101 rfl zz3 rfl rfl) rfl ?_
  refine Rg.step rfl (Oq.store hs 0 rfl 1 zz3 rfl rfl rfl rfl rfl [.box b1 #[v2, .int .i64 (add .i64 r_0.at_ size_1), .bool (r_0.bad_ || (!j7))] 101] rfl (fun w15 hs => ?_))
  refine Rg.go ?_
  refine Cd.sr ?_
  refine Rg.mv rfl rfl ?_
  refine Rg.st rfl rfl ?_
  refine Rg.go ?_
  refine Cd.ret ?_
  obtain rfl := some_s h0
  exact fun a ha => Cd.retA (R := Re (Po72 S0 w0 [b1] b1 _)) ha Try.results72 ⟨_, _, rfl, rfl, rfl⟩ ⟨_, rfl, S10, v2, rfl, hs, (f3.mono le12)⟩
 ·skip
  refine Cd.rD mixed (fun l w => Has S0 w ∧ Hp b1 #[v2, .int .i64 r_0.at_, .bool r_0.bad_] 101 w) hs (fun _ _ _ _ _ h => h) (by kernel_rfl) (fun w16 hs => ⟨⟨hs.has, (hs.heap 0 rfl)⟩, ?_⟩)
  refine Rk.tN 0 rfl rfl (fun _ _ => X.move rfl) ?_
  refine Rk.tN 1 rfl rfl (fun _ _ => X.nilCheck rfl) ?_
  refine Rk.tN 2 rfl rfl (fun _ _ => X.fieldB Try.underlying101 rfl zz31 rfl rfl) ?_
  refine Rk.tN 3 rfl rfl (fun w hc => X.load1 Try.underlying31 rfl rfl (heap_cell hc.2 rfl)) ?_
  refine Rk.tN 4 rfl rfl (fun _ _ => X.move rfl) ?_
  refine Rk.tN 5 rfl rfl (fun _ _ => X.nilCheck rfl) ?_
  refine Rk.tN 6 rfl rfl (fun _ _ => X.fieldB Try.underlying101 rfl zz3 rfl rfl) ?_
  refine Rk.tN 7 rfl rfl (fun w hc => X.load1 Try.underlying3 rfl rfl (heap_cell hc.2 rfl)) ?_
  refine Rk.tN 8 rfl rfl (fun _ _ => X.move rfl) ?_
  obtain ⟨x17, hx18, hp9⟩ := bind_s hp9
  refine Rk.eN 9 rfl rfl (Oq.call Try.call60 rfl rfl (c60 S0 (St.start _ _ hs.has) _ _ f3 _ _ _ hx18) (fun v19 w20 h21 => ?_))
  obtain ⟨S22, rfl, hs23⟩ := h21
  have le24 := hs23.le
  have hs := hs.call0 hs23
  refine ⟨⟨(hs.has.down le24), (hs.heap 0 rfl)⟩, Rk.mk (C' := fun l w => Has S22 w ∧ Hp b1 #[v2, .int .i64 r_0.at_, .bool r_0.bad_] 101 w) ⟨hs.has, (hs.heap 0 rfl)⟩ (fun l w hc => ⟨hc.1.down le24, hc.2⟩) ?_⟩
  refine Rk.tN 10 rfl rfl (fun _ _ => X.move rfl) ?_
  refine Rk.tN 11 rfl rfl (fun _ _ => X.extract rfl rfl) ?_
  refine Rk.tN 12 rfl rfl (fun _ _ => X.extract rfl rfl) ?_
  refine Rk.tN 13 rfl rfl (fun _ _ => X.assign rfl) ?_
  refine Rk.tN 14 rfl rfl (fun _ _ => X.assign rfl) ?_
  refine Rk.done ?_
  cases some_s hp9
  exact fun a ha => ⟨[(0, .pointer (some ⟨b1, 0, none⟩)), (1, .int .i64 size_1), (5, .int .u64 x17.1), (6, .bool x17.2)], ha.weak ⟨rfl, rfl, rfl, rfl, trivial⟩, S22, rfl, le24, hs⟩
noncomputable def rtcp_reader_nought (r_0 : rtcp_reader) (size_1 : Int) : Option rtcp_reader :=
 (rtcp_reader_num (⟨r_0.b_, r_0.at_, r_0.bad_⟩ : rtcp_reader) size_1).bind fun x6 =>
 some (⟨x6.2.b_, x6.2.at_, (x6.1 != 0) || x6.2.bad_⟩ : rtcp_reader)
def Po73 (S0 : Mp) (w0 : World) (D : List Nat) (b1 : Nat) (r : rtcp_reader) (v : Value) (w1 : World) : Prop :=
  ∃ (S1 : Mp) (v5 : Value), v = .tuple #[] ∧ St w0 D S0 S1 [.box b1 #[v5, .int .i64 r.at_, .bool r.bad_] 101] w1 ∧ Rd S1 1 (RI .u8) v5 r.b_
set_option maxHeartbeats 4000000 in
theorem c73 (S0 : Mp) {w0 : World} (b1 : Nat) (r_0 : rtcp_reader) (v2 : Value) (f3 : Rd S0 1 (RI .u8) v2 r_0.b_) (size_1 : Int) (hs : St w0 [b1] S0 S0 [.box b1 #[v2, .int .i64 r_0.at_, .bool r_0.bad_] 101] w0) (r : rtcp_reader) (h0 : rtcp_reader_nought r_0 size_1 = some r) :
    Calls Try.prog 73 #[.pointer (some ⟨b1, 0, none⟩), .int .i64 size_1] w0 (Re (Po73 S0 w0 [b1] b1 r)) := by
 unfold rtcp_reader_nought at h0
 refine calls_of_cd Try.func73 rfl Try.ntmps73 rfl ?_
 refine Cd.region ?_
 refine Rg.mv rfl rfl ?_
 refine Rg.mv rfl rfl ?_
 refine Rg.mv rfl rfl ?_
 obtain ⟨x6, hx7, h0⟩ := bind_s h0
 refine Rg.step rfl (Oq.call Try.call72 rfl rfl (c72 S0 _ (⟨r_0.b_, r_0.at_, r_0.bad_⟩ : rtcp_reader) _ f3 _ (hs.enter 0 rfl rfl) _ hx7) (fun v8 w9 h10 => ?_))
 obtain ⟨S11, v14, rfl, hs12, f15⟩ := h10
 have le13 := hs12.le
 have hs := hs.call1 0 rfl rfl hs12
 refine Rg.vN (X.neq rfl rfl) rfl ?_
 refine Rg.mv rfl rfl ?_
 refine Rg.vF rfl rfl rfl (fun hW => X.move rfl) ?_
 refine Rg.vF rfl rfl rfl (fun hW => X.nilCheck (ev_g rfl hW)) ?_
 refine Rg.vF rfl rfl rfl (fun hW => X.fieldB Try.underlying101 rfl zz4 (ev_g rfl hW) rfl) ?_
 refine Rg.vF rfl rfl rfl (fun hW => X.load1 Try.underlying4 rfl (ev_g rfl hW) (hs.cell 0 rfl 2 rfl)) ?_
 refine Rg.vN (X.pickOr rfl rfl rfl) rfl ?_
 refine Rg.vN (X.nilCheck rfl) rfl ?_
 refine Rg.vN (X.fieldB Try.underlying101 rfl zz4 rfl rfl) rfl ?_
 refine Rg.step rfl (Oq.store hs 0 rfl 2 zz4 rfl rfl rfl rfl rfl [.box b1 #[v14, .int .i64 x6.2.at_, .bool ((x6.1 != 0) || x6.2.bad_)] 101] rfl (fun w16 hs => ?_))
 refine Rg.nil ?_
 obtain rfl := some_s h0
 exact fun a ha => Cd.fallA (R := Re (Po73 S0 w0 [b1] b1 _)) ha Try.results73 ⟨_, rfl, S11, v14, rfl, hs, f15⟩
noncomputable def rtcp_reader_left (r_0 : rtcp_reader) : Option (Bool × rtcp_reader) :=
 some ((!r_0.bad_) && (decide (r_0.at_ < (r_0.b_.length : Int))), r_0)
def Po74 (S0 : Mp) (w0 : World) (D : List Nat) (b1 : Nat) (r : (Bool × rtcp_reader)) (v : Value) (w1 : World) : Prop :=
  ∃ (S1 : Mp) (v5 : Value), v = .bool r.1 ∧ St w0 D S0 S1 [.box b1 #[v5, .int .i64 r.2.at_, .bool r.2.bad_] 101] w1 ∧ Rd S1 1 (RI .u8) v5 r.2.b_
set_option maxHeartbeats 4000000 in
theorem c74 (S0 : Mp) {w0 : World} (b1 : Nat) (r_0 : rtcp_reader) (v2 : Value) (f3 : Rd S0 1 (RI .u8) v2 r_0.b_) (hs : St w0 [b1] S0 S0 [.box b1 #[v2, .int .i64 r_0.at_, .bool r_0.bad_] 101] w0) (r : (Bool × rtcp_reader)) (h0 : rtcp_reader_left r_0 = some r) :
    Calls Try.prog 74 #[.pointer (some ⟨b1, 0, none⟩)] w0 (Re (Po74 S0 w0 [b1] b1 r)) := by
 unfold rtcp_reader_left at h0
 refine calls_of_cd Try.func74 rfl Try.ntmps74 rfl ?_
 refine Cd.sr ?_
 refine Rg.st rfl rfl ?_
 refine Rg.go ?_
 refine Cd.seq ?_
 refine Cd.rD mixed (fun l w => Has S0 w ∧ Hp b1 #[v2, .int .i64 r_0.at_, .bool r_0.bad_] 101 w) hs (fun _ _ _ _ _ h => h) (by kernel_rfl) (fun w6 hs => ⟨⟨hs.has, (hs.heap 0 rfl)⟩, ?_⟩)
 refine Rk.tN 0 rfl rfl (fun _ _ => X.move rfl) ?_
 refine Rk.tN 1 rfl rfl (fun _ _ => X.nilCheck rfl) ?_
 refine Rk.tN 2 rfl rfl (fun _ _ => X.fieldB Try.underlying101 rfl zz4 rfl rfl) ?_
 refine Rk.tN 3 rfl rfl (fun w hc => X.load1 Try.underlying4 rfl rfl (heap_cell hc.2 rfl)) ?_
 refine Rk.tN 4 rfl rfl (fun _ _ => X.not rfl) ?_
 refine Rk.tN 5 rfl rfl (fun _ _ => X.move rfl) ?_
 refine Rk.tT 6 rfl rfl rfl rfl (fun hW => fun _ _ => X.move rfl) ?_
 refine Rk.tT 7 rfl rfl rfl rfl (fun hW => fun _ _ => X.nilCheck (ev_g rfl hW)) ?_
 refine Rk.tT 8 rfl rfl rfl rfl (fun hW => fun _ _ => X.fieldB Try.underlying101 rfl zz3 (ev_g rfl hW) rfl) ?_
 refine Rk.tT 9 rfl rfl rfl rfl (fun hW => fun w hc => X.load1 Try.underlying3 rfl (ev_g rfl hW) (heap_cell hc.2 rfl)) ?_
 refine Rk.tT 10 rfl rfl rfl rfl (fun hW => fun _ _ => X.move rfl) ?_
 refine Rk.tT 11 rfl rfl rfl rfl (fun hW => fun _ _ => X.nilCheck (ev_g rfl hW)) ?_
 refine Rk.tT 12 rfl rfl rfl rfl (fun hW => fun _ _ => X.fieldB Try.underlying101 rfl zz31 (ev_g rfl hW) rfl) ?_
 refine Rk.tT 13 rfl rfl rfl rfl (fun hW => fun w hc => X.load1 Try.underlying31 rfl (ev_g rfl hW) (heap_cell hc.2 rfl)) ?_
 refine Rk.weak [(2, .bool false), (8, .bool (!r_0.bad_)), (12, gv (!r_0.bad_) (.int .i64 r_0.at_)), (16, gv (!r_0.bad_) (v2))] ⟨rfl, rfl, rfl, rfl, trivial⟩ ?_
 refine Rk.tT 14 rfl rfl rfl rfl (fun hW => fun _ _ => X.lenR Try.underlying31 (ev_g rfl hW) f3) ?_
 refine Rk.tT 15 rfl rfl rfl rfl (fun hW => fun _ _ => X.lss (ev_g rfl hW) (ev_g rfl hW)) ?_
 refine Rk.tN 16 rfl rfl (fun _ _ => X.pickAnd rfl rfl rfl) ?_
 refine Rk.tN 17 rfl rfl (fun _ _ => X.assign rfl) ?_
 refine Rk.done ?_
 refine Cd.go ?_
 refine Cd.ret ?_
 obtain rfl := some_s h0
 exact fun a ha => Cd.retA (R := Re (Po74 S0 w0 [b1] b1 _)) ha Try.results74 ⟨_, _, rfl, rfl, rfl⟩ ⟨_, rfl, S0, v2, rfl, hs, f3⟩
noncomputable def rtcp_reader_rate (r_0 : rtcp_reader) (n_1 : Int) (bits_2 : Int) : Option (Int × rtcp_reader) :=
 gd ((0 : Int) ≤ bits_2) (
  gd ((0 : Int) ≤ bits_2) (
   (rate_Open (cv .i64 (shr .u64 n_1 bits_2)) (cv .u32 (band .u64 n_1 (sub .u64 (shl .u64 1 bits_2) 1))) bits_2).bind fun x9 =>
   ((
    if r_0.bad_ = true then (
     some true)
    else (
     gd ((0 : Int) ≤ (cv .i64 (shr .u64 n_1 bits_2))) (
      some ((shr .u64 x9 (cv .i64 (shr .u64 n_1 bits_2))) != (cv .u64 (cv .u32 (band .u64 n_1 (sub .u64 (shl .u64 1 bits_2) 1))))))) : Option Bool)).bind fun p18 =>
   some (x9, (⟨r_0.b_, r_0.at_, p18⟩ : rtcp_reader))))
def Po81 (S0 : Mp) (w0 : World) (D : List Nat) (b1 : Nat) (r : (Int × rtcp_reader)) (v : Value) (w1 : World) : Prop :=
  ∃ (S1 : Mp) (v5 : Value), v = .int .u64 r.1 ∧ St w0 D S0 S1 [.box b1 #[v5, .int .i64 r.2.at_, .bool r.2.bad_] 101] w1 ∧ Rd S1 1 (RI .u8) v5 r.2.b_
set_option maxHeartbeats 4000000 in
theorem c81 (S0 : Mp) {w0 : World} (b1 : Nat) (r_0 : rtcp_reader) (v2 : Value) (f3 : Rd S0 1 (RI .u8) v2 r_0.b_) (n_1 : Int) (bits_2 : Int) (hs : St w0 [b1] S0 S0 [.box b1 #[v2, .int .i64 r_0.at_, .bool r_0.bad_] 101] w0) (r : (Int × rtcp_reader)) (h0 : rtcp_reader_rate r_0 n_1 bits_2 = some r) :
    Calls Try.prog 81 #[.pointer (some ⟨b1, 0, none⟩), .int .u64 n_1, .int .i64 bits_2] w0 (Re (Po81 S0 w0 [b1] b1 r)) := by
 unfold rtcp_reader_rate at h0
 refine calls_of_cd Try.func81 rfl Try.ntmps81 rfl ?_
 refine Cd.sr ?_
 refine Rg.st rfl rfl ?_
 refine Rg.go ?_
 refine Cd.seq ?_
 refine Cd.rD mixed (fun l w => Has S0 w) hs (fun _ _ _ _ _ h => h) (by kernel_rfl) (fun w6 hs => ⟨hs.has, ?_⟩)
 refine Rk.tN 0 rfl rfl (fun _ _ => X.move rfl) ?_
 refine Rk.tN 1 rfl rfl (fun _ _ => X.move rfl) ?_
 obtain ⟨hg7, h0⟩ := gd_s h0
 refine Rk.tN 2 rfl rfl (fun _ _ => X.shr rfl rfl hg7) ?_
 refine Rk.tN 3 rfl rfl (fun _ _ => X.conv Try.underlying30 Try.underlying3 rfl) ?_
 refine Rk.tN 4 rfl rfl (fun _ _ => X.move rfl) ?_
 refine Rk.tN 5 rfl rfl (fun _ _ => X.move rfl) ?_
 obtain ⟨hg8, h0⟩ := gd_s h0
 refine Rk.tN 6 rfl rfl (fun _ _ => X.shl rfl rfl hg8) ?_
 refine Rk.tN 7 rfl rfl (fun _ _ => X.sub rfl rfl) ?_
 refine Rk.tN 8 rfl rfl (fun _ _ => X.and rfl rfl) ?_
 refine Rk.tN 9 rfl rfl (fun _ _ => X.conv Try.underlying30 Try.underlying27 rfl) ?_
 refine Rk.tN 10 rfl rfl (fun _ _ => X.assign rfl) ?_
 refine Rk.tN 11 rfl rfl (fun _ _ => X.assign rfl) ?_
 refine Rk.done ?_
 refine Cd.go ?_
 refine Cd.sr ?_
 refine Rg.mv rfl rfl ?_
 refine Rg.mv rfl rfl ?_
 refine Rg.weak [(0, .pointer (some ⟨b1, 0, none⟩)), (2, .int .i64 bits_2), (7, .int .i64 (cv .i64 (shr .u64 n_1 bits_2))), (8, .int .u32 (cv .u32 (band .u64 n_1 (sub .u64 (shl .u64 1 bits_2) 1)))), (20, .int .i64 (cv .i64 (shr .u64 n_1 bits_2))), (21, .int .u32 (cv .u32 (band .u64 n_1 (sub .u64 (shl .u64 1 bits_2) 1))))] ⟨rfl, rfl, rfl, rfl, rfl, rfl, trivial⟩ ?_
 refine Rg.mv rfl rfl ?_
 obtain ⟨x9, hx10, h0⟩ := bind_s h0
 refine Rg.step rfl (Oq.call Try.call78 rfl rfl (c78 S0 (St.start _ _ hs.has) _ _ _ _ hx10) (fun v11 w12 h13 => ?_))
 obtain ⟨S14, rfl, hs15⟩ := h13
 have le16 := hs15.le
 have hs := hs.call0 hs15
 refine Rg.st rfl rfl ?_
 refine Rg.go ?_
 refine Cd.seq ?_
 obtain ⟨p18, hp19, h0⟩ := bind_s h0
 refine Cd.post (fun K w => ∃ (S20 : Mp), K = [(9, .int .u64 x9)] ∧ Le S14 S20 ∧ St w0 [b1] S0 S20 [.box b1 #[v2, .int .i64 r_0.at_, .bool p18] 101] w) ?_ ?_
 ·rintro K23 w21 ⟨S20, rfl, le22, hs⟩
  refine Cd.go ?_
  refine Cd.sr ?_
  refine Rg.mv rfl rfl ?_
  refine Rg.st rfl rfl ?_
  refine Rg.go ?_
  refine Cd.ret ?_
  obtain rfl := some_s h0
  exact fun a ha => Cd.retA (R := Re (Po81 S0 w0 [b1] b1 _)) ha Try.results81 ⟨_, _, rfl, rfl, rfl⟩ ⟨_, rfl, S20, v2, rfl, hs, (f3.mono (le16.trans le22))⟩
 ·skip
  refine Cd.region ?_
  refine Rg.mv rfl rfl ?_
  refine Rg.mv rfl rfl ?_
  refine Rg.vN (X.nilCheck rfl) rfl ?_
  refine Rg.vN (X.fieldB Try.underlying101 rfl zz4 rfl rfl) rfl ?_
  refine Rg.vN (X.load1 Try.underlying4 rfl rfl (hs.cell 0 rfl 2 rfl)) rfl ?_
  refine Rg.mv rfl rfl ?_
  refine Rg.vF rfl rfl rfl (fun hW => X.move rfl) ?_
  refine Rg.weak [(7, .int .i64 (cv .i64 (shr .u64 n_1 bits_2))), (8, .int .u32 (cv .u32 (band .u64 n_1 (sub .u64 (shl .u64 1 bits_2) 1)))), (9, .int .u64 x9), (24, .pointer (some ⟨b1, 0, none⟩)), (29, .bool r_0.bad_), (30, gv (!r_0.bad_) (.int .u64 x9))] ⟨rfl, rfl, rfl, rfl, rfl, rfl, trivial⟩ ?_
  refine Rg.vF rfl rfl rfl (fun hW => X.move rfl) ?_
  refine Rg.split (c := r_0.bad_) (tj := 29) rfl (fun hc24 => ?_) (fun hc24 => ?_)
  ·have hp19 := ite_t hc24 hp19
   refine Rg.weak [(8, .int .u32 (cv .u32 (band .u64 n_1 (sub .u64 (shl .u64 1 bits_2) 1)))), (9, .int .u64 x9), (24, .pointer (some ⟨b1, 0, none⟩)), (29, .bool true), (30, undef), (31, undef)] ⟨rfl, rfl, rfl, rfl, get_u rfl (nn hc24), get_u rfl (nn hc24), trivial⟩ ?_
   refine Rg.vO rfl rfl rfl rfl ?_
   refine Rg.vO rfl rfl rfl rfl ?_
   refine Rg.vO rfl rfl rfl rfl ?_
   refine Rg.vO rfl rfl rfl rfl ?_
   refine Rg.vN (X.pickT rfl rfl) rfl ?_
   refine Rg.vN (X.nilCheck rfl) rfl ?_
   refine Rg.vN (X.fieldB Try.underlying101 rfl zz4 rfl rfl) rfl ?_
   refine Rg.step rfl (Oq.store hs 0 rfl 2 zz4 rfl rfl rfl rfl rfl [.box b1 #[v2, .int .i64 r_0.at_, .bool true] 101] rfl (fun w25 hs => ?_))
   refine Rg.nil ?_
   obtain rfl := some_s hp19
   exact fun a ha => ⟨[(9, .int .u64 x9)], ha.weak ⟨rfl, trivial⟩, S14, rfl, Le.refl _, hs⟩
  ·have hp19 := ite_f hc24 hp19
   refine Rg.weak [(8, .int .u32 (cv .u32 (band .u64 n_1 (sub .u64 (shl .u64 1 bits_2) 1)))), (9, .int .u64 x9), (24, .pointer (some ⟨b1, 0, none⟩)), (29, .bool false), (30, .int .u64 x9), (31, .int .i64 (cv .i64 (shr .u64 n_1 bits_2)))] ⟨rfl, rfl, rfl, rfl, get_g rfl (not_f hc24), get_g rfl (not_f hc24), trivial⟩ ?_
   refine Rg.gon rfl rfl rfl ?_
   obtain ⟨hg26, hp19⟩ := gd_s hp19
   refine Rg.vN (X.shr rfl rfl hg26) rfl ?_
   refine Rg.gon rfl rfl rfl ?_
   refine Rg.mv rfl rfl ?_
   refine Rg.gon rfl rfl rfl ?_
   refine Rg.vN (X.conv Try.underlying27 Try.underlying30 rfl) rfl ?_
   refine Rg.gon rfl rfl rfl ?_
   refine Rg.vN (X.neq rfl rfl) rfl ?_
   refine Rg.vN (X.pickF rfl rfl) rfl ?_
   refine Rg.vN (X.nilCheck rfl) rfl ?_
   refine Rg.vN (X.fieldB Try.underlying101 rfl zz4 rfl rfl) rfl ?_
   refine Rg.step rfl (Oq.store hs 0 rfl 2 zz4 rfl rfl rfl rfl rfl [.box b1 #[v2, .int .i64 r_0.at_, .bool ((shr .u64 x9 (cv .i64 (shr .u64 n_1 bits_2))) != (cv .u64 (cv .u32 (band .u64 n_1 (sub .u64 (shl .u64 1 bits_2) 1)))))] 101] rfl (fun w27 hs => ?_))
   refine Rg.nil ?_
   obtain rfl := some_s hp19
   exact fun a ha => ⟨[(9, .int .u64 x9)], ha.weak ⟨rfl, trivial⟩, S14, rfl, Le.refl _, hs⟩
noncomputable def rtcp_reader_tuple (r_0 : rtcp_reader) : Option (api_Tuple × rtcp_reader) :=
 (rtcp_reader_num (⟨r_0.b_, r_0.at_, r_0.bad_⟩ : rtcp_reader) 4).bind fun x9 =>
 (rtcp_reader_num (⟨x9.2.b_, x9.2.at_, x9.2.bad_⟩ : rtcp_reader) 4).bind fun x23 =>
 (rtcp_reader_rate (⟨x23.2.b_, x23.2.at_, x23.2.bad_⟩ : rtcp_reader) (shr .u64 x23.1 9) 17).bind fun x34 =>
 some ((⟨cv .u32 x9.1, x34.1, cv .i64 (band .u64 x23.1 511)⟩ : api_Tuple), x34.2)
def Po75 (S0 : Mp) (w0 : World) (D : List Nat) (b1 : Nat) (r : (api_Tuple × rtcp_reader)) (v : Value) (w1 : World) : Prop :=
  ∃ (S1 : Mp) (v5 : Value), v = .agg (#[.int .u32 r.1.Owner, .int .u64 r.1.Rate, .int .i64 r.1.Over]) ∧ St w0 D S0 S1 [.box b1 #[v5, .int .i64 r.2.at_, .bool r.2.bad_] 101] w1 ∧ Rd S1 1 (RI .u8) v5 r.2.b_
set_option maxHeartbeats 4000000 in
theorem c75 (S0 : Mp) {w0 : World} (b1 : Nat) (r_0 : rtcp_reader) (v2 : Value) (f3 : Rd S0 1 (RI .u8) v2 r_0.b_) (hs : St w0 [b1] S0 S0 [.box b1 #[v2, .int .i64 r_0.at_, .bool r_0.bad_] 101] w0) (r : (api_Tuple × rtcp_reader)) (h0 : rtcp_reader_tuple r_0 = some r) :
    Calls Try.prog 75 #[.pointer (some ⟨b1, 0, none⟩)] w0 (Re (Po75 S0 w0 [b1] b1 r)) := by
 unfold rtcp_reader_tuple at h0
 refine calls_of_cd Try.func75 rfl Try.ntmps75 rfl ?_
 refine Cd.sr ?_
 refine Rg.step rfl (Oq.alloc (cs := #[.int .u32 0, .int .u64 0, .int .i64 0]) hs ii57 rfl rfl rfl (fun b6 w7 hs => ?_))
 refine Rg.go ?_
 refine Cd.sr ?_
 refine Rg.mv rfl rfl ?_
 obtain ⟨x9, hx10, h0⟩ := bind_s h0
 refine Rg.step rfl (Oq.call Try.call72 rfl rfl (c72 S0 _ (⟨r_0.b_, r_0.at_, r_0.bad_⟩ : rtcp_reader) _ f3 _ (hs.enter 1 rfl rfl) _ hx10) (fun v11 w12 h13 => ?_))
 obtain ⟨S14, v17, rfl, hs15, f18⟩ := h13
 have le16 := hs15.le
 have hs := hs.call1 1 rfl rfl hs15
 refine Rg.vN (X.conv Try.underlying30 Try.underlying27 rfl) rfl ?_
 refine Rg.vN (X.build (zc := [.int .u32 0, .int .u64 0, .int .i64 0]) (cells := [.int .u32 (cv .u32 x9.1), .int .u64 0, .int .i64 0]) ii57 rfl rfl Try.underlying57 (pp57 _ Try.underlying57) ⟨_, [.int .u32 (cv .u32 x9.1)], _, rfl, rfl, rfl, rfl⟩ rfl) rfl ?_
 refine Rg.step rfl (Oq.alloc (cs := #[.int .u32 0, .int .u64 0, .int .i64 0]) hs ii57 rfl rfl rfl (fun b19 w20 hs => ?_))
 refine Rg.step rfl (Oq.storeN hs 0 rfl (vals := [.int .u32 (cv .u32 x9.1), .int .u64 0, .int .i64 0]) zz57 rfl rfl (one_all ⟨rfl, rfl, rfl, trivial⟩) rfl [.box b19 #[.int .u32 (cv .u32 x9.1), .int .u64 0, .int .i64 0] 57, .box b1 #[v17, .int .i64 x9.2.at_, .bool x9.2.bad_] 101, .box b6 #[.int .u32 0, .int .u64 0, .int .i64 0] 57] rfl (fun w22 hs => ?_))
 refine Rg.go ?_
 refine Cd.sr ?_
 refine Rg.mv rfl rfl ?_
 obtain ⟨x23, hx24, h0⟩ := bind_s h0
 refine Rg.step rfl (Oq.call Try.call72 rfl rfl (c72 S14 _ (⟨x9.2.b_, x9.2.at_, x9.2.bad_⟩ : rtcp_reader) _ f18 _ (hs.enter 1 rfl rfl) _ hx24) (fun v25 w26 h27 => ?_))
 obtain ⟨S28, v31, rfl, hs29, f32⟩ := h27
 have le30 := hs29.le
 have hs := hs.call1 1 rfl rfl hs29
 refine Rg.st rfl rfl ?_
 refine Rg.go ?_
 refine Cd.sr ?_
 refine Rg.mv rfl rfl ?_
 refine Rg.vN (X.and rfl rfl) rfl ?_
 refine Rg.vN (X.conv Try.underlying30 Try.underlying3 rfl) rfl ?_
 refine Rg.vN (X.fieldB Try.underlying57 rfl zz3 rfl rfl) rfl ?_
 refine Rg.step rfl (Oq.store hs 1 rfl 2 zz3 rfl rfl rfl rfl rfl [.box b1 #[v31, .int .i64 x23.2.at_, .bool x23.2.bad_] 101, .box b19 #[.int .u32 (cv .u32 x9.1), .int .u64 0, .int .i64 (cv .i64 (band .u64 x23.1 511))] 57, .box b6 #[.int .u32 0, .int .u64 0, .int .i64 0] 57] rfl (fun w33 hs => ?_))
 refine Rg.go ?_
 refine Cd.sr ?_
 refine Rg.mv rfl rfl ?_
 refine Rg.mv rfl rfl ?_
 refine Rg.vN (X.shr rfl rfl (by decide)) rfl ?_
 obtain ⟨x34, hx35, h0⟩ := bind_s h0
 refine Rg.step rfl (Oq.call Try.call81 rfl rfl (c81 S28 _ (⟨x23.2.b_, x23.2.at_, x23.2.bad_⟩ : rtcp_reader) _ f32 _ _ (hs.enter 0 rfl rfl) _ hx35) (fun v36 w37 h38 => ?_))
 obtain ⟨S39, v42, rfl, hs40, f43⟩ := h38
 have le41 := hs40.le
 have hs := hs.call1 0 rfl rfl hs40
 refine Rg.vN (X.fieldB Try.underlying57 rfl zz30 rfl rfl) rfl ?_
 refine Rg.step rfl (Oq.store hs 1 rfl 1 zz30 rfl rfl rfl rfl rfl [.box b1 #[v42, .int .i64 x34.2.at_, .bool x34.2.bad_] 101, .box b19 #[.int .u32 (cv .u32 x9.1), .int .u64 x34.1, .int .i64 (cv .i64 (band .u64 x23.1 511))] 57, .box b6 #[.int .u32 0, .int .u64 0, .int .i64 0] 57] rfl (fun w44 hs => ?_))
 refine Rg.go ?_
 refine Cd.sr ?_
 refine Rg.vN (X.loadN (vals := [.int .u32 (cv .u32 x9.1), .int .u64 x34.1, .int .i64 (cv .i64 (band .u64 x23.1 511))]) Try.underlying57 rfl zz57 rfl (hs.range 1 rfl 0 rfl)) rfl ?_
 refine Rg.step rfl (Oq.storeN hs 2 rfl (vals := [.int .u32 (cv .u32 x9.1), .int .u64 x34.1, .int .i64 (cv .i64 (band .u64 x23.1 511))]) zz57 rfl rfl (one_all ⟨rfl, rfl, rfl, trivial⟩) rfl [.box b1 #[v42, .int .i64 x34.2.at_, .bool x34.2.bad_] 101, .box b19 #[.int .u32 (cv .u32 x9.1), .int .u64 x34.1, .int .i64 (cv .i64 (band .u64 x23.1 511))] 57, .box b6 #[.int .u32 (cv .u32 x9.1), .int .u64 x34.1, .int .i64 (cv .i64 (band .u64 x23.1 511))] 57] rfl (fun w45 hs => ?_))
 refine Rg.go ?_
 refine Cd.ret ?_
 obtain rfl := some_s h0
 exact fun a ha => Cd.retA (R := Re (Po75 S0 w0 [b1] b1 _)) ha Try.results75 ⟨_, _, _, rfl, rfl, run_lvN (vals := [.int .u32 (cv .u32 x9.1), .int .u64 x34.1, .int .i64 (cv .i64 (band .u64 x23.1 511))]) Try.underlying57 rfl zz57 (hs.range 2 rfl 0 rfl), rfl⟩ ⟨_, rfl, S39, v42, rfl, (hs.pick [0] (by decide) rfl), f43⟩
end Go.Lk
