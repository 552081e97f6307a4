/- A part of this proof: RtcpTells returns true for every input and leaves its arguments as they were; there are no conditions. -/
import Derived.Test.YtnpgmljphheabaaP4
set_option linter.unusedVariables false
set_option linter.unusedSimpArgs false
set_option maxRecDepth 100000
namespace Go.Lk
open Go.RowKit Go.Proofs
noncomputable def limelightref6_short_l0 (o_1 : api_Report) (q57 : Int) (q58 : (List Int)) : Option (Flow (Int × (List Int)) (List Int)) :=
 if (decide (q57 < (o_1.Tuples.length : Int))) = true then (
  ((
   (ix o_1.Tuples q57).bind fun x83 =>
   (limelightref1_Pack x83.Rate 17).bind fun x94 =>
   ((
    gd ((0 : Int) ≤ (add .i64 16 (mul .i64 8 q57)) ∧ (add .i64 16 (mul .i64 8 q57)) < (q58.length : Int)) (
     (limelightref6_words ([bor .u32 (bor .u32 (shl .u32 (cv .u32 x94.1) 26) (shl .u32 x94.2 9)) (cv .u32 x83.Over)] : List Int)).bind fun x126 =>
     some (cpy q58 (add .i64 16 (mul .i64 8 q57)) x126)) : Option (List Int))).bind fun p103 =>
   some p103 : Option (List Int))).bind fun p73 =>
  some (Flow.next (add .i64 q57 1, p73)))
 else (
  some (Flow.brk (q57, q58)))
noncomputable def limelightref6_short (G_0 : (List Int)) (o_1 : api_Report) : Option (List Int) :=
 (app 1 ([] : List Int) G_0).bind fun y24 =>
 ((
  if ((o_1.Kind == 5) && (decide (20 ≤ (G_0.length : Int)))) = true then (
   (limelightref1_Pack o_1.Rate 18).bind fun x145 =>
   ((
    gd ((0 : Int) ≤ 16 ∧ 16 < (y24.length : Int)) (
     (ix G_0 16).bind fun x170 =>
     (limelightref6_words ([bor .u32 (bor .u32 (shl .u32 (cv .u32 x170) 24) (shl .u32 (cv .u32 x145.1) 18)) x145.2] : List Int)).bind fun x184 =>
     some (cpy y24 16 x184)) : Option (List Int))).bind fun p154 =>
   some p154)
  else (
   some y24) : Option (List Int))).bind fun p32 =>
 (loopF (fun sg => limelightref6_short_l0 o_1 sg.1 sg.2) (0, p32)).bind fun fl42 =>
 Flow.el fl42 (fun s141 => (
  none))
 (fun s142 => (
  some s142.2))
 (fun r143 => (
  none))
def Po57 (S0 : Mp) (w0 : World) (D : List Nat) (r : (List Int)) (v : Value) (w1 : World) : Prop :=
  ∃ (S1 : Mp) (v11 : Value), v = v11 ∧ St w0 D S0 S1 [] w1 ∧ Rd S1 1 (RI .u8) v11 r
set_option maxHeartbeats 4000000 in
theorem c57 (S0 : Mp) {w0 : World} (hs : St w0 [] S0 S0 [] w0) (G_0 : (List Int)) (v1 : Value) (f2 : Rd S0 1 (RI .u8) v1 G_0) (o_1 : api_Report) (v3 : Value) (f4 : Rd S0 3 R_api_Tuple v3 o_1.Tuples) (v5 : Value) (f6 : Rd S0 1 (RI .u32) v5 o_1.Abouts) (v7 : Value) (f8 : Rd S0 1 (RI .i64) v7 o_1.Numbers) (v9 : Value) (f10 : Rd S0 1 (RI .u8) v9 o_1.Body) (r : (List Int)) (h0 : limelightref6_short G_0 o_1 = some r) :
    Calls Try.prog 57 #[v1, .agg (#[.int .i64 o_1.Kind, .int .u32 o_1.From, .int .u32 o_1.About, v3, v5, v7, .int .u64 o_1.Rate, .int .i64 o_1.Type_, .int .i64 o_1.Count, v9])] w0 (Re (Po57 S0 w0 [] r)) := by
 unfold limelightref6_short at h0
 refine calls_of_cd Try.func57 rfl Try.ntmps57 rfl ?_
 refine Cd.sr ?_
 refine Rg.step rfl (Oq.box (cs := #[.int .i64 o_1.Kind, .int .u32 o_1.From, .int .u32 o_1.About, v3, v5, v7, .int .u64 o_1.Rate, .int .i64 o_1.Type_, .int .i64 o_1.Count, v9]) hs rfl rfl rfl (fun b12 w13 hs => ?_))
 refine Rg.st rfl rfl ?_
 refine Rg.go ?_
 refine Cd.sr ?_
 refine Rg.step rfl (Oq.litRow (sz := 1) (R := (RI .u8)) (xs := ([] : List Int)) (cs0 := []) (cells := []) hs Try.underlying31 ii5 rfl rfl rfl rfl rfl rfl rfl rfl rfl rfl rfl rfl (fun v20 w16 b15 cur21 hs f22 => ?_))
 refine Rg.mv rfl rfl ?_
 obtain ⟨y24, hx25, h0⟩ := bind_s h0
 refine Rg.step rfl (Oq.appendRow hs 0 rfl Try.underlying31 ii5 rfl rfl rfl rfl rfl rfl f22 f2 hx25 rfl rfl rfl (fun v26 w27 g28 cur29 hs f30 => ?_))
 refine Rg.st rfl rfl ?_
 refine Rg.go ?_
 refine Cd.seq ?_
 refine Cd.sr ?_
 refine Rg.vN (X.fieldB Try.underlying33 rfl zz3 rfl rfl) rfl ?_
 refine Rg.vN (X.load1 Try.underlying3 rfl rfl (hs.cell 1 rfl 0 rfl)) rfl ?_
 refine Rg.vN (X.eql rfl rfl) rfl ?_
 refine Rg.mv rfl rfl ?_
 refine Rg.vT rfl rfl rfl (fun hW => X.move rfl) ?_
 refine Rg.vT rfl rfl rfl (fun hW => X.lenR Try.underlying31 (ev_g rfl hW) f2) ?_
 refine Rg.vT rfl rfl rfl (fun hW => X.geq (ev_g rfl hW) rfl) ?_
 refine Rg.vN (X.pickAnd rfl rfl rfl) rfl ?_
 refine Rg.go ?_
 obtain ⟨p32, hp33, h0⟩ := bind_s h0
 refine Cd.post (fun K w => ∃ (S34 : Mp) (v37 : Value) (g38 : Option Nat) (cur39 : Array Value), K = [(3, .pointer (some ⟨b12, 0, none⟩)), (5, v37)] ∧ Le S0 S34 ∧ St w0 [] S0 S34 [.row g38 cur39 5, .box b12 #[.int .i64 o_1.Kind, .int .u32 o_1.From, .int .u32 o_1.About, v3, v5, v7, .int .u64 o_1.Rate, .int .i64 o_1.Type_, .int .i64 o_1.Count, v9] 33] w ∧ Rw S34 1 (RI .u8) g38 cur39 v37 p32) ?_ ?_
 ·rintro K41 w35 ⟨S34, v37, g38, cur39, rfl, le36, hs, f40⟩
  refine Cd.go ?_
  refine Cd.seq ?_
  refine Cd.sr ?_
  refine Rg.vN (X.fieldB Try.underlying33 rfl zz28 rfl rfl) rfl ?_
  refine Rg.vN (X.load1 Try.underlying28 rfl rfl (hs.cell 1 rfl 3 rfl)) rfl ?_
  refine Rg.vN (X.lenR Try.underlying28 rfl (f4.mono le36)) rfl ?_
  refine Rg.mv rfl rfl ?_
  refine Rg.go ?_
  refine Cd.weak [(5, v37), (46, v3), (47, .int .i64 (o_1.Tuples.length : Int)), (48, .int .i64 0)] ⟨rfl, rfl, rfl, rfl, trivial⟩ ?_
  obtain ⟨fl42, hfl43, h0⟩ := bind_s h0
  refine Cd.post (fun K w => ∃ (j44 : Int) (j45 : (List Int)) (S46 : Mp) (v48 : Value) (g49 : Option Nat) (cur50 : Array Value), K = [(5, v48)] ∧ fl42 = Flow.brk (j44, j45) ∧ Le S34 S46 ∧ St w0 [] S0 S46 [.row g49 cur50 5] w ∧ Rw S46 1 (RI .u8) g49 cur50 v48 j45) ?_ ?_
  ·rintro K53 w52 ⟨j44, j45, S46, v48, g49, cur50, rfl, rfl, le47, hs, f51⟩
   have h0 := el_brk h0
   try dsimp only at h0
   refine Cd.go ?_
   refine Cd.sr ?_
   refine Rg.mv rfl rfl ?_
   refine Rg.st rfl rfl ?_
   refine Rg.go ?_
   refine Cd.ret ?_
   obtain ⟨S54, hs, le55, f56⟩ := hs.sealRow 0 rfl f51
   obtain rfl := some_s h0
   exact fun a ha => Cd.retA (R := Re (Po57 S0 w0 [] _)) ha Try.results57 ⟨_, _, rfl, rfl, rfl⟩ ⟨_, rfl, S54, v48, rfl, (hs.pick [] (by decide) rfl), f56⟩
  ·skip
   refine Cd.weak [(5, v37), (46, v3), (47, .int .i64 (o_1.Tuples.length : Int)), (48, .int .i64 0)] ⟨rfl, rfl, rfl, rfl, trivial⟩ ?_
   refine Cd.block (Cd.loop (fun sg => limelightref6_short_l0 o_1 sg.1 sg.2) (fun (sg : (Int × (List Int))) K w => ∃ (S59 : Mp) (v61 : Value) (g62 : Option Nat) (cur63 : Array Value), K = [(5, v61), (46, v3), (47, .int .i64 (o_1.Tuples.length : Int)), (48, .int .i64 sg.1)] ∧ Le S34 S59 ∧ St w0 [] S0 S59 [.row g62 cur63 5] w ∧ Rw S59 1 (RI .u8) g62 cur63 v61 sg.2) (0, p32) fl42 hfl43 ⟨S34, v37, g38, cur39, rfl, Le.refl _, (hs.pick [0] (by decide) rfl), f40⟩ ?_)
   rintro ⟨q57, q58⟩ fl65 K70 w69 hb66 ⟨S59, v61, g62, cur63, rfl, le60, hs, f64⟩ hl67
   have h68 : limelightref6_short_l0 o_1 q57 q58 = some fl65 := hb66
   unfold limelightref6_short_l0 at h68
   refine Cd.sr ?_
   refine Rg.vN (X.lss rfl rfl) rfl ?_
   refine Rg.go ?_
   refine Cd.seq ?_
   refine Cd.cond (t := decide (q57 < (o_1.Tuples.length : Int))) rfl (fun hc71 => ?_) (fun hc71 => ?_)
   ·have h68 := ite_t hc71 h68
    refine Cd.sg ?_
    refine Cd.seq ?_
    obtain ⟨p73, hp74, h68⟩ := bind_s h68
    refine Cd.post (fun K w => ∃ (S75 : Mp) (v78 : Value) (g79 : Option Nat) (cur80 : Array Value), K = [(5, v78), (46, v3), (47, .int .i64 (o_1.Tuples.length : Int)), (48, .int .i64 q57)] ∧ Le S59 S75 ∧ St w0 [] S0 S75 [.row g79 cur80 5] w ∧ Rw S75 1 (RI .u8) g79 cur80 v78 p73) ?_ ?_
    ·rintro K82 w76 ⟨S75, v78, g79, cur80, rfl, le77, hs, f81⟩
     refine Cd.go ?_
     refine Cd.region ?_
     refine Rg.vN (X.add rfl rfl) rfl ?_
     refine Rg.mv rfl rfl ?_
     refine Rg.nil ?_
     exact fun a ha => ⟨(add .i64 q57 1, p73), [(5, v78), (46, v3), (47, .int .i64 (o_1.Tuples.length : Int)), (48, .int .i64 (add .i64 q57 1))], (some_s h68).symm, ha.weak ⟨rfl, rfl, rfl, rfl, trivial⟩, S75, v78, g79, cur80, rfl, (le60.trans le77), hs, f81⟩
    ·skip
     refine Cd.block ?_
     refine Cd.sr ?_
     refine Rg.mv rfl rfl ?_
     obtain ⟨x83, hx84, hp74⟩ := bind_s hp74
     obtain ⟨ad85, vals86, _, hR87, hE88, hX89⟩ := mk_index Try.underlying28 zz57 (by decide) (f4.mono (le36.trans le60)) hx84
     unfold R_api_Tuple at hR87
     subst hR87
     refine Rg.vN (hX89 rfl rfl) rfl ?_
     refine Rg.vN (X.loadE (vals := [.int .u32 x83.Owner, .int .u64 x83.Rate, .int .i64 x83.Over]) hs.has Try.underlying57 rfl zz57 rfl hE88) rfl ?_
     refine Rg.step rfl (Oq.alloc (cs := #[.int .u32 0, .int .u64 0, .int .i64 0]) hs ii57 rfl rfl rfl (fun b90 w91 hs => ?_))
     refine Rg.st rfl rfl ?_
     refine Rg.step rfl (Oq.storeN hs 0 rfl (vals := [.int .u32 x83.Owner, .int .u64 x83.Rate, .int .i64 x83.Over]) zz57 rfl rfl (one_all ⟨rfl, rfl, rfl, trivial⟩) rfl [.box b90 #[.int .u32 x83.Owner, .int .u64 x83.Rate, .int .i64 x83.Over] 57, .row g62 cur63 5] rfl (fun w93 hs => ?_))
     refine Rg.go ?_
     refine Cd.sr ?_
     refine Rg.vN (X.fieldB Try.underlying57 rfl zz30 rfl rfl) rfl ?_
     refine Rg.vN (X.load1 Try.underlying30 rfl rfl (hs.cell 0 rfl 1 rfl)) rfl ?_
     obtain ⟨x94, hx95, hp74⟩ := bind_s hp74
     refine Rg.step rfl (Oq.call Try.call48 rfl rfl (c48 S59 (St.start _ _ hs.has) _ _ _ hx95) (fun v96 w97 h98 => ?_))
     obtain ⟨S99, rfl, hs100⟩ := h98
     have le101 := hs100.le
     have hs := hs.call0 hs100
     refine Rg.mv rfl rfl ?_
     refine Rg.vN (X.extract rfl rfl) rfl ?_
     refine Rg.vN (X.extract rfl rfl) rfl ?_
     refine Rg.st rfl rfl ?_
     refine Rg.st rfl rfl ?_
     refine Rg.go ?_
     refine Cd.weak [(5, v61), (8, .int .i64 q57), (9, .pointer (some ⟨b90, 0, none⟩)), (10, .int .i64 x94.1), (11, .int .u32 x94.2), (46, v3), (47, .int .i64 (o_1.Tuples.length : Int)), (48, .int .i64 q57)] ⟨rfl, rfl, rfl, rfl, rfl, rfl, rfl, rfl, trivial⟩ ?_
     obtain ⟨p103, hp104, hp74⟩ := bind_s hp74
     refine Cd.post (fun K w => ∃ (S105 : Mp) (v108 : Value) (g109 : Option Nat) (cur110 : Array Value), K = [(5, v108), (46, v3), (47, .int .i64 (o_1.Tuples.length : Int)), (48, .int .i64 q57)] ∧ Le S99 S105 ∧ St w0 [] S0 S105 [.row g109 cur110 5] w ∧ Rw S105 1 (RI .u8) g109 cur110 v108 p103) ?_ ?_
     ·rintro K112 w106 ⟨S105, v108, g109, cur110, rfl, le107, hs, f111⟩
      obtain rfl := some_s hp74
      exact fun a ha => ⟨[(5, v108), (46, v3), (47, .int .i64 (o_1.Tuples.length : Int)), (48, .int .i64 q57)], ha.weak ⟨rfl, rfl, rfl, rfl, trivial⟩, S105, v108, g109, cur110, rfl, (le101.trans le107), hs, f111⟩
     ·skip
      refine Cd.rD mixed (fun l w => Has S99 w ∧ Hp b90 #[.int .u32 x83.Owner, .int .u64 x83.Rate, .int .i64 x83.Over] 57 w) hs (fun _ _ _ _ _ h => h) (by kernel_rfl) (fun w113 hs => ⟨⟨hs.has, (hs.heap 0 rfl)⟩, ?_⟩)
      refine Rk.tN 0 rfl rfl (fun _ _ => X.move rfl) ?_
      refine Rk.tN 1 rfl rfl (fun _ _ => X.move rfl) ?_
      refine Rk.tN 2 rfl rfl (fun _ _ => X.mul rfl rfl) ?_
      refine Rk.tN 3 rfl rfl (fun _ _ => X.add rfl rfl) ?_
      obtain ⟨hb114, hp104⟩ := gd_s hp104
      obtain ⟨b115, c116, hg117, hX118⟩ := mk_rowfrom Try.underlying31 zz5 (f64.mono le101) hb114
      subst hg117
      refine Rk.tN 4 rfl rfl (fun _ _ => hX118 rfl rfl) ?_
      refine Rk.tN 5 rfl rfl (fun _ _ => X.move rfl) ?_
      refine Rk.tN 6 rfl rfl (fun _ _ => X.conv Try.underlying3 Try.underlying27 rfl) ?_
      refine Rk.tN 7 rfl rfl (fun _ _ => X.shl rfl rfl (by decide)) ?_
      refine Rk.tN 8 rfl rfl (fun _ _ => X.move rfl) ?_
      refine Rk.tN 9 rfl rfl (fun _ _ => X.shl rfl rfl (by decide)) ?_
      refine Rk.tN 10 rfl rfl (fun _ _ => X.or rfl rfl) ?_
      refine Rk.tN 11 rfl rfl (fun _ _ => X.fieldB Try.underlying57 rfl zz3 rfl rfl) ?_
      refine Rk.weak [(5, v61), (46, v3), (47, .int .i64 (o_1.Tuples.length : Int)), (48, .int .i64 q57), (63, .slice (some ⟨b115, (add .i64 16 (mul .i64 8 q57)).toNat * 1, none⟩) (q58.length - (add .i64 16 (mul .i64 8 q57)).toNat) c116), (69, .int .u32 (bor .u32 (shl .u32 (cv .u32 x94.1) 26) (shl .u32 x94.2 9))), (70, .pointer (some ⟨b90, 2, none⟩))] ⟨rfl, rfl, rfl, rfl, rfl, rfl, rfl, trivial⟩ ?_
      refine Rk.tN 12 rfl rfl (fun w hc => X.load1 Try.underlying3 rfl rfl (heap_cell hc.2 rfl)) ?_
      refine Rk.tN 13 rfl rfl (fun _ _ => X.conv Try.underlying3 Try.underlying27 rfl) ?_
      refine Rk.tN 14 rfl rfl (fun _ _ => X.or rfl rfl) ?_
      refine Rk.eN 15 rfl rfl (Oq.lit (sz := 1) (cs0 := [.int .u32 0]) (cells := [.int .u32 (bor .u32 (bor .u32 (shl .u32 (cv .u32 x94.1) 26) (shl .u32 x94.2 9)) (cv .u32 x83.Over))]) hs Try.underlying29 ii27 rfl rfl rfl rfl rfl rfl ⟨_, [.int .u32 (bor .u32 (bor .u32 (shl .u32 (cv .u32 x94.1) 26) (shl .u32 x94.2 9)) (cv .u32 x83.Over))], _, rfl, rfl, rfl, rfl⟩ rfl rfl rfl (fun b119 w120 S121 hs le122 hE123 => ?_))
      have f125 : Rd S121 1 (RI .u32) (.slice (some ⟨b119, 0, none⟩) 1 1) ([bor .u32 (bor .u32 (shl .u32 (cv .u32 x94.1) 26) (shl .u32 x94.2 9)) (cv .u32 x83.Over)] : List Int) := Rd.of_cells (xs := ([bor .u32 (bor .u32 (shl .u32 (cv .u32 x94.1) 26) (shl .u32 x94.2 9)) (cv .u32 x83.Over)] : List Int)) ⟨[.int .u32 (bor .u32 (bor .u32 (shl .u32 (cv .u32 x94.1) 26) (shl .u32 x94.2 9)) (cv .u32 x83.Over))], _, rfl, rfl, one_all ⟨rfl, trivial⟩, rfl, rfl⟩ hE123 (Nat.le_of_ble_eq_true rfl) (Nat.le_of_ble_eq_true rfl)
      refine ⟨⟨(hs.has.down le122), (hs.heap 1 rfl)⟩, Rk.mk (C' := fun l w => Has S121 w ∧ Hp b90 #[.int .u32 x83.Owner, .int .u64 x83.Rate, .int .i64 x83.Over] 57 w) ⟨hs.has, (hs.heap 1 rfl)⟩ (fun l w hc => ⟨hc.1.down le122, hc.2⟩) ?_⟩
      obtain ⟨x126, hx127, hp104⟩ := bind_s hp104
      refine Rk.eN 16 rfl rfl (Oq.call Try.call68 rfl rfl (c68 S121 (St.start _ _ hs.has) _ _ f125 _ hx127) (fun v128 w129 h130 => ?_))
      obtain ⟨S131, v134, g136, rfl, hs132, f135⟩ := h130
      have le133 := hs132.le
      have hs := hs.call0 hs132
      refine ⟨⟨(hs.has.down le133), (hs.heap 2 rfl)⟩, Rk.mk (C' := fun l w => Has S131 w ∧ Hp b90 #[.int .u32 x83.Owner, .int .u64 x83.Rate, .int .i64 x83.Over] 57 w) ⟨hs.has, (hs.heap 2 rfl)⟩ (fun l w hc => ⟨hc.1.down le133, hc.2⟩) ?_⟩
      refine Rk.eN 17 rfl rfl (Oq.copyRow (c := c116) hs 3 rfl Try.underlying31 zz5 (f64.mono (le101.trans (le122.trans le133))) hb114 f135 rfl rfl rfl (fun w138 cur139 hs f140 => ?_))
      refine ⟨⟨hs.has, (hs.heap 2 rfl)⟩, ?_⟩
      refine Rk.done ?_
      obtain rfl := some_s hp104
      exact fun a ha => ⟨[(5, v61), (46, v3), (47, .int .i64 (o_1.Tuples.length : Int)), (48, .int .i64 q57)], ha.weak ⟨rfl, rfl, rfl, rfl, trivial⟩, S131, v61, (some b115), cur139, rfl, (le122.trans le133), (hs.pick [3] (by decide) rfl), f140⟩
   ·have h68 := ite_f hc71 h68
    refine Cd.exit ?_
    obtain rfl := some_s h68
    have e := hl67 (fun _ e => by cases e)
    exact fun a ha => ⟨[(5, v61)], ha.weak ⟨rfl, trivial⟩, _, _, S59, v61, g62, cur63, rfl, e.symm, le60, hs, f64⟩
 ·skip
  refine Cd.cond (t := (o_1.Kind == 5) && (decide (20 ≤ (G_0.length : Int)))) rfl (fun hc144 => ?_) (fun hc144 => ?_)
  ·have hp33 := ite_t hc144 hp33
   refine Cd.sr ?_
   refine Rg.vN (X.fieldB Try.underlying33 rfl zz30 rfl rfl) rfl ?_
   refine Rg.vN (X.load1 Try.underlying30 rfl rfl (hs.cell 1 rfl 6 rfl)) rfl ?_
   obtain ⟨x145, hx146, hp33⟩ := bind_s hp33
   refine Rg.step rfl (Oq.call Try.call48 rfl rfl (c48 S0 (St.start _ _ hs.has) _ _ _ hx146) (fun v147 w148 h149 => ?_))
   obtain ⟨S150, rfl, hs151⟩ := h149
   have le152 := hs151.le
   have hs := hs.call0 hs151
   refine Rg.mv rfl rfl ?_
   refine Rg.vN (X.extract rfl rfl) rfl ?_
   refine Rg.weak [(0, v1), (3, .pointer (some ⟨b12, 0, none⟩)), (5, v26), (23, .tuple #[.int .i64 x145.1, .int .u32 x145.2]), (27, .int .i64 x145.1)] ⟨rfl, rfl, rfl, rfl, rfl, trivial⟩ ?_
   refine Rg.vN (X.extract rfl rfl) rfl ?_
   refine Rg.st rfl rfl ?_
   refine Rg.st rfl rfl ?_
   refine Rg.go ?_
   obtain ⟨p154, hp155, hp33⟩ := bind_s hp33
   refine Cd.post (fun K w => ∃ (S156 : Mp) (v159 : Value) (g160 : Option Nat) (cur161 : Array Value), K = [(3, .pointer (some ⟨b12, 0, none⟩)), (5, v159)] ∧ Le S150 S156 ∧ St w0 [] S0 S156 [.row g160 cur161 5, .box b12 #[.int .i64 o_1.Kind, .int .u32 o_1.From, .int .u32 o_1.About, v3, v5, v7, .int .u64 o_1.Rate, .int .i64 o_1.Type_, .int .i64 o_1.Count, v9] 33] w ∧ Rw S156 1 (RI .u8) g160 cur161 v159 p154) ?_ ?_
   ·rintro K163 w157 ⟨S156, v159, g160, cur161, rfl, le158, hs, f162⟩
    obtain rfl := some_s hp33
    exact fun a ha => ⟨[(3, .pointer (some ⟨b12, 0, none⟩)), (5, v159)], ha.weak ⟨rfl, rfl, trivial⟩, S156, v159, g160, cur161, rfl, (le152.trans le158), hs, f162⟩
   ·skip
    refine Cd.rD mixed (fun l w => Has S150 w) hs (fun _ _ _ _ _ h => h) (by kernel_rfl) (fun w164 hs => ⟨hs.has, ?_⟩)
    refine Rk.tN 0 rfl rfl (fun _ _ => X.move rfl) ?_
    obtain ⟨hb165, hp155⟩ := gd_s hp155
    obtain ⟨b166, c167, hg168, hX169⟩ := mk_rowfrom Try.underlying31 zz5 (f30.mono le152) hb165
    subst hg168
    refine Rk.tN 1 rfl rfl (fun _ _ => hX169 rfl rfl) ?_
    refine Rk.tN 2 rfl rfl (fun _ _ => X.move rfl) ?_
    obtain ⟨x170, hx171, hp155⟩ := bind_s hp155
    obtain ⟨ad172, vals173, _, hR174, hE175, hX176⟩ := mk_index Try.underlying31 zz5 (by decide) (f2.mono le152) hx171
    obtain rfl : vals173 = [.int .u8 x170] := hR174
    refine Rk.tN 3 rfl rfl (fun _ _ => hX176 rfl rfl) ?_
    refine Rk.tN 4 rfl rfl (fun w hc => X.load1 Try.underlying5 rfl rfl (hE175.at0 rfl hc)) ?_
    refine Rk.tN 5 rfl rfl (fun _ _ => X.conv Try.underlying5 Try.underlying27 rfl) ?_
    refine Rk.tN 6 rfl rfl (fun _ _ => X.shl rfl rfl (by decide)) ?_
    refine Rk.tN 7 rfl rfl (fun _ _ => X.move rfl) ?_
    refine Rk.tN 8 rfl rfl (fun _ _ => X.conv Try.underlying3 Try.underlying27 rfl) ?_
    refine Rk.tN 9 rfl rfl (fun _ _ => X.shl rfl rfl (by decide)) ?_
    refine Rk.weak [(3, .pointer (some ⟨b12, 0, none⟩)), (5, v26), (7, .int .u32 x145.2), (30, .slice (some ⟨b166, (16 : Int).toNat * 1, none⟩) (y24.length - (16 : Int).toNat) c167), (35, .int .u32 (shl .u32 (cv .u32 x170) 24)), (38, .int .u32 (shl .u32 (cv .u32 x145.1) 18))] ⟨rfl, rfl, rfl, rfl, rfl, rfl, trivial⟩ ?_
    refine Rk.tN 10 rfl rfl (fun _ _ => X.or rfl rfl) ?_
    refine Rk.tN 11 rfl rfl (fun _ _ => X.move rfl) ?_
    refine Rk.tN 12 rfl rfl (fun _ _ => X.or rfl rfl) ?_
    refine Rk.eN 13 rfl rfl (Oq.lit (sz := 1) (cs0 := [.int .u32 0]) (cells := [.int .u32 (bor .u32 (bor .u32 (shl .u32 (cv .u32 x170) 24) (shl .u32 (cv .u32 x145.1) 18)) x145.2)]) hs Try.underlying29 ii27 rfl rfl rfl rfl rfl rfl ⟨_, [.int .u32 (bor .u32 (bor .u32 (shl .u32 (cv .u32 x170) 24) (shl .u32 (cv .u32 x145.1) 18)) x145.2)], _, rfl, rfl, rfl, rfl⟩ rfl rfl rfl (fun b177 w178 S179 hs le180 hE181 => ?_))
    have f183 : Rd S179 1 (RI .u32) (.slice (some ⟨b177, 0, none⟩) 1 1) ([bor .u32 (bor .u32 (shl .u32 (cv .u32 x170) 24) (shl .u32 (cv .u32 x145.1) 18)) x145.2] : List Int) := Rd.of_cells (xs := ([bor .u32 (bor .u32 (shl .u32 (cv .u32 x170) 24) (shl .u32 (cv .u32 x145.1) 18)) x145.2] : List Int)) ⟨[.int .u32 (bor .u32 (bor .u32 (shl .u32 (cv .u32 x170) 24) (shl .u32 (cv .u32 x145.1) 18)) x145.2)], _, rfl, rfl, one_all ⟨rfl, trivial⟩, rfl, rfl⟩ hE181 (Nat.le_of_ble_eq_true rfl) (Nat.le_of_ble_eq_true rfl)
    refine ⟨(hs.has.down le180), Rk.mk (C' := fun l w => Has S179 w) hs.has (fun l w hc => hc.down le180) ?_⟩
    obtain ⟨x184, hx185, hp155⟩ := bind_s hp155
    refine Rk.eN 14 rfl rfl (Oq.call Try.call68 rfl rfl (c68 S179 (St.start _ _ hs.has) _ _ f183 _ hx185) (fun v186 w187 h188 => ?_))
    obtain ⟨S189, v192, g194, rfl, hs190, f193⟩ := h188
    have le191 := hs190.le
    have hs := hs.call0 hs190
    refine ⟨(hs.has.down le191), Rk.mk (C' := fun l w => Has S189 w) hs.has (fun l w hc => hc.down le191) ?_⟩
    refine Rk.eN 15 rfl rfl (Oq.copyRow (c := c167) hs 2 rfl Try.underlying31 zz5 (f30.mono (le152.trans (le180.trans le191))) hb165 f193 rfl rfl rfl (fun w196 cur197 hs f198 => ?_))
    refine ⟨hs.has, ?_⟩
    refine Rk.done ?_
    obtain rfl := some_s hp155
    exact fun a ha => ⟨[(3, .pointer (some ⟨b12, 0, none⟩)), (5, v26)], ha.weak ⟨rfl, rfl, trivial⟩, S189, v26, (some b166), cur197, rfl, (le180.trans le191), (hs.pick [2, 3] (by decide) rfl), f198⟩
  ·have hp33 := ite_f hc144 hp33
   refine Cd.skip ?_
   obtain rfl := some_s hp33
   exact fun a ha => ⟨[(3, .pointer (some ⟨b12, 0, none⟩)), (5, v26)], ha.weak ⟨rfl, rfl, trivial⟩, S0, v26, g28, cur29, rfl, Le.refl _, hs, f30⟩
noncomputable def rtcp_one (G_0 : (List Int)) : Option (api_Report × Int × Int) :=
 if (decide ((G_0.length : Int) < 4)) = true then (
  some ((⟨0, 0, 0, ([] : List api_Tuple), ([] : List Int), ([] : List Int), 0, 0, 0, ([] : List Int)⟩ : api_Report), 0, 13))
 else (
  (octet_Get G_0 2 2).bind fun x12 =>
  ((
   ((
    if (decide ((G_0.length : Int) < (add .i64 4 (mul .i64 4 (cv .i64 x12.1))))) = true then (
     some (Flow.ret ((⟨0, 0, 0, ([] : List api_Tuple), ([] : List Int), ([] : List Int), 0, 0, 0, ([] : List Int)⟩ : api_Report), 0, 13)))
    else (
     ((
      (ix G_0 0).bind fun x126 =>
      if ((band .u8 x126 192) != 128) = true then (
       some true)
      else (
       (ix G_0 0).bind fun x134 =>
       if ((band .u8 x134 32) != 0) = true then (
        some true)
       else (
        (ix G_0 1).bind fun x142 =>
        if (decide (x142 < 192)) = true then (
         some true)
        else (
         (ix G_0 1).bind fun x150 =>
         some (decide (223 < x150))))) : Option Bool)).bind fun p118 =>
     if p118 = true then (
      some (Flow.ret ((⟨0, 0, 0, ([] : List api_Tuple), ([] : List Int), ([] : List Int), 0, 0, 0, ([] : List Int)⟩ : api_Report), 0, 12)))
     else (
      some (Flow.next ()))) : Option (Flow Unit (api_Report × Int × Int)))).bind fun p109 =>
   Flow.el p109 (fun s157 => (
    some (Flow.next ())))
   (fun s158 => (
    none))
   (fun r159 => (
    some (Flow.ret r159))) : Option (Flow Unit (api_Report × Int × Int)))).bind fun p20 =>
  Flow.el p20 (fun s160 => (
   ((
    (ix G_0 1).bind fun x48 =>
    (ix G_0 0).bind fun x55 =>
    (cutL G_0 4 (add .i64 4 (mul .i64 4 (cv .i64 x12.1)))).bind fun y65 =>
    (rtcp_parse (cv .i64 x48) (cv .i64 (band .u8 x55 31)) y65).bind fun x69 =>
    some (x69.1, x69.2) : Option (api_Report × Bool))).bind fun p28 =>
   if (!p28.2) = true then (
    some ((⟨0, 0, 0, ([] : List api_Tuple), ([] : List Int), ([] : List Int), 0, 0, 0, ([] : List Int)⟩ : api_Report), 0, 12))
   else (
    some ((⟨p28.1.Kind, p28.1.From, p28.1.About, p28.1.Tuples, p28.1.Abouts, p28.1.Numbers, p28.1.Rate, p28.1.Type_, p28.1.Count, p28.1.Body⟩ : api_Report), add .i64 4 (mul .i64 4 (cv .i64 x12.1)), 0))))
  (fun s161 => (
   none))
  (fun r162 => (
   some r162)))
def Po44 (S0 : Mp) (w0 : World) (D : List Nat) (r : (api_Report × Int × Int)) (v : Value) (w1 : World) : Prop :=
  ∃ (S1 : Mp) (v3 : Value) (v4 : Value) (v5 : Value) (v6 : Value), v = .tuple #[.agg (#[.int .i64 r.1.Kind, .int .u32 r.1.From, .int .u32 r.1.About, v3, v4, v5, .int .u64 r.1.Rate, .int .i64 r.1.Type_, .int .i64 r.1.Count, v6]), .int .i64 r.2.1, .int .i64 r.2.2] ∧ St w0 D S0 S1 [] w1 ∧ Rd S1 3 R_api_Tuple v3 r.1.Tuples ∧ Rd S1 1 (RI .u32) v4 r.1.Abouts ∧ Rd S1 1 (RI .i64) v5 r.1.Numbers ∧ Rd S1 1 (RI .u8) v6 r.1.Body
set_option maxHeartbeats 4000000 in
theorem c44 (S0 : Mp) {w0 : World} (hs : St w0 [] S0 S0 [] w0) (G_0 : (List Int)) (v1 : Value) (f2 : Rd S0 1 (RI .u8) v1 G_0) (r : (api_Report × Int × Int)) (h0 : rtcp_one G_0 = some r) :
    Calls Try.prog 44 #[v1] w0 (Re (Po44 S0 w0 [] r)) := by
 unfold rtcp_one at h0
 refine calls_of_cd Try.func44 rfl Try.ntmps44 rfl ?_
 refine Cd.sr ?_
 refine Rg.step rfl (Oq.alloc (cs := #[.int .i64 0, .int .u32 0, .int .u32 0, .slice none 0 0, .slice none 0 0, .slice none 0 0, .int .u64 0, .int .i64 0, .int .i64 0, .slice none 0 0]) hs ii33 rfl rfl rfl (fun b7 w8 hs => ?_))
 refine Rg.st rfl rfl ?_
 refine Rg.st rfl rfl ?_
 refine Rg.go ?_
 refine Cd.seq ?_
 refine Cd.sr ?_
 refine Rg.mv rfl rfl ?_
 refine Rg.vN (X.lenR Try.underlying31 rfl f2) rfl ?_
 refine Rg.vN (X.lss rfl rfl) rfl ?_
 refine Rg.go ?_
 refine Cd.cond (t := decide ((G_0.length : Int) < 4)) rfl (fun hc10 => ?_) (fun hc10 => ?_)
 ·have h0 := ite_t hc10 h0
  refine Cd.sr ?_
  refine Rg.vN (X.build (zc := [.int .i64 0, .int .u32 0, .int .u32 0, .slice none 0 0, .slice none 0 0, .slice none 0 0, .int .u64 0, .int .i64 0, .int .i64 0, .slice none 0 0]) (cells := [.int .i64 0, .int .u32 0, .int .u32 0, .slice none 0 0, .slice none 0 0, .slice none 0 0, .int .u64 0, .int .i64 0, .int .i64 0, .slice none 0 0]) ii33 rfl rfl Try.underlying33 (pp33 _ Try.underlying33) rfl rfl) rfl ?_
  refine Rg.step rfl (Oq.storeN hs 0 rfl (vals := [.int .i64 0, .int .u32 0, .int .u32 0, .slice none 0 0, .slice none 0 0, .slice none 0 0, .int .u64 0, .int .i64 0, .int .i64 0, .slice none 0 0]) zz33 rfl rfl (one_all ⟨rfl, rfl, rfl, rfl, rfl, rfl, rfl, rfl, rfl, rfl, trivial⟩) rfl [.box b7 #[.int .i64 0, .int .u32 0, .int .u32 0, .slice none 0 0, .slice none 0 0, .slice none 0 0, .int .u64 0, .int .i64 0, .int .i64 0, .slice none 0 0] 33] rfl (fun w11 hs => ?_))
  refine Rg.st rfl rfl ?_
  refine Rg.st rfl rfl ?_
  refine Rg.go ?_
  refine Cd.ret ?_
  obtain rfl := some_s h0
  exact fun a ha => Cd.retA (R := Re (Po44 S0 w0 [] _)) ha Try.results44 ⟨_, _, _, rfl, rfl, run_lvN (vals := [.int .i64 0, .int .u32 0, .int .u32 0, .slice none 0 0, .slice none 0 0, .slice none 0 0, .int .u64 0, .int .i64 0, .int .i64 0, .slice none 0 0]) Try.underlying33 rfl zz33 (hs.range 0 rfl 0 rfl), ⟨_, _, rfl, rfl, ⟨_, _, rfl, rfl, rfl⟩⟩⟩ ⟨_, rfl, S0, (.slice none 0 0), (.slice none 0 0), (.slice none 0 0), (.slice none 0 0), rfl, (hs.pick [] (by decide) rfl), (Rd.nil _ _ _), (Rd.nil _ _ _), (Rd.nil _ _ _), (Rd.nil _ _ _)⟩
 ·have h0 := ite_f hc10 h0
  refine Cd.sg ?_
  refine Cd.sr ?_
  refine Rg.mv rfl rfl ?_
  obtain ⟨x12, hx13, h0⟩ := bind_s h0
  refine Rg.step rfl (Oq.call Try.call60 rfl rfl (c60 S0 (St.start _ _ hs.has) _ _ f2 _ _ _ hx13) (fun v14 w15 h16 => ?_))
  obtain ⟨S17, rfl, hs18⟩ := h16
  have le19 := hs18.le
  have hs := hs.call0 hs18
  refine Rg.mv rfl rfl ?_
  refine Rg.vN (X.extract rfl rfl) rfl ?_
  refine Rg.vN (X.extract rfl rfl) rfl ?_
  refine Rg.st rfl rfl ?_
  refine Rg.st rfl rfl ?_
  refine Rg.go ?_
  refine Cd.sr ?_
  refine Rg.mv rfl rfl ?_
  refine Rg.vN (X.conv Try.underlying30 Try.underlying3 rfl) rfl ?_
  refine Rg.vN (X.mul rfl rfl) rfl ?_
  refine Rg.vN (X.add rfl rfl) rfl ?_
  refine Rg.st rfl rfl ?_
  refine Rg.go ?_
  refine Cd.weak [(0, v1), (2, .pointer (some ⟨b7, 0, none⟩)), (7, .int .i64 (add .i64 4 (mul .i64 4 (cv .i64 x12.1))))] ⟨rfl, rfl, rfl, trivial⟩ ?_
  refine Cd.seq ?_
  obtain ⟨p20, hp21, h0⟩ := bind_s h0
  refine Cd.post (fun K w => ∃ (S22 : Mp), K = [(0, v1), (2, .pointer (some ⟨b7, 0, none⟩)), (7, .int .i64 (add .i64 4 (mul .i64 4 (cv .i64 x12.1))))] ∧ p20 = Flow.next () ∧ Le S17 S22 ∧ St w0 [] S0 S22 [.box b7 #[.int .i64 0, .int .u32 0, .int .u32 0, .slice none 0 0, .slice none 0 0, .slice none 0 0, .int .u64 0, .int .i64 0, .int .i64 0, .slice none 0 0] 33] w) ?_ ?_
  ·rintro K25 w23 ⟨S22, rfl, rfl, le24, hs⟩
   have h0 := el_next h0
   try dsimp only at h0
   refine Cd.go ?_
   refine Cd.seq ?_
   obtain ⟨p28, hp29, h0⟩ := bind_s h0
   obtain ⟨j26, j27⟩ := p28
   dsimp only at h0
   refine Cd.post (fun K w => ∃ (S30 : Mp) (b33 : Nat) (v34 : Value) (v36 : Value) (v38 : Value) (v40 : Value), K = [(2, .pointer (some ⟨b7, 0, none⟩)), (7, .int .i64 (add .i64 4 (mul .i64 4 (cv .i64 x12.1)))), (8, .pointer (some ⟨b33, 0, none⟩)), (9, .bool j27)] ∧ Le S22 S30 ∧ St w0 [] S0 S30 [.box b7 #[.int .i64 0, .int .u32 0, .int .u32 0, .slice none 0 0, .slice none 0 0, .slice none 0 0, .int .u64 0, .int .i64 0, .int .i64 0, .slice none 0 0] 33, .box b33 #[.int .i64 j26.Kind, .int .u32 j26.From, .int .u32 j26.About, v34, v36, v38, .int .u64 j26.Rate, .int .i64 j26.Type_, .int .i64 j26.Count, v40] 33] w ∧ Rd S30 3 R_api_Tuple v34 j26.Tuples ∧ Rd S30 1 (RI .u32) v36 j26.Abouts ∧ Rd S30 1 (RI .i64) v38 j26.Numbers ∧ Rd S30 1 (RI .u8) v40 j26.Body) ?_ ?_
   ·rintro K43 w31 ⟨S30, b33, v34, v36, v38, v40, rfl, le32, hs, f35, f37, f39, f41⟩
    refine Cd.go ?_
    refine Cd.seq ?_
    refine Cd.sr ?_
    refine Rg.mv rfl rfl ?_
    refine Rg.vN (X.not rfl) rfl ?_
    refine Rg.go ?_
    refine Cd.cond (t := !j27) rfl (fun hc44 => ?_) (fun hc44 => ?_)
    ·have h0 := ite_t hc44 h0
     refine Cd.sr ?_
     refine Rg.vN (X.build (zc := [.int .i64 0, .int .u32 0, .int .u32 0, .slice none 0 0, .slice none 0 0, .slice none 0 0, .int .u64 0, .int .i64 0, .int .i64 0, .slice none 0 0]) (cells := [.int .i64 0, .int .u32 0, .int .u32 0, .slice none 0 0, .slice none 0 0, .slice none 0 0, .int .u64 0, .int .i64 0, .int .i64 0, .slice none 0 0]) ii33 rfl rfl Try.underlying33 (pp33 _ Try.underlying33) rfl rfl) rfl ?_
     refine Rg.step rfl (Oq.storeN hs 0 rfl (vals := [.int .i64 0, .int .u32 0, .int .u32 0, .slice none 0 0, .slice none 0 0, .slice none 0 0, .int .u64 0, .int .i64 0, .int .i64 0, .slice none 0 0]) zz33 rfl rfl (one_all ⟨rfl, rfl, rfl, rfl, rfl, rfl, rfl, rfl, rfl, rfl, trivial⟩) rfl [.box b7 #[.int .i64 0, .int .u32 0, .int .u32 0, .slice none 0 0, .slice none 0 0, .slice none 0 0, .int .u64 0, .int .i64 0, .int .i64 0, .slice none 0 0] 33, .box b33 #[.int .i64 j26.Kind, .int .u32 j26.From, .int .u32 j26.About, v34, v36, v38, .int .u64 j26.Rate, .int .i64 j26.Type_, .int .i64 j26.Count, v40] 33] rfl (fun w45 hs => ?_))
     refine Rg.st rfl rfl ?_
     refine Rg.st rfl rfl ?_
     refine Rg.go ?_
     refine Cd.ret ?_
     obtain rfl := some_s h0
     exact fun a ha => Cd.retA (R := Re (Po44 S0 w0 [] _)) ha Try.results44 ⟨_, _, _, rfl, rfl, run_lvN (vals := [.int .i64 0, .int .u32 0, .int .u32 0, .slice none 0 0, .slice none 0 0, .slice none 0 0, .int .u64 0, .int .i64 0, .int .i64 0, .slice none 0 0]) Try.underlying33 rfl zz33 (hs.range 0 rfl 0 rfl), ⟨_, _, rfl, rfl, ⟨_, _, rfl, rfl, rfl⟩⟩⟩ ⟨_, rfl, S30, (.slice none 0 0), (.slice none 0 0), (.slice none 0 0), (.slice none 0 0), rfl, (hs.pick [] (by decide) rfl), (Rd.nil _ _ _), (Rd.nil _ _ _), (Rd.nil _ _ _), (Rd.nil _ _ _)⟩
    ·have h0 := ite_f hc44 h0
     refine Cd.sg ?_
     refine Cd.sr ?_
     refine Rg.vN (X.loadN (vals := [.int .i64 j26.Kind, .int .u32 j26.From, .int .u32 j26.About, v34, v36, v38, .int .u64 j26.Rate, .int .i64 j26.Type_, .int .i64 j26.Count, v40]) Try.underlying33 rfl zz33 rfl (hs.range 1 rfl 0 rfl)) rfl ?_
     refine Rg.mv rfl rfl ?_
     refine Rg.step rfl (Oq.storeN hs 0 rfl (vals := [.int .i64 j26.Kind, .int .u32 j26.From, .int .u32 j26.About, v34, v36, v38, .int .u64 j26.Rate, .int .i64 j26.Type_, .int .i64 j26.Count, v40]) zz33 rfl rfl (one_all ⟨rfl, rfl, rfl, f35.one, f37.one, f39.one, rfl, rfl, rfl, f41.one, trivial⟩) rfl [.box b7 #[.int .i64 j26.Kind, .int .u32 j26.From, .int .u32 j26.About, v34, v36, v38, .int .u64 j26.Rate, .int .i64 j26.Type_, .int .i64 j26.Count, v40] 33, .box b33 #[.int .i64 j26.Kind, .int .u32 j26.From, .int .u32 j26.About, v34, v36, v38, .int .u64 j26.Rate, .int .i64 j26.Type_, .int .i64 j26.Count, v40] 33] rfl (fun w46 hs => ?_))
     refine Rg.st rfl rfl ?_
     refine Rg.st rfl rfl ?_
     refine Rg.go ?_
     refine Cd.ret ?_
     obtain rfl := some_s h0
     exact fun a ha => Cd.retA (R := Re (Po44 S0 w0 [] _)) ha Try.results44 ⟨_, _, _, rfl, rfl, run_lvN (vals := [.int .i64 j26.Kind, .int .u32 j26.From, .int .u32 j26.About, v34, v36, v38, .int .u64 j26.Rate, .int .i64 j26.Type_, .int .i64 j26.Count, v40]) Try.underlying33 rfl zz33 (hs.range 0 rfl 0 rfl), ⟨_, _, rfl, rfl, ⟨_, _, rfl, rfl, rfl⟩⟩⟩ ⟨_, rfl, S30, v34, v36, v38, v40, rfl, (hs.pick [] (by decide) rfl), f35, f37, f39, f41⟩
   ·skip
    refine Cd.rD mixed (fun l w => Has S22 w) hs (fun _ _ _ _ _ h => h) (by kernel_rfl) (fun w47 hs => ⟨hs.has, ?_⟩)
    refine Rk.tN 0 rfl rfl (fun _ _ => X.move rfl) ?_
    obtain ⟨x48, hx49, hp29⟩ := bind_s hp29
    obtain ⟨ad50, vals51, _, hR52, hE53, hX54⟩ := mk_index Try.underlying31 zz5 (by decide) (f2.mono (le19.trans le24)) hx49
    obtain rfl : vals51 = [.int .u8 x48] := hR52
    refine Rk.tN 1 rfl rfl (fun _ _ => hX54 rfl rfl) ?_
    refine Rk.tN 2 rfl rfl (fun w hc => X.load1 Try.underlying5 rfl rfl (hE53.at0 rfl hc)) ?_
    refine Rk.tN 3 rfl rfl (fun _ _ => X.conv Try.underlying5 Try.underlying3 rfl) ?_
    refine Rk.tN 4 rfl rfl (fun _ _ => X.move rfl) ?_
    obtain ⟨x55, hx56, hp29⟩ := bind_s hp29
    obtain ⟨ad57, vals58, _, hR59, hE60, hX61⟩ := mk_index Try.underlying31 zz5 (by decide) (f2.mono (le19.trans le24)) hx56
    obtain rfl : vals58 = [.int .u8 x55] := hR59
    refine Rk.tN 5 rfl rfl (fun _ _ => hX61 rfl rfl) ?_
    refine Rk.tN 6 rfl rfl (fun w hc => X.load1 Try.underlying5 rfl rfl (hE60.at0 rfl hc)) ?_
    refine Rk.tN 7 rfl rfl (fun _ _ => X.and rfl rfl) ?_
    refine Rk.tN 8 rfl rfl (fun _ _ => X.conv Try.underlying5 Try.underlying3 rfl) ?_
    refine Rk.tN 9 rfl rfl (fun _ _ => X.move rfl) ?_
    refine Rk.tN 10 rfl rfl (fun _ _ => X.move rfl) ?_
    obtain ⟨y65, hx66, hp29⟩ := bind_s hp29
    obtain ⟨hb67, he68⟩ := cutL_s hx66
    obtain ⟨v62, f63, hX64⟩ := mk_sliceLH Try.underlying31 zz5 (f2.mono (le19.trans le24)) hb67
    rw [he68] at f63
    refine Rk.tN 11 rfl rfl (fun _ _ => hX64 rfl rfl rfl) ?_
    refine Rk.two 12 16 rfl rfl rfl rfl ?_ ?_
    ·skip
     obtain ⟨x69, hx70, hp29⟩ := bind_s hp29
     refine Oq.call Try.call61 rfl rfl (c61 S22 (St.start _ _ hs.has) _ _ _ _ f63 _ hx70) (fun v71 w72 h73 => ?_)
     obtain ⟨S74, v77, v79, v81, v83, rfl, hs75, f78, f80, f82, f84⟩ := h73
     have le76 := hs75.le
     have hs := hs.call0 hs75
     refine ⟨(hs.has.down le76), Rk.mk (C' := fun l w => Has S74 w) hs.has (fun l w hc => hc.down le76) ?_⟩
     refine Rk.weak [(2, .pointer (some ⟨b7, 0, none⟩)), (7, .int .i64 (add .i64 4 (mul .i64 4 (cv .i64 x12.1)))), (68, .tuple #[.agg (#[.int .i64 x69.1.Kind, .int .u32 x69.1.From, .int .u32 x69.1.About, v77, v79, v81, .int .u64 x69.1.Rate, .int .i64 x69.1.Type_, .int .i64 x69.1.Count, v83]), .bool x69.2])] ⟨rfl, rfl, rfl, trivial⟩ ?_
     refine Rk.tN 13 rfl rfl (fun _ _ => X.move rfl) ?_
     refine Rk.tN 14 rfl rfl (fun _ _ => X.extract rfl rfl) ?_
     refine Rk.tN 15 rfl rfl (fun _ _ => X.extract rfl rfl) ?_
     refine Rk.eN 16 rfl rfl (Oq.alloc (cs := #[.int .i64 0, .int .u32 0, .int .u32 0, .slice none 0 0, .slice none 0 0, .slice none 0 0, .int .u64 0, .int .i64 0, .int .i64 0, .slice none 0 0]) hs ii33 rfl rfl rfl (fun b85 w86 hs => ?_))
     refine ⟨hs.has, ?_⟩
     refine Rk.eN 17 rfl rfl (Oq.storeN hs 0 rfl (vals := [.int .i64 x69.1.Kind, .int .u32 x69.1.From, .int .u32 x69.1.About, v77, v79, v81, .int .u64 x69.1.Rate, .int .i64 x69.1.Type_, .int .i64 x69.1.Count, v83]) zz33 rfl rfl (one_all ⟨rfl, rfl, rfl, f78.one, f80.one, f82.one, rfl, rfl, rfl, f84.one, trivial⟩) rfl [.box b85 #[.int .i64 x69.1.Kind, .int .u32 x69.1.From, .int .u32 x69.1.About, v77, v79, v81, .int .u64 x69.1.Rate, .int .i64 x69.1.Type_, .int .i64 x69.1.Count, v83] 33, .box b7 #[.int .i64 0, .int .u32 0, .int .u32 0, .slice none 0 0, .slice none 0 0, .slice none 0 0, .int .u64 0, .int .i64 0, .int .i64 0, .slice none 0 0] 33] rfl (fun w88 hs => ?_))
     refine ⟨hs.has, ?_⟩
     refine Rk.tN 18 rfl rfl (fun _ _ => X.assign rfl) ?_
     refine Rk.done ?_
     cases some_s hp29
     exact fun a ha => ⟨[(2, .pointer (some ⟨b7, 0, none⟩)), (7, .int .i64 (add .i64 4 (mul .i64 4 (cv .i64 x12.1)))), (8, .pointer (some ⟨b85, 0, none⟩)), (9, .bool x69.2)], ha.weak ⟨rfl, rfl, rfl, rfl, trivial⟩, S74, b85, v77, v79, v81, v83, rfl, le76, (hs.pick [1, 0] (by decide) rfl), f78, f80, f82, f84⟩
    ·skip
     refine Oq.alloc (cs := #[.int .i64 0, .int .u32 0, .int .u32 0, .slice none 0 0, .slice none 0 0, .slice none 0 0, .int .u64 0, .int .i64 0, .int .i64 0, .slice none 0 0]) hs ii33 rfl rfl rfl (fun b89 w90 hs => ?_)
     refine ⟨hs.has, ?_⟩
     obtain ⟨x92, hx93, hp29⟩ := bind_s hp29
     refine Rk.eN 12 rfl rfl (Oq.call Try.call61 rfl rfl (c61 S22 (St.start _ _ hs.has) _ _ _ _ f63 _ hx93) (fun v94 w95 h96 => ?_))
     obtain ⟨S97, v100, v102, v104, v106, rfl, hs98, f101, f103, f105, f107⟩ := h96
     have le99 := hs98.le
     have hs := hs.call0 hs98
     refine ⟨(hs.has.down le99), Rk.mk (C' := fun l w => Has S97 w) hs.has (fun l w hc => hc.down le99) ?_⟩
     refine Rk.weak [(2, .pointer (some ⟨b7, 0, none⟩)), (7, .int .i64 (add .i64 4 (mul .i64 4 (cv .i64 x12.1)))), (8, .pointer (some ⟨b89, 0, none⟩)), (68, .tuple #[.agg (#[.int .i64 x92.1.Kind, .int .u32 x92.1.From, .int .u32 x92.1.About, v100, v102, v104, .int .u64 x92.1.Rate, .int .i64 x92.1.Type_, .int .i64 x92.1.Count, v106]), .bool x92.2])] ⟨rfl, rfl, rfl, rfl, trivial⟩ ?_
     refine Rk.tN 13 rfl rfl (fun _ _ => X.move rfl) ?_
     refine Rk.tN 14 rfl rfl (fun _ _ => X.extract rfl rfl) ?_
     refine Rk.tN 15 rfl rfl (fun _ _ => X.extract rfl rfl) ?_
     refine Rk.eN 17 rfl rfl (Oq.storeN hs 0 rfl (vals := [.int .i64 x92.1.Kind, .int .u32 x92.1.From, .int .u32 x92.1.About, v100, v102, v104, .int .u64 x92.1.Rate, .int .i64 x92.1.Type_, .int .i64 x92.1.Count, v106]) zz33 rfl rfl (one_all ⟨rfl, rfl, rfl, f101.one, f103.one, f105.one, rfl, rfl, rfl, f107.one, trivial⟩) rfl [.box b89 #[.int .i64 x92.1.Kind, .int .u32 x92.1.From, .int .u32 x92.1.About, v100, v102, v104, .int .u64 x92.1.Rate, .int .i64 x92.1.Type_, .int .i64 x92.1.Count, v106] 33, .box b7 #[.int .i64 0, .int .u32 0, .int .u32 0, .slice none 0 0, .slice none 0 0, .slice none 0 0, .int .u64 0, .int .i64 0, .int .i64 0, .slice none 0 0] 33] rfl (fun w108 hs => ?_))
     refine ⟨hs.has, ?_⟩
     refine Rk.tN 18 rfl rfl (fun _ _ => X.assign rfl) ?_
     refine Rk.done ?_
     cases some_s hp29
     exact fun a ha => ⟨[(2, .pointer (some ⟨b7, 0, none⟩)), (7, .int .i64 (add .i64 4 (mul .i64 4 (cv .i64 x12.1)))), (8, .pointer (some ⟨b89, 0, none⟩)), (9, .bool x92.2)], ha.weak ⟨rfl, rfl, rfl, rfl, trivial⟩, S97, b89, v100, v102, v104, v106, rfl, le99, (hs.pick [1, 0] (by decide) rfl), f101, f103, f105, f107⟩
  ·skip
   refine Cd.block ?_
   refine Cd.sr ?_
   refine Rg.mv rfl rfl ?_
   refine Rg.mv rfl rfl ?_
   refine Rg.vN (X.lenR Try.underlying31 rfl (f2.mono le19)) rfl ?_
   refine Rg.vN (X.gtr rfl rfl) rfl ?_
   refine Rg.st rfl rfl ?_
   refine Rg.go ?_
   obtain ⟨p109, hp110, hp21⟩ := bind_s hp21
   refine Cd.post (fun K w => ∃ (S111 : Mp), K = [(0, v1), (2, .pointer (some ⟨b7, 0, none⟩)), (7, .int .i64 (add .i64 4 (mul .i64 4 (cv .i64 x12.1))))] ∧ p109 = Flow.next () ∧ Le S17 S111 ∧ St w0 [] S0 S111 [.box b7 #[.int .i64 0, .int .u32 0, .int .u32 0, .slice none 0 0, .slice none 0 0, .slice none 0 0, .int .u64 0, .int .i64 0, .int .i64 0, .slice none 0 0] 33] w) ?_ ?_
   ·rintro K114 w112 ⟨S111, rfl, rfl, le113, hs⟩
    have hp21 := el_next hp21
    try dsimp only at hp21
    obtain rfl := some_s hp21
    exact fun a ha => ⟨[(0, v1), (2, .pointer (some ⟨b7, 0, none⟩)), (7, .int .i64 (add .i64 4 (mul .i64 4 (cv .i64 x12.1))))], ha.weak ⟨rfl, rfl, rfl, trivial⟩, S111, rfl, rfl, le113, hs⟩
   ·skip
    refine Cd.cond (t := decide ((G_0.length : Int) < (add .i64 4 (mul .i64 4 (cv .i64 x12.1))))) rfl (fun hc115 => ?_) (fun hc115 => ?_)
    ·have hp110 := ite_t hc115 hp110
     refine Cd.sr ?_
     refine Rg.vN (X.build (zc := [.int .i64 0, .int .u32 0, .int .u32 0, .slice none 0 0, .slice none 0 0, .slice none 0 0, .int .u64 0, .int .i64 0, .int .i64 0, .slice none 0 0]) (cells := [.int .i64 0, .int .u32 0, .int .u32 0, .slice none 0 0, .slice none 0 0, .slice none 0 0, .int .u64 0, .int .i64 0, .int .i64 0, .slice none 0 0]) ii33 rfl rfl Try.underlying33 (pp33 _ Try.underlying33) rfl rfl) rfl ?_
     refine Rg.step rfl (Oq.storeN hs 0 rfl (vals := [.int .i64 0, .int .u32 0, .int .u32 0, .slice none 0 0, .slice none 0 0, .slice none 0 0, .int .u64 0, .int .i64 0, .int .i64 0, .slice none 0 0]) zz33 rfl rfl (one_all ⟨rfl, rfl, rfl, rfl, rfl, rfl, rfl, rfl, rfl, rfl, trivial⟩) rfl [.box b7 #[.int .i64 0, .int .u32 0, .int .u32 0, .slice none 0 0, .slice none 0 0, .slice none 0 0, .int .u64 0, .int .i64 0, .int .i64 0, .slice none 0 0] 33] rfl (fun w116 hs => ?_))
     refine Rg.st rfl rfl ?_
     refine Rg.st rfl rfl ?_
     refine Rg.go ?_
     refine Cd.ret ?_
     obtain rfl := some_s hp110
     have hp21 := el_ret hp21
     obtain rfl := some_s hp21
     have h0 := el_ret h0
     obtain rfl := some_s h0
     exact fun a ha => Cd.retA (R := Re (Po44 S0 w0 [] _)) ha Try.results44 ⟨_, _, _, rfl, rfl, run_lvN (vals := [.int .i64 0, .int .u32 0, .int .u32 0, .slice none 0 0, .slice none 0 0, .slice none 0 0, .int .u64 0, .int .i64 0, .int .i64 0, .slice none 0 0]) Try.underlying33 rfl zz33 (hs.range 0 rfl 0 rfl), ⟨_, _, rfl, rfl, ⟨_, _, rfl, rfl, rfl⟩⟩⟩ ⟨_, rfl, S17, (.slice none 0 0), (.slice none 0 0), (.slice none 0 0), (.slice none 0 0), rfl, (hs.pick [] (by decide) rfl), (Rd.nil _ _ _), (Rd.nil _ _ _), (Rd.nil _ _ _), (Rd.nil _ _ _)⟩
    ·have hp110 := ite_f hc115 hp110
     refine Cd.seq ?_
     obtain ⟨p118, hp119, hp110⟩ := bind_s hp110
     refine Cd.post (fun K w => ∃ (S120 : Mp), K = [(0, v1), (2, .pointer (some ⟨b7, 0, none⟩)), (7, .int .i64 (add .i64 4 (mul .i64 4 (cv .i64 x12.1)))), (29, .bool p118)] ∧ Le S17 S120 ∧ St w0 [] S0 S120 [.box b7 #[.int .i64 0, .int .u32 0, .int .u32 0, .slice none 0 0, .slice none 0 0, .slice none 0 0, .int .u64 0, .int .i64 0, .int .i64 0, .slice none 0 0] 33] w) ?_ ?_
     ·rintro K123 w121 ⟨S120, rfl, le122, hs⟩
      refine Cd.go ?_
      refine Cd.cond (t := p118) rfl (fun hc124 => ?_) (fun hc124 => ?_)
      ·have hp110 := ite_t hc124 hp110
       refine Cd.sr ?_
       refine Rg.vN (X.build (zc := [.int .i64 0, .int .u32 0, .int .u32 0, .slice none 0 0, .slice none 0 0, .slice none 0 0, .int .u64 0, .int .i64 0, .int .i64 0, .slice none 0 0]) (cells := [.int .i64 0, .int .u32 0, .int .u32 0, .slice none 0 0, .slice none 0 0, .slice none 0 0, .int .u64 0, .int .i64 0, .int .i64 0, .slice none 0 0]) ii33 rfl rfl Try.underlying33 (pp33 _ Try.underlying33) rfl rfl) rfl ?_
       refine Rg.step rfl (Oq.storeN hs 0 rfl (vals := [.int .i64 0, .int .u32 0, .int .u32 0, .slice none 0 0, .slice none 0 0, .slice none 0 0, .int .u64 0, .int .i64 0, .int .i64 0, .slice none 0 0]) zz33 rfl rfl (one_all ⟨rfl, rfl, rfl, rfl, rfl, rfl, rfl, rfl, rfl, rfl, trivial⟩) rfl [.box b7 #[.int .i64 0, .int .u32 0, .int .u32 0, .slice none 0 0, .slice none 0 0, .slice none 0 0, .int .u64 0, .int .i64 0, .int .i64 0, .slice none 0 0] 33] rfl (fun w125 hs => ?_))
       refine Rg.st rfl rfl ?_
       refine Rg.st rfl rfl ?_
       refine Rg.go ?_
       refine Cd.ret ?_
       obtain rfl := some_s hp110
       have hp21 := el_ret hp21
       obtain rfl := some_s hp21
       have h0 := el_ret h0
       obtain rfl := some_s h0
       exact fun a ha => Cd.retA (R := Re (Po44 S0 w0 [] _)) ha Try.results44 ⟨_, _, _, rfl, rfl, run_lvN (vals := [.int .i64 0, .int .u32 0, .int .u32 0, .slice none 0 0, .slice none 0 0, .slice none 0 0, .int .u64 0, .int .i64 0, .int .i64 0, .slice none 0 0]) Try.underlying33 rfl zz33 (hs.range 0 rfl 0 rfl), ⟨_, _, rfl, rfl, ⟨_, _, rfl, rfl, rfl⟩⟩⟩ ⟨_, rfl, S120, (.slice none 0 0), (.slice none 0 0), (.slice none 0 0), (.slice none 0 0), rfl, (hs.pick [] (by decide) rfl), (Rd.nil _ _ _), (Rd.nil _ _ _), (Rd.nil _ _ _), (Rd.nil _ _ _)⟩
      ·have hp110 := ite_f hc124 hp110
       refine Cd.skip ?_
       obtain rfl := some_s hp110
       exact fun a ha => ⟨[(0, v1), (2, .pointer (some ⟨b7, 0, none⟩)), (7, .int .i64 (add .i64 4 (mul .i64 4 (cv .i64 x12.1))))], ha.weak ⟨rfl, rfl, rfl, trivial⟩, S120, rfl, rfl, le122, hs⟩
     ·skip
      refine Cd.region ?_
      refine Rg.mv rfl rfl ?_
      obtain ⟨x126, hx127, hp119⟩ := bind_s hp119
      obtain ⟨ad128, vals129, _, hR130, hE131, hX132⟩ := mk_index Try.underlying31 zz5 (by decide) (f2.mono le19) hx127
      obtain rfl : vals129 = [.int .u8 x126] := hR130
      refine Rg.vN (hX132 rfl rfl) rfl ?_
      refine Rg.vN (X.load1 Try.underlying5 rfl rfl (hE131.at0 rfl hs.has)) rfl ?_
      refine Rg.vN (X.and rfl rfl) rfl ?_
      refine Rg.vN (X.neq rfl rfl) rfl ?_
      refine Rg.mv rfl rfl ?_
      refine Rg.vF rfl rfl rfl (fun hW => X.move rfl) ?_
      refine Rg.weak [(0, v1), (2, .pointer (some ⟨b7, 0, none⟩)), (7, .int .i64 (add .i64 4 (mul .i64 4 (cv .i64 x12.1)))), (35, .bool ((band .u8 x126 192) != 128)), (36, gv (!((band .u8 x126 192) != 128)) (v1))] ⟨rfl, rfl, rfl, rfl, rfl, trivial⟩ ?_
      refine Rg.split (c := (band .u8 x126 192) != 128) (tj := 35) rfl (fun hc133 => ?_) (fun hc133 => ?_)
      ·have hp119 := ite_t hc133 hp119
       refine Rg.weak [(0, v1), (2, .pointer (some ⟨b7, 0, none⟩)), (7, .int .i64 (add .i64 4 (mul .i64 4 (cv .i64 x12.1)))), (35, .bool true), (36, undef)] ⟨rfl, rfl, rfl, rfl, get_u rfl (nn hc133), trivial⟩ ?_
       refine Rg.vO rfl rfl rfl rfl ?_
       refine Rg.vO rfl rfl rfl rfl ?_
       refine Rg.vO rfl rfl rfl rfl ?_
       refine Rg.vO rfl rfl rfl rfl ?_
       refine Rg.vN (X.pickT rfl rfl) rfl ?_
       refine Rg.mv rfl rfl ?_
       refine Rg.vO rfl rfl rfl rfl ?_
       refine Rg.vO rfl rfl rfl rfl ?_
       refine Rg.vO rfl rfl rfl rfl ?_
       refine Rg.vO rfl rfl rfl rfl ?_
       refine Rg.vN (X.pickT rfl rfl) rfl ?_
       refine Rg.mv rfl rfl ?_
       refine Rg.vO rfl rfl rfl rfl ?_
       refine Rg.vO rfl rfl rfl rfl ?_
       refine Rg.vO rfl rfl rfl rfl ?_
       refine Rg.vO rfl rfl rfl rfl ?_
       refine Rg.vN (X.pickT rfl rfl) rfl ?_
       refine Rg.st rfl rfl ?_
       refine Rg.nil ?_
       obtain rfl := some_s hp119
       exact fun a ha => ⟨[(0, v1), (2, .pointer (some ⟨b7, 0, none⟩)), (7, .int .i64 (add .i64 4 (mul .i64 4 (cv .i64 x12.1)))), (29, .bool true)], ha.weak ⟨rfl, rfl, rfl, rfl, trivial⟩, S17, rfl, Le.refl _, hs⟩
      ·have hp119 := ite_f hc133 hp119
       refine Rg.weak [(0, v1), (2, .pointer (some ⟨b7, 0, none⟩)), (7, .int .i64 (add .i64 4 (mul .i64 4 (cv .i64 x12.1)))), (35, .bool false), (36, v1)] ⟨rfl, rfl, rfl, rfl, get_g rfl (not_f hc133), trivial⟩ ?_
       refine Rg.gon rfl rfl rfl ?_
       obtain ⟨x134, hx135, hp119⟩ := bind_s hp119
       obtain ⟨ad136, vals137, _, hR138, hE139, hX140⟩ := mk_index Try.underlying31 zz5 (by decide) (f2.mono le19) hx135
       obtain rfl : vals137 = [.int .u8 x134] := hR138
       refine Rg.vN (hX140 rfl rfl) rfl ?_
       refine Rg.gon rfl rfl rfl ?_
       refine Rg.vN (X.load1 Try.underlying5 rfl rfl (hE139.at0 rfl hs.has)) rfl ?_
       refine Rg.gon rfl rfl rfl ?_
       refine Rg.vN (X.and rfl rfl) rfl ?_
       refine Rg.gon rfl rfl rfl ?_
       refine Rg.vN (X.neq rfl rfl) rfl ?_
       refine Rg.vN (X.pickF rfl rfl) rfl ?_
       refine Rg.mv rfl rfl ?_
       refine Rg.vF rfl rfl rfl (fun hW => X.move rfl) ?_
       refine Rg.split (c := (band .u8 x134 32) != 0) (tj := 42) rfl (fun hc141 => ?_) (fun hc141 => ?_)
       ·have hp119 := ite_t hc141 hp119
        refine Rg.weak [(0, v1), (2, .pointer (some ⟨b7, 0, none⟩)), (7, .int .i64 (add .i64 4 (mul .i64 4 (cv .i64 x12.1)))), (42, .bool true), (43, undef)] ⟨rfl, rfl, rfl, rfl, get_u rfl (nn hc141), trivial⟩ ?_
        refine Rg.vO rfl rfl rfl rfl ?_
        refine Rg.vO rfl rfl rfl rfl ?_
        refine Rg.vO rfl rfl rfl rfl ?_
        refine Rg.vN (X.pickT rfl rfl) rfl ?_
        refine Rg.mv rfl rfl ?_
        refine Rg.vO rfl rfl rfl rfl ?_
        refine Rg.vO rfl rfl rfl rfl ?_
        refine Rg.vO rfl rfl rfl rfl ?_
        refine Rg.vO rfl rfl rfl rfl ?_
        refine Rg.vN (X.pickT rfl rfl) rfl ?_
        refine Rg.st rfl rfl ?_
        refine Rg.nil ?_
        obtain rfl := some_s hp119
        exact fun a ha => ⟨[(0, v1), (2, .pointer (some ⟨b7, 0, none⟩)), (7, .int .i64 (add .i64 4 (mul .i64 4 (cv .i64 x12.1)))), (29, .bool true)], ha.weak ⟨rfl, rfl, rfl, rfl, trivial⟩, S17, rfl, Le.refl _, hs⟩
       ·have hp119 := ite_f hc141 hp119
        refine Rg.weak [(0, v1), (2, .pointer (some ⟨b7, 0, none⟩)), (7, .int .i64 (add .i64 4 (mul .i64 4 (cv .i64 x12.1)))), (42, .bool false), (43, v1)] ⟨rfl, rfl, rfl, rfl, get_g rfl (not_f hc141), trivial⟩ ?_
        refine Rg.gon rfl rfl rfl ?_
        obtain ⟨x142, hx143, hp119⟩ := bind_s hp119
        obtain ⟨ad144, vals145, _, hR146, hE147, hX148⟩ := mk_index Try.underlying31 zz5 (by decide) (f2.mono le19) hx143
        obtain rfl : vals145 = [.int .u8 x142] := hR146
        refine Rg.vN (hX148 rfl rfl) rfl ?_
        refine Rg.gon rfl rfl rfl ?_
        refine Rg.vN (X.load1 Try.underlying5 rfl rfl (hE147.at0 rfl hs.has)) rfl ?_
        refine Rg.gon rfl rfl rfl ?_
        refine Rg.vN (X.lss rfl rfl) rfl ?_
        refine Rg.vN (X.pickF rfl rfl) rfl ?_
        refine Rg.mv rfl rfl ?_
        refine Rg.vF rfl rfl rfl (fun hW => X.move rfl) ?_
        refine Rg.split (c := decide (x142 < 192)) (tj := 48) rfl (fun hc149 => ?_) (fun hc149 => ?_)
        ·have hp119 := ite_t hc149 hp119
         refine Rg.weak [(0, v1), (2, .pointer (some ⟨b7, 0, none⟩)), (7, .int .i64 (add .i64 4 (mul .i64 4 (cv .i64 x12.1)))), (48, .bool true), (49, undef)] ⟨rfl, rfl, rfl, rfl, get_u rfl (nn hc149), trivial⟩ ?_
         refine Rg.vO rfl rfl rfl rfl ?_
         refine Rg.vO rfl rfl rfl rfl ?_
         refine Rg.vO rfl rfl rfl rfl ?_
         refine Rg.vN (X.pickT rfl rfl) rfl ?_
         refine Rg.st rfl rfl ?_
         refine Rg.nil ?_
         obtain rfl := some_s hp119
         exact fun a ha => ⟨[(0, v1), (2, .pointer (some ⟨b7, 0, none⟩)), (7, .int .i64 (add .i64 4 (mul .i64 4 (cv .i64 x12.1)))), (29, .bool true)], ha.weak ⟨rfl, rfl, rfl, rfl, trivial⟩, S17, rfl, Le.refl _, hs⟩
        ·have hp119 := ite_f hc149 hp119
         refine Rg.weak [(0, v1), (2, .pointer (some ⟨b7, 0, none⟩)), (7, .int .i64 (add .i64 4 (mul .i64 4 (cv .i64 x12.1)))), (48, .bool false), (49, v1)] ⟨rfl, rfl, rfl, rfl, get_g rfl (not_f hc149), trivial⟩ ?_
         refine Rg.gon rfl rfl rfl ?_
         obtain ⟨x150, hx151, hp119⟩ := bind_s hp119
         obtain ⟨ad152, vals153, _, hR154, hE155, hX156⟩ := mk_index Try.underlying31 zz5 (by decide) (f2.mono le19) hx151
         obtain rfl : vals153 = [.int .u8 x150] := hR154
         refine Rg.vN (hX156 rfl rfl) rfl ?_
         refine Rg.gon rfl rfl rfl ?_
         refine Rg.vN (X.load1 Try.underlying5 rfl rfl (hE155.at0 rfl hs.has)) rfl ?_
         refine Rg.gon rfl rfl rfl ?_
         refine Rg.vN (X.gtr rfl rfl) rfl ?_
         refine Rg.vN (X.pickF rfl rfl) rfl ?_
         refine Rg.st rfl rfl ?_
         refine Rg.nil ?_
         obtain rfl := some_s hp119
         exact fun a ha => ⟨[(0, v1), (2, .pointer (some ⟨b7, 0, none⟩)), (7, .int .i64 (add .i64 4 (mul .i64 4 (cv .i64 x12.1)))), (29, .bool (decide (223 < x150)))], ha.weak ⟨rfl, rfl, rfl, rfl, trivial⟩, S17, rfl, Le.refl _, hs⟩
noncomputable def slices_Clip_api_Report (s_0 : (List api_Report)) : Option (List api_Report) :=
 some s_0
def Po45 (S0 : Mp) (w0 : World) (D : List Nat) (r : (List api_Report)) (v : Value) (w1 : World) : Prop :=
  ∃ (S1 : Mp) (v3 : Value), v = v3 ∧ St w0 D S0 S1 [] w1 ∧ Rd S1 10 R_api_Report v3 r ∧ (∃ A, v3 = .slice A r.length r.length)
set_option maxHeartbeats 4000000 in
theorem c45 (S0 : Mp) {w0 : World} (hs : St w0 [] S0 S0 [] w0) (s_0 : (List api_Report)) (v1 : Value) (f2 : Rd S0 10 R_api_Report v1 s_0) (r : (List api_Report)) (h0 : slices_Clip_api_Report s_0 = some r) :
    Calls Try.prog 45 #[v1] w0 (Re (Po45 S0 w0 [] r)) := by
 unfold slices_Clip_api_Report at h0
 refine calls_of_cd Try.func45 rfl Try.ntmps45 rfl ?_
 refine Cd.sr ?_
 refine Rg.st rfl rfl ?_
 refine Rg.go ?_
 refine Cd.sr ?_
 refine Rg.mv rfl rfl ?_
 refine Rg.mv rfl rfl ?_
 refine Rg.vN (X.lenR Try.underlying36 rfl f2) rfl ?_
 refine Rg.mv rfl rfl ?_
 refine Rg.vN (X.lenR Try.underlying36 rfl f2) rfl ?_
 obtain ⟨v4, f5, hf9, hX6⟩ := mk_clip Try.underlying36 zz33 f2
 refine Rg.vN (hX6 rfl rfl rfl) rfl ?_
 refine Rg.st rfl rfl ?_
 refine Rg.go ?_
 refine Cd.ret ?_
 obtain rfl := some_s h0
 exact fun a ha => Cd.retA (R := Re (Po45 S0 w0 [] _)) ha Try.results45 ⟨_, _, rfl, rfl, rfl⟩ ⟨_, rfl, S0, v4, rfl, hs, f5, hf9⟩
noncomputable def rtcp_Read_l0 (b_0 : (List Int)) (q30 : (List api_Report)) (q31 : Int) : Option (Flow ((List api_Report) × Int) ((List api_Report) × Int)) :=
 if (decide (q31 < (b_0.length : Int))) = true then (
  (cutFrom b_0 q31).bind fun y48 =>
  (rtcp_one y48).bind fun x52 =>
  if (x52.2.2 != 0) = true then (
   some (Flow.ret (([] : List api_Report), x52.2.2)))
  else (
   (app 136 q30 ([x52.1] : List api_Report)).bind fun y80 =>
   some (Flow.next (y80, add .i64 q31 x52.2.1))))
 else (
  some (Flow.brk (q30, q31)))
noncomputable def rtcp_Read (b_0 : (List Int)) : Option ((List api_Report) × Int) :=
 if (decide (1500 < (b_0.length : Int))) = true then (
  some (([] : List api_Report), 3))
 else (
  if ((b_0.length : Int) == 0) = true then (
   some (([] : List api_Report), 13))
  else (
   (loopF (fun sg => rtcp_Read_l0 b_0 sg.1 sg.2) (([] : List api_Report), 0)).bind fun fl7 =>
   Flow.el fl7 (fun s88 => (
    none))
   (fun s89 => (
    (slices_Clip_api_Report s89.1).bind fun x19 =>
    some (x19, 0)))
   (fun r90 => (
    some r90))))
def Po20 (S0 : Mp) (w0 : World) (D : List Nat) (r : ((List api_Report) × Int)) (v : Value) (w1 : World) : Prop :=
  ∃ (S1 : Mp) (v3 : Value), v = .tuple #[v3, .int .i64 r.2] ∧ St w0 D S0 S1 [] w1 ∧ Rd S1 10 R_api_Report v3 r.1
set_option maxHeartbeats 4000000 in
theorem c20 (S0 : Mp) {w0 : World} (hs : St w0 [] S0 S0 [] w0) (b_0 : (List Int)) (v1 : Value) (f2 : Rd S0 1 (RI .u8) v1 b_0) (r : ((List api_Report) × Int)) (h0 : rtcp_Read b_0 = some r) :
    Calls Try.prog 20 #[v1] w0 (Re (Po20 S0 w0 [] r)) := by
 unfold rtcp_Read at h0
 refine calls_of_cd Try.func20 rfl Try.ntmps20 rfl ?_
 refine Cd.sr ?_
 refine Rg.st rfl rfl ?_
 refine Rg.st rfl rfl ?_
 refine Rg.go ?_
 refine Cd.seq ?_
 refine Cd.block ?_
 refine Cd.sr ?_
 refine Rg.mv rfl rfl ?_
 refine Rg.vN (X.lenR Try.underlying31 rfl f2) rfl ?_
 refine Rg.vN (X.gtr rfl rfl) rfl ?_
 refine Rg.st rfl rfl ?_
 refine Rg.go ?_
 refine Cd.cond (t := decide (1500 < (b_0.length : Int))) rfl (fun hc4 => ?_) (fun hc4 => ?_)
 ·have h0 := ite_t hc4 h0
  refine Cd.sr ?_
  refine Rg.st rfl rfl ?_
  refine Rg.st rfl rfl ?_
  refine Rg.go ?_
  refine Cd.ret ?_
  obtain rfl := some_s h0
  exact fun a ha => Cd.retA (R := Re (Po20 S0 w0 [] _)) ha Try.results20 ⟨_, _, rfl, rfl, ⟨_, _, rfl, rfl, rfl⟩⟩ ⟨_, rfl, S0, (.slice none 0 0), rfl, hs, (Rd.nil _ _ _)⟩
 ·have h0 := ite_f hc4 h0
  refine Cd.sr ?_
  refine Rg.mv rfl rfl ?_
  refine Rg.vN (X.lenR Try.underlying31 rfl f2) rfl ?_
  refine Rg.vN (X.eql rfl rfl) rfl ?_
  refine Rg.st rfl rfl ?_
  refine Rg.go ?_
  refine Cd.cond (t := (b_0.length : Int) == 0) rfl (fun hc5 => ?_) (fun hc5 => ?_)
  ·have h0 := ite_t hc5 h0
   refine Cd.sr ?_
   refine Rg.st rfl rfl ?_
   refine Rg.st rfl rfl ?_
   refine Rg.go ?_
   refine Cd.ret ?_
   obtain rfl := some_s h0
   exact fun a ha => Cd.retA (R := Re (Po20 S0 w0 [] _)) ha Try.results20 ⟨_, _, rfl, rfl, ⟨_, _, rfl, rfl, rfl⟩⟩ ⟨_, rfl, S0, (.slice none 0 0), rfl, hs, (Rd.nil _ _ _)⟩
  ·have h0 := ite_f hc5 h0
   refine Cd.skip ?_
   refine Cd.go ?_
   refine Cd.sr ?_
   refine Rg.st rfl rfl ?_
   refine Rg.go ?_
   refine Cd.seq ?_
   refine Cd.sr ?_
   refine Rg.st rfl rfl ?_
   refine Rg.go ?_
   have hs := hs.nil 33 10
   obtain ⟨fl7, hfl8, h0⟩ := bind_s h0
   refine Cd.post (fun K w => ∃ (j9 : (List api_Report)) (j10 : Int) (S11 : Mp) (v13 : Value) (g15 : Option Nat), K = [(4, v13)] ∧ fl7 = Flow.brk (j9, j10) ∧ Le S0 S11 ∧ St w0 [] S0 S11 [.app g15 v13 j9.length 33 10] w ∧ Rd S11 10 R_api_Report v13 j9) ?_ ?_
   ·rintro K18 w17 ⟨j9, j10, S11, v13, g15, rfl, rfl, le12, hs, f14⟩
    have h0 := el_brk h0
    try dsimp only at h0
    refine Cd.go ?_
    refine Cd.sr ?_
    refine Rg.mv rfl rfl ?_
    obtain ⟨x19, hx20, h0⟩ := bind_s h0
    refine Rg.step rfl (Oq.call Try.call45 rfl rfl (c45 S11 (St.start _ _ hs.has) _ _ f14 _ hx20) (fun v21 w22 h23 => ?_))
    obtain ⟨S24, v27, rfl, hs25, f28, fu29⟩ := h23
    have le26 := hs25.le
    have hs := hs.call0 hs25
    refine Rg.st rfl rfl ?_
    refine Rg.st rfl rfl ?_
    refine Rg.go ?_
    refine Cd.weak [(2, v21), (3, .int .i64 0)] ⟨rfl, rfl, trivial⟩ ?_
    refine Cd.ret ?_
    obtain rfl := some_s h0
    exact fun a ha => Cd.retA (R := Re (Po20 S0 w0 [] _)) ha Try.results20 ⟨_, _, rfl, rfl, ⟨_, _, rfl, rfl, rfl⟩⟩ ⟨_, rfl, S24, v21, rfl, (hs.pick [] (by decide) rfl), f28⟩
   ·skip
    refine Cd.weak [(0, v1), (4, .slice none 0 0), (5, .int .i64 0)] ⟨rfl, rfl, rfl, trivial⟩ ?_
    refine Cd.block (Cd.loop (fun sg => rtcp_Read_l0 b_0 sg.1 sg.2) (fun (sg : ((List api_Report) × Int)) K w => ∃ (S32 : Mp) (v34 : Value) (g36 : Option Nat), K = [(0, v1), (4, v34), (5, .int .i64 sg.2)] ∧ Le S0 S32 ∧ St w0 [] S0 S32 [.app g36 v34 sg.1.length 33 10] w ∧ Rd S32 10 R_api_Report v34 sg.1) (([] : List api_Report), 0) fl7 hfl8 ⟨S0, (.slice none 0 0), none, rfl, Le.refl _, hs, (Rd.nil _ _ _)⟩ ?_)
    rintro ⟨q30, q31⟩ fl38 K43 w42 hb39 ⟨S32, v34, g36, rfl, le33, hs, f35⟩ hl40
    have h41 : rtcp_Read_l0 b_0 q30 q31 = some fl38 := hb39
    unfold rtcp_Read_l0 at h41
    refine Cd.seq ?_
    refine Cd.sr ?_
    refine Rg.mv rfl rfl ?_
    refine Rg.mv rfl rfl ?_
    refine Rg.vN (X.lenR Try.underlying31 rfl (f2.mono le33)) rfl ?_
    refine Rg.vN (X.lss rfl rfl) rfl ?_
    refine Rg.go ?_
    refine Cd.weak [(0, v1), (4, v34), (5, .int .i64 q31), (20, .bool (decide (q31 < (b_0.length : Int))))] ⟨rfl, rfl, rfl, rfl, trivial⟩ ?_
    refine Cd.cond (t := decide (q31 < (b_0.length : Int))) rfl (fun hc44 => ?_) (fun hc44 => ?_)
    ·have h41 := ite_t hc44 h41
     refine Cd.sg ?_
     refine Cd.block ?_
     refine Cd.sr ?_
     refine Rg.mv rfl rfl ?_
     refine Rg.mv rfl rfl ?_
     obtain ⟨y48, hx49, h41⟩ := bind_s h41
     obtain ⟨hb50, he51⟩ := cutFrom_s hx49
     obtain ⟨v45, f46, hX47⟩ := mk_sliceL Try.underlying31 zz5 (f2.mono le33) hb50
     rw [he51] at f46
     refine Rg.vN (hX47 rfl rfl) rfl ?_
     obtain ⟨x52, hx53, h41⟩ := bind_s h41
     refine Rg.step rfl (Oq.call Try.call44 rfl rfl (c44 S32 (St.start _ _ hs.has) _ _ f46 _ hx53) (fun v54 w55 h56 => ?_))
     obtain ⟨S57, v60, v62, v64, v66, rfl, hs58, f61, f63, f65, f67⟩ := h56
     have le59 := hs58.le
     have hs := hs.call0 hs58
     refine Rg.mv rfl rfl ?_
     refine Rg.vN (X.extract rfl rfl) rfl ?_
     refine Rg.vN (X.extract rfl rfl) rfl ?_
     refine Rg.vN (X.extract rfl rfl) rfl ?_
     refine Rg.step rfl (Oq.alloc (cs := #[.int .i64 0, .int .u32 0, .int .u32 0, .slice none 0 0, .slice none 0 0, .slice none 0 0, .int .u64 0, .int .i64 0, .int .i64 0, .slice none 0 0]) hs ii33 rfl rfl rfl (fun b68 w69 hs => ?_))
     refine Rg.step rfl (Oq.storeN hs 0 rfl (vals := [.int .i64 x52.1.Kind, .int .u32 x52.1.From, .int .u32 x52.1.About, v60, v62, v64, .int .u64 x52.1.Rate, .int .i64 x52.1.Type_, .int .i64 x52.1.Count, v66]) zz33 rfl rfl (one_all ⟨rfl, rfl, rfl, f61.one, f63.one, f65.one, rfl, rfl, rfl, f67.one, trivial⟩) rfl [.box b68 #[.int .i64 x52.1.Kind, .int .u32 x52.1.From, .int .u32 x52.1.About, v60, v62, v64, .int .u64 x52.1.Rate, .int .i64 x52.1.Type_, .int .i64 x52.1.Count, v66] 33, .app g36 v34 q30.length 33 10] rfl (fun w71 hs => ?_))
     refine Rg.st rfl rfl ?_
     refine Rg.st rfl rfl ?_
     refine Rg.go ?_
     refine Cd.seq ?_
     refine Cd.sr ?_
     refine Rg.mv rfl rfl ?_
     refine Rg.vN (X.neq rfl rfl) rfl ?_
     refine Rg.go ?_
     refine Cd.weak [(0, v1), (4, v34), (5, .int .i64 q31), (6, .pointer (some ⟨b68, 0, none⟩)), (7, .int .i64 x52.2.1), (8, .int .i64 x52.2.2), (30, .bool (x52.2.2 != 0))] ⟨rfl, rfl, rfl, rfl, rfl, rfl, rfl, trivial⟩ ?_
     refine Cd.cond (t := x52.2.2 != 0) rfl (fun hc72 => ?_) (fun hc72 => ?_)
     ·have h41 := ite_t hc72 h41
      refine Cd.sr ?_
      refine Rg.mv rfl rfl ?_
      refine Rg.st rfl rfl ?_
      refine Rg.st rfl rfl ?_
      refine Rg.go ?_
      refine Cd.ret ?_
      obtain rfl := some_s h41
      have e := hl40 (fun _ e => by cases e)
      subst e
      have h0 := el_ret h0
      obtain rfl := some_s h0
      exact fun a ha => Cd.retA (R := Re (Po20 S0 w0 [] _)) ha Try.results20 ⟨_, _, rfl, rfl, ⟨_, _, rfl, rfl, rfl⟩⟩ ⟨_, rfl, S57, (.slice none 0 0), rfl, (hs.pick [] (by decide) rfl), (Rd.nil _ _ _)⟩
     ·have h41 := ite_f hc72 h41
      refine Cd.sg ?_
      refine Cd.sr ?_
      refine Rg.mv rfl rfl ?_
      refine Rg.vN (X.loadN (vals := [.int .i64 x52.1.Kind, .int .u32 x52.1.From, .int .u32 x52.1.About, v60, v62, v64, .int .u64 x52.1.Rate, .int .i64 x52.1.Type_, .int .i64 x52.1.Count, v66]) Try.underlying33 rfl zz33 rfl (hs.range 0 rfl 0 rfl)) rfl ?_
      refine Rg.step rfl (Oq.lit (sz := 10) (cs0 := [.int .i64 0, .int .u32 0, .int .u32 0, .slice none 0 0, .slice none 0 0, .slice none 0 0, .int .u64 0, .int .i64 0, .int .i64 0, .slice none 0 0]) (cells := [.int .i64 x52.1.Kind, .int .u32 x52.1.From, .int .u32 x52.1.About, v60, v62, v64, .int .u64 x52.1.Rate, .int .i64 x52.1.Type_, .int .i64 x52.1.Count, v66]) hs Try.underlying36 ii33 rfl rfl rfl rfl rfl rfl ⟨_, [.int .i64 x52.1.Kind, .int .u32 x52.1.From, .int .u32 x52.1.About, v60, v62, v64, .int .u64 x52.1.Rate, .int .i64 x52.1.Type_, .int .i64 x52.1.Count, v66], _, rfl, rfl, rfl, rfl⟩ rfl rfl rfl (fun b73 w74 S75 hs le76 hE77 => ?_))
      have f79 : Rd S75 10 R_api_Report (.slice (some ⟨b73, 0, none⟩) 1 1) ([x52.1] : List api_Report) := Rd.of_cells (xs := ([x52.1] : List api_Report)) ⟨[.int .i64 x52.1.Kind, .int .u32 x52.1.From, .int .u32 x52.1.About, v60, v62, v64, .int .u64 x52.1.Rate, .int .i64 x52.1.Type_, .int .i64 x52.1.Count, v66], _, rfl, rfl, one_all ⟨rfl, rfl, rfl, (f61.mono le76).one, (f63.mono le76).one, (f65.mono le76).one, rfl, rfl, rfl, (f67.mono le76).one, trivial⟩, ⟨_, _, _, _, rfl, (f61.mono le76), (f63.mono le76), (f65.mono le76), (f67.mono le76)⟩, rfl⟩ hE77 (Nat.le_of_ble_eq_true rfl) (Nat.le_of_ble_eq_true rfl)
      obtain ⟨y80, hx81, h41⟩ := bind_s h41
      refine Rg.step rfl (Oq.appendS hs 2 rfl Try.underlying36 ii33 rfl rfl rfl rfl rfl rfl (f35.mono (le59.trans le76)) f79 hx81 rfl rfl rfl (fun v82 w83 S84 g85 hs le86 f87 => ?_))
      refine Rg.st rfl rfl ?_
      refine Rg.go ?_
      refine Cd.region ?_
      refine Rg.mv rfl rfl ?_
      refine Rg.mv rfl rfl ?_
      refine Rg.vN (X.add rfl rfl) rfl ?_
      refine Rg.st rfl rfl ?_
      refine Rg.nil ?_
      exact fun a ha => ⟨(y80, add .i64 q31 x52.2.1), [(0, v1), (4, v82), (5, .int .i64 (add .i64 q31 x52.2.1))], (some_s h41).symm, ha.weak ⟨rfl, rfl, rfl, trivial⟩, S84, v82, g85, rfl, (le33.trans (le59.trans (le76.trans le86))), (hs.pick [2] (by decide) rfl), f87⟩
    ·have h41 := ite_f hc44 h41
     refine Cd.exit ?_
     obtain rfl := some_s h41
     have e := hl40 (fun _ e => by cases e)
     exact fun a ha => ⟨[(4, v34)], ha.weak ⟨rfl, trivial⟩, _, _, S32, v34, g36, rfl, e.symm, le33, hs, f35⟩
noncomputable def limelightref6_Read_l0 (G_0 : (List Int)) (q22 : (List api_Report)) (q23 : Int) : Option (Flow ((List api_Report) × Int) ((List api_Report) × Int)) :=
 if (decide (q23 < (G_0.length : Int))) = true then (
  ((
   (limelightref1_Get G_0 (add .i64 q23 2) 2).bind fun x49 =>
   (limelightref1_Cut G_0 q23 (add .i64 4 (mul .i64 4 (cv .i64 x49.1)))).bind fun x57 =>
   if ((!x49.2) || (!x57.2)) = true then (
    some (Flow.ret (([] : List api_Report), 13)))
   else (
    ((
     (ix x57.1 0).bind fun x215 =>
     if ((shr .u8 x215 5) != 4) = true then (
      some true)
     else (
      (ix x57.1 1).bind fun x223 =>
      if (decide (x223 < 192)) = true then (
       some true)
      else (
       (ix x57.1 1).bind fun x231 =>
       some (decide (223 < x231)))) : Option Bool)).bind fun p72 =>
    if p72 = true then (
     some (Flow.ret (([] : List api_Report), 12)))
    else (
     ((
      (ix x57.1 1).bind fun x154 =>
      (ix x57.1 0).bind fun x161 =>
      (cutFrom x57.1 4).bind fun y171 =>
      (limelightref6_parse (cv .i64 x154) (cv .i64 (band .u8 x161 31)) y171).bind fun x175 =>
      some x175 : Option api_Report)).bind fun p81 =>
     ((
      (limelightref6_Right p81).bind fun x122 =>
      if (x122 != 0) = true then (
       some true)
      else (
       (limelightref6_one p81).bind fun x131 =>
       (limelightref6_short x57.1 p81).bind fun x143 =>
       some (!((strOfNums x131).toList == (strOfNums x143).toList))) : Option Bool)).bind fun p98 =>
     if p98 = true then (
      some (Flow.ret (([] : List api_Report), 12)))
     else (
      (app 136 q22 ([p81] : List api_Report)).bind fun y113 =>
      some (Flow.next (y113, add .i64 q23 (x57.1.length : Int)))))) : Option (Flow ((List api_Report) × Int) ((List api_Report) × Int)))).bind fun p39 =>
  Flow.el p39 (fun s238 => (
   some (Flow.next (s238.1, s238.2))))
  (fun s239 => (
   none))
  (fun r240 => (
   some (Flow.ret r240))))
 else (
  some (Flow.brk (q22, q23)))
noncomputable def limelightref6_Read (G_0 : (List Int)) : Option ((List api_Report) × Int) :=
 if (decide (1500 < (G_0.length : Int))) = true then (
  some (([] : List api_Report), 3))
 else (
  if ((G_0.length : Int) == 0) = true then (
   some (([] : List api_Report), 13))
  else (
   (loopF (fun sg => limelightref6_Read_l0 G_0 sg.1 sg.2) (([] : List api_Report), 0)).bind fun fl10 =>
   Flow.el fl10 (fun s241 => (
    none))
   (fun s242 => (
    some (s242.1, 0)))
   (fun r243 => (
    some r243))))
def Po34 (S0 : Mp) (w0 : World) (D : List Nat) (r : ((List api_Report) × Int)) (v : Value) (w1 : World) : Prop :=
  ∃ (S1 : Mp) (v3 : Value) (g4 : Option Nat), v = .tuple #[v3, .int .i64 r.2] ∧ St w0 D S0 S1 [.app g4 v3 r.1.length 33 10] w1 ∧ Rd S1 10 R_api_Report v3 r.1
set_option maxHeartbeats 4000000 in
theorem c34 (S0 : Mp) {w0 : World} (hs : St w0 [] S0 S0 [] w0) (G_0 : (List Int)) (v1 : Value) (f2 : Rd S0 1 (RI .u8) v1 G_0) (r : ((List api_Report) × Int)) (h0 : limelightref6_Read G_0 = some r) :
    Calls Try.prog 34 #[v1] w0 (Re (Po34 S0 w0 [] r)) := by
 unfold limelightref6_Read at h0
 refine calls_of_cd Try.func34 rfl Try.ntmps34 rfl ?_
 refine Cd.sr ?_
 refine Rg.st rfl rfl ?_
 refine Rg.st rfl rfl ?_
 refine Rg.go ?_
 refine Cd.seq ?_
 refine Cd.sr ?_
 refine Rg.mv rfl rfl ?_
 refine Rg.vN (X.lenR Try.underlying31 rfl f2) rfl ?_
 refine Rg.vN (X.gtr rfl rfl) rfl ?_
 refine Rg.go ?_
 refine Cd.cond (t := decide (1500 < (G_0.length : Int))) rfl (fun hc5 => ?_) (fun hc5 => ?_)
 ·have h0 := ite_t hc5 h0
  refine Cd.sr ?_
  refine Rg.st rfl rfl ?_
  refine Rg.st rfl rfl ?_
  refine Rg.go ?_
  refine Cd.ret ?_
  have hs := hs.nil 33 10
  obtain rfl := some_s h0
  exact fun a ha => Cd.retA (R := Re (Po34 S0 w0 [] _)) ha Try.results34 ⟨_, _, rfl, rfl, ⟨_, _, rfl, rfl, rfl⟩⟩ ⟨_, rfl, S0, (.slice none 0 0), none, rfl, hs, (Rd.nil _ _ _)⟩
 ·have h0 := ite_f hc5 h0
  refine Cd.sg ?_
  refine Cd.seq ?_
  refine Cd.sr ?_
  refine Rg.mv rfl rfl ?_
  refine Rg.vN (X.lenR Try.underlying31 rfl f2) rfl ?_
  refine Rg.vN (X.eql rfl rfl) rfl ?_
  refine Rg.go ?_
  refine Cd.cond (t := (G_0.length : Int) == 0) rfl (fun hc7 => ?_) (fun hc7 => ?_)
  ·have h0 := ite_t hc7 h0
   refine Cd.sr ?_
   refine Rg.st rfl rfl ?_
   refine Rg.st rfl rfl ?_
   refine Rg.go ?_
   refine Cd.ret ?_
   have hs := hs.nil 33 10
   obtain rfl := some_s h0
   exact fun a ha => Cd.retA (R := Re (Po34 S0 w0 [] _)) ha Try.results34 ⟨_, _, rfl, rfl, ⟨_, _, rfl, rfl, rfl⟩⟩ ⟨_, rfl, S0, (.slice none 0 0), none, rfl, hs, (Rd.nil _ _ _)⟩
  ·have h0 := ite_f hc7 h0
   refine Cd.sg ?_
   refine Cd.sr ?_
   refine Rg.st rfl rfl ?_
   refine Rg.go ?_
   refine Cd.seq ?_
   refine Cd.sr ?_
   refine Rg.st rfl rfl ?_
   refine Rg.go ?_
   have hs := hs.nil 33 10
   obtain ⟨fl10, hfl11, h0⟩ := bind_s h0
   refine Cd.post (fun K w => ∃ (j12 : (List api_Report)) (j13 : Int) (S14 : Mp) (v16 : Value) (g18 : Option Nat), K = [(4, v16)] ∧ fl10 = Flow.brk (j12, j13) ∧ Le S0 S14 ∧ St w0 [] S0 S14 [.app g18 v16 j12.length 33 10] w ∧ Rd S14 10 R_api_Report v16 j12) ?_ ?_
   ·rintro K21 w20 ⟨j12, j13, S14, v16, g18, rfl, rfl, le15, hs, f17⟩
    have h0 := el_brk h0
    try dsimp only at h0
    refine Cd.go ?_
    refine Cd.sr ?_
    refine Rg.mv rfl rfl ?_
    refine Rg.st rfl rfl ?_
    refine Rg.st rfl rfl ?_
    refine Rg.go ?_
    refine Cd.ret ?_
    obtain rfl := some_s h0
    exact fun a ha => Cd.retA (R := Re (Po34 S0 w0 [] _)) ha Try.results34 ⟨_, _, rfl, rfl, ⟨_, _, rfl, rfl, rfl⟩⟩ ⟨_, rfl, S14, v16, g18, rfl, hs, f17⟩
   ·skip
    refine Cd.weak [(0, v1), (4, .slice none 0 0), (5, .int .i64 0)] ⟨rfl, rfl, rfl, trivial⟩ ?_
    refine Cd.block (Cd.loop (fun sg => limelightref6_Read_l0 G_0 sg.1 sg.2) (fun (sg : ((List api_Report) × Int)) K w => ∃ (S24 : Mp) (v26 : Value) (g28 : Option Nat), K = [(0, v1), (4, v26), (5, .int .i64 sg.2)] ∧ Le S0 S24 ∧ St w0 [] S0 S24 [.app g28 v26 sg.1.length 33 10] w ∧ Rd S24 10 R_api_Report v26 sg.1) (([] : List api_Report), 0) fl10 hfl11 ⟨S0, (.slice none 0 0), none, rfl, Le.refl _, hs, (Rd.nil _ _ _)⟩ ?_)
    rintro ⟨q22, q23⟩ fl30 K35 w34 hb31 ⟨S24, v26, g28, rfl, le25, hs, f27⟩ hl32
    have h33 : limelightref6_Read_l0 G_0 q22 q23 = some fl30 := hb31
    unfold limelightref6_Read_l0 at h33
    refine Cd.seq ?_
    refine Cd.sr ?_
    refine Rg.mv rfl rfl ?_
    refine Rg.mv rfl rfl ?_
    refine Rg.vN (X.lenR Try.underlying31 rfl (f2.mono le25)) rfl ?_
    refine Rg.vN (X.lss rfl rfl) rfl ?_
    refine Rg.go ?_
    refine Cd.cond (t := decide (q23 < (G_0.length : Int))) rfl (fun hc36 => ?_) (fun hc36 => ?_)
    ·have h33 := ite_t hc36 h33
     refine Cd.sg ?_
     obtain ⟨p39, hp40, h33⟩ := bind_s h33
     refine Cd.post (fun K w => ∃ (j37 : (List api_Report)) (j38 : Int) (S41 : Mp) (v44 : Value) (g46 : Option Nat), K = [(0, v1), (4, v44), (5, .int .i64 j38)] ∧ p39 = Flow.next (j37, j38) ∧ Le S24 S41 ∧ St w0 [] S0 S41 [.app g46 v44 j37.length 33 10] w ∧ Rd S41 10 R_api_Report v44 j37) ?_ ?_
     ·rintro K48 w42 ⟨j37, j38, S41, v44, g46, rfl, rfl, le43, hs, f45⟩
      have h33 := el_next h33
      try dsimp only at h33
      exact fun a ha => ⟨(j37, j38), [(0, v1), (4, v44), (5, .int .i64 j38)], (some_s h33).symm, ha.weak ⟨rfl, rfl, rfl, trivial⟩, S41, v44, g46, rfl, (le25.trans le43), hs, f45⟩
     ·skip
      refine Cd.block ?_
      refine Cd.sr ?_
      refine Rg.mv rfl rfl ?_
      refine Rg.weak [(0, v1), (4, v26), (5, .int .i64 q23), (22, v1)] ⟨rfl, rfl, rfl, rfl, trivial⟩ ?_
      refine Rg.mv rfl rfl ?_
      refine Rg.vN (X.add rfl rfl) rfl ?_
      obtain ⟨x49, hx50, hp40⟩ := bind_s hp40
      refine Rg.step rfl (Oq.call Try.call54 rfl rfl (c54 S24 (St.start _ _ hs.has) _ _ (f2.mono le25) _ _ _ hx50) (fun v51 w52 h53 => ?_))
      obtain ⟨S54, rfl, hs55⟩ := h53
      have le56 := hs55.le
      have hs := hs.call0 hs55
      refine Rg.mv rfl rfl ?_
      refine Rg.vN (X.extract rfl rfl) rfl ?_
      refine Rg.vN (X.extract rfl rfl) rfl ?_
      refine Rg.st rfl rfl ?_
      refine Rg.st rfl rfl ?_
      refine Rg.go ?_
      refine Cd.sr ?_
      refine Rg.mv rfl rfl ?_
      refine Rg.mv rfl rfl ?_
      refine Rg.mv rfl rfl ?_
      refine Rg.vN (X.conv Try.underlying30 Try.underlying3 rfl) rfl ?_
      refine Rg.weak [(0, v1), (4, v26), (5, .int .i64 q23), (7, .bool x49.2), (29, v1), (30, .int .i64 q23), (32, .int .i64 (cv .i64 x49.1))] ⟨rfl, rfl, rfl, rfl, rfl, rfl, rfl, trivial⟩ ?_
      refine Rg.vN (X.mul rfl rfl) rfl ?_
      refine Rg.vN (X.add rfl rfl) rfl ?_
      obtain ⟨x57, hx58, hp40⟩ := bind_s hp40
      refine Rg.step rfl (Oq.call Try.call55 rfl rfl (c55 S54 (St.start _ _ hs.has) _ _ (f2.mono (le25.trans le56)) _ _ _ hx58) (fun v59 w60 h61 => ?_))
      obtain ⟨S62, v65, g67, rfl, hs63, f66⟩ := h61
      have le64 := hs63.le
      have hs := hs.call0 hs63
      refine Rg.mv rfl rfl ?_
      refine Rg.vN (X.extract rfl rfl) rfl ?_
      refine Rg.vN (X.extract rfl rfl) rfl ?_
      refine Rg.st rfl rfl ?_
      refine Rg.st rfl rfl ?_
      refine Rg.go ?_
      refine Cd.seq ?_
      refine Cd.sr ?_
      refine Rg.mv rfl rfl ?_
      refine Rg.weak [(0, v1), (4, v26), (5, .int .i64 q23), (8, v65), (9, .bool x57.2), (38, .bool x49.2)] ⟨rfl, rfl, rfl, rfl, rfl, rfl, trivial⟩ ?_
      refine Rg.vN (X.not rfl) rfl ?_
      refine Rg.mv rfl rfl ?_
      refine Rg.vF rfl rfl rfl (fun hW => X.move rfl) ?_
      refine Rg.vF rfl rfl rfl (fun hW => X.not (ev_g rfl hW)) ?_
      refine Rg.vN (X.pickOr rfl rfl rfl) rfl ?_
      refine Rg.go ?_
      refine Cd.cond (t := (!x49.2) || (!x57.2)) rfl (fun hc69 => ?_) (fun hc69 => ?_)
      ·have hp40 := ite_t hc69 hp40
       refine Cd.sr ?_
       refine Rg.st rfl rfl ?_
       refine Rg.st rfl rfl ?_
       refine Rg.go ?_
       refine Cd.ret ?_
       have hs := hs.nil 33 10
       obtain rfl := some_s hp40
       have h33 := el_ret h33
       obtain rfl := some_s h33
       have e := hl32 (fun _ e => by cases e)
       subst e
       have h0 := el_ret h0
       obtain rfl := some_s h0
       exact fun a ha => Cd.retA (R := Re (Po34 S0 w0 [] _)) ha Try.results34 ⟨_, _, rfl, rfl, ⟨_, _, rfl, rfl, rfl⟩⟩ ⟨_, rfl, S62, (.slice none 0 0), none, rfl, (hs.pick [0] (by decide) rfl), (Rd.nil _ _ _)⟩
      ·have hp40 := ite_f hc69 hp40
       refine Cd.sg ?_
       refine Cd.seq ?_
       refine Cd.seq ?_
       obtain ⟨p72, hp73, hp40⟩ := bind_s hp40
       refine Cd.post (fun K w => ∃ (S74 : Mp), K = [(0, v1), (4, v26), (5, .int .i64 q23), (8, v65), (60, .bool p72)] ∧ Le S62 S74 ∧ St w0 [] S0 S74 [.app g67 v65 x57.1.length 5 1, .app g28 v26 q22.length 33 10] w) ?_ ?_
       ·rintro K77 w75 ⟨S74, rfl, le76, hs⟩
        refine Cd.go ?_
        refine Cd.cond (t := p72) rfl (fun hc78 => ?_) (fun hc78 => ?_)
        ·have hp40 := ite_t hc78 hp40
         refine Cd.sr ?_
         refine Rg.st rfl rfl ?_
         refine Rg.st rfl rfl ?_
         refine Rg.go ?_
         refine Cd.ret ?_
         have hs := hs.nil 33 10
         obtain rfl := some_s hp40
         have h33 := el_ret h33
         obtain rfl := some_s h33
         have e := hl32 (fun _ e => by cases e)
         subst e
         have h0 := el_ret h0
         obtain rfl := some_s h0
         exact fun a ha => Cd.retA (R := Re (Po34 S0 w0 [] _)) ha Try.results34 ⟨_, _, rfl, rfl, ⟨_, _, rfl, rfl, rfl⟩⟩ ⟨_, rfl, S74, (.slice none 0 0), none, rfl, (hs.pick [0] (by decide) rfl), (Rd.nil _ _ _)⟩
        ·have hp40 := ite_f hc78 hp40
         refine Cd.sg ?_
         refine Cd.seq ?_
         obtain ⟨p81, hp82, hp40⟩ := bind_s hp40
         refine Cd.post (fun K w => ∃ (S83 : Mp) (b86 : Nat) (v87 : Value) (v89 : Value) (v91 : Value) (v93 : Value), K = [(0, v1), (4, v26), (5, .int .i64 q23), (8, v65), (10, .pointer (some ⟨b86, 0, none⟩))] ∧ Le S74 S83 ∧ St w0 [] S0 S83 [.app g67 v65 x57.1.length 5 1, .app g28 v26 q22.length 33 10, .box b86 #[.int .i64 p81.Kind, .int .u32 p81.From, .int .u32 p81.About, v87, v89, v91, .int .u64 p81.Rate, .int .i64 p81.Type_, .int .i64 p81.Count, v93] 33] w ∧ Rd S83 3 R_api_Tuple v87 p81.Tuples ∧ Rd S83 1 (RI .u32) v89 p81.Abouts ∧ Rd S83 1 (RI .i64) v91 p81.Numbers ∧ Rd S83 1 (RI .u8) v93 p81.Body) ?_ ?_
         ·rintro K96 w84 ⟨S83, b86, v87, v89, v91, v93, rfl, le85, hs, f88, f90, f92, f94⟩
          refine Cd.go ?_
          refine Cd.seq ?_
          refine Cd.seq ?_
          obtain ⟨p98, hp99, hp40⟩ := bind_s hp40
          refine Cd.post (fun K w => ∃ (S100 : Mp), K = [(0, v1), (4, v26), (5, .int .i64 q23), (8, v65), (10, .pointer (some ⟨b86, 0, none⟩)), (85, .bool p98)] ∧ Le S83 S100 ∧ St w0 [] S0 S100 [.app g67 v65 x57.1.length 5 1, .app g28 v26 q22.length 33 10, .box b86 #[.int .i64 p81.Kind, .int .u32 p81.From, .int .u32 p81.About, v87, v89, v91, .int .u64 p81.Rate, .int .i64 p81.Type_, .int .i64 p81.Count, v93] 33] w) ?_ ?_
          ·rintro K103 w101 ⟨S100, rfl, le102, hs⟩
           refine Cd.go ?_
           refine Cd.cond (t := p98) rfl (fun hc104 => ?_) (fun hc104 => ?_)
           ·have hp40 := ite_t hc104 hp40
            refine Cd.sr ?_
            refine Rg.st rfl rfl ?_
            refine Rg.st rfl rfl ?_
            refine Rg.go ?_
            refine Cd.ret ?_
            have hs := hs.nil 33 10
            obtain rfl := some_s hp40
            have h33 := el_ret h33
            obtain rfl := some_s h33
            have e := hl32 (fun _ e => by cases e)
            subst e
            have h0 := el_ret h0
            obtain rfl := some_s h0
            exact fun a ha => Cd.retA (R := Re (Po34 S0 w0 [] _)) ha Try.results34 ⟨_, _, rfl, rfl, ⟨_, _, rfl, rfl, rfl⟩⟩ ⟨_, rfl, S100, (.slice none 0 0), none, rfl, (hs.pick [0] (by decide) rfl), (Rd.nil _ _ _)⟩
           ·have hp40 := ite_f hc104 hp40
            refine Cd.sg ?_
            refine Cd.sr ?_
            refine Rg.mv rfl rfl ?_
            refine Rg.vN (X.loadN (vals := [.int .i64 p81.Kind, .int .u32 p81.From, .int .u32 p81.About, v87, v89, v91, .int .u64 p81.Rate, .int .i64 p81.Type_, .int .i64 p81.Count, v93]) Try.underlying33 rfl zz33 rfl (hs.range 2 rfl 0 rfl)) rfl ?_
            refine Rg.step rfl (Oq.lit (sz := 10) (cs0 := [.int .i64 0, .int .u32 0, .int .u32 0, .slice none 0 0, .slice none 0 0, .slice none 0 0, .int .u64 0, .int .i64 0, .int .i64 0, .slice none 0 0]) (cells := [.int .i64 p81.Kind, .int .u32 p81.From, .int .u32 p81.About, v87, v89, v91, .int .u64 p81.Rate, .int .i64 p81.Type_, .int .i64 p81.Count, v93]) hs Try.underlying36 ii33 rfl rfl rfl rfl rfl rfl ⟨_, [.int .i64 p81.Kind, .int .u32 p81.From, .int .u32 p81.About, v87, v89, v91, .int .u64 p81.Rate, .int .i64 p81.Type_, .int .i64 p81.Count, v93], _, rfl, rfl, rfl, rfl⟩ rfl rfl rfl (fun b106 w107 S108 hs le109 hE110 => ?_))
            have f112 : Rd S108 10 R_api_Report (.slice (some ⟨b106, 0, none⟩) 1 1) ([p81] : List api_Report) := Rd.of_cells (xs := ([p81] : List api_Report)) ⟨[.int .i64 p81.Kind, .int .u32 p81.From, .int .u32 p81.About, v87, v89, v91, .int .u64 p81.Rate, .int .i64 p81.Type_, .int .i64 p81.Count, v93], _, rfl, rfl, one_all ⟨rfl, rfl, rfl, (f88.mono (le102.trans le109)).one, (f90.mono (le102.trans le109)).one, (f92.mono (le102.trans le109)).one, rfl, rfl, rfl, (f94.mono (le102.trans le109)).one, trivial⟩, ⟨_, _, _, _, rfl, (f88.mono (le102.trans le109)), (f90.mono (le102.trans le109)), (f92.mono (le102.trans le109)), (f94.mono (le102.trans le109))⟩, rfl⟩ hE110 (Nat.le_of_ble_eq_true rfl) (Nat.le_of_ble_eq_true rfl)
            obtain ⟨y113, hx114, hp40⟩ := bind_s hp40
            refine Rg.step rfl (Oq.appendS hs 2 rfl Try.underlying36 ii33 rfl rfl rfl rfl rfl rfl (f27.mono (le56.trans (le64.trans (le76.trans (le85.trans (le102.trans le109)))))) f112 hx114 rfl rfl rfl (fun v115 w116 S117 g118 hs le119 f120 => ?_))
            refine Rg.st rfl rfl ?_
            refine Rg.go ?_
            refine Cd.region ?_
            refine Rg.mv rfl rfl ?_
            refine Rg.weak [(0, v1), (4, v115), (8, v65), (90, .int .i64 q23)] ⟨rfl, rfl, rfl, rfl, trivial⟩ ?_
            refine Rg.mv rfl rfl ?_
            refine Rg.vN (X.lenR Try.underlying31 rfl (f66.mono (le76.trans (le85.trans (le102.trans (le109.trans le119)))))) rfl ?_
            refine Rg.vN (X.add rfl rfl) rfl ?_
            refine Rg.st rfl rfl ?_
            refine Rg.nil ?_
            obtain rfl := some_s hp40
            exact fun a ha => ⟨[(0, v1), (4, v115), (5, .int .i64 (add .i64 q23 (x57.1.length : Int)))], ha.weak ⟨rfl, rfl, rfl, trivial⟩, _, _, S117, v115, g118, rfl, rfl, (le56.trans (le64.trans (le76.trans (le85.trans (le102.trans (le109.trans le119)))))), (hs.pick [2] (by decide) rfl), f120⟩
          ·skip
           refine Cd.rD mixed (fun l w => Has S83 w ∧ Hp b86 #[.int .i64 p81.Kind, .int .u32 p81.From, .int .u32 p81.About, v87, v89, v91, .int .u64 p81.Rate, .int .i64 p81.Type_, .int .i64 p81.Count, v93] 33 w) hs (fun _ _ _ _ _ h => h) (by kernel_rfl) (fun w121 hs => ⟨⟨hs.has, (hs.heap 2 rfl)⟩, ?_⟩)
           refine Rk.tN 0 rfl rfl (fun w hc => X.loadN (vals := [.int .i64 p81.Kind, .int .u32 p81.From, .int .u32 p81.About, v87, v89, v91, .int .u64 p81.Rate, .int .i64 p81.Type_, .int .i64 p81.Count, v93]) Try.underlying33 rfl zz33 rfl (heap_range hc.2 0 rfl)) ?_
           obtain ⟨x122, hx123, hp99⟩ := bind_s hp99
           refine Rk.eN 1 rfl rfl (Oq.call Try.call32 rfl rfl (c32 S83 (St.start _ _ hs.has) p81 _ f88 _ f90 _ f92 _ f94 _ hx123) (fun v124 w125 h126 => ?_))
           obtain ⟨S127, rfl, hs128⟩ := h126
           have le129 := hs128.le
           have hs := hs.call0 hs128
           refine ⟨⟨(hs.has.down le129), (hs.heap 2 rfl)⟩, Rk.mk (C' := fun l w => Has S127 w ∧ Hp b86 #[.int .i64 p81.Kind, .int .u32 p81.From, .int .u32 p81.About, v87, v89, v91, .int .u64 p81.Rate, .int .i64 p81.Type_, .int .i64 p81.Count, v93] 33 w) ⟨hs.has, (hs.heap 2 rfl)⟩ (fun l w hc => ⟨hc.1.down le129, hc.2⟩) ?_⟩
           refine Rk.tN 2 rfl rfl (fun _ _ => X.neq rfl rfl) ?_
           refine Rk.tN 3 rfl rfl (fun _ _ => X.move rfl) ?_
           refine Rk.tF 4 rfl rfl rfl rfl (fun hW => fun w hc => X.loadN (vals := [.int .i64 p81.Kind, .int .u32 p81.From, .int .u32 p81.About, v87, v89, v91, .int .u64 p81.Rate, .int .i64 p81.Type_, .int .i64 p81.Count, v93]) Try.underlying33 rfl zz33 rfl (heap_range hc.2 0 rfl)) ?_
           refine Rk.tF 7 rfl rfl rfl rfl (fun hW => fun _ _ => X.move rfl) ?_
           refine Rk.tF 8 rfl rfl rfl rfl (fun hW => fun w hc => X.loadN (vals := [.int .i64 p81.Kind, .int .u32 p81.From, .int .u32 p81.About, v87, v89, v91, .int .u64 p81.Rate, .int .i64 p81.Type_, .int .i64 p81.Count, v93]) Try.underlying33 rfl zz33 rfl (heap_range hc.2 0 rfl)) ?_
           refine Rk.split (b := x122 != 0) (tj := 76) rfl (fun hc130 => ?_) (fun hc130 => ?_)
           ·have hp99 := ite_t hc130 hp99
            refine Rk.weak [(0, v1), (4, v26), (5, .int .i64 q23), (8, v65), (10, .pointer (some ⟨b86, 0, none⟩)), (76, .bool true), (77, undef), (80, undef), (81, undef)] ⟨rfl, rfl, rfl, rfl, rfl, rfl, get_u rfl (nn hc130), get_u rfl (nn hc130), get_u rfl (nn hc130), trivial⟩ ?_
            refine Rk.tO 5 rfl rfl rfl rfl rfl ?_
            refine Rk.tO 6 rfl rfl rfl rfl rfl ?_
            refine Rk.tO 9 rfl rfl rfl rfl rfl ?_
            refine Rk.tO 10 rfl rfl rfl rfl rfl ?_
            refine Rk.tO 11 rfl rfl rfl rfl rfl ?_
            refine Rk.tN 12 rfl rfl (fun _ _ => X.pickT rfl rfl) ?_
            refine Rk.done ?_
            obtain rfl := some_s hp99
            exact fun a ha => ⟨[(0, v1), (4, v26), (5, .int .i64 q23), (8, v65), (10, .pointer (some ⟨b86, 0, none⟩)), (85, .bool true)], ha.weak ⟨rfl, rfl, rfl, rfl, rfl, rfl, trivial⟩, S127, rfl, le129, hs⟩
           ·have hp99 := ite_f hc130 hp99
            refine Rk.weak [(0, v1), (4, v26), (5, .int .i64 q23), (8, v65), (10, .pointer (some ⟨b86, 0, none⟩)), (76, .bool false), (77, .agg (#[.int .i64 p81.Kind, .int .u32 p81.From, .int .u32 p81.About, v87, v89, v91, .int .u64 p81.Rate, .int .i64 p81.Type_, .int .i64 p81.Count, v93])), (80, v65), (81, .agg (#[.int .i64 p81.Kind, .int .u32 p81.From, .int .u32 p81.About, v87, v89, v91, .int .u64 p81.Rate, .int .i64 p81.Type_, .int .i64 p81.Count, v93]))] ⟨rfl, rfl, rfl, rfl, rfl, rfl, get_g rfl (not_f hc130), get_g rfl (not_f hc130), get_g rfl (not_f hc130), trivial⟩ ?_
            obtain ⟨x131, hx132, hp99⟩ := bind_s hp99
            refine Rk.eG 5 rfl rfl rfl rfl (Oq.call Try.call33 rfl rfl (c33 S127 (St.start _ _ hs.has) p81 _ (f88.mono le129) _ (f90.mono le129) _ (f92.mono le129) _ (f94.mono le129) _ hx132) (fun v133 w134 h135 => ?_))
            obtain ⟨S136, v139, g141, rfl, hs137, f140⟩ := h135
            have le138 := hs137.le
            have hs := hs.call0 hs137
            refine ⟨⟨(hs.has.down le138), (hs.heap 3 rfl)⟩, Rk.mk (C' := fun l w => Has S136 w ∧ Hp b86 #[.int .i64 p81.Kind, .int .u32 p81.From, .int .u32 p81.About, v87, v89, v91, .int .u64 p81.Rate, .int .i64 p81.Type_, .int .i64 p81.Count, v93] 33 w) ⟨hs.has, (hs.heap 3 rfl)⟩ (fun l w hc => ⟨hc.1.down le138, hc.2⟩) ?_⟩
            refine Rk.tF 6 rfl rfl rfl rfl (fun hW => fun w hc => X.str hc.1 Try.underlying31 Try.underlying5 Try.underlying9 f140 rfl) ?_
            obtain ⟨x143, hx144, hp99⟩ := bind_s hp99
            refine Rk.eG 9 rfl rfl rfl rfl (Oq.call Try.call57 rfl rfl (c57 S136 (St.start _ _ hs.has) _ _ (f66.mono (le76.trans (le85.trans (le129.trans le138)))) p81 _ (f88.mono (le129.trans le138)) _ (f90.mono (le129.trans le138)) _ (f92.mono (le129.trans le138)) _ (f94.mono (le129.trans le138)) _ hx144) (fun v145 w146 h147 => ?_))
            obtain ⟨S148, v151, rfl, hs149, f152⟩ := h147
            have le150 := hs149.le
            have hs := hs.call0 hs149
            refine ⟨⟨(hs.has.down le150), (hs.heap 3 rfl)⟩, Rk.mk (C' := fun l w => Has S148 w ∧ Hp b86 #[.int .i64 p81.Kind, .int .u32 p81.From, .int .u32 p81.About, v87, v89, v91, .int .u64 p81.Rate, .int .i64 p81.Type_, .int .i64 p81.Count, v93] 33 w) ⟨hs.has, (hs.heap 3 rfl)⟩ (fun l w hc => ⟨hc.1.down le150, hc.2⟩) ?_⟩
            refine Rk.tF 10 rfl rfl rfl rfl (fun hW => fun w hc => X.str hc.1 Try.underlying31 Try.underlying5 Try.underlying9 f152 rfl) ?_
            refine Rk.tF 11 rfl rfl rfl rfl (fun hW => fun _ _ => X.neqS rfl rfl) ?_
            refine Rk.tN 12 rfl rfl (fun _ _ => X.pickF rfl rfl) ?_
            refine Rk.done ?_
            obtain rfl := some_s hp99
            exact fun a ha => ⟨[(0, v1), (4, v26), (5, .int .i64 q23), (8, v65), (10, .pointer (some ⟨b86, 0, none⟩)), (85, .bool (!((strOfNums x131).toList == (strOfNums x143).toList)))], ha.weak ⟨rfl, rfl, rfl, rfl, rfl, rfl, trivial⟩, S148, rfl, (le129.trans (le138.trans le150)), (hs.pick [1, 2, 3] (by decide) rfl)⟩
         ·skip
          refine Cd.rD mixed (fun l w => Has S74 w) hs (fun _ _ _ _ _ h => h) (by kernel_rfl) (fun w153 hs => ⟨hs.has, ?_⟩)
          refine Rk.tN 0 rfl rfl (fun _ _ => X.move rfl) ?_
          obtain ⟨x154, hx155, hp82⟩ := bind_s hp82
          obtain ⟨ad156, vals157, _, hR158, hE159, hX160⟩ := mk_index Try.underlying31 zz5 (by decide) (f66.mono le76) hx155
          obtain rfl : vals157 = [.int .u8 x154] := hR158
          refine Rk.tN 1 rfl rfl (fun _ _ => hX160 rfl rfl) ?_
          refine Rk.tN 2 rfl rfl (fun w hc => X.load1 Try.underlying5 rfl rfl (hE159.at0 rfl hc)) ?_
          refine Rk.tN 3 rfl rfl (fun _ _ => X.conv Try.underlying5 Try.underlying3 rfl) ?_
          refine Rk.tN 4 rfl rfl (fun _ _ => X.move rfl) ?_
          obtain ⟨x161, hx162, hp82⟩ := bind_s hp82
          obtain ⟨ad163, vals164, _, hR165, hE166, hX167⟩ := mk_index Try.underlying31 zz5 (by decide) (f66.mono le76) hx162
          obtain rfl : vals164 = [.int .u8 x161] := hR165
          refine Rk.tN 5 rfl rfl (fun _ _ => hX167 rfl rfl) ?_
          refine Rk.tN 6 rfl rfl (fun w hc => X.load1 Try.underlying5 rfl rfl (hE166.at0 rfl hc)) ?_
          refine Rk.tN 7 rfl rfl (fun _ _ => X.and rfl rfl) ?_
          refine Rk.weak [(0, v1), (4, v26), (5, .int .i64 q23), (8, v65), (64, .int .i64 (cv .i64 x154)), (68, .int .u8 (band .u8 x161 31))] ⟨rfl, rfl, rfl, rfl, rfl, rfl, trivial⟩ ?_
          refine Rk.tN 8 rfl rfl (fun _ _ => X.conv Try.underlying5 Try.underlying3 rfl) ?_
          refine Rk.tN 9 rfl rfl (fun _ _ => X.move rfl) ?_
          obtain ⟨y171, hx172, hp82⟩ := bind_s hp82
          obtain ⟨hb173, he174⟩ := cutFrom_s hx172
          obtain ⟨v168, f169, hX170⟩ := mk_sliceL Try.underlying31 zz5 (f66.mono le76) hb173
          rw [he174] at f169
          refine Rk.tN 10 rfl rfl (fun _ _ => hX170 rfl rfl) ?_
          refine Rk.two 11 12 rfl rfl rfl rfl ?_ ?_
          ·skip
           obtain ⟨x175, hx176, hp82⟩ := bind_s hp82
           refine Oq.call Try.call56 rfl rfl (c56 S74 (St.start _ _ hs.has) _ _ _ _ f169 _ hx176) (fun v177 w178 h179 => ?_)
           obtain ⟨S180, v183, v185, v187, v189, rfl, hs181, f184, f186, f188, f190⟩ := h179
           have le182 := hs181.le
           have hs := hs.call0 hs181
           refine ⟨(hs.has.down le182), Rk.mk (C' := fun l w => Has S180 w) hs.has (fun l w hc => hc.down le182) ?_⟩
           refine Rk.eN 12 rfl rfl (Oq.alloc (cs := #[.int .i64 0, .int .u32 0, .int .u32 0, .slice none 0 0, .slice none 0 0, .slice none 0 0, .int .u64 0, .int .i64 0, .int .i64 0, .slice none 0 0]) hs ii33 rfl rfl rfl (fun b191 w192 hs => ?_))
           refine ⟨hs.has, ?_⟩
           refine Rk.eN 13 rfl rfl (Oq.storeN hs 0 rfl (vals := [.int .i64 x175.Kind, .int .u32 x175.From, .int .u32 x175.About, v183, v185, v187, .int .u64 x175.Rate, .int .i64 x175.Type_, .int .i64 x175.Count, v189]) zz33 rfl rfl (one_all ⟨rfl, rfl, rfl, f184.one, f186.one, f188.one, rfl, rfl, rfl, f190.one, trivial⟩) rfl [.box b191 #[.int .i64 x175.Kind, .int .u32 x175.From, .int .u32 x175.About, v183, v185, v187, .int .u64 x175.Rate, .int .i64 x175.Type_, .int .i64 x175.Count, v189] 33, .app g67 v65 x57.1.length 5 1, .app g28 v26 q22.length 33 10] rfl (fun w194 hs => ?_))
           refine ⟨hs.has, ?_⟩
           refine Rk.done ?_
           obtain rfl := some_s hp82
           exact fun a ha => ⟨[(0, v1), (4, v26), (5, .int .i64 q23), (8, v65), (10, .pointer (some ⟨b191, 0, none⟩))], ha.weak ⟨rfl, rfl, rfl, rfl, rfl, trivial⟩, S180, b191, v183, v185, v187, v189, rfl, le182, (hs.pick [1, 2, 0] (by decide) rfl), f184, f186, f188, f190⟩
          ·skip
           refine Oq.alloc (cs := #[.int .i64 0, .int .u32 0, .int .u32 0, .slice none 0 0, .slice none 0 0, .slice none 0 0, .int .u64 0, .int .i64 0, .int .i64 0, .slice none 0 0]) hs ii33 rfl rfl rfl (fun b195 w196 hs => ?_)
           refine ⟨hs.has, ?_⟩
           obtain ⟨x198, hx199, hp82⟩ := bind_s hp82
           refine Rk.eN 11 rfl rfl (Oq.call Try.call56 rfl rfl (c56 S74 (St.start _ _ hs.has) _ _ _ _ f169 _ hx199) (fun v200 w201 h202 => ?_))
           obtain ⟨S203, v206, v208, v210, v212, rfl, hs204, f207, f209, f211, f213⟩ := h202
           have le205 := hs204.le
           have hs := hs.call0 hs204
           refine ⟨(hs.has.down le205), Rk.mk (C' := fun l w => Has S203 w) hs.has (fun l w hc => hc.down le205) ?_⟩
           refine Rk.eN 13 rfl rfl (Oq.storeN hs 0 rfl (vals := [.int .i64 x198.Kind, .int .u32 x198.From, .int .u32 x198.About, v206, v208, v210, .int .u64 x198.Rate, .int .i64 x198.Type_, .int .i64 x198.Count, v212]) zz33 rfl rfl (one_all ⟨rfl, rfl, rfl, f207.one, f209.one, f211.one, rfl, rfl, rfl, f213.one, trivial⟩) rfl [.box b195 #[.int .i64 x198.Kind, .int .u32 x198.From, .int .u32 x198.About, v206, v208, v210, .int .u64 x198.Rate, .int .i64 x198.Type_, .int .i64 x198.Count, v212] 33, .app g67 v65 x57.1.length 5 1, .app g28 v26 q22.length 33 10] rfl (fun w214 hs => ?_))
           refine ⟨hs.has, ?_⟩
           refine Rk.done ?_
           obtain rfl := some_s hp82
           exact fun a ha => ⟨[(0, v1), (4, v26), (5, .int .i64 q23), (8, v65), (10, .pointer (some ⟨b195, 0, none⟩))], ha.weak ⟨rfl, rfl, rfl, rfl, rfl, trivial⟩, S203, b195, v206, v208, v210, v212, rfl, le205, (hs.pick [1, 2, 0] (by decide) rfl), f207, f209, f211, f213⟩
       ·skip
        refine Cd.region ?_
        refine Rg.mv rfl rfl ?_
        obtain ⟨x215, hx216, hp73⟩ := bind_s hp73
        obtain ⟨ad217, vals218, _, hR219, hE220, hX221⟩ := mk_index Try.underlying31 zz5 (by decide) f66 hx216
        obtain rfl : vals218 = [.int .u8 x215] := hR219
        refine Rg.vN (hX221 rfl rfl) rfl ?_
        refine Rg.vN (X.load1 Try.underlying5 rfl rfl (hE220.at0 rfl hs.has)) rfl ?_
        refine Rg.vN (X.shr rfl rfl (by decide)) rfl ?_
        refine Rg.weak [(0, v1), (4, v26), (5, .int .i64 q23), (8, v65), (47, .int .u8 (shr .u8 x215 5))] ⟨rfl, rfl, rfl, rfl, rfl, trivial⟩ ?_
        refine Rg.vN (X.neq rfl rfl) rfl ?_
        refine Rg.mv rfl rfl ?_
        refine Rg.vF rfl rfl rfl (fun hW => X.move rfl) ?_
        refine Rg.split (c := (shr .u8 x215 5) != 4) (tj := 49) rfl (fun hc222 => ?_) (fun hc222 => ?_)
        ·have hp73 := ite_t hc222 hp73
         refine Rg.weak [(0, v1), (4, v26), (5, .int .i64 q23), (8, v65), (49, .bool true), (50, undef)] ⟨rfl, rfl, rfl, rfl, rfl, get_u rfl (nn hc222), trivial⟩ ?_
         refine Rg.vO rfl rfl rfl rfl ?_
         refine Rg.vO rfl rfl rfl rfl ?_
         refine Rg.vO rfl rfl rfl rfl ?_
         refine Rg.vN (X.pickT rfl rfl) rfl ?_
         refine Rg.mv rfl rfl ?_
         refine Rg.vO rfl rfl rfl rfl ?_
         refine Rg.vO rfl rfl rfl rfl ?_
         refine Rg.vO rfl rfl rfl rfl ?_
         refine Rg.vO rfl rfl rfl rfl ?_
         refine Rg.vN (X.pickT rfl rfl) rfl ?_
         refine Rg.nil ?_
         obtain rfl := some_s hp73
         exact fun a ha => ⟨[(0, v1), (4, v26), (5, .int .i64 q23), (8, v65), (60, .bool true)], ha.weak ⟨rfl, rfl, rfl, rfl, rfl, trivial⟩, S62, rfl, Le.refl _, hs⟩
        ·have hp73 := ite_f hc222 hp73
         refine Rg.weak [(0, v1), (4, v26), (5, .int .i64 q23), (8, v65), (49, .bool false), (50, v65)] ⟨rfl, rfl, rfl, rfl, rfl, get_g rfl (not_f hc222), trivial⟩ ?_
         refine Rg.gon rfl rfl rfl ?_
         obtain ⟨x223, hx224, hp73⟩ := bind_s hp73
         obtain ⟨ad225, vals226, _, hR227, hE228, hX229⟩ := mk_index Try.underlying31 zz5 (by decide) f66 hx224
         obtain rfl : vals226 = [.int .u8 x223] := hR227
         refine Rg.vN (hX229 rfl rfl) rfl ?_
         refine Rg.gon rfl rfl rfl ?_
         refine Rg.vN (X.load1 Try.underlying5 rfl rfl (hE228.at0 rfl hs.has)) rfl ?_
         refine Rg.gon rfl rfl rfl ?_
         refine Rg.vN (X.lss rfl rfl) rfl ?_
         refine Rg.vN (X.pickF rfl rfl) rfl ?_
         refine Rg.mv rfl rfl ?_
         refine Rg.vF rfl rfl rfl (fun hW => X.move rfl) ?_
         refine Rg.split (c := decide (x223 < 192)) (tj := 55) rfl (fun hc230 => ?_) (fun hc230 => ?_)
         ·have hp73 := ite_t hc230 hp73
          refine Rg.weak [(0, v1), (4, v26), (5, .int .i64 q23), (8, v65), (55, .bool true), (56, undef)] ⟨rfl, rfl, rfl, rfl, rfl, get_u rfl (nn hc230), trivial⟩ ?_
          refine Rg.vO rfl rfl rfl rfl ?_
          refine Rg.vO rfl rfl rfl rfl ?_
          refine Rg.vO rfl rfl rfl rfl ?_
          refine Rg.vN (X.pickT rfl rfl) rfl ?_
          refine Rg.nil ?_
          obtain rfl := some_s hp73
          exact fun a ha => ⟨[(0, v1), (4, v26), (5, .int .i64 q23), (8, v65), (60, .bool true)], ha.weak ⟨rfl, rfl, rfl, rfl, rfl, trivial⟩, S62, rfl, Le.refl _, hs⟩
         ·have hp73 := ite_f hc230 hp73
          refine Rg.weak [(0, v1), (4, v26), (5, .int .i64 q23), (8, v65), (55, .bool false), (56, v65)] ⟨rfl, rfl, rfl, rfl, rfl, get_g rfl (not_f hc230), trivial⟩ ?_
          refine Rg.gon rfl rfl rfl ?_
          obtain ⟨x231, hx232, hp73⟩ := bind_s hp73
          obtain ⟨ad233, vals234, _, hR235, hE236, hX237⟩ := mk_index Try.underlying31 zz5 (by decide) f66 hx232
          obtain rfl : vals234 = [.int .u8 x231] := hR235
          refine Rg.vN (hX237 rfl rfl) rfl ?_
          refine Rg.gon rfl rfl rfl ?_
          refine Rg.vN (X.load1 Try.underlying5 rfl rfl (hE236.at0 rfl hs.has)) rfl ?_
          refine Rg.gon rfl rfl rfl ?_
          refine Rg.vN (X.gtr rfl rfl) rfl ?_
          refine Rg.vN (X.pickF rfl rfl) rfl ?_
          refine Rg.nil ?_
          obtain rfl := some_s hp73
          exact fun a ha => ⟨[(0, v1), (4, v26), (5, .int .i64 q23), (8, v65), (60, .bool (decide (223 < x231)))], ha.weak ⟨rfl, rfl, rfl, rfl, rfl, trivial⟩, S62, rfl, Le.refl _, hs⟩
    ·have h33 := ite_f hc36 h33
     refine Cd.exit ?_
     obtain rfl := some_s h33
     have e := hl32 (fun _ e => by cases e)
     exact fun a ha => ⟨[(4, v26)], ha.weak ⟨rfl, trivial⟩, _, _, S24, v26, g28, rfl, e.symm, le25, hs, f27⟩
noncomputable def rtcp_Is (b_0 : (List Int)) : Option Bool :=
 ((
  if (decide (2 ≤ (b_0.length : Int))) = true then (
   (ix b_0 1).bind fun x11 =>
   if (decide (192 ≤ x11)) = true then (
    (ix b_0 1).bind fun x19 =>
    some (decide (x19 ≤ 223)))
   else (
    some false))
  else (
   some false) : Option Bool)).bind fun p4 =>
 some p4
def Po24 (S0 : Mp) (w0 : World) (D : List Nat) (r : Bool) (v : Value) (w1 : World) : Prop :=
  ∃ (S1 : Mp), v = .bool r ∧ St w0 D S0 S1 [] w1
set_option maxHeartbeats 4000000 in
theorem c24 (S0 : Mp) {w0 : World} (hs : St w0 [] S0 S0 [] w0) (b_0 : (List Int)) (v1 : Value) (f2 : Rd S0 1 (RI .u8) v1 b_0) (r : Bool) (h0 : rtcp_Is b_0 = some r) :
    Calls Try.prog 24 #[v1] w0 (Re (Po24 S0 w0 [] r)) := by
 unfold rtcp_Is at h0
 refine calls_of_cd Try.func24 rfl Try.ntmps24 rfl ?_
 refine Cd.sr ?_
 refine Rg.st rfl rfl ?_
 refine Rg.go ?_
 refine Cd.seq ?_
 obtain ⟨p4, hp5, h0⟩ := bind_s h0
 refine Cd.post (fun K w => ∃ (S6 : Mp), K = [(2, .bool p4)] ∧ Le S0 S6 ∧ St w0 [] S0 S6 [] w) ?_ ?_
 ·rintro K9 w7 ⟨S6, rfl, le8, hs⟩
  refine Cd.go ?_
  refine Cd.ret ?_
  obtain rfl := some_s h0
  exact fun a ha => Cd.retA (R := Re (Po24 S0 w0 [] _)) ha Try.results24 ⟨_, _, rfl, rfl, rfl⟩ ⟨_, rfl, S6, rfl, hs⟩
 ·skip
  refine Cd.region ?_
  refine Rg.mv rfl rfl ?_
  refine Rg.vN (X.lenR Try.underlying31 rfl f2) rfl ?_
  refine Rg.vN (X.geq rfl rfl) rfl ?_
  refine Rg.mv rfl rfl ?_
  refine Rg.vT rfl rfl rfl (fun hW => X.move rfl) ?_
  refine Rg.split (c := decide (2 ≤ (b_0.length : Int))) (tj := 6) rfl (fun hc10 => ?_) (fun hc10 => ?_)
  ·have hp5 := ite_t hc10 hp5
   refine Rg.weak [(0, v1), (6, .bool true), (7, v1)] ⟨rfl, rfl, get_g rfl hc10, trivial⟩ ?_
   refine Rg.gon rfl rfl rfl ?_
   obtain ⟨x11, hx12, hp5⟩ := bind_s hp5
   obtain ⟨ad13, vals14, _, hR15, hE16, hX17⟩ := mk_index Try.underlying31 zz5 (by decide) f2 hx12
   obtain rfl : vals14 = [.int .u8 x11] := hR15
   refine Rg.vN (hX17 rfl rfl) rfl ?_
   refine Rg.gon rfl rfl rfl ?_
   refine Rg.vN (X.load1 Try.underlying5 rfl rfl (hE16.at0 rfl hs.has)) rfl ?_
   refine Rg.gon rfl rfl rfl ?_
   refine Rg.vN (X.geq rfl rfl) rfl ?_
   refine Rg.vN (X.pickT rfl rfl) rfl ?_
   refine Rg.mv rfl rfl ?_
   refine Rg.vT rfl rfl rfl (fun hW => X.move rfl) ?_
   refine Rg.split (c := decide (192 ≤ x11)) (tj := 12) rfl (fun hc18 => ?_) (fun hc18 => ?_)
   ·have hp5 := ite_t hc18 hp5
    refine Rg.weak [(12, .bool true), (13, v1)] ⟨rfl, get_g rfl hc18, trivial⟩ ?_
    refine Rg.gon rfl rfl rfl ?_
    obtain ⟨x19, hx20, hp5⟩ := bind_s hp5
    obtain ⟨ad21, vals22, _, hR23, hE24, hX25⟩ := mk_index Try.underlying31 zz5 (by decide) f2 hx20
    obtain rfl : vals22 = [.int .u8 x19] := hR23
    refine Rg.vN (hX25 rfl rfl) rfl ?_
    refine Rg.gon rfl rfl rfl ?_
    refine Rg.vN (X.load1 Try.underlying5 rfl rfl (hE24.at0 rfl hs.has)) rfl ?_
    refine Rg.gon rfl rfl rfl ?_
    refine Rg.vN (X.leq rfl rfl) rfl ?_
    refine Rg.vN (X.pickT rfl rfl) rfl ?_
    refine Rg.st rfl rfl ?_
    refine Rg.nil ?_
    obtain rfl := some_s hp5
    exact fun a ha => ⟨[(2, .bool (decide (x19 ≤ 223)))], ha.weak ⟨rfl, trivial⟩, S0, rfl, Le.refl _, hs⟩
   ·have hp5 := ite_f hc18 hp5
    refine Rg.weak [(12, .bool false), (13, undef)] ⟨rfl, get_u rfl (not_f hc18), trivial⟩ ?_
    refine Rg.vO rfl rfl rfl rfl ?_
    refine Rg.vO rfl rfl rfl rfl ?_
    refine Rg.vO rfl rfl rfl rfl ?_
    refine Rg.vN (X.pickF rfl rfl) rfl ?_
    refine Rg.st rfl rfl ?_
    refine Rg.nil ?_
    obtain rfl := some_s hp5
    exact fun a ha => ⟨[(2, .bool false)], ha.weak ⟨rfl, trivial⟩, S0, rfl, Le.refl _, hs⟩
  ·have hp5 := ite_f hc10 hp5
   refine Rg.weak [(0, v1), (6, .bool false), (7, undef)] ⟨rfl, rfl, get_u rfl (not_f hc10), trivial⟩ ?_
   refine Rg.vO rfl rfl rfl rfl ?_
   refine Rg.vO rfl rfl rfl rfl ?_
   refine Rg.vO rfl rfl rfl rfl ?_
   refine Rg.vN (X.pickF rfl rfl) rfl ?_
   refine Rg.mv rfl rfl ?_
   refine Rg.vO rfl rfl rfl rfl ?_
   refine Rg.vO rfl rfl rfl rfl ?_
   refine Rg.vO rfl rfl rfl rfl ?_
   refine Rg.vO rfl rfl rfl rfl ?_
   refine Rg.vN (X.pickF rfl rfl) rfl ?_
   refine Rg.st rfl rfl ?_
   refine Rg.nil ?_
   obtain rfl := some_s hp5
   exact fun a ha => ⟨[(2, .bool false)], ha.weak ⟨rfl, trivial⟩, S0, rfl, Le.refl _, hs⟩
noncomputable def limelightref6_Is (b_0 : (List Int)) : Option Bool :=
 ((
  if (decide (2 ≤ (b_0.length : Int))) = true then (
   (ix b_0 1).bind fun x11 =>
   if (decide (192 ≤ x11)) = true then (
    (ix b_0 1).bind fun x19 =>
    some (decide (x19 ≤ 223)))
   else (
    some false))
  else (
   some false) : Option Bool)).bind fun p4 =>
 some p4
def Po35 (S0 : Mp) (w0 : World) (D : List Nat) (r : Bool) (v : Value) (w1 : World) : Prop :=
  ∃ (S1 : Mp), v = .bool r ∧ St w0 D S0 S1 [] w1
set_option maxHeartbeats 4000000 in
theorem c35 (S0 : Mp) {w0 : World} (hs : St w0 [] S0 S0 [] w0) (b_0 : (List Int)) (v1 : Value) (f2 : Rd S0 1 (RI .u8) v1 b_0) (r : Bool) (h0 : limelightref6_Is b_0 = some r) :
    Calls Try.prog 35 #[v1] w0 (Re (Po35 S0 w0 [] r)) := by
 unfold limelightref6_Is at h0
 refine calls_of_cd Try.func35 rfl Try.ntmps35 rfl ?_
 refine Cd.sr ?_
 refine Rg.st rfl rfl ?_
 refine Rg.go ?_
 refine Cd.seq ?_
 obtain ⟨p4, hp5, h0⟩ := bind_s h0
 refine Cd.post (fun K w => ∃ (S6 : Mp), K = [(2, .bool p4)] ∧ Le S0 S6 ∧ St w0 [] S0 S6 [] w) ?_ ?_
 ·rintro K9 w7 ⟨S6, rfl, le8, hs⟩
  refine Cd.go ?_
  refine Cd.ret ?_
  obtain rfl := some_s h0
  exact fun a ha => Cd.retA (R := Re (Po35 S0 w0 [] _)) ha Try.results35 ⟨_, _, rfl, rfl, rfl⟩ ⟨_, rfl, S6, rfl, hs⟩
 ·skip
  refine Cd.region ?_
  refine Rg.mv rfl rfl ?_
  refine Rg.vN (X.lenR Try.underlying31 rfl f2) rfl ?_
  refine Rg.vN (X.geq rfl rfl) rfl ?_
  refine Rg.mv rfl rfl ?_
  refine Rg.vT rfl rfl rfl (fun hW => X.move rfl) ?_
  refine Rg.split (c := decide (2 ≤ (b_0.length : Int))) (tj := 6) rfl (fun hc10 => ?_) (fun hc10 => ?_)
  ·have hp5 := ite_t hc10 hp5
   refine Rg.weak [(0, v1), (6, .bool true), (7, v1)] ⟨rfl, rfl, get_g rfl hc10, trivial⟩ ?_
   refine Rg.gon rfl rfl rfl ?_
   obtain ⟨x11, hx12, hp5⟩ := bind_s hp5
   obtain ⟨ad13, vals14, _, hR15, hE16, hX17⟩ := mk_index Try.underlying31 zz5 (by decide) f2 hx12
   obtain rfl : vals14 = [.int .u8 x11] := hR15
   refine Rg.vN (hX17 rfl rfl) rfl ?_
   refine Rg.gon rfl rfl rfl ?_
   refine Rg.vN (X.load1 Try.underlying5 rfl rfl (hE16.at0 rfl hs.has)) rfl ?_
   refine Rg.gon rfl rfl rfl ?_
   refine Rg.vN (X.geq rfl rfl) rfl ?_
   refine Rg.vN (X.pickT rfl rfl) rfl ?_
   refine Rg.mv rfl rfl ?_
   refine Rg.vT rfl rfl rfl (fun hW => X.move rfl) ?_
   refine Rg.split (c := decide (192 ≤ x11)) (tj := 12) rfl (fun hc18 => ?_) (fun hc18 => ?_)
   ·have hp5 := ite_t hc18 hp5
    refine Rg.weak [(12, .bool true), (13, v1)] ⟨rfl, get_g rfl hc18, trivial⟩ ?_
    refine Rg.gon rfl rfl rfl ?_
    obtain ⟨x19, hx20, hp5⟩ := bind_s hp5
    obtain ⟨ad21, vals22, _, hR23, hE24, hX25⟩ := mk_index Try.underlying31 zz5 (by decide) f2 hx20
    obtain rfl : vals22 = [.int .u8 x19] := hR23
    refine Rg.vN (hX25 rfl rfl) rfl ?_
    refine Rg.gon rfl rfl rfl ?_
    refine Rg.vN (X.load1 Try.underlying5 rfl rfl (hE24.at0 rfl hs.has)) rfl ?_
    refine Rg.gon rfl rfl rfl ?_
    refine Rg.vN (X.leq rfl rfl) rfl ?_
    refine Rg.vN (X.pickT rfl rfl) rfl ?_
    refine Rg.st rfl rfl ?_
    refine Rg.nil ?_
    obtain rfl := some_s hp5
    exact fun a ha => ⟨[(2, .bool (decide (x19 ≤ 223)))], ha.weak ⟨rfl, trivial⟩, S0, rfl, Le.refl _, hs⟩
   ·have hp5 := ite_f hc18 hp5
    refine Rg.weak [(12, .bool false), (13, undef)] ⟨rfl, get_u rfl (not_f hc18), trivial⟩ ?_
    refine Rg.vO rfl rfl rfl rfl ?_
    refine Rg.vO rfl rfl rfl rfl ?_
    refine Rg.vO rfl rfl rfl rfl ?_
    refine Rg.vN (X.pickF rfl rfl) rfl ?_
    refine Rg.st rfl rfl ?_
    refine Rg.nil ?_
    obtain rfl := some_s hp5
    exact fun a ha => ⟨[(2, .bool false)], ha.weak ⟨rfl, trivial⟩, S0, rfl, Le.refl _, hs⟩
  ·have hp5 := ite_f hc10 hp5
   refine Rg.weak [(0, v1), (6, .bool false), (7, undef)] ⟨rfl, rfl, get_u rfl (not_f hc10), trivial⟩ ?_
   refine Rg.vO rfl rfl rfl rfl ?_
   refine Rg.vO rfl rfl rfl rfl ?_
   refine Rg.vO rfl rfl rfl rfl ?_
   refine Rg.vN (X.pickF rfl rfl) rfl ?_
   refine Rg.mv rfl rfl ?_
   refine Rg.vO rfl rfl rfl rfl ?_
   refine Rg.vO rfl rfl rfl rfl ?_
   refine Rg.vO rfl rfl rfl rfl ?_
   refine Rg.vO rfl rfl rfl rfl ?_
   refine Rg.vN (X.pickF rfl rfl) rfl ?_
   refine Rg.st rfl rfl ?_
   refine Rg.nil ?_
   obtain rfl := some_s hp5
   exact fun a ha => ⟨[(2, .bool false)], ha.weak ⟨rfl, trivial⟩, S0, rfl, Le.refl _, hs⟩
noncomputable def limelightlaw6_reads (b_0 : (List Int)) : Option Bool :=
 (rtcp_Read b_0).bind fun x3 =>
 (limelightref6_Read b_0).bind fun x13 =>
 ((
  if (x3.2 == x13.2) = true then (
   (limelightref6_All x3.1 x13.1).bind fun x33 =>
   if x33 = true then (
    (rtcp_Is b_0).bind fun x42 =>
    (limelightref6_Is b_0).bind fun x50 =>
    some (x42 == x50))
   else (
    some false))
  else (
   some false) : Option Bool)).bind fun p26 =>
 some p26
def Po14 (S0 : Mp) (w0 : World) (D : List Nat) (r : Bool) (v : Value) (w1 : World) : Prop :=
  ∃ (S1 : Mp), v = .bool r ∧ St w0 D S0 S1 [] w1
set_option maxHeartbeats 4000000 in
theorem c14 (S0 : Mp) {w0 : World} (hs : St w0 [] S0 S0 [] w0) (b_0 : (List Int)) (v1 : Value) (f2 : Rd S0 1 (RI .u8) v1 b_0) (r : Bool) (h0 : limelightlaw6_reads b_0 = some r) :
    Calls Try.prog 14 #[v1] w0 (Re (Po14 S0 w0 [] r)) := by
 unfold limelightlaw6_reads at h0
 refine calls_of_cd Try.func14 rfl Try.ntmps14 rfl ?_
 refine Cd.sr ?_
 refine Rg.st rfl rfl ?_
 refine Rg.go ?_
 refine Cd.sr ?_
 refine Rg.mv rfl rfl ?_
 obtain ⟨x3, hx4, h0⟩ := bind_s h0
 refine Rg.step rfl (Oq.call Try.call20 rfl rfl (c20 S0 (St.start _ _ hs.has) _ _ f2 _ hx4) (fun v5 w6 h7 => ?_))
 obtain ⟨S8, v11, rfl, hs9, f12⟩ := h7
 have le10 := hs9.le
 have hs := hs.call0 hs9
 refine Rg.mv rfl rfl ?_
 refine Rg.vN (X.extract rfl rfl) rfl ?_
 refine Rg.vN (X.extract rfl rfl) rfl ?_
 refine Rg.st rfl rfl ?_
 refine Rg.st rfl rfl ?_
 refine Rg.go ?_
 refine Cd.sr ?_
 refine Rg.mv rfl rfl ?_
 obtain ⟨x13, hx14, h0⟩ := bind_s h0
 refine Rg.step rfl (Oq.call Try.call34 rfl rfl (c34 S8 (St.start _ _ hs.has) _ _ (f2.mono le10) _ hx14) (fun v15 w16 h17 => ?_))
 obtain ⟨S18, v21, g23, rfl, hs19, f22⟩ := h17
 have le20 := hs19.le
 have hs := hs.call0 hs19
 refine Rg.mv rfl rfl ?_
 refine Rg.vN (X.extract rfl rfl) rfl ?_
 refine Rg.vN (X.extract rfl rfl) rfl ?_
 refine Rg.st rfl rfl ?_
 refine Rg.st rfl rfl ?_
 refine Rg.go ?_
 refine Cd.seq ?_
 obtain ⟨p26, hp27, h0⟩ := bind_s h0
 refine Cd.post (fun K w => ∃ (S28 : Mp), K = [(2, .bool p26)] ∧ Le S18 S28 ∧ St w0 [] S0 S28 [] w) ?_ ?_
 ·rintro K31 w29 ⟨S28, rfl, le30, hs⟩
  refine Cd.go ?_
  refine Cd.ret ?_
  obtain rfl := some_s h0
  exact fun a ha => Cd.retA (R := Re (Po14 S0 w0 [] _)) ha Try.results14 ⟨_, _, rfl, rfl, rfl⟩ ⟨_, rfl, S28, rfl, hs⟩
 ·skip
  refine Cd.region ?_
  refine Rg.mv rfl rfl ?_
  refine Rg.mv rfl rfl ?_
  refine Rg.weak [(0, v1), (3, v11), (5, v21), (17, .int .i64 x3.2), (18, .int .i64 x13.2)] ⟨rfl, rfl, rfl, rfl, rfl, trivial⟩ ?_
  refine Rg.vN (X.eql rfl rfl) rfl ?_
  refine Rg.mv rfl rfl ?_
  refine Rg.vT rfl rfl rfl (fun hW => X.move rfl) ?_
  refine Rg.vT rfl rfl rfl (fun hW => X.move rfl) ?_
  refine Rg.split (c := x3.2 == x13.2) (tj := 20) rfl (fun hc32 => ?_) (fun hc32 => ?_)
  ·have hp27 := ite_t hc32 hp27
   refine Rg.weak [(0, v1), (20, .bool true), (21, v11), (22, v21)] ⟨rfl, rfl, get_g rfl hc32, get_g rfl hc32, trivial⟩ ?_
   refine Rg.gon rfl rfl rfl ?_
   obtain ⟨x33, hx34, hp27⟩ := bind_s hp27
   refine Rg.step rfl (Oq.call Try.call21 rfl rfl (c21 S18 (St.start _ _ hs.has) _ _ (f12.mono le20) _ _ f22 _ hx34) (fun v35 w36 h37 => ?_))
   obtain ⟨S38, rfl, hs39⟩ := h37
   have le40 := hs39.le
   have hs := hs.call0 hs39
   refine Rg.vN (X.pickT rfl rfl) rfl ?_
   refine Rg.mv rfl rfl ?_
   refine Rg.vT rfl rfl rfl (fun hW => X.move rfl) ?_
   refine Rg.split (c := x33) (tj := 25) rfl (fun hc41 => ?_) (fun hc41 => ?_)
   ·have hp27 := ite_t hc41 hp27
    refine Rg.weak [(0, v1), (25, .bool true), (26, v1)] ⟨rfl, rfl, get_g rfl hc41, trivial⟩ ?_
    refine Rg.gon rfl rfl rfl ?_
    obtain ⟨x42, hx43, hp27⟩ := bind_s hp27
    refine Rg.step rfl (Oq.call Try.call24 rfl rfl (c24 S38 (St.start _ _ hs.has) _ _ (f2.mono (le10.trans (le20.trans le40))) _ hx43) (fun v44 w45 h46 => ?_))
    obtain ⟨S47, rfl, hs48⟩ := h46
    have le49 := hs48.le
    have hs := hs.call0 hs48
    refine Rg.gon rfl rfl rfl ?_
    refine Rg.mv rfl rfl ?_
    refine Rg.gon rfl rfl rfl ?_
    obtain ⟨x50, hx51, hp27⟩ := bind_s hp27
    refine Rg.step rfl (Oq.call Try.call35 rfl rfl (c35 S47 (St.start _ _ hs.has) _ _ (f2.mono (le10.trans (le20.trans (le40.trans le49)))) _ hx51) (fun v52 w53 h54 => ?_))
    obtain ⟨S55, rfl, hs56⟩ := h54
    have le57 := hs56.le
    have hs := hs.call0 hs56
    refine Rg.gon rfl rfl rfl ?_
    refine Rg.vN (X.eqlB Try.underlying4 rfl rfl) rfl ?_
    refine Rg.vN (X.pickT rfl rfl) rfl ?_
    refine Rg.st rfl rfl ?_
    refine Rg.nil ?_
    obtain rfl := some_s hp27
    exact fun a ha => ⟨[(2, .bool (x42 == x50))], ha.weak ⟨rfl, trivial⟩, S55, rfl, (le40.trans (le49.trans le57)), (hs.pick [] (by decide) rfl)⟩
   ·have hp27 := ite_f hc41 hp27
    refine Rg.weak [(0, v1), (25, .bool false), (26, undef)] ⟨rfl, rfl, get_u rfl (not_f hc41), trivial⟩ ?_
    refine Rg.vO rfl rfl rfl rfl ?_
    refine Rg.vO rfl rfl rfl rfl ?_
    refine Rg.vO rfl rfl rfl rfl ?_
    refine Rg.vO rfl rfl rfl rfl ?_
    refine Rg.vN (X.pickF rfl rfl) rfl ?_
    refine Rg.st rfl rfl ?_
    refine Rg.nil ?_
    obtain rfl := some_s hp27
    exact fun a ha => ⟨[(2, .bool false)], ha.weak ⟨rfl, trivial⟩, S38, rfl, le40, (hs.pick [] (by decide) rfl)⟩
  ·have hp27 := ite_f hc32 hp27
   refine Rg.weak [(0, v1), (20, .bool false), (21, undef), (22, undef)] ⟨rfl, rfl, get_u rfl (not_f hc32), get_u rfl (not_f hc32), trivial⟩ ?_
   refine Rg.vO rfl rfl rfl rfl ?_
   refine Rg.vN (X.pickF rfl rfl) rfl ?_
   refine Rg.mv rfl rfl ?_
   refine Rg.vO rfl rfl rfl rfl ?_
   refine Rg.vO rfl rfl rfl rfl ?_
   refine Rg.vO rfl rfl rfl rfl ?_
   refine Rg.vO rfl rfl rfl rfl ?_
   refine Rg.vO rfl rfl rfl rfl ?_
   refine Rg.vN (X.pickF rfl rfl) rfl ?_
   refine Rg.st rfl rfl ?_
   refine Rg.nil ?_
   obtain rfl := some_s hp27
   exact fun a ha => ⟨[(2, .bool false)], ha.weak ⟨rfl, trivial⟩, S18, rfl, Le.refl _, (hs.pick [] (by decide) rfl)⟩
noncomputable def limelightlaw6_same_l0 (l_0 : (List api_Report)) (q49 : Int) : Option (Flow Int Bool) :=
 if (decide (q49 < (l_0.length : Int))) = true then (
  ((
   (ix l_0 q49).bind fun x65 =>
   ((
    (rtcp_Right x65).bind fun x93 =>
    (limelightref6_Right x65).bind fun x101 =>
    if (x93 != x101) = true then (
     some true)
    else (
     (rtcp_Same x65 x65).bind fun x110 =>
     some (!x110)) : Option Bool)).bind fun p85 =>
   if p85 = true then (
    some (Flow.ret false))
   else (
    some (Flow.next ())) : Option (Flow Unit Bool))).bind fun p59 =>
  Flow.el p59 (fun s118 => (
   some (Flow.next (add .i64 q49 1))))
  (fun s119 => (
   none))
  (fun r120 => (
   some (Flow.ret r120))))
 else (
  some (Flow.brk q49))
noncomputable def limelightlaw6_same (l_0 : (List api_Report)) : Option Bool :=
 (rtcp_Bytes l_0).bind fun x3 =>
 (limelightref6_Bytes l_0).bind fun x13 =>
 (loopF (fun sg => limelightlaw6_same_l0 l_0 sg) 0).bind fun fl25 =>
 Flow.el fl25 (fun s121 => (
  none))
 (fun s122 => (
  ((
   if ((x3.2 == x13.2) && ((strOfNums x3.1).toList == (strOfNums x13.1).toList)) = true then (
    if (x13.2 != 0) = true then (
     some true)
    else (
     (limelightlaw6_reads x13.1).bind fun x41 =>
     some x41))
   else (
    some false) : Option Bool)).bind fun p33 =>
  some p33))
 (fun r123 => (
  some r123))
def Po11 (S0 : Mp) (w0 : World) (D : List Nat) (r : Bool) (v : Value) (w1 : World) : Prop :=
  ∃ (S1 : Mp), v = .bool r ∧ St w0 D S0 S1 [] w1
set_option maxHeartbeats 4000000 in
theorem c11 (S0 : Mp) {w0 : World} (hs : St w0 [] S0 S0 [] w0) (l_0 : (List api_Report)) (v1 : Value) (f2 : Rd S0 10 R_api_Report v1 l_0) (r : Bool) (h0 : limelightlaw6_same l_0 = some r) :
    Calls Try.prog 11 #[v1] w0 (Re (Po11 S0 w0 [] r)) := by
 unfold limelightlaw6_same at h0
 refine calls_of_cd Try.func11 rfl Try.ntmps11 rfl ?_
 refine Cd.sr ?_
 refine Rg.st rfl rfl ?_
 refine Rg.go ?_
 refine Cd.sr ?_
 refine Rg.mv rfl rfl ?_
 obtain ⟨x3, hx4, h0⟩ := bind_s h0
 refine Rg.step rfl (Oq.call Try.call19 rfl rfl (c19 S0 (St.start _ _ hs.has) _ _ f2 _ hx4) (fun v5 w6 h7 => ?_))
 obtain ⟨S8, v11, rfl, hs9, f12⟩ := h7
 have le10 := hs9.le
 have hs := hs.call0 hs9
 refine Rg.mv rfl rfl ?_
 refine Rg.vN (X.extract rfl rfl) rfl ?_
 refine Rg.vN (X.extract rfl rfl) rfl ?_
 refine Rg.st rfl rfl ?_
 refine Rg.st rfl rfl ?_
 refine Rg.go ?_
 refine Cd.sr ?_
 refine Rg.mv rfl rfl ?_
 obtain ⟨x13, hx14, h0⟩ := bind_s h0
 refine Rg.step rfl (Oq.call Try.call13 rfl rfl (c13 S8 (St.start _ _ hs.has) _ _ (f2.mono le10) _ hx14) (fun v15 w16 h17 => ?_))
 obtain ⟨S18, v21, g23, rfl, hs19, f22⟩ := h17
 have le20 := hs19.le
 have hs := hs.call0 hs19
 refine Rg.mv rfl rfl ?_
 refine Rg.vN (X.extract rfl rfl) rfl ?_
 refine Rg.vN (X.extract rfl rfl) rfl ?_
 refine Rg.st rfl rfl ?_
 refine Rg.st rfl rfl ?_
 refine Rg.go ?_
 refine Cd.seq ?_
 refine Cd.sr ?_
 refine Rg.mv rfl rfl ?_
 refine Rg.vN (X.lenR Try.underlying36 rfl (f2.mono (le10.trans le20))) rfl ?_
 refine Rg.mv rfl rfl ?_
 refine Rg.go ?_
 refine Cd.weak [(3, v11), (4, .int .i64 x3.2), (5, v21), (6, .int .i64 x13.2), (19, v1), (20, .int .i64 (l_0.length : Int)), (21, .int .i64 0)] ⟨rfl, rfl, rfl, rfl, rfl, rfl, rfl, trivial⟩ ?_
 obtain ⟨fl25, hfl26, h0⟩ := bind_s h0
 refine Cd.post (fun K w => ∃ (j27 : Int) (S28 : Mp), K = [(3, v11), (4, .int .i64 x3.2), (5, v21), (6, .int .i64 x13.2)] ∧ fl25 = Flow.brk j27 ∧ Le S18 S28 ∧ St w0 [] S0 S28 [.app g23 v21 x13.1.length 5 1] w) ?_ ?_
 ·rintro K31 w30 ⟨j27, S28, rfl, rfl, le29, hs⟩
  have h0 := el_brk h0
  try dsimp only at h0
  refine Cd.go ?_
  refine Cd.seq ?_
  obtain ⟨p33, hp34, h0⟩ := bind_s h0
  refine Cd.post (fun K w => ∃ (S35 : Mp), K = [(2, .bool p33)] ∧ Le S28 S35 ∧ St w0 [] S0 S35 [] w) ?_ ?_
  ·rintro K38 w36 ⟨S35, rfl, le37, hs⟩
   refine Cd.go ?_
   refine Cd.ret ?_
   obtain rfl := some_s h0
   exact fun a ha => Cd.retA (R := Re (Po11 S0 w0 [] _)) ha Try.results11 ⟨_, _, rfl, rfl, rfl⟩ ⟨_, rfl, S35, rfl, hs⟩
  ·skip
   refine Cd.region ?_
   refine Rg.mv rfl rfl ?_
   refine Rg.mv rfl rfl ?_
   refine Rg.vN (X.eql rfl rfl) rfl ?_
   refine Rg.mv rfl rfl ?_
   refine Rg.vT rfl rfl rfl (fun hW => X.move rfl) ?_
   refine Rg.vT rfl rfl rfl (fun hW => X.str hs.has Try.underlying31 Try.underlying5 Try.underlying9 (f12.mono (le20.trans le29)) (ev_g rfl hW)) ?_
   refine Rg.vT rfl rfl rfl (fun hW => X.move rfl) ?_
   refine Rg.vT rfl rfl rfl (fun hW => X.str hs.has Try.underlying31 Try.underlying5 Try.underlying9 (f22.mono le29) (ev_g rfl hW)) ?_
   refine Rg.weak [(5, v21), (6, .int .i64 x13.2), (40, .bool (x3.2 == x13.2)), (42, gv (x3.2 == x13.2) (.string (strOfNums x3.1))), (44, gv (x3.2 == x13.2) (.string (strOfNums x13.1)))] ⟨rfl, rfl, rfl, rfl, rfl, trivial⟩ ?_
   refine Rg.vT rfl rfl rfl (fun hW => X.eqlS (ev_g rfl hW) (ev_g rfl hW)) ?_
   refine Rg.vN (X.pickAnd rfl rfl rfl) rfl ?_
   refine Rg.mv rfl rfl ?_
   refine Rg.vT rfl rfl rfl (fun hW => X.move rfl) ?_
   refine Rg.vT rfl rfl rfl (fun hW => X.neq (ev_g rfl hW) rfl) ?_
   refine Rg.vT rfl rfl rfl (fun hW => X.move (ev_g rfl hW)) ?_
   refine Rg.vGF rfl rfl rfl (fun hW => X.move rfl) ?_
   refine Rg.split (c := (x3.2 == x13.2) && ((strOfNums x3.1).toList == (strOfNums x13.1).toList)) (tj := 47) rfl (fun hc39 => ?_) (fun hc39 => ?_)
   ·have hp34 := ite_t hc39 hp34
    refine Rg.weak [(47, .bool true), (50, .bool (x13.2 != 0)), (51, gv (((x3.2 == x13.2) && ((strOfNums x3.1).toList == (strOfNums x13.1).toList)) && !(x13.2 != 0)) (v21))] ⟨rfl, get_g rfl hc39, rfl, trivial⟩ ?_
    refine Rg.split (c := x13.2 != 0) (tj := 50) rfl (fun hc40 => ?_) (fun hc40 => ?_)
    ·have hp34 := ite_t hc40 hp34
     refine Rg.weak [(47, .bool true), (50, .bool true), (51, undef)] ⟨rfl, rfl, get_u rfl (not_and_r (nn hc40)), trivial⟩ ?_
     refine Rg.vO rfl rfl rfl rfl ?_
     refine Rg.gon rfl rfl rfl ?_
     refine Rg.vN (X.pickT rfl rfl) rfl ?_
     refine Rg.vN (X.pickT rfl rfl) rfl ?_
     refine Rg.st rfl rfl ?_
     refine Rg.nil ?_
     obtain rfl := some_s hp34
     exact fun a ha => ⟨[(2, .bool true)], ha.weak ⟨rfl, trivial⟩, S28, rfl, Le.refl _, (hs.pick [] (by decide) rfl)⟩
    ·have hp34 := ite_f hc40 hp34
     refine Rg.weak [(47, .bool true), (50, .bool false), (51, v21)] ⟨rfl, rfl, get_g rfl (and_i hc39 (not_f hc40)), trivial⟩ ?_
     refine Rg.gon rfl rfl rfl ?_
     obtain ⟨x41, hx42, hp34⟩ := bind_s hp34
     refine Rg.step rfl (Oq.call Try.call14 rfl rfl (c14 S28 (St.start _ _ hs.has) _ _ (f22.mono le29) _ hx42) (fun v43 w44 h45 => ?_))
     obtain ⟨S46, rfl, hs47⟩ := h45
     have le48 := hs47.le
     have hs := hs.call0 hs47
     refine Rg.gon rfl rfl rfl ?_
     refine Rg.vN (X.pickF rfl rfl) rfl ?_
     refine Rg.vN (X.pickT rfl rfl) rfl ?_
     refine Rg.st rfl rfl ?_
     refine Rg.nil ?_
     obtain rfl := some_s hp34
     exact fun a ha => ⟨[(2, .bool x41)], ha.weak ⟨rfl, trivial⟩, S46, rfl, le48, (hs.pick [] (by decide) rfl)⟩
   ·have hp34 := ite_f hc39 hp34
    refine Rg.weak [(47, .bool false), (50, undef), (51, undef)] ⟨rfl, get_u rfl (not_f hc39), get_u rfl (not_and_l (not_f hc39)), trivial⟩ ?_
    refine Rg.vO rfl rfl rfl rfl ?_
    refine Rg.vO rfl rfl rfl rfl ?_
    refine Rg.vN (X.pickF rfl rfl) rfl ?_
    refine Rg.st rfl rfl ?_
    refine Rg.nil ?_
    obtain rfl := some_s hp34
    exact fun a ha => ⟨[(2, .bool false)], ha.weak ⟨rfl, trivial⟩, S28, rfl, Le.refl _, (hs.pick [] (by decide) rfl)⟩
 ·skip
  refine Cd.weak [(3, v11), (4, .int .i64 x3.2), (5, v21), (6, .int .i64 x13.2), (19, v1), (20, .int .i64 (l_0.length : Int)), (21, .int .i64 0)] ⟨rfl, rfl, rfl, rfl, rfl, rfl, rfl, trivial⟩ ?_
  refine Cd.block (Cd.loop (fun sg => limelightlaw6_same_l0 l_0 sg) (fun (sg : Int) K w => ∃ (S50 : Mp), K = [(3, v11), (4, .int .i64 x3.2), (5, v21), (6, .int .i64 x13.2), (19, v1), (20, .int .i64 (l_0.length : Int)), (21, .int .i64 sg)] ∧ Le S18 S50 ∧ St w0 [] S0 S50 [.app g23 v21 x13.1.length 5 1] w) 0 fl25 hfl26 ⟨S18, rfl, Le.refl _, hs⟩ ?_)
  rintro q49 fl52 K57 w56 hb53 ⟨S50, rfl, le51, hs⟩ hl54
  have h55 : limelightlaw6_same_l0 l_0 q49 = some fl52 := hb53
  unfold limelightlaw6_same_l0 at h55
  refine Cd.sr ?_
  refine Rg.vN (X.lss rfl rfl) rfl ?_
  refine Rg.go ?_
  refine Cd.seq ?_
  refine Cd.cond (t := decide (q49 < (l_0.length : Int))) rfl (fun hc58 => ?_) (fun hc58 => ?_)
  ·have h55 := ite_t hc58 h55
   refine Cd.sg ?_
   refine Cd.seq ?_
   obtain ⟨p59, hp60, h55⟩ := bind_s h55
   refine Cd.post (fun K w => ∃ (S61 : Mp), K = [(3, v11), (4, .int .i64 x3.2), (5, v21), (6, .int .i64 x13.2), (19, v1), (20, .int .i64 (l_0.length : Int)), (21, .int .i64 q49)] ∧ p59 = Flow.next () ∧ Le S50 S61 ∧ St w0 [] S0 S61 [.app g23 v21 x13.1.length 5 1] w) ?_ ?_
   ·rintro K64 w62 ⟨S61, rfl, rfl, le63, hs⟩
    have h55 := el_next h55
    try dsimp only at h55
    refine Cd.go ?_
    refine Cd.region ?_
    refine Rg.vN (X.add rfl rfl) rfl ?_
    refine Rg.mv rfl rfl ?_
    refine Rg.nil ?_
    exact fun a ha => ⟨add .i64 q49 1, [(3, v11), (4, .int .i64 x3.2), (5, v21), (6, .int .i64 x13.2), (19, v1), (20, .int .i64 (l_0.length : Int)), (21, .int .i64 (add .i64 q49 1))], (some_s h55).symm, ha.weak ⟨rfl, rfl, rfl, rfl, rfl, rfl, rfl, trivial⟩, S61, rfl, (le51.trans le63), hs⟩
   ·skip
    refine Cd.block ?_
    refine Cd.sr ?_
    obtain ⟨x65, hx66, hp60⟩ := bind_s hp60
    obtain ⟨ad67, vals68, _, hR69, hE70, hX71⟩ := mk_index Try.underlying36 zz33 (by decide) (f2.mono (le10.trans (le20.trans le51))) hx66
    unfold R_api_Report at hR69
    obtain ⟨v72, v74, v76, v78, rfl, f73, f75, f77, f79⟩ := hR69
    refine Rg.vN (hX71 rfl rfl) rfl ?_
    refine Rg.vN (X.loadE (vals := [.int .i64 x65.Kind, .int .u32 x65.From, .int .u32 x65.About, v72, v74, v76, .int .u64 x65.Rate, .int .i64 x65.Type_, .int .i64 x65.Count, v78]) hs.has Try.underlying33 rfl zz33 rfl hE70) rfl ?_
    refine Rg.step rfl (Oq.alloc (cs := #[.int .i64 0, .int .u32 0, .int .u32 0, .slice none 0 0, .slice none 0 0, .slice none 0 0, .int .u64 0, .int .i64 0, .int .i64 0, .slice none 0 0]) hs ii33 rfl rfl rfl (fun b80 w81 hs => ?_))
    refine Rg.step rfl (Oq.storeN hs 0 rfl (vals := [.int .i64 x65.Kind, .int .u32 x65.From, .int .u32 x65.About, v72, v74, v76, .int .u64 x65.Rate, .int .i64 x65.Type_, .int .i64 x65.Count, v78]) zz33 rfl rfl (one_all ⟨rfl, rfl, rfl, f73.one, f75.one, f77.one, rfl, rfl, rfl, f79.one, trivial⟩) rfl [.box b80 #[.int .i64 x65.Kind, .int .u32 x65.From, .int .u32 x65.About, v72, v74, v76, .int .u64 x65.Rate, .int .i64 x65.Type_, .int .i64 x65.Count, v78] 33, .app g23 v21 x13.1.length 5 1] rfl (fun w83 hs => ?_))
    refine Rg.go ?_
    refine Cd.seq ?_
    obtain ⟨p85, hp86, hp60⟩ := bind_s hp60
    refine Cd.post (fun K w => ∃ (S87 : Mp), K = [(3, v11), (4, .int .i64 x3.2), (5, v21), (6, .int .i64 x13.2), (19, v1), (20, .int .i64 (l_0.length : Int)), (21, .int .i64 q49), (35, .bool p85)] ∧ Le S50 S87 ∧ St w0 [] S0 S87 [.app g23 v21 x13.1.length 5 1] w) ?_ ?_
    ·rintro K90 w88 ⟨S87, rfl, le89, hs⟩
     refine Cd.go ?_
     refine Cd.cond (t := p85) rfl (fun hc91 => ?_) (fun hc91 => ?_)
     ·have hp60 := ite_t hc91 hp60
      refine Cd.sr ?_
      refine Rg.st rfl rfl ?_
      refine Rg.go ?_
      refine Cd.ret ?_
      obtain rfl := some_s hp60
      have h55 := el_ret h55
      obtain rfl := some_s h55
      have e := hl54 (fun _ e => by cases e)
      subst e
      have h0 := el_ret h0
      obtain rfl := some_s h0
      exact fun a ha => Cd.retA (R := Re (Po11 S0 w0 [] _)) ha Try.results11 ⟨_, _, rfl, rfl, rfl⟩ ⟨_, rfl, S87, rfl, (hs.pick [] (by decide) rfl)⟩
     ·have hp60 := ite_f hc91 hp60
      refine Cd.skip ?_
      obtain rfl := some_s hp60
      exact fun a ha => ⟨[(3, v11), (4, .int .i64 x3.2), (5, v21), (6, .int .i64 x13.2), (19, v1), (20, .int .i64 (l_0.length : Int)), (21, .int .i64 q49)], ha.weak ⟨rfl, rfl, rfl, rfl, rfl, rfl, rfl, trivial⟩, S87, rfl, rfl, le89, hs⟩
    ·skip
     refine Cd.rD mixed (fun l w => Has S50 w ∧ Hp b80 #[.int .i64 x65.Kind, .int .u32 x65.From, .int .u32 x65.About, v72, v74, v76, .int .u64 x65.Rate, .int .i64 x65.Type_, .int .i64 x65.Count, v78] 33 w) hs (fun _ _ _ _ _ h => h) (by kernel_rfl) (fun w92 hs => ⟨⟨hs.has, (hs.heap 0 rfl)⟩, ?_⟩)
     refine Rk.tN 0 rfl rfl (fun w hc => X.loadN (vals := [.int .i64 x65.Kind, .int .u32 x65.From, .int .u32 x65.About, v72, v74, v76, .int .u64 x65.Rate, .int .i64 x65.Type_, .int .i64 x65.Count, v78]) Try.underlying33 rfl zz33 rfl (heap_range hc.2 0 rfl)) ?_
     refine Rk.tN 2 rfl rfl (fun w hc => X.loadN (vals := [.int .i64 x65.Kind, .int .u32 x65.From, .int .u32 x65.About, v72, v74, v76, .int .u64 x65.Rate, .int .i64 x65.Type_, .int .i64 x65.Count, v78]) Try.underlying33 rfl zz33 rfl (heap_range hc.2 0 rfl)) ?_
     obtain ⟨x93, hx94, hp86⟩ := bind_s hp86
     refine Rk.eN 1 rfl rfl (Oq.call Try.call23 rfl rfl (c23 S50 (St.start _ _ hs.has) x65 _ f73 _ f75 _ f77 _ f79 _ hx94) (fun v95 w96 h97 => ?_))
     obtain ⟨S98, rfl, hs99⟩ := h97
     have le100 := hs99.le
     have hs := hs.call0 hs99
     refine ⟨⟨(hs.has.down le100), (hs.heap 0 rfl)⟩, Rk.mk (C' := fun l w => Has S98 w ∧ Hp b80 #[.int .i64 x65.Kind, .int .u32 x65.From, .int .u32 x65.About, v72, v74, v76, .int .u64 x65.Rate, .int .i64 x65.Type_, .int .i64 x65.Count, v78] 33 w) ⟨hs.has, (hs.heap 0 rfl)⟩ (fun l w hc => ⟨hc.1.down le100, hc.2⟩) ?_⟩
     obtain ⟨x101, hx102, hp86⟩ := bind_s hp86
     refine Rk.eN 3 rfl rfl (Oq.call Try.call32 rfl rfl (c32 S98 (St.start _ _ hs.has) x65 _ (f73.mono le100) _ (f75.mono le100) _ (f77.mono le100) _ (f79.mono le100) _ hx102) (fun v103 w104 h105 => ?_))
     obtain ⟨S106, rfl, hs107⟩ := h105
     have le108 := hs107.le
     have hs := hs.call0 hs107
     refine ⟨⟨(hs.has.down le108), (hs.heap 0 rfl)⟩, Rk.mk (C' := fun l w => Has S106 w ∧ Hp b80 #[.int .i64 x65.Kind, .int .u32 x65.From, .int .u32 x65.About, v72, v74, v76, .int .u64 x65.Rate, .int .i64 x65.Type_, .int .i64 x65.Count, v78] 33 w) ⟨hs.has, (hs.heap 0 rfl)⟩ (fun l w hc => ⟨hc.1.down le108, hc.2⟩) ?_⟩
     refine Rk.tN 4 rfl rfl (fun _ _ => X.neq rfl rfl) ?_
     refine Rk.tN 5 rfl rfl (fun _ _ => X.move rfl) ?_
     refine Rk.tF 6 rfl rfl rfl rfl (fun hW => fun w hc => X.loadN (vals := [.int .i64 x65.Kind, .int .u32 x65.From, .int .u32 x65.About, v72, v74, v76, .int .u64 x65.Rate, .int .i64 x65.Type_, .int .i64 x65.Count, v78]) Try.underlying33 rfl zz33 rfl (heap_range hc.2 0 rfl)) ?_
     refine Rk.tF 7 rfl rfl rfl rfl (fun hW => fun w hc => X.loadN (vals := [.int .i64 x65.Kind, .int .u32 x65.From, .int .u32 x65.About, v72, v74, v76, .int .u64 x65.Rate, .int .i64 x65.Type_, .int .i64 x65.Count, v78]) Try.underlying33 rfl zz33 rfl (heap_range hc.2 0 rfl)) ?_
     refine Rk.split (b := x93 != x101) (tj := 30) rfl (fun hc109 => ?_) (fun hc109 => ?_)
     ·have hp86 := ite_t hc109 hp86
      refine Rk.weak [(3, v11), (4, .int .i64 x3.2), (5, v21), (6, .int .i64 x13.2), (19, v1), (20, .int .i64 (l_0.length : Int)), (21, .int .i64 q49), (30, .bool true), (31, undef), (32, undef)] ⟨rfl, rfl, rfl, rfl, rfl, rfl, rfl, rfl, get_u rfl (nn hc109), get_u rfl (nn hc109), trivial⟩ ?_
      refine Rk.tO 8 rfl rfl rfl rfl rfl ?_
      refine Rk.tO 9 rfl rfl rfl rfl rfl ?_
      refine Rk.tN 10 rfl rfl (fun _ _ => X.pickT rfl rfl) ?_
      refine Rk.done ?_
      obtain rfl := some_s hp86
      exact fun a ha => ⟨[(3, v11), (4, .int .i64 x3.2), (5, v21), (6, .int .i64 x13.2), (19, v1), (20, .int .i64 (l_0.length : Int)), (21, .int .i64 q49), (35, .bool true)], ha.weak ⟨rfl, rfl, rfl, rfl, rfl, rfl, rfl, rfl, trivial⟩, S106, rfl, (le100.trans le108), (hs.pick [1] (by decide) rfl)⟩
     ·have hp86 := ite_f hc109 hp86
      refine Rk.weak [(3, v11), (4, .int .i64 x3.2), (5, v21), (6, .int .i64 x13.2), (19, v1), (20, .int .i64 (l_0.length : Int)), (21, .int .i64 q49), (30, .bool false), (31, .agg (#[.int .i64 x65.Kind, .int .u32 x65.From, .int .u32 x65.About, v72, v74, v76, .int .u64 x65.Rate, .int .i64 x65.Type_, .int .i64 x65.Count, v78])), (32, .agg (#[.int .i64 x65.Kind, .int .u32 x65.From, .int .u32 x65.About, v72, v74, v76, .int .u64 x65.Rate, .int .i64 x65.Type_, .int .i64 x65.Count, v78]))] ⟨rfl, rfl, rfl, rfl, rfl, rfl, rfl, rfl, get_g rfl (not_f hc109), get_g rfl (not_f hc109), trivial⟩ ?_
      obtain ⟨x110, hx111, hp86⟩ := bind_s hp86
      refine Rk.eG 8 rfl rfl rfl rfl (Oq.call Try.call17 rfl rfl (c17 S106 (St.start _ _ hs.has) x65 _ (f73.mono (le100.trans le108)) _ (f75.mono (le100.trans le108)) _ (f77.mono (le100.trans le108)) _ (f79.mono (le100.trans le108)) x65 _ (f73.mono (le100.trans le108)) _ (f75.mono (le100.trans le108)) _ (f77.mono (le100.trans le108)) _ (f79.mono (le100.trans le108)) _ hx111) (fun v112 w113 h114 => ?_))
      obtain ⟨S115, rfl, hs116⟩ := h114
      have le117 := hs116.le
      have hs := hs.call0 hs116
      refine ⟨⟨(hs.has.down le117), (hs.heap 0 rfl)⟩, Rk.mk (C' := fun l w => Has S115 w ∧ Hp b80 #[.int .i64 x65.Kind, .int .u32 x65.From, .int .u32 x65.About, v72, v74, v76, .int .u64 x65.Rate, .int .i64 x65.Type_, .int .i64 x65.Count, v78] 33 w) ⟨hs.has, (hs.heap 0 rfl)⟩ (fun l w hc => ⟨hc.1.down le117, hc.2⟩) ?_⟩
      refine Rk.tF 9 rfl rfl rfl rfl (fun hW => fun _ _ => X.not rfl) ?_
      refine Rk.tN 10 rfl rfl (fun _ _ => X.pickF rfl rfl) ?_
      refine Rk.done ?_
      obtain rfl := some_s hp86
      exact fun a ha => ⟨[(3, v11), (4, .int .i64 x3.2), (5, v21), (6, .int .i64 x13.2), (19, v1), (20, .int .i64 (l_0.length : Int)), (21, .int .i64 q49), (35, .bool (!x110))], ha.weak ⟨rfl, rfl, rfl, rfl, rfl, rfl, rfl, rfl, trivial⟩, S115, rfl, (le100.trans (le108.trans le117)), (hs.pick [1] (by decide) rfl)⟩
  ·have h55 := ite_f hc58 h55
   refine Cd.exit ?_
   obtain rfl := some_s h55
   have e := hl54 (fun _ e => by cases e)
   exact fun a ha => ⟨[(3, v11), (4, .int .i64 x3.2), (5, v21), (6, .int .i64 x13.2)], ha.weak ⟨rfl, rfl, rfl, rfl, trivial⟩, _, S50, rfl, e.symm, le51, hs⟩
noncomputable def limelightlaw6_known : Option Bool :=
 (rtcp_Bytes ([(⟨3, 1, 2, ([] : List api_Tuple), ([] : List Int), ([] : List Int), 0, 0, 0, ([] : List Int)⟩ : api_Report), (⟨5, 0, 0, ([] : List api_Tuple), ([5] : List Int), ([] : List Int), 8000, 0, 0, ([] : List Int)⟩ : api_Report)] : List api_Report)).bind fun x19 =>
 (rtcp_Read x19.1).bind fun x29 =>
 (rtcp_Read ([] : List Int)).bind fun x39 =>
 (rtcp_Bytes ([] : List api_Report)).bind fun x49 =>
 (rtcp_Read ([161, 206, 0, 0] : List Int)).bind fun x66 =>
 ((
  if ((x19.2 == 0) && ((x19.1.length : Int) == 36)) = true then (
   (cutTo x19.1 4).bind fun y88 =>
   if ((((strOfNums y88).toList == (⟨#[129, 206, 0, 2]⟩ : ByteArray).toList) && (x29.2 == 0)) && ((x29.1.length : Int) == 2)) = true then (
    (ix x29.1 0).bind fun x93 =>
    (rtcp_Same x93 (⟨3, 1, 2, ([] : List api_Tuple), ([] : List Int), ([] : List Int), 0, 0, 0, ([] : List Int)⟩ : api_Report)).bind fun x108 =>
    if x108 = true then (
     (ix x29.1 1).bind fun x117 =>
     if ((((x117.Rate == 8000) && (x39.2 == 13)) && (x49.2 == 1)) && (x66.2 == 12)) = true then (
      (rtcp_Is x19.1).bind fun x133 =>
      if x133 = true then (
       (rtcp_Is ([] : List Int)).bind fun x142 =>
       if (!x142) = true then (
        (rtcp_Is ([128, 96] : List Int)).bind fun x158 =>
        if (!x158) = true then (
         (rtcp_Right (⟨0, 0, 0, ([] : List api_Tuple), ([] : List Int), ([] : List Int), 0, 0, 0, ([] : List Int)⟩ : api_Report)).bind fun x167 =>
         some (x167 == 12))
        else (
         some false))
       else (
        some false))
      else (
       some false))
     else (
      some false))
    else (
     some false))
   else (
    some false))
  else (
   some false) : Option Bool)).bind fun p77 =>
 some p77
def Po15 (S0 : Mp) (w0 : World) (D : List Nat) (r : Bool) (v : Value) (w1 : World) : Prop :=
  ∃ (S1 : Mp), v = .bool r ∧ St w0 D S0 S1 [] w1
set_option maxHeartbeats 4000000 in
theorem c15 (S0 : Mp) {w0 : World} (hs : St w0 [] S0 S0 [] w0)  (r : Bool) (h0 : limelightlaw6_known = some r) :
    Calls Try.prog 15 #[] w0 (Re (Po15 S0 w0 [] r)) := by
 unfold limelightlaw6_known at h0
 refine calls_of_cd Try.func15 rfl Try.ntmps15 rfl ?_
 refine Cd.sr ?_
 refine Rg.st rfl rfl ?_
 refine Rg.go ?_
 refine Cd.sr ?_
 refine Rg.vN (X.build (zc := [.int .i64 0, .int .u32 0, .int .u32 0, .slice none 0 0, .slice none 0 0, .slice none 0 0, .int .u64 0, .int .i64 0, .int .i64 0, .slice none 0 0]) (cells := [.int .i64 3, .int .u32 1, .int .u32 2, .slice none 0 0, .slice none 0 0, .slice none 0 0, .int .u64 0, .int .i64 0, .int .i64 0, .slice none 0 0]) ii33 rfl rfl Try.underlying33 (pp33 _ Try.underlying33) ⟨_, [.int .i64 3], _, rfl, rfl, rfl, ⟨_, [.int .u32 1], _, rfl, rfl, rfl, ⟨_, [.int .u32 2], _, rfl, rfl, rfl, rfl⟩⟩⟩ rfl) rfl ?_
 refine Rg.step rfl (Oq.alloc (cs := #[.int .i64 0, .int .u32 0, .int .u32 0, .slice none 0 0, .slice none 0 0, .slice none 0 0, .int .u64 0, .int .i64 0, .int .i64 0, .slice none 0 0]) hs ii33 rfl rfl rfl (fun b1 w2 hs => ?_))
 refine Rg.step rfl (Oq.storeN hs 0 rfl (vals := [.int .i64 3, .int .u32 1, .int .u32 2, .slice none 0 0, .slice none 0 0, .slice none 0 0, .int .u64 0, .int .i64 0, .int .i64 0, .slice none 0 0]) zz33 rfl rfl (one_all ⟨rfl, rfl, rfl, rfl, rfl, rfl, rfl, rfl, rfl, rfl, trivial⟩) rfl [.box b1 #[.int .i64 3, .int .u32 1, .int .u32 2, .slice none 0 0, .slice none 0 0, .slice none 0 0, .int .u64 0, .int .i64 0, .int .i64 0, .slice none 0 0] 33] rfl (fun w4 hs => ?_))
 refine Rg.go ?_
 refine Cd.sr ?_
 refine Rg.vN (X.loadN (vals := [.int .i64 3, .int .u32 1, .int .u32 2, .slice none 0 0, .slice none 0 0, .slice none 0 0, .int .u64 0, .int .i64 0, .int .i64 0, .slice none 0 0]) Try.underlying33 rfl zz33 rfl (hs.range 0 rfl 0 rfl)) rfl ?_
 refine Rg.step rfl (Oq.lit (sz := 1) (cs0 := [.int .u32 0]) (cells := [.int .u32 5]) hs Try.underlying29 ii27 rfl rfl rfl rfl rfl rfl ⟨_, [.int .u32 5], _, rfl, rfl, rfl, rfl⟩ rfl rfl rfl (fun b5 w6 S7 hs le8 hE9 => ?_))
 have f11 : Rd S7 1 (RI .u32) (.slice (some ⟨b5, 0, none⟩) 1 1) ([5] : List Int) := Rd.of_cells (xs := ([5] : List Int)) ⟨[.int .u32 5], _, rfl, rfl, one_all ⟨rfl, trivial⟩, rfl, rfl⟩ hE9 (Nat.le_of_ble_eq_true rfl) (Nat.le_of_ble_eq_true rfl)
 refine Rg.vN (X.build (zc := [.int .i64 0, .int .u32 0, .int .u32 0, .slice none 0 0, .slice none 0 0, .slice none 0 0, .int .u64 0, .int .i64 0, .int .i64 0, .slice none 0 0]) (cells := [.int .i64 5, .int .u32 0, .int .u32 0, .slice none 0 0, .slice (some ⟨b5, 0, none⟩) 1 1, .slice none 0 0, .int .u64 8000, .int .i64 0, .int .i64 0, .slice none 0 0]) ii33 rfl rfl Try.underlying33 (pp33 _ Try.underlying33) ⟨_, [.int .i64 5], _, rfl, rfl, rfl, ⟨_, [.int .u64 8000], _, rfl, rfl, rfl, ⟨_, [.slice (some ⟨b5, 0, none⟩) 1 1], _, rfl, rfl, f11.cells, rfl⟩⟩⟩ rfl) rfl ?_
 refine Rg.step rfl (Oq.lit (sz := 10) (cs0 := [.int .i64 0, .int .u32 0, .int .u32 0, .slice none 0 0, .slice none 0 0, .slice none 0 0, .int .u64 0, .int .i64 0, .int .i64 0, .slice none 0 0, .int .i64 0, .int .u32 0, .int .u32 0, .slice none 0 0, .slice none 0 0, .slice none 0 0, .int .u64 0, .int .i64 0, .int .i64 0, .slice none 0 0]) (cells := [.int .i64 3, .int .u32 1, .int .u32 2, .slice none 0 0, .slice none 0 0, .slice none 0 0, .int .u64 0, .int .i64 0, .int .i64 0, .slice none 0 0, .int .i64 5, .int .u32 0, .int .u32 0, .slice none 0 0, .slice (some ⟨b5, 0, none⟩) 1 1, .slice none 0 0, .int .u64 8000, .int .i64 0, .int .i64 0, .slice none 0 0]) hs Try.underlying36 ii33 rfl rfl rfl rfl rfl rfl ⟨_, [.int .i64 3, .int .u32 1, .int .u32 2, .slice none 0 0, .slice none 0 0, .slice none 0 0, .int .u64 0, .int .i64 0, .int .i64 0, .slice none 0 0], _, rfl, rfl, rfl, ⟨_, [.int .i64 5, .int .u32 0, .int .u32 0, .slice none 0 0, .slice (some ⟨b5, 0, none⟩) 1 1, .slice none 0 0, .int .u64 8000, .int .i64 0, .int .i64 0, .slice none 0 0], _, rfl, rfl, rfl, rfl⟩⟩ rfl rfl rfl (fun b12 w13 S14 hs le15 hE16 => ?_))
 have f18 : Rd S14 10 R_api_Report (.slice (some ⟨b12, 0, none⟩) 2 2) ([(⟨3, 1, 2, ([] : List api_Tuple), ([] : List Int), ([] : List Int), 0, 0, 0, ([] : List Int)⟩ : api_Report), (⟨5, 0, 0, ([] : List api_Tuple), ([5] : List Int), ([] : List Int), 8000, 0, 0, ([] : List Int)⟩ : api_Report)] : List api_Report) := Rd.of_cells (xs := ([(⟨3, 1, 2, ([] : List api_Tuple), ([] : List Int), ([] : List Int), 0, 0, 0, ([] : List Int)⟩ : api_Report), (⟨5, 0, 0, ([] : List api_Tuple), ([5] : List Int), ([] : List Int), 8000, 0, 0, ([] : List Int)⟩ : api_Report)] : List api_Report)) ⟨[.int .i64 3, .int .u32 1, .int .u32 2, .slice none 0 0, .slice none 0 0, .slice none 0 0, .int .u64 0, .int .i64 0, .int .i64 0, .slice none 0 0], _, rfl, rfl, one_all ⟨rfl, rfl, rfl, rfl, rfl, rfl, rfl, rfl, rfl, rfl, trivial⟩, ⟨_, _, _, _, rfl, (Rd.nil _ _ _), (Rd.nil _ _ _), (Rd.nil _ _ _), (Rd.nil _ _ _)⟩, ⟨[.int .i64 5, .int .u32 0, .int .u32 0, .slice none 0 0, .slice (some ⟨b5, 0, none⟩) 1 1, .slice none 0 0, .int .u64 8000, .int .i64 0, .int .i64 0, .slice none 0 0], _, rfl, rfl, one_all ⟨rfl, rfl, rfl, rfl, (f11.mono le15).one, rfl, rfl, rfl, rfl, rfl, trivial⟩, ⟨_, _, _, _, rfl, (Rd.nil _ _ _), (f11.mono le15), (Rd.nil _ _ _), (Rd.nil _ _ _)⟩, rfl⟩⟩ hE16 (Nat.le_of_ble_eq_true rfl) (Nat.le_of_ble_eq_true rfl)
 obtain ⟨x19, hx20, h0⟩ := bind_s h0
 refine Rg.step rfl (Oq.call Try.call19 rfl rfl (c19 S14 (St.start _ _ hs.has) _ _ f18 _ hx20) (fun v21 w22 h23 => ?_))
 obtain ⟨S24, v27, rfl, hs25, f28⟩ := h23
 have le26 := hs25.le
 have hs := hs.call0 hs25
 refine Rg.mv rfl rfl ?_
 refine Rg.vN (X.extract rfl rfl) rfl ?_
 refine Rg.vN (X.extract rfl rfl) rfl ?_
 refine Rg.st rfl rfl ?_
 refine Rg.st rfl rfl ?_
 refine Rg.go ?_
 refine Cd.sr ?_
 refine Rg.mv rfl rfl ?_
 obtain ⟨x29, hx30, h0⟩ := bind_s h0
 refine Rg.step rfl (Oq.call Try.call20 rfl rfl (c20 S24 (St.start _ _ hs.has) _ _ f28 _ hx30) (fun v31 w32 h33 => ?_))
 obtain ⟨S34, v37, rfl, hs35, f38⟩ := h33
 have le36 := hs35.le
 have hs := hs.call0 hs35
 refine Rg.mv rfl rfl ?_
 refine Rg.vN (X.extract rfl rfl) rfl ?_
 refine Rg.vN (X.extract rfl rfl) rfl ?_
 refine Rg.st rfl rfl ?_
 refine Rg.st rfl rfl ?_
 refine Rg.go ?_
 refine Cd.weak [(1, .pointer (some ⟨b1, 0, none⟩)), (2, v27), (3, .int .i64 x19.2), (4, v37), (5, .int .i64 x29.2)] ⟨rfl, rfl, rfl, rfl, rfl, trivial⟩ ?_
 refine Cd.sr ?_
 obtain ⟨x39, hx40, h0⟩ := bind_s h0
 refine Rg.step rfl (Oq.call Try.call20 rfl rfl (c20 S34 (St.start _ _ hs.has) _ _ (Rd.nil _ _ _) _ hx40) (fun v41 w42 h43 => ?_))
 obtain ⟨S44, v47, rfl, hs45, f48⟩ := h43
 have le46 := hs45.le
 have hs := hs.call0 hs45
 refine Rg.mv rfl rfl ?_
 refine Rg.vN (X.extract rfl rfl) rfl ?_
 refine Rg.vN (X.extract rfl rfl) rfl ?_
 refine Rg.st rfl rfl ?_
 refine Rg.st rfl rfl ?_
 refine Rg.go ?_
 refine Cd.sr ?_
 obtain ⟨x49, hx50, h0⟩ := bind_s h0
 refine Rg.step rfl (Oq.call Try.call19 rfl rfl (c19 S44 (St.start _ _ hs.has) _ _ (Rd.nil _ _ _) _ hx50) (fun v51 w52 h53 => ?_))
 obtain ⟨S54, v57, rfl, hs55, f58⟩ := h53
 have le56 := hs55.le
 have hs := hs.call0 hs55
 refine Rg.mv rfl rfl ?_
 refine Rg.vN (X.extract rfl rfl) rfl ?_
 refine Rg.vN (X.extract rfl rfl) rfl ?_
 refine Rg.st rfl rfl ?_
 refine Rg.st rfl rfl ?_
 refine Rg.go ?_
 refine Cd.weak [(1, .pointer (some ⟨b1, 0, none⟩)), (2, v27), (3, .int .i64 x19.2), (4, v37), (5, .int .i64 x29.2), (7, .int .i64 x39.2), (9, .int .i64 x49.2)] ⟨rfl, rfl, rfl, rfl, rfl, rfl, rfl, trivial⟩ ?_
 refine Cd.sr ?_
 refine Rg.step rfl (Oq.lit (sz := 1) (cs0 := [.int .u8 0, .int .u8 0, .int .u8 0, .int .u8 0]) (cells := [.int .u8 161, .int .u8 206, .int .u8 0, .int .u8 0]) hs Try.underlying31 ii5 rfl rfl rfl rfl rfl rfl ⟨_, [.int .u8 161], _, rfl, rfl, rfl, ⟨_, [.int .u8 206], _, rfl, rfl, rfl, ⟨_, [.int .u8 0], _, rfl, rfl, rfl, ⟨_, [.int .u8 0], _, rfl, rfl, rfl, rfl⟩⟩⟩⟩ rfl rfl rfl (fun b59 w60 S61 hs le62 hE63 => ?_))
 have f65 : Rd S61 1 (RI .u8) (.slice (some ⟨b59, 0, none⟩) 4 4) ([161, 206, 0, 0] : List Int) := Rd.of_cells (xs := ([161, 206, 0, 0] : List Int)) ⟨[.int .u8 161], _, rfl, rfl, one_all ⟨rfl, trivial⟩, rfl, ⟨[.int .u8 206], _, rfl, rfl, one_all ⟨rfl, trivial⟩, rfl, ⟨[.int .u8 0], _, rfl, rfl, one_all ⟨rfl, trivial⟩, rfl, ⟨[.int .u8 0], _, rfl, rfl, one_all ⟨rfl, trivial⟩, rfl, rfl⟩⟩⟩⟩ hE63 (Nat.le_of_ble_eq_true rfl) (Nat.le_of_ble_eq_true rfl)
 obtain ⟨x66, hx67, h0⟩ := bind_s h0
 refine Rg.step rfl (Oq.call Try.call20 rfl rfl (c20 S61 (St.start _ _ hs.has) _ _ f65 _ hx67) (fun v68 w69 h70 => ?_))
 obtain ⟨S71, v74, rfl, hs72, f75⟩ := h70
 have le73 := hs72.le
 have hs := hs.call0 hs72
 refine Rg.mv rfl rfl ?_
 refine Rg.vN (X.extract rfl rfl) rfl ?_
 refine Rg.vN (X.extract rfl rfl) rfl ?_
 refine Rg.st rfl rfl ?_
 refine Rg.st rfl rfl ?_
 refine Rg.go ?_
 refine Cd.seq ?_
 obtain ⟨p77, hp78, h0⟩ := bind_s h0
 refine Cd.post (fun K w => ∃ (S79 : Mp), K = [(0, .bool p77)] ∧ Le S71 S79 ∧ St w0 [] S0 S79 [] w) ?_ ?_
 ·rintro K82 w80 ⟨S79, rfl, le81, hs⟩
  refine Cd.go ?_
  refine Cd.ret ?_
  obtain rfl := some_s h0
  exact fun a ha => Cd.retA (R := Re (Po15 S0 w0 [] _)) ha Try.results15 ⟨_, _, rfl, rfl, rfl⟩ ⟨_, rfl, S79, rfl, hs⟩
 ·skip
  refine Cd.rD mixed (fun l w => Has S71 w ∧ Hp b1 #[.int .i64 3, .int .u32 1, .int .u32 2, .slice none 0 0, .slice none 0 0, .slice none 0 0, .int .u64 0, .int .i64 0, .int .i64 0, .slice none 0 0] 33 w) hs (fun _ _ _ _ _ h => h) (by kernel_rfl) (fun w83 hs => ⟨⟨hs.has, (hs.heap 3 rfl)⟩, ?_⟩)
  refine Rk.tN 0 rfl rfl (fun _ _ => X.move rfl) ?_
  refine Rk.tN 1 rfl rfl (fun _ _ => X.eql rfl rfl) ?_
  refine Rk.tN 2 rfl rfl (fun _ _ => X.move rfl) ?_
  refine Rk.tT 3 rfl rfl rfl rfl (fun hW => fun _ _ => X.move rfl) ?_
  refine Rk.tT 4 rfl rfl rfl rfl (fun hW => fun _ _ => X.lenR Try.underlying31 (ev_g rfl hW) (f28.mono (le36.trans (le46.trans (le56.trans (le62.trans le73)))))) ?_
  refine Rk.tT 5 rfl rfl rfl rfl (fun hW => fun _ _ => X.eql (ev_g rfl hW) rfl) ?_
  refine Rk.tN 6 rfl rfl (fun _ _ => X.pickAnd rfl rfl rfl) ?_
  refine Rk.tN 7 rfl rfl (fun _ _ => X.move rfl) ?_
  refine Rk.tT 8 rfl rfl rfl rfl (fun hW => fun _ _ => X.move rfl) ?_
  refine Rk.split (b := (x19.2 == 0) && ((x19.1.length : Int) == 36)) (tj := 46) rfl (fun hc84 => ?_) (fun hc84 => ?_)
  ·have hp78 := ite_t hc84 hp78
   refine Rk.weak [(1, .pointer (some ⟨b1, 0, none⟩)), (2, v27), (4, v37), (5, .int .i64 x29.2), (7, .int .i64 x39.2), (9, .int .i64 x49.2), (11, .int .i64 x66.2), (46, .bool true), (47, v27)] ⟨rfl, rfl, rfl, rfl, rfl, rfl, rfl, rfl, get_g rfl hc84, trivial⟩ ?_
   obtain ⟨y88, hx89, hp78⟩ := bind_s hp78
   obtain ⟨hb90, he91⟩ := cutTo_s hx89
   obtain ⟨v85, f86, hX87⟩ := mk_sliceH Try.underlying31 zz5 (f28.mono (le36.trans (le46.trans (le56.trans (le62.trans le73))))) hb90
   rw [he91] at f86
   refine Rk.tT 9 rfl rfl rfl rfl (fun hW => fun _ _ => hX87 rfl rfl) ?_
   refine Rk.tT 10 rfl rfl rfl rfl (fun hW => fun w hc => X.str hc.1 Try.underlying31 Try.underlying5 Try.underlying9 f86 rfl) ?_
   refine Rk.tT 11 rfl rfl rfl rfl (fun hW => fun _ _ => X.eqlS rfl rfl) ?_
   refine Rk.tN 12 rfl rfl (fun _ _ => X.pickT rfl rfl) ?_
   refine Rk.tN 13 rfl rfl (fun _ _ => X.move rfl) ?_
   refine Rk.tT 14 rfl rfl rfl rfl (fun hW => fun _ _ => X.move rfl) ?_
   refine Rk.tT 15 rfl rfl rfl rfl (fun hW => fun _ _ => X.eql (ev_g rfl hW) rfl) ?_
   refine Rk.tN 16 rfl rfl (fun _ _ => X.pickAnd rfl rfl rfl) ?_
   refine Rk.tN 17 rfl rfl (fun _ _ => X.move rfl) ?_
   refine Rk.tT 18 rfl rfl rfl rfl (fun hW => fun _ _ => X.move rfl) ?_
   refine Rk.tT 19 rfl rfl rfl rfl (fun hW => fun _ _ => X.lenR Try.underlying36 (ev_g rfl hW) (f38.mono (le46.trans (le56.trans (le62.trans le73))))) ?_
   refine Rk.tT 20 rfl rfl rfl rfl (fun hW => fun _ _ => X.eql (ev_g rfl hW) rfl) ?_
   refine Rk.tN 21 rfl rfl (fun _ _ => X.pickAnd rfl rfl rfl) ?_
   refine Rk.tN 22 rfl rfl (fun _ _ => X.move rfl) ?_
   refine Rk.tT 23 rfl rfl rfl rfl (fun hW => fun _ _ => X.move rfl) ?_
   refine Rk.tT 26 rfl rfl rfl rfl (fun hW => fun w hc => X.loadN (vals := [.int .i64 3, .int .u32 1, .int .u32 2, .slice none 0 0, .slice none 0 0, .slice none 0 0, .int .u64 0, .int .i64 0, .int .i64 0, .slice none 0 0]) Try.underlying33 rfl zz33 rfl (heap_range hc.2 0 rfl)) ?_
   refine Rk.split (b := (((strOfNums y88).toList == (⟨#[129, 206, 0, 2]⟩ : ByteArray).toList) && (x29.2 == 0)) && ((x29.1.length : Int) == 2)) (tj := 61) rfl (fun hc92 => ?_) (fun hc92 => ?_)
   ·have hp78 := ite_t hc92 hp78
    refine Rk.weak [(2, v27), (4, v37), (7, .int .i64 x39.2), (9, .int .i64 x49.2), (11, .int .i64 x66.2), (61, .bool true), (62, v37), (65, .agg (#[.int .i64 3, .int .u32 1, .int .u32 2, .slice none 0 0, .slice none 0 0, .slice none 0 0, .int .u64 0, .int .i64 0, .int .i64 0, .slice none 0 0]))] ⟨rfl, rfl, rfl, rfl, rfl, rfl, get_g rfl hc92, get_g rfl hc92, trivial⟩ ?_
    obtain ⟨x93, hx94, hp78⟩ := bind_s hp78
    obtain ⟨ad95, vals96, _, hR97, hE98, hX99⟩ := mk_index Try.underlying36 zz33 (by decide) (f38.mono (le46.trans (le56.trans (le62.trans le73)))) hx94
    unfold R_api_Report at hR97
    obtain ⟨v100, v102, v104, v106, rfl, f101, f103, f105, f107⟩ := hR97
    refine Rk.tT 24 rfl rfl rfl rfl (fun hW => fun _ _ => hX99 rfl rfl) ?_
    refine Rk.tT 25 rfl rfl rfl rfl (fun hW => fun w hc => X.loadE (vals := [.int .i64 x93.Kind, .int .u32 x93.From, .int .u32 x93.About, v100, v102, v104, .int .u64 x93.Rate, .int .i64 x93.Type_, .int .i64 x93.Count, v106]) hc.1 Try.underlying33 rfl zz33 rfl hE98) ?_
    obtain ⟨x108, hx109, hp78⟩ := bind_s hp78
    refine Rk.eG 27 rfl rfl rfl rfl (Oq.call Try.call17 rfl rfl (c17 S71 (St.start _ _ hs.has) x93 _ f101 _ f103 _ f105 _ f107 (⟨3, 1, 2, ([] : List api_Tuple), ([] : List Int), ([] : List Int), 0, 0, 0, ([] : List Int)⟩ : api_Report) _ (Rd.nil _ _ _) _ (Rd.nil _ _ _) _ (Rd.nil _ _ _) _ (Rd.nil _ _ _) _ hx109) (fun v110 w111 h112 => ?_))
    obtain ⟨S113, rfl, hs114⟩ := h112
    have le115 := hs114.le
    have hs := hs.call0 hs114
    refine ⟨⟨(hs.has.down le115), (hs.heap 3 rfl)⟩, Rk.mk (C' := fun l w => Has S113 w ∧ Hp b1 #[.int .i64 3, .int .u32 1, .int .u32 2, .slice none 0 0, .slice none 0 0, .slice none 0 0, .int .u64 0, .int .i64 0, .int .i64 0, .slice none 0 0] 33 w) ⟨hs.has, (hs.heap 3 rfl)⟩ (fun l w hc => ⟨hc.1.down le115, hc.2⟩) ?_⟩
    refine Rk.tN 28 rfl rfl (fun _ _ => X.pickT rfl rfl) ?_
    refine Rk.tN 29 rfl rfl (fun _ _ => X.move rfl) ?_
    refine Rk.tT 30 rfl rfl rfl rfl (fun hW => fun _ _ => X.move rfl) ?_
    refine Rk.split (b := x108) (tj := 68) rfl (fun hc116 => ?_) (fun hc116 => ?_)
    ·have hp78 := ite_t hc116 hp78
     refine Rk.weak [(2, v27), (7, .int .i64 x39.2), (9, .int .i64 x49.2), (11, .int .i64 x66.2), (68, .bool true), (69, v37)] ⟨rfl, rfl, rfl, rfl, rfl, get_g rfl hc116, trivial⟩ ?_
     obtain ⟨x117, hx118, hp78⟩ := bind_s hp78
     obtain ⟨ad119, vals120, _, hR121, hE122, hX123⟩ := mk_index Try.underlying36 zz33 (by decide) (f38.mono (le46.trans (le56.trans (le62.trans (le73.trans le115))))) hx118
     unfold R_api_Report at hR121
     obtain ⟨v124, v126, v128, v130, rfl, f125, f127, f129, f131⟩ := hR121
     refine Rk.tT 31 rfl rfl rfl rfl (fun hW => fun _ _ => hX123 rfl rfl) ?_
     refine Rk.tT 32 rfl rfl rfl rfl (fun hW => fun _ _ => X.fieldE Try.underlying33 rfl zz30 rfl rfl) ?_
     refine Rk.tT 33 rfl rfl rfl rfl (fun hW => fun w hc => X.load1 Try.underlying30 rfl rfl ((El.part (part := [.int .u64 x117.Rate]) hE122 6 rfl).at0 rfl hc.1)) ?_
     refine Rk.tT 34 rfl rfl rfl rfl (fun hW => fun _ _ => X.eql rfl rfl) ?_
     refine Rk.tN 35 rfl rfl (fun _ _ => X.pickT rfl rfl) ?_
     refine Rk.tN 36 rfl rfl (fun _ _ => X.move rfl) ?_
     refine Rk.tT 37 rfl rfl rfl rfl (fun hW => fun _ _ => X.move rfl) ?_
     refine Rk.tT 38 rfl rfl rfl rfl (fun hW => fun _ _ => X.eql (ev_g rfl hW) rfl) ?_
     refine Rk.tN 39 rfl rfl (fun _ _ => X.pickAnd rfl rfl rfl) ?_
     refine Rk.tN 40 rfl rfl (fun _ _ => X.move rfl) ?_
     refine Rk.tT 41 rfl rfl rfl rfl (fun hW => fun _ _ => X.move rfl) ?_
     refine Rk.tT 42 rfl rfl rfl rfl (fun hW => fun _ _ => X.eql (ev_g rfl hW) rfl) ?_
     refine Rk.tN 43 rfl rfl (fun _ _ => X.pickAnd rfl rfl rfl) ?_
     refine Rk.tN 44 rfl rfl (fun _ _ => X.move rfl) ?_
     refine Rk.tT 45 rfl rfl rfl rfl (fun hW => fun _ _ => X.move rfl) ?_
     refine Rk.tT 46 rfl rfl rfl rfl (fun hW => fun _ _ => X.eql (ev_g rfl hW) rfl) ?_
     refine Rk.tN 47 rfl rfl (fun _ _ => X.pickAnd rfl rfl rfl) ?_
     refine Rk.tN 48 rfl rfl (fun _ _ => X.move rfl) ?_
     refine Rk.tT 49 rfl rfl rfl rfl (fun hW => fun _ _ => X.move rfl) ?_
     refine Rk.split (b := (((x117.Rate == 8000) && (x39.2 == 13)) && (x49.2 == 1)) && (x66.2 == 12)) (tj := 87) rfl (fun hc132 => ?_) (fun hc132 => ?_)
     ·have hp78 := ite_t hc132 hp78
      refine Rk.weak [(87, .bool true), (88, v27)] ⟨rfl, get_g rfl hc132, trivial⟩ ?_
      obtain ⟨x133, hx134, hp78⟩ := bind_s hp78
      refine Rk.eG 50 rfl rfl rfl rfl (Oq.call Try.call24 rfl rfl (c24 S113 (St.start _ _ hs.has) _ _ (f28.mono (le36.trans (le46.trans (le56.trans (le62.trans (le73.trans le115)))))) _ hx134) (fun v135 w136 h137 => ?_))
      obtain ⟨S138, rfl, hs139⟩ := h137
      have le140 := hs139.le
      have hs := hs.call0 hs139
      refine ⟨⟨(hs.has.down le140), (hs.heap 3 rfl)⟩, Rk.mk (C' := fun l w => Has S138 w ∧ Hp b1 #[.int .i64 3, .int .u32 1, .int .u32 2, .slice none 0 0, .slice none 0 0, .slice none 0 0, .int .u64 0, .int .i64 0, .int .i64 0, .slice none 0 0] 33 w) ⟨hs.has, (hs.heap 3 rfl)⟩ (fun l w hc => ⟨hc.1.down le140, hc.2⟩) ?_⟩
      refine Rk.tN 51 rfl rfl (fun _ _ => X.pickT rfl rfl) ?_
      refine Rk.tN 52 rfl rfl (fun _ _ => X.move rfl) ?_
      refine Rk.split (b := x133) (tj := 91) rfl (fun hc141 => ?_) (fun hc141 => ?_)
      ·have hp78 := ite_t hc141 hp78
       refine Rk.weak [(91, .bool true)] ⟨rfl, trivial⟩ ?_
       obtain ⟨x142, hx143, hp78⟩ := bind_s hp78
       refine Rk.eG 53 rfl rfl rfl rfl (Oq.call Try.call24 rfl rfl (c24 S138 (St.start _ _ hs.has) _ _ (Rd.nil _ _ _) _ hx143) (fun v144 w145 h146 => ?_))
       obtain ⟨S147, rfl, hs148⟩ := h146
       have le149 := hs148.le
       have hs := hs.call0 hs148
       refine ⟨⟨(hs.has.down le149), (hs.heap 3 rfl)⟩, Rk.mk (C' := fun l w => Has S147 w ∧ Hp b1 #[.int .i64 3, .int .u32 1, .int .u32 2, .slice none 0 0, .slice none 0 0, .slice none 0 0, .int .u64 0, .int .i64 0, .int .i64 0, .slice none 0 0] 33 w) ⟨hs.has, (hs.heap 3 rfl)⟩ (fun l w hc => ⟨hc.1.down le149, hc.2⟩) ?_⟩
       refine Rk.tT 54 rfl rfl rfl rfl (fun hW => fun _ _ => X.not rfl) ?_
       refine Rk.tN 55 rfl rfl (fun _ _ => X.pickT rfl rfl) ?_
       refine Rk.tN 56 rfl rfl (fun _ _ => X.move rfl) ?_
       refine Rk.split (b := !x142) (tj := 95) rfl (fun hc150 => ?_) (fun hc150 => ?_)
       ·have hp78 := ite_t hc150 hp78
        refine Rk.weak [(95, .bool true)] ⟨rfl, trivial⟩ ?_
        refine Rk.eG 57 rfl rfl rfl rfl (Oq.lit (sz := 1) (cs0 := [.int .u8 0, .int .u8 0]) (cells := [.int .u8 128, .int .u8 96]) hs Try.underlying31 ii5 rfl rfl rfl rfl rfl rfl ⟨_, [.int .u8 128], _, rfl, rfl, rfl, ⟨_, [.int .u8 96], _, rfl, rfl, rfl, rfl⟩⟩ rfl rfl rfl (fun b151 w152 S153 hs le154 hE155 => ?_))
        have f157 : Rd S153 1 (RI .u8) (.slice (some ⟨b151, 0, none⟩) 2 2) ([128, 96] : List Int) := Rd.of_cells (xs := ([128, 96] : List Int)) ⟨[.int .u8 128], _, rfl, rfl, one_all ⟨rfl, trivial⟩, rfl, ⟨[.int .u8 96], _, rfl, rfl, one_all ⟨rfl, trivial⟩, rfl, rfl⟩⟩ hE155 (Nat.le_of_ble_eq_true rfl) (Nat.le_of_ble_eq_true rfl)
        refine ⟨⟨(hs.has.down le154), (hs.heap 4 rfl)⟩, Rk.mk (C' := fun l w => Has S153 w ∧ Hp b1 #[.int .i64 3, .int .u32 1, .int .u32 2, .slice none 0 0, .slice none 0 0, .slice none 0 0, .int .u64 0, .int .i64 0, .int .i64 0, .slice none 0 0] 33 w) ⟨hs.has, (hs.heap 4 rfl)⟩ (fun l w hc => ⟨hc.1.down le154, hc.2⟩) ?_⟩
        obtain ⟨x158, hx159, hp78⟩ := bind_s hp78
        refine Rk.eG 58 rfl rfl rfl rfl (Oq.call Try.call24 rfl rfl (c24 S153 (St.start _ _ hs.has) _ _ f157 _ hx159) (fun v160 w161 h162 => ?_))
        obtain ⟨S163, rfl, hs164⟩ := h162
        have le165 := hs164.le
        have hs := hs.call0 hs164
        refine ⟨⟨(hs.has.down le165), (hs.heap 4 rfl)⟩, Rk.mk (C' := fun l w => Has S163 w ∧ Hp b1 #[.int .i64 3, .int .u32 1, .int .u32 2, .slice none 0 0, .slice none 0 0, .slice none 0 0, .int .u64 0, .int .i64 0, .int .i64 0, .slice none 0 0] 33 w) ⟨hs.has, (hs.heap 4 rfl)⟩ (fun l w hc => ⟨hc.1.down le165, hc.2⟩) ?_⟩
        refine Rk.tT 59 rfl rfl rfl rfl (fun hW => fun _ _ => X.not rfl) ?_
        refine Rk.tN 60 rfl rfl (fun _ _ => X.pickT rfl rfl) ?_
        refine Rk.tN 61 rfl rfl (fun _ _ => X.move rfl) ?_
        refine Rk.tT 62 rfl rfl rfl rfl (fun hW => fun _ _ => X.build (zc := [.int .i64 0, .int .u32 0, .int .u32 0, .slice none 0 0, .slice none 0 0, .slice none 0 0, .int .u64 0, .int .i64 0, .int .i64 0, .slice none 0 0]) (cells := [.int .i64 0, .int .u32 0, .int .u32 0, .slice none 0 0, .slice none 0 0, .slice none 0 0, .int .u64 0, .int .i64 0, .int .i64 0, .slice none 0 0]) ii33 rfl rfl Try.underlying33 (pp33 _ Try.underlying33) rfl rfl) ?_
        refine Rk.split (b := !x158) (tj := 100) rfl (fun hc166 => ?_) (fun hc166 => ?_)
        ·have hp78 := ite_t hc166 hp78
         refine Rk.weak [(100, .bool true), (101, .agg (#[.int .i64 0, .int .u32 0, .int .u32 0, .slice none 0 0, .slice none 0 0, .slice none 0 0, .int .u64 0, .int .i64 0, .int .i64 0, .slice none 0 0]))] ⟨rfl, get_g rfl hc166, trivial⟩ ?_
         obtain ⟨x167, hx168, hp78⟩ := bind_s hp78
         refine Rk.eG 63 rfl rfl rfl rfl (Oq.call Try.call23 rfl rfl (c23 S163 (St.start _ _ hs.has) (⟨0, 0, 0, ([] : List api_Tuple), ([] : List Int), ([] : List Int), 0, 0, 0, ([] : List Int)⟩ : api_Report) _ (Rd.nil _ _ _) _ (Rd.nil _ _ _) _ (Rd.nil _ _ _) _ (Rd.nil _ _ _) _ hx168) (fun v169 w170 h171 => ?_))
         obtain ⟨S172, rfl, hs173⟩ := h171
         have le174 := hs173.le
         have hs := hs.call0 hs173
         refine ⟨⟨(hs.has.down le174), (hs.heap 4 rfl)⟩, Rk.mk (C' := fun l w => Has S172 w ∧ Hp b1 #[.int .i64 3, .int .u32 1, .int .u32 2, .slice none 0 0, .slice none 0 0, .slice none 0 0, .int .u64 0, .int .i64 0, .int .i64 0, .slice none 0 0] 33 w) ⟨hs.has, (hs.heap 4 rfl)⟩ (fun l w hc => ⟨hc.1.down le174, hc.2⟩) ?_⟩
         refine Rk.tT 64 rfl rfl rfl rfl (fun hW => fun _ _ => X.eql rfl rfl) ?_
         refine Rk.tN 65 rfl rfl (fun _ _ => X.pickT rfl rfl) ?_
         refine Rk.tN 66 rfl rfl (fun _ _ => X.assign rfl) ?_
         refine Rk.done ?_
         obtain rfl := some_s hp78
         exact fun a ha => ⟨[(0, .bool (x167 == 12))], ha.weak ⟨rfl, trivial⟩, S172, rfl, (le115.trans (le140.trans (le149.trans (le154.trans (le165.trans le174))))), (hs.pick [] (by decide) rfl)⟩
        ·have hp78 := ite_f hc166 hp78
         refine Rk.weak [(100, .bool false), (101, undef)] ⟨rfl, get_u rfl (not_f hc166), trivial⟩ ?_
         refine Rk.tO 63 rfl rfl rfl rfl rfl ?_
         refine Rk.tO 64 rfl rfl rfl rfl rfl ?_
         refine Rk.tN 65 rfl rfl (fun _ _ => X.pickF rfl rfl) ?_
         refine Rk.tN 66 rfl rfl (fun _ _ => X.assign rfl) ?_
         refine Rk.done ?_
         obtain rfl := some_s hp78
         exact fun a ha => ⟨[(0, .bool false)], ha.weak ⟨rfl, trivial⟩, S163, rfl, (le115.trans (le140.trans (le149.trans (le154.trans le165)))), (hs.pick [] (by decide) rfl)⟩
       ·have hp78 := ite_f hc150 hp78
        refine Rk.weak [(95, .bool false)] ⟨rfl, trivial⟩ ?_
        refine Rk.tO 57 rfl rfl rfl rfl rfl ?_
        refine Rk.tO 58 rfl rfl rfl rfl rfl ?_
        refine Rk.tO 59 rfl rfl rfl rfl rfl ?_
        refine Rk.tN 60 rfl rfl (fun _ _ => X.pickF rfl rfl) ?_
        refine Rk.tN 61 rfl rfl (fun _ _ => X.move rfl) ?_
        refine Rk.tO 62 rfl rfl rfl rfl rfl ?_
        refine Rk.tO 63 rfl rfl rfl rfl rfl ?_
        refine Rk.tO 64 rfl rfl rfl rfl rfl ?_
        refine Rk.tN 65 rfl rfl (fun _ _ => X.pickF rfl rfl) ?_
        refine Rk.tN 66 rfl rfl (fun _ _ => X.assign rfl) ?_
        refine Rk.done ?_
        obtain rfl := some_s hp78
        exact fun a ha => ⟨[(0, .bool false)], ha.weak ⟨rfl, trivial⟩, S147, rfl, (le115.trans (le140.trans le149)), (hs.pick [] (by decide) rfl)⟩
      ·have hp78 := ite_f hc141 hp78
       refine Rk.weak [(91, .bool false)] ⟨rfl, trivial⟩ ?_
       refine Rk.tO 53 rfl rfl rfl rfl rfl ?_
       refine Rk.tO 54 rfl rfl rfl rfl rfl ?_
       refine Rk.tN 55 rfl rfl (fun _ _ => X.pickF rfl rfl) ?_
       refine Rk.tN 56 rfl rfl (fun _ _ => X.move rfl) ?_
       refine Rk.tO 57 rfl rfl rfl rfl rfl ?_
       refine Rk.tO 58 rfl rfl rfl rfl rfl ?_
       refine Rk.tO 59 rfl rfl rfl rfl rfl ?_
       refine Rk.tN 60 rfl rfl (fun _ _ => X.pickF rfl rfl) ?_
       refine Rk.tN 61 rfl rfl (fun _ _ => X.move rfl) ?_
       refine Rk.tO 62 rfl rfl rfl rfl rfl ?_
       refine Rk.tO 63 rfl rfl rfl rfl rfl ?_
       refine Rk.tO 64 rfl rfl rfl rfl rfl ?_
       refine Rk.tN 65 rfl rfl (fun _ _ => X.pickF rfl rfl) ?_
       refine Rk.tN 66 rfl rfl (fun _ _ => X.assign rfl) ?_
       refine Rk.done ?_
       obtain rfl := some_s hp78
       exact fun a ha => ⟨[(0, .bool false)], ha.weak ⟨rfl, trivial⟩, S138, rfl, (le115.trans le140), (hs.pick [] (by decide) rfl)⟩
     ·have hp78 := ite_f hc132 hp78
      refine Rk.weak [(87, .bool false), (88, undef)] ⟨rfl, get_u rfl (not_f hc132), trivial⟩ ?_
      refine Rk.tO 50 rfl rfl rfl rfl rfl ?_
      refine Rk.tN 51 rfl rfl (fun _ _ => X.pickF rfl rfl) ?_
      refine Rk.tN 52 rfl rfl (fun _ _ => X.move rfl) ?_
      refine Rk.tO 53 rfl rfl rfl rfl rfl ?_
      refine Rk.tO 54 rfl rfl rfl rfl rfl ?_
      refine Rk.tN 55 rfl rfl (fun _ _ => X.pickF rfl rfl) ?_
      refine Rk.tN 56 rfl rfl (fun _ _ => X.move rfl) ?_
      refine Rk.tO 57 rfl rfl rfl rfl rfl ?_
      refine Rk.tO 58 rfl rfl rfl rfl rfl ?_
      refine Rk.tO 59 rfl rfl rfl rfl rfl ?_
      refine Rk.tN 60 rfl rfl (fun _ _ => X.pickF rfl rfl) ?_
      refine Rk.tN 61 rfl rfl (fun _ _ => X.move rfl) ?_
      refine Rk.tO 62 rfl rfl rfl rfl rfl ?_
      refine Rk.tO 63 rfl rfl rfl rfl rfl ?_
      refine Rk.tO 64 rfl rfl rfl rfl rfl ?_
      refine Rk.tN 65 rfl rfl (fun _ _ => X.pickF rfl rfl) ?_
      refine Rk.tN 66 rfl rfl (fun _ _ => X.assign rfl) ?_
      refine Rk.done ?_
      obtain rfl := some_s hp78
      exact fun a ha => ⟨[(0, .bool false)], ha.weak ⟨rfl, trivial⟩, S113, rfl, le115, (hs.pick [] (by decide) rfl)⟩
    ·have hp78 := ite_f hc116 hp78
     refine Rk.weak [(2, v27), (7, .int .i64 x39.2), (9, .int .i64 x49.2), (11, .int .i64 x66.2), (68, .bool false), (69, undef)] ⟨rfl, rfl, rfl, rfl, rfl, get_u rfl (not_f hc116), trivial⟩ ?_
     refine Rk.tO 31 rfl rfl rfl rfl rfl ?_
     refine Rk.tO 32 rfl rfl rfl rfl rfl ?_
     refine Rk.tO 33 rfl rfl rfl rfl rfl ?_
     refine Rk.tO 34 rfl rfl rfl rfl rfl ?_
     refine Rk.tN 35 rfl rfl (fun _ _ => X.pickF rfl rfl) ?_
     refine Rk.tN 36 rfl rfl (fun _ _ => X.move rfl) ?_
     refine Rk.tO 37 rfl rfl rfl rfl rfl ?_
     refine Rk.tO 38 rfl rfl rfl rfl rfl ?_
     refine Rk.tN 39 rfl rfl (fun _ _ => X.pickF rfl rfl) ?_
     refine Rk.tN 40 rfl rfl (fun _ _ => X.move rfl) ?_
     refine Rk.tO 41 rfl rfl rfl rfl rfl ?_
     refine Rk.tO 42 rfl rfl rfl rfl rfl ?_
     refine Rk.tN 43 rfl rfl (fun _ _ => X.pickF rfl rfl) ?_
     refine Rk.tN 44 rfl rfl (fun _ _ => X.move rfl) ?_
     refine Rk.tO 45 rfl rfl rfl rfl rfl ?_
     refine Rk.tO 46 rfl rfl rfl rfl rfl ?_
     refine Rk.tN 47 rfl rfl (fun _ _ => X.pickF rfl rfl) ?_
     refine Rk.tN 48 rfl rfl (fun _ _ => X.move rfl) ?_
     refine Rk.tO 49 rfl rfl rfl rfl rfl ?_
     refine Rk.tO 50 rfl rfl rfl rfl rfl ?_
     refine Rk.tN 51 rfl rfl (fun _ _ => X.pickF rfl rfl) ?_
     refine Rk.tN 52 rfl rfl (fun _ _ => X.move rfl) ?_
     refine Rk.tO 53 rfl rfl rfl rfl rfl ?_
     refine Rk.tO 54 rfl rfl rfl rfl rfl ?_
     refine Rk.tN 55 rfl rfl (fun _ _ => X.pickF rfl rfl) ?_
     refine Rk.tN 56 rfl rfl (fun _ _ => X.move rfl) ?_
     refine Rk.weak [(95, .bool false)] ⟨rfl, trivial⟩ ?_
     refine Rk.tO 57 rfl rfl rfl rfl rfl ?_
     refine Rk.tO 58 rfl rfl rfl rfl rfl ?_
     refine Rk.tO 59 rfl rfl rfl rfl rfl ?_
     refine Rk.tN 60 rfl rfl (fun _ _ => X.pickF rfl rfl) ?_
     refine Rk.tN 61 rfl rfl (fun _ _ => X.move rfl) ?_
     refine Rk.tO 62 rfl rfl rfl rfl rfl ?_
     refine Rk.tO 63 rfl rfl rfl rfl rfl ?_
     refine Rk.tO 64 rfl rfl rfl rfl rfl ?_
     refine Rk.tN 65 rfl rfl (fun _ _ => X.pickF rfl rfl) ?_
     refine Rk.tN 66 rfl rfl (fun _ _ => X.assign rfl) ?_
     refine Rk.done ?_
     obtain rfl := some_s hp78
     exact fun a ha => ⟨[(0, .bool false)], ha.weak ⟨rfl, trivial⟩, S113, rfl, le115, (hs.pick [] (by decide) rfl)⟩
   ·have hp78 := ite_f hc92 hp78
    refine Rk.weak [(2, v27), (4, v37), (7, .int .i64 x39.2), (9, .int .i64 x49.2), (11, .int .i64 x66.2), (61, .bool false), (62, undef), (65, undef)] ⟨rfl, rfl, rfl, rfl, rfl, rfl, get_u rfl (not_f hc92), get_u rfl (not_f hc92), trivial⟩ ?_
    refine Rk.tO 24 rfl rfl rfl rfl rfl ?_
    refine Rk.tO 25 rfl rfl rfl rfl rfl ?_
    refine Rk.tO 27 rfl rfl rfl rfl rfl ?_
    refine Rk.tN 28 rfl rfl (fun _ _ => X.pickF rfl rfl) ?_
    refine Rk.tN 29 rfl rfl (fun _ _ => X.move rfl) ?_
    refine Rk.tO 30 rfl rfl rfl rfl rfl ?_
    refine Rk.tO 31 rfl rfl rfl rfl rfl ?_
    refine Rk.tO 32 rfl rfl rfl rfl rfl ?_
    refine Rk.tO 33 rfl rfl rfl rfl rfl ?_
    refine Rk.tO 34 rfl rfl rfl rfl rfl ?_
    refine Rk.tN 35 rfl rfl (fun _ _ => X.pickF rfl rfl) ?_
    refine Rk.tN 36 rfl rfl (fun _ _ => X.move rfl) ?_
    refine Rk.tO 37 rfl rfl rfl rfl rfl ?_
    refine Rk.tO 38 rfl rfl rfl rfl rfl ?_
    refine Rk.tN 39 rfl rfl (fun _ _ => X.pickF rfl rfl) ?_
    refine Rk.tN 40 rfl rfl (fun _ _ => X.move rfl) ?_
    refine Rk.tO 41 rfl rfl rfl rfl rfl ?_
    refine Rk.tO 42 rfl rfl rfl rfl rfl ?_
    refine Rk.tN 43 rfl rfl (fun _ _ => X.pickF rfl rfl) ?_
    refine Rk.tN 44 rfl rfl (fun _ _ => X.move rfl) ?_
    refine Rk.tO 45 rfl rfl rfl rfl rfl ?_
    refine Rk.tO 46 rfl rfl rfl rfl rfl ?_
    refine Rk.tN 47 rfl rfl (fun _ _ => X.pickF rfl rfl) ?_
    refine Rk.tN 48 rfl rfl (fun _ _ => X.move rfl) ?_
    refine Rk.tO 49 rfl rfl rfl rfl rfl ?_
    refine Rk.tO 50 rfl rfl rfl rfl rfl ?_
    refine Rk.tN 51 rfl rfl (fun _ _ => X.pickF rfl rfl) ?_
    refine Rk.tN 52 rfl rfl (fun _ _ => X.move rfl) ?_
    refine Rk.tO 53 rfl rfl rfl rfl rfl ?_
    refine Rk.tO 54 rfl rfl rfl rfl rfl ?_
    refine Rk.tN 55 rfl rfl (fun _ _ => X.pickF rfl rfl) ?_
    refine Rk.weak [(94, .bool false)] ⟨rfl, trivial⟩ ?_
    refine Rk.tN 56 rfl rfl (fun _ _ => X.move rfl) ?_
    refine Rk.tO 57 rfl rfl rfl rfl rfl ?_
    refine Rk.tO 58 rfl rfl rfl rfl rfl ?_
    refine Rk.tO 59 rfl rfl rfl rfl rfl ?_
    refine Rk.tN 60 rfl rfl (fun _ _ => X.pickF rfl rfl) ?_
    refine Rk.tN 61 rfl rfl (fun _ _ => X.move rfl) ?_
    refine Rk.tO 62 rfl rfl rfl rfl rfl ?_
    refine Rk.tO 63 rfl rfl rfl rfl rfl ?_
    refine Rk.tO 64 rfl rfl rfl rfl rfl ?_
    refine Rk.tN 65 rfl rfl (fun _ _ => X.pickF rfl rfl) ?_
    refine Rk.tN 66 rfl rfl (fun _ _ => X.assign rfl) ?_
    refine Rk.done ?_
    obtain rfl := some_s hp78
    exact fun a ha => ⟨[(0, .bool false)], ha.weak ⟨rfl, trivial⟩, S71, rfl, Le.refl _, (hs.pick [] (by decide) rfl)⟩
  ·have hp78 := ite_f hc84 hp78
   refine Rk.weak [(1, .pointer (some ⟨b1, 0, none⟩)), (2, v27), (4, v37), (5, .int .i64 x29.2), (7, .int .i64 x39.2), (9, .int .i64 x49.2), (11, .int .i64 x66.2), (46, .bool false), (47, undef)] ⟨rfl, rfl, rfl, rfl, rfl, rfl, rfl, rfl, get_u rfl (not_f hc84), trivial⟩ ?_
   refine Rk.tO 9 rfl rfl rfl rfl rfl ?_
   refine Rk.tO 10 rfl rfl rfl rfl rfl ?_
   refine Rk.tO 11 rfl rfl rfl rfl rfl ?_
   refine Rk.tN 12 rfl rfl (fun _ _ => X.pickF rfl rfl) ?_
   refine Rk.tN 13 rfl rfl (fun _ _ => X.move rfl) ?_
   refine Rk.tO 14 rfl rfl rfl rfl rfl ?_
   refine Rk.tO 15 rfl rfl rfl rfl rfl ?_
   refine Rk.tN 16 rfl rfl (fun _ _ => X.pickF rfl rfl) ?_
   refine Rk.tN 17 rfl rfl (fun _ _ => X.move rfl) ?_
   refine Rk.tO 18 rfl rfl rfl rfl rfl ?_
   refine Rk.tO 19 rfl rfl rfl rfl rfl ?_
   refine Rk.tO 20 rfl rfl rfl rfl rfl ?_
   refine Rk.tN 21 rfl rfl (fun _ _ => X.pickF rfl rfl) ?_
   refine Rk.tN 22 rfl rfl (fun _ _ => X.move rfl) ?_
   refine Rk.tO 23 rfl rfl rfl rfl rfl ?_
   refine Rk.tO 24 rfl rfl rfl rfl rfl ?_
   refine Rk.tO 25 rfl rfl rfl rfl rfl ?_
   refine Rk.tO 26 rfl rfl rfl rfl rfl ?_
   refine Rk.tO 27 rfl rfl rfl rfl rfl ?_
   refine Rk.tN 28 rfl rfl (fun _ _ => X.pickF rfl rfl) ?_
   refine Rk.tN 29 rfl rfl (fun _ _ => X.move rfl) ?_
   refine Rk.tO 30 rfl rfl rfl rfl rfl ?_
   refine Rk.tO 31 rfl rfl rfl rfl rfl ?_
   refine Rk.tO 32 rfl rfl rfl rfl rfl ?_
   refine Rk.tO 33 rfl rfl rfl rfl rfl ?_
   refine Rk.tO 34 rfl rfl rfl rfl rfl ?_
   refine Rk.tN 35 rfl rfl (fun _ _ => X.pickF rfl rfl) ?_
   refine Rk.tN 36 rfl rfl (fun _ _ => X.move rfl) ?_
   refine Rk.tO 37 rfl rfl rfl rfl rfl ?_
   refine Rk.tO 38 rfl rfl rfl rfl rfl ?_
   refine Rk.tN 39 rfl rfl (fun _ _ => X.pickF rfl rfl) ?_
   refine Rk.tN 40 rfl rfl (fun _ _ => X.move rfl) ?_
   refine Rk.tO 41 rfl rfl rfl rfl rfl ?_
   refine Rk.tO 42 rfl rfl rfl rfl rfl ?_
   refine Rk.tN 43 rfl rfl (fun _ _ => X.pickF rfl rfl) ?_
   refine Rk.tN 44 rfl rfl (fun _ _ => X.move rfl) ?_
   refine Rk.tO 45 rfl rfl rfl rfl rfl ?_
   refine Rk.tO 46 rfl rfl rfl rfl rfl ?_
   refine Rk.tN 47 rfl rfl (fun _ _ => X.pickF rfl rfl) ?_
   refine Rk.tN 48 rfl rfl (fun _ _ => X.move rfl) ?_
   refine Rk.tO 49 rfl rfl rfl rfl rfl ?_
   refine Rk.tO 50 rfl rfl rfl rfl rfl ?_
   refine Rk.weak [(87, .bool false), (89, undef)] ⟨rfl, rfl, trivial⟩ ?_
   refine Rk.tN 51 rfl rfl (fun _ _ => X.pickF rfl rfl) ?_
   refine Rk.tN 52 rfl rfl (fun _ _ => X.move rfl) ?_
   refine Rk.tO 53 rfl rfl rfl rfl rfl ?_
   refine Rk.tO 54 rfl rfl rfl rfl rfl ?_
   refine Rk.tN 55 rfl rfl (fun _ _ => X.pickF rfl rfl) ?_
   refine Rk.tN 56 rfl rfl (fun _ _ => X.move rfl) ?_
   refine Rk.tO 57 rfl rfl rfl rfl rfl ?_
   refine Rk.tO 58 rfl rfl rfl rfl rfl ?_
   refine Rk.tO 59 rfl rfl rfl rfl rfl ?_
   refine Rk.tN 60 rfl rfl (fun _ _ => X.pickF rfl rfl) ?_
   refine Rk.tN 61 rfl rfl (fun _ _ => X.move rfl) ?_
   refine Rk.tO 62 rfl rfl rfl rfl rfl ?_
   refine Rk.tO 63 rfl rfl rfl rfl rfl ?_
   refine Rk.tO 64 rfl rfl rfl rfl rfl ?_
   refine Rk.tN 65 rfl rfl (fun _ _ => X.pickF rfl rfl) ?_
   refine Rk.tN 66 rfl rfl (fun _ _ => X.assign rfl) ?_
   refine Rk.done ?_
   obtain rfl := some_s hp78
   exact fun a ha => ⟨[(0, .bool false)], ha.weak ⟨rfl, trivial⟩, S71, rfl, Le.refl _, (hs.pick [] (by decide) rfl)⟩
end Go.Lk
