/- A part of this proof: RtcpTells returns true for every input and leaves its arguments as they were; there are no conditions. -/
import Derived.Test.YtnpgmljphheabaaP1
set_option linter.unusedVariables false
set_option linter.unusedSimpArgs false
set_option maxRecDepth 100000
namespace Go.Lk
open Go.RowKit Go.Proofs
noncomputable def rtcp_values (G_0 : api_Report) : Option Bool :=
 ((
  if (G_0.Kind == 1) = true then (
   some (G_0.Kind == 1))
  else (
   some (G_0.Kind == 2)) : Option Bool)).bind fun p13 =>
 if p13 = true then (
  ((
   if (decide ((G_0.Tuples.length : Int) ≤ 6)) = true then (
    (slices_ContainsFunc_api_Tuple G_0.Tuples rtcp_values_1).bind fun x28 =>
    some (!x28))
   else (
    some false) : Option Bool)).bind fun p21 =>
  some p21)
 else (
  if (G_0.Kind == 4) = true then (
   ((
    if ((((G_0.Numbers.length : Int) == (G_0.Abouts.length : Int)) && (decide (1 ≤ (G_0.Abouts.length : Int)))) && (decide ((G_0.Abouts.length : Int) ≤ 16))) = true then (
     (slices_ContainsFunc_int G_0.Numbers rtcp_values_2).bind fun x45 =>
     some (!x45))
    else (
     some false) : Option Bool)).bind fun p38 =>
   some p38)
  else (
   if (G_0.Kind == 5) = true then (
    ((
     if (decide ((G_0.Abouts.length : Int) ≤ 16)) = true then (
      (rate_Down G_0.Rate 18).bind fun x63 =>
      some (x63 == G_0.Rate))
     else (
      some false) : Option Bool)).bind fun p55 =>
    some p55)
   else (
    if (G_0.Kind == 6) = true then (
     ((
      if ((((((decide (192 ≤ G_0.Type_)) && (decide (G_0.Type_ ≤ 223))) && (decide (0 ≤ G_0.Count))) && (decide (G_0.Count ≤ 31))) && ((rem .i64 (G_0.Body.length : Int) 4) == 0)) && (decide ((G_0.Body.length : Int) ≤ 262140))) = true then (
       (rtcp_kind G_0.Type_ G_0.Count).bind fun x80 =>
       some (x80 == 6))
      else (
       some false) : Option Bool)).bind fun p73 =>
     some p73)
    else (
     some true))))
def Po46 (S0 : Mp) (w0 : World) (D : List Nat) (r : Bool) (v : Value) (w1 : World) : Prop :=
  ∃ (S1 : Mp), v = .bool r ∧ St w0 D S0 S1 [] w1
set_option maxHeartbeats 4000000 in
theorem c46 (S0 : Mp) {w0 : World} (hs : St w0 [] S0 S0 [] w0) (G_0 : api_Report) (v1 : Value) (f2 : Rd S0 3 R_api_Tuple v1 G_0.Tuples) (v3 : Value) (f4 : Rd S0 1 (RI .u32) v3 G_0.Abouts) (v5 : Value) (f6 : Rd S0 1 (RI .i64) v5 G_0.Numbers) (v7 : Value) (f8 : Rd S0 1 (RI .u8) v7 G_0.Body) (r : Bool) (h0 : rtcp_values G_0 = some r) :
    Calls Try.prog 46 #[.agg (#[.int .i64 G_0.Kind, .int .u32 G_0.From, .int .u32 G_0.About, v1, v3, v5, .int .u64 G_0.Rate, .int .i64 G_0.Type_, .int .i64 G_0.Count, v7])] w0 (Re (Po46 S0 w0 [] r)) := by
 unfold rtcp_values at h0
 refine calls_of_cd Try.func46 rfl Try.ntmps46 rfl ?_
 refine Cd.sr ?_
 refine Rg.step rfl (Oq.box (cs := #[.int .i64 G_0.Kind, .int .u32 G_0.From, .int .u32 G_0.About, v1, v3, v5, .int .u64 G_0.Rate, .int .i64 G_0.Type_, .int .i64 G_0.Count, v7]) hs rfl rfl rfl (fun b9 w10 hs => ?_))
 refine Rg.st rfl rfl ?_
 refine Rg.go ?_
 refine Cd.seq ?_
 refine Cd.sr ?_
 refine Rg.vN (X.fieldB Try.underlying33 rfl zz3 rfl rfl) rfl ?_
 refine Rg.vN (X.load1 Try.underlying3 rfl rfl (hs.cell 0 rfl 0 rfl)) rfl ?_
 refine Rg.go ?_
 refine Cd.block ?_
 refine Cd.seq ?_
 refine Cd.sr ?_
 refine Rg.vN (X.eql rfl rfl) rfl ?_
 refine Rg.st rfl rfl ?_
 refine Rg.go ?_
 obtain ⟨p13, hp14, h0⟩ := bind_s h0
 refine Cd.post (fun K w => ∃ (S15 : Mp), K = [(1, .pointer (some ⟨b9, 0, none⟩)), (4, .int .i64 G_0.Kind), (5, .bool p13)] ∧ Le S0 S15 ∧ St w0 [] S0 S15 [.box b9 #[.int .i64 G_0.Kind, .int .u32 G_0.From, .int .u32 G_0.About, v1, v3, v5, .int .u64 G_0.Rate, .int .i64 G_0.Type_, .int .i64 G_0.Count, v7] 33] w) ?_ ?_
 ·rintro K18 w16 ⟨S15, rfl, le17, hs⟩
  refine Cd.go ?_
  refine Cd.cond (t := p13) rfl (fun hc19 => ?_) (fun hc19 => ?_)
  ·have h0 := ite_t hc19 h0
   refine Cd.seq ?_
   obtain ⟨p21, hp22, h0⟩ := bind_s h0
   refine Cd.post (fun K w => ∃ (S23 : Mp), K = [(2, .bool p21)] ∧ Le S15 S23 ∧ St w0 [] S0 S23 [] w) ?_ ?_
   ·rintro K26 w24 ⟨S23, rfl, le25, hs⟩
    refine Cd.go ?_
    refine Cd.ret ?_
    obtain rfl := some_s h0
    exact fun a ha => Cd.retA (R := Re (Po46 S0 w0 [] _)) ha Try.results46 ⟨_, _, rfl, rfl, rfl⟩ ⟨_, rfl, S23, rfl, hs⟩
   ·skip
    refine Cd.region ?_
    refine Rg.vN (X.fieldB Try.underlying33 rfl zz28 rfl rfl) rfl ?_
    refine Rg.vN (X.load1 Try.underlying28 rfl rfl (hs.cell 0 rfl 3 rfl)) rfl ?_
    refine Rg.vN (X.lenR Try.underlying28 rfl (f2.mono le17)) rfl ?_
    refine Rg.vN (X.leq rfl rfl) rfl ?_
    refine Rg.mv rfl rfl ?_
    refine Rg.vT rfl rfl rfl (fun hW => X.fieldB Try.underlying33 rfl zz28 rfl rfl) ?_
    refine Rg.vT rfl rfl rfl (fun hW => X.load1 Try.underlying28 rfl (ev_g rfl hW) (hs.cell 0 rfl 3 rfl)) ?_
    refine Rg.split (c := decide ((G_0.Tuples.length : Int) ≤ 6)) (tj := 12) rfl (fun hc27 => ?_) (fun hc27 => ?_)
    ·have hp22 := ite_t hc27 hp22
     refine Rg.weak [(12, .bool true), (14, v1)] ⟨rfl, get_g rfl hc27, trivial⟩ ?_
     refine Rg.gon rfl rfl rfl ?_
     obtain ⟨x28, hx29, hp22⟩ := bind_s hp22
     refine Rg.step rfl (Oq.call Try.call62 rfl rfl (c62 S15 (St.start _ _ hs.has) _ _ (f2.mono le17) 63 #[] _ Try.call63 qf63 _ hx29) (fun v30 w31 h32 => ?_))
     obtain ⟨S33, rfl, hs34⟩ := h32
     have le35 := hs34.le
     have hs := hs.call0 hs34
     refine Rg.gon rfl rfl rfl ?_
     refine Rg.vN (X.not rfl) rfl ?_
     refine Rg.vN (X.pickT rfl rfl) rfl ?_
     refine Rg.st rfl rfl ?_
     refine Rg.nil ?_
     obtain rfl := some_s hp22
     exact fun a ha => ⟨[(2, .bool (!x28))], ha.weak ⟨rfl, trivial⟩, S33, rfl, le35, (hs.pick [] (by decide) rfl)⟩
    ·have hp22 := ite_f hc27 hp22
     refine Rg.weak [(12, .bool false), (14, undef)] ⟨rfl, get_u rfl (not_f hc27), trivial⟩ ?_
     refine Rg.vO rfl rfl rfl rfl ?_
     refine Rg.vO rfl rfl rfl rfl ?_
     refine Rg.vN (X.pickF rfl rfl) rfl ?_
     refine Rg.st rfl rfl ?_
     refine Rg.nil ?_
     obtain rfl := some_s hp22
     exact fun a ha => ⟨[(2, .bool false)], ha.weak ⟨rfl, trivial⟩, S15, rfl, Le.refl _, (hs.pick [] (by decide) rfl)⟩
  ·have h0 := ite_f hc19 h0
   refine Cd.sr ?_
   refine Rg.vN (X.eql rfl rfl) rfl ?_
   refine Rg.st rfl rfl ?_
   refine Rg.go ?_
   refine Cd.cond (t := G_0.Kind == 4) rfl (fun hc36 => ?_) (fun hc36 => ?_)
   ·have h0 := ite_t hc36 h0
    refine Cd.seq ?_
    obtain ⟨p38, hp39, h0⟩ := bind_s h0
    refine Cd.post (fun K w => ∃ (S40 : Mp), K = [(2, .bool p38)] ∧ Le S15 S40 ∧ St w0 [] S0 S40 [] w) ?_ ?_
    ·rintro K43 w41 ⟨S40, rfl, le42, hs⟩
     refine Cd.go ?_
     refine Cd.ret ?_
     obtain rfl := some_s h0
     exact fun a ha => Cd.retA (R := Re (Po46 S0 w0 [] _)) ha Try.results46 ⟨_, _, rfl, rfl, rfl⟩ ⟨_, rfl, S40, rfl, hs⟩
    ·skip
     refine Cd.region ?_
     refine Rg.vN (X.fieldB Try.underlying33 rfl zz23 rfl rfl) rfl ?_
     refine Rg.vN (X.load1 Try.underlying23 rfl rfl (hs.cell 0 rfl 5 rfl)) rfl ?_
     refine Rg.vN (X.lenR Try.underlying23 rfl (f6.mono le17)) rfl ?_
     refine Rg.vN (X.fieldB Try.underlying33 rfl zz29 rfl rfl) rfl ?_
     refine Rg.vN (X.load1 Try.underlying29 rfl rfl (hs.cell 0 rfl 4 rfl)) rfl ?_
     refine Rg.vN (X.lenR Try.underlying29 rfl (f4.mono le17)) rfl ?_
     refine Rg.vN (X.eql rfl rfl) rfl ?_
     refine Rg.mv rfl rfl ?_
     refine Rg.weak [(1, .pointer (some ⟨b9, 0, none⟩)), (27, .bool ((G_0.Numbers.length : Int) == (G_0.Abouts.length : Int)))] ⟨rfl, rfl, trivial⟩ ?_
     refine Rg.vT rfl rfl rfl (fun hW => X.fieldB Try.underlying33 rfl zz29 rfl rfl) ?_
     refine Rg.vT rfl rfl rfl (fun hW => X.load1 Try.underlying29 rfl (ev_g rfl hW) (hs.cell 0 rfl 4 rfl)) ?_
     refine Rg.vT rfl rfl rfl (fun hW => X.lenR Try.underlying29 (ev_g rfl hW) (f4.mono le17)) ?_
     refine Rg.vT rfl rfl rfl (fun hW => X.geq (ev_g rfl hW) rfl) ?_
     refine Rg.vN (X.pickAnd rfl rfl rfl) rfl ?_
     refine Rg.mv rfl rfl ?_
     refine Rg.vT rfl rfl rfl (fun hW => X.fieldB Try.underlying33 rfl zz29 rfl rfl) ?_
     refine Rg.vT rfl rfl rfl (fun hW => X.load1 Try.underlying29 rfl (ev_g rfl hW) (hs.cell 0 rfl 4 rfl)) ?_
     refine Rg.vT rfl rfl rfl (fun hW => X.lenR Try.underlying29 (ev_g rfl hW) (f4.mono le17)) ?_
     refine Rg.vT rfl rfl rfl (fun hW => X.leq (ev_g rfl hW) rfl) ?_
     refine Rg.vN (X.pickAnd rfl rfl rfl) rfl ?_
     refine Rg.mv rfl rfl ?_
     refine Rg.vT rfl rfl rfl (fun hW => X.fieldB Try.underlying33 rfl zz23 rfl rfl) ?_
     refine Rg.weak [(39, .bool ((((G_0.Numbers.length : Int) == (G_0.Abouts.length : Int)) && (decide (1 ≤ (G_0.Abouts.length : Int)))) && (decide ((G_0.Abouts.length : Int) ≤ 16)))), (40, gv ((((G_0.Numbers.length : Int) == (G_0.Abouts.length : Int)) && (decide (1 ≤ (G_0.Abouts.length : Int)))) && (decide ((G_0.Abouts.length : Int) ≤ 16))) (.pointer (some ⟨b9, 5, none⟩)))] ⟨rfl, rfl, trivial⟩ ?_
     refine Rg.vT rfl rfl rfl (fun hW => X.load1 Try.underlying23 rfl (ev_g rfl hW) (hs.cell 0 rfl 5 rfl)) ?_
     refine Rg.split (c := (((G_0.Numbers.length : Int) == (G_0.Abouts.length : Int)) && (decide (1 ≤ (G_0.Abouts.length : Int)))) && (decide ((G_0.Abouts.length : Int) ≤ 16))) (tj := 39) rfl (fun hc44 => ?_) (fun hc44 => ?_)
     ·have hp39 := ite_t hc44 hp39
      refine Rg.weak [(39, .bool true), (41, v5)] ⟨rfl, get_g rfl hc44, trivial⟩ ?_
      refine Rg.gon rfl rfl rfl ?_
      obtain ⟨x45, hx46, hp39⟩ := bind_s hp39
      refine Rg.step rfl (Oq.call Try.call65 rfl rfl (c65 S15 (St.start _ _ hs.has) _ _ (f6.mono le17) 66 #[] _ Try.call66 qf66 _ hx46) (fun v47 w48 h49 => ?_))
      obtain ⟨S50, rfl, hs51⟩ := h49
      have le52 := hs51.le
      have hs := hs.call0 hs51
      refine Rg.gon rfl rfl rfl ?_
      refine Rg.vN (X.not rfl) rfl ?_
      refine Rg.vN (X.pickT rfl rfl) rfl ?_
      refine Rg.st rfl rfl ?_
      refine Rg.nil ?_
      obtain rfl := some_s hp39
      exact fun a ha => ⟨[(2, .bool (!x45))], ha.weak ⟨rfl, trivial⟩, S50, rfl, le52, (hs.pick [] (by decide) rfl)⟩
     ·have hp39 := ite_f hc44 hp39
      refine Rg.weak [(39, .bool false), (41, undef)] ⟨rfl, get_u rfl (not_f hc44), trivial⟩ ?_
      refine Rg.vO rfl rfl rfl rfl ?_
      refine Rg.vO rfl rfl rfl rfl ?_
      refine Rg.vN (X.pickF rfl rfl) rfl ?_
      refine Rg.st rfl rfl ?_
      refine Rg.nil ?_
      obtain rfl := some_s hp39
      exact fun a ha => ⟨[(2, .bool false)], ha.weak ⟨rfl, trivial⟩, S15, rfl, Le.refl _, (hs.pick [] (by decide) rfl)⟩
   ·have h0 := ite_f hc36 h0
    refine Cd.sr ?_
    refine Rg.vN (X.eql rfl rfl) rfl ?_
    refine Rg.st rfl rfl ?_
    refine Rg.go ?_
    refine Cd.cond (t := G_0.Kind == 5) rfl (fun hc53 => ?_) (fun hc53 => ?_)
    ·have h0 := ite_t hc53 h0
     refine Cd.seq ?_
     obtain ⟨p55, hp56, h0⟩ := bind_s h0
     refine Cd.post (fun K w => ∃ (S57 : Mp), K = [(2, .bool p55)] ∧ Le S15 S57 ∧ St w0 [] S0 S57 [] w) ?_ ?_
     ·rintro K60 w58 ⟨S57, rfl, le59, hs⟩
      refine Cd.go ?_
      refine Cd.ret ?_
      obtain rfl := some_s h0
      exact fun a ha => Cd.retA (R := Re (Po46 S0 w0 [] _)) ha Try.results46 ⟨_, _, rfl, rfl, rfl⟩ ⟨_, rfl, S57, rfl, hs⟩
     ·skip
      refine Cd.rD mixed (fun l w => Has S15 w ∧ Hp b9 #[.int .i64 G_0.Kind, .int .u32 G_0.From, .int .u32 G_0.About, v1, v3, v5, .int .u64 G_0.Rate, .int .i64 G_0.Type_, .int .i64 G_0.Count, v7] 33 w) hs (fun _ _ _ _ _ h => h) (by kernel_rfl) (fun w61 hs => ⟨⟨hs.has, (hs.heap 0 rfl)⟩, ?_⟩)
      refine Rk.tN 0 rfl rfl (fun _ _ => X.fieldB Try.underlying33 rfl zz29 rfl rfl) ?_
      refine Rk.tN 1 rfl rfl (fun w hc => X.load1 Try.underlying29 rfl rfl (heap_cell hc.2 rfl)) ?_
      refine Rk.tN 2 rfl rfl (fun _ _ => X.lenR Try.underlying29 rfl (f4.mono le17)) ?_
      refine Rk.tN 3 rfl rfl (fun _ _ => X.leq rfl rfl) ?_
      refine Rk.tN 4 rfl rfl (fun _ _ => X.move rfl) ?_
      refine Rk.tT 5 rfl rfl rfl rfl (fun hW => fun _ _ => X.fieldB Try.underlying33 rfl zz30 rfl rfl) ?_
      refine Rk.tT 6 rfl rfl rfl rfl (fun hW => fun w hc => X.load1 Try.underlying30 rfl (ev_g rfl hW) (heap_cell hc.2 rfl)) ?_
      refine Rk.weak [(1, .pointer (some ⟨b9, 0, none⟩)), (51, .bool (decide ((G_0.Abouts.length : Int) ≤ 16))), (53, gv (decide ((G_0.Abouts.length : Int) ≤ 16)) (.int .u64 G_0.Rate))] ⟨rfl, rfl, rfl, trivial⟩ ?_
      refine Rk.tT 8 rfl rfl rfl rfl (fun hW => fun _ _ => X.fieldB Try.underlying33 rfl zz30 rfl rfl) ?_
      refine Rk.tT 9 rfl rfl rfl rfl (fun hW => fun w hc => X.load1 Try.underlying30 rfl (ev_g rfl hW) (heap_cell hc.2 rfl)) ?_
      refine Rk.split (b := decide ((G_0.Abouts.length : Int) ≤ 16)) (tj := 51) rfl (fun hc62 => ?_) (fun hc62 => ?_)
      ·have hp56 := ite_t hc62 hp56
       refine Rk.weak [(51, .bool true), (53, .int .u64 G_0.Rate), (56, .int .u64 G_0.Rate)] ⟨rfl, get_g rfl hc62, get_g rfl hc62, trivial⟩ ?_
       obtain ⟨x63, hx64, hp56⟩ := bind_s hp56
       refine Rk.eG 7 rfl rfl rfl rfl (Oq.call Try.call64 rfl rfl (c64 S15 (St.start _ _ hs.has) _ _ _ hx64) (fun v65 w66 h67 => ?_))
       obtain ⟨S68, rfl, hs69⟩ := h67
       have le70 := hs69.le
       have hs := hs.call0 hs69
       refine ⟨⟨(hs.has.down le70), (hs.heap 0 rfl)⟩, Rk.mk (C' := fun l w => Has S68 w ∧ Hp b9 #[.int .i64 G_0.Kind, .int .u32 G_0.From, .int .u32 G_0.About, v1, v3, v5, .int .u64 G_0.Rate, .int .i64 G_0.Type_, .int .i64 G_0.Count, v7] 33 w) ⟨hs.has, (hs.heap 0 rfl)⟩ (fun l w hc => ⟨hc.1.down le70, hc.2⟩) ?_⟩
       refine Rk.tT 10 rfl rfl rfl rfl (fun hW => fun _ _ => X.eql rfl rfl) ?_
       refine Rk.tN 11 rfl rfl (fun _ _ => X.pickT rfl rfl) ?_
       refine Rk.tN 12 rfl rfl (fun _ _ => X.assign rfl) ?_
       refine Rk.done ?_
       obtain rfl := some_s hp56
       exact fun a ha => ⟨[(2, .bool (x63 == G_0.Rate))], ha.weak ⟨rfl, trivial⟩, S68, rfl, le70, (hs.pick [] (by decide) rfl)⟩
      ·have hp56 := ite_f hc62 hp56
       refine Rk.weak [(51, .bool false), (53, undef), (56, undef)] ⟨rfl, get_u rfl (not_f hc62), get_u rfl (not_f hc62), trivial⟩ ?_
       refine Rk.tO 7 rfl rfl rfl rfl rfl ?_
       refine Rk.tO 10 rfl rfl rfl rfl rfl ?_
       refine Rk.tN 11 rfl rfl (fun _ _ => X.pickF rfl rfl) ?_
       refine Rk.tN 12 rfl rfl (fun _ _ => X.assign rfl) ?_
       refine Rk.done ?_
       obtain rfl := some_s hp56
       exact fun a ha => ⟨[(2, .bool false)], ha.weak ⟨rfl, trivial⟩, S15, rfl, Le.refl _, (hs.pick [] (by decide) rfl)⟩
    ·have h0 := ite_f hc53 h0
     refine Cd.sr ?_
     refine Rg.vN (X.eql rfl rfl) rfl ?_
     refine Rg.st rfl rfl ?_
     refine Rg.go ?_
     refine Cd.cond (t := G_0.Kind == 6) rfl (fun hc71 => ?_) (fun hc71 => ?_)
     ·have h0 := ite_t hc71 h0
      refine Cd.seq ?_
      obtain ⟨p73, hp74, h0⟩ := bind_s h0
      refine Cd.post (fun K w => ∃ (S75 : Mp), K = [(2, .bool p73)] ∧ Le S15 S75 ∧ St w0 [] S0 S75 [] w) ?_ ?_
      ·rintro K78 w76 ⟨S75, rfl, le77, hs⟩
       refine Cd.go ?_
       refine Cd.ret ?_
       obtain rfl := some_s h0
       exact fun a ha => Cd.retA (R := Re (Po46 S0 w0 [] _)) ha Try.results46 ⟨_, _, rfl, rfl, rfl⟩ ⟨_, rfl, S75, rfl, hs⟩
      ·skip
       refine Cd.region ?_
       refine Rg.vN (X.fieldB Try.underlying33 rfl zz3 rfl rfl) rfl ?_
       refine Rg.vN (X.load1 Try.underlying3 rfl rfl (hs.cell 0 rfl 7 rfl)) rfl ?_
       refine Rg.vN (X.geq rfl rfl) rfl ?_
       refine Rg.mv rfl rfl ?_
       refine Rg.weak [(1, .pointer (some ⟨b9, 0, none⟩)), (64, .bool (decide (192 ≤ G_0.Type_)))] ⟨rfl, rfl, trivial⟩ ?_
       refine Rg.vT rfl rfl rfl (fun hW => X.fieldB Try.underlying33 rfl zz3 rfl rfl) ?_
       refine Rg.vT rfl rfl rfl (fun hW => X.load1 Try.underlying3 rfl (ev_g rfl hW) (hs.cell 0 rfl 7 rfl)) ?_
       refine Rg.vT rfl rfl rfl (fun hW => X.leq (ev_g rfl hW) rfl) ?_
       refine Rg.vN (X.pickAnd rfl rfl rfl) rfl ?_
       refine Rg.mv rfl rfl ?_
       refine Rg.vT rfl rfl rfl (fun hW => X.fieldB Try.underlying33 rfl zz3 rfl rfl) ?_
       refine Rg.vT rfl rfl rfl (fun hW => X.load1 Try.underlying3 rfl (ev_g rfl hW) (hs.cell 0 rfl 8 rfl)) ?_
       refine Rg.vT rfl rfl rfl (fun hW => X.geq (ev_g rfl hW) rfl) ?_
       refine Rg.vN (X.pickAnd rfl rfl rfl) rfl ?_
       refine Rg.mv rfl rfl ?_
       refine Rg.vT rfl rfl rfl (fun hW => X.fieldB Try.underlying33 rfl zz3 rfl rfl) ?_
       refine Rg.vT rfl rfl rfl (fun hW => X.load1 Try.underlying3 rfl (ev_g rfl hW) (hs.cell 0 rfl 8 rfl)) ?_
       refine Rg.vT rfl rfl rfl (fun hW => X.leq (ev_g rfl hW) rfl) ?_
       refine Rg.weak [(1, .pointer (some ⟨b9, 0, none⟩)), (74, .bool (((decide (192 ≤ G_0.Type_)) && (decide (G_0.Type_ ≤ 223))) && (decide (0 ≤ G_0.Count)))), (77, gv (((decide (192 ≤ G_0.Type_)) && (decide (G_0.Type_ ≤ 223))) && (decide (0 ≤ G_0.Count))) (.bool (decide (G_0.Count ≤ 31))))] ⟨rfl, rfl, rfl, trivial⟩ ?_
       refine Rg.vN (X.pickAnd rfl rfl rfl) rfl ?_
       refine Rg.mv rfl rfl ?_
       refine Rg.vT rfl rfl rfl (fun hW => X.fieldB Try.underlying33 rfl zz31 rfl rfl) ?_
       refine Rg.vT rfl rfl rfl (fun hW => X.load1 Try.underlying31 rfl (ev_g rfl hW) (hs.cell 0 rfl 9 rfl)) ?_
       refine Rg.vT rfl rfl rfl (fun hW => X.lenR Try.underlying31 (ev_g rfl hW) (f8.mono le17)) ?_
       refine Rg.vT rfl rfl rfl (fun hW => X.rem (ev_g rfl hW) rfl (by decide)) ?_
       refine Rg.vT rfl rfl rfl (fun hW => X.eql (ev_g rfl hW) rfl) ?_
       refine Rg.vN (X.pickAnd rfl rfl rfl) rfl ?_
       refine Rg.mv rfl rfl ?_
       refine Rg.vT rfl rfl rfl (fun hW => X.fieldB Try.underlying33 rfl zz31 rfl rfl) ?_
       refine Rg.vT rfl rfl rfl (fun hW => X.load1 Try.underlying31 rfl (ev_g rfl hW) (hs.cell 0 rfl 9 rfl)) ?_
       refine Rg.vT rfl rfl rfl (fun hW => X.lenR Try.underlying31 (ev_g rfl hW) (f8.mono le17)) ?_
       refine Rg.weak [(1, .pointer (some ⟨b9, 0, none⟩)), (86, .bool (((((decide (192 ≤ G_0.Type_)) && (decide (G_0.Type_ ≤ 223))) && (decide (0 ≤ G_0.Count))) && (decide (G_0.Count ≤ 31))) && ((rem .i64 (G_0.Body.length : Int) 4) == 0))), (89, gv (((((decide (192 ≤ G_0.Type_)) && (decide (G_0.Type_ ≤ 223))) && (decide (0 ≤ G_0.Count))) && (decide (G_0.Count ≤ 31))) && ((rem .i64 (G_0.Body.length : Int) 4) == 0)) (.int .i64 (G_0.Body.length : Int)))] ⟨rfl, rfl, rfl, trivial⟩ ?_
       refine Rg.vT rfl rfl rfl (fun hW => X.leq (ev_g rfl hW) rfl) ?_
       refine Rg.vN (X.pickAnd rfl rfl rfl) rfl ?_
       refine Rg.mv rfl rfl ?_
       refine Rg.vT rfl rfl rfl (fun hW => X.fieldB Try.underlying33 rfl zz3 rfl rfl) ?_
       refine Rg.vT rfl rfl rfl (fun hW => X.load1 Try.underlying3 rfl (ev_g rfl hW) (hs.cell 0 rfl 7 rfl)) ?_
       refine Rg.vT rfl rfl rfl (fun hW => X.fieldB Try.underlying33 rfl zz3 rfl rfl) ?_
       refine Rg.vT rfl rfl rfl (fun hW => X.load1 Try.underlying3 rfl (ev_g rfl hW) (hs.cell 0 rfl 8 rfl)) ?_
       refine Rg.split (c := (((((decide (192 ≤ G_0.Type_)) && (decide (G_0.Type_ ≤ 223))) && (decide (0 ≤ G_0.Count))) && (decide (G_0.Count ≤ 31))) && ((rem .i64 (G_0.Body.length : Int) 4) == 0)) && (decide ((G_0.Body.length : Int) ≤ 262140))) (tj := 92) rfl (fun hc79 => ?_) (fun hc79 => ?_)
       ·have hp74 := ite_t hc79 hp74
        refine Rg.weak [(92, .bool true), (94, .int .i64 G_0.Type_), (96, .int .i64 G_0.Count)] ⟨rfl, get_g rfl hc79, get_g rfl hc79, trivial⟩ ?_
        refine Rg.gon rfl rfl rfl ?_
        obtain ⟨x80, hx81, hp74⟩ := bind_s hp74
        refine Rg.step rfl (Oq.call Try.call67 rfl rfl (c67 S15 (St.start _ _ hs.has) _ _ _ hx81) (fun v82 w83 h84 => ?_))
        obtain ⟨S85, rfl, hs86⟩ := h84
        have le87 := hs86.le
        have hs := hs.call0 hs86
        refine Rg.gon rfl rfl rfl ?_
        refine Rg.vN (X.eql rfl rfl) rfl ?_
        refine Rg.vN (X.pickT rfl rfl) rfl ?_
        refine Rg.st rfl rfl ?_
        refine Rg.nil ?_
        obtain rfl := some_s hp74
        exact fun a ha => ⟨[(2, .bool (x80 == 6))], ha.weak ⟨rfl, trivial⟩, S85, rfl, le87, (hs.pick [] (by decide) rfl)⟩
       ·have hp74 := ite_f hc79 hp74
        refine Rg.weak [(92, .bool false), (94, undef), (96, undef)] ⟨rfl, get_u rfl (not_f hc79), get_u rfl (not_f hc79), trivial⟩ ?_
        refine Rg.vO rfl rfl rfl rfl ?_
        refine Rg.vO rfl rfl rfl rfl ?_
        refine Rg.vN (X.pickF rfl rfl) rfl ?_
        refine Rg.st rfl rfl ?_
        refine Rg.nil ?_
        obtain rfl := some_s hp74
        exact fun a ha => ⟨[(2, .bool false)], ha.weak ⟨rfl, trivial⟩, S15, rfl, Le.refl _, (hs.pick [] (by decide) rfl)⟩
     ·have h0 := ite_f hc71 h0
      refine Cd.skip ?_
      refine Cd.go ?_
      refine Cd.sr ?_
      refine Rg.st rfl rfl ?_
      refine Rg.go ?_
      refine Cd.ret ?_
      obtain rfl := some_s h0
      exact fun a ha => Cd.retA (R := Re (Po46 S0 w0 [] _)) ha Try.results46 ⟨_, _, rfl, rfl, rfl⟩ ⟨_, rfl, S15, rfl, (hs.pick [] (by decide) rfl)⟩
 ·skip
  refine Cd.cond (t := G_0.Kind == 1) rfl (fun hc88 => ?_) (fun hc88 => ?_)
  ·have hp14 := ite_t hc88 hp14
   refine Cd.skip ?_
   obtain rfl := some_s hp14
   exact fun a ha => ⟨[(1, .pointer (some ⟨b9, 0, none⟩)), (4, .int .i64 G_0.Kind), (5, .bool (G_0.Kind == 1))], ha.weak ⟨rfl, rfl, rfl, trivial⟩, S0, rfl, Le.refl _, hs⟩
  ·have hp14 := ite_f hc88 hp14
   refine Cd.region ?_
   refine Rg.vN (X.eql rfl rfl) rfl ?_
   refine Rg.st rfl rfl ?_
   refine Rg.nil ?_
   obtain rfl := some_s hp14
   exact fun a ha => ⟨[(1, .pointer (some ⟨b9, 0, none⟩)), (4, .int .i64 G_0.Kind), (5, .bool (G_0.Kind == 2))], ha.weak ⟨rfl, rfl, rfl, trivial⟩, S0, rfl, Le.refl _, hs⟩
noncomputable def rtcp_fields (G_0 : api_Report) : Option Bool :=
 some (((((((((G_0.Kind == 1) || (G_0.Kind == 2)) || ((G_0.Tuples.length : Int) == 0)) && ((G_0.Kind == 3) || (G_0.About == 0))) && ((G_0.Kind == 4) || ((G_0.Numbers.length : Int) == 0))) && (((G_0.Kind == 4) || (G_0.Kind == 5)) || ((G_0.Abouts.length : Int) == 0))) && ((G_0.Kind == 5) || (G_0.Rate == 0))) && ((G_0.Kind == 6) || (((G_0.Type_ == 0) && (G_0.Count == 0)) && ((G_0.Body.length : Int) == 0)))) && ((!(G_0.Kind == 6)) || (G_0.From == 0)))
def Po47 (S0 : Mp) (w0 : World) (D : List Nat) (r : Bool) (v : Value) (w1 : World) : Prop :=
  ∃ (S1 : Mp), v = .bool r ∧ St w0 D S0 S1 [] w1
set_option maxHeartbeats 4000000 in
theorem c47 (S0 : Mp) {w0 : World} (hs : St w0 [] S0 S0 [] w0) (G_0 : api_Report) (v1 : Value) (f2 : Rd S0 3 R_api_Tuple v1 G_0.Tuples) (v3 : Value) (f4 : Rd S0 1 (RI .u32) v3 G_0.Abouts) (v5 : Value) (f6 : Rd S0 1 (RI .i64) v5 G_0.Numbers) (v7 : Value) (f8 : Rd S0 1 (RI .u8) v7 G_0.Body) (r : Bool) (h0 : rtcp_fields G_0 = some r) :
    Calls Try.prog 47 #[.agg (#[.int .i64 G_0.Kind, .int .u32 G_0.From, .int .u32 G_0.About, v1, v3, v5, .int .u64 G_0.Rate, .int .i64 G_0.Type_, .int .i64 G_0.Count, v7])] w0 (Re (Po47 S0 w0 [] r)) := by
 unfold rtcp_fields at h0
 refine calls_of_cd Try.func47 rfl Try.ntmps47 rfl ?_
 refine Cd.sr ?_
 refine Rg.step rfl (Oq.box (cs := #[.int .i64 G_0.Kind, .int .u32 G_0.From, .int .u32 G_0.About, v1, v3, v5, .int .u64 G_0.Rate, .int .i64 G_0.Type_, .int .i64 G_0.Count, v7]) hs rfl rfl rfl (fun b9 w10 hs => ?_))
 refine Rg.st rfl rfl ?_
 refine Rg.go ?_
 refine Cd.sr ?_
 refine Rg.vN (X.fieldB Try.underlying33 rfl zz3 rfl rfl) rfl ?_
 refine Rg.vN (X.load1 Try.underlying3 rfl rfl (hs.cell 0 rfl 0 rfl)) rfl ?_
 refine Rg.vN (X.eql rfl rfl) rfl ?_
 refine Rg.mv rfl rfl ?_
 refine Rg.vF rfl rfl rfl (fun hW => X.fieldB Try.underlying33 rfl zz3 rfl rfl) ?_
 refine Rg.vF rfl rfl rfl (fun hW => X.load1 Try.underlying3 rfl (ev_g rfl hW) (hs.cell 0 rfl 0 rfl)) ?_
 refine Rg.vF rfl rfl rfl (fun hW => X.eql (ev_g rfl hW) rfl) ?_
 refine Rg.vN (X.pickOr rfl rfl rfl) rfl ?_
 refine Rg.st rfl rfl ?_
 refine Rg.go ?_
 refine Cd.sr ?_
 refine Rg.vN (X.fieldB Try.underlying33 rfl zz3 rfl rfl) rfl ?_
 refine Rg.vN (X.load1 Try.underlying3 rfl rfl (hs.cell 0 rfl 0 rfl)) rfl ?_
 refine Rg.vN (X.eql rfl rfl) rfl ?_
 refine Rg.st rfl rfl ?_
 refine Rg.go ?_
 refine Cd.sr ?_
 refine Rg.mv rfl rfl ?_
 refine Rg.weak [(1, .pointer (some ⟨b9, 0, none⟩)), (4, .bool (G_0.Kind == 6)), (16, .bool ((G_0.Kind == 1) || (G_0.Kind == 2)))] ⟨rfl, rfl, rfl, trivial⟩ ?_
 refine Rg.mv rfl rfl ?_
 refine Rg.vF rfl rfl rfl (fun hW => X.fieldB Try.underlying33 rfl zz28 rfl rfl) ?_
 refine Rg.vF rfl rfl rfl (fun hW => X.load1 Try.underlying28 rfl (ev_g rfl hW) (hs.cell 0 rfl 3 rfl)) ?_
 refine Rg.vF rfl rfl rfl (fun hW => X.lenR Try.underlying28 (ev_g rfl hW) f2) ?_
 refine Rg.vF rfl rfl rfl (fun hW => X.eql (ev_g rfl hW) rfl) ?_
 refine Rg.vN (X.pickOr rfl rfl rfl) rfl ?_
 refine Rg.mv rfl rfl ?_
 refine Rg.vT rfl rfl rfl (fun hW => X.fieldB Try.underlying33 rfl zz3 rfl rfl) ?_
 refine Rg.vT rfl rfl rfl (fun hW => X.load1 Try.underlying3 rfl (ev_g rfl hW) (hs.cell 0 rfl 0 rfl)) ?_
 refine Rg.vT rfl rfl rfl (fun hW => X.eql (ev_g rfl hW) rfl) ?_
 refine Rg.vT rfl rfl rfl (fun hW => X.move (ev_g rfl hW)) ?_
 refine Rg.vGF rfl rfl rfl (fun hW => X.fieldB Try.underlying33 rfl zz27 rfl rfl) ?_
 refine Rg.weak [(1, .pointer (some ⟨b9, 0, none⟩)), (4, .bool (G_0.Kind == 6)), (23, .bool (((G_0.Kind == 1) || (G_0.Kind == 2)) || ((G_0.Tuples.length : Int) == 0))), (27, gv (((G_0.Kind == 1) || (G_0.Kind == 2)) || ((G_0.Tuples.length : Int) == 0)) (.bool (G_0.Kind == 3))), (28, gv ((((G_0.Kind == 1) || (G_0.Kind == 2)) || ((G_0.Tuples.length : Int) == 0)) && !(G_0.Kind == 3)) (.pointer (some ⟨b9, 2, none⟩)))] ⟨rfl, rfl, rfl, rfl, rfl, trivial⟩ ?_
 refine Rg.vGF rfl rfl rfl (fun hW => X.load1 Try.underlying27 rfl (ev_g rfl hW) (hs.cell 0 rfl 2 rfl)) ?_
 refine Rg.vGF rfl rfl rfl (fun hW => X.eql (ev_g rfl hW) rfl) ?_
 refine Rg.vT rfl rfl rfl (fun hW => X.pickOrG hW (ev_g rfl hW) rfl rfl) ?_
 refine Rg.vN (X.pickAnd rfl rfl rfl) rfl ?_
 refine Rg.mv rfl rfl ?_
 refine Rg.vT rfl rfl rfl (fun hW => X.fieldB Try.underlying33 rfl zz3 rfl rfl) ?_
 refine Rg.vT rfl rfl rfl (fun hW => X.load1 Try.underlying3 rfl (ev_g rfl hW) (hs.cell 0 rfl 0 rfl)) ?_
 refine Rg.vT rfl rfl rfl (fun hW => X.eql (ev_g rfl hW) rfl) ?_
 refine Rg.vT rfl rfl rfl (fun hW => X.move (ev_g rfl hW)) ?_
 refine Rg.vGF rfl rfl rfl (fun hW => X.fieldB Try.underlying33 rfl zz23 rfl rfl) ?_
 refine Rg.weak [(1, .pointer (some ⟨b9, 0, none⟩)), (4, .bool (G_0.Kind == 6)), (33, .bool ((((G_0.Kind == 1) || (G_0.Kind == 2)) || ((G_0.Tuples.length : Int) == 0)) && ((G_0.Kind == 3) || (G_0.About == 0)))), (37, gv ((((G_0.Kind == 1) || (G_0.Kind == 2)) || ((G_0.Tuples.length : Int) == 0)) && ((G_0.Kind == 3) || (G_0.About == 0))) (.bool (G_0.Kind == 4))), (38, gv (((((G_0.Kind == 1) || (G_0.Kind == 2)) || ((G_0.Tuples.length : Int) == 0)) && ((G_0.Kind == 3) || (G_0.About == 0))) && !(G_0.Kind == 4)) (.pointer (some ⟨b9, 5, none⟩)))] ⟨rfl, rfl, rfl, rfl, rfl, trivial⟩ ?_
 refine Rg.vGF rfl rfl rfl (fun hW => X.load1 Try.underlying23 rfl (ev_g rfl hW) (hs.cell 0 rfl 5 rfl)) ?_
 refine Rg.vGF rfl rfl rfl (fun hW => X.lenR Try.underlying23 (ev_g rfl hW) f6) ?_
 refine Rg.vGF rfl rfl rfl (fun hW => X.eql (ev_g rfl hW) rfl) ?_
 refine Rg.vT rfl rfl rfl (fun hW => X.pickOrG hW (ev_g rfl hW) rfl rfl) ?_
 refine Rg.vN (X.pickAnd rfl rfl rfl) rfl ?_
 refine Rg.mv rfl rfl ?_
 refine Rg.vT rfl rfl rfl (fun hW => X.fieldB Try.underlying33 rfl zz3 rfl rfl) ?_
 refine Rg.vT rfl rfl rfl (fun hW => X.load1 Try.underlying3 rfl (ev_g rfl hW) (hs.cell 0 rfl 0 rfl)) ?_
 refine Rg.vT rfl rfl rfl (fun hW => X.eql (ev_g rfl hW) rfl) ?_
 refine Rg.vT rfl rfl rfl (fun hW => X.move (ev_g rfl hW)) ?_
 refine Rg.weak [(1, .pointer (some ⟨b9, 0, none⟩)), (4, .bool (G_0.Kind == 6)), (44, .bool (((((G_0.Kind == 1) || (G_0.Kind == 2)) || ((G_0.Tuples.length : Int) == 0)) && ((G_0.Kind == 3) || (G_0.About == 0))) && ((G_0.Kind == 4) || ((G_0.Numbers.length : Int) == 0)))), (48, gv (((((G_0.Kind == 1) || (G_0.Kind == 2)) || ((G_0.Tuples.length : Int) == 0)) && ((G_0.Kind == 3) || (G_0.About == 0))) && ((G_0.Kind == 4) || ((G_0.Numbers.length : Int) == 0))) (.bool (G_0.Kind == 4)))] ⟨rfl, rfl, rfl, rfl, trivial⟩ ?_
 refine Rg.vGF rfl rfl rfl (fun hW => X.fieldB Try.underlying33 rfl zz3 rfl rfl) ?_
 refine Rg.vGF rfl rfl rfl (fun hW => X.load1 Try.underlying3 rfl (ev_g rfl hW) (hs.cell 0 rfl 0 rfl)) ?_
 refine Rg.vGF rfl rfl rfl (fun hW => X.eql (ev_g rfl hW) rfl) ?_
 refine Rg.vT rfl rfl rfl (fun hW => X.pickOrG hW (ev_g rfl hW) rfl rfl) ?_
 refine Rg.vT rfl rfl rfl (fun hW => X.move (ev_g rfl hW)) ?_
 refine Rg.vGF rfl rfl rfl (fun hW => X.fieldB Try.underlying33 rfl zz29 rfl rfl) ?_
 refine Rg.vGF rfl rfl rfl (fun hW => X.load1 Try.underlying29 rfl (ev_g rfl hW) (hs.cell 0 rfl 4 rfl)) ?_
 refine Rg.vGF rfl rfl rfl (fun hW => X.lenR Try.underlying29 (ev_g rfl hW) f4) ?_
 refine Rg.vGF rfl rfl rfl (fun hW => X.eql (ev_g rfl hW) rfl) ?_
 refine Rg.vT rfl rfl rfl (fun hW => X.pickOrG hW (ev_g rfl hW) rfl rfl) ?_
 refine Rg.vN (X.pickAnd rfl rfl rfl) rfl ?_
 refine Rg.weak [(1, .pointer (some ⟨b9, 0, none⟩)), (4, .bool (G_0.Kind == 6)), (59, .bool ((((((G_0.Kind == 1) || (G_0.Kind == 2)) || ((G_0.Tuples.length : Int) == 0)) && ((G_0.Kind == 3) || (G_0.About == 0))) && ((G_0.Kind == 4) || ((G_0.Numbers.length : Int) == 0))) && (((G_0.Kind == 4) || (G_0.Kind == 5)) || ((G_0.Abouts.length : Int) == 0))))] ⟨rfl, rfl, rfl, trivial⟩ ?_
 refine Rg.mv rfl rfl ?_
 refine Rg.vT rfl rfl rfl (fun hW => X.fieldB Try.underlying33 rfl zz3 rfl rfl) ?_
 refine Rg.vT rfl rfl rfl (fun hW => X.load1 Try.underlying3 rfl (ev_g rfl hW) (hs.cell 0 rfl 0 rfl)) ?_
 refine Rg.vT rfl rfl rfl (fun hW => X.eql (ev_g rfl hW) rfl) ?_
 refine Rg.vT rfl rfl rfl (fun hW => X.move (ev_g rfl hW)) ?_
 refine Rg.vGF rfl rfl rfl (fun hW => X.fieldB Try.underlying33 rfl zz30 rfl rfl) ?_
 refine Rg.vGF rfl rfl rfl (fun hW => X.load1 Try.underlying30 rfl (ev_g rfl hW) (hs.cell 0 rfl 6 rfl)) ?_
 refine Rg.vGF rfl rfl rfl (fun hW => X.eql (ev_g rfl hW) rfl) ?_
 refine Rg.vT rfl rfl rfl (fun hW => X.pickOrG hW (ev_g rfl hW) rfl rfl) ?_
 refine Rg.vN (X.pickAnd rfl rfl rfl) rfl ?_
 refine Rg.mv rfl rfl ?_
 refine Rg.vT rfl rfl rfl (fun hW => X.move rfl) ?_
 refine Rg.weak [(1, .pointer (some ⟨b9, 0, none⟩)), (4, .bool (G_0.Kind == 6)), (70, .bool (((((((G_0.Kind == 1) || (G_0.Kind == 2)) || ((G_0.Tuples.length : Int) == 0)) && ((G_0.Kind == 3) || (G_0.About == 0))) && ((G_0.Kind == 4) || ((G_0.Numbers.length : Int) == 0))) && (((G_0.Kind == 4) || (G_0.Kind == 5)) || ((G_0.Abouts.length : Int) == 0))) && ((G_0.Kind == 5) || (G_0.Rate == 0)))), (71, gv (((((((G_0.Kind == 1) || (G_0.Kind == 2)) || ((G_0.Tuples.length : Int) == 0)) && ((G_0.Kind == 3) || (G_0.About == 0))) && ((G_0.Kind == 4) || ((G_0.Numbers.length : Int) == 0))) && (((G_0.Kind == 4) || (G_0.Kind == 5)) || ((G_0.Abouts.length : Int) == 0))) && ((G_0.Kind == 5) || (G_0.Rate == 0))) (.bool (G_0.Kind == 6)))] ⟨rfl, rfl, rfl, rfl, trivial⟩ ?_
 refine Rg.vT rfl rfl rfl (fun hW => X.move (ev_g rfl hW)) ?_
 refine Rg.vGF rfl rfl rfl (fun hW => X.fieldB Try.underlying33 rfl zz3 rfl rfl) ?_
 refine Rg.vGF rfl rfl rfl (fun hW => X.load1 Try.underlying3 rfl (ev_g rfl hW) (hs.cell 0 rfl 7 rfl)) ?_
 refine Rg.vGF rfl rfl rfl (fun hW => X.eql (ev_g rfl hW) rfl) ?_
 refine Rg.vGF rfl rfl rfl (fun hW => X.move (ev_g rfl hW)) ?_
 refine Rg.vGT rfl rfl rfl (fun hW => X.fieldB Try.underlying33 rfl zz3 rfl rfl) ?_
 refine Rg.vGT rfl rfl rfl (fun hW => X.load1 Try.underlying3 rfl (ev_g rfl hW) (hs.cell 0 rfl 8 rfl)) ?_
 refine Rg.vGT rfl rfl rfl (fun hW => X.eql (ev_g rfl hW) rfl) ?_
 refine Rg.vGF rfl rfl rfl (fun hW => X.pickAndG hW (ev_g rfl hW) rfl rfl) ?_
 refine Rg.vGF rfl rfl rfl (fun hW => X.move (ev_g rfl hW)) ?_
 refine Rg.vGT rfl rfl rfl (fun hW => X.fieldB Try.underlying33 rfl zz31 rfl rfl) ?_
 refine Rg.weak [(1, .pointer (some ⟨b9, 0, none⟩)), (4, .bool (G_0.Kind == 6)), (70, .bool (((((((G_0.Kind == 1) || (G_0.Kind == 2)) || ((G_0.Tuples.length : Int) == 0)) && ((G_0.Kind == 3) || (G_0.About == 0))) && ((G_0.Kind == 4) || ((G_0.Numbers.length : Int) == 0))) && (((G_0.Kind == 4) || (G_0.Kind == 5)) || ((G_0.Abouts.length : Int) == 0))) && ((G_0.Kind == 5) || (G_0.Rate == 0)))), (72, gv (((((((G_0.Kind == 1) || (G_0.Kind == 2)) || ((G_0.Tuples.length : Int) == 0)) && ((G_0.Kind == 3) || (G_0.About == 0))) && ((G_0.Kind == 4) || ((G_0.Numbers.length : Int) == 0))) && (((G_0.Kind == 4) || (G_0.Kind == 5)) || ((G_0.Abouts.length : Int) == 0))) && ((G_0.Kind == 5) || (G_0.Rate == 0))) (.bool (G_0.Kind == 6))), (81, gv ((((((((G_0.Kind == 1) || (G_0.Kind == 2)) || ((G_0.Tuples.length : Int) == 0)) && ((G_0.Kind == 3) || (G_0.About == 0))) && ((G_0.Kind == 4) || ((G_0.Numbers.length : Int) == 0))) && (((G_0.Kind == 4) || (G_0.Kind == 5)) || ((G_0.Abouts.length : Int) == 0))) && ((G_0.Kind == 5) || (G_0.Rate == 0))) && !(G_0.Kind == 6)) (.bool ((G_0.Type_ == 0) && (G_0.Count == 0)))), (82, gv (((((((((G_0.Kind == 1) || (G_0.Kind == 2)) || ((G_0.Tuples.length : Int) == 0)) && ((G_0.Kind == 3) || (G_0.About == 0))) && ((G_0.Kind == 4) || ((G_0.Numbers.length : Int) == 0))) && (((G_0.Kind == 4) || (G_0.Kind == 5)) || ((G_0.Abouts.length : Int) == 0))) && ((G_0.Kind == 5) || (G_0.Rate == 0))) && !(G_0.Kind == 6)) && ((G_0.Type_ == 0) && (G_0.Count == 0))) (.pointer (some ⟨b9, 9, none⟩)))] ⟨rfl, rfl, rfl, rfl, rfl, rfl, trivial⟩ ?_
 refine Rg.vGT rfl rfl rfl (fun hW => X.load1 Try.underlying31 rfl (ev_g rfl hW) (hs.cell 0 rfl 9 rfl)) ?_
 refine Rg.vGT rfl rfl rfl (fun hW => X.lenR Try.underlying31 (ev_g rfl hW) f8) ?_
 refine Rg.vGT rfl rfl rfl (fun hW => X.eql (ev_g rfl hW) rfl) ?_
 refine Rg.vGF rfl rfl rfl (fun hW => X.pickAndG hW (ev_g rfl hW) rfl rfl) ?_
 refine Rg.vT rfl rfl rfl (fun hW => X.pickOrG hW (ev_g rfl hW) rfl rfl) ?_
 refine Rg.vN (X.pickAnd rfl rfl rfl) rfl ?_
 refine Rg.mv rfl rfl ?_
 refine Rg.vT rfl rfl rfl (fun hW => X.move rfl) ?_
 refine Rg.vT rfl rfl rfl (fun hW => X.not (ev_g rfl hW)) ?_
 refine Rg.weak [(1, .pointer (some ⟨b9, 0, none⟩)), (89, .bool ((((((((G_0.Kind == 1) || (G_0.Kind == 2)) || ((G_0.Tuples.length : Int) == 0)) && ((G_0.Kind == 3) || (G_0.About == 0))) && ((G_0.Kind == 4) || ((G_0.Numbers.length : Int) == 0))) && (((G_0.Kind == 4) || (G_0.Kind == 5)) || ((G_0.Abouts.length : Int) == 0))) && ((G_0.Kind == 5) || (G_0.Rate == 0))) && ((G_0.Kind == 6) || (((G_0.Type_ == 0) && (G_0.Count == 0)) && ((G_0.Body.length : Int) == 0))))), (91, gv ((((((((G_0.Kind == 1) || (G_0.Kind == 2)) || ((G_0.Tuples.length : Int) == 0)) && ((G_0.Kind == 3) || (G_0.About == 0))) && ((G_0.Kind == 4) || ((G_0.Numbers.length : Int) == 0))) && (((G_0.Kind == 4) || (G_0.Kind == 5)) || ((G_0.Abouts.length : Int) == 0))) && ((G_0.Kind == 5) || (G_0.Rate == 0))) && ((G_0.Kind == 6) || (((G_0.Type_ == 0) && (G_0.Count == 0)) && ((G_0.Body.length : Int) == 0)))) (.bool (!(G_0.Kind == 6))))] ⟨rfl, rfl, rfl, trivial⟩ ?_
 refine Rg.vT rfl rfl rfl (fun hW => X.move (ev_g rfl hW)) ?_
 refine Rg.vGF rfl rfl rfl (fun hW => X.fieldB Try.underlying33 rfl zz27 rfl rfl) ?_
 refine Rg.vGF rfl rfl rfl (fun hW => X.load1 Try.underlying27 rfl (ev_g rfl hW) (hs.cell 0 rfl 1 rfl)) ?_
 refine Rg.vGF rfl rfl rfl (fun hW => X.eql (ev_g rfl hW) rfl) ?_
 refine Rg.vT rfl rfl rfl (fun hW => X.pickOrG hW (ev_g rfl hW) rfl rfl) ?_
 refine Rg.vN (X.pickAnd rfl rfl rfl) rfl ?_
 refine Rg.st rfl rfl ?_
 refine Rg.go ?_
 refine Cd.ret ?_
 obtain rfl := some_s h0
 exact fun a ha => Cd.retA (R := Re (Po47 S0 w0 [] _)) ha Try.results47 ⟨_, _, rfl, rfl, rfl⟩ ⟨_, rfl, S0, rfl, (hs.pick [] (by decide) rfl)⟩
noncomputable def rtcp_Right (r_0 : api_Report) : Option Int :=
 if ((decide (r_0.Kind < 1)) || (decide (6 < r_0.Kind))) = true then (
  some 12)
 else (
  (rtcp_values r_0).bind fun x13 =>
  if (!x13) = true then (
   some 1)
  else (
   (rtcp_fields r_0).bind fun x22 =>
   if (!x22) = true then (
    some 12)
   else (
    some 0)))
def Po23 (S0 : Mp) (w0 : World) (D : List Nat) (r : Int) (v : Value) (w1 : World) : Prop :=
  ∃ (S1 : Mp), v = .int .i64 r ∧ St w0 D S0 S1 [] w1
set_option maxHeartbeats 4000000 in
theorem c23 (S0 : Mp) {w0 : World} (hs : St w0 [] S0 S0 [] w0) (r_0 : api_Report) (v1 : Value) (f2 : Rd S0 3 R_api_Tuple v1 r_0.Tuples) (v3 : Value) (f4 : Rd S0 1 (RI .u32) v3 r_0.Abouts) (v5 : Value) (f6 : Rd S0 1 (RI .i64) v5 r_0.Numbers) (v7 : Value) (f8 : Rd S0 1 (RI .u8) v7 r_0.Body) (r : Int) (h0 : rtcp_Right r_0 = some r) :
    Calls Try.prog 23 #[.agg (#[.int .i64 r_0.Kind, .int .u32 r_0.From, .int .u32 r_0.About, v1, v3, v5, .int .u64 r_0.Rate, .int .i64 r_0.Type_, .int .i64 r_0.Count, v7])] w0 (Re (Po23 S0 w0 [] r)) := by
 unfold rtcp_Right at h0
 refine calls_of_cd Try.func23 rfl Try.ntmps23 rfl ?_
 refine Cd.sr ?_
 refine Rg.step rfl (Oq.box (cs := #[.int .i64 r_0.Kind, .int .u32 r_0.From, .int .u32 r_0.About, v1, v3, v5, .int .u64 r_0.Rate, .int .i64 r_0.Type_, .int .i64 r_0.Count, v7]) hs rfl rfl rfl (fun b9 w10 hs => ?_))
 refine Rg.st rfl rfl ?_
 refine Rg.go ?_
 refine Cd.seq ?_
 refine Cd.block ?_
 refine Cd.sr ?_
 refine Rg.vN (X.fieldB Try.underlying33 rfl zz3 rfl rfl) rfl ?_
 refine Rg.vN (X.load1 Try.underlying3 rfl rfl (hs.cell 0 rfl 0 rfl)) rfl ?_
 refine Rg.vN (X.lss rfl rfl) rfl ?_
 refine Rg.mv rfl rfl ?_
 refine Rg.vF rfl rfl rfl (fun hW => X.fieldB Try.underlying33 rfl zz3 rfl rfl) ?_
 refine Rg.vF rfl rfl rfl (fun hW => X.load1 Try.underlying3 rfl (ev_g rfl hW) (hs.cell 0 rfl 0 rfl)) ?_
 refine Rg.vF rfl rfl rfl (fun hW => X.gtr (ev_g rfl hW) rfl) ?_
 refine Rg.vN (X.pickOr rfl rfl rfl) rfl ?_
 refine Rg.st rfl rfl ?_
 refine Rg.go ?_
 refine Cd.cond (t := (decide (r_0.Kind < 1)) || (decide (6 < r_0.Kind))) rfl (fun hc12 => ?_) (fun hc12 => ?_)
 ·have h0 := ite_t hc12 h0
  refine Cd.sr ?_
  refine Rg.st rfl rfl ?_
  refine Rg.go ?_
  refine Cd.ret ?_
  obtain rfl := some_s h0
  exact fun a ha => Cd.retA (R := Re (Po23 S0 w0 [] _)) ha Try.results23 ⟨_, _, rfl, rfl, rfl⟩ ⟨_, rfl, S0, rfl, (hs.pick [] (by decide) rfl)⟩
 ·have h0 := ite_f hc12 h0
  refine Cd.sr ?_
  refine Rg.vN (X.loadN (vals := [.int .i64 r_0.Kind, .int .u32 r_0.From, .int .u32 r_0.About, v1, v3, v5, .int .u64 r_0.Rate, .int .i64 r_0.Type_, .int .i64 r_0.Count, v7]) Try.underlying33 rfl zz33 rfl (hs.range 0 rfl 0 rfl)) rfl ?_
  obtain ⟨x13, hx14, h0⟩ := bind_s h0
  refine Rg.step rfl (Oq.call Try.call46 rfl rfl (c46 S0 (St.start _ _ hs.has) r_0 _ f2 _ f4 _ f6 _ f8 _ hx14) (fun v15 w16 h17 => ?_))
  obtain ⟨S18, rfl, hs19⟩ := h17
  have le20 := hs19.le
  have hs := hs.call0 hs19
  refine Rg.vN (X.not rfl) rfl ?_
  refine Rg.st rfl rfl ?_
  refine Rg.go ?_
  refine Cd.cond (t := !x13) rfl (fun hc21 => ?_) (fun hc21 => ?_)
  ·have h0 := ite_t hc21 h0
   refine Cd.sr ?_
   refine Rg.st rfl rfl ?_
   refine Rg.go ?_
   refine Cd.ret ?_
   obtain rfl := some_s h0
   exact fun a ha => Cd.retA (R := Re (Po23 S0 w0 [] _)) ha Try.results23 ⟨_, _, rfl, rfl, rfl⟩ ⟨_, rfl, S18, rfl, (hs.pick [] (by decide) rfl)⟩
  ·have h0 := ite_f hc21 h0
   refine Cd.sr ?_
   refine Rg.vN (X.loadN (vals := [.int .i64 r_0.Kind, .int .u32 r_0.From, .int .u32 r_0.About, v1, v3, v5, .int .u64 r_0.Rate, .int .i64 r_0.Type_, .int .i64 r_0.Count, v7]) Try.underlying33 rfl zz33 rfl (hs.range 0 rfl 0 rfl)) rfl ?_
   obtain ⟨x22, hx23, h0⟩ := bind_s h0
   refine Rg.step rfl (Oq.call Try.call47 rfl rfl (c47 S18 (St.start _ _ hs.has) r_0 _ (f2.mono le20) _ (f4.mono le20) _ (f6.mono le20) _ (f8.mono le20) _ hx23) (fun v24 w25 h26 => ?_))
   obtain ⟨S27, rfl, hs28⟩ := h26
   have le29 := hs28.le
   have hs := hs.call0 hs28
   refine Rg.vN (X.not rfl) rfl ?_
   refine Rg.st rfl rfl ?_
   refine Rg.go ?_
   refine Cd.weak [(16, .bool (!x22))] ⟨rfl, trivial⟩ ?_
   refine Cd.cond (t := !x22) rfl (fun hc30 => ?_) (fun hc30 => ?_)
   ·have h0 := ite_t hc30 h0
    refine Cd.sr ?_
    refine Rg.st rfl rfl ?_
    refine Rg.go ?_
    refine Cd.ret ?_
    obtain rfl := some_s h0
    exact fun a ha => Cd.retA (R := Re (Po23 S0 w0 [] _)) ha Try.results23 ⟨_, _, rfl, rfl, rfl⟩ ⟨_, rfl, S27, rfl, (hs.pick [] (by decide) rfl)⟩
   ·have h0 := ite_f hc30 h0
    refine Cd.skip ?_
    refine Cd.go ?_
    refine Cd.sr ?_
    refine Rg.st rfl rfl ?_
    refine Rg.go ?_
    refine Cd.ret ?_
    obtain rfl := some_s h0
    exact fun a ha => Cd.retA (R := Re (Po23 S0 w0 [] _)) ha Try.results23 ⟨_, _, rfl, rfl, rfl⟩ ⟨_, rfl, S27, rfl, (hs.pick [] (by decide) rfl)⟩
noncomputable def limelightref6_Tuples_l0 (a_0 : (List api_Tuple)) (b_1 : (List api_Tuple)) (q13 : Int) : Option (Flow Int Bool) :=
 if (decide (q13 < (a_0.length : Int))) = true then (
  (ix a_0 q13).bind fun x24 =>
  (ix b_1 q13).bind fun x31 =>
  if (!((x24.Owner == x31.Owner) && ((x24.Rate == x31.Rate) && ((x24.Over == x31.Over) && true)))) = true then (
   some (Flow.ret false))
  else (
   some (Flow.next (add .i64 q13 1))))
 else (
  some (Flow.brk q13))
noncomputable def limelightref6_Tuples (a_0 : (List api_Tuple)) (b_1 : (List api_Tuple)) : Option Bool :=
 if ((a_0.length : Int) != (b_1.length : Int)) = true then (
  some false)
 else (
  (loopF (fun sg => limelightref6_Tuples_l0 a_0 b_1 sg) 0).bind fun fl6 =>
  Flow.el fl6 (fun s39 => (
   none))
  (fun s40 => (
   some true))
  (fun r41 => (
   some r41)))
def Po26 (S0 : Mp) (w0 : World) (D : List Nat) (r : Bool) (v : Value) (w1 : World) : Prop :=
  ∃ (S1 : Mp), v = .bool r ∧ St w0 D S0 S1 [] w1
set_option maxHeartbeats 4000000 in
theorem c26 (S0 : Mp) {w0 : World} (hs : St w0 [] S0 S0 [] w0) (a_0 : (List api_Tuple)) (v1 : Value) (f2 : Rd S0 3 R_api_Tuple v1 a_0) (b_1 : (List api_Tuple)) (v3 : Value) (f4 : Rd S0 3 R_api_Tuple v3 b_1) (r : Bool) (h0 : limelightref6_Tuples a_0 b_1 = some r) :
    Calls Try.prog 26 #[v1, v3] w0 (Re (Po26 S0 w0 [] r)) := by
 unfold limelightref6_Tuples at h0
 refine calls_of_cd Try.func26 rfl Try.ntmps26 rfl ?_
 refine Cd.sr ?_
 refine Rg.st rfl rfl ?_
 refine Rg.go ?_
 refine Cd.seq ?_
 refine Cd.sr ?_
 refine Rg.mv rfl rfl ?_
 refine Rg.vN (X.lenR Try.underlying28 rfl f2) rfl ?_
 refine Rg.mv rfl rfl ?_
 refine Rg.vN (X.lenR Try.underlying28 rfl f4) rfl ?_
 refine Rg.vN (X.neq rfl rfl) rfl ?_
 refine Rg.go ?_
 refine Cd.cond (t := (a_0.length : Int) != (b_1.length : Int)) rfl (fun hc5 => ?_) (fun hc5 => ?_)
 ·have h0 := ite_t hc5 h0
  refine Cd.sr ?_
  refine Rg.st rfl rfl ?_
  refine Rg.go ?_
  refine Cd.ret ?_
  obtain rfl := some_s h0
  exact fun a ha => Cd.retA (R := Re (Po26 S0 w0 [] _)) ha Try.results26 ⟨_, _, rfl, rfl, rfl⟩ ⟨_, rfl, S0, rfl, hs⟩
 ·have h0 := ite_f hc5 h0
  refine Cd.sg ?_
  refine Cd.seq ?_
  refine Cd.sr ?_
  refine Rg.mv rfl rfl ?_
  refine Rg.vN (X.lenR Try.underlying28 rfl f2) rfl ?_
  refine Rg.mv rfl rfl ?_
  refine Rg.go ?_
  obtain ⟨fl6, hfl7, h0⟩ := bind_s h0
  refine Cd.post (fun K w => ∃ (j8 : Int) (S9 : Mp), K = [] ∧ fl6 = Flow.brk j8 ∧ Le S0 S9 ∧ St w0 [] S0 S9 [] w) ?_ ?_
  ·rintro K12 w11 ⟨j8, S9, rfl, rfl, le10, hs⟩
   have h0 := el_brk h0
   try dsimp only at h0
   refine Cd.go ?_
   refine Cd.sr ?_
   refine Rg.st rfl rfl ?_
   refine Rg.go ?_
   refine Cd.ret ?_
   obtain rfl := some_s h0
   exact fun a ha => Cd.retA (R := Re (Po26 S0 w0 [] _)) ha Try.results26 ⟨_, _, rfl, rfl, rfl⟩ ⟨_, rfl, S9, rfl, hs⟩
  ·skip
   refine Cd.weak [(0, v1), (1, v3), (12, .int .i64 (a_0.length : Int)), (13, .int .i64 0)] ⟨rfl, rfl, rfl, rfl, trivial⟩ ?_
   refine Cd.block (Cd.loop (fun sg => limelightref6_Tuples_l0 a_0 b_1 sg) (fun (sg : Int) K w => ∃ (S14 : Mp), K = [(0, v1), (1, v3), (12, .int .i64 (a_0.length : Int)), (13, .int .i64 sg)] ∧ Le S0 S14 ∧ St w0 [] S0 S14 [] w) 0 fl6 hfl7 ⟨S0, rfl, Le.refl _, hs⟩ ?_)
   rintro q13 fl16 K21 w20 hb17 ⟨S14, rfl, le15, hs⟩ hl18
   have h19 : limelightref6_Tuples_l0 a_0 b_1 q13 = some fl16 := hb17
   unfold limelightref6_Tuples_l0 at h19
   refine Cd.sr ?_
   refine Rg.vN (X.lss rfl rfl) rfl ?_
   refine Rg.go ?_
   refine Cd.seq ?_
   refine Cd.cond (t := decide (q13 < (a_0.length : Int))) rfl (fun hc22 => ?_) (fun hc22 => ?_)
   ·have h19 := ite_t hc22 h19
    refine Cd.sg ?_
    refine Cd.seq ?_
    refine Cd.block ?_
    refine Cd.sr ?_
    refine Rg.mv rfl rfl ?_
    refine Rg.st rfl rfl ?_
    refine Rg.go ?_
    refine Cd.seq ?_
    refine Cd.rD mixed (fun l w => Has S14 w) hs (fun _ _ _ _ _ h => h) (by kernel_rfl) (fun w23 hs => ⟨hs.has, ?_⟩)
    refine Rk.tN 0 rfl rfl (fun _ _ => X.move rfl) ?_
    refine Rk.tN 1 rfl rfl (fun _ _ => X.move rfl) ?_
    obtain ⟨x24, hx25, h19⟩ := bind_s h19
    obtain ⟨ad26, vals27, _, hR28, hE29, hX30⟩ := mk_index Try.underlying28 zz57 (by decide) (f2.mono le15) hx25
    unfold R_api_Tuple at hR28
    subst hR28
    refine Rk.tN 2 rfl rfl (fun _ _ => hX30 rfl rfl) ?_
    refine Rk.tN 3 rfl rfl (fun w hc => X.loadE (vals := [.int .u32 x24.Owner, .int .u64 x24.Rate, .int .i64 x24.Over]) hc Try.underlying57 rfl zz57 rfl hE29) ?_
    refine Rk.tN 4 rfl rfl (fun _ _ => X.move rfl) ?_
    refine Rk.tN 5 rfl rfl (fun _ _ => X.move rfl) ?_
    refine Rk.weak [(0, v1), (1, v3), (12, .int .i64 (a_0.length : Int)), (13, .int .i64 q13), (19, .agg (#[.int .u32 x24.Owner, .int .u64 x24.Rate, .int .i64 x24.Over])), (20, v3), (21, .int .i64 q13)] ⟨rfl, rfl, rfl, rfl, rfl, rfl, rfl, trivial⟩ ?_
    obtain ⟨x31, hx32, h19⟩ := bind_s h19
    obtain ⟨ad33, vals34, _, hR35, hE36, hX37⟩ := mk_index Try.underlying28 zz57 (by decide) (f4.mono le15) hx32
    unfold R_api_Tuple at hR35
    subst hR35
    refine Rk.tN 6 rfl rfl (fun _ _ => hX37 rfl rfl) ?_
    refine Rk.tN 7 rfl rfl (fun w hc => X.loadE (vals := [.int .u32 x31.Owner, .int .u64 x31.Rate, .int .i64 x31.Over]) hc Try.underlying57 rfl zz57 rfl hE36) ?_
    refine Rk.tN 8 rfl rfl (fun _ _ => X.neqA eqg57 (eqs57 _ _ _ _ _ _) rfl rfl) ?_
    refine Rk.done ?_
    refine Cd.go ?_
    refine Cd.cond (t := !((x24.Owner == x31.Owner) && ((x24.Rate == x31.Rate) && ((x24.Over == x31.Over) && true)))) rfl (fun hc38 => ?_) (fun hc38 => ?_)
    ·have h19 := ite_t hc38 h19
     refine Cd.sr ?_
     refine Rg.st rfl rfl ?_
     refine Rg.go ?_
     refine Cd.ret ?_
     obtain rfl := some_s h19
     have e := hl18 (fun _ e => by cases e)
     subst e
     have h0 := el_ret h0
     obtain rfl := some_s h0
     exact fun a ha => Cd.retA (R := Re (Po26 S0 w0 [] _)) ha Try.results26 ⟨_, _, rfl, rfl, rfl⟩ ⟨_, rfl, S14, rfl, hs⟩
    ·have h19 := ite_f hc38 h19
     refine Cd.skip ?_
     refine Cd.go ?_
     refine Cd.region ?_
     refine Rg.vN (X.add rfl rfl) rfl ?_
     refine Rg.mv rfl rfl ?_
     refine Rg.nil ?_
     exact fun a ha => ⟨add .i64 q13 1, [(0, v1), (1, v3), (12, .int .i64 (a_0.length : Int)), (13, .int .i64 (add .i64 q13 1))], (some_s h19).symm, ha.weak ⟨rfl, rfl, rfl, rfl, trivial⟩, S14, rfl, le15, hs⟩
   ·have h19 := ite_f hc22 h19
    refine Cd.exit ?_
    obtain rfl := some_s h19
    have e := hl18 (fun _ e => by cases e)
    exact fun a ha => ⟨[], ha.weak trivial, _, S14, rfl, e.symm, le15, hs⟩
noncomputable def limelightref6_nums_l0 (a_0 : (List Int)) (b_1 : (List Int)) (q13 : Int) : Option (Flow Int Bool) :=
 if (decide (q13 < (a_0.length : Int))) = true then (
  (ix a_0 q13).bind fun x24 =>
  (ix b_1 q13).bind fun x31 =>
  if (x24 != x31) = true then (
   some (Flow.ret false))
  else (
   some (Flow.next (add .i64 q13 1))))
 else (
  some (Flow.brk q13))
noncomputable def limelightref6_nums (a_0 : (List Int)) (b_1 : (List Int)) : Option Bool :=
 if ((a_0.length : Int) != (b_1.length : Int)) = true then (
  some false)
 else (
  (loopF (fun sg => limelightref6_nums_l0 a_0 b_1 sg) 0).bind fun fl6 =>
  Flow.el fl6 (fun s39 => (
   none))
  (fun s40 => (
   some true))
  (fun r41 => (
   some r41)))
def Po40 (S0 : Mp) (w0 : World) (D : List Nat) (r : Bool) (v : Value) (w1 : World) : Prop :=
  ∃ (S1 : Mp), v = .bool r ∧ St w0 D S0 S1 [] w1
set_option maxHeartbeats 4000000 in
theorem c40 (S0 : Mp) {w0 : World} (hs : St w0 [] S0 S0 [] w0) (a_0 : (List Int)) (v1 : Value) (f2 : Rd S0 1 (RI .u32) v1 a_0) (b_1 : (List Int)) (v3 : Value) (f4 : Rd S0 1 (RI .u32) v3 b_1) (r : Bool) (h0 : limelightref6_nums a_0 b_1 = some r) :
    Calls Try.prog 40 #[v1, v3] w0 (Re (Po40 S0 w0 [] r)) := by
 unfold limelightref6_nums at h0
 refine calls_of_cd Try.func40 rfl Try.ntmps40 rfl ?_
 refine Cd.sr ?_
 refine Rg.st rfl rfl ?_
 refine Rg.go ?_
 refine Cd.seq ?_
 refine Cd.sr ?_
 refine Rg.mv rfl rfl ?_
 refine Rg.vN (X.lenR Try.underlying29 rfl f2) rfl ?_
 refine Rg.mv rfl rfl ?_
 refine Rg.vN (X.lenR Try.underlying29 rfl f4) rfl ?_
 refine Rg.vN (X.neq rfl rfl) rfl ?_
 refine Rg.go ?_
 refine Cd.cond (t := (a_0.length : Int) != (b_1.length : Int)) rfl (fun hc5 => ?_) (fun hc5 => ?_)
 ·have h0 := ite_t hc5 h0
  refine Cd.sr ?_
  refine Rg.st rfl rfl ?_
  refine Rg.go ?_
  refine Cd.ret ?_
  obtain rfl := some_s h0
  exact fun a ha => Cd.retA (R := Re (Po40 S0 w0 [] _)) ha Try.results40 ⟨_, _, rfl, rfl, rfl⟩ ⟨_, rfl, S0, rfl, hs⟩
 ·have h0 := ite_f hc5 h0
  refine Cd.sg ?_
  refine Cd.seq ?_
  refine Cd.sr ?_
  refine Rg.mv rfl rfl ?_
  refine Rg.vN (X.lenR Try.underlying29 rfl f2) rfl ?_
  refine Rg.mv rfl rfl ?_
  refine Rg.go ?_
  obtain ⟨fl6, hfl7, h0⟩ := bind_s h0
  refine Cd.post (fun K w => ∃ (j8 : Int) (S9 : Mp), K = [] ∧ fl6 = Flow.brk j8 ∧ Le S0 S9 ∧ St w0 [] S0 S9 [] w) ?_ ?_
  ·rintro K12 w11 ⟨j8, S9, rfl, rfl, le10, hs⟩
   have h0 := el_brk h0
   try dsimp only at h0
   refine Cd.go ?_
   refine Cd.sr ?_
   refine Rg.st rfl rfl ?_
   refine Rg.go ?_
   refine Cd.ret ?_
   obtain rfl := some_s h0
   exact fun a ha => Cd.retA (R := Re (Po40 S0 w0 [] _)) ha Try.results40 ⟨_, _, rfl, rfl, rfl⟩ ⟨_, rfl, S9, rfl, hs⟩
  ·skip
   refine Cd.weak [(0, v1), (1, v3), (12, .int .i64 (a_0.length : Int)), (13, .int .i64 0)] ⟨rfl, rfl, rfl, rfl, trivial⟩ ?_
   refine Cd.block (Cd.loop (fun sg => limelightref6_nums_l0 a_0 b_1 sg) (fun (sg : Int) K w => ∃ (S14 : Mp), K = [(0, v1), (1, v3), (12, .int .i64 (a_0.length : Int)), (13, .int .i64 sg)] ∧ Le S0 S14 ∧ St w0 [] S0 S14 [] w) 0 fl6 hfl7 ⟨S0, rfl, Le.refl _, hs⟩ ?_)
   rintro q13 fl16 K21 w20 hb17 ⟨S14, rfl, le15, hs⟩ hl18
   have h19 : limelightref6_nums_l0 a_0 b_1 q13 = some fl16 := hb17
   unfold limelightref6_nums_l0 at h19
   refine Cd.sr ?_
   refine Rg.vN (X.lss rfl rfl) rfl ?_
   refine Rg.go ?_
   refine Cd.seq ?_
   refine Cd.cond (t := decide (q13 < (a_0.length : Int))) rfl (fun hc22 => ?_) (fun hc22 => ?_)
   ·have h19 := ite_t hc22 h19
    refine Cd.sg ?_
    refine Cd.seq ?_
    refine Cd.block ?_
    refine Cd.sr ?_
    refine Rg.mv rfl rfl ?_
    refine Rg.st rfl rfl ?_
    refine Rg.go ?_
    refine Cd.seq ?_
    refine Cd.rD mixed (fun l w => Has S14 w) hs (fun _ _ _ _ _ h => h) (by kernel_rfl) (fun w23 hs => ⟨hs.has, ?_⟩)
    refine Rk.tN 0 rfl rfl (fun _ _ => X.move rfl) ?_
    refine Rk.tN 1 rfl rfl (fun _ _ => X.move rfl) ?_
    obtain ⟨x24, hx25, h19⟩ := bind_s h19
    obtain ⟨ad26, vals27, _, hR28, hE29, hX30⟩ := mk_index Try.underlying29 zz27 (by decide) (f2.mono le15) hx25
    obtain rfl : vals27 = [.int .u32 x24] := hR28
    refine Rk.tN 2 rfl rfl (fun _ _ => hX30 rfl rfl) ?_
    refine Rk.tN 3 rfl rfl (fun w hc => X.load1 Try.underlying27 rfl rfl (hE29.at0 rfl hc)) ?_
    refine Rk.tN 4 rfl rfl (fun _ _ => X.move rfl) ?_
    refine Rk.tN 5 rfl rfl (fun _ _ => X.move rfl) ?_
    refine Rk.weak [(0, v1), (1, v3), (12, .int .i64 (a_0.length : Int)), (13, .int .i64 q13), (19, .int .u32 x24), (20, v3), (21, .int .i64 q13)] ⟨rfl, rfl, rfl, rfl, rfl, rfl, rfl, trivial⟩ ?_
    obtain ⟨x31, hx32, h19⟩ := bind_s h19
    obtain ⟨ad33, vals34, _, hR35, hE36, hX37⟩ := mk_index Try.underlying29 zz27 (by decide) (f4.mono le15) hx32
    obtain rfl : vals34 = [.int .u32 x31] := hR35
    refine Rk.tN 6 rfl rfl (fun _ _ => hX37 rfl rfl) ?_
    refine Rk.tN 7 rfl rfl (fun w hc => X.load1 Try.underlying27 rfl rfl (hE36.at0 rfl hc)) ?_
    refine Rk.tN 8 rfl rfl (fun _ _ => X.neq rfl rfl) ?_
    refine Rk.done ?_
    refine Cd.go ?_
    refine Cd.cond (t := x24 != x31) rfl (fun hc38 => ?_) (fun hc38 => ?_)
    ·have h19 := ite_t hc38 h19
     refine Cd.sr ?_
     refine Rg.st rfl rfl ?_
     refine Rg.go ?_
     refine Cd.ret ?_
     obtain rfl := some_s h19
     have e := hl18 (fun _ e => by cases e)
     subst e
     have h0 := el_ret h0
     obtain rfl := some_s h0
     exact fun a ha => Cd.retA (R := Re (Po40 S0 w0 [] _)) ha Try.results40 ⟨_, _, rfl, rfl, rfl⟩ ⟨_, rfl, S14, rfl, hs⟩
    ·have h19 := ite_f hc38 h19
     refine Cd.skip ?_
     refine Cd.go ?_
     refine Cd.region ?_
     refine Rg.vN (X.add rfl rfl) rfl ?_
     refine Rg.mv rfl rfl ?_
     refine Rg.nil ?_
     exact fun a ha => ⟨add .i64 q13 1, [(0, v1), (1, v3), (12, .int .i64 (a_0.length : Int)), (13, .int .i64 (add .i64 q13 1))], (some_s h19).symm, ha.weak ⟨rfl, rfl, rfl, rfl, trivial⟩, S14, rfl, le15, hs⟩
   ·have h19 := ite_f hc22 h19
    refine Cd.exit ?_
    obtain rfl := some_s h19
    have e := hl18 (fun _ e => by cases e)
    exact fun a ha => ⟨[], ha.weak trivial, _, S14, rfl, e.symm, le15, hs⟩
noncomputable def limelightref6_Same_l0 (G_0 : api_Report) (o_1 : api_Report) (q38 : Int) : Option (Flow Int Bool) :=
 if (decide (q38 < (G_0.Numbers.length : Int))) = true then (
  (ix G_0.Numbers q38).bind fun x49 =>
  (ix o_1.Numbers q38).bind fun x56 =>
  if (x49 != x56) = true then (
   some (Flow.ret false))
  else (
   some (Flow.next (add .i64 q38 1))))
 else (
  some (Flow.brk q38))
noncomputable def limelightref6_Same (G_0 : api_Report) (o_1 : api_Report) : Option Bool :=
 ((
  if (((((((G_0.Kind != o_1.Kind) || (G_0.From != o_1.From)) || (G_0.About != o_1.About)) || (G_0.Rate != o_1.Rate)) || (G_0.Type_ != o_1.Type_)) || (G_0.Count != o_1.Count)) || (!((strOfNums G_0.Body).toList == (strOfNums o_1.Body).toList))) = true then (
   some true)
  else (
   (limelightref6_nums G_0.Abouts o_1.Abouts).bind fun x68 =>
   if (!x68) = true then (
    some true)
   else (
    (limelightref6_Tuples G_0.Tuples o_1.Tuples).bind fun x77 =>
    some ((!x77) || ((G_0.Numbers.length : Int) != (o_1.Numbers.length : Int))))) : Option Bool)).bind fun p24 =>
 if p24 = true then (
  some false)
 else (
  (loopF (fun sg => limelightref6_Same_l0 G_0 o_1 sg) 0).bind fun fl31 =>
  Flow.el fl31 (fun s64 => (
   none))
  (fun s65 => (
   some true))
  (fun r66 => (
   some r66)))
def Po18 (S0 : Mp) (w0 : World) (D : List Nat) (r : Bool) (v : Value) (w1 : World) : Prop :=
  ∃ (S1 : Mp), v = .bool r ∧ St w0 D S0 S1 [] w1
set_option maxHeartbeats 4000000 in
theorem c18 (S0 : Mp) {w0 : World} (hs : St w0 [] S0 S0 [] w0) (G_0 : api_Report) (v1 : Value) (f2 : Rd S0 3 R_api_Tuple v1 G_0.Tuples) (v3 : Value) (f4 : Rd S0 1 (RI .u32) v3 G_0.Abouts) (v5 : Value) (f6 : Rd S0 1 (RI .i64) v5 G_0.Numbers) (v7 : Value) (f8 : Rd S0 1 (RI .u8) v7 G_0.Body) (o_1 : api_Report) (v9 : Value) (f10 : Rd S0 3 R_api_Tuple v9 o_1.Tuples) (v11 : Value) (f12 : Rd S0 1 (RI .u32) v11 o_1.Abouts) (v13 : Value) (f14 : Rd S0 1 (RI .i64) v13 o_1.Numbers) (v15 : Value) (f16 : Rd S0 1 (RI .u8) v15 o_1.Body) (r : Bool) (h0 : limelightref6_Same G_0 o_1 = some r) :
    Calls Try.prog 18 #[.agg (#[.int .i64 G_0.Kind, .int .u32 G_0.From, .int .u32 G_0.About, v1, v3, v5, .int .u64 G_0.Rate, .int .i64 G_0.Type_, .int .i64 G_0.Count, v7]), .agg (#[.int .i64 o_1.Kind, .int .u32 o_1.From, .int .u32 o_1.About, v9, v11, v13, .int .u64 o_1.Rate, .int .i64 o_1.Type_, .int .i64 o_1.Count, v15])] w0 (Re (Po18 S0 w0 [] r)) := by
 unfold limelightref6_Same at h0
 refine calls_of_cd Try.func18 rfl Try.ntmps18 rfl ?_
 refine Cd.sr ?_
 refine Rg.step rfl (Oq.box (cs := #[.int .i64 G_0.Kind, .int .u32 G_0.From, .int .u32 G_0.About, v1, v3, v5, .int .u64 G_0.Rate, .int .i64 G_0.Type_, .int .i64 G_0.Count, v7]) hs rfl rfl rfl (fun b17 w18 hs => ?_))
 refine Rg.step rfl (Oq.box (cs := #[.int .i64 o_1.Kind, .int .u32 o_1.From, .int .u32 o_1.About, v9, v11, v13, .int .u64 o_1.Rate, .int .i64 o_1.Type_, .int .i64 o_1.Count, v15]) hs rfl rfl rfl (fun b20 w21 hs => ?_))
 refine Rg.st rfl rfl ?_
 refine Rg.go ?_
 refine Cd.seq ?_
 refine Cd.seq ?_
 obtain ⟨p24, hp25, h0⟩ := bind_s h0
 refine Cd.post (fun K w => ∃ (S26 : Mp), K = [(2, .pointer (some ⟨b17, 0, none⟩)), (3, .pointer (some ⟨b20, 0, none⟩)), (79, .bool p24)] ∧ Le S0 S26 ∧ St w0 [] S0 S26 [.box b20 #[.int .i64 o_1.Kind, .int .u32 o_1.From, .int .u32 o_1.About, v9, v11, v13, .int .u64 o_1.Rate, .int .i64 o_1.Type_, .int .i64 o_1.Count, v15] 33, .box b17 #[.int .i64 G_0.Kind, .int .u32 G_0.From, .int .u32 G_0.About, v1, v3, v5, .int .u64 G_0.Rate, .int .i64 G_0.Type_, .int .i64 G_0.Count, v7] 33] w) ?_ ?_
 ·rintro K29 w27 ⟨S26, rfl, le28, hs⟩
  refine Cd.go ?_
  refine Cd.cond (t := p24) rfl (fun hc30 => ?_) (fun hc30 => ?_)
  ·have h0 := ite_t hc30 h0
   refine Cd.sr ?_
   refine Rg.st rfl rfl ?_
   refine Rg.go ?_
   refine Cd.ret ?_
   obtain rfl := some_s h0
   exact fun a ha => Cd.retA (R := Re (Po18 S0 w0 [] _)) ha Try.results18 ⟨_, _, rfl, rfl, rfl⟩ ⟨_, rfl, S26, rfl, (hs.pick [] (by decide) rfl)⟩
  ·have h0 := ite_f hc30 h0
   refine Cd.sg ?_
   refine Cd.seq ?_
   refine Cd.sr ?_
   refine Rg.vN (X.fieldB Try.underlying33 rfl zz23 rfl rfl) rfl ?_
   refine Rg.vN (X.load1 Try.underlying23 rfl rfl (hs.cell 1 rfl 5 rfl)) rfl ?_
   refine Rg.vN (X.lenR Try.underlying23 rfl (f6.mono le28)) rfl ?_
   refine Rg.mv rfl rfl ?_
   refine Rg.go ?_
   obtain ⟨fl31, hfl32, h0⟩ := bind_s h0
   refine Cd.post (fun K w => ∃ (j33 : Int) (S34 : Mp), K = [] ∧ fl31 = Flow.brk j33 ∧ Le S26 S34 ∧ St w0 [] S0 S34 [] w) ?_ ?_
   ·rintro K37 w36 ⟨j33, S34, rfl, rfl, le35, hs⟩
    have h0 := el_brk h0
    try dsimp only at h0
    refine Cd.go ?_
    refine Cd.sr ?_
    refine Rg.st rfl rfl ?_
    refine Rg.go ?_
    refine Cd.ret ?_
    obtain rfl := some_s h0
    exact fun a ha => Cd.retA (R := Re (Po18 S0 w0 [] _)) ha Try.results18 ⟨_, _, rfl, rfl, rfl⟩ ⟨_, rfl, S34, rfl, hs⟩
   ·skip
    refine Cd.weak [(2, .pointer (some ⟨b17, 0, none⟩)), (3, .pointer (some ⟨b20, 0, none⟩)), (82, .int .i64 (G_0.Numbers.length : Int)), (83, .int .i64 0)] ⟨rfl, rfl, rfl, rfl, trivial⟩ ?_
    refine Cd.block (Cd.loop (fun sg => limelightref6_Same_l0 G_0 o_1 sg) (fun (sg : Int) K w => ∃ (S39 : Mp), K = [(2, .pointer (some ⟨b17, 0, none⟩)), (3, .pointer (some ⟨b20, 0, none⟩)), (82, .int .i64 (G_0.Numbers.length : Int)), (83, .int .i64 sg)] ∧ Le S26 S39 ∧ St w0 [] S0 S39 [.box b20 #[.int .i64 o_1.Kind, .int .u32 o_1.From, .int .u32 o_1.About, v9, v11, v13, .int .u64 o_1.Rate, .int .i64 o_1.Type_, .int .i64 o_1.Count, v15] 33, .box b17 #[.int .i64 G_0.Kind, .int .u32 G_0.From, .int .u32 G_0.About, v1, v3, v5, .int .u64 G_0.Rate, .int .i64 G_0.Type_, .int .i64 G_0.Count, v7] 33] w) 0 fl31 hfl32 ⟨S26, rfl, Le.refl _, hs⟩ ?_)
    rintro q38 fl41 K46 w45 hb42 ⟨S39, rfl, le40, hs⟩ hl43
    have h44 : limelightref6_Same_l0 G_0 o_1 q38 = some fl41 := hb42
    unfold limelightref6_Same_l0 at h44
    refine Cd.sr ?_
    refine Rg.vN (X.lss rfl rfl) rfl ?_
    refine Rg.go ?_
    refine Cd.seq ?_
    refine Cd.cond (t := decide (q38 < (G_0.Numbers.length : Int))) rfl (fun hc47 => ?_) (fun hc47 => ?_)
    ·have h44 := ite_t hc47 h44
     refine Cd.sg ?_
     refine Cd.seq ?_
     refine Cd.block ?_
     refine Cd.sr ?_
     refine Rg.mv rfl rfl ?_
     refine Rg.st rfl rfl ?_
     refine Rg.go ?_
     refine Cd.seq ?_
     refine Cd.rD mixed (fun l w => Has S39 w ∧ Hp b20 #[.int .i64 o_1.Kind, .int .u32 o_1.From, .int .u32 o_1.About, v9, v11, v13, .int .u64 o_1.Rate, .int .i64 o_1.Type_, .int .i64 o_1.Count, v15] 33 w ∧ Hp b17 #[.int .i64 G_0.Kind, .int .u32 G_0.From, .int .u32 G_0.About, v1, v3, v5, .int .u64 G_0.Rate, .int .i64 G_0.Type_, .int .i64 G_0.Count, v7] 33 w) hs (fun _ _ _ _ _ h => h) (by kernel_rfl) (fun w48 hs => ⟨⟨hs.has, (hs.heap 0 rfl), (hs.heap 1 rfl)⟩, ?_⟩)
     refine Rk.tN 0 rfl rfl (fun _ _ => X.fieldB Try.underlying33 rfl zz23 rfl rfl) ?_
     refine Rk.tN 1 rfl rfl (fun w hc => X.load1 Try.underlying23 rfl rfl (heap_cell hc.2.2 rfl)) ?_
     refine Rk.tN 2 rfl rfl (fun _ _ => X.move rfl) ?_
     obtain ⟨x49, hx50, h44⟩ := bind_s h44
     obtain ⟨ad51, vals52, _, hR53, hE54, hX55⟩ := mk_index Try.underlying23 zz3 (by decide) (f6.mono (le28.trans le40)) hx50
     obtain rfl : vals52 = [.int .i64 x49] := hR53
     refine Rk.tN 3 rfl rfl (fun _ _ => hX55 rfl rfl) ?_
     refine Rk.tN 4 rfl rfl (fun w hc => X.load1 Try.underlying3 rfl rfl (hE54.at0 rfl hc.1)) ?_
     refine Rk.tN 5 rfl rfl (fun _ _ => X.fieldB Try.underlying33 rfl zz23 rfl rfl) ?_
     refine Rk.tN 6 rfl rfl (fun w hc => X.load1 Try.underlying23 rfl rfl (heap_cell hc.2.1 rfl)) ?_
     refine Rk.tN 7 rfl rfl (fun _ _ => X.move rfl) ?_
     obtain ⟨x56, hx57, h44⟩ := bind_s h44
     obtain ⟨ad58, vals59, _, hR60, hE61, hX62⟩ := mk_index Try.underlying23 zz3 (by decide) (f14.mono (le28.trans le40)) hx57
     obtain rfl : vals59 = [.int .i64 x56] := hR60
     refine Rk.tN 8 rfl rfl (fun _ _ => hX62 rfl rfl) ?_
     refine Rk.weak [(2, .pointer (some ⟨b17, 0, none⟩)), (3, .pointer (some ⟨b20, 0, none⟩)), (82, .int .i64 (G_0.Numbers.length : Int)), (83, .int .i64 q38), (90, .int .i64 x49), (94, .pointer (some ad58))] ⟨rfl, rfl, rfl, rfl, rfl, rfl, trivial⟩ ?_
     refine Rk.tN 9 rfl rfl (fun w hc => X.load1 Try.underlying3 rfl rfl (hE61.at0 rfl hc.1)) ?_
     refine Rk.tN 10 rfl rfl (fun _ _ => X.neq rfl rfl) ?_
     refine Rk.done ?_
     refine Cd.go ?_
     refine Cd.cond (t := x49 != x56) rfl (fun hc63 => ?_) (fun hc63 => ?_)
     ·have h44 := ite_t hc63 h44
      refine Cd.sr ?_
      refine Rg.st rfl rfl ?_
      refine Rg.go ?_
      refine Cd.ret ?_
      obtain rfl := some_s h44
      have e := hl43 (fun _ e => by cases e)
      subst e
      have h0 := el_ret h0
      obtain rfl := some_s h0
      exact fun a ha => Cd.retA (R := Re (Po18 S0 w0 [] _)) ha Try.results18 ⟨_, _, rfl, rfl, rfl⟩ ⟨_, rfl, S39, rfl, (hs.pick [] (by decide) rfl)⟩
     ·have h44 := ite_f hc63 h44
      refine Cd.skip ?_
      refine Cd.go ?_
      refine Cd.region ?_
      refine Rg.vN (X.add rfl rfl) rfl ?_
      refine Rg.mv rfl rfl ?_
      refine Rg.nil ?_
      exact fun a ha => ⟨add .i64 q38 1, [(2, .pointer (some ⟨b17, 0, none⟩)), (3, .pointer (some ⟨b20, 0, none⟩)), (82, .int .i64 (G_0.Numbers.length : Int)), (83, .int .i64 (add .i64 q38 1))], (some_s h44).symm, ha.weak ⟨rfl, rfl, rfl, rfl, trivial⟩, S39, rfl, le40, hs⟩
    ·have h44 := ite_f hc47 h44
     refine Cd.exit ?_
     obtain rfl := some_s h44
     have e := hl43 (fun _ e => by cases e)
     exact fun a ha => ⟨[], ha.weak trivial, _, S39, rfl, e.symm, le40, (hs.pick [] (by decide) rfl)⟩
 ·skip
  refine Cd.region ?_
  refine Rg.vN (X.fieldB Try.underlying33 rfl zz3 rfl rfl) rfl ?_
  refine Rg.vN (X.load1 Try.underlying3 rfl rfl (hs.cell 1 rfl 0 rfl)) rfl ?_
  refine Rg.vN (X.fieldB Try.underlying33 rfl zz3 rfl rfl) rfl ?_
  refine Rg.vN (X.load1 Try.underlying3 rfl rfl (hs.cell 0 rfl 0 rfl)) rfl ?_
  refine Rg.vN (X.neq rfl rfl) rfl ?_
  refine Rg.mv rfl rfl ?_
  refine Rg.vF rfl rfl rfl (fun hW => X.fieldB Try.underlying33 rfl zz27 rfl rfl) ?_
  refine Rg.vF rfl rfl rfl (fun hW => X.load1 Try.underlying27 rfl (ev_g rfl hW) (hs.cell 1 rfl 1 rfl)) ?_
  refine Rg.vF rfl rfl rfl (fun hW => X.fieldB Try.underlying33 rfl zz27 rfl rfl) ?_
  refine Rg.vF rfl rfl rfl (fun hW => X.load1 Try.underlying27 rfl (ev_g rfl hW) (hs.cell 0 rfl 1 rfl)) ?_
  refine Rg.vF rfl rfl rfl (fun hW => X.neq (ev_g rfl hW) (ev_g rfl hW)) ?_
  refine Rg.vN (X.pickOr rfl rfl rfl) rfl ?_
  refine Rg.mv rfl rfl ?_
  refine Rg.vF rfl rfl rfl (fun hW => X.fieldB Try.underlying33 rfl zz27 rfl rfl) ?_
  refine Rg.weak [(2, .pointer (some ⟨b17, 0, none⟩)), (3, .pointer (some ⟨b20, 0, none⟩)), (18, .bool ((G_0.Kind != o_1.Kind) || (G_0.From != o_1.From))), (19, gv (!((G_0.Kind != o_1.Kind) || (G_0.From != o_1.From))) (.pointer (some ⟨b17, 2, none⟩)))] ⟨rfl, rfl, rfl, rfl, trivial⟩ ?_
  refine Rg.vF rfl rfl rfl (fun hW => X.load1 Try.underlying27 rfl (ev_g rfl hW) (hs.cell 1 rfl 2 rfl)) ?_
  refine Rg.vF rfl rfl rfl (fun hW => X.fieldB Try.underlying33 rfl zz27 rfl rfl) ?_
  refine Rg.vF rfl rfl rfl (fun hW => X.load1 Try.underlying27 rfl (ev_g rfl hW) (hs.cell 0 rfl 2 rfl)) ?_
  refine Rg.vF rfl rfl rfl (fun hW => X.neq (ev_g rfl hW) (ev_g rfl hW)) ?_
  refine Rg.vN (X.pickOr rfl rfl rfl) rfl ?_
  refine Rg.mv rfl rfl ?_
  refine Rg.vF rfl rfl rfl (fun hW => X.fieldB Try.underlying33 rfl zz30 rfl rfl) ?_
  refine Rg.vF rfl rfl rfl (fun hW => X.load1 Try.underlying30 rfl (ev_g rfl hW) (hs.cell 1 rfl 6 rfl)) ?_
  refine Rg.vF rfl rfl rfl (fun hW => X.fieldB Try.underlying33 rfl zz30 rfl rfl) ?_
  refine Rg.vF rfl rfl rfl (fun hW => X.load1 Try.underlying30 rfl (ev_g rfl hW) (hs.cell 0 rfl 6 rfl)) ?_
  refine Rg.vF rfl rfl rfl (fun hW => X.neq (ev_g rfl hW) (ev_g rfl hW)) ?_
  refine Rg.weak [(2, .pointer (some ⟨b17, 0, none⟩)), (3, .pointer (some ⟨b20, 0, none⟩)), (25, .bool (((G_0.Kind != o_1.Kind) || (G_0.From != o_1.From)) || (G_0.About != o_1.About))), (30, gv (!(((G_0.Kind != o_1.Kind) || (G_0.From != o_1.From)) || (G_0.About != o_1.About))) (.bool (G_0.Rate != o_1.Rate)))] ⟨rfl, rfl, rfl, rfl, trivial⟩ ?_
  refine Rg.vN (X.pickOr rfl rfl rfl) rfl ?_
  refine Rg.mv rfl rfl ?_
  refine Rg.vF rfl rfl rfl (fun hW => X.fieldB Try.underlying33 rfl zz3 rfl rfl) ?_
  refine Rg.vF rfl rfl rfl (fun hW => X.load1 Try.underlying3 rfl (ev_g rfl hW) (hs.cell 1 rfl 7 rfl)) ?_
  refine Rg.vF rfl rfl rfl (fun hW => X.fieldB Try.underlying33 rfl zz3 rfl rfl) ?_
  refine Rg.vF rfl rfl rfl (fun hW => X.load1 Try.underlying3 rfl (ev_g rfl hW) (hs.cell 0 rfl 7 rfl)) ?_
  refine Rg.vF rfl rfl rfl (fun hW => X.neq (ev_g rfl hW) (ev_g rfl hW)) ?_
  refine Rg.vN (X.pickOr rfl rfl rfl) rfl ?_
  refine Rg.mv rfl rfl ?_
  refine Rg.vF rfl rfl rfl (fun hW => X.fieldB Try.underlying33 rfl zz3 rfl rfl) ?_
  refine Rg.vF rfl rfl rfl (fun hW => X.load1 Try.underlying3 rfl (ev_g rfl hW) (hs.cell 1 rfl 8 rfl)) ?_
  refine Rg.weak [(2, .pointer (some ⟨b17, 0, none⟩)), (3, .pointer (some ⟨b20, 0, none⟩)), (39, .bool (((((G_0.Kind != o_1.Kind) || (G_0.From != o_1.From)) || (G_0.About != o_1.About)) || (G_0.Rate != o_1.Rate)) || (G_0.Type_ != o_1.Type_))), (41, gv (!(((((G_0.Kind != o_1.Kind) || (G_0.From != o_1.From)) || (G_0.About != o_1.About)) || (G_0.Rate != o_1.Rate)) || (G_0.Type_ != o_1.Type_))) (.int .i64 G_0.Count))] ⟨rfl, rfl, rfl, rfl, trivial⟩ ?_
  refine Rg.vF rfl rfl rfl (fun hW => X.fieldB Try.underlying33 rfl zz3 rfl rfl) ?_
  refine Rg.vF rfl rfl rfl (fun hW => X.load1 Try.underlying3 rfl (ev_g rfl hW) (hs.cell 0 rfl 8 rfl)) ?_
  refine Rg.vF rfl rfl rfl (fun hW => X.neq (ev_g rfl hW) (ev_g rfl hW)) ?_
  refine Rg.vN (X.pickOr rfl rfl rfl) rfl ?_
  refine Rg.mv rfl rfl ?_
  refine Rg.vF rfl rfl rfl (fun hW => X.fieldB Try.underlying33 rfl zz31 rfl rfl) ?_
  refine Rg.vF rfl rfl rfl (fun hW => X.load1 Try.underlying31 rfl (ev_g rfl hW) (hs.cell 1 rfl 9 rfl)) ?_
  refine Rg.vF rfl rfl rfl (fun hW => X.str hs.has Try.underlying31 Try.underlying5 Try.underlying9 f8 (ev_g rfl hW)) ?_
  refine Rg.vF rfl rfl rfl (fun hW => X.fieldB Try.underlying33 rfl zz31 rfl rfl) ?_
  refine Rg.vF rfl rfl rfl (fun hW => X.load1 Try.underlying31 rfl (ev_g rfl hW) (hs.cell 0 rfl 9 rfl)) ?_
  refine Rg.vF rfl rfl rfl (fun hW => X.str hs.has Try.underlying31 Try.underlying5 Try.underlying9 f16 (ev_g rfl hW)) ?_
  refine Rg.weak [(2, .pointer (some ⟨b17, 0, none⟩)), (3, .pointer (some ⟨b20, 0, none⟩)), (46, .bool ((((((G_0.Kind != o_1.Kind) || (G_0.From != o_1.From)) || (G_0.About != o_1.About)) || (G_0.Rate != o_1.Rate)) || (G_0.Type_ != o_1.Type_)) || (G_0.Count != o_1.Count))), (49, gv (!((((((G_0.Kind != o_1.Kind) || (G_0.From != o_1.From)) || (G_0.About != o_1.About)) || (G_0.Rate != o_1.Rate)) || (G_0.Type_ != o_1.Type_)) || (G_0.Count != o_1.Count))) (.string (strOfNums G_0.Body))), (52, gv (!((((((G_0.Kind != o_1.Kind) || (G_0.From != o_1.From)) || (G_0.About != o_1.About)) || (G_0.Rate != o_1.Rate)) || (G_0.Type_ != o_1.Type_)) || (G_0.Count != o_1.Count))) (.string (strOfNums o_1.Body)))] ⟨rfl, rfl, rfl, rfl, rfl, trivial⟩ ?_
  refine Rg.vF rfl rfl rfl (fun hW => X.neqS (ev_g rfl hW) (ev_g rfl hW)) ?_
  refine Rg.vN (X.pickOr rfl rfl rfl) rfl ?_
  refine Rg.mv rfl rfl ?_
  refine Rg.vF rfl rfl rfl (fun hW => X.fieldB Try.underlying33 rfl zz29 rfl rfl) ?_
  refine Rg.vF rfl rfl rfl (fun hW => X.load1 Try.underlying29 rfl (ev_g rfl hW) (hs.cell 1 rfl 4 rfl)) ?_
  refine Rg.vF rfl rfl rfl (fun hW => X.fieldB Try.underlying33 rfl zz29 rfl rfl) ?_
  refine Rg.vF rfl rfl rfl (fun hW => X.load1 Try.underlying29 rfl (ev_g rfl hW) (hs.cell 0 rfl 4 rfl)) ?_
  refine Rg.split (c := ((((((G_0.Kind != o_1.Kind) || (G_0.From != o_1.From)) || (G_0.About != o_1.About)) || (G_0.Rate != o_1.Rate)) || (G_0.Type_ != o_1.Type_)) || (G_0.Count != o_1.Count)) || (!((strOfNums G_0.Body).toList == (strOfNums o_1.Body).toList))) (tj := 55) rfl (fun hc67 => ?_) (fun hc67 => ?_)
  ·have hp25 := ite_t hc67 hp25
   refine Rg.weak [(2, .pointer (some ⟨b17, 0, none⟩)), (3, .pointer (some ⟨b20, 0, none⟩)), (55, .bool true), (57, undef), (59, undef)] ⟨rfl, rfl, rfl, get_u rfl (nn hc67), get_u rfl (nn hc67), trivial⟩ ?_
   refine Rg.vO rfl rfl rfl rfl ?_
   refine Rg.vO rfl rfl rfl rfl ?_
   refine Rg.vN (X.pickT rfl rfl) rfl ?_
   refine Rg.mv rfl rfl ?_
   refine Rg.vO rfl rfl rfl rfl ?_
   refine Rg.vO rfl rfl rfl rfl ?_
   refine Rg.vO rfl rfl rfl rfl ?_
   refine Rg.vO rfl rfl rfl rfl ?_
   refine Rg.vO rfl rfl rfl rfl ?_
   refine Rg.vO rfl rfl rfl rfl ?_
   refine Rg.vN (X.pickT rfl rfl) rfl ?_
   refine Rg.mv rfl rfl ?_
   refine Rg.vO rfl rfl rfl rfl ?_
   refine Rg.vO rfl rfl rfl rfl ?_
   refine Rg.vO rfl rfl rfl rfl ?_
   refine Rg.vO rfl rfl rfl rfl ?_
   refine Rg.vO rfl rfl rfl rfl ?_
   refine Rg.vO rfl rfl rfl rfl ?_
   refine Rg.vO rfl rfl rfl rfl ?_
   refine Rg.vN (X.pickT rfl rfl) rfl ?_
   refine Rg.nil ?_
   obtain rfl := some_s hp25
   exact fun a ha => ⟨[(2, .pointer (some ⟨b17, 0, none⟩)), (3, .pointer (some ⟨b20, 0, none⟩)), (79, .bool true)], ha.weak ⟨rfl, rfl, rfl, trivial⟩, S0, rfl, Le.refl _, hs⟩
  ·have hp25 := ite_f hc67 hp25
   refine Rg.weak [(2, .pointer (some ⟨b17, 0, none⟩)), (3, .pointer (some ⟨b20, 0, none⟩)), (55, .bool false), (57, v3), (59, v11)] ⟨rfl, rfl, rfl, get_g rfl (not_f hc67), get_g rfl (not_f hc67), trivial⟩ ?_
   refine Rg.gon rfl rfl rfl ?_
   obtain ⟨x68, hx69, hp25⟩ := bind_s hp25
   refine Rg.step rfl (Oq.call Try.call40 rfl rfl (c40 S0 (St.start _ _ hs.has) _ _ f4 _ _ f12 _ hx69) (fun v70 w71 h72 => ?_))
   obtain ⟨S73, rfl, hs74⟩ := h72
   have le75 := hs74.le
   have hs := hs.call0 hs74
   refine Rg.gon rfl rfl rfl ?_
   refine Rg.vN (X.not rfl) rfl ?_
   refine Rg.vN (X.pickF rfl rfl) rfl ?_
   refine Rg.mv rfl rfl ?_
   refine Rg.vF rfl rfl rfl (fun hW => X.fieldB Try.underlying33 rfl zz28 rfl rfl) ?_
   refine Rg.vF rfl rfl rfl (fun hW => X.load1 Try.underlying28 rfl (ev_g rfl hW) (hs.cell 1 rfl 3 rfl)) ?_
   refine Rg.vF rfl rfl rfl (fun hW => X.fieldB Try.underlying33 rfl zz28 rfl rfl) ?_
   refine Rg.vF rfl rfl rfl (fun hW => X.load1 Try.underlying28 rfl (ev_g rfl hW) (hs.cell 0 rfl 3 rfl)) ?_
   refine Rg.split (c := !x68) (tj := 63) rfl (fun hc76 => ?_) (fun hc76 => ?_)
   ·have hp25 := ite_t hc76 hp25
    refine Rg.weak [(2, .pointer (some ⟨b17, 0, none⟩)), (3, .pointer (some ⟨b20, 0, none⟩)), (63, .bool true), (65, undef), (67, undef)] ⟨rfl, rfl, rfl, get_u rfl (nn hc76), get_u rfl (nn hc76), trivial⟩ ?_
    refine Rg.vO rfl rfl rfl rfl ?_
    refine Rg.vO rfl rfl rfl rfl ?_
    refine Rg.vN (X.pickT rfl rfl) rfl ?_
    refine Rg.mv rfl rfl ?_
    refine Rg.vO rfl rfl rfl rfl ?_
    refine Rg.vO rfl rfl rfl rfl ?_
    refine Rg.vO rfl rfl rfl rfl ?_
    refine Rg.vO rfl rfl rfl rfl ?_
    refine Rg.vO rfl rfl rfl rfl ?_
    refine Rg.vO rfl rfl rfl rfl ?_
    refine Rg.vO rfl rfl rfl rfl ?_
    refine Rg.vN (X.pickT rfl rfl) rfl ?_
    refine Rg.nil ?_
    obtain rfl := some_s hp25
    exact fun a ha => ⟨[(2, .pointer (some ⟨b17, 0, none⟩)), (3, .pointer (some ⟨b20, 0, none⟩)), (79, .bool true)], ha.weak ⟨rfl, rfl, rfl, trivial⟩, S73, rfl, le75, hs⟩
   ·have hp25 := ite_f hc76 hp25
    refine Rg.weak [(2, .pointer (some ⟨b17, 0, none⟩)), (3, .pointer (some ⟨b20, 0, none⟩)), (63, .bool false), (65, v1), (67, v9)] ⟨rfl, rfl, rfl, get_g rfl (not_f hc76), get_g rfl (not_f hc76), trivial⟩ ?_
    refine Rg.gon rfl rfl rfl ?_
    obtain ⟨x77, hx78, hp25⟩ := bind_s hp25
    refine Rg.step rfl (Oq.call Try.call26 rfl rfl (c26 S73 (St.start _ _ hs.has) _ _ (f2.mono le75) _ _ (f10.mono le75) _ hx78) (fun v79 w80 h81 => ?_))
    obtain ⟨S82, rfl, hs83⟩ := h81
    have le84 := hs83.le
    have hs := hs.call0 hs83
    refine Rg.gon rfl rfl rfl ?_
    refine Rg.vN (X.not rfl) rfl ?_
    refine Rg.vN (X.pickF rfl rfl) rfl ?_
    refine Rg.mv rfl rfl ?_
    refine Rg.vF rfl rfl rfl (fun hW => X.fieldB Try.underlying33 rfl zz23 rfl rfl) ?_
    refine Rg.vF rfl rfl rfl (fun hW => X.load1 Try.underlying23 rfl (ev_g rfl hW) (hs.cell 1 rfl 5 rfl)) ?_
    refine Rg.vF rfl rfl rfl (fun hW => X.lenR Try.underlying23 (ev_g rfl hW) (f6.mono (le75.trans le84))) ?_
    refine Rg.vF rfl rfl rfl (fun hW => X.fieldB Try.underlying33 rfl zz23 rfl rfl) ?_
    refine Rg.vF rfl rfl rfl (fun hW => X.load1 Try.underlying23 rfl (ev_g rfl hW) (hs.cell 0 rfl 5 rfl)) ?_
    refine Rg.vF rfl rfl rfl (fun hW => X.lenR Try.underlying23 (ev_g rfl hW) (f14.mono (le75.trans le84))) ?_
    refine Rg.vF rfl rfl rfl (fun hW => X.neq (ev_g rfl hW) (ev_g rfl hW)) ?_
    refine Rg.vN (X.pickOr rfl rfl rfl) rfl ?_
    refine Rg.nil ?_
    obtain rfl := some_s hp25
    exact fun a ha => ⟨[(2, .pointer (some ⟨b17, 0, none⟩)), (3, .pointer (some ⟨b20, 0, none⟩)), (79, .bool ((!x77) || ((G_0.Numbers.length : Int) != (o_1.Numbers.length : Int))))], ha.weak ⟨rfl, rfl, rfl, trivial⟩, S82, rfl, (le75.trans le84), hs⟩
noncomputable def limelightref6_All_l0 (a_0 : (List api_Report)) (b_1 : (List api_Report)) (q13 : Int) : Option (Flow Int Bool) :=
 if (decide (q13 < (a_0.length : Int))) = true then (
  ((
   ((
    (ix a_0 q13).bind fun x38 =>
    (ix b_1 q13).bind fun x53 =>
    (limelightref6_Same x38 x53).bind fun x68 =>
    some (!x68) : Option Bool)).bind fun p30 =>
   if p30 = true then (
    some (Flow.ret false))
   else (
    some (Flow.next ())) : Option (Flow Unit Bool))).bind fun p23 =>
  Flow.el p23 (fun s76 => (
   some (Flow.next (add .i64 q13 1))))
  (fun s77 => (
   none))
  (fun r78 => (
   some (Flow.ret r78))))
 else (
  some (Flow.brk q13))
noncomputable def limelightref6_All (a_0 : (List api_Report)) (b_1 : (List api_Report)) : Option Bool :=
 if ((a_0.length : Int) != (b_1.length : Int)) = true then (
  some false)
 else (
  (loopF (fun sg => limelightref6_All_l0 a_0 b_1 sg) 0).bind fun fl6 =>
  Flow.el fl6 (fun s79 => (
   none))
  (fun s80 => (
   some true))
  (fun r81 => (
   some r81)))
def Po21 (S0 : Mp) (w0 : World) (D : List Nat) (r : Bool) (v : Value) (w1 : World) : Prop :=
  ∃ (S1 : Mp), v = .bool r ∧ St w0 D S0 S1 [] w1
set_option maxHeartbeats 4000000 in
theorem c21 (S0 : Mp) {w0 : World} (hs : St w0 [] S0 S0 [] w0) (a_0 : (List api_Report)) (v1 : Value) (f2 : Rd S0 10 R_api_Report v1 a_0) (b_1 : (List api_Report)) (v3 : Value) (f4 : Rd S0 10 R_api_Report v3 b_1) (r : Bool) (h0 : limelightref6_All a_0 b_1 = some r) :
    Calls Try.prog 21 #[v1, v3] w0 (Re (Po21 S0 w0 [] r)) := by
 unfold limelightref6_All at h0
 refine calls_of_cd Try.func21 rfl Try.ntmps21 rfl ?_
 refine Cd.sr ?_
 refine Rg.st rfl rfl ?_
 refine Rg.go ?_
 refine Cd.seq ?_
 refine Cd.sr ?_
 refine Rg.mv rfl rfl ?_
 refine Rg.vN (X.lenR Try.underlying36 rfl f2) rfl ?_
 refine Rg.mv rfl rfl ?_
 refine Rg.vN (X.lenR Try.underlying36 rfl f4) rfl ?_
 refine Rg.vN (X.neq rfl rfl) rfl ?_
 refine Rg.go ?_
 refine Cd.cond (t := (a_0.length : Int) != (b_1.length : Int)) rfl (fun hc5 => ?_) (fun hc5 => ?_)
 ·have h0 := ite_t hc5 h0
  refine Cd.sr ?_
  refine Rg.st rfl rfl ?_
  refine Rg.go ?_
  refine Cd.ret ?_
  obtain rfl := some_s h0
  exact fun a ha => Cd.retA (R := Re (Po21 S0 w0 [] _)) ha Try.results21 ⟨_, _, rfl, rfl, rfl⟩ ⟨_, rfl, S0, rfl, hs⟩
 ·have h0 := ite_f hc5 h0
  refine Cd.sg ?_
  refine Cd.seq ?_
  refine Cd.sr ?_
  refine Rg.mv rfl rfl ?_
  refine Rg.vN (X.lenR Try.underlying36 rfl f2) rfl ?_
  refine Rg.mv rfl rfl ?_
  refine Rg.go ?_
  obtain ⟨fl6, hfl7, h0⟩ := bind_s h0
  refine Cd.post (fun K w => ∃ (j8 : Int) (S9 : Mp), K = [] ∧ fl6 = Flow.brk j8 ∧ Le S0 S9 ∧ St w0 [] S0 S9 [] w) ?_ ?_
  ·rintro K12 w11 ⟨j8, S9, rfl, rfl, le10, hs⟩
   have h0 := el_brk h0
   try dsimp only at h0
   refine Cd.go ?_
   refine Cd.sr ?_
   refine Rg.st rfl rfl ?_
   refine Rg.go ?_
   refine Cd.ret ?_
   obtain rfl := some_s h0
   exact fun a ha => Cd.retA (R := Re (Po21 S0 w0 [] _)) ha Try.results21 ⟨_, _, rfl, rfl, rfl⟩ ⟨_, rfl, S9, rfl, hs⟩
  ·skip
   refine Cd.weak [(0, v1), (1, v3), (12, .int .i64 (a_0.length : Int)), (13, .int .i64 0)] ⟨rfl, rfl, rfl, rfl, trivial⟩ ?_
   refine Cd.block (Cd.loop (fun sg => limelightref6_All_l0 a_0 b_1 sg) (fun (sg : Int) K w => ∃ (S14 : Mp), K = [(0, v1), (1, v3), (12, .int .i64 (a_0.length : Int)), (13, .int .i64 sg)] ∧ Le S0 S14 ∧ St w0 [] S0 S14 [] w) 0 fl6 hfl7 ⟨S0, rfl, Le.refl _, hs⟩ ?_)
   rintro q13 fl16 K21 w20 hb17 ⟨S14, rfl, le15, hs⟩ hl18
   have h19 : limelightref6_All_l0 a_0 b_1 q13 = some fl16 := hb17
   unfold limelightref6_All_l0 at h19
   refine Cd.sr ?_
   refine Rg.vN (X.lss rfl rfl) rfl ?_
   refine Rg.go ?_
   refine Cd.seq ?_
   refine Cd.cond (t := decide (q13 < (a_0.length : Int))) rfl (fun hc22 => ?_) (fun hc22 => ?_)
   ·have h19 := ite_t hc22 h19
    refine Cd.sg ?_
    refine Cd.seq ?_
    obtain ⟨p23, hp24, h19⟩ := bind_s h19
    refine Cd.post (fun K w => ∃ (S25 : Mp), K = [(0, v1), (1, v3), (12, .int .i64 (a_0.length : Int)), (13, .int .i64 q13)] ∧ p23 = Flow.next () ∧ Le S14 S25 ∧ St w0 [] S0 S25 [] w) ?_ ?_
    ·rintro K28 w26 ⟨S25, rfl, rfl, le27, hs⟩
     have h19 := el_next h19
     try dsimp only at h19
     refine Cd.go ?_
     refine Cd.region ?_
     refine Rg.vN (X.add rfl rfl) rfl ?_
     refine Rg.mv rfl rfl ?_
     refine Rg.nil ?_
     exact fun a ha => ⟨add .i64 q13 1, [(0, v1), (1, v3), (12, .int .i64 (a_0.length : Int)), (13, .int .i64 (add .i64 q13 1))], (some_s h19).symm, ha.weak ⟨rfl, rfl, rfl, rfl, trivial⟩, S25, rfl, (le15.trans le27), hs⟩
    ·skip
     refine Cd.block ?_
     refine Cd.sr ?_
     refine Rg.mv rfl rfl ?_
     refine Rg.st rfl rfl ?_
     refine Rg.go ?_
     refine Cd.seq ?_
     obtain ⟨p30, hp31, hp24⟩ := bind_s hp24
     refine Cd.post (fun K w => ∃ (S32 : Mp), K = [(0, v1), (1, v3), (12, .int .i64 (a_0.length : Int)), (13, .int .i64 q13), (25, .bool p30)] ∧ Le S14 S32 ∧ St w0 [] S0 S32 [] w) ?_ ?_
     ·rintro K35 w33 ⟨S32, rfl, le34, hs⟩
      refine Cd.go ?_
      refine Cd.cond (t := p30) rfl (fun hc36 => ?_) (fun hc36 => ?_)
      ·have hp24 := ite_t hc36 hp24
       refine Cd.sr ?_
       refine Rg.st rfl rfl ?_
       refine Rg.go ?_
       refine Cd.ret ?_
       obtain rfl := some_s hp24
       have h19 := el_ret h19
       obtain rfl := some_s h19
       have e := hl18 (fun _ e => by cases e)
       subst e
       have h0 := el_ret h0
       obtain rfl := some_s h0
       exact fun a ha => Cd.retA (R := Re (Po21 S0 w0 [] _)) ha Try.results21 ⟨_, _, rfl, rfl, rfl⟩ ⟨_, rfl, S32, rfl, hs⟩
      ·have hp24 := ite_f hc36 hp24
       refine Cd.skip ?_
       obtain rfl := some_s hp24
       exact fun a ha => ⟨[(0, v1), (1, v3), (12, .int .i64 (a_0.length : Int)), (13, .int .i64 q13)], ha.weak ⟨rfl, rfl, rfl, rfl, trivial⟩, S32, rfl, rfl, le34, hs⟩
     ·skip
      refine Cd.rD mixed (fun l w => Has S14 w) hs (fun _ _ _ _ _ h => h) (by kernel_rfl) (fun w37 hs => ⟨hs.has, ?_⟩)
      refine Rk.tN 0 rfl rfl (fun _ _ => X.move rfl) ?_
      refine Rk.tN 1 rfl rfl (fun _ _ => X.move rfl) ?_
      obtain ⟨x38, hx39, hp31⟩ := bind_s hp31
      obtain ⟨ad40, vals41, _, hR42, hE43, hX44⟩ := mk_index Try.underlying36 zz33 (by decide) (f2.mono le15) hx39
      unfold R_api_Report at hR42
      obtain ⟨v45, v47, v49, v51, rfl, f46, f48, f50, f52⟩ := hR42
      refine Rk.tN 2 rfl rfl (fun _ _ => hX44 rfl rfl) ?_
      refine Rk.tN 3 rfl rfl (fun w hc => X.loadE (vals := [.int .i64 x38.Kind, .int .u32 x38.From, .int .u32 x38.About, v45, v47, v49, .int .u64 x38.Rate, .int .i64 x38.Type_, .int .i64 x38.Count, v51]) hc Try.underlying33 rfl zz33 rfl hE43) ?_
      refine Rk.tN 4 rfl rfl (fun _ _ => X.move rfl) ?_
      refine Rk.tN 5 rfl rfl (fun _ _ => X.move rfl) ?_
      refine Rk.weak [(0, v1), (1, v3), (12, .int .i64 (a_0.length : Int)), (13, .int .i64 q13), (19, .agg (#[.int .i64 x38.Kind, .int .u32 x38.From, .int .u32 x38.About, v45, v47, v49, .int .u64 x38.Rate, .int .i64 x38.Type_, .int .i64 x38.Count, v51])), (20, v3), (21, .int .i64 q13)] ⟨rfl, rfl, rfl, rfl, rfl, rfl, rfl, trivial⟩ ?_
      obtain ⟨x53, hx54, hp31⟩ := bind_s hp31
      obtain ⟨ad55, vals56, _, hR57, hE58, hX59⟩ := mk_index Try.underlying36 zz33 (by decide) (f4.mono le15) hx54
      unfold R_api_Report at hR57
      obtain ⟨v60, v62, v64, v66, rfl, f61, f63, f65, f67⟩ := hR57
      refine Rk.tN 6 rfl rfl (fun _ _ => hX59 rfl rfl) ?_
      refine Rk.tN 7 rfl rfl (fun w hc => X.loadE (vals := [.int .i64 x53.Kind, .int .u32 x53.From, .int .u32 x53.About, v60, v62, v64, .int .u64 x53.Rate, .int .i64 x53.Type_, .int .i64 x53.Count, v66]) hc Try.underlying33 rfl zz33 rfl hE58) ?_
      obtain ⟨x68, hx69, hp31⟩ := bind_s hp31
      refine Rk.eN 8 rfl rfl (Oq.call Try.call18 rfl rfl (c18 S14 (St.start _ _ hs.has) x38 _ f46 _ f48 _ f50 _ f52 x53 _ f61 _ f63 _ f65 _ f67 _ hx69) (fun v70 w71 h72 => ?_))
      obtain ⟨S73, rfl, hs74⟩ := h72
      have le75 := hs74.le
      have hs := hs.call0 hs74
      refine ⟨(hs.has.down le75), Rk.mk (C' := fun l w => Has S73 w) hs.has (fun l w hc => hc.down le75) ?_⟩
      refine Rk.tN 9 rfl rfl (fun _ _ => X.not rfl) ?_
      refine Rk.done ?_
      obtain rfl := some_s hp31
      exact fun a ha => ⟨[(0, v1), (1, v3), (12, .int .i64 (a_0.length : Int)), (13, .int .i64 q13), (25, .bool (!x68))], ha.weak ⟨rfl, rfl, rfl, rfl, rfl, trivial⟩, S73, rfl, le75, hs⟩
   ·have h19 := ite_f hc22 h19
    refine Cd.exit ?_
    obtain rfl := some_s h19
    have e := hl18 (fun _ e => by cases e)
    exact fun a ha => ⟨[], ha.weak trivial, _, S14, rfl, e.symm, le15, hs⟩
noncomputable def slices_Equal_api_Tuple_l0 (s1_0 : (List api_Tuple)) (s2_1 : (List api_Tuple)) (q13 : Int) : Option (Flow Int Bool) :=
 if (decide (q13 < (s1_0.length : Int))) = true then (
  (ix s1_0 q13).bind fun x24 =>
  (ix s2_1 q13).bind fun x31 =>
  if (!((x24.Owner == x31.Owner) && ((x24.Rate == x31.Rate) && ((x24.Over == x31.Over) && true)))) = true then (
   some (Flow.ret false))
  else (
   some (Flow.next (add .i64 q13 1))))
 else (
  some (Flow.brk q13))
noncomputable def slices_Equal_api_Tuple (s1_0 : (List api_Tuple)) (s2_1 : (List api_Tuple)) : Option Bool :=
 if ((s1_0.length : Int) != (s2_1.length : Int)) = true then (
  some false)
 else (
  (loopF (fun sg => slices_Equal_api_Tuple_l0 s1_0 s2_1 sg) 0).bind fun fl6 =>
  Flow.el fl6 (fun s39 => (
   none))
  (fun s40 => (
   some true))
  (fun r41 => (
   some r41)))
def Po36 (S0 : Mp) (w0 : World) (D : List Nat) (r : Bool) (v : Value) (w1 : World) : Prop :=
  ∃ (S1 : Mp), v = .bool r ∧ St w0 D S0 S1 [] w1
set_option maxHeartbeats 4000000 in
theorem c36 (S0 : Mp) {w0 : World} (hs : St w0 [] S0 S0 [] w0) (s1_0 : (List api_Tuple)) (v1 : Value) (f2 : Rd S0 3 R_api_Tuple v1 s1_0) (s2_1 : (List api_Tuple)) (v3 : Value) (f4 : Rd S0 3 R_api_Tuple v3 s2_1) (r : Bool) (h0 : slices_Equal_api_Tuple s1_0 s2_1 = some r) :
    Calls Try.prog 36 #[v1, v3] w0 (Re (Po36 S0 w0 [] r)) := by
 unfold slices_Equal_api_Tuple at h0
 refine calls_of_cd Try.func36 rfl Try.ntmps36 rfl ?_
 refine Cd.sr ?_
 refine Rg.st rfl rfl ?_
 refine Rg.go ?_
 refine Cd.seq ?_
 refine Cd.sr ?_
 refine Rg.mv rfl rfl ?_
 refine Rg.vN (X.lenR Try.underlying28 rfl f2) rfl ?_
 refine Rg.mv rfl rfl ?_
 refine Rg.vN (X.lenR Try.underlying28 rfl f4) rfl ?_
 refine Rg.vN (X.neq rfl rfl) rfl ?_
 refine Rg.go ?_
 refine Cd.cond (t := (s1_0.length : Int) != (s2_1.length : Int)) rfl (fun hc5 => ?_) (fun hc5 => ?_)
 ·have h0 := ite_t hc5 h0
  refine Cd.sr ?_
  refine Rg.st rfl rfl ?_
  refine Rg.go ?_
  refine Cd.ret ?_
  obtain rfl := some_s h0
  exact fun a ha => Cd.retA (R := Re (Po36 S0 w0 [] _)) ha Try.results36 ⟨_, _, rfl, rfl, rfl⟩ ⟨_, rfl, S0, rfl, hs⟩
 ·have h0 := ite_f hc5 h0
  refine Cd.sg ?_
  refine Cd.seq ?_
  refine Cd.sr ?_
  refine Rg.mv rfl rfl ?_
  refine Rg.vN (X.lenR Try.underlying28 rfl f2) rfl ?_
  refine Rg.mv rfl rfl ?_
  refine Rg.go ?_
  obtain ⟨fl6, hfl7, h0⟩ := bind_s h0
  refine Cd.post (fun K w => ∃ (j8 : Int) (S9 : Mp), K = [] ∧ fl6 = Flow.brk j8 ∧ Le S0 S9 ∧ St w0 [] S0 S9 [] w) ?_ ?_
  ·rintro K12 w11 ⟨j8, S9, rfl, rfl, le10, hs⟩
   have h0 := el_brk h0
   try dsimp only at h0
   refine Cd.go ?_
   refine Cd.sr ?_
   refine Rg.st rfl rfl ?_
   refine Rg.go ?_
   refine Cd.ret ?_
   obtain rfl := some_s h0
   exact fun a ha => Cd.retA (R := Re (Po36 S0 w0 [] _)) ha Try.results36 ⟨_, _, rfl, rfl, rfl⟩ ⟨_, rfl, S9, rfl, hs⟩
  ·skip
   refine Cd.weak [(0, v1), (1, v3), (12, .int .i64 (s1_0.length : Int)), (13, .int .i64 0)] ⟨rfl, rfl, rfl, rfl, trivial⟩ ?_
   refine Cd.block (Cd.loop (fun sg => slices_Equal_api_Tuple_l0 s1_0 s2_1 sg) (fun (sg : Int) K w => ∃ (S14 : Mp), K = [(0, v1), (1, v3), (12, .int .i64 (s1_0.length : Int)), (13, .int .i64 sg)] ∧ Le S0 S14 ∧ St w0 [] S0 S14 [] w) 0 fl6 hfl7 ⟨S0, rfl, Le.refl _, hs⟩ ?_)
   rintro q13 fl16 K21 w20 hb17 ⟨S14, rfl, le15, hs⟩ hl18
   have h19 : slices_Equal_api_Tuple_l0 s1_0 s2_1 q13 = some fl16 := hb17
   unfold slices_Equal_api_Tuple_l0 at h19
   refine Cd.sr ?_
   refine Rg.vN (X.lss rfl rfl) rfl ?_
   refine Rg.go ?_
   refine Cd.seq ?_
   refine Cd.cond (t := decide (q13 < (s1_0.length : Int))) rfl (fun hc22 => ?_) (fun hc22 => ?_)
   ·have h19 := ite_t hc22 h19
    refine Cd.sg ?_
    refine Cd.seq ?_
    refine Cd.block ?_
    refine Cd.sr ?_
    refine Rg.mv rfl rfl ?_
    refine Rg.st rfl rfl ?_
    refine Rg.go ?_
    refine Cd.seq ?_
    refine Cd.rD mixed (fun l w => Has S14 w) hs (fun _ _ _ _ _ h => h) (by kernel_rfl) (fun w23 hs => ⟨hs.has, ?_⟩)
    refine Rk.tN 0 rfl rfl (fun _ _ => X.move rfl) ?_
    refine Rk.tN 1 rfl rfl (fun _ _ => X.move rfl) ?_
    obtain ⟨x24, hx25, h19⟩ := bind_s h19
    obtain ⟨ad26, vals27, _, hR28, hE29, hX30⟩ := mk_index Try.underlying28 zz57 (by decide) (f2.mono le15) hx25
    unfold R_api_Tuple at hR28
    subst hR28
    refine Rk.tN 2 rfl rfl (fun _ _ => hX30 rfl rfl) ?_
    refine Rk.tN 3 rfl rfl (fun w hc => X.loadE (vals := [.int .u32 x24.Owner, .int .u64 x24.Rate, .int .i64 x24.Over]) hc Try.underlying57 rfl zz57 rfl hE29) ?_
    refine Rk.tN 4 rfl rfl (fun _ _ => X.move rfl) ?_
    refine Rk.tN 5 rfl rfl (fun _ _ => X.move rfl) ?_
    refine Rk.weak [(0, v1), (1, v3), (12, .int .i64 (s1_0.length : Int)), (13, .int .i64 q13), (19, .agg (#[.int .u32 x24.Owner, .int .u64 x24.Rate, .int .i64 x24.Over])), (20, v3), (21, .int .i64 q13)] ⟨rfl, rfl, rfl, rfl, rfl, rfl, rfl, trivial⟩ ?_
    obtain ⟨x31, hx32, h19⟩ := bind_s h19
    obtain ⟨ad33, vals34, _, hR35, hE36, hX37⟩ := mk_index Try.underlying28 zz57 (by decide) (f4.mono le15) hx32
    unfold R_api_Tuple at hR35
    subst hR35
    refine Rk.tN 6 rfl rfl (fun _ _ => hX37 rfl rfl) ?_
    refine Rk.tN 7 rfl rfl (fun w hc => X.loadE (vals := [.int .u32 x31.Owner, .int .u64 x31.Rate, .int .i64 x31.Over]) hc Try.underlying57 rfl zz57 rfl hE36) ?_
    refine Rk.tN 8 rfl rfl (fun _ _ => X.neqA eqg57 (eqs57 _ _ _ _ _ _) rfl rfl) ?_
    refine Rk.done ?_
    refine Cd.go ?_
    refine Cd.cond (t := !((x24.Owner == x31.Owner) && ((x24.Rate == x31.Rate) && ((x24.Over == x31.Over) && true)))) rfl (fun hc38 => ?_) (fun hc38 => ?_)
    ·have h19 := ite_t hc38 h19
     refine Cd.sr ?_
     refine Rg.st rfl rfl ?_
     refine Rg.go ?_
     refine Cd.ret ?_
     obtain rfl := some_s h19
     have e := hl18 (fun _ e => by cases e)
     subst e
     have h0 := el_ret h0
     obtain rfl := some_s h0
     exact fun a ha => Cd.retA (R := Re (Po36 S0 w0 [] _)) ha Try.results36 ⟨_, _, rfl, rfl, rfl⟩ ⟨_, rfl, S14, rfl, hs⟩
    ·have h19 := ite_f hc38 h19
     refine Cd.skip ?_
     refine Cd.go ?_
     refine Cd.region ?_
     refine Rg.vN (X.add rfl rfl) rfl ?_
     refine Rg.mv rfl rfl ?_
     refine Rg.nil ?_
     exact fun a ha => ⟨add .i64 q13 1, [(0, v1), (1, v3), (12, .int .i64 (s1_0.length : Int)), (13, .int .i64 (add .i64 q13 1))], (some_s h19).symm, ha.weak ⟨rfl, rfl, rfl, rfl, trivial⟩, S14, rfl, le15, hs⟩
   ·have h19 := ite_f hc22 h19
    refine Cd.exit ?_
    obtain rfl := some_s h19
    have e := hl18 (fun _ e => by cases e)
    exact fun a ha => ⟨[], ha.weak trivial, _, S14, rfl, e.symm, le15, hs⟩
noncomputable def slices_Equal_uint32_l0 (s1_0 : (List Int)) (s2_1 : (List Int)) (q13 : Int) : Option (Flow Int Bool) :=
 if (decide (q13 < (s1_0.length : Int))) = true then (
  (ix s1_0 q13).bind fun x24 =>
  (ix s2_1 q13).bind fun x31 =>
  if (x24 != x31) = true then (
   some (Flow.ret false))
  else (
   some (Flow.next (add .i64 q13 1))))
 else (
  some (Flow.brk q13))
noncomputable def slices_Equal_uint32 (s1_0 : (List Int)) (s2_1 : (List Int)) : Option Bool :=
 if ((s1_0.length : Int) != (s2_1.length : Int)) = true then (
  some false)
 else (
  (loopF (fun sg => slices_Equal_uint32_l0 s1_0 s2_1 sg) 0).bind fun fl6 =>
  Flow.el fl6 (fun s39 => (
   none))
  (fun s40 => (
   some true))
  (fun r41 => (
   some r41)))
def Po37 (S0 : Mp) (w0 : World) (D : List Nat) (r : Bool) (v : Value) (w1 : World) : Prop :=
  ∃ (S1 : Mp), v = .bool r ∧ St w0 D S0 S1 [] w1
set_option maxHeartbeats 4000000 in
theorem c37 (S0 : Mp) {w0 : World} (hs : St w0 [] S0 S0 [] w0) (s1_0 : (List Int)) (v1 : Value) (f2 : Rd S0 1 (RI .u32) v1 s1_0) (s2_1 : (List Int)) (v3 : Value) (f4 : Rd S0 1 (RI .u32) v3 s2_1) (r : Bool) (h0 : slices_Equal_uint32 s1_0 s2_1 = some r) :
    Calls Try.prog 37 #[v1, v3] w0 (Re (Po37 S0 w0 [] r)) := by
 unfold slices_Equal_uint32 at h0
 refine calls_of_cd Try.func37 rfl Try.ntmps37 rfl ?_
 refine Cd.sr ?_
 refine Rg.st rfl rfl ?_
 refine Rg.go ?_
 refine Cd.seq ?_
 refine Cd.sr ?_
 refine Rg.mv rfl rfl ?_
 refine Rg.vN (X.lenR Try.underlying29 rfl f2) rfl ?_
 refine Rg.mv rfl rfl ?_
 refine Rg.vN (X.lenR Try.underlying29 rfl f4) rfl ?_
 refine Rg.vN (X.neq rfl rfl) rfl ?_
 refine Rg.go ?_
 refine Cd.cond (t := (s1_0.length : Int) != (s2_1.length : Int)) rfl (fun hc5 => ?_) (fun hc5 => ?_)
 ·have h0 := ite_t hc5 h0
  refine Cd.sr ?_
  refine Rg.st rfl rfl ?_
  refine Rg.go ?_
  refine Cd.ret ?_
  obtain rfl := some_s h0
  exact fun a ha => Cd.retA (R := Re (Po37 S0 w0 [] _)) ha Try.results37 ⟨_, _, rfl, rfl, rfl⟩ ⟨_, rfl, S0, rfl, hs⟩
 ·have h0 := ite_f hc5 h0
  refine Cd.sg ?_
  refine Cd.seq ?_
  refine Cd.sr ?_
  refine Rg.mv rfl rfl ?_
  refine Rg.vN (X.lenR Try.underlying29 rfl f2) rfl ?_
  refine Rg.mv rfl rfl ?_
  refine Rg.go ?_
  obtain ⟨fl6, hfl7, h0⟩ := bind_s h0
  refine Cd.post (fun K w => ∃ (j8 : Int) (S9 : Mp), K = [] ∧ fl6 = Flow.brk j8 ∧ Le S0 S9 ∧ St w0 [] S0 S9 [] w) ?_ ?_
  ·rintro K12 w11 ⟨j8, S9, rfl, rfl, le10, hs⟩
   have h0 := el_brk h0
   try dsimp only at h0
   refine Cd.go ?_
   refine Cd.sr ?_
   refine Rg.st rfl rfl ?_
   refine Rg.go ?_
   refine Cd.ret ?_
   obtain rfl := some_s h0
   exact fun a ha => Cd.retA (R := Re (Po37 S0 w0 [] _)) ha Try.results37 ⟨_, _, rfl, rfl, rfl⟩ ⟨_, rfl, S9, rfl, hs⟩
  ·skip
   refine Cd.weak [(0, v1), (1, v3), (12, .int .i64 (s1_0.length : Int)), (13, .int .i64 0)] ⟨rfl, rfl, rfl, rfl, trivial⟩ ?_
   refine Cd.block (Cd.loop (fun sg => slices_Equal_uint32_l0 s1_0 s2_1 sg) (fun (sg : Int) K w => ∃ (S14 : Mp), K = [(0, v1), (1, v3), (12, .int .i64 (s1_0.length : Int)), (13, .int .i64 sg)] ∧ Le S0 S14 ∧ St w0 [] S0 S14 [] w) 0 fl6 hfl7 ⟨S0, rfl, Le.refl _, hs⟩ ?_)
   rintro q13 fl16 K21 w20 hb17 ⟨S14, rfl, le15, hs⟩ hl18
   have h19 : slices_Equal_uint32_l0 s1_0 s2_1 q13 = some fl16 := hb17
   unfold slices_Equal_uint32_l0 at h19
   refine Cd.sr ?_
   refine Rg.vN (X.lss rfl rfl) rfl ?_
   refine Rg.go ?_
   refine Cd.seq ?_
   refine Cd.cond (t := decide (q13 < (s1_0.length : Int))) rfl (fun hc22 => ?_) (fun hc22 => ?_)
   ·have h19 := ite_t hc22 h19
    refine Cd.sg ?_
    refine Cd.seq ?_
    refine Cd.block ?_
    refine Cd.sr ?_
    refine Rg.mv rfl rfl ?_
    refine Rg.st rfl rfl ?_
    refine Rg.go ?_
    refine Cd.seq ?_
    refine Cd.rD mixed (fun l w => Has S14 w) hs (fun _ _ _ _ _ h => h) (by kernel_rfl) (fun w23 hs => ⟨hs.has, ?_⟩)
    refine Rk.tN 0 rfl rfl (fun _ _ => X.move rfl) ?_
    refine Rk.tN 1 rfl rfl (fun _ _ => X.move rfl) ?_
    obtain ⟨x24, hx25, h19⟩ := bind_s h19
    obtain ⟨ad26, vals27, _, hR28, hE29, hX30⟩ := mk_index Try.underlying29 zz27 (by decide) (f2.mono le15) hx25
    obtain rfl : vals27 = [.int .u32 x24] := hR28
    refine Rk.tN 2 rfl rfl (fun _ _ => hX30 rfl rfl) ?_
    refine Rk.tN 3 rfl rfl (fun w hc => X.load1 Try.underlying27 rfl rfl (hE29.at0 rfl hc)) ?_
    refine Rk.tN 4 rfl rfl (fun _ _ => X.move rfl) ?_
    refine Rk.tN 5 rfl rfl (fun _ _ => X.move rfl) ?_
    refine Rk.weak [(0, v1), (1, v3), (12, .int .i64 (s1_0.length : Int)), (13, .int .i64 q13), (19, .int .u32 x24), (20, v3), (21, .int .i64 q13)] ⟨rfl, rfl, rfl, rfl, rfl, rfl, rfl, trivial⟩ ?_
    obtain ⟨x31, hx32, h19⟩ := bind_s h19
    obtain ⟨ad33, vals34, _, hR35, hE36, hX37⟩ := mk_index Try.underlying29 zz27 (by decide) (f4.mono le15) hx32
    obtain rfl : vals34 = [.int .u32 x31] := hR35
    refine Rk.tN 6 rfl rfl (fun _ _ => hX37 rfl rfl) ?_
    refine Rk.tN 7 rfl rfl (fun w hc => X.load1 Try.underlying27 rfl rfl (hE36.at0 rfl hc)) ?_
    refine Rk.tN 8 rfl rfl (fun _ _ => X.neq rfl rfl) ?_
    refine Rk.done ?_
    refine Cd.go ?_
    refine Cd.cond (t := x24 != x31) rfl (fun hc38 => ?_) (fun hc38 => ?_)
    ·have h19 := ite_t hc38 h19
     refine Cd.sr ?_
     refine Rg.st rfl rfl ?_
     refine Rg.go ?_
     refine Cd.ret ?_
     obtain rfl := some_s h19
     have e := hl18 (fun _ e => by cases e)
     subst e
     have h0 := el_ret h0
     obtain rfl := some_s h0
     exact fun a ha => Cd.retA (R := Re (Po37 S0 w0 [] _)) ha Try.results37 ⟨_, _, rfl, rfl, rfl⟩ ⟨_, rfl, S14, rfl, hs⟩
    ·have h19 := ite_f hc38 h19
     refine Cd.skip ?_
     refine Cd.go ?_
     refine Cd.region ?_
     refine Rg.vN (X.add rfl rfl) rfl ?_
     refine Rg.mv rfl rfl ?_
     refine Rg.nil ?_
     exact fun a ha => ⟨add .i64 q13 1, [(0, v1), (1, v3), (12, .int .i64 (s1_0.length : Int)), (13, .int .i64 (add .i64 q13 1))], (some_s h19).symm, ha.weak ⟨rfl, rfl, rfl, rfl, trivial⟩, S14, rfl, le15, hs⟩
   ·have h19 := ite_f hc22 h19
    refine Cd.exit ?_
    obtain rfl := some_s h19
    have e := hl18 (fun _ e => by cases e)
    exact fun a ha => ⟨[], ha.weak trivial, _, S14, rfl, e.symm, le15, hs⟩
noncomputable def slices_Equal_int_l0 (s1_0 : (List Int)) (s2_1 : (List Int)) (q13 : Int) : Option (Flow Int Bool) :=
 if (decide (q13 < (s1_0.length : Int))) = true then (
  (ix s1_0 q13).bind fun x24 =>
  (ix s2_1 q13).bind fun x31 =>
  if (x24 != x31) = true then (
   some (Flow.ret false))
  else (
   some (Flow.next (add .i64 q13 1))))
 else (
  some (Flow.brk q13))
noncomputable def slices_Equal_int (s1_0 : (List Int)) (s2_1 : (List Int)) : Option Bool :=
 if ((s1_0.length : Int) != (s2_1.length : Int)) = true then (
  some false)
 else (
  (loopF (fun sg => slices_Equal_int_l0 s1_0 s2_1 sg) 0).bind fun fl6 =>
  Flow.el fl6 (fun s39 => (
   none))
  (fun s40 => (
   some true))
  (fun r41 => (
   some r41)))
def Po38 (S0 : Mp) (w0 : World) (D : List Nat) (r : Bool) (v : Value) (w1 : World) : Prop :=
  ∃ (S1 : Mp), v = .bool r ∧ St w0 D S0 S1 [] w1
set_option maxHeartbeats 4000000 in
theorem c38 (S0 : Mp) {w0 : World} (hs : St w0 [] S0 S0 [] w0) (s1_0 : (List Int)) (v1 : Value) (f2 : Rd S0 1 (RI .i64) v1 s1_0) (s2_1 : (List Int)) (v3 : Value) (f4 : Rd S0 1 (RI .i64) v3 s2_1) (r : Bool) (h0 : slices_Equal_int s1_0 s2_1 = some r) :
    Calls Try.prog 38 #[v1, v3] w0 (Re (Po38 S0 w0 [] r)) := by
 unfold slices_Equal_int at h0
 refine calls_of_cd Try.func38 rfl Try.ntmps38 rfl ?_
 refine Cd.sr ?_
 refine Rg.st rfl rfl ?_
 refine Rg.go ?_
 refine Cd.seq ?_
 refine Cd.sr ?_
 refine Rg.mv rfl rfl ?_
 refine Rg.vN (X.lenR Try.underlying23 rfl f2) rfl ?_
 refine Rg.mv rfl rfl ?_
 refine Rg.vN (X.lenR Try.underlying23 rfl f4) rfl ?_
 refine Rg.vN (X.neq rfl rfl) rfl ?_
 refine Rg.go ?_
 refine Cd.cond (t := (s1_0.length : Int) != (s2_1.length : Int)) rfl (fun hc5 => ?_) (fun hc5 => ?_)
 ·have h0 := ite_t hc5 h0
  refine Cd.sr ?_
  refine Rg.st rfl rfl ?_
  refine Rg.go ?_
  refine Cd.ret ?_
  obtain rfl := some_s h0
  exact fun a ha => Cd.retA (R := Re (Po38 S0 w0 [] _)) ha Try.results38 ⟨_, _, rfl, rfl, rfl⟩ ⟨_, rfl, S0, rfl, hs⟩
 ·have h0 := ite_f hc5 h0
  refine Cd.sg ?_
  refine Cd.seq ?_
  refine Cd.sr ?_
  refine Rg.mv rfl rfl ?_
  refine Rg.vN (X.lenR Try.underlying23 rfl f2) rfl ?_
  refine Rg.mv rfl rfl ?_
  refine Rg.go ?_
  obtain ⟨fl6, hfl7, h0⟩ := bind_s h0
  refine Cd.post (fun K w => ∃ (j8 : Int) (S9 : Mp), K = [] ∧ fl6 = Flow.brk j8 ∧ Le S0 S9 ∧ St w0 [] S0 S9 [] w) ?_ ?_
  ·rintro K12 w11 ⟨j8, S9, rfl, rfl, le10, hs⟩
   have h0 := el_brk h0
   try dsimp only at h0
   refine Cd.go ?_
   refine Cd.sr ?_
   refine Rg.st rfl rfl ?_
   refine Rg.go ?_
   refine Cd.ret ?_
   obtain rfl := some_s h0
   exact fun a ha => Cd.retA (R := Re (Po38 S0 w0 [] _)) ha Try.results38 ⟨_, _, rfl, rfl, rfl⟩ ⟨_, rfl, S9, rfl, hs⟩
  ·skip
   refine Cd.weak [(0, v1), (1, v3), (12, .int .i64 (s1_0.length : Int)), (13, .int .i64 0)] ⟨rfl, rfl, rfl, rfl, trivial⟩ ?_
   refine Cd.block (Cd.loop (fun sg => slices_Equal_int_l0 s1_0 s2_1 sg) (fun (sg : Int) K w => ∃ (S14 : Mp), K = [(0, v1), (1, v3), (12, .int .i64 (s1_0.length : Int)), (13, .int .i64 sg)] ∧ Le S0 S14 ∧ St w0 [] S0 S14 [] w) 0 fl6 hfl7 ⟨S0, rfl, Le.refl _, hs⟩ ?_)
   rintro q13 fl16 K21 w20 hb17 ⟨S14, rfl, le15, hs⟩ hl18
   have h19 : slices_Equal_int_l0 s1_0 s2_1 q13 = some fl16 := hb17
   unfold slices_Equal_int_l0 at h19
   refine Cd.sr ?_
   refine Rg.vN (X.lss rfl rfl) rfl ?_
   refine Rg.go ?_
   refine Cd.seq ?_
   refine Cd.cond (t := decide (q13 < (s1_0.length : Int))) rfl (fun hc22 => ?_) (fun hc22 => ?_)
   ·have h19 := ite_t hc22 h19
    refine Cd.sg ?_
    refine Cd.seq ?_
    refine Cd.block ?_
    refine Cd.sr ?_
    refine Rg.mv rfl rfl ?_
    refine Rg.st rfl rfl ?_
    refine Rg.go ?_
    refine Cd.seq ?_
    refine Cd.rD mixed (fun l w => Has S14 w) hs (fun _ _ _ _ _ h => h) (by kernel_rfl) (fun w23 hs => ⟨hs.has, ?_⟩)
    refine Rk.tN 0 rfl rfl (fun _ _ => X.move rfl) ?_
    refine Rk.tN 1 rfl rfl (fun _ _ => X.move rfl) ?_
    obtain ⟨x24, hx25, h19⟩ := bind_s h19
    obtain ⟨ad26, vals27, _, hR28, hE29, hX30⟩ := mk_index Try.underlying23 zz3 (by decide) (f2.mono le15) hx25
    obtain rfl : vals27 = [.int .i64 x24] := hR28
    refine Rk.tN 2 rfl rfl (fun _ _ => hX30 rfl rfl) ?_
    refine Rk.tN 3 rfl rfl (fun w hc => X.load1 Try.underlying3 rfl rfl (hE29.at0 rfl hc)) ?_
    refine Rk.tN 4 rfl rfl (fun _ _ => X.move rfl) ?_
    refine Rk.tN 5 rfl rfl (fun _ _ => X.move rfl) ?_
    refine Rk.weak [(0, v1), (1, v3), (12, .int .i64 (s1_0.length : Int)), (13, .int .i64 q13), (19, .int .i64 x24), (20, v3), (21, .int .i64 q13)] ⟨rfl, rfl, rfl, rfl, rfl, rfl, rfl, trivial⟩ ?_
    obtain ⟨x31, hx32, h19⟩ := bind_s h19
    obtain ⟨ad33, vals34, _, hR35, hE36, hX37⟩ := mk_index Try.underlying23 zz3 (by decide) (f4.mono le15) hx32
    obtain rfl : vals34 = [.int .i64 x31] := hR35
    refine Rk.tN 6 rfl rfl (fun _ _ => hX37 rfl rfl) ?_
    refine Rk.tN 7 rfl rfl (fun w hc => X.load1 Try.underlying3 rfl rfl (hE36.at0 rfl hc)) ?_
    refine Rk.tN 8 rfl rfl (fun _ _ => X.neq rfl rfl) ?_
    refine Rk.done ?_
    refine Cd.go ?_
    refine Cd.cond (t := x24 != x31) rfl (fun hc38 => ?_) (fun hc38 => ?_)
    ·have h19 := ite_t hc38 h19
     refine Cd.sr ?_
     refine Rg.st rfl rfl ?_
     refine Rg.go ?_
     refine Cd.ret ?_
     obtain rfl := some_s h19
     have e := hl18 (fun _ e => by cases e)
     subst e
     have h0 := el_ret h0
     obtain rfl := some_s h0
     exact fun a ha => Cd.retA (R := Re (Po38 S0 w0 [] _)) ha Try.results38 ⟨_, _, rfl, rfl, rfl⟩ ⟨_, rfl, S14, rfl, hs⟩
    ·have h19 := ite_f hc38 h19
     refine Cd.skip ?_
     refine Cd.go ?_
     refine Cd.region ?_
     refine Rg.vN (X.add rfl rfl) rfl ?_
     refine Rg.mv rfl rfl ?_
     refine Rg.nil ?_
     exact fun a ha => ⟨add .i64 q13 1, [(0, v1), (1, v3), (12, .int .i64 (s1_0.length : Int)), (13, .int .i64 (add .i64 q13 1))], (some_s h19).symm, ha.weak ⟨rfl, rfl, rfl, rfl, trivial⟩, S14, rfl, le15, hs⟩
   ·have h19 := ite_f hc22 h19
    refine Cd.exit ?_
    obtain rfl := some_s h19
    have e := hl18 (fun _ e => by cases e)
    exact fun a ha => ⟨[], ha.weak trivial, _, S14, rfl, e.symm, le15, hs⟩
noncomputable def slices_Equal_byte_l0 (s1_0 : (List Int)) (s2_1 : (List Int)) (q13 : Int) : Option (Flow Int Bool) :=
 if (decide (q13 < (s1_0.length : Int))) = true then (
  (ix s1_0 q13).bind fun x24 =>
  (ix s2_1 q13).bind fun x31 =>
  if (x24 != x31) = true then (
   some (Flow.ret false))
  else (
   some (Flow.next (add .i64 q13 1))))
 else (
  some (Flow.brk q13))
noncomputable def slices_Equal_byte (s1_0 : (List Int)) (s2_1 : (List Int)) : Option Bool :=
 if ((s1_0.length : Int) != (s2_1.length : Int)) = true then (
  some false)
 else (
  (loopF (fun sg => slices_Equal_byte_l0 s1_0 s2_1 sg) 0).bind fun fl6 =>
  Flow.el fl6 (fun s39 => (
   none))
  (fun s40 => (
   some true))
  (fun r41 => (
   some r41)))
def Po39 (S0 : Mp) (w0 : World) (D : List Nat) (r : Bool) (v : Value) (w1 : World) : Prop :=
  ∃ (S1 : Mp), v = .bool r ∧ St w0 D S0 S1 [] w1
set_option maxHeartbeats 4000000 in
theorem c39 (S0 : Mp) {w0 : World} (hs : St w0 [] S0 S0 [] w0) (s1_0 : (List Int)) (v1 : Value) (f2 : Rd S0 1 (RI .u8) v1 s1_0) (s2_1 : (List Int)) (v3 : Value) (f4 : Rd S0 1 (RI .u8) v3 s2_1) (r : Bool) (h0 : slices_Equal_byte s1_0 s2_1 = some r) :
    Calls Try.prog 39 #[v1, v3] w0 (Re (Po39 S0 w0 [] r)) := by
 unfold slices_Equal_byte at h0
 refine calls_of_cd Try.func39 rfl Try.ntmps39 rfl ?_
 refine Cd.sr ?_
 refine Rg.st rfl rfl ?_
 refine Rg.go ?_
 refine Cd.seq ?_
 refine Cd.sr ?_
 refine Rg.mv rfl rfl ?_
 refine Rg.vN (X.lenR Try.underlying31 rfl f2) rfl ?_
 refine Rg.mv rfl rfl ?_
 refine Rg.vN (X.lenR Try.underlying31 rfl f4) rfl ?_
 refine Rg.vN (X.neq rfl rfl) rfl ?_
 refine Rg.go ?_
 refine Cd.cond (t := (s1_0.length : Int) != (s2_1.length : Int)) rfl (fun hc5 => ?_) (fun hc5 => ?_)
 ·have h0 := ite_t hc5 h0
  refine Cd.sr ?_
  refine Rg.st rfl rfl ?_
  refine Rg.go ?_
  refine Cd.ret ?_
  obtain rfl := some_s h0
  exact fun a ha => Cd.retA (R := Re (Po39 S0 w0 [] _)) ha Try.results39 ⟨_, _, rfl, rfl, rfl⟩ ⟨_, rfl, S0, rfl, hs⟩
 ·have h0 := ite_f hc5 h0
  refine Cd.sg ?_
  refine Cd.seq ?_
  refine Cd.sr ?_
  refine Rg.mv rfl rfl ?_
  refine Rg.vN (X.lenR Try.underlying31 rfl f2) rfl ?_
  refine Rg.mv rfl rfl ?_
  refine Rg.go ?_
  obtain ⟨fl6, hfl7, h0⟩ := bind_s h0
  refine Cd.post (fun K w => ∃ (j8 : Int) (S9 : Mp), K = [] ∧ fl6 = Flow.brk j8 ∧ Le S0 S9 ∧ St w0 [] S0 S9 [] w) ?_ ?_
  ·rintro K12 w11 ⟨j8, S9, rfl, rfl, le10, hs⟩
   have h0 := el_brk h0
   try dsimp only at h0
   refine Cd.go ?_
   refine Cd.sr ?_
   refine Rg.st rfl rfl ?_
   refine Rg.go ?_
   refine Cd.ret ?_
   obtain rfl := some_s h0
   exact fun a ha => Cd.retA (R := Re (Po39 S0 w0 [] _)) ha Try.results39 ⟨_, _, rfl, rfl, rfl⟩ ⟨_, rfl, S9, rfl, hs⟩
  ·skip
   refine Cd.weak [(0, v1), (1, v3), (12, .int .i64 (s1_0.length : Int)), (13, .int .i64 0)] ⟨rfl, rfl, rfl, rfl, trivial⟩ ?_
   refine Cd.block (Cd.loop (fun sg => slices_Equal_byte_l0 s1_0 s2_1 sg) (fun (sg : Int) K w => ∃ (S14 : Mp), K = [(0, v1), (1, v3), (12, .int .i64 (s1_0.length : Int)), (13, .int .i64 sg)] ∧ Le S0 S14 ∧ St w0 [] S0 S14 [] w) 0 fl6 hfl7 ⟨S0, rfl, Le.refl _, hs⟩ ?_)
   rintro q13 fl16 K21 w20 hb17 ⟨S14, rfl, le15, hs⟩ hl18
   have h19 : slices_Equal_byte_l0 s1_0 s2_1 q13 = some fl16 := hb17
   unfold slices_Equal_byte_l0 at h19
   refine Cd.sr ?_
   refine Rg.vN (X.lss rfl rfl) rfl ?_
   refine Rg.go ?_
   refine Cd.seq ?_
   refine Cd.cond (t := decide (q13 < (s1_0.length : Int))) rfl (fun hc22 => ?_) (fun hc22 => ?_)
   ·have h19 := ite_t hc22 h19
    refine Cd.sg ?_
    refine Cd.seq ?_
    refine Cd.block ?_
    refine Cd.sr ?_
    refine Rg.mv rfl rfl ?_
    refine Rg.st rfl rfl ?_
    refine Rg.go ?_
    refine Cd.seq ?_
    refine Cd.rD mixed (fun l w => Has S14 w) hs (fun _ _ _ _ _ h => h) (by kernel_rfl) (fun w23 hs => ⟨hs.has, ?_⟩)
    refine Rk.tN 0 rfl rfl (fun _ _ => X.move rfl) ?_
    refine Rk.tN 1 rfl rfl (fun _ _ => X.move rfl) ?_
    obtain ⟨x24, hx25, h19⟩ := bind_s h19
    obtain ⟨ad26, vals27, _, hR28, hE29, hX30⟩ := mk_index Try.underlying31 zz5 (by decide) (f2.mono le15) hx25
    obtain rfl : vals27 = [.int .u8 x24] := hR28
    refine Rk.tN 2 rfl rfl (fun _ _ => hX30 rfl rfl) ?_
    refine Rk.tN 3 rfl rfl (fun w hc => X.load1 Try.underlying5 rfl rfl (hE29.at0 rfl hc)) ?_
    refine Rk.tN 4 rfl rfl (fun _ _ => X.move rfl) ?_
    refine Rk.tN 5 rfl rfl (fun _ _ => X.move rfl) ?_
    refine Rk.weak [(0, v1), (1, v3), (12, .int .i64 (s1_0.length : Int)), (13, .int .i64 q13), (19, .int .u8 x24), (20, v3), (21, .int .i64 q13)] ⟨rfl, rfl, rfl, rfl, rfl, rfl, rfl, trivial⟩ ?_
    obtain ⟨x31, hx32, h19⟩ := bind_s h19
    obtain ⟨ad33, vals34, _, hR35, hE36, hX37⟩ := mk_index Try.underlying31 zz5 (by decide) (f4.mono le15) hx32
    obtain rfl : vals34 = [.int .u8 x31] := hR35
    refine Rk.tN 6 rfl rfl (fun _ _ => hX37 rfl rfl) ?_
    refine Rk.tN 7 rfl rfl (fun w hc => X.load1 Try.underlying5 rfl rfl (hE36.at0 rfl hc)) ?_
    refine Rk.tN 8 rfl rfl (fun _ _ => X.neq rfl rfl) ?_
    refine Rk.done ?_
    refine Cd.go ?_
    refine Cd.cond (t := x24 != x31) rfl (fun hc38 => ?_) (fun hc38 => ?_)
    ·have h19 := ite_t hc38 h19
     refine Cd.sr ?_
     refine Rg.st rfl rfl ?_
     refine Rg.go ?_
     refine Cd.ret ?_
     obtain rfl := some_s h19
     have e := hl18 (fun _ e => by cases e)
     subst e
     have h0 := el_ret h0
     obtain rfl := some_s h0
     exact fun a ha => Cd.retA (R := Re (Po39 S0 w0 [] _)) ha Try.results39 ⟨_, _, rfl, rfl, rfl⟩ ⟨_, rfl, S14, rfl, hs⟩
    ·have h19 := ite_f hc38 h19
     refine Cd.skip ?_
     refine Cd.go ?_
     refine Cd.region ?_
     refine Rg.vN (X.add rfl rfl) rfl ?_
     refine Rg.mv rfl rfl ?_
     refine Rg.nil ?_
     exact fun a ha => ⟨add .i64 q13 1, [(0, v1), (1, v3), (12, .int .i64 (s1_0.length : Int)), (13, .int .i64 (add .i64 q13 1))], (some_s h19).symm, ha.weak ⟨rfl, rfl, rfl, rfl, trivial⟩, S14, rfl, le15, hs⟩
   ·have h19 := ite_f hc22 h19
    refine Cd.exit ?_
    obtain rfl := some_s h19
    have e := hl18 (fun _ e => by cases e)
    exact fun a ha => ⟨[], ha.weak trivial, _, S14, rfl, e.symm, le15, hs⟩
noncomputable def rtcp_Same (G_0 : api_Report) (o_1 : api_Report) : Option Bool :=
 ((
  if (((G_0.Kind == o_1.Kind) && (G_0.From == o_1.From)) && (G_0.About == o_1.About)) = true then (
   (slices_Equal_api_Tuple G_0.Tuples o_1.Tuples).bind fun x31 =>
   if x31 = true then (
    (slices_Equal_uint32 G_0.Abouts o_1.Abouts).bind fun x40 =>
    if x40 = true then (
     (slices_Equal_int G_0.Numbers o_1.Numbers).bind fun x49 =>
     if (((x49 && (G_0.Rate == o_1.Rate)) && (G_0.Type_ == o_1.Type_)) && (G_0.Count == o_1.Count)) = true then (
      (slices_Equal_byte G_0.Body o_1.Body).bind fun x58 =>
      some x58)
     else (
      some false))
    else (
     some false))
   else (
    some false))
  else (
   some false) : Option Bool)).bind fun p24 =>
 some p24
def Po17 (S0 : Mp) (w0 : World) (D : List Nat) (r : Bool) (v : Value) (w1 : World) : Prop :=
  ∃ (S1 : Mp), v = .bool r ∧ St w0 D S0 S1 [] w1
set_option maxHeartbeats 4000000 in
theorem c17 (S0 : Mp) {w0 : World} (hs : St w0 [] S0 S0 [] w0) (G_0 : api_Report) (v1 : Value) (f2 : Rd S0 3 R_api_Tuple v1 G_0.Tuples) (v3 : Value) (f4 : Rd S0 1 (RI .u32) v3 G_0.Abouts) (v5 : Value) (f6 : Rd S0 1 (RI .i64) v5 G_0.Numbers) (v7 : Value) (f8 : Rd S0 1 (RI .u8) v7 G_0.Body) (o_1 : api_Report) (v9 : Value) (f10 : Rd S0 3 R_api_Tuple v9 o_1.Tuples) (v11 : Value) (f12 : Rd S0 1 (RI .u32) v11 o_1.Abouts) (v13 : Value) (f14 : Rd S0 1 (RI .i64) v13 o_1.Numbers) (v15 : Value) (f16 : Rd S0 1 (RI .u8) v15 o_1.Body) (r : Bool) (h0 : rtcp_Same G_0 o_1 = some r) :
    Calls Try.prog 17 #[.agg (#[.int .i64 G_0.Kind, .int .u32 G_0.From, .int .u32 G_0.About, v1, v3, v5, .int .u64 G_0.Rate, .int .i64 G_0.Type_, .int .i64 G_0.Count, v7]), .agg (#[.int .i64 o_1.Kind, .int .u32 o_1.From, .int .u32 o_1.About, v9, v11, v13, .int .u64 o_1.Rate, .int .i64 o_1.Type_, .int .i64 o_1.Count, v15])] w0 (Re (Po17 S0 w0 [] r)) := by
 unfold rtcp_Same at h0
 refine calls_of_cd Try.func17 rfl Try.ntmps17 rfl ?_
 refine Cd.sr ?_
 refine Rg.step rfl (Oq.box (cs := #[.int .i64 G_0.Kind, .int .u32 G_0.From, .int .u32 G_0.About, v1, v3, v5, .int .u64 G_0.Rate, .int .i64 G_0.Type_, .int .i64 G_0.Count, v7]) hs rfl rfl rfl (fun b17 w18 hs => ?_))
 refine Rg.step rfl (Oq.box (cs := #[.int .i64 o_1.Kind, .int .u32 o_1.From, .int .u32 o_1.About, v9, v11, v13, .int .u64 o_1.Rate, .int .i64 o_1.Type_, .int .i64 o_1.Count, v15]) hs rfl rfl rfl (fun b20 w21 hs => ?_))
 refine Rg.st rfl rfl ?_
 refine Rg.go ?_
 refine Cd.seq ?_
 obtain ⟨p24, hp25, h0⟩ := bind_s h0
 refine Cd.post (fun K w => ∃ (S26 : Mp), K = [(4, .bool p24)] ∧ Le S0 S26 ∧ St w0 [] S0 S26 [] w) ?_ ?_
 ·rintro K29 w27 ⟨S26, rfl, le28, hs⟩
  refine Cd.go ?_
  refine Cd.ret ?_
  obtain rfl := some_s h0
  exact fun a ha => Cd.retA (R := Re (Po17 S0 w0 [] _)) ha Try.results17 ⟨_, _, rfl, rfl, rfl⟩ ⟨_, rfl, S26, rfl, hs⟩
 ·skip
  refine Cd.region ?_
  refine Rg.vN (X.fieldB Try.underlying33 rfl zz3 rfl rfl) rfl ?_
  refine Rg.vN (X.load1 Try.underlying3 rfl rfl (hs.cell 1 rfl 0 rfl)) rfl ?_
  refine Rg.vN (X.fieldB Try.underlying33 rfl zz3 rfl rfl) rfl ?_
  refine Rg.vN (X.load1 Try.underlying3 rfl rfl (hs.cell 0 rfl 0 rfl)) rfl ?_
  refine Rg.vN (X.eql rfl rfl) rfl ?_
  refine Rg.mv rfl rfl ?_
  refine Rg.vT rfl rfl rfl (fun hW => X.fieldB Try.underlying33 rfl zz27 rfl rfl) ?_
  refine Rg.vT rfl rfl rfl (fun hW => X.load1 Try.underlying27 rfl (ev_g rfl hW) (hs.cell 1 rfl 1 rfl)) ?_
  refine Rg.vT rfl rfl rfl (fun hW => X.fieldB Try.underlying33 rfl zz27 rfl rfl) ?_
  refine Rg.vT rfl rfl rfl (fun hW => X.load1 Try.underlying27 rfl (ev_g rfl hW) (hs.cell 0 rfl 1 rfl)) ?_
  refine Rg.vT rfl rfl rfl (fun hW => X.eql (ev_g rfl hW) (ev_g rfl hW)) ?_
  refine Rg.vN (X.pickAnd rfl rfl rfl) rfl ?_
  refine Rg.mv rfl rfl ?_
  refine Rg.vT rfl rfl rfl (fun hW => X.fieldB Try.underlying33 rfl zz27 rfl rfl) ?_
  refine Rg.weak [(2, .pointer (some ⟨b17, 0, none⟩)), (3, .pointer (some ⟨b20, 0, none⟩)), (17, .bool ((G_0.Kind == o_1.Kind) && (G_0.From == o_1.From))), (18, gv ((G_0.Kind == o_1.Kind) && (G_0.From == o_1.From)) (.pointer (some ⟨b17, 2, none⟩)))] ⟨rfl, rfl, rfl, rfl, trivial⟩ ?_
  refine Rg.vT rfl rfl rfl (fun hW => X.load1 Try.underlying27 rfl (ev_g rfl hW) (hs.cell 1 rfl 2 rfl)) ?_
  refine Rg.vT rfl rfl rfl (fun hW => X.fieldB Try.underlying33 rfl zz27 rfl rfl) ?_
  refine Rg.vT rfl rfl rfl (fun hW => X.load1 Try.underlying27 rfl (ev_g rfl hW) (hs.cell 0 rfl 2 rfl)) ?_
  refine Rg.vT rfl rfl rfl (fun hW => X.eql (ev_g rfl hW) (ev_g rfl hW)) ?_
  refine Rg.vN (X.pickAnd rfl rfl rfl) rfl ?_
  refine Rg.mv rfl rfl ?_
  refine Rg.vT rfl rfl rfl (fun hW => X.fieldB Try.underlying33 rfl zz28 rfl rfl) ?_
  refine Rg.vT rfl rfl rfl (fun hW => X.load1 Try.underlying28 rfl (ev_g rfl hW) (hs.cell 1 rfl 3 rfl)) ?_
  refine Rg.vT rfl rfl rfl (fun hW => X.fieldB Try.underlying33 rfl zz28 rfl rfl) ?_
  refine Rg.vT rfl rfl rfl (fun hW => X.load1 Try.underlying28 rfl (ev_g rfl hW) (hs.cell 0 rfl 3 rfl)) ?_
  refine Rg.split (c := ((G_0.Kind == o_1.Kind) && (G_0.From == o_1.From)) && (G_0.About == o_1.About)) (tj := 24) rfl (fun hc30 => ?_) (fun hc30 => ?_)
  ·have hp25 := ite_t hc30 hp25
   refine Rg.weak [(2, .pointer (some ⟨b17, 0, none⟩)), (3, .pointer (some ⟨b20, 0, none⟩)), (24, .bool true), (26, v1), (28, v9)] ⟨rfl, rfl, rfl, get_g rfl hc30, get_g rfl hc30, trivial⟩ ?_
   refine Rg.gon rfl rfl rfl ?_
   obtain ⟨x31, hx32, hp25⟩ := bind_s hp25
   refine Rg.step rfl (Oq.call Try.call36 rfl rfl (c36 S0 (St.start _ _ hs.has) _ _ f2 _ _ f10 _ hx32) (fun v33 w34 h35 => ?_))
   obtain ⟨S36, rfl, hs37⟩ := h35
   have le38 := hs37.le
   have hs := hs.call0 hs37
   refine Rg.vN (X.pickT rfl rfl) rfl ?_
   refine Rg.mv rfl rfl ?_
   refine Rg.vT rfl rfl rfl (fun hW => X.fieldB Try.underlying33 rfl zz29 rfl rfl) ?_
   refine Rg.vT rfl rfl rfl (fun hW => X.load1 Try.underlying29 rfl (ev_g rfl hW) (hs.cell 1 rfl 4 rfl)) ?_
   refine Rg.vT rfl rfl rfl (fun hW => X.fieldB Try.underlying33 rfl zz29 rfl rfl) ?_
   refine Rg.vT rfl rfl rfl (fun hW => X.load1 Try.underlying29 rfl (ev_g rfl hW) (hs.cell 0 rfl 4 rfl)) ?_
   refine Rg.split (c := x31) (tj := 31) rfl (fun hc39 => ?_) (fun hc39 => ?_)
   ·have hp25 := ite_t hc39 hp25
    refine Rg.weak [(2, .pointer (some ⟨b17, 0, none⟩)), (3, .pointer (some ⟨b20, 0, none⟩)), (31, .bool true), (33, v3), (35, v11)] ⟨rfl, rfl, rfl, get_g rfl hc39, get_g rfl hc39, trivial⟩ ?_
    refine Rg.gon rfl rfl rfl ?_
    obtain ⟨x40, hx41, hp25⟩ := bind_s hp25
    refine Rg.step rfl (Oq.call Try.call37 rfl rfl (c37 S36 (St.start _ _ hs.has) _ _ (f4.mono le38) _ _ (f12.mono le38) _ hx41) (fun v42 w43 h44 => ?_))
    obtain ⟨S45, rfl, hs46⟩ := h44
    have le47 := hs46.le
    have hs := hs.call0 hs46
    refine Rg.vN (X.pickT rfl rfl) rfl ?_
    refine Rg.mv rfl rfl ?_
    refine Rg.vT rfl rfl rfl (fun hW => X.fieldB Try.underlying33 rfl zz23 rfl rfl) ?_
    refine Rg.vT rfl rfl rfl (fun hW => X.load1 Try.underlying23 rfl (ev_g rfl hW) (hs.cell 1 rfl 5 rfl)) ?_
    refine Rg.vT rfl rfl rfl (fun hW => X.fieldB Try.underlying33 rfl zz23 rfl rfl) ?_
    refine Rg.vT rfl rfl rfl (fun hW => X.load1 Try.underlying23 rfl (ev_g rfl hW) (hs.cell 0 rfl 5 rfl)) ?_
    refine Rg.split (c := x40) (tj := 38) rfl (fun hc48 => ?_) (fun hc48 => ?_)
    ·have hp25 := ite_t hc48 hp25
     refine Rg.weak [(2, .pointer (some ⟨b17, 0, none⟩)), (3, .pointer (some ⟨b20, 0, none⟩)), (38, .bool true), (40, v5), (42, v13)] ⟨rfl, rfl, rfl, get_g rfl hc48, get_g rfl hc48, trivial⟩ ?_
     refine Rg.gon rfl rfl rfl ?_
     obtain ⟨x49, hx50, hp25⟩ := bind_s hp25
     refine Rg.step rfl (Oq.call Try.call38 rfl rfl (c38 S45 (St.start _ _ hs.has) _ _ (f6.mono (le38.trans le47)) _ _ (f14.mono (le38.trans le47)) _ hx50) (fun v51 w52 h53 => ?_))
     obtain ⟨S54, rfl, hs55⟩ := h53
     have le56 := hs55.le
     have hs := hs.call0 hs55
     refine Rg.vN (X.pickT rfl rfl) rfl ?_
     refine Rg.mv rfl rfl ?_
     refine Rg.vT rfl rfl rfl (fun hW => X.fieldB Try.underlying33 rfl zz30 rfl rfl) ?_
     refine Rg.vT rfl rfl rfl (fun hW => X.load1 Try.underlying30 rfl (ev_g rfl hW) (hs.cell 1 rfl 6 rfl)) ?_
     refine Rg.vT rfl rfl rfl (fun hW => X.fieldB Try.underlying33 rfl zz30 rfl rfl) ?_
     refine Rg.vT rfl rfl rfl (fun hW => X.load1 Try.underlying30 rfl (ev_g rfl hW) (hs.cell 0 rfl 6 rfl)) ?_
     refine Rg.vT rfl rfl rfl (fun hW => X.eql (ev_g rfl hW) (ev_g rfl hW)) ?_
     refine Rg.vN (X.pickAnd rfl rfl rfl) rfl ?_
     refine Rg.mv rfl rfl ?_
     refine Rg.vT rfl rfl rfl (fun hW => X.fieldB Try.underlying33 rfl zz3 rfl rfl) ?_
     refine Rg.weak [(2, .pointer (some ⟨b17, 0, none⟩)), (3, .pointer (some ⟨b20, 0, none⟩)), (52, .bool (x49 && (G_0.Rate == o_1.Rate))), (53, gv (x49 && (G_0.Rate == o_1.Rate)) (.pointer (some ⟨b17, 7, none⟩)))] ⟨rfl, rfl, rfl, rfl, trivial⟩ ?_
     refine Rg.vT rfl rfl rfl (fun hW => X.load1 Try.underlying3 rfl (ev_g rfl hW) (hs.cell 1 rfl 7 rfl)) ?_
     refine Rg.vT rfl rfl rfl (fun hW => X.fieldB Try.underlying33 rfl zz3 rfl rfl) ?_
     refine Rg.vT rfl rfl rfl (fun hW => X.load1 Try.underlying3 rfl (ev_g rfl hW) (hs.cell 0 rfl 7 rfl)) ?_
     refine Rg.vT rfl rfl rfl (fun hW => X.eql (ev_g rfl hW) (ev_g rfl hW)) ?_
     refine Rg.vN (X.pickAnd rfl rfl rfl) rfl ?_
     refine Rg.mv rfl rfl ?_
     refine Rg.vT rfl rfl rfl (fun hW => X.fieldB Try.underlying33 rfl zz3 rfl rfl) ?_
     refine Rg.vT rfl rfl rfl (fun hW => X.load1 Try.underlying3 rfl (ev_g rfl hW) (hs.cell 1 rfl 8 rfl)) ?_
     refine Rg.vT rfl rfl rfl (fun hW => X.fieldB Try.underlying33 rfl zz3 rfl rfl) ?_
     refine Rg.vT rfl rfl rfl (fun hW => X.load1 Try.underlying3 rfl (ev_g rfl hW) (hs.cell 0 rfl 8 rfl)) ?_
     refine Rg.vT rfl rfl rfl (fun hW => X.eql (ev_g rfl hW) (ev_g rfl hW)) ?_
     refine Rg.weak [(2, .pointer (some ⟨b17, 0, none⟩)), (3, .pointer (some ⟨b20, 0, none⟩)), (59, .bool ((x49 && (G_0.Rate == o_1.Rate)) && (G_0.Type_ == o_1.Type_))), (64, gv ((x49 && (G_0.Rate == o_1.Rate)) && (G_0.Type_ == o_1.Type_)) (.bool (G_0.Count == o_1.Count)))] ⟨rfl, rfl, rfl, rfl, trivial⟩ ?_
     refine Rg.vN (X.pickAnd rfl rfl rfl) rfl ?_
     refine Rg.mv rfl rfl ?_
     refine Rg.vT rfl rfl rfl (fun hW => X.fieldB Try.underlying33 rfl zz31 rfl rfl) ?_
     refine Rg.vT rfl rfl rfl (fun hW => X.load1 Try.underlying31 rfl (ev_g rfl hW) (hs.cell 1 rfl 9 rfl)) ?_
     refine Rg.vT rfl rfl rfl (fun hW => X.fieldB Try.underlying33 rfl zz31 rfl rfl) ?_
     refine Rg.vT rfl rfl rfl (fun hW => X.load1 Try.underlying31 rfl (ev_g rfl hW) (hs.cell 0 rfl 9 rfl)) ?_
     refine Rg.split (c := ((x49 && (G_0.Rate == o_1.Rate)) && (G_0.Type_ == o_1.Type_)) && (G_0.Count == o_1.Count)) (tj := 66) rfl (fun hc57 => ?_) (fun hc57 => ?_)
     ·have hp25 := ite_t hc57 hp25
      refine Rg.weak [(66, .bool true), (68, v7), (70, v15)] ⟨rfl, get_g rfl hc57, get_g rfl hc57, trivial⟩ ?_
      refine Rg.gon rfl rfl rfl ?_
      obtain ⟨x58, hx59, hp25⟩ := bind_s hp25
      refine Rg.step rfl (Oq.call Try.call39 rfl rfl (c39 S54 (St.start _ _ hs.has) _ _ (f8.mono (le38.trans (le47.trans le56))) _ _ (f16.mono (le38.trans (le47.trans le56))) _ hx59) (fun v60 w61 h62 => ?_))
      obtain ⟨S63, rfl, hs64⟩ := h62
      have le65 := hs64.le
      have hs := hs.call0 hs64
      refine Rg.vN (X.pickT rfl rfl) rfl ?_
      refine Rg.st rfl rfl ?_
      refine Rg.nil ?_
      obtain rfl := some_s hp25
      exact fun a ha => ⟨[(4, .bool x58)], ha.weak ⟨rfl, trivial⟩, S63, rfl, (le38.trans (le47.trans (le56.trans le65))), (hs.pick [] (by decide) rfl)⟩
     ·have hp25 := ite_f hc57 hp25
      refine Rg.weak [(66, .bool false), (68, undef), (70, undef)] ⟨rfl, get_u rfl (not_f hc57), get_u rfl (not_f hc57), trivial⟩ ?_
      refine Rg.vO rfl rfl rfl rfl ?_
      refine Rg.vN (X.pickF rfl rfl) rfl ?_
      refine Rg.st rfl rfl ?_
      refine Rg.nil ?_
      obtain rfl := some_s hp25
      exact fun a ha => ⟨[(4, .bool false)], ha.weak ⟨rfl, trivial⟩, S54, rfl, (le38.trans (le47.trans le56)), (hs.pick [] (by decide) rfl)⟩
    ·have hp25 := ite_f hc48 hp25
     refine Rg.weak [(2, .pointer (some ⟨b17, 0, none⟩)), (3, .pointer (some ⟨b20, 0, none⟩)), (38, .bool false), (40, undef), (42, undef)] ⟨rfl, rfl, rfl, get_u rfl (not_f hc48), get_u rfl (not_f hc48), trivial⟩ ?_
     refine Rg.vO rfl rfl rfl rfl ?_
     refine Rg.vN (X.pickF rfl rfl) rfl ?_
     refine Rg.mv rfl rfl ?_
     refine Rg.vO rfl rfl rfl rfl ?_
     refine Rg.vO rfl rfl rfl rfl ?_
     refine Rg.vO rfl rfl rfl rfl ?_
     refine Rg.vO rfl rfl rfl rfl ?_
     refine Rg.vO rfl rfl rfl rfl ?_
     refine Rg.vN (X.pickF rfl rfl) rfl ?_
     refine Rg.mv rfl rfl ?_
     refine Rg.vO rfl rfl rfl rfl ?_
     refine Rg.vO rfl rfl rfl rfl ?_
     refine Rg.vO rfl rfl rfl rfl ?_
     refine Rg.vO rfl rfl rfl rfl ?_
     refine Rg.vO rfl rfl rfl rfl ?_
     refine Rg.vN (X.pickF rfl rfl) rfl ?_
     refine Rg.mv rfl rfl ?_
     refine Rg.vO rfl rfl rfl rfl ?_
     refine Rg.vO rfl rfl rfl rfl ?_
     refine Rg.vO rfl rfl rfl rfl ?_
     refine Rg.vO rfl rfl rfl rfl ?_
     refine Rg.vO rfl rfl rfl rfl ?_
     refine Rg.vN (X.pickF rfl rfl) rfl ?_
     refine Rg.mv rfl rfl ?_
     refine Rg.vO rfl rfl rfl rfl ?_
     refine Rg.vO rfl rfl rfl rfl ?_
     refine Rg.vO rfl rfl rfl rfl ?_
     refine Rg.vO rfl rfl rfl rfl ?_
     refine Rg.vO rfl rfl rfl rfl ?_
     refine Rg.vN (X.pickF rfl rfl) rfl ?_
     refine Rg.st rfl rfl ?_
     refine Rg.nil ?_
     obtain rfl := some_s hp25
     exact fun a ha => ⟨[(4, .bool false)], ha.weak ⟨rfl, trivial⟩, S45, rfl, (le38.trans le47), (hs.pick [] (by decide) rfl)⟩
   ·have hp25 := ite_f hc39 hp25
    refine Rg.weak [(2, .pointer (some ⟨b17, 0, none⟩)), (3, .pointer (some ⟨b20, 0, none⟩)), (31, .bool false), (33, undef), (35, undef)] ⟨rfl, rfl, rfl, get_u rfl (not_f hc39), get_u rfl (not_f hc39), trivial⟩ ?_
    refine Rg.vO rfl rfl rfl rfl ?_
    refine Rg.vN (X.pickF rfl rfl) rfl ?_
    refine Rg.mv rfl rfl ?_
    refine Rg.vO rfl rfl rfl rfl ?_
    refine Rg.vO rfl rfl rfl rfl ?_
    refine Rg.vO rfl rfl rfl rfl ?_
    refine Rg.vO rfl rfl rfl rfl ?_
    refine Rg.vO rfl rfl rfl rfl ?_
    refine Rg.vN (X.pickF rfl rfl) rfl ?_
    refine Rg.mv rfl rfl ?_
    refine Rg.vO rfl rfl rfl rfl ?_
    refine Rg.vO rfl rfl rfl rfl ?_
    refine Rg.vO rfl rfl rfl rfl ?_
    refine Rg.vO rfl rfl rfl rfl ?_
    refine Rg.vO rfl rfl rfl rfl ?_
    refine Rg.vN (X.pickF rfl rfl) rfl ?_
    refine Rg.mv rfl rfl ?_
    refine Rg.vO rfl rfl rfl rfl ?_
    refine Rg.vO rfl rfl rfl rfl ?_
    refine Rg.vO rfl rfl rfl rfl ?_
    refine Rg.vO rfl rfl rfl rfl ?_
    refine Rg.vO rfl rfl rfl rfl ?_
    refine Rg.vN (X.pickF rfl rfl) rfl ?_
    refine Rg.mv rfl rfl ?_
    refine Rg.vO rfl rfl rfl rfl ?_
    refine Rg.vO rfl rfl rfl rfl ?_
    refine Rg.vO rfl rfl rfl rfl ?_
    refine Rg.vO rfl rfl rfl rfl ?_
    refine Rg.vO rfl rfl rfl rfl ?_
    refine Rg.vN (X.pickF rfl rfl) rfl ?_
    refine Rg.mv rfl rfl ?_
    refine Rg.weak [(2, .pointer (some ⟨b17, 0, none⟩)), (3, .pointer (some ⟨b20, 0, none⟩)), (66, .bool false)] ⟨rfl, rfl, rfl, trivial⟩ ?_
    refine Rg.vO rfl rfl rfl rfl ?_
    refine Rg.vO rfl rfl rfl rfl ?_
    refine Rg.vO rfl rfl rfl rfl ?_
    refine Rg.vO rfl rfl rfl rfl ?_
    refine Rg.vO rfl rfl rfl rfl ?_
    refine Rg.vN (X.pickF rfl rfl) rfl ?_
    refine Rg.st rfl rfl ?_
    refine Rg.nil ?_
    obtain rfl := some_s hp25
    exact fun a ha => ⟨[(4, .bool false)], ha.weak ⟨rfl, trivial⟩, S36, rfl, le38, (hs.pick [] (by decide) rfl)⟩
  ·have hp25 := ite_f hc30 hp25
   refine Rg.weak [(2, .pointer (some ⟨b17, 0, none⟩)), (3, .pointer (some ⟨b20, 0, none⟩)), (24, .bool false), (26, undef), (28, undef)] ⟨rfl, rfl, rfl, get_u rfl (not_f hc30), get_u rfl (not_f hc30), trivial⟩ ?_
   refine Rg.vO rfl rfl rfl rfl ?_
   refine Rg.vN (X.pickF rfl rfl) rfl ?_
   refine Rg.mv rfl rfl ?_
   refine Rg.vO rfl rfl rfl rfl ?_
   refine Rg.vO rfl rfl rfl rfl ?_
   refine Rg.vO rfl rfl rfl rfl ?_
   refine Rg.vO rfl rfl rfl rfl ?_
   refine Rg.vO rfl rfl rfl rfl ?_
   refine Rg.vN (X.pickF rfl rfl) rfl ?_
   refine Rg.mv rfl rfl ?_
   refine Rg.vO rfl rfl rfl rfl ?_
   refine Rg.vO rfl rfl rfl rfl ?_
   refine Rg.vO rfl rfl rfl rfl ?_
   refine Rg.vO rfl rfl rfl rfl ?_
   refine Rg.vO rfl rfl rfl rfl ?_
   refine Rg.vN (X.pickF rfl rfl) rfl ?_
   refine Rg.mv rfl rfl ?_
   refine Rg.vO rfl rfl rfl rfl ?_
   refine Rg.vO rfl rfl rfl rfl ?_
   refine Rg.vO rfl rfl rfl rfl ?_
   refine Rg.vO rfl rfl rfl rfl ?_
   refine Rg.vO rfl rfl rfl rfl ?_
   refine Rg.vN (X.pickF rfl rfl) rfl ?_
   refine Rg.mv rfl rfl ?_
   refine Rg.vO rfl rfl rfl rfl ?_
   refine Rg.vO rfl rfl rfl rfl ?_
   refine Rg.vO rfl rfl rfl rfl ?_
   refine Rg.vO rfl rfl rfl rfl ?_
   refine Rg.vO rfl rfl rfl rfl ?_
   refine Rg.vN (X.pickF rfl rfl) rfl ?_
   refine Rg.mv rfl rfl ?_
   refine Rg.weak [(2, .pointer (some ⟨b17, 0, none⟩)), (3, .pointer (some ⟨b20, 0, none⟩)), (59, .bool false)] ⟨rfl, rfl, rfl, trivial⟩ ?_
   refine Rg.vO rfl rfl rfl rfl ?_
   refine Rg.vO rfl rfl rfl rfl ?_
   refine Rg.vO rfl rfl rfl rfl ?_
   refine Rg.vO rfl rfl rfl rfl ?_
   refine Rg.vO rfl rfl rfl rfl ?_
   refine Rg.vN (X.pickF rfl rfl) rfl ?_
   refine Rg.mv rfl rfl ?_
   refine Rg.vO rfl rfl rfl rfl ?_
   refine Rg.vO rfl rfl rfl rfl ?_
   refine Rg.vO rfl rfl rfl rfl ?_
   refine Rg.vO rfl rfl rfl rfl ?_
   refine Rg.vO rfl rfl rfl rfl ?_
   refine Rg.vN (X.pickF rfl rfl) rfl ?_
   refine Rg.st rfl rfl ?_
   refine Rg.nil ?_
   obtain rfl := some_s hp25
   exact fun a ha => ⟨[(4, .bool false)], ha.weak ⟨rfl, trivial⟩, S0, rfl, Le.refl _, (hs.pick [] (by decide) rfl)⟩
noncomputable def rtcp_packed (n_0 : Int) (bits_1 : Int) (behind_2 : Int) (low_3 : Int) : Option Int :=
 (rate_Pack n_0 bits_1).bind fun x1 =>
 gd ((0 : Int) ≤ (add .i64 bits_1 behind_2)) (
  gd ((0 : Int) ≤ behind_2) (
   some (bor .u64 (bor .u64 (shl .u64 (cv .u64 x1.1) (add .i64 bits_1 behind_2)) (shl .u64 (cv .u64 x1.2) behind_2)) low_3)))
def Po58 (S0 : Mp) (w0 : World) (D : List Nat) (r : Int) (v : Value) (w1 : World) : Prop :=
  ∃ (S1 : Mp), v = .int .u64 r ∧ St w0 D S0 S1 [] w1
set_option maxHeartbeats 4000000 in
theorem c58 (S0 : Mp) {w0 : World} (hs : St w0 [] S0 S0 [] w0) (n_0 : Int) (bits_1 : Int) (behind_2 : Int) (low_3 : Int) (r : Int) (h0 : rtcp_packed n_0 bits_1 behind_2 low_3 = some r) :
    Calls Try.prog 58 #[.int .u64 n_0, .int .i64 bits_1, .int .i64 behind_2, .int .u64 low_3] w0 (Re (Po58 S0 w0 [] r)) := by
 unfold rtcp_packed at h0
 refine calls_of_cd Try.func58 rfl Try.ntmps58 rfl ?_
 refine Cd.sr ?_
 refine Rg.st rfl rfl ?_
 refine Rg.go ?_
 refine Cd.sr ?_
 refine Rg.mv rfl rfl ?_
 refine Rg.mv rfl rfl ?_
 obtain ⟨x1, hx2, h0⟩ := bind_s h0
 refine Rg.step rfl (Oq.call Try.call70 rfl rfl (c70 S0 (St.start _ _ hs.has) _ _ _ hx2) (fun v3 w4 h5 => ?_))
 obtain ⟨S6, rfl, hs7⟩ := h5
 have le8 := hs7.le
 have hs := hs.call0 hs7
 refine Rg.mv rfl rfl ?_
 refine Rg.vN (X.extract rfl rfl) rfl ?_
 refine Rg.vN (X.extract rfl rfl) rfl ?_
 refine Rg.st rfl rfl ?_
 refine Rg.st rfl rfl ?_
 refine Rg.go ?_
 refine Cd.seq ?_
 refine Cd.rD mixed (fun l w => Has S6 w) hs (fun _ _ _ _ _ h => h) (by kernel_rfl) (fun w9 hs => ⟨hs.has, ?_⟩)
 refine Rk.tN 0 rfl rfl (fun _ _ => X.move rfl) ?_
 refine Rk.tN 1 rfl rfl (fun _ _ => X.conv Try.underlying3 Try.underlying30 rfl) ?_
 refine Rk.tN 2 rfl rfl (fun _ _ => X.move rfl) ?_
 refine Rk.tN 3 rfl rfl (fun _ _ => X.move rfl) ?_
 refine Rk.tN 4 rfl rfl (fun _ _ => X.add rfl rfl) ?_
 obtain ⟨hg10, h0⟩ := gd_s h0
 refine Rk.tN 5 rfl rfl (fun _ _ => X.shl rfl rfl hg10) ?_
 refine Rk.tN 6 rfl rfl (fun _ _ => X.move rfl) ?_
 refine Rk.tN 7 rfl rfl (fun _ _ => X.conv Try.underlying27 Try.underlying30 rfl) ?_
 refine Rk.tN 8 rfl rfl (fun _ _ => X.move rfl) ?_
 refine Rk.weak [(3, .int .u64 low_3), (8, .int .u64 0), (22, .int .u64 (shl .u64 (cv .u64 x1.1) (add .i64 bits_1 behind_2))), (24, .int .u64 (cv .u64 x1.2)), (25, .int .i64 behind_2)] ⟨rfl, rfl, rfl, rfl, rfl, trivial⟩ ?_
 obtain ⟨hg11, h0⟩ := gd_s h0
 refine Rk.tN 9 rfl rfl (fun _ _ => X.shl rfl rfl hg11) ?_
 refine Rk.tN 10 rfl rfl (fun _ _ => X.or rfl rfl) ?_
 refine Rk.tN 11 rfl rfl (fun _ _ => X.move rfl) ?_
 refine Rk.tN 12 rfl rfl (fun _ _ => X.or rfl rfl) ?_
 refine Rk.tN 13 rfl rfl (fun _ _ => X.assign rfl) ?_
 refine Rk.done ?_
 refine Cd.go ?_
 refine Cd.ret ?_
 obtain rfl := some_s h0
 exact fun a ha => Cd.retA (R := Re (Po58 S0 w0 [] _)) ha Try.results58 ⟨_, _, rfl, rfl, rfl⟩ ⟨_, rfl, S6, rfl, hs⟩
end Go.Lk
