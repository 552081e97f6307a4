/- A part of this proof: AlarmNumbers returns true for every input and leaves its arguments as they were; there are no conditions. -/
import Derived.Test.YtaclkgdbkejfjaaP2
set_option linter.unusedVariables false
set_option linter.unusedSimpArgs false
set_option maxRecDepth 100000
namespace Go.Lk
open Go.RowKit Go.Proofs
noncomputable def limelightlaw12_AlarmOrder_l1 (G_0 : (List Int)) (o_1 : Int) (x31 : ((List alarm_Due) × alarm_Table)) (q100 : Int) : Option (Flow Int Bool) :=
 if (decide (q100 < (x31.1.length : Int))) = true then (
  ((
   ((
    (ix x31.1 q100).bind fun x125 =>
    if (decide (o_1 < x125.At)) = true then (
     some true)
    else (
     (ix x31.1 q100).bind fun x133 =>
     if (decide ((cv .u64 (G_0.length : Int)) ≤ x133.Key)) = true then (
      some true)
     else (
      (ix x31.1 q100).bind fun x141 =>
      (ix G_0 x141.Key).bind fun x148 =>
      (ix x31.1 q100).bind fun x155 =>
      if (x148 != x155.At) = true then (
       some true)
      else (
       if (decide (0 < q100)) = true then (
        (ix x31.1 q100).bind fun x164 =>
        (ix x31.1 (sub .i64 q100 1)).bind fun x171 =>
        if (decide (x164.At < x171.At)) = true then (
         some true)
        else (
         (ix x31.1 q100).bind fun x179 =>
         (ix x31.1 (sub .i64 q100 1)).bind fun x186 =>
         if (x179.At == x186.At) = true then (
          (ix x31.1 q100).bind fun x194 =>
          (ix x31.1 (sub .i64 q100 1)).bind fun x201 =>
          some (decide (x194.Key ≤ x201.Key)))
         else (
          some false)))
       else (
        some false)))) : Option Bool)).bind fun p117 =>
   if p117 = true then (
    some (Flow.ret false))
   else (
    some (Flow.next ())) : Option (Flow Unit Bool))).bind fun p110 =>
  Flow.el p110 (fun s208 => (
   some (Flow.next (add .i64 q100 1))))
  (fun s209 => (
   none))
  (fun r210 => (
   some (Flow.ret r210))))
 else (
  some (Flow.brk q100))
noncomputable def limelightlaw12_AlarmOrder_l0 (G_0 : (List Int)) (o_1 : Int) (q214 : Int) (q215 : Int) (q216 : (List alarm_Due)) : Option (Flow (Int × Int × (List alarm_Due)) Bool) :=
 if ((decide (q215 < (G_0.length : Int))) && (decide (q215 < 60))) = true then (
  ((
   (ix G_0 q215).bind fun x242 =>
   (alarm_Table_Set (⟨q216⟩ : alarm_Table) (cv .u64 q215) x242).bind fun x249 =>
   (ix G_0 q215).bind fun x261 =>
   ((
    if (decide (x261 ≤ o_1)) = true then (
     some (add .i64 q214 1))
    else (
     some q214) : Option Int)).bind fun p269 =>
   some (p269, x249.l_) : Option (Int × (List alarm_Due)))).bind fun p232 =>
  some (Flow.next (p232.1, add .i64 q215 1, p232.2)))
 else (
  some (Flow.brk (q214, q215, q216)))
noncomputable def limelightlaw12_AlarmOrder (G_0 : (List Int)) (o_1 : Int) : Option Bool :=
 (alarm_New ).bind fun x3 =>
 (loopF (fun sg => limelightlaw12_AlarmOrder_l0 G_0 o_1 sg.1 sg.2.1 sg.2.2) (0, 0, x3.l_)).bind fun fl18 =>
 Flow.el fl18 (fun s276 => (
  none))
 (fun s277 => (
  (alarm_Table_Due (⟨s277.2.2⟩ : alarm_Table) o_1).bind fun x31 =>
  (loopF (fun sg => limelightlaw12_AlarmOrder_l1 G_0 o_1 x31 sg) 0).bind fun fl47 =>
  Flow.el fl47 (fun s211 => (
   none))
  (fun s212 => (
   ((
    if ((x31.1.length : Int) == s277.1) = true then (
     (alarm_Table_Due (⟨x31.2.l_⟩ : alarm_Table) o_1).bind fun x62 =>
     if ((x62.1.length : Int) == 0) = true then (
      (alarm_Table_Len (⟨x62.2.l_⟩ : alarm_Table)).bind fun x79 =>
      if (x79.1 == (sub .i64 (mn (G_0.length : Int) 60) s277.1)) = true then (
       (limelightlaw12_known ).bind fun x92 =>
       some x92)
      else (
       some false))
     else (
      some false))
    else (
     some false) : Option Bool)).bind fun p55 =>
   some p55))
  (fun r213 => (
   some r213))))
 (fun r278 => (
  none))
def Po3 (S0 : Mp) (w0 : World) (D : List Nat) (r : Bool) (v : Value) (w1 : World) : Prop :=
  ∃ (S1 : Mp), v = .bool r ∧ St w0 D S0 S1 [] w1
set_option maxHeartbeats 4000000 in
theorem c3 (S0 : Mp) {w0 : World} (hs : St w0 [] S0 S0 [] w0) (G_0 : (List Int)) (v1 : Value) (f2 : Rd S0 1 (RI .i64) v1 G_0) (o_1 : Int) (r : Bool) (h0 : limelightlaw12_AlarmOrder G_0 o_1 = some r) :
    Calls Try.prog 3 #[v1, .int .i64 o_1] w0 (Re (Po3 S0 w0 [] r)) := by
 unfold limelightlaw12_AlarmOrder at h0
 refine calls_of_cd Try.func3 rfl Try.ntmps3 rfl ?_
 refine Cd.sr ?_
 refine Rg.st rfl rfl ?_
 refine Rg.go ?_
 refine Cd.sr ?_
 obtain ⟨x3, hx4, h0⟩ := bind_s h0
 refine Rg.step rfl (Oq.call Try.call7 rfl rfl (c7 S0 (St.start _ _ hs.has)  _ hx4) (fun v5 w6 h7 => ?_))
 obtain ⟨S8, b11, v13, g14, cur15, rfl, hs9, f16⟩ := h7
 have le10 := hs9.le
 have hs := hs.call0 hs9
 refine Rg.st rfl rfl ?_
 refine Rg.go ?_
 refine Cd.seq ?_
 refine Cd.sr ?_
 refine Rg.mv rfl rfl ?_
 refine Rg.vN (X.eqlNilP Try.underlying23 rfl) rfl ?_
 refine Rg.go ?_
 refine Cd.cond0 rfl ?_
 refine Cd.sg ?_
 refine Cd.sr ?_
 refine Rg.st rfl rfl ?_
 refine Rg.go ?_
 refine Cd.seq ?_
 refine Cd.sr ?_
 refine Rg.st rfl rfl ?_
 refine Rg.go ?_
 obtain ⟨fl18, hfl19, h0⟩ := bind_s h0
 refine Cd.post (fun K w => ∃ (j20 : Int) (j21 : Int) (j22 : (List alarm_Due)) (S23 : Mp) (v25 : Value) (g26 : Option Nat) (cur27 : Array Value), K = [(0, v1), (1, .int .i64 o_1), (5, .pointer (some ⟨b11, 0, none⟩)), (6, .int .i64 j20)] ∧ fl18 = Flow.brk (j20, j21, j22) ∧ Le S8 S23 ∧ St w0 [] S0 S23 [.row g26 cur27 30, .box b11 #[v25] 44] w ∧ Rw S23 2 R_alarm_Due g26 cur27 v25 j22) ?_ ?_
 ·rintro K30 w29 ⟨j20, j21, j22, S23, v25, g26, cur27, rfl, rfl, le24, hs, f28⟩
  have h0 := el_brk h0
  try dsimp only at h0
  refine Cd.go ?_
  refine Cd.sr ?_
  refine Rg.mv rfl rfl ?_
  refine Rg.mv rfl rfl ?_
  obtain ⟨x31, hx32, h0⟩ := bind_s h0
  refine Rg.step rfl (Oq.call Try.call9 rfl rfl (c9 S23 _ (⟨j22⟩ : alarm_Table) _ _ _ f28 _ (hs.enterP [1, 0] (by decide) rfl (by cases g26 <;> rfl)) _ hx32) (fun v33 w34 h35 => ?_))
  obtain ⟨S36, v39, g41, v43, g44, cur45, rfl, hs37, f40, f46⟩ := h35
  have le38 := hs37.le
  have hs := hs.callP [1, 0] rfl (by cases g26 <;> rfl) hs37
  refine Rg.st rfl rfl ?_
  refine Rg.go ?_
  refine Cd.seq ?_
  refine Cd.sr ?_
  refine Rg.mv rfl rfl ?_
  refine Rg.vN (X.lenR Try.underlying27 rfl f40) rfl ?_
  refine Rg.mv rfl rfl ?_
  refine Rg.go ?_
  obtain ⟨fl47, hfl48, h0⟩ := bind_s h0
  refine Cd.post (fun K w => ∃ (j49 : Int) (S50 : Mp), K = [(0, v1), (1, .int .i64 o_1), (5, .pointer (some ⟨b11, 0, none⟩)), (6, .int .i64 j20), (8, v33)] ∧ fl47 = Flow.brk j49 ∧ Le S36 S50 ∧ St w0 [] S0 S50 [.app g41 v33 x31.1.length 30 2, .row g44 cur45 30, .box b11 #[v43] 44] w) ?_ ?_
  ·rintro K53 w52 ⟨j49, S50, rfl, rfl, le51, hs⟩
   have h0 := el_brk h0
   try dsimp only at h0
   refine Cd.go ?_
   refine Cd.seq ?_
   obtain ⟨p55, hp56, h0⟩ := bind_s h0
   refine Cd.post (fun K w => ∃ (S57 : Mp), K = [(4, .bool p55)] ∧ Le S50 S57 ∧ St w0 [] S0 S57 [] w) ?_ ?_
   ·rintro K60 w58 ⟨S57, rfl, le59, hs⟩
    refine Cd.go ?_
    refine Cd.ret ?_
    obtain rfl := some_s h0
    exact fun a ha => Cd.retA (R := Re (Po3 S0 w0 _ _)) ha Try.results3 ⟨_, _, rfl, rfl, rfl⟩ ⟨_, rfl, S57, rfl, hs⟩
   ·skip
    refine Cd.region ?_
    refine Rg.mv rfl rfl ?_
    refine Rg.vN (X.lenR Try.underlying27 rfl (f40.mono le51)) rfl ?_
    refine Rg.mv rfl rfl ?_
    refine Rg.weak [(0, v1), (1, .int .i64 o_1), (5, .pointer (some ⟨b11, 0, none⟩)), (6, .int .i64 j20), (129, .int .i64 (x31.1.length : Int)), (130, .int .i64 j20)] ⟨rfl, rfl, rfl, rfl, rfl, rfl, trivial⟩ ?_
    refine Rg.vN (X.eql rfl rfl) rfl ?_
    refine Rg.mv rfl rfl ?_
    refine Rg.vT rfl rfl rfl (fun hW => X.move rfl) ?_
    refine Rg.vT rfl rfl rfl (fun hW => X.move rfl) ?_
    refine Rg.split (c := (x31.1.length : Int) == j20) (tj := 132) rfl (fun hc61 => ?_) (fun hc61 => ?_)
    ·have hp56 := ite_t hc61 hp56
     refine Rg.weak [(0, v1), (5, .pointer (some ⟨b11, 0, none⟩)), (6, .int .i64 j20), (132, .bool true), (133, .pointer (some ⟨b11, 0, none⟩)), (134, .int .i64 o_1)] ⟨rfl, rfl, rfl, rfl, get_g rfl hc61, get_g rfl hc61, trivial⟩ ?_
     refine Rg.gon rfl rfl rfl ?_
     obtain ⟨x62, hx63, hp56⟩ := bind_s hp56
     refine Rg.step rfl (Oq.call Try.call9 rfl rfl (c9 S50 _ (⟨x31.2.l_⟩ : alarm_Table) _ _ _ (f46.mono le51) _ (hs.enterP [2, 1] (by decide) rfl (by cases g44 <;> rfl)) _ hx63) (fun v64 w65 h66 => ?_))
     obtain ⟨S67, v70, g72, v74, g75, cur76, rfl, hs68, f71, f77⟩ := h66
     have le69 := hs68.le
     have hs := hs.callP [2, 1] rfl (by cases g44 <;> rfl) hs68
     refine Rg.gon rfl rfl rfl ?_
     refine Rg.vN (X.lenR Try.underlying27 rfl f71) rfl ?_
     refine Rg.gon rfl rfl rfl ?_
     refine Rg.vN (X.eql rfl rfl) rfl ?_
     refine Rg.vN (X.pickT rfl rfl) rfl ?_
     refine Rg.mv rfl rfl ?_
     refine Rg.vT rfl rfl rfl (fun hW => X.move rfl) ?_
     refine Rg.split (c := (x62.1.length : Int) == 0) (tj := 139) rfl (fun hc78 => ?_) (fun hc78 => ?_)
     ·have hp56 := ite_t hc78 hp56
      refine Rg.weak [(0, v1), (6, .int .i64 j20), (139, .bool true), (140, .pointer (some ⟨b11, 0, none⟩))] ⟨rfl, rfl, rfl, get_g rfl hc78, trivial⟩ ?_
      refine Rg.gon rfl rfl rfl ?_
      obtain ⟨x79, hx80, hp56⟩ := bind_s hp56
      refine Rg.step rfl (Oq.call Try.call10 rfl rfl (c10 S67 _ (⟨x62.2.l_⟩ : alarm_Table) _ _ _ f77 (hs.enterP [2, 1] (by decide) rfl (by cases g75 <;> rfl)) _ hx80) (fun v81 w82 h83 => ?_))
      obtain ⟨S84, v87, g88, cur89, rfl, hs85, f90⟩ := h83
      have le86 := hs85.le
      have hs := hs.callP [2, 1] rfl (by cases g75 <;> rfl) hs85
      refine Rg.gon rfl rfl rfl ?_
      refine Rg.mv rfl rfl ?_
      refine Rg.gon rfl rfl rfl ?_
      refine Rg.vN (X.lenR Try.underlying22 rfl (f2.mono (le10.trans (le24.trans (le38.trans (le51.trans (le69.trans le86))))))) rfl ?_
      refine Rg.gon rfl rfl rfl ?_
      refine Rg.vN (X.min2 rfl rfl) rfl ?_
      refine Rg.gon rfl rfl rfl ?_
      refine Rg.mv rfl rfl ?_
      refine Rg.gon rfl rfl rfl ?_
      refine Rg.vN (X.sub rfl rfl) rfl ?_
      refine Rg.gon rfl rfl rfl ?_
      refine Rg.vN (X.eql rfl rfl) rfl ?_
      refine Rg.vN (X.pickT rfl rfl) rfl ?_
      refine Rg.mv rfl rfl ?_
      refine Rg.split (c := x79.1 == (sub .i64 (mn (G_0.length : Int) 60) j20)) (tj := 149) rfl (fun hc91 => ?_) (fun hc91 => ?_)
      ·have hp56 := ite_t hc91 hp56
       refine Rg.weak [(149, .bool true)] ⟨rfl, trivial⟩ ?_
       refine Rg.gon rfl rfl rfl ?_
       obtain ⟨x92, hx93, hp56⟩ := bind_s hp56
       refine Rg.step rfl (Oq.call Try.call11 rfl rfl (c11 S84 (St.start _ _ hs.has)  _ hx93) (fun v94 w95 h96 => ?_))
       obtain ⟨S97, rfl, hs98⟩ := h96
       have le99 := hs98.le
       have hs := hs.call0 hs98
       refine Rg.vN (X.pickT rfl rfl) rfl ?_
       refine Rg.st rfl rfl ?_
       refine Rg.nil ?_
       have e := some_s hp56
       subst e
       exact fun a ha => ⟨[(4, .bool x92)], ha.weak ⟨rfl, trivial⟩, S97, rfl, (le69.trans (le86.trans le99)), (hs.pick [] (by decide) rfl)⟩
      ·have hp56 := ite_f hc91 hp56
       refine Rg.weak [(149, .bool false)] ⟨rfl, trivial⟩ ?_
       refine Rg.vO rfl rfl rfl rfl ?_
       refine Rg.vN (X.pickF rfl rfl) rfl ?_
       refine Rg.st rfl rfl ?_
       refine Rg.nil ?_
       have e := some_s hp56
       subst e
       exact fun a ha => ⟨[(4, .bool false)], ha.weak ⟨rfl, trivial⟩, S84, rfl, (le69.trans le86), (hs.pick [] (by decide) rfl)⟩
     ·have hp56 := ite_f hc78 hp56
      refine Rg.weak [(0, v1), (6, .int .i64 j20), (139, .bool false), (140, undef)] ⟨rfl, rfl, rfl, get_u rfl (not_f hc78), trivial⟩ ?_
      refine Rg.vO rfl rfl rfl rfl ?_
      refine Rg.vO rfl rfl rfl rfl ?_
      refine Rg.vO rfl rfl rfl rfl ?_
      refine Rg.vO rfl rfl rfl rfl ?_
      refine Rg.vO rfl rfl rfl rfl ?_
      refine Rg.vO rfl rfl rfl rfl ?_
      refine Rg.vO rfl rfl rfl rfl ?_
      refine Rg.vN (X.pickF rfl rfl) rfl ?_
      refine Rg.mv rfl rfl ?_
      refine Rg.vO rfl rfl rfl rfl ?_
      refine Rg.vN (X.pickF rfl rfl) rfl ?_
      refine Rg.st rfl rfl ?_
      refine Rg.nil ?_
      have e := some_s hp56
      subst e
      exact fun a ha => ⟨[(4, .bool false)], ha.weak ⟨rfl, trivial⟩, S67, rfl, le69, (hs.pick [] (by decide) rfl)⟩
    ·have hp56 := ite_f hc61 hp56
     refine Rg.weak [(0, v1), (5, .pointer (some ⟨b11, 0, none⟩)), (6, .int .i64 j20), (132, .bool false), (133, undef), (134, undef)] ⟨rfl, rfl, rfl, rfl, get_u rfl (not_f hc61), get_u rfl (not_f hc61), trivial⟩ ?_
     refine Rg.vO rfl rfl rfl rfl ?_
     refine Rg.vO rfl rfl rfl rfl ?_
     refine Rg.vO rfl rfl rfl rfl ?_
     refine Rg.vN (X.pickF rfl rfl) rfl ?_
     refine Rg.mv rfl rfl ?_
     refine Rg.vO rfl rfl rfl rfl ?_
     refine Rg.vO rfl rfl rfl rfl ?_
     refine Rg.vO rfl rfl rfl rfl ?_
     refine Rg.vO rfl rfl rfl rfl ?_
     refine Rg.vO rfl rfl rfl rfl ?_
     refine Rg.vO rfl rfl rfl rfl ?_
     refine Rg.vO rfl rfl rfl rfl ?_
     refine Rg.vO rfl rfl rfl rfl ?_
     refine Rg.vN (X.pickF rfl rfl) rfl ?_
     refine Rg.mv rfl rfl ?_
     refine Rg.vO rfl rfl rfl rfl ?_
     refine Rg.vN (X.pickF rfl rfl) rfl ?_
     refine Rg.st rfl rfl ?_
     refine Rg.nil ?_
     have e := some_s hp56
     subst e
     exact fun a ha => ⟨[(4, .bool false)], ha.weak ⟨rfl, trivial⟩, S50, rfl, Le.refl _, (hs.pick [] (by decide) rfl)⟩
  ·skip
   refine Cd.weak [(0, v1), (1, .int .i64 o_1), (5, .pointer (some ⟨b11, 0, none⟩)), (6, .int .i64 j20), (8, v33), (43, .int .i64 (x31.1.length : Int)), (44, .int .i64 0)] ⟨rfl, rfl, rfl, rfl, rfl, rfl, rfl, trivial⟩ ?_
   refine Cd.block (Cd.loop (fun sg => limelightlaw12_AlarmOrder_l1 G_0 o_1 x31 sg) (fun (sg : Int) K w => ∃ (S101 : Mp), K = [(0, v1), (1, .int .i64 o_1), (5, .pointer (some ⟨b11, 0, none⟩)), (6, .int .i64 j20), (8, v33), (43, .int .i64 (x31.1.length : Int)), (44, .int .i64 sg)] ∧ Le S36 S101 ∧ St w0 [] S0 S101 [.app g41 v33 x31.1.length 30 2, .row g44 cur45 30, .box b11 #[v43] 44] w) 0 fl47 hfl48 ⟨S36, rfl, Le.refl _, hs⟩ ?_)
   rintro q100 fl103 K108 w107 hb104 ⟨S101, rfl, le102, hs⟩ hl105
   have h106 : limelightlaw12_AlarmOrder_l1 G_0 o_1 x31 q100 = some fl103 := hb104
   unfold limelightlaw12_AlarmOrder_l1 at h106
   refine Cd.sr ?_
   refine Rg.vN (X.lss rfl rfl) rfl ?_
   refine Rg.go ?_
   refine Cd.seq ?_
   refine Cd.cond (t := decide (q100 < (x31.1.length : Int))) rfl (fun hc109 => ?_) (fun hc109 => ?_)
   ·have h106 := ite_t hc109 h106
    refine Cd.sg ?_
    refine Cd.seq ?_
    obtain ⟨p110, hp111, h106⟩ := bind_s h106
    refine Cd.post (fun K w => ∃ (S112 : Mp), K = [(0, v1), (1, .int .i64 o_1), (5, .pointer (some ⟨b11, 0, none⟩)), (6, .int .i64 j20), (8, v33), (43, .int .i64 (x31.1.length : Int)), (44, .int .i64 q100)] ∧ p110 = Flow.next () ∧ Le S101 S112 ∧ St w0 [] S0 S112 [.app g41 v33 x31.1.length 30 2, .row g44 cur45 30, .box b11 #[v43] 44] w) ?_ ?_
    ·rintro K115 w113 ⟨S112, rfl, rfl, le114, hs⟩
     have h106 := el_next h106
     try dsimp only at h106
     refine Cd.go ?_
     refine Cd.region ?_
     refine Rg.vN (X.add rfl rfl) rfl ?_
     refine Rg.mv rfl rfl ?_
     refine Rg.nil ?_
     exact fun a ha => ⟨add .i64 q100 1, [(0, v1), (1, .int .i64 o_1), (5, .pointer (some ⟨b11, 0, none⟩)), (6, .int .i64 j20), (8, v33), (43, .int .i64 (x31.1.length : Int)), (44, .int .i64 (add .i64 q100 1))], (some_s h106).symm, ha.weak ⟨rfl, rfl, rfl, rfl, rfl, rfl, rfl, trivial⟩, S112, rfl, (le102.trans le114), hs⟩
    ·skip
     refine Cd.block ?_
     refine Cd.sr ?_
     refine Rg.mv rfl rfl ?_
     refine Rg.st rfl rfl ?_
     refine Rg.go ?_
     refine Cd.weak [(0, v1), (1, .int .i64 o_1), (5, .pointer (some ⟨b11, 0, none⟩)), (6, .int .i64 j20), (8, v33), (9, .int .i64 q100), (43, .int .i64 (x31.1.length : Int)), (44, .int .i64 q100)] ⟨rfl, rfl, rfl, rfl, rfl, rfl, rfl, rfl, trivial⟩ ?_
     refine Cd.seq ?_
     obtain ⟨p117, hp118, hp111⟩ := bind_s hp111
     refine Cd.post (fun K w => ∃ (S119 : Mp), K = [(0, v1), (1, .int .i64 o_1), (5, .pointer (some ⟨b11, 0, none⟩)), (6, .int .i64 j20), (8, v33), (43, .int .i64 (x31.1.length : Int)), (44, .int .i64 q100), (126, .bool p117)] ∧ Le S101 S119 ∧ St w0 [] S0 S119 [.app g41 v33 x31.1.length 30 2, .row g44 cur45 30, .box b11 #[v43] 44] w) ?_ ?_
     ·rintro K122 w120 ⟨S119, rfl, le121, hs⟩
      refine Cd.go ?_
      refine Cd.cond (t := p117) rfl (fun hc123 => ?_) (fun hc123 => ?_)
      ·have hp111 := ite_t hc123 hp111
       refine Cd.sr ?_
       refine Rg.st rfl rfl ?_
       refine Rg.go ?_
       refine Cd.ret ?_
       obtain rfl := some_s hp111
       have h106 := el_ret h106
       obtain rfl := some_s h106
       have e := hl105 (fun _ e => by cases e)
       subst e
       have h0 := el_ret h0
       obtain rfl := some_s h0
       exact fun a ha => Cd.retA (R := Re (Po3 S0 w0 _ _)) ha Try.results3 ⟨_, _, rfl, rfl, rfl⟩ ⟨_, rfl, S119, rfl, (hs.pick [] (by decide) rfl)⟩
      ·have hp111 := ite_f hc123 hp111
       refine Cd.skip ?_
       obtain rfl := some_s hp111
       exact fun a ha => ⟨[(0, v1), (1, .int .i64 o_1), (5, .pointer (some ⟨b11, 0, none⟩)), (6, .int .i64 j20), (8, v33), (43, .int .i64 (x31.1.length : Int)), (44, .int .i64 q100)], ha.weak ⟨rfl, rfl, rfl, rfl, rfl, rfl, rfl, trivial⟩, S119, rfl, rfl, le121, hs⟩
     ·skip
      refine Cd.rD mixed (fun l w => Has S101 w) hs (fun _ _ _ _ _ h => h) (by kernel_rfl) (fun w124 hs => ⟨hs.has, ?_⟩)
      refine Rk.tN 0 rfl rfl (fun _ _ => X.move rfl) ?_
      refine Rk.tN 1 rfl rfl (fun _ _ => X.move rfl) ?_
      obtain ⟨x125, hx126, hp118⟩ := bind_s hp118
      obtain ⟨ad127, vals128, _, hR129, hE130, hX131⟩ := mk_index Try.underlying27 zz30 (by decide) (f40.mono le102) hx126
      unfold R_alarm_Due at hR129
      subst hR129
      refine Rk.tN 2 rfl rfl (fun _ _ => hX131 rfl rfl) ?_
      refine Rk.tN 3 rfl rfl (fun _ _ => X.fieldE Try.underlying30 rfl zz2 rfl rfl) ?_
      refine Rk.tN 4 rfl rfl (fun w hc => X.load1 Try.underlying2 rfl rfl ((El.part (part := [.int .i64 x125.At]) hE130 0 rfl).at0 rfl hc)) ?_
      refine Rk.tN 5 rfl rfl (fun _ _ => X.move rfl) ?_
      refine Rk.tN 6 rfl rfl (fun _ _ => X.gtr rfl rfl) ?_
      refine Rk.tN 7 rfl rfl (fun _ _ => X.move rfl) ?_
      refine Rk.tF 8 rfl rfl rfl rfl (fun hW => fun _ _ => X.move rfl) ?_
      refine Rk.tF 9 rfl rfl rfl rfl (fun hW => fun _ _ => X.move rfl) ?_
      refine Rk.tF 13 rfl rfl rfl rfl (fun hW => fun _ _ => X.move rfl) ?_
      refine Rk.tF 14 rfl rfl rfl rfl (fun hW => fun _ _ => X.lenR Try.underlying22 (ev_g rfl hW) (f2.mono (le10.trans (le24.trans (le38.trans le102))))) ?_
      refine Rk.tF 15 rfl rfl rfl rfl (fun hW => fun _ _ => X.conv Try.underlying3 Try.underlying26 (ev_g rfl hW)) ?_
      refine Rk.split (b := decide (o_1 < x125.At)) (tj := 54) rfl (fun hc132 => ?_) (fun hc132 => ?_)
      ·have hp118 := ite_t hc132 hp118
       refine Rk.weak [(0, v1), (1, .int .i64 o_1), (5, .pointer (some ⟨b11, 0, none⟩)), (6, .int .i64 j20), (8, v33), (9, .int .i64 q100), (43, .int .i64 (x31.1.length : Int)), (44, .int .i64 q100), (54, .bool true), (55, undef), (56, undef), (62, undef)] ⟨rfl, rfl, rfl, rfl, rfl, rfl, rfl, rfl, rfl, get_u rfl (nn hc132), get_u rfl (nn hc132), get_u rfl (nn hc132), trivial⟩ ?_
       refine Rk.tO 10 rfl rfl rfl rfl rfl ?_
       refine Rk.tO 11 rfl rfl rfl rfl rfl ?_
       refine Rk.tO 12 rfl rfl rfl rfl rfl ?_
       refine Rk.tO 16 rfl rfl rfl rfl rfl ?_
       refine Rk.tN 17 rfl rfl (fun _ _ => X.pickT rfl rfl) ?_
       refine Rk.tN 18 rfl rfl (fun _ _ => X.move rfl) ?_
       refine Rk.tO 19 rfl rfl rfl rfl rfl ?_
       refine Rk.tO 20 rfl rfl rfl rfl rfl ?_
       refine Rk.tO 21 rfl rfl rfl rfl rfl ?_
       refine Rk.tO 22 rfl rfl rfl rfl rfl ?_
       refine Rk.tO 23 rfl rfl rfl rfl rfl ?_
       refine Rk.tO 24 rfl rfl rfl rfl rfl ?_
       refine Rk.tO 25 rfl rfl rfl rfl rfl ?_
       refine Rk.tO 26 rfl rfl rfl rfl rfl ?_
       refine Rk.tO 27 rfl rfl rfl rfl rfl ?_
       refine Rk.tO 28 rfl rfl rfl rfl rfl ?_
       refine Rk.tO 29 rfl rfl rfl rfl rfl ?_
       refine Rk.tO 30 rfl rfl rfl rfl rfl ?_
       refine Rk.tO 31 rfl rfl rfl rfl rfl ?_
       refine Rk.tO 32 rfl rfl rfl rfl rfl ?_
       refine Rk.tN 33 rfl rfl (fun _ _ => X.pickT rfl rfl) ?_
       refine Rk.tN 34 rfl rfl (fun _ _ => X.move rfl) ?_
       refine Rk.tO 35 rfl rfl rfl rfl rfl ?_
       refine Rk.tO 36 rfl rfl rfl rfl rfl ?_
       refine Rk.tO 37 rfl rfl rfl rfl rfl ?_
       refine Rk.tO 38 rfl rfl rfl rfl rfl ?_
       refine Rk.tO 39 rfl rfl rfl rfl rfl ?_
       refine Rk.tO 40 rfl rfl rfl rfl rfl ?_
       refine Rk.tO 41 rfl rfl rfl rfl rfl ?_
       refine Rk.tO 42 rfl rfl rfl rfl rfl ?_
       refine Rk.tO 43 rfl rfl rfl rfl rfl ?_
       refine Rk.tO 44 rfl rfl rfl rfl rfl ?_
       refine Rk.tO 45 rfl rfl rfl rfl rfl ?_
       refine Rk.tO 46 rfl rfl rfl rfl rfl ?_
       refine Rk.tO 47 rfl rfl rfl rfl rfl ?_
       refine Rk.tO 48 rfl rfl rfl rfl rfl ?_
       refine Rk.tO 49 rfl rfl rfl rfl rfl ?_
       refine Rk.tO 50 rfl rfl rfl rfl rfl ?_
       refine Rk.tO 51 rfl rfl rfl rfl rfl ?_
       refine Rk.tO 52 rfl rfl rfl rfl rfl ?_
       refine Rk.tO 53 rfl rfl rfl rfl rfl ?_
       refine Rk.tO 54 rfl rfl rfl rfl rfl ?_
       refine Rk.tO 55 rfl rfl rfl rfl rfl ?_
       refine Rk.tO 56 rfl rfl rfl rfl rfl ?_
       refine Rk.tO 57 rfl rfl rfl rfl rfl ?_
       refine Rk.tO 58 rfl rfl rfl rfl rfl ?_
       refine Rk.tO 59 rfl rfl rfl rfl rfl ?_
       refine Rk.tO 60 rfl rfl rfl rfl rfl ?_
       refine Rk.tO 61 rfl rfl rfl rfl rfl ?_
       refine Rk.tO 62 rfl rfl rfl rfl rfl ?_
       refine Rk.tO 63 rfl rfl rfl rfl rfl ?_
       refine Rk.tO 64 rfl rfl rfl rfl rfl ?_
       refine Rk.tO 65 rfl rfl rfl rfl rfl ?_
       refine Rk.tO 66 rfl rfl rfl rfl rfl ?_
       refine Rk.tO 67 rfl rfl rfl rfl rfl ?_
       refine Rk.tO 68 rfl rfl rfl rfl rfl ?_
       refine Rk.tO 69 rfl rfl rfl rfl rfl ?_
       refine Rk.tO 70 rfl rfl rfl rfl rfl ?_
       refine Rk.tO 71 rfl rfl rfl rfl rfl ?_
       refine Rk.tO 72 rfl rfl rfl rfl rfl ?_
       refine Rk.tO 73 rfl rfl rfl rfl rfl ?_
       refine Rk.tO 74 rfl rfl rfl rfl rfl ?_
       refine Rk.tO 75 rfl rfl rfl rfl rfl ?_
       refine Rk.tO 76 rfl rfl rfl rfl rfl ?_
       refine Rk.tO 77 rfl rfl rfl rfl rfl ?_
       refine Rk.tO 78 rfl rfl rfl rfl rfl ?_
       refine Rk.tN 79 rfl rfl (fun _ _ => X.pickT rfl rfl) ?_
       refine Rk.done ?_
       have e := some_s hp118
       subst e
       exact fun a ha => ⟨[(0, v1), (1, .int .i64 o_1), (5, .pointer (some ⟨b11, 0, none⟩)), (6, .int .i64 j20), (8, v33), (43, .int .i64 (x31.1.length : Int)), (44, .int .i64 q100), (126, .bool true)], ha.weak ⟨rfl, rfl, rfl, rfl, rfl, rfl, rfl, rfl, trivial⟩, S101, rfl, Le.refl _, hs⟩
      ·have hp118 := ite_f hc132 hp118
       refine Rk.weak [(0, v1), (1, .int .i64 o_1), (5, .pointer (some ⟨b11, 0, none⟩)), (6, .int .i64 j20), (8, v33), (9, .int .i64 q100), (43, .int .i64 (x31.1.length : Int)), (44, .int .i64 q100), (54, .bool false), (55, v33), (56, .int .i64 q100), (62, .int .u64 (cv .u64 (G_0.length : Int)))] ⟨rfl, rfl, rfl, rfl, rfl, rfl, rfl, rfl, rfl, get_g rfl (not_f hc132), get_g rfl (not_f hc132), get_g rfl (not_f hc132), trivial⟩ ?_
       obtain ⟨x133, hx134, hp118⟩ := bind_s hp118
       obtain ⟨ad135, vals136, _, hR137, hE138, hX139⟩ := mk_index Try.underlying27 zz30 (by decide) (f40.mono le102) hx134
       unfold R_alarm_Due at hR137
       subst hR137
       refine Rk.tF 10 rfl rfl rfl rfl (fun hW => fun _ _ => hX139 rfl rfl) ?_
       refine Rk.tF 11 rfl rfl rfl rfl (fun hW => fun _ _ => X.fieldE Try.underlying30 rfl zz26 rfl rfl) ?_
       refine Rk.tF 12 rfl rfl rfl rfl (fun hW => fun w hc => X.load1 Try.underlying26 rfl rfl ((El.part (part := [.int .u64 x133.Key]) hE138 1 rfl).at0 rfl hc)) ?_
       refine Rk.tF 16 rfl rfl rfl rfl (fun hW => fun _ _ => X.geq rfl rfl) ?_
       refine Rk.tN 17 rfl rfl (fun _ _ => X.pickF rfl rfl) ?_
       refine Rk.tN 18 rfl rfl (fun _ _ => X.move rfl) ?_
       refine Rk.tF 19 rfl rfl rfl rfl (fun hW => fun _ _ => X.move rfl) ?_
       refine Rk.tF 20 rfl rfl rfl rfl (fun hW => fun _ _ => X.move rfl) ?_
       refine Rk.tF 21 rfl rfl rfl rfl (fun hW => fun _ _ => X.move rfl) ?_
       refine Rk.tF 27 rfl rfl rfl rfl (fun hW => fun _ _ => X.move rfl) ?_
       refine Rk.tF 28 rfl rfl rfl rfl (fun hW => fun _ _ => X.move rfl) ?_
       refine Rk.split (b := decide ((cv .u64 (G_0.length : Int)) ≤ x133.Key)) (tj := 65) rfl (fun hc140 => ?_) (fun hc140 => ?_)
       ·have hp118 := ite_t hc140 hp118
        refine Rk.weak [(0, v1), (1, .int .i64 o_1), (5, .pointer (some ⟨b11, 0, none⟩)), (6, .int .i64 j20), (8, v33), (9, .int .i64 q100), (43, .int .i64 (x31.1.length : Int)), (44, .int .i64 q100), (65, .bool true), (66, undef), (67, undef), (68, undef), (74, undef), (75, undef)] ⟨rfl, rfl, rfl, rfl, rfl, rfl, rfl, rfl, rfl, get_u rfl (nn hc140), get_u rfl (nn hc140), get_u rfl (nn hc140), get_u rfl (nn hc140), get_u rfl (nn hc140), trivial⟩ ?_
        refine Rk.tO 22 rfl rfl rfl rfl rfl ?_
        refine Rk.tO 23 rfl rfl rfl rfl rfl ?_
        refine Rk.tO 24 rfl rfl rfl rfl rfl ?_
        refine Rk.tO 25 rfl rfl rfl rfl rfl ?_
        refine Rk.tO 26 rfl rfl rfl rfl rfl ?_
        refine Rk.tO 29 rfl rfl rfl rfl rfl ?_
        refine Rk.tO 30 rfl rfl rfl rfl rfl ?_
        refine Rk.tO 31 rfl rfl rfl rfl rfl ?_
        refine Rk.tO 32 rfl rfl rfl rfl rfl ?_
        refine Rk.tN 33 rfl rfl (fun _ _ => X.pickT rfl rfl) ?_
        refine Rk.tN 34 rfl rfl (fun _ _ => X.move rfl) ?_
        refine Rk.tO 35 rfl rfl rfl rfl rfl ?_
        refine Rk.tO 36 rfl rfl rfl rfl rfl ?_
        refine Rk.tO 37 rfl rfl rfl rfl rfl ?_
        refine Rk.tO 38 rfl rfl rfl rfl rfl ?_
        refine Rk.tO 39 rfl rfl rfl rfl rfl ?_
        refine Rk.tO 40 rfl rfl rfl rfl rfl ?_
        refine Rk.tO 41 rfl rfl rfl rfl rfl ?_
        refine Rk.tO 42 rfl rfl rfl rfl rfl ?_
        refine Rk.tO 43 rfl rfl rfl rfl rfl ?_
        refine Rk.tO 44 rfl rfl rfl rfl rfl ?_
        refine Rk.tO 45 rfl rfl rfl rfl rfl ?_
        refine Rk.tO 46 rfl rfl rfl rfl rfl ?_
        refine Rk.tO 47 rfl rfl rfl rfl rfl ?_
        refine Rk.tO 48 rfl rfl rfl rfl rfl ?_
        refine Rk.tO 49 rfl rfl rfl rfl rfl ?_
        refine Rk.tO 50 rfl rfl rfl rfl rfl ?_
        refine Rk.tO 51 rfl rfl rfl rfl rfl ?_
        refine Rk.tO 52 rfl rfl rfl rfl rfl ?_
        refine Rk.tO 53 rfl rfl rfl rfl rfl ?_
        refine Rk.tO 54 rfl rfl rfl rfl rfl ?_
        refine Rk.tO 55 rfl rfl rfl rfl rfl ?_
        refine Rk.tO 56 rfl rfl rfl rfl rfl ?_
        refine Rk.tO 57 rfl rfl rfl rfl rfl ?_
        refine Rk.tO 58 rfl rfl rfl rfl rfl ?_
        refine Rk.tO 59 rfl rfl rfl rfl rfl ?_
        refine Rk.tO 60 rfl rfl rfl rfl rfl ?_
        refine Rk.tO 61 rfl rfl rfl rfl rfl ?_
        refine Rk.tO 62 rfl rfl rfl rfl rfl ?_
        refine Rk.tO 63 rfl rfl rfl rfl rfl ?_
        refine Rk.tO 64 rfl rfl rfl rfl rfl ?_
        refine Rk.tO 65 rfl rfl rfl rfl rfl ?_
        refine Rk.tO 66 rfl rfl rfl rfl rfl ?_
        refine Rk.tO 67 rfl rfl rfl rfl rfl ?_
        refine Rk.tO 68 rfl rfl rfl rfl rfl ?_
        refine Rk.tO 69 rfl rfl rfl rfl rfl ?_
        refine Rk.tO 70 rfl rfl rfl rfl rfl ?_
        refine Rk.tO 71 rfl rfl rfl rfl rfl ?_
        refine Rk.tO 72 rfl rfl rfl rfl rfl ?_
        refine Rk.tO 73 rfl rfl rfl rfl rfl ?_
        refine Rk.tO 74 rfl rfl rfl rfl rfl ?_
        refine Rk.tO 75 rfl rfl rfl rfl rfl ?_
        refine Rk.tO 76 rfl rfl rfl rfl rfl ?_
        refine Rk.tO 77 rfl rfl rfl rfl rfl ?_
        refine Rk.tO 78 rfl rfl rfl rfl rfl ?_
        refine Rk.tN 79 rfl rfl (fun _ _ => X.pickT rfl rfl) ?_
        refine Rk.done ?_
        have e := some_s hp118
        subst e
        exact fun a ha => ⟨[(0, v1), (1, .int .i64 o_1), (5, .pointer (some ⟨b11, 0, none⟩)), (6, .int .i64 j20), (8, v33), (43, .int .i64 (x31.1.length : Int)), (44, .int .i64 q100), (126, .bool true)], ha.weak ⟨rfl, rfl, rfl, rfl, rfl, rfl, rfl, rfl, trivial⟩, S101, rfl, Le.refl _, hs⟩
       ·have hp118 := ite_f hc140 hp118
        refine Rk.weak [(0, v1), (1, .int .i64 o_1), (5, .pointer (some ⟨b11, 0, none⟩)), (6, .int .i64 j20), (8, v33), (9, .int .i64 q100), (43, .int .i64 (x31.1.length : Int)), (44, .int .i64 q100), (65, .bool false), (66, v1), (67, v33), (68, .int .i64 q100), (74, v33), (75, .int .i64 q100)] ⟨rfl, rfl, rfl, rfl, rfl, rfl, rfl, rfl, rfl, get_g rfl (not_f hc140), get_g rfl (not_f hc140), get_g rfl (not_f hc140), get_g rfl (not_f hc140), get_g rfl (not_f hc140), trivial⟩ ?_
        obtain ⟨x141, hx142, hp118⟩ := bind_s hp118
        obtain ⟨ad143, vals144, _, hR145, hE146, hX147⟩ := mk_index Try.underlying27 zz30 (by decide) (f40.mono le102) hx142
        unfold R_alarm_Due at hR145
        subst hR145
        refine Rk.tF 22 rfl rfl rfl rfl (fun hW => fun _ _ => hX147 rfl rfl) ?_
        refine Rk.tF 23 rfl rfl rfl rfl (fun hW => fun _ _ => X.fieldE Try.underlying30 rfl zz26 rfl rfl) ?_
        refine Rk.tF 24 rfl rfl rfl rfl (fun hW => fun w hc => X.load1 Try.underlying26 rfl rfl ((El.part (part := [.int .u64 x141.Key]) hE146 1 rfl).at0 rfl hc)) ?_
        obtain ⟨x148, hx149, hp118⟩ := bind_s hp118
        obtain ⟨ad150, vals151, _, hR152, hE153, hX154⟩ := mk_index Try.underlying22 zz2 (by decide) (f2.mono (le10.trans (le24.trans (le38.trans le102)))) hx149
        obtain rfl : vals151 = [.int .i64 x148] := hR152
        refine Rk.tF 25 rfl rfl rfl rfl (fun hW => fun _ _ => hX154 rfl rfl) ?_
        refine Rk.tF 26 rfl rfl rfl rfl (fun hW => fun w hc => X.load1 Try.underlying2 rfl rfl (hE153.at0 rfl hc)) ?_
        obtain ⟨x155, hx156, hp118⟩ := bind_s hp118
        obtain ⟨ad157, vals158, _, hR159, hE160, hX161⟩ := mk_index Try.underlying27 zz30 (by decide) (f40.mono le102) hx156
        unfold R_alarm_Due at hR159
        subst hR159
        refine Rk.tF 29 rfl rfl rfl rfl (fun hW => fun _ _ => hX161 rfl rfl) ?_
        refine Rk.tF 30 rfl rfl rfl rfl (fun hW => fun _ _ => X.fieldE Try.underlying30 rfl zz2 rfl rfl) ?_
        refine Rk.tF 31 rfl rfl rfl rfl (fun hW => fun w hc => X.load1 Try.underlying2 rfl rfl ((El.part (part := [.int .i64 x155.At]) hE160 0 rfl).at0 rfl hc)) ?_
        refine Rk.tF 32 rfl rfl rfl rfl (fun hW => fun _ _ => X.neq rfl rfl) ?_
        refine Rk.tN 33 rfl rfl (fun _ _ => X.pickF rfl rfl) ?_
        refine Rk.tN 34 rfl rfl (fun _ _ => X.move rfl) ?_
        refine Rk.tF 35 rfl rfl rfl rfl (fun hW => fun _ _ => X.move rfl) ?_
        refine Rk.tF 36 rfl rfl rfl rfl (fun hW => fun _ _ => X.gtr (ev_g rfl hW) rfl) ?_
        refine Rk.tF 37 rfl rfl rfl rfl (fun hW => fun _ _ => X.move (ev_g rfl hW)) ?_
        refine Rk.tGT 38 rfl rfl rfl rfl (fun hW => fun _ _ => X.move rfl) ?_
        refine Rk.tGT 39 rfl rfl rfl rfl (fun hW => fun _ _ => X.move rfl) ?_
        refine Rk.tGT 43 rfl rfl rfl rfl (fun hW => fun _ _ => X.move rfl) ?_
        refine Rk.tGT 44 rfl rfl rfl rfl (fun hW => fun _ _ => X.move rfl) ?_
        refine Rk.tGT 45 rfl rfl rfl rfl (fun hW => fun _ _ => X.sub (ev_g rfl hW) rfl) ?_
        refine Rk.split (b := x148 != x155.At) (tj := 81) rfl (fun hc162 => ?_) (fun hc162 => ?_)
        ·have hp118 := ite_t hc162 hp118
         refine Rk.weak [(0, v1), (1, .int .i64 o_1), (5, .pointer (some ⟨b11, 0, none⟩)), (6, .int .i64 j20), (8, v33), (9, .int .i64 q100), (43, .int .i64 (x31.1.length : Int)), (44, .int .i64 q100), (81, .bool true), (84, undef), (85, undef), (86, undef), (90, undef), (92, undef)] ⟨rfl, rfl, rfl, rfl, rfl, rfl, rfl, rfl, rfl, get_u rfl (nn hc162), get_u rfl (not_and_l (nn hc162)), get_u rfl (not_and_l (nn hc162)), get_u rfl (not_and_l (nn hc162)), get_u rfl (not_and_l (nn hc162)), trivial⟩ ?_
         refine Rk.tO 40 rfl rfl rfl rfl rfl ?_
         refine Rk.tO 41 rfl rfl rfl rfl rfl ?_
         refine Rk.tO 42 rfl rfl rfl rfl rfl ?_
         refine Rk.tO 46 rfl rfl rfl rfl rfl ?_
         refine Rk.tO 47 rfl rfl rfl rfl rfl ?_
         refine Rk.tO 48 rfl rfl rfl rfl rfl ?_
         refine Rk.tO 49 rfl rfl rfl rfl rfl ?_
         refine Rk.tO 50 rfl rfl rfl rfl rfl ?_
         refine Rk.tO 51 rfl rfl rfl rfl rfl ?_
         refine Rk.tO 52 rfl rfl rfl rfl rfl ?_
         refine Rk.tO 53 rfl rfl rfl rfl rfl ?_
         refine Rk.tO 54 rfl rfl rfl rfl rfl ?_
         refine Rk.tO 55 rfl rfl rfl rfl rfl ?_
         refine Rk.tO 56 rfl rfl rfl rfl rfl ?_
         refine Rk.tO 57 rfl rfl rfl rfl rfl ?_
         refine Rk.tO 58 rfl rfl rfl rfl rfl ?_
         refine Rk.tO 59 rfl rfl rfl rfl rfl ?_
         refine Rk.tO 60 rfl rfl rfl rfl rfl ?_
         refine Rk.tO 61 rfl rfl rfl rfl rfl ?_
         refine Rk.tO 62 rfl rfl rfl rfl rfl ?_
         refine Rk.tO 63 rfl rfl rfl rfl rfl ?_
         refine Rk.tO 64 rfl rfl rfl rfl rfl ?_
         refine Rk.tO 65 rfl rfl rfl rfl rfl ?_
         refine Rk.tO 66 rfl rfl rfl rfl rfl ?_
         refine Rk.tO 67 rfl rfl rfl rfl rfl ?_
         refine Rk.tO 68 rfl rfl rfl rfl rfl ?_
         refine Rk.tO 69 rfl rfl rfl rfl rfl ?_
         refine Rk.tO 70 rfl rfl rfl rfl rfl ?_
         refine Rk.tO 71 rfl rfl rfl rfl rfl ?_
         refine Rk.tO 72 rfl rfl rfl rfl rfl ?_
         refine Rk.tO 73 rfl rfl rfl rfl rfl ?_
         refine Rk.tO 74 rfl rfl rfl rfl rfl ?_
         refine Rk.tO 75 rfl rfl rfl rfl rfl ?_
         refine Rk.tO 76 rfl rfl rfl rfl rfl ?_
         refine Rk.tO 77 rfl rfl rfl rfl rfl ?_
         refine Rk.tO 78 rfl rfl rfl rfl rfl ?_
         refine Rk.tN 79 rfl rfl (fun _ _ => X.pickT rfl rfl) ?_
         refine Rk.done ?_
         have e := some_s hp118
         subst e
         exact fun a ha => ⟨[(0, v1), (1, .int .i64 o_1), (5, .pointer (some ⟨b11, 0, none⟩)), (6, .int .i64 j20), (8, v33), (43, .int .i64 (x31.1.length : Int)), (44, .int .i64 q100), (126, .bool true)], ha.weak ⟨rfl, rfl, rfl, rfl, rfl, rfl, rfl, rfl, trivial⟩, S101, rfl, Le.refl _, hs⟩
        ·have hp118 := ite_f hc162 hp118
         refine Rk.weak [(0, v1), (1, .int .i64 o_1), (5, .pointer (some ⟨b11, 0, none⟩)), (6, .int .i64 j20), (8, v33), (9, .int .i64 q100), (43, .int .i64 (x31.1.length : Int)), (44, .int .i64 q100), (81, .bool false), (84, .bool (decide (0 < q100))), (85, gv ((!(x148 != x155.At)) && (decide (0 < q100))) (v33)), (86, gv ((!(x148 != x155.At)) && (decide (0 < q100))) (.int .i64 q100)), (90, gv ((!(x148 != x155.At)) && (decide (0 < q100))) (v33)), (92, gv ((!(x148 != x155.At)) && (decide (0 < q100))) (.int .i64 (sub .i64 q100 1)))] ⟨rfl, rfl, rfl, rfl, rfl, rfl, rfl, rfl, rfl, get_g rfl (not_f hc162), rfl, rfl, rfl, rfl, trivial⟩ ?_
         refine Rk.split (b := decide (0 < q100)) (tj := 84) rfl (fun hc163 => ?_) (fun hc163 => ?_)
         ·have hp118 := ite_t hc163 hp118
          refine Rk.weak [(0, v1), (1, .int .i64 o_1), (5, .pointer (some ⟨b11, 0, none⟩)), (6, .int .i64 j20), (8, v33), (9, .int .i64 q100), (43, .int .i64 (x31.1.length : Int)), (44, .int .i64 q100), (81, .bool false), (84, .bool true), (85, v33), (86, .int .i64 q100), (90, v33), (92, .int .i64 (sub .i64 q100 1))] ⟨rfl, rfl, rfl, rfl, rfl, rfl, rfl, rfl, rfl, rfl, get_g rfl (and_i (not_f hc162) hc163), get_g rfl (and_i (not_f hc162) hc163), get_g rfl (and_i (not_f hc162) hc163), get_g rfl (and_i (not_f hc162) hc163), trivial⟩ ?_
          obtain ⟨x164, hx165, hp118⟩ := bind_s hp118
          obtain ⟨ad166, vals167, _, hR168, hE169, hX170⟩ := mk_index Try.underlying27 zz30 (by decide) (f40.mono le102) hx165
          unfold R_alarm_Due at hR168
          subst hR168
          refine Rk.tT 40 rfl rfl rfl rfl (fun hW => fun _ _ => hX170 rfl rfl) ?_
          refine Rk.tT 41 rfl rfl rfl rfl (fun hW => fun _ _ => X.fieldE Try.underlying30 rfl zz2 rfl rfl) ?_
          refine Rk.tT 42 rfl rfl rfl rfl (fun hW => fun w hc => X.load1 Try.underlying2 rfl rfl ((El.part (part := [.int .i64 x164.At]) hE169 0 rfl).at0 rfl hc)) ?_
          obtain ⟨x171, hx172, hp118⟩ := bind_s hp118
          obtain ⟨ad173, vals174, _, hR175, hE176, hX177⟩ := mk_index Try.underlying27 zz30 (by decide) (f40.mono le102) hx172
          unfold R_alarm_Due at hR175
          subst hR175
          refine Rk.tT 46 rfl rfl rfl rfl (fun hW => fun _ _ => hX177 rfl rfl) ?_
          refine Rk.tT 47 rfl rfl rfl rfl (fun hW => fun _ _ => X.fieldE Try.underlying30 rfl zz2 rfl rfl) ?_
          refine Rk.tT 48 rfl rfl rfl rfl (fun hW => fun w hc => X.load1 Try.underlying2 rfl rfl ((El.part (part := [.int .i64 x171.At]) hE176 0 rfl).at0 rfl hc)) ?_
          refine Rk.tT 49 rfl rfl rfl rfl (fun hW => fun _ _ => X.lss rfl rfl) ?_
          refine Rk.tT 50 rfl rfl rfl rfl (fun hW => fun _ _ => X.move rfl) ?_
          refine Rk.tF 51 rfl rfl rfl rfl (fun hW => fun _ _ => X.move rfl) ?_
          refine Rk.tF 52 rfl rfl rfl rfl (fun hW => fun _ _ => X.move rfl) ?_
          refine Rk.tF 56 rfl rfl rfl rfl (fun hW => fun _ _ => X.move rfl) ?_
          refine Rk.tF 57 rfl rfl rfl rfl (fun hW => fun _ _ => X.move rfl) ?_
          refine Rk.tF 58 rfl rfl rfl rfl (fun hW => fun _ _ => X.sub (ev_g rfl hW) rfl) ?_
          refine Rk.split (b := decide (x164.At < x171.At)) (tj := 97) rfl (fun hc178 => ?_) (fun hc178 => ?_)
          ·have hp118 := ite_t hc178 hp118
           refine Rk.weak [(0, v1), (1, .int .i64 o_1), (5, .pointer (some ⟨b11, 0, none⟩)), (6, .int .i64 j20), (8, v33), (9, .int .i64 q100), (43, .int .i64 (x31.1.length : Int)), (44, .int .i64 q100), (81, .bool false), (84, .bool true), (97, .bool true), (98, undef), (99, undef), (103, undef), (105, undef)] ⟨rfl, rfl, rfl, rfl, rfl, rfl, rfl, rfl, rfl, rfl, rfl, get_u rfl (nn hc178), get_u rfl (nn hc178), get_u rfl (nn hc178), get_u rfl (nn hc178), trivial⟩ ?_
           refine Rk.tO 53 rfl rfl rfl rfl rfl ?_
           refine Rk.tO 54 rfl rfl rfl rfl rfl ?_
           refine Rk.tO 55 rfl rfl rfl rfl rfl ?_
           refine Rk.tO 59 rfl rfl rfl rfl rfl ?_
           refine Rk.tO 60 rfl rfl rfl rfl rfl ?_
           refine Rk.tO 61 rfl rfl rfl rfl rfl ?_
           refine Rk.tO 62 rfl rfl rfl rfl rfl ?_
           refine Rk.tO 63 rfl rfl rfl rfl rfl ?_
           refine Rk.tO 64 rfl rfl rfl rfl rfl ?_
           refine Rk.tO 65 rfl rfl rfl rfl rfl ?_
           refine Rk.tO 66 rfl rfl rfl rfl rfl ?_
           refine Rk.tO 67 rfl rfl rfl rfl rfl ?_
           refine Rk.tO 68 rfl rfl rfl rfl rfl ?_
           refine Rk.tO 69 rfl rfl rfl rfl rfl ?_
           refine Rk.tO 70 rfl rfl rfl rfl rfl ?_
           refine Rk.tO 71 rfl rfl rfl rfl rfl ?_
           refine Rk.tO 72 rfl rfl rfl rfl rfl ?_
           refine Rk.tO 73 rfl rfl rfl rfl rfl ?_
           refine Rk.tO 74 rfl rfl rfl rfl rfl ?_
           refine Rk.tO 75 rfl rfl rfl rfl rfl ?_
           refine Rk.tO 76 rfl rfl rfl rfl rfl ?_
           refine Rk.tT 77 rfl rfl rfl rfl (fun hW => fun _ _ => X.pickT rfl rfl) ?_
           refine Rk.tF 78 rfl rfl rfl rfl (fun hW => fun _ _ => X.pickT rfl rfl) ?_
           refine Rk.weak [(0, v1), (1, .int .i64 o_1), (5, .pointer (some ⟨b11, 0, none⟩)), (6, .int .i64 j20), (8, v33), (43, .int .i64 (x31.1.length : Int)), (44, .int .i64 q100), (81, .bool false), (125, .bool true)] ⟨rfl, rfl, rfl, rfl, rfl, rfl, rfl, rfl, rfl, trivial⟩ ?_
           refine Rk.tN 79 rfl rfl (fun _ _ => X.pickF rfl rfl) ?_
           refine Rk.done ?_
           have e := some_s hp118
           subst e
           exact fun a ha => ⟨[(0, v1), (1, .int .i64 o_1), (5, .pointer (some ⟨b11, 0, none⟩)), (6, .int .i64 j20), (8, v33), (43, .int .i64 (x31.1.length : Int)), (44, .int .i64 q100), (126, .bool true)], ha.weak ⟨rfl, rfl, rfl, rfl, rfl, rfl, rfl, rfl, trivial⟩, S101, rfl, Le.refl _, hs⟩
          ·have hp118 := ite_f hc178 hp118
           refine Rk.weak [(0, v1), (1, .int .i64 o_1), (5, .pointer (some ⟨b11, 0, none⟩)), (6, .int .i64 j20), (8, v33), (9, .int .i64 q100), (43, .int .i64 (x31.1.length : Int)), (44, .int .i64 q100), (81, .bool false), (84, .bool true), (97, .bool false), (98, v33), (99, .int .i64 q100), (103, v33), (105, .int .i64 (sub .i64 q100 1))] ⟨rfl, rfl, rfl, rfl, rfl, rfl, rfl, rfl, rfl, rfl, rfl, get_g rfl (not_f hc178), get_g rfl (not_f hc178), get_g rfl (not_f hc178), get_g rfl (not_f hc178), trivial⟩ ?_
           obtain ⟨x179, hx180, hp118⟩ := bind_s hp118
           obtain ⟨ad181, vals182, _, hR183, hE184, hX185⟩ := mk_index Try.underlying27 zz30 (by decide) (f40.mono le102) hx180
           unfold R_alarm_Due at hR183
           subst hR183
           refine Rk.tF 53 rfl rfl rfl rfl (fun hW => fun _ _ => hX185 rfl rfl) ?_
           refine Rk.tF 54 rfl rfl rfl rfl (fun hW => fun _ _ => X.fieldE Try.underlying30 rfl zz2 rfl rfl) ?_
           refine Rk.tF 55 rfl rfl rfl rfl (fun hW => fun w hc => X.load1 Try.underlying2 rfl rfl ((El.part (part := [.int .i64 x179.At]) hE184 0 rfl).at0 rfl hc)) ?_
           obtain ⟨x186, hx187, hp118⟩ := bind_s hp118
           obtain ⟨ad188, vals189, _, hR190, hE191, hX192⟩ := mk_index Try.underlying27 zz30 (by decide) (f40.mono le102) hx187
           unfold R_alarm_Due at hR190
           subst hR190
           refine Rk.tF 59 rfl rfl rfl rfl (fun hW => fun _ _ => hX192 rfl rfl) ?_
           refine Rk.tF 60 rfl rfl rfl rfl (fun hW => fun _ _ => X.fieldE Try.underlying30 rfl zz2 rfl rfl) ?_
           refine Rk.tF 61 rfl rfl rfl rfl (fun hW => fun w hc => X.load1 Try.underlying2 rfl rfl ((El.part (part := [.int .i64 x186.At]) hE191 0 rfl).at0 rfl hc)) ?_
           refine Rk.tF 62 rfl rfl rfl rfl (fun hW => fun _ _ => X.eql rfl rfl) ?_
           refine Rk.tF 63 rfl rfl rfl rfl (fun hW => fun _ _ => X.move rfl) ?_
           refine Rk.tT 64 rfl rfl rfl rfl (fun hW => fun _ _ => X.move rfl) ?_
           refine Rk.tT 65 rfl rfl rfl rfl (fun hW => fun _ _ => X.move rfl) ?_
           refine Rk.tT 69 rfl rfl rfl rfl (fun hW => fun _ _ => X.move rfl) ?_
           refine Rk.tT 70 rfl rfl rfl rfl (fun hW => fun _ _ => X.move rfl) ?_
           refine Rk.tT 71 rfl rfl rfl rfl (fun hW => fun _ _ => X.sub (ev_g rfl hW) rfl) ?_
           refine Rk.split (b := x179.At == x186.At) (tj := 110) rfl (fun hc193 => ?_) (fun hc193 => ?_)
           ·have hp118 := ite_t hc193 hp118
            refine Rk.weak [(0, v1), (1, .int .i64 o_1), (5, .pointer (some ⟨b11, 0, none⟩)), (6, .int .i64 j20), (8, v33), (43, .int .i64 (x31.1.length : Int)), (44, .int .i64 q100), (81, .bool false), (84, .bool true), (97, .bool false), (110, .bool true), (111, v33), (112, .int .i64 q100), (116, v33), (118, .int .i64 (sub .i64 q100 1))] ⟨rfl, rfl, rfl, rfl, rfl, rfl, rfl, rfl, rfl, rfl, rfl, get_g rfl hc193, get_g rfl hc193, get_g rfl hc193, get_g rfl hc193, trivial⟩ ?_
            obtain ⟨x194, hx195, hp118⟩ := bind_s hp118
            obtain ⟨ad196, vals197, _, hR198, hE199, hX200⟩ := mk_index Try.underlying27 zz30 (by decide) (f40.mono le102) hx195
            unfold R_alarm_Due at hR198
            subst hR198
            refine Rk.tT 66 rfl rfl rfl rfl (fun hW => fun _ _ => hX200 rfl rfl) ?_
            refine Rk.tT 67 rfl rfl rfl rfl (fun hW => fun _ _ => X.fieldE Try.underlying30 rfl zz26 rfl rfl) ?_
            refine Rk.tT 68 rfl rfl rfl rfl (fun hW => fun w hc => X.load1 Try.underlying26 rfl rfl ((El.part (part := [.int .u64 x194.Key]) hE199 1 rfl).at0 rfl hc)) ?_
            obtain ⟨x201, hx202, hp118⟩ := bind_s hp118
            obtain ⟨ad203, vals204, _, hR205, hE206, hX207⟩ := mk_index Try.underlying27 zz30 (by decide) (f40.mono le102) hx202
            unfold R_alarm_Due at hR205
            subst hR205
            refine Rk.tT 72 rfl rfl rfl rfl (fun hW => fun _ _ => hX207 rfl rfl) ?_
            refine Rk.tT 73 rfl rfl rfl rfl (fun hW => fun _ _ => X.fieldE Try.underlying30 rfl zz26 rfl rfl) ?_
            refine Rk.tT 74 rfl rfl rfl rfl (fun hW => fun w hc => X.load1 Try.underlying26 rfl rfl ((El.part (part := [.int .u64 x201.Key]) hE206 1 rfl).at0 rfl hc)) ?_
            refine Rk.tT 75 rfl rfl rfl rfl (fun hW => fun _ _ => X.leq rfl rfl) ?_
            refine Rk.tF 76 rfl rfl rfl rfl (fun hW => fun _ _ => X.pickT rfl rfl) ?_
            refine Rk.weak [(0, v1), (1, .int .i64 o_1), (5, .pointer (some ⟨b11, 0, none⟩)), (6, .int .i64 j20), (8, v33), (43, .int .i64 (x31.1.length : Int)), (44, .int .i64 q100), (81, .bool false), (84, .bool true), (97, .bool false), (123, .bool (decide (x194.Key ≤ x201.Key)))] ⟨rfl, rfl, rfl, rfl, rfl, rfl, rfl, rfl, rfl, rfl, rfl, trivial⟩ ?_
            refine Rk.tT 77 rfl rfl rfl rfl (fun hW => fun _ _ => X.pickF rfl rfl) ?_
            refine Rk.tF 78 rfl rfl rfl rfl (fun hW => fun _ _ => X.pickT rfl rfl) ?_
            refine Rk.tN 79 rfl rfl (fun _ _ => X.pickF rfl rfl) ?_
            refine Rk.done ?_
            have e := some_s hp118
            subst e
            exact fun a ha => ⟨[(0, v1), (1, .int .i64 o_1), (5, .pointer (some ⟨b11, 0, none⟩)), (6, .int .i64 j20), (8, v33), (43, .int .i64 (x31.1.length : Int)), (44, .int .i64 q100), (126, .bool (decide (x194.Key ≤ x201.Key)))], ha.weak ⟨rfl, rfl, rfl, rfl, rfl, rfl, rfl, rfl, trivial⟩, S101, rfl, Le.refl _, hs⟩
           ·have hp118 := ite_f hc193 hp118
            refine Rk.weak [(0, v1), (1, .int .i64 o_1), (5, .pointer (some ⟨b11, 0, none⟩)), (6, .int .i64 j20), (8, v33), (43, .int .i64 (x31.1.length : Int)), (44, .int .i64 q100), (81, .bool false), (84, .bool true), (97, .bool false), (110, .bool false), (111, undef), (112, undef), (116, undef), (118, undef)] ⟨rfl, rfl, rfl, rfl, rfl, rfl, rfl, rfl, rfl, rfl, rfl, get_u rfl (not_f hc193), get_u rfl (not_f hc193), get_u rfl (not_f hc193), get_u rfl (not_f hc193), trivial⟩ ?_
            refine Rk.tO 66 rfl rfl rfl rfl rfl ?_
            refine Rk.tO 67 rfl rfl rfl rfl rfl ?_
            refine Rk.tO 68 rfl rfl rfl rfl rfl ?_
            refine Rk.tO 72 rfl rfl rfl rfl rfl ?_
            refine Rk.tO 73 rfl rfl rfl rfl rfl ?_
            refine Rk.tO 74 rfl rfl rfl rfl rfl ?_
            refine Rk.tO 75 rfl rfl rfl rfl rfl ?_
            refine Rk.tF 76 rfl rfl rfl rfl (fun hW => fun _ _ => X.pickF rfl rfl) ?_
            refine Rk.tT 77 rfl rfl rfl rfl (fun hW => fun _ _ => X.pickF rfl rfl) ?_
            refine Rk.tF 78 rfl rfl rfl rfl (fun hW => fun _ _ => X.pickT rfl rfl) ?_
            refine Rk.weak [(0, v1), (1, .int .i64 o_1), (5, .pointer (some ⟨b11, 0, none⟩)), (6, .int .i64 j20), (8, v33), (43, .int .i64 (x31.1.length : Int)), (44, .int .i64 q100), (81, .bool false), (125, .bool false)] ⟨rfl, rfl, rfl, rfl, rfl, rfl, rfl, rfl, rfl, trivial⟩ ?_
            refine Rk.tN 79 rfl rfl (fun _ _ => X.pickF rfl rfl) ?_
            refine Rk.done ?_
            have e := some_s hp118
            subst e
            exact fun a ha => ⟨[(0, v1), (1, .int .i64 o_1), (5, .pointer (some ⟨b11, 0, none⟩)), (6, .int .i64 j20), (8, v33), (43, .int .i64 (x31.1.length : Int)), (44, .int .i64 q100), (126, .bool false)], ha.weak ⟨rfl, rfl, rfl, rfl, rfl, rfl, rfl, rfl, trivial⟩, S101, rfl, Le.refl _, hs⟩
         ·have hp118 := ite_f hc163 hp118
          refine Rk.weak [(0, v1), (1, .int .i64 o_1), (5, .pointer (some ⟨b11, 0, none⟩)), (6, .int .i64 j20), (8, v33), (9, .int .i64 q100), (43, .int .i64 (x31.1.length : Int)), (44, .int .i64 q100), (81, .bool false), (84, .bool false), (85, undef), (86, undef), (90, undef), (92, undef)] ⟨rfl, rfl, rfl, rfl, rfl, rfl, rfl, rfl, rfl, rfl, get_u rfl (not_and_r (not_f hc163)), get_u rfl (not_and_r (not_f hc163)), get_u rfl (not_and_r (not_f hc163)), get_u rfl (not_and_r (not_f hc163)), trivial⟩ ?_
          refine Rk.tO 40 rfl rfl rfl rfl rfl ?_
          refine Rk.tO 41 rfl rfl rfl rfl rfl ?_
          refine Rk.tO 42 rfl rfl rfl rfl rfl ?_
          refine Rk.tO 46 rfl rfl rfl rfl rfl ?_
          refine Rk.tO 47 rfl rfl rfl rfl rfl ?_
          refine Rk.tO 48 rfl rfl rfl rfl rfl ?_
          refine Rk.tO 49 rfl rfl rfl rfl rfl ?_
          refine Rk.tO 50 rfl rfl rfl rfl rfl ?_
          refine Rk.tO 51 rfl rfl rfl rfl rfl ?_
          refine Rk.tO 52 rfl rfl rfl rfl rfl ?_
          refine Rk.tO 53 rfl rfl rfl rfl rfl ?_
          refine Rk.tO 54 rfl rfl rfl rfl rfl ?_
          refine Rk.tO 55 rfl rfl rfl rfl rfl ?_
          refine Rk.tO 56 rfl rfl rfl rfl rfl ?_
          refine Rk.tO 57 rfl rfl rfl rfl rfl ?_
          refine Rk.tO 58 rfl rfl rfl rfl rfl ?_
          refine Rk.tO 59 rfl rfl rfl rfl rfl ?_
          refine Rk.tO 60 rfl rfl rfl rfl rfl ?_
          refine Rk.tO 61 rfl rfl rfl rfl rfl ?_
          refine Rk.tO 62 rfl rfl rfl rfl rfl ?_
          refine Rk.tO 63 rfl rfl rfl rfl rfl ?_
          refine Rk.tO 64 rfl rfl rfl rfl rfl ?_
          refine Rk.tO 65 rfl rfl rfl rfl rfl ?_
          refine Rk.tO 66 rfl rfl rfl rfl rfl ?_
          refine Rk.tO 67 rfl rfl rfl rfl rfl ?_
          refine Rk.tO 68 rfl rfl rfl rfl rfl ?_
          refine Rk.tO 69 rfl rfl rfl rfl rfl ?_
          refine Rk.tO 70 rfl rfl rfl rfl rfl ?_
          refine Rk.tO 71 rfl rfl rfl rfl rfl ?_
          refine Rk.tO 72 rfl rfl rfl rfl rfl ?_
          refine Rk.tO 73 rfl rfl rfl rfl rfl ?_
          refine Rk.tO 74 rfl rfl rfl rfl rfl ?_
          refine Rk.tO 75 rfl rfl rfl rfl rfl ?_
          refine Rk.tO 76 rfl rfl rfl rfl rfl ?_
          refine Rk.tO 77 rfl rfl rfl rfl rfl ?_
          refine Rk.tF 78 rfl rfl rfl rfl (fun hW => fun _ _ => X.pickF rfl rfl) ?_
          refine Rk.tN 79 rfl rfl (fun _ _ => X.pickF rfl rfl) ?_
          refine Rk.done ?_
          have e := some_s hp118
          subst e
          exact fun a ha => ⟨[(0, v1), (1, .int .i64 o_1), (5, .pointer (some ⟨b11, 0, none⟩)), (6, .int .i64 j20), (8, v33), (43, .int .i64 (x31.1.length : Int)), (44, .int .i64 q100), (126, .bool false)], ha.weak ⟨rfl, rfl, rfl, rfl, rfl, rfl, rfl, rfl, trivial⟩, S101, rfl, Le.refl _, hs⟩
   ·have h106 := ite_f hc109 h106
    refine Cd.exit ?_
    obtain rfl := some_s h106
    have e := hl105 (fun _ e => by cases e)
    exact fun a ha => ⟨[(0, v1), (1, .int .i64 o_1), (5, .pointer (some ⟨b11, 0, none⟩)), (6, .int .i64 j20), (8, v33)], ha.weak ⟨rfl, rfl, rfl, rfl, rfl, trivial⟩, _, S101, rfl, e.symm, le102, hs⟩
 ·skip
  refine Cd.weak [(0, v1), (1, .int .i64 o_1), (5, .pointer (some ⟨b11, 0, none⟩)), (6, .int .i64 0), (7, .int .i64 0)] ⟨rfl, rfl, rfl, rfl, rfl, trivial⟩ ?_
  refine Cd.block (Cd.loop (fun sg => limelightlaw12_AlarmOrder_l0 G_0 o_1 sg.1 sg.2.1 sg.2.2) (fun (sg : (Int × Int × (List alarm_Due))) K w => ∃ (S217 : Mp) (v219 : Value) (g220 : Option Nat) (cur221 : Array Value), K = [(0, v1), (1, .int .i64 o_1), (5, .pointer (some ⟨b11, 0, none⟩)), (6, .int .i64 sg.1), (7, .int .i64 sg.2.1)] ∧ Le S8 S217 ∧ St w0 [] S0 S217 [.row g220 cur221 30, .box b11 #[v219] 44] w ∧ Rw S217 2 R_alarm_Due g220 cur221 v219 sg.2.2) (0, 0, x3.l_) fl18 hfl19 ⟨S8, v13, g14, cur15, rfl, Le.refl _, hs, f16⟩ ?_)
  rintro ⟨q214, q215, q216⟩ fl223 K228 w227 hb224 ⟨S217, v219, g220, cur221, rfl, le218, hs, f222⟩ hl225
  have h226 : limelightlaw12_AlarmOrder_l0 G_0 o_1 q214 q215 q216 = some fl223 := hb224
  unfold limelightlaw12_AlarmOrder_l0 at h226
  refine Cd.seq ?_
  refine Cd.sr ?_
  refine Rg.mv rfl rfl ?_
  refine Rg.mv rfl rfl ?_
  refine Rg.vN (X.lenR Try.underlying22 rfl (f2.mono (le10.trans le218))) rfl ?_
  refine Rg.vN (X.lss rfl rfl) rfl ?_
  refine Rg.mv rfl rfl ?_
  refine Rg.vT rfl rfl rfl (fun hW => X.move rfl) ?_
  refine Rg.vT rfl rfl rfl (fun hW => X.lss (ev_g rfl hW) rfl) ?_
  refine Rg.vN (X.pickAnd rfl rfl rfl) rfl ?_
  refine Rg.go ?_
  refine Cd.cond (t := (decide (q215 < (G_0.length : Int))) && (decide (q215 < 60))) rfl (fun hc229 => ?_) (fun hc229 => ?_)
  ·have h226 := ite_t hc229 h226
   refine Cd.sg ?_
   refine Cd.seq ?_
   obtain ⟨p232, hp233, h226⟩ := bind_s h226
   refine Cd.post (fun K w => ∃ (S234 : Mp) (v237 : Value) (g238 : Option Nat) (cur239 : Array Value), K = [(0, v1), (1, .int .i64 o_1), (5, .pointer (some ⟨b11, 0, none⟩)), (6, .int .i64 p232.1), (7, .int .i64 q215)] ∧ Le S217 S234 ∧ St w0 [] S0 S234 [.row g238 cur239 30, .box b11 #[v237] 44] w ∧ Rw S234 2 R_alarm_Due g238 cur239 v237 p232.2) ?_ ?_
   ·rintro K241 w235 ⟨S234, v237, g238, cur239, rfl, le236, hs, f240⟩
    refine Cd.go ?_
    refine Cd.region ?_
    refine Rg.mv rfl rfl ?_
    refine Rg.weak [(0, v1), (1, .int .i64 o_1), (5, .pointer (some ⟨b11, 0, none⟩)), (6, .int .i64 p232.1), (21, .int .i64 q215)] ⟨rfl, rfl, rfl, rfl, rfl, trivial⟩ ?_
    refine Rg.vN (X.add rfl rfl) rfl ?_
    refine Rg.st rfl rfl ?_
    refine Rg.nil ?_
    exact fun a ha => ⟨(p232.1, add .i64 q215 1, p232.2), [(0, v1), (1, .int .i64 o_1), (5, .pointer (some ⟨b11, 0, none⟩)), (6, .int .i64 p232.1), (7, .int .i64 (add .i64 q215 1))], (some_s h226).symm, ha.weak ⟨rfl, rfl, rfl, rfl, rfl, trivial⟩, S234, v237, g238, cur239, rfl, (le218.trans le236), hs, f240⟩
   ·skip
    refine Cd.block ?_
    refine Cd.sr ?_
    refine Rg.mv rfl rfl ?_
    refine Rg.weak [(0, v1), (1, .int .i64 o_1), (5, .pointer (some ⟨b11, 0, none⟩)), (6, .int .i64 q214), (7, .int .i64 q215), (23, .pointer (some ⟨b11, 0, none⟩))] ⟨rfl, rfl, rfl, rfl, rfl, rfl, trivial⟩ ?_
    refine Rg.mv rfl rfl ?_
    refine Rg.vN (X.conv Try.underlying3 Try.underlying26 rfl) rfl ?_
    refine Rg.mv rfl rfl ?_
    refine Rg.mv rfl rfl ?_
    obtain ⟨x242, hx243, hp233⟩ := bind_s hp233
    obtain ⟨ad244, vals245, _, hR246, hE247, hX248⟩ := mk_index Try.underlying22 zz2 (by decide) (f2.mono (le10.trans le218)) hx243
    obtain rfl : vals245 = [.int .i64 x242] := hR246
    refine Rg.vN (hX248 rfl rfl) rfl ?_
    refine Rg.vN (X.load1 Try.underlying2 rfl rfl (hE247.at0 rfl hs.has)) rfl ?_
    obtain ⟨x249, hx250, hp233⟩ := bind_s hp233
    refine Rg.step rfl (Oq.call Try.call8 rfl rfl (c8 S217 _ (⟨q216⟩ : alarm_Table) _ _ _ f222 _ _ (hs.enterP [1, 0] (by decide) rfl (by cases g220 <;> rfl)) _ hx250) (fun v251 w252 h253 => ?_))
    obtain ⟨S254, v257, g258, cur259, rfl, hs255, f260⟩ := h253
    have le256 := hs255.le
    have hs := hs.callP [1, 0] rfl (by cases g220 <;> rfl) hs255
    refine Rg.go ?_
    refine Cd.sr ?_
    refine Rg.mv rfl rfl ?_
    refine Rg.mv rfl rfl ?_
    obtain ⟨x261, hx262, hp233⟩ := bind_s hp233
    obtain ⟨ad263, vals264, _, hR265, hE266, hX267⟩ := mk_index Try.underlying22 zz2 (by decide) (f2.mono (le10.trans (le218.trans le256))) hx262
    obtain rfl : vals264 = [.int .i64 x261] := hR265
    refine Rg.vN (hX267 rfl rfl) rfl ?_
    refine Rg.weak [(0, v1), (1, .int .i64 o_1), (5, .pointer (some ⟨b11, 0, none⟩)), (6, .int .i64 q214), (7, .int .i64 q215), (33, .pointer (some ad263))] ⟨rfl, rfl, rfl, rfl, rfl, rfl, trivial⟩ ?_
    refine Rg.vN (X.load1 Try.underlying2 rfl rfl (hE266.at0 rfl hs.has)) rfl ?_
    refine Rg.mv rfl rfl ?_
    refine Rg.vN (X.leq rfl rfl) rfl ?_
    refine Rg.go ?_
    obtain ⟨p269, hp270, hp233⟩ := bind_s hp233
    refine Cd.post (fun K w => ∃ (S271 : Mp), K = [(0, v1), (1, .int .i64 o_1), (5, .pointer (some ⟨b11, 0, none⟩)), (6, .int .i64 p269), (7, .int .i64 q215)] ∧ Le S254 S271 ∧ St w0 [] S0 S271 [.row g258 cur259 30, .box b11 #[v257] 44] w) ?_ ?_
    ·rintro K274 w272 ⟨S271, rfl, le273, hs⟩
     obtain rfl := some_s hp233
     exact fun a ha => ⟨[(0, v1), (1, .int .i64 o_1), (5, .pointer (some ⟨b11, 0, none⟩)), (6, .int .i64 p269), (7, .int .i64 q215)], ha.weak ⟨rfl, rfl, rfl, rfl, rfl, trivial⟩, S271, v257, g258, cur259, rfl, (le256.trans le273), hs, (f260.mono le273)⟩
    ·skip
     refine Cd.cond (t := decide (x261 ≤ o_1)) rfl (fun hc275 => ?_) (fun hc275 => ?_)
     ·have hp270 := ite_t hc275 hp270
      refine Cd.region ?_
      refine Rg.mv rfl rfl ?_
      refine Rg.vN (X.add rfl rfl) rfl ?_
      refine Rg.st rfl rfl ?_
      refine Rg.nil ?_
      have e := some_s hp270
      subst e
      exact fun a ha => ⟨[(0, v1), (1, .int .i64 o_1), (5, .pointer (some ⟨b11, 0, none⟩)), (6, .int .i64 (add .i64 q214 1)), (7, .int .i64 q215)], ha.weak ⟨rfl, rfl, rfl, rfl, rfl, trivial⟩, S254, rfl, Le.refl _, hs⟩
     ·have hp270 := ite_f hc275 hp270
      refine Cd.skip ?_
      have e := some_s hp270
      subst e
      exact fun a ha => ⟨[(0, v1), (1, .int .i64 o_1), (5, .pointer (some ⟨b11, 0, none⟩)), (6, .int .i64 q214), (7, .int .i64 q215)], ha.weak ⟨rfl, rfl, rfl, rfl, rfl, trivial⟩, S254, rfl, Le.refl _, hs⟩
  ·have h226 := ite_f hc229 h226
   refine Cd.exit ?_
   obtain rfl := some_s h226
   have e := hl225 (fun _ e => by cases e)
   exact fun a ha => ⟨[(0, v1), (1, .int .i64 o_1), (5, .pointer (some ⟨b11, 0, none⟩)), (6, .int .i64 q214)], ha.weak ⟨rfl, rfl, rfl, rfl, trivial⟩, _, _, _, S217, v219, g220, cur221, rfl, e.symm, le218, hs, f222⟩
noncomputable def limelightlaw12_AlarmNumbers_l1 (q39 : Int) (q71 : (List limelightlaw12_Ask)) (q72 : Int) : Option (Flow ((List limelightlaw12_Ask) × Int) Bool) :=
 if (decide (q72 < 90)) = true then (
  (app 24 q71 ([(⟨rem .i64 (add .i64 (mul .i64 q72 q72) q39) 5, cv .u64 (rem .i64 (mul .i64 q72 (add .i64 q39 1)) 13), sub .i64 (rem .i64 (mul .i64 q72 q39) 31) 4⟩ : limelightlaw12_Ask)] : List limelightlaw12_Ask)).bind fun y93 =>
  some (Flow.next (y93, add .i64 q72 1)))
 else (
  some (Flow.brk (q71, q72)))
noncomputable def limelightlaw12_AlarmNumbers_l0 (q39 : Int) : Option (Flow Int Bool) :=
 if (decide (q39 < 40)) = true then (
  (loopF (fun sg => limelightlaw12_AlarmNumbers_l1 q39 sg.1 sg.2) (([] : List limelightlaw12_Ask), 0)).bind fun fl50 =>
  Flow.el fl50 (fun s101 => (
   none))
  (fun s102 => (
   (limelightlaw12_play s102.1).bind fun x62 =>
   if (!x62) = true then (
    some (Flow.ret false))
   else (
    some (Flow.next (add .i64 q39 1)))))
  (fun r103 => (
   none)))
 else (
  some (Flow.brk q39))
noncomputable def limelightlaw12_AlarmNumbers : Option Bool :=
 (loopF (fun sg => limelightlaw12_AlarmNumbers_l0 sg) 0).bind fun fl1 =>
 Flow.el fl1 (fun s104 => (
  none))
 (fun s105 => (
  ((
   (limelightlaw12_play ([(⟨0, 0, -9223372036854775808⟩ : limelightlaw12_Ask), (⟨0, 18446744073709551615, 9223372036854775807⟩ : limelightlaw12_Ask), (⟨4, 0, 9223372036854775807⟩ : limelightlaw12_Ask)] : List limelightlaw12_Ask)).bind fun x22 =>
   if x22 = true then (
    (limelightlaw12_known ).bind fun x31 =>
    some x31)
   else (
    some false) : Option Bool)).bind fun p9 =>
  some p9))
 (fun r106 => (
  some r106))
def Po4 (S0 : Mp) (w0 : World) (D : List Nat) (r : Bool) (v : Value) (w1 : World) : Prop :=
  ∃ (S1 : Mp), v = .bool r ∧ St w0 D S0 S1 [] w1
set_option maxHeartbeats 4000000 in
theorem c4 (S0 : Mp) {w0 : World} (hs : St w0 [] S0 S0 [] w0)  (r : Bool) (h0 : limelightlaw12_AlarmNumbers = some r) :
    Calls Try.prog 4 #[] w0 (Re (Po4 S0 w0 [] r)) := by
 unfold limelightlaw12_AlarmNumbers at h0
 refine calls_of_cd Try.func4 rfl Try.ntmps4 rfl ?_
 refine Cd.sr ?_
 refine Rg.st rfl rfl ?_
 refine Rg.go ?_
 refine Cd.seq ?_
 refine Cd.sr ?_
 refine Rg.st rfl rfl ?_
 refine Rg.go ?_
 obtain ⟨fl1, hfl2, h0⟩ := bind_s h0
 refine Cd.post (fun K w => ∃ (j3 : Int) (S4 : Mp), K = [] ∧ fl1 = Flow.brk j3 ∧ Le S0 S4 ∧ St w0 [] S0 S4 [] w) ?_ ?_
 ·rintro K7 w6 ⟨j3, S4, rfl, rfl, le5, hs⟩
  have h0 := el_brk h0
  try dsimp only at h0
  refine Cd.go ?_
  refine Cd.seq ?_
  obtain ⟨p9, hp10, h0⟩ := bind_s h0
  refine Cd.post (fun K w => ∃ (S11 : Mp), K = [(0, .bool p9)] ∧ Le S4 S11 ∧ St w0 [] S0 S11 [] w) ?_ ?_
  ·rintro K14 w12 ⟨S11, rfl, le13, hs⟩
   refine Cd.go ?_
   refine Cd.ret ?_
   obtain rfl := some_s h0
   exact fun a ha => Cd.retA (R := Re (Po4 S0 w0 _ _)) ha Try.results4 ⟨_, _, rfl, rfl, rfl⟩ ⟨_, rfl, S11, rfl, hs⟩
  ·skip
   refine Cd.region ?_
   refine Rg.vN (X.build (zc := [.int .i64 0, .int .u64 0, .int .i64 0]) (cells := [.int .i64 0, .int .u64 0, .int .i64 (-9223372036854775808)]) ii36 rfl rfl Try.underlying36 (pp36 _ Try.underlying36) ⟨_, [.int .i64 (-9223372036854775808)], _, rfl, rfl, rfl, rfl⟩ rfl) rfl ?_
   refine Rg.vN (X.build (zc := [.int .i64 0, .int .u64 0, .int .i64 0]) (cells := [.int .i64 0, .int .u64 18446744073709551615, .int .i64 9223372036854775807]) ii36 rfl rfl Try.underlying36 (pp36 _ Try.underlying36) ⟨_, [.int .u64 18446744073709551615], _, rfl, rfl, rfl, ⟨_, [.int .i64 9223372036854775807], _, rfl, rfl, rfl, rfl⟩⟩ rfl) rfl ?_
   refine Rg.vN (X.build (zc := [.int .i64 0, .int .u64 0, .int .i64 0]) (cells := [.int .i64 4, .int .u64 0, .int .i64 9223372036854775807]) ii36 rfl rfl Try.underlying36 (pp36 _ Try.underlying36) ⟨_, [.int .i64 4], _, rfl, rfl, rfl, ⟨_, [.int .i64 9223372036854775807], _, rfl, rfl, rfl, rfl⟩⟩ rfl) rfl ?_
   refine Rg.step rfl (Oq.lit (sz := 3) (cs0 := [.int .i64 0, .int .u64 0, .int .i64 0, .int .i64 0, .int .u64 0, .int .i64 0, .int .i64 0, .int .u64 0, .int .i64 0]) (cells := [.int .i64 0, .int .u64 0, .int .i64 (-9223372036854775808), .int .i64 0, .int .u64 18446744073709551615, .int .i64 9223372036854775807, .int .i64 4, .int .u64 0, .int .i64 9223372036854775807]) hs Try.underlying34 ii36 rfl rfl rfl rfl rfl rfl ⟨_, [.int .i64 0, .int .u64 0, .int .i64 (-9223372036854775808)], _, rfl, rfl, rfl, ⟨_, [.int .i64 0, .int .u64 18446744073709551615, .int .i64 9223372036854775807], _, rfl, rfl, rfl, ⟨_, [.int .i64 4, .int .u64 0, .int .i64 9223372036854775807], _, rfl, rfl, rfl, rfl⟩⟩⟩ rfl rfl rfl (fun b15 w16 S17 hs le18 hE19 => ?_))
   have f21 : Rd S17 3 R_limelightlaw12_Ask (.slice (some ⟨b15, 0, none⟩) 3 3) ([(⟨0, 0, -9223372036854775808⟩ : limelightlaw12_Ask), (⟨0, 18446744073709551615, 9223372036854775807⟩ : limelightlaw12_Ask), (⟨4, 0, 9223372036854775807⟩ : limelightlaw12_Ask)] : List limelightlaw12_Ask) := Rd.of_cells (xs := ([(⟨0, 0, -9223372036854775808⟩ : limelightlaw12_Ask), (⟨0, 18446744073709551615, 9223372036854775807⟩ : limelightlaw12_Ask), (⟨4, 0, 9223372036854775807⟩ : limelightlaw12_Ask)] : List limelightlaw12_Ask)) ⟨[.int .i64 0, .int .u64 0, .int .i64 (-9223372036854775808)], _, rfl, rfl, one_all ⟨rfl, rfl, rfl, trivial⟩, rfl, ⟨[.int .i64 0, .int .u64 18446744073709551615, .int .i64 9223372036854775807], _, rfl, rfl, one_all ⟨rfl, rfl, rfl, trivial⟩, rfl, ⟨[.int .i64 4, .int .u64 0, .int .i64 9223372036854775807], _, rfl, rfl, one_all ⟨rfl, rfl, rfl, trivial⟩, rfl, rfl⟩⟩⟩ hE19 (Nat.le_of_ble_eq_true rfl) (Nat.le_of_ble_eq_true rfl)
   obtain ⟨x22, hx23, hp10⟩ := bind_s hp10
   refine Rg.step rfl (Oq.call Try.call12 rfl rfl (c12 S17 (St.start _ _ hs.has) _ _ f21 _ hx23) (fun v24 w25 h26 => ?_))
   obtain ⟨S27, rfl, hs28⟩ := h26
   have le29 := hs28.le
   have hs := hs.call0 hs28
   refine Rg.mv rfl rfl ?_
   refine Rg.split (c := x22) (tj := 41) rfl (fun hc30 => ?_) (fun hc30 => ?_)
   ·have hp10 := ite_t hc30 hp10
    refine Rg.weak [(41, .bool true)] ⟨rfl, trivial⟩ ?_
    refine Rg.gon rfl rfl rfl ?_
    obtain ⟨x31, hx32, hp10⟩ := bind_s hp10
    refine Rg.step rfl (Oq.call Try.call11 rfl rfl (c11 S27 (St.start _ _ hs.has)  _ hx32) (fun v33 w34 h35 => ?_))
    obtain ⟨S36, rfl, hs37⟩ := h35
    have le38 := hs37.le
    have hs := hs.call0 hs37
    refine Rg.vN (X.pickT rfl rfl) rfl ?_
    refine Rg.st rfl rfl ?_
    refine Rg.nil ?_
    have e := some_s hp10
    subst e
    exact fun a ha => ⟨[(0, .bool x31)], ha.weak ⟨rfl, trivial⟩, S36, rfl, (le18.trans (le29.trans le38)), (hs.pick [] (by decide) rfl)⟩
   ·have hp10 := ite_f hc30 hp10
    refine Rg.weak [(41, .bool false)] ⟨rfl, trivial⟩ ?_
    refine Rg.vO rfl rfl rfl rfl ?_
    refine Rg.vN (X.pickF rfl rfl) rfl ?_
    refine Rg.st rfl rfl ?_
    refine Rg.nil ?_
    have e := some_s hp10
    subst e
    exact fun a ha => ⟨[(0, .bool false)], ha.weak ⟨rfl, trivial⟩, S27, rfl, (le18.trans le29), (hs.pick [] (by decide) rfl)⟩
 ·skip
  refine Cd.weak [(1, .int .i64 0)] ⟨rfl, trivial⟩ ?_
  refine Cd.block (Cd.loop (fun sg => limelightlaw12_AlarmNumbers_l0 sg) (fun (sg : Int) K w => ∃ (S40 : Mp), K = [(1, .int .i64 sg)] ∧ Le S0 S40 ∧ St w0 [] S0 S40 [] w) 0 fl1 hfl2 ⟨S0, rfl, Le.refl _, hs⟩ ?_)
  rintro q39 fl42 K47 w46 hb43 ⟨S40, rfl, le41, hs⟩ hl44
  have h45 : limelightlaw12_AlarmNumbers_l0 q39 = some fl42 := hb43
  unfold limelightlaw12_AlarmNumbers_l0 at h45
  refine Cd.seq ?_
  refine Cd.sr ?_
  refine Rg.mv rfl rfl ?_
  refine Rg.vN (X.lss rfl rfl) rfl ?_
  refine Rg.go ?_
  refine Cd.cond (t := decide (q39 < 40)) rfl (fun hc48 => ?_) (fun hc48 => ?_)
  ·have h45 := ite_t hc48 h45
   refine Cd.sg ?_
   refine Cd.seq ?_
   refine Cd.block ?_
   refine Cd.sr ?_
   refine Rg.st rfl rfl ?_
   refine Rg.go ?_
   refine Cd.seq ?_
   refine Cd.sr ?_
   refine Rg.st rfl rfl ?_
   refine Rg.go ?_
   have hs := hs.nil 36 3
   obtain ⟨fl50, hfl51, h45⟩ := bind_s h45
   refine Cd.post (fun K w => ∃ (j52 : (List limelightlaw12_Ask)) (j53 : Int) (S54 : Mp) (v56 : Value) (g58 : Option Nat), K = [(1, .int .i64 q39), (2, v56)] ∧ fl50 = Flow.brk (j52, j53) ∧ Le S40 S54 ∧ St w0 [] S0 S54 [.app g58 v56 j52.length 36 3] w ∧ Rd S54 3 R_limelightlaw12_Ask v56 j52) ?_ ?_
   ·rintro K61 w60 ⟨j52, j53, S54, v56, g58, rfl, rfl, le55, hs, f57⟩
    have h45 := el_brk h45
    try dsimp only at h45
    refine Cd.go ?_
    refine Cd.sr ?_
    refine Rg.mv rfl rfl ?_
    obtain ⟨x62, hx63, h45⟩ := bind_s h45
    refine Rg.step rfl (Oq.call Try.call12 rfl rfl (c12 S54 (St.start _ _ hs.has) _ _ f57 _ hx63) (fun v64 w65 h66 => ?_))
    obtain ⟨S67, rfl, hs68⟩ := h66
    have le69 := hs68.le
    have hs := hs.call0 hs68
    refine Rg.vN (X.not rfl) rfl ?_
    refine Rg.go ?_
    refine Cd.cond (t := !x62) rfl (fun hc70 => ?_) (fun hc70 => ?_)
    ·have h45 := ite_t hc70 h45
     refine Cd.sr ?_
     refine Rg.st rfl rfl ?_
     refine Rg.go ?_
     refine Cd.ret ?_
     obtain rfl := some_s h45
     have e := hl44 (fun _ e => by cases e)
     subst e
     have h0 := el_ret h0
     obtain rfl := some_s h0
     exact fun a ha => Cd.retA (R := Re (Po4 S0 w0 _ _)) ha Try.results4 ⟨_, _, rfl, rfl, rfl⟩ ⟨_, rfl, S67, rfl, (hs.pick [] (by decide) rfl)⟩
    ·have h45 := ite_f hc70 h45
     refine Cd.skip ?_
     refine Cd.go ?_
     refine Cd.region ?_
     refine Rg.mv rfl rfl ?_
     refine Rg.vN (X.add rfl rfl) rfl ?_
     refine Rg.st rfl rfl ?_
     refine Rg.nil ?_
     exact fun a ha => ⟨add .i64 q39 1, [(1, .int .i64 (add .i64 q39 1))], (some_s h45).symm, ha.weak ⟨rfl, trivial⟩, S67, rfl, (le41.trans (le55.trans le69)), (hs.pick [] (by decide) rfl)⟩
   ·skip
    refine Cd.weak [(1, .int .i64 q39), (2, .slice none 0 0), (3, .int .i64 0)] ⟨rfl, rfl, rfl, trivial⟩ ?_
    refine Cd.block (Cd.loop (fun sg => limelightlaw12_AlarmNumbers_l1 q39 sg.1 sg.2) (fun (sg : ((List limelightlaw12_Ask) × Int)) K w => ∃ (S73 : Mp) (v75 : Value) (g77 : Option Nat), K = [(1, .int .i64 q39), (2, v75), (3, .int .i64 sg.2)] ∧ Le S40 S73 ∧ St w0 [] S0 S73 [.app g77 v75 sg.1.length 36 3] w ∧ Rd S73 3 R_limelightlaw12_Ask v75 sg.1) (([] : List limelightlaw12_Ask), 0) fl50 hfl51 ⟨S40, (.slice none 0 0), none, rfl, Le.refl _, hs, (Rd.nil _ _ _)⟩ ?_)
    rintro ⟨q71, q72⟩ fl79 K84 w83 hb80 ⟨S73, v75, g77, rfl, le74, hs, f76⟩ hl81
    have h82 : limelightlaw12_AlarmNumbers_l1 q39 q71 q72 = some fl79 := hb80
    unfold limelightlaw12_AlarmNumbers_l1 at h82
    refine Cd.seq ?_
    refine Cd.sr ?_
    refine Rg.mv rfl rfl ?_
    refine Rg.vN (X.lss rfl rfl) rfl ?_
    refine Rg.go ?_
    refine Cd.cond (t := decide (q72 < 90)) rfl (fun hc85 => ?_) (fun hc85 => ?_)
    ·have h82 := ite_t hc85 h82
     refine Cd.sg ?_
     refine Cd.seq ?_
     refine Cd.block ?_
     refine Cd.region ?_
     refine Rg.mv rfl rfl ?_
     refine Rg.mv rfl rfl ?_
     refine Rg.mv rfl rfl ?_
     refine Rg.vN (X.mul rfl rfl) rfl ?_
     refine Rg.mv rfl rfl ?_
     refine Rg.vN (X.add rfl rfl) rfl ?_
     refine Rg.vN (X.rem rfl rfl (by decide)) rfl ?_
     refine Rg.weak [(1, .int .i64 q39), (3, .int .i64 q72), (12, v75), (18, .int .i64 (rem .i64 (add .i64 (mul .i64 q72 q72) q39) 5))] ⟨rfl, rfl, rfl, rfl, trivial⟩ ?_
     refine Rg.mv rfl rfl ?_
     refine Rg.mv rfl rfl ?_
     refine Rg.vN (X.add rfl rfl) rfl ?_
     refine Rg.vN (X.mul rfl rfl) rfl ?_
     refine Rg.vN (X.rem rfl rfl (by decide)) rfl ?_
     refine Rg.vN (X.conv Try.underlying3 Try.underlying26 rfl) rfl ?_
     refine Rg.mv rfl rfl ?_
     refine Rg.mv rfl rfl ?_
     refine Rg.vN (X.mul rfl rfl) rfl ?_
     refine Rg.vN (X.rem rfl rfl (by decide)) rfl ?_
     refine Rg.vN (X.sub rfl rfl) rfl ?_
     refine Rg.weak [(1, .int .i64 q39), (3, .int .i64 q72), (12, v75), (18, .int .i64 (rem .i64 (add .i64 (mul .i64 q72 q72) q39) 5)), (24, .int .u64 (cv .u64 (rem .i64 (mul .i64 q72 (add .i64 q39 1)) 13))), (29, .int .i64 (sub .i64 (rem .i64 (mul .i64 q72 q39) 31) 4))] ⟨rfl, rfl, rfl, rfl, rfl, rfl, trivial⟩ ?_
     refine Rg.vN (X.build (zc := [.int .i64 0, .int .u64 0, .int .i64 0]) (cells := [.int .i64 (rem .i64 (add .i64 (mul .i64 q72 q72) q39) 5), .int .u64 (cv .u64 (rem .i64 (mul .i64 q72 (add .i64 q39 1)) 13)), .int .i64 (sub .i64 (rem .i64 (mul .i64 q72 q39) 31) 4)]) ii36 rfl rfl Try.underlying36 (pp36 _ Try.underlying36) ⟨_, [.int .i64 (rem .i64 (add .i64 (mul .i64 q72 q72) q39) 5)], _, rfl, rfl, rfl, ⟨_, [.int .u64 (cv .u64 (rem .i64 (mul .i64 q72 (add .i64 q39 1)) 13))], _, rfl, rfl, rfl, ⟨_, [.int .i64 (sub .i64 (rem .i64 (mul .i64 q72 q39) 31) 4)], _, rfl, rfl, rfl, rfl⟩⟩⟩ rfl) rfl ?_
     refine Rg.step rfl (Oq.lit (sz := 3) (cs0 := [.int .i64 0, .int .u64 0, .int .i64 0]) (cells := [.int .i64 (rem .i64 (add .i64 (mul .i64 q72 q72) q39) 5), .int .u64 (cv .u64 (rem .i64 (mul .i64 q72 (add .i64 q39 1)) 13)), .int .i64 (sub .i64 (rem .i64 (mul .i64 q72 q39) 31) 4)]) hs Try.underlying34 ii36 rfl rfl rfl rfl rfl rfl ⟨_, [.int .i64 (rem .i64 (add .i64 (mul .i64 q72 q72) q39) 5), .int .u64 (cv .u64 (rem .i64 (mul .i64 q72 (add .i64 q39 1)) 13)), .int .i64 (sub .i64 (rem .i64 (mul .i64 q72 q39) 31) 4)], _, rfl, rfl, rfl, rfl⟩ rfl rfl rfl (fun b86 w87 S88 hs le89 hE90 => ?_))
     have f92 : Rd S88 3 R_limelightlaw12_Ask (.slice (some ⟨b86, 0, none⟩) 1 1) ([(⟨rem .i64 (add .i64 (mul .i64 q72 q72) q39) 5, cv .u64 (rem .i64 (mul .i64 q72 (add .i64 q39 1)) 13), sub .i64 (rem .i64 (mul .i64 q72 q39) 31) 4⟩ : limelightlaw12_Ask)] : List limelightlaw12_Ask) := Rd.of_cells (xs := ([(⟨rem .i64 (add .i64 (mul .i64 q72 q72) q39) 5, cv .u64 (rem .i64 (mul .i64 q72 (add .i64 q39 1)) 13), sub .i64 (rem .i64 (mul .i64 q72 q39) 31) 4⟩ : limelightlaw12_Ask)] : List limelightlaw12_Ask)) ⟨[.int .i64 (rem .i64 (add .i64 (mul .i64 q72 q72) q39) 5), .int .u64 (cv .u64 (rem .i64 (mul .i64 q72 (add .i64 q39 1)) 13)), .int .i64 (sub .i64 (rem .i64 (mul .i64 q72 q39) 31) 4)], _, rfl, rfl, one_all ⟨rfl, rfl, rfl, trivial⟩, rfl, rfl⟩ hE90 (Nat.le_of_ble_eq_true rfl) (Nat.le_of_ble_eq_true rfl)
     obtain ⟨y93, hx94, h82⟩ := bind_s h82
     refine Rg.step rfl (Oq.appendS hs 1 rfl Try.underlying34 ii36 rfl rfl rfl rfl rfl rfl (f76.mono le89) f92 hx94 rfl rfl rfl (fun v95 w96 S97 g98 hs le99 f100 => ?_))
     refine Rg.st rfl rfl ?_
     refine Rg.nil ?_
     refine Cd.go ?_
     refine Cd.region ?_
     refine Rg.mv rfl rfl ?_
     refine Rg.vN (X.add rfl rfl) rfl ?_
     refine Rg.st rfl rfl ?_
     refine Rg.nil ?_
     exact fun a ha => ⟨(y93, add .i64 q72 1), [(1, .int .i64 q39), (2, v95), (3, .int .i64 (add .i64 q72 1))], (some_s h82).symm, ha.weak ⟨rfl, rfl, rfl, trivial⟩, S97, v95, g98, rfl, (le74.trans (le89.trans le99)), (hs.pick [1] (by decide) rfl), f100⟩
    ·have h82 := ite_f hc85 h82
     refine Cd.exit ?_
     obtain rfl := some_s h82
     have e := hl81 (fun _ e => by cases e)
     exact fun a ha => ⟨[(1, .int .i64 q39), (2, v75)], ha.weak ⟨rfl, rfl, trivial⟩, _, _, S73, v75, g77, rfl, e.symm, le74, hs, f76⟩
  ·have h45 := ite_f hc48 h45
   refine Cd.exit ?_
   obtain rfl := some_s h45
   have e := hl44 (fun _ e => by cases e)
   exact fun a ha => ⟨[], ha.weak trivial, _, S40, rfl, e.symm, le41, hs⟩
end Go.Lk
