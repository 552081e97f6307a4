/- A part of this proof: RtcpNumbers returns true for every input and leaves its arguments as they were; there are no conditions. -/
import Derived.Test.YtnpgmljphheabaaP6
import Derived.Test.YtnpgmljphheabaaProg
import Derived.KernelRfl
set_option linter.unusedVariables false
set_option linter.unusedSimpArgs false
set_option maxRecDepth 100000
namespace Go.Lk
open Go.RowKit Go.Proofs
noncomputable def limelightlaw6_RtcpNumbers_l3 (q57 : Int) (q74 : Int) (q91 : Int) : Option (Flow Int Bool) :=
 if (decide (q91 < 6)) = true then (
  (apz 1 0 ([cv .u8 (bor .i64 128 q74), cv .u8 q57, 0, cv .u8 q91] : List Int) (mul .i64 4 q91)).bind fun y108 =>
  (limelightlaw6_reads y108).bind fun x116 =>
  if (!x116) = true then (
   some (Flow.ret false))
  else (
   some (Flow.next (add .i64 q91 1))))
 else (
  some (Flow.brk q91))
noncomputable def limelightlaw6_RtcpNumbers_l2 (q57 : Int) (q74 : Int) : Option (Flow Int Bool) :=
 if (decide (q74 < 32)) = true then (
  (loopF (fun sg => limelightlaw6_RtcpNumbers_l3 q57 q74 sg) 0).bind fun fl84 =>
  Flow.el fl84 (fun s125 => (
   none))
  (fun s126 => (
   some (Flow.next (add .i64 q74 1))))
  (fun r127 => (
   some (Flow.ret r127))))
 else (
  some (Flow.brk q74))
noncomputable def limelightlaw6_RtcpNumbers_l1 (q57 : Int) : Option (Flow Int Bool) :=
 if (decide (q57 < 226)) = true then (
  (loopF (fun sg => limelightlaw6_RtcpNumbers_l2 q57 sg) 0).bind fun fl67 =>
  Flow.el fl67 (fun s128 => (
   none))
  (fun s129 => (
   some (Flow.next (add .i64 q57 1))))
  (fun r130 => (
   some (Flow.ret r130))))
 else (
  some (Flow.brk q57))
noncomputable def limelightlaw6_RtcpNumbers_l5 (q134 : Int) (x231 : ((List Int) × Int)) (q250 : Int) : Option (Flow Int Bool) :=
 if ((decide (q250 < (x231.1.length : Int))) && (decide (q134 < 25))) = true then (
  ((
   (app 1 ([] : List Int) x231.1).bind fun y275 =>
   (ix y275 q250).bind fun x282 =>
   gd ((0 : Int) ≤ (cv .u64 (rem .i64 (add .i64 q250 q134) 8))) (
    (ix y275 q250).bind fun x292 =>
    ((
     (cutTo x231.1 q250).bind fun y318 =>
     (limelightlaw6_reads y318).bind fun x322 =>
     if (!x322) = true then (
      some true)
     else (
      (limelightlaw6_reads (List.set y275 q250.toNat (bxor .u8 x282 (shl .u8 1 (cv .u64 (rem .i64 (add .i64 q250 q134) 8)))))).bind fun x331 =>
      if (!x331) = true then (
       some true)
      else (
       (cutFrom x231.1 q250).bind fun y343 =>
       (limelightlaw6_reads y343).bind fun x347 =>
       some (!x347))) : Option Bool)).bind fun p308 =>
    if p308 = true then (
     some (Flow.ret false))
    else (
     some (Flow.next ()))) : Option (Flow Unit Bool))).bind fun p260 =>
  Flow.el p260 (fun s355 => (
   some (Flow.next (add .i64 q250 1))))
  (fun s356 => (
   none))
  (fun r357 => (
   some (Flow.ret r357))))
 else (
  some (Flow.brk q250))
noncomputable def limelightlaw6_RtcpNumbers_l6 (x165 : (api_Report × limelightkeep_Tape)) (q361 : Int) (q385 : Int) : Option (Flow Int Bool) :=
 if (decide (q385 < (([-1, 0, 1, 3, 6, 7, 31, 32, 191, 192, 205, 206, 223, 224, 255, 256, 511, 512, 131072, 131073, 1099511627776] : List Int).length : Int))) = true then (
  (ix ([-1, 0, 1, 3, 6, 7, 31, 32, 191, 192, 205, 206, 223, 224, 255, 256, 511, 512, 131072, 131073, 1099511627776] : List Int) q385).bind fun x395 =>
  (limelightlaw6_odd x165.1 q361 x395).bind fun x402 =>
  (limelightlaw6_same ([x402] : List api_Report)).bind fun x425 =>
  if (!x425) = true then (
   some (Flow.ret false))
  else (
   some (Flow.next (add .i64 q385 1))))
 else (
  some (Flow.brk q385))
noncomputable def limelightlaw6_RtcpNumbers_l4 (x165 : (api_Report × limelightkeep_Tape)) (q361 : Int) : Option (Flow Int Bool) :=
 if (decide (q361 < 11)) = true then (
  (loopF (fun sg => limelightlaw6_RtcpNumbers_l6 x165 q361 sg) 0).bind fun fl378 =>
  Flow.el fl378 (fun s434 => (
   none))
  (fun s435 => (
   some (Flow.next (add .i64 q361 1))))
  (fun r436 => (
   some (Flow.ret r436))))
 else (
  some (Flow.brk q361))
noncomputable def limelightlaw6_RtcpNumbers_l0 (q134 : Int) : Option (Flow Int Bool) :=
 if (decide (q134 < 60)) = true then (
  ((
   (limelightlaw6_tape q134).bind fun x150 =>
   (limelightkeep_Tape_Report (⟨x150, 0⟩ : limelightkeep_Tape)).bind fun x165 =>
   (limelightkeep_Tape_Report (⟨x165.2.L, x165.2.At⟩ : limelightkeep_Tape)).bind fun x183 =>
   ((
    (limelightlaw6_same ([x165.1, x183.1] : List api_Report)).bind fun x447 =>
    if (!x447) = true then (
     some true)
    else (
     (limelightlaw6_same ([x165.1] : List api_Report)).bind fun x463 =>
     some (!x463)) : Option Bool)).bind fun p210 =>
   if p210 = true then (
    some (Flow.ret false))
   else (
    (loopF (fun sg => limelightlaw6_RtcpNumbers_l4 x165 sg) 0).bind fun fl217 =>
    Flow.el fl217 (fun s437 => (
     none))
    (fun s438 => (
     (limelightref6_Bytes ([x165.1, x183.1] : List api_Report)).bind fun x231 =>
     (loopF (fun sg => limelightlaw6_RtcpNumbers_l5 q134 x231 sg) 0).bind fun fl243 =>
     Flow.el fl243 (fun s358 => (
      none))
     (fun s359 => (
      some (Flow.next ())))
     (fun r360 => (
      some (Flow.ret r360)))))
    (fun r439 => (
     some (Flow.ret r439)))) : Option (Flow Unit Bool))).bind fun p144 =>
  Flow.el p144 (fun s471 => (
   some (Flow.next (add .i64 q134 1))))
  (fun s472 => (
   none))
  (fun r473 => (
   some (Flow.ret r473))))
 else (
  some (Flow.brk q134))
noncomputable def limelightlaw6_RtcpNumbers : Option Bool :=
 (loopF (fun sg => limelightlaw6_RtcpNumbers_l0 sg) 0).bind fun fl1 =>
 Flow.el fl1 (fun s474 => (
  none))
 (fun s475 => (
  (loopF (fun sg => limelightlaw6_RtcpNumbers_l1 sg) 190).bind fun fl8 =>
  Flow.el fl8 (fun s131 => (
   none))
  (fun s132 => (
   ((
    (mks 1 0 1504).bind fun y22 =>
    (limelightlaw6_reads y22).bind fun x31 =>
    if x31 = true then (
     (limelightlaw6_same ([] : List api_Report)).bind fun x40 =>
     if x40 = true then (
      (limelightlaw6_known ).bind fun x49 =>
      some x49)
     else (
      some false))
    else (
     some false) : Option Bool)).bind fun p16 =>
   some p16))
  (fun r133 => (
   some r133))))
 (fun r476 => (
  some r476))
def Po3 (S0 : Mp) (w0 : World) (D : List Nat) (r : Bool) (v : Value) (w1 : World) : Prop :=
  ∃ (S1 : Mp), v = .bool r ∧ St w0 D S0 S1 [] w1
set_option maxHeartbeats 4000000 in
theorem c3 (S0 : Mp) {w0 : World} (hs : St w0 [] S0 S0 [] w0)  (r : Bool) (h0 : limelightlaw6_RtcpNumbers = some r) :
    Calls Try.prog 3 #[] w0 (Re (Po3 S0 w0 [] r)) := by
 unfold limelightlaw6_RtcpNumbers at h0
 refine calls_of_cd Try.func3 rfl Try.ntmps3 rfl ?_
 refine Cd.sr ?_
 refine Rg.st rfl rfl ?_
 refine Rg.go ?_
 refine Cd.seq ?_
 refine Cd.sr ?_
 refine Rg.st rfl rfl ?_
 refine Rg.go ?_
 obtain ⟨fl1, hfl2, h0⟩ := bind_s h0
 refine Cd.post (fun K w => ∃ (j3 : Int) (S4 : Mp), K = [] ∧ fl1 = Flow.brk j3 ∧ Le S0 S4 ∧ St w0 [] S0 S4 [] w) ?_ ?_
 ·rintro K7 w6 ⟨j3, S4, rfl, rfl, le5, hs⟩
  have h0 := el_brk h0
  try dsimp only at h0
  refine Cd.go ?_
  refine Cd.seq ?_
  refine Cd.sr ?_
  refine Rg.st rfl rfl ?_
  refine Rg.go ?_
  obtain ⟨fl8, hfl9, h0⟩ := bind_s h0
  refine Cd.post (fun K w => ∃ (j10 : Int) (S11 : Mp), K = [] ∧ fl8 = Flow.brk j10 ∧ Le S4 S11 ∧ St w0 [] S0 S11 [] w) ?_ ?_
  ·rintro K14 w13 ⟨j10, S11, rfl, rfl, le12, hs⟩
   have h0 := el_brk h0
   try dsimp only at h0
   refine Cd.go ?_
   refine Cd.seq ?_
   obtain ⟨p16, hp17, h0⟩ := bind_s h0
   refine Cd.post (fun K w => ∃ (S18 : Mp), K = [(0, .bool p16)] ∧ Le S11 S18 ∧ St w0 [] S0 S18 [] w) ?_ ?_
   ·rintro K21 w19 ⟨S18, rfl, le20, hs⟩
    refine Cd.go ?_
    refine Cd.ret ?_
    obtain rfl := some_s h0
    exact fun a ha => Cd.retA (R := Re (Po3 S0 w0 [] _)) ha Try.results3 ⟨_, _, rfl, rfl, rfl⟩ ⟨_, rfl, S18, rfl, hs⟩
   ·skip
    refine Cd.region ?_
    obtain ⟨y22, hx23, hp17⟩ := bind_s hp17
    refine Rg.step rfl (Oq.makeS (x0 := 0) (R := (RI .u8)) hs Try.underlying31 ii5 rfl rfl rfl rfl rfl rfl (one_all (l := [.int .u8 0]) ⟨rfl, trivial⟩) rfl hx23 rfl rfl rfl (fun v24 w25 S26 g27 hs le28 f29 => ?_))
    obtain ⟨x31, hx32, hp17⟩ := bind_s hp17
    refine Rg.step rfl (Oq.call Try.call14 rfl rfl (c14 S26 (St.start _ _ hs.has) _ _ f29 _ hx32) (fun v33 w34 h35 => ?_))
    obtain ⟨S36, rfl, hs37⟩ := h35
    have le38 := hs37.le
    have hs := hs.call0 hs37
    refine Rg.mv rfl rfl ?_
    refine Rg.split (c := x31) (tj := 132) rfl (fun hc39 => ?_) (fun hc39 => ?_)
    ·have hp17 := ite_t hc39 hp17
     refine Rg.weak [(132, .bool true)] ⟨rfl, trivial⟩ ?_
     refine Rg.gon rfl rfl rfl ?_
     obtain ⟨x40, hx41, hp17⟩ := bind_s hp17
     refine Rg.step rfl (Oq.call Try.call11 rfl rfl (c11 S36 (St.start _ _ hs.has) _ _ (Rd.nil _ _ _) _ hx41) (fun v42 w43 h44 => ?_))
     obtain ⟨S45, rfl, hs46⟩ := h44
     have le47 := hs46.le
     have hs := hs.call0 hs46
     refine Rg.vN (X.pickT rfl rfl) rfl ?_
     refine Rg.mv rfl rfl ?_
     refine Rg.split (c := x40) (tj := 135) rfl (fun hc48 => ?_) (fun hc48 => ?_)
     ·have hp17 := ite_t hc48 hp17
      refine Rg.weak [(135, .bool true)] ⟨rfl, trivial⟩ ?_
      refine Rg.gon rfl rfl rfl ?_
      obtain ⟨x49, hx50, hp17⟩ := bind_s hp17
      refine Rg.step rfl (Oq.call Try.call15 rfl rfl (c15 S45 (St.start _ _ hs.has)  _ hx50) (fun v51 w52 h53 => ?_))
      obtain ⟨S54, rfl, hs55⟩ := h53
      have le56 := hs55.le
      have hs := hs.call0 hs55
      refine Rg.vN (X.pickT rfl rfl) rfl ?_
      refine Rg.st rfl rfl ?_
      refine Rg.nil ?_
      obtain rfl := some_s hp17
      exact fun a ha => ⟨[(0, .bool x49)], ha.weak ⟨rfl, trivial⟩, S54, rfl, (le28.trans (le38.trans (le47.trans le56))), (hs.pick [] (by decide) rfl)⟩
     ·have hp17 := ite_f hc48 hp17
      refine Rg.weak [(135, .bool false)] ⟨rfl, trivial⟩ ?_
      refine Rg.vO rfl rfl rfl rfl ?_
      refine Rg.vN (X.pickF rfl rfl) rfl ?_
      refine Rg.st rfl rfl ?_
      refine Rg.nil ?_
      obtain rfl := some_s hp17
      exact fun a ha => ⟨[(0, .bool false)], ha.weak ⟨rfl, trivial⟩, S45, rfl, (le28.trans (le38.trans le47)), (hs.pick [] (by decide) rfl)⟩
    ·have hp17 := ite_f hc39 hp17
     refine Rg.weak [(132, .bool false)] ⟨rfl, trivial⟩ ?_
     refine Rg.vO rfl rfl rfl rfl ?_
     refine Rg.vN (X.pickF rfl rfl) rfl ?_
     refine Rg.mv rfl rfl ?_
     refine Rg.vO rfl rfl rfl rfl ?_
     refine Rg.vN (X.pickF rfl rfl) rfl ?_
     refine Rg.st rfl rfl ?_
     refine Rg.nil ?_
     obtain rfl := some_s hp17
     exact fun a ha => ⟨[(0, .bool false)], ha.weak ⟨rfl, trivial⟩, S36, rfl, (le28.trans le38), (hs.pick [] (by decide) rfl)⟩
  ·skip
   refine Cd.weak [(12, .int .i64 190)] ⟨rfl, trivial⟩ ?_
   refine Cd.block (Cd.loop (fun sg => limelightlaw6_RtcpNumbers_l1 sg) (fun (sg : Int) K w => ∃ (S58 : Mp), K = [(12, .int .i64 sg)] ∧ Le S4 S58 ∧ St w0 [] S0 S58 [] w) 190 fl8 hfl9 ⟨S4, rfl, Le.refl _, hs⟩ ?_)
   rintro q57 fl60 K65 w64 hb61 ⟨S58, rfl, le59, hs⟩ hl62
   have h63 : limelightlaw6_RtcpNumbers_l1 q57 = some fl60 := hb61
   unfold limelightlaw6_RtcpNumbers_l1 at h63
   refine Cd.seq ?_
   refine Cd.sr ?_
   refine Rg.mv rfl rfl ?_
   refine Rg.vN (X.lss rfl rfl) rfl ?_
   refine Rg.go ?_
   refine Cd.cond (t := decide (q57 < 226)) rfl (fun hc66 => ?_) (fun hc66 => ?_)
   ·have h63 := ite_t hc66 h63
    refine Cd.sg ?_
    refine Cd.seq ?_
    refine Cd.block ?_
    refine Cd.sr ?_
    refine Rg.st rfl rfl ?_
    refine Rg.go ?_
    obtain ⟨fl67, hfl68, h63⟩ := bind_s h63
    refine Cd.post (fun K w => ∃ (j69 : Int) (S70 : Mp), K = [(12, .int .i64 q57)] ∧ fl67 = Flow.brk j69 ∧ Le S58 S70 ∧ St w0 [] S0 S70 [] w) ?_ ?_
    ·rintro K73 w72 ⟨j69, S70, rfl, rfl, le71, hs⟩
     have h63 := el_brk h63
     try dsimp only at h63
     refine Cd.go ?_
     refine Cd.region ?_
     refine Rg.mv rfl rfl ?_
     refine Rg.vN (X.add rfl rfl) rfl ?_
     refine Rg.st rfl rfl ?_
     refine Rg.nil ?_
     exact fun a ha => ⟨add .i64 q57 1, [(12, .int .i64 (add .i64 q57 1))], (some_s h63).symm, ha.weak ⟨rfl, trivial⟩, S70, rfl, (le59.trans le71), hs⟩
    ·skip
     refine Cd.weak [(12, .int .i64 q57), (13, .int .i64 0)] ⟨rfl, rfl, trivial⟩ ?_
     refine Cd.block (Cd.loop (fun sg => limelightlaw6_RtcpNumbers_l2 q57 sg) (fun (sg : Int) K w => ∃ (S75 : Mp), K = [(12, .int .i64 q57), (13, .int .i64 sg)] ∧ Le S58 S75 ∧ St w0 [] S0 S75 [] w) 0 fl67 hfl68 ⟨S58, rfl, Le.refl _, hs⟩ ?_)
     rintro q74 fl77 K82 w81 hb78 ⟨S75, rfl, le76, hs⟩ hl79
     have h80 : limelightlaw6_RtcpNumbers_l2 q57 q74 = some fl77 := hb78
     unfold limelightlaw6_RtcpNumbers_l2 at h80
     refine Cd.seq ?_
     refine Cd.sr ?_
     refine Rg.mv rfl rfl ?_
     refine Rg.vN (X.lss rfl rfl) rfl ?_
     refine Rg.go ?_
     refine Cd.cond (t := decide (q74 < 32)) rfl (fun hc83 => ?_) (fun hc83 => ?_)
     ·have h80 := ite_t hc83 h80
      refine Cd.sg ?_
      refine Cd.seq ?_
      refine Cd.block ?_
      refine Cd.sr ?_
      refine Rg.st rfl rfl ?_
      refine Rg.go ?_
      obtain ⟨fl84, hfl85, h80⟩ := bind_s h80
      refine Cd.post (fun K w => ∃ (j86 : Int) (S87 : Mp), K = [(12, .int .i64 q57), (13, .int .i64 q74)] ∧ fl84 = Flow.brk j86 ∧ Le S75 S87 ∧ St w0 [] S0 S87 [] w) ?_ ?_
      ·rintro K90 w89 ⟨j86, S87, rfl, rfl, le88, hs⟩
       have h80 := el_brk h80
       try dsimp only at h80
       refine Cd.go ?_
       refine Cd.region ?_
       refine Rg.mv rfl rfl ?_
       refine Rg.vN (X.add rfl rfl) rfl ?_
       refine Rg.st rfl rfl ?_
       refine Rg.nil ?_
       exact fun a ha => ⟨add .i64 q74 1, [(12, .int .i64 q57), (13, .int .i64 (add .i64 q74 1))], (some_s h80).symm, ha.weak ⟨rfl, rfl, trivial⟩, S87, rfl, (le76.trans le88), hs⟩
      ·skip
       refine Cd.weak [(12, .int .i64 q57), (13, .int .i64 q74), (14, .int .i64 0)] ⟨rfl, rfl, rfl, trivial⟩ ?_
       refine Cd.block (Cd.loop (fun sg => limelightlaw6_RtcpNumbers_l3 q57 q74 sg) (fun (sg : Int) K w => ∃ (S92 : Mp), K = [(12, .int .i64 q57), (13, .int .i64 q74), (14, .int .i64 sg)] ∧ Le S75 S92 ∧ St w0 [] S0 S92 [] w) 0 fl84 hfl85 ⟨S75, rfl, Le.refl _, hs⟩ ?_)
       rintro q91 fl94 K99 w98 hb95 ⟨S92, rfl, le93, hs⟩ hl96
       have h97 : limelightlaw6_RtcpNumbers_l3 q57 q74 q91 = some fl94 := hb95
       unfold limelightlaw6_RtcpNumbers_l3 at h97
       refine Cd.seq ?_
       refine Cd.sr ?_
       refine Rg.mv rfl rfl ?_
       refine Rg.vN (X.lss rfl rfl) rfl ?_
       refine Rg.go ?_
       refine Cd.cond (t := decide (q91 < 6)) rfl (fun hc100 => ?_) (fun hc100 => ?_)
       ·have h97 := ite_t hc100 h97
        refine Cd.sg ?_
        refine Cd.seq ?_
        refine Cd.block ?_
        refine Cd.sr ?_
        refine Rg.mv rfl rfl ?_
        refine Rg.vN (X.or rfl rfl) rfl ?_
        refine Rg.vN (X.conv Try.underlying3 Try.underlying5 rfl) rfl ?_
        refine Rg.mv rfl rfl ?_
        refine Rg.weak [(12, .int .i64 q57), (13, .int .i64 q74), (14, .int .i64 q91), (119, .int .u8 (cv .u8 (bor .i64 128 q74))), (120, .int .i64 q57)] ⟨rfl, rfl, rfl, rfl, rfl, trivial⟩ ?_
        refine Rg.vN (X.conv Try.underlying3 Try.underlying5 rfl) rfl ?_
        refine Rg.mv rfl rfl ?_
        refine Rg.vN (X.conv Try.underlying3 Try.underlying5 rfl) rfl ?_
        refine Rg.step rfl (Oq.lit (sz := 1) (cs0 := [.int .u8 0, .int .u8 0, .int .u8 0, .int .u8 0]) (cells := [.int .u8 (cv .u8 (bor .i64 128 q74)), .int .u8 (cv .u8 q57), .int .u8 0, .int .u8 (cv .u8 q91)]) hs Try.underlying31 ii5 rfl rfl rfl rfl rfl rfl ⟨_, [.int .u8 (cv .u8 (bor .i64 128 q74))], _, rfl, rfl, rfl, ⟨_, [.int .u8 (cv .u8 q57)], _, rfl, rfl, rfl, ⟨_, [.int .u8 0], _, rfl, rfl, rfl, ⟨_, [.int .u8 (cv .u8 q91)], _, rfl, rfl, rfl, rfl⟩⟩⟩⟩ rfl rfl rfl (fun b101 w102 S103 hs le104 hE105 => ?_))
        have f107 : Rd S103 1 (RI .u8) (.slice (some ⟨b101, 0, none⟩) 4 4) ([cv .u8 (bor .i64 128 q74), cv .u8 q57, 0, cv .u8 q91] : List Int) := Rd.of_cells (xs := ([cv .u8 (bor .i64 128 q74), cv .u8 q57, 0, cv .u8 q91] : List Int)) ⟨[.int .u8 (cv .u8 (bor .i64 128 q74))], _, rfl, rfl, one_all ⟨rfl, trivial⟩, rfl, ⟨[.int .u8 (cv .u8 q57)], _, rfl, rfl, one_all ⟨rfl, trivial⟩, rfl, ⟨[.int .u8 0], _, rfl, rfl, one_all ⟨rfl, trivial⟩, rfl, ⟨[.int .u8 (cv .u8 q91)], _, rfl, rfl, one_all ⟨rfl, trivial⟩, rfl, rfl⟩⟩⟩⟩ hE105 (Nat.le_of_ble_eq_true rfl) (Nat.le_of_ble_eq_true rfl)
        refine Rg.mv rfl rfl ?_
        refine Rg.vN (X.mul rfl rfl) rfl ?_
        obtain ⟨y108, hx109, h97⟩ := bind_s h97
        refine Rg.step rfl (Oq.appendZ (x0 := 0) hs 0 rfl Try.underlying31 Try.underlying3 ii5 rfl rfl rfl rfl rfl rfl (one_all (l := [.int .u8 0]) ⟨rfl, trivial⟩) rfl f107 hx109 rfl rfl rfl (fun v110 w111 S112 g113 hs le114 f115 => ?_))
        obtain ⟨x116, hx117, h97⟩ := bind_s h97
        refine Rg.step rfl (Oq.call Try.call14 rfl rfl (c14 S112 (St.start _ _ hs.has) _ _ f115 _ hx117) (fun v118 w119 h120 => ?_))
        obtain ⟨S121, rfl, hs122⟩ := h120
        have le123 := hs122.le
        have hs := hs.call0 hs122
        refine Rg.vN (X.not rfl) rfl ?_
        refine Rg.go ?_
        refine Cd.cond (t := !x116) rfl (fun hc124 => ?_) (fun hc124 => ?_)
        ·have h97 := ite_t hc124 h97
         refine Cd.sr ?_
         refine Rg.st rfl rfl ?_
         refine Rg.go ?_
         refine Cd.ret ?_
         obtain rfl := some_s h97
         have e := hl96 (fun _ e => by cases e)
         subst e
         have h80 := el_ret h80
         obtain rfl := some_s h80
         have e := hl79 (fun _ e => by cases e)
         subst e
         have h63 := el_ret h63
         obtain rfl := some_s h63
         have e := hl62 (fun _ e => by cases e)
         subst e
         have h0 := el_ret h0
         obtain rfl := some_s h0
         exact fun a ha => Cd.retA (R := Re (Po3 S0 w0 [] _)) ha Try.results3 ⟨_, _, rfl, rfl, rfl⟩ ⟨_, rfl, S121, rfl, (hs.pick [] (by decide) rfl)⟩
        ·have h97 := ite_f hc124 h97
         refine Cd.skip ?_
         refine Cd.go ?_
         refine Cd.region ?_
         refine Rg.mv rfl rfl ?_
         refine Rg.vN (X.add rfl rfl) rfl ?_
         refine Rg.st rfl rfl ?_
         refine Rg.nil ?_
         exact fun a ha => ⟨add .i64 q91 1, [(12, .int .i64 q57), (13, .int .i64 q74), (14, .int .i64 (add .i64 q91 1))], (some_s h97).symm, ha.weak ⟨rfl, rfl, rfl, trivial⟩, S121, rfl, (le93.trans (le104.trans (le114.trans le123))), (hs.pick [] (by decide) rfl)⟩
       ·have h97 := ite_f hc100 h97
        refine Cd.exit ?_
        obtain rfl := some_s h97
        have e := hl96 (fun _ e => by cases e)
        exact fun a ha => ⟨[(12, .int .i64 q57), (13, .int .i64 q74)], ha.weak ⟨rfl, rfl, trivial⟩, _, S92, rfl, e.symm, le93, hs⟩
     ·have h80 := ite_f hc83 h80
      refine Cd.exit ?_
      obtain rfl := some_s h80
      have e := hl79 (fun _ e => by cases e)
      exact fun a ha => ⟨[(12, .int .i64 q57)], ha.weak ⟨rfl, trivial⟩, _, S75, rfl, e.symm, le76, hs⟩
   ·have h63 := ite_f hc66 h63
    refine Cd.exit ?_
    obtain rfl := some_s h63
    have e := hl62 (fun _ e => by cases e)
    exact fun a ha => ⟨[], ha.weak trivial, _, S58, rfl, e.symm, le59, hs⟩
 ·skip
  refine Cd.weak [(1, .int .i64 0)] ⟨rfl, trivial⟩ ?_
  refine Cd.block (Cd.loop (fun sg => limelightlaw6_RtcpNumbers_l0 sg) (fun (sg : Int) K w => ∃ (S135 : Mp), K = [(1, .int .i64 sg)] ∧ Le S0 S135 ∧ St w0 [] S0 S135 [] w) 0 fl1 hfl2 ⟨S0, rfl, Le.refl _, hs⟩ ?_)
  rintro q134 fl137 K142 w141 hb138 ⟨S135, rfl, le136, hs⟩ hl139
  have h140 : limelightlaw6_RtcpNumbers_l0 q134 = some fl137 := hb138
  unfold limelightlaw6_RtcpNumbers_l0 at h140
  refine Cd.seq ?_
  refine Cd.sr ?_
  refine Rg.mv rfl rfl ?_
  refine Rg.vN (X.lss rfl rfl) rfl ?_
  refine Rg.go ?_
  refine Cd.cond (t := decide (q134 < 60)) rfl (fun hc143 => ?_) (fun hc143 => ?_)
  ·have h140 := ite_t hc143 h140
   refine Cd.sg ?_
   refine Cd.seq ?_
   obtain ⟨p144, hp145, h140⟩ := bind_s h140
   refine Cd.post (fun K w => ∃ (S146 : Mp), K = [(1, .int .i64 q134)] ∧ p144 = Flow.next () ∧ Le S135 S146 ∧ St w0 [] S0 S146 [] w) ?_ ?_
   ·rintro K149 w147 ⟨S146, rfl, rfl, le148, hs⟩
    have h140 := el_next h140
    try dsimp only at h140
    refine Cd.go ?_
    refine Cd.region ?_
    refine Rg.mv rfl rfl ?_
    refine Rg.vN (X.add rfl rfl) rfl ?_
    refine Rg.st rfl rfl ?_
    refine Rg.nil ?_
    exact fun a ha => ⟨add .i64 q134 1, [(1, .int .i64 (add .i64 q134 1))], (some_s h140).symm, ha.weak ⟨rfl, trivial⟩, S146, rfl, (le136.trans le148), hs⟩
   ·skip
    refine Cd.block ?_
    refine Cd.sr ?_
    refine Rg.mv rfl rfl ?_
    obtain ⟨x150, hx151, hp145⟩ := bind_s hp145
    refine Rg.step rfl (Oq.call Try.call9 rfl rfl (c9 S135 (St.start _ _ hs.has) _ _ hx151) (fun v152 w153 h154 => ?_))
    obtain ⟨S155, v158, g160, rfl, hs156, f159⟩ := h154
    have le157 := hs156.le
    have hs := hs.call0 hs156
    refine Rg.vN (X.build (zc := [.slice none 0 0, .int .i64 0]) (cells := [v152, .int .i64 0]) ii26 rfl rfl Try.underlying26 (pp26 _ Try.underlying26) ⟨_, [v152], _, rfl, rfl, f159.cells, rfl⟩ rfl) rfl ?_
    refine Rg.step rfl (Oq.box (cs := #[v152, .int .i64 0]) hs rfl rfl rfl (fun b162 w163 hs => ?_))
    refine Rg.st rfl rfl ?_
    refine Rg.go ?_
    refine Cd.sr ?_
    refine Rg.mv rfl rfl ?_
    obtain ⟨x165, hx166, hp145⟩ := bind_s hp145
    refine Rg.step rfl (Oq.call Try.call10 rfl rfl (c10 S155 _ (⟨x150, 0⟩ : limelightkeep_Tape) _ f159 (hs.enter 0 rfl rfl) _ hx166) (fun v167 w168 h169 => ?_))
    obtain ⟨S170, v173, v175, v177, v179, v181, rfl, hs171, f174, f176, f178, f180, f182⟩ := h169
    have le172 := hs171.le
    have hs := hs.call1 0 rfl rfl hs171
    refine Rg.mv rfl rfl ?_
    obtain ⟨x183, hx184, hp145⟩ := bind_s hp145
    refine Rg.step rfl (Oq.call Try.call10 rfl rfl (c10 S170 _ (⟨x165.2.L, x165.2.At⟩ : limelightkeep_Tape) _ f182 (hs.enter 0 rfl rfl) _ hx184) (fun v185 w186 h187 => ?_))
    obtain ⟨S188, v191, v193, v195, v197, v199, rfl, hs189, f192, f194, f196, f198, f200⟩ := h187
    have le190 := hs189.le
    have hs := hs.call1 0 rfl rfl hs189
    refine Rg.step rfl (Oq.alloc (cs := #[.int .i64 0, .int .u32 0, .int .u32 0, .slice none 0 0, .slice none 0 0, .slice none 0 0, .int .u64 0, .int .i64 0, .int .i64 0, .slice none 0 0]) hs ii33 rfl rfl rfl (fun b201 w202 hs => ?_))
    refine Rg.step rfl (Oq.alloc (cs := #[.int .i64 0, .int .u32 0, .int .u32 0, .slice none 0 0, .slice none 0 0, .slice none 0 0, .int .u64 0, .int .i64 0, .int .i64 0, .slice none 0 0]) hs ii33 rfl rfl rfl (fun b204 w205 hs => ?_))
    refine Rg.step rfl (Oq.storeN hs 1 rfl (vals := [.int .i64 x165.1.Kind, .int .u32 x165.1.From, .int .u32 x165.1.About, v173, v175, v177, .int .u64 x165.1.Rate, .int .i64 x165.1.Type_, .int .i64 x165.1.Count, v179]) zz33 rfl rfl (one_all ⟨rfl, rfl, rfl, (f174.mono le190).one, (f176.mono le190).one, (f178.mono le190).one, rfl, rfl, rfl, (f180.mono le190).one, trivial⟩) rfl [.box b204 #[.int .i64 0, .int .u32 0, .int .u32 0, .slice none 0 0, .slice none 0 0, .slice none 0 0, .int .u64 0, .int .i64 0, .int .i64 0, .slice none 0 0] 33, .box b201 #[.int .i64 x165.1.Kind, .int .u32 x165.1.From, .int .u32 x165.1.About, v173, v175, v177, .int .u64 x165.1.Rate, .int .i64 x165.1.Type_, .int .i64 x165.1.Count, v179] 33, .box b162 #[v199, .int .i64 x183.2.At] 26, .app g160 v152 x150.length 3 1] rfl (fun w207 hs => ?_))
    refine Rg.step rfl (Oq.storeN hs 0 rfl (vals := [.int .i64 x183.1.Kind, .int .u32 x183.1.From, .int .u32 x183.1.About, v191, v193, v195, .int .u64 x183.1.Rate, .int .i64 x183.1.Type_, .int .i64 x183.1.Count, v197]) zz33 rfl rfl (one_all ⟨rfl, rfl, rfl, f192.one, f194.one, f196.one, rfl, rfl, rfl, f198.one, trivial⟩) rfl [.box b204 #[.int .i64 x183.1.Kind, .int .u32 x183.1.From, .int .u32 x183.1.About, v191, v193, v195, .int .u64 x183.1.Rate, .int .i64 x183.1.Type_, .int .i64 x183.1.Count, v197] 33, .box b201 #[.int .i64 x165.1.Kind, .int .u32 x165.1.From, .int .u32 x165.1.About, v173, v175, v177, .int .u64 x165.1.Rate, .int .i64 x165.1.Type_, .int .i64 x165.1.Count, v179] 33, .box b162 #[v199, .int .i64 x183.2.At] 26, .app g160 v152 x150.length 3 1] rfl (fun w208 hs => ?_))
    refine Rg.go ?_
    refine Cd.seq ?_
    refine Cd.seq ?_
    obtain ⟨p210, hp211, hp145⟩ := bind_s hp145
    refine Cd.post (fun K w => ∃ (S212 : Mp), K = [(1, .int .i64 q134), (3, .pointer (some ⟨b201, 0, none⟩)), (4, .pointer (some ⟨b204, 0, none⟩)), (37, .bool p210)] ∧ Le S188 S212 ∧ St w0 [] S0 S212 [.box b204 #[.int .i64 x183.1.Kind, .int .u32 x183.1.From, .int .u32 x183.1.About, v191, v193, v195, .int .u64 x183.1.Rate, .int .i64 x183.1.Type_, .int .i64 x183.1.Count, v197] 33, .box b201 #[.int .i64 x165.1.Kind, .int .u32 x165.1.From, .int .u32 x165.1.About, v173, v175, v177, .int .u64 x165.1.Rate, .int .i64 x165.1.Type_, .int .i64 x165.1.Count, v179] 33] w) ?_ ?_
    ·rintro K215 w213 ⟨S212, rfl, le214, hs⟩
     refine Cd.go ?_
     refine Cd.cond (t := p210) rfl (fun hc216 => ?_) (fun hc216 => ?_)
     ·have hp145 := ite_t hc216 hp145
      refine Cd.sr ?_
      refine Rg.st rfl rfl ?_
      refine Rg.go ?_
      refine Cd.ret ?_
      obtain rfl := some_s hp145
      have h140 := el_ret h140
      obtain rfl := some_s h140
      have e := hl139 (fun _ e => by cases e)
      subst e
      have h0 := el_ret h0
      obtain rfl := some_s h0
      exact fun a ha => Cd.retA (R := Re (Po3 S0 w0 [] _)) ha Try.results3 ⟨_, _, rfl, rfl, rfl⟩ ⟨_, rfl, S212, rfl, (hs.pick [] (by decide) rfl)⟩
     ·have hp145 := ite_f hc216 hp145
      refine Cd.sg ?_
      refine Cd.seq ?_
      refine Cd.sr ?_
      refine Rg.st rfl rfl ?_
      refine Rg.go ?_
      obtain ⟨fl217, hfl218, hp145⟩ := bind_s hp145
      refine Cd.post (fun K w => ∃ (j219 : Int) (S220 : Mp), K = [(1, .int .i64 q134), (3, .pointer (some ⟨b201, 0, none⟩)), (4, .pointer (some ⟨b204, 0, none⟩))] ∧ fl217 = Flow.brk j219 ∧ Le S212 S220 ∧ St w0 [] S0 S220 [.box b204 #[.int .i64 x183.1.Kind, .int .u32 x183.1.From, .int .u32 x183.1.About, v191, v193, v195, .int .u64 x183.1.Rate, .int .i64 x183.1.Type_, .int .i64 x183.1.Count, v197] 33, .box b201 #[.int .i64 x165.1.Kind, .int .u32 x165.1.From, .int .u32 x165.1.About, v173, v175, v177, .int .u64 x165.1.Rate, .int .i64 x165.1.Type_, .int .i64 x165.1.Count, v179] 33] w) ?_ ?_
      ·rintro K223 w222 ⟨j219, S220, rfl, rfl, le221, hs⟩
       have hp145 := el_brk hp145
       try dsimp only at hp145
       refine Cd.go ?_
       refine Cd.sr ?_
       refine Rg.vN (X.loadN (vals := [.int .i64 x165.1.Kind, .int .u32 x165.1.From, .int .u32 x165.1.About, v173, v175, v177, .int .u64 x165.1.Rate, .int .i64 x165.1.Type_, .int .i64 x165.1.Count, v179]) Try.underlying33 rfl zz33 rfl (hs.range 1 rfl 0 rfl)) rfl ?_
       refine Rg.vN (X.loadN (vals := [.int .i64 x183.1.Kind, .int .u32 x183.1.From, .int .u32 x183.1.About, v191, v193, v195, .int .u64 x183.1.Rate, .int .i64 x183.1.Type_, .int .i64 x183.1.Count, v197]) Try.underlying33 rfl zz33 rfl (hs.range 0 rfl 0 rfl)) rfl ?_
       refine Rg.step rfl (Oq.lit (sz := 10) (cs0 := [.int .i64 0, .int .u32 0, .int .u32 0, .slice none 0 0, .slice none 0 0, .slice none 0 0, .int .u64 0, .int .i64 0, .int .i64 0, .slice none 0 0, .int .i64 0, .int .u32 0, .int .u32 0, .slice none 0 0, .slice none 0 0, .slice none 0 0, .int .u64 0, .int .i64 0, .int .i64 0, .slice none 0 0]) (cells := [.int .i64 x165.1.Kind, .int .u32 x165.1.From, .int .u32 x165.1.About, v173, v175, v177, .int .u64 x165.1.Rate, .int .i64 x165.1.Type_, .int .i64 x165.1.Count, v179, .int .i64 x183.1.Kind, .int .u32 x183.1.From, .int .u32 x183.1.About, v191, v193, v195, .int .u64 x183.1.Rate, .int .i64 x183.1.Type_, .int .i64 x183.1.Count, v197]) hs Try.underlying36 ii33 rfl rfl rfl rfl rfl rfl ⟨_, [.int .i64 x165.1.Kind, .int .u32 x165.1.From, .int .u32 x165.1.About, v173, v175, v177, .int .u64 x165.1.Rate, .int .i64 x165.1.Type_, .int .i64 x165.1.Count, v179], _, rfl, rfl, rfl, ⟨_, [.int .i64 x183.1.Kind, .int .u32 x183.1.From, .int .u32 x183.1.About, v191, v193, v195, .int .u64 x183.1.Rate, .int .i64 x183.1.Type_, .int .i64 x183.1.Count, v197], _, rfl, rfl, rfl, rfl⟩⟩ rfl rfl rfl (fun b224 w225 S226 hs le227 hE228 => ?_))
       have f230 : Rd S226 10 R_api_Report (.slice (some ⟨b224, 0, none⟩) 2 2) ([x165.1, x183.1] : List api_Report) := Rd.of_cells (xs := ([x165.1, x183.1] : List api_Report)) ⟨[.int .i64 x165.1.Kind, .int .u32 x165.1.From, .int .u32 x165.1.About, v173, v175, v177, .int .u64 x165.1.Rate, .int .i64 x165.1.Type_, .int .i64 x165.1.Count, v179], _, rfl, rfl, one_all ⟨rfl, rfl, rfl, (f174.mono (le190.trans (le214.trans (le221.trans le227)))).one, (f176.mono (le190.trans (le214.trans (le221.trans le227)))).one, (f178.mono (le190.trans (le214.trans (le221.trans le227)))).one, rfl, rfl, rfl, (f180.mono (le190.trans (le214.trans (le221.trans le227)))).one, trivial⟩, ⟨_, _, _, _, rfl, (f174.mono (le190.trans (le214.trans (le221.trans le227)))), (f176.mono (le190.trans (le214.trans (le221.trans le227)))), (f178.mono (le190.trans (le214.trans (le221.trans le227)))), (f180.mono (le190.trans (le214.trans (le221.trans le227))))⟩, ⟨[.int .i64 x183.1.Kind, .int .u32 x183.1.From, .int .u32 x183.1.About, v191, v193, v195, .int .u64 x183.1.Rate, .int .i64 x183.1.Type_, .int .i64 x183.1.Count, v197], _, rfl, rfl, one_all ⟨rfl, rfl, rfl, (f192.mono (le214.trans (le221.trans le227))).one, (f194.mono (le214.trans (le221.trans le227))).one, (f196.mono (le214.trans (le221.trans le227))).one, rfl, rfl, rfl, (f198.mono (le214.trans (le221.trans le227))).one, trivial⟩, ⟨_, _, _, _, rfl, (f192.mono (le214.trans (le221.trans le227))), (f194.mono (le214.trans (le221.trans le227))), (f196.mono (le214.trans (le221.trans le227))), (f198.mono (le214.trans (le221.trans le227)))⟩, rfl⟩⟩ hE228 (Nat.le_of_ble_eq_true rfl) (Nat.le_of_ble_eq_true rfl)
       obtain ⟨x231, hx232, hp145⟩ := bind_s hp145
       refine Rg.step rfl (Oq.call Try.call13 rfl rfl (c13 S226 (St.start _ _ hs.has) _ _ f230 _ hx232) (fun v233 w234 h235 => ?_))
       obtain ⟨S236, v239, g241, rfl, hs237, f240⟩ := h235
       have le238 := hs237.le
       have hs := hs.call0 hs237
       refine Rg.mv rfl rfl ?_
       refine Rg.vN (X.extract rfl rfl) rfl ?_
       refine Rg.vN (X.extract rfl rfl) rfl ?_
       refine Rg.weak [(1, .int .i64 q134), (61, v239), (62, .int .i64 x231.2)] ⟨rfl, rfl, rfl, trivial⟩ ?_
       refine Rg.st rfl rfl ?_
       refine Rg.st rfl rfl ?_
       refine Rg.go ?_
       refine Cd.sr ?_
       refine Rg.st rfl rfl ?_
       refine Rg.go ?_
       obtain ⟨fl243, hfl244, hp145⟩ := bind_s hp145
       refine Cd.post (fun K w => ∃ (j245 : Int) (S246 : Mp), K = [(1, .int .i64 q134)] ∧ fl243 = Flow.brk j245 ∧ Le S236 S246 ∧ St w0 [] S0 S246 [] w) ?_ ?_
       ·rintro K249 w248 ⟨j245, S246, rfl, rfl, le247, hs⟩
        have hp145 := el_brk hp145
        try dsimp only at hp145
        obtain rfl := some_s hp145
        exact fun a ha => ⟨[(1, .int .i64 q134)], ha.weak ⟨rfl, trivial⟩, S246, rfl, rfl, (le157.trans (le172.trans (le190.trans (le214.trans (le221.trans (le227.trans (le238.trans le247))))))), hs⟩
       ·skip
        refine Cd.weak [(1, .int .i64 q134), (8, v239), (10, .int .i64 0)] ⟨rfl, rfl, rfl, trivial⟩ ?_
        refine Cd.block (Cd.loop (fun sg => limelightlaw6_RtcpNumbers_l5 q134 x231 sg) (fun (sg : Int) K w => ∃ (S251 : Mp), K = [(1, .int .i64 q134), (8, v239), (10, .int .i64 sg)] ∧ Le S236 S251 ∧ St w0 [] S0 S251 [.app g241 v239 x231.1.length 5 1] w) 0 fl243 hfl244 ⟨S236, rfl, Le.refl _, (hs.pick [0] (by decide) rfl)⟩ ?_)
        rintro q250 fl253 K258 w257 hb254 ⟨S251, rfl, le252, hs⟩ hl255
        have h256 : limelightlaw6_RtcpNumbers_l5 q134 x231 q250 = some fl253 := hb254
        unfold limelightlaw6_RtcpNumbers_l5 at h256
        refine Cd.seq ?_
        refine Cd.sr ?_
        refine Rg.mv rfl rfl ?_
        refine Rg.mv rfl rfl ?_
        refine Rg.vN (X.lenR Try.underlying31 rfl (f240.mono le252)) rfl ?_
        refine Rg.vN (X.lss rfl rfl) rfl ?_
        refine Rg.mv rfl rfl ?_
        refine Rg.vT rfl rfl rfl (fun hW => X.move rfl) ?_
        refine Rg.vT rfl rfl rfl (fun hW => X.lss (ev_g rfl hW) rfl) ?_
        refine Rg.vN (X.pickAnd rfl rfl rfl) rfl ?_
        refine Rg.go ?_
        refine Cd.cond (t := (decide (q250 < (x231.1.length : Int))) && (decide (q134 < 25))) rfl (fun hc259 => ?_) (fun hc259 => ?_)
        ·have h256 := ite_t hc259 h256
         refine Cd.sg ?_
         refine Cd.seq ?_
         obtain ⟨p260, hp261, h256⟩ := bind_s h256
         refine Cd.post (fun K w => ∃ (S262 : Mp), K = [(1, .int .i64 q134), (8, v239), (10, .int .i64 q250)] ∧ p260 = Flow.next () ∧ Le S251 S262 ∧ St w0 [] S0 S262 [.app g241 v239 x231.1.length 5 1] w) ?_ ?_
         ·rintro K265 w263 ⟨S262, rfl, rfl, le264, hs⟩
          have h256 := el_next h256
          try dsimp only at h256
          refine Cd.go ?_
          refine Cd.region ?_
          refine Rg.mv rfl rfl ?_
          refine Rg.weak [(1, .int .i64 q134), (8, v239), (71, .int .i64 q250)] ⟨rfl, rfl, rfl, trivial⟩ ?_
          refine Rg.vN (X.add rfl rfl) rfl ?_
          refine Rg.st rfl rfl ?_
          refine Rg.nil ?_
          exact fun a ha => ⟨add .i64 q250 1, [(1, .int .i64 q134), (8, v239), (10, .int .i64 (add .i64 q250 1))], (some_s h256).symm, ha.weak ⟨rfl, rfl, rfl, trivial⟩, S262, rfl, (le252.trans le264), hs⟩
         ·skip
          refine Cd.block ?_
          refine Cd.sr ?_
          refine Rg.step rfl (Oq.litRow (sz := 1) (R := (RI .u8)) (xs := ([] : List Int)) (cs0 := []) (cells := []) hs Try.underlying31 ii5 rfl rfl rfl rfl rfl rfl rfl rfl rfl rfl rfl rfl (fun v271 w267 b266 cur272 hs f273 => ?_))
          refine Rg.mv rfl rfl ?_
          refine Rg.weak [(1, .int .i64 q134), (8, v239), (10, .int .i64 q250), (73, v271), (74, v239)] ⟨rfl, rfl, rfl, rfl, rfl, trivial⟩ ?_
          obtain ⟨y275, hx276, hp261⟩ := bind_s hp261
          refine Rg.step rfl (Oq.appendRow hs 0 rfl Try.underlying31 ii5 rfl rfl rfl rfl rfl rfl f273 (f240.mono le252) hx276 rfl rfl rfl (fun v277 w278 g279 cur280 hs f281 => ?_))
          refine Rg.st rfl rfl ?_
          refine Rg.go ?_
          refine Cd.sr ?_
          refine Rg.mv rfl rfl ?_
          refine Rg.mv rfl rfl ?_
          obtain ⟨x282, hx283, hp261⟩ := bind_s hp261
          obtain ⟨b284, vals285, hg286, hl287, hR288, hC289, hX290⟩ := mk_rowix Try.underlying31 zz5 f281 hx283
          subst hg286
          obtain rfl : vals285 = [.int .u8 x282] := hR288
          refine Rg.vN (hX290 rfl rfl) rfl ?_
          refine Rg.vN (X.load1 Try.underlying5 rfl rfl (hs.rowcell 0 rfl (q250.toNat * 1 + 0) (hC289 0 _ rfl))) rfl ?_
          refine Rg.mv rfl rfl ?_
          refine Rg.mv rfl rfl ?_
          refine Rg.vN (X.add rfl rfl) rfl ?_
          refine Rg.vN (X.rem rfl rfl (by decide)) rfl ?_
          refine Rg.vN (X.conv Try.underlying3 Try.underlying42 rfl) rfl ?_
          refine Rg.weak [(1, .int .i64 q134), (8, v239), (10, .int .i64 q250), (11, v277), (76, v277), (77, .int .i64 q250), (79, .int .u8 x282), (84, .int .u64 (cv .u64 (rem .i64 (add .i64 q250 q134) 8)))] ⟨rfl, rfl, rfl, rfl, rfl, rfl, rfl, rfl, trivial⟩ ?_
          obtain ⟨hg291, hp261⟩ := gd_s hp261
          refine Rg.vN (X.shl rfl rfl hg291) rfl ?_
          refine Rg.vN (X.xor rfl rfl) rfl ?_
          obtain ⟨x292, hx293, hp261⟩ := bind_s hp261
          obtain ⟨b294, vals295, hg296, hl297, hR298, hC299, hX300⟩ := mk_rowix Try.underlying31 zz5 f281 hx293
          obtain rfl := Option.some.inj hg296
          obtain rfl : vals295 = [.int .u8 x292] := hR298
          refine Rg.vN (hX300 rfl rfl) rfl ?_
          refine Rg.step rfl (Oq.storeRow (x' := bxor .u8 x282 (shl .u8 1 (cv .u64 (rem .i64 (add .i64 q250 q134) 8)))) (f := 0) (vals := [.int .u8 x292]) hs 0 rfl f281 hx293 hl297 hC299 rfl zz5 rfl rfl rfl rfl rfl (fun w301 cur302 hs f303 => ?_))
          refine Rg.go ?_
          refine Cd.seq ?_
          obtain ⟨S304, hs, le305, f306⟩ := hs.sealRow 0 rfl f303
          obtain ⟨p308, hp309, hp261⟩ := bind_s hp261
          refine Cd.post (fun K w => ∃ (S310 : Mp), K = [(1, .int .i64 q134), (8, v239), (10, .int .i64 q250), (104, .bool p308)] ∧ Le S304 S310 ∧ St w0 [] S0 S310 [.app g241 v239 x231.1.length 5 1] w) ?_ ?_
          ·rintro K313 w311 ⟨S310, rfl, le312, hs⟩
           refine Cd.go ?_
           refine Cd.cond (t := p308) rfl (fun hc314 => ?_) (fun hc314 => ?_)
           ·have hp261 := ite_t hc314 hp261
            refine Cd.sr ?_
            refine Rg.st rfl rfl ?_
            refine Rg.go ?_
            refine Cd.ret ?_
            obtain rfl := some_s hp261
            have h256 := el_ret h256
            obtain rfl := some_s h256
            have e := hl255 (fun _ e => by cases e)
            subst e
            have hp145 := el_ret hp145
            obtain rfl := some_s hp145
            have h140 := el_ret h140
            obtain rfl := some_s h140
            have e := hl139 (fun _ e => by cases e)
            subst e
            have h0 := el_ret h0
            obtain rfl := some_s h0
            exact fun a ha => Cd.retA (R := Re (Po3 S0 w0 [] _)) ha Try.results3 ⟨_, _, rfl, rfl, rfl⟩ ⟨_, rfl, S310, rfl, (hs.pick [] (by decide) rfl)⟩
           ·have hp261 := ite_f hc314 hp261
            refine Cd.skip ?_
            obtain rfl := some_s hp261
            exact fun a ha => ⟨[(1, .int .i64 q134), (8, v239), (10, .int .i64 q250)], ha.weak ⟨rfl, rfl, rfl, trivial⟩, S310, rfl, rfl, (le305.trans le312), hs⟩
          ·skip
           refine Cd.region ?_
           refine Rg.mv rfl rfl ?_
           refine Rg.mv rfl rfl ?_
           obtain ⟨y318, hx319, hp309⟩ := bind_s hp309
           obtain ⟨hb320, he321⟩ := cutTo_s hx319
           obtain ⟨v315, f316, hX317⟩ := mk_sliceH Try.underlying31 zz5 (f240.mono (le252.trans le305)) hb320
           rw [he321] at f316
           refine Rg.vN (hX317 rfl rfl) rfl ?_
           obtain ⟨x322, hx323, hp309⟩ := bind_s hp309
           refine Rg.step rfl (Oq.call Try.call14 rfl rfl (c14 S304 (St.start _ _ hs.has) _ _ f316 _ hx323) (fun v324 w325 h326 => ?_))
           obtain ⟨S327, rfl, hs328⟩ := h326
           have le329 := hs328.le
           have hs := hs.call0 hs328
           refine Rg.vN (X.not rfl) rfl ?_
           refine Rg.weak [(1, .int .i64 q134), (8, v239), (10, .int .i64 q250), (11, v277), (92, .bool (!x322))] ⟨rfl, rfl, rfl, rfl, rfl, trivial⟩ ?_
           refine Rg.mv rfl rfl ?_
           refine Rg.vF rfl rfl rfl (fun hW => X.move rfl) ?_
           refine Rg.split (c := !x322) (tj := 93) rfl (fun hc330 => ?_) (fun hc330 => ?_)
           ·have hp309 := ite_t hc330 hp309
            refine Rg.weak [(1, .int .i64 q134), (8, v239), (10, .int .i64 q250), (93, .bool true), (94, undef)] ⟨rfl, rfl, rfl, rfl, get_u rfl (nn hc330), trivial⟩ ?_
            refine Rg.vO rfl rfl rfl rfl ?_
            refine Rg.vO rfl rfl rfl rfl ?_
            refine Rg.vN (X.pickT rfl rfl) rfl ?_
            refine Rg.mv rfl rfl ?_
            refine Rg.vO rfl rfl rfl rfl ?_
            refine Rg.vO rfl rfl rfl rfl ?_
            refine Rg.vO rfl rfl rfl rfl ?_
            refine Rg.vO rfl rfl rfl rfl ?_
            refine Rg.vO rfl rfl rfl rfl ?_
            refine Rg.vN (X.pickT rfl rfl) rfl ?_
            refine Rg.nil ?_
            obtain rfl := some_s hp309
            exact fun a ha => ⟨[(1, .int .i64 q134), (8, v239), (10, .int .i64 q250), (104, .bool true)], ha.weak ⟨rfl, rfl, rfl, rfl, trivial⟩, S327, rfl, le329, (hs.pick [1] (by decide) rfl)⟩
           ·have hp309 := ite_f hc330 hp309
            refine Rg.weak [(1, .int .i64 q134), (8, v239), (10, .int .i64 q250), (93, .bool false), (94, v277)] ⟨rfl, rfl, rfl, rfl, get_g rfl (not_f hc330), trivial⟩ ?_
            refine Rg.gon rfl rfl rfl ?_
            obtain ⟨x331, hx332, hp309⟩ := bind_s hp309
            refine Rg.step rfl (Oq.call Try.call14 rfl rfl (c14 S327 (St.start _ _ hs.has) _ _ (f306.mono le329) _ hx332) (fun v333 w334 h335 => ?_))
            obtain ⟨S336, rfl, hs337⟩ := h335
            have le338 := hs337.le
            have hs := hs.call0 hs337
            refine Rg.gon rfl rfl rfl ?_
            refine Rg.vN (X.not rfl) rfl ?_
            refine Rg.vN (X.pickF rfl rfl) rfl ?_
            refine Rg.mv rfl rfl ?_
            refine Rg.vF rfl rfl rfl (fun hW => X.move rfl) ?_
            refine Rg.vF rfl rfl rfl (fun hW => X.move rfl) ?_
            refine Rg.split (c := !x331) (tj := 98) rfl (fun hc339 => ?_) (fun hc339 => ?_)
            ·have hp309 := ite_t hc339 hp309
             refine Rg.weak [(1, .int .i64 q134), (8, v239), (10, .int .i64 q250), (98, .bool true), (99, undef), (100, undef)] ⟨rfl, rfl, rfl, rfl, get_u rfl (nn hc339), get_u rfl (nn hc339), trivial⟩ ?_
             refine Rg.vO rfl rfl rfl rfl ?_
             refine Rg.vO rfl rfl rfl rfl ?_
             refine Rg.vO rfl rfl rfl rfl ?_
             refine Rg.vN (X.pickT rfl rfl) rfl ?_
             refine Rg.nil ?_
             obtain rfl := some_s hp309
             exact fun a ha => ⟨[(1, .int .i64 q134), (8, v239), (10, .int .i64 q250), (104, .bool true)], ha.weak ⟨rfl, rfl, rfl, rfl, trivial⟩, S336, rfl, (le329.trans le338), (hs.pick [1] (by decide) rfl)⟩
            ·have hp309 := ite_f hc339 hp309
             refine Rg.weak [(1, .int .i64 q134), (8, v239), (10, .int .i64 q250), (98, .bool false), (99, v239), (100, .int .i64 q250)] ⟨rfl, rfl, rfl, rfl, get_g rfl (not_f hc339), get_g rfl (not_f hc339), trivial⟩ ?_
             refine Rg.gon rfl rfl rfl ?_
             obtain ⟨y343, hx344, hp309⟩ := bind_s hp309
             obtain ⟨hb345, he346⟩ := cutFrom_s hx344
             obtain ⟨v340, f341, hX342⟩ := mk_sliceL Try.underlying31 zz5 (f240.mono (le252.trans (le305.trans (le329.trans le338)))) hb345
             rw [he346] at f341
             refine Rg.vN (hX342 rfl rfl) rfl ?_
             refine Rg.gon rfl rfl rfl ?_
             obtain ⟨x347, hx348, hp309⟩ := bind_s hp309
             refine Rg.step rfl (Oq.call Try.call14 rfl rfl (c14 S336 (St.start _ _ hs.has) _ _ f341 _ hx348) (fun v349 w350 h351 => ?_))
             obtain ⟨S352, rfl, hs353⟩ := h351
             have le354 := hs353.le
             have hs := hs.call0 hs353
             refine Rg.gon rfl rfl rfl ?_
             refine Rg.vN (X.not rfl) rfl ?_
             refine Rg.vN (X.pickF rfl rfl) rfl ?_
             refine Rg.nil ?_
             obtain rfl := some_s hp309
             exact fun a ha => ⟨[(1, .int .i64 q134), (8, v239), (10, .int .i64 q250), (104, .bool (!x347))], ha.weak ⟨rfl, rfl, rfl, rfl, trivial⟩, S352, rfl, (le329.trans (le338.trans le354)), (hs.pick [1] (by decide) rfl)⟩
        ·have h256 := ite_f hc259 h256
         refine Cd.exit ?_
         obtain rfl := some_s h256
         have e := hl255 (fun _ e => by cases e)
         exact fun a ha => ⟨[(1, .int .i64 q134)], ha.weak ⟨rfl, trivial⟩, _, S251, rfl, e.symm, le252, (hs.pick [] (by decide) rfl)⟩
      ·skip
       refine Cd.weak [(1, .int .i64 q134), (3, .pointer (some ⟨b201, 0, none⟩)), (4, .pointer (some ⟨b204, 0, none⟩)), (5, .int .i64 0)] ⟨rfl, rfl, rfl, rfl, trivial⟩ ?_
       refine Cd.block (Cd.loop (fun sg => limelightlaw6_RtcpNumbers_l4 x165 sg) (fun (sg : Int) K w => ∃ (S362 : Mp), K = [(1, .int .i64 q134), (3, .pointer (some ⟨b201, 0, none⟩)), (4, .pointer (some ⟨b204, 0, none⟩)), (5, .int .i64 sg)] ∧ Le S212 S362 ∧ St w0 [] S0 S362 [.box b204 #[.int .i64 x183.1.Kind, .int .u32 x183.1.From, .int .u32 x183.1.About, v191, v193, v195, .int .u64 x183.1.Rate, .int .i64 x183.1.Type_, .int .i64 x183.1.Count, v197] 33, .box b201 #[.int .i64 x165.1.Kind, .int .u32 x165.1.From, .int .u32 x165.1.About, v173, v175, v177, .int .u64 x165.1.Rate, .int .i64 x165.1.Type_, .int .i64 x165.1.Count, v179] 33] w) 0 fl217 hfl218 ⟨S212, rfl, Le.refl _, hs⟩ ?_)
       rintro q361 fl364 K369 w368 hb365 ⟨S362, rfl, le363, hs⟩ hl366
       have h367 : limelightlaw6_RtcpNumbers_l4 x165 q361 = some fl364 := hb365
       unfold limelightlaw6_RtcpNumbers_l4 at h367
       refine Cd.seq ?_
       refine Cd.sr ?_
       refine Rg.mv rfl rfl ?_
       refine Rg.vN (X.lss rfl rfl) rfl ?_
       refine Rg.go ?_
       refine Cd.cond (t := decide (q361 < 11)) rfl (fun hc370 => ?_) (fun hc370 => ?_)
       ·have h367 := ite_t hc370 h367
        refine Cd.sg ?_
        refine Cd.seq ?_
        refine Cd.block ?_
        refine Cd.sr ?_
        refine Rg.step rfl (Oq.lit (sz := 1) (cs0 := [.int .i64 0, .int .i64 0, .int .i64 0, .int .i64 0, .int .i64 0, .int .i64 0, .int .i64 0, .int .i64 0, .int .i64 0, .int .i64 0, .int .i64 0, .int .i64 0, .int .i64 0, .int .i64 0, .int .i64 0, .int .i64 0, .int .i64 0, .int .i64 0, .int .i64 0, .int .i64 0, .int .i64 0]) (cells := [.int .i64 (-1), .int .i64 0, .int .i64 1, .int .i64 3, .int .i64 6, .int .i64 7, .int .i64 31, .int .i64 32, .int .i64 191, .int .i64 192, .int .i64 205, .int .i64 206, .int .i64 223, .int .i64 224, .int .i64 255, .int .i64 256, .int .i64 511, .int .i64 512, .int .i64 131072, .int .i64 131073, .int .i64 1099511627776]) hs Try.underlying37 ii2 rfl rfl rfl rfl rfl rfl ⟨_, [.int .i64 (-1)], _, rfl, rfl, rfl, ⟨_, [.int .i64 0], _, rfl, rfl, rfl, ⟨_, [.int .i64 1], _, rfl, rfl, rfl, ⟨_, [.int .i64 3], _, rfl, rfl, rfl, ⟨_, [.int .i64 6], _, rfl, rfl, rfl, ⟨_, [.int .i64 7], _, rfl, rfl, rfl, ⟨_, [.int .i64 31], _, rfl, rfl, rfl, ⟨_, [.int .i64 32], _, rfl, rfl, rfl, ⟨_, [.int .i64 191], _, rfl, rfl, rfl, ⟨_, [.int .i64 192], _, rfl, rfl, rfl, ⟨_, [.int .i64 205], _, rfl, rfl, rfl, ⟨_, [.int .i64 206], _, rfl, rfl, rfl, ⟨_, [.int .i64 223], _, rfl, rfl, rfl, ⟨_, [.int .i64 224], _, rfl, rfl, rfl, ⟨_, [.int .i64 255], _, rfl, rfl, rfl, ⟨_, [.int .i64 256], _, rfl, rfl, rfl, ⟨_, [.int .i64 511], _, rfl, rfl, rfl, ⟨_, [.int .i64 512], _, rfl, rfl, rfl, ⟨_, [.int .i64 131072], _, rfl, rfl, rfl, ⟨_, [.int .i64 131073], _, rfl, rfl, rfl, ⟨_, [.int .i64 1099511627776], _, rfl, rfl, rfl, rfl⟩⟩⟩⟩⟩⟩⟩⟩⟩⟩⟩⟩⟩⟩⟩⟩⟩⟩⟩⟩⟩ rfl rfl rfl (fun b371 w372 S373 hs le374 hE375 => ?_))
        have f377 : Rd S373 1 (RI .i64) (.slice (some ⟨b371, 0, none⟩) 21 21) ([-1, 0, 1, 3, 6, 7, 31, 32, 191, 192, 205, 206, 223, 224, 255, 256, 511, 512, 131072, 131073, 1099511627776] : List Int) := Rd.of_cells (xs := ([-1, 0, 1, 3, 6, 7, 31, 32, 191, 192, 205, 206, 223, 224, 255, 256, 511, 512, 131072, 131073, 1099511627776] : List Int)) ⟨[.int .i64 (-1)], _, rfl, rfl, one_all ⟨rfl, trivial⟩, rfl, ⟨[.int .i64 0], _, rfl, rfl, one_all ⟨rfl, trivial⟩, rfl, ⟨[.int .i64 1], _, rfl, rfl, one_all ⟨rfl, trivial⟩, rfl, ⟨[.int .i64 3], _, rfl, rfl, one_all ⟨rfl, trivial⟩, rfl, ⟨[.int .i64 6], _, rfl, rfl, one_all ⟨rfl, trivial⟩, rfl, ⟨[.int .i64 7], _, rfl, rfl, one_all ⟨rfl, trivial⟩, rfl, ⟨[.int .i64 31], _, rfl, rfl, one_all ⟨rfl, trivial⟩, rfl, ⟨[.int .i64 32], _, rfl, rfl, one_all ⟨rfl, trivial⟩, rfl, ⟨[.int .i64 191], _, rfl, rfl, one_all ⟨rfl, trivial⟩, rfl, ⟨[.int .i64 192], _, rfl, rfl, one_all ⟨rfl, trivial⟩, rfl, ⟨[.int .i64 205], _, rfl, rfl, one_all ⟨rfl, trivial⟩, rfl, ⟨[.int .i64 206], _, rfl, rfl, one_all ⟨rfl, trivial⟩, rfl, ⟨[.int .i64 223], _, rfl, rfl, one_all ⟨rfl, trivial⟩, rfl, ⟨[.int .i64 224], _, rfl, rfl, one_all ⟨rfl, trivial⟩, rfl, ⟨[.int .i64 255], _, rfl, rfl, one_all ⟨rfl, trivial⟩, rfl, ⟨[.int .i64 256], _, rfl, rfl, one_all ⟨rfl, trivial⟩, rfl, ⟨[.int .i64 511], _, rfl, rfl, one_all ⟨rfl, trivial⟩, rfl, ⟨[.int .i64 512], _, rfl, rfl, one_all ⟨rfl, trivial⟩, rfl, ⟨[.int .i64 131072], _, rfl, rfl, one_all ⟨rfl, trivial⟩, rfl, ⟨[.int .i64 131073], _, rfl, rfl, one_all ⟨rfl, trivial⟩, rfl, ⟨[.int .i64 1099511627776], _, rfl, rfl, one_all ⟨rfl, trivial⟩, rfl, rfl⟩⟩⟩⟩⟩⟩⟩⟩⟩⟩⟩⟩⟩⟩⟩⟩⟩⟩⟩⟩⟩ hE375 (Nat.le_of_ble_eq_true rfl) (Nat.le_of_ble_eq_true rfl)
        refine Rg.vN (X.lenR Try.underlying37 rfl f377) rfl ?_
        refine Rg.mv rfl rfl ?_
        refine Rg.go ?_
        obtain ⟨fl378, hfl379, h367⟩ := bind_s h367
        refine Cd.post (fun K w => ∃ (j380 : Int) (S381 : Mp), K = [(1, .int .i64 q134), (3, .pointer (some ⟨b201, 0, none⟩)), (4, .pointer (some ⟨b204, 0, none⟩)), (5, .int .i64 q361)] ∧ fl378 = Flow.brk j380 ∧ Le S373 S381 ∧ St w0 [] S0 S381 [.box b204 #[.int .i64 x183.1.Kind, .int .u32 x183.1.From, .int .u32 x183.1.About, v191, v193, v195, .int .u64 x183.1.Rate, .int .i64 x183.1.Type_, .int .i64 x183.1.Count, v197] 33, .box b201 #[.int .i64 x165.1.Kind, .int .u32 x165.1.From, .int .u32 x165.1.About, v173, v175, v177, .int .u64 x165.1.Rate, .int .i64 x165.1.Type_, .int .i64 x165.1.Count, v179] 33] w) ?_ ?_
        ·rintro K384 w383 ⟨j380, S381, rfl, rfl, le382, hs⟩
         have h367 := el_brk h367
         try dsimp only at h367
         refine Cd.go ?_
         refine Cd.region ?_
         refine Rg.mv rfl rfl ?_
         refine Rg.weak [(1, .int .i64 q134), (3, .pointer (some ⟨b201, 0, none⟩)), (4, .pointer (some ⟨b204, 0, none⟩)), (40, .int .i64 q361)] ⟨rfl, rfl, rfl, rfl, trivial⟩ ?_
         refine Rg.vN (X.add rfl rfl) rfl ?_
         refine Rg.st rfl rfl ?_
         refine Rg.nil ?_
         exact fun a ha => ⟨add .i64 q361 1, [(1, .int .i64 q134), (3, .pointer (some ⟨b201, 0, none⟩)), (4, .pointer (some ⟨b204, 0, none⟩)), (5, .int .i64 (add .i64 q361 1))], (some_s h367).symm, ha.weak ⟨rfl, rfl, rfl, rfl, trivial⟩, S381, rfl, (le363.trans (le374.trans le382)), hs⟩
        ·skip
         refine Cd.weak [(1, .int .i64 q134), (3, .pointer (some ⟨b201, 0, none⟩)), (4, .pointer (some ⟨b204, 0, none⟩)), (5, .int .i64 q361), (42, .slice (some ⟨b371, 0, none⟩) 21 21), (43, .int .i64 (([-1, 0, 1, 3, 6, 7, 31, 32, 191, 192, 205, 206, 223, 224, 255, 256, 511, 512, 131072, 131073, 1099511627776] : List Int).length : Int)), (44, .int .i64 0)] ⟨rfl, rfl, rfl, rfl, rfl, rfl, rfl, trivial⟩ ?_
         refine Cd.block (Cd.loop (fun sg => limelightlaw6_RtcpNumbers_l6 x165 q361 sg) (fun (sg : Int) K w => ∃ (S386 : Mp), K = [(1, .int .i64 q134), (3, .pointer (some ⟨b201, 0, none⟩)), (4, .pointer (some ⟨b204, 0, none⟩)), (5, .int .i64 q361), (42, .slice (some ⟨b371, 0, none⟩) 21 21), (43, .int .i64 (([-1, 0, 1, 3, 6, 7, 31, 32, 191, 192, 205, 206, 223, 224, 255, 256, 511, 512, 131072, 131073, 1099511627776] : List Int).length : Int)), (44, .int .i64 sg)] ∧ Le S373 S386 ∧ St w0 [] S0 S386 [.app (some b371) (.slice (some ⟨b371, 0, none⟩) 21 21) ([-1, 0, 1, 3, 6, 7, 31, 32, 191, 192, 205, 206, 223, 224, 255, 256, 511, 512, 131072, 131073, 1099511627776] : List Int).length 2 1, .box b204 #[.int .i64 x183.1.Kind, .int .u32 x183.1.From, .int .u32 x183.1.About, v191, v193, v195, .int .u64 x183.1.Rate, .int .i64 x183.1.Type_, .int .i64 x183.1.Count, v197] 33, .box b201 #[.int .i64 x165.1.Kind, .int .u32 x165.1.From, .int .u32 x165.1.About, v173, v175, v177, .int .u64 x165.1.Rate, .int .i64 x165.1.Type_, .int .i64 x165.1.Count, v179] 33] w) 0 fl378 hfl379 ⟨S373, rfl, Le.refl _, hs⟩ ?_)
         rintro q385 fl388 K393 w392 hb389 ⟨S386, rfl, le387, hs⟩ hl390
         have h391 : limelightlaw6_RtcpNumbers_l6 x165 q361 q385 = some fl388 := hb389
         unfold limelightlaw6_RtcpNumbers_l6 at h391
         refine Cd.sr ?_
         refine Rg.vN (X.lss rfl rfl) rfl ?_
         refine Rg.go ?_
         refine Cd.weak [(1, .int .i64 q134), (3, .pointer (some ⟨b201, 0, none⟩)), (4, .pointer (some ⟨b204, 0, none⟩)), (5, .int .i64 q361), (42, .slice (some ⟨b371, 0, none⟩) 21 21), (43, .int .i64 (([-1, 0, 1, 3, 6, 7, 31, 32, 191, 192, 205, 206, 223, 224, 255, 256, 511, 512, 131072, 131073, 1099511627776] : List Int).length : Int)), (44, .int .i64 q385), (45, .bool (decide (q385 < (([-1, 0, 1, 3, 6, 7, 31, 32, 191, 192, 205, 206, 223, 224, 255, 256, 511, 512, 131072, 131073, 1099511627776] : List Int).length : Int))))] ⟨rfl, rfl, rfl, rfl, rfl, rfl, rfl, rfl, trivial⟩ ?_
         refine Cd.seq ?_
         refine Cd.cond (t := decide (q385 < (([-1, 0, 1, 3, 6, 7, 31, 32, 191, 192, 205, 206, 223, 224, 255, 256, 511, 512, 131072, 131073, 1099511627776] : List Int).length : Int))) rfl (fun hc394 => ?_) (fun hc394 => ?_)
         ·have h391 := ite_t hc394 h391
          refine Cd.sg ?_
          refine Cd.seq ?_
          refine Cd.block ?_
          refine Cd.sr ?_
          obtain ⟨x395, hx396, h391⟩ := bind_s h391
          obtain ⟨ad397, vals398, _, hR399, hE400, hX401⟩ := mk_index Try.underlying37 zz2 (by decide) (f377.mono le387) hx396
          obtain rfl : vals398 = [.int .i64 x395] := hR399
          refine Rg.vN (hX401 rfl rfl) rfl ?_
          refine Rg.vN (X.load1 Try.underlying2 rfl rfl (hE400.at0 rfl hs.has)) rfl ?_
          refine Rg.st rfl rfl ?_
          refine Rg.go ?_
          refine Cd.sr ?_
          refine Rg.vN (X.loadN (vals := [.int .i64 x165.1.Kind, .int .u32 x165.1.From, .int .u32 x165.1.About, v173, v175, v177, .int .u64 x165.1.Rate, .int .i64 x165.1.Type_, .int .i64 x165.1.Count, v179]) Try.underlying33 rfl zz33 rfl (hs.range 2 rfl 0 rfl)) rfl ?_
          refine Rg.mv rfl rfl ?_
          refine Rg.mv rfl rfl ?_
          obtain ⟨x402, hx403, h391⟩ := bind_s h391
          refine Rg.step rfl (Oq.call Try.call12 rfl rfl (c12 S386 (St.start _ _ hs.has) x165.1 _ (f174.mono (le190.trans (le214.trans (le363.trans (le374.trans le387))))) _ (f176.mono (le190.trans (le214.trans (le363.trans (le374.trans le387))))) _ (f178.mono (le190.trans (le214.trans (le363.trans (le374.trans le387))))) _ (f180.mono (le190.trans (le214.trans (le363.trans (le374.trans le387))))) _ _ _ hx403) (fun v404 w405 h406 => ?_))
          obtain ⟨S407, v410, v412, v414, v416, rfl, hs408, f411, f413, f415, f417⟩ := h406
          have le409 := hs408.le
          have hs := hs.call0 hs408
          refine Rg.step rfl (Oq.lit (sz := 10) (cs0 := [.int .i64 0, .int .u32 0, .int .u32 0, .slice none 0 0, .slice none 0 0, .slice none 0 0, .int .u64 0, .int .i64 0, .int .i64 0, .slice none 0 0]) (cells := [.int .i64 x402.Kind, .int .u32 x402.From, .int .u32 x402.About, v410, v412, v414, .int .u64 x402.Rate, .int .i64 x402.Type_, .int .i64 x402.Count, v416]) hs Try.underlying36 ii33 rfl rfl rfl rfl rfl rfl ⟨_, [.int .i64 x402.Kind, .int .u32 x402.From, .int .u32 x402.About, v410, v412, v414, .int .u64 x402.Rate, .int .i64 x402.Type_, .int .i64 x402.Count, v416], _, rfl, rfl, rfl, rfl⟩ rfl rfl rfl (fun b418 w419 S420 hs le421 hE422 => ?_))
          have f424 : Rd S420 10 R_api_Report (.slice (some ⟨b418, 0, none⟩) 1 1) ([x402] : List api_Report) := Rd.of_cells (xs := ([x402] : List api_Report)) ⟨[.int .i64 x402.Kind, .int .u32 x402.From, .int .u32 x402.About, v410, v412, v414, .int .u64 x402.Rate, .int .i64 x402.Type_, .int .i64 x402.Count, v416], _, rfl, rfl, one_all ⟨rfl, rfl, rfl, (f411.mono le421).one, (f413.mono le421).one, (f415.mono le421).one, rfl, rfl, rfl, (f417.mono le421).one, trivial⟩, ⟨_, _, _, _, rfl, (f411.mono le421), (f413.mono le421), (f415.mono le421), (f417.mono le421)⟩, rfl⟩ hE422 (Nat.le_of_ble_eq_true rfl) (Nat.le_of_ble_eq_true rfl)
          obtain ⟨x425, hx426, h391⟩ := bind_s h391
          refine Rg.step rfl (Oq.call Try.call11 rfl rfl (c11 S420 (St.start _ _ hs.has) _ _ f424 _ hx426) (fun v427 w428 h429 => ?_))
          obtain ⟨S430, rfl, hs431⟩ := h429
          have le432 := hs431.le
          have hs := hs.call0 hs431
          refine Rg.vN (X.not rfl) rfl ?_
          refine Rg.go ?_
          refine Cd.weak [(1, .int .i64 q134), (3, .pointer (some ⟨b201, 0, none⟩)), (4, .pointer (some ⟨b204, 0, none⟩)), (5, .int .i64 q361), (42, .slice (some ⟨b371, 0, none⟩) 21 21), (43, .int .i64 (([-1, 0, 1, 3, 6, 7, 31, 32, 191, 192, 205, 206, 223, 224, 255, 256, 511, 512, 131072, 131073, 1099511627776] : List Int).length : Int)), (44, .int .i64 q385), (54, .bool (!x425))] ⟨rfl, rfl, rfl, rfl, rfl, rfl, rfl, rfl, trivial⟩ ?_
          refine Cd.cond (t := !x425) rfl (fun hc433 => ?_) (fun hc433 => ?_)
          ·have h391 := ite_t hc433 h391
           refine Cd.sr ?_
           refine Rg.st rfl rfl ?_
           refine Rg.go ?_
           refine Cd.ret ?_
           obtain rfl := some_s h391
           have e := hl390 (fun _ e => by cases e)
           subst e
           have h367 := el_ret h367
           obtain rfl := some_s h367
           have e := hl366 (fun _ e => by cases e)
           subst e
           have hp145 := el_ret hp145
           obtain rfl := some_s hp145
           have h140 := el_ret h140
           obtain rfl := some_s h140
           have e := hl139 (fun _ e => by cases e)
           subst e
           have h0 := el_ret h0
           obtain rfl := some_s h0
           exact fun a ha => Cd.retA (R := Re (Po3 S0 w0 [] _)) ha Try.results3 ⟨_, _, rfl, rfl, rfl⟩ ⟨_, rfl, S430, rfl, (hs.pick [] (by decide) rfl)⟩
          ·have h391 := ite_f hc433 h391
           refine Cd.skip ?_
           refine Cd.go ?_
           refine Cd.region ?_
           refine Rg.vN (X.add rfl rfl) rfl ?_
           refine Rg.mv rfl rfl ?_
           refine Rg.nil ?_
           exact fun a ha => ⟨add .i64 q385 1, [(1, .int .i64 q134), (3, .pointer (some ⟨b201, 0, none⟩)), (4, .pointer (some ⟨b204, 0, none⟩)), (5, .int .i64 q361), (42, .slice (some ⟨b371, 0, none⟩) 21 21), (43, .int .i64 (([-1, 0, 1, 3, 6, 7, 31, 32, 191, 192, 205, 206, 223, 224, 255, 256, 511, 512, 131072, 131073, 1099511627776] : List Int).length : Int)), (44, .int .i64 (add .i64 q385 1))], (some_s h391).symm, ha.weak ⟨rfl, rfl, rfl, rfl, rfl, rfl, rfl, trivial⟩, S430, rfl, (le387.trans (le409.trans (le421.trans le432))), (hs.pick [1, 2, 3] (by decide) rfl)⟩
         ·have h391 := ite_f hc394 h391
          refine Cd.exit ?_
          obtain rfl := some_s h391
          have e := hl390 (fun _ e => by cases e)
          exact fun a ha => ⟨[(1, .int .i64 q134), (3, .pointer (some ⟨b201, 0, none⟩)), (4, .pointer (some ⟨b204, 0, none⟩)), (5, .int .i64 q361)], ha.weak ⟨rfl, rfl, rfl, rfl, trivial⟩, _, S386, rfl, e.symm, le387, (hs.pick [1, 2] (by decide) rfl)⟩
       ·have h367 := ite_f hc370 h367
        refine Cd.exit ?_
        obtain rfl := some_s h367
        have e := hl366 (fun _ e => by cases e)
        exact fun a ha => ⟨[(1, .int .i64 q134), (3, .pointer (some ⟨b201, 0, none⟩)), (4, .pointer (some ⟨b204, 0, none⟩))], ha.weak ⟨rfl, rfl, rfl, trivial⟩, _, S362, rfl, e.symm, le363, hs⟩
    ·skip
     refine Cd.region ?_
     refine Rg.vN (X.loadN (vals := [.int .i64 x165.1.Kind, .int .u32 x165.1.From, .int .u32 x165.1.About, v173, v175, v177, .int .u64 x165.1.Rate, .int .i64 x165.1.Type_, .int .i64 x165.1.Count, v179]) Try.underlying33 rfl zz33 rfl (hs.range 1 rfl 0 rfl)) rfl ?_
     refine Rg.vN (X.loadN (vals := [.int .i64 x183.1.Kind, .int .u32 x183.1.From, .int .u32 x183.1.About, v191, v193, v195, .int .u64 x183.1.Rate, .int .i64 x183.1.Type_, .int .i64 x183.1.Count, v197]) Try.underlying33 rfl zz33 rfl (hs.range 0 rfl 0 rfl)) rfl ?_
     refine Rg.step rfl (Oq.lit (sz := 10) (cs0 := [.int .i64 0, .int .u32 0, .int .u32 0, .slice none 0 0, .slice none 0 0, .slice none 0 0, .int .u64 0, .int .i64 0, .int .i64 0, .slice none 0 0, .int .i64 0, .int .u32 0, .int .u32 0, .slice none 0 0, .slice none 0 0, .slice none 0 0, .int .u64 0, .int .i64 0, .int .i64 0, .slice none 0 0]) (cells := [.int .i64 x165.1.Kind, .int .u32 x165.1.From, .int .u32 x165.1.About, v173, v175, v177, .int .u64 x165.1.Rate, .int .i64 x165.1.Type_, .int .i64 x165.1.Count, v179, .int .i64 x183.1.Kind, .int .u32 x183.1.From, .int .u32 x183.1.About, v191, v193, v195, .int .u64 x183.1.Rate, .int .i64 x183.1.Type_, .int .i64 x183.1.Count, v197]) hs Try.underlying36 ii33 rfl rfl rfl rfl rfl rfl ⟨_, [.int .i64 x165.1.Kind, .int .u32 x165.1.From, .int .u32 x165.1.About, v173, v175, v177, .int .u64 x165.1.Rate, .int .i64 x165.1.Type_, .int .i64 x165.1.Count, v179], _, rfl, rfl, rfl, ⟨_, [.int .i64 x183.1.Kind, .int .u32 x183.1.From, .int .u32 x183.1.About, v191, v193, v195, .int .u64 x183.1.Rate, .int .i64 x183.1.Type_, .int .i64 x183.1.Count, v197], _, rfl, rfl, rfl, rfl⟩⟩ rfl rfl rfl (fun b440 w441 S442 hs le443 hE444 => ?_))
     have f446 : Rd S442 10 R_api_Report (.slice (some ⟨b440, 0, none⟩) 2 2) ([x165.1, x183.1] : List api_Report) := Rd.of_cells (xs := ([x165.1, x183.1] : List api_Report)) ⟨[.int .i64 x165.1.Kind, .int .u32 x165.1.From, .int .u32 x165.1.About, v173, v175, v177, .int .u64 x165.1.Rate, .int .i64 x165.1.Type_, .int .i64 x165.1.Count, v179], _, rfl, rfl, one_all ⟨rfl, rfl, rfl, (f174.mono (le190.trans le443)).one, (f176.mono (le190.trans le443)).one, (f178.mono (le190.trans le443)).one, rfl, rfl, rfl, (f180.mono (le190.trans le443)).one, trivial⟩, ⟨_, _, _, _, rfl, (f174.mono (le190.trans le443)), (f176.mono (le190.trans le443)), (f178.mono (le190.trans le443)), (f180.mono (le190.trans le443))⟩, ⟨[.int .i64 x183.1.Kind, .int .u32 x183.1.From, .int .u32 x183.1.About, v191, v193, v195, .int .u64 x183.1.Rate, .int .i64 x183.1.Type_, .int .i64 x183.1.Count, v197], _, rfl, rfl, one_all ⟨rfl, rfl, rfl, (f192.mono le443).one, (f194.mono le443).one, (f196.mono le443).one, rfl, rfl, rfl, (f198.mono le443).one, trivial⟩, ⟨_, _, _, _, rfl, (f192.mono le443), (f194.mono le443), (f196.mono le443), (f198.mono le443)⟩, rfl⟩⟩ hE444 (Nat.le_of_ble_eq_true rfl) (Nat.le_of_ble_eq_true rfl)
     obtain ⟨x447, hx448, hp211⟩ := bind_s hp211
     refine Rg.step rfl (Oq.call Try.call11 rfl rfl (c11 S442 (St.start _ _ hs.has) _ _ f446 _ hx448) (fun v449 w450 h451 => ?_))
     obtain ⟨S452, rfl, hs453⟩ := h451
     have le454 := hs453.le
     have hs := hs.call0 hs453
     refine Rg.vN (X.not rfl) rfl ?_
     refine Rg.mv rfl rfl ?_
     refine Rg.vF rfl rfl rfl (fun hW => X.loadN (vals := [.int .i64 x165.1.Kind, .int .u32 x165.1.From, .int .u32 x165.1.About, v173, v175, v177, .int .u64 x165.1.Rate, .int .i64 x165.1.Type_, .int .i64 x165.1.Count, v179]) Try.underlying33 rfl zz33 rfl (hs.range 2 rfl 0 rfl)) ?_
     refine Rg.split (c := !x447) (tj := 32) rfl (fun hc455 => ?_) (fun hc455 => ?_)
     ·have hp211 := ite_t hc455 hp211
      refine Rg.weak [(1, .int .i64 q134), (3, .pointer (some ⟨b201, 0, none⟩)), (4, .pointer (some ⟨b204, 0, none⟩)), (32, .bool true), (33, undef)] ⟨rfl, rfl, rfl, rfl, get_u rfl (nn hc455), trivial⟩ ?_
      refine Rg.vO rfl rfl rfl rfl ?_
      refine Rg.vO rfl rfl rfl rfl ?_
      refine Rg.vO rfl rfl rfl rfl ?_
      refine Rg.vN (X.pickT rfl rfl) rfl ?_
      refine Rg.nil ?_
      obtain rfl := some_s hp211
      exact fun a ha => ⟨[(1, .int .i64 q134), (3, .pointer (some ⟨b201, 0, none⟩)), (4, .pointer (some ⟨b204, 0, none⟩)), (37, .bool true)], ha.weak ⟨rfl, rfl, rfl, rfl, trivial⟩, S452, rfl, (le443.trans le454), (hs.pick [1, 2] (by decide) rfl)⟩
     ·have hp211 := ite_f hc455 hp211
      refine Rg.weak [(1, .int .i64 q134), (3, .pointer (some ⟨b201, 0, none⟩)), (4, .pointer (some ⟨b204, 0, none⟩)), (32, .bool false), (33, .agg (#[.int .i64 x165.1.Kind, .int .u32 x165.1.From, .int .u32 x165.1.About, v173, v175, v177, .int .u64 x165.1.Rate, .int .i64 x165.1.Type_, .int .i64 x165.1.Count, v179]))] ⟨rfl, rfl, rfl, rfl, get_g rfl (not_f hc455), trivial⟩ ?_
      refine Rg.gon rfl rfl rfl ?_
      refine Rg.step rfl (Oq.lit (sz := 10) (cs0 := [.int .i64 0, .int .u32 0, .int .u32 0, .slice none 0 0, .slice none 0 0, .slice none 0 0, .int .u64 0, .int .i64 0, .int .i64 0, .slice none 0 0]) (cells := [.int .i64 x165.1.Kind, .int .u32 x165.1.From, .int .u32 x165.1.About, v173, v175, v177, .int .u64 x165.1.Rate, .int .i64 x165.1.Type_, .int .i64 x165.1.Count, v179]) hs Try.underlying36 ii33 rfl rfl rfl rfl rfl rfl ⟨_, [.int .i64 x165.1.Kind, .int .u32 x165.1.From, .int .u32 x165.1.About, v173, v175, v177, .int .u64 x165.1.Rate, .int .i64 x165.1.Type_, .int .i64 x165.1.Count, v179], _, rfl, rfl, rfl, rfl⟩ rfl rfl rfl (fun b456 w457 S458 hs le459 hE460 => ?_))
      have f462 : Rd S458 10 R_api_Report (.slice (some ⟨b456, 0, none⟩) 1 1) ([x165.1] : List api_Report) := Rd.of_cells (xs := ([x165.1] : List api_Report)) ⟨[.int .i64 x165.1.Kind, .int .u32 x165.1.From, .int .u32 x165.1.About, v173, v175, v177, .int .u64 x165.1.Rate, .int .i64 x165.1.Type_, .int .i64 x165.1.Count, v179], _, rfl, rfl, one_all ⟨rfl, rfl, rfl, (f174.mono (le190.trans (le443.trans (le454.trans le459)))).one, (f176.mono (le190.trans (le443.trans (le454.trans le459)))).one, (f178.mono (le190.trans (le443.trans (le454.trans le459)))).one, rfl, rfl, rfl, (f180.mono (le190.trans (le443.trans (le454.trans le459)))).one, trivial⟩, ⟨_, _, _, _, rfl, (f174.mono (le190.trans (le443.trans (le454.trans le459)))), (f176.mono (le190.trans (le443.trans (le454.trans le459)))), (f178.mono (le190.trans (le443.trans (le454.trans le459)))), (f180.mono (le190.trans (le443.trans (le454.trans le459))))⟩, rfl⟩ hE460 (Nat.le_of_ble_eq_true rfl) (Nat.le_of_ble_eq_true rfl)
      refine Rg.gon rfl rfl rfl ?_
      obtain ⟨x463, hx464, hp211⟩ := bind_s hp211
      refine Rg.step rfl (Oq.call Try.call11 rfl rfl (c11 S458 (St.start _ _ hs.has) _ _ f462 _ hx464) (fun v465 w466 h467 => ?_))
      obtain ⟨S468, rfl, hs469⟩ := h467
      have le470 := hs469.le
      have hs := hs.call0 hs469
      refine Rg.gon rfl rfl rfl ?_
      refine Rg.vN (X.not rfl) rfl ?_
      refine Rg.vN (X.pickF rfl rfl) rfl ?_
      refine Rg.nil ?_
      obtain rfl := some_s hp211
      exact fun a ha => ⟨[(1, .int .i64 q134), (3, .pointer (some ⟨b201, 0, none⟩)), (4, .pointer (some ⟨b204, 0, none⟩)), (37, .bool (!x463))], ha.weak ⟨rfl, rfl, rfl, rfl, trivial⟩, S468, rfl, (le443.trans (le454.trans (le459.trans le470))), (hs.pick [2, 3] (by decide) rfl)⟩
  ·have h140 := ite_f hc143 h140
   refine Cd.exit ?_
   obtain rfl := some_s h140
   have e := hl139 (fun _ e => by cases e)
   exact fun a ha => ⟨[], ha.weak trivial, _, S135, rfl, e.symm, le136, hs⟩
end Go.Lk
