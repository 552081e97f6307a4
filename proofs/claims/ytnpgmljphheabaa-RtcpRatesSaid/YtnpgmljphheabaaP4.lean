/- A part of this proof: RtcpRates returns true for every input and leaves its arguments as they were; there are no conditions. -/
import Derived.Test.YtnpgmljphheabaaP3
import Derived.Test.YtnpgmljphheabaaProg
import Derived.KernelRfl
set_option linter.unusedVariables false
set_option linter.unusedSimpArgs false
set_option maxRecDepth 100000
namespace Go.Lk
open Go.RowKit Go.Proofs
noncomputable def limelightlaw6_RtcpRates (G_0 : Int) (o_1 : Int) (p_2 : Int) : Option Bool :=
 (limelightref1_Open (band .i64 o_1 31) (band .u32 G_0 1023) 18).bind fun x1 =>
 (apz 1 0 ([143, 206, 0, 4] : List Int) 8).bind fun y16 =>
 ((
  if (decide ((cv .u64 (band .u8 p_2 7)) ≤ (cv .u64 (band .i64 o_1 31)))) = true then (
   gd ((0 : Int) ≤ (cv .u64 (band .u8 p_2 7))) (
    some (bor .u32 (shl .u32 (cv .u32 (sub .i64 (band .i64 o_1 31) (cv .i64 (cv .u64 (band .u8 p_2 7))))) 18) (shl .u32 (band .u32 G_0 1023) (cv .u64 (band .u8 p_2 7))))))
  else (
   some (bor .u32 (shl .u32 (cv .u32 (band .i64 o_1 31)) 18) (band .u32 G_0 1023))) : Option Int)).bind fun p25 =>
 (app 1 y16 [82, 69, 77, 66]).bind fun y31 =>
 (app 1 y31 ([cv .u8 (shr .u32 p25 24), cv .u8 (shr .u32 p25 16), cv .u8 (shr .u32 p25 8), cv .u8 p25] : List Int)).bind fun y46 =>
 (rtcp_Read y46).bind fun x54 =>
 ((
  if ((x54.2 == 0) && ((x54.1.length : Int) == 1)) = true then (
   (ix x54.1 0).bind fun x72 =>
   if (x72.Kind == 5) = true then (
    (ix x54.1 0).bind fun x88 =>
    if (x88.Rate == x1) = true then (
     (ix x54.1 0).bind fun x104 =>
     if ((x104.Abouts.length : Int) == 0) = true then (
      (limelightlaw6_known ).bind fun x120 =>
      some x120)
     else (
      some false))
    else (
     some false))
   else (
    some false))
  else (
   some false) : Option Bool)).bind fun p65 =>
 some p65
def Po6 (S0 : Mp) (w0 : World) (D : List Nat) (r : Bool) (v : Value) (w1 : World) : Prop :=
  ∃ (S1 : Mp), v = .bool r ∧ St w0 D S0 S1 [] w1
set_option maxHeartbeats 4000000 in
theorem c6 (S0 : Mp) {w0 : World} (hs : St w0 [] S0 S0 [] w0) (G_0 : Int) (o_1 : Int) (p_2 : Int) (r : Bool) (h0 : limelightlaw6_RtcpRates G_0 o_1 p_2 = some r) :
    Calls Try.prog 6 #[.int .u32 G_0, .int .i64 o_1, .int .u8 p_2] w0 (Re (Po6 S0 w0 [] r)) := by
 unfold limelightlaw6_RtcpRates at h0
 refine calls_of_cd Try.func6 rfl Try.ntmps6 rfl ?_
 refine Cd.sr ?_
 refine Rg.vN (X.assign rfl) rfl ?_
 refine Rg.go ?_
 refine Cd.sr ?_
 refine Rg.vN (X.move rfl) rfl ?_
 refine Rg.vN (X.and rfl rfl) rfl ?_
 refine Rg.vN (X.move rfl) rfl ?_
 refine Rg.vN (X.and rfl rfl) rfl ?_
 refine Rg.vN (X.assign rfl) rfl ?_
 refine Rg.vN (X.assign rfl) rfl ?_
 refine Rg.go ?_
 refine Cd.sr ?_
 refine Rg.vN (X.move rfl) rfl ?_
 refine Rg.vN (X.move rfl) rfl ?_
 obtain ⟨x1, hx2, h0⟩ := bind_s h0
 refine Rg.step rfl (Oq.call Try.call22 rfl rfl (c22 S0 (St.start _ _ hs.has) _ _ _ _ hx2) (fun v3 w4 h5 => ?_))
 obtain ⟨S6, rfl, hs7⟩ := h5
 have _ := 0
 have le8 : Le S0 S6 := hs7.le
 have hs := hs.call0 hs7
 refine Rg.vN (X.assign rfl) rfl ?_
 refine Rg.go ?_
 refine Cd.sr ?_
 refine Rg.vN (X.move rfl) rfl ?_
 refine Rg.vN (X.and rfl rfl) rfl ?_
 refine Rg.vN (X.conv Try.underlying5 Try.underlying42 rfl) rfl ?_
 refine Rg.vN (X.assign rfl) rfl ?_
 refine Rg.go ?_
 refine Cd.sr ?_
 refine Rg.step rfl (Oq.lit (sz := 1) (cs0 := [.int .u8 0, .int .u8 0, .int .u8 0, .int .u8 0]) (cells := [.int .u8 143, .int .u8 206, .int .u8 0, .int .u8 4]) hs Try.underlying31 ii5 rfl rfl rfl rfl rfl rfl ⟨_, [.int .u8 143], _, rfl, rfl, rfl, ⟨_, [.int .u8 206], _, rfl, rfl, rfl, ⟨_, [.int .u8 0], _, rfl, rfl, rfl, ⟨_, [.int .u8 4], _, rfl, rfl, rfl, rfl⟩⟩⟩⟩ rfl rfl rfl (fun b9 w10 S11 hs le12 hE13 => ?_))
 have f15 : Rd S11 1 (RI .u8) (.slice (some ⟨b9, 0, none⟩) 4 4) ([143, 206, 0, 4] : List Int) := Rd.of_cells (xs := ([143, 206, 0, 4] : List Int)) ⟨[.int .u8 143], _, rfl, rfl, one_all ⟨rfl, trivial⟩, rfl, ⟨[.int .u8 206], _, rfl, rfl, one_all ⟨rfl, trivial⟩, rfl, ⟨[.int .u8 0], _, rfl, rfl, one_all ⟨rfl, trivial⟩, rfl, ⟨[.int .u8 4], _, rfl, rfl, one_all ⟨rfl, trivial⟩, rfl, rfl⟩⟩⟩⟩ hE13 (Nat.le_of_ble_eq_true rfl) (Nat.le_of_ble_eq_true rfl)
 obtain ⟨y16, hx17, h0⟩ := bind_s h0
 refine Rg.step rfl (Oq.appendZ (x0 := 0) hs 0 rfl Try.underlying31 Try.underlying3 ii5 rfl rfl rfl rfl rfl rfl (one_all (l := [.int .u8 0]) ⟨rfl, trivial⟩) rfl f15 hx17 rfl rfl rfl (fun v18 w19 S20 g21 hs le22 f23 => ?_))
 refine Rg.vN (X.assign rfl) rfl ?_
 refine Rg.go ?_
 refine Cd.weak [(7, .int .u32 (band .u32 G_0 1023)), (8, .int .i64 (band .i64 o_1 31)), (9, .int .u64 x1), (10, .int .u64 (cv .u64 (band .u8 p_2 7))), (11, v18)] ⟨rfl, rfl, rfl, rfl, rfl, trivial⟩ ?_
 refine Cd.sr ?_
 refine Rg.vN (X.move rfl) rfl ?_
 refine Rg.vN (X.conv Try.underlying3 Try.underlying27 rfl) rfl ?_
 refine Rg.vN (X.shl rfl rfl (by decide)) rfl ?_
 refine Rg.vN (X.move rfl) rfl ?_
 refine Rg.vN (X.or rfl rfl) rfl ?_
 refine Rg.vN (X.assign rfl) rfl ?_
 refine Rg.go ?_
 refine Cd.seq ?_
 refine Cd.sr ?_
 refine Rg.vN (X.move rfl) rfl ?_
 refine Rg.vN (X.move rfl) rfl ?_
 refine Rg.vN (X.conv Try.underlying3 Try.underlying42 rfl) rfl ?_
 refine Rg.vN (X.leq rfl rfl) rfl ?_
 refine Rg.go ?_
 refine Cd.weak [(7, .int .u32 (band .u32 G_0 1023)), (8, .int .i64 (band .i64 o_1 31)), (9, .int .u64 x1), (10, .int .u64 (cv .u64 (band .u8 p_2 7))), (11, v18), (12, .int .u32 (bor .u32 (shl .u32 (cv .u32 (band .i64 o_1 31)) 18) (band .u32 G_0 1023))), (35, .bool (decide ((cv .u64 (band .u8 p_2 7)) ≤ (cv .u64 (band .i64 o_1 31)))))] ⟨rfl, rfl, rfl, rfl, rfl, rfl, rfl, trivial⟩ ?_
 obtain ⟨p25, hp26, h0⟩ := bind_s h0
 refine Cd.post (fun K w => ∃ (S27 : Mp), K = [(9, .int .u64 x1), (11, v18), (12, .int .u32 p25)] ∧ Le S20 S27 ∧ St w0 [] S0 S27 [.app g21 v18 y16.length 5 1] w) ?_ ?_
 ·rintro K30 w28 ⟨S27, rfl, le29, hs⟩
  refine Cd.go ?_
  refine Cd.sr ?_
  refine Rg.vN (X.move rfl) rfl ?_
  obtain ⟨y31, hx32, h0⟩ := bind_s h0
  refine Rg.step rfl (Oq.appendStr hs 0 rfl Try.underlying31 Try.underlying9 ii5 rfl rfl rfl (f23.mono le29) (bs := [82, 69, 77, 66]) rfl hx32 rfl rfl rfl (fun v33 w34 S35 g36 hs le37 f38 => ?_))
  refine Rg.vN (X.move rfl) rfl ?_
  refine Rg.vN (X.shr rfl rfl (by decide)) rfl ?_
  refine Rg.vN (X.conv Try.underlying27 Try.underlying5 rfl) rfl ?_
  refine Rg.vN (X.move rfl) rfl ?_
  refine Rg.vN (X.shr rfl rfl (by decide)) rfl ?_
  refine Rg.vN (X.conv Try.underlying27 Try.underlying5 rfl) rfl ?_
  refine Rg.vN (X.move rfl) rfl ?_
  refine Rg.weak [(9, .int .u64 x1), (12, .int .u32 p25), (47, v33), (50, .int .u8 (cv .u8 (shr .u32 p25 24))), (53, .int .u8 (cv .u8 (shr .u32 p25 16))), (54, .int .u32 p25)] ⟨rfl, rfl, rfl, rfl, rfl, rfl, trivial⟩ ?_
  refine Rg.vN (X.shr rfl rfl (by decide)) rfl ?_
  refine Rg.vN (X.conv Try.underlying27 Try.underlying5 rfl) rfl ?_
  refine Rg.vN (X.move rfl) rfl ?_
  refine Rg.vN (X.conv Try.underlying27 Try.underlying5 rfl) rfl ?_
  refine Rg.step rfl (Oq.lit (sz := 1) (cs0 := [.int .u8 0, .int .u8 0, .int .u8 0, .int .u8 0]) (cells := [.int .u8 (cv .u8 (shr .u32 p25 24)), .int .u8 (cv .u8 (shr .u32 p25 16)), .int .u8 (cv .u8 (shr .u32 p25 8)), .int .u8 (cv .u8 p25)]) hs Try.underlying31 ii5 rfl rfl rfl rfl rfl rfl ⟨_, [.int .u8 (cv .u8 (shr .u32 p25 24))], _, rfl, rfl, rfl, ⟨_, [.int .u8 (cv .u8 (shr .u32 p25 16))], _, rfl, rfl, rfl, ⟨_, [.int .u8 (cv .u8 (shr .u32 p25 8))], _, rfl, rfl, rfl, ⟨_, [.int .u8 (cv .u8 p25)], _, rfl, rfl, rfl, rfl⟩⟩⟩⟩ rfl rfl rfl (fun b39 w40 S41 hs le42 hE43 => ?_))
  have f45 : Rd S41 1 (RI .u8) (.slice (some ⟨b39, 0, none⟩) 4 4) ([cv .u8 (shr .u32 p25 24), cv .u8 (shr .u32 p25 16), cv .u8 (shr .u32 p25 8), cv .u8 p25] : List Int) := Rd.of_cells (xs := ([cv .u8 (shr .u32 p25 24), cv .u8 (shr .u32 p25 16), cv .u8 (shr .u32 p25 8), cv .u8 p25] : List Int)) ⟨[.int .u8 (cv .u8 (shr .u32 p25 24))], _, rfl, rfl, one_all ⟨rfl, trivial⟩, rfl, ⟨[.int .u8 (cv .u8 (shr .u32 p25 16))], _, rfl, rfl, one_all ⟨rfl, trivial⟩, rfl, ⟨[.int .u8 (cv .u8 (shr .u32 p25 8))], _, rfl, rfl, one_all ⟨rfl, trivial⟩, rfl, ⟨[.int .u8 (cv .u8 p25)], _, rfl, rfl, one_all ⟨rfl, trivial⟩, rfl, rfl⟩⟩⟩⟩ hE43 (Nat.le_of_ble_eq_true rfl) (Nat.le_of_ble_eq_true rfl)
  obtain ⟨y46, hx47, h0⟩ := bind_s h0
  refine Rg.step rfl (Oq.appendS hs 1 rfl Try.underlying31 ii5 rfl rfl rfl rfl rfl rfl (f38.mono le42) f45 hx47 rfl rfl rfl (fun v48 w49 S50 g51 hs le52 f53 => ?_))
  refine Rg.vN (X.assign rfl) rfl ?_
  refine Rg.go ?_
  refine Cd.sr ?_
  refine Rg.vN (X.move rfl) rfl ?_
  obtain ⟨x54, hx55, h0⟩ := bind_s h0
  refine Rg.step rfl (Oq.call Try.call20 rfl rfl (c20 S50 (St.start _ _ hs.has) _ _ f53 _ hx55) (fun v56 w57 h58 => ?_))
  obtain ⟨S59, v62, rfl, hs60, f63⟩ := h58
  have _ := 0
  have le61 : Le S50 S59 := hs60.le
  have hs := hs.call0 hs60
  refine Rg.vN (X.move rfl) rfl ?_
  refine Rg.vN (X.extract rfl rfl) rfl ?_
  refine Rg.vN (X.extract rfl rfl) rfl ?_
  refine Rg.weak [(9, .int .u64 x1), (64, v62), (65, .int .i64 x54.2)] ⟨rfl, rfl, rfl, trivial⟩ ?_
  refine Rg.vN (X.assign rfl) rfl ?_
  refine Rg.vN (X.assign rfl) rfl ?_
  refine Rg.go ?_
  refine Cd.seq ?_
  obtain ⟨p65, hp66, h0⟩ := bind_s h0
  refine Cd.post (fun K w => ∃ (S67 : Mp), K = [(6, .bool p65)] ∧ Le S59 S67 ∧ St w0 [] S0 S67 [] w) ?_ ?_
  ·rintro K70 w68 ⟨S67, rfl, le69, hs⟩
   refine Cd.go ?_
   refine Cd.ret ?_
   have e := some_s h0
   subst e
   exact fun a ha => Cd.retA (P := Try.prog) (fn := Try.f6) (R := Re (Po6 S0 w0 [] _)) ha Try.results6 ⟨_, _, rfl, rfl, rfl⟩ ⟨_, rfl, S67, rfl, hs⟩
  ·skip
   refine Cd.region ?_
   refine Rg.vN (X.move rfl) rfl ?_
   refine Rg.vN (X.eql rfl rfl) rfl ?_
   refine Rg.vN (X.move rfl) rfl ?_
   refine Rg.vT rfl rfl rfl (fun hW => X.move rfl) ?_
   refine Rg.vT rfl rfl rfl (fun hW => X.lenR Try.underlying36 (ev_g rfl hW) f63) ?_
   refine Rg.vT rfl rfl rfl (fun hW => X.eql (ev_g rfl hW) rfl) ?_
   refine Rg.vN (X.pickAnd rfl rfl rfl) rfl ?_
   refine Rg.vN (X.move rfl) rfl ?_
   refine Rg.vT rfl rfl rfl (fun hW => X.move rfl) ?_
   refine Rg.split (c := (x54.2 == 0) && ((x54.1.length : Int) == 1)) (tj := 73) rfl (fun hc71 => ?_) (fun hc71 => ?_)
   ·have hp66 := ite_t hc71 hp66
    refine Rg.weak [(9, .int .u64 x1), (13, v62), (73, .bool true), (74, v62)] ⟨rfl, rfl, rfl, get_g rfl hc71, trivial⟩ ?_
    refine Rg.gon rfl rfl rfl ?_
    obtain ⟨x72, hx73, hp66⟩ := bind_s hp66
    obtain ⟨ad74, vals75, _, hR76, hE77, hX78⟩ := mk_index Try.underlying36 zz33 (by decide) f63 hx73
    unfold R_api_Report at hR76
    obtain ⟨v79, v81, v83, v85, rfl, f80, f82, f84, f86⟩ := hR76
    refine Rg.vN (hX78 rfl rfl) rfl ?_
    refine Rg.gon rfl rfl rfl ?_
    refine Rg.vN (X.fieldE Try.underlying33 rfl zz3 rfl rfl) rfl ?_
    refine Rg.gon rfl rfl rfl ?_
    refine Rg.vN (X.load1 Try.underlying3 rfl rfl ((El.part (part := [.int .i64 x72.Kind]) hE77 0 rfl).at0 rfl hs.has)) rfl ?_
    refine Rg.gon rfl rfl rfl ?_
    refine Rg.vN (X.eql rfl rfl) rfl ?_
    refine Rg.vN (X.pickT rfl rfl) rfl ?_
    refine Rg.vN (X.move rfl) rfl ?_
    refine Rg.vT rfl rfl rfl (fun hW => X.move rfl) ?_
    refine Rg.split (c := x72.Kind == 5) (tj := 80) rfl (fun hc87 => ?_) (fun hc87 => ?_)
    ·have hp66 := ite_t hc87 hp66
     refine Rg.weak [(9, .int .u64 x1), (13, v62), (80, .bool true), (81, v62)] ⟨rfl, rfl, rfl, get_g rfl hc87, trivial⟩ ?_
     refine Rg.gon rfl rfl rfl ?_
     obtain ⟨x88, hx89, hp66⟩ := bind_s hp66
     obtain ⟨ad90, vals91, _, hR92, hE93, hX94⟩ := mk_index Try.underlying36 zz33 (by decide) f63 hx89
     unfold R_api_Report at hR92
     obtain ⟨v95, v97, v99, v101, rfl, f96, f98, f100, f102⟩ := hR92
     refine Rg.vN (hX94 rfl rfl) rfl ?_
     refine Rg.gon rfl rfl rfl ?_
     refine Rg.vN (X.fieldE Try.underlying33 rfl zz30 rfl rfl) rfl ?_
     refine Rg.gon rfl rfl rfl ?_
     refine Rg.vN (X.load1 Try.underlying30 rfl rfl ((El.part (part := [.int .u64 x88.Rate]) hE93 6 rfl).at0 rfl hs.has)) rfl ?_
     refine Rg.gon rfl rfl rfl ?_
     refine Rg.vN (X.move rfl) rfl ?_
     refine Rg.gon rfl rfl rfl ?_
     refine Rg.vN (X.eql rfl rfl) rfl ?_
     refine Rg.vN (X.pickT rfl rfl) rfl ?_
     refine Rg.vN (X.move rfl) rfl ?_
     refine Rg.vT rfl rfl rfl (fun hW => X.move rfl) ?_
     refine Rg.split (c := x88.Rate == x1) (tj := 88) rfl (fun hc103 => ?_) (fun hc103 => ?_)
     ·have hp66 := ite_t hc103 hp66
      refine Rg.weak [(88, .bool true), (89, v62)] ⟨rfl, get_g rfl hc103, trivial⟩ ?_
      refine Rg.gon rfl rfl rfl ?_
      obtain ⟨x104, hx105, hp66⟩ := bind_s hp66
      obtain ⟨ad106, vals107, _, hR108, hE109, hX110⟩ := mk_index Try.underlying36 zz33 (by decide) f63 hx105
      unfold R_api_Report at hR108
      obtain ⟨v111, v113, v115, v117, rfl, f112, f114, f116, f118⟩ := hR108
      refine Rg.vN (hX110 rfl rfl) rfl ?_
      refine Rg.gon rfl rfl rfl ?_
      refine Rg.vN (X.fieldE Try.underlying33 rfl zz29 rfl rfl) rfl ?_
      refine Rg.gon rfl rfl rfl ?_
      refine Rg.vN (X.load1 Try.underlying29 rfl rfl ((El.part (part := [v113]) hE109 4 rfl).at0 rfl hs.has)) rfl ?_
      refine Rg.gon rfl rfl rfl ?_
      refine Rg.vN (X.lenR Try.underlying29 rfl f114) rfl ?_
      refine Rg.gon rfl rfl rfl ?_
      refine Rg.vN (X.eql rfl rfl) rfl ?_
      refine Rg.vN (X.pickT rfl rfl) rfl ?_
      refine Rg.vN (X.move rfl) rfl ?_
      refine Rg.split (c := (x104.Abouts.length : Int) == 0) (tj := 96) rfl (fun hc119 => ?_) (fun hc119 => ?_)
      ·have hp66 := ite_t hc119 hp66
       refine Rg.weak [(96, .bool true)] ⟨rfl, trivial⟩ ?_
       refine Rg.gon rfl rfl rfl ?_
       obtain ⟨x120, hx121, hp66⟩ := bind_s hp66
       refine Rg.step rfl (Oq.call Try.call15 rfl rfl (c15 S59 (St.start _ _ hs.has)  _ hx121) (fun v122 w123 h124 => ?_))
       obtain ⟨S125, rfl, hs126⟩ := h124
       have _ := 0
       have le127 : Le S59 S125 := hs126.le
       have hs := hs.call0 hs126
       refine Rg.vN (X.pickT rfl rfl) rfl ?_
       refine Rg.vN (X.assign rfl) rfl ?_
       refine Rg.nil ?_
       have e := some_s hp66
       subst e
       exact fun a ha => ⟨[(6, .bool x120)], ha.weak ⟨rfl, trivial⟩, S125, rfl, le127, (hs.pick [] (by decide) rfl)⟩
      ·have hp66 := ite_f hc119 hp66
       refine Rg.weak [(96, .bool false)] ⟨rfl, trivial⟩ ?_
       refine Rg.vO rfl rfl rfl rfl ?_
       refine Rg.vN (X.pickF rfl rfl) rfl ?_
       refine Rg.vN (X.assign rfl) rfl ?_
       refine Rg.nil ?_
       have e := some_s hp66
       subst e
       exact fun a ha => ⟨[(6, .bool false)], ha.weak ⟨rfl, trivial⟩, S59, rfl, Le.refl _, (hs.pick [] (by decide) rfl)⟩
     ·have hp66 := ite_f hc103 hp66
      refine Rg.weak [(88, .bool false), (89, undef)] ⟨rfl, get_u rfl (not_f hc103), trivial⟩ ?_
      refine Rg.vO rfl rfl rfl rfl ?_
      refine Rg.vO rfl rfl rfl rfl ?_
      refine Rg.vO rfl rfl rfl rfl ?_
      refine Rg.vO rfl rfl rfl rfl ?_
      refine Rg.vO rfl rfl rfl rfl ?_
      refine Rg.vN (X.pickF rfl rfl) rfl ?_
      refine Rg.vN (X.move rfl) rfl ?_
      refine Rg.vO rfl rfl rfl rfl ?_
      refine Rg.vN (X.pickF rfl rfl) rfl ?_
      refine Rg.vN (X.assign rfl) rfl ?_
      refine Rg.nil ?_
      have e := some_s hp66
      subst e
      exact fun a ha => ⟨[(6, .bool false)], ha.weak ⟨rfl, trivial⟩, S59, rfl, Le.refl _, (hs.pick [] (by decide) rfl)⟩
    ·have hp66 := ite_f hc87 hp66
     refine Rg.weak [(9, .int .u64 x1), (13, v62), (80, .bool false), (81, undef)] ⟨rfl, rfl, rfl, get_u rfl (not_f hc87), trivial⟩ ?_
     refine Rg.vO rfl rfl rfl rfl ?_
     refine Rg.vO rfl rfl rfl rfl ?_
     refine Rg.vO rfl rfl rfl rfl ?_
     refine Rg.vO rfl rfl rfl rfl ?_
     refine Rg.vO rfl rfl rfl rfl ?_
     refine Rg.vN (X.pickF rfl rfl) rfl ?_
     refine Rg.vN (X.move rfl) rfl ?_
     refine Rg.vO rfl rfl rfl rfl ?_
     refine Rg.vO rfl rfl rfl rfl ?_
     refine Rg.vO rfl rfl rfl rfl ?_
     refine Rg.vO rfl rfl rfl rfl ?_
     refine Rg.vO rfl rfl rfl rfl ?_
     refine Rg.vO rfl rfl rfl rfl ?_
     refine Rg.vN (X.pickF rfl rfl) rfl ?_
     refine Rg.vN (X.move rfl) rfl ?_
     refine Rg.vO rfl rfl rfl rfl ?_
     refine Rg.vN (X.pickF rfl rfl) rfl ?_
     refine Rg.vN (X.assign rfl) rfl ?_
     refine Rg.nil ?_
     have e := some_s hp66
     subst e
     exact fun a ha => ⟨[(6, .bool false)], ha.weak ⟨rfl, trivial⟩, S59, rfl, Le.refl _, (hs.pick [] (by decide) rfl)⟩
   ·have hp66 := ite_f hc71 hp66
    refine Rg.weak [(9, .int .u64 x1), (13, v62), (73, .bool false), (74, undef)] ⟨rfl, rfl, rfl, get_u rfl (not_f hc71), trivial⟩ ?_
    refine Rg.vO rfl rfl rfl rfl ?_
    refine Rg.vO rfl rfl rfl rfl ?_
    refine Rg.vO rfl rfl rfl rfl ?_
    refine Rg.vO rfl rfl rfl rfl ?_
    refine Rg.vN (X.pickF rfl rfl) rfl ?_
    refine Rg.vN (X.move rfl) rfl ?_
    refine Rg.vO rfl rfl rfl rfl ?_
    refine Rg.vO rfl rfl rfl rfl ?_
    refine Rg.vO rfl rfl rfl rfl ?_
    refine Rg.vO rfl rfl rfl rfl ?_
    refine Rg.vO rfl rfl rfl rfl ?_
    refine Rg.vO rfl rfl rfl rfl ?_
    refine Rg.vN (X.pickF rfl rfl) rfl ?_
    refine Rg.vN (X.move rfl) rfl ?_
    refine Rg.vO rfl rfl rfl rfl ?_
    refine Rg.vO rfl rfl rfl rfl ?_
    refine Rg.vO rfl rfl rfl rfl ?_
    refine Rg.vO rfl rfl rfl rfl ?_
    refine Rg.vO rfl rfl rfl rfl ?_
    refine Rg.vO rfl rfl rfl rfl ?_
    refine Rg.vN (X.pickF rfl rfl) rfl ?_
    refine Rg.vN (X.move rfl) rfl ?_
    refine Rg.vO rfl rfl rfl rfl ?_
    refine Rg.vN (X.pickF rfl rfl) rfl ?_
    refine Rg.vN (X.assign rfl) rfl ?_
    refine Rg.nil ?_
    have e := some_s hp66
    subst e
    exact fun a ha => ⟨[(6, .bool false)], ha.weak ⟨rfl, trivial⟩, S59, rfl, Le.refl _, (hs.pick [] (by decide) rfl)⟩
 ·skip
  refine Cd.cond (t := decide ((cv .u64 (band .u8 p_2 7)) ≤ (cv .u64 (band .i64 o_1 31)))) rfl (fun hc128 => ?_) (fun hc128 => ?_)
  ·have hp26 := ite_t hc128 hp26
   refine Cd.region ?_
   refine Rg.vN (X.move rfl) rfl ?_
   refine Rg.vN (X.move rfl) rfl ?_
   refine Rg.vN (X.conv Try.underlying42 Try.underlying3 rfl) rfl ?_
   refine Rg.vN (X.sub rfl rfl) rfl ?_
   refine Rg.vN (X.conv Try.underlying3 Try.underlying27 rfl) rfl ?_
   refine Rg.vN (X.shl rfl rfl (by decide)) rfl ?_
   refine Rg.vN (X.move rfl) rfl ?_
   refine Rg.vN (X.move rfl) rfl ?_
   refine Rg.weak [(9, .int .u64 x1), (11, v18), (41, .int .u32 (shl .u32 (cv .u32 (sub .i64 (band .i64 o_1 31) (cv .i64 (cv .u64 (band .u8 p_2 7))))) 18)), (42, .int .u32 (band .u32 G_0 1023)), (43, .int .u64 (cv .u64 (band .u8 p_2 7)))] ⟨rfl, rfl, rfl, rfl, rfl, trivial⟩ ?_
   obtain ⟨hg129, hp26⟩ := gd_s hp26
   refine Rg.vN (X.shl rfl rfl hg129) rfl ?_
   refine Rg.vN (X.or rfl rfl) rfl ?_
   refine Rg.vN (X.assign rfl) rfl ?_
   refine Rg.nil ?_
   have e := some_s hp26
   subst e
   exact fun a ha => ⟨[(9, .int .u64 x1), (11, v18), (12, .int .u32 (bor .u32 (shl .u32 (cv .u32 (sub .i64 (band .i64 o_1 31) (cv .i64 (cv .u64 (band .u8 p_2 7))))) 18) (shl .u32 (band .u32 G_0 1023) (cv .u64 (band .u8 p_2 7)))))], ha.weak ⟨rfl, rfl, rfl, trivial⟩, S20, rfl, Le.refl _, hs⟩
  ·have hp26 := ite_f hc128 hp26
   refine Cd.skip ?_
   have e := some_s hp26
   subst e
   exact fun a ha => ⟨[(9, .int .u64 x1), (11, v18), (12, .int .u32 (bor .u32 (shl .u32 (cv .u32 (band .i64 o_1 31)) 18) (band .u32 G_0 1023)))], ha.weak ⟨rfl, rfl, rfl, trivial⟩, S20, rfl, Le.refl _, hs⟩
end Go.Lk
