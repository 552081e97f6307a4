/- A part of this proof: RtcpBack returns true for every input and leaves its arguments as they were; there are no conditions. -/
import Derived.Test.YtnpgmljphheabaaP1
set_option linter.unusedVariables false
set_option linter.unusedSimpArgs false
set_option maxRecDepth 100000
namespace Go.Lk
open Go.RowKit Go.Proofs
noncomputable def slices_Equal_api_Tuple_l0 (s1_0 : (List api_Tuple)) (s2_1 : (List api_Tuple)) (q13 : Int) : Option (Flow Int Bool) :=
 if (decide (q13 < (s1_0.length : Int))) = true then (
  (ix s1_0 q13).bind fun x24 =>
  (ix s2_1 q13).bind fun x31 =>
  if (!((x24.Owner == x31.Owner) && ((x24.Rate == x31.Rate) && ((x24.Over == x31.Over) && true)))) = true then (
   some (Flow.ret false))
  else (
   some (Flow.next (add .i64 q13 1))))
 else (
  some (Flow.brk q13))
noncomputable def slices_Equal_api_Tuple (s1_0 : (List api_Tuple)) (s2_1 : (List api_Tuple)) : Option Bool :=
 if ((s1_0.length : Int) != (s2_1.length : Int)) = true then (
  some false)
 else (
  (loopF (fun sg => slices_Equal_api_Tuple_l0 s1_0 s2_1 sg) 0).bind fun fl6 =>
  Flow.el fl6 (fun s39 => (
   none))
  (fun s40 => (
   some true))
  (fun r41 => (
   some r41)))
def Po36 (S0 : Mp) (w0 : World) (D : List Nat) (r : Bool) (v : Value) (w1 : World) : Prop :=
  ∃ (S1 : Mp), v = .bool r ∧ St w0 D S0 S1 [] w1
set_option maxHeartbeats 4000000 in
theorem c36 (S0 : Mp) {w0 : World} (hs : St w0 [] S0 S0 [] w0) (s1_0 : (List api_Tuple)) (v1 : Value) (f2 : Rd S0 3 R_api_Tuple v1 s1_0) (s2_1 : (List api_Tuple)) (v3 : Value) (f4 : Rd S0 3 R_api_Tuple v3 s2_1) (r : Bool) (h0 : slices_Equal_api_Tuple s1_0 s2_1 = some r) :
    Calls Try.prog 36 #[v1, v3] w0 (Re (Po36 S0 w0 [] r)) := by
 unfold slices_Equal_api_Tuple at h0
 refine calls_of_cd Try.func36 rfl Try.ntmps36 rfl ?_
 refine Cd.sr ?_
 refine Rg.vN (X.assign rfl) rfl ?_
 refine Rg.go ?_
 refine Cd.seq ?_
 refine Cd.sr ?_
 refine Rg.vN (X.move rfl) rfl ?_
 refine Rg.vN (X.lenR Try.underlying28 rfl f2) rfl ?_
 refine Rg.vN (X.move rfl) rfl ?_
 refine Rg.vN (X.lenR Try.underlying28 rfl f4) rfl ?_
 refine Rg.vN (X.neq rfl rfl) rfl ?_
 refine Rg.go ?_
 refine Cd.cond (t := (s1_0.length : Int) != (s2_1.length : Int)) rfl (fun hc5 => ?_) (fun hc5 => ?_)
 ·have h0 := ite_t hc5 h0
  refine Cd.sr ?_
  refine Rg.vN (X.assign rfl) rfl ?_
  refine Rg.go ?_
  refine Cd.ret ?_
  have e := some_s h0
  subst e
  exact fun a ha => Cd.retA (P := Try.prog) (fn := Try.f36) (R := Re (Po36 S0 w0 [] _)) ha Try.results36 ⟨_, _, rfl, rfl, rfl⟩ ⟨_, rfl, S0, rfl, hs⟩
 ·have h0 := ite_f hc5 h0
  refine Cd.sg ?_
  refine Cd.seq ?_
  refine Cd.sr ?_
  refine Rg.vN (X.move rfl) rfl ?_
  refine Rg.vN (X.lenR Try.underlying28 rfl f2) rfl ?_
  refine Rg.vN (X.move rfl) rfl ?_
  refine Rg.go ?_
  obtain ⟨fl6, hfl7, h0⟩ := bind_s h0
  refine Cd.post (fun K w => ∃ (j8 : Int) (S9 : Mp), K = [] ∧ fl6 = Flow.brk j8 ∧ Le S0 S9 ∧ St w0 [] S0 S9 [] w) ?_ ?_
  ·rintro K12 w11 ⟨j8, S9, rfl, rfl, le10, hs⟩
   have h0 := el_brk h0
   try dsimp only at h0
   refine Cd.go ?_
   refine Cd.sr ?_
   refine Rg.vN (X.assign rfl) rfl ?_
   refine Rg.go ?_
   refine Cd.ret ?_
   have e := some_s h0
   subst e
   exact fun a ha => Cd.retA (P := Try.prog) (fn := Try.f36) (R := Re (Po36 S0 w0 [] _)) ha Try.results36 ⟨_, _, rfl, rfl, rfl⟩ ⟨_, rfl, S9, rfl, hs⟩
  ·skip
   refine Cd.weak [(0, v1), (1, v3), (12, .int .i64 (s1_0.length : Int)), (13, .int .i64 0)] ⟨rfl, rfl, rfl, rfl, trivial⟩ ?_
   refine Cd.block (Cd.loop (fun sg => slices_Equal_api_Tuple_l0 s1_0 s2_1 sg) (fun (sg : Int) K w => ∃ (S14 : Mp), K = [(0, v1), (1, v3), (12, .int .i64 (s1_0.length : Int)), (13, .int .i64 sg)] ∧ Le S0 S14 ∧ St w0 [] S0 S14 [] w) 0 fl6 hfl7 ⟨S0, rfl, Le.refl _, hs⟩ ?_)
   rintro q13 fl16 K21 w20 hb17 ⟨S14, rfl, le15, hs⟩ hl18
   have h19 : slices_Equal_api_Tuple_l0 s1_0 s2_1 q13 = some fl16 := hb17
   unfold slices_Equal_api_Tuple_l0 at h19
   refine Cd.sr ?_
   refine Rg.vN (X.lss rfl rfl) rfl ?_
   refine Rg.go ?_
   refine Cd.seq ?_
   refine Cd.cond (t := decide (q13 < (s1_0.length : Int))) rfl (fun hc22 => ?_) (fun hc22 => ?_)
   ·have h19 := ite_t hc22 h19
    refine Cd.sg ?_
    refine Cd.seq ?_
    refine Cd.block ?_
    refine Cd.sr ?_
    refine Rg.vN (X.move rfl) rfl ?_
    refine Rg.vN (X.assign rfl) rfl ?_
    refine Rg.go ?_
    refine Cd.seq ?_
    refine Cd.rD mixed (fun l w => Has S14 w) hs (fun _ _ _ _ _ h => h) (by kernel_rfl) (fun w23 hs => ⟨hs.has, ?_⟩)
    refine Rk.tN 0 rfl (by kernel_rfl) rfl (fun _ _ => X.move rfl) ?_
    refine Rk.tN 1 rfl (by kernel_rfl) rfl (fun _ _ => X.move rfl) ?_
    obtain ⟨x24, hx25, h19⟩ := bind_s h19
    obtain ⟨ad26, vals27, _, hR28, hE29, hX30⟩ := mk_index Try.underlying28 zz57 (by decide) (f2.mono le15) hx25
    unfold R_api_Tuple at hR28
    subst hR28
    refine Rk.tN 2 rfl (by kernel_rfl) rfl (fun _ _ => hX30 rfl rfl) ?_
    refine Rk.tN 3 rfl (by kernel_rfl) rfl (fun w hc => X.loadE (vals := [.int .u32 x24.Owner, .int .u64 x24.Rate, .int .i64 x24.Over]) hc Try.underlying57 rfl zz57 rfl hE29) ?_
    refine Rk.tN 4 rfl (by kernel_rfl) rfl (fun _ _ => X.move rfl) ?_
    refine Rk.tN 5 rfl (by kernel_rfl) rfl (fun _ _ => X.move rfl) ?_
    refine Rk.weak [(0, v1), (1, v3), (12, .int .i64 (s1_0.length : Int)), (13, .int .i64 q13), (19, .agg (#[.int .u32 x24.Owner, .int .u64 x24.Rate, .int .i64 x24.Over])), (20, v3), (21, .int .i64 q13)] ⟨rfl, rfl, rfl, rfl, rfl, rfl, rfl, trivial⟩ ?_
    obtain ⟨x31, hx32, h19⟩ := bind_s h19
    obtain ⟨ad33, vals34, _, hR35, hE36, hX37⟩ := mk_index Try.underlying28 zz57 (by decide) (f4.mono le15) hx32
    unfold R_api_Tuple at hR35
    subst hR35
    refine Rk.tN 6 rfl (by kernel_rfl) rfl (fun _ _ => hX37 rfl rfl) ?_
    refine Rk.tN 7 rfl (by kernel_rfl) rfl (fun w hc => X.loadE (vals := [.int .u32 x31.Owner, .int .u64 x31.Rate, .int .i64 x31.Over]) hc Try.underlying57 rfl zz57 rfl hE36) ?_
    refine Rk.tN 8 rfl (by kernel_rfl) rfl (fun _ _ => X.neqA eqg57 (eqs57 _ _ _ _ _ _) rfl rfl) ?_
    refine Rk.done (by kernel_rfl) ?_
    refine Cd.go ?_
    refine Cd.cond (t := !((x24.Owner == x31.Owner) && ((x24.Rate == x31.Rate) && ((x24.Over == x31.Over) && true)))) rfl (fun hc38 => ?_) (fun hc38 => ?_)
    ·have h19 := ite_t hc38 h19
     refine Cd.sr ?_
     refine Rg.vN (X.assign rfl) rfl ?_
     refine Rg.go ?_
     refine Cd.ret ?_
     have e := some_s h19
     subst e
     have e := hl18 (fun _ e => by cases e)
     subst e
     have h0 := el_ret h0
     have e := some_s h0
     subst e
     exact fun a ha => Cd.retA (P := Try.prog) (fn := Try.f36) (R := Re (Po36 S0 w0 [] _)) ha Try.results36 ⟨_, _, rfl, rfl, rfl⟩ ⟨_, rfl, S14, rfl, hs⟩
    ·have h19 := ite_f hc38 h19
     refine Cd.skip ?_
     refine Cd.go ?_
     refine Cd.region ?_
     refine Rg.vN (X.add rfl rfl) rfl ?_
     refine Rg.vN (X.move rfl) rfl ?_
     refine Rg.nil ?_
     exact fun a ha => ⟨add .i64 q13 1, [(0, v1), (1, v3), (12, .int .i64 (s1_0.length : Int)), (13, .int .i64 (add .i64 q13 1))], (some_s h19).symm, ha.weak ⟨rfl, rfl, rfl, rfl, trivial⟩, S14, rfl, le15, hs⟩
   ·have h19 := ite_f hc22 h19
    refine Cd.exit ?_
    have e := some_s h19
    subst e
    have e := hl18 (fun _ e => by cases e)
    exact fun a ha => ⟨[], ha.weak trivial, _, S14, rfl, e.symm, le15, hs⟩
noncomputable def slices_Equal_uint32_l0 (s1_0 : (List Int)) (s2_1 : (List Int)) (q13 : Int) : Option (Flow Int Bool) :=
 if (decide (q13 < (s1_0.length : Int))) = true then (
  (ix s1_0 q13).bind fun x24 =>
  (ix s2_1 q13).bind fun x31 =>
  if (x24 != x31) = true then (
   some (Flow.ret false))
  else (
   some (Flow.next (add .i64 q13 1))))
 else (
  some (Flow.brk q13))
noncomputable def slices_Equal_uint32 (s1_0 : (List Int)) (s2_1 : (List Int)) : Option Bool :=
 if ((s1_0.length : Int) != (s2_1.length : Int)) = true then (
  some false)
 else (
  (loopF (fun sg => slices_Equal_uint32_l0 s1_0 s2_1 sg) 0).bind fun fl6 =>
  Flow.el fl6 (fun s39 => (
   none))
  (fun s40 => (
   some true))
  (fun r41 => (
   some r41)))
def Po37 (S0 : Mp) (w0 : World) (D : List Nat) (r : Bool) (v : Value) (w1 : World) : Prop :=
  ∃ (S1 : Mp), v = .bool r ∧ St w0 D S0 S1 [] w1
set_option maxHeartbeats 4000000 in
theorem c37 (S0 : Mp) {w0 : World} (hs : St w0 [] S0 S0 [] w0) (s1_0 : (List Int)) (v1 : Value) (f2 : Rd S0 1 (RI .u32) v1 s1_0) (s2_1 : (List Int)) (v3 : Value) (f4 : Rd S0 1 (RI .u32) v3 s2_1) (r : Bool) (h0 : slices_Equal_uint32 s1_0 s2_1 = some r) :
    Calls Try.prog 37 #[v1, v3] w0 (Re (Po37 S0 w0 [] r)) := by
 unfold slices_Equal_uint32 at h0
 refine calls_of_cd Try.func37 rfl Try.ntmps37 rfl ?_
 refine Cd.sr ?_
 refine Rg.vN (X.assign rfl) rfl ?_
 refine Rg.go ?_
 refine Cd.seq ?_
 refine Cd.sr ?_
 refine Rg.vN (X.move rfl) rfl ?_
 refine Rg.vN (X.lenR Try.underlying29 rfl f2) rfl ?_
 refine Rg.vN (X.move rfl) rfl ?_
 refine Rg.vN (X.lenR Try.underlying29 rfl f4) rfl ?_
 refine Rg.vN (X.neq rfl rfl) rfl ?_
 refine Rg.go ?_
 refine Cd.cond (t := (s1_0.length : Int) != (s2_1.length : Int)) rfl (fun hc5 => ?_) (fun hc5 => ?_)
 ·have h0 := ite_t hc5 h0
  refine Cd.sr ?_
  refine Rg.vN (X.assign rfl) rfl ?_
  refine Rg.go ?_
  refine Cd.ret ?_
  have e := some_s h0
  subst e
  exact fun a ha => Cd.retA (P := Try.prog) (fn := Try.f37) (R := Re (Po37 S0 w0 [] _)) ha Try.results37 ⟨_, _, rfl, rfl, rfl⟩ ⟨_, rfl, S0, rfl, hs⟩
 ·have h0 := ite_f hc5 h0
  refine Cd.sg ?_
  refine Cd.seq ?_
  refine Cd.sr ?_
  refine Rg.vN (X.move rfl) rfl ?_
  refine Rg.vN (X.lenR Try.underlying29 rfl f2) rfl ?_
  refine Rg.vN (X.move rfl) rfl ?_
  refine Rg.go ?_
  obtain ⟨fl6, hfl7, h0⟩ := bind_s h0
  refine Cd.post (fun K w => ∃ (j8 : Int) (S9 : Mp), K = [] ∧ fl6 = Flow.brk j8 ∧ Le S0 S9 ∧ St w0 [] S0 S9 [] w) ?_ ?_
  ·rintro K12 w11 ⟨j8, S9, rfl, rfl, le10, hs⟩
   have h0 := el_brk h0
   try dsimp only at h0
   refine Cd.go ?_
   refine Cd.sr ?_
   refine Rg.vN (X.assign rfl) rfl ?_
   refine Rg.go ?_
   refine Cd.ret ?_
   have e := some_s h0
   subst e
   exact fun a ha => Cd.retA (P := Try.prog) (fn := Try.f37) (R := Re (Po37 S0 w0 [] _)) ha Try.results37 ⟨_, _, rfl, rfl, rfl⟩ ⟨_, rfl, S9, rfl, hs⟩
  ·skip
   refine Cd.weak [(0, v1), (1, v3), (12, .int .i64 (s1_0.length : Int)), (13, .int .i64 0)] ⟨rfl, rfl, rfl, rfl, trivial⟩ ?_
   refine Cd.block (Cd.loop (fun sg => slices_Equal_uint32_l0 s1_0 s2_1 sg) (fun (sg : Int) K w => ∃ (S14 : Mp), K = [(0, v1), (1, v3), (12, .int .i64 (s1_0.length : Int)), (13, .int .i64 sg)] ∧ Le S0 S14 ∧ St w0 [] S0 S14 [] w) 0 fl6 hfl7 ⟨S0, rfl, Le.refl _, hs⟩ ?_)
   rintro q13 fl16 K21 w20 hb17 ⟨S14, rfl, le15, hs⟩ hl18
   have h19 : slices_Equal_uint32_l0 s1_0 s2_1 q13 = some fl16 := hb17
   unfold slices_Equal_uint32_l0 at h19
   refine Cd.sr ?_
   refine Rg.vN (X.lss rfl rfl) rfl ?_
   refine Rg.go ?_
   refine Cd.seq ?_
   refine Cd.cond (t := decide (q13 < (s1_0.length : Int))) rfl (fun hc22 => ?_) (fun hc22 => ?_)
   ·have h19 := ite_t hc22 h19
    refine Cd.sg ?_
    refine Cd.seq ?_
    refine Cd.block ?_
    refine Cd.sr ?_
    refine Rg.vN (X.move rfl) rfl ?_
    refine Rg.vN (X.assign rfl) rfl ?_
    refine Rg.go ?_
    refine Cd.seq ?_
    refine Cd.rD mixed (fun l w => Has S14 w) hs (fun _ _ _ _ _ h => h) (by kernel_rfl) (fun w23 hs => ⟨hs.has, ?_⟩)
    refine Rk.tN 0 rfl (by kernel_rfl) rfl (fun _ _ => X.move rfl) ?_
    refine Rk.tN 1 rfl (by kernel_rfl) rfl (fun _ _ => X.move rfl) ?_
    obtain ⟨x24, hx25, h19⟩ := bind_s h19
    obtain ⟨ad26, vals27, _, hR28, hE29, hX30⟩ := mk_index Try.underlying29 zz27 (by decide) (f2.mono le15) hx25
    obtain rfl : vals27 = [.int .u32 x24] := hR28
    refine Rk.tN 2 rfl (by kernel_rfl) rfl (fun _ _ => hX30 rfl rfl) ?_
    refine Rk.tN 3 rfl (by kernel_rfl) rfl (fun w hc => X.load1 Try.underlying27 rfl rfl (hE29.at0 rfl hc)) ?_
    refine Rk.tN 4 rfl (by kernel_rfl) rfl (fun _ _ => X.move rfl) ?_
    refine Rk.tN 5 rfl (by kernel_rfl) rfl (fun _ _ => X.move rfl) ?_
    refine Rk.weak [(0, v1), (1, v3), (12, .int .i64 (s1_0.length : Int)), (13, .int .i64 q13), (19, .int .u32 x24), (20, v3), (21, .int .i64 q13)] ⟨rfl, rfl, rfl, rfl, rfl, rfl, rfl, trivial⟩ ?_
    obtain ⟨x31, hx32, h19⟩ := bind_s h19
    obtain ⟨ad33, vals34, _, hR35, hE36, hX37⟩ := mk_index Try.underlying29 zz27 (by decide) (f4.mono le15) hx32
    obtain rfl : vals34 = [.int .u32 x31] := hR35
    refine Rk.tN 6 rfl (by kernel_rfl) rfl (fun _ _ => hX37 rfl rfl) ?_
    refine Rk.tN 7 rfl (by kernel_rfl) rfl (fun w hc => X.load1 Try.underlying27 rfl rfl (hE36.at0 rfl hc)) ?_
    refine Rk.tN 8 rfl (by kernel_rfl) rfl (fun _ _ => X.neq rfl rfl) ?_
    refine Rk.done (by kernel_rfl) ?_
    refine Cd.go ?_
    refine Cd.cond (t := x24 != x31) rfl (fun hc38 => ?_) (fun hc38 => ?_)
    ·have h19 := ite_t hc38 h19
     refine Cd.sr ?_
     refine Rg.vN (X.assign rfl) rfl ?_
     refine Rg.go ?_
     refine Cd.ret ?_
     have e := some_s h19
     subst e
     have e := hl18 (fun _ e => by cases e)
     subst e
     have h0 := el_ret h0
     have e := some_s h0
     subst e
     exact fun a ha => Cd.retA (P := Try.prog) (fn := Try.f37) (R := Re (Po37 S0 w0 [] _)) ha Try.results37 ⟨_, _, rfl, rfl, rfl⟩ ⟨_, rfl, S14, rfl, hs⟩
    ·have h19 := ite_f hc38 h19
     refine Cd.skip ?_
     refine Cd.go ?_
     refine Cd.region ?_
     refine Rg.vN (X.add rfl rfl) rfl ?_
     refine Rg.vN (X.move rfl) rfl ?_
     refine Rg.nil ?_
     exact fun a ha => ⟨add .i64 q13 1, [(0, v1), (1, v3), (12, .int .i64 (s1_0.length : Int)), (13, .int .i64 (add .i64 q13 1))], (some_s h19).symm, ha.weak ⟨rfl, rfl, rfl, rfl, trivial⟩, S14, rfl, le15, hs⟩
   ·have h19 := ite_f hc22 h19
    refine Cd.exit ?_
    have e := some_s h19
    subst e
    have e := hl18 (fun _ e => by cases e)
    exact fun a ha => ⟨[], ha.weak trivial, _, S14, rfl, e.symm, le15, hs⟩
noncomputable def slices_Equal_int_l0 (s1_0 : (List Int)) (s2_1 : (List Int)) (q13 : Int) : Option (Flow Int Bool) :=
 if (decide (q13 < (s1_0.length : Int))) = true then (
  (ix s1_0 q13).bind fun x24 =>
  (ix s2_1 q13).bind fun x31 =>
  if (x24 != x31) = true then (
   some (Flow.ret false))
  else (
   some (Flow.next (add .i64 q13 1))))
 else (
  some (Flow.brk q13))
noncomputable def slices_Equal_int (s1_0 : (List Int)) (s2_1 : (List Int)) : Option Bool :=
 if ((s1_0.length : Int) != (s2_1.length : Int)) = true then (
  some false)
 else (
  (loopF (fun sg => slices_Equal_int_l0 s1_0 s2_1 sg) 0).bind fun fl6 =>
  Flow.el fl6 (fun s39 => (
   none))
  (fun s40 => (
   some true))
  (fun r41 => (
   some r41)))
def Po38 (S0 : Mp) (w0 : World) (D : List Nat) (r : Bool) (v : Value) (w1 : World) : Prop :=
  ∃ (S1 : Mp), v = .bool r ∧ St w0 D S0 S1 [] w1
set_option maxHeartbeats 4000000 in
theorem c38 (S0 : Mp) {w0 : World} (hs : St w0 [] S0 S0 [] w0) (s1_0 : (List Int)) (v1 : Value) (f2 : Rd S0 1 (RI .i64) v1 s1_0) (s2_1 : (List Int)) (v3 : Value) (f4 : Rd S0 1 (RI .i64) v3 s2_1) (r : Bool) (h0 : slices_Equal_int s1_0 s2_1 = some r) :
    Calls Try.prog 38 #[v1, v3] w0 (Re (Po38 S0 w0 [] r)) := by
 unfold slices_Equal_int at h0
 refine calls_of_cd Try.func38 rfl Try.ntmps38 rfl ?_
 refine Cd.sr ?_
 refine Rg.vN (X.assign rfl) rfl ?_
 refine Rg.go ?_
 refine Cd.seq ?_
 refine Cd.sr ?_
 refine Rg.vN (X.move rfl) rfl ?_
 refine Rg.vN (X.lenR Try.underlying23 rfl f2) rfl ?_
 refine Rg.vN (X.move rfl) rfl ?_
 refine Rg.vN (X.lenR Try.underlying23 rfl f4) rfl ?_
 refine Rg.vN (X.neq rfl rfl) rfl ?_
 refine Rg.go ?_
 refine Cd.cond (t := (s1_0.length : Int) != (s2_1.length : Int)) rfl (fun hc5 => ?_) (fun hc5 => ?_)
 ·have h0 := ite_t hc5 h0
  refine Cd.sr ?_
  refine Rg.vN (X.assign rfl) rfl ?_
  refine Rg.go ?_
  refine Cd.ret ?_
  have e := some_s h0
  subst e
  exact fun a ha => Cd.retA (P := Try.prog) (fn := Try.f38) (R := Re (Po38 S0 w0 [] _)) ha Try.results38 ⟨_, _, rfl, rfl, rfl⟩ ⟨_, rfl, S0, rfl, hs⟩
 ·have h0 := ite_f hc5 h0
  refine Cd.sg ?_
  refine Cd.seq ?_
  refine Cd.sr ?_
  refine Rg.vN (X.move rfl) rfl ?_
  refine Rg.vN (X.lenR Try.underlying23 rfl f2) rfl ?_
  refine Rg.vN (X.move rfl) rfl ?_
  refine Rg.go ?_
  obtain ⟨fl6, hfl7, h0⟩ := bind_s h0
  refine Cd.post (fun K w => ∃ (j8 : Int) (S9 : Mp), K = [] ∧ fl6 = Flow.brk j8 ∧ Le S0 S9 ∧ St w0 [] S0 S9 [] w) ?_ ?_
  ·rintro K12 w11 ⟨j8, S9, rfl, rfl, le10, hs⟩
   have h0 := el_brk h0
   try dsimp only at h0
   refine Cd.go ?_
   refine Cd.sr ?_
   refine Rg.vN (X.assign rfl) rfl ?_
   refine Rg.go ?_
   refine Cd.ret ?_
   have e := some_s h0
   subst e
   exact fun a ha => Cd.retA (P := Try.prog) (fn := Try.f38) (R := Re (Po38 S0 w0 [] _)) ha Try.results38 ⟨_, _, rfl, rfl, rfl⟩ ⟨_, rfl, S9, rfl, hs⟩
  ·skip
   refine Cd.weak [(0, v1), (1, v3), (12, .int .i64 (s1_0.length : Int)), (13, .int .i64 0)] ⟨rfl, rfl, rfl, rfl, trivial⟩ ?_
   refine Cd.block (Cd.loop (fun sg => slices_Equal_int_l0 s1_0 s2_1 sg) (fun (sg : Int) K w => ∃ (S14 : Mp), K = [(0, v1), (1, v3), (12, .int .i64 (s1_0.length : Int)), (13, .int .i64 sg)] ∧ Le S0 S14 ∧ St w0 [] S0 S14 [] w) 0 fl6 hfl7 ⟨S0, rfl, Le.refl _, hs⟩ ?_)
   rintro q13 fl16 K21 w20 hb17 ⟨S14, rfl, le15, hs⟩ hl18
   have h19 : slices_Equal_int_l0 s1_0 s2_1 q13 = some fl16 := hb17
   unfold slices_Equal_int_l0 at h19
   refine Cd.sr ?_
   refine Rg.vN (X.lss rfl rfl) rfl ?_
   refine Rg.go ?_
   refine Cd.seq ?_
   refine Cd.cond (t := decide (q13 < (s1_0.length : Int))) rfl (fun hc22 => ?_) (fun hc22 => ?_)
   ·have h19 := ite_t hc22 h19
    refine Cd.sg ?_
    refine Cd.seq ?_
    refine Cd.block ?_
    refine Cd.sr ?_
    refine Rg.vN (X.move rfl) rfl ?_
    refine Rg.vN (X.assign rfl) rfl ?_
    refine Rg.go ?_
    refine Cd.seq ?_
    refine Cd.rD mixed (fun l w => Has S14 w) hs (fun _ _ _ _ _ h => h) (by kernel_rfl) (fun w23 hs => ⟨hs.has, ?_⟩)
    refine Rk.tN 0 rfl (by kernel_rfl) rfl (fun _ _ => X.move rfl) ?_
    refine Rk.tN 1 rfl (by kernel_rfl) rfl (fun _ _ => X.move rfl) ?_
    obtain ⟨x24, hx25, h19⟩ := bind_s h19
    obtain ⟨ad26, vals27, _, hR28, hE29, hX30⟩ := mk_index Try.underlying23 zz3 (by decide) (f2.mono le15) hx25
    obtain rfl : vals27 = [.int .i64 x24] := hR28
    refine Rk.tN 2 rfl (by kernel_rfl) rfl (fun _ _ => hX30 rfl rfl) ?_
    refine Rk.tN 3 rfl (by kernel_rfl) rfl (fun w hc => X.load1 Try.underlying3 rfl rfl (hE29.at0 rfl hc)) ?_
    refine Rk.tN 4 rfl (by kernel_rfl) rfl (fun _ _ => X.move rfl) ?_
    refine Rk.tN 5 rfl (by kernel_rfl) rfl (fun _ _ => X.move rfl) ?_
    refine Rk.weak [(0, v1), (1, v3), (12, .int .i64 (s1_0.length : Int)), (13, .int .i64 q13), (19, .int .i64 x24), (20, v3), (21, .int .i64 q13)] ⟨rfl, rfl, rfl, rfl, rfl, rfl, rfl, trivial⟩ ?_
    obtain ⟨x31, hx32, h19⟩ := bind_s h19
    obtain ⟨ad33, vals34, _, hR35, hE36, hX37⟩ := mk_index Try.underlying23 zz3 (by decide) (f4.mono le15) hx32
    obtain rfl : vals34 = [.int .i64 x31] := hR35
    refine Rk.tN 6 rfl (by kernel_rfl) rfl (fun _ _ => hX37 rfl rfl) ?_
    refine Rk.tN 7 rfl (by kernel_rfl) rfl (fun w hc => X.load1 Try.underlying3 rfl rfl (hE36.at0 rfl hc)) ?_
    refine Rk.tN 8 rfl (by kernel_rfl) rfl (fun _ _ => X.neq rfl rfl) ?_
    refine Rk.done (by kernel_rfl) ?_
    refine Cd.go ?_
    refine Cd.cond (t := x24 != x31) rfl (fun hc38 => ?_) (fun hc38 => ?_)
    ·have h19 := ite_t hc38 h19
     refine Cd.sr ?_
     refine Rg.vN (X.assign rfl) rfl ?_
     refine Rg.go ?_
     refine Cd.ret ?_
     have e := some_s h19
     subst e
     have e := hl18 (fun _ e => by cases e)
     subst e
     have h0 := el_ret h0
     have e := some_s h0
     subst e
     exact fun a ha => Cd.retA (P := Try.prog) (fn := Try.f38) (R := Re (Po38 S0 w0 [] _)) ha Try.results38 ⟨_, _, rfl, rfl, rfl⟩ ⟨_, rfl, S14, rfl, hs⟩
    ·have h19 := ite_f hc38 h19
     refine Cd.skip ?_
     refine Cd.go ?_
     refine Cd.region ?_
     refine Rg.vN (X.add rfl rfl) rfl ?_
     refine Rg.vN (X.move rfl) rfl ?_
     refine Rg.nil ?_
     exact fun a ha => ⟨add .i64 q13 1, [(0, v1), (1, v3), (12, .int .i64 (s1_0.length : Int)), (13, .int .i64 (add .i64 q13 1))], (some_s h19).symm, ha.weak ⟨rfl, rfl, rfl, rfl, trivial⟩, S14, rfl, le15, hs⟩
   ·have h19 := ite_f hc22 h19
    refine Cd.exit ?_
    have e := some_s h19
    subst e
    have e := hl18 (fun _ e => by cases e)
    exact fun a ha => ⟨[], ha.weak trivial, _, S14, rfl, e.symm, le15, hs⟩
noncomputable def slices_Equal_byte_l0 (s1_0 : (List Int)) (s2_1 : (List Int)) (q13 : Int) : Option (Flow Int Bool) :=
 if (decide (q13 < (s1_0.length : Int))) = true then (
  (ix s1_0 q13).bind fun x24 =>
  (ix s2_1 q13).bind fun x31 =>
  if (x24 != x31) = true then (
   some (Flow.ret false))
  else (
   some (Flow.next (add .i64 q13 1))))
 else (
  some (Flow.brk q13))
noncomputable def slices_Equal_byte (s1_0 : (List Int)) (s2_1 : (List Int)) : Option Bool :=
 if ((s1_0.length : Int) != (s2_1.length : Int)) = true then (
  some false)
 else (
  (loopF (fun sg => slices_Equal_byte_l0 s1_0 s2_1 sg) 0).bind fun fl6 =>
  Flow.el fl6 (fun s39 => (
   none))
  (fun s40 => (
   some true))
  (fun r41 => (
   some r41)))
def Po39 (S0 : Mp) (w0 : World) (D : List Nat) (r : Bool) (v : Value) (w1 : World) : Prop :=
  ∃ (S1 : Mp), v = .bool r ∧ St w0 D S0 S1 [] w1
set_option maxHeartbeats 4000000 in
theorem c39 (S0 : Mp) {w0 : World} (hs : St w0 [] S0 S0 [] w0) (s1_0 : (List Int)) (v1 : Value) (f2 : Rd S0 1 (RI .u8) v1 s1_0) (s2_1 : (List Int)) (v3 : Value) (f4 : Rd S0 1 (RI .u8) v3 s2_1) (r : Bool) (h0 : slices_Equal_byte s1_0 s2_1 = some r) :
    Calls Try.prog 39 #[v1, v3] w0 (Re (Po39 S0 w0 [] r)) := by
 unfold slices_Equal_byte at h0
 refine calls_of_cd Try.func39 rfl Try.ntmps39 rfl ?_
 refine Cd.sr ?_
 refine Rg.vN (X.assign rfl) rfl ?_
 refine Rg.go ?_
 refine Cd.seq ?_
 refine Cd.sr ?_
 refine Rg.vN (X.move rfl) rfl ?_
 refine Rg.vN (X.lenR Try.underlying31 rfl f2) rfl ?_
 refine Rg.vN (X.move rfl) rfl ?_
 refine Rg.vN (X.lenR Try.underlying31 rfl f4) rfl ?_
 refine Rg.vN (X.neq rfl rfl) rfl ?_
 refine Rg.go ?_
 refine Cd.cond (t := (s1_0.length : Int) != (s2_1.length : Int)) rfl (fun hc5 => ?_) (fun hc5 => ?_)
 ·have h0 := ite_t hc5 h0
  refine Cd.sr ?_
  refine Rg.vN (X.assign rfl) rfl ?_
  refine Rg.go ?_
  refine Cd.ret ?_
  have e := some_s h0
  subst e
  exact fun a ha => Cd.retA (P := Try.prog) (fn := Try.f39) (R := Re (Po39 S0 w0 [] _)) ha Try.results39 ⟨_, _, rfl, rfl, rfl⟩ ⟨_, rfl, S0, rfl, hs⟩
 ·have h0 := ite_f hc5 h0
  refine Cd.sg ?_
  refine Cd.seq ?_
  refine Cd.sr ?_
  refine Rg.vN (X.move rfl) rfl ?_
  refine Rg.vN (X.lenR Try.underlying31 rfl f2) rfl ?_
  refine Rg.vN (X.move rfl) rfl ?_
  refine Rg.go ?_
  obtain ⟨fl6, hfl7, h0⟩ := bind_s h0
  refine Cd.post (fun K w => ∃ (j8 : Int) (S9 : Mp), K = [] ∧ fl6 = Flow.brk j8 ∧ Le S0 S9 ∧ St w0 [] S0 S9 [] w) ?_ ?_
  ·rintro K12 w11 ⟨j8, S9, rfl, rfl, le10, hs⟩
   have h0 := el_brk h0
   try dsimp only at h0
   refine Cd.go ?_
   refine Cd.sr ?_
   refine Rg.vN (X.assign rfl) rfl ?_
   refine Rg.go ?_
   refine Cd.ret ?_
   have e := some_s h0
   subst e
   exact fun a ha => Cd.retA (P := Try.prog) (fn := Try.f39) (R := Re (Po39 S0 w0 [] _)) ha Try.results39 ⟨_, _, rfl, rfl, rfl⟩ ⟨_, rfl, S9, rfl, hs⟩
  ·skip
   refine Cd.weak [(0, v1), (1, v3), (12, .int .i64 (s1_0.length : Int)), (13, .int .i64 0)] ⟨rfl, rfl, rfl, rfl, trivial⟩ ?_
   refine Cd.block (Cd.loop (fun sg => slices_Equal_byte_l0 s1_0 s2_1 sg) (fun (sg : Int) K w => ∃ (S14 : Mp), K = [(0, v1), (1, v3), (12, .int .i64 (s1_0.length : Int)), (13, .int .i64 sg)] ∧ Le S0 S14 ∧ St w0 [] S0 S14 [] w) 0 fl6 hfl7 ⟨S0, rfl, Le.refl _, hs⟩ ?_)
   rintro q13 fl16 K21 w20 hb17 ⟨S14, rfl, le15, hs⟩ hl18
   have h19 : slices_Equal_byte_l0 s1_0 s2_1 q13 = some fl16 := hb17
   unfold slices_Equal_byte_l0 at h19
   refine Cd.sr ?_
   refine Rg.vN (X.lss rfl rfl) rfl ?_
   refine Rg.go ?_
   refine Cd.seq ?_
   refine Cd.cond (t := decide (q13 < (s1_0.length : Int))) rfl (fun hc22 => ?_) (fun hc22 => ?_)
   ·have h19 := ite_t hc22 h19
    refine Cd.sg ?_
    refine Cd.seq ?_
    refine Cd.block ?_
    refine Cd.sr ?_
    refine Rg.vN (X.move rfl) rfl ?_
    refine Rg.vN (X.assign rfl) rfl ?_
    refine Rg.go ?_
    refine Cd.seq ?_
    refine Cd.rD mixed (fun l w => Has S14 w) hs (fun _ _ _ _ _ h => h) (by kernel_rfl) (fun w23 hs => ⟨hs.has, ?_⟩)
    refine Rk.tN 0 rfl (by kernel_rfl) rfl (fun _ _ => X.move rfl) ?_
    refine Rk.tN 1 rfl (by kernel_rfl) rfl (fun _ _ => X.move rfl) ?_
    obtain ⟨x24, hx25, h19⟩ := bind_s h19
    obtain ⟨ad26, vals27, _, hR28, hE29, hX30⟩ := mk_index Try.underlying31 zz5 (by decide) (f2.mono le15) hx25
    obtain rfl : vals27 = [.int .u8 x24] := hR28
    refine Rk.tN 2 rfl (by kernel_rfl) rfl (fun _ _ => hX30 rfl rfl) ?_
    refine Rk.tN 3 rfl (by kernel_rfl) rfl (fun w hc => X.load1 Try.underlying5 rfl rfl (hE29.at0 rfl hc)) ?_
    refine Rk.tN 4 rfl (by kernel_rfl) rfl (fun _ _ => X.move rfl) ?_
    refine Rk.tN 5 rfl (by kernel_rfl) rfl (fun _ _ => X.move rfl) ?_
    refine Rk.weak [(0, v1), (1, v3), (12, .int .i64 (s1_0.length : Int)), (13, .int .i64 q13), (19, .int .u8 x24), (20, v3), (21, .int .i64 q13)] ⟨rfl, rfl, rfl, rfl, rfl, rfl, rfl, trivial⟩ ?_
    obtain ⟨x31, hx32, h19⟩ := bind_s h19
    obtain ⟨ad33, vals34, _, hR35, hE36, hX37⟩ := mk_index Try.underlying31 zz5 (by decide) (f4.mono le15) hx32
    obtain rfl : vals34 = [.int .u8 x31] := hR35
    refine Rk.tN 6 rfl (by kernel_rfl) rfl (fun _ _ => hX37 rfl rfl) ?_
    refine Rk.tN 7 rfl (by kernel_rfl) rfl (fun w hc => X.load1 Try.underlying5 rfl rfl (hE36.at0 rfl hc)) ?_
    refine Rk.tN 8 rfl (by kernel_rfl) rfl (fun _ _ => X.neq rfl rfl) ?_
    refine Rk.done (by kernel_rfl) ?_
    refine Cd.go ?_
    refine Cd.cond (t := x24 != x31) rfl (fun hc38 => ?_) (fun hc38 => ?_)
    ·have h19 := ite_t hc38 h19
     refine Cd.sr ?_
     refine Rg.vN (X.assign rfl) rfl ?_
     refine Rg.go ?_
     refine Cd.ret ?_
     have e := some_s h19
     subst e
     have e := hl18 (fun _ e => by cases e)
     subst e
     have h0 := el_ret h0
     have e := some_s h0
     subst e
     exact fun a ha => Cd.retA (P := Try.prog) (fn := Try.f39) (R := Re (Po39 S0 w0 [] _)) ha Try.results39 ⟨_, _, rfl, rfl, rfl⟩ ⟨_, rfl, S14, rfl, hs⟩
    ·have h19 := ite_f hc38 h19
     refine Cd.skip ?_
     refine Cd.go ?_
     refine Cd.region ?_
     refine Rg.vN (X.add rfl rfl) rfl ?_
     refine Rg.vN (X.move rfl) rfl ?_
     refine Rg.nil ?_
     exact fun a ha => ⟨add .i64 q13 1, [(0, v1), (1, v3), (12, .int .i64 (s1_0.length : Int)), (13, .int .i64 (add .i64 q13 1))], (some_s h19).symm, ha.weak ⟨rfl, rfl, rfl, rfl, trivial⟩, S14, rfl, le15, hs⟩
   ·have h19 := ite_f hc22 h19
    refine Cd.exit ?_
    have e := some_s h19
    subst e
    have e := hl18 (fun _ e => by cases e)
    exact fun a ha => ⟨[], ha.weak trivial, _, S14, rfl, e.symm, le15, hs⟩
noncomputable def rtcp_Same (G_0 : api_Report) (o_1 : api_Report) : Option Bool :=
 ((
  if (((G_0.Kind == o_1.Kind) && (G_0.From == o_1.From)) && (G_0.About == o_1.About)) = true then (
   (slices_Equal_api_Tuple G_0.Tuples o_1.Tuples).bind fun x31 =>
   if x31 = true then (
    (slices_Equal_uint32 G_0.Abouts o_1.Abouts).bind fun x40 =>
    if x40 = true then (
     (slices_Equal_int G_0.Numbers o_1.Numbers).bind fun x49 =>
     if (((x49 && (G_0.Rate == o_1.Rate)) && (G_0.Type_ == o_1.Type_)) && (G_0.Count == o_1.Count)) = true then (
      (slices_Equal_byte G_0.Body o_1.Body).bind fun x58 =>
      some x58)
     else (
      some false))
    else (
     some false))
   else (
    some false))
  else (
   some false) : Option Bool)).bind fun p24 =>
 some p24
def Po17 (S0 : Mp) (w0 : World) (D : List Nat) (r : Bool) (v : Value) (w1 : World) : Prop :=
  ∃ (S1 : Mp), v = .bool r ∧ St w0 D S0 S1 [] w1
set_option maxHeartbeats 4000000 in
theorem c17 (S0 : Mp) {w0 : World} (hs : St w0 [] S0 S0 [] w0) (G_0 : api_Report) (v1 : Value) (f2 : Rd S0 3 R_api_Tuple v1 G_0.Tuples) (v3 : Value) (f4 : Rd S0 1 (RI .u32) v3 G_0.Abouts) (v5 : Value) (f6 : Rd S0 1 (RI .i64) v5 G_0.Numbers) (v7 : Value) (f8 : Rd S0 1 (RI .u8) v7 G_0.Body) (o_1 : api_Report) (v9 : Value) (f10 : Rd S0 3 R_api_Tuple v9 o_1.Tuples) (v11 : Value) (f12 : Rd S0 1 (RI .u32) v11 o_1.Abouts) (v13 : Value) (f14 : Rd S0 1 (RI .i64) v13 o_1.Numbers) (v15 : Value) (f16 : Rd S0 1 (RI .u8) v15 o_1.Body) (r : Bool) (h0 : rtcp_Same G_0 o_1 = some r) :
    Calls Try.prog 17 #[.agg (#[.int .i64 G_0.Kind, .int .u32 G_0.From, .int .u32 G_0.About, v1, v3, v5, .int .u64 G_0.Rate, .int .i64 G_0.Type_, .int .i64 G_0.Count, v7]), .agg (#[.int .i64 o_1.Kind, .int .u32 o_1.From, .int .u32 o_1.About, v9, v11, v13, .int .u64 o_1.Rate, .int .i64 o_1.Type_, .int .i64 o_1.Count, v15])] w0 (Re (Po17 S0 w0 [] r)) := by
 unfold rtcp_Same at h0
 refine calls_of_cd Try.func17 rfl Try.ntmps17 rfl ?_
 refine Cd.sr ?_
 refine Rg.step rfl (Oq.box (cs := #[.int .i64 G_0.Kind, .int .u32 G_0.From, .int .u32 G_0.About, v1, v3, v5, .int .u64 G_0.Rate, .int .i64 G_0.Type_, .int .i64 G_0.Count, v7]) hs rfl rfl rfl (fun b17 w18 hs => ?_))
 refine Rg.step rfl (Oq.box (cs := #[.int .i64 o_1.Kind, .int .u32 o_1.From, .int .u32 o_1.About, v9, v11, v13, .int .u64 o_1.Rate, .int .i64 o_1.Type_, .int .i64 o_1.Count, v15]) hs rfl rfl rfl (fun b20 w21 hs => ?_))
 refine Rg.vN (X.assign rfl) rfl ?_
 refine Rg.go ?_
 refine Cd.seq ?_
 obtain ⟨p24, hp25, h0⟩ := bind_s h0
 refine Cd.post (fun K w => ∃ (S26 : Mp), K = [(4, .bool p24)] ∧ Le S0 S26 ∧ St w0 [] S0 S26 [] w) ?_ ?_
 ·rintro K29 w27 ⟨S26, rfl, le28, hs⟩
  refine Cd.go ?_
  refine Cd.ret ?_
  have e := some_s h0
  subst e
  exact fun a ha => Cd.retA (P := Try.prog) (fn := Try.f17) (R := Re (Po17 S0 w0 [] _)) ha Try.results17 ⟨_, _, rfl, rfl, rfl⟩ ⟨_, rfl, S26, rfl, hs⟩
 ·skip
  refine Cd.region ?_
  refine Rg.vN (X.fieldB Try.underlying33 rfl zz3 rfl rfl) rfl ?_
  refine Rg.vN (X.load1 Try.underlying3 rfl rfl (hs.cell 1 rfl 0 rfl)) rfl ?_
  refine Rg.vN (X.fieldB Try.underlying33 rfl zz3 rfl rfl) rfl ?_
  refine Rg.vN (X.load1 Try.underlying3 rfl rfl (hs.cell 0 rfl 0 rfl)) rfl ?_
  refine Rg.vN (X.eql rfl rfl) rfl ?_
  refine Rg.vN (X.move rfl) rfl ?_
  refine Rg.vT rfl rfl rfl (fun hW => X.fieldB Try.underlying33 rfl zz27 rfl rfl) ?_
  refine Rg.vT rfl rfl rfl (fun hW => X.load1 Try.underlying27 rfl (ev_g rfl hW) (hs.cell 1 rfl 1 rfl)) ?_
  refine Rg.vT rfl rfl rfl (fun hW => X.fieldB Try.underlying33 rfl zz27 rfl rfl) ?_
  refine Rg.vT rfl rfl rfl (fun hW => X.load1 Try.underlying27 rfl (ev_g rfl hW) (hs.cell 0 rfl 1 rfl)) ?_
  refine Rg.vT rfl rfl rfl (fun hW => X.eql (ev_g rfl hW) (ev_g rfl hW)) ?_
  refine Rg.vN (X.pickAnd rfl rfl rfl) rfl ?_
  refine Rg.vN (X.move rfl) rfl ?_
  refine Rg.vT rfl rfl rfl (fun hW => X.fieldB Try.underlying33 rfl zz27 rfl rfl) ?_
  refine Rg.weak [(2, .pointer (some ⟨b17, 0, none⟩)), (3, .pointer (some ⟨b20, 0, none⟩)), (17, .bool ((G_0.Kind == o_1.Kind) && (G_0.From == o_1.From))), (18, gv ((G_0.Kind == o_1.Kind) && (G_0.From == o_1.From)) (.pointer (some ⟨b17, 2, none⟩)))] ⟨rfl, rfl, rfl, rfl, trivial⟩ ?_
  refine Rg.vT rfl rfl rfl (fun hW => X.load1 Try.underlying27 rfl (ev_g rfl hW) (hs.cell 1 rfl 2 rfl)) ?_
  refine Rg.vT rfl rfl rfl (fun hW => X.fieldB Try.underlying33 rfl zz27 rfl rfl) ?_
  refine Rg.vT rfl rfl rfl (fun hW => X.load1 Try.underlying27 rfl (ev_g rfl hW) (hs.cell 0 rfl 2 rfl)) ?_
  refine Rg.vT rfl rfl rfl (fun hW => X.eql (ev_g rfl hW) (ev_g rfl hW)) ?_
  refine Rg.vN (X.pickAnd rfl rfl rfl) rfl ?_
  refine Rg.vN (X.move rfl) rfl ?_
  refine Rg.vT rfl rfl rfl (fun hW => X.fieldB Try.underlying33 rfl zz28 rfl rfl) ?_
  refine Rg.vT rfl rfl rfl (fun hW => X.load1 Try.underlying28 rfl (ev_g rfl hW) (hs.cell 1 rfl 3 rfl)) ?_
  refine Rg.vT rfl rfl rfl (fun hW => X.fieldB Try.underlying33 rfl zz28 rfl rfl) ?_
  refine Rg.vT rfl rfl rfl (fun hW => X.load1 Try.underlying28 rfl (ev_g rfl hW) (hs.cell 0 rfl 3 rfl)) ?_
  refine Rg.split (c := ((G_0.Kind == o_1.Kind) && (G_0.From == o_1.From)) && (G_0.About == o_1.About)) (tj := 24) rfl (fun hc30 => ?_) (fun hc30 => ?_)
  ·have hp25 := ite_t hc30 hp25
   refine Rg.weak [(2, .pointer (some ⟨b17, 0, none⟩)), (3, .pointer (some ⟨b20, 0, none⟩)), (24, .bool true), (26, v1), (28, v9)] ⟨rfl, rfl, rfl, get_g rfl hc30, get_g rfl hc30, trivial⟩ ?_
   refine Rg.gon rfl rfl rfl ?_
   obtain ⟨x31, hx32, hp25⟩ := bind_s hp25
   refine Rg.step rfl (Oq.call Try.call36 rfl rfl (c36 S0 (St.start _ _ hs.has) _ _ f2 _ _ f10 _ hx32) (fun v33 w34 h35 => ?_))
   obtain ⟨S36, rfl, hs37⟩ := h35
   have _ := 0
   have le38 : Le S0 S36 := hs37.le
   have hs := hs.call0 hs37
   refine Rg.vN (X.pickT rfl rfl) rfl ?_
   refine Rg.vN (X.move rfl) rfl ?_
   refine Rg.vT rfl rfl rfl (fun hW => X.fieldB Try.underlying33 rfl zz29 rfl rfl) ?_
   refine Rg.vT rfl rfl rfl (fun hW => X.load1 Try.underlying29 rfl (ev_g rfl hW) (hs.cell 1 rfl 4 rfl)) ?_
   refine Rg.vT rfl rfl rfl (fun hW => X.fieldB Try.underlying33 rfl zz29 rfl rfl) ?_
   refine Rg.vT rfl rfl rfl (fun hW => X.load1 Try.underlying29 rfl (ev_g rfl hW) (hs.cell 0 rfl 4 rfl)) ?_
   refine Rg.split (c := x31) (tj := 31) rfl (fun hc39 => ?_) (fun hc39 => ?_)
   ·have hp25 := ite_t hc39 hp25
    refine Rg.weak [(2, .pointer (some ⟨b17, 0, none⟩)), (3, .pointer (some ⟨b20, 0, none⟩)), (31, .bool true), (33, v3), (35, v11)] ⟨rfl, rfl, rfl, get_g rfl hc39, get_g rfl hc39, trivial⟩ ?_
    refine Rg.gon rfl rfl rfl ?_
    obtain ⟨x40, hx41, hp25⟩ := bind_s hp25
    refine Rg.step rfl (Oq.call Try.call37 rfl rfl (c37 S36 (St.start _ _ hs.has) _ _ (f4.mono le38) _ _ (f12.mono le38) _ hx41) (fun v42 w43 h44 => ?_))
    obtain ⟨S45, rfl, hs46⟩ := h44
    have _ := 0
    have le47 : Le S36 S45 := hs46.le
    have hs := hs.call0 hs46
    refine Rg.vN (X.pickT rfl rfl) rfl ?_
    refine Rg.vN (X.move rfl) rfl ?_
    refine Rg.vT rfl rfl rfl (fun hW => X.fieldB Try.underlying33 rfl zz23 rfl rfl) ?_
    refine Rg.vT rfl rfl rfl (fun hW => X.load1 Try.underlying23 rfl (ev_g rfl hW) (hs.cell 1 rfl 5 rfl)) ?_
    refine Rg.vT rfl rfl rfl (fun hW => X.fieldB Try.underlying33 rfl zz23 rfl rfl) ?_
    refine Rg.vT rfl rfl rfl (fun hW => X.load1 Try.underlying23 rfl (ev_g rfl hW) (hs.cell 0 rfl 5 rfl)) ?_
    refine Rg.split (c := x40) (tj := 38) rfl (fun hc48 => ?_) (fun hc48 => ?_)
    ·have hp25 := ite_t hc48 hp25
     refine Rg.weak [(2, .pointer (some ⟨b17, 0, none⟩)), (3, .pointer (some ⟨b20, 0, none⟩)), (38, .bool true), (40, v5), (42, v13)] ⟨rfl, rfl, rfl, get_g rfl hc48, get_g rfl hc48, trivial⟩ ?_
     refine Rg.gon rfl rfl rfl ?_
     obtain ⟨x49, hx50, hp25⟩ := bind_s hp25
     refine Rg.step rfl (Oq.call Try.call38 rfl rfl (c38 S45 (St.start _ _ hs.has) _ _ (f6.mono (le38.trans le47)) _ _ (f14.mono (le38.trans le47)) _ hx50) (fun v51 w52 h53 => ?_))
     obtain ⟨S54, rfl, hs55⟩ := h53
     have _ := 0
     have le56 : Le S45 S54 := hs55.le
     have hs := hs.call0 hs55
     refine Rg.vN (X.pickT rfl rfl) rfl ?_
     refine Rg.vN (X.move rfl) rfl ?_
     refine Rg.vT rfl rfl rfl (fun hW => X.fieldB Try.underlying33 rfl zz30 rfl rfl) ?_
     refine Rg.vT rfl rfl rfl (fun hW => X.load1 Try.underlying30 rfl (ev_g rfl hW) (hs.cell 1 rfl 6 rfl)) ?_
     refine Rg.vT rfl rfl rfl (fun hW => X.fieldB Try.underlying33 rfl zz30 rfl rfl) ?_
     refine Rg.vT rfl rfl rfl (fun hW => X.load1 Try.underlying30 rfl (ev_g rfl hW) (hs.cell 0 rfl 6 rfl)) ?_
     refine Rg.vT rfl rfl rfl (fun hW => X.eql (ev_g rfl hW) (ev_g rfl hW)) ?_
     refine Rg.vN (X.pickAnd rfl rfl rfl) rfl ?_
     refine Rg.vN (X.move rfl) rfl ?_
     refine Rg.vT rfl rfl rfl (fun hW => X.fieldB Try.underlying33 rfl zz3 rfl rfl) ?_
     refine Rg.weak [(2, .pointer (some ⟨b17, 0, none⟩)), (3, .pointer (some ⟨b20, 0, none⟩)), (52, .bool (x49 && (G_0.Rate == o_1.Rate))), (53, gv (x49 && (G_0.Rate == o_1.Rate)) (.pointer (some ⟨b17, 7, none⟩)))] ⟨rfl, rfl, rfl, rfl, trivial⟩ ?_
     refine Rg.vT rfl rfl rfl (fun hW => X.load1 Try.underlying3 rfl (ev_g rfl hW) (hs.cell 1 rfl 7 rfl)) ?_
     refine Rg.vT rfl rfl rfl (fun hW => X.fieldB Try.underlying33 rfl zz3 rfl rfl) ?_
     refine Rg.vT rfl rfl rfl (fun hW => X.load1 Try.underlying3 rfl (ev_g rfl hW) (hs.cell 0 rfl 7 rfl)) ?_
     refine Rg.vT rfl rfl rfl (fun hW => X.eql (ev_g rfl hW) (ev_g rfl hW)) ?_
     refine Rg.vN (X.pickAnd rfl rfl rfl) rfl ?_
     refine Rg.vN (X.move rfl) rfl ?_
     refine Rg.vT rfl rfl rfl (fun hW => X.fieldB Try.underlying33 rfl zz3 rfl rfl) ?_
     refine Rg.vT rfl rfl rfl (fun hW => X.load1 Try.underlying3 rfl (ev_g rfl hW) (hs.cell 1 rfl 8 rfl)) ?_
     refine Rg.vT rfl rfl rfl (fun hW => X.fieldB Try.underlying33 rfl zz3 rfl rfl) ?_
     refine Rg.vT rfl rfl rfl (fun hW => X.load1 Try.underlying3 rfl (ev_g rfl hW) (hs.cell 0 rfl 8 rfl)) ?_
     refine Rg.vT rfl rfl rfl (fun hW => X.eql (ev_g rfl hW) (ev_g rfl hW)) ?_
     refine Rg.weak [(2, .pointer (some ⟨b17, 0, none⟩)), (3, .pointer (some ⟨b20, 0, none⟩)), (59, .bool ((x49 && (G_0.Rate == o_1.Rate)) && (G_0.Type_ == o_1.Type_))), (64, gv ((x49 && (G_0.Rate == o_1.Rate)) && (G_0.Type_ == o_1.Type_)) (.bool (G_0.Count == o_1.Count)))] ⟨rfl, rfl, rfl, rfl, trivial⟩ ?_
     refine Rg.vN (X.pickAnd rfl rfl rfl) rfl ?_
     refine Rg.vN (X.move rfl) rfl ?_
     refine Rg.vT rfl rfl rfl (fun hW => X.fieldB Try.underlying33 rfl zz31 rfl rfl) ?_
     refine Rg.vT rfl rfl rfl (fun hW => X.load1 Try.underlying31 rfl (ev_g rfl hW) (hs.cell 1 rfl 9 rfl)) ?_
     refine Rg.vT rfl rfl rfl (fun hW => X.fieldB Try.underlying33 rfl zz31 rfl rfl) ?_
     refine Rg.vT rfl rfl rfl (fun hW => X.load1 Try.underlying31 rfl (ev_g rfl hW) (hs.cell 0 rfl 9 rfl)) ?_
     refine Rg.split (c := ((x49 && (G_0.Rate == o_1.Rate)) && (G_0.Type_ == o_1.Type_)) && (G_0.Count == o_1.Count)) (tj := 66) rfl (fun hc57 => ?_) (fun hc57 => ?_)
     ·have hp25 := ite_t hc57 hp25
      refine Rg.weak [(66, .bool true), (68, v7), (70, v15)] ⟨rfl, get_g rfl hc57, get_g rfl hc57, trivial⟩ ?_
      refine Rg.gon rfl rfl rfl ?_
      obtain ⟨x58, hx59, hp25⟩ := bind_s hp25
      refine Rg.step rfl (Oq.call Try.call39 rfl rfl (c39 S54 (St.start _ _ hs.has) _ _ (f8.mono (le38.trans (le47.trans le56))) _ _ (f16.mono (le38.trans (le47.trans le56))) _ hx59) (fun v60 w61 h62 => ?_))
      obtain ⟨S63, rfl, hs64⟩ := h62
      have _ := 0
      have le65 : Le S54 S63 := hs64.le
      have hs := hs.call0 hs64
      refine Rg.vN (X.pickT rfl rfl) rfl ?_
      refine Rg.vN (X.assign rfl) rfl ?_
      refine Rg.nil ?_
      have e := some_s hp25
      subst e
      exact fun a ha => ⟨[(4, .bool x58)], ha.weak ⟨rfl, trivial⟩, S63, rfl, (le38.trans (le47.trans (le56.trans le65))), (hs.pick [] (by decide) rfl)⟩
     ·have hp25 := ite_f hc57 hp25
      refine Rg.weak [(66, .bool false), (68, undef), (70, undef)] ⟨rfl, get_u rfl (not_f hc57), get_u rfl (not_f hc57), trivial⟩ ?_
      refine Rg.vO rfl rfl rfl rfl ?_
      refine Rg.vN (X.pickF rfl rfl) rfl ?_
      refine Rg.vN (X.assign rfl) rfl ?_
      refine Rg.nil ?_
      have e := some_s hp25
      subst e
      exact fun a ha => ⟨[(4, .bool false)], ha.weak ⟨rfl, trivial⟩, S54, rfl, (le38.trans (le47.trans le56)), (hs.pick [] (by decide) rfl)⟩
    ·have hp25 := ite_f hc48 hp25
     refine Rg.weak [(2, .pointer (some ⟨b17, 0, none⟩)), (3, .pointer (some ⟨b20, 0, none⟩)), (38, .bool false), (40, undef), (42, undef)] ⟨rfl, rfl, rfl, get_u rfl (not_f hc48), get_u rfl (not_f hc48), trivial⟩ ?_
     refine Rg.vO rfl rfl rfl rfl ?_
     refine Rg.vN (X.pickF rfl rfl) rfl ?_
     refine Rg.vN (X.move rfl) rfl ?_
     refine Rg.vO rfl rfl rfl rfl ?_
     refine Rg.vO rfl rfl rfl rfl ?_
     refine Rg.vO rfl rfl rfl rfl ?_
     refine Rg.vO rfl rfl rfl rfl ?_
     refine Rg.vO rfl rfl rfl rfl ?_
     refine Rg.vN (X.pickF rfl rfl) rfl ?_
     refine Rg.vN (X.move rfl) rfl ?_
     refine Rg.vO rfl rfl rfl rfl ?_
     refine Rg.vO rfl rfl rfl rfl ?_
     refine Rg.vO rfl rfl rfl rfl ?_
     refine Rg.vO rfl rfl rfl rfl ?_
     refine Rg.vO rfl rfl rfl rfl ?_
     refine Rg.vN (X.pickF rfl rfl) rfl ?_
     refine Rg.vN (X.move rfl) rfl ?_
     refine Rg.vO rfl rfl rfl rfl ?_
     refine Rg.vO rfl rfl rfl rfl ?_
     refine Rg.vO rfl rfl rfl rfl ?_
     refine Rg.vO rfl rfl rfl rfl ?_
     refine Rg.vO rfl rfl rfl rfl ?_
     refine Rg.vN (X.pickF rfl rfl) rfl ?_
     refine Rg.vN (X.move rfl) rfl ?_
     refine Rg.vO rfl rfl rfl rfl ?_
     refine Rg.vO rfl rfl rfl rfl ?_
     refine Rg.vO rfl rfl rfl rfl ?_
     refine Rg.vO rfl rfl rfl rfl ?_
     refine Rg.vO rfl rfl rfl rfl ?_
     refine Rg.vN (X.pickF rfl rfl) rfl ?_
     refine Rg.vN (X.assign rfl) rfl ?_
     refine Rg.nil ?_
     have e := some_s hp25
     subst e
     exact fun a ha => ⟨[(4, .bool false)], ha.weak ⟨rfl, trivial⟩, S45, rfl, (le38.trans le47), (hs.pick [] (by decide) rfl)⟩
   ·have hp25 := ite_f hc39 hp25
    refine Rg.weak [(2, .pointer (some ⟨b17, 0, none⟩)), (3, .pointer (some ⟨b20, 0, none⟩)), (31, .bool false), (33, undef), (35, undef)] ⟨rfl, rfl, rfl, get_u rfl (not_f hc39), get_u rfl (not_f hc39), trivial⟩ ?_
    refine Rg.vO rfl rfl rfl rfl ?_
    refine Rg.vN (X.pickF rfl rfl) rfl ?_
    refine Rg.vN (X.move rfl) rfl ?_
    refine Rg.vO rfl rfl rfl rfl ?_
    refine Rg.vO rfl rfl rfl rfl ?_
    refine Rg.vO rfl rfl rfl rfl ?_
    refine Rg.vO rfl rfl rfl rfl ?_
    refine Rg.vO rfl rfl rfl rfl ?_
    refine Rg.vN (X.pickF rfl rfl) rfl ?_
    refine Rg.vN (X.move rfl) rfl ?_
    refine Rg.vO rfl rfl rfl rfl ?_
    refine Rg.vO rfl rfl rfl rfl ?_
    refine Rg.vO rfl rfl rfl rfl ?_
    refine Rg.vO rfl rfl rfl rfl ?_
    refine Rg.vO rfl rfl rfl rfl ?_
    refine Rg.vN (X.pickF rfl rfl) rfl ?_
    refine Rg.vN (X.move rfl) rfl ?_
    refine Rg.vO rfl rfl rfl rfl ?_
    refine Rg.vO rfl rfl rfl rfl ?_
    refine Rg.vO rfl rfl rfl rfl ?_
    refine Rg.vO rfl rfl rfl rfl ?_
    refine Rg.vO rfl rfl rfl rfl ?_
    refine Rg.vN (X.pickF rfl rfl) rfl ?_
    refine Rg.vN (X.move rfl) rfl ?_
    refine Rg.vO rfl rfl rfl rfl ?_
    refine Rg.vO rfl rfl rfl rfl ?_
    refine Rg.vO rfl rfl rfl rfl ?_
    refine Rg.vO rfl rfl rfl rfl ?_
    refine Rg.vO rfl rfl rfl rfl ?_
    refine Rg.vN (X.pickF rfl rfl) rfl ?_
    refine Rg.vN (X.move rfl) rfl ?_
    refine Rg.weak [(2, .pointer (some ⟨b17, 0, none⟩)), (3, .pointer (some ⟨b20, 0, none⟩)), (66, .bool false)] ⟨rfl, rfl, rfl, trivial⟩ ?_
    refine Rg.vO rfl rfl rfl rfl ?_
    refine Rg.vO rfl rfl rfl rfl ?_
    refine Rg.vO rfl rfl rfl rfl ?_
    refine Rg.vO rfl rfl rfl rfl ?_
    refine Rg.vO rfl rfl rfl rfl ?_
    refine Rg.vN (X.pickF rfl rfl) rfl ?_
    refine Rg.vN (X.assign rfl) rfl ?_
    refine Rg.nil ?_
    have e := some_s hp25
    subst e
    exact fun a ha => ⟨[(4, .bool false)], ha.weak ⟨rfl, trivial⟩, S36, rfl, le38, (hs.pick [] (by decide) rfl)⟩
  ·have hp25 := ite_f hc30 hp25
   refine Rg.weak [(2, .pointer (some ⟨b17, 0, none⟩)), (3, .pointer (some ⟨b20, 0, none⟩)), (24, .bool false), (26, undef), (28, undef)] ⟨rfl, rfl, rfl, get_u rfl (not_f hc30), get_u rfl (not_f hc30), trivial⟩ ?_
   refine Rg.vO rfl rfl rfl rfl ?_
   refine Rg.vN (X.pickF rfl rfl) rfl ?_
   refine Rg.vN (X.move rfl) rfl ?_
   refine Rg.vO rfl rfl rfl rfl ?_
   refine Rg.vO rfl rfl rfl rfl ?_
   refine Rg.vO rfl rfl rfl rfl ?_
   refine Rg.vO rfl rfl rfl rfl ?_
   refine Rg.vO rfl rfl rfl rfl ?_
   refine Rg.vN (X.pickF rfl rfl) rfl ?_
   refine Rg.vN (X.move rfl) rfl ?_
   refine Rg.vO rfl rfl rfl rfl ?_
   refine Rg.vO rfl rfl rfl rfl ?_
   refine Rg.vO rfl rfl rfl rfl ?_
   refine Rg.vO rfl rfl rfl rfl ?_
   refine Rg.vO rfl rfl rfl rfl ?_
   refine Rg.vN (X.pickF rfl rfl) rfl ?_
   refine Rg.vN (X.move rfl) rfl ?_
   refine Rg.vO rfl rfl rfl rfl ?_
   refine Rg.vO rfl rfl rfl rfl ?_
   refine Rg.vO rfl rfl rfl rfl ?_
   refine Rg.vO rfl rfl rfl rfl ?_
   refine Rg.vO rfl rfl rfl rfl ?_
   refine Rg.vN (X.pickF rfl rfl) rfl ?_
   refine Rg.vN (X.move rfl) rfl ?_
   refine Rg.vO rfl rfl rfl rfl ?_
   refine Rg.vO rfl rfl rfl rfl ?_
   refine Rg.vO rfl rfl rfl rfl ?_
   refine Rg.vO rfl rfl rfl rfl ?_
   refine Rg.vO rfl rfl rfl rfl ?_
   refine Rg.vN (X.pickF rfl rfl) rfl ?_
   refine Rg.vN (X.move rfl) rfl ?_
   refine Rg.weak [(2, .pointer (some ⟨b17, 0, none⟩)), (3, .pointer (some ⟨b20, 0, none⟩)), (59, .bool false)] ⟨rfl, rfl, rfl, trivial⟩ ?_
   refine Rg.vO rfl rfl rfl rfl ?_
   refine Rg.vO rfl rfl rfl rfl ?_
   refine Rg.vO rfl rfl rfl rfl ?_
   refine Rg.vO rfl rfl rfl rfl ?_
   refine Rg.vO rfl rfl rfl rfl ?_
   refine Rg.vN (X.pickF rfl rfl) rfl ?_
   refine Rg.vN (X.move rfl) rfl ?_
   refine Rg.vO rfl rfl rfl rfl ?_
   refine Rg.vO rfl rfl rfl rfl ?_
   refine Rg.vO rfl rfl rfl rfl ?_
   refine Rg.vO rfl rfl rfl rfl ?_
   refine Rg.vO rfl rfl rfl rfl ?_
   refine Rg.vN (X.pickF rfl rfl) rfl ?_
   refine Rg.vN (X.assign rfl) rfl ?_
   refine Rg.nil ?_
   have e := some_s hp25
   subst e
   exact fun a ha => ⟨[(4, .bool false)], ha.weak ⟨rfl, trivial⟩, S0, rfl, Le.refl _, (hs.pick [] (by decide) rfl)⟩
noncomputable def rtcp_packed (n_0 : Int) (bits_1 : Int) (behind_2 : Int) (low_3 : Int) : Option Int :=
 (rate_Pack n_0 bits_1).bind fun x1 =>
 gd ((0 : Int) ≤ (add .i64 bits_1 behind_2)) (
  gd ((0 : Int) ≤ behind_2) (
   some (bor .u64 (bor .u64 (shl .u64 (cv .u64 x1.1) (add .i64 bits_1 behind_2)) (shl .u64 (cv .u64 x1.2) behind_2)) low_3)))
def Po58 (S0 : Mp) (w0 : World) (D : List Nat) (r : Int) (v : Value) (w1 : World) : Prop :=
  ∃ (S1 : Mp), v = .int .u64 r ∧ St w0 D S0 S1 [] w1
set_option maxHeartbeats 4000000 in
theorem c58 (S0 : Mp) {w0 : World} (hs : St w0 [] S0 S0 [] w0) (n_0 : Int) (bits_1 : Int) (behind_2 : Int) (low_3 : Int) (r : Int) (h0 : rtcp_packed n_0 bits_1 behind_2 low_3 = some r) :
    Calls Try.prog 58 #[.int .u64 n_0, .int .i64 bits_1, .int .i64 behind_2, .int .u64 low_3] w0 (Re (Po58 S0 w0 [] r)) := by
 unfold rtcp_packed at h0
 refine calls_of_cd Try.func58 rfl Try.ntmps58 rfl ?_
 refine Cd.sr ?_
 refine Rg.vN (X.assign rfl) rfl ?_
 refine Rg.go ?_
 refine Cd.sr ?_
 refine Rg.vN (X.move rfl) rfl ?_
 refine Rg.vN (X.move rfl) rfl ?_
 obtain ⟨x1, hx2, h0⟩ := bind_s h0
 refine Rg.step rfl (Oq.call Try.call70 rfl rfl (c70 S0 (St.start _ _ hs.has) _ _ _ hx2) (fun v3 w4 h5 => ?_))
 obtain ⟨S6, rfl, hs7⟩ := h5
 have _ := 0
 have le8 : Le S0 S6 := hs7.le
 have hs := hs.call0 hs7
 refine Rg.vN (X.move rfl) rfl ?_
 refine Rg.vN (X.extract rfl rfl) rfl ?_
 refine Rg.vN (X.extract rfl rfl) rfl ?_
 refine Rg.vN (X.assign rfl) rfl ?_
 refine Rg.vN (X.assign rfl) rfl ?_
 refine Rg.go ?_
 refine Cd.seq ?_
 refine Cd.rD mixed (fun l w => Has S6 w) hs (fun _ _ _ _ _ h => h) (by kernel_rfl) (fun w9 hs => ⟨hs.has, ?_⟩)
 refine Rk.tN 0 rfl (by kernel_rfl) rfl (fun _ _ => X.move rfl) ?_
 refine Rk.tN 1 rfl (by kernel_rfl) rfl (fun _ _ => X.conv Try.underlying3 Try.underlying30 rfl) ?_
 refine Rk.tN 2 rfl (by kernel_rfl) rfl (fun _ _ => X.move rfl) ?_
 refine Rk.tN 3 rfl (by kernel_rfl) rfl (fun _ _ => X.move rfl) ?_
 refine Rk.tN 4 rfl (by kernel_rfl) rfl (fun _ _ => X.add rfl rfl) ?_
 obtain ⟨hg10, h0⟩ := gd_s h0
 refine Rk.tN 5 rfl (by kernel_rfl) rfl (fun _ _ => X.shl rfl rfl hg10) ?_
 refine Rk.tN 6 rfl (by kernel_rfl) rfl (fun _ _ => X.move rfl) ?_
 refine Rk.tN 7 rfl (by kernel_rfl) rfl (fun _ _ => X.conv Try.underlying27 Try.underlying30 rfl) ?_
 refine Rk.tN 8 rfl (by kernel_rfl) rfl (fun _ _ => X.move rfl) ?_
 refine Rk.weak [(3, .int .u64 low_3), (8, .int .u64 0), (22, .int .u64 (shl .u64 (cv .u64 x1.1) (add .i64 bits_1 behind_2))), (24, .int .u64 (cv .u64 x1.2)), (25, .int .i64 behind_2)] ⟨rfl, rfl, rfl, rfl, rfl, trivial⟩ ?_
 obtain ⟨hg11, h0⟩ := gd_s h0
 refine Rk.tN 9 rfl (by kernel_rfl) rfl (fun _ _ => X.shl rfl rfl hg11) ?_
 refine Rk.tN 10 rfl (by kernel_rfl) rfl (fun _ _ => X.or rfl rfl) ?_
 refine Rk.tN 11 rfl (by kernel_rfl) rfl (fun _ _ => X.move rfl) ?_
 refine Rk.tN 12 rfl (by kernel_rfl) rfl (fun _ _ => X.or rfl rfl) ?_
 refine Rk.tN 13 rfl (by kernel_rfl) rfl (fun _ _ => X.assign rfl) ?_
 refine Rk.done (by kernel_rfl) ?_
 refine Cd.go ?_
 refine Cd.ret ?_
 have e := some_s h0
 subst e
 exact fun a ha => Cd.retA (P := Try.prog) (fn := Try.f58) (R := Re (Po58 S0 w0 [] _)) ha Try.results58 ⟨_, _, rfl, rfl, rfl⟩ ⟨_, rfl, S6, rfl, hs⟩
noncomputable def rtcp_body_l0 (G_0 : api_Report) (q86 : (List Int)) (q87 : Int) : Option (Flow ((List Int) × Int) ((List Int) × Int × Int)) :=
 if (decide (q87 < (G_0.Tuples.length : Int))) = true then (
  ((
   (ix G_0.Tuples q87).bind fun x110 =>
   ((
    (octet_Put q86 (cv .u64 x110.Owner) 4).bind fun x132 =>
    (rtcp_packed x110.Rate 17 9 (cv .u64 x110.Over)).bind fun x143 =>
    (octet_Put x132 x143 4).bind fun x151 =>
    some x151 : Option (List Int))).bind fun p122 =>
   some p122 : Option (List Int))).bind fun p101 =>
  some (Flow.next (p101, add .i64 q87 1)))
 else (
  some (Flow.brk (q86, q87)))
noncomputable def rtcp_body_l1 (G_0 : api_Report) (q189 : (List Int)) (q190 : Int) : Option (Flow ((List Int) × Int) ((List Int) × Int × Int)) :=
 if (decide (q190 < (G_0.Abouts.length : Int))) = true then (
  ((
   (ix G_0.Abouts q190).bind fun x213 =>
   ((
    (ix G_0.Numbers q190).bind fun x231 =>
    (octet_Put q189 (cv .u64 x213) 4).bind fun x238 =>
    (octet_Put x238 (cv .u64 x231) 1).bind fun x249 =>
    (octet_Put x249 0 3).bind fun x260 =>
    some x260 : Option (List Int))).bind fun p221 =>
   some p221 : Option (List Int))).bind fun p204 =>
  some (Flow.next (p204, add .i64 q190 1)))
 else (
  some (Flow.brk (q189, q190)))
noncomputable def rtcp_body_l2 (G_0 : api_Report) (q315 : (List Int)) (q316 : Int) : Option (Flow ((List Int) × Int) ((List Int) × Int × Int)) :=
 if (decide (q316 < (G_0.Abouts.length : Int))) = true then (
  (ix G_0.Abouts q316).bind fun x329 =>
  (octet_Put q315 (cv .u64 x329) 4).bind fun x336 =>
  some (Flow.next (x336, add .i64 q316 1)))
 else (
  some (Flow.brk (q315, q316)))
noncomputable def rtcp_body (G_0 : api_Report) : Option ((List Int) × Int × Int) :=
 (octet_Put ([] : List Int) (cv .u64 G_0.From) 4).bind fun x13 =>
 ((
  if ((G_0.Kind != 3) && (G_0.Kind != 6)) = true then (
   (octet_Put x13 0 4).bind fun x376 =>
   some x376)
  else (
   some x13) : Option (List Int))).bind fun p25 =>
 ((
  ((
   if (G_0.Kind == 1) = true then (
    some (G_0.Kind == 1))
   else (
    some (G_0.Kind == 2)) : Option Bool)).bind fun p67 =>
  if p67 = true then (
   (loopF (fun sg => rtcp_body_l0 G_0 sg.1 sg.2) (p25, 0)).bind fun fl74 =>
   Flow.el fl74 (fun s162 => (
    none))
   (fun s163 => (
    some (Flow.ret (s163.1, 205, sub .i64 (add .i64 3 G_0.Kind) 1))))
   (fun r164 => (
    none)))
  else (
   if (G_0.Kind == 3) = true then (
    (octet_Put p25 (cv .u64 G_0.About) 4).bind fun x166 =>
    some (Flow.ret (x166, 206, 1)))
   else (
    if (G_0.Kind == 4) = true then (
     (loopF (fun sg => rtcp_body_l1 G_0 sg.1 sg.2) (p25, 0)).bind fun fl178 =>
     Flow.el fl178 (fun s271 => (
      none))
     (fun s272 => (
      some (Flow.ret (s272.1, 206, 4))))
     (fun r273 => (
      none)))
    else (
     if (G_0.Kind == 5) = true then (
      ((
       (app 1 p25 [82, 69, 77, 66]).bind fun y351 =>
       (octet_Put y351 (cv .u64 (G_0.Abouts.length : Int)) 1).bind fun x360 =>
       some x360 : Option (List Int))).bind fun p276 =>
      (rtcp_packed G_0.Rate 18 0 0).bind fun x285 =>
      (octet_Put p276 x285 3).bind fun x293 =>
      (loopF (fun sg => rtcp_body_l2 G_0 sg.1 sg.2) (x293, 0)).bind fun fl304 =>
      Flow.el fl304 (fun s347 => (
       none))
      (fun s348 => (
       some (Flow.ret (s348.1, 206, 15))))
      (fun r349 => (
       none)))
     else (
      some (Flow.next ()))))) : Option (Flow Unit ((List Int) × Int × Int)))).bind fun p34 =>
 Flow.el p34 (fun s372 => (
  ((
   (slices_Clone_byte G_0.Body).bind fun x54 =>
   some (x54, G_0.Type_, G_0.Count) : Option ((List Int) × Int × Int))).bind fun p43 =>
  some (p43.1, p43.2.1, p43.2.2)))
 (fun s373 => (
  none))
 (fun r374 => (
  some r374))
def Po41 (S0 : Mp) (w0 : World) (D : List Nat) (r : ((List Int) × Int × Int)) (v : Value) (w1 : World) : Prop :=
  ∃ (S1 : Mp) (v9 : Value), v = .tuple #[v9, .int .i64 r.2.1, .int .i64 r.2.2] ∧ St w0 D S0 S1 [] w1 ∧ Rd S1 1 (RI .u8) v9 r.1
set_option maxHeartbeats 4000000 in
theorem c41 (S0 : Mp) {w0 : World} (hs : St w0 [] S0 S0 [] w0) (G_0 : api_Report) (v1 : Value) (f2 : Rd S0 3 R_api_Tuple v1 G_0.Tuples) (v3 : Value) (f4 : Rd S0 1 (RI .u32) v3 G_0.Abouts) (v5 : Value) (f6 : Rd S0 1 (RI .i64) v5 G_0.Numbers) (v7 : Value) (f8 : Rd S0 1 (RI .u8) v7 G_0.Body) (r : ((List Int) × Int × Int)) (h0 : rtcp_body G_0 = some r) :
    Calls Try.prog 41 #[.agg (#[.int .i64 G_0.Kind, .int .u32 G_0.From, .int .u32 G_0.About, v1, v3, v5, .int .u64 G_0.Rate, .int .i64 G_0.Type_, .int .i64 G_0.Count, v7])] w0 (Re (Po41 S0 w0 [] r)) := by
 unfold rtcp_body at h0
 refine calls_of_cd Try.func41 rfl Try.ntmps41 rfl ?_
 refine Cd.sr ?_
 refine Rg.step rfl (Oq.box (cs := #[.int .i64 G_0.Kind, .int .u32 G_0.From, .int .u32 G_0.About, v1, v3, v5, .int .u64 G_0.Rate, .int .i64 G_0.Type_, .int .i64 G_0.Count, v7]) hs rfl rfl rfl (fun b10 w11 hs => ?_))
 refine Rg.vN (X.assign rfl) rfl ?_
 refine Rg.vN (X.assign rfl) rfl ?_
 refine Rg.vN (X.assign rfl) rfl ?_
 refine Rg.go ?_
 refine Cd.sr ?_
 refine Rg.vN (X.fieldB Try.underlying33 rfl zz27 rfl rfl) rfl ?_
 refine Rg.vN (X.load1 Try.underlying27 rfl rfl (hs.cell 0 rfl 1 rfl)) rfl ?_
 refine Rg.vN (X.conv Try.underlying27 Try.underlying30 rfl) rfl ?_
 obtain ⟨x13, hx14, h0⟩ := bind_s h0
 refine Rg.step rfl (Oq.call Try.call42 rfl rfl (c42 S0 (St.start _ _ hs.has) _ _ (Rd.nil _ _ _) _ _ _ hx14) (fun v15 w16 h17 => ?_))
 obtain ⟨S18, v21, rfl, hs19, f22, fu23⟩ := h17
 have _ := 0
 have le20 : Le S0 S18 := hs19.le
 have hs := hs.call0 hs19
 refine Rg.vN (X.assign rfl) rfl ?_
 refine Rg.go ?_
 refine Cd.seq ?_
 refine Cd.sr ?_
 refine Rg.vN (X.fieldB Try.underlying33 rfl zz3 rfl rfl) rfl ?_
 refine Rg.vN (X.load1 Try.underlying3 rfl rfl (hs.cell 0 rfl 0 rfl)) rfl ?_
 refine Rg.vN (X.neq rfl rfl) rfl ?_
 refine Rg.vN (X.move rfl) rfl ?_
 refine Rg.vT rfl rfl rfl (fun hW => X.fieldB Try.underlying33 rfl zz3 rfl rfl) ?_
 refine Rg.vT rfl rfl rfl (fun hW => X.load1 Try.underlying3 rfl (ev_g rfl hW) (hs.cell 0 rfl 0 rfl)) ?_
 refine Rg.vT rfl rfl rfl (fun hW => X.neq (ev_g rfl hW) rfl) ?_
 refine Rg.vN (X.pickAnd rfl rfl rfl) rfl ?_
 refine Rg.go ?_
 refine Cd.weak [(1, .pointer (some ⟨b10, 0, none⟩)), (2, v15), (22, .bool ((G_0.Kind != 3) && (G_0.Kind != 6)))] ⟨rfl, rfl, rfl, trivial⟩ ?_
 obtain ⟨p25, hp26, h0⟩ := bind_s h0
 refine Cd.post (fun K w => ∃ (S27 : Mp) (v30 : Value), K = [(1, .pointer (some ⟨b10, 0, none⟩)), (2, v30)] ∧ Le S18 S27 ∧ St w0 [] S0 S27 [.box b10 #[.int .i64 G_0.Kind, .int .u32 G_0.From, .int .u32 G_0.About, v1, v3, v5, .int .u64 G_0.Rate, .int .i64 G_0.Type_, .int .i64 G_0.Count, v7] 33] w ∧ Rd S27 1 (RI .u8) v30 p25 ∧ (∃ A, v30 = .slice A p25.length p25.length)) ?_ ?_
 ·rintro K33 w28 ⟨S27, v30, rfl, le29, hs, f31, fu32⟩
  refine Cd.go ?_
  refine Cd.seq ?_
  refine Cd.sr ?_
  refine Rg.vN (X.fieldB Try.underlying33 rfl zz3 rfl rfl) rfl ?_
  refine Rg.vN (X.load1 Try.underlying3 rfl rfl (hs.cell 0 rfl 0 rfl)) rfl ?_
  refine Rg.go ?_
  obtain ⟨p34, hp35, h0⟩ := bind_s h0
  refine Cd.post (fun K w => ∃ (S36 : Mp), K = [(1, .pointer (some ⟨b10, 0, none⟩))] ∧ p34 = Flow.next () ∧ Le S27 S36 ∧ St w0 [] S0 S36 [.box b10 #[.int .i64 G_0.Kind, .int .u32 G_0.From, .int .u32 G_0.About, v1, v3, v5, .int .u64 G_0.Rate, .int .i64 G_0.Type_, .int .i64 G_0.Count, v7] 33] w) ?_ ?_
  ·rintro K39 w37 ⟨S36, rfl, rfl, le38, hs⟩
   have h0 := el_next h0
   try dsimp only at h0
   refine Cd.go ?_
   refine Cd.seq ?_
   obtain ⟨p43, hp44, h0⟩ := bind_s h0
   obtain ⟨j40, j41, j42⟩ := p43
   dsimp only at h0
   refine Cd.post (fun K w => ∃ (S45 : Mp) (v48 : Value) (g50 : Option Nat), K = [(2, v48), (3, .int .i64 j41), (4, .int .i64 j42)] ∧ Le S36 S45 ∧ St w0 [] S0 S45 [.app g50 v48 j40.length 5 1] w ∧ Rd S45 1 (RI .u8) v48 j40) ?_ ?_
   ·rintro K52 w46 ⟨S45, v48, g50, rfl, le47, hs, f49⟩
    refine Cd.go ?_
    refine Cd.ret ?_
    have e := some_s h0
    subst e
    exact fun a ha => Cd.retA (P := Try.prog) (fn := Try.f41) (R := Re (Po41 S0 w0 [] _)) ha Try.results41 ⟨_, _, rfl, rfl, ⟨_, _, rfl, rfl, ⟨_, _, rfl, rfl, rfl⟩⟩⟩ ⟨_, rfl, S45, v48, rfl, (hs.pick [] (by decide) rfl), f49⟩
   ·skip
    refine Cd.rD mixed (fun l w => Has S36 w ∧ Hp b10 #[.int .i64 G_0.Kind, .int .u32 G_0.From, .int .u32 G_0.About, v1, v3, v5, .int .u64 G_0.Rate, .int .i64 G_0.Type_, .int .i64 G_0.Count, v7] 33 w) hs (fun _ _ _ _ _ h => h) (by kernel_rfl) (fun w53 hs => ⟨⟨hs.has, (hs.heap 0 rfl)⟩, ?_⟩)
    refine Rk.tN 0 rfl (by kernel_rfl) rfl (fun _ _ => X.fieldB Try.underlying33 rfl zz31 rfl rfl) ?_
    refine Rk.tN 1 rfl (by kernel_rfl) rfl (fun w hc => X.load1 Try.underlying31 rfl rfl (heap_cell hc.2 rfl)) ?_
    refine Rk.tN 3 rfl (by kernel_rfl) rfl (fun _ _ => X.fieldB Try.underlying33 rfl zz3 rfl rfl) ?_
    refine Rk.tN 4 rfl (by kernel_rfl) rfl (fun w hc => X.load1 Try.underlying3 rfl rfl (heap_cell hc.2 rfl)) ?_
    refine Rk.tN 5 rfl (by kernel_rfl) rfl (fun _ _ => X.fieldB Try.underlying33 rfl zz3 rfl rfl) ?_
    refine Rk.tN 6 rfl (by kernel_rfl) rfl (fun w hc => X.load1 Try.underlying3 rfl rfl (heap_cell hc.2 rfl)) ?_
    obtain ⟨x54, hx55, hp44⟩ := bind_s hp44
    refine Rk.eN 2 rfl (by kernel_rfl) rfl (Oq.call Try.call59 rfl rfl (c59 S36 (St.start _ _ hs.has) _ _ (f8.mono (le20.trans (le29.trans le38))) _ hx55) (fun v56 w57 h58 => ?_))
    obtain ⟨S59, v62, g64, rfl, hs60, f63⟩ := h58
    have _ := 0
    have le61 : Le S36 S59 := hs60.le
    have hs := hs.call0 hs60
    refine ⟨⟨(hs.has.down le61), (hs.heap 1 rfl)⟩, Rk.mk (C' := fun l w => Has S59 w ∧ Hp b10 #[.int .i64 G_0.Kind, .int .u32 G_0.From, .int .u32 G_0.About, v1, v3, v5, .int .u64 G_0.Rate, .int .i64 G_0.Type_, .int .i64 G_0.Count, v7] 33 w) ⟨hs.has, (hs.heap 1 rfl)⟩ (fun l w hc => ⟨hc.1.down le61, hc.2⟩) ?_⟩
    refine Rk.tN 7 rfl (by kernel_rfl) rfl (fun _ _ => X.assign rfl) ?_
    refine Rk.tN 8 rfl (by kernel_rfl) rfl (fun _ _ => X.assign rfl) ?_
    refine Rk.tN 9 rfl (by kernel_rfl) rfl (fun _ _ => X.assign rfl) ?_
    refine Rk.done (by kernel_rfl) ?_
    have e := some_s hp44
    cases e
    exact fun a ha => ⟨[(2, v56), (3, .int .i64 G_0.Type_), (4, .int .i64 G_0.Count)], ha.weak ⟨rfl, rfl, rfl, trivial⟩, S59, v56, g64, rfl, le61, (hs.pick [0] (by decide) rfl), f63⟩
  ·skip
   refine Cd.block ?_
   refine Cd.seq ?_
   refine Cd.sr ?_
   refine Rg.vN (X.eql rfl rfl) rfl ?_
   refine Rg.vN (X.assign rfl) rfl ?_
   refine Rg.go ?_
   obtain ⟨p67, hp68, hp35⟩ := bind_s hp35
   refine Cd.post (fun K w => ∃ (S69 : Mp), K = [(1, .pointer (some ⟨b10, 0, none⟩)), (2, v30), (26, .int .i64 G_0.Kind), (27, .bool p67)] ∧ Le S27 S69 ∧ St w0 [] S0 S69 [.box b10 #[.int .i64 G_0.Kind, .int .u32 G_0.From, .int .u32 G_0.About, v1, v3, v5, .int .u64 G_0.Rate, .int .i64 G_0.Type_, .int .i64 G_0.Count, v7] 33] w) ?_ ?_
   ·rintro K72 w70 ⟨S69, rfl, le71, hs⟩
    refine Cd.go ?_
    refine Cd.cond (t := p67) rfl (fun hc73 => ?_) (fun hc73 => ?_)
    ·have hp35 := ite_t hc73 hp35
     refine Cd.seq ?_
     refine Cd.sr ?_
     refine Rg.vN (X.fieldB Try.underlying33 rfl zz28 rfl rfl) rfl ?_
     refine Rg.vN (X.load1 Try.underlying28 rfl rfl (hs.cell 0 rfl 3 rfl)) rfl ?_
     refine Rg.vN (X.lenR Try.underlying28 rfl (f2.mono (le20.trans (le29.trans le71)))) rfl ?_
     refine Rg.vN (X.move rfl) rfl ?_
     refine Rg.go ?_
     obtain ⟨fl74, hfl75, hp35⟩ := bind_s hp35
     refine Cd.post (fun K w => ∃ (j76 : (List Int)) (j77 : Int) (S78 : Mp) (v80 : Value), K = [(1, .pointer (some ⟨b10, 0, none⟩)), (2, v80)] ∧ fl74 = Flow.brk (j76, j77) ∧ Le S69 S78 ∧ St w0 [] S0 S78 [.box b10 #[.int .i64 G_0.Kind, .int .u32 G_0.From, .int .u32 G_0.About, v1, v3, v5, .int .u64 G_0.Rate, .int .i64 G_0.Type_, .int .i64 G_0.Count, v7] 33] w ∧ Rd S78 1 (RI .u8) v80 j76 ∧ (∃ A, v80 = .slice A j76.length j76.length)) ?_ ?_
     ·rintro K84 w83 ⟨j76, j77, S78, v80, rfl, rfl, le79, hs, f81, fu82⟩
      have hp35 := el_brk hp35
      try dsimp only at hp35
      refine Cd.go ?_
      refine Cd.seq ?_
      refine Cd.rD mixed (fun l w => Has S78 w ∧ Hp b10 #[.int .i64 G_0.Kind, .int .u32 G_0.From, .int .u32 G_0.About, v1, v3, v5, .int .u64 G_0.Rate, .int .i64 G_0.Type_, .int .i64 G_0.Count, v7] 33 w) hs (fun _ _ _ _ _ h => h) (by kernel_rfl) (fun w85 hs => ⟨⟨hs.has, (hs.heap 0 rfl)⟩, ?_⟩)
      refine Rk.tN 0 rfl (by kernel_rfl) rfl (fun _ _ => X.move rfl) ?_
      refine Rk.tN 1 rfl (by kernel_rfl) rfl (fun _ _ => X.fieldB Try.underlying33 rfl zz3 rfl rfl) ?_
      refine Rk.tN 2 rfl (by kernel_rfl) rfl (fun w hc => X.load1 Try.underlying3 rfl rfl (heap_cell hc.2 rfl)) ?_
      refine Rk.tN 3 rfl (by kernel_rfl) rfl (fun _ _ => X.add rfl rfl) ?_
      refine Rk.weak [(2, v80), (50, v80), (53, .int .i64 (add .i64 3 G_0.Kind))] ⟨rfl, rfl, rfl, trivial⟩ ?_
      refine Rk.tN 4 rfl (by kernel_rfl) rfl (fun _ _ => X.sub rfl rfl) ?_
      refine Rk.tN 5 rfl (by kernel_rfl) rfl (fun _ _ => X.assign rfl) ?_
      refine Rk.tN 6 rfl (by kernel_rfl) rfl (fun _ _ => X.assign rfl) ?_
      refine Rk.tN 7 rfl (by kernel_rfl) rfl (fun _ _ => X.assign rfl) ?_
      refine Rk.done (by kernel_rfl) ?_
      refine Cd.go ?_
      refine Cd.ret ?_
      have e := some_s hp35
      subst e
      have h0 := el_ret h0
      have e := some_s h0
      subst e
      exact fun a ha => Cd.retA (P := Try.prog) (fn := Try.f41) (R := Re (Po41 S0 w0 [] _)) ha Try.results41 ⟨_, _, rfl, rfl, ⟨_, _, rfl, rfl, ⟨_, _, rfl, rfl, rfl⟩⟩⟩ ⟨_, rfl, S78, v80, rfl, (hs.pick [] (by decide) rfl), f81⟩
     ·skip
      refine Cd.weak [(1, .pointer (some ⟨b10, 0, none⟩)), (2, v30), (31, v1), (32, .int .i64 (G_0.Tuples.length : Int)), (33, .int .i64 0)] ⟨rfl, rfl, rfl, rfl, rfl, trivial⟩ ?_
      refine Cd.block (Cd.loop (fun sg => rtcp_body_l0 G_0 sg.1 sg.2) (fun (sg : ((List Int) × Int)) K w => ∃ (S88 : Mp) (v90 : Value), K = [(1, .pointer (some ⟨b10, 0, none⟩)), (2, v90), (31, v1), (32, .int .i64 (G_0.Tuples.length : Int)), (33, .int .i64 sg.2)] ∧ Le S69 S88 ∧ St w0 [] S0 S88 [.box b10 #[.int .i64 G_0.Kind, .int .u32 G_0.From, .int .u32 G_0.About, v1, v3, v5, .int .u64 G_0.Rate, .int .i64 G_0.Type_, .int .i64 G_0.Count, v7] 33] w ∧ Rd S88 1 (RI .u8) v90 sg.1 ∧ (∃ A, v90 = .slice A sg.1.length sg.1.length)) (p25, 0) fl74 hfl75 ⟨S69, v30, rfl, Le.refl _, hs, (f31.mono le71), fu32⟩ ?_)
      rintro ⟨q86, q87⟩ fl93 K98 w97 hb94 ⟨S88, v90, rfl, le89, hs, f91, fu92⟩ hl95
      have h96 : rtcp_body_l0 G_0 q86 q87 = some fl93 := hb94
      unfold rtcp_body_l0 at h96
      refine Cd.sr ?_
      refine Rg.vN (X.lss rfl rfl) rfl ?_
      refine Rg.go ?_
      refine Cd.seq ?_
      refine Cd.cond (t := decide (q87 < (G_0.Tuples.length : Int))) rfl (fun hc99 => ?_) (fun hc99 => ?_)
      ·have h96 := ite_t hc99 h96
       refine Cd.sg ?_
       refine Cd.seq ?_
       obtain ⟨p101, hp102, h96⟩ := bind_s h96
       refine Cd.post (fun K w => ∃ (S103 : Mp) (v106 : Value), K = [(1, .pointer (some ⟨b10, 0, none⟩)), (2, v106), (31, v1), (32, .int .i64 (G_0.Tuples.length : Int)), (33, .int .i64 q87)] ∧ Le S88 S103 ∧ St w0 [] S0 S103 [.box b10 #[.int .i64 G_0.Kind, .int .u32 G_0.From, .int .u32 G_0.About, v1, v3, v5, .int .u64 G_0.Rate, .int .i64 G_0.Type_, .int .i64 G_0.Count, v7] 33] w ∧ Rd S103 1 (RI .u8) v106 p101 ∧ (∃ A, v106 = .slice A p101.length p101.length)) ?_ ?_
       ·rintro K109 w104 ⟨S103, v106, rfl, le105, hs, f107, fu108⟩
        refine Cd.go ?_
        refine Cd.region ?_
        refine Rg.vN (X.add rfl rfl) rfl ?_
        refine Rg.vN (X.move rfl) rfl ?_
        refine Rg.nil ?_
        exact fun a ha => ⟨(p101, add .i64 q87 1), [(1, .pointer (some ⟨b10, 0, none⟩)), (2, v106), (31, v1), (32, .int .i64 (G_0.Tuples.length : Int)), (33, .int .i64 (add .i64 q87 1))], (some_s h96).symm, ha.weak ⟨rfl, rfl, rfl, rfl, rfl, trivial⟩, S103, v106, rfl, (le89.trans le105), hs, f107, fu108⟩
       ·skip
        refine Cd.block ?_
        refine Cd.sr ?_
        obtain ⟨x110, hx111, hp102⟩ := bind_s hp102
        obtain ⟨ad112, vals113, _, hR114, hE115, hX116⟩ := mk_index Try.underlying28 zz57 (by decide) (f2.mono (le20.trans (le29.trans (le71.trans le89)))) hx111
        unfold R_api_Tuple at hR114
        subst hR114
        refine Rg.vN (hX116 rfl rfl) rfl ?_
        refine Rg.vN (X.loadE (vals := [.int .u32 x110.Owner, .int .u64 x110.Rate, .int .i64 x110.Over]) hs.has Try.underlying57 rfl zz57 rfl hE115) rfl ?_
        refine Rg.step rfl (Oq.alloc (cs := #[.int .u32 0, .int .u64 0, .int .i64 0]) hs ii57 rfl rfl rfl (fun b117 w118 hs => ?_))
        refine Rg.step rfl (Oq.storeN hs 0 rfl (vals := [.int .u32 x110.Owner, .int .u64 x110.Rate, .int .i64 x110.Over]) zz57 rfl rfl (one_all ⟨rfl, rfl, rfl, trivial⟩) rfl [.box b117 #[.int .u32 x110.Owner, .int .u64 x110.Rate, .int .i64 x110.Over] 57, .box b10 #[.int .i64 G_0.Kind, .int .u32 G_0.From, .int .u32 G_0.About, v1, v3, v5, .int .u64 G_0.Rate, .int .i64 G_0.Type_, .int .i64 G_0.Count, v7] 33] rfl (fun w120 hs => ?_))
        refine Rg.go ?_
        obtain ⟨p122, hp123, hp102⟩ := bind_s hp102
        refine Cd.post (fun K w => ∃ (S124 : Mp) (v127 : Value), K = [(1, .pointer (some ⟨b10, 0, none⟩)), (2, v127), (31, v1), (32, .int .i64 (G_0.Tuples.length : Int)), (33, .int .i64 q87)] ∧ Le S88 S124 ∧ St w0 [] S0 S124 [.box b10 #[.int .i64 G_0.Kind, .int .u32 G_0.From, .int .u32 G_0.About, v1, v3, v5, .int .u64 G_0.Rate, .int .i64 G_0.Type_, .int .i64 G_0.Count, v7] 33] w ∧ Rd S124 1 (RI .u8) v127 p122 ∧ (∃ A, v127 = .slice A p122.length p122.length)) ?_ ?_
        ·rintro K130 w125 ⟨S124, v127, rfl, le126, hs, f128, fu129⟩
         have e := some_s hp102
         subst e
         exact fun a ha => ⟨[(1, .pointer (some ⟨b10, 0, none⟩)), (2, v127), (31, v1), (32, .int .i64 (G_0.Tuples.length : Int)), (33, .int .i64 q87)], ha.weak ⟨rfl, rfl, rfl, rfl, rfl, trivial⟩, S124, v127, rfl, le126, hs, f128, fu129⟩
        ·skip
         refine Cd.rD mixed (fun l w => Has S88 w ∧ Hp b117 #[.int .u32 x110.Owner, .int .u64 x110.Rate, .int .i64 x110.Over] 57 w) hs (fun _ _ _ _ _ h => h) (by kernel_rfl) (fun w131 hs => ⟨⟨hs.has, (hs.heap 0 rfl)⟩, ?_⟩)
         refine Rk.tN 0 rfl (by kernel_rfl) rfl (fun _ _ => X.move rfl) ?_
         refine Rk.tN 1 rfl (by kernel_rfl) rfl (fun _ _ => X.fieldB Try.underlying57 rfl zz27 rfl rfl) ?_
         refine Rk.tN 2 rfl (by kernel_rfl) rfl (fun w hc => X.load1 Try.underlying27 rfl rfl (heap_cell hc.2 rfl)) ?_
         refine Rk.tN 3 rfl (by kernel_rfl) rfl (fun _ _ => X.conv Try.underlying27 Try.underlying30 rfl) ?_
         refine Rk.tN 5 rfl (by kernel_rfl) rfl (fun _ _ => X.fieldB Try.underlying57 rfl zz30 rfl rfl) ?_
         refine Rk.tN 6 rfl (by kernel_rfl) rfl (fun w hc => X.load1 Try.underlying30 rfl rfl (heap_cell hc.2 rfl)) ?_
         refine Rk.tN 7 rfl (by kernel_rfl) rfl (fun _ _ => X.fieldB Try.underlying57 rfl zz3 rfl rfl) ?_
         refine Rk.weak [(1, .pointer (some ⟨b10, 0, none⟩)), (2, v90), (31, v1), (32, .int .i64 (G_0.Tuples.length : Int)), (33, .int .i64 q87), (37, v90), (40, .int .u64 (cv .u64 x110.Owner)), (43, .int .u64 x110.Rate), (44, .pointer (some ⟨b117, 2, none⟩))] ⟨rfl, rfl, rfl, rfl, rfl, rfl, rfl, rfl, rfl, trivial⟩ ?_
         refine Rk.tN 8 rfl (by kernel_rfl) rfl (fun w hc => X.load1 Try.underlying3 rfl rfl (heap_cell hc.2 rfl)) ?_
         refine Rk.tN 9 rfl (by kernel_rfl) rfl (fun _ _ => X.conv Try.underlying3 Try.underlying30 rfl) ?_
         obtain ⟨x132, hx133, hp123⟩ := bind_s hp123
         refine Rk.eN 4 rfl (by kernel_rfl) rfl (Oq.call Try.call42 rfl rfl (c42 S88 (St.start _ _ hs.has) _ _ f91 _ _ _ hx133) (fun v134 w135 h136 => ?_))
         obtain ⟨S137, v140, rfl, hs138, f141, fu142⟩ := h136
         have _ := 0
         have le139 : Le S88 S137 := hs138.le
         have hs := hs.call0 hs138
         refine ⟨⟨(hs.has.down le139), (hs.heap 0 rfl)⟩, Rk.mk (C' := fun l w => Has S137 w ∧ Hp b117 #[.int .u32 x110.Owner, .int .u64 x110.Rate, .int .i64 x110.Over] 57 w) ⟨hs.has, (hs.heap 0 rfl)⟩ (fun l w hc => ⟨hc.1.down le139, hc.2⟩) ?_⟩
         obtain ⟨x143, hx144, hp123⟩ := bind_s hp123
         refine Rk.eN 10 rfl (by kernel_rfl) rfl (Oq.call Try.call58 rfl rfl (c58 S137 (St.start _ _ hs.has) _ _ _ _ _ hx144) (fun v145 w146 h147 => ?_))
         obtain ⟨S148, rfl, hs149⟩ := h147
         have _ := 0
         have le150 : Le S137 S148 := hs149.le
         have hs := hs.call0 hs149
         refine ⟨⟨(hs.has.down le150), (hs.heap 0 rfl)⟩, Rk.mk (C' := fun l w => Has S148 w ∧ Hp b117 #[.int .u32 x110.Owner, .int .u64 x110.Rate, .int .i64 x110.Over] 57 w) ⟨hs.has, (hs.heap 0 rfl)⟩ (fun l w hc => ⟨hc.1.down le150, hc.2⟩) ?_⟩
         obtain ⟨x151, hx152, hp123⟩ := bind_s hp123
         refine Rk.eN 11 rfl (by kernel_rfl) rfl (Oq.call Try.call42 rfl rfl (c42 S148 (St.start _ _ hs.has) _ _ (f141.mono le150) _ _ _ hx152) (fun v153 w154 h155 => ?_))
         obtain ⟨S156, v159, rfl, hs157, f160, fu161⟩ := h155
         have _ := 0
         have le158 : Le S148 S156 := hs157.le
         have hs := hs.call0 hs157
         refine ⟨⟨(hs.has.down le158), (hs.heap 0 rfl)⟩, Rk.mk (C' := fun l w => Has S156 w ∧ Hp b117 #[.int .u32 x110.Owner, .int .u64 x110.Rate, .int .i64 x110.Over] 57 w) ⟨hs.has, (hs.heap 0 rfl)⟩ (fun l w hc => ⟨hc.1.down le158, hc.2⟩) ?_⟩
         refine Rk.tN 12 rfl (by kernel_rfl) rfl (fun _ _ => X.assign rfl) ?_
         refine Rk.done (by kernel_rfl) ?_
         have e := some_s hp123
         subst e
         exact fun a ha => ⟨[(1, .pointer (some ⟨b10, 0, none⟩)), (2, v153), (31, v1), (32, .int .i64 (G_0.Tuples.length : Int)), (33, .int .i64 q87)], ha.weak ⟨rfl, rfl, rfl, rfl, rfl, trivial⟩, S156, v153, rfl, (le139.trans (le150.trans le158)), (hs.pick [1] (by decide) rfl), f160, fu161⟩
      ·have h96 := ite_f hc99 h96
       refine Cd.exit ?_
       have e := some_s h96
       subst e
       have e := hl95 (fun _ e => by cases e)
       exact fun a ha => ⟨[(1, .pointer (some ⟨b10, 0, none⟩)), (2, v90)], ha.weak ⟨rfl, rfl, trivial⟩, _, _, S88, v90, rfl, e.symm, le89, hs, f91, fu92⟩
    ·have hp35 := ite_f hc73 hp35
     refine Cd.sr ?_
     refine Rg.vN (X.eql rfl rfl) rfl ?_
     refine Rg.vN (X.assign rfl) rfl ?_
     refine Rg.go ?_
     refine Cd.cond (t := G_0.Kind == 3) rfl (fun hc165 => ?_) (fun hc165 => ?_)
     ·have hp35 := ite_t hc165 hp35
      refine Cd.sr ?_
      refine Rg.vN (X.move rfl) rfl ?_
      refine Rg.vN (X.fieldB Try.underlying33 rfl zz27 rfl rfl) rfl ?_
      refine Rg.vN (X.load1 Try.underlying27 rfl rfl (hs.cell 0 rfl 2 rfl)) rfl ?_
      refine Rg.vN (X.conv Try.underlying27 Try.underlying30 rfl) rfl ?_
      obtain ⟨x166, hx167, hp35⟩ := bind_s hp35
      refine Rg.step rfl (Oq.call Try.call42 rfl rfl (c42 S69 (St.start _ _ hs.has) _ _ (f31.mono le71) _ _ _ hx167) (fun v168 w169 h170 => ?_))
      obtain ⟨S171, v174, rfl, hs172, f175, fu176⟩ := h170
      have _ := 0
      have le173 : Le S69 S171 := hs172.le
      have hs := hs.call0 hs172
      refine Rg.vN (X.assign rfl) rfl ?_
      refine Rg.vN (X.assign rfl) rfl ?_
      refine Rg.vN (X.assign rfl) rfl ?_
      refine Rg.go ?_
      refine Cd.weak [(2, v168), (3, .int .i64 206), (4, .int .i64 1)] ⟨rfl, rfl, rfl, trivial⟩ ?_
      refine Cd.ret ?_
      have e := some_s hp35
      subst e
      have h0 := el_ret h0
      have e := some_s h0
      subst e
      exact fun a ha => Cd.retA (P := Try.prog) (fn := Try.f41) (R := Re (Po41 S0 w0 [] _)) ha Try.results41 ⟨_, _, rfl, rfl, ⟨_, _, rfl, rfl, ⟨_, _, rfl, rfl, rfl⟩⟩⟩ ⟨_, rfl, S171, v168, rfl, (hs.pick [] (by decide) rfl), f175⟩
     ·have hp35 := ite_f hc165 hp35
      refine Cd.sr ?_
      refine Rg.vN (X.eql rfl rfl) rfl ?_
      refine Rg.vN (X.assign rfl) rfl ?_
      refine Rg.go ?_
      refine Cd.cond (t := G_0.Kind == 4) rfl (fun hc177 => ?_) (fun hc177 => ?_)
      ·have hp35 := ite_t hc177 hp35
       refine Cd.seq ?_
       refine Cd.sr ?_
       refine Rg.vN (X.fieldB Try.underlying33 rfl zz29 rfl rfl) rfl ?_
       refine Rg.vN (X.load1 Try.underlying29 rfl rfl (hs.cell 0 rfl 4 rfl)) rfl ?_
       refine Rg.vN (X.lenR Try.underlying29 rfl (f4.mono (le20.trans (le29.trans le71)))) rfl ?_
       refine Rg.vN (X.move rfl) rfl ?_
       refine Rg.go ?_
       refine Cd.weak [(1, .pointer (some ⟨b10, 0, none⟩)), (2, v30), (65, v3), (66, .int .i64 (G_0.Abouts.length : Int)), (67, .int .i64 0)] ⟨rfl, rfl, rfl, rfl, rfl, trivial⟩ ?_
       obtain ⟨fl178, hfl179, hp35⟩ := bind_s hp35
       refine Cd.post (fun K w => ∃ (j180 : (List Int)) (j181 : Int) (S182 : Mp) (v184 : Value), K = [(2, v184)] ∧ fl178 = Flow.brk (j180, j181) ∧ Le S69 S182 ∧ St w0 [] S0 S182 [] w ∧ Rd S182 1 (RI .u8) v184 j180 ∧ (∃ A, v184 = .slice A j180.length j180.length)) ?_ ?_
       ·rintro K188 w187 ⟨j180, j181, S182, v184, rfl, rfl, le183, hs, f185, fu186⟩
        have hp35 := el_brk hp35
        try dsimp only at hp35
        refine Cd.go ?_
        refine Cd.sr ?_
        refine Rg.vN (X.move rfl) rfl ?_
        refine Rg.vN (X.assign rfl) rfl ?_
        refine Rg.vN (X.assign rfl) rfl ?_
        refine Rg.vN (X.assign rfl) rfl ?_
        refine Rg.go ?_
        refine Cd.ret ?_
        have e := some_s hp35
        subst e
        have h0 := el_ret h0
        have e := some_s h0
        subst e
        exact fun a ha => Cd.retA (P := Try.prog) (fn := Try.f41) (R := Re (Po41 S0 w0 [] _)) ha Try.results41 ⟨_, _, rfl, rfl, ⟨_, _, rfl, rfl, ⟨_, _, rfl, rfl, rfl⟩⟩⟩ ⟨_, rfl, S182, v184, rfl, hs, f185⟩
       ·skip
        refine Cd.weak [(1, .pointer (some ⟨b10, 0, none⟩)), (2, v30), (65, v3), (66, .int .i64 (G_0.Abouts.length : Int)), (67, .int .i64 0)] ⟨rfl, rfl, rfl, rfl, rfl, trivial⟩ ?_
        refine Cd.block (Cd.loop (fun sg => rtcp_body_l1 G_0 sg.1 sg.2) (fun (sg : ((List Int) × Int)) K w => ∃ (S191 : Mp) (v193 : Value), K = [(1, .pointer (some ⟨b10, 0, none⟩)), (2, v193), (65, v3), (66, .int .i64 (G_0.Abouts.length : Int)), (67, .int .i64 sg.2)] ∧ Le S69 S191 ∧ St w0 [] S0 S191 [.box b10 #[.int .i64 G_0.Kind, .int .u32 G_0.From, .int .u32 G_0.About, v1, v3, v5, .int .u64 G_0.Rate, .int .i64 G_0.Type_, .int .i64 G_0.Count, v7] 33] w ∧ Rd S191 1 (RI .u8) v193 sg.1 ∧ (∃ A, v193 = .slice A sg.1.length sg.1.length)) (p25, 0) fl178 hfl179 ⟨S69, v30, rfl, Le.refl _, hs, (f31.mono le71), fu32⟩ ?_)
        rintro ⟨q189, q190⟩ fl196 K201 w200 hb197 ⟨S191, v193, rfl, le192, hs, f194, fu195⟩ hl198
        have h199 : rtcp_body_l1 G_0 q189 q190 = some fl196 := hb197
        unfold rtcp_body_l1 at h199
        refine Cd.sr ?_
        refine Rg.vN (X.lss rfl rfl) rfl ?_
        refine Rg.go ?_
        refine Cd.seq ?_
        refine Cd.cond (t := decide (q190 < (G_0.Abouts.length : Int))) rfl (fun hc202 => ?_) (fun hc202 => ?_)
        ·have h199 := ite_t hc202 h199
         refine Cd.sg ?_
         refine Cd.seq ?_
         obtain ⟨p204, hp205, h199⟩ := bind_s h199
         refine Cd.post (fun K w => ∃ (S206 : Mp) (v209 : Value), K = [(1, .pointer (some ⟨b10, 0, none⟩)), (2, v209), (65, v3), (66, .int .i64 (G_0.Abouts.length : Int)), (67, .int .i64 q190)] ∧ Le S191 S206 ∧ St w0 [] S0 S206 [.box b10 #[.int .i64 G_0.Kind, .int .u32 G_0.From, .int .u32 G_0.About, v1, v3, v5, .int .u64 G_0.Rate, .int .i64 G_0.Type_, .int .i64 G_0.Count, v7] 33] w ∧ Rd S206 1 (RI .u8) v209 p204 ∧ (∃ A, v209 = .slice A p204.length p204.length)) ?_ ?_
         ·rintro K212 w207 ⟨S206, v209, rfl, le208, hs, f210, fu211⟩
          refine Cd.go ?_
          refine Cd.region ?_
          refine Rg.vN (X.add rfl rfl) rfl ?_
          refine Rg.vN (X.move rfl) rfl ?_
          refine Rg.nil ?_
          exact fun a ha => ⟨(p204, add .i64 q190 1), [(1, .pointer (some ⟨b10, 0, none⟩)), (2, v209), (65, v3), (66, .int .i64 (G_0.Abouts.length : Int)), (67, .int .i64 (add .i64 q190 1))], (some_s h199).symm, ha.weak ⟨rfl, rfl, rfl, rfl, rfl, trivial⟩, S206, v209, rfl, (le192.trans le208), hs, f210, fu211⟩
         ·skip
          refine Cd.block ?_
          refine Cd.sr ?_
          refine Rg.vN (X.move rfl) rfl ?_
          obtain ⟨x213, hx214, hp205⟩ := bind_s hp205
          obtain ⟨ad215, vals216, _, hR217, hE218, hX219⟩ := mk_index Try.underlying29 zz27 (by decide) (f4.mono (le20.trans (le29.trans (le71.trans le192)))) hx214
          obtain rfl : vals216 = [.int .u32 x213] := hR217
          refine Rg.vN (hX219 rfl rfl) rfl ?_
          refine Rg.vN (X.load1 Try.underlying27 rfl rfl (hE218.at0 rfl hs.has)) rfl ?_
          refine Rg.vN (X.assign rfl) rfl ?_
          refine Rg.vN (X.assign rfl) rfl ?_
          refine Rg.go ?_
          obtain ⟨p221, hp222, hp205⟩ := bind_s hp205
          refine Cd.post (fun K w => ∃ (S223 : Mp) (v226 : Value), K = [(1, .pointer (some ⟨b10, 0, none⟩)), (2, v226), (65, v3), (66, .int .i64 (G_0.Abouts.length : Int)), (67, .int .i64 q190)] ∧ Le S191 S223 ∧ St w0 [] S0 S223 [.box b10 #[.int .i64 G_0.Kind, .int .u32 G_0.From, .int .u32 G_0.About, v1, v3, v5, .int .u64 G_0.Rate, .int .i64 G_0.Type_, .int .i64 G_0.Count, v7] 33] w ∧ Rd S223 1 (RI .u8) v226 p221 ∧ (∃ A, v226 = .slice A p221.length p221.length)) ?_ ?_
          ·rintro K229 w224 ⟨S223, v226, rfl, le225, hs, f227, fu228⟩
           have e := some_s hp205
           subst e
           exact fun a ha => ⟨[(1, .pointer (some ⟨b10, 0, none⟩)), (2, v226), (65, v3), (66, .int .i64 (G_0.Abouts.length : Int)), (67, .int .i64 q190)], ha.weak ⟨rfl, rfl, rfl, rfl, rfl, trivial⟩, S223, v226, rfl, le225, hs, f227, fu228⟩
          ·skip
           refine Cd.rD mixed (fun l w => Has S191 w ∧ Hp b10 #[.int .i64 G_0.Kind, .int .u32 G_0.From, .int .u32 G_0.About, v1, v3, v5, .int .u64 G_0.Rate, .int .i64 G_0.Type_, .int .i64 G_0.Count, v7] 33 w) hs (fun _ _ _ _ _ h => h) (by kernel_rfl) (fun w230 hs => ⟨⟨hs.has, (hs.heap 0 rfl)⟩, ?_⟩)
           refine Rk.tN 0 rfl (by kernel_rfl) rfl (fun _ _ => X.move rfl) ?_
           refine Rk.tN 1 rfl (by kernel_rfl) rfl (fun _ _ => X.move rfl) ?_
           refine Rk.tN 2 rfl (by kernel_rfl) rfl (fun _ _ => X.conv Try.underlying27 Try.underlying30 rfl) ?_
           refine Rk.tN 4 rfl (by kernel_rfl) rfl (fun _ _ => X.fieldB Try.underlying33 rfl zz23 rfl rfl) ?_
           refine Rk.tN 5 rfl (by kernel_rfl) rfl (fun w hc => X.load1 Try.underlying23 rfl rfl (heap_cell hc.2 rfl)) ?_
           refine Rk.tN 6 rfl (by kernel_rfl) rfl (fun _ _ => X.move rfl) ?_
           obtain ⟨x231, hx232, hp222⟩ := bind_s hp222
           obtain ⟨ad233, vals234, _, hR235, hE236, hX237⟩ := mk_index Try.underlying23 zz3 (by decide) (f6.mono (le20.trans (le29.trans (le71.trans le192)))) hx232
           obtain rfl : vals234 = [.int .i64 x231] := hR235
           refine Rk.tN 7 rfl (by kernel_rfl) rfl (fun _ _ => hX237 rfl rfl) ?_
           refine Rk.tN 8 rfl (by kernel_rfl) rfl (fun w hc => X.load1 Try.underlying3 rfl rfl (hE236.at0 rfl hc.1)) ?_
           refine Rk.weak [(1, .pointer (some ⟨b10, 0, none⟩)), (2, v193), (65, v3), (66, .int .i64 (G_0.Abouts.length : Int)), (67, .int .i64 q190), (72, v193), (74, .int .u64 (cv .u64 x213)), (80, .int .i64 x231)] ⟨rfl, rfl, rfl, rfl, rfl, rfl, rfl, rfl, trivial⟩ ?_
           refine Rk.tN 9 rfl (by kernel_rfl) rfl (fun _ _ => X.conv Try.underlying3 Try.underlying30 rfl) ?_
           obtain ⟨x238, hx239, hp222⟩ := bind_s hp222
           refine Rk.eN 3 rfl (by kernel_rfl) rfl (Oq.call Try.call42 rfl rfl (c42 S191 (St.start _ _ hs.has) _ _ f194 _ _ _ hx239) (fun v240 w241 h242 => ?_))
           obtain ⟨S243, v246, rfl, hs244, f247, fu248⟩ := h242
           have _ := 0
           have le245 : Le S191 S243 := hs244.le
           have hs := hs.call0 hs244
           refine ⟨⟨(hs.has.down le245), (hs.heap 0 rfl)⟩, Rk.mk (C' := fun l w => Has S243 w ∧ Hp b10 #[.int .i64 G_0.Kind, .int .u32 G_0.From, .int .u32 G_0.About, v1, v3, v5, .int .u64 G_0.Rate, .int .i64 G_0.Type_, .int .i64 G_0.Count, v7] 33 w) ⟨hs.has, (hs.heap 0 rfl)⟩ (fun l w hc => ⟨hc.1.down le245, hc.2⟩) ?_⟩
           obtain ⟨x249, hx250, hp222⟩ := bind_s hp222
           refine Rk.eN 10 rfl (by kernel_rfl) rfl (Oq.call Try.call42 rfl rfl (c42 S243 (St.start _ _ hs.has) _ _ f247 _ _ _ hx250) (fun v251 w252 h253 => ?_))
           obtain ⟨S254, v257, rfl, hs255, f258, fu259⟩ := h253
           have _ := 0
           have le256 : Le S243 S254 := hs255.le
           have hs := hs.call0 hs255
           refine ⟨⟨(hs.has.down le256), (hs.heap 0 rfl)⟩, Rk.mk (C' := fun l w => Has S254 w ∧ Hp b10 #[.int .i64 G_0.Kind, .int .u32 G_0.From, .int .u32 G_0.About, v1, v3, v5, .int .u64 G_0.Rate, .int .i64 G_0.Type_, .int .i64 G_0.Count, v7] 33 w) ⟨hs.has, (hs.heap 0 rfl)⟩ (fun l w hc => ⟨hc.1.down le256, hc.2⟩) ?_⟩
           obtain ⟨x260, hx261, hp222⟩ := bind_s hp222
           refine Rk.eN 11 rfl (by kernel_rfl) rfl (Oq.call Try.call42 rfl rfl (c42 S254 (St.start _ _ hs.has) _ _ f258 _ _ _ hx261) (fun v262 w263 h264 => ?_))
           obtain ⟨S265, v268, rfl, hs266, f269, fu270⟩ := h264
           have _ := 0
           have le267 : Le S254 S265 := hs266.le
           have hs := hs.call0 hs266
           refine ⟨⟨(hs.has.down le267), (hs.heap 0 rfl)⟩, Rk.mk (C' := fun l w => Has S265 w ∧ Hp b10 #[.int .i64 G_0.Kind, .int .u32 G_0.From, .int .u32 G_0.About, v1, v3, v5, .int .u64 G_0.Rate, .int .i64 G_0.Type_, .int .i64 G_0.Count, v7] 33 w) ⟨hs.has, (hs.heap 0 rfl)⟩ (fun l w hc => ⟨hc.1.down le267, hc.2⟩) ?_⟩
           refine Rk.tN 12 rfl (by kernel_rfl) rfl (fun _ _ => X.assign rfl) ?_
           refine Rk.done (by kernel_rfl) ?_
           have e := some_s hp222
           subst e
           exact fun a ha => ⟨[(1, .pointer (some ⟨b10, 0, none⟩)), (2, v262), (65, v3), (66, .int .i64 (G_0.Abouts.length : Int)), (67, .int .i64 q190)], ha.weak ⟨rfl, rfl, rfl, rfl, rfl, trivial⟩, S265, v262, rfl, (le245.trans (le256.trans le267)), hs, f269, fu270⟩
        ·have h199 := ite_f hc202 h199
         refine Cd.exit ?_
         have e := some_s h199
         subst e
         have e := hl198 (fun _ e => by cases e)
         exact fun a ha => ⟨[(2, v193)], ha.weak ⟨rfl, trivial⟩, _, _, S191, v193, rfl, e.symm, le192, (hs.pick [] (by decide) rfl), f194, fu195⟩
      ·have hp35 := ite_f hc177 hp35
       refine Cd.sr ?_
       refine Rg.vN (X.eql rfl rfl) rfl ?_
       refine Rg.vN (X.assign rfl) rfl ?_
       refine Rg.go ?_
       refine Cd.cond (t := G_0.Kind == 5) rfl (fun hc274 => ?_) (fun hc274 => ?_)
       ·have hp35 := ite_t hc274 hp35
        refine Cd.seq ?_
        obtain ⟨p276, hp277, hp35⟩ := bind_s hp35
        refine Cd.post (fun K w => ∃ (S278 : Mp) (v281 : Value), K = [(1, .pointer (some ⟨b10, 0, none⟩)), (2, v281)] ∧ Le S69 S278 ∧ St w0 [] S0 S278 [.box b10 #[.int .i64 G_0.Kind, .int .u32 G_0.From, .int .u32 G_0.About, v1, v3, v5, .int .u64 G_0.Rate, .int .i64 G_0.Type_, .int .i64 G_0.Count, v7] 33] w ∧ Rd S278 1 (RI .u8) v281 p276 ∧ (∃ A, v281 = .slice A p276.length p276.length)) ?_ ?_
        ·rintro K284 w279 ⟨S278, v281, rfl, le280, hs, f282, fu283⟩
         refine Cd.go ?_
         refine Cd.sr ?_
         refine Rg.vN (X.move rfl) rfl ?_
         refine Rg.vN (X.fieldB Try.underlying33 rfl zz30 rfl rfl) rfl ?_
         refine Rg.weak [(1, .pointer (some ⟨b10, 0, none⟩)), (95, v281), (96, .pointer (some ⟨b10, 6, none⟩))] ⟨rfl, rfl, rfl, trivial⟩ ?_
         refine Rg.vN (X.load1 Try.underlying30 rfl rfl (hs.cell 0 rfl 6 rfl)) rfl ?_
         obtain ⟨x285, hx286, hp35⟩ := bind_s hp35
         refine Rg.step rfl (Oq.call Try.call58 rfl rfl (c58 S278 (St.start _ _ hs.has) _ _ _ _ _ hx286) (fun v287 w288 h289 => ?_))
         obtain ⟨S290, rfl, hs291⟩ := h289
         have _ := 0
         have le292 : Le S278 S290 := hs291.le
         have hs := hs.call0 hs291
         obtain ⟨x293, hx294, hp35⟩ := bind_s hp35
         refine Rg.step rfl (Oq.call Try.call42 rfl rfl (c42 S290 (St.start _ _ hs.has) _ _ (f282.mono le292) _ _ _ hx294) (fun v295 w296 h297 => ?_))
         obtain ⟨S298, v301, rfl, hs299, f302, fu303⟩ := h297
         have _ := 0
         have le300 : Le S290 S298 := hs299.le
         have hs := hs.call0 hs299
         refine Rg.vN (X.assign rfl) rfl ?_
         refine Rg.go ?_
         refine Cd.seq ?_
         refine Cd.sr ?_
         refine Rg.vN (X.fieldB Try.underlying33 rfl zz29 rfl rfl) rfl ?_
         refine Rg.vN (X.load1 Try.underlying29 rfl rfl (hs.cell 0 rfl 4 rfl)) rfl ?_
         refine Rg.vN (X.lenR Try.underlying29 rfl (f4.mono (le20.trans (le29.trans (le71.trans (le280.trans (le292.trans le300))))))) rfl ?_
         refine Rg.vN (X.move rfl) rfl ?_
         refine Rg.go ?_
         obtain ⟨fl304, hfl305, hp35⟩ := bind_s hp35
         refine Cd.post (fun K w => ∃ (j306 : (List Int)) (j307 : Int) (S308 : Mp) (v310 : Value), K = [(2, v310)] ∧ fl304 = Flow.brk (j306, j307) ∧ Le S298 S308 ∧ St w0 [] S0 S308 [] w ∧ Rd S308 1 (RI .u8) v310 j306 ∧ (∃ A, v310 = .slice A j306.length j306.length)) ?_ ?_
         ·rintro K314 w313 ⟨j306, j307, S308, v310, rfl, rfl, le309, hs, f311, fu312⟩
          have hp35 := el_brk hp35
          try dsimp only at hp35
          refine Cd.go ?_
          refine Cd.sr ?_
          refine Rg.vN (X.move rfl) rfl ?_
          refine Rg.vN (X.assign rfl) rfl ?_
          refine Rg.vN (X.assign rfl) rfl ?_
          refine Rg.vN (X.assign rfl) rfl ?_
          refine Rg.go ?_
          refine Cd.ret ?_
          have e := some_s hp35
          subst e
          have h0 := el_ret h0
          have e := some_s h0
          subst e
          exact fun a ha => Cd.retA (P := Try.prog) (fn := Try.f41) (R := Re (Po41 S0 w0 [] _)) ha Try.results41 ⟨_, _, rfl, rfl, ⟨_, _, rfl, rfl, ⟨_, _, rfl, rfl, rfl⟩⟩⟩ ⟨_, rfl, S308, v310, rfl, hs, f311⟩
         ·skip
          refine Cd.weak [(2, v295), (101, v3), (102, .int .i64 (G_0.Abouts.length : Int)), (103, .int .i64 0)] ⟨rfl, rfl, rfl, rfl, trivial⟩ ?_
          refine Cd.block (Cd.loop (fun sg => rtcp_body_l2 G_0 sg.1 sg.2) (fun (sg : ((List Int) × Int)) K w => ∃ (S317 : Mp) (v319 : Value), K = [(2, v319), (101, v3), (102, .int .i64 (G_0.Abouts.length : Int)), (103, .int .i64 sg.2)] ∧ Le S298 S317 ∧ St w0 [] S0 S317 [] w ∧ Rd S317 1 (RI .u8) v319 sg.1 ∧ (∃ A, v319 = .slice A sg.1.length sg.1.length)) (x293, 0) fl304 hfl305 ⟨S298, v295, rfl, Le.refl _, (hs.pick [] (by decide) rfl), f302, fu303⟩ ?_)
          rintro ⟨q315, q316⟩ fl322 K327 w326 hb323 ⟨S317, v319, rfl, le318, hs, f320, fu321⟩ hl324
          have h325 : rtcp_body_l2 G_0 q315 q316 = some fl322 := hb323
          unfold rtcp_body_l2 at h325
          refine Cd.sr ?_
          refine Rg.vN (X.lss rfl rfl) rfl ?_
          refine Rg.go ?_
          refine Cd.seq ?_
          refine Cd.cond (t := decide (q316 < (G_0.Abouts.length : Int))) rfl (fun hc328 => ?_) (fun hc328 => ?_)
          ·have h325 := ite_t hc328 h325
           refine Cd.sg ?_
           refine Cd.seq ?_
           refine Cd.block ?_
           refine Cd.sr ?_
           obtain ⟨x329, hx330, h325⟩ := bind_s h325
           obtain ⟨ad331, vals332, _, hR333, hE334, hX335⟩ := mk_index Try.underlying29 zz27 (by decide) (f4.mono (le20.trans (le29.trans (le71.trans (le280.trans (le292.trans (le300.trans le318))))))) hx330
           obtain rfl : vals332 = [.int .u32 x329] := hR333
           refine Rg.vN (hX335 rfl rfl) rfl ?_
           refine Rg.vN (X.load1 Try.underlying27 rfl rfl (hE334.at0 rfl hs.has)) rfl ?_
           refine Rg.vN (X.assign rfl) rfl ?_
           refine Rg.go ?_
           refine Cd.region ?_
           refine Rg.vN (X.move rfl) rfl ?_
           refine Rg.vN (X.move rfl) rfl ?_
           refine Rg.weak [(101, v3), (102, .int .i64 (G_0.Abouts.length : Int)), (103, .int .i64 q316), (107, v319), (108, .int .u32 x329)] ⟨rfl, rfl, rfl, rfl, rfl, trivial⟩ ?_
           refine Rg.vN (X.conv Try.underlying27 Try.underlying30 rfl) rfl ?_
           obtain ⟨x336, hx337, h325⟩ := bind_s h325
           refine Rg.step rfl (Oq.call Try.call42 rfl rfl (c42 S317 (St.start _ _ hs.has) _ _ f320 _ _ _ hx337) (fun v338 w339 h340 => ?_))
           obtain ⟨S341, v344, rfl, hs342, f345, fu346⟩ := h340
           have _ := 0
           have le343 : Le S317 S341 := hs342.le
           have hs := hs.call0 hs342
           refine Rg.vN (X.assign rfl) rfl ?_
           refine Rg.nil ?_
           refine Cd.go ?_
           refine Cd.region ?_
           refine Rg.vN (X.add rfl rfl) rfl ?_
           refine Rg.vN (X.move rfl) rfl ?_
           refine Rg.nil ?_
           exact fun a ha => ⟨(x336, add .i64 q316 1), [(2, v338), (101, v3), (102, .int .i64 (G_0.Abouts.length : Int)), (103, .int .i64 (add .i64 q316 1))], (some_s h325).symm, ha.weak ⟨rfl, rfl, rfl, rfl, trivial⟩, S341, v338, rfl, (le318.trans le343), hs, f345, fu346⟩
          ·have h325 := ite_f hc328 h325
           refine Cd.exit ?_
           have e := some_s h325
           subst e
           have e := hl324 (fun _ e => by cases e)
           exact fun a ha => ⟨[(2, v319)], ha.weak ⟨rfl, trivial⟩, _, _, S317, v319, rfl, e.symm, le318, hs, f320, fu321⟩
        ·skip
         refine Cd.rD mixed (fun l w => Has S69 w ∧ Hp b10 #[.int .i64 G_0.Kind, .int .u32 G_0.From, .int .u32 G_0.About, v1, v3, v5, .int .u64 G_0.Rate, .int .i64 G_0.Type_, .int .i64 G_0.Count, v7] 33 w) hs (fun _ _ _ _ _ h => h) (by kernel_rfl) (fun w350 hs => ⟨⟨hs.has, (hs.heap 0 rfl)⟩, ?_⟩)
         refine Rk.tN 0 rfl (by kernel_rfl) rfl (fun _ _ => X.move rfl) ?_
         refine Rk.tN 2 rfl (by kernel_rfl) rfl (fun _ _ => X.fieldB Try.underlying33 rfl zz29 rfl rfl) ?_
         refine Rk.tN 3 rfl (by kernel_rfl) rfl (fun w hc => X.load1 Try.underlying29 rfl rfl (heap_cell hc.2 rfl)) ?_
         refine Rk.weak [(1, .pointer (some ⟨b10, 0, none⟩)), (2, v30), (88, v30), (91, v3)] ⟨rfl, rfl, rfl, rfl, trivial⟩ ?_
         refine Rk.tN 4 rfl (by kernel_rfl) rfl (fun _ _ => X.lenR Try.underlying29 rfl (f4.mono (le20.trans (le29.trans le71)))) ?_
         refine Rk.tN 5 rfl (by kernel_rfl) rfl (fun _ _ => X.conv Try.underlying3 Try.underlying30 rfl) ?_
         obtain ⟨y351, hx352, hp277⟩ := bind_s hp277
         refine Rk.eN 1 rfl (by kernel_rfl) rfl (Oq.appendStrF hs Try.underlying31 Try.underlying9 ii5 rfl rfl rfl (f31.mono le71) fu32 (bs := [82, 69, 77, 66]) rfl rfl hx352 rfl rfl rfl (fun v353 w354 S355 g356 hs le357 f358 => ?_))
         refine ⟨⟨(hs.has.down le357), (hs.heap 1 rfl)⟩, Rk.mk (C' := fun l w => Has S355 w ∧ Hp b10 #[.int .i64 G_0.Kind, .int .u32 G_0.From, .int .u32 G_0.About, v1, v3, v5, .int .u64 G_0.Rate, .int .i64 G_0.Type_, .int .i64 G_0.Count, v7] 33 w) ⟨hs.has, (hs.heap 1 rfl)⟩ (fun l w hc => ⟨hc.1.down le357, hc.2⟩) ?_⟩
         obtain ⟨x360, hx361, hp277⟩ := bind_s hp277
         refine Rk.eN 6 rfl (by kernel_rfl) rfl (Oq.call Try.call42 rfl rfl (c42 S355 (St.start _ _ hs.has) _ _ f358 _ _ _ hx361) (fun v362 w363 h364 => ?_))
         obtain ⟨S365, v368, rfl, hs366, f369, fu370⟩ := h364
         have _ := 0
         have le367 : Le S355 S365 := hs366.le
         have hs := hs.call0 hs366
         refine ⟨⟨(hs.has.down le367), (hs.heap 1 rfl)⟩, Rk.mk (C' := fun l w => Has S365 w ∧ Hp b10 #[.int .i64 G_0.Kind, .int .u32 G_0.From, .int .u32 G_0.About, v1, v3, v5, .int .u64 G_0.Rate, .int .i64 G_0.Type_, .int .i64 G_0.Count, v7] 33 w) ⟨hs.has, (hs.heap 1 rfl)⟩ (fun l w hc => ⟨hc.1.down le367, hc.2⟩) ?_⟩
         refine Rk.tN 7 rfl (by kernel_rfl) rfl (fun _ _ => X.assign rfl) ?_
         refine Rk.done (by kernel_rfl) ?_
         have e := some_s hp277
         subst e
         exact fun a ha => ⟨[(1, .pointer (some ⟨b10, 0, none⟩)), (2, v362)], ha.weak ⟨rfl, rfl, trivial⟩, S365, v362, rfl, (le357.trans le367), (hs.pick [1] (by decide) rfl), f369, fu370⟩
       ·have hp35 := ite_f hc274 hp35
        refine Cd.skip ?_
        have e := some_s hp35
        subst e
        exact fun a ha => ⟨[(1, .pointer (some ⟨b10, 0, none⟩))], ha.weak ⟨rfl, trivial⟩, S69, rfl, rfl, le71, hs⟩
   ·skip
    refine Cd.cond (t := G_0.Kind == 1) rfl (fun hc371 => ?_) (fun hc371 => ?_)
    ·have hp68 := ite_t hc371 hp68
     refine Cd.skip ?_
     have e := some_s hp68
     subst e
     exact fun a ha => ⟨[(1, .pointer (some ⟨b10, 0, none⟩)), (2, v30), (26, .int .i64 G_0.Kind), (27, .bool (G_0.Kind == 1))], ha.weak ⟨rfl, rfl, rfl, rfl, trivial⟩, S27, rfl, Le.refl _, hs⟩
    ·have hp68 := ite_f hc371 hp68
     refine Cd.region ?_
     refine Rg.vN (X.eql rfl rfl) rfl ?_
     refine Rg.vN (X.assign rfl) rfl ?_
     refine Rg.nil ?_
     have e := some_s hp68
     subst e
     exact fun a ha => ⟨[(1, .pointer (some ⟨b10, 0, none⟩)), (2, v30), (26, .int .i64 G_0.Kind), (27, .bool (G_0.Kind == 2))], ha.weak ⟨rfl, rfl, rfl, rfl, trivial⟩, S27, rfl, Le.refl _, hs⟩
 ·skip
  refine Cd.cond (t := (G_0.Kind != 3) && (G_0.Kind != 6)) rfl (fun hc375 => ?_) (fun hc375 => ?_)
  ·have hp26 := ite_t hc375 hp26
   refine Cd.region ?_
   refine Rg.vN (X.move rfl) rfl ?_
   obtain ⟨x376, hx377, hp26⟩ := bind_s hp26
   refine Rg.step rfl (Oq.call Try.call42 rfl rfl (c42 S18 (St.start _ _ hs.has) _ _ f22 _ _ _ hx377) (fun v378 w379 h380 => ?_))
   obtain ⟨S381, v384, rfl, hs382, f385, fu386⟩ := h380
   have _ := 0
   have le383 : Le S18 S381 := hs382.le
   have hs := hs.call0 hs382
   refine Rg.vN (X.assign rfl) rfl ?_
   refine Rg.nil ?_
   have e := some_s hp26
   subst e
   exact fun a ha => ⟨[(1, .pointer (some ⟨b10, 0, none⟩)), (2, v378)], ha.weak ⟨rfl, rfl, trivial⟩, S381, v378, rfl, le383, hs, f385, fu386⟩
  ·have hp26 := ite_f hc375 hp26
   refine Cd.skip ?_
   have e := some_s hp26
   subst e
   exact fun a ha => ⟨[(1, .pointer (some ⟨b10, 0, none⟩)), (2, v15)], ha.weak ⟨rfl, rfl, trivial⟩, S18, v15, rfl, Le.refl _, hs, f22, fu23⟩
noncomputable def rtcp_Bytes_l1 (l_0 : (List api_Report)) (q36 : (List Int)) (q37 : Int) : Option (Flow ((List Int) × Int) ((List Int) × Int)) :=
 if (decide (q37 < (l_0.length : Int))) = true then (
  (ix l_0 q37).bind fun x51 =>
  (rtcp_body x51).bind fun x70 =>
  (app 1 q36 ([cv .u8 (bor .i64 128 x70.2.2), cv .u8 x70.2.1] : List Int)).bind fun y87 =>
  (octet_Put y87 (cv .u64 (quo .i64 (x70.1.length : Int) 4)) 2).bind fun x95 =>
  (app 1 x95 x70.1).bind fun y107 =>
  if (decide (1500 < (y107.length : Int))) = true then (
   some (Flow.ret (([] : List Int), 3)))
  else (
   some (Flow.next (y107, add .i64 q37 1))))
 else (
  some (Flow.brk (q36, q37)))
noncomputable def rtcp_Bytes_l0 (l_0 : (List api_Report)) (q119 : Int) : Option (Flow Int ((List Int) × Int)) :=
 if (decide (q119 < (l_0.length : Int))) = true then (
  (ix l_0 q119).bind fun x129 =>
  (rtcp_Right x129).bind fun x148 =>
  if (x148 != 0) = true then (
   some (Flow.ret (([] : List Int), x148)))
  else (
   some (Flow.next (add .i64 q119 1))))
 else (
  some (Flow.brk q119))
noncomputable def rtcp_Bytes (l_0 : (List api_Report)) : Option ((List Int) × Int) :=
 if ((l_0.length : Int) == 0) = true then (
  some (([] : List Int), 1))
 else (
  (loopF (fun sg => rtcp_Bytes_l0 l_0 sg) 0).bind fun fl5 =>
  Flow.el fl5 (fun s157 => (
   none))
  (fun s158 => (
   (loopF (fun sg => rtcp_Bytes_l1 l_0 sg.1 sg.2) (([] : List Int), 0)).bind fun fl13 =>
   Flow.el fl13 (fun s116 => (
    none))
   (fun s117 => (
    (slices_Clip_byte s117.1).bind fun x25 =>
    some (x25, 0)))
   (fun r118 => (
    some r118))))
  (fun r159 => (
   some r159)))
def Po19 (S0 : Mp) (w0 : World) (D : List Nat) (r : ((List Int) × Int)) (v : Value) (w1 : World) : Prop :=
  ∃ (S1 : Mp) (v3 : Value), v = .tuple #[v3, .int .i64 r.2] ∧ St w0 D S0 S1 [] w1 ∧ Rd S1 1 (RI .u8) v3 r.1
set_option maxHeartbeats 4000000 in
theorem c19 (S0 : Mp) {w0 : World} (hs : St w0 [] S0 S0 [] w0) (l_0 : (List api_Report)) (v1 : Value) (f2 : Rd S0 10 R_api_Report v1 l_0) (r : ((List Int) × Int)) (h0 : rtcp_Bytes l_0 = some r) :
    Calls Try.prog 19 #[v1] w0 (Re (Po19 S0 w0 [] r)) := by
 unfold rtcp_Bytes at h0
 refine calls_of_cd Try.func19 rfl Try.ntmps19 rfl ?_
 refine Cd.sr ?_
 refine Rg.vN (X.assign rfl) rfl ?_
 refine Rg.vN (X.assign rfl) rfl ?_
 refine Rg.go ?_
 refine Cd.seq ?_
 refine Cd.sr ?_
 refine Rg.vN (X.move rfl) rfl ?_
 refine Rg.vN (X.lenR Try.underlying36 rfl f2) rfl ?_
 refine Rg.vN (X.eql rfl rfl) rfl ?_
 refine Rg.go ?_
 refine Cd.cond (t := (l_0.length : Int) == 0) rfl (fun hc4 => ?_) (fun hc4 => ?_)
 ·have h0 := ite_t hc4 h0
  refine Cd.sr ?_
  refine Rg.vN (X.assign rfl) rfl ?_
  refine Rg.vN (X.assign rfl) rfl ?_
  refine Rg.go ?_
  refine Cd.ret ?_
  have e := some_s h0
  subst e
  exact fun a ha => Cd.retA (P := Try.prog) (fn := Try.f19) (R := Re (Po19 S0 w0 [] _)) ha Try.results19 ⟨_, _, rfl, rfl, ⟨_, _, rfl, rfl, rfl⟩⟩ ⟨_, rfl, S0, (.slice none 0 0), rfl, hs, (Rd.nil _ _ _)⟩
 ·have h0 := ite_f hc4 h0
  refine Cd.sg ?_
  refine Cd.sr ?_
  refine Rg.vN (X.assign rfl) rfl ?_
  refine Rg.go ?_
  refine Cd.seq ?_
  refine Cd.sr ?_
  refine Rg.vN (X.move rfl) rfl ?_
  refine Rg.vN (X.lenR Try.underlying36 rfl f2) rfl ?_
  refine Rg.vN (X.move rfl) rfl ?_
  refine Rg.go ?_
  obtain ⟨fl5, hfl6, h0⟩ := bind_s h0
  refine Cd.post (fun K w => ∃ (j7 : Int) (S8 : Mp), K = [(0, v1), (4, .slice none 0 0)] ∧ fl5 = Flow.brk j7 ∧ Le S0 S8 ∧ St w0 [] S0 S8 [] w) ?_ ?_
  ·rintro K11 w10 ⟨j7, S8, rfl, rfl, le9, hs⟩
   have h0 := el_brk h0
   try dsimp only at h0
   refine Cd.go ?_
   refine Cd.seq ?_
   refine Cd.sr ?_
   refine Rg.vN (X.move rfl) rfl ?_
   refine Rg.vN (X.lenR Try.underlying36 rfl (f2.mono le9)) rfl ?_
   refine Rg.vN (X.move rfl) rfl ?_
   refine Rg.go ?_
   have hs := hs.nil 5 1
   have hs := hs.apfOfApp 0 rfl
   obtain ⟨fl13, hfl14, h0⟩ := bind_s h0
   refine Cd.post (fun K w => ∃ (j15 : (List Int)) (j16 : Int) (S17 : Mp) (v19 : Value) (g21 : Option Nat), K = [(4, v19)] ∧ fl13 = Flow.brk (j15, j16) ∧ Le S8 S17 ∧ St w0 [] S0 S17 [.apf g21 v19 j15.length 5 1] w ∧ Rd S17 1 (RI .u8) v19 j15) ?_ ?_
   ·rintro K24 w23 ⟨j15, j16, S17, v19, g21, rfl, rfl, le18, hs, f20⟩
    have h0 := el_brk h0
    try dsimp only at h0
    refine Cd.go ?_
    refine Cd.sr ?_
    refine Rg.vN (X.move rfl) rfl ?_
    obtain ⟨x25, hx26, h0⟩ := bind_s h0
    refine Rg.step rfl (Oq.call Try.call43 rfl rfl (c43 S17 (St.start _ _ hs.has) _ _ f20 _ hx26) (fun v27 w28 h29 => ?_))
    obtain ⟨S30, v33, rfl, hs31, f34, fu35⟩ := h29
    have _ := 0
    have le32 : Le S17 S30 := hs31.le
    have hs := hs.call0 hs31
    refine Rg.vN (X.assign rfl) rfl ?_
    refine Rg.vN (X.assign rfl) rfl ?_
    refine Rg.go ?_
    refine Cd.weak [(2, v27), (3, .int .i64 0)] ⟨rfl, rfl, trivial⟩ ?_
    refine Cd.ret ?_
    have e := some_s h0
    subst e
    exact fun a ha => Cd.retA (P := Try.prog) (fn := Try.f19) (R := Re (Po19 S0 w0 [] _)) ha Try.results19 ⟨_, _, rfl, rfl, ⟨_, _, rfl, rfl, rfl⟩⟩ ⟨_, rfl, S30, v27, rfl, (hs.pick [] (by decide) rfl), f34⟩
   ·skip
    refine Cd.weak [(4, .slice none 0 0), (28, v1), (29, .int .i64 (l_0.length : Int)), (30, .int .i64 0)] ⟨rfl, rfl, rfl, rfl, trivial⟩ ?_
    refine Cd.block (Cd.loop (fun sg => rtcp_Bytes_l1 l_0 sg.1 sg.2) (fun (sg : ((List Int) × Int)) K w => ∃ (S38 : Mp) (v40 : Value) (g42 : Option Nat), K = [(4, v40), (28, v1), (29, .int .i64 (l_0.length : Int)), (30, .int .i64 sg.2)] ∧ Le S8 S38 ∧ St w0 [] S0 S38 [.apf g42 v40 sg.1.length 5 1] w ∧ Rd S38 1 (RI .u8) v40 sg.1) (([] : List Int), 0) fl13 hfl14 ⟨S8, (.slice none 0 0), none, rfl, Le.refl _, hs, (Rd.nil _ _ _)⟩ ?_)
    rintro ⟨q36, q37⟩ fl44 K49 w48 hb45 ⟨S38, v40, g42, rfl, le39, hs, f41⟩ hl46
    have h47 : rtcp_Bytes_l1 l_0 q36 q37 = some fl44 := hb45
    unfold rtcp_Bytes_l1 at h47
    refine Cd.sr ?_
    refine Rg.vN (X.lss rfl rfl) rfl ?_
    refine Rg.go ?_
    refine Cd.seq ?_
    refine Cd.cond (t := decide (q37 < (l_0.length : Int))) rfl (fun hc50 => ?_) (fun hc50 => ?_)
    ·have h47 := ite_t hc50 h47
     refine Cd.sg ?_
     refine Cd.seq ?_
     refine Cd.block ?_
     refine Cd.sr ?_
     obtain ⟨x51, hx52, h47⟩ := bind_s h47
     obtain ⟨ad53, vals54, _, hR55, hE56, hX57⟩ := mk_index Try.underlying36 zz33 (by decide) (f2.mono (le9.trans le39)) hx52
     unfold R_api_Report at hR55
     obtain ⟨v58, v60, v62, v64, rfl, f59, f61, f63, f65⟩ := hR55
     refine Rg.vN (hX57 rfl rfl) rfl ?_
     refine Rg.vN (X.loadE (vals := [.int .i64 x51.Kind, .int .u32 x51.From, .int .u32 x51.About, v58, v60, v62, .int .u64 x51.Rate, .int .i64 x51.Type_, .int .i64 x51.Count, v64]) hs.has Try.underlying33 rfl zz33 rfl hE56) rfl ?_
     refine Rg.weak [(4, v40), (28, v1), (29, .int .i64 (l_0.length : Int)), (30, .int .i64 q37), (33, .agg (#[.int .i64 x51.Kind, .int .u32 x51.From, .int .u32 x51.About, v58, v60, v62, .int .u64 x51.Rate, .int .i64 x51.Type_, .int .i64 x51.Count, v64]))] ⟨rfl, rfl, rfl, rfl, rfl, trivial⟩ ?_
     refine Rg.step rfl (Oq.alloc (cs := #[.int .i64 0, .int .u32 0, .int .u32 0, .slice none 0 0, .slice none 0 0, .slice none 0 0, .int .u64 0, .int .i64 0, .int .i64 0, .slice none 0 0]) hs ii33 rfl rfl rfl (fun b66 w67 hs => ?_))
     refine Rg.step rfl (Oq.storeN hs 0 rfl (vals := [.int .i64 x51.Kind, .int .u32 x51.From, .int .u32 x51.About, v58, v60, v62, .int .u64 x51.Rate, .int .i64 x51.Type_, .int .i64 x51.Count, v64]) zz33 rfl rfl (one_all ⟨rfl, rfl, rfl, f59.one, f61.one, f63.one, rfl, rfl, rfl, f65.one, trivial⟩) rfl [.box b66 #[.int .i64 x51.Kind, .int .u32 x51.From, .int .u32 x51.About, v58, v60, v62, .int .u64 x51.Rate, .int .i64 x51.Type_, .int .i64 x51.Count, v64] 33, .apf g42 v40 q36.length 5 1] rfl (fun w69 hs => ?_))
     refine Rg.go ?_
     refine Cd.sr ?_
     refine Rg.vN (X.loadN (vals := [.int .i64 x51.Kind, .int .u32 x51.From, .int .u32 x51.About, v58, v60, v62, .int .u64 x51.Rate, .int .i64 x51.Type_, .int .i64 x51.Count, v64]) Try.underlying33 rfl zz33 rfl (hs.range 0 rfl 0 rfl)) rfl ?_
     obtain ⟨x70, hx71, h47⟩ := bind_s h47
     refine Rg.step rfl (Oq.call Try.call41 rfl rfl (c41 S38 (St.start _ _ hs.has) x51 _ f59 _ f61 _ f63 _ f65 _ hx71) (fun v72 w73 h74 => ?_))
     obtain ⟨S75, v78, rfl, hs76, f79⟩ := h74
     have _ := 0
     have le77 : Le S38 S75 := hs76.le
     have hs := hs.call0 hs76
     refine Rg.vN (X.move rfl) rfl ?_
     refine Rg.vN (X.extract rfl rfl) rfl ?_
     refine Rg.vN (X.extract rfl rfl) rfl ?_
     refine Rg.vN (X.extract rfl rfl) rfl ?_
     refine Rg.vN (X.assign rfl) rfl ?_
     refine Rg.vN (X.assign rfl) rfl ?_
     refine Rg.vN (X.assign rfl) rfl ?_
     refine Rg.go ?_
     refine Cd.sr ?_
     refine Rg.vN (X.move rfl) rfl ?_
     refine Rg.vN (X.move rfl) rfl ?_
     refine Rg.weak [(10, v78), (11, .int .i64 x70.2.1), (28, v1), (29, .int .i64 (l_0.length : Int)), (30, .int .i64 q37), (40, v40), (41, .int .i64 x70.2.2)] ⟨rfl, rfl, rfl, rfl, rfl, rfl, rfl, trivial⟩ ?_
     refine Rg.vN (X.or rfl rfl) rfl ?_
     refine Rg.vN (X.conv Try.underlying3 Try.underlying5 rfl) rfl ?_
     refine Rg.vN (X.move rfl) rfl ?_
     refine Rg.vN (X.conv Try.underlying3 Try.underlying5 rfl) rfl ?_
     refine Rg.step rfl (Oq.lit (sz := 1) (cs0 := [.int .u8 0, .int .u8 0]) (cells := [.int .u8 (cv .u8 (bor .i64 128 x70.2.2)), .int .u8 (cv .u8 x70.2.1)]) hs Try.underlying31 ii5 rfl rfl rfl rfl rfl rfl ⟨_, [.int .u8 (cv .u8 (bor .i64 128 x70.2.2))], _, rfl, rfl, rfl, ⟨_, [.int .u8 (cv .u8 x70.2.1)], _, rfl, rfl, rfl, rfl⟩⟩ rfl rfl rfl (fun b80 w81 S82 hs le83 hE84 => ?_))
     have f86 : Rd S82 1 (RI .u8) (.slice (some ⟨b80, 0, none⟩) 2 2) ([cv .u8 (bor .i64 128 x70.2.2), cv .u8 x70.2.1] : List Int) := Rd.of_cells (xs := ([cv .u8 (bor .i64 128 x70.2.2), cv .u8 x70.2.1] : List Int)) ⟨[.int .u8 (cv .u8 (bor .i64 128 x70.2.2))], _, rfl, rfl, one_all ⟨rfl, trivial⟩, rfl, ⟨[.int .u8 (cv .u8 x70.2.1)], _, rfl, rfl, one_all ⟨rfl, trivial⟩, rfl, rfl⟩⟩ hE84 (Nat.le_of_ble_eq_true rfl) (Nat.le_of_ble_eq_true rfl)
     obtain ⟨y87, hx88, h47⟩ := bind_s h47
     refine Rg.step rfl (Oq.appendP hs 2 rfl Try.underlying31 ii5 rfl rfl rfl rfl rfl rfl (f41.mono (le77.trans le83)) f86 hx88 rfl rfl rfl (fun v89 w90 S91 g92 hs le93 f94 => ?_))
     refine Rg.vN (X.assign rfl) rfl ?_
     refine Rg.go ?_
     refine Cd.sr ?_
     refine Rg.vN (X.move rfl) rfl ?_
     refine Rg.vN (X.move rfl) rfl ?_
     refine Rg.vN (X.lenR Try.underlying31 rfl (f79.mono (le83.trans le93))) rfl ?_
     refine Rg.weak [(10, v78), (28, v1), (29, .int .i64 (l_0.length : Int)), (30, .int .i64 q37), (48, v89), (50, .int .i64 (x70.1.length : Int))] ⟨rfl, rfl, rfl, rfl, rfl, rfl, trivial⟩ ?_
     refine Rg.vN (X.quo rfl rfl (by decide)) rfl ?_
     refine Rg.vN (X.conv Try.underlying3 Try.underlying30 rfl) rfl ?_
     obtain ⟨x95, hx96, h47⟩ := bind_s h47
     refine Rg.step rfl (Oq.call Try.call42 rfl rfl (c42 S91 (St.start _ _ hs.has) _ _ f94 _ _ _ hx96) (fun v97 w98 h99 => ?_))
     obtain ⟨S100, v103, rfl, hs101, f104, fu105⟩ := h99
     have _ := 0
     have le102 : Le S91 S100 := hs101.le
     have hs := hs.call0 hs101
     refine Rg.vN (X.move rfl) rfl ?_
     have hs := hs.apfOfFull 5 1 fu105
     obtain ⟨y107, hx108, h47⟩ := bind_s h47
     refine Rg.step rfl (Oq.appendP hs 0 rfl Try.underlying31 ii5 rfl rfl rfl rfl rfl rfl f104 (f79.mono (le83.trans (le93.trans le102))) hx108 rfl rfl rfl (fun v109 w110 S111 g112 hs le113 f114 => ?_))
     refine Rg.vN (X.assign rfl) rfl ?_
     refine Rg.go ?_
     refine Cd.sr ?_
     refine Rg.vN (X.move rfl) rfl ?_
     refine Rg.vN (X.lenR Try.underlying31 rfl f114) rfl ?_
     refine Rg.vN (X.gtr rfl rfl) rfl ?_
     refine Rg.go ?_
     refine Cd.cond (t := decide (1500 < (y107.length : Int))) rfl (fun hc115 => ?_) (fun hc115 => ?_)
     ·have h47 := ite_t hc115 h47
      refine Cd.sr ?_
      refine Rg.vN (X.assign rfl) rfl ?_
      refine Rg.vN (X.assign rfl) rfl ?_
      refine Rg.go ?_
      refine Cd.weak [(2, .slice none 0 0), (3, .int .i64 3)] ⟨rfl, rfl, trivial⟩ ?_
      refine Cd.ret ?_
      have e := some_s h47
      subst e
      have e := hl46 (fun _ e => by cases e)
      subst e
      have h0 := el_ret h0
      have e := some_s h0
      subst e
      exact fun a ha => Cd.retA (P := Try.prog) (fn := Try.f19) (R := Re (Po19 S0 w0 [] _)) ha Try.results19 ⟨_, _, rfl, rfl, ⟨_, _, rfl, rfl, rfl⟩⟩ ⟨_, rfl, S111, (.slice none 0 0), rfl, (hs.pick [] (by decide) rfl), (Rd.nil _ _ _)⟩
     ·have h47 := ite_f hc115 h47
      refine Cd.skip ?_
      refine Cd.go ?_
      refine Cd.region ?_
      refine Rg.vN (X.add rfl rfl) rfl ?_
      refine Rg.vN (X.move rfl) rfl ?_
      refine Rg.nil ?_
      exact fun a ha => ⟨(y107, add .i64 q37 1), [(4, v109), (28, v1), (29, .int .i64 (l_0.length : Int)), (30, .int .i64 (add .i64 q37 1))], (some_s h47).symm, ha.weak ⟨rfl, rfl, rfl, rfl, trivial⟩, S111, v109, g112, rfl, (le39.trans (le77.trans (le83.trans (le93.trans (le102.trans le113))))), (hs.pick [0] (by decide) rfl), f114⟩
    ·have h47 := ite_f hc50 h47
     refine Cd.exit ?_
     have e := some_s h47
     subst e
     have e := hl46 (fun _ e => by cases e)
     exact fun a ha => ⟨[(4, v40)], ha.weak ⟨rfl, trivial⟩, _, _, S38, v40, g42, rfl, e.symm, le39, hs, f41⟩
  ·skip
   refine Cd.weak [(0, v1), (4, .slice none 0 0), (16, v1), (17, .int .i64 (l_0.length : Int)), (18, .int .i64 0)] ⟨rfl, rfl, rfl, rfl, rfl, trivial⟩ ?_
   refine Cd.block (Cd.loop (fun sg => rtcp_Bytes_l0 l_0 sg) (fun (sg : Int) K w => ∃ (S120 : Mp), K = [(0, v1), (4, .slice none 0 0), (16, v1), (17, .int .i64 (l_0.length : Int)), (18, .int .i64 sg)] ∧ Le S0 S120 ∧ St w0 [] S0 S120 [] w) 0 fl5 hfl6 ⟨S0, rfl, Le.refl _, hs⟩ ?_)
   rintro q119 fl122 K127 w126 hb123 ⟨S120, rfl, le121, hs⟩ hl124
   have h125 : rtcp_Bytes_l0 l_0 q119 = some fl122 := hb123
   unfold rtcp_Bytes_l0 at h125
   refine Cd.sr ?_
   refine Rg.vN (X.lss rfl rfl) rfl ?_
   refine Rg.go ?_
   refine Cd.seq ?_
   refine Cd.cond (t := decide (q119 < (l_0.length : Int))) rfl (fun hc128 => ?_) (fun hc128 => ?_)
   ·have h125 := ite_t hc128 h125
    refine Cd.sg ?_
    refine Cd.seq ?_
    refine Cd.block ?_
    refine Cd.sr ?_
    obtain ⟨x129, hx130, h125⟩ := bind_s h125
    obtain ⟨ad131, vals132, _, hR133, hE134, hX135⟩ := mk_index Try.underlying36 zz33 (by decide) (f2.mono le121) hx130
    unfold R_api_Report at hR133
    obtain ⟨v136, v138, v140, v142, rfl, f137, f139, f141, f143⟩ := hR133
    refine Rg.vN (hX135 rfl rfl) rfl ?_
    refine Rg.vN (X.loadE (vals := [.int .i64 x129.Kind, .int .u32 x129.From, .int .u32 x129.About, v136, v138, v140, .int .u64 x129.Rate, .int .i64 x129.Type_, .int .i64 x129.Count, v142]) hs.has Try.underlying33 rfl zz33 rfl hE134) rfl ?_
    refine Rg.step rfl (Oq.alloc (cs := #[.int .i64 0, .int .u32 0, .int .u32 0, .slice none 0 0, .slice none 0 0, .slice none 0 0, .int .u64 0, .int .i64 0, .int .i64 0, .slice none 0 0]) hs ii33 rfl rfl rfl (fun b144 w145 hs => ?_))
    refine Rg.step rfl (Oq.storeN hs 0 rfl (vals := [.int .i64 x129.Kind, .int .u32 x129.From, .int .u32 x129.About, v136, v138, v140, .int .u64 x129.Rate, .int .i64 x129.Type_, .int .i64 x129.Count, v142]) zz33 rfl rfl (one_all ⟨rfl, rfl, rfl, f137.one, f139.one, f141.one, rfl, rfl, rfl, f143.one, trivial⟩) rfl [.box b144 #[.int .i64 x129.Kind, .int .u32 x129.From, .int .u32 x129.About, v136, v138, v140, .int .u64 x129.Rate, .int .i64 x129.Type_, .int .i64 x129.Count, v142] 33] rfl (fun w147 hs => ?_))
    refine Rg.go ?_
    refine Cd.sr ?_
    refine Rg.vN (X.loadN (vals := [.int .i64 x129.Kind, .int .u32 x129.From, .int .u32 x129.About, v136, v138, v140, .int .u64 x129.Rate, .int .i64 x129.Type_, .int .i64 x129.Count, v142]) Try.underlying33 rfl zz33 rfl (hs.range 0 rfl 0 rfl)) rfl ?_
    obtain ⟨x148, hx149, h125⟩ := bind_s h125
    refine Rg.step rfl (Oq.call Try.call23 rfl rfl (c23 S120 (St.start _ _ hs.has) x129 _ f137 _ f139 _ f141 _ f143 _ hx149) (fun v150 w151 h152 => ?_))
    obtain ⟨S153, rfl, hs154⟩ := h152
    have _ := 0
    have le155 : Le S120 S153 := hs154.le
    have hs := hs.call0 hs154
    refine Rg.vN (X.assign rfl) rfl ?_
    refine Rg.go ?_
    refine Cd.sr ?_
    refine Rg.vN (X.move rfl) rfl ?_
    refine Rg.vN (X.neq rfl rfl) rfl ?_
    refine Rg.go ?_
    refine Cd.weak [(0, v1), (4, .slice none 0 0), (7, .int .i64 x148), (16, v1), (17, .int .i64 (l_0.length : Int)), (18, .int .i64 q119), (25, .bool (x148 != 0))] ⟨rfl, rfl, rfl, rfl, rfl, rfl, rfl, trivial⟩ ?_
    refine Cd.cond (t := x148 != 0) rfl (fun hc156 => ?_) (fun hc156 => ?_)
    ·have h125 := ite_t hc156 h125
     refine Cd.sr ?_
     refine Rg.vN (X.move rfl) rfl ?_
     refine Rg.vN (X.assign rfl) rfl ?_
     refine Rg.vN (X.assign rfl) rfl ?_
     refine Rg.go ?_
     refine Cd.ret ?_
     have e := some_s h125
     subst e
     have e := hl124 (fun _ e => by cases e)
     subst e
     have h0 := el_ret h0
     have e := some_s h0
     subst e
     exact fun a ha => Cd.retA (P := Try.prog) (fn := Try.f19) (R := Re (Po19 S0 w0 [] _)) ha Try.results19 ⟨_, _, rfl, rfl, ⟨_, _, rfl, rfl, rfl⟩⟩ ⟨_, rfl, S153, (.slice none 0 0), rfl, (hs.pick [] (by decide) rfl), (Rd.nil _ _ _)⟩
    ·have h125 := ite_f hc156 h125
     refine Cd.skip ?_
     refine Cd.go ?_
     refine Cd.region ?_
     refine Rg.vN (X.add rfl rfl) rfl ?_
     refine Rg.vN (X.move rfl) rfl ?_
     refine Rg.nil ?_
     exact fun a ha => ⟨add .i64 q119 1, [(0, v1), (4, .slice none 0 0), (16, v1), (17, .int .i64 (l_0.length : Int)), (18, .int .i64 (add .i64 q119 1))], (some_s h125).symm, ha.weak ⟨rfl, rfl, rfl, rfl, rfl, trivial⟩, S153, rfl, (le121.trans le155), (hs.pick [] (by decide) rfl)⟩
   ·have h125 := ite_f hc128 h125
    refine Cd.exit ?_
    have e := some_s h125
    subst e
    have e := hl124 (fun _ e => by cases e)
    exact fun a ha => ⟨[(0, v1), (4, .slice none 0 0)], ha.weak ⟨rfl, rfl, trivial⟩, _, S120, rfl, e.symm, le121, hs⟩
noncomputable def rtcp_reader_num (r_0 : rtcp_reader) (size_1 : Int) : Option (Int × rtcp_reader) :=
 ((
  (octet_Get r_0.b_ r_0.at_ size_1).bind fun x17 =>
  some (x17.1, x17.2) : Option (Int × Bool))).bind fun p8 =>
 some (p8.1, (⟨r_0.b_, add .i64 r_0.at_ size_1, r_0.bad_ || (!p8.2)⟩ : rtcp_reader))
def Po72 (S0 : Mp) (w0 : World) (D : List Nat) (b1 : Nat) (r : (Int × rtcp_reader)) (v : Value) (w1 : World) : Prop :=
  ∃ (S1 : Mp) (v5 : Value), v = .int .u64 r.1 ∧ St w0 D S0 S1 [.box b1 #[v5, .int .i64 r.2.at_, .bool r.2.bad_] 101] w1 ∧ Rd S1 1 (RI .u8) v5 r.2.b_
set_option maxHeartbeats 4000000 in
theorem c72 (S0 : Mp) {w0 : World} (b1 : Nat) (r_0 : rtcp_reader) (v2 : Value) (f3 : Rd S0 1 (RI .u8) v2 r_0.b_) (size_1 : Int) (hs : St w0 [b1] S0 S0 [.box b1 #[v2, .int .i64 r_0.at_, .bool r_0.bad_] 101] w0) (r : (Int × rtcp_reader)) (h0 : rtcp_reader_num r_0 size_1 = some r) :
    Calls Try.prog 72 #[.pointer (some ⟨b1, 0, none⟩), .int .i64 size_1] w0 (Re (Po72 S0 w0 [b1] b1 r)) := by
 unfold rtcp_reader_num at h0
 refine calls_of_cd Try.func72 rfl Try.ntmps72 rfl ?_
 refine Cd.sr ?_
 refine Rg.vN (X.assign rfl) rfl ?_
 refine Rg.go ?_
 refine Cd.seq ?_
 obtain ⟨p8, hp9, h0⟩ := bind_s h0
 obtain ⟨j6, j7⟩ := p8
 dsimp only at h0
 refine Cd.post (fun K w => ∃ (S10 : Mp), K = [(0, .pointer (some ⟨b1, 0, none⟩)), (1, .int .i64 size_1), (5, .int .u64 j6), (6, .bool j7)] ∧ Le S0 S10 ∧ St w0 [b1] S0 S10 [.box b1 #[v2, .int .i64 r_0.at_, .bool r_0.bad_] 101] w) ?_ ?_
 ·rintro K13 w11 ⟨S10, rfl, le12, hs⟩
  refine Cd.go ?_
  refine Cd.sr ?_
  refine Rg.vN (X.move rfl) rfl ?_
  refine Rg.vN (X.move rfl) rfl ?_
  refine Rg.vN (X.nilCheck rfl) rfl ?_
  refine Rg.vN (X.fieldB Try.underlying101 rfl zz4 rfl rfl) rfl ?_
  refine Rg.vN (X.load1 Try.underlying4 rfl rfl (hs.cell 0 rfl 2 rfl)) rfl ?_
  refine Rg.vN (X.move rfl) rfl ?_
  refine Rg.vF rfl rfl rfl (fun hW => X.move rfl) ?_
  refine Rg.vF rfl rfl rfl (fun hW => X.not (ev_g rfl hW)) ?_
  refine Rg.vN (X.pickOr rfl rfl rfl) rfl ?_
  refine Rg.vN (X.nilCheck rfl) rfl ?_
  refine Rg.vN (X.fieldB Try.underlying101 rfl zz4 rfl rfl) rfl ?_
  refine Rg.step rfl (Oq.store hs 0 rfl 2 zz4 rfl rfl rfl rfl rfl [.box b1 #[v2, .int .i64 r_0.at_, .bool (r_0.bad_ || (!j7))] 101] rfl (fun w14 hs => ?_))
  refine Rg.go ?_
  refine Cd.sr ?_
  refine Rg.vN (X.move rfl) rfl ?_
  refine Rg.vN (X.nilCheck rfl) rfl ?_
  refine Rg.vN (X.fieldB Try.underlying101 rfl zz3 rfl rfl) rfl ?_
  refine Rg.weak [(1, .int .i64 size_1), (5, .int .u64 j6), (31, .pointer (some ⟨b1, 0, none⟩)), (33, .pointer (some ⟨b1, 1, none⟩))] ⟨rfl, rfl, rfl, rfl, trivial⟩ ?_
  refine Rg.vN (X.load1 Try.underlying3 rfl rfl (hs.cell 0 rfl 1 rfl)) rfl ?_
  refine Rg.vN (X.move rfl) rfl ?_
  refine Rg.vN (X.add rfl rfl) rfl ?_
  refine Rg.vN (X.nilCheck rfl) rfl ?_
  refine Rg.vN (X.fieldB Try.underlying101 rfl zz3 rfl rfl) rfl ?_
  refine Rg.step rfl (Oq.store hs 0 rfl 1 zz3 rfl rfl rfl rfl rfl [.box b1 #[v2, .int .i64 (add .i64 r_0.at_ size_1), .bool (r_0.bad_ || (!j7))] 101] rfl (fun w15 hs => ?_))
  refine Rg.go ?_
  refine Cd.sr ?_
  refine Rg.vN (X.move rfl) rfl ?_
  refine Rg.vN (X.assign rfl) rfl ?_
  refine Rg.go ?_
  refine Cd.ret ?_
  have e := some_s h0
  subst e
  exact fun a ha => Cd.retA (P := Try.prog) (fn := Try.f72) (R := Re (Po72 S0 w0 [b1] b1 _)) ha Try.results72 ⟨_, _, rfl, rfl, rfl⟩ ⟨_, rfl, S10, v2, rfl, hs, (f3.mono le12)⟩
 ·skip
  refine Cd.rD mixed (fun l w => Has S0 w ∧ Hp b1 #[v2, .int .i64 r_0.at_, .bool r_0.bad_] 101 w) hs (fun _ _ _ _ _ h => h) (by kernel_rfl) (fun w16 hs => ⟨⟨hs.has, (hs.heap 0 rfl)⟩, ?_⟩)
  refine Rk.tN 0 rfl (by kernel_rfl) rfl (fun _ _ => X.move rfl) ?_
  refine Rk.tN 1 rfl (by kernel_rfl) rfl (fun _ _ => X.nilCheck rfl) ?_
  refine Rk.tN 2 rfl (by kernel_rfl) rfl (fun _ _ => X.fieldB Try.underlying101 rfl zz31 rfl rfl) ?_
  refine Rk.tN 3 rfl (by kernel_rfl) rfl (fun w hc => X.load1 Try.underlying31 rfl rfl (heap_cell hc.2 rfl)) ?_
  refine Rk.tN 4 rfl (by kernel_rfl) rfl (fun _ _ => X.move rfl) ?_
  refine Rk.tN 5 rfl (by kernel_rfl) rfl (fun _ _ => X.nilCheck rfl) ?_
  refine Rk.tN 6 rfl (by kernel_rfl) rfl (fun _ _ => X.fieldB Try.underlying101 rfl zz3 rfl rfl) ?_
  refine Rk.tN 7 rfl (by kernel_rfl) rfl (fun w hc => X.load1 Try.underlying3 rfl rfl (heap_cell hc.2 rfl)) ?_
  refine Rk.tN 8 rfl (by kernel_rfl) rfl (fun _ _ => X.move rfl) ?_
  obtain ⟨x17, hx18, hp9⟩ := bind_s hp9
  refine Rk.eN 9 rfl (by kernel_rfl) rfl (Oq.call Try.call60 rfl rfl (c60 S0 (St.start _ _ hs.has) _ _ f3 _ _ _ hx18) (fun v19 w20 h21 => ?_))
  obtain ⟨S22, rfl, hs23⟩ := h21
  have _ := 0
  have le24 : Le S0 S22 := hs23.le
  have hs := hs.call0 hs23
  refine ⟨⟨(hs.has.down le24), (hs.heap 0 rfl)⟩, Rk.mk (C' := fun l w => Has S22 w ∧ Hp b1 #[v2, .int .i64 r_0.at_, .bool r_0.bad_] 101 w) ⟨hs.has, (hs.heap 0 rfl)⟩ (fun l w hc => ⟨hc.1.down le24, hc.2⟩) ?_⟩
  refine Rk.tN 10 rfl (by kernel_rfl) rfl (fun _ _ => X.move rfl) ?_
  refine Rk.tN 11 rfl (by kernel_rfl) rfl (fun _ _ => X.extract rfl rfl) ?_
  refine Rk.tN 12 rfl (by kernel_rfl) rfl (fun _ _ => X.extract rfl rfl) ?_
  refine Rk.tN 13 rfl (by kernel_rfl) rfl (fun _ _ => X.assign rfl) ?_
  refine Rk.tN 14 rfl (by kernel_rfl) rfl (fun _ _ => X.assign rfl) ?_
  refine Rk.done (by kernel_rfl) ?_
  have e := some_s hp9
  cases e
  exact fun a ha => ⟨[(0, .pointer (some ⟨b1, 0, none⟩)), (1, .int .i64 size_1), (5, .int .u64 x17.1), (6, .bool x17.2)], ha.weak ⟨rfl, rfl, rfl, rfl, trivial⟩, S22, rfl, le24, hs⟩
noncomputable def rtcp_reader_nought (r_0 : rtcp_reader) (size_1 : Int) : Option rtcp_reader :=
 (rtcp_reader_num (⟨r_0.b_, r_0.at_, r_0.bad_⟩ : rtcp_reader) size_1).bind fun x6 =>
 some (⟨x6.2.b_, x6.2.at_, (x6.1 != 0) || x6.2.bad_⟩ : rtcp_reader)
def Po73 (S0 : Mp) (w0 : World) (D : List Nat) (b1 : Nat) (r : rtcp_reader) (v : Value) (w1 : World) : Prop :=
  ∃ (S1 : Mp) (v5 : Value), v = .tuple #[] ∧ St w0 D S0 S1 [.box b1 #[v5, .int .i64 r.at_, .bool r.bad_] 101] w1 ∧ Rd S1 1 (RI .u8) v5 r.b_
set_option maxHeartbeats 4000000 in
theorem c73 (S0 : Mp) {w0 : World} (b1 : Nat) (r_0 : rtcp_reader) (v2 : Value) (f3 : Rd S0 1 (RI .u8) v2 r_0.b_) (size_1 : Int) (hs : St w0 [b1] S0 S0 [.box b1 #[v2, .int .i64 r_0.at_, .bool r_0.bad_] 101] w0) (r : rtcp_reader) (h0 : rtcp_reader_nought r_0 size_1 = some r) :
    Calls Try.prog 73 #[.pointer (some ⟨b1, 0, none⟩), .int .i64 size_1] w0 (Re (Po73 S0 w0 [b1] b1 r)) := by
 unfold rtcp_reader_nought at h0
 refine calls_of_cd Try.func73 rfl Try.ntmps73 rfl ?_
 refine Cd.region ?_
 refine Rg.vN (X.move rfl) rfl ?_
 refine Rg.vN (X.move rfl) rfl ?_
 refine Rg.vN (X.move rfl) rfl ?_
 obtain ⟨x6, hx7, h0⟩ := bind_s h0
 refine Rg.step rfl (Oq.call Try.call72 rfl rfl (c72 S0 _ (⟨r_0.b_, r_0.at_, r_0.bad_⟩ : rtcp_reader) _ f3 _ (hs.enter 0 rfl rfl) _ hx7) (fun v8 w9 h10 => ?_))
 obtain ⟨S11, v14, rfl, hs12, f15⟩ := h10
 have _ := 0
 have le13 : Le S0 S11 := hs12.le
 have hs := hs.call1 0 rfl rfl hs12
 refine Rg.vN (X.neq rfl rfl) rfl ?_
 refine Rg.vN (X.move rfl) rfl ?_
 refine Rg.vF rfl rfl rfl (fun hW => X.move rfl) ?_
 refine Rg.vF rfl rfl rfl (fun hW => X.nilCheck (ev_g rfl hW)) ?_
 refine Rg.vF rfl rfl rfl (fun hW => X.fieldB Try.underlying101 rfl zz4 (ev_g rfl hW) rfl) ?_
 refine Rg.vF rfl rfl rfl (fun hW => X.load1 Try.underlying4 rfl (ev_g rfl hW) (hs.cell 0 rfl 2 rfl)) ?_
 refine Rg.vN (X.pickOr rfl rfl rfl) rfl ?_
 refine Rg.vN (X.nilCheck rfl) rfl ?_
 refine Rg.vN (X.fieldB Try.underlying101 rfl zz4 rfl rfl) rfl ?_
 refine Rg.step rfl (Oq.store hs 0 rfl 2 zz4 rfl rfl rfl rfl rfl [.box b1 #[v14, .int .i64 x6.2.at_, .bool ((x6.1 != 0) || x6.2.bad_)] 101] rfl (fun w16 hs => ?_))
 refine Rg.nil ?_
 have e := some_s h0
 subst e
 exact fun a ha => Cd.fallA (P := Try.prog) (fn := Try.f73) (R := Re (Po73 S0 w0 [b1] b1 _)) ha Try.results73 ⟨_, rfl, S11, v14, rfl, hs, f15⟩
noncomputable def rtcp_reader_left (r_0 : rtcp_reader) : Option (Bool × rtcp_reader) :=
 some ((!r_0.bad_) && (decide (r_0.at_ < (r_0.b_.length : Int))), r_0)
def Po74 (S0 : Mp) (w0 : World) (D : List Nat) (b1 : Nat) (r : (Bool × rtcp_reader)) (v : Value) (w1 : World) : Prop :=
  ∃ (S1 : Mp) (v5 : Value), v = .bool r.1 ∧ St w0 D S0 S1 [.box b1 #[v5, .int .i64 r.2.at_, .bool r.2.bad_] 101] w1 ∧ Rd S1 1 (RI .u8) v5 r.2.b_
set_option maxHeartbeats 4000000 in
theorem c74 (S0 : Mp) {w0 : World} (b1 : Nat) (r_0 : rtcp_reader) (v2 : Value) (f3 : Rd S0 1 (RI .u8) v2 r_0.b_) (hs : St w0 [b1] S0 S0 [.box b1 #[v2, .int .i64 r_0.at_, .bool r_0.bad_] 101] w0) (r : (Bool × rtcp_reader)) (h0 : rtcp_reader_left r_0 = some r) :
    Calls Try.prog 74 #[.pointer (some ⟨b1, 0, none⟩)] w0 (Re (Po74 S0 w0 [b1] b1 r)) := by
 unfold rtcp_reader_left at h0
 refine calls_of_cd Try.func74 rfl Try.ntmps74 rfl ?_
 refine Cd.sr ?_
 refine Rg.vN (X.assign rfl) rfl ?_
 refine Rg.go ?_
 refine Cd.seq ?_
 refine Cd.rD mixed (fun l w => Has S0 w ∧ Hp b1 #[v2, .int .i64 r_0.at_, .bool r_0.bad_] 101 w) hs (fun _ _ _ _ _ h => h) (by kernel_rfl) (fun w6 hs => ⟨⟨hs.has, (hs.heap 0 rfl)⟩, ?_⟩)
 refine Rk.tN 0 rfl (by kernel_rfl) rfl (fun _ _ => X.move rfl) ?_
 refine Rk.tN 1 rfl (by kernel_rfl) rfl (fun _ _ => X.nilCheck rfl) ?_
 refine Rk.tN 2 rfl (by kernel_rfl) rfl (fun _ _ => X.fieldB Try.underlying101 rfl zz4 rfl rfl) ?_
 refine Rk.tN 3 rfl (by kernel_rfl) rfl (fun w hc => X.load1 Try.underlying4 rfl rfl (heap_cell hc.2 rfl)) ?_
 refine Rk.tN 4 rfl (by kernel_rfl) rfl (fun _ _ => X.not rfl) ?_
 refine Rk.tN 5 rfl (by kernel_rfl) rfl (fun _ _ => X.move rfl) ?_
 refine Rk.tT 6 rfl (by kernel_rfl) rfl rfl rfl (fun hW => fun _ _ => X.move rfl) ?_
 refine Rk.tT 7 rfl (by kernel_rfl) rfl rfl rfl (fun hW => fun _ _ => X.nilCheck (ev_g rfl hW)) ?_
 refine Rk.tT 8 rfl (by kernel_rfl) rfl rfl rfl (fun hW => fun _ _ => X.fieldB Try.underlying101 rfl zz3 (ev_g rfl hW) rfl) ?_
 refine Rk.tT 9 rfl (by kernel_rfl) rfl rfl rfl (fun hW => fun w hc => X.load1 Try.underlying3 rfl (ev_g rfl hW) (heap_cell hc.2 rfl)) ?_
 refine Rk.tT 10 rfl (by kernel_rfl) rfl rfl rfl (fun hW => fun _ _ => X.move rfl) ?_
 refine Rk.tT 11 rfl (by kernel_rfl) rfl rfl rfl (fun hW => fun _ _ => X.nilCheck (ev_g rfl hW)) ?_
 refine Rk.tT 12 rfl (by kernel_rfl) rfl rfl rfl (fun hW => fun _ _ => X.fieldB Try.underlying101 rfl zz31 (ev_g rfl hW) rfl) ?_
 refine Rk.tT 13 rfl (by kernel_rfl) rfl rfl rfl (fun hW => fun w hc => X.load1 Try.underlying31 rfl (ev_g rfl hW) (heap_cell hc.2 rfl)) ?_
 refine Rk.weak [(2, .bool false), (8, .bool (!r_0.bad_)), (12, gv (!r_0.bad_) (.int .i64 r_0.at_)), (16, gv (!r_0.bad_) (v2))] ⟨rfl, rfl, rfl, rfl, trivial⟩ ?_
 refine Rk.tT 14 rfl (by kernel_rfl) rfl rfl rfl (fun hW => fun _ _ => X.lenR Try.underlying31 (ev_g rfl hW) f3) ?_
 refine Rk.tT 15 rfl (by kernel_rfl) rfl rfl rfl (fun hW => fun _ _ => X.lss (ev_g rfl hW) (ev_g rfl hW)) ?_
 refine Rk.tN 16 rfl (by kernel_rfl) rfl (fun _ _ => X.pickAnd rfl rfl rfl) ?_
 refine Rk.tN 17 rfl (by kernel_rfl) rfl (fun _ _ => X.assign rfl) ?_
 refine Rk.done (by kernel_rfl) ?_
 refine Cd.go ?_
 refine Cd.ret ?_
 have e := some_s h0
 subst e
 exact fun a ha => Cd.retA (P := Try.prog) (fn := Try.f74) (R := Re (Po74 S0 w0 [b1] b1 _)) ha Try.results74 ⟨_, _, rfl, rfl, rfl⟩ ⟨_, rfl, S0, v2, rfl, hs, f3⟩
noncomputable def rtcp_reader_rate (r_0 : rtcp_reader) (n_1 : Int) (bits_2 : Int) : Option (Int × rtcp_reader) :=
 gd ((0 : Int) ≤ bits_2) (
  gd ((0 : Int) ≤ bits_2) (
   (rate_Open (cv .i64 (shr .u64 n_1 bits_2)) (cv .u32 (band .u64 n_1 (sub .u64 (shl .u64 1 bits_2) 1))) bits_2).bind fun x9 =>
   ((
    if r_0.bad_ = true then (
     some true)
    else (
     gd ((0 : Int) ≤ (cv .i64 (shr .u64 n_1 bits_2))) (
      some ((shr .u64 x9 (cv .i64 (shr .u64 n_1 bits_2))) != (cv .u64 (cv .u32 (band .u64 n_1 (sub .u64 (shl .u64 1 bits_2) 1))))))) : Option Bool)).bind fun p18 =>
   some (x9, (⟨r_0.b_, r_0.at_, p18⟩ : rtcp_reader))))
def Po81 (S0 : Mp) (w0 : World) (D : List Nat) (b1 : Nat) (r : (Int × rtcp_reader)) (v : Value) (w1 : World) : Prop :=
  ∃ (S1 : Mp) (v5 : Value), v = .int .u64 r.1 ∧ St w0 D S0 S1 [.box b1 #[v5, .int .i64 r.2.at_, .bool r.2.bad_] 101] w1 ∧ Rd S1 1 (RI .u8) v5 r.2.b_
set_option maxHeartbeats 4000000 in
theorem c81 (S0 : Mp) {w0 : World} (b1 : Nat) (r_0 : rtcp_reader) (v2 : Value) (f3 : Rd S0 1 (RI .u8) v2 r_0.b_) (n_1 : Int) (bits_2 : Int) (hs : St w0 [b1] S0 S0 [.box b1 #[v2, .int .i64 r_0.at_, .bool r_0.bad_] 101] w0) (r : (Int × rtcp_reader)) (h0 : rtcp_reader_rate r_0 n_1 bits_2 = some r) :
    Calls Try.prog 81 #[.pointer (some ⟨b1, 0, none⟩), .int .u64 n_1, .int .i64 bits_2] w0 (Re (Po81 S0 w0 [b1] b1 r)) := by
 unfold rtcp_reader_rate at h0
 refine calls_of_cd Try.func81 rfl Try.ntmps81 rfl ?_
 refine Cd.sr ?_
 refine Rg.vN (X.assign rfl) rfl ?_
 refine Rg.go ?_
 refine Cd.seq ?_
 refine Cd.rD mixed (fun l w => Has S0 w) hs (fun _ _ _ _ _ h => h) (by kernel_rfl) (fun w6 hs => ⟨hs.has, ?_⟩)
 refine Rk.tN 0 rfl (by kernel_rfl) rfl (fun _ _ => X.move rfl) ?_
 refine Rk.tN 1 rfl (by kernel_rfl) rfl (fun _ _ => X.move rfl) ?_
 obtain ⟨hg7, h0⟩ := gd_s h0
 refine Rk.tN 2 rfl (by kernel_rfl) rfl (fun _ _ => X.shr rfl rfl hg7) ?_
 refine Rk.tN 3 rfl (by kernel_rfl) rfl (fun _ _ => X.conv Try.underlying30 Try.underlying3 rfl) ?_
 refine Rk.tN 4 rfl (by kernel_rfl) rfl (fun _ _ => X.move rfl) ?_
 refine Rk.tN 5 rfl (by kernel_rfl) rfl (fun _ _ => X.move rfl) ?_
 obtain ⟨hg8, h0⟩ := gd_s h0
 refine Rk.tN 6 rfl (by kernel_rfl) rfl (fun _ _ => X.shl rfl rfl hg8) ?_
 refine Rk.tN 7 rfl (by kernel_rfl) rfl (fun _ _ => X.sub rfl rfl) ?_
 refine Rk.tN 8 rfl (by kernel_rfl) rfl (fun _ _ => X.and rfl rfl) ?_
 refine Rk.tN 9 rfl (by kernel_rfl) rfl (fun _ _ => X.conv Try.underlying30 Try.underlying27 rfl) ?_
 refine Rk.tN 10 rfl (by kernel_rfl) rfl (fun _ _ => X.assign rfl) ?_
 refine Rk.tN 11 rfl (by kernel_rfl) rfl (fun _ _ => X.assign rfl) ?_
 refine Rk.done (by kernel_rfl) ?_
 refine Cd.go ?_
 refine Cd.sr ?_
 refine Rg.vN (X.move rfl) rfl ?_
 refine Rg.vN (X.move rfl) rfl ?_
 refine Rg.weak [(0, .pointer (some ⟨b1, 0, none⟩)), (2, .int .i64 bits_2), (7, .int .i64 (cv .i64 (shr .u64 n_1 bits_2))), (8, .int .u32 (cv .u32 (band .u64 n_1 (sub .u64 (shl .u64 1 bits_2) 1)))), (20, .int .i64 (cv .i64 (shr .u64 n_1 bits_2))), (21, .int .u32 (cv .u32 (band .u64 n_1 (sub .u64 (shl .u64 1 bits_2) 1))))] ⟨rfl, rfl, rfl, rfl, rfl, rfl, trivial⟩ ?_
 refine Rg.vN (X.move rfl) rfl ?_
 obtain ⟨x9, hx10, h0⟩ := bind_s h0
 refine Rg.step rfl (Oq.call Try.call78 rfl rfl (c78 S0 (St.start _ _ hs.has) _ _ _ _ hx10) (fun v11 w12 h13 => ?_))
 obtain ⟨S14, rfl, hs15⟩ := h13
 have _ := 0
 have le16 : Le S0 S14 := hs15.le
 have hs := hs.call0 hs15
 refine Rg.vN (X.assign rfl) rfl ?_
 refine Rg.go ?_
 refine Cd.seq ?_
 obtain ⟨p18, hp19, h0⟩ := bind_s h0
 refine Cd.post (fun K w => ∃ (S20 : Mp), K = [(9, .int .u64 x9)] ∧ Le S14 S20 ∧ St w0 [b1] S0 S20 [.box b1 #[v2, .int .i64 r_0.at_, .bool p18] 101] w) ?_ ?_
 ·rintro K23 w21 ⟨S20, rfl, le22, hs⟩
  refine Cd.go ?_
  refine Cd.sr ?_
  refine Rg.vN (X.move rfl) rfl ?_
  refine Rg.vN (X.assign rfl) rfl ?_
  refine Rg.go ?_
  refine Cd.ret ?_
  have e := some_s h0
  subst e
  exact fun a ha => Cd.retA (P := Try.prog) (fn := Try.f81) (R := Re (Po81 S0 w0 [b1] b1 _)) ha Try.results81 ⟨_, _, rfl, rfl, rfl⟩ ⟨_, rfl, S20, v2, rfl, hs, (f3.mono (le16.trans le22))⟩
 ·skip
  refine Cd.region ?_
  refine Rg.vN (X.move rfl) rfl ?_
  refine Rg.vN (X.move rfl) rfl ?_
  refine Rg.vN (X.nilCheck rfl) rfl ?_
  refine Rg.vN (X.fieldB Try.underlying101 rfl zz4 rfl rfl) rfl ?_
  refine Rg.vN (X.load1 Try.underlying4 rfl rfl (hs.cell 0 rfl 2 rfl)) rfl ?_
  refine Rg.vN (X.move rfl) rfl ?_
  refine Rg.vF rfl rfl rfl (fun hW => X.move rfl) ?_
  refine Rg.weak [(7, .int .i64 (cv .i64 (shr .u64 n_1 bits_2))), (8, .int .u32 (cv .u32 (band .u64 n_1 (sub .u64 (shl .u64 1 bits_2) 1)))), (9, .int .u64 x9), (24, .pointer (some ⟨b1, 0, none⟩)), (29, .bool r_0.bad_), (30, gv (!r_0.bad_) (.int .u64 x9))] ⟨rfl, rfl, rfl, rfl, rfl, rfl, trivial⟩ ?_
  refine Rg.vF rfl rfl rfl (fun hW => X.move rfl) ?_
  refine Rg.split (c := r_0.bad_) (tj := 29) rfl (fun hc24 => ?_) (fun hc24 => ?_)
  ·have hp19 := ite_t hc24 hp19
   refine Rg.weak [(8, .int .u32 (cv .u32 (band .u64 n_1 (sub .u64 (shl .u64 1 bits_2) 1)))), (9, .int .u64 x9), (24, .pointer (some ⟨b1, 0, none⟩)), (29, .bool true), (30, undef), (31, undef)] ⟨rfl, rfl, rfl, rfl, get_u rfl (nn hc24), get_u rfl (nn hc24), trivial⟩ ?_
   refine Rg.vO rfl rfl rfl rfl ?_
   refine Rg.vO rfl rfl rfl rfl ?_
   refine Rg.vO rfl rfl rfl rfl ?_
   refine Rg.vO rfl rfl rfl rfl ?_
   refine Rg.vN (X.pickT rfl rfl) rfl ?_
   refine Rg.vN (X.nilCheck rfl) rfl ?_
   refine Rg.vN (X.fieldB Try.underlying101 rfl zz4 rfl rfl) rfl ?_
   refine Rg.step rfl (Oq.store hs 0 rfl 2 zz4 rfl rfl rfl rfl rfl [.box b1 #[v2, .int .i64 r_0.at_, .bool true] 101] rfl (fun w25 hs => ?_))
   refine Rg.nil ?_
   have e := some_s hp19
   subst e
   exact fun a ha => ⟨[(9, .int .u64 x9)], ha.weak ⟨rfl, trivial⟩, S14, rfl, Le.refl _, hs⟩
  ·have hp19 := ite_f hc24 hp19
   refine Rg.weak [(8, .int .u32 (cv .u32 (band .u64 n_1 (sub .u64 (shl .u64 1 bits_2) 1)))), (9, .int .u64 x9), (24, .pointer (some ⟨b1, 0, none⟩)), (29, .bool false), (30, .int .u64 x9), (31, .int .i64 (cv .i64 (shr .u64 n_1 bits_2)))] ⟨rfl, rfl, rfl, rfl, get_g rfl (not_f hc24), get_g rfl (not_f hc24), trivial⟩ ?_
   refine Rg.gon rfl rfl rfl ?_
   obtain ⟨hg26, hp19⟩ := gd_s hp19
   refine Rg.vN (X.shr rfl rfl hg26) rfl ?_
   refine Rg.gon rfl rfl rfl ?_
   refine Rg.vN (X.move rfl) rfl ?_
   refine Rg.gon rfl rfl rfl ?_
   refine Rg.vN (X.conv Try.underlying27 Try.underlying30 rfl) rfl ?_
   refine Rg.gon rfl rfl rfl ?_
   refine Rg.vN (X.neq rfl rfl) rfl ?_
   refine Rg.vN (X.pickF rfl rfl) rfl ?_
   refine Rg.vN (X.nilCheck rfl) rfl ?_
   refine Rg.vN (X.fieldB Try.underlying101 rfl zz4 rfl rfl) rfl ?_
   refine Rg.step rfl (Oq.store hs 0 rfl 2 zz4 rfl rfl rfl rfl rfl [.box b1 #[v2, .int .i64 r_0.at_, .bool ((shr .u64 x9 (cv .i64 (shr .u64 n_1 bits_2))) != (cv .u64 (cv .u32 (band .u64 n_1 (sub .u64 (shl .u64 1 bits_2) 1)))))] 101] rfl (fun w27 hs => ?_))
   refine Rg.nil ?_
   have e := some_s hp19
   subst e
   exact fun a ha => ⟨[(9, .int .u64 x9)], ha.weak ⟨rfl, trivial⟩, S14, rfl, Le.refl _, hs⟩
noncomputable def rtcp_reader_tuple (r_0 : rtcp_reader) : Option (api_Tuple × rtcp_reader) :=
 (rtcp_reader_num (⟨r_0.b_, r_0.at_, r_0.bad_⟩ : rtcp_reader) 4).bind fun x9 =>
 (rtcp_reader_num (⟨x9.2.b_, x9.2.at_, x9.2.bad_⟩ : rtcp_reader) 4).bind fun x23 =>
 (rtcp_reader_rate (⟨x23.2.b_, x23.2.at_, x23.2.bad_⟩ : rtcp_reader) (shr .u64 x23.1 9) 17).bind fun x34 =>
 some ((⟨cv .u32 x9.1, x34.1, cv .i64 (band .u64 x23.1 511)⟩ : api_Tuple), x34.2)
def Po75 (S0 : Mp) (w0 : World) (D : List Nat) (b1 : Nat) (r : (api_Tuple × rtcp_reader)) (v : Value) (w1 : World) : Prop :=
  ∃ (S1 : Mp) (v5 : Value), v = .agg (#[.int .u32 r.1.Owner, .int .u64 r.1.Rate, .int .i64 r.1.Over]) ∧ St w0 D S0 S1 [.box b1 #[v5, .int .i64 r.2.at_, .bool r.2.bad_] 101] w1 ∧ Rd S1 1 (RI .u8) v5 r.2.b_
set_option maxHeartbeats 4000000 in
theorem c75 (S0 : Mp) {w0 : World} (b1 : Nat) (r_0 : rtcp_reader) (v2 : Value) (f3 : Rd S0 1 (RI .u8) v2 r_0.b_) (hs : St w0 [b1] S0 S0 [.box b1 #[v2, .int .i64 r_0.at_, .bool r_0.bad_] 101] w0) (r : (api_Tuple × rtcp_reader)) (h0 : rtcp_reader_tuple r_0 = some r) :
    Calls Try.prog 75 #[.pointer (some ⟨b1, 0, none⟩)] w0 (Re (Po75 S0 w0 [b1] b1 r)) := by
 unfold rtcp_reader_tuple at h0
 refine calls_of_cd Try.func75 rfl Try.ntmps75 rfl ?_
 refine Cd.sr ?_
 refine Rg.step rfl (Oq.alloc (cs := #[.int .u32 0, .int .u64 0, .int .i64 0]) hs ii57 rfl rfl rfl (fun b6 w7 hs => ?_))
 refine Rg.go ?_
 refine Cd.sr ?_
 refine Rg.vN (X.move rfl) rfl ?_
 obtain ⟨x9, hx10, h0⟩ := bind_s h0
 refine Rg.step rfl (Oq.call Try.call72 rfl rfl (c72 S0 _ (⟨r_0.b_, r_0.at_, r_0.bad_⟩ : rtcp_reader) _ f3 _ (hs.enter 1 rfl rfl) _ hx10) (fun v11 w12 h13 => ?_))
 obtain ⟨S14, v17, rfl, hs15, f18⟩ := h13
 have _ := 0
 have le16 : Le S0 S14 := hs15.le
 have hs := hs.call1 1 rfl rfl hs15
 refine Rg.vN (X.conv Try.underlying30 Try.underlying27 rfl) rfl ?_
 refine Rg.vN (X.build (zc := [.int .u32 0, .int .u64 0, .int .i64 0]) (cells := [.int .u32 (cv .u32 x9.1), .int .u64 0, .int .i64 0]) ii57 rfl rfl Try.underlying57 (pp57 _ Try.underlying57) ⟨_, [.int .u32 (cv .u32 x9.1)], _, rfl, rfl, rfl, rfl⟩ rfl) rfl ?_
 refine Rg.step rfl (Oq.alloc (cs := #[.int .u32 0, .int .u64 0, .int .i64 0]) hs ii57 rfl rfl rfl (fun b19 w20 hs => ?_))
 refine Rg.step rfl (Oq.storeN hs 0 rfl (vals := [.int .u32 (cv .u32 x9.1), .int .u64 0, .int .i64 0]) zz57 rfl rfl (one_all ⟨rfl, rfl, rfl, trivial⟩) rfl [.box b19 #[.int .u32 (cv .u32 x9.1), .int .u64 0, .int .i64 0] 57, .box b1 #[v17, .int .i64 x9.2.at_, .bool x9.2.bad_] 101, .box b6 #[.int .u32 0, .int .u64 0, .int .i64 0] 57] rfl (fun w22 hs => ?_))
 refine Rg.go ?_
 refine Cd.sr ?_
 refine Rg.vN (X.move rfl) rfl ?_
 obtain ⟨x23, hx24, h0⟩ := bind_s h0
 refine Rg.step rfl (Oq.call Try.call72 rfl rfl (c72 S14 _ (⟨x9.2.b_, x9.2.at_, x9.2.bad_⟩ : rtcp_reader) _ f18 _ (hs.enter 1 rfl rfl) _ hx24) (fun v25 w26 h27 => ?_))
 obtain ⟨S28, v31, rfl, hs29, f32⟩ := h27
 have _ := 0
 have le30 : Le S14 S28 := hs29.le
 have hs := hs.call1 1 rfl rfl hs29
 refine Rg.vN (X.assign rfl) rfl ?_
 refine Rg.go ?_
 refine Cd.sr ?_
 refine Rg.vN (X.move rfl) rfl ?_
 refine Rg.vN (X.and rfl rfl) rfl ?_
 refine Rg.vN (X.conv Try.underlying30 Try.underlying3 rfl) rfl ?_
 refine Rg.vN (X.fieldB Try.underlying57 rfl zz3 rfl rfl) rfl ?_
 refine Rg.step rfl (Oq.store hs 1 rfl 2 zz3 rfl rfl rfl rfl rfl [.box b1 #[v31, .int .i64 x23.2.at_, .bool x23.2.bad_] 101, .box b19 #[.int .u32 (cv .u32 x9.1), .int .u64 0, .int .i64 (cv .i64 (band .u64 x23.1 511))] 57, .box b6 #[.int .u32 0, .int .u64 0, .int .i64 0] 57] rfl (fun w33 hs => ?_))
 refine Rg.go ?_
 refine Cd.sr ?_
 refine Rg.vN (X.move rfl) rfl ?_
 refine Rg.vN (X.move rfl) rfl ?_
 refine Rg.vN (X.shr rfl rfl (by decide)) rfl ?_
 obtain ⟨x34, hx35, h0⟩ := bind_s h0
 refine Rg.step rfl (Oq.call Try.call81 rfl rfl (c81 S28 _ (⟨x23.2.b_, x23.2.at_, x23.2.bad_⟩ : rtcp_reader) _ f32 _ _ (hs.enter 0 rfl rfl) _ hx35) (fun v36 w37 h38 => ?_))
 obtain ⟨S39, v42, rfl, hs40, f43⟩ := h38
 have _ := 0
 have le41 : Le S28 S39 := hs40.le
 have hs := hs.call1 0 rfl rfl hs40
 refine Rg.vN (X.fieldB Try.underlying57 rfl zz30 rfl rfl) rfl ?_
 refine Rg.step rfl (Oq.store hs 1 rfl 1 zz30 rfl rfl rfl rfl rfl [.box b1 #[v42, .int .i64 x34.2.at_, .bool x34.2.bad_] 101, .box b19 #[.int .u32 (cv .u32 x9.1), .int .u64 x34.1, .int .i64 (cv .i64 (band .u64 x23.1 511))] 57, .box b6 #[.int .u32 0, .int .u64 0, .int .i64 0] 57] rfl (fun w44 hs => ?_))
 refine Rg.go ?_
 refine Cd.sr ?_
 refine Rg.vN (X.loadN (vals := [.int .u32 (cv .u32 x9.1), .int .u64 x34.1, .int .i64 (cv .i64 (band .u64 x23.1 511))]) Try.underlying57 rfl zz57 rfl (hs.range 1 rfl 0 rfl)) rfl ?_
 refine Rg.step rfl (Oq.storeN hs 2 rfl (vals := [.int .u32 (cv .u32 x9.1), .int .u64 x34.1, .int .i64 (cv .i64 (band .u64 x23.1 511))]) zz57 rfl rfl (one_all ⟨rfl, rfl, rfl, trivial⟩) rfl [.box b1 #[v42, .int .i64 x34.2.at_, .bool x34.2.bad_] 101, .box b19 #[.int .u32 (cv .u32 x9.1), .int .u64 x34.1, .int .i64 (cv .i64 (band .u64 x23.1 511))] 57, .box b6 #[.int .u32 (cv .u32 x9.1), .int .u64 x34.1, .int .i64 (cv .i64 (band .u64 x23.1 511))] 57] rfl (fun w45 hs => ?_))
 refine Rg.go ?_
 refine Cd.ret ?_
 have e := some_s h0
 subst e
 exact fun a ha => Cd.retA (P := Try.prog) (fn := Try.f75) (R := Re (Po75 S0 w0 [b1] b1 _)) ha Try.results75 ⟨_, _, _, rfl, rfl, run_lvN (vals := [.int .u32 (cv .u32 x9.1), .int .u64 x34.1, .int .i64 (cv .i64 (band .u64 x23.1 511))]) Try.underlying57 rfl zz57 (hs.range 2 rfl 0 rfl), rfl⟩ ⟨_, rfl, S39, v42, rfl, (hs.pick [0] (by decide) rfl), f43⟩
noncomputable def rtcp_reader_remb_l0 (q82 : (List Int)) (q83 : Int) (q84 : Bool) (q85 : (List Int)) : Option (Flow ((List Int) × Int × Bool × (List Int)) (rtcp_reader × api_Report)) :=
 (rtcp_reader_left (⟨q82, q83, q84⟩ : rtcp_reader)).bind fun x100 =>
 if x100.1 = true then (
  ((
   ((
    (rtcp_reader_num (⟨x100.2.b_, x100.2.at_, x100.2.bad_⟩ : rtcp_reader) 4).bind fun x144 =>
    (app 4 q85 ([cv .u32 x144.1] : List Int)).bind fun y161 =>
    some (x144.2.b_, x144.2.at_, x144.2.bad_, y161) : Option ((List Int) × Int × Bool × (List Int)))).bind fun p131 =>
   some (p131.1, p131.2.1, p131.2.2.1, p131.2.2.2) : Option ((List Int) × Int × Bool × (List Int)))).bind fun p115 =>
  some (Flow.next (p115.1, p115.2.1, p115.2.2.1, p115.2.2.2)))
 else (
  some (Flow.brk (x100.2.b_, x100.2.at_, x100.2.bad_, q85)))
noncomputable def rtcp_reader_remb (G_0 : rtcp_reader) (o_1 : api_Report) : Option (rtcp_reader × api_Report) :=
 ((
  (rtcp_reader_num (⟨G_0.b_, G_0.at_, G_0.bad_⟩ : rtcp_reader) 4).bind fun x174 =>
  some (x174.2.b_, x174.2.at_, (x174.1 != (bor .u64 (bor .u64 (bor .u64 (shl .u64 (cv .u64 82) 24) (shl .u64 (cv .u64 69) 16)) (shl .u64 (cv .u64 77) 8)) (cv .u64 66))) || x174.2.bad_) : Option ((List Int) × Int × Bool))).bind fun p26 =>
 (rtcp_reader_num (⟨p26.1, p26.2.1, p26.2.2⟩ : rtcp_reader) 1).bind fun x34 =>
 (rtcp_reader_num (⟨x34.2.b_, x34.2.at_, x34.2.bad_⟩ : rtcp_reader) 3).bind fun x44 =>
 (rtcp_reader_rate (⟨x44.2.b_, x44.2.at_, x44.2.bad_⟩ : rtcp_reader) x44.1 18).bind fun x54 =>
 (loopF (fun sg => rtcp_reader_remb_l0 sg.1 sg.2.1 sg.2.2.1 sg.2.2.2) (x54.2.b_, x54.2.at_, x54.2.bad_, o_1.Abouts)).bind fun fl65 =>
 Flow.el fl65 (fun s170 => (
  none))
 (fun s171 => (
  some ((⟨s171.1, s171.2.1, (s171.2.2.1 || (x34.1 != (cv .u64 (s171.2.2.2.length : Int)))) || (decide (16 < x34.1))⟩ : rtcp_reader), (⟨o_1.Kind, o_1.From, o_1.About, o_1.Tuples, s171.2.2.2, o_1.Numbers, x54.1, o_1.Type_, o_1.Count, o_1.Body⟩ : api_Report))))
 (fun r172 => (
  none))
def Po76 (S0 : Mp) (w0 : World) (D : List Nat) (b1 : Nat) (b5 : Nat) (r : (rtcp_reader × api_Report)) (v : Value) (w1 : World) : Prop :=
  ∃ (S1 : Mp) (v17 : Value) (v18 : Value) (v19 : Value) (v20 : Value) (v21 : Value) (g22 : Option Nat), v = .tuple #[] ∧ St w0 D S0 S1 [.app g22 v19 r.2.Abouts.length 27 1, .box b1 #[v17, .int .i64 r.1.at_, .bool r.1.bad_] 101, .box b5 #[.int .i64 r.2.Kind, .int .u32 r.2.From, .int .u32 r.2.About, v18, v19, v20, .int .u64 r.2.Rate, .int .i64 r.2.Type_, .int .i64 r.2.Count, v21] 33] w1 ∧ Rd S1 1 (RI .u8) v17 r.1.b_ ∧ Rd S1 3 R_api_Tuple v18 r.2.Tuples ∧ Rd S1 1 (RI .u32) v19 r.2.Abouts ∧ Rd S1 1 (RI .i64) v20 r.2.Numbers ∧ Rd S1 1 (RI .u8) v21 r.2.Body
set_option maxHeartbeats 4000000 in
theorem c76 (S0 : Mp) {w0 : World} (b1 : Nat) (G_0 : rtcp_reader) (v2 : Value) (f3 : Rd S0 1 (RI .u8) v2 G_0.b_) (b5 : Nat) (o_1 : api_Report) (v6 : Value) (f7 : Rd S0 3 R_api_Tuple v6 o_1.Tuples) (v8 : Value) (f9 : Rd S0 1 (RI .u32) v8 o_1.Abouts) (v10 : Value) (f11 : Rd S0 1 (RI .i64) v10 o_1.Numbers) (v12 : Value) (f13 : Rd S0 1 (RI .u8) v12 o_1.Body) (g15 : Option Nat) (hs : St w0 (b1 :: b5 :: g15.toList) S0 S0 [.box b1 #[v2, .int .i64 G_0.at_, .bool G_0.bad_] 101, .box b5 #[.int .i64 o_1.Kind, .int .u32 o_1.From, .int .u32 o_1.About, v6, v8, v10, .int .u64 o_1.Rate, .int .i64 o_1.Type_, .int .i64 o_1.Count, v12] 33, .app g15 v8 o_1.Abouts.length 27 1] w0) (r : (rtcp_reader × api_Report)) (h0 : rtcp_reader_remb G_0 o_1 = some r) :
    Calls Try.prog 76 #[.pointer (some ⟨b1, 0, none⟩), .pointer (some ⟨b5, 0, none⟩)] w0 (Re (Po76 S0 w0 (b1 :: b5 :: g15.toList) b1 b5 r)) := by
 unfold rtcp_reader_remb at h0
 refine calls_of_cd Try.func76 rfl Try.ntmps76 rfl ?_
 refine Cd.seq ?_
 obtain ⟨p26, hp27, h0⟩ := bind_s h0
 obtain ⟨j23, j24, j25⟩ := p26
 dsimp only at h0
 refine Cd.post (fun K w => ∃ (S28 : Mp) (v31 : Value), K = [(0, .pointer (some ⟨b1, 0, none⟩)), (1, .pointer (some ⟨b5, 0, none⟩))] ∧ Le S0 S28 ∧ St w0 (b1 :: b5 :: g15.toList) S0 S28 [.box b1 #[v31, .int .i64 j24, .bool j25] 101, .box b5 #[.int .i64 o_1.Kind, .int .u32 o_1.From, .int .u32 o_1.About, v6, v8, v10, .int .u64 o_1.Rate, .int .i64 o_1.Type_, .int .i64 o_1.Count, v12] 33, .app g15 v8 o_1.Abouts.length 27 1] w ∧ Rd S28 1 (RI .u8) v31 j23) ?_ ?_
 ·rintro K33 w29 ⟨S28, v31, rfl, le30, hs, f32⟩
  refine Cd.go ?_
  refine Cd.sr ?_
  refine Rg.vN (X.move rfl) rfl ?_
  obtain ⟨x34, hx35, h0⟩ := bind_s h0
  refine Rg.step rfl (Oq.call Try.call72 rfl rfl (c72 S28 _ (⟨j23, j24, j25⟩ : rtcp_reader) _ f32 _ (hs.enter 0 rfl rfl) _ hx35) (fun v36 w37 h38 => ?_))
  obtain ⟨S39, v42, rfl, hs40, f43⟩ := h38
  have _ := 0
  have le41 : Le S28 S39 := hs40.le
  have hs := hs.call1 0 rfl rfl hs40
  refine Rg.vN (X.assign rfl) rfl ?_
  refine Rg.go ?_
  refine Cd.sr ?_
  refine Rg.vN (X.move rfl) rfl ?_
  obtain ⟨x44, hx45, h0⟩ := bind_s h0
  refine Rg.step rfl (Oq.call Try.call72 rfl rfl (c72 S39 _ (⟨x34.2.b_, x34.2.at_, x34.2.bad_⟩ : rtcp_reader) _ f43 _ (hs.enter 0 rfl rfl) _ hx45) (fun v46 w47 h48 => ?_))
  obtain ⟨S49, v52, rfl, hs50, f53⟩ := h48
  have _ := 0
  have le51 : Le S39 S49 := hs50.le
  have hs := hs.call1 0 rfl rfl hs50
  refine Rg.vN (X.assign rfl) rfl ?_
  refine Rg.go ?_
  refine Cd.sr ?_
  refine Rg.vN (X.move rfl) rfl ?_
  refine Rg.vN (X.move rfl) rfl ?_
  refine Rg.vN (X.move rfl) rfl ?_
  obtain ⟨x54, hx55, h0⟩ := bind_s h0
  refine Rg.step rfl (Oq.call Try.call81 rfl rfl (c81 S49 _ (⟨x44.2.b_, x44.2.at_, x44.2.bad_⟩ : rtcp_reader) _ f53 _ _ (hs.enter 0 rfl rfl) _ hx55) (fun v56 w57 h58 => ?_))
  obtain ⟨S59, v62, rfl, hs60, f63⟩ := h58
  have _ := 0
  have le61 : Le S49 S59 := hs60.le
  have hs := hs.call1 0 rfl rfl hs60
  refine Rg.vN (X.nilCheck rfl) rfl ?_
  refine Rg.vN (X.fieldB Try.underlying33 rfl zz30 rfl rfl) rfl ?_
  refine Rg.step rfl (Oq.store hs 1 rfl 6 zz30 rfl rfl rfl rfl rfl [.box b1 #[v62, .int .i64 x54.2.at_, .bool x54.2.bad_] 101, .box b5 #[.int .i64 o_1.Kind, .int .u32 o_1.From, .int .u32 o_1.About, v6, v8, v10, .int .u64 x54.1, .int .i64 o_1.Type_, .int .i64 o_1.Count, v12] 33, .app g15 v8 o_1.Abouts.length 27 1] rfl (fun w64 hs => ?_))
  refine Rg.go ?_
  refine Cd.seq ?_
  obtain ⟨fl65, hfl66, h0⟩ := bind_s h0
  refine Cd.post (fun K w => ∃ (j67 : (List Int)) (j68 : Int) (j69 : Bool) (j70 : (List Int)) (S71 : Mp) (v73 : Value) (v75 : Value) (g77 : Option Nat), K = [(0, .pointer (some ⟨b1, 0, none⟩)), (1, .pointer (some ⟨b5, 0, none⟩)), (4, .int .u64 x34.1)] ∧ fl65 = Flow.brk (j67, j68, j69, j70) ∧ Le S59 S71 ∧ St w0 (b1 :: b5 :: g15.toList) S0 S71 [.box b1 #[v73, .int .i64 j68, .bool j69] 101, .box b5 #[.int .i64 o_1.Kind, .int .u32 o_1.From, .int .u32 o_1.About, v6, v75, v10, .int .u64 x54.1, .int .i64 o_1.Type_, .int .i64 o_1.Count, v12] 33, .app g77 v75 j70.length 27 1] w ∧ Rd S71 1 (RI .u8) v73 j67 ∧ Rd S71 1 (RI .u32) v75 j70) ?_ ?_
  ·rintro K80 w79 ⟨j67, j68, j69, j70, S71, v73, v75, g77, rfl, rfl, le72, hs, f74, f76⟩
   have h0 := el_brk h0
   try dsimp only at h0
   refine Cd.go ?_
   refine Cd.region ?_
   refine Rg.vN (X.move rfl) rfl ?_
   refine Rg.vN (X.move rfl) rfl ?_
   refine Rg.vN (X.nilCheck rfl) rfl ?_
   refine Rg.vN (X.fieldB Try.underlying101 rfl zz4 rfl rfl) rfl ?_
   refine Rg.vN (X.load1 Try.underlying4 rfl rfl (hs.cell 0 rfl 2 rfl)) rfl ?_
   refine Rg.vN (X.move rfl) rfl ?_
   refine Rg.weak [(1, .pointer (some ⟨b5, 0, none⟩)), (4, .int .u64 x34.1), (56, .pointer (some ⟨b1, 0, none⟩)), (61, .bool j69)] ⟨rfl, rfl, rfl, rfl, trivial⟩ ?_
   refine Rg.vF rfl rfl rfl (fun hW => X.move rfl) ?_
   refine Rg.vF rfl rfl rfl (fun hW => X.move rfl) ?_
   refine Rg.vF rfl rfl rfl (fun hW => X.nilCheck (ev_g rfl hW)) ?_
   refine Rg.vF rfl rfl rfl (fun hW => X.fieldB Try.underlying33 rfl zz29 (ev_g rfl hW) rfl) ?_
   refine Rg.vF rfl rfl rfl (fun hW => X.load1 Try.underlying29 rfl (ev_g rfl hW) (hs.cell 1 rfl 4 rfl)) ?_
   refine Rg.vF rfl rfl rfl (fun hW => X.lenR Try.underlying29 (ev_g rfl hW) f76) ?_
   refine Rg.vF rfl rfl rfl (fun hW => X.conv Try.underlying3 Try.underlying30 (ev_g rfl hW)) ?_
   refine Rg.vF rfl rfl rfl (fun hW => X.neq (ev_g rfl hW) (ev_g rfl hW)) ?_
   refine Rg.vN (X.pickOr rfl rfl rfl) rfl ?_
   refine Rg.vN (X.move rfl) rfl ?_
   refine Rg.vF rfl rfl rfl (fun hW => X.move rfl) ?_
   refine Rg.weak [(56, .pointer (some ⟨b1, 0, none⟩)), (71, .bool (j69 || (x34.1 != (cv .u64 (j70.length : Int))))), (72, gv (!(j69 || (x34.1 != (cv .u64 (j70.length : Int))))) (.int .u64 x34.1))] ⟨rfl, rfl, rfl, trivial⟩ ?_
   refine Rg.vF rfl rfl rfl (fun hW => X.gtr (ev_g rfl hW) rfl) ?_
   refine Rg.vN (X.pickOr rfl rfl rfl) rfl ?_
   refine Rg.vN (X.nilCheck rfl) rfl ?_
   refine Rg.vN (X.fieldB Try.underlying101 rfl zz4 rfl rfl) rfl ?_
   refine Rg.step rfl (Oq.store hs 0 rfl 2 zz4 rfl rfl rfl rfl rfl [.box b1 #[v73, .int .i64 j68, .bool ((j69 || (x34.1 != (cv .u64 (j70.length : Int)))) || (decide (16 < x34.1)))] 101, .box b5 #[.int .i64 o_1.Kind, .int .u32 o_1.From, .int .u32 o_1.About, v6, v75, v10, .int .u64 x54.1, .int .i64 o_1.Type_, .int .i64 o_1.Count, v12] 33, .app g77 v75 j70.length 27 1] rfl (fun w81 hs => ?_))
   refine Rg.nil ?_
   have e := some_s h0
   subst e
   exact fun a ha => Cd.fallA (P := Try.prog) (fn := Try.f76) (R := Re (Po76 S0 w0 (b1 :: b5 :: g15.toList) b1 b5 _)) ha Try.results76 ⟨_, rfl, S71, v73, v6, v75, v10, v12, g77, rfl, (hs.pick [2, 0, 1] (by decide) rfl), f74, (f7.mono (le30.trans (le41.trans (le51.trans (le61.trans le72))))), f76, (f11.mono (le30.trans (le41.trans (le51.trans (le61.trans le72))))), (f13.mono (le30.trans (le41.trans (le51.trans (le61.trans le72)))))⟩
  ·skip
   refine Cd.weak [(0, .pointer (some ⟨b1, 0, none⟩)), (1, .pointer (some ⟨b5, 0, none⟩)), (4, .int .u64 x34.1)] ⟨rfl, rfl, rfl, trivial⟩ ?_
   refine Cd.block (Cd.loop (fun sg => rtcp_reader_remb_l0 sg.1 sg.2.1 sg.2.2.1 sg.2.2.2) (fun (sg : ((List Int) × Int × Bool × (List Int))) K w => ∃ (S86 : Mp) (v88 : Value) (v90 : Value) (g92 : Option Nat), K = [(0, .pointer (some ⟨b1, 0, none⟩)), (1, .pointer (some ⟨b5, 0, none⟩)), (4, .int .u64 x34.1)] ∧ Le S59 S86 ∧ St w0 (b1 :: b5 :: g15.toList) S0 S86 [.box b1 #[v88, .int .i64 sg.2.1, .bool sg.2.2.1] 101, .box b5 #[.int .i64 o_1.Kind, .int .u32 o_1.From, .int .u32 o_1.About, v6, v90, v10, .int .u64 x54.1, .int .i64 o_1.Type_, .int .i64 o_1.Count, v12] 33, .app g92 v90 sg.2.2.2.length 27 1] w ∧ Rd S86 1 (RI .u8) v88 sg.1 ∧ Rd S86 1 (RI .u32) v90 sg.2.2.2) (x54.2.b_, x54.2.at_, x54.2.bad_, o_1.Abouts) fl65 hfl66 ⟨S59, v62, v8, g15, rfl, Le.refl _, hs, f63, (f9.mono (le30.trans (le41.trans (le51.trans le61))))⟩ ?_)
   rintro ⟨q82, q83, q84, q85⟩ fl94 K99 w98 hb95 ⟨S86, v88, v90, g92, rfl, le87, hs, f89, f91⟩ hl96
   have h97 : rtcp_reader_remb_l0 q82 q83 q84 q85 = some fl94 := hb95
   unfold rtcp_reader_remb_l0 at h97
   refine Cd.seq ?_
   refine Cd.sr ?_
   refine Rg.vN (X.move rfl) rfl ?_
   obtain ⟨x100, hx101, h97⟩ := bind_s h97
   refine Rg.step rfl (Oq.call Try.call74 rfl rfl (c74 S86 _ (⟨q82, q83, q84⟩ : rtcp_reader) _ f89 (hs.enter 0 rfl rfl) _ hx101) (fun v102 w103 h104 => ?_))
   obtain ⟨S105, v108, rfl, hs106, f109⟩ := h104
   have _ := 0
   have le107 : Le S86 S105 := hs106.le
   have hs := hs.call1 0 rfl rfl hs106
   refine Rg.go ?_
   refine Cd.cond (t := x100.1) rfl (fun hc110 => ?_) (fun hc110 => ?_)
   ·have h97 := ite_t hc110 h97
    refine Cd.sg ?_
    obtain ⟨p115, hp116, h97⟩ := bind_s h97
    obtain ⟨j111, j112, j113, j114⟩ := p115
    dsimp only at h97
    refine Cd.post (fun K w => ∃ (S117 : Mp) (v120 : Value) (v122 : Value) (g124 : Option Nat), K = [(0, .pointer (some ⟨b1, 0, none⟩)), (1, .pointer (some ⟨b5, 0, none⟩)), (4, .int .u64 x34.1)] ∧ Le S105 S117 ∧ St w0 (b1 :: b5 :: g15.toList) S0 S117 [.box b1 #[v120, .int .i64 j112, .bool j113] 101, .box b5 #[.int .i64 o_1.Kind, .int .u32 o_1.From, .int .u32 o_1.About, v6, v122, v10, .int .u64 x54.1, .int .i64 o_1.Type_, .int .i64 o_1.Count, v12] 33, .app g124 v122 j114.length 27 1] w ∧ Rd S117 1 (RI .u8) v120 j111 ∧ Rd S117 1 (RI .u32) v122 j114) ?_ ?_
    ·rintro K126 w118 ⟨S117, v120, v122, g124, rfl, le119, hs, f121, f123⟩
     exact fun a ha => ⟨(j111, j112, j113, j114), [(0, .pointer (some ⟨b1, 0, none⟩)), (1, .pointer (some ⟨b5, 0, none⟩)), (4, .int .u64 x34.1)], (some_s h97).symm, ha.weak ⟨rfl, rfl, rfl, trivial⟩, S117, v120, v122, g124, rfl, (le87.trans (le107.trans le119)), hs, f121, f123⟩
    ·skip
     refine Cd.block ?_
     obtain ⟨p131, hp132, hp116⟩ := bind_s hp116
     obtain ⟨j127, j128, j129, j130⟩ := p131
     dsimp only at hp116
     refine Cd.post (fun K w => ∃ (S133 : Mp) (v136 : Value) (v138 : Value) (g140 : Option Nat), K = [(0, .pointer (some ⟨b1, 0, none⟩)), (1, .pointer (some ⟨b5, 0, none⟩)), (4, .int .u64 x34.1)] ∧ Le S105 S133 ∧ St w0 (b1 :: b5 :: g15.toList) S0 S133 [.box b1 #[v136, .int .i64 j128, .bool j129] 101, .box b5 #[.int .i64 o_1.Kind, .int .u32 o_1.From, .int .u32 o_1.About, v6, v138, v10, .int .u64 x54.1, .int .i64 o_1.Type_, .int .i64 o_1.Count, v12] 33, .app g140 v138 j130.length 27 1] w ∧ Rd S133 1 (RI .u8) v136 j127 ∧ Rd S133 1 (RI .u32) v138 j130) ?_ ?_
     ·rintro K142 w134 ⟨S133, v136, v138, g140, rfl, le135, hs, f137, f139⟩
      have e := some_s hp116
      cases e
      exact fun a ha => ⟨[(0, .pointer (some ⟨b1, 0, none⟩)), (1, .pointer (some ⟨b5, 0, none⟩)), (4, .int .u64 x34.1)], ha.weak ⟨rfl, rfl, rfl, trivial⟩, S133, v136, v138, g140, rfl, le135, hs, f137, f139⟩
     ·skip
      refine Cd.rD mixed (fun l w => Has S105 w ∧ (l.getD 12 false = false → Hp b5 #[.int .i64 o_1.Kind, .int .u32 o_1.From, .int .u32 o_1.About, v6, v90, v10, .int .u64 x54.1, .int .i64 o_1.Type_, .int .i64 o_1.Count, v12] 33 w)) hs (fun _ _ _ _ _ h => h) (by kernel_rfl) (fun w143 hs => ⟨⟨hs.has, (fun _ => hs.heap 1 rfl)⟩, ?_⟩)
      refine Rk.uN 0 rfl (by kernel_rfl) rfl (fun _ _ => by simp only [getD_set_ne false (show (0 : Nat) ≠ 12 by decide)]) (fun l w hl hcl hc => X.move rfl) ?_
      refine Rk.uN 1 rfl (by kernel_rfl) rfl (fun _ _ => by simp only [getD_set_ne false (show (1 : Nat) ≠ 12 by decide)]) (fun l w hl hcl hc => X.move rfl) ?_
      refine Rk.uN 2 rfl (by kernel_rfl) rfl (fun _ _ => by simp only [getD_set_ne false (show (2 : Nat) ≠ 12 by decide)]) (fun l w hl hcl hc => X.nilCheck rfl) ?_
      refine Rk.uN 3 rfl (by kernel_rfl) rfl (fun _ _ => by simp only [getD_set_ne false (show (3 : Nat) ≠ 12 by decide)]) (fun l w hl hcl hc => X.fieldB Try.underlying33 rfl zz29 rfl rfl) ?_
      refine Rk.uN 4 rfl (by kernel_rfl) rfl (fun _ _ => by simp only [getD_set_ne false (show (4 : Nat) ≠ 12 by decide)]) (fun l w hl hcl hc => X.load1 Try.underlying29 rfl rfl (heap_cell (hc.2 (hcl.lt rfl (by kernel_rfl) hl)) rfl)) ?_
      refine Rk.uN 5 rfl (by kernel_rfl) rfl (fun _ _ => by simp only [getD_set_ne false (show (5 : Nat) ≠ 12 by decide)]) (fun l w hl hcl hc => X.move rfl) ?_
      obtain ⟨x144, hx145, hp132⟩ := bind_s hp132
      refine Rk.eN 6 rfl (by kernel_rfl) rfl (Oq.call Try.call72 rfl rfl (c72 S105 _ (⟨x100.2.b_, x100.2.at_, x100.2.bad_⟩ : rtcp_reader) _ f109 _ (hs.enter 0 rfl rfl) _ hx145) (fun v146 w147 h148 => ?_))
      obtain ⟨S149, v152, rfl, hs150, f153⟩ := h148
      have _ := 0
      have le151 : Le S105 S149 := hs150.le
      have hs := hs.call1 0 rfl rfl hs150
      refine ⟨⟨(hs.has.down le151), (fun _ => hs.heap 1 rfl)⟩, Rk.mk (C' := fun l w => Has S149 w ∧ (l.getD 12 false = false → Hp b5 #[.int .i64 o_1.Kind, .int .u32 o_1.From, .int .u32 o_1.About, v6, v90, v10, .int .u64 x54.1, .int .i64 o_1.Type_, .int .i64 o_1.Count, v12] 33 w)) ⟨hs.has, (fun _ => hs.heap 1 rfl)⟩ (fun l w hc => ⟨hc.1.down le151, hc.2⟩) ?_⟩
      refine Rk.uN 7 rfl (by kernel_rfl) rfl (fun _ _ => by simp only [getD_set_ne false (show (7 : Nat) ≠ 12 by decide)]) (fun l w hl hcl hc => X.conv Try.underlying30 Try.underlying27 rfl) ?_
      refine Rk.weak [(0, .pointer (some ⟨b1, 0, none⟩)), (1, .pointer (some ⟨b5, 0, none⟩)), (4, .int .u64 x34.1), (44, .pointer (some ⟨b5, 0, none⟩)), (48, v90), (51, .int .u32 (cv .u32 x144.1))] ⟨rfl, rfl, rfl, rfl, rfl, rfl, trivial⟩ ?_
      refine Rk.eN 8 rfl (by kernel_rfl) rfl (Oq.lit (sz := 1) (cs0 := [.int .u32 0]) (cells := [.int .u32 (cv .u32 x144.1)]) hs Try.underlying29 ii27 rfl rfl rfl rfl rfl rfl ⟨_, [.int .u32 (cv .u32 x144.1)], _, rfl, rfl, rfl, rfl⟩ rfl rfl rfl (fun b154 w155 S156 hs le157 hE158 => ?_))
      have f160 : Rd S156 1 (RI .u32) (.slice (some ⟨b154, 0, none⟩) 1 1) ([cv .u32 x144.1] : List Int) := Rd.of_cells (xs := ([cv .u32 x144.1] : List Int)) ⟨[.int .u32 (cv .u32 x144.1)], _, rfl, rfl, one_all ⟨rfl, trivial⟩, rfl, rfl⟩ hE158 (Nat.le_of_ble_eq_true rfl) (Nat.le_of_ble_eq_true rfl)
      refine ⟨⟨(hs.has.down le157), (fun _ => hs.heap 2 rfl)⟩, Rk.mk (C' := fun l w => Has S156 w ∧ (l.getD 12 false = false → Hp b5 #[.int .i64 o_1.Kind, .int .u32 o_1.From, .int .u32 o_1.About, v6, v90, v10, .int .u64 x54.1, .int .i64 o_1.Type_, .int .i64 o_1.Count, v12] 33 w)) ⟨hs.has, (fun _ => hs.heap 2 rfl)⟩ (fun l w hc => ⟨hc.1.down le157, hc.2⟩) ?_⟩
      obtain ⟨y161, hx162, hp132⟩ := bind_s hp132
      refine Rk.eN 9 rfl (by kernel_rfl) rfl (Oq.appendS hs 3 rfl Try.underlying29 ii27 rfl rfl rfl rfl rfl rfl (f91.mono (le107.trans (le151.trans le157))) f160 hx162 rfl rfl rfl (fun v163 w164 S165 g166 hs le167 f168 => ?_))
      refine ⟨⟨(hs.has.down le167), (fun _ => hs.heap 2 rfl)⟩, Rk.mk (C' := fun l w => Has S165 w ∧ (l.getD 12 false = false → Hp b5 #[.int .i64 o_1.Kind, .int .u32 o_1.From, .int .u32 o_1.About, v6, v90, v10, .int .u64 x54.1, .int .i64 o_1.Type_, .int .i64 o_1.Count, v12] 33 w)) ⟨hs.has, (fun _ => hs.heap 2 rfl)⟩ (fun l w hc => ⟨hc.1.down le167, hc.2⟩) ?_⟩
      refine Rk.uN 10 rfl (by kernel_rfl) rfl (fun _ _ => by simp only [getD_set_ne false (show (10 : Nat) ≠ 12 by decide)]) (fun l w hl hcl hc => X.nilCheck rfl) ?_
      refine Rk.uN 11 rfl (by kernel_rfl) rfl (fun _ _ => by simp only [getD_set_ne false (show (11 : Nat) ≠ 12 by decide)]) (fun l w hl hcl hc => X.fieldB Try.underlying33 rfl zz29 rfl rfl) ?_
      refine Rk.eN 12 rfl (by kernel_rfl) rfl (Oq.store hs 2 rfl 4 zz29 rfl rfl f168.cells f168.one rfl [.app (some b154) (.slice (some ⟨b154, 0, none⟩) 1 1) ([cv .u32 x144.1] : List Int).length 27 1, .box b1 #[v152, .int .i64 x144.2.at_, .bool x144.2.bad_] 101, .box b5 #[.int .i64 o_1.Kind, .int .u32 o_1.From, .int .u32 o_1.About, v6, v163, v10, .int .u64 x54.1, .int .i64 o_1.Type_, .int .i64 o_1.Count, v12] 33, .app g166 v163 y161.length 27 1] rfl (fun w169 hs => ?_))
      refine ⟨⟨hs.has, (fun h => absurd h (by decide))⟩, ?_⟩
      refine Rk.done (by kernel_rfl) ?_
      have e := some_s hp132
      cases e
      exact fun a ha => ⟨[(0, .pointer (some ⟨b1, 0, none⟩)), (1, .pointer (some ⟨b5, 0, none⟩)), (4, .int .u64 x34.1)], ha.weak ⟨rfl, rfl, rfl, trivial⟩, S165, v152, v163, g166, rfl, (le151.trans (le157.trans le167)), (hs.pick [1, 2, 3] (by decide) rfl), (f153.mono (le157.trans le167)), f168⟩
   ·have h97 := ite_f hc110 h97
    refine Cd.exit ?_
    have e := some_s h97
    subst e
    have e := hl96 (fun _ e => by cases e)
    exact fun a ha => ⟨[(0, .pointer (some ⟨b1, 0, none⟩)), (1, .pointer (some ⟨b5, 0, none⟩)), (4, .int .u64 x34.1)], ha.weak ⟨rfl, rfl, rfl, trivial⟩, _, _, _, _, S105, v108, v90, g92, rfl, e.symm, (le87.trans le107), hs, f109, (f91.mono le107)⟩
 ·skip
  refine Cd.rD mixed (fun l w => Has S0 w ∧ (l.getD 2 false = false → Hp b1 #[v2, .int .i64 G_0.at_, .bool G_0.bad_] 101 w)) hs (fun _ _ _ _ _ h => h) (by kernel_rfl) (fun w173 hs => ⟨⟨hs.has, (fun _ => hs.heap 0 rfl)⟩, ?_⟩)
  refine Rk.uN 0 rfl (by kernel_rfl) rfl (fun _ _ => by simp only [getD_set_ne false (show (0 : Nat) ≠ 2 by decide)]) (fun l w hl hcl hc => X.move rfl) ?_
  refine Rk.uN 1 rfl (by kernel_rfl) rfl (fun _ _ => by simp only [getD_set_ne false (show (1 : Nat) ≠ 2 by decide)]) (fun l w hl hcl hc => X.move rfl) ?_
  refine Rk.uN 3 rfl (by kernel_rfl) rfl (fun _ _ => by simp only [getD_set_ne false (show (3 : Nat) ≠ 2 by decide)]) (fun l w hl hcl hc => X.indexSc Try.underlying9 rfl rfl (by decide) (b := 82) rfl rfl) ?_
  refine Rk.uN 4 rfl (by kernel_rfl) rfl (fun _ _ => by simp only [getD_set_ne false (show (4 : Nat) ≠ 2 by decide)]) (fun l w hl hcl hc => X.conv Try.underlying5 Try.underlying30 rfl) ?_
  refine Rk.uN 5 rfl (by kernel_rfl) rfl (fun _ _ => by simp only [getD_set_ne false (show (5 : Nat) ≠ 2 by decide)]) (fun l w hl hcl hc => X.shl rfl rfl (by decide)) ?_
  refine Rk.uN 6 rfl (by kernel_rfl) rfl (fun _ _ => by simp only [getD_set_ne false (show (6 : Nat) ≠ 2 by decide)]) (fun l w hl hcl hc => X.indexSc Try.underlying9 rfl rfl (by decide) (b := 69) rfl rfl) ?_
  refine Rk.uN 7 rfl (by kernel_rfl) rfl (fun _ _ => by simp only [getD_set_ne false (show (7 : Nat) ≠ 2 by decide)]) (fun l w hl hcl hc => X.conv Try.underlying5 Try.underlying30 rfl) ?_
  refine Rk.uN 8 rfl (by kernel_rfl) rfl (fun _ _ => by simp only [getD_set_ne false (show (8 : Nat) ≠ 2 by decide)]) (fun l w hl hcl hc => X.shl rfl rfl (by decide)) ?_
  refine Rk.uN 9 rfl (by kernel_rfl) rfl (fun _ _ => by simp only [getD_set_ne false (show (9 : Nat) ≠ 2 by decide)]) (fun l w hl hcl hc => X.or rfl rfl) ?_
  refine Rk.uN 10 rfl (by kernel_rfl) rfl (fun _ _ => by simp only [getD_set_ne false (show (10 : Nat) ≠ 2 by decide)]) (fun l w hl hcl hc => X.indexSc Try.underlying9 rfl rfl (by decide) (b := 77) rfl rfl) ?_
  refine Rk.uN 11 rfl (by kernel_rfl) rfl (fun _ _ => by simp only [getD_set_ne false (show (11 : Nat) ≠ 2 by decide)]) (fun l w hl hcl hc => X.conv Try.underlying5 Try.underlying30 rfl) ?_
  refine Rk.uN 12 rfl (by kernel_rfl) rfl (fun _ _ => by simp only [getD_set_ne false (show (12 : Nat) ≠ 2 by decide)]) (fun l w hl hcl hc => X.shl rfl rfl (by decide)) ?_
  refine Rk.uN 13 rfl (by kernel_rfl) rfl (fun _ _ => by simp only [getD_set_ne false (show (13 : Nat) ≠ 2 by decide)]) (fun l w hl hcl hc => X.or rfl rfl) ?_
  refine Rk.uN 14 rfl (by kernel_rfl) rfl (fun _ _ => by simp only [getD_set_ne false (show (14 : Nat) ≠ 2 by decide)]) (fun l w hl hcl hc => X.indexSc Try.underlying9 rfl rfl (by decide) (b := 66) rfl rfl) ?_
  refine Rk.uN 15 rfl (by kernel_rfl) rfl (fun _ _ => by simp only [getD_set_ne false (show (15 : Nat) ≠ 2 by decide)]) (fun l w hl hcl hc => X.conv Try.underlying5 Try.underlying30 rfl) ?_
  refine Rk.uN 16 rfl (by kernel_rfl) rfl (fun _ _ => by simp only [getD_set_ne false (show (16 : Nat) ≠ 2 by decide)]) (fun l w hl hcl hc => X.or rfl rfl) ?_
  obtain ⟨x174, hx175, hp27⟩ := bind_s hp27
  refine Rk.eN 2 rfl (by kernel_rfl) rfl (Oq.call Try.call72 rfl rfl (c72 S0 _ (⟨G_0.b_, G_0.at_, G_0.bad_⟩ : rtcp_reader) _ f3 _ (hs.enter 0 rfl rfl) _ hx175) (fun v176 w177 h178 => ?_))
  obtain ⟨S179, v182, rfl, hs180, f183⟩ := h178
  have _ := 0
  have le181 : Le S0 S179 := hs180.le
  have hs := hs.call1 0 rfl rfl hs180
  refine ⟨⟨(hs.has.down le181), (fun h => absurd h (by decide))⟩, Rk.mk (C' := fun l w => Has S179 w ∧ (l.getD 26 false = false → Hp b1 #[v182, .int .i64 x174.2.at_, .bool x174.2.bad_] 101 w) ∧ (l.getD 2 false = false → Hp b1 #[v2, .int .i64 G_0.at_, .bool G_0.bad_] 101 w)) ⟨hs.has, (fun _ => hs.heap 0 rfl), (fun h => absurd h (by decide))⟩ (fun l w hc => ⟨hc.1.down le181, hc.2.2⟩) ?_⟩
  refine Rk.uN 17 rfl (by kernel_rfl) rfl (fun _ _ => by simp only [getD_set_ne false (show (17 : Nat) ≠ 2 by decide), getD_set_ne false (show (17 : Nat) ≠ 26 by decide)]) (fun l w hl hcl hc => X.neq rfl rfl) ?_
  refine Rk.uN 18 rfl (by kernel_rfl) rfl (fun _ _ => by simp only [getD_set_ne false (show (18 : Nat) ≠ 2 by decide), getD_set_ne false (show (18 : Nat) ≠ 26 by decide)]) (fun l w hl hcl hc => X.move rfl) ?_
  refine Rk.weak [(0, .pointer (some ⟨b1, 0, none⟩)), (1, .pointer (some ⟨b5, 0, none⟩)), (6, .pointer (some ⟨b1, 0, none⟩)), (24, .bool (x174.1 != (bor .u64 (bor .u64 (bor .u64 (shl .u64 (cv .u64 82) 24) (shl .u64 (cv .u64 69) 16)) (shl .u64 (cv .u64 77) 8)) (cv .u64 66))))] ⟨rfl, rfl, rfl, rfl, trivial⟩ ?_
  refine Rk.uF 19 rfl (by kernel_rfl) rfl (fun _ _ => by simp only [getD_set_ne false (show (19 : Nat) ≠ 2 by decide), getD_set_ne false (show (19 : Nat) ≠ 26 by decide)]) rfl rfl (fun hW => fun l w hl hcl hc => X.move rfl) ?_
  refine Rk.uF 20 rfl (by kernel_rfl) rfl (fun _ _ => by simp only [getD_set_ne false (show (20 : Nat) ≠ 2 by decide), getD_set_ne false (show (20 : Nat) ≠ 26 by decide)]) rfl rfl (fun hW => fun l w hl hcl hc => X.nilCheck (ev_g rfl hW)) ?_
  refine Rk.uF 21 rfl (by kernel_rfl) rfl (fun _ _ => by simp only [getD_set_ne false (show (21 : Nat) ≠ 2 by decide), getD_set_ne false (show (21 : Nat) ≠ 26 by decide)]) rfl rfl (fun hW => fun l w hl hcl hc => X.fieldB Try.underlying101 rfl zz4 (ev_g rfl hW) rfl) ?_
  refine Rk.uF 22 rfl (by kernel_rfl) rfl (fun _ _ => by simp only [getD_set_ne false (show (22 : Nat) ≠ 2 by decide), getD_set_ne false (show (22 : Nat) ≠ 26 by decide)]) rfl rfl (fun hW => fun l w hl hcl hc => X.load1 Try.underlying4 rfl (ev_g rfl hW) (heap_cell (hc.2.1 (hcl.lt rfl (by kernel_rfl) hl)) rfl)) ?_
  refine Rk.uN 23 rfl (by kernel_rfl) rfl (fun _ _ => by simp only [getD_set_ne false (show (23 : Nat) ≠ 2 by decide), getD_set_ne false (show (23 : Nat) ≠ 26 by decide)]) (fun l w hl hcl hc => X.pickOr rfl rfl rfl) ?_
  refine Rk.uN 24 rfl (by kernel_rfl) rfl (fun _ _ => by simp only [getD_set_ne false (show (24 : Nat) ≠ 2 by decide), getD_set_ne false (show (24 : Nat) ≠ 26 by decide)]) (fun l w hl hcl hc => X.nilCheck rfl) ?_
  refine Rk.uN 25 rfl (by kernel_rfl) rfl (fun _ _ => by simp only [getD_set_ne false (show (25 : Nat) ≠ 2 by decide), getD_set_ne false (show (25 : Nat) ≠ 26 by decide)]) (fun l w hl hcl hc => X.fieldB Try.underlying101 rfl zz4 rfl rfl) ?_
  refine Rk.eN 26 rfl (by kernel_rfl) rfl (Oq.store hs 0 rfl 2 zz4 rfl rfl rfl rfl rfl [.box b1 #[v182, .int .i64 x174.2.at_, .bool ((x174.1 != (bor .u64 (bor .u64 (bor .u64 (shl .u64 (cv .u64 82) 24) (shl .u64 (cv .u64 69) 16)) (shl .u64 (cv .u64 77) 8)) (cv .u64 66))) || x174.2.bad_)] 101, .box b5 #[.int .i64 o_1.Kind, .int .u32 o_1.From, .int .u32 o_1.About, v6, v8, v10, .int .u64 o_1.Rate, .int .i64 o_1.Type_, .int .i64 o_1.Count, v12] 33, .app g15 v8 o_1.Abouts.length 27 1] rfl (fun w184 hs => ?_))
  refine ⟨⟨hs.has, (fun h => absurd h (by decide)), (fun h => absurd h (by decide))⟩, ?_⟩
  refine Rk.done (by kernel_rfl) ?_
  have e := some_s hp27
  cases e
  exact fun a ha => ⟨[(0, .pointer (some ⟨b1, 0, none⟩)), (1, .pointer (some ⟨b5, 0, none⟩))], ha.weak ⟨rfl, rfl, trivial⟩, S179, v182, rfl, le181, hs, f183⟩
end Go.Lk
