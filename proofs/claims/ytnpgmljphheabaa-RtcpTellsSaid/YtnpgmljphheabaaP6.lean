/- A part of this proof: RtcpTells returns true for every input and leaves its arguments as they were; there are no conditions. -/
import Derived.Test.YtnpgmljphheabaaP5
set_option linter.unusedVariables false
set_option linter.unusedSimpArgs false
set_option maxRecDepth 100000
namespace Go.Lk
open Go.RowKit Go.Proofs
noncomputable def limelightbook_Within (n_0 : Int) (lo_1 : Int) (hi_2 : Int) : Option Int :=
 if ((decide (lo_1 ≤ n_0)) && (decide (n_0 ≤ hi_2))) = true then (
  some n_0)
 else (
  gd ((add .i64 (sub .i64 hi_2 lo_1) 1) ≠ 0) (
   ((
    if (decide ((rem .i64 n_0 (add .i64 (sub .i64 hi_2 lo_1) 1)) < 0)) = true then (
     some (add .i64 (sub .i64 (add .i64 (rem .i64 n_0 (add .i64 (sub .i64 hi_2 lo_1) 1)) hi_2) lo_1) 1))
    else (
     some (rem .i64 n_0 (add .i64 (sub .i64 hi_2 lo_1) 1))) : Option Int)).bind fun p4 =>
   some (add .i64 lo_1 p4)))
def Po16 (S0 : Mp) (w0 : World) (D : List Nat) (r : Int) (v : Value) (w1 : World) : Prop :=
  ∃ (S1 : Mp), v = .int .i64 r ∧ St w0 D S0 S1 [] w1
set_option maxHeartbeats 4000000 in
theorem c16 (S0 : Mp) {w0 : World} (hs : St w0 [] S0 S0 [] w0) (n_0 : Int) (lo_1 : Int) (hi_2 : Int) (r : Int) (h0 : limelightbook_Within n_0 lo_1 hi_2 = some r) :
    Calls Try.prog 16 #[.int .i64 n_0, .int .i64 lo_1, .int .i64 hi_2] w0 (Re (Po16 S0 w0 [] r)) := by
 unfold limelightbook_Within at h0
 refine calls_of_cd Try.func16 rfl Try.ntmps16 rfl ?_
 refine Cd.sr ?_
 refine Rg.st rfl rfl ?_
 refine Rg.go ?_
 refine Cd.seq ?_
 refine Cd.sr ?_
 refine Rg.mv rfl rfl ?_
 refine Rg.mv rfl rfl ?_
 refine Rg.vN (X.geq rfl rfl) rfl ?_
 refine Rg.mv rfl rfl ?_
 refine Rg.vT rfl rfl rfl (fun hW => X.move rfl) ?_
 refine Rg.vT rfl rfl rfl (fun hW => X.move rfl) ?_
 refine Rg.vT rfl rfl rfl (fun hW => X.leq (ev_g rfl hW) (ev_g rfl hW)) ?_
 refine Rg.vN (X.pickAnd rfl rfl rfl) rfl ?_
 refine Rg.go ?_
 refine Cd.cond (t := (decide (lo_1 ≤ n_0)) && (decide (n_0 ≤ hi_2))) rfl (fun hc1 => ?_) (fun hc1 => ?_)
 ·have h0 := ite_t hc1 h0
  refine Cd.sr ?_
  refine Rg.mv rfl rfl ?_
  refine Rg.st rfl rfl ?_
  refine Rg.go ?_
  refine Cd.ret ?_
  obtain rfl := some_s h0
  exact fun a ha => Cd.retA (R := Re (Po16 S0 w0 [] _)) ha Try.results16 ⟨_, _, rfl, rfl, rfl⟩ ⟨_, rfl, S0, rfl, hs⟩
 ·have h0 := ite_f hc1 h0
  refine Cd.sg ?_
  refine Cd.sr ?_
  refine Rg.mv rfl rfl ?_
  refine Rg.mv rfl rfl ?_
  refine Rg.mv rfl rfl ?_
  refine Rg.vN (X.sub rfl rfl) rfl ?_
  refine Rg.vN (X.add rfl rfl) rfl ?_
  obtain ⟨hg2, h0⟩ := gd_s h0
  refine Rg.vN (X.rem rfl rfl hg2) rfl ?_
  refine Rg.st rfl rfl ?_
  refine Rg.go ?_
  refine Cd.weak [(0, .int .i64 (rem .i64 n_0 (add .i64 (sub .i64 hi_2 lo_1) 1))), (1, .int .i64 lo_1), (2, .int .i64 hi_2)] ⟨rfl, rfl, rfl, trivial⟩ ?_
  refine Cd.seq ?_
  refine Cd.sr ?_
  refine Rg.mv rfl rfl ?_
  refine Rg.vN (X.lss rfl rfl) rfl ?_
  refine Rg.go ?_
  obtain ⟨p4, hp5, h0⟩ := bind_s h0
  refine Cd.post (fun K w => ∃ (S6 : Mp), K = [(0, .int .i64 p4), (1, .int .i64 lo_1)] ∧ Le S0 S6 ∧ St w0 [] S0 S6 [] w) ?_ ?_
  ·rintro K9 w7 ⟨S6, rfl, le8, hs⟩
   refine Cd.go ?_
   refine Cd.sr ?_
   refine Rg.mv rfl rfl ?_
   refine Rg.mv rfl rfl ?_
   refine Rg.vN (X.add rfl rfl) rfl ?_
   refine Rg.st rfl rfl ?_
   refine Rg.go ?_
   refine Cd.ret ?_
   obtain rfl := some_s h0
   exact fun a ha => Cd.retA (R := Re (Po16 S0 w0 [] _)) ha Try.results16 ⟨_, _, rfl, rfl, rfl⟩ ⟨_, rfl, S6, rfl, hs⟩
  ·skip
   refine Cd.cond (t := decide ((rem .i64 n_0 (add .i64 (sub .i64 hi_2 lo_1) 1)) < 0)) rfl (fun hc10 => ?_) (fun hc10 => ?_)
   ·have hp5 := ite_t hc10 hp5
    refine Cd.region ?_
    refine Rg.mv rfl rfl ?_
    refine Rg.mv rfl rfl ?_
    refine Rg.vN (X.add rfl rfl) rfl ?_
    refine Rg.mv rfl rfl ?_
    refine Rg.vN (X.sub rfl rfl) rfl ?_
    refine Rg.vN (X.add rfl rfl) rfl ?_
    refine Rg.st rfl rfl ?_
    refine Rg.nil ?_
    obtain rfl := some_s hp5
    exact fun a ha => ⟨[(0, .int .i64 (add .i64 (sub .i64 (add .i64 (rem .i64 n_0 (add .i64 (sub .i64 hi_2 lo_1) 1)) hi_2) lo_1) 1)), (1, .int .i64 lo_1)], ha.weak ⟨rfl, rfl, trivial⟩, S0, rfl, Le.refl _, hs⟩
   ·have hp5 := ite_f hc10 hp5
    refine Cd.skip ?_
    obtain rfl := some_s hp5
    exact fun a ha => ⟨[(0, .int .i64 (rem .i64 n_0 (add .i64 (sub .i64 hi_2 lo_1) 1))), (1, .int .i64 lo_1)], ha.weak ⟨rfl, rfl, trivial⟩, S0, rfl, Le.refl _, hs⟩
noncomputable def limelightlaw6_odd (G_0 : api_Report) (o_1 : Int) (p_2 : Int) : Option api_Report :=
 (limelightbook_Within o_1 0 10).bind fun x19 =>
 if (x19 == 0) = true then (
  some (⟨p_2, G_0.From, G_0.About, G_0.Tuples, G_0.Abouts, G_0.Numbers, G_0.Rate, G_0.Type_, G_0.Count, G_0.Body⟩ : api_Report))
 else (
  if (x19 == 1) = true then (
   some (⟨G_0.Kind, cv .u32 p_2, G_0.About, G_0.Tuples, G_0.Abouts, G_0.Numbers, G_0.Rate, G_0.Type_, G_0.Count, G_0.Body⟩ : api_Report))
  else (
   if (x19 == 2) = true then (
    some (⟨G_0.Kind, G_0.From, cv .u32 p_2, G_0.Tuples, G_0.Abouts, G_0.Numbers, G_0.Rate, G_0.Type_, G_0.Count, G_0.Body⟩ : api_Report))
   else (
    if (x19 == 3) = true then (
     some (⟨G_0.Kind, G_0.From, G_0.About, G_0.Tuples, G_0.Abouts, G_0.Numbers, cv .u64 p_2, G_0.Type_, G_0.Count, G_0.Body⟩ : api_Report))
    else (
     if (x19 == 4) = true then (
      (app 24 ([] : List api_Tuple) G_0.Tuples).bind fun y47 =>
      (app 24 y47 ([(⟨0, cv .u64 p_2, 7⟩ : api_Tuple)] : List api_Tuple)).bind fun y62 =>
      some (⟨G_0.Kind, G_0.From, G_0.About, y62, G_0.Abouts, G_0.Numbers, G_0.Rate, G_0.Type_, G_0.Count, G_0.Body⟩ : api_Report))
     else (
      if (x19 == 5) = true then (
       (app 24 ([] : List api_Tuple) G_0.Tuples).bind fun y80 =>
       (app 24 y80 ([(⟨0, 0, p_2⟩ : api_Tuple)] : List api_Tuple)).bind fun y95 =>
       some (⟨G_0.Kind, G_0.From, G_0.About, y95, G_0.Abouts, G_0.Numbers, G_0.Rate, G_0.Type_, G_0.Count, G_0.Body⟩ : api_Report))
      else (
       if (x19 == 6) = true then (
        (app 4 ([] : List Int) G_0.Abouts).bind fun y113 =>
        (app 4 y113 ([cv .u32 p_2] : List Int)).bind fun y128 =>
        some (⟨G_0.Kind, G_0.From, G_0.About, G_0.Tuples, y128, G_0.Numbers, G_0.Rate, G_0.Type_, G_0.Count, G_0.Body⟩ : api_Report))
       else (
        if (x19 == 7) = true then (
         (app 8 ([] : List Int) G_0.Numbers).bind fun y146 =>
         (app 8 y146 ([p_2] : List Int)).bind fun y161 =>
         some (⟨G_0.Kind, G_0.From, G_0.About, G_0.Tuples, G_0.Abouts, y161, G_0.Rate, G_0.Type_, G_0.Count, G_0.Body⟩ : api_Report))
        else (
         if (x19 == 8) = true then (
          some (⟨G_0.Kind, G_0.From, G_0.About, G_0.Tuples, G_0.Abouts, G_0.Numbers, G_0.Rate, p_2, G_0.Count, G_0.Body⟩ : api_Report))
         else (
          if (x19 == 9) = true then (
           some (⟨G_0.Kind, G_0.From, G_0.About, G_0.Tuples, G_0.Abouts, G_0.Numbers, G_0.Rate, G_0.Type_, p_2, G_0.Body⟩ : api_Report))
          else (
           (app 1 ([] : List Int) G_0.Body).bind fun y184 =>
           (apz 1 0 y184 (add .i64 (band .i64 p_2 3) 1)).bind fun y192 =>
           some (⟨G_0.Kind, G_0.From, G_0.About, G_0.Tuples, G_0.Abouts, G_0.Numbers, G_0.Rate, G_0.Type_, G_0.Count, y192⟩ : api_Report)))))))))))
def Po12 (S0 : Mp) (w0 : World) (D : List Nat) (r : api_Report) (v : Value) (w1 : World) : Prop :=
  ∃ (S1 : Mp) (v9 : Value) (v10 : Value) (v11 : Value) (v12 : Value), v = .agg (#[.int .i64 r.Kind, .int .u32 r.From, .int .u32 r.About, v9, v10, v11, .int .u64 r.Rate, .int .i64 r.Type_, .int .i64 r.Count, v12]) ∧ St w0 D S0 S1 [] w1 ∧ Rd S1 3 R_api_Tuple v9 r.Tuples ∧ Rd S1 1 (RI .u32) v10 r.Abouts ∧ Rd S1 1 (RI .i64) v11 r.Numbers ∧ Rd S1 1 (RI .u8) v12 r.Body
set_option maxHeartbeats 4000000 in
theorem c12 (S0 : Mp) {w0 : World} (hs : St w0 [] S0 S0 [] w0) (G_0 : api_Report) (v1 : Value) (f2 : Rd S0 3 R_api_Tuple v1 G_0.Tuples) (v3 : Value) (f4 : Rd S0 1 (RI .u32) v3 G_0.Abouts) (v5 : Value) (f6 : Rd S0 1 (RI .i64) v5 G_0.Numbers) (v7 : Value) (f8 : Rd S0 1 (RI .u8) v7 G_0.Body) (o_1 : Int) (p_2 : Int) (r : api_Report) (h0 : limelightlaw6_odd G_0 o_1 p_2 = some r) :
    Calls Try.prog 12 #[.agg (#[.int .i64 G_0.Kind, .int .u32 G_0.From, .int .u32 G_0.About, v1, v3, v5, .int .u64 G_0.Rate, .int .i64 G_0.Type_, .int .i64 G_0.Count, v7]), .int .i64 o_1, .int .i64 p_2] w0 (Re (Po12 S0 w0 [] r)) := by
 unfold limelightlaw6_odd at h0
 refine calls_of_cd Try.func12 rfl Try.ntmps12 rfl ?_
 refine Cd.sr ?_
 refine Rg.step rfl (Oq.box (cs := #[.int .i64 G_0.Kind, .int .u32 G_0.From, .int .u32 G_0.About, v1, v3, v5, .int .u64 G_0.Rate, .int .i64 G_0.Type_, .int .i64 G_0.Count, v7]) hs rfl rfl rfl (fun b13 w14 hs => ?_))
 refine Rg.step rfl (Oq.alloc (cs := #[.int .i64 0, .int .u32 0, .int .u32 0, .slice none 0 0, .slice none 0 0, .slice none 0 0, .int .u64 0, .int .i64 0, .int .i64 0, .slice none 0 0]) hs ii33 rfl rfl rfl (fun b16 w17 hs => ?_))
 refine Rg.go ?_
 refine Cd.seq ?_
 refine Cd.sr ?_
 refine Rg.mv rfl rfl ?_
 obtain ⟨x19, hx20, h0⟩ := bind_s h0
 refine Rg.step rfl (Oq.call Try.call16 rfl rfl (c16 S0 (St.start _ _ hs.has) _ _ _ _ hx20) (fun v21 w22 h23 => ?_))
 obtain ⟨S24, rfl, hs25⟩ := h23
 have le26 := hs25.le
 have hs := hs.call0 hs25
 refine Rg.go ?_
 refine Cd.block ?_
 refine Cd.sr ?_
 refine Rg.vN (X.eql rfl rfl) rfl ?_
 refine Rg.st rfl rfl ?_
 refine Rg.go ?_
 refine Cd.cond (t := x19 == 0) rfl (fun hc27 => ?_) (fun hc27 => ?_)
 ·have h0 := ite_t hc27 h0
  refine Cd.region ?_
  refine Rg.mv rfl rfl ?_
  refine Rg.vN (X.fieldB Try.underlying33 rfl zz3 rfl rfl) rfl ?_
  refine Rg.step rfl (Oq.store hs 1 rfl 0 zz3 rfl rfl rfl rfl rfl [.box b16 #[.int .i64 0, .int .u32 0, .int .u32 0, .slice none 0 0, .slice none 0 0, .slice none 0 0, .int .u64 0, .int .i64 0, .int .i64 0, .slice none 0 0] 33, .box b13 #[.int .i64 p_2, .int .u32 G_0.From, .int .u32 G_0.About, v1, v3, v5, .int .u64 G_0.Rate, .int .i64 G_0.Type_, .int .i64 G_0.Count, v7] 33] rfl (fun w28 hs => ?_))
  refine Rg.nil ?_
  refine Cd.go ?_
  refine Cd.sr ?_
  refine Rg.vN (X.loadN (vals := [.int .i64 p_2, .int .u32 G_0.From, .int .u32 G_0.About, v1, v3, v5, .int .u64 G_0.Rate, .int .i64 G_0.Type_, .int .i64 G_0.Count, v7]) Try.underlying33 rfl zz33 rfl (hs.range 1 rfl 0 rfl)) rfl ?_
  refine Rg.step rfl (Oq.storeN hs 0 rfl (vals := [.int .i64 p_2, .int .u32 G_0.From, .int .u32 G_0.About, v1, v3, v5, .int .u64 G_0.Rate, .int .i64 G_0.Type_, .int .i64 G_0.Count, v7]) zz33 rfl rfl (one_all ⟨rfl, rfl, rfl, (f2.mono le26).one, (f4.mono le26).one, (f6.mono le26).one, rfl, rfl, rfl, (f8.mono le26).one, trivial⟩) rfl [.box b16 #[.int .i64 p_2, .int .u32 G_0.From, .int .u32 G_0.About, v1, v3, v5, .int .u64 G_0.Rate, .int .i64 G_0.Type_, .int .i64 G_0.Count, v7] 33, .box b13 #[.int .i64 p_2, .int .u32 G_0.From, .int .u32 G_0.About, v1, v3, v5, .int .u64 G_0.Rate, .int .i64 G_0.Type_, .int .i64 G_0.Count, v7] 33] rfl (fun w29 hs => ?_))
  refine Rg.go ?_
  refine Cd.ret ?_
  obtain rfl := some_s h0
  exact fun a ha => Cd.retA (R := Re (Po12 S0 w0 [] _)) ha Try.results12 ⟨_, _, _, rfl, rfl, run_lvN (vals := [.int .i64 p_2, .int .u32 G_0.From, .int .u32 G_0.About, v1, v3, v5, .int .u64 G_0.Rate, .int .i64 G_0.Type_, .int .i64 G_0.Count, v7]) Try.underlying33 rfl zz33 (hs.range 0 rfl 0 rfl), rfl⟩ ⟨_, rfl, S24, v1, v3, v5, v7, rfl, (hs.pick [] (by decide) rfl), (f2.mono le26), (f4.mono le26), (f6.mono le26), (f8.mono le26)⟩
 ·have h0 := ite_f hc27 h0
  refine Cd.sr ?_
  refine Rg.vN (X.eql rfl rfl) rfl ?_
  refine Rg.st rfl rfl ?_
  refine Rg.go ?_
  refine Cd.cond (t := x19 == 1) rfl (fun hc30 => ?_) (fun hc30 => ?_)
  ·have h0 := ite_t hc30 h0
   refine Cd.region ?_
   refine Rg.mv rfl rfl ?_
   refine Rg.vN (X.conv Try.underlying2 Try.underlying27 rfl) rfl ?_
   refine Rg.vN (X.fieldB Try.underlying33 rfl zz27 rfl rfl) rfl ?_
   refine Rg.step rfl (Oq.store hs 1 rfl 1 zz27 rfl rfl rfl rfl rfl [.box b16 #[.int .i64 0, .int .u32 0, .int .u32 0, .slice none 0 0, .slice none 0 0, .slice none 0 0, .int .u64 0, .int .i64 0, .int .i64 0, .slice none 0 0] 33, .box b13 #[.int .i64 G_0.Kind, .int .u32 (cv .u32 p_2), .int .u32 G_0.About, v1, v3, v5, .int .u64 G_0.Rate, .int .i64 G_0.Type_, .int .i64 G_0.Count, v7] 33] rfl (fun w31 hs => ?_))
   refine Rg.nil ?_
   refine Cd.go ?_
   refine Cd.sr ?_
   refine Rg.vN (X.loadN (vals := [.int .i64 G_0.Kind, .int .u32 (cv .u32 p_2), .int .u32 G_0.About, v1, v3, v5, .int .u64 G_0.Rate, .int .i64 G_0.Type_, .int .i64 G_0.Count, v7]) Try.underlying33 rfl zz33 rfl (hs.range 1 rfl 0 rfl)) rfl ?_
   refine Rg.step rfl (Oq.storeN hs 0 rfl (vals := [.int .i64 G_0.Kind, .int .u32 (cv .u32 p_2), .int .u32 G_0.About, v1, v3, v5, .int .u64 G_0.Rate, .int .i64 G_0.Type_, .int .i64 G_0.Count, v7]) zz33 rfl rfl (one_all ⟨rfl, rfl, rfl, (f2.mono le26).one, (f4.mono le26).one, (f6.mono le26).one, rfl, rfl, rfl, (f8.mono le26).one, trivial⟩) rfl [.box b16 #[.int .i64 G_0.Kind, .int .u32 (cv .u32 p_2), .int .u32 G_0.About, v1, v3, v5, .int .u64 G_0.Rate, .int .i64 G_0.Type_, .int .i64 G_0.Count, v7] 33, .box b13 #[.int .i64 G_0.Kind, .int .u32 (cv .u32 p_2), .int .u32 G_0.About, v1, v3, v5, .int .u64 G_0.Rate, .int .i64 G_0.Type_, .int .i64 G_0.Count, v7] 33] rfl (fun w32 hs => ?_))
   refine Rg.go ?_
   refine Cd.ret ?_
   obtain rfl := some_s h0
   exact fun a ha => Cd.retA (R := Re (Po12 S0 w0 [] _)) ha Try.results12 ⟨_, _, _, rfl, rfl, run_lvN (vals := [.int .i64 G_0.Kind, .int .u32 (cv .u32 p_2), .int .u32 G_0.About, v1, v3, v5, .int .u64 G_0.Rate, .int .i64 G_0.Type_, .int .i64 G_0.Count, v7]) Try.underlying33 rfl zz33 (hs.range 0 rfl 0 rfl), rfl⟩ ⟨_, rfl, S24, v1, v3, v5, v7, rfl, (hs.pick [] (by decide) rfl), (f2.mono le26), (f4.mono le26), (f6.mono le26), (f8.mono le26)⟩
  ·have h0 := ite_f hc30 h0
   refine Cd.sr ?_
   refine Rg.vN (X.eql rfl rfl) rfl ?_
   refine Rg.st rfl rfl ?_
   refine Rg.go ?_
   refine Cd.cond (t := x19 == 2) rfl (fun hc33 => ?_) (fun hc33 => ?_)
   ·have h0 := ite_t hc33 h0
    refine Cd.region ?_
    refine Rg.mv rfl rfl ?_
    refine Rg.vN (X.conv Try.underlying2 Try.underlying27 rfl) rfl ?_
    refine Rg.vN (X.fieldB Try.underlying33 rfl zz27 rfl rfl) rfl ?_
    refine Rg.step rfl (Oq.store hs 1 rfl 2 zz27 rfl rfl rfl rfl rfl [.box b16 #[.int .i64 0, .int .u32 0, .int .u32 0, .slice none 0 0, .slice none 0 0, .slice none 0 0, .int .u64 0, .int .i64 0, .int .i64 0, .slice none 0 0] 33, .box b13 #[.int .i64 G_0.Kind, .int .u32 G_0.From, .int .u32 (cv .u32 p_2), v1, v3, v5, .int .u64 G_0.Rate, .int .i64 G_0.Type_, .int .i64 G_0.Count, v7] 33] rfl (fun w34 hs => ?_))
    refine Rg.nil ?_
    refine Cd.go ?_
    refine Cd.sr ?_
    refine Rg.vN (X.loadN (vals := [.int .i64 G_0.Kind, .int .u32 G_0.From, .int .u32 (cv .u32 p_2), v1, v3, v5, .int .u64 G_0.Rate, .int .i64 G_0.Type_, .int .i64 G_0.Count, v7]) Try.underlying33 rfl zz33 rfl (hs.range 1 rfl 0 rfl)) rfl ?_
    refine Rg.step rfl (Oq.storeN hs 0 rfl (vals := [.int .i64 G_0.Kind, .int .u32 G_0.From, .int .u32 (cv .u32 p_2), v1, v3, v5, .int .u64 G_0.Rate, .int .i64 G_0.Type_, .int .i64 G_0.Count, v7]) zz33 rfl rfl (one_all ⟨rfl, rfl, rfl, (f2.mono le26).one, (f4.mono le26).one, (f6.mono le26).one, rfl, rfl, rfl, (f8.mono le26).one, trivial⟩) rfl [.box b16 #[.int .i64 G_0.Kind, .int .u32 G_0.From, .int .u32 (cv .u32 p_2), v1, v3, v5, .int .u64 G_0.Rate, .int .i64 G_0.Type_, .int .i64 G_0.Count, v7] 33, .box b13 #[.int .i64 G_0.Kind, .int .u32 G_0.From, .int .u32 (cv .u32 p_2), v1, v3, v5, .int .u64 G_0.Rate, .int .i64 G_0.Type_, .int .i64 G_0.Count, v7] 33] rfl (fun w35 hs => ?_))
    refine Rg.go ?_
    refine Cd.ret ?_
    obtain rfl := some_s h0
    exact fun a ha => Cd.retA (R := Re (Po12 S0 w0 [] _)) ha Try.results12 ⟨_, _, _, rfl, rfl, run_lvN (vals := [.int .i64 G_0.Kind, .int .u32 G_0.From, .int .u32 (cv .u32 p_2), v1, v3, v5, .int .u64 G_0.Rate, .int .i64 G_0.Type_, .int .i64 G_0.Count, v7]) Try.underlying33 rfl zz33 (hs.range 0 rfl 0 rfl), rfl⟩ ⟨_, rfl, S24, v1, v3, v5, v7, rfl, (hs.pick [] (by decide) rfl), (f2.mono le26), (f4.mono le26), (f6.mono le26), (f8.mono le26)⟩
   ·have h0 := ite_f hc33 h0
    refine Cd.sr ?_
    refine Rg.vN (X.eql rfl rfl) rfl ?_
    refine Rg.st rfl rfl ?_
    refine Rg.go ?_
    refine Cd.cond (t := x19 == 3) rfl (fun hc36 => ?_) (fun hc36 => ?_)
    ·have h0 := ite_t hc36 h0
     refine Cd.region ?_
     refine Rg.mv rfl rfl ?_
     refine Rg.vN (X.conv Try.underlying2 Try.underlying30 rfl) rfl ?_
     refine Rg.vN (X.fieldB Try.underlying33 rfl zz30 rfl rfl) rfl ?_
     refine Rg.step rfl (Oq.store hs 1 rfl 6 zz30 rfl rfl rfl rfl rfl [.box b16 #[.int .i64 0, .int .u32 0, .int .u32 0, .slice none 0 0, .slice none 0 0, .slice none 0 0, .int .u64 0, .int .i64 0, .int .i64 0, .slice none 0 0] 33, .box b13 #[.int .i64 G_0.Kind, .int .u32 G_0.From, .int .u32 G_0.About, v1, v3, v5, .int .u64 (cv .u64 p_2), .int .i64 G_0.Type_, .int .i64 G_0.Count, v7] 33] rfl (fun w37 hs => ?_))
     refine Rg.nil ?_
     refine Cd.go ?_
     refine Cd.sr ?_
     refine Rg.vN (X.loadN (vals := [.int .i64 G_0.Kind, .int .u32 G_0.From, .int .u32 G_0.About, v1, v3, v5, .int .u64 (cv .u64 p_2), .int .i64 G_0.Type_, .int .i64 G_0.Count, v7]) Try.underlying33 rfl zz33 rfl (hs.range 1 rfl 0 rfl)) rfl ?_
     refine Rg.step rfl (Oq.storeN hs 0 rfl (vals := [.int .i64 G_0.Kind, .int .u32 G_0.From, .int .u32 G_0.About, v1, v3, v5, .int .u64 (cv .u64 p_2), .int .i64 G_0.Type_, .int .i64 G_0.Count, v7]) zz33 rfl rfl (one_all ⟨rfl, rfl, rfl, (f2.mono le26).one, (f4.mono le26).one, (f6.mono le26).one, rfl, rfl, rfl, (f8.mono le26).one, trivial⟩) rfl [.box b16 #[.int .i64 G_0.Kind, .int .u32 G_0.From, .int .u32 G_0.About, v1, v3, v5, .int .u64 (cv .u64 p_2), .int .i64 G_0.Type_, .int .i64 G_0.Count, v7] 33, .box b13 #[.int .i64 G_0.Kind, .int .u32 G_0.From, .int .u32 G_0.About, v1, v3, v5, .int .u64 (cv .u64 p_2), .int .i64 G_0.Type_, .int .i64 G_0.Count, v7] 33] rfl (fun w38 hs => ?_))
     refine Rg.go ?_
     refine Cd.ret ?_
     obtain rfl := some_s h0
     exact fun a ha => Cd.retA (R := Re (Po12 S0 w0 [] _)) ha Try.results12 ⟨_, _, _, rfl, rfl, run_lvN (vals := [.int .i64 G_0.Kind, .int .u32 G_0.From, .int .u32 G_0.About, v1, v3, v5, .int .u64 (cv .u64 p_2), .int .i64 G_0.Type_, .int .i64 G_0.Count, v7]) Try.underlying33 rfl zz33 (hs.range 0 rfl 0 rfl), rfl⟩ ⟨_, rfl, S24, v1, v3, v5, v7, rfl, (hs.pick [] (by decide) rfl), (f2.mono le26), (f4.mono le26), (f6.mono le26), (f8.mono le26)⟩
    ·have h0 := ite_f hc36 h0
     refine Cd.sr ?_
     refine Rg.vN (X.eql rfl rfl) rfl ?_
     refine Rg.st rfl rfl ?_
     refine Rg.go ?_
     refine Cd.cond (t := x19 == 4) rfl (fun hc39 => ?_) (fun hc39 => ?_)
     ·have h0 := ite_t hc39 h0
      refine Cd.region ?_
      refine Rg.step rfl (Oq.lit (sz := 3) (cs0 := []) (cells := []) hs Try.underlying28 ii57 rfl rfl rfl rfl rfl rfl rfl rfl rfl rfl (fun b40 w41 S42 hs le43 hE44 => ?_))
      have f46 : Rd S42 3 R_api_Tuple (.slice (some ⟨b40, 0, none⟩) 0 0) ([] : List api_Tuple) := Rd.of_cells (xs := ([] : List api_Tuple)) rfl hE44 (Nat.le_of_ble_eq_true rfl) (Nat.le_of_ble_eq_true rfl)
      refine Rg.vN (X.fieldB Try.underlying33 rfl zz28 rfl rfl) rfl ?_
      refine Rg.vN (X.load1 Try.underlying28 rfl rfl (hs.cell 2 rfl 3 rfl)) rfl ?_
      obtain ⟨y47, hx48, h0⟩ := bind_s h0
      refine Rg.step rfl (Oq.appendS hs 0 rfl Try.underlying28 ii57 rfl rfl rfl rfl rfl rfl f46 (f2.mono (le26.trans le43)) hx48 rfl rfl rfl (fun v49 w50 S51 g52 hs le53 f54 => ?_))
      refine Rg.mv rfl rfl ?_
      refine Rg.vN (X.conv Try.underlying2 Try.underlying30 rfl) rfl ?_
      refine Rg.weak [(3, .pointer (some ⟨b13, 0, none⟩)), (6, .pointer (some ⟨b16, 0, none⟩)), (42, v49), (44, .int .u64 (cv .u64 p_2))] ⟨rfl, rfl, rfl, rfl, trivial⟩ ?_
      refine Rg.vN (X.build (zc := [.int .u32 0, .int .u64 0, .int .i64 0]) (cells := [.int .u32 0, .int .u64 (cv .u64 p_2), .int .i64 7]) ii57 rfl rfl Try.underlying57 (pp57 _ Try.underlying57) ⟨_, [.int .u64 (cv .u64 p_2)], _, rfl, rfl, rfl, ⟨_, [.int .i64 7], _, rfl, rfl, rfl, rfl⟩⟩ rfl) rfl ?_
      refine Rg.step rfl (Oq.lit (sz := 3) (cs0 := [.int .u32 0, .int .u64 0, .int .i64 0]) (cells := [.int .u32 0, .int .u64 (cv .u64 p_2), .int .i64 7]) hs Try.underlying28 ii57 rfl rfl rfl rfl rfl rfl ⟨_, [.int .u32 0, .int .u64 (cv .u64 p_2), .int .i64 7], _, rfl, rfl, rfl, rfl⟩ rfl rfl rfl (fun b55 w56 S57 hs le58 hE59 => ?_))
      have f61 : Rd S57 3 R_api_Tuple (.slice (some ⟨b55, 0, none⟩) 1 1) ([(⟨0, cv .u64 p_2, 7⟩ : api_Tuple)] : List api_Tuple) := Rd.of_cells (xs := ([(⟨0, cv .u64 p_2, 7⟩ : api_Tuple)] : List api_Tuple)) ⟨[.int .u32 0, .int .u64 (cv .u64 p_2), .int .i64 7], _, rfl, rfl, one_all ⟨rfl, rfl, rfl, trivial⟩, rfl, rfl⟩ hE59 (Nat.le_of_ble_eq_true rfl) (Nat.le_of_ble_eq_true rfl)
      obtain ⟨y62, hx63, h0⟩ := bind_s h0
      refine Rg.step rfl (Oq.appendS hs 1 rfl Try.underlying28 ii57 rfl rfl rfl rfl rfl rfl (f54.mono le58) f61 hx63 rfl rfl rfl (fun v64 w65 S66 g67 hs le68 f69 => ?_))
      refine Rg.vN (X.fieldB Try.underlying33 rfl zz28 rfl rfl) rfl ?_
      refine Rg.step rfl (Oq.store hs 3 rfl 3 zz28 rfl rfl f69.cells f69.one rfl [.app (some b55) (.slice (some ⟨b55, 0, none⟩) 1 1) ([(⟨0, cv .u64 p_2, 7⟩ : api_Tuple)] : List api_Tuple).length 57 3, .app g67 v64 y62.length 57 3, .box b16 #[.int .i64 0, .int .u32 0, .int .u32 0, .slice none 0 0, .slice none 0 0, .slice none 0 0, .int .u64 0, .int .i64 0, .int .i64 0, .slice none 0 0] 33, .box b13 #[.int .i64 G_0.Kind, .int .u32 G_0.From, .int .u32 G_0.About, v64, v3, v5, .int .u64 G_0.Rate, .int .i64 G_0.Type_, .int .i64 G_0.Count, v7] 33] rfl (fun w70 hs => ?_))
      refine Rg.nil ?_
      refine Cd.go ?_
      refine Cd.sr ?_
      refine Rg.vN (X.loadN (vals := [.int .i64 G_0.Kind, .int .u32 G_0.From, .int .u32 G_0.About, v64, v3, v5, .int .u64 G_0.Rate, .int .i64 G_0.Type_, .int .i64 G_0.Count, v7]) Try.underlying33 rfl zz33 rfl (hs.range 3 rfl 0 rfl)) rfl ?_
      refine Rg.step rfl (Oq.storeN hs 2 rfl (vals := [.int .i64 G_0.Kind, .int .u32 G_0.From, .int .u32 G_0.About, v64, v3, v5, .int .u64 G_0.Rate, .int .i64 G_0.Type_, .int .i64 G_0.Count, v7]) zz33 rfl rfl (one_all ⟨rfl, rfl, rfl, f69.one, (f4.mono (le26.trans (le43.trans (le53.trans (le58.trans le68))))).one, (f6.mono (le26.trans (le43.trans (le53.trans (le58.trans le68))))).one, rfl, rfl, rfl, (f8.mono (le26.trans (le43.trans (le53.trans (le58.trans le68))))).one, trivial⟩) rfl [.app (some b55) (.slice (some ⟨b55, 0, none⟩) 1 1) ([(⟨0, cv .u64 p_2, 7⟩ : api_Tuple)] : List api_Tuple).length 57 3, .app g67 v64 y62.length 57 3, .box b16 #[.int .i64 G_0.Kind, .int .u32 G_0.From, .int .u32 G_0.About, v64, v3, v5, .int .u64 G_0.Rate, .int .i64 G_0.Type_, .int .i64 G_0.Count, v7] 33, .box b13 #[.int .i64 G_0.Kind, .int .u32 G_0.From, .int .u32 G_0.About, v64, v3, v5, .int .u64 G_0.Rate, .int .i64 G_0.Type_, .int .i64 G_0.Count, v7] 33] rfl (fun w71 hs => ?_))
      refine Rg.go ?_
      refine Cd.ret ?_
      obtain rfl := some_s h0
      exact fun a ha => Cd.retA (R := Re (Po12 S0 w0 [] _)) ha Try.results12 ⟨_, _, _, rfl, rfl, run_lvN (vals := [.int .i64 G_0.Kind, .int .u32 G_0.From, .int .u32 G_0.About, v64, v3, v5, .int .u64 G_0.Rate, .int .i64 G_0.Type_, .int .i64 G_0.Count, v7]) Try.underlying33 rfl zz33 (hs.range 2 rfl 0 rfl), rfl⟩ ⟨_, rfl, S66, v64, v3, v5, v7, rfl, (hs.pick [] (by decide) rfl), f69, (f4.mono (le26.trans (le43.trans (le53.trans (le58.trans le68))))), (f6.mono (le26.trans (le43.trans (le53.trans (le58.trans le68))))), (f8.mono (le26.trans (le43.trans (le53.trans (le58.trans le68)))))⟩
     ·have h0 := ite_f hc39 h0
      refine Cd.sr ?_
      refine Rg.vN (X.eql rfl rfl) rfl ?_
      refine Rg.st rfl rfl ?_
      refine Rg.go ?_
      refine Cd.cond (t := x19 == 5) rfl (fun hc72 => ?_) (fun hc72 => ?_)
      ·have h0 := ite_t hc72 h0
       refine Cd.region ?_
       refine Rg.step rfl (Oq.lit (sz := 3) (cs0 := []) (cells := []) hs Try.underlying28 ii57 rfl rfl rfl rfl rfl rfl rfl rfl rfl rfl (fun b73 w74 S75 hs le76 hE77 => ?_))
       have f79 : Rd S75 3 R_api_Tuple (.slice (some ⟨b73, 0, none⟩) 0 0) ([] : List api_Tuple) := Rd.of_cells (xs := ([] : List api_Tuple)) rfl hE77 (Nat.le_of_ble_eq_true rfl) (Nat.le_of_ble_eq_true rfl)
       refine Rg.vN (X.fieldB Try.underlying33 rfl zz28 rfl rfl) rfl ?_
       refine Rg.vN (X.load1 Try.underlying28 rfl rfl (hs.cell 2 rfl 3 rfl)) rfl ?_
       refine Rg.weak [(2, .int .i64 p_2), (3, .pointer (some ⟨b13, 0, none⟩)), (6, .pointer (some ⟨b16, 0, none⟩)), (51, .slice (some ⟨b73, 0, none⟩) 0 0), (53, v1)] ⟨rfl, rfl, rfl, rfl, rfl, trivial⟩ ?_
       obtain ⟨y80, hx81, h0⟩ := bind_s h0
       refine Rg.step rfl (Oq.appendS hs 0 rfl Try.underlying28 ii57 rfl rfl rfl rfl rfl rfl f79 (f2.mono (le26.trans le76)) hx81 rfl rfl rfl (fun v82 w83 S84 g85 hs le86 f87 => ?_))
       refine Rg.mv rfl rfl ?_
       refine Rg.vN (X.build (zc := [.int .u32 0, .int .u64 0, .int .i64 0]) (cells := [.int .u32 0, .int .u64 0, .int .i64 p_2]) ii57 rfl rfl Try.underlying57 (pp57 _ Try.underlying57) ⟨_, [.int .i64 p_2], _, rfl, rfl, rfl, rfl⟩ rfl) rfl ?_
       refine Rg.step rfl (Oq.lit (sz := 3) (cs0 := [.int .u32 0, .int .u64 0, .int .i64 0]) (cells := [.int .u32 0, .int .u64 0, .int .i64 p_2]) hs Try.underlying28 ii57 rfl rfl rfl rfl rfl rfl ⟨_, [.int .u32 0, .int .u64 0, .int .i64 p_2], _, rfl, rfl, rfl, rfl⟩ rfl rfl rfl (fun b88 w89 S90 hs le91 hE92 => ?_))
       have f94 : Rd S90 3 R_api_Tuple (.slice (some ⟨b88, 0, none⟩) 1 1) ([(⟨0, 0, p_2⟩ : api_Tuple)] : List api_Tuple) := Rd.of_cells (xs := ([(⟨0, 0, p_2⟩ : api_Tuple)] : List api_Tuple)) ⟨[.int .u32 0, .int .u64 0, .int .i64 p_2], _, rfl, rfl, one_all ⟨rfl, rfl, rfl, trivial⟩, rfl, rfl⟩ hE92 (Nat.le_of_ble_eq_true rfl) (Nat.le_of_ble_eq_true rfl)
       obtain ⟨y95, hx96, h0⟩ := bind_s h0
       refine Rg.step rfl (Oq.appendS hs 1 rfl Try.underlying28 ii57 rfl rfl rfl rfl rfl rfl (f87.mono le91) f94 hx96 rfl rfl rfl (fun v97 w98 S99 g100 hs le101 f102 => ?_))
       refine Rg.vN (X.fieldB Try.underlying33 rfl zz28 rfl rfl) rfl ?_
       refine Rg.step rfl (Oq.store hs 3 rfl 3 zz28 rfl rfl f102.cells f102.one rfl [.app (some b88) (.slice (some ⟨b88, 0, none⟩) 1 1) ([(⟨0, 0, p_2⟩ : api_Tuple)] : List api_Tuple).length 57 3, .app g100 v97 y95.length 57 3, .box b16 #[.int .i64 0, .int .u32 0, .int .u32 0, .slice none 0 0, .slice none 0 0, .slice none 0 0, .int .u64 0, .int .i64 0, .int .i64 0, .slice none 0 0] 33, .box b13 #[.int .i64 G_0.Kind, .int .u32 G_0.From, .int .u32 G_0.About, v97, v3, v5, .int .u64 G_0.Rate, .int .i64 G_0.Type_, .int .i64 G_0.Count, v7] 33] rfl (fun w103 hs => ?_))
       refine Rg.nil ?_
       refine Cd.go ?_
       refine Cd.sr ?_
       refine Rg.vN (X.loadN (vals := [.int .i64 G_0.Kind, .int .u32 G_0.From, .int .u32 G_0.About, v97, v3, v5, .int .u64 G_0.Rate, .int .i64 G_0.Type_, .int .i64 G_0.Count, v7]) Try.underlying33 rfl zz33 rfl (hs.range 3 rfl 0 rfl)) rfl ?_
       refine Rg.step rfl (Oq.storeN hs 2 rfl (vals := [.int .i64 G_0.Kind, .int .u32 G_0.From, .int .u32 G_0.About, v97, v3, v5, .int .u64 G_0.Rate, .int .i64 G_0.Type_, .int .i64 G_0.Count, v7]) zz33 rfl rfl (one_all ⟨rfl, rfl, rfl, f102.one, (f4.mono (le26.trans (le76.trans (le86.trans (le91.trans le101))))).one, (f6.mono (le26.trans (le76.trans (le86.trans (le91.trans le101))))).one, rfl, rfl, rfl, (f8.mono (le26.trans (le76.trans (le86.trans (le91.trans le101))))).one, trivial⟩) rfl [.app (some b88) (.slice (some ⟨b88, 0, none⟩) 1 1) ([(⟨0, 0, p_2⟩ : api_Tuple)] : List api_Tuple).length 57 3, .app g100 v97 y95.length 57 3, .box b16 #[.int .i64 G_0.Kind, .int .u32 G_0.From, .int .u32 G_0.About, v97, v3, v5, .int .u64 G_0.Rate, .int .i64 G_0.Type_, .int .i64 G_0.Count, v7] 33, .box b13 #[.int .i64 G_0.Kind, .int .u32 G_0.From, .int .u32 G_0.About, v97, v3, v5, .int .u64 G_0.Rate, .int .i64 G_0.Type_, .int .i64 G_0.Count, v7] 33] rfl (fun w104 hs => ?_))
       refine Rg.go ?_
       refine Cd.ret ?_
       obtain rfl := some_s h0
       exact fun a ha => Cd.retA (R := Re (Po12 S0 w0 [] _)) ha Try.results12 ⟨_, _, _, rfl, rfl, run_lvN (vals := [.int .i64 G_0.Kind, .int .u32 G_0.From, .int .u32 G_0.About, v97, v3, v5, .int .u64 G_0.Rate, .int .i64 G_0.Type_, .int .i64 G_0.Count, v7]) Try.underlying33 rfl zz33 (hs.range 2 rfl 0 rfl), rfl⟩ ⟨_, rfl, S99, v97, v3, v5, v7, rfl, (hs.pick [] (by decide) rfl), f102, (f4.mono (le26.trans (le76.trans (le86.trans (le91.trans le101))))), (f6.mono (le26.trans (le76.trans (le86.trans (le91.trans le101))))), (f8.mono (le26.trans (le76.trans (le86.trans (le91.trans le101)))))⟩
      ·have h0 := ite_f hc72 h0
       refine Cd.sr ?_
       refine Rg.vN (X.eql rfl rfl) rfl ?_
       refine Rg.st rfl rfl ?_
       refine Rg.go ?_
       refine Cd.weak [(2, .int .i64 p_2), (3, .pointer (some ⟨b13, 0, none⟩)), (6, .pointer (some ⟨b16, 0, none⟩)), (8, .int .i64 x19), (60, .bool (x19 == 6))] ⟨rfl, rfl, rfl, rfl, rfl, trivial⟩ ?_
       refine Cd.cond (t := x19 == 6) rfl (fun hc105 => ?_) (fun hc105 => ?_)
       ·have h0 := ite_t hc105 h0
        refine Cd.region ?_
        refine Rg.step rfl (Oq.lit (sz := 1) (cs0 := []) (cells := []) hs Try.underlying29 ii27 rfl rfl rfl rfl rfl rfl rfl rfl rfl rfl (fun b106 w107 S108 hs le109 hE110 => ?_))
        have f112 : Rd S108 1 (RI .u32) (.slice (some ⟨b106, 0, none⟩) 0 0) ([] : List Int) := Rd.of_cells (xs := ([] : List Int)) rfl hE110 (Nat.le_of_ble_eq_true rfl) (Nat.le_of_ble_eq_true rfl)
        refine Rg.vN (X.fieldB Try.underlying33 rfl zz29 rfl rfl) rfl ?_
        refine Rg.vN (X.load1 Try.underlying29 rfl rfl (hs.cell 2 rfl 4 rfl)) rfl ?_
        obtain ⟨y113, hx114, h0⟩ := bind_s h0
        refine Rg.step rfl (Oq.appendS hs 0 rfl Try.underlying29 ii27 rfl rfl rfl rfl rfl rfl f112 (f4.mono (le26.trans le109)) hx114 rfl rfl rfl (fun v115 w116 S117 g118 hs le119 f120 => ?_))
        refine Rg.mv rfl rfl ?_
        refine Rg.vN (X.conv Try.underlying2 Try.underlying27 rfl) rfl ?_
        refine Rg.step rfl (Oq.lit (sz := 1) (cs0 := [.int .u32 0]) (cells := [.int .u32 (cv .u32 p_2)]) hs Try.underlying29 ii27 rfl rfl rfl rfl rfl rfl ⟨_, [.int .u32 (cv .u32 p_2)], _, rfl, rfl, rfl, rfl⟩ rfl rfl rfl (fun b121 w122 S123 hs le124 hE125 => ?_))
        have f127 : Rd S123 1 (RI .u32) (.slice (some ⟨b121, 0, none⟩) 1 1) ([cv .u32 p_2] : List Int) := Rd.of_cells (xs := ([cv .u32 p_2] : List Int)) ⟨[.int .u32 (cv .u32 p_2)], _, rfl, rfl, one_all ⟨rfl, trivial⟩, rfl, rfl⟩ hE125 (Nat.le_of_ble_eq_true rfl) (Nat.le_of_ble_eq_true rfl)
        obtain ⟨y128, hx129, h0⟩ := bind_s h0
        refine Rg.step rfl (Oq.appendS hs 1 rfl Try.underlying29 ii27 rfl rfl rfl rfl rfl rfl (f120.mono le124) f127 hx129 rfl rfl rfl (fun v130 w131 S132 g133 hs le134 f135 => ?_))
        refine Rg.vN (X.fieldB Try.underlying33 rfl zz29 rfl rfl) rfl ?_
        refine Rg.step rfl (Oq.store hs 3 rfl 4 zz29 rfl rfl f135.cells f135.one rfl [.app (some b121) (.slice (some ⟨b121, 0, none⟩) 1 1) ([cv .u32 p_2] : List Int).length 27 1, .app g133 v130 y128.length 27 1, .box b16 #[.int .i64 0, .int .u32 0, .int .u32 0, .slice none 0 0, .slice none 0 0, .slice none 0 0, .int .u64 0, .int .i64 0, .int .i64 0, .slice none 0 0] 33, .box b13 #[.int .i64 G_0.Kind, .int .u32 G_0.From, .int .u32 G_0.About, v1, v130, v5, .int .u64 G_0.Rate, .int .i64 G_0.Type_, .int .i64 G_0.Count, v7] 33] rfl (fun w136 hs => ?_))
        refine Rg.nil ?_
        refine Cd.go ?_
        refine Cd.sr ?_
        refine Rg.vN (X.loadN (vals := [.int .i64 G_0.Kind, .int .u32 G_0.From, .int .u32 G_0.About, v1, v130, v5, .int .u64 G_0.Rate, .int .i64 G_0.Type_, .int .i64 G_0.Count, v7]) Try.underlying33 rfl zz33 rfl (hs.range 3 rfl 0 rfl)) rfl ?_
        refine Rg.step rfl (Oq.storeN hs 2 rfl (vals := [.int .i64 G_0.Kind, .int .u32 G_0.From, .int .u32 G_0.About, v1, v130, v5, .int .u64 G_0.Rate, .int .i64 G_0.Type_, .int .i64 G_0.Count, v7]) zz33 rfl rfl (one_all ⟨rfl, rfl, rfl, (f2.mono (le26.trans (le109.trans (le119.trans (le124.trans le134))))).one, f135.one, (f6.mono (le26.trans (le109.trans (le119.trans (le124.trans le134))))).one, rfl, rfl, rfl, (f8.mono (le26.trans (le109.trans (le119.trans (le124.trans le134))))).one, trivial⟩) rfl [.app (some b121) (.slice (some ⟨b121, 0, none⟩) 1 1) ([cv .u32 p_2] : List Int).length 27 1, .app g133 v130 y128.length 27 1, .box b16 #[.int .i64 G_0.Kind, .int .u32 G_0.From, .int .u32 G_0.About, v1, v130, v5, .int .u64 G_0.Rate, .int .i64 G_0.Type_, .int .i64 G_0.Count, v7] 33, .box b13 #[.int .i64 G_0.Kind, .int .u32 G_0.From, .int .u32 G_0.About, v1, v130, v5, .int .u64 G_0.Rate, .int .i64 G_0.Type_, .int .i64 G_0.Count, v7] 33] rfl (fun w137 hs => ?_))
        refine Rg.go ?_
        refine Cd.ret ?_
        obtain rfl := some_s h0
        exact fun a ha => Cd.retA (R := Re (Po12 S0 w0 [] _)) ha Try.results12 ⟨_, _, _, rfl, rfl, run_lvN (vals := [.int .i64 G_0.Kind, .int .u32 G_0.From, .int .u32 G_0.About, v1, v130, v5, .int .u64 G_0.Rate, .int .i64 G_0.Type_, .int .i64 G_0.Count, v7]) Try.underlying33 rfl zz33 (hs.range 2 rfl 0 rfl), rfl⟩ ⟨_, rfl, S132, v1, v130, v5, v7, rfl, (hs.pick [] (by decide) rfl), (f2.mono (le26.trans (le109.trans (le119.trans (le124.trans le134))))), f135, (f6.mono (le26.trans (le109.trans (le119.trans (le124.trans le134))))), (f8.mono (le26.trans (le109.trans (le119.trans (le124.trans le134)))))⟩
       ·have h0 := ite_f hc105 h0
        refine Cd.sr ?_
        refine Rg.vN (X.eql rfl rfl) rfl ?_
        refine Rg.st rfl rfl ?_
        refine Rg.go ?_
        refine Cd.cond (t := x19 == 7) rfl (fun hc138 => ?_) (fun hc138 => ?_)
        ·have h0 := ite_t hc138 h0
         refine Cd.region ?_
         refine Rg.step rfl (Oq.lit (sz := 1) (cs0 := []) (cells := []) hs Try.underlying23 ii3 rfl rfl rfl rfl rfl rfl rfl rfl rfl rfl (fun b139 w140 S141 hs le142 hE143 => ?_))
         have f145 : Rd S141 1 (RI .i64) (.slice (some ⟨b139, 0, none⟩) 0 0) ([] : List Int) := Rd.of_cells (xs := ([] : List Int)) rfl hE143 (Nat.le_of_ble_eq_true rfl) (Nat.le_of_ble_eq_true rfl)
         refine Rg.vN (X.fieldB Try.underlying33 rfl zz23 rfl rfl) rfl ?_
         refine Rg.vN (X.load1 Try.underlying23 rfl rfl (hs.cell 2 rfl 5 rfl)) rfl ?_
         obtain ⟨y146, hx147, h0⟩ := bind_s h0
         refine Rg.step rfl (Oq.appendS hs 0 rfl Try.underlying23 ii3 rfl rfl rfl rfl rfl rfl f145 (f6.mono (le26.trans le142)) hx147 rfl rfl rfl (fun v148 w149 S150 g151 hs le152 f153 => ?_))
         refine Rg.mv rfl rfl ?_
         refine Rg.step rfl (Oq.lit (sz := 1) (cs0 := [.int .i64 0]) (cells := [.int .i64 p_2]) hs Try.underlying23 ii3 rfl rfl rfl rfl rfl rfl ⟨_, [.int .i64 p_2], _, rfl, rfl, rfl, rfl⟩ rfl rfl rfl (fun b154 w155 S156 hs le157 hE158 => ?_))
         have f160 : Rd S156 1 (RI .i64) (.slice (some ⟨b154, 0, none⟩) 1 1) ([p_2] : List Int) := Rd.of_cells (xs := ([p_2] : List Int)) ⟨[.int .i64 p_2], _, rfl, rfl, one_all ⟨rfl, trivial⟩, rfl, rfl⟩ hE158 (Nat.le_of_ble_eq_true rfl) (Nat.le_of_ble_eq_true rfl)
         obtain ⟨y161, hx162, h0⟩ := bind_s h0
         refine Rg.step rfl (Oq.appendS hs 1 rfl Try.underlying23 ii3 rfl rfl rfl rfl rfl rfl (f153.mono le157) f160 hx162 rfl rfl rfl (fun v163 w164 S165 g166 hs le167 f168 => ?_))
         refine Rg.vN (X.fieldB Try.underlying33 rfl zz23 rfl rfl) rfl ?_
         refine Rg.step rfl (Oq.store hs 3 rfl 5 zz23 rfl rfl f168.cells f168.one rfl [.app (some b154) (.slice (some ⟨b154, 0, none⟩) 1 1) ([p_2] : List Int).length 3 1, .app g166 v163 y161.length 3 1, .box b16 #[.int .i64 0, .int .u32 0, .int .u32 0, .slice none 0 0, .slice none 0 0, .slice none 0 0, .int .u64 0, .int .i64 0, .int .i64 0, .slice none 0 0] 33, .box b13 #[.int .i64 G_0.Kind, .int .u32 G_0.From, .int .u32 G_0.About, v1, v3, v163, .int .u64 G_0.Rate, .int .i64 G_0.Type_, .int .i64 G_0.Count, v7] 33] rfl (fun w169 hs => ?_))
         refine Rg.nil ?_
         refine Cd.go ?_
         refine Cd.sr ?_
         refine Rg.vN (X.loadN (vals := [.int .i64 G_0.Kind, .int .u32 G_0.From, .int .u32 G_0.About, v1, v3, v163, .int .u64 G_0.Rate, .int .i64 G_0.Type_, .int .i64 G_0.Count, v7]) Try.underlying33 rfl zz33 rfl (hs.range 3 rfl 0 rfl)) rfl ?_
         refine Rg.step rfl (Oq.storeN hs 2 rfl (vals := [.int .i64 G_0.Kind, .int .u32 G_0.From, .int .u32 G_0.About, v1, v3, v163, .int .u64 G_0.Rate, .int .i64 G_0.Type_, .int .i64 G_0.Count, v7]) zz33 rfl rfl (one_all ⟨rfl, rfl, rfl, (f2.mono (le26.trans (le142.trans (le152.trans (le157.trans le167))))).one, (f4.mono (le26.trans (le142.trans (le152.trans (le157.trans le167))))).one, f168.one, rfl, rfl, rfl, (f8.mono (le26.trans (le142.trans (le152.trans (le157.trans le167))))).one, trivial⟩) rfl [.app (some b154) (.slice (some ⟨b154, 0, none⟩) 1 1) ([p_2] : List Int).length 3 1, .app g166 v163 y161.length 3 1, .box b16 #[.int .i64 G_0.Kind, .int .u32 G_0.From, .int .u32 G_0.About, v1, v3, v163, .int .u64 G_0.Rate, .int .i64 G_0.Type_, .int .i64 G_0.Count, v7] 33, .box b13 #[.int .i64 G_0.Kind, .int .u32 G_0.From, .int .u32 G_0.About, v1, v3, v163, .int .u64 G_0.Rate, .int .i64 G_0.Type_, .int .i64 G_0.Count, v7] 33] rfl (fun w170 hs => ?_))
         refine Rg.go ?_
         refine Cd.ret ?_
         obtain rfl := some_s h0
         exact fun a ha => Cd.retA (R := Re (Po12 S0 w0 [] _)) ha Try.results12 ⟨_, _, _, rfl, rfl, run_lvN (vals := [.int .i64 G_0.Kind, .int .u32 G_0.From, .int .u32 G_0.About, v1, v3, v163, .int .u64 G_0.Rate, .int .i64 G_0.Type_, .int .i64 G_0.Count, v7]) Try.underlying33 rfl zz33 (hs.range 2 rfl 0 rfl), rfl⟩ ⟨_, rfl, S165, v1, v3, v163, v7, rfl, (hs.pick [] (by decide) rfl), (f2.mono (le26.trans (le142.trans (le152.trans (le157.trans le167))))), (f4.mono (le26.trans (le142.trans (le152.trans (le157.trans le167))))), f168, (f8.mono (le26.trans (le142.trans (le152.trans (le157.trans le167)))))⟩
        ·have h0 := ite_f hc138 h0
         refine Cd.sr ?_
         refine Rg.vN (X.eql rfl rfl) rfl ?_
         refine Rg.st rfl rfl ?_
         refine Rg.go ?_
         refine Cd.cond (t := x19 == 8) rfl (fun hc171 => ?_) (fun hc171 => ?_)
         ·have h0 := ite_t hc171 h0
          refine Cd.region ?_
          refine Rg.mv rfl rfl ?_
          refine Rg.vN (X.fieldB Try.underlying33 rfl zz3 rfl rfl) rfl ?_
          refine Rg.step rfl (Oq.store hs 1 rfl 7 zz3 rfl rfl rfl rfl rfl [.box b16 #[.int .i64 0, .int .u32 0, .int .u32 0, .slice none 0 0, .slice none 0 0, .slice none 0 0, .int .u64 0, .int .i64 0, .int .i64 0, .slice none 0 0] 33, .box b13 #[.int .i64 G_0.Kind, .int .u32 G_0.From, .int .u32 G_0.About, v1, v3, v5, .int .u64 G_0.Rate, .int .i64 p_2, .int .i64 G_0.Count, v7] 33] rfl (fun w172 hs => ?_))
          refine Rg.nil ?_
          refine Cd.go ?_
          refine Cd.sr ?_
          refine Rg.vN (X.loadN (vals := [.int .i64 G_0.Kind, .int .u32 G_0.From, .int .u32 G_0.About, v1, v3, v5, .int .u64 G_0.Rate, .int .i64 p_2, .int .i64 G_0.Count, v7]) Try.underlying33 rfl zz33 rfl (hs.range 1 rfl 0 rfl)) rfl ?_
          refine Rg.step rfl (Oq.storeN hs 0 rfl (vals := [.int .i64 G_0.Kind, .int .u32 G_0.From, .int .u32 G_0.About, v1, v3, v5, .int .u64 G_0.Rate, .int .i64 p_2, .int .i64 G_0.Count, v7]) zz33 rfl rfl (one_all ⟨rfl, rfl, rfl, (f2.mono le26).one, (f4.mono le26).one, (f6.mono le26).one, rfl, rfl, rfl, (f8.mono le26).one, trivial⟩) rfl [.box b16 #[.int .i64 G_0.Kind, .int .u32 G_0.From, .int .u32 G_0.About, v1, v3, v5, .int .u64 G_0.Rate, .int .i64 p_2, .int .i64 G_0.Count, v7] 33, .box b13 #[.int .i64 G_0.Kind, .int .u32 G_0.From, .int .u32 G_0.About, v1, v3, v5, .int .u64 G_0.Rate, .int .i64 p_2, .int .i64 G_0.Count, v7] 33] rfl (fun w173 hs => ?_))
          refine Rg.go ?_
          refine Cd.ret ?_
          obtain rfl := some_s h0
          exact fun a ha => Cd.retA (R := Re (Po12 S0 w0 [] _)) ha Try.results12 ⟨_, _, _, rfl, rfl, run_lvN (vals := [.int .i64 G_0.Kind, .int .u32 G_0.From, .int .u32 G_0.About, v1, v3, v5, .int .u64 G_0.Rate, .int .i64 p_2, .int .i64 G_0.Count, v7]) Try.underlying33 rfl zz33 (hs.range 0 rfl 0 rfl), rfl⟩ ⟨_, rfl, S24, v1, v3, v5, v7, rfl, (hs.pick [] (by decide) rfl), (f2.mono le26), (f4.mono le26), (f6.mono le26), (f8.mono le26)⟩
         ·have h0 := ite_f hc171 h0
          refine Cd.sr ?_
          refine Rg.vN (X.eql rfl rfl) rfl ?_
          refine Rg.st rfl rfl ?_
          refine Rg.go ?_
          refine Cd.cond (t := x19 == 9) rfl (fun hc174 => ?_) (fun hc174 => ?_)
          ·have h0 := ite_t hc174 h0
           refine Cd.region ?_
           refine Rg.mv rfl rfl ?_
           refine Rg.vN (X.fieldB Try.underlying33 rfl zz3 rfl rfl) rfl ?_
           refine Rg.step rfl (Oq.store hs 1 rfl 8 zz3 rfl rfl rfl rfl rfl [.box b16 #[.int .i64 0, .int .u32 0, .int .u32 0, .slice none 0 0, .slice none 0 0, .slice none 0 0, .int .u64 0, .int .i64 0, .int .i64 0, .slice none 0 0] 33, .box b13 #[.int .i64 G_0.Kind, .int .u32 G_0.From, .int .u32 G_0.About, v1, v3, v5, .int .u64 G_0.Rate, .int .i64 G_0.Type_, .int .i64 p_2, v7] 33] rfl (fun w175 hs => ?_))
           refine Rg.nil ?_
           refine Cd.go ?_
           refine Cd.sr ?_
           refine Rg.vN (X.loadN (vals := [.int .i64 G_0.Kind, .int .u32 G_0.From, .int .u32 G_0.About, v1, v3, v5, .int .u64 G_0.Rate, .int .i64 G_0.Type_, .int .i64 p_2, v7]) Try.underlying33 rfl zz33 rfl (hs.range 1 rfl 0 rfl)) rfl ?_
           refine Rg.step rfl (Oq.storeN hs 0 rfl (vals := [.int .i64 G_0.Kind, .int .u32 G_0.From, .int .u32 G_0.About, v1, v3, v5, .int .u64 G_0.Rate, .int .i64 G_0.Type_, .int .i64 p_2, v7]) zz33 rfl rfl (one_all ⟨rfl, rfl, rfl, (f2.mono le26).one, (f4.mono le26).one, (f6.mono le26).one, rfl, rfl, rfl, (f8.mono le26).one, trivial⟩) rfl [.box b16 #[.int .i64 G_0.Kind, .int .u32 G_0.From, .int .u32 G_0.About, v1, v3, v5, .int .u64 G_0.Rate, .int .i64 G_0.Type_, .int .i64 p_2, v7] 33, .box b13 #[.int .i64 G_0.Kind, .int .u32 G_0.From, .int .u32 G_0.About, v1, v3, v5, .int .u64 G_0.Rate, .int .i64 G_0.Type_, .int .i64 p_2, v7] 33] rfl (fun w176 hs => ?_))
           refine Rg.go ?_
           refine Cd.ret ?_
           obtain rfl := some_s h0
           exact fun a ha => Cd.retA (R := Re (Po12 S0 w0 [] _)) ha Try.results12 ⟨_, _, _, rfl, rfl, run_lvN (vals := [.int .i64 G_0.Kind, .int .u32 G_0.From, .int .u32 G_0.About, v1, v3, v5, .int .u64 G_0.Rate, .int .i64 G_0.Type_, .int .i64 p_2, v7]) Try.underlying33 rfl zz33 (hs.range 0 rfl 0 rfl), rfl⟩ ⟨_, rfl, S24, v1, v3, v5, v7, rfl, (hs.pick [] (by decide) rfl), (f2.mono le26), (f4.mono le26), (f6.mono le26), (f8.mono le26)⟩
          ·have h0 := ite_f hc174 h0
           refine Cd.region ?_
           refine Rg.step rfl (Oq.lit (sz := 1) (cs0 := []) (cells := []) hs Try.underlying31 ii5 rfl rfl rfl rfl rfl rfl rfl rfl rfl rfl (fun b177 w178 S179 hs le180 hE181 => ?_))
           have f183 : Rd S179 1 (RI .u8) (.slice (some ⟨b177, 0, none⟩) 0 0) ([] : List Int) := Rd.of_cells (xs := ([] : List Int)) rfl hE181 (Nat.le_of_ble_eq_true rfl) (Nat.le_of_ble_eq_true rfl)
           refine Rg.vN (X.fieldB Try.underlying33 rfl zz31 rfl rfl) rfl ?_
           refine Rg.vN (X.load1 Try.underlying31 rfl rfl (hs.cell 2 rfl 9 rfl)) rfl ?_
           obtain ⟨y184, hx185, h0⟩ := bind_s h0
           refine Rg.step rfl (Oq.appendS hs 0 rfl Try.underlying31 ii5 rfl rfl rfl rfl rfl rfl f183 (f8.mono (le26.trans le180)) hx185 rfl rfl rfl (fun v186 w187 S188 g189 hs le190 f191 => ?_))
           refine Rg.mv rfl rfl ?_
           refine Rg.vN (X.and rfl rfl) rfl ?_
           refine Rg.weak [(3, .pointer (some ⟨b13, 0, none⟩)), (6, .pointer (some ⟨b16, 0, none⟩)), (12, v186), (14, .int .i64 (band .i64 p_2 3))] ⟨rfl, rfl, rfl, rfl, trivial⟩ ?_
           refine Rg.vN (X.add rfl rfl) rfl ?_
           obtain ⟨y192, hx193, h0⟩ := bind_s h0
           refine Rg.step rfl (Oq.appendZ (x0 := 0) hs 0 rfl Try.underlying31 Try.underlying2 ii5 rfl rfl rfl rfl rfl rfl (one_all (l := [.int .u8 0]) ⟨rfl, trivial⟩) rfl f191 hx193 rfl rfl rfl (fun v194 w195 S196 g197 hs le198 f199 => ?_))
           refine Rg.vN (X.fieldB Try.underlying33 rfl zz31 rfl rfl) rfl ?_
           refine Rg.step rfl (Oq.store hs 2 rfl 9 zz31 rfl rfl f199.cells f199.one rfl [.app g197 v194 y192.length 5 1, .box b16 #[.int .i64 0, .int .u32 0, .int .u32 0, .slice none 0 0, .slice none 0 0, .slice none 0 0, .int .u64 0, .int .i64 0, .int .i64 0, .slice none 0 0] 33, .box b13 #[.int .i64 G_0.Kind, .int .u32 G_0.From, .int .u32 G_0.About, v1, v3, v5, .int .u64 G_0.Rate, .int .i64 G_0.Type_, .int .i64 G_0.Count, v194] 33] rfl (fun w200 hs => ?_))
           refine Rg.nil ?_
           refine Cd.go ?_
           refine Cd.sr ?_
           refine Rg.vN (X.loadN (vals := [.int .i64 G_0.Kind, .int .u32 G_0.From, .int .u32 G_0.About, v1, v3, v5, .int .u64 G_0.Rate, .int .i64 G_0.Type_, .int .i64 G_0.Count, v194]) Try.underlying33 rfl zz33 rfl (hs.range 2 rfl 0 rfl)) rfl ?_
           refine Rg.step rfl (Oq.storeN hs 1 rfl (vals := [.int .i64 G_0.Kind, .int .u32 G_0.From, .int .u32 G_0.About, v1, v3, v5, .int .u64 G_0.Rate, .int .i64 G_0.Type_, .int .i64 G_0.Count, v194]) zz33 rfl rfl (one_all ⟨rfl, rfl, rfl, (f2.mono (le26.trans (le180.trans (le190.trans le198)))).one, (f4.mono (le26.trans (le180.trans (le190.trans le198)))).one, (f6.mono (le26.trans (le180.trans (le190.trans le198)))).one, rfl, rfl, rfl, f199.one, trivial⟩) rfl [.app g197 v194 y192.length 5 1, .box b16 #[.int .i64 G_0.Kind, .int .u32 G_0.From, .int .u32 G_0.About, v1, v3, v5, .int .u64 G_0.Rate, .int .i64 G_0.Type_, .int .i64 G_0.Count, v194] 33, .box b13 #[.int .i64 G_0.Kind, .int .u32 G_0.From, .int .u32 G_0.About, v1, v3, v5, .int .u64 G_0.Rate, .int .i64 G_0.Type_, .int .i64 G_0.Count, v194] 33] rfl (fun w201 hs => ?_))
           refine Rg.go ?_
           refine Cd.ret ?_
           obtain rfl := some_s h0
           exact fun a ha => Cd.retA (R := Re (Po12 S0 w0 [] _)) ha Try.results12 ⟨_, _, _, rfl, rfl, run_lvN (vals := [.int .i64 G_0.Kind, .int .u32 G_0.From, .int .u32 G_0.About, v1, v3, v5, .int .u64 G_0.Rate, .int .i64 G_0.Type_, .int .i64 G_0.Count, v194]) Try.underlying33 rfl zz33 (hs.range 1 rfl 0 rfl), rfl⟩ ⟨_, rfl, S196, v1, v3, v5, v194, rfl, (hs.pick [] (by decide) rfl), (f2.mono (le26.trans (le180.trans (le190.trans le198)))), (f4.mono (le26.trans (le180.trans (le190.trans le198)))), (f6.mono (le26.trans (le180.trans (le190.trans le198)))), f199⟩
noncomputable def limelightkeep_Tape_Next (t_0 : limelightkeep_Tape) (n_1 : Int) : Option (Int × limelightkeep_Tape) :=
 if ((decide ((t_0.L.length : Int) ≤ t_0.At)) || (decide (n_1 < 1))) = true then (
  some (0, t_0))
 else (
  ((
   (ix t_0.L (sub .i64 (add .i64 t_0.At 1) 1)).bind fun x17 =>
   (limelightbook_Within x17 0 1073741824).bind fun x24 =>
   gd (n_1 ≠ 0) (
    some (rem .i64 x24 n_1)) : Option Int)).bind fun p10 =>
  some (p10, (⟨t_0.L, add .i64 t_0.At 1⟩ : limelightkeep_Tape)))
def Po27 (S0 : Mp) (w0 : World) (D : List Nat) (b1 : Nat) (r : (Int × limelightkeep_Tape)) (v : Value) (w1 : World) : Prop :=
  ∃ (S1 : Mp) (v5 : Value), v = .int .i64 r.1 ∧ St w0 D S0 S1 [.box b1 #[v5, .int .i64 r.2.At] 26] w1 ∧ Rd S1 1 (RI .i64) v5 r.2.L
set_option maxHeartbeats 4000000 in
theorem c27 (S0 : Mp) {w0 : World} (b1 : Nat) (t_0 : limelightkeep_Tape) (v2 : Value) (f3 : Rd S0 1 (RI .i64) v2 t_0.L) (n_1 : Int) (hs : St w0 [b1] S0 S0 [.box b1 #[v2, .int .i64 t_0.At] 26] w0) (r : (Int × limelightkeep_Tape)) (h0 : limelightkeep_Tape_Next t_0 n_1 = some r) :
    Calls Try.prog 27 #[.pointer (some ⟨b1, 0, none⟩), .int .i64 n_1] w0 (Re (Po27 S0 w0 [b1] b1 r)) := by
 unfold limelightkeep_Tape_Next at h0
 refine calls_of_cd Try.func27 rfl Try.ntmps27 rfl ?_
 refine Cd.sr ?_
 refine Rg.st rfl rfl ?_
 refine Rg.go ?_
 refine Cd.seq ?_
 refine Cd.seq ?_
 refine Cd.rD mixed (fun l w => Has S0 w ∧ Hp b1 #[v2, .int .i64 t_0.At] 26 w) hs (fun _ _ _ _ _ h => h) (by kernel_rfl) (fun w6 hs => ⟨⟨hs.has, (hs.heap 0 rfl)⟩, ?_⟩)
 refine Rk.tN 0 rfl rfl (fun _ _ => X.move rfl) ?_
 refine Rk.tN 1 rfl rfl (fun _ _ => X.nilCheck rfl) ?_
 refine Rk.tN 2 rfl rfl (fun _ _ => X.fieldB Try.underlying26 rfl zz3 rfl rfl) ?_
 refine Rk.tN 3 rfl rfl (fun w hc => X.load1 Try.underlying3 rfl rfl (heap_cell hc.2 rfl)) ?_
 refine Rk.tN 4 rfl rfl (fun _ _ => X.move rfl) ?_
 refine Rk.tN 5 rfl rfl (fun _ _ => X.nilCheck rfl) ?_
 refine Rk.tN 6 rfl rfl (fun _ _ => X.fieldB Try.underlying26 rfl zz23 rfl rfl) ?_
 refine Rk.tN 7 rfl rfl (fun w hc => X.load1 Try.underlying23 rfl rfl (heap_cell hc.2 rfl)) ?_
 refine Rk.tN 8 rfl rfl (fun _ _ => X.lenR Try.underlying23 rfl f3) ?_
 refine Rk.tN 9 rfl rfl (fun _ _ => X.geq rfl rfl) ?_
 refine Rk.tN 10 rfl rfl (fun _ _ => X.move rfl) ?_
 refine Rk.tF 11 rfl rfl rfl rfl (fun hW => fun _ _ => X.move rfl) ?_
 refine Rk.tF 12 rfl rfl rfl rfl (fun hW => fun _ _ => X.lss (ev_g rfl hW) rfl) ?_
 refine Rk.tN 13 rfl rfl (fun _ _ => X.pickOr rfl rfl rfl) ?_
 refine Rk.done ?_
 refine Cd.go ?_
 refine Cd.weak [(0, .pointer (some ⟨b1, 0, none⟩)), (1, .int .i64 n_1), (18, .bool ((decide ((t_0.L.length : Int) ≤ t_0.At)) || (decide (n_1 < 1))))] ⟨rfl, rfl, rfl, trivial⟩ ?_
 refine Cd.cond (t := (decide ((t_0.L.length : Int) ≤ t_0.At)) || (decide (n_1 < 1))) rfl (fun hc7 => ?_) (fun hc7 => ?_)
 ·have h0 := ite_t hc7 h0
  refine Cd.sr ?_
  refine Rg.st rfl rfl ?_
  refine Rg.go ?_
  refine Cd.ret ?_
  obtain rfl := some_s h0
  exact fun a ha => Cd.retA (R := Re (Po27 S0 w0 [b1] b1 _)) ha Try.results27 ⟨_, _, rfl, rfl, rfl⟩ ⟨_, rfl, S0, v2, rfl, hs, f3⟩
 ·have h0 := ite_f hc7 h0
  refine Cd.sg ?_
  refine Cd.sr ?_
  refine Rg.mv rfl rfl ?_
  refine Rg.vN (X.nilCheck rfl) rfl ?_
  refine Rg.vN (X.fieldB Try.underlying26 rfl zz3 rfl rfl) rfl ?_
  refine Rg.vN (X.load1 Try.underlying3 rfl rfl (hs.cell 0 rfl 1 rfl)) rfl ?_
  refine Rg.vN (X.add rfl rfl) rfl ?_
  refine Rg.vN (X.nilCheck rfl) rfl ?_
  refine Rg.vN (X.fieldB Try.underlying26 rfl zz3 rfl rfl) rfl ?_
  refine Rg.step rfl (Oq.store hs 0 rfl 1 zz3 rfl rfl rfl rfl rfl [.box b1 #[v2, .int .i64 (add .i64 t_0.At 1)] 26] rfl (fun w8 hs => ?_))
  refine Rg.go ?_
  refine Cd.seq ?_
  obtain ⟨p10, hp11, h0⟩ := bind_s h0
  refine Cd.post (fun K w => ∃ (S12 : Mp), K = [(4, .int .i64 p10)] ∧ Le S0 S12 ∧ St w0 [b1] S0 S12 [.box b1 #[v2, .int .i64 (add .i64 t_0.At 1)] 26] w) ?_ ?_
  ·rintro K15 w13 ⟨S12, rfl, le14, hs⟩
   refine Cd.go ?_
   refine Cd.ret ?_
   obtain rfl := some_s h0
   exact fun a ha => Cd.retA (R := Re (Po27 S0 w0 [b1] b1 _)) ha Try.results27 ⟨_, _, rfl, rfl, rfl⟩ ⟨_, rfl, S12, v2, rfl, hs, (f3.mono le14)⟩
  ·skip
   refine Cd.rD mixed (fun l w => Has S0 w ∧ Hp b1 #[v2, .int .i64 (add .i64 t_0.At 1)] 26 w) hs (fun _ _ _ _ _ h => h) (by kernel_rfl) (fun w16 hs => ⟨⟨hs.has, (hs.heap 0 rfl)⟩, ?_⟩)
   refine Rk.tN 0 rfl rfl (fun _ _ => X.move rfl) ?_
   refine Rk.tN 1 rfl rfl (fun _ _ => X.nilCheck rfl) ?_
   refine Rk.tN 2 rfl rfl (fun _ _ => X.fieldB Try.underlying26 rfl zz23 rfl rfl) ?_
   refine Rk.tN 3 rfl rfl (fun w hc => X.load1 Try.underlying23 rfl rfl (heap_cell hc.2 rfl)) ?_
   refine Rk.tN 4 rfl rfl (fun _ _ => X.move rfl) ?_
   refine Rk.tN 5 rfl rfl (fun _ _ => X.nilCheck rfl) ?_
   refine Rk.tN 6 rfl rfl (fun _ _ => X.fieldB Try.underlying26 rfl zz3 rfl rfl) ?_
   refine Rk.tN 7 rfl rfl (fun w hc => X.load1 Try.underlying3 rfl rfl (heap_cell hc.2 rfl)) ?_
   refine Rk.weak [(1, .int .i64 n_1), (29, v2), (33, .int .i64 (add .i64 t_0.At 1))] ⟨rfl, rfl, rfl, trivial⟩ ?_
   refine Rk.tN 8 rfl rfl (fun _ _ => X.sub rfl rfl) ?_
   obtain ⟨x17, hx18, hp11⟩ := bind_s hp11
   obtain ⟨ad19, vals20, _, hR21, hE22, hX23⟩ := mk_index Try.underlying23 zz3 (by decide) f3 hx18
   obtain rfl : vals20 = [.int .i64 x17] := hR21
   refine Rk.tN 9 rfl rfl (fun _ _ => hX23 rfl rfl) ?_
   refine Rk.tN 10 rfl rfl (fun w hc => X.load1 Try.underlying3 rfl rfl (hE22.at0 rfl hc.1)) ?_
   refine Rk.tN 12 rfl rfl (fun _ _ => X.move rfl) ?_
   obtain ⟨x24, hx25, hp11⟩ := bind_s hp11
   refine Rk.eN 11 rfl rfl (Oq.call Try.call16 rfl rfl (c16 S0 (St.start _ _ hs.has) _ _ _ _ hx25) (fun v26 w27 h28 => ?_))
   obtain ⟨S29, rfl, hs30⟩ := h28
   have le31 := hs30.le
   have hs := hs.call0 hs30
   refine ⟨⟨(hs.has.down le31), (hs.heap 0 rfl)⟩, Rk.mk (C' := fun l w => Has S29 w ∧ Hp b1 #[v2, .int .i64 (add .i64 t_0.At 1)] 26 w) ⟨hs.has, (hs.heap 0 rfl)⟩ (fun l w hc => ⟨hc.1.down le31, hc.2⟩) ?_⟩
   obtain ⟨hg32, hp11⟩ := gd_s hp11
   refine Rk.tN 13 rfl rfl (fun _ _ => X.rem rfl rfl hg32) ?_
   refine Rk.tN 14 rfl rfl (fun _ _ => X.assign rfl) ?_
   refine Rk.done ?_
   obtain rfl := some_s hp11
   exact fun a ha => ⟨[(4, .int .i64 (rem .i64 x24 n_1))], ha.weak ⟨rfl, trivial⟩, S29, rfl, le31, hs⟩
noncomputable def limelightkeep_Tape_Word (t_0 : limelightkeep_Tape) : Option (Int × limelightkeep_Tape) :=
 (limelightkeep_Tape_Next (⟨t_0.L, t_0.At⟩ : limelightkeep_Tape) 1048576).bind fun x6 =>
 (limelightkeep_Tape_Next (⟨x6.2.L, x6.2.At⟩ : limelightkeep_Tape) 4096).bind fun x16 =>
 (limelightkeep_Tape_Next (⟨x16.2.L, x16.2.At⟩ : limelightkeep_Tape) 5).bind fun x26 =>
 some (add .u32 (mul .u32 (cv .u32 x6.1) (cv .u32 (add .i64 1 x16.1))) (cv .u32 x26.1), x26.2)
def Po28 (S0 : Mp) (w0 : World) (D : List Nat) (b1 : Nat) (r : (Int × limelightkeep_Tape)) (v : Value) (w1 : World) : Prop :=
  ∃ (S1 : Mp) (v5 : Value), v = .int .u32 r.1 ∧ St w0 D S0 S1 [.box b1 #[v5, .int .i64 r.2.At] 26] w1 ∧ Rd S1 1 (RI .i64) v5 r.2.L
set_option maxHeartbeats 4000000 in
theorem c28 (S0 : Mp) {w0 : World} (b1 : Nat) (t_0 : limelightkeep_Tape) (v2 : Value) (f3 : Rd S0 1 (RI .i64) v2 t_0.L) (hs : St w0 [b1] S0 S0 [.box b1 #[v2, .int .i64 t_0.At] 26] w0) (r : (Int × limelightkeep_Tape)) (h0 : limelightkeep_Tape_Word t_0 = some r) :
    Calls Try.prog 28 #[.pointer (some ⟨b1, 0, none⟩)] w0 (Re (Po28 S0 w0 [b1] b1 r)) := by
 unfold limelightkeep_Tape_Word at h0
 refine calls_of_cd Try.func28 rfl Try.ntmps28 rfl ?_
 refine Cd.sr ?_
 refine Rg.st rfl rfl ?_
 refine Rg.go ?_
 refine Cd.sr ?_
 refine Rg.mv rfl rfl ?_
 obtain ⟨x6, hx7, h0⟩ := bind_s h0
 refine Rg.step rfl (Oq.call Try.call27 rfl rfl (c27 S0 _ (⟨t_0.L, t_0.At⟩ : limelightkeep_Tape) _ f3 _ (hs.enter 0 rfl rfl) _ hx7) (fun v8 w9 h10 => ?_))
 obtain ⟨S11, v14, rfl, hs12, f15⟩ := h10
 have le13 := hs12.le
 have hs := hs.call1 0 rfl rfl hs12
 refine Rg.vN (X.conv Try.underlying3 Try.underlying27 rfl) rfl ?_
 refine Rg.mv rfl rfl ?_
 obtain ⟨x16, hx17, h0⟩ := bind_s h0
 refine Rg.step rfl (Oq.call Try.call27 rfl rfl (c27 S11 _ (⟨x6.2.L, x6.2.At⟩ : limelightkeep_Tape) _ f15 _ (hs.enter 0 rfl rfl) _ hx17) (fun v18 w19 h20 => ?_))
 obtain ⟨S21, v24, rfl, hs22, f25⟩ := h20
 have le23 := hs22.le
 have hs := hs.call1 0 rfl rfl hs22
 refine Rg.vN (X.add rfl rfl) rfl ?_
 refine Rg.vN (X.conv Try.underlying3 Try.underlying27 rfl) rfl ?_
 refine Rg.vN (X.mul rfl rfl) rfl ?_
 refine Rg.mv rfl rfl ?_
 obtain ⟨x26, hx27, h0⟩ := bind_s h0
 refine Rg.step rfl (Oq.call Try.call27 rfl rfl (c27 S21 _ (⟨x16.2.L, x16.2.At⟩ : limelightkeep_Tape) _ f25 _ (hs.enter 0 rfl rfl) _ hx27) (fun v28 w29 h30 => ?_))
 obtain ⟨S31, v34, rfl, hs32, f35⟩ := h30
 have le33 := hs32.le
 have hs := hs.call1 0 rfl rfl hs32
 refine Rg.vN (X.conv Try.underlying3 Try.underlying27 rfl) rfl ?_
 refine Rg.vN (X.add rfl rfl) rfl ?_
 refine Rg.st rfl rfl ?_
 refine Rg.go ?_
 refine Cd.ret ?_
 obtain rfl := some_s h0
 exact fun a ha => Cd.retA (R := Re (Po28 S0 w0 [b1] b1 _)) ha Try.results28 ⟨_, _, rfl, rfl, rfl⟩ ⟨_, rfl, S31, v34, rfl, hs, f35⟩
noncomputable def limelightkeep_Tape_Tuple (t_0 : limelightkeep_Tape) : Option (api_Tuple × limelightkeep_Tape) :=
 (limelightkeep_Tape_Next (⟨t_0.L, t_0.At⟩ : limelightkeep_Tape) 9).bind fun x9 =>
 (limelightkeep_Tape_Next (⟨x9.2.L, x9.2.At⟩ : limelightkeep_Tape) 2000).bind fun x19 =>
 (limelightkeep_Tape_Next (⟨x19.2.L, x19.2.At⟩ : limelightkeep_Tape) 3).bind fun x36 =>
 (ix ([1, 100, 8000] : List Int) x36.1).bind fun x46 =>
 (limelightref1_Down (mul .u64 (cv .u64 (add .i64 1 x19.1)) (cv .u64 x46)) 17).bind fun x53 =>
 (limelightkeep_Tape_Next (⟨x36.2.L, x36.2.At⟩ : limelightkeep_Tape) 120).bind fun x61 =>
 some ((⟨cv .u32 x9.1, x53, x61.1⟩ : api_Tuple), x61.2)
def Po25 (S0 : Mp) (w0 : World) (D : List Nat) (b1 : Nat) (r : (api_Tuple × limelightkeep_Tape)) (v : Value) (w1 : World) : Prop :=
  ∃ (S1 : Mp) (v5 : Value), v = .agg (#[.int .u32 r.1.Owner, .int .u64 r.1.Rate, .int .i64 r.1.Over]) ∧ St w0 D S0 S1 [.box b1 #[v5, .int .i64 r.2.At] 26] w1 ∧ Rd S1 1 (RI .i64) v5 r.2.L
set_option maxHeartbeats 4000000 in
theorem c25 (S0 : Mp) {w0 : World} (b1 : Nat) (t_0 : limelightkeep_Tape) (v2 : Value) (f3 : Rd S0 1 (RI .i64) v2 t_0.L) (hs : St w0 [b1] S0 S0 [.box b1 #[v2, .int .i64 t_0.At] 26] w0) (r : (api_Tuple × limelightkeep_Tape)) (h0 : limelightkeep_Tape_Tuple t_0 = some r) :
    Calls Try.prog 25 #[.pointer (some ⟨b1, 0, none⟩)] w0 (Re (Po25 S0 w0 [b1] b1 r)) := by
 unfold limelightkeep_Tape_Tuple at h0
 refine calls_of_cd Try.func25 rfl Try.ntmps25 rfl ?_
 refine Cd.sr ?_
 refine Rg.step rfl (Oq.alloc (cs := #[.int .u32 0, .int .u64 0, .int .i64 0]) hs ii57 rfl rfl rfl (fun b6 w7 hs => ?_))
 refine Rg.go ?_
 refine Cd.sr ?_
 refine Rg.mv rfl rfl ?_
 obtain ⟨x9, hx10, h0⟩ := bind_s h0
 refine Rg.step rfl (Oq.call Try.call27 rfl rfl (c27 S0 _ (⟨t_0.L, t_0.At⟩ : limelightkeep_Tape) _ f3 _ (hs.enter 1 rfl rfl) _ hx10) (fun v11 w12 h13 => ?_))
 obtain ⟨S14, v17, rfl, hs15, f18⟩ := h13
 have le16 := hs15.le
 have hs := hs.call1 1 rfl rfl hs15
 refine Rg.vN (X.conv Try.underlying3 Try.underlying27 rfl) rfl ?_
 refine Rg.mv rfl rfl ?_
 obtain ⟨x19, hx20, h0⟩ := bind_s h0
 refine Rg.step rfl (Oq.call Try.call27 rfl rfl (c27 S14 _ (⟨x9.2.L, x9.2.At⟩ : limelightkeep_Tape) _ f18 _ (hs.enter 0 rfl rfl) _ hx20) (fun v21 w22 h23 => ?_))
 obtain ⟨S24, v27, rfl, hs25, f28⟩ := h23
 have le26 := hs25.le
 have hs := hs.call1 0 rfl rfl hs25
 refine Rg.vN (X.add rfl rfl) rfl ?_
 refine Rg.vN (X.conv Try.underlying3 Try.underlying30 rfl) rfl ?_
 refine Rg.step rfl (Oq.lit (sz := 1) (cs0 := [.int .i64 0, .int .i64 0, .int .i64 0]) (cells := [.int .i64 1, .int .i64 100, .int .i64 8000]) hs Try.underlying23 ii3 rfl rfl rfl rfl rfl rfl ⟨_, [.int .i64 1], _, rfl, rfl, rfl, ⟨_, [.int .i64 100], _, rfl, rfl, rfl, ⟨_, [.int .i64 8000], _, rfl, rfl, rfl, rfl⟩⟩⟩ rfl rfl rfl (fun b29 w30 S31 hs le32 hE33 => ?_))
 have f35 : Rd S31 1 (RI .i64) (.slice (some ⟨b29, 0, none⟩) 3 3) ([1, 100, 8000] : List Int) := Rd.of_cells (xs := ([1, 100, 8000] : List Int)) ⟨[.int .i64 1], _, rfl, rfl, one_all ⟨rfl, trivial⟩, rfl, ⟨[.int .i64 100], _, rfl, rfl, one_all ⟨rfl, trivial⟩, rfl, ⟨[.int .i64 8000], _, rfl, rfl, one_all ⟨rfl, trivial⟩, rfl, rfl⟩⟩⟩ hE33 (Nat.le_of_ble_eq_true rfl) (Nat.le_of_ble_eq_true rfl)
 refine Rg.mv rfl rfl ?_
 obtain ⟨x36, hx37, h0⟩ := bind_s h0
 refine Rg.step rfl (Oq.call Try.call27 rfl rfl (c27 S31 _ (⟨x19.2.L, x19.2.At⟩ : limelightkeep_Tape) _ (f28.mono le32) _ (hs.enter 1 rfl rfl) _ hx37) (fun v38 w39 h40 => ?_))
 obtain ⟨S41, v44, rfl, hs42, f45⟩ := h40
 have le43 := hs42.le
 have hs := hs.call1 1 rfl rfl hs42
 obtain ⟨x46, hx47, h0⟩ := bind_s h0
 obtain ⟨ad48, vals49, _, hR50, hE51, hX52⟩ := mk_index Try.underlying23 zz3 (by decide) (f35.mono le43) hx47
 obtain rfl : vals49 = [.int .i64 x46] := hR50
 refine Rg.vN (hX52 rfl rfl) rfl ?_
 refine Rg.vN (X.load1 Try.underlying3 rfl rfl (hE51.at0 rfl hs.has)) rfl ?_
 refine Rg.vN (X.conv Try.underlying3 Try.underlying30 rfl) rfl ?_
 refine Rg.vN (X.mul rfl rfl) rfl ?_
 obtain ⟨x53, hx54, h0⟩ := bind_s h0
 refine Rg.step rfl (Oq.call Try.call29 rfl rfl (c29 S41 (St.start _ _ hs.has) _ _ _ hx54) (fun v55 w56 h57 => ?_))
 obtain ⟨S58, rfl, hs59⟩ := h57
 have le60 := hs59.le
 have hs := hs.call0 hs59
 refine Rg.mv rfl rfl ?_
 obtain ⟨x61, hx62, h0⟩ := bind_s h0
 refine Rg.step rfl (Oq.call Try.call27 rfl rfl (c27 S58 _ (⟨x36.2.L, x36.2.At⟩ : limelightkeep_Tape) _ (f45.mono le60) _ (hs.enter 0 rfl rfl) _ hx62) (fun v63 w64 h65 => ?_))
 obtain ⟨S66, v69, rfl, hs67, f70⟩ := h65
 have le68 := hs67.le
 have hs := hs.call1 0 rfl rfl hs67
 refine Rg.vN (X.build (zc := [.int .u32 0, .int .u64 0, .int .i64 0]) (cells := [.int .u32 (cv .u32 x9.1), .int .u64 x53, .int .i64 x61.1]) ii57 rfl rfl Try.underlying57 (pp57 _ Try.underlying57) ⟨_, [.int .u32 (cv .u32 x9.1)], _, rfl, rfl, rfl, ⟨_, [.int .u64 x53], _, rfl, rfl, rfl, ⟨_, [.int .i64 x61.1], _, rfl, rfl, rfl, rfl⟩⟩⟩ rfl) rfl ?_
 refine Rg.step rfl (Oq.storeN hs 2 rfl (vals := [.int .u32 (cv .u32 x9.1), .int .u64 x53, .int .i64 x61.1]) zz57 rfl rfl (one_all ⟨rfl, rfl, rfl, trivial⟩) rfl [.box b1 #[v69, .int .i64 x61.2.At] 26, .app (some b29) (.slice (some ⟨b29, 0, none⟩) 3 3) ([1, 100, 8000] : List Int).length 3 1, .box b6 #[.int .u32 (cv .u32 x9.1), .int .u64 x53, .int .i64 x61.1] 57] rfl (fun w71 hs => ?_))
 refine Rg.go ?_
 refine Cd.ret ?_
 obtain rfl := some_s h0
 exact fun a ha => Cd.retA (R := Re (Po25 S0 w0 [b1] b1 _)) ha Try.results25 ⟨_, _, _, rfl, rfl, run_lvN (vals := [.int .u32 (cv .u32 x9.1), .int .u64 x53, .int .i64 x61.1]) Try.underlying57 rfl zz57 (hs.range 2 rfl 0 rfl), rfl⟩ ⟨_, rfl, S66, v69, rfl, (hs.pick [0] (by decide) rfl), f70⟩
noncomputable def limelightref1_Pad_l0 (to_1 : Int) (q31 : (List Int)) : Option (Flow (List Int) (List Int)) :=
 ((
  if ((decide (1 ≤ to_1)) && (decide (to_1 ≤ 64))) = true then (
   gd (to_1 ≠ 0) (
    some ((rem .i64 (q31.length : Int) to_1) != 0)))
  else (
   some false) : Option Bool)).bind fun p45 =>
 if p45 = true then (
  (app 1 q31 ([0] : List Int)).bind fun y59 =>
  some (Flow.next y59))
 else (
  some (Flow.brk q31))
noncomputable def limelightref1_Pad (b_0 : (List Int)) (to_1 : Int) : Option (List Int) :=
 (app 1 ([] : List Int) b_0).bind fun y12 =>
 (loopF (fun sg => limelightref1_Pad_l0 to_1 sg) y12).bind fun fl20 =>
 Flow.el fl20 (fun s69 => (
  none))
 (fun s70 => (
  some s70))
 (fun r71 => (
  none))
def Po30 (S0 : Mp) (w0 : World) (D : List Nat) (r : (List Int)) (v : Value) (w1 : World) : Prop :=
  ∃ (S1 : Mp) (v3 : Value) (g4 : Option Nat), v = v3 ∧ St w0 D S0 S1 [.app g4 v3 r.length 5 1] w1 ∧ Rd S1 1 (RI .u8) v3 r
set_option maxHeartbeats 4000000 in
theorem c30 (S0 : Mp) {w0 : World} (hs : St w0 [] S0 S0 [] w0) (b_0 : (List Int)) (v1 : Value) (f2 : Rd S0 1 (RI .u8) v1 b_0) (to_1 : Int) (r : (List Int)) (h0 : limelightref1_Pad b_0 to_1 = some r) :
    Calls Try.prog 30 #[v1, .int .i64 to_1] w0 (Re (Po30 S0 w0 [] r)) := by
 unfold limelightref1_Pad at h0
 refine calls_of_cd Try.func30 rfl Try.ntmps30 rfl ?_
 refine Cd.sr ?_
 refine Rg.st rfl rfl ?_
 refine Rg.go ?_
 refine Cd.sr ?_
 refine Rg.step rfl (Oq.lit (sz := 1) (cs0 := []) (cells := []) hs Try.underlying31 ii5 rfl rfl rfl rfl rfl rfl rfl rfl rfl rfl (fun b5 w6 S7 hs le8 hE9 => ?_))
 have f11 : Rd S7 1 (RI .u8) (.slice (some ⟨b5, 0, none⟩) 0 0) ([] : List Int) := Rd.of_cells (xs := ([] : List Int)) rfl hE9 (Nat.le_of_ble_eq_true rfl) (Nat.le_of_ble_eq_true rfl)
 refine Rg.mv rfl rfl ?_
 obtain ⟨y12, hx13, h0⟩ := bind_s h0
 refine Rg.step rfl (Oq.appendS hs 0 rfl Try.underlying31 ii5 rfl rfl rfl rfl rfl rfl f11 (f2.mono le8) hx13 rfl rfl rfl (fun v14 w15 S16 g17 hs le18 f19 => ?_))
 refine Rg.st rfl rfl ?_
 refine Rg.go ?_
 refine Cd.seq ?_
 obtain ⟨fl20, hfl21, h0⟩ := bind_s h0
 refine Cd.post (fun K w => ∃ (j22 : (List Int)) (S23 : Mp) (v25 : Value) (g27 : Option Nat), K = [(5, v25)] ∧ fl20 = Flow.brk j22 ∧ Le S16 S23 ∧ St w0 [] S0 S23 [.app g27 v25 j22.length 5 1] w ∧ Rd S23 1 (RI .u8) v25 j22) ?_ ?_
 ·rintro K30 w29 ⟨j22, S23, v25, g27, rfl, rfl, le24, hs, f26⟩
  have h0 := el_brk h0
  try dsimp only at h0
  refine Cd.go ?_
  refine Cd.sr ?_
  refine Rg.mv rfl rfl ?_
  refine Rg.st rfl rfl ?_
  refine Rg.go ?_
  refine Cd.ret ?_
  obtain rfl := some_s h0
  exact fun a ha => Cd.retA (R := Re (Po30 S0 w0 [] _)) ha Try.results30 ⟨_, _, rfl, rfl, rfl⟩ ⟨_, rfl, S23, v25, g27, rfl, hs, f26⟩
 ·skip
  refine Cd.weak [(1, .int .i64 to_1), (5, v14)] ⟨rfl, rfl, trivial⟩ ?_
  refine Cd.block (Cd.loop (fun sg => limelightref1_Pad_l0 to_1 sg) (fun (sg : (List Int)) K w => ∃ (S32 : Mp) (v34 : Value) (g36 : Option Nat), K = [(1, .int .i64 to_1), (5, v34)] ∧ Le S16 S32 ∧ St w0 [] S0 S32 [.app g36 v34 sg.length 5 1] w ∧ Rd S32 1 (RI .u8) v34 sg) y12 fl20 hfl21 ⟨S16, v14, g17, rfl, Le.refl _, hs, f19⟩ ?_)
  rintro q31 fl38 K43 w42 hb39 ⟨S32, v34, g36, rfl, le33, hs, f35⟩ hl40
  have h41 : limelightref1_Pad_l0 to_1 q31 = some fl38 := hb39
  unfold limelightref1_Pad_l0 at h41
  refine Cd.seq ?_
  refine Cd.seq ?_
  obtain ⟨p45, hp46, h41⟩ := bind_s h41
  refine Cd.post (fun K w => ∃ (S47 : Mp), K = [(1, .int .i64 to_1), (5, v34), (21, .bool p45)] ∧ Le S32 S47 ∧ St w0 [] S0 S47 [.app g36 v34 q31.length 5 1] w) ?_ ?_
  ·rintro K50 w48 ⟨S47, rfl, le49, hs⟩
   refine Cd.go ?_
   refine Cd.cond (t := p45) rfl (fun hc51 => ?_) (fun hc51 => ?_)
   ·have h41 := ite_t hc51 h41
    refine Cd.sg ?_
    refine Cd.block ?_
    refine Cd.region ?_
    refine Rg.mv rfl rfl ?_
    refine Rg.step rfl (Oq.lit (sz := 1) (cs0 := [.int .u8 0]) (cells := [.int .u8 0]) hs Try.underlying31 ii5 rfl rfl rfl rfl rfl rfl ⟨_, [.int .u8 0], _, rfl, rfl, rfl, rfl⟩ rfl rfl rfl (fun b52 w53 S54 hs le55 hE56 => ?_))
    have f58 : Rd S54 1 (RI .u8) (.slice (some ⟨b52, 0, none⟩) 1 1) ([0] : List Int) := Rd.of_cells (xs := ([0] : List Int)) ⟨[.int .u8 0], _, rfl, rfl, one_all ⟨rfl, trivial⟩, rfl, rfl⟩ hE56 (Nat.le_of_ble_eq_true rfl) (Nat.le_of_ble_eq_true rfl)
    obtain ⟨y59, hx60, h41⟩ := bind_s h41
    refine Rg.step rfl (Oq.appendS hs 1 rfl Try.underlying31 ii5 rfl rfl rfl rfl rfl rfl (f35.mono (le49.trans le55)) f58 hx60 rfl rfl rfl (fun v61 w62 S63 g64 hs le65 f66 => ?_))
    refine Rg.st rfl rfl ?_
    refine Rg.nil ?_
    exact fun a ha => ⟨y59, [(1, .int .i64 to_1), (5, v61)], (some_s h41).symm, ha.weak ⟨rfl, rfl, trivial⟩, S63, v61, g64, rfl, (le33.trans (le49.trans (le55.trans le65))), (hs.pick [1] (by decide) rfl), f66⟩
   ·have h41 := ite_f hc51 h41
    refine Cd.exit ?_
    obtain rfl := some_s h41
    have e := hl40 (fun _ e => by cases e)
    exact fun a ha => ⟨[(5, v34)], ha.weak ⟨rfl, trivial⟩, _, S47, v34, g36, rfl, e.symm, (le33.trans le49), hs, (f35.mono le49)⟩
  ·skip
   refine Cd.region ?_
   refine Rg.mv rfl rfl ?_
   refine Rg.vN (X.geq rfl rfl) rfl ?_
   refine Rg.mv rfl rfl ?_
   refine Rg.vT rfl rfl rfl (fun hW => X.move rfl) ?_
   refine Rg.vT rfl rfl rfl (fun hW => X.leq (ev_g rfl hW) rfl) ?_
   refine Rg.vN (X.pickAnd rfl rfl rfl) rfl ?_
   refine Rg.mv rfl rfl ?_
   refine Rg.vT rfl rfl rfl (fun hW => X.move rfl) ?_
   refine Rg.vT rfl rfl rfl (fun hW => X.lenR Try.underlying31 (ev_g rfl hW) f35) ?_
   refine Rg.vT rfl rfl rfl (fun hW => X.move rfl) ?_
   refine Rg.split (c := (decide (1 ≤ to_1)) && (decide (to_1 ≤ 64))) (tj := 15) rfl (fun hc67 => ?_) (fun hc67 => ?_)
   ·have hp46 := ite_t hc67 hp46
    refine Rg.weak [(1, .int .i64 to_1), (5, v34), (15, .bool true), (17, .int .i64 (q31.length : Int)), (18, .int .i64 to_1)] ⟨rfl, rfl, rfl, get_g rfl hc67, get_g rfl hc67, trivial⟩ ?_
    refine Rg.gon rfl rfl rfl ?_
    obtain ⟨hg68, hp46⟩ := gd_s hp46
    refine Rg.vN (X.rem rfl rfl hg68) rfl ?_
    refine Rg.gon rfl rfl rfl ?_
    refine Rg.vN (X.neq rfl rfl) rfl ?_
    refine Rg.vN (X.pickT rfl rfl) rfl ?_
    refine Rg.nil ?_
    obtain rfl := some_s hp46
    exact fun a ha => ⟨[(1, .int .i64 to_1), (5, v34), (21, .bool ((rem .i64 (q31.length : Int) to_1) != 0))], ha.weak ⟨rfl, rfl, rfl, trivial⟩, S32, rfl, Le.refl _, hs⟩
   ·have hp46 := ite_f hc67 hp46
    refine Rg.weak [(1, .int .i64 to_1), (5, v34), (15, .bool false), (17, undef), (18, undef)] ⟨rfl, rfl, rfl, get_u rfl (not_f hc67), get_u rfl (not_f hc67), trivial⟩ ?_
    refine Rg.vO rfl rfl rfl rfl ?_
    refine Rg.vO rfl rfl rfl rfl ?_
    refine Rg.vN (X.pickF rfl rfl) rfl ?_
    refine Rg.nil ?_
    obtain rfl := some_s hp46
    exact fun a ha => ⟨[(1, .int .i64 to_1), (5, v34), (21, .bool false)], ha.weak ⟨rfl, rfl, rfl, trivial⟩, S32, rfl, Le.refl _, hs⟩
noncomputable def limelightkeep_Tape_Bytes_l0 (q35 : (List Int)) (q36 : Int) (q37 : (List Int)) (q38 : Int) : Option (Flow ((List Int) × Int × (List Int) × Int) ((List Int) × limelightkeep_Tape)) :=
 if (decide (0 < q36)) = true then (
  (limelightkeep_Tape_Next (⟨q37, q38⟩ : limelightkeep_Tape) 256).bind fun x54 =>
  (app 1 q35 ([cv .u8 x54.1] : List Int)).bind fun y71 =>
  some (Flow.next (y71, sub .i64 q36 1, x54.2.L, x54.2.At)))
 else (
  some (Flow.brk (q35, q36, q37, q38)))
noncomputable def limelightkeep_Tape_Bytes (t_0 : limelightkeep_Tape) (n_1 : Int) : Option ((List Int) × limelightkeep_Tape) :=
 (limelightkeep_Tape_Next (⟨t_0.L, t_0.At⟩ : limelightkeep_Tape) (add .i64 n_1 1)).bind fun x8 =>
 (loopF (fun sg => limelightkeep_Tape_Bytes_l0 sg.1 sg.2.1 sg.2.2.1 sg.2.2.2) (([] : List Int), x8.1, x8.2.L, x8.2.At)).bind fun fl19 =>
 Flow.el fl19 (fun s79 => (
  none))
 (fun s80 => (
  some (s80.1, (⟨s80.2.2.1, s80.2.2.2⟩ : limelightkeep_Tape))))
 (fun r81 => (
  none))
def Po31 (S0 : Mp) (w0 : World) (D : List Nat) (b1 : Nat) (r : ((List Int) × limelightkeep_Tape)) (v : Value) (w1 : World) : Prop :=
  ∃ (S1 : Mp) (v5 : Value) (g6 : Option Nat) (v7 : Value), v = v5 ∧ St w0 D S0 S1 [.app g6 v5 r.1.length 5 1, .box b1 #[v7, .int .i64 r.2.At] 26] w1 ∧ Rd S1 1 (RI .u8) v5 r.1 ∧ Rd S1 1 (RI .i64) v7 r.2.L
set_option maxHeartbeats 4000000 in
theorem c31 (S0 : Mp) {w0 : World} (b1 : Nat) (t_0 : limelightkeep_Tape) (v2 : Value) (f3 : Rd S0 1 (RI .i64) v2 t_0.L) (n_1 : Int) (hs : St w0 [b1] S0 S0 [.box b1 #[v2, .int .i64 t_0.At] 26] w0) (r : ((List Int) × limelightkeep_Tape)) (h0 : limelightkeep_Tape_Bytes t_0 n_1 = some r) :
    Calls Try.prog 31 #[.pointer (some ⟨b1, 0, none⟩), .int .i64 n_1] w0 (Re (Po31 S0 w0 [b1] b1 r)) := by
 unfold limelightkeep_Tape_Bytes at h0
 refine calls_of_cd Try.func31 rfl Try.ntmps31 rfl ?_
 refine Cd.sr ?_
 refine Rg.st rfl rfl ?_
 refine Rg.go ?_
 refine Cd.sr ?_
 refine Rg.st rfl rfl ?_
 refine Rg.go ?_
 refine Cd.seq ?_
 refine Cd.sr ?_
 refine Rg.mv rfl rfl ?_
 refine Rg.mv rfl rfl ?_
 refine Rg.vN (X.add rfl rfl) rfl ?_
 obtain ⟨x8, hx9, h0⟩ := bind_s h0
 refine Rg.step rfl (Oq.call Try.call27 rfl rfl (c27 S0 _ (⟨t_0.L, t_0.At⟩ : limelightkeep_Tape) _ f3 _ (hs.enter 0 rfl rfl) _ hx9) (fun v10 w11 h12 => ?_))
 obtain ⟨S13, v16, rfl, hs14, f17⟩ := h12
 have le15 := hs14.le
 have hs := hs.call1 0 rfl rfl hs14
 refine Rg.st rfl rfl ?_
 refine Rg.go ?_
 have hs := hs.nil 5 1
 obtain ⟨fl19, hfl20, h0⟩ := bind_s h0
 refine Cd.post (fun K w => ∃ (j21 : (List Int)) (j22 : Int) (j23 : (List Int)) (j24 : Int) (S25 : Mp) (v27 : Value) (g29 : Option Nat) (v31 : Value), K = [(5, v27)] ∧ fl19 = Flow.brk (j21, j22, j23, j24) ∧ Le S13 S25 ∧ St w0 [b1] S0 S25 [.box b1 #[v31, .int .i64 j24] 26, .app g29 v27 j21.length 5 1] w ∧ Rd S25 1 (RI .u8) v27 j21 ∧ Rd S25 1 (RI .i64) v31 j23) ?_ ?_
 ·rintro K34 w33 ⟨j21, j22, j23, j24, S25, v27, g29, v31, rfl, rfl, le26, hs, f28, f32⟩
  have h0 := el_brk h0
  try dsimp only at h0
  refine Cd.go ?_
  refine Cd.sr ?_
  refine Rg.mv rfl rfl ?_
  refine Rg.st rfl rfl ?_
  refine Rg.go ?_
  refine Cd.ret ?_
  obtain rfl := some_s h0
  exact fun a ha => Cd.retA (R := Re (Po31 S0 w0 [b1] b1 _)) ha Try.results31 ⟨_, _, rfl, rfl, rfl⟩ ⟨_, rfl, S25, v27, g29, v31, rfl, (hs.pick [1, 0] (by decide) rfl), f28, f32⟩
 ·skip
  refine Cd.weak [(0, .pointer (some ⟨b1, 0, none⟩)), (5, .slice none 0 0), (6, .int .i64 x8.1)] ⟨rfl, rfl, rfl, trivial⟩ ?_
  refine Cd.block (Cd.loop (fun sg => limelightkeep_Tape_Bytes_l0 sg.1 sg.2.1 sg.2.2.1 sg.2.2.2) (fun (sg : ((List Int) × Int × (List Int) × Int)) K w => ∃ (S39 : Mp) (v41 : Value) (g43 : Option Nat) (v45 : Value), K = [(0, .pointer (some ⟨b1, 0, none⟩)), (5, v41), (6, .int .i64 sg.2.1)] ∧ Le S13 S39 ∧ St w0 [b1] S0 S39 [.box b1 #[v45, .int .i64 sg.2.2.2] 26, .app g43 v41 sg.1.length 5 1] w ∧ Rd S39 1 (RI .u8) v41 sg.1 ∧ Rd S39 1 (RI .i64) v45 sg.2.2.1) (([] : List Int), x8.1, x8.2.L, x8.2.At) fl19 hfl20 ⟨S13, (.slice none 0 0), none, v16, rfl, Le.refl _, (hs.pick [1, 0] (by decide) rfl), (Rd.nil _ _ _), f17⟩ ?_)
  rintro ⟨q35, q36, q37, q38⟩ fl47 K52 w51 hb48 ⟨S39, v41, g43, v45, rfl, le40, hs, f42, f46⟩ hl49
  have h50 : limelightkeep_Tape_Bytes_l0 q35 q36 q37 q38 = some fl47 := hb48
  unfold limelightkeep_Tape_Bytes_l0 at h50
  refine Cd.seq ?_
  refine Cd.sr ?_
  refine Rg.mv rfl rfl ?_
  refine Rg.vN (X.gtr rfl rfl) rfl ?_
  refine Rg.go ?_
  refine Cd.cond (t := decide (0 < q36)) rfl (fun hc53 => ?_) (fun hc53 => ?_)
  ·have h50 := ite_t hc53 h50
   refine Cd.sg ?_
   refine Cd.seq ?_
   refine Cd.block ?_
   refine Cd.region ?_
   refine Rg.mv rfl rfl ?_
   refine Rg.mv rfl rfl ?_
   obtain ⟨x54, hx55, h50⟩ := bind_s h50
   refine Rg.step rfl (Oq.call Try.call27 rfl rfl (c27 S39 _ (⟨q37, q38⟩ : limelightkeep_Tape) _ f46 _ (hs.enter 0 rfl rfl) _ hx55) (fun v56 w57 h58 => ?_))
   obtain ⟨S59, v62, rfl, hs60, f63⟩ := h58
   have le61 := hs60.le
   have hs := hs.call1 0 rfl rfl hs60
   refine Rg.vN (X.conv Try.underlying3 Try.underlying5 rfl) rfl ?_
   refine Rg.step rfl (Oq.lit (sz := 1) (cs0 := [.int .u8 0]) (cells := [.int .u8 (cv .u8 x54.1)]) hs Try.underlying31 ii5 rfl rfl rfl rfl rfl rfl ⟨_, [.int .u8 (cv .u8 x54.1)], _, rfl, rfl, rfl, rfl⟩ rfl rfl rfl (fun b64 w65 S66 hs le67 hE68 => ?_))
   have f70 : Rd S66 1 (RI .u8) (.slice (some ⟨b64, 0, none⟩) 1 1) ([cv .u8 x54.1] : List Int) := Rd.of_cells (xs := ([cv .u8 x54.1] : List Int)) ⟨[.int .u8 (cv .u8 x54.1)], _, rfl, rfl, one_all ⟨rfl, trivial⟩, rfl, rfl⟩ hE68 (Nat.le_of_ble_eq_true rfl) (Nat.le_of_ble_eq_true rfl)
   obtain ⟨y71, hx72, h50⟩ := bind_s h50
   refine Rg.step rfl (Oq.appendS hs 2 rfl Try.underlying31 ii5 rfl rfl rfl rfl rfl rfl (f42.mono (le61.trans le67)) f70 hx72 rfl rfl rfl (fun v73 w74 S75 g76 hs le77 f78 => ?_))
   refine Rg.st rfl rfl ?_
   refine Rg.nil ?_
   refine Cd.go ?_
   refine Cd.region ?_
   refine Rg.mv rfl rfl ?_
   refine Rg.vN (X.sub rfl rfl) rfl ?_
   refine Rg.st rfl rfl ?_
   refine Rg.nil ?_
   exact fun a ha => ⟨(y71, sub .i64 q36 1, x54.2.L, x54.2.At), [(0, .pointer (some ⟨b1, 0, none⟩)), (5, v73), (6, .int .i64 (sub .i64 q36 1))], (some_s h50).symm, ha.weak ⟨rfl, rfl, rfl, trivial⟩, S75, v73, g76, v62, rfl, (le40.trans (le61.trans (le67.trans le77))), (hs.pick [1, 2] (by decide) rfl), f78, (f63.mono (le67.trans le77))⟩
  ·have h50 := ite_f hc53 h50
   refine Cd.exit ?_
   obtain rfl := some_s h50
   have e := hl49 (fun _ e => by cases e)
   exact fun a ha => ⟨[(5, v41)], ha.weak ⟨rfl, trivial⟩, _, _, _, _, S39, v41, g43, v45, rfl, e.symm, le40, hs, f42, f46⟩
noncomputable def limelightkeep_Tape_Report_l0 (q73 : Int) (q74 : (List Int)) (q75 : Int) (q76 : (List api_Tuple)) : Option (Flow (Int × (List Int) × Int × (List api_Tuple)) (api_Report × limelightkeep_Tape)) :=
 if (decide (0 < q73)) = true then (
  ((
   ((
    (limelightkeep_Tape_Tuple (⟨q74, q75⟩ : limelightkeep_Tape)).bind fun x123 =>
    (app 24 q76 ([x123.1] : List api_Tuple)).bind fun y140 =>
    some (x123.2.L, x123.2.At, y140) : Option ((List Int) × Int × (List api_Tuple)))).bind fun p110 =>
   some (p110.1, p110.2.1, p110.2.2) : Option ((List Int) × Int × (List api_Tuple)))).bind fun p95 =>
  some (Flow.next (sub .i64 q73 1, p95.1, p95.2.1, p95.2.2)))
 else (
  some (Flow.brk (q73, q74, q75, q76)))
noncomputable def limelightkeep_Tape_Report_l1 (q200 : Int) (q201 : (List Int)) (q202 : Int) (q203 : (List Int)) (q204 : (List Int)) : Option (Flow (Int × (List Int) × Int × (List Int) × (List Int)) (api_Report × limelightkeep_Tape)) :=
 if (decide (0 ≤ q200)) = true then (
  ((
   ((
    (limelightkeep_Tape_Word (⟨q201, q202⟩ : limelightkeep_Tape)).bind fun x265 =>
    (app 4 q203 ([x265.1] : List Int)).bind fun y282 =>
    (limelightkeep_Tape_Next (⟨x265.2.L, x265.2.At⟩ : limelightkeep_Tape) 256).bind fun x290 =>
    (app 8 q204 ([x290.1] : List Int)).bind fun y307 =>
    some (x290.2.L, x290.2.At, y282, y307) : Option ((List Int) × Int × (List Int) × (List Int)))).bind fun p248 =>
   some (p248.1, p248.2.1, p248.2.2.1, p248.2.2.2) : Option ((List Int) × Int × (List Int) × (List Int)))).bind fun p228 =>
  some (Flow.next (sub .i64 q200 1, p228.1, p228.2.1, p228.2.2.1, p228.2.2.2)))
 else (
  some (Flow.brk (q200, q201, q202, q203, q204)))
noncomputable def limelightkeep_Tape_Report_l2 (q378 : Int) (q379 : (List Int)) (q380 : Int) (q381 : (List Int)) : Option (Flow (Int × (List Int) × Int × (List Int)) (api_Report × limelightkeep_Tape)) :=
 if (decide (0 < q378)) = true then (
  ((
   ((
    (limelightkeep_Tape_Word (⟨q379, q380⟩ : limelightkeep_Tape)).bind fun x428 =>
    (app 4 q381 ([x428.1] : List Int)).bind fun y445 =>
    some (x428.2.L, x428.2.At, y445) : Option ((List Int) × Int × (List Int)))).bind fun p415 =>
   some (p415.1, p415.2.1, p415.2.2) : Option ((List Int) × Int × (List Int)))).bind fun p400 =>
  some (Flow.next (sub .i64 q378 1, p400.1, p400.2.1, p400.2.2)))
 else (
  some (Flow.brk (q378, q379, q380, q381)))
noncomputable def limelightkeep_Tape_Report (G_0 : limelightkeep_Tape) : Option (api_Report × limelightkeep_Tape) :=
 (limelightkeep_Tape_Next (⟨G_0.L, G_0.At⟩ : limelightkeep_Tape) 6).bind fun x13 =>
 (limelightkeep_Tape_Word (⟨x13.2.L, x13.2.At⟩ : limelightkeep_Tape)).bind fun x23 =>
 ((
  if ((add .i64 1 x13.1) == 1) = true then (
   some ((add .i64 1 x13.1) == 1))
  else (
   some ((add .i64 1 x13.1) == 2)) : Option Bool)).bind fun p38 =>
 if p38 = true then (
  (limelightkeep_Tape_Next (⟨x23.2.L, x23.2.At⟩ : limelightkeep_Tape) 5).bind fun x45 =>
  (loopF (fun sg => limelightkeep_Tape_Report_l0 sg.1 sg.2.1 sg.2.2.1 sg.2.2.2) (x45.1, x45.2.L, x45.2.At, ([] : List api_Tuple))).bind fun fl56 =>
  Flow.el fl56 (fun s149 => (
   none))
  (fun s150 => (
   some ((⟨add .i64 1 x13.1, x23.1, 0, s150.2.2.2, ([] : List Int), ([] : List Int), 0, 0, 0, ([] : List Int)⟩ : api_Report), (⟨s150.2.1, s150.2.2.1⟩ : limelightkeep_Tape))))
  (fun r151 => (
   none)))
 else (
  if ((add .i64 1 x13.1) == 3) = true then (
   (limelightkeep_Tape_Word (⟨x23.2.L, x23.2.At⟩ : limelightkeep_Tape)).bind fun x153 =>
   some ((⟨add .i64 1 x13.1, x23.1, x153.1, ([] : List api_Tuple), ([] : List Int), ([] : List Int), 0, 0, 0, ([] : List Int)⟩ : api_Report), x153.2))
  else (
   if ((add .i64 1 x13.1) == 4) = true then (
    (limelightkeep_Tape_Next (⟨x23.2.L, x23.2.At⟩ : limelightkeep_Tape) 3).bind fun x166 =>
    (loopF (fun sg => limelightkeep_Tape_Report_l1 sg.1 sg.2.1 sg.2.2.1 sg.2.2.2.1 sg.2.2.2.2) (x166.1, x166.2.L, x166.2.At, ([] : List Int), ([] : List Int))).bind fun fl178 =>
    Flow.el fl178 (fun s317 => (
     none))
    (fun s318 => (
     some ((⟨add .i64 1 x13.1, x23.1, 0, ([] : List api_Tuple), s318.2.2.2.1, s318.2.2.2.2, 0, 0, 0, ([] : List Int)⟩ : api_Report), (⟨s318.2.1, s318.2.2.1⟩ : limelightkeep_Tape))))
    (fun r319 => (
     none)))
   else (
    if ((add .i64 1 x13.1) == 5) = true then (
     (limelightkeep_Tape_Next (⟨x23.2.L, x23.2.At⟩ : limelightkeep_Tape) 1048576).bind fun x321 =>
     (limelightkeep_Tape_Next (⟨x321.2.L, x321.2.At⟩ : limelightkeep_Tape) 900).bind fun x331 =>
     (limelightref1_Down (mul .u64 (cv .u64 x321.1) (cv .u64 (add .i64 1 x331.1))) 18).bind fun x341 =>
     (limelightkeep_Tape_Next (⟨x331.2.L, x331.2.At⟩ : limelightkeep_Tape) 4).bind fun x350 =>
     (loopF (fun sg => limelightkeep_Tape_Report_l2 sg.1 sg.2.1 sg.2.2.1 sg.2.2.2) (x350.1, x350.2.L, x350.2.At, ([] : List Int))).bind fun fl361 =>
     Flow.el fl361 (fun s454 => (
      none))
     (fun s455 => (
      some ((⟨add .i64 1 x13.1, x23.1, 0, ([] : List api_Tuple), s455.2.2.2, ([] : List Int), x341, 0, 0, ([] : List Int)⟩ : api_Report), (⟨s455.2.1, s455.2.2.1⟩ : limelightkeep_Tape))))
     (fun r456 => (
      none)))
    else (
     (limelightkeep_Tape_Next (⟨x23.2.L, x23.2.At⟩ : limelightkeep_Tape) 12).bind fun x457 =>
     (limelightkeep_Tape_Next (⟨x457.2.L, x457.2.At⟩ : limelightkeep_Tape) 32).bind fun x467 =>
     (limelightkeep_Tape_Bytes (⟨x467.2.L, x467.2.At⟩ : limelightkeep_Tape) 12).bind fun x477 =>
     (limelightref1_Pad x477.1 4).bind fun x491 =>
     some ((⟨6, 0, 0, ([] : List api_Tuple), ([] : List Int), ([] : List Int), 0, add .i64 192 x457.1, x467.1, x491⟩ : api_Report), x477.2)))))
def Po10 (S0 : Mp) (w0 : World) (D : List Nat) (b1 : Nat) (r : (api_Report × limelightkeep_Tape)) (v : Value) (w1 : World) : Prop :=
  ∃ (S1 : Mp) (v5 : Value) (v6 : Value) (v7 : Value) (v8 : Value) (v9 : Value), v = .agg (#[.int .i64 r.1.Kind, .int .u32 r.1.From, .int .u32 r.1.About, v5, v6, v7, .int .u64 r.1.Rate, .int .i64 r.1.Type_, .int .i64 r.1.Count, v8]) ∧ St w0 D S0 S1 [.box b1 #[v9, .int .i64 r.2.At] 26] w1 ∧ Rd S1 3 R_api_Tuple v5 r.1.Tuples ∧ Rd S1 1 (RI .u32) v6 r.1.Abouts ∧ Rd S1 1 (RI .i64) v7 r.1.Numbers ∧ Rd S1 1 (RI .u8) v8 r.1.Body ∧ Rd S1 1 (RI .i64) v9 r.2.L
set_option maxHeartbeats 4000000 in
theorem c10 (S0 : Mp) {w0 : World} (b1 : Nat) (G_0 : limelightkeep_Tape) (v2 : Value) (f3 : Rd S0 1 (RI .i64) v2 G_0.L) (hs : St w0 [b1] S0 S0 [.box b1 #[v2, .int .i64 G_0.At] 26] w0) (r : (api_Report × limelightkeep_Tape)) (h0 : limelightkeep_Tape_Report G_0 = some r) :
    Calls Try.prog 10 #[.pointer (some ⟨b1, 0, none⟩)] w0 (Re (Po10 S0 w0 [b1] b1 r)) := by
 unfold limelightkeep_Tape_Report at h0
 refine calls_of_cd Try.func10 rfl Try.ntmps10 rfl ?_
 refine Cd.sr ?_
 refine Rg.step rfl (Oq.alloc (cs := #[.int .i64 0, .int .u32 0, .int .u32 0, .slice none 0 0, .slice none 0 0, .slice none 0 0, .int .u64 0, .int .i64 0, .int .i64 0, .slice none 0 0]) hs ii33 rfl rfl rfl (fun b10 w11 hs => ?_))
 refine Rg.go ?_
 refine Cd.sr ?_
 refine Rg.mv rfl rfl ?_
 obtain ⟨x13, hx14, h0⟩ := bind_s h0
 refine Rg.step rfl (Oq.call Try.call27 rfl rfl (c27 S0 _ (⟨G_0.L, G_0.At⟩ : limelightkeep_Tape) _ f3 _ (hs.enter 1 rfl rfl) _ hx14) (fun v15 w16 h17 => ?_))
 obtain ⟨S18, v21, rfl, hs19, f22⟩ := h17
 have le20 := hs19.le
 have hs := hs.call1 1 rfl rfl hs19
 refine Rg.vN (X.add rfl rfl) rfl ?_
 refine Rg.mv rfl rfl ?_
 obtain ⟨x23, hx24, h0⟩ := bind_s h0
 refine Rg.step rfl (Oq.call Try.call28 rfl rfl (c28 S18 _ (⟨x13.2.L, x13.2.At⟩ : limelightkeep_Tape) _ f22 (hs.enter 0 rfl rfl) _ hx24) (fun v25 w26 h27 => ?_))
 obtain ⟨S28, v31, rfl, hs29, f32⟩ := h27
 have le30 := hs29.le
 have hs := hs.call1 0 rfl rfl hs29
 refine Rg.vN (X.build (zc := [.int .i64 0, .int .u32 0, .int .u32 0, .slice none 0 0, .slice none 0 0, .slice none 0 0, .int .u64 0, .int .i64 0, .int .i64 0, .slice none 0 0]) (cells := [.int .i64 (add .i64 1 x13.1), .int .u32 x23.1, .int .u32 0, .slice none 0 0, .slice none 0 0, .slice none 0 0, .int .u64 0, .int .i64 0, .int .i64 0, .slice none 0 0]) ii33 rfl rfl Try.underlying33 (pp33 _ Try.underlying33) ⟨_, [.int .i64 (add .i64 1 x13.1)], _, rfl, rfl, rfl, ⟨_, [.int .u32 x23.1], _, rfl, rfl, rfl, rfl⟩⟩ rfl) rfl ?_
 refine Rg.step rfl (Oq.alloc (cs := #[.int .i64 0, .int .u32 0, .int .u32 0, .slice none 0 0, .slice none 0 0, .slice none 0 0, .int .u64 0, .int .i64 0, .int .i64 0, .slice none 0 0]) hs ii33 rfl rfl rfl (fun b33 w34 hs => ?_))
 refine Rg.step rfl (Oq.storeN hs 0 rfl (vals := [.int .i64 (add .i64 1 x13.1), .int .u32 x23.1, .int .u32 0, .slice none 0 0, .slice none 0 0, .slice none 0 0, .int .u64 0, .int .i64 0, .int .i64 0, .slice none 0 0]) zz33 rfl rfl (one_all ⟨rfl, rfl, rfl, rfl, rfl, rfl, rfl, rfl, rfl, rfl, trivial⟩) rfl [.box b33 #[.int .i64 (add .i64 1 x13.1), .int .u32 x23.1, .int .u32 0, .slice none 0 0, .slice none 0 0, .slice none 0 0, .int .u64 0, .int .i64 0, .int .i64 0, .slice none 0 0] 33, .box b1 #[v31, .int .i64 x23.2.At] 26, .box b10 #[.int .i64 0, .int .u32 0, .int .u32 0, .slice none 0 0, .slice none 0 0, .slice none 0 0, .int .u64 0, .int .i64 0, .int .i64 0, .slice none 0 0] 33] rfl (fun w36 hs => ?_))
 refine Rg.go ?_
 refine Cd.seq ?_
 refine Cd.sr ?_
 refine Rg.vN (X.fieldB Try.underlying33 rfl zz3 rfl rfl) rfl ?_
 refine Rg.vN (X.load1 Try.underlying3 rfl rfl (hs.cell 0 rfl 0 rfl)) rfl ?_
 refine Rg.go ?_
 refine Cd.block ?_
 refine Cd.seq ?_
 refine Cd.sr ?_
 refine Rg.vN (X.eql rfl rfl) rfl ?_
 refine Rg.st rfl rfl ?_
 refine Rg.go ?_
 obtain ⟨p38, hp39, h0⟩ := bind_s h0
 refine Cd.post (fun K w => ∃ (S40 : Mp), K = [(0, .pointer (some ⟨b1, 0, none⟩)), (2, .pointer (some ⟨b10, 0, none⟩)), (3, .pointer (some ⟨b33, 0, none⟩)), (14, .int .i64 (add .i64 1 x13.1)), (24, .bool p38)] ∧ Le S28 S40 ∧ St w0 [b1] S0 S40 [.box b33 #[.int .i64 (add .i64 1 x13.1), .int .u32 x23.1, .int .u32 0, .slice none 0 0, .slice none 0 0, .slice none 0 0, .int .u64 0, .int .i64 0, .int .i64 0, .slice none 0 0] 33, .box b1 #[v31, .int .i64 x23.2.At] 26, .box b10 #[.int .i64 0, .int .u32 0, .int .u32 0, .slice none 0 0, .slice none 0 0, .slice none 0 0, .int .u64 0, .int .i64 0, .int .i64 0, .slice none 0 0] 33] w) ?_ ?_
 ·rintro K43 w41 ⟨S40, rfl, le42, hs⟩
  refine Cd.go ?_
  refine Cd.cond (t := p38) rfl (fun hc44 => ?_) (fun hc44 => ?_)
  ·have h0 := ite_t hc44 h0
   refine Cd.sr ?_
   refine Rg.mv rfl rfl ?_
   obtain ⟨x45, hx46, h0⟩ := bind_s h0
   refine Rg.step rfl (Oq.call Try.call27 rfl rfl (c27 S40 _ (⟨x23.2.L, x23.2.At⟩ : limelightkeep_Tape) _ (f32.mono le42) _ (hs.enter 1 rfl rfl) _ hx46) (fun v47 w48 h49 => ?_))
   obtain ⟨S50, v53, rfl, hs51, f54⟩ := h49
   have le52 := hs51.le
   have hs := hs.call1 1 rfl rfl hs51
   refine Rg.st rfl rfl ?_
   refine Rg.go ?_
   have hs := hs.nil 57 3
   obtain ⟨fl56, hfl57, h0⟩ := bind_s h0
   refine Cd.post (fun K w => ∃ (j58 : Int) (j59 : (List Int)) (j60 : Int) (j61 : (List api_Tuple)) (S62 : Mp) (v64 : Value) (v66 : Value) (g68 : Option Nat), K = [(2, .pointer (some ⟨b10, 0, none⟩)), (3, .pointer (some ⟨b33, 0, none⟩))] ∧ fl56 = Flow.brk (j58, j59, j60, j61) ∧ Le S50 S62 ∧ St w0 [b1] S0 S62 [.box b1 #[v64, .int .i64 j60] 26, .box b33 #[.int .i64 (add .i64 1 x13.1), .int .u32 x23.1, .int .u32 0, v66, .slice none 0 0, .slice none 0 0, .int .u64 0, .int .i64 0, .int .i64 0, .slice none 0 0] 33, .box b10 #[.int .i64 0, .int .u32 0, .int .u32 0, .slice none 0 0, .slice none 0 0, .slice none 0 0, .int .u64 0, .int .i64 0, .int .i64 0, .slice none 0 0] 33, .app g68 v66 j61.length 57 3] w ∧ Rd S62 1 (RI .i64) v64 j59 ∧ Rd S62 3 R_api_Tuple v66 j61) ?_ ?_
   ·rintro K71 w70 ⟨j58, j59, j60, j61, S62, v64, v66, g68, rfl, rfl, le63, hs, f65, f67⟩
    have h0 := el_brk h0
    try dsimp only at h0
    refine Cd.go ?_
    refine Cd.sr ?_
    refine Rg.vN (X.loadN (vals := [.int .i64 (add .i64 1 x13.1), .int .u32 x23.1, .int .u32 0, v66, .slice none 0 0, .slice none 0 0, .int .u64 0, .int .i64 0, .int .i64 0, .slice none 0 0]) Try.underlying33 rfl zz33 rfl (hs.range 1 rfl 0 rfl)) rfl ?_
    refine Rg.step rfl (Oq.storeN hs 2 rfl (vals := [.int .i64 (add .i64 1 x13.1), .int .u32 x23.1, .int .u32 0, v66, .slice none 0 0, .slice none 0 0, .int .u64 0, .int .i64 0, .int .i64 0, .slice none 0 0]) zz33 rfl rfl (one_all ⟨rfl, rfl, rfl, f67.one, rfl, rfl, rfl, rfl, rfl, rfl, trivial⟩) rfl [.box b1 #[v64, .int .i64 j60] 26, .box b33 #[.int .i64 (add .i64 1 x13.1), .int .u32 x23.1, .int .u32 0, v66, .slice none 0 0, .slice none 0 0, .int .u64 0, .int .i64 0, .int .i64 0, .slice none 0 0] 33, .box b10 #[.int .i64 (add .i64 1 x13.1), .int .u32 x23.1, .int .u32 0, v66, .slice none 0 0, .slice none 0 0, .int .u64 0, .int .i64 0, .int .i64 0, .slice none 0 0] 33, .app g68 v66 j61.length 57 3] rfl (fun w72 hs => ?_))
    refine Rg.go ?_
    refine Cd.ret ?_
    obtain rfl := some_s h0
    exact fun a ha => Cd.retA (R := Re (Po10 S0 w0 [b1] b1 _)) ha Try.results10 ⟨_, _, _, rfl, rfl, run_lvN (vals := [.int .i64 (add .i64 1 x13.1), .int .u32 x23.1, .int .u32 0, v66, .slice none 0 0, .slice none 0 0, .int .u64 0, .int .i64 0, .int .i64 0, .slice none 0 0]) Try.underlying33 rfl zz33 (hs.range 2 rfl 0 rfl), rfl⟩ ⟨_, rfl, S62, v66, (.slice none 0 0), (.slice none 0 0), (.slice none 0 0), v64, rfl, (hs.pick [0] (by decide) rfl), f67, (Rd.nil _ _ _), (Rd.nil _ _ _), (Rd.nil _ _ _), f65⟩
   ·skip
    refine Cd.weak [(0, .pointer (some ⟨b1, 0, none⟩)), (2, .pointer (some ⟨b10, 0, none⟩)), (3, .pointer (some ⟨b33, 0, none⟩)), (4, .int .i64 x45.1)] ⟨rfl, rfl, rfl, rfl, trivial⟩ ?_
    refine Cd.block (Cd.loop (fun sg => limelightkeep_Tape_Report_l0 sg.1 sg.2.1 sg.2.2.1 sg.2.2.2) (fun (sg : (Int × (List Int) × Int × (List api_Tuple))) K w => ∃ (S77 : Mp) (v79 : Value) (v81 : Value) (g83 : Option Nat), K = [(0, .pointer (some ⟨b1, 0, none⟩)), (2, .pointer (some ⟨b10, 0, none⟩)), (3, .pointer (some ⟨b33, 0, none⟩)), (4, .int .i64 sg.1)] ∧ Le S50 S77 ∧ St w0 [b1] S0 S77 [.box b1 #[v79, .int .i64 sg.2.2.1] 26, .box b33 #[.int .i64 (add .i64 1 x13.1), .int .u32 x23.1, .int .u32 0, v81, .slice none 0 0, .slice none 0 0, .int .u64 0, .int .i64 0, .int .i64 0, .slice none 0 0] 33, .box b10 #[.int .i64 0, .int .u32 0, .int .u32 0, .slice none 0 0, .slice none 0 0, .slice none 0 0, .int .u64 0, .int .i64 0, .int .i64 0, .slice none 0 0] 33, .app g83 v81 sg.2.2.2.length 57 3] w ∧ Rd S77 1 (RI .i64) v79 sg.2.1 ∧ Rd S77 3 R_api_Tuple v81 sg.2.2.2) (x45.1, x45.2.L, x45.2.At, ([] : List api_Tuple)) fl56 hfl57 ⟨S50, v53, (.slice none 0 0), none, rfl, Le.refl _, (hs.pick [1, 2, 3, 0] (by decide) rfl), f54, (Rd.nil _ _ _)⟩ ?_)
    rintro ⟨q73, q74, q75, q76⟩ fl85 K90 w89 hb86 ⟨S77, v79, v81, g83, rfl, le78, hs, f80, f82⟩ hl87
    have h88 : limelightkeep_Tape_Report_l0 q73 q74 q75 q76 = some fl85 := hb86
    unfold limelightkeep_Tape_Report_l0 at h88
    refine Cd.seq ?_
    refine Cd.sr ?_
    refine Rg.mv rfl rfl ?_
    refine Rg.vN (X.gtr rfl rfl) rfl ?_
    refine Rg.go ?_
    refine Cd.cond (t := decide (0 < q73)) rfl (fun hc91 => ?_) (fun hc91 => ?_)
    ·have h88 := ite_t hc91 h88
     refine Cd.sg ?_
     refine Cd.seq ?_
     obtain ⟨p95, hp96, h88⟩ := bind_s h88
     obtain ⟨j92, j93, j94⟩ := p95
     dsimp only at h88
     refine Cd.post (fun K w => ∃ (S97 : Mp) (v100 : Value) (v102 : Value) (g104 : Option Nat), K = [(0, .pointer (some ⟨b1, 0, none⟩)), (2, .pointer (some ⟨b10, 0, none⟩)), (3, .pointer (some ⟨b33, 0, none⟩)), (4, .int .i64 q73)] ∧ Le S77 S97 ∧ St w0 [b1] S0 S97 [.box b1 #[v100, .int .i64 j93] 26, .box b33 #[.int .i64 (add .i64 1 x13.1), .int .u32 x23.1, .int .u32 0, v102, .slice none 0 0, .slice none 0 0, .int .u64 0, .int .i64 0, .int .i64 0, .slice none 0 0] 33, .box b10 #[.int .i64 0, .int .u32 0, .int .u32 0, .slice none 0 0, .slice none 0 0, .slice none 0 0, .int .u64 0, .int .i64 0, .int .i64 0, .slice none 0 0] 33, .app g104 v102 j94.length 57 3] w ∧ Rd S97 1 (RI .i64) v100 j92 ∧ Rd S97 3 R_api_Tuple v102 j94) ?_ ?_
     ·rintro K106 w98 ⟨S97, v100, v102, g104, rfl, le99, hs, f101, f103⟩
      refine Cd.go ?_
      refine Cd.region ?_
      refine Rg.mv rfl rfl ?_
      refine Rg.vN (X.sub rfl rfl) rfl ?_
      refine Rg.st rfl rfl ?_
      refine Rg.nil ?_
      exact fun a ha => ⟨(sub .i64 q73 1, j92, j93, j94), [(0, .pointer (some ⟨b1, 0, none⟩)), (2, .pointer (some ⟨b10, 0, none⟩)), (3, .pointer (some ⟨b33, 0, none⟩)), (4, .int .i64 (sub .i64 q73 1))], (some_s h88).symm, ha.weak ⟨rfl, rfl, rfl, rfl, trivial⟩, S97, v100, v102, g104, rfl, (le78.trans le99), hs, f101, f103⟩
     ·skip
      refine Cd.block ?_
      obtain ⟨p110, hp111, hp96⟩ := bind_s hp96
      obtain ⟨j107, j108, j109⟩ := p110
      dsimp only at hp96
      refine Cd.post (fun K w => ∃ (S112 : Mp) (v115 : Value) (v117 : Value) (g119 : Option Nat), K = [(0, .pointer (some ⟨b1, 0, none⟩)), (2, .pointer (some ⟨b10, 0, none⟩)), (3, .pointer (some ⟨b33, 0, none⟩)), (4, .int .i64 q73)] ∧ Le S77 S112 ∧ St w0 [b1] S0 S112 [.box b1 #[v115, .int .i64 j108] 26, .box b33 #[.int .i64 (add .i64 1 x13.1), .int .u32 x23.1, .int .u32 0, v117, .slice none 0 0, .slice none 0 0, .int .u64 0, .int .i64 0, .int .i64 0, .slice none 0 0] 33, .box b10 #[.int .i64 0, .int .u32 0, .int .u32 0, .slice none 0 0, .slice none 0 0, .slice none 0 0, .int .u64 0, .int .i64 0, .int .i64 0, .slice none 0 0] 33, .app g119 v117 j109.length 57 3] w ∧ Rd S112 1 (RI .i64) v115 j107 ∧ Rd S112 3 R_api_Tuple v117 j109) ?_ ?_
      ·rintro K121 w113 ⟨S112, v115, v117, g119, rfl, le114, hs, f116, f118⟩
       cases some_s hp96
       exact fun a ha => ⟨[(0, .pointer (some ⟨b1, 0, none⟩)), (2, .pointer (some ⟨b10, 0, none⟩)), (3, .pointer (some ⟨b33, 0, none⟩)), (4, .int .i64 q73)], ha.weak ⟨rfl, rfl, rfl, rfl, trivial⟩, S112, v115, v117, g119, rfl, le114, hs, f116, f118⟩
      ·skip
       refine Cd.rD mixed (fun l w => Has S77 w ∧ (l.getD 7 false = false → Hp b33 #[.int .i64 (add .i64 1 x13.1), .int .u32 x23.1, .int .u32 0, v81, .slice none 0 0, .slice none 0 0, .int .u64 0, .int .i64 0, .int .i64 0, .slice none 0 0] 33 w)) hs (fun _ _ _ _ _ h => h) (by kernel_rfl) (fun w122 hs => ⟨⟨hs.has, (fun _ => hs.heap 1 rfl)⟩, ?_⟩)
       refine Rk.uN 0 rfl rfl (fun _ _ => by simp only [getD_set_ne false (show (0 : Nat) ≠ 7 by decide)]) (fun l w hl hcl hc => X.fieldB Try.underlying33 rfl zz28 rfl rfl) ?_
       refine Rk.uN 1 rfl rfl (fun _ _ => by simp only [getD_set_ne false (show (1 : Nat) ≠ 7 by decide)]) (fun l w hl hcl hc => X.load1 Try.underlying28 rfl rfl (heap_cell (hc.2 (hcl.lt rfl (by kernel_rfl) hl)) rfl)) ?_
       refine Rk.uN 2 rfl rfl (fun _ _ => by simp only [getD_set_ne false (show (2 : Nat) ≠ 7 by decide)]) (fun l w hl hcl hc => X.move rfl) ?_
       obtain ⟨x123, hx124, hp111⟩ := bind_s hp111
       refine Rk.eN 3 rfl rfl (Oq.call Try.call25 rfl rfl (c25 S77 _ (⟨q74, q75⟩ : limelightkeep_Tape) _ f80 (hs.enter 0 rfl rfl) _ hx124) (fun v125 w126 h127 => ?_))
       obtain ⟨S128, v131, rfl, hs129, f132⟩ := h127
       have le130 := hs129.le
       have hs := hs.call1 0 rfl rfl hs129
       refine ⟨⟨(hs.has.down le130), (fun _ => hs.heap 1 rfl)⟩, Rk.mk (C' := fun l w => Has S128 w ∧ (l.getD 7 false = false → Hp b33 #[.int .i64 (add .i64 1 x13.1), .int .u32 x23.1, .int .u32 0, v81, .slice none 0 0, .slice none 0 0, .int .u64 0, .int .i64 0, .int .i64 0, .slice none 0 0] 33 w)) ⟨hs.has, (fun _ => hs.heap 1 rfl)⟩ (fun l w hc => ⟨hc.1.down le130, hc.2⟩) ?_⟩
       refine Rk.eN 4 rfl rfl (Oq.lit (sz := 3) (cs0 := [.int .u32 0, .int .u64 0, .int .i64 0]) (cells := [.int .u32 x123.1.Owner, .int .u64 x123.1.Rate, .int .i64 x123.1.Over]) hs Try.underlying28 ii57 rfl rfl rfl rfl rfl rfl ⟨_, [.int .u32 x123.1.Owner, .int .u64 x123.1.Rate, .int .i64 x123.1.Over], _, rfl, rfl, rfl, rfl⟩ rfl rfl rfl (fun b133 w134 S135 hs le136 hE137 => ?_))
       have f139 : Rd S135 3 R_api_Tuple (.slice (some ⟨b133, 0, none⟩) 1 1) ([x123.1] : List api_Tuple) := Rd.of_cells (xs := ([x123.1] : List api_Tuple)) ⟨[.int .u32 x123.1.Owner, .int .u64 x123.1.Rate, .int .i64 x123.1.Over], _, rfl, rfl, one_all ⟨rfl, rfl, rfl, trivial⟩, rfl, rfl⟩ hE137 (Nat.le_of_ble_eq_true rfl) (Nat.le_of_ble_eq_true rfl)
       refine ⟨⟨(hs.has.down le136), (fun _ => hs.heap 2 rfl)⟩, Rk.mk (C' := fun l w => Has S135 w ∧ (l.getD 7 false = false → Hp b33 #[.int .i64 (add .i64 1 x13.1), .int .u32 x23.1, .int .u32 0, v81, .slice none 0 0, .slice none 0 0, .int .u64 0, .int .i64 0, .int .i64 0, .slice none 0 0] 33 w)) ⟨hs.has, (fun _ => hs.heap 2 rfl)⟩ (fun l w hc => ⟨hc.1.down le136, hc.2⟩) ?_⟩
       refine Rk.weak [(0, .pointer (some ⟨b1, 0, none⟩)), (2, .pointer (some ⟨b10, 0, none⟩)), (3, .pointer (some ⟨b33, 0, none⟩)), (4, .int .i64 q73), (34, v81), (37, .slice (some ⟨b133, 0, none⟩) 1 1)] ⟨rfl, rfl, rfl, rfl, rfl, rfl, trivial⟩ ?_
       obtain ⟨y140, hx141, hp111⟩ := bind_s hp111
       refine Rk.eN 5 rfl rfl (Oq.appendS hs 4 rfl Try.underlying28 ii57 rfl rfl rfl rfl rfl rfl (f82.mono (le130.trans le136)) f139 hx141 rfl rfl rfl (fun v142 w143 S144 g145 hs le146 f147 => ?_))
       refine ⟨⟨(hs.has.down le146), (fun _ => hs.heap 2 rfl)⟩, Rk.mk (C' := fun l w => Has S144 w ∧ (l.getD 7 false = false → Hp b33 #[.int .i64 (add .i64 1 x13.1), .int .u32 x23.1, .int .u32 0, v81, .slice none 0 0, .slice none 0 0, .int .u64 0, .int .i64 0, .int .i64 0, .slice none 0 0] 33 w)) ⟨hs.has, (fun _ => hs.heap 2 rfl)⟩ (fun l w hc => ⟨hc.1.down le146, hc.2⟩) ?_⟩
       refine Rk.uN 6 rfl rfl (fun _ _ => by simp only [getD_set_ne false (show (6 : Nat) ≠ 7 by decide)]) (fun l w hl hcl hc => X.fieldB Try.underlying33 rfl zz28 rfl rfl) ?_
       refine Rk.eN 7 rfl rfl (Oq.store hs 2 rfl 3 zz28 rfl rfl f147.cells f147.one rfl [.app (some b133) (.slice (some ⟨b133, 0, none⟩) 1 1) ([x123.1] : List api_Tuple).length 57 3, .box b1 #[v131, .int .i64 x123.2.At] 26, .box b33 #[.int .i64 (add .i64 1 x13.1), .int .u32 x23.1, .int .u32 0, v142, .slice none 0 0, .slice none 0 0, .int .u64 0, .int .i64 0, .int .i64 0, .slice none 0 0] 33, .box b10 #[.int .i64 0, .int .u32 0, .int .u32 0, .slice none 0 0, .slice none 0 0, .slice none 0 0, .int .u64 0, .int .i64 0, .int .i64 0, .slice none 0 0] 33, .app g145 v142 y140.length 57 3] rfl (fun w148 hs => ?_))
       refine ⟨⟨hs.has, (fun h => absurd h (by decide))⟩, ?_⟩
       refine Rk.done ?_
       cases some_s hp111
       exact fun a ha => ⟨[(0, .pointer (some ⟨b1, 0, none⟩)), (2, .pointer (some ⟨b10, 0, none⟩)), (3, .pointer (some ⟨b33, 0, none⟩)), (4, .int .i64 q73)], ha.weak ⟨rfl, rfl, rfl, rfl, trivial⟩, S144, v131, v142, g145, rfl, (le130.trans (le136.trans le146)), (hs.pick [1, 2, 3, 4] (by decide) rfl), (f132.mono (le136.trans le146)), f147⟩
    ·have h88 := ite_f hc91 h88
     refine Cd.exit ?_
     obtain rfl := some_s h88
     have e := hl87 (fun _ e => by cases e)
     exact fun a ha => ⟨[(2, .pointer (some ⟨b10, 0, none⟩)), (3, .pointer (some ⟨b33, 0, none⟩))], ha.weak ⟨rfl, rfl, trivial⟩, _, _, _, _, S77, v79, v81, g83, rfl, e.symm, le78, hs, f80, f82⟩
  ·have h0 := ite_f hc44 h0
   refine Cd.sr ?_
   refine Rg.vN (X.eql rfl rfl) rfl ?_
   refine Rg.st rfl rfl ?_
   refine Rg.go ?_
   refine Cd.cond (t := (add .i64 1 x13.1) == 3) rfl (fun hc152 => ?_) (fun hc152 => ?_)
   ·have h0 := ite_t hc152 h0
    refine Cd.region ?_
    refine Rg.mv rfl rfl ?_
    obtain ⟨x153, hx154, h0⟩ := bind_s h0
    refine Rg.step rfl (Oq.call Try.call28 rfl rfl (c28 S40 _ (⟨x23.2.L, x23.2.At⟩ : limelightkeep_Tape) _ (f32.mono le42) (hs.enter 1 rfl rfl) _ hx154) (fun v155 w156 h157 => ?_))
    obtain ⟨S158, v161, rfl, hs159, f162⟩ := h157
    have le160 := hs159.le
    have hs := hs.call1 1 rfl rfl hs159
    refine Rg.vN (X.fieldB Try.underlying33 rfl zz27 rfl rfl) rfl ?_
    refine Rg.step rfl (Oq.store hs 1 rfl 2 zz27 rfl rfl rfl rfl rfl [.box b1 #[v161, .int .i64 x153.2.At] 26, .box b33 #[.int .i64 (add .i64 1 x13.1), .int .u32 x23.1, .int .u32 x153.1, .slice none 0 0, .slice none 0 0, .slice none 0 0, .int .u64 0, .int .i64 0, .int .i64 0, .slice none 0 0] 33, .box b10 #[.int .i64 0, .int .u32 0, .int .u32 0, .slice none 0 0, .slice none 0 0, .slice none 0 0, .int .u64 0, .int .i64 0, .int .i64 0, .slice none 0 0] 33] rfl (fun w163 hs => ?_))
    refine Rg.nil ?_
    refine Cd.go ?_
    refine Cd.sr ?_
    refine Rg.vN (X.loadN (vals := [.int .i64 (add .i64 1 x13.1), .int .u32 x23.1, .int .u32 x153.1, .slice none 0 0, .slice none 0 0, .slice none 0 0, .int .u64 0, .int .i64 0, .int .i64 0, .slice none 0 0]) Try.underlying33 rfl zz33 rfl (hs.range 1 rfl 0 rfl)) rfl ?_
    refine Rg.step rfl (Oq.storeN hs 2 rfl (vals := [.int .i64 (add .i64 1 x13.1), .int .u32 x23.1, .int .u32 x153.1, .slice none 0 0, .slice none 0 0, .slice none 0 0, .int .u64 0, .int .i64 0, .int .i64 0, .slice none 0 0]) zz33 rfl rfl (one_all ⟨rfl, rfl, rfl, rfl, rfl, rfl, rfl, rfl, rfl, rfl, trivial⟩) rfl [.box b1 #[v161, .int .i64 x153.2.At] 26, .box b33 #[.int .i64 (add .i64 1 x13.1), .int .u32 x23.1, .int .u32 x153.1, .slice none 0 0, .slice none 0 0, .slice none 0 0, .int .u64 0, .int .i64 0, .int .i64 0, .slice none 0 0] 33, .box b10 #[.int .i64 (add .i64 1 x13.1), .int .u32 x23.1, .int .u32 x153.1, .slice none 0 0, .slice none 0 0, .slice none 0 0, .int .u64 0, .int .i64 0, .int .i64 0, .slice none 0 0] 33] rfl (fun w164 hs => ?_))
    refine Rg.go ?_
    refine Cd.ret ?_
    obtain rfl := some_s h0
    exact fun a ha => Cd.retA (R := Re (Po10 S0 w0 [b1] b1 _)) ha Try.results10 ⟨_, _, _, rfl, rfl, run_lvN (vals := [.int .i64 (add .i64 1 x13.1), .int .u32 x23.1, .int .u32 x153.1, .slice none 0 0, .slice none 0 0, .slice none 0 0, .int .u64 0, .int .i64 0, .int .i64 0, .slice none 0 0]) Try.underlying33 rfl zz33 (hs.range 2 rfl 0 rfl), rfl⟩ ⟨_, rfl, S158, (.slice none 0 0), (.slice none 0 0), (.slice none 0 0), (.slice none 0 0), v161, rfl, (hs.pick [0] (by decide) rfl), (Rd.nil _ _ _), (Rd.nil _ _ _), (Rd.nil _ _ _), (Rd.nil _ _ _), f162⟩
   ·have h0 := ite_f hc152 h0
    refine Cd.sr ?_
    refine Rg.vN (X.eql rfl rfl) rfl ?_
    refine Rg.st rfl rfl ?_
    refine Rg.go ?_
    refine Cd.cond (t := (add .i64 1 x13.1) == 4) rfl (fun hc165 => ?_) (fun hc165 => ?_)
    ·have h0 := ite_t hc165 h0
     refine Cd.sr ?_
     refine Rg.mv rfl rfl ?_
     obtain ⟨x166, hx167, h0⟩ := bind_s h0
     refine Rg.step rfl (Oq.call Try.call27 rfl rfl (c27 S40 _ (⟨x23.2.L, x23.2.At⟩ : limelightkeep_Tape) _ (f32.mono le42) _ (hs.enter 1 rfl rfl) _ hx167) (fun v168 w169 h170 => ?_))
     obtain ⟨S171, v174, rfl, hs172, f175⟩ := h170
     have le173 := hs172.le
     have hs := hs.call1 1 rfl rfl hs172
     refine Rg.st rfl rfl ?_
     refine Rg.go ?_
     have hs := hs.nil 27 1
     have hs := hs.nil 3 1
     obtain ⟨fl178, hfl179, h0⟩ := bind_s h0
     refine Cd.post (fun K w => ∃ (j180 : Int) (j181 : (List Int)) (j182 : Int) (j183 : (List Int)) (j184 : (List Int)) (S185 : Mp) (v187 : Value) (v189 : Value) (g191 : Option Nat) (v193 : Value) (g195 : Option Nat), K = [(2, .pointer (some ⟨b10, 0, none⟩)), (3, .pointer (some ⟨b33, 0, none⟩))] ∧ fl178 = Flow.brk (j180, j181, j182, j183, j184) ∧ Le S171 S185 ∧ St w0 [b1] S0 S185 [.box b1 #[v187, .int .i64 j182] 26, .box b33 #[.int .i64 (add .i64 1 x13.1), .int .u32 x23.1, .int .u32 0, .slice none 0 0, v189, v193, .int .u64 0, .int .i64 0, .int .i64 0, .slice none 0 0] 33, .box b10 #[.int .i64 0, .int .u32 0, .int .u32 0, .slice none 0 0, .slice none 0 0, .slice none 0 0, .int .u64 0, .int .i64 0, .int .i64 0, .slice none 0 0] 33, .app g191 v189 j183.length 27 1, .app g195 v193 j184.length 3 1] w ∧ Rd S185 1 (RI .i64) v187 j181 ∧ Rd S185 1 (RI .u32) v189 j183 ∧ Rd S185 1 (RI .i64) v193 j184) ?_ ?_
     ·rintro K198 w197 ⟨j180, j181, j182, j183, j184, S185, v187, v189, g191, v193, g195, rfl, rfl, le186, hs, f188, f190, f194⟩
      have h0 := el_brk h0
      try dsimp only at h0
      refine Cd.go ?_
      refine Cd.sr ?_
      refine Rg.vN (X.loadN (vals := [.int .i64 (add .i64 1 x13.1), .int .u32 x23.1, .int .u32 0, .slice none 0 0, v189, v193, .int .u64 0, .int .i64 0, .int .i64 0, .slice none 0 0]) Try.underlying33 rfl zz33 rfl (hs.range 1 rfl 0 rfl)) rfl ?_
      refine Rg.step rfl (Oq.storeN hs 2 rfl (vals := [.int .i64 (add .i64 1 x13.1), .int .u32 x23.1, .int .u32 0, .slice none 0 0, v189, v193, .int .u64 0, .int .i64 0, .int .i64 0, .slice none 0 0]) zz33 rfl rfl (one_all ⟨rfl, rfl, rfl, rfl, f190.one, f194.one, rfl, rfl, rfl, rfl, trivial⟩) rfl [.box b1 #[v187, .int .i64 j182] 26, .box b33 #[.int .i64 (add .i64 1 x13.1), .int .u32 x23.1, .int .u32 0, .slice none 0 0, v189, v193, .int .u64 0, .int .i64 0, .int .i64 0, .slice none 0 0] 33, .box b10 #[.int .i64 (add .i64 1 x13.1), .int .u32 x23.1, .int .u32 0, .slice none 0 0, v189, v193, .int .u64 0, .int .i64 0, .int .i64 0, .slice none 0 0] 33, .app g191 v189 j183.length 27 1, .app g195 v193 j184.length 3 1] rfl (fun w199 hs => ?_))
      refine Rg.go ?_
      refine Cd.weak [(2, .pointer (some ⟨b10, 0, none⟩))] ⟨rfl, trivial⟩ ?_
      refine Cd.ret ?_
      obtain rfl := some_s h0
      exact fun a ha => Cd.retA (R := Re (Po10 S0 w0 [b1] b1 _)) ha Try.results10 ⟨_, _, _, rfl, rfl, run_lvN (vals := [.int .i64 (add .i64 1 x13.1), .int .u32 x23.1, .int .u32 0, .slice none 0 0, v189, v193, .int .u64 0, .int .i64 0, .int .i64 0, .slice none 0 0]) Try.underlying33 rfl zz33 (hs.range 2 rfl 0 rfl), rfl⟩ ⟨_, rfl, S185, (.slice none 0 0), v189, v193, (.slice none 0 0), v187, rfl, (hs.pick [0] (by decide) rfl), (Rd.nil _ _ _), f190, f194, (Rd.nil _ _ _), f188⟩
     ·skip
      refine Cd.weak [(0, .pointer (some ⟨b1, 0, none⟩)), (2, .pointer (some ⟨b10, 0, none⟩)), (3, .pointer (some ⟨b33, 0, none⟩)), (5, .int .i64 x166.1)] ⟨rfl, rfl, rfl, rfl, trivial⟩ ?_
      refine Cd.block (Cd.loop (fun sg => limelightkeep_Tape_Report_l1 sg.1 sg.2.1 sg.2.2.1 sg.2.2.2.1 sg.2.2.2.2) (fun (sg : (Int × (List Int) × Int × (List Int) × (List Int))) K w => ∃ (S205 : Mp) (v207 : Value) (v209 : Value) (g211 : Option Nat) (v213 : Value) (g215 : Option Nat), K = [(0, .pointer (some ⟨b1, 0, none⟩)), (2, .pointer (some ⟨b10, 0, none⟩)), (3, .pointer (some ⟨b33, 0, none⟩)), (5, .int .i64 sg.1)] ∧ Le S171 S205 ∧ St w0 [b1] S0 S205 [.box b1 #[v207, .int .i64 sg.2.2.1] 26, .box b33 #[.int .i64 (add .i64 1 x13.1), .int .u32 x23.1, .int .u32 0, .slice none 0 0, v209, v213, .int .u64 0, .int .i64 0, .int .i64 0, .slice none 0 0] 33, .box b10 #[.int .i64 0, .int .u32 0, .int .u32 0, .slice none 0 0, .slice none 0 0, .slice none 0 0, .int .u64 0, .int .i64 0, .int .i64 0, .slice none 0 0] 33, .app g211 v209 sg.2.2.2.1.length 27 1, .app g215 v213 sg.2.2.2.2.length 3 1] w ∧ Rd S205 1 (RI .i64) v207 sg.2.1 ∧ Rd S205 1 (RI .u32) v209 sg.2.2.2.1 ∧ Rd S205 1 (RI .i64) v213 sg.2.2.2.2) (x166.1, x166.2.L, x166.2.At, ([] : List Int), ([] : List Int)) fl178 hfl179 ⟨S171, v174, (.slice none 0 0), none, (.slice none 0 0), none, rfl, Le.refl _, (hs.pick [2, 3, 4, 1, 0] (by decide) rfl), f175, (Rd.nil _ _ _), (Rd.nil _ _ _)⟩ ?_)
      rintro ⟨q200, q201, q202, q203, q204⟩ fl217 K222 w221 hb218 ⟨S205, v207, v209, g211, v213, g215, rfl, le206, hs, f208, f210, f214⟩ hl219
      have h220 : limelightkeep_Tape_Report_l1 q200 q201 q202 q203 q204 = some fl217 := hb218
      unfold limelightkeep_Tape_Report_l1 at h220
      refine Cd.seq ?_
      refine Cd.sr ?_
      refine Rg.mv rfl rfl ?_
      refine Rg.vN (X.geq rfl rfl) rfl ?_
      refine Rg.go ?_
      refine Cd.weak [(0, .pointer (some ⟨b1, 0, none⟩)), (2, .pointer (some ⟨b10, 0, none⟩)), (3, .pointer (some ⟨b33, 0, none⟩)), (5, .int .i64 q200), (50, .bool (decide (0 ≤ q200)))] ⟨rfl, rfl, rfl, rfl, rfl, trivial⟩ ?_
      refine Cd.cond (t := decide (0 ≤ q200)) rfl (fun hc223 => ?_) (fun hc223 => ?_)
      ·have h220 := ite_t hc223 h220
       refine Cd.sg ?_
       refine Cd.seq ?_
       obtain ⟨p228, hp229, h220⟩ := bind_s h220
       obtain ⟨j224, j225, j226, j227⟩ := p228
       dsimp only at h220
       refine Cd.post (fun K w => ∃ (S230 : Mp) (v233 : Value) (v235 : Value) (g237 : Option Nat) (v239 : Value) (g241 : Option Nat), K = [(0, .pointer (some ⟨b1, 0, none⟩)), (2, .pointer (some ⟨b10, 0, none⟩)), (3, .pointer (some ⟨b33, 0, none⟩)), (5, .int .i64 q200)] ∧ Le S205 S230 ∧ St w0 [b1] S0 S230 [.box b1 #[v233, .int .i64 j225] 26, .box b33 #[.int .i64 (add .i64 1 x13.1), .int .u32 x23.1, .int .u32 0, .slice none 0 0, v235, v239, .int .u64 0, .int .i64 0, .int .i64 0, .slice none 0 0] 33, .box b10 #[.int .i64 0, .int .u32 0, .int .u32 0, .slice none 0 0, .slice none 0 0, .slice none 0 0, .int .u64 0, .int .i64 0, .int .i64 0, .slice none 0 0] 33, .app g237 v235 j226.length 27 1, .app g241 v239 j227.length 3 1] w ∧ Rd S230 1 (RI .i64) v233 j224 ∧ Rd S230 1 (RI .u32) v235 j226 ∧ Rd S230 1 (RI .i64) v239 j227) ?_ ?_
       ·rintro K243 w231 ⟨S230, v233, v235, g237, v239, g241, rfl, le232, hs, f234, f236, f240⟩
        refine Cd.go ?_
        refine Cd.region ?_
        refine Rg.mv rfl rfl ?_
        refine Rg.vN (X.sub rfl rfl) rfl ?_
        refine Rg.st rfl rfl ?_
        refine Rg.nil ?_
        exact fun a ha => ⟨(sub .i64 q200 1, j224, j225, j226, j227), [(0, .pointer (some ⟨b1, 0, none⟩)), (2, .pointer (some ⟨b10, 0, none⟩)), (3, .pointer (some ⟨b33, 0, none⟩)), (5, .int .i64 (sub .i64 q200 1))], (some_s h220).symm, ha.weak ⟨rfl, rfl, rfl, rfl, trivial⟩, S230, v233, v235, g237, v239, g241, rfl, (le206.trans le232), hs, f234, f236, f240⟩
       ·skip
        refine Cd.block ?_
        obtain ⟨p248, hp249, hp229⟩ := bind_s hp229
        obtain ⟨j244, j245, j246, j247⟩ := p248
        dsimp only at hp229
        refine Cd.post (fun K w => ∃ (S250 : Mp) (v253 : Value) (v255 : Value) (g257 : Option Nat) (v259 : Value) (g261 : Option Nat), K = [(0, .pointer (some ⟨b1, 0, none⟩)), (2, .pointer (some ⟨b10, 0, none⟩)), (3, .pointer (some ⟨b33, 0, none⟩)), (5, .int .i64 q200)] ∧ Le S205 S250 ∧ St w0 [b1] S0 S250 [.box b1 #[v253, .int .i64 j245] 26, .box b33 #[.int .i64 (add .i64 1 x13.1), .int .u32 x23.1, .int .u32 0, .slice none 0 0, v255, v259, .int .u64 0, .int .i64 0, .int .i64 0, .slice none 0 0] 33, .box b10 #[.int .i64 0, .int .u32 0, .int .u32 0, .slice none 0 0, .slice none 0 0, .slice none 0 0, .int .u64 0, .int .i64 0, .int .i64 0, .slice none 0 0] 33, .app g257 v255 j246.length 27 1, .app g261 v259 j247.length 3 1] w ∧ Rd S250 1 (RI .i64) v253 j244 ∧ Rd S250 1 (RI .u32) v255 j246 ∧ Rd S250 1 (RI .i64) v259 j247) ?_ ?_
        ·rintro K263 w251 ⟨S250, v253, v255, g257, v259, g261, rfl, le252, hs, f254, f256, f260⟩
         cases some_s hp229
         exact fun a ha => ⟨[(0, .pointer (some ⟨b1, 0, none⟩)), (2, .pointer (some ⟨b10, 0, none⟩)), (3, .pointer (some ⟨b33, 0, none⟩)), (5, .int .i64 q200)], ha.weak ⟨rfl, rfl, rfl, rfl, trivial⟩, S250, v253, v255, g257, v259, g261, rfl, le252, hs, f254, f256, f260⟩
        ·skip
         refine Cd.rD mixed (fun l w => Has S205 w ∧ (l.getD 13 false = false → Hp b33 #[.int .i64 (add .i64 1 x13.1), .int .u32 x23.1, .int .u32 0, .slice none 0 0, v209, v213, .int .u64 0, .int .i64 0, .int .i64 0, .slice none 0 0] 33 w)) hs (fun _ _ _ _ _ h => h) (by kernel_rfl) (fun w264 hs => ⟨⟨hs.has, (fun _ => hs.heap 1 rfl)⟩, ?_⟩)
         refine Rk.uN 0 rfl rfl (fun _ _ => by simp only [getD_set_ne false (show (0 : Nat) ≠ 13 by decide)]) (fun l w hl hcl hc => X.fieldB Try.underlying33 rfl zz29 rfl rfl) ?_
         refine Rk.uN 1 rfl rfl (fun _ _ => by simp only [getD_set_ne false (show (1 : Nat) ≠ 13 by decide)]) (fun l w hl hcl hc => X.load1 Try.underlying29 rfl rfl (heap_cell (hc.2 (hcl.lt rfl (by kernel_rfl) hl)) rfl)) ?_
         refine Rk.uN 2 rfl rfl (fun _ _ => by simp only [getD_set_ne false (show (2 : Nat) ≠ 13 by decide)]) (fun l w hl hcl hc => X.move rfl) ?_
         refine Rk.uN 6 rfl rfl (fun _ _ => by simp only [getD_set_ne false (show (6 : Nat) ≠ 13 by decide)]) (fun l w hl hcl hc => X.fieldB Try.underlying33 rfl zz23 rfl rfl) ?_
         refine Rk.uN 7 rfl rfl (fun _ _ => by simp only [getD_set_ne false (show (7 : Nat) ≠ 13 by decide)]) (fun l w hl hcl hc => X.load1 Try.underlying23 rfl rfl (heap_cell (hc.2 (hcl.lt rfl (by kernel_rfl) hl)) rfl)) ?_
         refine Rk.uN 8 rfl rfl (fun _ _ => by simp only [getD_set_ne false (show (8 : Nat) ≠ 13 by decide)]) (fun l w hl hcl hc => X.move rfl) ?_
         obtain ⟨x265, hx266, hp249⟩ := bind_s hp249
         refine Rk.eN 3 rfl rfl (Oq.call Try.call28 rfl rfl (c28 S205 _ (⟨q201, q202⟩ : limelightkeep_Tape) _ f208 (hs.enter 0 rfl rfl) _ hx266) (fun v267 w268 h269 => ?_))
         obtain ⟨S270, v273, rfl, hs271, f274⟩ := h269
         have le272 := hs271.le
         have hs := hs.call1 0 rfl rfl hs271
         refine ⟨⟨(hs.has.down le272), (fun _ => hs.heap 1 rfl)⟩, Rk.mk (C' := fun l w => Has S270 w ∧ (l.getD 13 false = false → Hp b33 #[.int .i64 (add .i64 1 x13.1), .int .u32 x23.1, .int .u32 0, .slice none 0 0, v209, v213, .int .u64 0, .int .i64 0, .int .i64 0, .slice none 0 0] 33 w)) ⟨hs.has, (fun _ => hs.heap 1 rfl)⟩ (fun l w hc => ⟨hc.1.down le272, hc.2⟩) ?_⟩
         refine Rk.eN 4 rfl rfl (Oq.lit (sz := 1) (cs0 := [.int .u32 0]) (cells := [.int .u32 x265.1]) hs Try.underlying29 ii27 rfl rfl rfl rfl rfl rfl ⟨_, [.int .u32 x265.1], _, rfl, rfl, rfl, rfl⟩ rfl rfl rfl (fun b275 w276 S277 hs le278 hE279 => ?_))
         have f281 : Rd S277 1 (RI .u32) (.slice (some ⟨b275, 0, none⟩) 1 1) ([x265.1] : List Int) := Rd.of_cells (xs := ([x265.1] : List Int)) ⟨[.int .u32 x265.1], _, rfl, rfl, one_all ⟨rfl, trivial⟩, rfl, rfl⟩ hE279 (Nat.le_of_ble_eq_true rfl) (Nat.le_of_ble_eq_true rfl)
         refine ⟨⟨(hs.has.down le278), (fun _ => hs.heap 2 rfl)⟩, Rk.mk (C' := fun l w => Has S277 w ∧ (l.getD 13 false = false → Hp b33 #[.int .i64 (add .i64 1 x13.1), .int .u32 x23.1, .int .u32 0, .slice none 0 0, v209, v213, .int .u64 0, .int .i64 0, .int .i64 0, .slice none 0 0] 33 w)) ⟨hs.has, (fun _ => hs.heap 2 rfl)⟩ (fun l w hc => ⟨hc.1.down le278, hc.2⟩) ?_⟩
         obtain ⟨y282, hx283, hp249⟩ := bind_s hp249
         refine Rk.eN 5 rfl rfl (Oq.appendS hs 4 rfl Try.underlying29 ii27 rfl rfl rfl rfl rfl rfl (f210.mono (le272.trans le278)) f281 hx283 rfl rfl rfl (fun v284 w285 S286 g287 hs le288 f289 => ?_))
         refine ⟨⟨(hs.has.down le288), (fun _ => hs.heap 2 rfl)⟩, Rk.mk (C' := fun l w => Has S286 w ∧ (l.getD 13 false = false → Hp b33 #[.int .i64 (add .i64 1 x13.1), .int .u32 x23.1, .int .u32 0, .slice none 0 0, v209, v213, .int .u64 0, .int .i64 0, .int .i64 0, .slice none 0 0] 33 w)) ⟨hs.has, (fun _ => hs.heap 2 rfl)⟩ (fun l w hc => ⟨hc.1.down le288, hc.2⟩) ?_⟩
         refine Rk.uN 12 rfl rfl (fun _ _ => by simp only [getD_set_ne false (show (12 : Nat) ≠ 13 by decide)]) (fun l w hl hcl hc => X.fieldB Try.underlying33 rfl zz29 rfl rfl) ?_
         obtain ⟨x290, hx291, hp249⟩ := bind_s hp249
         refine Rk.eN 9 rfl rfl (Oq.call Try.call27 rfl rfl (c27 S286 _ (⟨x265.2.L, x265.2.At⟩ : limelightkeep_Tape) _ (f274.mono (le278.trans le288)) _ (hs.enter 1 rfl rfl) _ hx291) (fun v292 w293 h294 => ?_))
         obtain ⟨S295, v298, rfl, hs296, f299⟩ := h294
         have le297 := hs296.le
         have hs := hs.call1 1 rfl rfl hs296
         refine ⟨⟨(hs.has.down le297), (fun _ => hs.heap 2 rfl)⟩, Rk.mk (C' := fun l w => Has S295 w ∧ (l.getD 13 false = false → Hp b33 #[.int .i64 (add .i64 1 x13.1), .int .u32 x23.1, .int .u32 0, .slice none 0 0, v209, v213, .int .u64 0, .int .i64 0, .int .i64 0, .slice none 0 0] 33 w)) ⟨hs.has, (fun _ => hs.heap 2 rfl)⟩ (fun l w hc => ⟨hc.1.down le297, hc.2⟩) ?_⟩
         refine Rk.eN 10 rfl rfl (Oq.lit (sz := 1) (cs0 := [.int .i64 0]) (cells := [.int .i64 x290.1]) hs Try.underlying23 ii3 rfl rfl rfl rfl rfl rfl ⟨_, [.int .i64 x290.1], _, rfl, rfl, rfl, rfl⟩ rfl rfl rfl (fun b300 w301 S302 hs le303 hE304 => ?_))
         have f306 : Rd S302 1 (RI .i64) (.slice (some ⟨b300, 0, none⟩) 1 1) ([x290.1] : List Int) := Rd.of_cells (xs := ([x290.1] : List Int)) ⟨[.int .i64 x290.1], _, rfl, rfl, one_all ⟨rfl, trivial⟩, rfl, rfl⟩ hE304 (Nat.le_of_ble_eq_true rfl) (Nat.le_of_ble_eq_true rfl)
         refine ⟨⟨(hs.has.down le303), (fun _ => hs.heap 3 rfl)⟩, Rk.mk (C' := fun l w => Has S302 w ∧ (l.getD 13 false = false → Hp b33 #[.int .i64 (add .i64 1 x13.1), .int .u32 x23.1, .int .u32 0, .slice none 0 0, v209, v213, .int .u64 0, .int .i64 0, .int .i64 0, .slice none 0 0] 33 w)) ⟨hs.has, (fun _ => hs.heap 3 rfl)⟩ (fun l w hc => ⟨hc.1.down le303, hc.2⟩) ?_⟩
         obtain ⟨y307, hx308, hp249⟩ := bind_s hp249
         refine Rk.eN 11 rfl rfl (Oq.appendS hs 6 rfl Try.underlying23 ii3 rfl rfl rfl rfl rfl rfl (f214.mono (le272.trans (le278.trans (le288.trans (le297.trans le303))))) f306 hx308 rfl rfl rfl (fun v309 w310 S311 g312 hs le313 f314 => ?_))
         refine ⟨⟨(hs.has.down le313), (fun _ => hs.heap 3 rfl)⟩, Rk.mk (C' := fun l w => Has S311 w ∧ (l.getD 13 false = false → Hp b33 #[.int .i64 (add .i64 1 x13.1), .int .u32 x23.1, .int .u32 0, .slice none 0 0, v209, v213, .int .u64 0, .int .i64 0, .int .i64 0, .slice none 0 0] 33 w)) ⟨hs.has, (fun _ => hs.heap 3 rfl)⟩ (fun l w hc => ⟨hc.1.down le313, hc.2⟩) ?_⟩
         refine Rk.eN 13 rfl rfl (Oq.store hs 3 rfl 4 zz29 rfl rfl (f289.mono (le297.trans (le303.trans le313))).cells (f289.mono (le297.trans (le303.trans le313))).one rfl [.app (some b300) (.slice (some ⟨b300, 0, none⟩) 1 1) ([x290.1] : List Int).length 3 1, .box b1 #[v298, .int .i64 x290.2.At] 26, .app (some b275) (.slice (some ⟨b275, 0, none⟩) 1 1) ([x265.1] : List Int).length 27 1, .box b33 #[.int .i64 (add .i64 1 x13.1), .int .u32 x23.1, .int .u32 0, .slice none 0 0, v284, v213, .int .u64 0, .int .i64 0, .int .i64 0, .slice none 0 0] 33, .box b10 #[.int .i64 0, .int .u32 0, .int .u32 0, .slice none 0 0, .slice none 0 0, .slice none 0 0, .int .u64 0, .int .i64 0, .int .i64 0, .slice none 0 0] 33, .app g287 v284 y282.length 27 1, .app g312 v309 y307.length 3 1] rfl (fun w315 hs => ?_))
         refine ⟨⟨hs.has, (fun h => absurd h (by decide))⟩, ?_⟩
         refine Rk.uN 14 rfl rfl (fun _ _ => by simp only [getD_set_ne false (show (14 : Nat) ≠ 13 by decide)]) (fun l w hl hcl hc => X.fieldB Try.underlying33 rfl zz23 rfl rfl) ?_
         refine Rk.eN 15 rfl rfl (Oq.store hs 3 rfl 5 zz23 rfl rfl f314.cells f314.one rfl [.app (some b300) (.slice (some ⟨b300, 0, none⟩) 1 1) ([x290.1] : List Int).length 3 1, .box b1 #[v298, .int .i64 x290.2.At] 26, .app (some b275) (.slice (some ⟨b275, 0, none⟩) 1 1) ([x265.1] : List Int).length 27 1, .box b33 #[.int .i64 (add .i64 1 x13.1), .int .u32 x23.1, .int .u32 0, .slice none 0 0, v284, v309, .int .u64 0, .int .i64 0, .int .i64 0, .slice none 0 0] 33, .box b10 #[.int .i64 0, .int .u32 0, .int .u32 0, .slice none 0 0, .slice none 0 0, .slice none 0 0, .int .u64 0, .int .i64 0, .int .i64 0, .slice none 0 0] 33, .app g287 v284 y282.length 27 1, .app g312 v309 y307.length 3 1] rfl (fun w316 hs => ?_))
         refine ⟨⟨hs.has, (fun h => absurd h (by decide))⟩, ?_⟩
         refine Rk.done ?_
         cases some_s hp249
         exact fun a ha => ⟨[(0, .pointer (some ⟨b1, 0, none⟩)), (2, .pointer (some ⟨b10, 0, none⟩)), (3, .pointer (some ⟨b33, 0, none⟩)), (5, .int .i64 q200)], ha.weak ⟨rfl, rfl, rfl, rfl, trivial⟩, S311, v298, v284, g287, v309, g312, rfl, (le272.trans (le278.trans (le288.trans (le297.trans (le303.trans le313))))), (hs.pick [1, 3, 4, 5, 6] (by decide) rfl), (f299.mono (le303.trans le313)), (f289.mono (le297.trans (le303.trans le313))), f314⟩
      ·have h220 := ite_f hc223 h220
       refine Cd.exit ?_
       obtain rfl := some_s h220
       have e := hl219 (fun _ e => by cases e)
       exact fun a ha => ⟨[(2, .pointer (some ⟨b10, 0, none⟩)), (3, .pointer (some ⟨b33, 0, none⟩))], ha.weak ⟨rfl, rfl, trivial⟩, _, _, _, _, _, S205, v207, v209, g211, v213, g215, rfl, e.symm, le206, hs, f208, f210, f214⟩
    ·have h0 := ite_f hc165 h0
     refine Cd.sr ?_
     refine Rg.vN (X.eql rfl rfl) rfl ?_
     refine Rg.st rfl rfl ?_
     refine Rg.go ?_
     refine Cd.cond (t := (add .i64 1 x13.1) == 5) rfl (fun hc320 => ?_) (fun hc320 => ?_)
     ·have h0 := ite_t hc320 h0
      refine Cd.sr ?_
      refine Rg.mv rfl rfl ?_
      refine Rg.weak [(0, .pointer (some ⟨b1, 0, none⟩)), (2, .pointer (some ⟨b10, 0, none⟩)), (3, .pointer (some ⟨b33, 0, none⟩)), (69, .pointer (some ⟨b1, 0, none⟩))] ⟨rfl, rfl, rfl, rfl, trivial⟩ ?_
      obtain ⟨x321, hx322, h0⟩ := bind_s h0
      refine Rg.step rfl (Oq.call Try.call27 rfl rfl (c27 S40 _ (⟨x23.2.L, x23.2.At⟩ : limelightkeep_Tape) _ (f32.mono le42) _ (hs.enter 1 rfl rfl) _ hx322) (fun v323 w324 h325 => ?_))
      obtain ⟨S326, v329, rfl, hs327, f330⟩ := h325
      have le328 := hs327.le
      have hs := hs.call1 1 rfl rfl hs327
      refine Rg.vN (X.conv Try.underlying3 Try.underlying30 rfl) rfl ?_
      refine Rg.mv rfl rfl ?_
      obtain ⟨x331, hx332, h0⟩ := bind_s h0
      refine Rg.step rfl (Oq.call Try.call27 rfl rfl (c27 S326 _ (⟨x321.2.L, x321.2.At⟩ : limelightkeep_Tape) _ f330 _ (hs.enter 0 rfl rfl) _ hx332) (fun v333 w334 h335 => ?_))
      obtain ⟨S336, v339, rfl, hs337, f340⟩ := h335
      have le338 := hs337.le
      have hs := hs.call1 0 rfl rfl hs337
      refine Rg.vN (X.add rfl rfl) rfl ?_
      refine Rg.vN (X.conv Try.underlying3 Try.underlying30 rfl) rfl ?_
      refine Rg.vN (X.mul rfl rfl) rfl ?_
      obtain ⟨x341, hx342, h0⟩ := bind_s h0
      refine Rg.step rfl (Oq.call Try.call29 rfl rfl (c29 S336 (St.start _ _ hs.has) _ _ _ hx342) (fun v343 w344 h345 => ?_))
      obtain ⟨S346, rfl, hs347⟩ := h345
      have le348 := hs347.le
      have hs := hs.call0 hs347
      refine Rg.vN (X.fieldB Try.underlying33 rfl zz30 rfl rfl) rfl ?_
      refine Rg.step rfl (Oq.store hs 1 rfl 6 zz30 rfl rfl rfl rfl rfl [.box b1 #[v339, .int .i64 x331.2.At] 26, .box b33 #[.int .i64 (add .i64 1 x13.1), .int .u32 x23.1, .int .u32 0, .slice none 0 0, .slice none 0 0, .slice none 0 0, .int .u64 x341, .int .i64 0, .int .i64 0, .slice none 0 0] 33, .box b10 #[.int .i64 0, .int .u32 0, .int .u32 0, .slice none 0 0, .slice none 0 0, .slice none 0 0, .int .u64 0, .int .i64 0, .int .i64 0, .slice none 0 0] 33] rfl (fun w349 hs => ?_))
      refine Rg.go ?_
      refine Cd.sr ?_
      refine Rg.mv rfl rfl ?_
      obtain ⟨x350, hx351, h0⟩ := bind_s h0
      refine Rg.step rfl (Oq.call Try.call27 rfl rfl (c27 S346 _ (⟨x331.2.L, x331.2.At⟩ : limelightkeep_Tape) _ (f340.mono le348) _ (hs.enter 0 rfl rfl) _ hx351) (fun v352 w353 h354 => ?_))
      obtain ⟨S355, v358, rfl, hs356, f359⟩ := h354
      have le357 := hs356.le
      have hs := hs.call1 0 rfl rfl hs356
      refine Rg.st rfl rfl ?_
      refine Rg.go ?_
      have hs := hs.nil 27 1
      obtain ⟨fl361, hfl362, h0⟩ := bind_s h0
      refine Cd.post (fun K w => ∃ (j363 : Int) (j364 : (List Int)) (j365 : Int) (j366 : (List Int)) (S367 : Mp) (v369 : Value) (v371 : Value) (g373 : Option Nat), K = [(2, .pointer (some ⟨b10, 0, none⟩)), (3, .pointer (some ⟨b33, 0, none⟩))] ∧ fl361 = Flow.brk (j363, j364, j365, j366) ∧ Le S355 S367 ∧ St w0 [b1] S0 S367 [.box b1 #[v369, .int .i64 j365] 26, .box b33 #[.int .i64 (add .i64 1 x13.1), .int .u32 x23.1, .int .u32 0, .slice none 0 0, v371, .slice none 0 0, .int .u64 x341, .int .i64 0, .int .i64 0, .slice none 0 0] 33, .box b10 #[.int .i64 0, .int .u32 0, .int .u32 0, .slice none 0 0, .slice none 0 0, .slice none 0 0, .int .u64 0, .int .i64 0, .int .i64 0, .slice none 0 0] 33, .app g373 v371 j366.length 27 1] w ∧ Rd S367 1 (RI .i64) v369 j364 ∧ Rd S367 1 (RI .u32) v371 j366) ?_ ?_
      ·rintro K376 w375 ⟨j363, j364, j365, j366, S367, v369, v371, g373, rfl, rfl, le368, hs, f370, f372⟩
       have h0 := el_brk h0
       try dsimp only at h0
       refine Cd.go ?_
       refine Cd.sr ?_
       refine Rg.vN (X.loadN (vals := [.int .i64 (add .i64 1 x13.1), .int .u32 x23.1, .int .u32 0, .slice none 0 0, v371, .slice none 0 0, .int .u64 x341, .int .i64 0, .int .i64 0, .slice none 0 0]) Try.underlying33 rfl zz33 rfl (hs.range 1 rfl 0 rfl)) rfl ?_
       refine Rg.step rfl (Oq.storeN hs 2 rfl (vals := [.int .i64 (add .i64 1 x13.1), .int .u32 x23.1, .int .u32 0, .slice none 0 0, v371, .slice none 0 0, .int .u64 x341, .int .i64 0, .int .i64 0, .slice none 0 0]) zz33 rfl rfl (one_all ⟨rfl, rfl, rfl, rfl, f372.one, rfl, rfl, rfl, rfl, rfl, trivial⟩) rfl [.box b1 #[v369, .int .i64 j365] 26, .box b33 #[.int .i64 (add .i64 1 x13.1), .int .u32 x23.1, .int .u32 0, .slice none 0 0, v371, .slice none 0 0, .int .u64 x341, .int .i64 0, .int .i64 0, .slice none 0 0] 33, .box b10 #[.int .i64 (add .i64 1 x13.1), .int .u32 x23.1, .int .u32 0, .slice none 0 0, v371, .slice none 0 0, .int .u64 x341, .int .i64 0, .int .i64 0, .slice none 0 0] 33, .app g373 v371 j366.length 27 1] rfl (fun w377 hs => ?_))
       refine Rg.go ?_
       refine Cd.ret ?_
       obtain rfl := some_s h0
       exact fun a ha => Cd.retA (R := Re (Po10 S0 w0 [b1] b1 _)) ha Try.results10 ⟨_, _, _, rfl, rfl, run_lvN (vals := [.int .i64 (add .i64 1 x13.1), .int .u32 x23.1, .int .u32 0, .slice none 0 0, v371, .slice none 0 0, .int .u64 x341, .int .i64 0, .int .i64 0, .slice none 0 0]) Try.underlying33 rfl zz33 (hs.range 2 rfl 0 rfl), rfl⟩ ⟨_, rfl, S367, (.slice none 0 0), v371, (.slice none 0 0), (.slice none 0 0), v369, rfl, (hs.pick [0] (by decide) rfl), (Rd.nil _ _ _), f372, (Rd.nil _ _ _), (Rd.nil _ _ _), f370⟩
      ·skip
       refine Cd.weak [(0, .pointer (some ⟨b1, 0, none⟩)), (2, .pointer (some ⟨b10, 0, none⟩)), (3, .pointer (some ⟨b33, 0, none⟩)), (6, .int .i64 x350.1)] ⟨rfl, rfl, rfl, rfl, trivial⟩ ?_
       refine Cd.block (Cd.loop (fun sg => limelightkeep_Tape_Report_l2 sg.1 sg.2.1 sg.2.2.1 sg.2.2.2) (fun (sg : (Int × (List Int) × Int × (List Int))) K w => ∃ (S382 : Mp) (v384 : Value) (v386 : Value) (g388 : Option Nat), K = [(0, .pointer (some ⟨b1, 0, none⟩)), (2, .pointer (some ⟨b10, 0, none⟩)), (3, .pointer (some ⟨b33, 0, none⟩)), (6, .int .i64 sg.1)] ∧ Le S355 S382 ∧ St w0 [b1] S0 S382 [.box b1 #[v384, .int .i64 sg.2.2.1] 26, .box b33 #[.int .i64 (add .i64 1 x13.1), .int .u32 x23.1, .int .u32 0, .slice none 0 0, v386, .slice none 0 0, .int .u64 x341, .int .i64 0, .int .i64 0, .slice none 0 0] 33, .box b10 #[.int .i64 0, .int .u32 0, .int .u32 0, .slice none 0 0, .slice none 0 0, .slice none 0 0, .int .u64 0, .int .i64 0, .int .i64 0, .slice none 0 0] 33, .app g388 v386 sg.2.2.2.length 27 1] w ∧ Rd S382 1 (RI .i64) v384 sg.2.1 ∧ Rd S382 1 (RI .u32) v386 sg.2.2.2) (x350.1, x350.2.L, x350.2.At, ([] : List Int)) fl361 hfl362 ⟨S355, v358, (.slice none 0 0), none, rfl, Le.refl _, (hs.pick [1, 2, 3, 0] (by decide) rfl), f359, (Rd.nil _ _ _)⟩ ?_)
       rintro ⟨q378, q379, q380, q381⟩ fl390 K395 w394 hb391 ⟨S382, v384, v386, g388, rfl, le383, hs, f385, f387⟩ hl392
       have h393 : limelightkeep_Tape_Report_l2 q378 q379 q380 q381 = some fl390 := hb391
       unfold limelightkeep_Tape_Report_l2 at h393
       refine Cd.seq ?_
       refine Cd.sr ?_
       refine Rg.mv rfl rfl ?_
       refine Rg.vN (X.gtr rfl rfl) rfl ?_
       refine Rg.go ?_
       refine Cd.cond (t := decide (0 < q378)) rfl (fun hc396 => ?_) (fun hc396 => ?_)
       ·have h393 := ite_t hc396 h393
        refine Cd.sg ?_
        refine Cd.seq ?_
        obtain ⟨p400, hp401, h393⟩ := bind_s h393
        obtain ⟨j397, j398, j399⟩ := p400
        dsimp only at h393
        refine Cd.post (fun K w => ∃ (S402 : Mp) (v405 : Value) (v407 : Value) (g409 : Option Nat), K = [(0, .pointer (some ⟨b1, 0, none⟩)), (2, .pointer (some ⟨b10, 0, none⟩)), (3, .pointer (some ⟨b33, 0, none⟩)), (6, .int .i64 q378)] ∧ Le S382 S402 ∧ St w0 [b1] S0 S402 [.box b1 #[v405, .int .i64 j398] 26, .box b33 #[.int .i64 (add .i64 1 x13.1), .int .u32 x23.1, .int .u32 0, .slice none 0 0, v407, .slice none 0 0, .int .u64 x341, .int .i64 0, .int .i64 0, .slice none 0 0] 33, .box b10 #[.int .i64 0, .int .u32 0, .int .u32 0, .slice none 0 0, .slice none 0 0, .slice none 0 0, .int .u64 0, .int .i64 0, .int .i64 0, .slice none 0 0] 33, .app g409 v407 j399.length 27 1] w ∧ Rd S402 1 (RI .i64) v405 j397 ∧ Rd S402 1 (RI .u32) v407 j399) ?_ ?_
        ·rintro K411 w403 ⟨S402, v405, v407, g409, rfl, le404, hs, f406, f408⟩
         refine Cd.go ?_
         refine Cd.region ?_
         refine Rg.mv rfl rfl ?_
         refine Rg.weak [(0, .pointer (some ⟨b1, 0, none⟩)), (2, .pointer (some ⟨b10, 0, none⟩)), (3, .pointer (some ⟨b33, 0, none⟩)), (83, .int .i64 q378)] ⟨rfl, rfl, rfl, rfl, trivial⟩ ?_
         refine Rg.vN (X.sub rfl rfl) rfl ?_
         refine Rg.st rfl rfl ?_
         refine Rg.nil ?_
         exact fun a ha => ⟨(sub .i64 q378 1, j397, j398, j399), [(0, .pointer (some ⟨b1, 0, none⟩)), (2, .pointer (some ⟨b10, 0, none⟩)), (3, .pointer (some ⟨b33, 0, none⟩)), (6, .int .i64 (sub .i64 q378 1))], (some_s h393).symm, ha.weak ⟨rfl, rfl, rfl, rfl, trivial⟩, S402, v405, v407, g409, rfl, (le383.trans le404), hs, f406, f408⟩
        ·skip
         refine Cd.block ?_
         obtain ⟨p415, hp416, hp401⟩ := bind_s hp401
         obtain ⟨j412, j413, j414⟩ := p415
         dsimp only at hp401
         refine Cd.post (fun K w => ∃ (S417 : Mp) (v420 : Value) (v422 : Value) (g424 : Option Nat), K = [(0, .pointer (some ⟨b1, 0, none⟩)), (2, .pointer (some ⟨b10, 0, none⟩)), (3, .pointer (some ⟨b33, 0, none⟩)), (6, .int .i64 q378)] ∧ Le S382 S417 ∧ St w0 [b1] S0 S417 [.box b1 #[v420, .int .i64 j413] 26, .box b33 #[.int .i64 (add .i64 1 x13.1), .int .u32 x23.1, .int .u32 0, .slice none 0 0, v422, .slice none 0 0, .int .u64 x341, .int .i64 0, .int .i64 0, .slice none 0 0] 33, .box b10 #[.int .i64 0, .int .u32 0, .int .u32 0, .slice none 0 0, .slice none 0 0, .slice none 0 0, .int .u64 0, .int .i64 0, .int .i64 0, .slice none 0 0] 33, .app g424 v422 j414.length 27 1] w ∧ Rd S417 1 (RI .i64) v420 j412 ∧ Rd S417 1 (RI .u32) v422 j414) ?_ ?_
         ·rintro K426 w418 ⟨S417, v420, v422, g424, rfl, le419, hs, f421, f423⟩
          cases some_s hp401
          exact fun a ha => ⟨[(0, .pointer (some ⟨b1, 0, none⟩)), (2, .pointer (some ⟨b10, 0, none⟩)), (3, .pointer (some ⟨b33, 0, none⟩)), (6, .int .i64 q378)], ha.weak ⟨rfl, rfl, rfl, rfl, trivial⟩, S417, v420, v422, g424, rfl, le419, hs, f421, f423⟩
         ·skip
          refine Cd.rD mixed (fun l w => Has S382 w ∧ (l.getD 7 false = false → Hp b33 #[.int .i64 (add .i64 1 x13.1), .int .u32 x23.1, .int .u32 0, .slice none 0 0, v386, .slice none 0 0, .int .u64 x341, .int .i64 0, .int .i64 0, .slice none 0 0] 33 w)) hs (fun _ _ _ _ _ h => h) (by kernel_rfl) (fun w427 hs => ⟨⟨hs.has, (fun _ => hs.heap 1 rfl)⟩, ?_⟩)
          refine Rk.uN 0 rfl rfl (fun _ _ => by simp only [getD_set_ne false (show (0 : Nat) ≠ 7 by decide)]) (fun l w hl hcl hc => X.fieldB Try.underlying33 rfl zz29 rfl rfl) ?_
          refine Rk.uN 1 rfl rfl (fun _ _ => by simp only [getD_set_ne false (show (1 : Nat) ≠ 7 by decide)]) (fun l w hl hcl hc => X.load1 Try.underlying29 rfl rfl (heap_cell (hc.2 (hcl.lt rfl (by kernel_rfl) hl)) rfl)) ?_
          refine Rk.uN 2 rfl rfl (fun _ _ => by simp only [getD_set_ne false (show (2 : Nat) ≠ 7 by decide)]) (fun l w hl hcl hc => X.move rfl) ?_
          refine Rk.weak [(0, .pointer (some ⟨b1, 0, none⟩)), (2, .pointer (some ⟨b10, 0, none⟩)), (3, .pointer (some ⟨b33, 0, none⟩)), (6, .int .i64 q378), (86, v386), (87, .pointer (some ⟨b1, 0, none⟩))] ⟨rfl, rfl, rfl, rfl, rfl, rfl, trivial⟩ ?_
          obtain ⟨x428, hx429, hp416⟩ := bind_s hp416
          refine Rk.eN 3 rfl rfl (Oq.call Try.call28 rfl rfl (c28 S382 _ (⟨q379, q380⟩ : limelightkeep_Tape) _ f385 (hs.enter 0 rfl rfl) _ hx429) (fun v430 w431 h432 => ?_))
          obtain ⟨S433, v436, rfl, hs434, f437⟩ := h432
          have le435 := hs434.le
          have hs := hs.call1 0 rfl rfl hs434
          refine ⟨⟨(hs.has.down le435), (fun _ => hs.heap 1 rfl)⟩, Rk.mk (C' := fun l w => Has S433 w ∧ (l.getD 7 false = false → Hp b33 #[.int .i64 (add .i64 1 x13.1), .int .u32 x23.1, .int .u32 0, .slice none 0 0, v386, .slice none 0 0, .int .u64 x341, .int .i64 0, .int .i64 0, .slice none 0 0] 33 w)) ⟨hs.has, (fun _ => hs.heap 1 rfl)⟩ (fun l w hc => ⟨hc.1.down le435, hc.2⟩) ?_⟩
          refine Rk.eN 4 rfl rfl (Oq.lit (sz := 1) (cs0 := [.int .u32 0]) (cells := [.int .u32 x428.1]) hs Try.underlying29 ii27 rfl rfl rfl rfl rfl rfl ⟨_, [.int .u32 x428.1], _, rfl, rfl, rfl, rfl⟩ rfl rfl rfl (fun b438 w439 S440 hs le441 hE442 => ?_))
          have f444 : Rd S440 1 (RI .u32) (.slice (some ⟨b438, 0, none⟩) 1 1) ([x428.1] : List Int) := Rd.of_cells (xs := ([x428.1] : List Int)) ⟨[.int .u32 x428.1], _, rfl, rfl, one_all ⟨rfl, trivial⟩, rfl, rfl⟩ hE442 (Nat.le_of_ble_eq_true rfl) (Nat.le_of_ble_eq_true rfl)
          refine ⟨⟨(hs.has.down le441), (fun _ => hs.heap 2 rfl)⟩, Rk.mk (C' := fun l w => Has S440 w ∧ (l.getD 7 false = false → Hp b33 #[.int .i64 (add .i64 1 x13.1), .int .u32 x23.1, .int .u32 0, .slice none 0 0, v386, .slice none 0 0, .int .u64 x341, .int .i64 0, .int .i64 0, .slice none 0 0] 33 w)) ⟨hs.has, (fun _ => hs.heap 2 rfl)⟩ (fun l w hc => ⟨hc.1.down le441, hc.2⟩) ?_⟩
          obtain ⟨y445, hx446, hp416⟩ := bind_s hp416
          refine Rk.eN 5 rfl rfl (Oq.appendS hs 4 rfl Try.underlying29 ii27 rfl rfl rfl rfl rfl rfl (f387.mono (le435.trans le441)) f444 hx446 rfl rfl rfl (fun v447 w448 S449 g450 hs le451 f452 => ?_))
          refine ⟨⟨(hs.has.down le451), (fun _ => hs.heap 2 rfl)⟩, Rk.mk (C' := fun l w => Has S449 w ∧ (l.getD 7 false = false → Hp b33 #[.int .i64 (add .i64 1 x13.1), .int .u32 x23.1, .int .u32 0, .slice none 0 0, v386, .slice none 0 0, .int .u64 x341, .int .i64 0, .int .i64 0, .slice none 0 0] 33 w)) ⟨hs.has, (fun _ => hs.heap 2 rfl)⟩ (fun l w hc => ⟨hc.1.down le451, hc.2⟩) ?_⟩
          refine Rk.uN 6 rfl rfl (fun _ _ => by simp only [getD_set_ne false (show (6 : Nat) ≠ 7 by decide)]) (fun l w hl hcl hc => X.fieldB Try.underlying33 rfl zz29 rfl rfl) ?_
          refine Rk.eN 7 rfl rfl (Oq.store hs 2 rfl 4 zz29 rfl rfl f452.cells f452.one rfl [.app (some b438) (.slice (some ⟨b438, 0, none⟩) 1 1) ([x428.1] : List Int).length 27 1, .box b1 #[v436, .int .i64 x428.2.At] 26, .box b33 #[.int .i64 (add .i64 1 x13.1), .int .u32 x23.1, .int .u32 0, .slice none 0 0, v447, .slice none 0 0, .int .u64 x341, .int .i64 0, .int .i64 0, .slice none 0 0] 33, .box b10 #[.int .i64 0, .int .u32 0, .int .u32 0, .slice none 0 0, .slice none 0 0, .slice none 0 0, .int .u64 0, .int .i64 0, .int .i64 0, .slice none 0 0] 33, .app g450 v447 y445.length 27 1] rfl (fun w453 hs => ?_))
          refine ⟨⟨hs.has, (fun h => absurd h (by decide))⟩, ?_⟩
          refine Rk.done ?_
          cases some_s hp416
          exact fun a ha => ⟨[(0, .pointer (some ⟨b1, 0, none⟩)), (2, .pointer (some ⟨b10, 0, none⟩)), (3, .pointer (some ⟨b33, 0, none⟩)), (6, .int .i64 q378)], ha.weak ⟨rfl, rfl, rfl, rfl, trivial⟩, S449, v436, v447, g450, rfl, (le435.trans (le441.trans le451)), (hs.pick [1, 2, 3, 4] (by decide) rfl), (f437.mono (le441.trans le451)), f452⟩
       ·have h393 := ite_f hc396 h393
        refine Cd.exit ?_
        obtain rfl := some_s h393
        have e := hl392 (fun _ e => by cases e)
        exact fun a ha => ⟨[(2, .pointer (some ⟨b10, 0, none⟩)), (3, .pointer (some ⟨b33, 0, none⟩))], ha.weak ⟨rfl, rfl, trivial⟩, _, _, _, _, S382, v384, v386, g388, rfl, e.symm, le383, hs, f385, f387⟩
     ·have h0 := ite_f hc320 h0
      refine Cd.sr ?_
      refine Rg.mv rfl rfl ?_
      refine Rg.weak [(0, .pointer (some ⟨b1, 0, none⟩)), (2, .pointer (some ⟨b10, 0, none⟩)), (15, .pointer (some ⟨b1, 0, none⟩))] ⟨rfl, rfl, rfl, trivial⟩ ?_
      obtain ⟨x457, hx458, h0⟩ := bind_s h0
      refine Rg.step rfl (Oq.call Try.call27 rfl rfl (c27 S40 _ (⟨x23.2.L, x23.2.At⟩ : limelightkeep_Tape) _ (f32.mono le42) _ (hs.enter 1 rfl rfl) _ hx458) (fun v459 w460 h461 => ?_))
      obtain ⟨S462, v465, rfl, hs463, f466⟩ := h461
      have le464 := hs463.le
      have hs := hs.call1 1 rfl rfl hs463
      refine Rg.vN (X.add rfl rfl) rfl ?_
      refine Rg.mv rfl rfl ?_
      obtain ⟨x467, hx468, h0⟩ := bind_s h0
      refine Rg.step rfl (Oq.call Try.call27 rfl rfl (c27 S462 _ (⟨x457.2.L, x457.2.At⟩ : limelightkeep_Tape) _ f466 _ (hs.enter 0 rfl rfl) _ hx468) (fun v469 w470 h471 => ?_))
      obtain ⟨S472, v475, rfl, hs473, f476⟩ := h471
      have le474 := hs473.le
      have hs := hs.call1 0 rfl rfl hs473
      refine Rg.mv rfl rfl ?_
      obtain ⟨x477, hx478, h0⟩ := bind_s h0
      refine Rg.step rfl (Oq.call Try.call31 rfl rfl (c31 S472 _ (⟨x467.2.L, x467.2.At⟩ : limelightkeep_Tape) _ f476 _ (hs.enter 0 rfl rfl) _ hx478) (fun v479 w480 h481 => ?_))
      obtain ⟨S482, v485, g487, v489, rfl, hs483, f486, f490⟩ := h481
      have le484 := hs483.le
      have hs := hs.call1 0 rfl rfl hs483
      obtain ⟨x491, hx492, h0⟩ := bind_s h0
      refine Rg.step rfl (Oq.call Try.call30 rfl rfl (c30 S482 (St.start _ _ hs.has) _ _ f486 _ _ hx492) (fun v493 w494 h495 => ?_))
      obtain ⟨S496, v499, g501, rfl, hs497, f500⟩ := h495
      have le498 := hs497.le
      have hs := hs.call0 hs497
      refine Rg.vN (X.build (zc := [.int .i64 0, .int .u32 0, .int .u32 0, .slice none 0 0, .slice none 0 0, .slice none 0 0, .int .u64 0, .int .i64 0, .int .i64 0, .slice none 0 0]) (cells := [.int .i64 6, .int .u32 0, .int .u32 0, .slice none 0 0, .slice none 0 0, .slice none 0 0, .int .u64 0, .int .i64 (add .i64 192 x457.1), .int .i64 x467.1, v493]) ii33 rfl rfl Try.underlying33 (pp33 _ Try.underlying33) ⟨_, [.int .i64 6], _, rfl, rfl, rfl, ⟨_, [.int .i64 (add .i64 192 x457.1)], _, rfl, rfl, rfl, ⟨_, [.int .i64 x467.1], _, rfl, rfl, rfl, ⟨_, [v493], _, rfl, rfl, f500.cells, rfl⟩⟩⟩⟩ rfl) rfl ?_
      refine Rg.step rfl (Oq.storeN hs 4 rfl (vals := [.int .i64 6, .int .u32 0, .int .u32 0, .slice none 0 0, .slice none 0 0, .slice none 0 0, .int .u64 0, .int .i64 (add .i64 192 x457.1), .int .i64 x467.1, v493]) zz33 rfl rfl (one_all ⟨rfl, rfl, rfl, rfl, rfl, rfl, rfl, rfl, rfl, f500.one, trivial⟩) rfl [.app g501 v493 x491.length 5 1, .app g487 v479 x477.1.length 5 1, .box b1 #[v489, .int .i64 x477.2.At] 26, .box b33 #[.int .i64 (add .i64 1 x13.1), .int .u32 x23.1, .int .u32 0, .slice none 0 0, .slice none 0 0, .slice none 0 0, .int .u64 0, .int .i64 0, .int .i64 0, .slice none 0 0] 33, .box b10 #[.int .i64 6, .int .u32 0, .int .u32 0, .slice none 0 0, .slice none 0 0, .slice none 0 0, .int .u64 0, .int .i64 (add .i64 192 x457.1), .int .i64 x467.1, v493] 33] rfl (fun w503 hs => ?_))
      refine Rg.go ?_
      refine Cd.ret ?_
      obtain rfl := some_s h0
      exact fun a ha => Cd.retA (R := Re (Po10 S0 w0 [b1] b1 _)) ha Try.results10 ⟨_, _, _, rfl, rfl, run_lvN (vals := [.int .i64 6, .int .u32 0, .int .u32 0, .slice none 0 0, .slice none 0 0, .slice none 0 0, .int .u64 0, .int .i64 (add .i64 192 x457.1), .int .i64 x467.1, v493]) Try.underlying33 rfl zz33 (hs.range 4 rfl 0 rfl), rfl⟩ ⟨_, rfl, S496, (.slice none 0 0), (.slice none 0 0), (.slice none 0 0), v493, v489, rfl, (hs.pick [2] (by decide) rfl), (Rd.nil _ _ _), (Rd.nil _ _ _), (Rd.nil _ _ _), f500, (f490.mono le498)⟩
 ·skip
  refine Cd.cond (t := (add .i64 1 x13.1) == 1) rfl (fun hc504 => ?_) (fun hc504 => ?_)
  ·have hp39 := ite_t hc504 hp39
   refine Cd.skip ?_
   obtain rfl := some_s hp39
   exact fun a ha => ⟨[(0, .pointer (some ⟨b1, 0, none⟩)), (2, .pointer (some ⟨b10, 0, none⟩)), (3, .pointer (some ⟨b33, 0, none⟩)), (14, .int .i64 (add .i64 1 x13.1)), (24, .bool ((add .i64 1 x13.1) == 1))], ha.weak ⟨rfl, rfl, rfl, rfl, rfl, trivial⟩, S28, rfl, Le.refl _, hs⟩
  ·have hp39 := ite_f hc504 hp39
   refine Cd.region ?_
   refine Rg.vN (X.eql rfl rfl) rfl ?_
   refine Rg.st rfl rfl ?_
   refine Rg.nil ?_
   obtain rfl := some_s hp39
   exact fun a ha => ⟨[(0, .pointer (some ⟨b1, 0, none⟩)), (2, .pointer (some ⟨b10, 0, none⟩)), (3, .pointer (some ⟨b33, 0, none⟩)), (14, .int .i64 (add .i64 1 x13.1)), (24, .bool ((add .i64 1 x13.1) == 2))], ha.weak ⟨rfl, rfl, rfl, rfl, rfl, trivial⟩, S28, rfl, Le.refl _, hs⟩
end Go.Lk
