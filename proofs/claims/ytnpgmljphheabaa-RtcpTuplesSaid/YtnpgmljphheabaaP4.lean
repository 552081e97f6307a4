/- A part of this proof: RtcpTuples returns true for every input and leaves its arguments as they were; there are no conditions. -/
import Derived.Test.YtnpgmljphheabaaP3
import Derived.Test.YtnpgmljphheabaaProg
import Derived.KernelRfl
set_option linter.unusedVariables false
set_option linter.unusedSimpArgs false
set_option maxRecDepth 100000
namespace Go.Lk
open Go.RowKit Go.Proofs
noncomputable def limelightbook_Within (n_0 : Int) (lo_1 : Int) (hi_2 : Int) : Option Int :=
 if ((decide (lo_1 ≤ n_0)) && (decide (n_0 ≤ hi_2))) = true then (
  some n_0)
 else (
  gd ((add .i64 (sub .i64 hi_2 lo_1) 1) ≠ 0) (
   ((
    if (decide ((rem .i64 n_0 (add .i64 (sub .i64 hi_2 lo_1) 1)) < 0)) = true then (
     some (add .i64 (sub .i64 (add .i64 (rem .i64 n_0 (add .i64 (sub .i64 hi_2 lo_1) 1)) hi_2) lo_1) 1))
    else (
     some (rem .i64 n_0 (add .i64 (sub .i64 hi_2 lo_1) 1))) : Option Int)).bind fun p4 =>
   some (add .i64 lo_1 p4)))
def Po16 (S0 : Mp) (w0 : World) (D : List Nat) (r : Int) (v : Value) (w1 : World) : Prop :=
  ∃ (S1 : Mp), v = .int .i64 r ∧ St w0 D S0 S1 [] w1
set_option maxHeartbeats 4000000 in
theorem c16 (S0 : Mp) {w0 : World} (hs : St w0 [] S0 S0 [] w0) (n_0 : Int) (lo_1 : Int) (hi_2 : Int) (r : Int) (h0 : limelightbook_Within n_0 lo_1 hi_2 = some r) :
    Calls Try.prog 16 #[.int .i64 n_0, .int .i64 lo_1, .int .i64 hi_2] w0 (Re (Po16 S0 w0 [] r)) := by
 unfold limelightbook_Within at h0
 refine calls_of_cd Try.func16 rfl Try.ntmps16 rfl ?_
 refine Cd.sr ?_
 refine Rg.vN (X.assign rfl) rfl ?_
 refine Rg.go ?_
 refine Cd.seq ?_
 refine Cd.sr ?_
 refine Rg.vN (X.move rfl) rfl ?_
 refine Rg.vN (X.move rfl) rfl ?_
 refine Rg.vN (X.geq rfl rfl) rfl ?_
 refine Rg.vN (X.move rfl) rfl ?_
 refine Rg.vT rfl rfl rfl (fun hW => X.move rfl) ?_
 refine Rg.vT rfl rfl rfl (fun hW => X.move rfl) ?_
 refine Rg.vT rfl rfl rfl (fun hW => X.leq (ev_g rfl hW) (ev_g rfl hW)) ?_
 refine Rg.vN (X.pickAnd rfl rfl rfl) rfl ?_
 refine Rg.go ?_
 refine Cd.cond (t := (decide (lo_1 ≤ n_0)) && (decide (n_0 ≤ hi_2))) rfl (fun hc1 => ?_) (fun hc1 => ?_)
 ·have h0 := ite_t hc1 h0
  refine Cd.sr ?_
  refine Rg.vN (X.move rfl) rfl ?_
  refine Rg.vN (X.assign rfl) rfl ?_
  refine Rg.go ?_
  refine Cd.ret ?_
  have e := some_s h0
  subst e
  exact fun a ha => Cd.retA (P := Try.prog) (fn := Try.f16) (R := Re (Po16 S0 w0 [] _)) ha Try.results16 ⟨_, _, rfl, rfl, rfl⟩ ⟨_, rfl, S0, rfl, hs⟩
 ·have h0 := ite_f hc1 h0
  refine Cd.sg ?_
  refine Cd.sr ?_
  refine Rg.vN (X.move rfl) rfl ?_
  refine Rg.vN (X.move rfl) rfl ?_
  refine Rg.vN (X.move rfl) rfl ?_
  refine Rg.vN (X.sub rfl rfl) rfl ?_
  refine Rg.vN (X.add rfl rfl) rfl ?_
  obtain ⟨hg2, h0⟩ := gd_s h0
  refine Rg.vN (X.rem rfl rfl hg2) rfl ?_
  refine Rg.vN (X.assign rfl) rfl ?_
  refine Rg.go ?_
  refine Cd.weak [(0, .int .i64 (rem .i64 n_0 (add .i64 (sub .i64 hi_2 lo_1) 1))), (1, .int .i64 lo_1), (2, .int .i64 hi_2)] ⟨rfl, rfl, rfl, trivial⟩ ?_
  refine Cd.seq ?_
  refine Cd.sr ?_
  refine Rg.vN (X.move rfl) rfl ?_
  refine Rg.vN (X.lss rfl rfl) rfl ?_
  refine Rg.go ?_
  obtain ⟨p4, hp5, h0⟩ := bind_s h0
  refine Cd.post (fun K w => ∃ (S6 : Mp), K = [(0, .int .i64 p4), (1, .int .i64 lo_1)] ∧ Le S0 S6 ∧ St w0 [] S0 S6 [] w) ?_ ?_
  ·rintro K9 w7 ⟨S6, rfl, le8, hs⟩
   refine Cd.go ?_
   refine Cd.sr ?_
   refine Rg.vN (X.move rfl) rfl ?_
   refine Rg.vN (X.move rfl) rfl ?_
   refine Rg.vN (X.add rfl rfl) rfl ?_
   refine Rg.vN (X.assign rfl) rfl ?_
   refine Rg.go ?_
   refine Cd.ret ?_
   have e := some_s h0
   subst e
   exact fun a ha => Cd.retA (P := Try.prog) (fn := Try.f16) (R := Re (Po16 S0 w0 [] _)) ha Try.results16 ⟨_, _, rfl, rfl, rfl⟩ ⟨_, rfl, S6, rfl, hs⟩
  ·skip
   refine Cd.cond (t := decide ((rem .i64 n_0 (add .i64 (sub .i64 hi_2 lo_1) 1)) < 0)) rfl (fun hc10 => ?_) (fun hc10 => ?_)
   ·have hp5 := ite_t hc10 hp5
    refine Cd.region ?_
    refine Rg.vN (X.move rfl) rfl ?_
    refine Rg.vN (X.move rfl) rfl ?_
    refine Rg.vN (X.add rfl rfl) rfl ?_
    refine Rg.vN (X.move rfl) rfl ?_
    refine Rg.vN (X.sub rfl rfl) rfl ?_
    refine Rg.vN (X.add rfl rfl) rfl ?_
    refine Rg.vN (X.assign rfl) rfl ?_
    refine Rg.nil ?_
    have e := some_s hp5
    subst e
    exact fun a ha => ⟨[(0, .int .i64 (add .i64 (sub .i64 (add .i64 (rem .i64 n_0 (add .i64 (sub .i64 hi_2 lo_1) 1)) hi_2) lo_1) 1)), (1, .int .i64 lo_1)], ha.weak ⟨rfl, rfl, trivial⟩, S0, rfl, Le.refl _, hs⟩
   ·have hp5 := ite_f hc10 hp5
    refine Cd.skip ?_
    have e := some_s hp5
    subst e
    exact fun a ha => ⟨[(0, .int .i64 (rem .i64 n_0 (add .i64 (sub .i64 hi_2 lo_1) 1))), (1, .int .i64 lo_1)], ha.weak ⟨rfl, rfl, trivial⟩, S0, rfl, Le.refl _, hs⟩
noncomputable def limelightkeep_Tape_Next (t_0 : limelightkeep_Tape) (n_1 : Int) : Option (Int × limelightkeep_Tape) :=
 if ((decide ((t_0.L.length : Int) ≤ t_0.At)) || (decide (n_1 < 1))) = true then (
  some (0, t_0))
 else (
  ((
   (ix t_0.L (sub .i64 (add .i64 t_0.At 1) 1)).bind fun x17 =>
   (limelightbook_Within x17 0 1073741824).bind fun x24 =>
   gd (n_1 ≠ 0) (
    some (rem .i64 x24 n_1)) : Option Int)).bind fun p10 =>
  some (p10, (⟨t_0.L, add .i64 t_0.At 1⟩ : limelightkeep_Tape)))
def Po27 (S0 : Mp) (w0 : World) (D : List Nat) (b1 : Nat) (r : (Int × limelightkeep_Tape)) (v : Value) (w1 : World) : Prop :=
  ∃ (S1 : Mp) (v5 : Value), v = .int .i64 r.1 ∧ St w0 D S0 S1 [.box b1 #[v5, .int .i64 r.2.At] 26] w1 ∧ Rd S1 1 (RI .i64) v5 r.2.L
set_option maxHeartbeats 4000000 in
theorem c27 (S0 : Mp) {w0 : World} (b1 : Nat) (t_0 : limelightkeep_Tape) (v2 : Value) (f3 : Rd S0 1 (RI .i64) v2 t_0.L) (n_1 : Int) (hs : St w0 [b1] S0 S0 [.box b1 #[v2, .int .i64 t_0.At] 26] w0) (r : (Int × limelightkeep_Tape)) (h0 : limelightkeep_Tape_Next t_0 n_1 = some r) :
    Calls Try.prog 27 #[.pointer (some ⟨b1, 0, none⟩), .int .i64 n_1] w0 (Re (Po27 S0 w0 [b1] b1 r)) := by
 unfold limelightkeep_Tape_Next at h0
 refine calls_of_cd Try.func27 rfl Try.ntmps27 rfl ?_
 refine Cd.sr ?_
 refine Rg.vN (X.assign rfl) rfl ?_
 refine Rg.go ?_
 refine Cd.seq ?_
 refine Cd.seq ?_
 refine Cd.rD mixed (fun l w => Has S0 w ∧ Hp b1 #[v2, .int .i64 t_0.At] 26 w) hs (fun _ _ _ _ _ h => h) (by kernel_rfl) (fun w6 hs => ⟨⟨hs.has, (hs.heap 0 rfl)⟩, ?_⟩)
 refine Rk.tN 0 rfl (by kernel_rfl) rfl (fun _ _ => X.move rfl) ?_
 refine Rk.tN 1 rfl (by kernel_rfl) rfl (fun _ _ => X.nilCheck rfl) ?_
 refine Rk.tN 2 rfl (by kernel_rfl) rfl (fun _ _ => X.fieldB Try.underlying26 rfl zz3 rfl rfl) ?_
 refine Rk.tN 3 rfl (by kernel_rfl) rfl (fun w hc => X.load1 Try.underlying3 rfl rfl (heap_cell hc.2 rfl)) ?_
 refine Rk.tN 4 rfl (by kernel_rfl) rfl (fun _ _ => X.move rfl) ?_
 refine Rk.tN 5 rfl (by kernel_rfl) rfl (fun _ _ => X.nilCheck rfl) ?_
 refine Rk.tN 6 rfl (by kernel_rfl) rfl (fun _ _ => X.fieldB Try.underlying26 rfl zz23 rfl rfl) ?_
 refine Rk.tN 7 rfl (by kernel_rfl) rfl (fun w hc => X.load1 Try.underlying23 rfl rfl (heap_cell hc.2 rfl)) ?_
 refine Rk.tN 8 rfl (by kernel_rfl) rfl (fun _ _ => X.lenR Try.underlying23 rfl f3) ?_
 refine Rk.tN 9 rfl (by kernel_rfl) rfl (fun _ _ => X.geq rfl rfl) ?_
 refine Rk.tN 10 rfl (by kernel_rfl) rfl (fun _ _ => X.move rfl) ?_
 refine Rk.tF 11 rfl (by kernel_rfl) rfl rfl rfl (fun hW => fun _ _ => X.move rfl) ?_
 refine Rk.tF 12 rfl (by kernel_rfl) rfl rfl rfl (fun hW => fun _ _ => X.lss (ev_g rfl hW) rfl) ?_
 refine Rk.tN 13 rfl (by kernel_rfl) rfl (fun _ _ => X.pickOr rfl rfl rfl) ?_
 refine Rk.done (by kernel_rfl) ?_
 refine Cd.go ?_
 refine Cd.weak [(0, .pointer (some ⟨b1, 0, none⟩)), (1, .int .i64 n_1), (18, .bool ((decide ((t_0.L.length : Int) ≤ t_0.At)) || (decide (n_1 < 1))))] ⟨rfl, rfl, rfl, trivial⟩ ?_
 refine Cd.cond (t := (decide ((t_0.L.length : Int) ≤ t_0.At)) || (decide (n_1 < 1))) rfl (fun hc7 => ?_) (fun hc7 => ?_)
 ·have h0 := ite_t hc7 h0
  refine Cd.sr ?_
  refine Rg.vN (X.assign rfl) rfl ?_
  refine Rg.go ?_
  refine Cd.ret ?_
  have e := some_s h0
  subst e
  exact fun a ha => Cd.retA (P := Try.prog) (fn := Try.f27) (R := Re (Po27 S0 w0 [b1] b1 _)) ha Try.results27 ⟨_, _, rfl, rfl, rfl⟩ ⟨_, rfl, S0, v2, rfl, hs, f3⟩
 ·have h0 := ite_f hc7 h0
  refine Cd.sg ?_
  refine Cd.sr ?_
  refine Rg.vN (X.move rfl) rfl ?_
  refine Rg.vN (X.nilCheck rfl) rfl ?_
  refine Rg.vN (X.fieldB Try.underlying26 rfl zz3 rfl rfl) rfl ?_
  refine Rg.vN (X.load1 Try.underlying3 rfl rfl (hs.cell 0 rfl 1 rfl)) rfl ?_
  refine Rg.vN (X.add rfl rfl) rfl ?_
  refine Rg.vN (X.nilCheck rfl) rfl ?_
  refine Rg.vN (X.fieldB Try.underlying26 rfl zz3 rfl rfl) rfl ?_
  refine Rg.step rfl (Oq.store hs 0 rfl 1 zz3 rfl rfl rfl rfl rfl [.box b1 #[v2, .int .i64 (add .i64 t_0.At 1)] 26] rfl (fun w8 hs => ?_))
  refine Rg.go ?_
  refine Cd.seq ?_
  obtain ⟨p10, hp11, h0⟩ := bind_s h0
  refine Cd.post (fun K w => ∃ (S12 : Mp), K = [(4, .int .i64 p10)] ∧ Le S0 S12 ∧ St w0 [b1] S0 S12 [.box b1 #[v2, .int .i64 (add .i64 t_0.At 1)] 26] w) ?_ ?_
  ·rintro K15 w13 ⟨S12, rfl, le14, hs⟩
   refine Cd.go ?_
   refine Cd.ret ?_
   have e := some_s h0
   subst e
   exact fun a ha => Cd.retA (P := Try.prog) (fn := Try.f27) (R := Re (Po27 S0 w0 [b1] b1 _)) ha Try.results27 ⟨_, _, rfl, rfl, rfl⟩ ⟨_, rfl, S12, v2, rfl, hs, (f3.mono le14)⟩
  ·skip
   refine Cd.rD mixed (fun l w => Has S0 w ∧ Hp b1 #[v2, .int .i64 (add .i64 t_0.At 1)] 26 w) hs (fun _ _ _ _ _ h => h) (by kernel_rfl) (fun w16 hs => ⟨⟨hs.has, (hs.heap 0 rfl)⟩, ?_⟩)
   refine Rk.tN 0 rfl (by kernel_rfl) rfl (fun _ _ => X.move rfl) ?_
   refine Rk.tN 1 rfl (by kernel_rfl) rfl (fun _ _ => X.nilCheck rfl) ?_
   refine Rk.tN 2 rfl (by kernel_rfl) rfl (fun _ _ => X.fieldB Try.underlying26 rfl zz23 rfl rfl) ?_
   refine Rk.tN 3 rfl (by kernel_rfl) rfl (fun w hc => X.load1 Try.underlying23 rfl rfl (heap_cell hc.2 rfl)) ?_
   refine Rk.tN 4 rfl (by kernel_rfl) rfl (fun _ _ => X.move rfl) ?_
   refine Rk.tN 5 rfl (by kernel_rfl) rfl (fun _ _ => X.nilCheck rfl) ?_
   refine Rk.tN 6 rfl (by kernel_rfl) rfl (fun _ _ => X.fieldB Try.underlying26 rfl zz3 rfl rfl) ?_
   refine Rk.tN 7 rfl (by kernel_rfl) rfl (fun w hc => X.load1 Try.underlying3 rfl rfl (heap_cell hc.2 rfl)) ?_
   refine Rk.weak [(1, .int .i64 n_1), (29, v2), (33, .int .i64 (add .i64 t_0.At 1))] ⟨rfl, rfl, rfl, trivial⟩ ?_
   refine Rk.tN 8 rfl (by kernel_rfl) rfl (fun _ _ => X.sub rfl rfl) ?_
   obtain ⟨x17, hx18, hp11⟩ := bind_s hp11
   obtain ⟨ad19, vals20, _, hR21, hE22, hX23⟩ := mk_index Try.underlying23 zz3 (by decide) f3 hx18
   obtain rfl : vals20 = [.int .i64 x17] := hR21
   refine Rk.tN 9 rfl (by kernel_rfl) rfl (fun _ _ => hX23 rfl rfl) ?_
   refine Rk.tN 10 rfl (by kernel_rfl) rfl (fun w hc => X.load1 Try.underlying3 rfl rfl (hE22.at0 rfl hc.1)) ?_
   refine Rk.tN 12 rfl (by kernel_rfl) rfl (fun _ _ => X.move rfl) ?_
   obtain ⟨x24, hx25, hp11⟩ := bind_s hp11
   refine Rk.eN 11 rfl (by kernel_rfl) rfl (Oq.call Try.call16 rfl rfl (c16 S0 (St.start _ _ hs.has) _ _ _ _ hx25) (fun v26 w27 h28 => ?_))
   obtain ⟨S29, rfl, hs30⟩ := h28
   have _ := 0
   have le31 : Le S0 S29 := hs30.le
   have hs := hs.call0 hs30
   refine ⟨⟨(hs.has.down le31), (hs.heap 0 rfl)⟩, Rk.mk (C' := fun l w => Has S29 w ∧ Hp b1 #[v2, .int .i64 (add .i64 t_0.At 1)] 26 w) ⟨hs.has, (hs.heap 0 rfl)⟩ (fun l w hc => ⟨hc.1.down le31, hc.2⟩) ?_⟩
   obtain ⟨hg32, hp11⟩ := gd_s hp11
   refine Rk.tN 13 rfl (by kernel_rfl) rfl (fun _ _ => X.rem rfl rfl hg32) ?_
   refine Rk.tN 14 rfl (by kernel_rfl) rfl (fun _ _ => X.assign rfl) ?_
   refine Rk.done (by kernel_rfl) ?_
   have e := some_s hp11
   subst e
   exact fun a ha => ⟨[(4, .int .i64 (rem .i64 x24 n_1))], ha.weak ⟨rfl, trivial⟩, S29, rfl, le31, hs⟩
noncomputable def limelightkeep_Tape_Tuple (t_0 : limelightkeep_Tape) : Option (api_Tuple × limelightkeep_Tape) :=
 (limelightkeep_Tape_Next (⟨t_0.L, t_0.At⟩ : limelightkeep_Tape) 9).bind fun x9 =>
 (limelightkeep_Tape_Next (⟨x9.2.L, x9.2.At⟩ : limelightkeep_Tape) 2000).bind fun x19 =>
 (limelightkeep_Tape_Next (⟨x19.2.L, x19.2.At⟩ : limelightkeep_Tape) 3).bind fun x36 =>
 (ix ([1, 100, 8000] : List Int) x36.1).bind fun x46 =>
 (limelightref1_Down (mul .u64 (cv .u64 (add .i64 1 x19.1)) (cv .u64 x46)) 17).bind fun x53 =>
 (limelightkeep_Tape_Next (⟨x36.2.L, x36.2.At⟩ : limelightkeep_Tape) 120).bind fun x61 =>
 some ((⟨cv .u32 x9.1, x53, x61.1⟩ : api_Tuple), x61.2)
def Po25 (S0 : Mp) (w0 : World) (D : List Nat) (b1 : Nat) (r : (api_Tuple × limelightkeep_Tape)) (v : Value) (w1 : World) : Prop :=
  ∃ (S1 : Mp) (v5 : Value), v = .agg (#[.int .u32 r.1.Owner, .int .u64 r.1.Rate, .int .i64 r.1.Over]) ∧ St w0 D S0 S1 [.box b1 #[v5, .int .i64 r.2.At] 26] w1 ∧ Rd S1 1 (RI .i64) v5 r.2.L
set_option maxHeartbeats 4000000 in
theorem c25 (S0 : Mp) {w0 : World} (b1 : Nat) (t_0 : limelightkeep_Tape) (v2 : Value) (f3 : Rd S0 1 (RI .i64) v2 t_0.L) (hs : St w0 [b1] S0 S0 [.box b1 #[v2, .int .i64 t_0.At] 26] w0) (r : (api_Tuple × limelightkeep_Tape)) (h0 : limelightkeep_Tape_Tuple t_0 = some r) :
    Calls Try.prog 25 #[.pointer (some ⟨b1, 0, none⟩)] w0 (Re (Po25 S0 w0 [b1] b1 r)) := by
 unfold limelightkeep_Tape_Tuple at h0
 refine calls_of_cd Try.func25 rfl Try.ntmps25 rfl ?_
 refine Cd.sr ?_
 refine Rg.step rfl (Oq.alloc (cs := #[.int .u32 0, .int .u64 0, .int .i64 0]) hs ii57 rfl rfl rfl (fun b6 w7 hs => ?_))
 refine Rg.go ?_
 refine Cd.sr ?_
 refine Rg.vN (X.move rfl) rfl ?_
 obtain ⟨x9, hx10, h0⟩ := bind_s h0
 refine Rg.step rfl (Oq.call Try.call27 rfl rfl (c27 S0 _ (⟨t_0.L, t_0.At⟩ : limelightkeep_Tape) _ f3 _ (hs.enter 1 rfl rfl) _ hx10) (fun v11 w12 h13 => ?_))
 obtain ⟨S14, v17, rfl, hs15, f18⟩ := h13
 have _ := 0
 have le16 : Le S0 S14 := hs15.le
 have hs := hs.call1 1 rfl rfl hs15
 refine Rg.vN (X.conv Try.underlying3 Try.underlying27 rfl) rfl ?_
 refine Rg.vN (X.move rfl) rfl ?_
 obtain ⟨x19, hx20, h0⟩ := bind_s h0
 refine Rg.step rfl (Oq.call Try.call27 rfl rfl (c27 S14 _ (⟨x9.2.L, x9.2.At⟩ : limelightkeep_Tape) _ f18 _ (hs.enter 0 rfl rfl) _ hx20) (fun v21 w22 h23 => ?_))
 obtain ⟨S24, v27, rfl, hs25, f28⟩ := h23
 have _ := 0
 have le26 : Le S14 S24 := hs25.le
 have hs := hs.call1 0 rfl rfl hs25
 refine Rg.vN (X.add rfl rfl) rfl ?_
 refine Rg.vN (X.conv Try.underlying3 Try.underlying30 rfl) rfl ?_
 refine Rg.step rfl (Oq.lit (sz := 1) (cs0 := [.int .i64 0, .int .i64 0, .int .i64 0]) (cells := [.int .i64 1, .int .i64 100, .int .i64 8000]) hs Try.underlying23 ii3 rfl rfl rfl rfl rfl rfl ⟨_, [.int .i64 1], _, rfl, rfl, rfl, ⟨_, [.int .i64 100], _, rfl, rfl, rfl, ⟨_, [.int .i64 8000], _, rfl, rfl, rfl, rfl⟩⟩⟩ rfl rfl rfl (fun b29 w30 S31 hs le32 hE33 => ?_))
 have f35 : Rd S31 1 (RI .i64) (.slice (some ⟨b29, 0, none⟩) 3 3) ([1, 100, 8000] : List Int) := Rd.of_cells (xs := ([1, 100, 8000] : List Int)) ⟨[.int .i64 1], _, rfl, rfl, one_all ⟨rfl, trivial⟩, rfl, ⟨[.int .i64 100], _, rfl, rfl, one_all ⟨rfl, trivial⟩, rfl, ⟨[.int .i64 8000], _, rfl, rfl, one_all ⟨rfl, trivial⟩, rfl, rfl⟩⟩⟩ hE33 (Nat.le_of_ble_eq_true rfl) (Nat.le_of_ble_eq_true rfl)
 refine Rg.vN (X.move rfl) rfl ?_
 obtain ⟨x36, hx37, h0⟩ := bind_s h0
 refine Rg.step rfl (Oq.call Try.call27 rfl rfl (c27 S31 _ (⟨x19.2.L, x19.2.At⟩ : limelightkeep_Tape) _ (f28.mono le32) _ (hs.enter 1 rfl rfl) _ hx37) (fun v38 w39 h40 => ?_))
 obtain ⟨S41, v44, rfl, hs42, f45⟩ := h40
 have _ := 0
 have le43 : Le S31 S41 := hs42.le
 have hs := hs.call1 1 rfl rfl hs42
 obtain ⟨x46, hx47, h0⟩ := bind_s h0
 obtain ⟨ad48, vals49, _, hR50, hE51, hX52⟩ := mk_index Try.underlying23 zz3 (by decide) (f35.mono le43) hx47
 obtain rfl : vals49 = [.int .i64 x46] := hR50
 refine Rg.vN (hX52 rfl rfl) rfl ?_
 refine Rg.vN (X.load1 Try.underlying3 rfl rfl (hE51.at0 rfl hs.has)) rfl ?_
 refine Rg.vN (X.conv Try.underlying3 Try.underlying30 rfl) rfl ?_
 refine Rg.vN (X.mul rfl rfl) rfl ?_
 obtain ⟨x53, hx54, h0⟩ := bind_s h0
 refine Rg.step rfl (Oq.call Try.call29 rfl rfl (c29 S41 (St.start _ _ hs.has) _ _ _ hx54) (fun v55 w56 h57 => ?_))
 obtain ⟨S58, rfl, hs59⟩ := h57
 have _ := 0
 have le60 : Le S41 S58 := hs59.le
 have hs := hs.call0 hs59
 refine Rg.vN (X.move rfl) rfl ?_
 obtain ⟨x61, hx62, h0⟩ := bind_s h0
 refine Rg.step rfl (Oq.call Try.call27 rfl rfl (c27 S58 _ (⟨x36.2.L, x36.2.At⟩ : limelightkeep_Tape) _ (f45.mono le60) _ (hs.enter 0 rfl rfl) _ hx62) (fun v63 w64 h65 => ?_))
 obtain ⟨S66, v69, rfl, hs67, f70⟩ := h65
 have _ := 0
 have le68 : Le S58 S66 := hs67.le
 have hs := hs.call1 0 rfl rfl hs67
 refine Rg.vN (X.build (zc := [.int .u32 0, .int .u64 0, .int .i64 0]) (cells := [.int .u32 (cv .u32 x9.1), .int .u64 x53, .int .i64 x61.1]) ii57 rfl rfl Try.underlying57 (pp57 _ Try.underlying57) ⟨_, [.int .u32 (cv .u32 x9.1)], _, rfl, rfl, rfl, ⟨_, [.int .u64 x53], _, rfl, rfl, rfl, ⟨_, [.int .i64 x61.1], _, rfl, rfl, rfl, rfl⟩⟩⟩ rfl) rfl ?_
 refine Rg.step rfl (Oq.storeN hs 2 rfl (vals := [.int .u32 (cv .u32 x9.1), .int .u64 x53, .int .i64 x61.1]) zz57 rfl rfl (one_all ⟨rfl, rfl, rfl, trivial⟩) rfl [.box b1 #[v69, .int .i64 x61.2.At] 26, .app (some b29) (.slice (some ⟨b29, 0, none⟩) 3 3) ([1, 100, 8000] : List Int).length 3 1, .box b6 #[.int .u32 (cv .u32 x9.1), .int .u64 x53, .int .i64 x61.1] 57] rfl (fun w71 hs => ?_))
 refine Rg.go ?_
 refine Cd.ret ?_
 have e := some_s h0
 subst e
 exact fun a ha => Cd.retA (P := Try.prog) (fn := Try.f25) (R := Re (Po25 S0 w0 [b1] b1 _)) ha Try.results25 ⟨_, _, _, rfl, rfl, run_lvN (vals := [.int .u32 (cv .u32 x9.1), .int .u64 x53, .int .i64 x61.1]) Try.underlying57 rfl zz57 (hs.range 2 rfl 0 rfl), rfl⟩ ⟨_, rfl, S66, v69, rfl, (hs.pick [0] (by decide) rfl), f70⟩
noncomputable def limelightlaw6_RtcpTuples_l0 (o_1 : Int) (q127 : Int) (q128 : (List api_Tuple)) (q129 : (List Int)) (q130 : Int) : Option (Flow (Int × (List api_Tuple) × (List Int) × Int) Bool) :=
 (limelightbook_Within o_1 0 6).bind fun x145 =>
 if (decide (q127 < x145)) = true then (
  ((
   ((
    (limelightkeep_Tape_Tuple (⟨q129, q130⟩ : limelightkeep_Tape)).bind fun x185 =>
    (app 24 q128 ([x185.1] : List api_Tuple)).bind fun y202 =>
    some (y202, x185.2.L, x185.2.At) : Option ((List api_Tuple) × (List Int) × Int))).bind fun p172 =>
   some (p172.1, p172.2.1, p172.2.2) : Option ((List api_Tuple) × (List Int) × Int))).bind fun p157 =>
  some (Flow.next (add .i64 q127 1, p157.1, p157.2.1, p157.2.2)))
 else (
  some (Flow.brk (q127, q128, q129, q130)))
noncomputable def limelightlaw6_RtcpTuples (G_0 : (List Int)) (o_1 : Int) (p_2 : Int) : Option Bool :=
 (loopF (fun sg => limelightlaw6_RtcpTuples_l0 o_1 sg.1 sg.2.1 sg.2.2.1 sg.2.2.2) (0, ([] : List api_Tuple), G_0, 0)).bind fun fl11 =>
 Flow.el fl11 (fun s211 => (
  none))
 (fun s212 => (
  (rtcp_Bytes ([(⟨add .i64 1 (band .i64 o_1 1), p_2, 0, s212.2.1, ([] : List Int), ([] : List Int), 0, 0, 0, ([] : List Int)⟩ : api_Report)] : List api_Report)).bind fun x34 =>
  (rtcp_Read x34.1).bind fun x44 =>
  ((
   if ((((x34.2 == 0) && (x44.2 == 0)) && ((x34.1.length : Int) == (add .i64 12 (mul .i64 8 (s212.2.1.length : Int))))) && ((x44.1.length : Int) == 1)) = true then (
    (ix x44.1 0).bind fun x63 =>
    if (x63.Kind == (add .i64 1 (band .i64 o_1 1))) = true then (
     (ix x44.1 0).bind fun x79 =>
     if (x79.From == p_2) = true then (
      (ix x44.1 0).bind fun x95 =>
      (limelightref6_Tuples x95.Tuples s212.2.1).bind fun x110 =>
      if x110 = true then (
       (limelightlaw6_known ).bind fun x119 =>
       some x119)
      else (
       some false))
     else (
      some false))
    else (
     some false))
   else (
    some false) : Option Bool)).bind fun p55 =>
  some p55))
 (fun r213 => (
  none))
def Po8 (S0 : Mp) (w0 : World) (D : List Nat) (r : Bool) (v : Value) (w1 : World) : Prop :=
  ∃ (S1 : Mp), v = .bool r ∧ St w0 D S0 S1 [] w1
set_option maxHeartbeats 4000000 in
theorem c8 (S0 : Mp) {w0 : World} (hs : St w0 [] S0 S0 [] w0) (G_0 : (List Int)) (v1 : Value) (f2 : Rd S0 1 (RI .i64) v1 G_0) (o_1 : Int) (p_2 : Int) (r : Bool) (h0 : limelightlaw6_RtcpTuples G_0 o_1 p_2 = some r) :
    Calls Try.prog 8 #[v1, .int .i64 o_1, .int .u32 p_2] w0 (Re (Po8 S0 w0 [] r)) := by
 unfold limelightlaw6_RtcpTuples at h0
 refine calls_of_cd Try.func8 rfl Try.ntmps8 rfl ?_
 refine Cd.sr ?_
 refine Rg.vN (X.assign rfl) rfl ?_
 refine Rg.go ?_
 refine Cd.sr ?_
 refine Rg.vN (X.move rfl) rfl ?_
 refine Rg.vN (X.build (zc := [.slice none 0 0, .int .i64 0]) (cells := [v1, .int .i64 0]) ii26 rfl rfl Try.underlying26 (pp26 _ Try.underlying26) ⟨_, [v1], _, rfl, rfl, f2.cells, rfl⟩ rfl) rfl ?_
 refine Rg.step rfl (Oq.box (cs := #[v1, .int .i64 0]) hs rfl rfl rfl (fun b3 w4 hs => ?_))
 refine Rg.vN (X.assign rfl) rfl ?_
 refine Rg.go ?_
 refine Cd.sr ?_
 refine Rg.vN (X.move rfl) rfl ?_
 refine Rg.vN (X.and rfl rfl) rfl ?_
 refine Rg.vN (X.add rfl rfl) rfl ?_
 refine Rg.vN (X.move rfl) rfl ?_
 refine Rg.vN (X.build (zc := [.int .i64 0, .int .u32 0, .int .u32 0, .slice none 0 0, .slice none 0 0, .slice none 0 0, .int .u64 0, .int .i64 0, .int .i64 0, .slice none 0 0]) (cells := [.int .i64 (add .i64 1 (band .i64 o_1 1)), .int .u32 p_2, .int .u32 0, .slice none 0 0, .slice none 0 0, .slice none 0 0, .int .u64 0, .int .i64 0, .int .i64 0, .slice none 0 0]) ii33 rfl rfl Try.underlying33 (pp33 _ Try.underlying33) ⟨_, [.int .i64 (add .i64 1 (band .i64 o_1 1))], _, rfl, rfl, rfl, ⟨_, [.int .u32 p_2], _, rfl, rfl, rfl, rfl⟩⟩ rfl) rfl ?_
 refine Rg.step rfl (Oq.alloc (cs := #[.int .i64 0, .int .u32 0, .int .u32 0, .slice none 0 0, .slice none 0 0, .slice none 0 0, .int .u64 0, .int .i64 0, .int .i64 0, .slice none 0 0]) hs ii33 rfl rfl rfl (fun b6 w7 hs => ?_))
 refine Rg.step rfl (Oq.storeN hs 0 rfl (vals := [.int .i64 (add .i64 1 (band .i64 o_1 1)), .int .u32 p_2, .int .u32 0, .slice none 0 0, .slice none 0 0, .slice none 0 0, .int .u64 0, .int .i64 0, .int .i64 0, .slice none 0 0]) zz33 rfl rfl (one_all ⟨rfl, rfl, rfl, rfl, rfl, rfl, rfl, rfl, rfl, rfl, trivial⟩) rfl [.box b6 #[.int .i64 (add .i64 1 (band .i64 o_1 1)), .int .u32 p_2, .int .u32 0, .slice none 0 0, .slice none 0 0, .slice none 0 0, .int .u64 0, .int .i64 0, .int .i64 0, .slice none 0 0] 33, .box b3 #[v1, .int .i64 0] 26] rfl (fun w9 hs => ?_))
 refine Rg.go ?_
 refine Cd.seq ?_
 refine Cd.sr ?_
 refine Rg.vN (X.assign rfl) rfl ?_
 refine Rg.go ?_
 have hs := hs.nil 57 3
 obtain ⟨fl11, hfl12, h0⟩ := bind_s h0
 refine Cd.post (fun K w => ∃ (j13 : Int) (j14 : (List api_Tuple)) (j15 : (List Int)) (j16 : Int) (S17 : Mp) (v19 : Value) (g21 : Option Nat) (v23 : Value), K = [(2, .int .u32 p_2), (8, .pointer (some ⟨b6, 0, none⟩))] ∧ fl11 = Flow.brk (j13, j14, j15, j16) ∧ Le S0 S17 ∧ St w0 [] S0 S17 [.box b6 #[.int .i64 (add .i64 1 (band .i64 o_1 1)), .int .u32 p_2, .int .u32 0, v19, .slice none 0 0, .slice none 0 0, .int .u64 0, .int .i64 0, .int .i64 0, .slice none 0 0] 33, .app g21 v19 j14.length 57 3] w ∧ Rd S17 3 R_api_Tuple v19 j14 ∧ Rd S17 1 (RI .i64) v23 j15) ?_ ?_
 ·rintro K26 w25 ⟨j13, j14, j15, j16, S17, v19, g21, v23, rfl, rfl, le18, hs, f20, f24⟩
  have h0 := el_brk h0
  try dsimp only at h0
  refine Cd.go ?_
  refine Cd.sr ?_
  refine Rg.vN (X.loadN (vals := [.int .i64 (add .i64 1 (band .i64 o_1 1)), .int .u32 p_2, .int .u32 0, v19, .slice none 0 0, .slice none 0 0, .int .u64 0, .int .i64 0, .int .i64 0, .slice none 0 0]) Try.underlying33 rfl zz33 rfl (hs.range 0 rfl 0 rfl)) rfl ?_
  refine Rg.step rfl (Oq.lit (sz := 10) (cs0 := [.int .i64 0, .int .u32 0, .int .u32 0, .slice none 0 0, .slice none 0 0, .slice none 0 0, .int .u64 0, .int .i64 0, .int .i64 0, .slice none 0 0]) (cells := [.int .i64 (add .i64 1 (band .i64 o_1 1)), .int .u32 p_2, .int .u32 0, v19, .slice none 0 0, .slice none 0 0, .int .u64 0, .int .i64 0, .int .i64 0, .slice none 0 0]) hs Try.underlying36 ii33 rfl rfl rfl rfl rfl rfl ⟨_, [.int .i64 (add .i64 1 (band .i64 o_1 1)), .int .u32 p_2, .int .u32 0, v19, .slice none 0 0, .slice none 0 0, .int .u64 0, .int .i64 0, .int .i64 0, .slice none 0 0], _, rfl, rfl, rfl, rfl⟩ rfl rfl rfl (fun b27 w28 S29 hs le30 hE31 => ?_))
  have f33 : Rd S29 10 R_api_Report (.slice (some ⟨b27, 0, none⟩) 1 1) ([(⟨add .i64 1 (band .i64 o_1 1), p_2, 0, j14, ([] : List Int), ([] : List Int), 0, 0, 0, ([] : List Int)⟩ : api_Report)] : List api_Report) := Rd.of_cells (xs := ([(⟨add .i64 1 (band .i64 o_1 1), p_2, 0, j14, ([] : List Int), ([] : List Int), 0, 0, 0, ([] : List Int)⟩ : api_Report)] : List api_Report)) ⟨[.int .i64 (add .i64 1 (band .i64 o_1 1)), .int .u32 p_2, .int .u32 0, v19, .slice none 0 0, .slice none 0 0, .int .u64 0, .int .i64 0, .int .i64 0, .slice none 0 0], _, rfl, rfl, one_all ⟨rfl, rfl, rfl, (f20.mono le30).one, rfl, rfl, rfl, rfl, rfl, rfl, trivial⟩, ⟨_, _, _, _, rfl, (f20.mono le30), (Rd.nil _ _ _), (Rd.nil _ _ _), (Rd.nil _ _ _)⟩, rfl⟩ hE31 (Nat.le_of_ble_eq_true rfl) (Nat.le_of_ble_eq_true rfl)
  obtain ⟨x34, hx35, h0⟩ := bind_s h0
  refine Rg.step rfl (Oq.call Try.call19 rfl rfl (c19 S29 (St.start _ _ hs.has) _ _ f33 _ hx35) (fun v36 w37 h38 => ?_))
  obtain ⟨S39, v42, rfl, hs40, f43⟩ := h38
  have _ := 0
  have le41 : Le S29 S39 := hs40.le
  have hs := hs.call0 hs40
  refine Rg.vN (X.move rfl) rfl ?_
  refine Rg.vN (X.extract rfl rfl) rfl ?_
  refine Rg.vN (X.extract rfl rfl) rfl ?_
  refine Rg.vN (X.assign rfl) rfl ?_
  refine Rg.vN (X.assign rfl) rfl ?_
  refine Rg.go ?_
  refine Cd.weak [(2, .int .u32 p_2), (8, .pointer (some ⟨b6, 0, none⟩)), (10, v42), (11, .int .i64 x34.2)] ⟨rfl, rfl, rfl, rfl, trivial⟩ ?_
  refine Cd.sr ?_
  refine Rg.vN (X.move rfl) rfl ?_
  obtain ⟨x44, hx45, h0⟩ := bind_s h0
  refine Rg.step rfl (Oq.call Try.call20 rfl rfl (c20 S39 (St.start _ _ hs.has) _ _ f43 _ hx45) (fun v46 w47 h48 => ?_))
  obtain ⟨S49, v52, rfl, hs50, f53⟩ := h48
  have _ := 0
  have le51 : Le S39 S49 := hs50.le
  have hs := hs.call0 hs50
  refine Rg.vN (X.move rfl) rfl ?_
  refine Rg.vN (X.extract rfl rfl) rfl ?_
  refine Rg.vN (X.extract rfl rfl) rfl ?_
  refine Rg.vN (X.assign rfl) rfl ?_
  refine Rg.vN (X.assign rfl) rfl ?_
  refine Rg.go ?_
  refine Cd.seq ?_
  obtain ⟨p55, hp56, h0⟩ := bind_s h0
  refine Cd.post (fun K w => ∃ (S57 : Mp), K = [(6, .bool p55)] ∧ Le S49 S57 ∧ St w0 [] S0 S57 [] w) ?_ ?_
  ·rintro K60 w58 ⟨S57, rfl, le59, hs⟩
   refine Cd.go ?_
   refine Cd.ret ?_
   have e := some_s h0
   subst e
   exact fun a ha => Cd.retA (P := Try.prog) (fn := Try.f8) (R := Re (Po8 S0 w0 [] _)) ha Try.results8 ⟨_, _, rfl, rfl, rfl⟩ ⟨_, rfl, S57, rfl, hs⟩
  ·skip
   refine Cd.rD mixed (fun l w => Has S49 w ∧ Hp b6 #[.int .i64 (add .i64 1 (band .i64 o_1 1)), .int .u32 p_2, .int .u32 0, v19, .slice none 0 0, .slice none 0 0, .int .u64 0, .int .i64 0, .int .i64 0, .slice none 0 0] 33 w) hs (fun _ _ _ _ _ h => h) (by kernel_rfl) (fun w61 hs => ⟨⟨hs.has, (hs.heap 1 rfl)⟩, ?_⟩)
   refine Rk.tN 0 rfl (by kernel_rfl) rfl (fun _ _ => X.move rfl) ?_
   refine Rk.tN 1 rfl (by kernel_rfl) rfl (fun _ _ => X.eql rfl rfl) ?_
   refine Rk.tN 2 rfl (by kernel_rfl) rfl (fun _ _ => X.move rfl) ?_
   refine Rk.tT 3 rfl (by kernel_rfl) rfl rfl rfl (fun hW => fun _ _ => X.move rfl) ?_
   refine Rk.tT 4 rfl (by kernel_rfl) rfl rfl rfl (fun hW => fun _ _ => X.eql (ev_g rfl hW) rfl) ?_
   refine Rk.tN 5 rfl (by kernel_rfl) rfl (fun _ _ => X.pickAnd rfl rfl rfl) ?_
   refine Rk.tN 6 rfl (by kernel_rfl) rfl (fun _ _ => X.move rfl) ?_
   refine Rk.tT 7 rfl (by kernel_rfl) rfl rfl rfl (fun hW => fun _ _ => X.move rfl) ?_
   refine Rk.tT 8 rfl (by kernel_rfl) rfl rfl rfl (fun hW => fun _ _ => X.lenR Try.underlying31 (ev_g rfl hW) (f43.mono le51)) ?_
   refine Rk.tT 9 rfl (by kernel_rfl) rfl rfl rfl (fun hW => fun _ _ => X.fieldB Try.underlying33 rfl zz28 rfl rfl) ?_
   refine Rk.tT 10 rfl (by kernel_rfl) rfl rfl rfl (fun hW => fun w hc => X.load1 Try.underlying28 rfl (ev_g rfl hW) (heap_cell hc.2 rfl)) ?_
   refine Rk.tT 11 rfl (by kernel_rfl) rfl rfl rfl (fun hW => fun _ _ => X.lenR Try.underlying28 (ev_g rfl hW) (f20.mono (le30.trans (le41.trans le51)))) ?_
   refine Rk.tT 12 rfl (by kernel_rfl) rfl rfl rfl (fun hW => fun _ _ => X.mul rfl (ev_g rfl hW)) ?_
   refine Rk.tT 13 rfl (by kernel_rfl) rfl rfl rfl (fun hW => fun _ _ => X.add rfl (ev_g rfl hW)) ?_
   refine Rk.tT 14 rfl (by kernel_rfl) rfl rfl rfl (fun hW => fun _ _ => X.eql (ev_g rfl hW) (ev_g rfl hW)) ?_
   refine Rk.tN 15 rfl (by kernel_rfl) rfl (fun _ _ => X.pickAnd rfl rfl rfl) ?_
   refine Rk.tN 16 rfl (by kernel_rfl) rfl (fun _ _ => X.move rfl) ?_
   refine Rk.tT 17 rfl (by kernel_rfl) rfl rfl rfl (fun hW => fun _ _ => X.move rfl) ?_
   refine Rk.tT 18 rfl (by kernel_rfl) rfl rfl rfl (fun hW => fun _ _ => X.lenR Try.underlying36 (ev_g rfl hW) f53) ?_
   refine Rk.tT 19 rfl (by kernel_rfl) rfl rfl rfl (fun hW => fun _ _ => X.eql (ev_g rfl hW) rfl) ?_
   refine Rk.tN 20 rfl (by kernel_rfl) rfl (fun _ _ => X.pickAnd rfl rfl rfl) ?_
   refine Rk.tN 21 rfl (by kernel_rfl) rfl (fun _ _ => X.move rfl) ?_
   refine Rk.tT 22 rfl (by kernel_rfl) rfl rfl rfl (fun hW => fun _ _ => X.move rfl) ?_
   refine Rk.tT 26 rfl (by kernel_rfl) rfl rfl rfl (fun hW => fun _ _ => X.fieldB Try.underlying33 rfl zz3 rfl rfl) ?_
   refine Rk.tT 27 rfl (by kernel_rfl) rfl rfl rfl (fun hW => fun w hc => X.load1 Try.underlying3 rfl (ev_g rfl hW) (heap_cell hc.2 rfl)) ?_
   refine Rk.split (b := (((x34.2 == 0) && (x44.2 == 0)) && ((x34.1.length : Int) == (add .i64 12 (mul .i64 8 (j14.length : Int))))) && ((x44.1.length : Int) == 1)) (tj := 67) rfl (fun hc62 => ?_) (fun hc62 => ?_)
   ·have hp56 := ite_t hc62 hp56
    refine Rk.weak [(2, .int .u32 p_2), (8, .pointer (some ⟨b6, 0, none⟩)), (12, v52), (67, .bool true), (68, v52), (73, .int .i64 (add .i64 1 (band .i64 o_1 1)))] ⟨rfl, rfl, rfl, rfl, get_g rfl hc62, get_g rfl hc62, trivial⟩ ?_
    obtain ⟨x63, hx64, hp56⟩ := bind_s hp56
    obtain ⟨ad65, vals66, _, hR67, hE68, hX69⟩ := mk_index Try.underlying36 zz33 (by decide) f53 hx64
    unfold R_api_Report at hR67
    obtain ⟨v70, v72, v74, v76, rfl, f71, f73, f75, f77⟩ := hR67
    refine Rk.tT 23 rfl (by kernel_rfl) rfl rfl rfl (fun hW => fun _ _ => hX69 rfl rfl) ?_
    refine Rk.tT 24 rfl (by kernel_rfl) rfl rfl rfl (fun hW => fun _ _ => X.fieldE Try.underlying33 rfl zz3 rfl rfl) ?_
    refine Rk.tT 25 rfl (by kernel_rfl) rfl rfl rfl (fun hW => fun w hc => X.load1 Try.underlying3 rfl rfl ((El.part (part := [.int .i64 x63.Kind]) hE68 0 rfl).at0 rfl hc.1)) ?_
    refine Rk.tT 28 rfl (by kernel_rfl) rfl rfl rfl (fun hW => fun _ _ => X.eql rfl rfl) ?_
    refine Rk.tN 29 rfl (by kernel_rfl) rfl (fun _ _ => X.pickT rfl rfl) ?_
    refine Rk.tN 30 rfl (by kernel_rfl) rfl (fun _ _ => X.move rfl) ?_
    refine Rk.tT 31 rfl (by kernel_rfl) rfl rfl rfl (fun hW => fun _ _ => X.move rfl) ?_
    refine Rk.tT 35 rfl (by kernel_rfl) rfl rfl rfl (fun hW => fun _ _ => X.move rfl) ?_
    refine Rk.split (b := x63.Kind == (add .i64 1 (band .i64 o_1 1))) (tj := 76) rfl (fun hc78 => ?_) (fun hc78 => ?_)
    ·have hp56 := ite_t hc78 hp56
     refine Rk.weak [(8, .pointer (some ⟨b6, 0, none⟩)), (12, v52), (76, .bool true), (77, v52), (81, .int .u32 p_2)] ⟨rfl, rfl, rfl, get_g rfl hc78, get_g rfl hc78, trivial⟩ ?_
     obtain ⟨x79, hx80, hp56⟩ := bind_s hp56
     obtain ⟨ad81, vals82, _, hR83, hE84, hX85⟩ := mk_index Try.underlying36 zz33 (by decide) f53 hx80
     unfold R_api_Report at hR83
     obtain ⟨v86, v88, v90, v92, rfl, f87, f89, f91, f93⟩ := hR83
     refine Rk.tT 32 rfl (by kernel_rfl) rfl rfl rfl (fun hW => fun _ _ => hX85 rfl rfl) ?_
     refine Rk.tT 33 rfl (by kernel_rfl) rfl rfl rfl (fun hW => fun _ _ => X.fieldE Try.underlying33 rfl zz27 rfl rfl) ?_
     refine Rk.tT 34 rfl (by kernel_rfl) rfl rfl rfl (fun hW => fun w hc => X.load1 Try.underlying27 rfl rfl ((El.part (part := [.int .u32 x79.From]) hE84 1 rfl).at0 rfl hc.1)) ?_
     refine Rk.tT 36 rfl (by kernel_rfl) rfl rfl rfl (fun hW => fun _ _ => X.eql rfl rfl) ?_
     refine Rk.tN 37 rfl (by kernel_rfl) rfl (fun _ _ => X.pickT rfl rfl) ?_
     refine Rk.tN 38 rfl (by kernel_rfl) rfl (fun _ _ => X.move rfl) ?_
     refine Rk.tT 39 rfl (by kernel_rfl) rfl rfl rfl (fun hW => fun _ _ => X.move rfl) ?_
     refine Rk.tT 43 rfl (by kernel_rfl) rfl rfl rfl (fun hW => fun _ _ => X.fieldB Try.underlying33 rfl zz28 rfl rfl) ?_
     refine Rk.tT 44 rfl (by kernel_rfl) rfl rfl rfl (fun hW => fun w hc => X.load1 Try.underlying28 rfl (ev_g rfl hW) (heap_cell hc.2 rfl)) ?_
     refine Rk.split (b := x79.From == p_2) (tj := 84) rfl (fun hc94 => ?_) (fun hc94 => ?_)
     ·have hp56 := ite_t hc94 hp56
      refine Rk.weak [(84, .bool true), (85, v52), (90, v19)] ⟨rfl, get_g rfl hc94, get_g rfl hc94, trivial⟩ ?_
      obtain ⟨x95, hx96, hp56⟩ := bind_s hp56
      obtain ⟨ad97, vals98, _, hR99, hE100, hX101⟩ := mk_index Try.underlying36 zz33 (by decide) f53 hx96
      unfold R_api_Report at hR99
      obtain ⟨v102, v104, v106, v108, rfl, f103, f105, f107, f109⟩ := hR99
      refine Rk.tT 40 rfl (by kernel_rfl) rfl rfl rfl (fun hW => fun _ _ => hX101 rfl rfl) ?_
      refine Rk.tT 41 rfl (by kernel_rfl) rfl rfl rfl (fun hW => fun _ _ => X.fieldE Try.underlying33 rfl zz28 rfl rfl) ?_
      refine Rk.tT 42 rfl (by kernel_rfl) rfl rfl rfl (fun hW => fun w hc => X.load1 Try.underlying28 rfl rfl ((El.part (part := [v102]) hE100 3 rfl).at0 rfl hc.1)) ?_
      obtain ⟨x110, hx111, hp56⟩ := bind_s hp56
      refine Rk.eG 45 rfl (by kernel_rfl) rfl rfl rfl (Oq.call Try.call26 rfl rfl (c26 S49 (St.start _ _ hs.has) _ _ f103 _ _ (f20.mono (le30.trans (le41.trans le51))) _ hx111) (fun v112 w113 h114 => ?_))
      obtain ⟨S115, rfl, hs116⟩ := h114
      have _ := 0
      have le117 : Le S49 S115 := hs116.le
      have hs := hs.call0 hs116
      refine ⟨⟨(hs.has.down le117), (hs.heap 1 rfl)⟩, Rk.mk (C' := fun l w => Has S115 w ∧ Hp b6 #[.int .i64 (add .i64 1 (band .i64 o_1 1)), .int .u32 p_2, .int .u32 0, v19, .slice none 0 0, .slice none 0 0, .int .u64 0, .int .i64 0, .int .i64 0, .slice none 0 0] 33 w) ⟨hs.has, (hs.heap 1 rfl)⟩ (fun l w hc => ⟨hc.1.down le117, hc.2⟩) ?_⟩
      refine Rk.tN 46 rfl (by kernel_rfl) rfl (fun _ _ => X.pickT rfl rfl) ?_
      refine Rk.tN 47 rfl (by kernel_rfl) rfl (fun _ _ => X.move rfl) ?_
      refine Rk.split (b := x110) (tj := 93) rfl (fun hc118 => ?_) (fun hc118 => ?_)
      ·have hp56 := ite_t hc118 hp56
       refine Rk.weak [(93, .bool true)] ⟨rfl, trivial⟩ ?_
       obtain ⟨x119, hx120, hp56⟩ := bind_s hp56
       refine Rk.eG 48 rfl (by kernel_rfl) rfl rfl rfl (Oq.call Try.call15 rfl rfl (c15 S115 (St.start _ _ hs.has)  _ hx120) (fun v121 w122 h123 => ?_))
       obtain ⟨S124, rfl, hs125⟩ := h123
       have _ := 0
       have le126 : Le S115 S124 := hs125.le
       have hs := hs.call0 hs125
       refine ⟨⟨(hs.has.down le126), (hs.heap 1 rfl)⟩, Rk.mk (C' := fun l w => Has S124 w ∧ Hp b6 #[.int .i64 (add .i64 1 (band .i64 o_1 1)), .int .u32 p_2, .int .u32 0, v19, .slice none 0 0, .slice none 0 0, .int .u64 0, .int .i64 0, .int .i64 0, .slice none 0 0] 33 w) ⟨hs.has, (hs.heap 1 rfl)⟩ (fun l w hc => ⟨hc.1.down le126, hc.2⟩) ?_⟩
       refine Rk.tN 49 rfl (by kernel_rfl) rfl (fun _ _ => X.pickT rfl rfl) ?_
       refine Rk.tN 50 rfl (by kernel_rfl) rfl (fun _ _ => X.assign rfl) ?_
       refine Rk.done (by kernel_rfl) ?_
       have e := some_s hp56
       subst e
       exact fun a ha => ⟨[(6, .bool x119)], ha.weak ⟨rfl, trivial⟩, S124, rfl, (le117.trans le126), (hs.pick [] (by decide) rfl)⟩
      ·have hp56 := ite_f hc118 hp56
       refine Rk.weak [(93, .bool false)] ⟨rfl, trivial⟩ ?_
       refine Rk.eF 48 rfl (by kernel_rfl) rfl rfl rfl rfl rfl rfl ⟨⟨hs.has, (hs.heap 1 rfl)⟩, ?_⟩
       refine Rk.tN 49 rfl (by kernel_rfl) rfl (fun _ _ => X.pickF rfl rfl) ?_
       refine Rk.tN 50 rfl (by kernel_rfl) rfl (fun _ _ => X.assign rfl) ?_
       refine Rk.done (by kernel_rfl) ?_
       have e := some_s hp56
       subst e
       exact fun a ha => ⟨[(6, .bool false)], ha.weak ⟨rfl, trivial⟩, S115, rfl, le117, (hs.pick [] (by decide) rfl)⟩
     ·have hp56 := ite_f hc94 hp56
      refine Rk.weak [(84, .bool false), (85, undef), (90, undef)] ⟨rfl, get_u rfl (not_f hc94), get_u rfl (not_f hc94), trivial⟩ ?_
      refine Rk.tO 40 rfl (by kernel_rfl) rfl rfl rfl rfl ?_
      refine Rk.tO 41 rfl (by kernel_rfl) rfl rfl rfl rfl ?_
      refine Rk.tO 42 rfl (by kernel_rfl) rfl rfl rfl rfl ?_
      refine Rk.eF 45 rfl (by kernel_rfl) rfl rfl rfl rfl rfl rfl ⟨⟨hs.has, (hs.heap 1 rfl)⟩, ?_⟩
      refine Rk.tN 46 rfl (by kernel_rfl) rfl (fun _ _ => X.pickF rfl rfl) ?_
      refine Rk.tN 47 rfl (by kernel_rfl) rfl (fun _ _ => X.move rfl) ?_
      refine Rk.eF 48 rfl (by kernel_rfl) rfl rfl rfl rfl rfl rfl ⟨⟨hs.has, (hs.heap 1 rfl)⟩, ?_⟩
      refine Rk.tN 49 rfl (by kernel_rfl) rfl (fun _ _ => X.pickF rfl rfl) ?_
      refine Rk.tN 50 rfl (by kernel_rfl) rfl (fun _ _ => X.assign rfl) ?_
      refine Rk.done (by kernel_rfl) ?_
      have e := some_s hp56
      subst e
      exact fun a ha => ⟨[(6, .bool false)], ha.weak ⟨rfl, trivial⟩, S49, rfl, Le.refl _, (hs.pick [] (by decide) rfl)⟩
    ·have hp56 := ite_f hc78 hp56
     refine Rk.weak [(8, .pointer (some ⟨b6, 0, none⟩)), (12, v52), (76, .bool false), (77, undef), (81, undef)] ⟨rfl, rfl, rfl, get_u rfl (not_f hc78), get_u rfl (not_f hc78), trivial⟩ ?_
     refine Rk.tO 32 rfl (by kernel_rfl) rfl rfl rfl rfl ?_
     refine Rk.tO 33 rfl (by kernel_rfl) rfl rfl rfl rfl ?_
     refine Rk.tO 34 rfl (by kernel_rfl) rfl rfl rfl rfl ?_
     refine Rk.tO 36 rfl (by kernel_rfl) rfl rfl rfl rfl ?_
     refine Rk.tN 37 rfl (by kernel_rfl) rfl (fun _ _ => X.pickF rfl rfl) ?_
     refine Rk.tN 38 rfl (by kernel_rfl) rfl (fun _ _ => X.move rfl) ?_
     refine Rk.tO 39 rfl (by kernel_rfl) rfl rfl rfl rfl ?_
     refine Rk.tO 40 rfl (by kernel_rfl) rfl rfl rfl rfl ?_
     refine Rk.tO 41 rfl (by kernel_rfl) rfl rfl rfl rfl ?_
     refine Rk.tO 42 rfl (by kernel_rfl) rfl rfl rfl rfl ?_
     refine Rk.tO 43 rfl (by kernel_rfl) rfl rfl rfl rfl ?_
     refine Rk.tO 44 rfl (by kernel_rfl) rfl rfl rfl rfl ?_
     refine Rk.eF 45 rfl (by kernel_rfl) rfl rfl rfl rfl rfl rfl ⟨⟨hs.has, (hs.heap 1 rfl)⟩, ?_⟩
     refine Rk.tN 46 rfl (by kernel_rfl) rfl (fun _ _ => X.pickF rfl rfl) ?_
     refine Rk.tN 47 rfl (by kernel_rfl) rfl (fun _ _ => X.move rfl) ?_
     refine Rk.eF 48 rfl (by kernel_rfl) rfl rfl rfl rfl rfl rfl ⟨⟨hs.has, (hs.heap 1 rfl)⟩, ?_⟩
     refine Rk.tN 49 rfl (by kernel_rfl) rfl (fun _ _ => X.pickF rfl rfl) ?_
     refine Rk.tN 50 rfl (by kernel_rfl) rfl (fun _ _ => X.assign rfl) ?_
     refine Rk.done (by kernel_rfl) ?_
     have e := some_s hp56
     subst e
     exact fun a ha => ⟨[(6, .bool false)], ha.weak ⟨rfl, trivial⟩, S49, rfl, Le.refl _, (hs.pick [] (by decide) rfl)⟩
   ·have hp56 := ite_f hc62 hp56
    refine Rk.weak [(2, .int .u32 p_2), (8, .pointer (some ⟨b6, 0, none⟩)), (12, v52), (67, .bool false), (68, undef), (73, undef)] ⟨rfl, rfl, rfl, rfl, get_u rfl (not_f hc62), get_u rfl (not_f hc62), trivial⟩ ?_
    refine Rk.tO 23 rfl (by kernel_rfl) rfl rfl rfl rfl ?_
    refine Rk.tO 24 rfl (by kernel_rfl) rfl rfl rfl rfl ?_
    refine Rk.tO 25 rfl (by kernel_rfl) rfl rfl rfl rfl ?_
    refine Rk.tO 28 rfl (by kernel_rfl) rfl rfl rfl rfl ?_
    refine Rk.tN 29 rfl (by kernel_rfl) rfl (fun _ _ => X.pickF rfl rfl) ?_
    refine Rk.tN 30 rfl (by kernel_rfl) rfl (fun _ _ => X.move rfl) ?_
    refine Rk.tO 31 rfl (by kernel_rfl) rfl rfl rfl rfl ?_
    refine Rk.tO 32 rfl (by kernel_rfl) rfl rfl rfl rfl ?_
    refine Rk.tO 33 rfl (by kernel_rfl) rfl rfl rfl rfl ?_
    refine Rk.tO 34 rfl (by kernel_rfl) rfl rfl rfl rfl ?_
    refine Rk.tO 35 rfl (by kernel_rfl) rfl rfl rfl rfl ?_
    refine Rk.tO 36 rfl (by kernel_rfl) rfl rfl rfl rfl ?_
    refine Rk.tN 37 rfl (by kernel_rfl) rfl (fun _ _ => X.pickF rfl rfl) ?_
    refine Rk.tN 38 rfl (by kernel_rfl) rfl (fun _ _ => X.move rfl) ?_
    refine Rk.tO 39 rfl (by kernel_rfl) rfl rfl rfl rfl ?_
    refine Rk.tO 40 rfl (by kernel_rfl) rfl rfl rfl rfl ?_
    refine Rk.tO 41 rfl (by kernel_rfl) rfl rfl rfl rfl ?_
    refine Rk.tO 42 rfl (by kernel_rfl) rfl rfl rfl rfl ?_
    refine Rk.tO 43 rfl (by kernel_rfl) rfl rfl rfl rfl ?_
    refine Rk.tO 44 rfl (by kernel_rfl) rfl rfl rfl rfl ?_
    refine Rk.eF 45 rfl (by kernel_rfl) rfl rfl rfl rfl rfl rfl ⟨⟨hs.has, (hs.heap 1 rfl)⟩, ?_⟩
    refine Rk.tN 46 rfl (by kernel_rfl) rfl (fun _ _ => X.pickF rfl rfl) ?_
    refine Rk.tN 47 rfl (by kernel_rfl) rfl (fun _ _ => X.move rfl) ?_
    refine Rk.eF 48 rfl (by kernel_rfl) rfl rfl rfl rfl rfl rfl ⟨⟨hs.has, (hs.heap 1 rfl)⟩, ?_⟩
    refine Rk.tN 49 rfl (by kernel_rfl) rfl (fun _ _ => X.pickF rfl rfl) ?_
    refine Rk.tN 50 rfl (by kernel_rfl) rfl (fun _ _ => X.assign rfl) ?_
    refine Rk.done (by kernel_rfl) ?_
    have e := some_s hp56
    subst e
    exact fun a ha => ⟨[(6, .bool false)], ha.weak ⟨rfl, trivial⟩, S49, rfl, Le.refl _, (hs.pick [] (by decide) rfl)⟩
 ·skip
  refine Cd.weak [(1, .int .i64 o_1), (2, .int .u32 p_2), (7, .pointer (some ⟨b3, 0, none⟩)), (8, .pointer (some ⟨b6, 0, none⟩)), (9, .int .i64 0)] ⟨rfl, rfl, rfl, rfl, rfl, trivial⟩ ?_
  refine Cd.block (Cd.loop (fun sg => limelightlaw6_RtcpTuples_l0 o_1 sg.1 sg.2.1 sg.2.2.1 sg.2.2.2) (fun (sg : (Int × (List api_Tuple) × (List Int) × Int)) K w => ∃ (S131 : Mp) (v133 : Value) (g135 : Option Nat) (v137 : Value), K = [(1, .int .i64 o_1), (2, .int .u32 p_2), (7, .pointer (some ⟨b3, 0, none⟩)), (8, .pointer (some ⟨b6, 0, none⟩)), (9, .int .i64 sg.1)] ∧ Le S0 S131 ∧ St w0 [] S0 S131 [.box b6 #[.int .i64 (add .i64 1 (band .i64 o_1 1)), .int .u32 p_2, .int .u32 0, v133, .slice none 0 0, .slice none 0 0, .int .u64 0, .int .i64 0, .int .i64 0, .slice none 0 0] 33, .box b3 #[v137, .int .i64 sg.2.2.2] 26, .app g135 v133 sg.2.1.length 57 3] w ∧ Rd S131 3 R_api_Tuple v133 sg.2.1 ∧ Rd S131 1 (RI .i64) v137 sg.2.2.1) (0, ([] : List api_Tuple), G_0, 0) fl11 hfl12 ⟨S0, (.slice none 0 0), none, v1, rfl, Le.refl _, (hs.pick [1, 2, 0] (by decide) rfl), (Rd.nil _ _ _), f2⟩ ?_)
  rintro ⟨q127, q128, q129, q130⟩ fl139 K144 w143 hb140 ⟨S131, v133, g135, v137, rfl, le132, hs, f134, f138⟩ hl141
  have h142 : limelightlaw6_RtcpTuples_l0 o_1 q127 q128 q129 q130 = some fl139 := hb140
  unfold limelightlaw6_RtcpTuples_l0 at h142
  refine Cd.seq ?_
  refine Cd.sr ?_
  refine Rg.vN (X.move rfl) rfl ?_
  refine Rg.vN (X.move rfl) rfl ?_
  obtain ⟨x145, hx146, h142⟩ := bind_s h142
  refine Rg.step rfl (Oq.call Try.call16 rfl rfl (c16 S131 (St.start _ _ hs.has) _ _ _ _ hx146) (fun v147 w148 h149 => ?_))
  obtain ⟨S150, rfl, hs151⟩ := h149
  have _ := 0
  have le152 : Le S131 S150 := hs151.le
  have hs := hs.call0 hs151
  refine Rg.vN (X.lss rfl rfl) rfl ?_
  refine Rg.go ?_
  refine Cd.cond (t := decide (q127 < x145)) rfl (fun hc153 => ?_) (fun hc153 => ?_)
  ·have h142 := ite_t hc153 h142
   refine Cd.sg ?_
   refine Cd.seq ?_
   obtain ⟨p157, hp158, h142⟩ := bind_s h142
   obtain ⟨j154, j155, j156⟩ := p157
   dsimp only at h142
   refine Cd.post (fun K w => ∃ (S159 : Mp) (v162 : Value) (g164 : Option Nat) (v166 : Value), K = [(1, .int .i64 o_1), (2, .int .u32 p_2), (7, .pointer (some ⟨b3, 0, none⟩)), (8, .pointer (some ⟨b6, 0, none⟩)), (9, .int .i64 q127)] ∧ Le S150 S159 ∧ St w0 [] S0 S159 [.box b6 #[.int .i64 (add .i64 1 (band .i64 o_1 1)), .int .u32 p_2, .int .u32 0, v162, .slice none 0 0, .slice none 0 0, .int .u64 0, .int .i64 0, .int .i64 0, .slice none 0 0] 33, .box b3 #[v166, .int .i64 j156] 26, .app g164 v162 j154.length 57 3] w ∧ Rd S159 3 R_api_Tuple v162 j154 ∧ Rd S159 1 (RI .i64) v166 j155) ?_ ?_
   ·rintro K168 w160 ⟨S159, v162, g164, v166, rfl, le161, hs, f163, f167⟩
    refine Cd.go ?_
    refine Cd.region ?_
    refine Rg.vN (X.move rfl) rfl ?_
    refine Rg.vN (X.add rfl rfl) rfl ?_
    refine Rg.vN (X.assign rfl) rfl ?_
    refine Rg.nil ?_
    exact fun a ha => ⟨(add .i64 q127 1, j154, j155, j156), [(1, .int .i64 o_1), (2, .int .u32 p_2), (7, .pointer (some ⟨b3, 0, none⟩)), (8, .pointer (some ⟨b6, 0, none⟩)), (9, .int .i64 (add .i64 q127 1))], (some_s h142).symm, ha.weak ⟨rfl, rfl, rfl, rfl, rfl, trivial⟩, S159, v162, g164, v166, rfl, (le132.trans (le152.trans le161)), hs, f163, f167⟩
   ·skip
    refine Cd.block ?_
    obtain ⟨p172, hp173, hp158⟩ := bind_s hp158
    obtain ⟨j169, j170, j171⟩ := p172
    dsimp only at hp158
    refine Cd.post (fun K w => ∃ (S174 : Mp) (v177 : Value) (g179 : Option Nat) (v181 : Value), K = [(1, .int .i64 o_1), (2, .int .u32 p_2), (7, .pointer (some ⟨b3, 0, none⟩)), (8, .pointer (some ⟨b6, 0, none⟩)), (9, .int .i64 q127)] ∧ Le S150 S174 ∧ St w0 [] S0 S174 [.box b6 #[.int .i64 (add .i64 1 (band .i64 o_1 1)), .int .u32 p_2, .int .u32 0, v177, .slice none 0 0, .slice none 0 0, .int .u64 0, .int .i64 0, .int .i64 0, .slice none 0 0] 33, .box b3 #[v181, .int .i64 j171] 26, .app g179 v177 j169.length 57 3] w ∧ Rd S174 3 R_api_Tuple v177 j169 ∧ Rd S174 1 (RI .i64) v181 j170) ?_ ?_
    ·rintro K183 w175 ⟨S174, v177, g179, v181, rfl, le176, hs, f178, f182⟩
     have e := some_s hp158
     cases e
     exact fun a ha => ⟨[(1, .int .i64 o_1), (2, .int .u32 p_2), (7, .pointer (some ⟨b3, 0, none⟩)), (8, .pointer (some ⟨b6, 0, none⟩)), (9, .int .i64 q127)], ha.weak ⟨rfl, rfl, rfl, rfl, rfl, trivial⟩, S174, v177, g179, v181, rfl, le176, hs, f178, f182⟩
    ·skip
     refine Cd.rD mixed (fun l w => Has S150 w ∧ (l.getD 7 false = false → Hp b6 #[.int .i64 (add .i64 1 (band .i64 o_1 1)), .int .u32 p_2, .int .u32 0, v133, .slice none 0 0, .slice none 0 0, .int .u64 0, .int .i64 0, .int .i64 0, .slice none 0 0] 33 w)) hs (fun _ _ _ _ _ h => h) (by kernel_rfl) (fun w184 hs => ⟨⟨hs.has, (fun _ => hs.heap 0 rfl)⟩, ?_⟩)
     refine Rk.uN 0 rfl (by kernel_rfl) rfl (fun _ _ => by simp only [getD_set_ne false (show (0 : Nat) ≠ 7 by decide)]) (fun l w hl hcl hc => X.fieldB Try.underlying33 rfl zz28 rfl rfl) ?_
     refine Rk.uN 1 rfl (by kernel_rfl) rfl (fun _ _ => by simp only [getD_set_ne false (show (1 : Nat) ≠ 7 by decide)]) (fun l w hl hcl hc => X.load1 Try.underlying28 rfl rfl (heap_cell (hc.2 (hcl.lt rfl (by kernel_rfl) hl)) rfl)) ?_
     refine Rk.uN 2 rfl (by kernel_rfl) rfl (fun _ _ => by simp only [getD_set_ne false (show (2 : Nat) ≠ 7 by decide)]) (fun l w hl hcl hc => X.move rfl) ?_
     obtain ⟨x185, hx186, hp173⟩ := bind_s hp173
     refine Rk.eN 3 rfl (by kernel_rfl) rfl (Oq.call Try.call25 rfl rfl (c25 S150 _ (⟨q129, q130⟩ : limelightkeep_Tape) _ (f138.mono le152) (hs.enter 1 rfl rfl) _ hx186) (fun v187 w188 h189 => ?_))
     obtain ⟨S190, v193, rfl, hs191, f194⟩ := h189
     have _ := 0
     have le192 : Le S150 S190 := hs191.le
     have hs := hs.call1 1 rfl rfl hs191
     refine ⟨⟨(hs.has.down le192), (fun _ => hs.heap 1 rfl)⟩, Rk.mk (C' := fun l w => Has S190 w ∧ (l.getD 7 false = false → Hp b6 #[.int .i64 (add .i64 1 (band .i64 o_1 1)), .int .u32 p_2, .int .u32 0, v133, .slice none 0 0, .slice none 0 0, .int .u64 0, .int .i64 0, .int .i64 0, .slice none 0 0] 33 w)) ⟨hs.has, (fun _ => hs.heap 1 rfl)⟩ (fun l w hc => ⟨hc.1.down le192, hc.2⟩) ?_⟩
     refine Rk.eN 4 rfl (by kernel_rfl) rfl (Oq.lit (sz := 3) (cs0 := [.int .u32 0, .int .u64 0, .int .i64 0]) (cells := [.int .u32 x185.1.Owner, .int .u64 x185.1.Rate, .int .i64 x185.1.Over]) hs Try.underlying28 ii57 rfl rfl rfl rfl rfl rfl ⟨_, [.int .u32 x185.1.Owner, .int .u64 x185.1.Rate, .int .i64 x185.1.Over], _, rfl, rfl, rfl, rfl⟩ rfl rfl rfl (fun b195 w196 S197 hs le198 hE199 => ?_))
     have f201 : Rd S197 3 R_api_Tuple (.slice (some ⟨b195, 0, none⟩) 1 1) ([x185.1] : List api_Tuple) := Rd.of_cells (xs := ([x185.1] : List api_Tuple)) ⟨[.int .u32 x185.1.Owner, .int .u64 x185.1.Rate, .int .i64 x185.1.Over], _, rfl, rfl, one_all ⟨rfl, rfl, rfl, trivial⟩, rfl, rfl⟩ hE199 (Nat.le_of_ble_eq_true rfl) (Nat.le_of_ble_eq_true rfl)
     refine ⟨⟨(hs.has.down le198), (fun _ => hs.heap 2 rfl)⟩, Rk.mk (C' := fun l w => Has S197 w ∧ (l.getD 7 false = false → Hp b6 #[.int .i64 (add .i64 1 (band .i64 o_1 1)), .int .u32 p_2, .int .u32 0, v133, .slice none 0 0, .slice none 0 0, .int .u64 0, .int .i64 0, .int .i64 0, .slice none 0 0] 33 w)) ⟨hs.has, (fun _ => hs.heap 2 rfl)⟩ (fun l w hc => ⟨hc.1.down le198, hc.2⟩) ?_⟩
     refine Rk.weak [(1, .int .i64 o_1), (2, .int .u32 p_2), (7, .pointer (some ⟨b3, 0, none⟩)), (8, .pointer (some ⟨b6, 0, none⟩)), (9, .int .i64 q127), (29, v133), (32, .slice (some ⟨b195, 0, none⟩) 1 1)] ⟨rfl, rfl, rfl, rfl, rfl, rfl, rfl, trivial⟩ ?_
     obtain ⟨y202, hx203, hp173⟩ := bind_s hp173
     refine Rk.eN 5 rfl (by kernel_rfl) rfl (Oq.appendS hs 3 rfl Try.underlying28 ii57 rfl rfl rfl rfl rfl rfl (f134.mono (le152.trans (le192.trans le198))) f201 hx203 rfl rfl rfl (fun v204 w205 S206 g207 hs le208 f209 => ?_))
     refine ⟨⟨(hs.has.down le208), (fun _ => hs.heap 2 rfl)⟩, Rk.mk (C' := fun l w => Has S206 w ∧ (l.getD 7 false = false → Hp b6 #[.int .i64 (add .i64 1 (band .i64 o_1 1)), .int .u32 p_2, .int .u32 0, v133, .slice none 0 0, .slice none 0 0, .int .u64 0, .int .i64 0, .int .i64 0, .slice none 0 0] 33 w)) ⟨hs.has, (fun _ => hs.heap 2 rfl)⟩ (fun l w hc => ⟨hc.1.down le208, hc.2⟩) ?_⟩
     refine Rk.uN 6 rfl (by kernel_rfl) rfl (fun _ _ => by simp only [getD_set_ne false (show (6 : Nat) ≠ 7 by decide)]) (fun l w hl hcl hc => X.fieldB Try.underlying33 rfl zz28 rfl rfl) ?_
     refine Rk.eN 7 rfl (by kernel_rfl) rfl (Oq.store hs 2 rfl 3 zz28 rfl rfl f209.cells f209.one rfl [.app (some b195) (.slice (some ⟨b195, 0, none⟩) 1 1) ([x185.1] : List api_Tuple).length 57 3, .box b3 #[v193, .int .i64 x185.2.At] 26, .box b6 #[.int .i64 (add .i64 1 (band .i64 o_1 1)), .int .u32 p_2, .int .u32 0, v204, .slice none 0 0, .slice none 0 0, .int .u64 0, .int .i64 0, .int .i64 0, .slice none 0 0] 33, .app g207 v204 y202.length 57 3] rfl (fun w210 hs => ?_))
     refine ⟨⟨hs.has, (fun h => absurd h (by decide))⟩, ?_⟩
     refine Rk.done (by kernel_rfl) ?_
     have e := some_s hp173
     cases e
     exact fun a ha => ⟨[(1, .int .i64 o_1), (2, .int .u32 p_2), (7, .pointer (some ⟨b3, 0, none⟩)), (8, .pointer (some ⟨b6, 0, none⟩)), (9, .int .i64 q127)], ha.weak ⟨rfl, rfl, rfl, rfl, rfl, trivial⟩, S206, v204, g207, v193, rfl, (le192.trans (le198.trans le208)), (hs.pick [2, 1, 3] (by decide) rfl), f209, (f194.mono (le198.trans le208))⟩
  ·have h142 := ite_f hc153 h142
   refine Cd.exit ?_
   have e := some_s h142
   subst e
   have e := hl141 (fun _ e => by cases e)
   exact fun a ha => ⟨[(2, .int .u32 p_2), (8, .pointer (some ⟨b6, 0, none⟩))], ha.weak ⟨rfl, rfl, trivial⟩, _, _, _, _, S150, v133, g135, v137, rfl, e.symm, (le132.trans le152), (hs.pick [0, 2] (by decide) rfl), (f134.mono le152), (f138.mono le152)⟩
end Go.Lk
