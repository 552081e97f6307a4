/- A part of this proof: RtcpTells returns true for every input and leaves its arguments as they were; there are no conditions. -/
import Derived.Test.YtnpgmljphheabaaP6
import Derived.Test.YtnpgmljphheabaaProg
import Derived.KernelRfl
set_option linter.unusedVariables false
set_option linter.unusedSimpArgs false
set_option maxRecDepth 100000
namespace Go.Lk
open Go.RowKit Go.Proofs
noncomputable def limelightlaw6_RtcpTells (G_0 : (List Int)) (o_1 : Int) (p_2 : Int) (C_3 : api_Report) (o_4 : (List Int)) (d_5 : Int) (e_6 : Int) : Option Bool :=
 (limelightkeep_Tape_Report (⟨G_0, 0⟩ : limelightkeep_Tape)).bind fun x19 =>
 (limelightkeep_Tape_Report (⟨x19.2.L, x19.2.At⟩ : limelightkeep_Tape)).bind fun x37 =>
 (limelightkeep_Tape_Report (⟨x37.2.L, x37.2.At⟩ : limelightkeep_Tape)).bind fun x55 =>
 (limelightref6_Bytes ([x19.1, x37.1, x55.1] : List api_Report)).bind fun x80 =>
 (limelightbook_Within d_5 0 (sub .i64 (x80.1.length : Int) 1)).bind fun x95 =>
 (ix x80.1 x95).bind fun x103 =>
 (ix x80.1 x95).bind fun x112 =>
 (cutTo C_3.Tuples (mn (C_3.Tuples.length : Int) 9)).bind fun y127 =>
 (cutTo C_3.Abouts (mn (C_3.Abouts.length : Int) 20)).bind fun y135 =>
 (cutTo C_3.Numbers (mn (C_3.Numbers.length : Int) 20)).bind fun y143 =>
 ((
  (limelightlaw6_same ([x19.1, x37.1, x55.1] : List api_Report)).bind fun x159 =>
  if x159 = true then (
   (ix ([x19.1, x37.1, x55.1] : List api_Report) 0).bind fun x168 =>
   (ix ([x19.1, x37.1, x55.1] : List api_Report) 1).bind fun x183 =>
   (limelightlaw6_odd x168 o_1 p_2).bind fun x198 =>
   (limelightlaw6_same ([x198, x183] : List api_Report)).bind fun x221 =>
   if x221 = true then (
    (ix ([x19.1, x37.1, x55.1] : List api_Report) 2).bind fun x230 =>
    (ix ([x19.1, x37.1, x55.1] : List api_Report) 0).bind fun x245 =>
    (limelightlaw6_odd x245 o_1 (band .i64 p_2 511)).bind fun x260 =>
    (limelightlaw6_same ([x230, x260] : List api_Report)).bind fun x283 =>
    if x283 = true then (
     (limelightlaw6_same ([(⟨C_3.Kind, C_3.From, C_3.About, y127, y135, y143, C_3.Rate, C_3.Type_, C_3.Count, C_3.Body⟩ : api_Report)] : List api_Report)).bind fun x299 =>
     if x299 = true then (
      (limelightlaw6_reads (List.set x80.1 x95.toNat (bxor .u8 x103 e_6))).bind fun x308 =>
      if x308 = true then (
       (limelightlaw6_reads o_4).bind fun x317 =>
       if x317 = true then (
        (cutTo o_4 (mul .i64 (quo .i64 (o_4.length : Int) 4) 4)).bind fun y329 =>
        (app 1 ([bor .u8 128 (band .u8 e_6 31), 205, 0, cv .u8 (quo .i64 (o_4.length : Int) 4)] : List Int) y329).bind fun y340 =>
        (limelightlaw6_reads y340).bind fun x348 =>
        if x348 = true then (
         (ix ([x19.1, x37.1, x55.1] : List api_Report) 0).bind fun x357 =>
         (ix ([x19.1, x37.1, x55.1] : List api_Report) 0).bind fun x372 =>
         (rtcp_Same x357 (⟨C_3.Kind, C_3.From, C_3.About, y127, y135, y143, C_3.Rate, C_3.Type_, C_3.Count, C_3.Body⟩ : api_Report)).bind fun x387 =>
         (limelightref6_Same x372 (⟨C_3.Kind, C_3.From, C_3.About, y127, y135, y143, C_3.Rate, C_3.Type_, C_3.Count, C_3.Body⟩ : api_Report)).bind fun x395 =>
         if (x387 == x395) = true then (
          (limelightlaw6_known ).bind fun x404 =>
          some x404)
         else (
          some false))
        else (
         some false))
       else (
        some false))
      else (
       some false))
     else (
      some false))
    else (
     some false))
   else (
    some false))
  else (
   some false) : Option Bool)).bind fun p152 =>
 some p152
def Po4 (S0 : Mp) (w0 : World) (D : List Nat) (r : Bool) (v : Value) (w1 : World) : Prop :=
  ∃ (S1 : Mp), v = .bool r ∧ St w0 D S0 S1 [] w1
set_option maxHeartbeats 4000000 in
theorem c4 (S0 : Mp) {w0 : World} (hs : St w0 [] S0 S0 [] w0) (G_0 : (List Int)) (v1 : Value) (f2 : Rd S0 1 (RI .i64) v1 G_0) (o_1 : Int) (p_2 : Int) (C_3 : api_Report) (v3 : Value) (f4 : Rd S0 3 R_api_Tuple v3 C_3.Tuples) (v5 : Value) (f6 : Rd S0 1 (RI .u32) v5 C_3.Abouts) (v7 : Value) (f8 : Rd S0 1 (RI .i64) v7 C_3.Numbers) (v9 : Value) (f10 : Rd S0 1 (RI .u8) v9 C_3.Body) (o_4 : (List Int)) (v11 : Value) (f12 : Rd S0 1 (RI .u8) v11 o_4) (d_5 : Int) (e_6 : Int) (r : Bool) (h0 : limelightlaw6_RtcpTells G_0 o_1 p_2 C_3 o_4 d_5 e_6 = some r) :
    Calls Try.prog 4 #[v1, .int .i64 o_1, .int .i64 p_2, .agg (#[.int .i64 C_3.Kind, .int .u32 C_3.From, .int .u32 C_3.About, v3, v5, v7, .int .u64 C_3.Rate, .int .i64 C_3.Type_, .int .i64 C_3.Count, v9]), v11, .int .i64 d_5, .int .u8 e_6] w0 (Re (Po4 S0 w0 [] r)) := by
 unfold limelightlaw6_RtcpTells at h0
 refine calls_of_cd Try.func4 rfl Try.ntmps4 rfl ?_
 refine Cd.sr ?_
 refine Rg.step rfl (Oq.box (cs := #[.int .i64 C_3.Kind, .int .u32 C_3.From, .int .u32 C_3.About, v3, v5, v7, .int .u64 C_3.Rate, .int .i64 C_3.Type_, .int .i64 C_3.Count, v9]) hs rfl rfl rfl (fun b13 w14 hs => ?_))
 refine Rg.st rfl rfl ?_
 refine Rg.go ?_
 refine Cd.sr ?_
 refine Rg.mv rfl rfl ?_
 refine Rg.vN (X.build (zc := [.slice none 0 0, .int .i64 0]) (cells := [v1, .int .i64 0]) ii26 rfl rfl Try.underlying26 (pp26 _ Try.underlying26) ⟨_, [v1], _, rfl, rfl, f2.cells, rfl⟩ rfl) rfl ?_
 refine Rg.step rfl (Oq.box (cs := #[v1, .int .i64 0]) hs rfl rfl rfl (fun b16 w17 hs => ?_))
 refine Rg.st rfl rfl ?_
 refine Rg.go ?_
 refine Cd.sr ?_
 refine Rg.mv rfl rfl ?_
 obtain ⟨x19, hx20, h0⟩ := bind_s h0
 refine Rg.step rfl (Oq.call Try.call10 rfl rfl (c10 S0 _ (⟨G_0, 0⟩ : limelightkeep_Tape) _ f2 (hs.enter 0 rfl rfl) _ hx20) (fun v21 w22 h23 => ?_))
 obtain ⟨S24, v27, v29, v31, v33, v35, rfl, hs25, f28, f30, f32, f34, f36⟩ := h23
 have le26 := hs25.le
 have hs := hs.call1 0 rfl rfl hs25
 refine Rg.mv rfl rfl ?_
 obtain ⟨x37, hx38, h0⟩ := bind_s h0
 refine Rg.step rfl (Oq.call Try.call10 rfl rfl (c10 S24 _ (⟨x19.2.L, x19.2.At⟩ : limelightkeep_Tape) _ f36 (hs.enter 0 rfl rfl) _ hx38) (fun v39 w40 h41 => ?_))
 obtain ⟨S42, v45, v47, v49, v51, v53, rfl, hs43, f46, f48, f50, f52, f54⟩ := h41
 have le44 := hs43.le
 have hs := hs.call1 0 rfl rfl hs43
 refine Rg.mv rfl rfl ?_
 obtain ⟨x55, hx56, h0⟩ := bind_s h0
 refine Rg.step rfl (Oq.call Try.call10 rfl rfl (c10 S42 _ (⟨x37.2.L, x37.2.At⟩ : limelightkeep_Tape) _ f54 (hs.enter 0 rfl rfl) _ hx56) (fun v57 w58 h59 => ?_))
 obtain ⟨S60, v63, v65, v67, v69, v71, rfl, hs61, f64, f66, f68, f70, f72⟩ := h59
 have le62 := hs61.le
 have hs := hs.call1 0 rfl rfl hs61
 refine Rg.step rfl (Oq.lit (sz := 10) (cs0 := [.int .i64 0, .int .u32 0, .int .u32 0, .slice none 0 0, .slice none 0 0, .slice none 0 0, .int .u64 0, .int .i64 0, .int .i64 0, .slice none 0 0, .int .i64 0, .int .u32 0, .int .u32 0, .slice none 0 0, .slice none 0 0, .slice none 0 0, .int .u64 0, .int .i64 0, .int .i64 0, .slice none 0 0, .int .i64 0, .int .u32 0, .int .u32 0, .slice none 0 0, .slice none 0 0, .slice none 0 0, .int .u64 0, .int .i64 0, .int .i64 0, .slice none 0 0]) (cells := [.int .i64 x19.1.Kind, .int .u32 x19.1.From, .int .u32 x19.1.About, v27, v29, v31, .int .u64 x19.1.Rate, .int .i64 x19.1.Type_, .int .i64 x19.1.Count, v33, .int .i64 x37.1.Kind, .int .u32 x37.1.From, .int .u32 x37.1.About, v45, v47, v49, .int .u64 x37.1.Rate, .int .i64 x37.1.Type_, .int .i64 x37.1.Count, v51, .int .i64 x55.1.Kind, .int .u32 x55.1.From, .int .u32 x55.1.About, v63, v65, v67, .int .u64 x55.1.Rate, .int .i64 x55.1.Type_, .int .i64 x55.1.Count, v69]) hs Try.underlying36 ii33 rfl rfl rfl rfl rfl rfl ⟨_, [.int .i64 x19.1.Kind, .int .u32 x19.1.From, .int .u32 x19.1.About, v27, v29, v31, .int .u64 x19.1.Rate, .int .i64 x19.1.Type_, .int .i64 x19.1.Count, v33], _, rfl, rfl, rfl, ⟨_, [.int .i64 x37.1.Kind, .int .u32 x37.1.From, .int .u32 x37.1.About, v45, v47, v49, .int .u64 x37.1.Rate, .int .i64 x37.1.Type_, .int .i64 x37.1.Count, v51], _, rfl, rfl, rfl, ⟨_, [.int .i64 x55.1.Kind, .int .u32 x55.1.From, .int .u32 x55.1.About, v63, v65, v67, .int .u64 x55.1.Rate, .int .i64 x55.1.Type_, .int .i64 x55.1.Count, v69], _, rfl, rfl, rfl, rfl⟩⟩⟩ rfl rfl rfl (fun b73 w74 S75 hs le76 hE77 => ?_))
 have f79 : Rd S75 10 R_api_Report (.slice (some ⟨b73, 0, none⟩) 3 3) ([x19.1, x37.1, x55.1] : List api_Report) := Rd.of_cells (xs := ([x19.1, x37.1, x55.1] : List api_Report)) ⟨[.int .i64 x19.1.Kind, .int .u32 x19.1.From, .int .u32 x19.1.About, v27, v29, v31, .int .u64 x19.1.Rate, .int .i64 x19.1.Type_, .int .i64 x19.1.Count, v33], _, rfl, rfl, one_all ⟨rfl, rfl, rfl, (f28.mono (le44.trans (le62.trans le76))).one, (f30.mono (le44.trans (le62.trans le76))).one, (f32.mono (le44.trans (le62.trans le76))).one, rfl, rfl, rfl, (f34.mono (le44.trans (le62.trans le76))).one, trivial⟩, ⟨_, _, _, _, rfl, (f28.mono (le44.trans (le62.trans le76))), (f30.mono (le44.trans (le62.trans le76))), (f32.mono (le44.trans (le62.trans le76))), (f34.mono (le44.trans (le62.trans le76)))⟩, ⟨[.int .i64 x37.1.Kind, .int .u32 x37.1.From, .int .u32 x37.1.About, v45, v47, v49, .int .u64 x37.1.Rate, .int .i64 x37.1.Type_, .int .i64 x37.1.Count, v51], _, rfl, rfl, one_all ⟨rfl, rfl, rfl, (f46.mono (le62.trans le76)).one, (f48.mono (le62.trans le76)).one, (f50.mono (le62.trans le76)).one, rfl, rfl, rfl, (f52.mono (le62.trans le76)).one, trivial⟩, ⟨_, _, _, _, rfl, (f46.mono (le62.trans le76)), (f48.mono (le62.trans le76)), (f50.mono (le62.trans le76)), (f52.mono (le62.trans le76))⟩, ⟨[.int .i64 x55.1.Kind, .int .u32 x55.1.From, .int .u32 x55.1.About, v63, v65, v67, .int .u64 x55.1.Rate, .int .i64 x55.1.Type_, .int .i64 x55.1.Count, v69], _, rfl, rfl, one_all ⟨rfl, rfl, rfl, (f64.mono le76).one, (f66.mono le76).one, (f68.mono le76).one, rfl, rfl, rfl, (f70.mono le76).one, trivial⟩, ⟨_, _, _, _, rfl, (f64.mono le76), (f66.mono le76), (f68.mono le76), (f70.mono le76)⟩, rfl⟩⟩⟩ hE77 (Nat.le_of_ble_eq_true rfl) (Nat.le_of_ble_eq_true rfl)
 refine Rg.st rfl rfl ?_
 refine Rg.go ?_
 refine Cd.sr ?_
 refine Rg.mv rfl rfl ?_
 obtain ⟨x80, hx81, h0⟩ := bind_s h0
 refine Rg.step rfl (Oq.call Try.call13 rfl rfl (c13 S75 (St.start _ _ hs.has) _ _ f79 _ hx81) (fun v82 w83 h84 => ?_))
 obtain ⟨S85, v88, g90, rfl, hs86, f89⟩ := h84
 obtain ⟨S92, cur93, hs86, f94⟩ := hs86.unseal hs.has 0 rfl f89
 have le87 := hs86.le
 have hs := hs.call0 hs86
 refine Rg.mv rfl rfl ?_
 refine Rg.vN (X.extract rfl rfl) rfl ?_
 refine Rg.vN (X.extract rfl rfl) rfl ?_
 refine Rg.st rfl rfl ?_
 refine Rg.st rfl rfl ?_
 refine Rg.go ?_
 refine Cd.sr ?_
 refine Rg.mv rfl rfl ?_
 refine Rg.mv rfl rfl ?_
 refine Rg.weak [(1, .int .i64 o_1), (2, .int .i64 p_2), (4, v11), (6, .int .u8 e_6), (10, .pointer (some ⟨b13, 0, none⟩)), (16, .slice (some ⟨b73, 0, none⟩) 3 3), (17, v88), (34, v88), (35, .int .i64 d_5)] ⟨rfl, rfl, rfl, rfl, rfl, rfl, rfl, rfl, rfl, trivial⟩ ?_
 refine Rg.mv rfl rfl ?_
 refine Rg.vN (X.lenRw Try.underlying31 rfl f94) rfl ?_
 refine Rg.vN (X.sub rfl rfl) rfl ?_
 obtain ⟨x95, hx96, h0⟩ := bind_s h0
 refine Rg.step rfl (Oq.call Try.call16 rfl rfl (c16 S92 (St.start _ _ hs.has) _ _ _ _ hx96) (fun v97 w98 h99 => ?_))
 obtain ⟨S100, rfl, hs101⟩ := h99
 have le102 := hs101.le
 have hs := hs.call0 hs101
 obtain ⟨x103, hx104, h0⟩ := bind_s h0
 obtain ⟨b105, vals106, hg107, hl108, hR109, hC110, hX111⟩ := mk_rowix Try.underlying31 zz5 (f94.mono le102) hx104
 subst hg107
 obtain rfl : vals106 = [.int .u8 x103] := hR109
 refine Rg.vN (hX111 rfl rfl) rfl ?_
 refine Rg.vN (X.load1 Try.underlying5 rfl rfl (hs.rowcell 0 rfl (x95.toNat * 1 + 0) (hC110 0 _ rfl))) rfl ?_
 refine Rg.mv rfl rfl ?_
 refine Rg.vN (X.xor rfl rfl) rfl ?_
 obtain ⟨x112, hx113, h0⟩ := bind_s h0
 obtain ⟨b114, vals115, hg116, hl117, hR118, hC119, hX120⟩ := mk_rowix Try.underlying31 zz5 (f94.mono le102) hx113
 obtain rfl := Option.some.inj hg116
 obtain rfl : vals115 = [.int .u8 x112] := hR118
 refine Rg.vN (hX120 rfl rfl) rfl ?_
 refine Rg.step rfl (Oq.storeRow (x' := bxor .u8 x103 e_6) (f := 0) (vals := [.int .u8 x112]) hs 0 rfl (f94.mono le102) hx113 hl117 hC119 rfl zz5 rfl rfl rfl rfl rfl (fun w121 cur122 hs f123 => ?_))
 refine Rg.go ?_
 refine Cd.weak [(1, .int .i64 o_1), (2, .int .i64 p_2), (4, v11), (6, .int .u8 e_6), (10, .pointer (some ⟨b13, 0, none⟩)), (16, .slice (some ⟨b73, 0, none⟩) 3 3), (17, v88)] ⟨rfl, rfl, rfl, rfl, rfl, rfl, rfl, trivial⟩ ?_
 refine Cd.sr ?_
 refine Rg.vN (X.fieldB Try.underlying33 rfl zz28 rfl rfl) rfl ?_
 refine Rg.vN (X.load1 Try.underlying28 rfl rfl (hs.cell 3 rfl 3 rfl)) rfl ?_
 refine Rg.vN (X.fieldB Try.underlying33 rfl zz28 rfl rfl) rfl ?_
 refine Rg.vN (X.load1 Try.underlying28 rfl rfl (hs.cell 3 rfl 3 rfl)) rfl ?_
 refine Rg.vN (X.lenR Try.underlying28 rfl (f4.mono (le26.trans (le44.trans (le62.trans (le76.trans (le87.trans le102))))))) rfl ?_
 refine Rg.vN (X.min2 rfl rfl) rfl ?_
 obtain ⟨y127, hx128, h0⟩ := bind_s h0
 obtain ⟨hb129, he130⟩ := cutTo_s hx128
 obtain ⟨v124, f125, hX126⟩ := mk_sliceH Try.underlying28 zz57 (f4.mono (le26.trans (le44.trans (le62.trans (le76.trans (le87.trans le102)))))) hb129
 rw [he130] at f125
 refine Rg.vN (hX126 rfl rfl) rfl ?_
 refine Rg.vN (X.fieldB Try.underlying33 rfl zz28 rfl rfl) rfl ?_
 refine Rg.step rfl (Oq.store hs 3 rfl 3 zz28 rfl rfl f125.cells f125.one rfl [.row (some b105) cur122 5, .app (some b73) (.slice (some ⟨b73, 0, none⟩) 3 3) ([x19.1, x37.1, x55.1] : List api_Report).length 33 10, .box b16 #[v71, .int .i64 x55.2.At] 26, .box b13 #[.int .i64 C_3.Kind, .int .u32 C_3.From, .int .u32 C_3.About, v124, v5, v7, .int .u64 C_3.Rate, .int .i64 C_3.Type_, .int .i64 C_3.Count, v9] 33] rfl (fun w131 hs => ?_))
 refine Rg.go ?_
 refine Cd.weak [(1, .int .i64 o_1), (2, .int .i64 p_2), (4, v11), (6, .int .u8 e_6), (10, .pointer (some ⟨b13, 0, none⟩)), (16, .slice (some ⟨b73, 0, none⟩) 3 3), (17, v88)] ⟨rfl, rfl, rfl, rfl, rfl, rfl, rfl, trivial⟩ ?_
 refine Cd.sr ?_
 refine Rg.vN (X.fieldB Try.underlying33 rfl zz29 rfl rfl) rfl ?_
 refine Rg.vN (X.load1 Try.underlying29 rfl rfl (hs.cell 3 rfl 4 rfl)) rfl ?_
 refine Rg.vN (X.fieldB Try.underlying33 rfl zz29 rfl rfl) rfl ?_
 refine Rg.vN (X.load1 Try.underlying29 rfl rfl (hs.cell 3 rfl 4 rfl)) rfl ?_
 refine Rg.vN (X.lenR Try.underlying29 rfl (f6.mono (le26.trans (le44.trans (le62.trans (le76.trans (le87.trans le102))))))) rfl ?_
 refine Rg.vN (X.min2 rfl rfl) rfl ?_
 obtain ⟨y135, hx136, h0⟩ := bind_s h0
 obtain ⟨hb137, he138⟩ := cutTo_s hx136
 obtain ⟨v132, f133, hX134⟩ := mk_sliceH Try.underlying29 zz27 (f6.mono (le26.trans (le44.trans (le62.trans (le76.trans (le87.trans le102)))))) hb137
 rw [he138] at f133
 refine Rg.vN (hX134 rfl rfl) rfl ?_
 refine Rg.vN (X.fieldB Try.underlying33 rfl zz29 rfl rfl) rfl ?_
 refine Rg.step rfl (Oq.store hs 3 rfl 4 zz29 rfl rfl f133.cells f133.one rfl [.row (some b105) cur122 5, .app (some b73) (.slice (some ⟨b73, 0, none⟩) 3 3) ([x19.1, x37.1, x55.1] : List api_Report).length 33 10, .box b16 #[v71, .int .i64 x55.2.At] 26, .box b13 #[.int .i64 C_3.Kind, .int .u32 C_3.From, .int .u32 C_3.About, v124, v132, v7, .int .u64 C_3.Rate, .int .i64 C_3.Type_, .int .i64 C_3.Count, v9] 33] rfl (fun w139 hs => ?_))
 refine Rg.go ?_
 refine Cd.weak [(1, .int .i64 o_1), (2, .int .i64 p_2), (4, v11), (6, .int .u8 e_6), (10, .pointer (some ⟨b13, 0, none⟩)), (16, .slice (some ⟨b73, 0, none⟩) 3 3), (17, v88)] ⟨rfl, rfl, rfl, rfl, rfl, rfl, rfl, trivial⟩ ?_
 refine Cd.sr ?_
 refine Rg.vN (X.fieldB Try.underlying33 rfl zz23 rfl rfl) rfl ?_
 refine Rg.vN (X.load1 Try.underlying23 rfl rfl (hs.cell 3 rfl 5 rfl)) rfl ?_
 refine Rg.vN (X.fieldB Try.underlying33 rfl zz23 rfl rfl) rfl ?_
 refine Rg.vN (X.load1 Try.underlying23 rfl rfl (hs.cell 3 rfl 5 rfl)) rfl ?_
 refine Rg.vN (X.lenR Try.underlying23 rfl (f8.mono (le26.trans (le44.trans (le62.trans (le76.trans (le87.trans le102))))))) rfl ?_
 refine Rg.vN (X.min2 rfl rfl) rfl ?_
 obtain ⟨y143, hx144, h0⟩ := bind_s h0
 obtain ⟨hb145, he146⟩ := cutTo_s hx144
 obtain ⟨v140, f141, hX142⟩ := mk_sliceH Try.underlying23 zz3 (f8.mono (le26.trans (le44.trans (le62.trans (le76.trans (le87.trans le102)))))) hb145
 rw [he146] at f141
 refine Rg.vN (hX142 rfl rfl) rfl ?_
 refine Rg.vN (X.fieldB Try.underlying33 rfl zz23 rfl rfl) rfl ?_
 refine Rg.step rfl (Oq.store hs 3 rfl 5 zz23 rfl rfl f141.cells f141.one rfl [.row (some b105) cur122 5, .app (some b73) (.slice (some ⟨b73, 0, none⟩) 3 3) ([x19.1, x37.1, x55.1] : List api_Report).length 33 10, .box b16 #[v71, .int .i64 x55.2.At] 26, .box b13 #[.int .i64 C_3.Kind, .int .u32 C_3.From, .int .u32 C_3.About, v124, v132, v140, .int .u64 C_3.Rate, .int .i64 C_3.Type_, .int .i64 C_3.Count, v9] 33] rfl (fun w147 hs => ?_))
 refine Rg.go ?_
 refine Cd.weak [(1, .int .i64 o_1), (2, .int .i64 p_2), (4, v11), (6, .int .u8 e_6), (10, .pointer (some ⟨b13, 0, none⟩)), (16, .slice (some ⟨b73, 0, none⟩) 3 3), (17, v88)] ⟨rfl, rfl, rfl, rfl, rfl, rfl, rfl, trivial⟩ ?_
 refine Cd.seq ?_
 obtain ⟨S148, hs, le149, f150⟩ := hs.sealRow 0 rfl f123
 obtain ⟨p152, hp153, h0⟩ := bind_s h0
 refine Cd.post (fun K w => ∃ (S154 : Mp), K = [(14, .bool p152)] ∧ Le S148 S154 ∧ St w0 [] S0 S154 [] w) ?_ ?_
 ·rintro K157 w155 ⟨S154, rfl, le156, hs⟩
  refine Cd.go ?_
  refine Cd.ret ?_
  obtain rfl := some_s h0
  exact fun a ha => Cd.retA (R := Re (Po4 S0 w0 [] _)) ha Try.results4 ⟨_, _, rfl, rfl, rfl⟩ ⟨_, rfl, S154, rfl, hs⟩
 ·skip
  refine Cd.rD mixed (fun l w => Has S148 w ∧ Hp b13 #[.int .i64 C_3.Kind, .int .u32 C_3.From, .int .u32 C_3.About, v124, v132, v140, .int .u64 C_3.Rate, .int .i64 C_3.Type_, .int .i64 C_3.Count, v9] 33 w) hs (fun _ _ _ _ _ h => h) (by kernel_rfl) (fun w158 hs => ⟨⟨hs.has, (hs.heap 3 rfl)⟩, ?_⟩)
  refine Rk.tN 0 rfl rfl (fun _ _ => X.move rfl) ?_
  obtain ⟨x159, hx160, hp153⟩ := bind_s hp153
  refine Rk.eN 1 rfl rfl (Oq.call Try.call11 rfl rfl (c11 S148 (St.start _ _ hs.has) _ _ (f79.mono (le87.trans (le102.trans le149))) _ hx160) (fun v161 w162 h163 => ?_))
  obtain ⟨S164, rfl, hs165⟩ := h163
  have le166 := hs165.le
  have hs := hs.call0 hs165
  refine ⟨⟨(hs.has.down le166), (hs.heap 3 rfl)⟩, Rk.mk (C' := fun l w => Has S164 w ∧ Hp b13 #[.int .i64 C_3.Kind, .int .u32 C_3.From, .int .u32 C_3.About, v124, v132, v140, .int .u64 C_3.Rate, .int .i64 C_3.Type_, .int .i64 C_3.Count, v9] 33 w) ⟨hs.has, (hs.heap 3 rfl)⟩ (fun l w hc => ⟨hc.1.down le166, hc.2⟩) ?_⟩
  refine Rk.tN 2 rfl rfl (fun _ _ => X.move rfl) ?_
  refine Rk.tT 3 rfl rfl rfl rfl (fun hW => fun _ _ => X.move rfl) ?_
  refine Rk.tT 6 rfl rfl rfl rfl (fun hW => fun _ _ => X.move rfl) ?_
  refine Rk.tT 7 rfl rfl rfl rfl (fun hW => fun _ _ => X.move rfl) ?_
  refine Rk.tT 9 rfl rfl rfl rfl (fun hW => fun _ _ => X.move rfl) ?_
  refine Rk.split (b := x159) (tj := 71) rfl (fun hc167 => ?_) (fun hc167 => ?_)
  ·have hp153 := ite_t hc167 hp153
   refine Rk.weak [(1, .int .i64 o_1), (2, .int .i64 p_2), (4, v11), (6, .int .u8 e_6), (10, .pointer (some ⟨b13, 0, none⟩)), (16, .slice (some ⟨b73, 0, none⟩) 3 3), (17, v88), (71, .bool true), (72, .slice (some ⟨b73, 0, none⟩) 3 3), (75, .int .i64 o_1), (76, .int .i64 p_2), (78, .slice (some ⟨b73, 0, none⟩) 3 3)] ⟨rfl, rfl, rfl, rfl, rfl, rfl, rfl, rfl, get_g rfl hc167, get_g rfl hc167, get_g rfl hc167, get_g rfl hc167, trivial⟩ ?_
   obtain ⟨x168, hx169, hp153⟩ := bind_s hp153
   obtain ⟨ad170, vals171, _, hR172, hE173, hX174⟩ := mk_index Try.underlying36 zz33 (by decide) (f79.mono (le87.trans (le102.trans (le149.trans le166)))) hx169
   unfold R_api_Report at hR172
   obtain ⟨v175, v177, v179, v181, rfl, f176, f178, f180, f182⟩ := hR172
   refine Rk.tT 4 rfl rfl rfl rfl (fun hW => fun _ _ => hX174 rfl rfl) ?_
   refine Rk.tT 5 rfl rfl rfl rfl (fun hW => fun w hc => X.loadE (vals := [.int .i64 x168.Kind, .int .u32 x168.From, .int .u32 x168.About, v175, v177, v179, .int .u64 x168.Rate, .int .i64 x168.Type_, .int .i64 x168.Count, v181]) hc.1 Try.underlying33 rfl zz33 rfl hE173) ?_
   obtain ⟨x183, hx184, hp153⟩ := bind_s hp153
   obtain ⟨ad185, vals186, _, hR187, hE188, hX189⟩ := mk_index Try.underlying36 zz33 (by decide) (f79.mono (le87.trans (le102.trans (le149.trans le166)))) hx184
   unfold R_api_Report at hR187
   obtain ⟨v190, v192, v194, v196, rfl, f191, f193, f195, f197⟩ := hR187
   refine Rk.tT 10 rfl rfl rfl rfl (fun hW => fun _ _ => hX189 rfl rfl) ?_
   refine Rk.tT 11 rfl rfl rfl rfl (fun hW => fun w hc => X.loadE (vals := [.int .i64 x183.Kind, .int .u32 x183.From, .int .u32 x183.About, v190, v192, v194, .int .u64 x183.Rate, .int .i64 x183.Type_, .int .i64 x183.Count, v196]) hc.1 Try.underlying33 rfl zz33 rfl hE188) ?_
   obtain ⟨x198, hx199, hp153⟩ := bind_s hp153
   refine Rk.eG 8 rfl rfl rfl rfl (Oq.call Try.call12 rfl rfl (c12 S164 (St.start _ _ hs.has) x168 _ f176 _ f178 _ f180 _ f182 _ _ _ hx199) (fun v200 w201 h202 => ?_))
   obtain ⟨S203, v206, v208, v210, v212, rfl, hs204, f207, f209, f211, f213⟩ := h202
   have le205 := hs204.le
   have hs := hs.call0 hs204
   refine ⟨⟨(hs.has.down le205), (hs.heap 3 rfl)⟩, Rk.mk (C' := fun l w => Has S203 w ∧ Hp b13 #[.int .i64 C_3.Kind, .int .u32 C_3.From, .int .u32 C_3.About, v124, v132, v140, .int .u64 C_3.Rate, .int .i64 C_3.Type_, .int .i64 C_3.Count, v9] 33 w) ⟨hs.has, (hs.heap 3 rfl)⟩ (fun l w hc => ⟨hc.1.down le205, hc.2⟩) ?_⟩
   refine Rk.eG 12 rfl rfl rfl rfl (Oq.lit (sz := 10) (cs0 := [.int .i64 0, .int .u32 0, .int .u32 0, .slice none 0 0, .slice none 0 0, .slice none 0 0, .int .u64 0, .int .i64 0, .int .i64 0, .slice none 0 0, .int .i64 0, .int .u32 0, .int .u32 0, .slice none 0 0, .slice none 0 0, .slice none 0 0, .int .u64 0, .int .i64 0, .int .i64 0, .slice none 0 0]) (cells := [.int .i64 x198.Kind, .int .u32 x198.From, .int .u32 x198.About, v206, v208, v210, .int .u64 x198.Rate, .int .i64 x198.Type_, .int .i64 x198.Count, v212, .int .i64 x183.Kind, .int .u32 x183.From, .int .u32 x183.About, v190, v192, v194, .int .u64 x183.Rate, .int .i64 x183.Type_, .int .i64 x183.Count, v196]) hs Try.underlying36 ii33 rfl rfl rfl rfl rfl rfl ⟨_, [.int .i64 x198.Kind, .int .u32 x198.From, .int .u32 x198.About, v206, v208, v210, .int .u64 x198.Rate, .int .i64 x198.Type_, .int .i64 x198.Count, v212], _, rfl, rfl, rfl, ⟨_, [.int .i64 x183.Kind, .int .u32 x183.From, .int .u32 x183.About, v190, v192, v194, .int .u64 x183.Rate, .int .i64 x183.Type_, .int .i64 x183.Count, v196], _, rfl, rfl, rfl, rfl⟩⟩ rfl rfl rfl (fun b214 w215 S216 hs le217 hE218 => ?_))
   have f220 : Rd S216 10 R_api_Report (.slice (some ⟨b214, 0, none⟩) 2 2) ([x198, x183] : List api_Report) := Rd.of_cells (xs := ([x198, x183] : List api_Report)) ⟨[.int .i64 x198.Kind, .int .u32 x198.From, .int .u32 x198.About, v206, v208, v210, .int .u64 x198.Rate, .int .i64 x198.Type_, .int .i64 x198.Count, v212], _, rfl, rfl, one_all ⟨rfl, rfl, rfl, (f207.mono le217).one, (f209.mono le217).one, (f211.mono le217).one, rfl, rfl, rfl, (f213.mono le217).one, trivial⟩, ⟨_, _, _, _, rfl, (f207.mono le217), (f209.mono le217), (f211.mono le217), (f213.mono le217)⟩, ⟨[.int .i64 x183.Kind, .int .u32 x183.From, .int .u32 x183.About, v190, v192, v194, .int .u64 x183.Rate, .int .i64 x183.Type_, .int .i64 x183.Count, v196], _, rfl, rfl, one_all ⟨rfl, rfl, rfl, (f191.mono (le205.trans le217)).one, (f193.mono (le205.trans le217)).one, (f195.mono (le205.trans le217)).one, rfl, rfl, rfl, (f197.mono (le205.trans le217)).one, trivial⟩, ⟨_, _, _, _, rfl, (f191.mono (le205.trans le217)), (f193.mono (le205.trans le217)), (f195.mono (le205.trans le217)), (f197.mono (le205.trans le217))⟩, rfl⟩⟩ hE218 (Nat.le_of_ble_eq_true rfl) (Nat.le_of_ble_eq_true rfl)
   refine ⟨⟨(hs.has.down le217), (hs.heap 4 rfl)⟩, Rk.mk (C' := fun l w => Has S216 w ∧ Hp b13 #[.int .i64 C_3.Kind, .int .u32 C_3.From, .int .u32 C_3.About, v124, v132, v140, .int .u64 C_3.Rate, .int .i64 C_3.Type_, .int .i64 C_3.Count, v9] 33 w) ⟨hs.has, (hs.heap 4 rfl)⟩ (fun l w hc => ⟨hc.1.down le217, hc.2⟩) ?_⟩
   obtain ⟨x221, hx222, hp153⟩ := bind_s hp153
   refine Rk.eG 13 rfl rfl rfl rfl (Oq.call Try.call11 rfl rfl (c11 S216 (St.start _ _ hs.has) _ _ f220 _ hx222) (fun v223 w224 h225 => ?_))
   obtain ⟨S226, rfl, hs227⟩ := h225
   have le228 := hs227.le
   have hs := hs.call0 hs227
   refine ⟨⟨(hs.has.down le228), (hs.heap 4 rfl)⟩, Rk.mk (C' := fun l w => Has S226 w ∧ Hp b13 #[.int .i64 C_3.Kind, .int .u32 C_3.From, .int .u32 C_3.About, v124, v132, v140, .int .u64 C_3.Rate, .int .i64 C_3.Type_, .int .i64 C_3.Count, v9] 33 w) ⟨hs.has, (hs.heap 4 rfl)⟩ (fun l w hc => ⟨hc.1.down le228, hc.2⟩) ?_⟩
   refine Rk.tN 14 rfl rfl (fun _ _ => X.pickT rfl rfl) ?_
   refine Rk.tN 15 rfl rfl (fun _ _ => X.move rfl) ?_
   refine Rk.tT 16 rfl rfl rfl rfl (fun hW => fun _ _ => X.move rfl) ?_
   refine Rk.tT 19 rfl rfl rfl rfl (fun hW => fun _ _ => X.move rfl) ?_
   refine Rk.tT 22 rfl rfl rfl rfl (fun hW => fun _ _ => X.move rfl) ?_
   refine Rk.tT 23 rfl rfl rfl rfl (fun hW => fun _ _ => X.move rfl) ?_
   refine Rk.tT 24 rfl rfl rfl rfl (fun hW => fun _ _ => X.and (ev_g rfl hW) rfl) ?_
   refine Rk.split (b := x221) (tj := 84) rfl (fun hc229 => ?_) (fun hc229 => ?_)
   ·have hp153 := ite_t hc229 hp153
    refine Rk.weak [(4, v11), (6, .int .u8 e_6), (10, .pointer (some ⟨b13, 0, none⟩)), (16, .slice (some ⟨b73, 0, none⟩) 3 3), (17, v88), (84, .bool true), (85, .slice (some ⟨b73, 0, none⟩) 3 3), (88, .slice (some ⟨b73, 0, none⟩) 3 3), (91, .int .i64 o_1), (93, .int .i64 (band .i64 p_2 511))] ⟨rfl, rfl, rfl, rfl, rfl, rfl, get_g rfl hc229, get_g rfl hc229, get_g rfl hc229, get_g rfl hc229, trivial⟩ ?_
    obtain ⟨x230, hx231, hp153⟩ := bind_s hp153
    obtain ⟨ad232, vals233, _, hR234, hE235, hX236⟩ := mk_index Try.underlying36 zz33 (by decide) (f79.mono (le87.trans (le102.trans (le149.trans (le166.trans (le205.trans (le217.trans le228))))))) hx231
    unfold R_api_Report at hR234
    obtain ⟨v237, v239, v241, v243, rfl, f238, f240, f242, f244⟩ := hR234
    refine Rk.tT 17 rfl rfl rfl rfl (fun hW => fun _ _ => hX236 rfl rfl) ?_
    refine Rk.tT 18 rfl rfl rfl rfl (fun hW => fun w hc => X.loadE (vals := [.int .i64 x230.Kind, .int .u32 x230.From, .int .u32 x230.About, v237, v239, v241, .int .u64 x230.Rate, .int .i64 x230.Type_, .int .i64 x230.Count, v243]) hc.1 Try.underlying33 rfl zz33 rfl hE235) ?_
    obtain ⟨x245, hx246, hp153⟩ := bind_s hp153
    obtain ⟨ad247, vals248, _, hR249, hE250, hX251⟩ := mk_index Try.underlying36 zz33 (by decide) (f79.mono (le87.trans (le102.trans (le149.trans (le166.trans (le205.trans (le217.trans le228))))))) hx246
    unfold R_api_Report at hR249
    obtain ⟨v252, v254, v256, v258, rfl, f253, f255, f257, f259⟩ := hR249
    refine Rk.tT 20 rfl rfl rfl rfl (fun hW => fun _ _ => hX251 rfl rfl) ?_
    refine Rk.tT 21 rfl rfl rfl rfl (fun hW => fun w hc => X.loadE (vals := [.int .i64 x245.Kind, .int .u32 x245.From, .int .u32 x245.About, v252, v254, v256, .int .u64 x245.Rate, .int .i64 x245.Type_, .int .i64 x245.Count, v258]) hc.1 Try.underlying33 rfl zz33 rfl hE250) ?_
    obtain ⟨x260, hx261, hp153⟩ := bind_s hp153
    refine Rk.eG 25 rfl rfl rfl rfl (Oq.call Try.call12 rfl rfl (c12 S226 (St.start _ _ hs.has) x245 _ f253 _ f255 _ f257 _ f259 _ _ _ hx261) (fun v262 w263 h264 => ?_))
    obtain ⟨S265, v268, v270, v272, v274, rfl, hs266, f269, f271, f273, f275⟩ := h264
    have le267 := hs266.le
    have hs := hs.call0 hs266
    refine ⟨⟨(hs.has.down le267), (hs.heap 4 rfl)⟩, Rk.mk (C' := fun l w => Has S265 w ∧ Hp b13 #[.int .i64 C_3.Kind, .int .u32 C_3.From, .int .u32 C_3.About, v124, v132, v140, .int .u64 C_3.Rate, .int .i64 C_3.Type_, .int .i64 C_3.Count, v9] 33 w) ⟨hs.has, (hs.heap 4 rfl)⟩ (fun l w hc => ⟨hc.1.down le267, hc.2⟩) ?_⟩
    refine Rk.eG 26 rfl rfl rfl rfl (Oq.lit (sz := 10) (cs0 := [.int .i64 0, .int .u32 0, .int .u32 0, .slice none 0 0, .slice none 0 0, .slice none 0 0, .int .u64 0, .int .i64 0, .int .i64 0, .slice none 0 0, .int .i64 0, .int .u32 0, .int .u32 0, .slice none 0 0, .slice none 0 0, .slice none 0 0, .int .u64 0, .int .i64 0, .int .i64 0, .slice none 0 0]) (cells := [.int .i64 x230.Kind, .int .u32 x230.From, .int .u32 x230.About, v237, v239, v241, .int .u64 x230.Rate, .int .i64 x230.Type_, .int .i64 x230.Count, v243, .int .i64 x260.Kind, .int .u32 x260.From, .int .u32 x260.About, v268, v270, v272, .int .u64 x260.Rate, .int .i64 x260.Type_, .int .i64 x260.Count, v274]) hs Try.underlying36 ii33 rfl rfl rfl rfl rfl rfl ⟨_, [.int .i64 x230.Kind, .int .u32 x230.From, .int .u32 x230.About, v237, v239, v241, .int .u64 x230.Rate, .int .i64 x230.Type_, .int .i64 x230.Count, v243], _, rfl, rfl, rfl, ⟨_, [.int .i64 x260.Kind, .int .u32 x260.From, .int .u32 x260.About, v268, v270, v272, .int .u64 x260.Rate, .int .i64 x260.Type_, .int .i64 x260.Count, v274], _, rfl, rfl, rfl, rfl⟩⟩ rfl rfl rfl (fun b276 w277 S278 hs le279 hE280 => ?_))
    have f282 : Rd S278 10 R_api_Report (.slice (some ⟨b276, 0, none⟩) 2 2) ([x230, x260] : List api_Report) := Rd.of_cells (xs := ([x230, x260] : List api_Report)) ⟨[.int .i64 x230.Kind, .int .u32 x230.From, .int .u32 x230.About, v237, v239, v241, .int .u64 x230.Rate, .int .i64 x230.Type_, .int .i64 x230.Count, v243], _, rfl, rfl, one_all ⟨rfl, rfl, rfl, (f238.mono (le267.trans le279)).one, (f240.mono (le267.trans le279)).one, (f242.mono (le267.trans le279)).one, rfl, rfl, rfl, (f244.mono (le267.trans le279)).one, trivial⟩, ⟨_, _, _, _, rfl, (f238.mono (le267.trans le279)), (f240.mono (le267.trans le279)), (f242.mono (le267.trans le279)), (f244.mono (le267.trans le279))⟩, ⟨[.int .i64 x260.Kind, .int .u32 x260.From, .int .u32 x260.About, v268, v270, v272, .int .u64 x260.Rate, .int .i64 x260.Type_, .int .i64 x260.Count, v274], _, rfl, rfl, one_all ⟨rfl, rfl, rfl, (f269.mono le279).one, (f271.mono le279).one, (f273.mono le279).one, rfl, rfl, rfl, (f275.mono le279).one, trivial⟩, ⟨_, _, _, _, rfl, (f269.mono le279), (f271.mono le279), (f273.mono le279), (f275.mono le279)⟩, rfl⟩⟩ hE280 (Nat.le_of_ble_eq_true rfl) (Nat.le_of_ble_eq_true rfl)
    refine ⟨⟨(hs.has.down le279), (hs.heap 5 rfl)⟩, Rk.mk (C' := fun l w => Has S278 w ∧ Hp b13 #[.int .i64 C_3.Kind, .int .u32 C_3.From, .int .u32 C_3.About, v124, v132, v140, .int .u64 C_3.Rate, .int .i64 C_3.Type_, .int .i64 C_3.Count, v9] 33 w) ⟨hs.has, (hs.heap 5 rfl)⟩ (fun l w hc => ⟨hc.1.down le279, hc.2⟩) ?_⟩
    obtain ⟨x283, hx284, hp153⟩ := bind_s hp153
    refine Rk.eG 27 rfl rfl rfl rfl (Oq.call Try.call11 rfl rfl (c11 S278 (St.start _ _ hs.has) _ _ f282 _ hx284) (fun v285 w286 h287 => ?_))
    obtain ⟨S288, rfl, hs289⟩ := h287
    have le290 := hs289.le
    have hs := hs.call0 hs289
    refine ⟨⟨(hs.has.down le290), (hs.heap 5 rfl)⟩, Rk.mk (C' := fun l w => Has S288 w ∧ Hp b13 #[.int .i64 C_3.Kind, .int .u32 C_3.From, .int .u32 C_3.About, v124, v132, v140, .int .u64 C_3.Rate, .int .i64 C_3.Type_, .int .i64 C_3.Count, v9] 33 w) ⟨hs.has, (hs.heap 5 rfl)⟩ (fun l w hc => ⟨hc.1.down le290, hc.2⟩) ?_⟩
    refine Rk.tN 28 rfl rfl (fun _ _ => X.pickT rfl rfl) ?_
    refine Rk.tN 29 rfl rfl (fun _ _ => X.move rfl) ?_
    refine Rk.tT 30 rfl rfl rfl rfl (fun hW => fun w hc => X.loadN (vals := [.int .i64 C_3.Kind, .int .u32 C_3.From, .int .u32 C_3.About, v124, v132, v140, .int .u64 C_3.Rate, .int .i64 C_3.Type_, .int .i64 C_3.Count, v9]) Try.underlying33 rfl zz33 rfl (heap_range hc.2 0 rfl)) ?_
    refine Rk.split (b := x283) (tj := 98) rfl (fun hc291 => ?_) (fun hc291 => ?_)
    ·have hp153 := ite_t hc291 hp153
     refine Rk.weak [(4, v11), (6, .int .u8 e_6), (10, .pointer (some ⟨b13, 0, none⟩)), (16, .slice (some ⟨b73, 0, none⟩) 3 3), (17, v88), (98, .bool true), (99, .agg (#[.int .i64 C_3.Kind, .int .u32 C_3.From, .int .u32 C_3.About, v124, v132, v140, .int .u64 C_3.Rate, .int .i64 C_3.Type_, .int .i64 C_3.Count, v9]))] ⟨rfl, rfl, rfl, rfl, rfl, rfl, get_g rfl hc291, trivial⟩ ?_
     refine Rk.eG 31 rfl rfl rfl rfl (Oq.lit (sz := 10) (cs0 := [.int .i64 0, .int .u32 0, .int .u32 0, .slice none 0 0, .slice none 0 0, .slice none 0 0, .int .u64 0, .int .i64 0, .int .i64 0, .slice none 0 0]) (cells := [.int .i64 C_3.Kind, .int .u32 C_3.From, .int .u32 C_3.About, v124, v132, v140, .int .u64 C_3.Rate, .int .i64 C_3.Type_, .int .i64 C_3.Count, v9]) hs Try.underlying36 ii33 rfl rfl rfl rfl rfl rfl ⟨_, [.int .i64 C_3.Kind, .int .u32 C_3.From, .int .u32 C_3.About, v124, v132, v140, .int .u64 C_3.Rate, .int .i64 C_3.Type_, .int .i64 C_3.Count, v9], _, rfl, rfl, rfl, rfl⟩ rfl rfl rfl (fun b292 w293 S294 hs le295 hE296 => ?_))
     have f298 : Rd S294 10 R_api_Report (.slice (some ⟨b292, 0, none⟩) 1 1) ([(⟨C_3.Kind, C_3.From, C_3.About, y127, y135, y143, C_3.Rate, C_3.Type_, C_3.Count, C_3.Body⟩ : api_Report)] : List api_Report) := Rd.of_cells (xs := ([(⟨C_3.Kind, C_3.From, C_3.About, y127, y135, y143, C_3.Rate, C_3.Type_, C_3.Count, C_3.Body⟩ : api_Report)] : List api_Report)) ⟨[.int .i64 C_3.Kind, .int .u32 C_3.From, .int .u32 C_3.About, v124, v132, v140, .int .u64 C_3.Rate, .int .i64 C_3.Type_, .int .i64 C_3.Count, v9], _, rfl, rfl, one_all ⟨rfl, rfl, rfl, (f125.mono (le149.trans (le166.trans (le205.trans (le217.trans (le228.trans (le267.trans (le279.trans (le290.trans le295))))))))).one, (f133.mono (le149.trans (le166.trans (le205.trans (le217.trans (le228.trans (le267.trans (le279.trans (le290.trans le295))))))))).one, (f141.mono (le149.trans (le166.trans (le205.trans (le217.trans (le228.trans (le267.trans (le279.trans (le290.trans le295))))))))).one, rfl, rfl, rfl, (f10.mono (le26.trans (le44.trans (le62.trans (le76.trans (le87.trans (le102.trans (le149.trans (le166.trans (le205.trans (le217.trans (le228.trans (le267.trans (le279.trans (le290.trans le295))))))))))))))).one, trivial⟩, ⟨_, _, _, _, rfl, (f125.mono (le149.trans (le166.trans (le205.trans (le217.trans (le228.trans (le267.trans (le279.trans (le290.trans le295))))))))), (f133.mono (le149.trans (le166.trans (le205.trans (le217.trans (le228.trans (le267.trans (le279.trans (le290.trans le295))))))))), (f141.mono (le149.trans (le166.trans (le205.trans (le217.trans (le228.trans (le267.trans (le279.trans (le290.trans le295))))))))), (f10.mono (le26.trans (le44.trans (le62.trans (le76.trans (le87.trans (le102.trans (le149.trans (le166.trans (le205.trans (le217.trans (le228.trans (le267.trans (le279.trans (le290.trans le295)))))))))))))))⟩, rfl⟩ hE296 (Nat.le_of_ble_eq_true rfl) (Nat.le_of_ble_eq_true rfl)
     refine ⟨⟨(hs.has.down le295), (hs.heap 6 rfl)⟩, Rk.mk (C' := fun l w => Has S294 w ∧ Hp b13 #[.int .i64 C_3.Kind, .int .u32 C_3.From, .int .u32 C_3.About, v124, v132, v140, .int .u64 C_3.Rate, .int .i64 C_3.Type_, .int .i64 C_3.Count, v9] 33 w) ⟨hs.has, (hs.heap 6 rfl)⟩ (fun l w hc => ⟨hc.1.down le295, hc.2⟩) ?_⟩
     obtain ⟨x299, hx300, hp153⟩ := bind_s hp153
     refine Rk.eG 32 rfl rfl rfl rfl (Oq.call Try.call11 rfl rfl (c11 S294 (St.start _ _ hs.has) _ _ f298 _ hx300) (fun v301 w302 h303 => ?_))
     obtain ⟨S304, rfl, hs305⟩ := h303
     have le306 := hs305.le
     have hs := hs.call0 hs305
     refine ⟨⟨(hs.has.down le306), (hs.heap 6 rfl)⟩, Rk.mk (C' := fun l w => Has S304 w ∧ Hp b13 #[.int .i64 C_3.Kind, .int .u32 C_3.From, .int .u32 C_3.About, v124, v132, v140, .int .u64 C_3.Rate, .int .i64 C_3.Type_, .int .i64 C_3.Count, v9] 33 w) ⟨hs.has, (hs.heap 6 rfl)⟩ (fun l w hc => ⟨hc.1.down le306, hc.2⟩) ?_⟩
     refine Rk.tN 33 rfl rfl (fun _ _ => X.pickT rfl rfl) ?_
     refine Rk.tN 34 rfl rfl (fun _ _ => X.move rfl) ?_
     refine Rk.tT 35 rfl rfl rfl rfl (fun hW => fun _ _ => X.move rfl) ?_
     refine Rk.split (b := x299) (tj := 103) rfl (fun hc307 => ?_) (fun hc307 => ?_)
     ·have hp153 := ite_t hc307 hp153
      refine Rk.weak [(4, v11), (6, .int .u8 e_6), (10, .pointer (some ⟨b13, 0, none⟩)), (16, .slice (some ⟨b73, 0, none⟩) 3 3), (103, .bool true), (104, v88)] ⟨rfl, rfl, rfl, rfl, rfl, get_g rfl hc307, trivial⟩ ?_
      obtain ⟨x308, hx309, hp153⟩ := bind_s hp153
      refine Rk.eG 36 rfl rfl rfl rfl (Oq.call Try.call14 rfl rfl (c14 S304 (St.start _ _ hs.has) _ _ (f150.mono (le166.trans (le205.trans (le217.trans (le228.trans (le267.trans (le279.trans (le290.trans (le295.trans le306))))))))) _ hx309) (fun v310 w311 h312 => ?_))
      obtain ⟨S313, rfl, hs314⟩ := h312
      have le315 := hs314.le
      have hs := hs.call0 hs314
      refine ⟨⟨(hs.has.down le315), (hs.heap 6 rfl)⟩, Rk.mk (C' := fun l w => Has S313 w ∧ Hp b13 #[.int .i64 C_3.Kind, .int .u32 C_3.From, .int .u32 C_3.About, v124, v132, v140, .int .u64 C_3.Rate, .int .i64 C_3.Type_, .int .i64 C_3.Count, v9] 33 w) ⟨hs.has, (hs.heap 6 rfl)⟩ (fun l w hc => ⟨hc.1.down le315, hc.2⟩) ?_⟩
      refine Rk.tN 37 rfl rfl (fun _ _ => X.pickT rfl rfl) ?_
      refine Rk.tN 38 rfl rfl (fun _ _ => X.move rfl) ?_
      refine Rk.tT 39 rfl rfl rfl rfl (fun hW => fun _ _ => X.move rfl) ?_
      refine Rk.split (b := x308) (tj := 107) rfl (fun hc316 => ?_) (fun hc316 => ?_)
      ·have hp153 := ite_t hc316 hp153
       refine Rk.weak [(4, v11), (6, .int .u8 e_6), (10, .pointer (some ⟨b13, 0, none⟩)), (16, .slice (some ⟨b73, 0, none⟩) 3 3), (107, .bool true), (108, v11)] ⟨rfl, rfl, rfl, rfl, rfl, get_g rfl hc316, trivial⟩ ?_
       obtain ⟨x317, hx318, hp153⟩ := bind_s hp153
       refine Rk.eG 40 rfl rfl rfl rfl (Oq.call Try.call14 rfl rfl (c14 S313 (St.start _ _ hs.has) _ _ (f12.mono (le26.trans (le44.trans (le62.trans (le76.trans (le87.trans (le102.trans (le149.trans (le166.trans (le205.trans (le217.trans (le228.trans (le267.trans (le279.trans (le290.trans (le295.trans (le306.trans le315))))))))))))))))) _ hx318) (fun v319 w320 h321 => ?_))
       obtain ⟨S322, rfl, hs323⟩ := h321
       have le324 := hs323.le
       have hs := hs.call0 hs323
       refine ⟨⟨(hs.has.down le324), (hs.heap 6 rfl)⟩, Rk.mk (C' := fun l w => Has S322 w ∧ Hp b13 #[.int .i64 C_3.Kind, .int .u32 C_3.From, .int .u32 C_3.About, v124, v132, v140, .int .u64 C_3.Rate, .int .i64 C_3.Type_, .int .i64 C_3.Count, v9] 33 w) ⟨hs.has, (hs.heap 6 rfl)⟩ (fun l w hc => ⟨hc.1.down le324, hc.2⟩) ?_⟩
       refine Rk.tN 41 rfl rfl (fun _ _ => X.pickT rfl rfl) ?_
       refine Rk.tN 42 rfl rfl (fun _ _ => X.move rfl) ?_
       refine Rk.tT 43 rfl rfl rfl rfl (fun hW => fun _ _ => X.move rfl) ?_
       refine Rk.tT 44 rfl rfl rfl rfl (fun hW => fun _ _ => X.and (ev_g rfl hW) rfl) ?_
       refine Rk.tT 45 rfl rfl rfl rfl (fun hW => fun _ _ => X.or rfl (ev_g rfl hW)) ?_
       refine Rk.tT 46 rfl rfl rfl rfl (fun hW => fun _ _ => X.move rfl) ?_
       refine Rk.tT 47 rfl rfl rfl rfl (fun hW => fun _ _ => X.lenR Try.underlying31 (ev_g rfl hW) (f12.mono (le26.trans (le44.trans (le62.trans (le76.trans (le87.trans (le102.trans (le149.trans (le166.trans (le205.trans (le217.trans (le228.trans (le267.trans (le279.trans (le290.trans (le295.trans (le306.trans (le315.trans le324))))))))))))))))))) ?_
       refine Rk.tT 48 rfl rfl rfl rfl (fun hW => fun _ _ => X.quo (ev_g rfl hW) rfl (by decide)) ?_
       refine Rk.tT 49 rfl rfl rfl rfl (fun hW => fun _ _ => X.conv Try.underlying3 Try.underlying5 (ev_g rfl hW)) ?_
       refine Rk.tT 51 rfl rfl rfl rfl (fun hW => fun _ _ => X.move rfl) ?_
       refine Rk.tT 52 rfl rfl rfl rfl (fun hW => fun _ _ => X.move rfl) ?_
       refine Rk.tT 53 rfl rfl rfl rfl (fun hW => fun _ _ => X.lenR Try.underlying31 (ev_g rfl hW) (f12.mono (le26.trans (le44.trans (le62.trans (le76.trans (le87.trans (le102.trans (le149.trans (le166.trans (le205.trans (le217.trans (le228.trans (le267.trans (le279.trans (le290.trans (le295.trans (le306.trans (le315.trans le324))))))))))))))))))) ?_
       refine Rk.tT 54 rfl rfl rfl rfl (fun hW => fun _ _ => X.quo (ev_g rfl hW) rfl (by decide)) ?_
       refine Rk.tT 55 rfl rfl rfl rfl (fun hW => fun _ _ => X.mul (ev_g rfl hW) rfl) ?_
       refine Rk.split (b := x317) (tj := 111) rfl (fun hc325 => ?_) (fun hc325 => ?_)
       ·have hp153 := ite_t hc325 hp153
        refine Rk.weak [(10, .pointer (some ⟨b13, 0, none⟩)), (16, .slice (some ⟨b73, 0, none⟩) 3 3), (111, .bool true), (114, .int .u8 (bor .u8 128 (band .u8 e_6 31))), (118, .int .u8 (cv .u8 (quo .i64 (o_4.length : Int) 4))), (120, v11), (124, .int .i64 (mul .i64 (quo .i64 (o_4.length : Int) 4) 4))] ⟨rfl, rfl, rfl, get_g rfl hc325, get_g rfl hc325, get_g rfl hc325, get_g rfl hc325, trivial⟩ ?_
        obtain ⟨y329, hx330, hp153⟩ := bind_s hp153
        obtain ⟨hb331, he332⟩ := cutTo_s hx330
        obtain ⟨v326, f327, hX328⟩ := mk_sliceH Try.underlying31 zz5 (f12.mono (le26.trans (le44.trans (le62.trans (le76.trans (le87.trans (le102.trans (le149.trans (le166.trans (le205.trans (le217.trans (le228.trans (le267.trans (le279.trans (le290.trans (le295.trans (le306.trans (le315.trans le324)))))))))))))))))) hb331
        rw [he332] at f327
        refine Rk.tT 56 rfl rfl rfl rfl (fun hW => fun _ _ => hX328 rfl rfl) ?_
        refine Rk.eG 50 rfl rfl rfl rfl (Oq.lit (sz := 1) (cs0 := [.int .u8 0, .int .u8 0, .int .u8 0, .int .u8 0]) (cells := [.int .u8 (bor .u8 128 (band .u8 e_6 31)), .int .u8 205, .int .u8 0, .int .u8 (cv .u8 (quo .i64 (o_4.length : Int) 4))]) hs Try.underlying31 ii5 rfl rfl rfl rfl rfl rfl ⟨_, [.int .u8 (bor .u8 128 (band .u8 e_6 31))], _, rfl, rfl, rfl, ⟨_, [.int .u8 205], _, rfl, rfl, rfl, ⟨_, [.int .u8 0], _, rfl, rfl, rfl, ⟨_, [.int .u8 (cv .u8 (quo .i64 (o_4.length : Int) 4))], _, rfl, rfl, rfl, rfl⟩⟩⟩⟩ rfl rfl rfl (fun b333 w334 S335 hs le336 hE337 => ?_))
        have f339 : Rd S335 1 (RI .u8) (.slice (some ⟨b333, 0, none⟩) 4 4) ([bor .u8 128 (band .u8 e_6 31), 205, 0, cv .u8 (quo .i64 (o_4.length : Int) 4)] : List Int) := Rd.of_cells (xs := ([bor .u8 128 (band .u8 e_6 31), 205, 0, cv .u8 (quo .i64 (o_4.length : Int) 4)] : List Int)) ⟨[.int .u8 (bor .u8 128 (band .u8 e_6 31))], _, rfl, rfl, one_all ⟨rfl, trivial⟩, rfl, ⟨[.int .u8 205], _, rfl, rfl, one_all ⟨rfl, trivial⟩, rfl, ⟨[.int .u8 0], _, rfl, rfl, one_all ⟨rfl, trivial⟩, rfl, ⟨[.int .u8 (cv .u8 (quo .i64 (o_4.length : Int) 4))], _, rfl, rfl, one_all ⟨rfl, trivial⟩, rfl, rfl⟩⟩⟩⟩ hE337 (Nat.le_of_ble_eq_true rfl) (Nat.le_of_ble_eq_true rfl)
        refine ⟨⟨(hs.has.down le336), (hs.heap 7 rfl)⟩, Rk.mk (C' := fun l w => Has S335 w ∧ Hp b13 #[.int .i64 C_3.Kind, .int .u32 C_3.From, .int .u32 C_3.About, v124, v132, v140, .int .u64 C_3.Rate, .int .i64 C_3.Type_, .int .i64 C_3.Count, v9] 33 w) ⟨hs.has, (hs.heap 7 rfl)⟩ (fun l w hc => ⟨hc.1.down le336, hc.2⟩) ?_⟩
        obtain ⟨y340, hx341, hp153⟩ := bind_s hp153
        refine Rk.eG 57 rfl rfl rfl rfl (Oq.appendS hs 0 rfl Try.underlying31 ii5 rfl rfl rfl rfl rfl rfl f339 (f327.mono le336) hx341 rfl rfl rfl (fun v342 w343 S344 g345 hs le346 f347 => ?_))
        refine ⟨⟨(hs.has.down le346), (hs.heap 7 rfl)⟩, Rk.mk (C' := fun l w => Has S344 w ∧ Hp b13 #[.int .i64 C_3.Kind, .int .u32 C_3.From, .int .u32 C_3.About, v124, v132, v140, .int .u64 C_3.Rate, .int .i64 C_3.Type_, .int .i64 C_3.Count, v9] 33 w) ⟨hs.has, (hs.heap 7 rfl)⟩ (fun l w hc => ⟨hc.1.down le346, hc.2⟩) ?_⟩
        obtain ⟨x348, hx349, hp153⟩ := bind_s hp153
        refine Rk.eG 58 rfl rfl rfl rfl (Oq.call Try.call14 rfl rfl (c14 S344 (St.start _ _ hs.has) _ _ f347 _ hx349) (fun v350 w351 h352 => ?_))
        obtain ⟨S353, rfl, hs354⟩ := h352
        have le355 := hs354.le
        have hs := hs.call0 hs354
        refine ⟨⟨(hs.has.down le355), (hs.heap 7 rfl)⟩, Rk.mk (C' := fun l w => Has S353 w ∧ Hp b13 #[.int .i64 C_3.Kind, .int .u32 C_3.From, .int .u32 C_3.About, v124, v132, v140, .int .u64 C_3.Rate, .int .i64 C_3.Type_, .int .i64 C_3.Count, v9] 33 w) ⟨hs.has, (hs.heap 7 rfl)⟩ (fun l w hc => ⟨hc.1.down le355, hc.2⟩) ?_⟩
        refine Rk.tN 59 rfl rfl (fun _ _ => X.pickT rfl rfl) ?_
        refine Rk.tN 60 rfl rfl (fun _ _ => X.move rfl) ?_
        refine Rk.tT 61 rfl rfl rfl rfl (fun hW => fun _ _ => X.move rfl) ?_
        refine Rk.tT 64 rfl rfl rfl rfl (fun hW => fun w hc => X.loadN (vals := [.int .i64 C_3.Kind, .int .u32 C_3.From, .int .u32 C_3.About, v124, v132, v140, .int .u64 C_3.Rate, .int .i64 C_3.Type_, .int .i64 C_3.Count, v9]) Try.underlying33 rfl zz33 rfl (heap_range hc.2 0 rfl)) ?_
        refine Rk.tT 66 rfl rfl rfl rfl (fun hW => fun _ _ => X.move rfl) ?_
        refine Rk.tT 69 rfl rfl rfl rfl (fun hW => fun w hc => X.loadN (vals := [.int .i64 C_3.Kind, .int .u32 C_3.From, .int .u32 C_3.About, v124, v132, v140, .int .u64 C_3.Rate, .int .i64 C_3.Type_, .int .i64 C_3.Count, v9]) Try.underlying33 rfl zz33 rfl (heap_range hc.2 0 rfl)) ?_
        refine Rk.split (b := x348) (tj := 129) rfl (fun hc356 => ?_) (fun hc356 => ?_)
        ·have hp153 := ite_t hc356 hp153
         refine Rk.weak [(129, .bool true), (130, .slice (some ⟨b73, 0, none⟩) 3 3), (133, .agg (#[.int .i64 C_3.Kind, .int .u32 C_3.From, .int .u32 C_3.About, v124, v132, v140, .int .u64 C_3.Rate, .int .i64 C_3.Type_, .int .i64 C_3.Count, v9])), (135, .slice (some ⟨b73, 0, none⟩) 3 3), (138, .agg (#[.int .i64 C_3.Kind, .int .u32 C_3.From, .int .u32 C_3.About, v124, v132, v140, .int .u64 C_3.Rate, .int .i64 C_3.Type_, .int .i64 C_3.Count, v9]))] ⟨rfl, get_g rfl hc356, get_g rfl hc356, get_g rfl hc356, get_g rfl hc356, trivial⟩ ?_
         obtain ⟨x357, hx358, hp153⟩ := bind_s hp153
         obtain ⟨ad359, vals360, _, hR361, hE362, hX363⟩ := mk_index Try.underlying36 zz33 (by decide) (f79.mono (le87.trans (le102.trans (le149.trans (le166.trans (le205.trans (le217.trans (le228.trans (le267.trans (le279.trans (le290.trans (le295.trans (le306.trans (le315.trans (le324.trans (le336.trans (le346.trans le355))))))))))))))))) hx358
         unfold R_api_Report at hR361
         obtain ⟨v364, v366, v368, v370, rfl, f365, f367, f369, f371⟩ := hR361
         refine Rk.tT 62 rfl rfl rfl rfl (fun hW => fun _ _ => hX363 rfl rfl) ?_
         refine Rk.tT 63 rfl rfl rfl rfl (fun hW => fun w hc => X.loadE (vals := [.int .i64 x357.Kind, .int .u32 x357.From, .int .u32 x357.About, v364, v366, v368, .int .u64 x357.Rate, .int .i64 x357.Type_, .int .i64 x357.Count, v370]) hc.1 Try.underlying33 rfl zz33 rfl hE362) ?_
         obtain ⟨x372, hx373, hp153⟩ := bind_s hp153
         obtain ⟨ad374, vals375, _, hR376, hE377, hX378⟩ := mk_index Try.underlying36 zz33 (by decide) (f79.mono (le87.trans (le102.trans (le149.trans (le166.trans (le205.trans (le217.trans (le228.trans (le267.trans (le279.trans (le290.trans (le295.trans (le306.trans (le315.trans (le324.trans (le336.trans (le346.trans le355))))))))))))))))) hx373
         unfold R_api_Report at hR376
         obtain ⟨v379, v381, v383, v385, rfl, f380, f382, f384, f386⟩ := hR376
         refine Rk.tT 67 rfl rfl rfl rfl (fun hW => fun _ _ => hX378 rfl rfl) ?_
         refine Rk.tT 68 rfl rfl rfl rfl (fun hW => fun w hc => X.loadE (vals := [.int .i64 x372.Kind, .int .u32 x372.From, .int .u32 x372.About, v379, v381, v383, .int .u64 x372.Rate, .int .i64 x372.Type_, .int .i64 x372.Count, v385]) hc.1 Try.underlying33 rfl zz33 rfl hE377) ?_
         obtain ⟨x387, hx388, hp153⟩ := bind_s hp153
         refine Rk.eG 65 rfl rfl rfl rfl (Oq.call Try.call17 rfl rfl (c17 S353 (St.start _ _ hs.has) x357 _ f365 _ f367 _ f369 _ f371 (⟨C_3.Kind, C_3.From, C_3.About, y127, y135, y143, C_3.Rate, C_3.Type_, C_3.Count, C_3.Body⟩ : api_Report) _ (f125.mono (le149.trans (le166.trans (le205.trans (le217.trans (le228.trans (le267.trans (le279.trans (le290.trans (le295.trans (le306.trans (le315.trans (le324.trans (le336.trans (le346.trans le355))))))))))))))) _ (f133.mono (le149.trans (le166.trans (le205.trans (le217.trans (le228.trans (le267.trans (le279.trans (le290.trans (le295.trans (le306.trans (le315.trans (le324.trans (le336.trans (le346.trans le355))))))))))))))) _ (f141.mono (le149.trans (le166.trans (le205.trans (le217.trans (le228.trans (le267.trans (le279.trans (le290.trans (le295.trans (le306.trans (le315.trans (le324.trans (le336.trans (le346.trans le355))))))))))))))) _ (f10.mono (le26.trans (le44.trans (le62.trans (le76.trans (le87.trans (le102.trans (le149.trans (le166.trans (le205.trans (le217.trans (le228.trans (le267.trans (le279.trans (le290.trans (le295.trans (le306.trans (le315.trans (le324.trans (le336.trans (le346.trans le355))))))))))))))))))))) _ hx388) (fun v389 w390 h391 => ?_))
         obtain ⟨S392, rfl, hs393⟩ := h391
         have le394 := hs393.le
         have hs := hs.call0 hs393
         refine ⟨⟨(hs.has.down le394), (hs.heap 7 rfl)⟩, Rk.mk (C' := fun l w => Has S392 w ∧ Hp b13 #[.int .i64 C_3.Kind, .int .u32 C_3.From, .int .u32 C_3.About, v124, v132, v140, .int .u64 C_3.Rate, .int .i64 C_3.Type_, .int .i64 C_3.Count, v9] 33 w) ⟨hs.has, (hs.heap 7 rfl)⟩ (fun l w hc => ⟨hc.1.down le394, hc.2⟩) ?_⟩
         obtain ⟨x395, hx396, hp153⟩ := bind_s hp153
         refine Rk.eG 70 rfl rfl rfl rfl (Oq.call Try.call18 rfl rfl (c18 S392 (St.start _ _ hs.has) x372 _ (f380.mono le394) _ (f382.mono le394) _ (f384.mono le394) _ (f386.mono le394) (⟨C_3.Kind, C_3.From, C_3.About, y127, y135, y143, C_3.Rate, C_3.Type_, C_3.Count, C_3.Body⟩ : api_Report) _ (f125.mono (le149.trans (le166.trans (le205.trans (le217.trans (le228.trans (le267.trans (le279.trans (le290.trans (le295.trans (le306.trans (le315.trans (le324.trans (le336.trans (le346.trans (le355.trans le394)))))))))))))))) _ (f133.mono (le149.trans (le166.trans (le205.trans (le217.trans (le228.trans (le267.trans (le279.trans (le290.trans (le295.trans (le306.trans (le315.trans (le324.trans (le336.trans (le346.trans (le355.trans le394)))))))))))))))) _ (f141.mono (le149.trans (le166.trans (le205.trans (le217.trans (le228.trans (le267.trans (le279.trans (le290.trans (le295.trans (le306.trans (le315.trans (le324.trans (le336.trans (le346.trans (le355.trans le394)))))))))))))))) _ (f10.mono (le26.trans (le44.trans (le62.trans (le76.trans (le87.trans (le102.trans (le149.trans (le166.trans (le205.trans (le217.trans (le228.trans (le267.trans (le279.trans (le290.trans (le295.trans (le306.trans (le315.trans (le324.trans (le336.trans (le346.trans (le355.trans le394)))))))))))))))))))))) _ hx396) (fun v397 w398 h399 => ?_))
         obtain ⟨S400, rfl, hs401⟩ := h399
         have le402 := hs401.le
         have hs := hs.call0 hs401
         refine ⟨⟨(hs.has.down le402), (hs.heap 7 rfl)⟩, Rk.mk (C' := fun l w => Has S400 w ∧ Hp b13 #[.int .i64 C_3.Kind, .int .u32 C_3.From, .int .u32 C_3.About, v124, v132, v140, .int .u64 C_3.Rate, .int .i64 C_3.Type_, .int .i64 C_3.Count, v9] 33 w) ⟨hs.has, (hs.heap 7 rfl)⟩ (fun l w hc => ⟨hc.1.down le402, hc.2⟩) ?_⟩
         refine Rk.tT 71 rfl rfl rfl rfl (fun hW => fun _ _ => X.eqlB Try.underlying4 rfl rfl) ?_
         refine Rk.tN 72 rfl rfl (fun _ _ => X.pickT rfl rfl) ?_
         refine Rk.tN 73 rfl rfl (fun _ _ => X.move rfl) ?_
         refine Rk.split (b := x387 == x395) (tj := 142) rfl (fun hc403 => ?_) (fun hc403 => ?_)
         ·have hp153 := ite_t hc403 hp153
          refine Rk.weak [(142, .bool true)] ⟨rfl, trivial⟩ ?_
          obtain ⟨x404, hx405, hp153⟩ := bind_s hp153
          refine Rk.eG 74 rfl rfl rfl rfl (Oq.call Try.call15 rfl rfl (c15 S400 (St.start _ _ hs.has)  _ hx405) (fun v406 w407 h408 => ?_))
          obtain ⟨S409, rfl, hs410⟩ := h408
          have le411 := hs410.le
          have hs := hs.call0 hs410
          refine ⟨⟨(hs.has.down le411), (hs.heap 7 rfl)⟩, Rk.mk (C' := fun l w => Has S409 w ∧ Hp b13 #[.int .i64 C_3.Kind, .int .u32 C_3.From, .int .u32 C_3.About, v124, v132, v140, .int .u64 C_3.Rate, .int .i64 C_3.Type_, .int .i64 C_3.Count, v9] 33 w) ⟨hs.has, (hs.heap 7 rfl)⟩ (fun l w hc => ⟨hc.1.down le411, hc.2⟩) ?_⟩
          refine Rk.tN 75 rfl rfl (fun _ _ => X.pickT rfl rfl) ?_
          refine Rk.tN 76 rfl rfl (fun _ _ => X.assign rfl) ?_
          refine Rk.done ?_
          obtain rfl := some_s hp153
          exact fun a ha => ⟨[(14, .bool x404)], ha.weak ⟨rfl, trivial⟩, S409, rfl, (le166.trans (le205.trans (le217.trans (le228.trans (le267.trans (le279.trans (le290.trans (le295.trans (le306.trans (le315.trans (le324.trans (le336.trans (le346.trans (le355.trans (le394.trans (le402.trans le411)))))))))))))))), (hs.pick [] (by decide) rfl)⟩
         ·have hp153 := ite_f hc403 hp153
          refine Rk.weak [(142, .bool false)] ⟨rfl, trivial⟩ ?_
          refine Rk.tO 74 rfl rfl rfl rfl rfl ?_
          refine Rk.tN 75 rfl rfl (fun _ _ => X.pickF rfl rfl) ?_
          refine Rk.tN 76 rfl rfl (fun _ _ => X.assign rfl) ?_
          refine Rk.done ?_
          obtain rfl := some_s hp153
          exact fun a ha => ⟨[(14, .bool false)], ha.weak ⟨rfl, trivial⟩, S400, rfl, (le166.trans (le205.trans (le217.trans (le228.trans (le267.trans (le279.trans (le290.trans (le295.trans (le306.trans (le315.trans (le324.trans (le336.trans (le346.trans (le355.trans (le394.trans le402))))))))))))))), (hs.pick [] (by decide) rfl)⟩
        ·have hp153 := ite_f hc356 hp153
         refine Rk.weak [(129, .bool false), (130, undef), (133, undef), (135, undef), (138, undef)] ⟨rfl, get_u rfl (not_f hc356), get_u rfl (not_f hc356), get_u rfl (not_f hc356), get_u rfl (not_f hc356), trivial⟩ ?_
         refine Rk.tO 62 rfl rfl rfl rfl rfl ?_
         refine Rk.tO 63 rfl rfl rfl rfl rfl ?_
         refine Rk.tO 65 rfl rfl rfl rfl rfl ?_
         refine Rk.tO 67 rfl rfl rfl rfl rfl ?_
         refine Rk.tO 68 rfl rfl rfl rfl rfl ?_
         refine Rk.tO 70 rfl rfl rfl rfl rfl ?_
         refine Rk.tO 71 rfl rfl rfl rfl rfl ?_
         refine Rk.tN 72 rfl rfl (fun _ _ => X.pickF rfl rfl) ?_
         refine Rk.tN 73 rfl rfl (fun _ _ => X.move rfl) ?_
         refine Rk.tO 74 rfl rfl rfl rfl rfl ?_
         refine Rk.tN 75 rfl rfl (fun _ _ => X.pickF rfl rfl) ?_
         refine Rk.tN 76 rfl rfl (fun _ _ => X.assign rfl) ?_
         refine Rk.done ?_
         obtain rfl := some_s hp153
         exact fun a ha => ⟨[(14, .bool false)], ha.weak ⟨rfl, trivial⟩, S353, rfl, (le166.trans (le205.trans (le217.trans (le228.trans (le267.trans (le279.trans (le290.trans (le295.trans (le306.trans (le315.trans (le324.trans (le336.trans (le346.trans le355))))))))))))), (hs.pick [] (by decide) rfl)⟩
       ·have hp153 := ite_f hc325 hp153
        refine Rk.weak [(10, .pointer (some ⟨b13, 0, none⟩)), (16, .slice (some ⟨b73, 0, none⟩) 3 3), (111, .bool false), (114, undef), (118, undef), (120, undef), (124, undef)] ⟨rfl, rfl, rfl, get_u rfl (not_f hc325), get_u rfl (not_f hc325), get_u rfl (not_f hc325), get_u rfl (not_f hc325), trivial⟩ ?_
        refine Rk.tO 50 rfl rfl rfl rfl rfl ?_
        refine Rk.tO 56 rfl rfl rfl rfl rfl ?_
        refine Rk.tO 57 rfl rfl rfl rfl rfl ?_
        refine Rk.tO 58 rfl rfl rfl rfl rfl ?_
        refine Rk.tN 59 rfl rfl (fun _ _ => X.pickF rfl rfl) ?_
        refine Rk.tN 60 rfl rfl (fun _ _ => X.move rfl) ?_
        refine Rk.tO 61 rfl rfl rfl rfl rfl ?_
        refine Rk.tO 62 rfl rfl rfl rfl rfl ?_
        refine Rk.tO 63 rfl rfl rfl rfl rfl ?_
        refine Rk.tO 64 rfl rfl rfl rfl rfl ?_
        refine Rk.tO 65 rfl rfl rfl rfl rfl ?_
        refine Rk.tO 66 rfl rfl rfl rfl rfl ?_
        refine Rk.tO 67 rfl rfl rfl rfl rfl ?_
        refine Rk.tO 68 rfl rfl rfl rfl rfl ?_
        refine Rk.tO 69 rfl rfl rfl rfl rfl ?_
        refine Rk.tO 70 rfl rfl rfl rfl rfl ?_
        refine Rk.tO 71 rfl rfl rfl rfl rfl ?_
        refine Rk.tN 72 rfl rfl (fun _ _ => X.pickF rfl rfl) ?_
        refine Rk.tN 73 rfl rfl (fun _ _ => X.move rfl) ?_
        refine Rk.tO 74 rfl rfl rfl rfl rfl ?_
        refine Rk.tN 75 rfl rfl (fun _ _ => X.pickF rfl rfl) ?_
        refine Rk.tN 76 rfl rfl (fun _ _ => X.assign rfl) ?_
        refine Rk.done ?_
        obtain rfl := some_s hp153
        exact fun a ha => ⟨[(14, .bool false)], ha.weak ⟨rfl, trivial⟩, S322, rfl, (le166.trans (le205.trans (le217.trans (le228.trans (le267.trans (le279.trans (le290.trans (le295.trans (le306.trans (le315.trans le324)))))))))), (hs.pick [] (by decide) rfl)⟩
      ·have hp153 := ite_f hc316 hp153
       refine Rk.weak [(4, v11), (6, .int .u8 e_6), (10, .pointer (some ⟨b13, 0, none⟩)), (16, .slice (some ⟨b73, 0, none⟩) 3 3), (107, .bool false), (108, undef)] ⟨rfl, rfl, rfl, rfl, rfl, get_u rfl (not_f hc316), trivial⟩ ?_
       refine Rk.tO 40 rfl rfl rfl rfl rfl ?_
       refine Rk.tN 41 rfl rfl (fun _ _ => X.pickF rfl rfl) ?_
       refine Rk.tN 42 rfl rfl (fun _ _ => X.move rfl) ?_
       refine Rk.tO 43 rfl rfl rfl rfl rfl ?_
       refine Rk.tO 44 rfl rfl rfl rfl rfl ?_
       refine Rk.tO 45 rfl rfl rfl rfl rfl ?_
       refine Rk.tO 46 rfl rfl rfl rfl rfl ?_
       refine Rk.tO 47 rfl rfl rfl rfl rfl ?_
       refine Rk.tO 48 rfl rfl rfl rfl rfl ?_
       refine Rk.tO 49 rfl rfl rfl rfl rfl ?_
       refine Rk.tO 50 rfl rfl rfl rfl rfl ?_
       refine Rk.tO 51 rfl rfl rfl rfl rfl ?_
       refine Rk.tO 52 rfl rfl rfl rfl rfl ?_
       refine Rk.tO 53 rfl rfl rfl rfl rfl ?_
       refine Rk.tO 54 rfl rfl rfl rfl rfl ?_
       refine Rk.tO 55 rfl rfl rfl rfl rfl ?_
       refine Rk.tO 56 rfl rfl rfl rfl rfl ?_
       refine Rk.tO 57 rfl rfl rfl rfl rfl ?_
       refine Rk.tO 58 rfl rfl rfl rfl rfl ?_
       refine Rk.tN 59 rfl rfl (fun _ _ => X.pickF rfl rfl) ?_
       refine Rk.tN 60 rfl rfl (fun _ _ => X.move rfl) ?_
       refine Rk.tO 61 rfl rfl rfl rfl rfl ?_
       refine Rk.tO 62 rfl rfl rfl rfl rfl ?_
       refine Rk.tO 63 rfl rfl rfl rfl rfl ?_
       refine Rk.tO 64 rfl rfl rfl rfl rfl ?_
       refine Rk.tO 65 rfl rfl rfl rfl rfl ?_
       refine Rk.tO 66 rfl rfl rfl rfl rfl ?_
       refine Rk.tO 67 rfl rfl rfl rfl rfl ?_
       refine Rk.tO 68 rfl rfl rfl rfl rfl ?_
       refine Rk.tO 69 rfl rfl rfl rfl rfl ?_
       refine Rk.tO 70 rfl rfl rfl rfl rfl ?_
       refine Rk.tO 71 rfl rfl rfl rfl rfl ?_
       refine Rk.tN 72 rfl rfl (fun _ _ => X.pickF rfl rfl) ?_
       refine Rk.tN 73 rfl rfl (fun _ _ => X.move rfl) ?_
       refine Rk.tO 74 rfl rfl rfl rfl rfl ?_
       refine Rk.tN 75 rfl rfl (fun _ _ => X.pickF rfl rfl) ?_
       refine Rk.tN 76 rfl rfl (fun _ _ => X.assign rfl) ?_
       refine Rk.done ?_
       obtain rfl := some_s hp153
       exact fun a ha => ⟨[(14, .bool false)], ha.weak ⟨rfl, trivial⟩, S313, rfl, (le166.trans (le205.trans (le217.trans (le228.trans (le267.trans (le279.trans (le290.trans (le295.trans (le306.trans le315))))))))), (hs.pick [] (by decide) rfl)⟩
     ·have hp153 := ite_f hc307 hp153
      refine Rk.weak [(4, v11), (6, .int .u8 e_6), (10, .pointer (some ⟨b13, 0, none⟩)), (16, .slice (some ⟨b73, 0, none⟩) 3 3), (103, .bool false), (104, undef)] ⟨rfl, rfl, rfl, rfl, rfl, get_u rfl (not_f hc307), trivial⟩ ?_
      refine Rk.tO 36 rfl rfl rfl rfl rfl ?_
      refine Rk.tN 37 rfl rfl (fun _ _ => X.pickF rfl rfl) ?_
      refine Rk.tN 38 rfl rfl (fun _ _ => X.move rfl) ?_
      refine Rk.tO 39 rfl rfl rfl rfl rfl ?_
      refine Rk.tO 40 rfl rfl rfl rfl rfl ?_
      refine Rk.tN 41 rfl rfl (fun _ _ => X.pickF rfl rfl) ?_
      refine Rk.tN 42 rfl rfl (fun _ _ => X.move rfl) ?_
      refine Rk.tO 43 rfl rfl rfl rfl rfl ?_
      refine Rk.tO 44 rfl rfl rfl rfl rfl ?_
      refine Rk.tO 45 rfl rfl rfl rfl rfl ?_
      refine Rk.tO 46 rfl rfl rfl rfl rfl ?_
      refine Rk.tO 47 rfl rfl rfl rfl rfl ?_
      refine Rk.tO 48 rfl rfl rfl rfl rfl ?_
      refine Rk.tO 49 rfl rfl rfl rfl rfl ?_
      refine Rk.tO 50 rfl rfl rfl rfl rfl ?_
      refine Rk.tO 51 rfl rfl rfl rfl rfl ?_
      refine Rk.tO 52 rfl rfl rfl rfl rfl ?_
      refine Rk.tO 53 rfl rfl rfl rfl rfl ?_
      refine Rk.tO 54 rfl rfl rfl rfl rfl ?_
      refine Rk.tO 55 rfl rfl rfl rfl rfl ?_
      refine Rk.tO 56 rfl rfl rfl rfl rfl ?_
      refine Rk.tO 57 rfl rfl rfl rfl rfl ?_
      refine Rk.tO 58 rfl rfl rfl rfl rfl ?_
      refine Rk.tN 59 rfl rfl (fun _ _ => X.pickF rfl rfl) ?_
      refine Rk.tN 60 rfl rfl (fun _ _ => X.move rfl) ?_
      refine Rk.tO 61 rfl rfl rfl rfl rfl ?_
      refine Rk.tO 62 rfl rfl rfl rfl rfl ?_
      refine Rk.tO 63 rfl rfl rfl rfl rfl ?_
      refine Rk.tO 64 rfl rfl rfl rfl rfl ?_
      refine Rk.tO 65 rfl rfl rfl rfl rfl ?_
      refine Rk.tO 66 rfl rfl rfl rfl rfl ?_
      refine Rk.tO 67 rfl rfl rfl rfl rfl ?_
      refine Rk.tO 68 rfl rfl rfl rfl rfl ?_
      refine Rk.tO 69 rfl rfl rfl rfl rfl ?_
      refine Rk.tO 70 rfl rfl rfl rfl rfl ?_
      refine Rk.tO 71 rfl rfl rfl rfl rfl ?_
      refine Rk.tN 72 rfl rfl (fun _ _ => X.pickF rfl rfl) ?_
      refine Rk.tN 73 rfl rfl (fun _ _ => X.move rfl) ?_
      refine Rk.tO 74 rfl rfl rfl rfl rfl ?_
      refine Rk.tN 75 rfl rfl (fun _ _ => X.pickF rfl rfl) ?_
      refine Rk.weak [(144, .bool false)] ⟨rfl, trivial⟩ ?_
      refine Rk.tN 76 rfl rfl (fun _ _ => X.assign rfl) ?_
      refine Rk.done ?_
      obtain rfl := some_s hp153
      exact fun a ha => ⟨[(14, .bool false)], ha.weak ⟨rfl, trivial⟩, S304, rfl, (le166.trans (le205.trans (le217.trans (le228.trans (le267.trans (le279.trans (le290.trans (le295.trans le306)))))))), (hs.pick [] (by decide) rfl)⟩
    ·have hp153 := ite_f hc291 hp153
     refine Rk.weak [(4, v11), (6, .int .u8 e_6), (10, .pointer (some ⟨b13, 0, none⟩)), (16, .slice (some ⟨b73, 0, none⟩) 3 3), (17, v88), (98, .bool false), (99, undef)] ⟨rfl, rfl, rfl, rfl, rfl, rfl, get_u rfl (not_f hc291), trivial⟩ ?_
     refine Rk.tO 31 rfl rfl rfl rfl rfl ?_
     refine Rk.tO 32 rfl rfl rfl rfl rfl ?_
     refine Rk.tN 33 rfl rfl (fun _ _ => X.pickF rfl rfl) ?_
     refine Rk.tN 34 rfl rfl (fun _ _ => X.move rfl) ?_
     refine Rk.tO 35 rfl rfl rfl rfl rfl ?_
     refine Rk.tO 36 rfl rfl rfl rfl rfl ?_
     refine Rk.tN 37 rfl rfl (fun _ _ => X.pickF rfl rfl) ?_
     refine Rk.tN 38 rfl rfl (fun _ _ => X.move rfl) ?_
     refine Rk.tO 39 rfl rfl rfl rfl rfl ?_
     refine Rk.tO 40 rfl rfl rfl rfl rfl ?_
     refine Rk.tN 41 rfl rfl (fun _ _ => X.pickF rfl rfl) ?_
     refine Rk.tN 42 rfl rfl (fun _ _ => X.move rfl) ?_
     refine Rk.tO 43 rfl rfl rfl rfl rfl ?_
     refine Rk.tO 44 rfl rfl rfl rfl rfl ?_
     refine Rk.tO 45 rfl rfl rfl rfl rfl ?_
     refine Rk.tO 46 rfl rfl rfl rfl rfl ?_
     refine Rk.tO 47 rfl rfl rfl rfl rfl ?_
     refine Rk.tO 48 rfl rfl rfl rfl rfl ?_
     refine Rk.tO 49 rfl rfl rfl rfl rfl ?_
     refine Rk.tO 50 rfl rfl rfl rfl rfl ?_
     refine Rk.tO 51 rfl rfl rfl rfl rfl ?_
     refine Rk.tO 52 rfl rfl rfl rfl rfl ?_
     refine Rk.tO 53 rfl rfl rfl rfl rfl ?_
     refine Rk.tO 54 rfl rfl rfl rfl rfl ?_
     refine Rk.tO 55 rfl rfl rfl rfl rfl ?_
     refine Rk.tO 56 rfl rfl rfl rfl rfl ?_
     refine Rk.tO 57 rfl rfl rfl rfl rfl ?_
     refine Rk.tO 58 rfl rfl rfl rfl rfl ?_
     refine Rk.tN 59 rfl rfl (fun _ _ => X.pickF rfl rfl) ?_
     refine Rk.tN 60 rfl rfl (fun _ _ => X.move rfl) ?_
     refine Rk.tO 61 rfl rfl rfl rfl rfl ?_
     refine Rk.tO 62 rfl rfl rfl rfl rfl ?_
     refine Rk.tO 63 rfl rfl rfl rfl rfl ?_
     refine Rk.tO 64 rfl rfl rfl rfl rfl ?_
     refine Rk.tO 65 rfl rfl rfl rfl rfl ?_
     refine Rk.tO 66 rfl rfl rfl rfl rfl ?_
     refine Rk.tO 67 rfl rfl rfl rfl rfl ?_
     refine Rk.tO 68 rfl rfl rfl rfl rfl ?_
     refine Rk.tO 69 rfl rfl rfl rfl rfl ?_
     refine Rk.tO 70 rfl rfl rfl rfl rfl ?_
     refine Rk.tO 71 rfl rfl rfl rfl rfl ?_
     refine Rk.weak [(129, .bool false), (140, undef)] ⟨rfl, rfl, trivial⟩ ?_
     refine Rk.tN 72 rfl rfl (fun _ _ => X.pickF rfl rfl) ?_
     refine Rk.tN 73 rfl rfl (fun _ _ => X.move rfl) ?_
     refine Rk.tO 74 rfl rfl rfl rfl rfl ?_
     refine Rk.tN 75 rfl rfl (fun _ _ => X.pickF rfl rfl) ?_
     refine Rk.tN 76 rfl rfl (fun _ _ => X.assign rfl) ?_
     refine Rk.done ?_
     obtain rfl := some_s hp153
     exact fun a ha => ⟨[(14, .bool false)], ha.weak ⟨rfl, trivial⟩, S288, rfl, (le166.trans (le205.trans (le217.trans (le228.trans (le267.trans (le279.trans le290)))))), (hs.pick [] (by decide) rfl)⟩
   ·have hp153 := ite_f hc229 hp153
    refine Rk.weak [(4, v11), (6, .int .u8 e_6), (10, .pointer (some ⟨b13, 0, none⟩)), (16, .slice (some ⟨b73, 0, none⟩) 3 3), (17, v88), (84, .bool false), (85, undef), (88, undef), (91, undef), (93, undef)] ⟨rfl, rfl, rfl, rfl, rfl, rfl, get_u rfl (not_f hc229), get_u rfl (not_f hc229), get_u rfl (not_f hc229), get_u rfl (not_f hc229), trivial⟩ ?_
    refine Rk.tO 17 rfl rfl rfl rfl rfl ?_
    refine Rk.tO 18 rfl rfl rfl rfl rfl ?_
    refine Rk.tO 20 rfl rfl rfl rfl rfl ?_
    refine Rk.tO 21 rfl rfl rfl rfl rfl ?_
    refine Rk.tO 25 rfl rfl rfl rfl rfl ?_
    refine Rk.tO 26 rfl rfl rfl rfl rfl ?_
    refine Rk.tO 27 rfl rfl rfl rfl rfl ?_
    refine Rk.tN 28 rfl rfl (fun _ _ => X.pickF rfl rfl) ?_
    refine Rk.tN 29 rfl rfl (fun _ _ => X.move rfl) ?_
    refine Rk.tO 30 rfl rfl rfl rfl rfl ?_
    refine Rk.tO 31 rfl rfl rfl rfl rfl ?_
    refine Rk.tO 32 rfl rfl rfl rfl rfl ?_
    refine Rk.tN 33 rfl rfl (fun _ _ => X.pickF rfl rfl) ?_
    refine Rk.tN 34 rfl rfl (fun _ _ => X.move rfl) ?_
    refine Rk.tO 35 rfl rfl rfl rfl rfl ?_
    refine Rk.tO 36 rfl rfl rfl rfl rfl ?_
    refine Rk.tN 37 rfl rfl (fun _ _ => X.pickF rfl rfl) ?_
    refine Rk.tN 38 rfl rfl (fun _ _ => X.move rfl) ?_
    refine Rk.tO 39 rfl rfl rfl rfl rfl ?_
    refine Rk.tO 40 rfl rfl rfl rfl rfl ?_
    refine Rk.tN 41 rfl rfl (fun _ _ => X.pickF rfl rfl) ?_
    refine Rk.tN 42 rfl rfl (fun _ _ => X.move rfl) ?_
    refine Rk.tO 43 rfl rfl rfl rfl rfl ?_
    refine Rk.tO 44 rfl rfl rfl rfl rfl ?_
    refine Rk.tO 45 rfl rfl rfl rfl rfl ?_
    refine Rk.tO 46 rfl rfl rfl rfl rfl ?_
    refine Rk.tO 47 rfl rfl rfl rfl rfl ?_
    refine Rk.tO 48 rfl rfl rfl rfl rfl ?_
    refine Rk.tO 49 rfl rfl rfl rfl rfl ?_
    refine Rk.tO 50 rfl rfl rfl rfl rfl ?_
    refine Rk.tO 51 rfl rfl rfl rfl rfl ?_
    refine Rk.tO 52 rfl rfl rfl rfl rfl ?_
    refine Rk.tO 53 rfl rfl rfl rfl rfl ?_
    refine Rk.tO 54 rfl rfl rfl rfl rfl ?_
    refine Rk.tO 55 rfl rfl rfl rfl rfl ?_
    refine Rk.tO 56 rfl rfl rfl rfl rfl ?_
    refine Rk.tO 57 rfl rfl rfl rfl rfl ?_
    refine Rk.tO 58 rfl rfl rfl rfl rfl ?_
    refine Rk.tN 59 rfl rfl (fun _ _ => X.pickF rfl rfl) ?_
    refine Rk.tN 60 rfl rfl (fun _ _ => X.move rfl) ?_
    refine Rk.tO 61 rfl rfl rfl rfl rfl ?_
    refine Rk.tO 62 rfl rfl rfl rfl rfl ?_
    refine Rk.tO 63 rfl rfl rfl rfl rfl ?_
    refine Rk.tO 64 rfl rfl rfl rfl rfl ?_
    refine Rk.tO 65 rfl rfl rfl rfl rfl ?_
    refine Rk.tO 66 rfl rfl rfl rfl rfl ?_
    refine Rk.tO 67 rfl rfl rfl rfl rfl ?_
    refine Rk.weak [(10, .pointer (some ⟨b13, 0, none⟩)), (129, .bool false), (134, undef), (136, undef)] ⟨rfl, rfl, rfl, rfl, trivial⟩ ?_
    refine Rk.tO 68 rfl rfl rfl rfl rfl ?_
    refine Rk.tO 69 rfl rfl rfl rfl rfl ?_
    refine Rk.tO 70 rfl rfl rfl rfl rfl ?_
    refine Rk.tO 71 rfl rfl rfl rfl rfl ?_
    refine Rk.tN 72 rfl rfl (fun _ _ => X.pickF rfl rfl) ?_
    refine Rk.tN 73 rfl rfl (fun _ _ => X.move rfl) ?_
    refine Rk.tO 74 rfl rfl rfl rfl rfl ?_
    refine Rk.tN 75 rfl rfl (fun _ _ => X.pickF rfl rfl) ?_
    refine Rk.tN 76 rfl rfl (fun _ _ => X.assign rfl) ?_
    refine Rk.done ?_
    obtain rfl := some_s hp153
    exact fun a ha => ⟨[(14, .bool false)], ha.weak ⟨rfl, trivial⟩, S226, rfl, (le166.trans (le205.trans (le217.trans le228))), (hs.pick [] (by decide) rfl)⟩
  ·have hp153 := ite_f hc167 hp153
   refine Rk.weak [(1, .int .i64 o_1), (2, .int .i64 p_2), (4, v11), (6, .int .u8 e_6), (10, .pointer (some ⟨b13, 0, none⟩)), (16, .slice (some ⟨b73, 0, none⟩) 3 3), (17, v88), (71, .bool false), (72, undef), (75, undef), (76, undef), (78, undef)] ⟨rfl, rfl, rfl, rfl, rfl, rfl, rfl, rfl, get_u rfl (not_f hc167), get_u rfl (not_f hc167), get_u rfl (not_f hc167), get_u rfl (not_f hc167), trivial⟩ ?_
   refine Rk.tO 4 rfl rfl rfl rfl rfl ?_
   refine Rk.tO 5 rfl rfl rfl rfl rfl ?_
   refine Rk.tO 8 rfl rfl rfl rfl rfl ?_
   refine Rk.tO 10 rfl rfl rfl rfl rfl ?_
   refine Rk.tO 11 rfl rfl rfl rfl rfl ?_
   refine Rk.tO 12 rfl rfl rfl rfl rfl ?_
   refine Rk.tO 13 rfl rfl rfl rfl rfl ?_
   refine Rk.tN 14 rfl rfl (fun _ _ => X.pickF rfl rfl) ?_
   refine Rk.tN 15 rfl rfl (fun _ _ => X.move rfl) ?_
   refine Rk.tO 16 rfl rfl rfl rfl rfl ?_
   refine Rk.tO 17 rfl rfl rfl rfl rfl ?_
   refine Rk.tO 18 rfl rfl rfl rfl rfl ?_
   refine Rk.tO 19 rfl rfl rfl rfl rfl ?_
   refine Rk.tO 20 rfl rfl rfl rfl rfl ?_
   refine Rk.tO 21 rfl rfl rfl rfl rfl ?_
   refine Rk.tO 22 rfl rfl rfl rfl rfl ?_
   refine Rk.tO 23 rfl rfl rfl rfl rfl ?_
   refine Rk.tO 24 rfl rfl rfl rfl rfl ?_
   refine Rk.tO 25 rfl rfl rfl rfl rfl ?_
   refine Rk.tO 26 rfl rfl rfl rfl rfl ?_
   refine Rk.tO 27 rfl rfl rfl rfl rfl ?_
   refine Rk.tN 28 rfl rfl (fun _ _ => X.pickF rfl rfl) ?_
   refine Rk.tN 29 rfl rfl (fun _ _ => X.move rfl) ?_
   refine Rk.tO 30 rfl rfl rfl rfl rfl ?_
   refine Rk.tO 31 rfl rfl rfl rfl rfl ?_
   refine Rk.tO 32 rfl rfl rfl rfl rfl ?_
   refine Rk.tN 33 rfl rfl (fun _ _ => X.pickF rfl rfl) ?_
   refine Rk.tN 34 rfl rfl (fun _ _ => X.move rfl) ?_
   refine Rk.tO 35 rfl rfl rfl rfl rfl ?_
   refine Rk.tO 36 rfl rfl rfl rfl rfl ?_
   refine Rk.tN 37 rfl rfl (fun _ _ => X.pickF rfl rfl) ?_
   refine Rk.tN 38 rfl rfl (fun _ _ => X.move rfl) ?_
   refine Rk.tO 39 rfl rfl rfl rfl rfl ?_
   refine Rk.tO 40 rfl rfl rfl rfl rfl ?_
   refine Rk.tN 41 rfl rfl (fun _ _ => X.pickF rfl rfl) ?_
   refine Rk.tN 42 rfl rfl (fun _ _ => X.move rfl) ?_
   refine Rk.tO 43 rfl rfl rfl rfl rfl ?_
   refine Rk.tO 44 rfl rfl rfl rfl rfl ?_
   refine Rk.tO 45 rfl rfl rfl rfl rfl ?_
   refine Rk.tO 46 rfl rfl rfl rfl rfl ?_
   refine Rk.tO 47 rfl rfl rfl rfl rfl ?_
   refine Rk.tO 48 rfl rfl rfl rfl rfl ?_
   refine Rk.tO 49 rfl rfl rfl rfl rfl ?_
   refine Rk.tO 50 rfl rfl rfl rfl rfl ?_
   refine Rk.tO 51 rfl rfl rfl rfl rfl ?_
   refine Rk.tO 52 rfl rfl rfl rfl rfl ?_
   refine Rk.tO 53 rfl rfl rfl rfl rfl ?_
   refine Rk.tO 54 rfl rfl rfl rfl rfl ?_
   refine Rk.tO 55 rfl rfl rfl rfl rfl ?_
   refine Rk.tO 56 rfl rfl rfl rfl rfl ?_
   refine Rk.tO 57 rfl rfl rfl rfl rfl ?_
   refine Rk.tO 58 rfl rfl rfl rfl rfl ?_
   refine Rk.tN 59 rfl rfl (fun _ _ => X.pickF rfl rfl) ?_
   refine Rk.tN 60 rfl rfl (fun _ _ => X.move rfl) ?_
   refine Rk.tO 61 rfl rfl rfl rfl rfl ?_
   refine Rk.tO 62 rfl rfl rfl rfl rfl ?_
   refine Rk.tO 63 rfl rfl rfl rfl rfl ?_
   refine Rk.weak [(10, .pointer (some ⟨b13, 0, none⟩)), (16, .slice (some ⟨b73, 0, none⟩) 3 3), (129, .bool false), (132, undef)] ⟨rfl, rfl, rfl, rfl, trivial⟩ ?_
   refine Rk.tO 64 rfl rfl rfl rfl rfl ?_
   refine Rk.tO 65 rfl rfl rfl rfl rfl ?_
   refine Rk.tO 66 rfl rfl rfl rfl rfl ?_
   refine Rk.tO 67 rfl rfl rfl rfl rfl ?_
   refine Rk.tO 68 rfl rfl rfl rfl rfl ?_
   refine Rk.tO 69 rfl rfl rfl rfl rfl ?_
   refine Rk.tO 70 rfl rfl rfl rfl rfl ?_
   refine Rk.tO 71 rfl rfl rfl rfl rfl ?_
   refine Rk.tN 72 rfl rfl (fun _ _ => X.pickF rfl rfl) ?_
   refine Rk.tN 73 rfl rfl (fun _ _ => X.move rfl) ?_
   refine Rk.tO 74 rfl rfl rfl rfl rfl ?_
   refine Rk.tN 75 rfl rfl (fun _ _ => X.pickF rfl rfl) ?_
   refine Rk.tN 76 rfl rfl (fun _ _ => X.assign rfl) ?_
   refine Rk.done ?_
   obtain rfl := some_s hp153
   exact fun a ha => ⟨[(14, .bool false)], ha.weak ⟨rfl, trivial⟩, S164, rfl, le166, (hs.pick [] (by decide) rfl)⟩
end Go.Lk
