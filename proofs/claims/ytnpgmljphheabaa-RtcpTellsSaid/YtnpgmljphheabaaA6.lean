/- A part of this proof: RtcpTells returns true for every input and leaves its arguments as they were; there are no conditions. -/
import Derived.Test.YtnpgmljphheabaaA5
set_option linter.unusedVariables false
set_option linter.unusedSimpArgs false
namespace Go.Lk
open Go.RowKit
theorem word_eq {ws : List Int} (hw : W32 ws) (hl : ws.length ≤ 100000) {i : Nat} (hi : i ≤ 100000) {a : Int} (ha : a = (i : Int)) : limelightref6_word (wds ws) a = some (wat ws i) := by
  subst ha
  have hu := wat_bd hw i
  unfold U32 at hu
  unfold limelightref6_word
  rw [mul_i64 (by omega), ref_Get_eq (wds_byt ws) (by rw [wds_length]; omega) (by omega) (by omega)]
  by_cases h : i < ws.length
  · obtain ⟨n, hn⟩ := get_some h
    have hwat : wat ws i = n := by simp [wat, hn]
    rw [if_pos (by rw [wds_length]; omega), show (4 * (i : Int)).toNat = 4 * i from by omega, show (4 : Int).toNat = 4 from rfl, get_wds hn, List.take_left' (be_length 4 n), val_be4 (hw n (List.mem_of_getElem? hn)), hwat]
    simp only [Option.bind_some]
    rw [cv_u32 (by omega)]
  · have hwat : wat ws i = 0 := by simp [wat, List.getElem?_eq_none (show ws.length ≤ i by omega)]
    rw [if_neg (by rw [wds_length]; omega), hwat]
    rfl
theorem quo4 (ws : List Int) (hl : ws.length ≤ 100000) : quo .i64 ((wds ws).length : Int) 4 = (ws.length : Int) := by
  rw [wds_length, quo_i64 (by omega)]; omega
theorem drop_wat {ws : List Int} {i : Nat} (h : i < ws.length) : ws.drop i = wat ws i :: ws.drop (i + 1) := by
  rw [List.drop_eq_getElem_cons h]; simp [wat, List.getElem?_eq_getElem h]
theorem open17 {n : Int} (hn : U32 n) : limelightref1_Open (cv .i64 (shr .u32 n 26)) (band .u32 (shr .u32 n 9) 131071) 17 = some (openR (n / 67108864).toNat (n / 512 % 131072)) := by
  unfold U32 at hn
  have e26 : (2 : Int) ^ 26 = 67108864 := rfl
  have e9 : (2 : Int) ^ 9 = 512 := rfl
  have e17 : (2 : Int) ^ 17 = 131072 := rfl
  rw [shr_e (n := 26) 26 rfl (by decide), shr_e (n := 9) 9 rfl (by decide), e26, e9, cv_i64 (by omega), band_low (n := 131071) 17 rfl (by omega) (by simp [IntKind.bits]; omega) (by decide), w_u32, e17,
    show n / 512 % 131072 % 4294967296 = n / 512 % 131072 from by omega]
  have := ref_Open_eq (e := (n / 67108864).toNat) (b := 17) (m := n / 512 % 131072) (by decide) (by omega) (by omega)
  rw [show ((n / 67108864).toNat : Int) = n / 67108864 from by omega] at this
  exact this
theorem open18 {n : Int} (hn : U32 n) : limelightref1_Open (cv .i64 (band .u32 (shr .u32 n 18) 63)) (band .u32 n 262143) 18 = some (openR (n / 262144 % 64).toNat (n % 262144)) := by
  unfold U32 at hn
  have e18 : (2 : Int) ^ 18 = 262144 := rfl
  have e6 : (2 : Int) ^ 6 = 64 := rfl
  rw [shr_e (n := 18) 18 rfl (by decide), e18, band_low (n := 63) 6 rfl (by omega) (by simp [IntKind.bits]; omega) (by decide), w_u32, e6, band_low (n := 262143) 18 rfl (by omega) (by simp [IntKind.bits]; omega) (by decide), w_u32, e18,
    cv_i64 (by omega), show n % 262144 % 4294967296 = n % 262144 from by omega, show n / 262144 % 64 % 4294967296 = n / 262144 % 64 from by omega]
  have := ref_Open_eq (e := (n / 262144 % 64).toNat) (b := 18) (m := n % 262144) (by decide) (by omega) (by omega)
  rw [show ((n / 262144 % 64).toNat : Int) = n / 262144 % 64 from by omega] at this
  exact this
def refR (t c : Int) (ws : List Int) : api_Report :=
  if kindOf t c = 6 then ⟨6, 0, 0, [], [], [], 0, t, c, wds ws⟩
  else if kindOf t c = 1 ∨ kindOf t c = 2 then ⟨kindOf t c, wat ws 0, 0, tups (ws.drop 2), [], [], 0, 0, 0, []⟩
  else if kindOf t c = 3 then ⟨3, wat ws 0, wat ws 1, [], [], [], 0, 0, 0, []⟩
  else if kindOf t c = 4 then ⟨4, wat ws 0, 0, [], firA (ws.drop 2), firN (ws.drop 2), 0, 0, 0, []⟩
  else ⟨5, wat ws 0, 0, [], ws.drop 4, [], openR (wat ws 3 / 262144 % 64).toNat (wat ws 3 % 262144), 0, 0, []⟩
theorem refloop0 {ws : List Int} (hw : W32 ws) (hl : ws.length ≤ 70000) : ∀ (d i : Nat) (acc : List api_Tuple), ws.length ≤ i + d → i ≤ ws.length + 2 → acc.length ≤ i →
    ∃ j, loopF (fun sg => limelightref6_parse_l0 (wds ws) sg.1 sg.2) ((i : Int), acc) = some (.brk (j, acc ++ tups (ws.drop i))) := by
  intro d
  induction d using Nat.strongRecOn with
  | _ d ih =>
    intro i acc hd hi hacc
    by_cases h1 : i + 1 < ws.length
    · have step : limelightref6_parse_l0 (wds ws) (i : Int) acc = some (.next (((i + 2 : Nat) : Int), acc ++ [tupOf (wat ws i) (wat ws (i + 1))])) := by
        have hu := wat_bd hw (i + 1)
        have hu2 := hu
        unfold U32 at hu2
        simp only [limelightref6_parse_l0]
        rw [quo4 ws (by omega), add_i64 (by omega), if_pos (by simp; omega), word_eq hw (by omega) (i := i + 1) (by omega) (by omega)]
        simp only [Option.bind_some]
        rw [word_eq hw (by omega) (i := i) (by omega) rfl]
        simp only [Option.bind_some]
        rw [open17 hu]
        simp only [Option.bind_some]
        have e9 : band .u32 (wat ws (i + 1)) 511 = wat ws (i + 1) % 512 := by
          rw [band_low (n := 511) 9 rfl hu2.1 (by simp [IntKind.bits]; omega) (by decide), w_u32]
          have : (2 : Int) ^ 9 = 512 := rfl
          omega
        rw [e9, cv_i64 (by omega), app_ok (by simp; omega), add_i64 (by omega)]
        rfl
      obtain ⟨j, hj⟩ := ih (d - 2) (by omega) (i + 2) (acc ++ [tupOf (wat ws i) (wat ws (i + 1))]) (by omega) (by omega) (by simp; omega)
      refine ⟨j, (loopF_next step).trans (hj.trans ?_)⟩
      rw [drop_wat (show i < ws.length by omega), drop_wat h1]
      simp [tups]
    · refine ⟨i, loopF_brk ?_⟩
      simp only [limelightref6_parse_l0]
      rw [quo4 ws (by omega), add_i64 (by omega), if_neg (by simp; omega)]
      have : tups (ws.drop i) = [] := List.eq_nil_of_length_eq_zero (by rw [tups_len, List.length_drop]; omega)
      rw [this, List.append_nil]
theorem refloop1 {ws : List Int} (hw : W32 ws) (hl : ws.length ≤ 70000) : ∀ (d i : Nat) (acc acc2 : List Int), ws.length ≤ i + d → i ≤ ws.length + 2 → acc.length ≤ i → acc2.length ≤ i →
    ∃ j, loopF (fun sg => limelightref6_parse_l1 (wds ws) sg.1 sg.2.1 sg.2.2) ((i : Int), acc, acc2) = some (.brk (j, acc ++ firA (ws.drop i), acc2 ++ firN (ws.drop i))) := by
  intro d
  induction d using Nat.strongRecOn with
  | _ d ih =>
    intro i acc acc2 hd hi hacc hacc2
    by_cases h1 : i + 1 < ws.length
    · have step : limelightref6_parse_l1 (wds ws) (i : Int) acc acc2 = some (.next (((i + 2 : Nat) : Int), acc ++ [wat ws i], acc2 ++ [wat ws (i + 1) / 16777216])) := by
        have hu2 := wat_bd hw (i + 1)
        unfold U32 at hu2
        simp only [limelightref6_parse_l1]
        rw [quo4 ws (by omega), add_i64 (by omega), if_pos (by simp; omega), word_eq hw (by omega) (i := i) (by omega) rfl]
        simp only [Option.bind_some]
        rw [app_ok (by simp; omega)]
        simp only [Option.bind_some]
        rw [word_eq hw (by omega) (i := i + 1) (by omega) (by omega)]
        simp only [Option.bind_some]
        have e24 : (2 : Int) ^ 24 = 16777216 := rfl
        rw [shr_e (n := 24) 24 rfl (by decide), e24, cv_i64 (by omega), app_ok (by simp; omega), add_i64 (by omega)]
        rfl
      obtain ⟨j, hj⟩ := ih (d - 2) (by omega) (i + 2) (acc ++ [wat ws i]) (acc2 ++ [wat ws (i + 1) / 16777216]) (by omega) (by omega) (by simp; omega) (by simp; omega)
      refine ⟨j, (loopF_next step).trans (hj.trans ?_)⟩
      rw [drop_wat (show i < ws.length by omega), drop_wat h1]
      simp [firA, firN]
    · refine ⟨i, loopF_brk ?_⟩
      simp only [limelightref6_parse_l1]
      rw [quo4 ws (by omega), add_i64 (by omega), if_neg (by simp; omega)]
      have q1 : firA (ws.drop i) = [] := List.eq_nil_of_length_eq_zero (by rw [firA_len, List.length_drop]; omega)
      have q2 : firN (ws.drop i) = [] := List.eq_nil_of_length_eq_zero (by rw [firN_len, List.length_drop]; omega)
      rw [q1, q2, List.append_nil, List.append_nil]
theorem refloop2 {ws : List Int} (hw : W32 ws) (hl : ws.length ≤ 70000) : ∀ (d i : Nat) (acc : List Int), ws.length ≤ i + d → i ≤ ws.length + 4 → acc.length ≤ i →
    ∃ j, loopF (fun sg => limelightref6_parse_l2 (wds ws) sg.1 sg.2) ((i : Int), acc) = some (.brk (j, acc ++ ws.drop i)) := by
  intro d
  induction d with
  | zero =>
    intro i acc hd hi hacc
    refine ⟨i, loopF_brk ?_⟩
    simp only [limelightref6_parse_l2]
    rw [quo4 ws (by omega), if_neg (by simp; omega), List.drop_eq_nil_of_le (by omega), List.append_nil]
  | succ d ih =>
    intro i acc hd hi hacc
    by_cases h1 : i < ws.length
    · have step : limelightref6_parse_l2 (wds ws) (i : Int) acc = some (.next (((i + 1 : Nat) : Int), acc ++ [wat ws i])) := by
        simp only [limelightref6_parse_l2]
        rw [quo4 ws (by omega), if_pos (by simp; omega), word_eq hw (by omega) (i := i) (by omega) rfl]
        simp only [Option.bind_some]
        rw [app_ok (by simp; omega), add_i64 (by omega)]
        rfl
      obtain ⟨j, hj⟩ := ih (i + 1) (acc ++ [wat ws i]) (by omega) (by omega) (by simp; omega)
      refine ⟨j, (loopF_next step).trans (hj.trans ?_)⟩
      rw [drop_wat h1]
      simp
    · refine ⟨i, loopF_brk ?_⟩
      simp only [limelightref6_parse_l2]
      rw [quo4 ws (by omega), if_neg (by simp; omega), List.drop_eq_nil_of_le (by omega), List.append_nil]
theorem refparse_eq {ws : List Int} (hw : W32 ws) (hl : ws.length ≤ 70000) (t c : Int) : limelightref6_parse t c (wds ws) = some (refR t c ws) := by
  unfold limelightref6_parse refR
  rw [word_eq hw (by omega) (i := 0) (a := 0) (by omega) rfl, known_eq]
  simp only [Option.bind_some]
  by_cases h6 : kindOf t c = 6
  · rw [if_pos (by simp [h6]), if_pos h6, app_ok (by rw [wds_length]; simp; omega)]
    rfl
  · rw [if_neg (by simp [h6]), if_neg h6]
    by_cases ht : t = 205
    · subst ht
      have hk : (c = 3 ∨ c = 4) ∧ kindOf 205 c = c - 2 := by
        unfold kindOf at h6 ⊢
        simp only [true_and, Int.reduceEq, false_and, if_false] at h6 ⊢
        by_cases c3 : c = 3
        · subst c3; simp
        · by_cases c4 : c = 4
          · subst c4; simp
          · simp [c3, c4] at h6
      obtain ⟨j, hj⟩ := refloop0 hw hl ws.length 2 [] (by omega) (by omega) (by simp)
      rw [if_pos (by decide), if_pos (by omega), show ((2 : Int), ([] : List api_Tuple)) = (((2 : Nat) : Int), []) from rfl, hj, hk.2, sub_i64 (by omega)]
      rfl
    · have hk : t = 206 ∧ ((c = 1 ∧ kindOf t c = 3) ∨ (c = 4 ∧ kindOf t c = 4) ∨ (c = 15 ∧ kindOf t c = 5)) := by
        unfold kindOf at h6 ⊢
        simp only [ht, false_and, if_false] at h6 ⊢
        by_cases t6 : t = 206
        · subst t6
          refine ⟨rfl, ?_⟩
          simp only [true_and] at h6 ⊢
          by_cases c1 : c = 1
          · subst c1; simp
          · by_cases c4 : c = 4
            · subst c4; simp
            · by_cases c15 : c = 15
              · subst c15; simp
              · simp [c1, c4, c15] at h6
        · simp [t6] at h6
      rw [if_neg (by simpa using ht)]
      obtain ⟨rfl, ⟨rfl, hk⟩ | ⟨rfl, hk⟩ | ⟨rfl, hk⟩⟩ := hk
      · rw [if_pos (by decide), if_neg (by omega), if_pos hk, word_eq hw (by omega) (i := 1) (a := 1) (by omega) rfl]
        rfl
      · obtain ⟨j, hj⟩ := refloop1 hw hl ws.length 2 [] [] (by omega) (by omega) (by simp) (by simp)
        rw [if_neg (by decide), if_pos (by decide), if_neg (by omega), if_neg (by omega), if_pos hk, show ((2 : Int), ([] : List Int), ([] : List Int)) = (((2 : Nat) : Int), [], []) from rfl, hj]
        rfl
      · obtain ⟨j, hj⟩ := refloop2 hw hl ws.length 4 [] (by omega) (by omega) (by simp)
        rw [if_neg (by decide), if_neg (by decide), if_neg (by omega), if_neg (by omega), if_neg (by omega), word_eq hw (by omega) (i := 3) (a := 3) (by omega) rfl]
        simp only [Option.bind_some]
        rw [open18 (wat_bd hw 3)]
        simp only [Option.bind_some]
        rw [show ((4 : Int), ([] : List Int)) = (((4 : Nat) : Int), []) from rfl, hj]
        rfl
def sht : List Int → List Int
  | o :: n :: r => o :: tupN (tupOf o n) :: sht r
  | l => l
theorem sht_len : ∀ l : List Int, (sht l).length = l.length
  | [] => rfl
  | [_] => rfl
  | _ :: _ :: r => by simp only [sht, List.length_cons, sht_len r]
def shortS (t c : Int) (ws : List Int) : List Int :=
  if kindOf t c = 1 ∨ kindOf t c = 2 then ws.take 2 ++ sht (ws.drop 2)
  else if kindOf t c = 5 ∧ 4 ≤ ws.length then ws.set 3 (wat ws 3 / 16777216 * 16777216 + rateN (openR (wat ws 3 / 262144 % 64).toNat (wat ws 3 % 262144)))
  else ws
theorem WT_tupOf {o n : Int} (ho : U32 o) (hn : U32 n) : WT (tupOf o n) ∧ 0 ≤ (tupOf o n).Over ∧ (tupOf o n).Over ≤ 511 := by
  unfold U32 at hn
  have h := openR_le (e := (n / 67108864).toNat) (m := n / 512 % 131072) (by omega)
  refine ⟨⟨ho, h, ?_⟩, ?_⟩
  · simp only [tupOf, I64]; omega
  · simp only [tupOf]; omega
theorem cpy_wds {hdr ws : List Int} (hh : hdr.length = 4) {j : Nat} (hj : j < ws.length) {a : Int} (ha : a = ((4 + 4 * j : Nat) : Int)) (v : Int) : cpy (hdr ++ wds ws) a (be 4 v) = hdr ++ wds (ws.set j v) := by
  subst ha
  have e1 : (hdr ++ wds ws).take (4 + 4 * j) = hdr ++ wds (ws.take j) := by
    rw [List.take_append, hh, List.take_of_length_le (by omega), show 4 + 4 * j - 4 = 4 * j from by omega]
    congr 1
    have := congrArg wds (List.take_append_drop j ws)
    rw [wds_app] at this
    rw [← this, List.take_left' (by rw [wds_length, List.length_take]; omega)]
  have e2 : (hdr ++ wds ws).drop (4 + 4 * j + 4) = wds (ws.drop (j + 1)) := by
    rw [List.drop_append, hh, List.drop_of_length_le (by omega), show 4 + 4 * j + 4 - 4 = 4 * (j + 1) from by omega, drop_wds]
    rfl
  have e3 : (hdr ++ wds ws).length - (4 + 4 * j) = 4 * (ws.length - j) := by
    rw [List.length_append, hh, wds_length]; omega
  unfold cpy
  rw [Int.toNat_natCast, e3, be_length, Nat.min_eq_left (by omega), e1, e2, List.take_of_length_le (l := be 4 v) (by rw [be_length]; omega)]
  rw [List.set_eq_take_append_cons_drop, if_pos hj, wds_app, wds_cons]
  simp
theorem short_loop {hdr : List Int} (hh : hdr.length = 4) (r : api_Report) (hr : r.Tuples.length ≤ 70000) : ∀ (m : Nat) (rest A : List Int) (k : Nat), rest.length ≤ m → W32 rest → r.Tuples.drop k = tups rest → k ≤ r.Tuples.length → (2 ≤ rest.length → A.length = 2 + 2 * k) → A.length + rest.length ≤ 70000 →
    ∃ j, loopF (fun sg => limelightref6_short_l0 r sg.1 sg.2) ((k : Int), hdr ++ wds (A ++ rest)) = some (.brk (j, hdr ++ wds (A ++ sht rest))) := by
  intro m
  induction m using Nat.strongRecOn with
  | _ m ih =>
    intro rest A k hm hw hd hk hA hlen
    have stop : tups rest = [] → sht rest = rest → ∃ j, loopF (fun sg => limelightref6_short_l0 r sg.1 sg.2) ((k : Int), hdr ++ wds (A ++ rest)) = some (.brk (j, hdr ++ wds (A ++ sht rest))) := fun h h2 => by
      refine ⟨k, loopF_brk ?_⟩
      rw [h] at hd
      have : k = r.Tuples.length := by have := List.drop_eq_nil_iff.1 hd; omega
      subst this
      simp only [limelightref6_short_l0]
      rw [if_neg (by simp), h2]
    match rest, hm, hw, hd, hA, hlen, stop with
    | [], _, _, _, _, _, stop => exact stop rfl rfl
    | [x], _, _, _, _, _, stop => exact stop (by simp [tups]) (by simp [sht])
    | o :: n :: rest, hm, hw, hd, hA, hlen, _ =>
      have hA := hA (by simp)
      simp only [List.length_cons] at hm hlen
      have hkl : k < r.Tuples.length := by
        have := congrArg List.length hd
        simp [tups] at this
        omega
      have hx : r.Tuples[k]? = some (tupOf o n) := by
        have := List.drop_eq_getElem_cons hkl
        rw [hd, tups] at this
        rw [List.getElem?_eq_getElem hkl, (List.cons.inj this).1]
      have hd' : r.Tuples.drop (k + 1) = tups rest := by
        have := List.drop_eq_getElem_cons hkl
        rw [hd, tups] at this
        exact (List.cons.inj this).2.symm
      obtain ⟨hT, hO⟩ := WT_tupOf (hw o (by simp)) (hw n (by simp))
      have step : limelightref6_short_l0 r (k : Int) (hdr ++ wds (A ++ o :: n :: rest)) = some (.next (((k + 1 : Nat) : Int), hdr ++ wds ((A ++ [o, tupN (tupOf o n)]) ++ rest))) := by
        simp only [limelightref6_short_l0]
        rw [if_pos (by simpa using hkl), ix_nat, hx]
        simp only [Option.bind_some]
        rw [show (17 : Int) = ((17 : Nat) : Int) from rfl, ref_Pack_eq (b := 17) (by decide) hT.2.1]
        simp only [Option.bind_some]
        rw [mul_i64 (by omega), add_i64 (by omega), tupN_or hT hO, gd_ok (by
          rw [List.length_append, hh, wds_length, List.length_append, List.length_cons, List.length_cons]; omega), words_eq (by intro q hq; simp at hq; subst hq; exact tupN_bd hT hO) (by simp)]
        simp only [Option.bind_some]
        have e1 : wds [tupN (tupOf o n)] = be 4 (tupN (tupOf o n)) := by simp [wds]
        rw [e1, cpy_wds hh (j := A.length + 1) (by simp) (by omega), add_i64 (by omega)]
        simp
      obtain ⟨j, hj⟩ := ih (m - 2) (by omega) rest (A ++ [o, tupN (tupOf o n)]) (k + 1) (by omega) (fun q hq => hw q (by simp [hq])) hd' (by omega) (fun _ => by simp; omega) (by simp; omega)
      exact ⟨j, (loopF_next step).trans (hj.trans (by simp [sht]))⟩
theorem tups_drop2 (ws : List Int) : 2 ≤ (ws.drop 2).length → (ws.take 2).length = 2 + 2 * 0 := fun h => by
  rw [List.length_drop] at h
  rw [List.length_take]; omega
theorem refshort_eq {hdr ws : List Int} (hB : Byt hdr) (hh : hdr.length = 4) (hw : W32 ws) (hl : ws.length ≤ 66000) (t c : Int) : limelightref6_short (hdr ++ wds ws) (refR t c ws) = some (hdr ++ wds (shortS t c ws)) := by
  have hkk := kindOf_le t c
  have hlen : (hdr ++ wds ws).length = 4 + 4 * ws.length := by rw [List.length_append, hh, wds_length]
  unfold limelightref6_short
  rw [app_ok (by rw [hlen]; simp; omega)]
  simp only [Option.bind_some, List.nil_append]
  have none_ : ∀ (r : api_Report) (y : List Int), r.Tuples = [] → loopF (fun sg => limelightref6_short_l0 r sg.1 sg.2) (0, y) = some (.brk (0, y)) := fun r y h => by
    refine loopF_brk ?_
    simp only [limelightref6_short_l0]
    rw [if_neg (by simp [h])]
  by_cases h12 : kindOf t c = 1 ∨ kindOf t c = 2
  · have hR : refR t c ws = ⟨kindOf t c, wat ws 0, 0, tups (ws.drop 2), [], [], 0, 0, 0, []⟩ := by
      unfold refR; rw [if_neg (by omega), if_pos h12]
    have hS : shortS t c ws = ws.take 2 ++ sht (ws.drop 2) := by unfold shortS; rw [if_pos h12]
    rw [hR, hS]
    obtain ⟨j, hj⟩ := short_loop hh ⟨kindOf t c, wat ws 0, 0, tups (ws.drop 2), [], [], 0, 0, 0, []⟩ (by simp only [tups_len, List.length_drop]; omega) (ws.drop 2).length (ws.drop 2) (ws.take 2) 0 (by omega) (fun q hq => hw q (List.mem_of_mem_drop hq)) (by simp) (by omega) (tups_drop2 ws) (by rw [List.length_take, List.length_drop]; omega)
    have hk5 : ((kindOf t c == 5) && (decide (20 ≤ ((hdr ++ wds ws).length : Int)))) = false := by simp; omega
    simp only [hk5, Bool.false_eq_true, if_false, Option.bind_some]
    rw [List.take_append_drop] at hj
    rw [show ((0 : Int), hdr ++ wds ws) = (((0 : Nat) : Int), hdr ++ wds ws) from rfl, hj]
    rfl
  · have hT : (refR t c ws).Tuples = [] := by
      unfold refR; rw [if_neg h12]
      repeat' split
      all_goals rfl
    by_cases h5 : kindOf t c = 5 ∧ 4 ≤ ws.length
    · have hR : refR t c ws = ⟨5, wat ws 0, 0, [], ws.drop 4, [], openR (wat ws 3 / 262144 % 64).toNat (wat ws 3 % 262144), 0, 0, []⟩ := by
        unfold refR; rw [if_neg (by omega), if_neg h12, if_neg (by omega), if_neg (by omega)]
      have hS : shortS t c ws = ws.set 3 (wat ws 3 / 16777216 * 16777216 + rateN (openR (wat ws 3 / 262144 % 64).toNat (wat ws 3 % 262144))) := by
        unfold shortS; rw [if_neg h12, if_pos h5]
      have h3 := wat_bd hw 3
      unfold U32 at h3
      have hU : U64 (openR (wat ws 3 / 262144 % 64).toNat (wat ws 3 % 262144)) := openR_le (by omega)
      rw [hR] at hT ⊢
      rw [hS]
      have hk5 : (((5 : Int) == 5) && (decide (20 ≤ ((hdr ++ wds ws).length : Int)))) = true := by rw [hlen]; simp; omega
      simp only [hk5, if_true]
      have hx : (hdr ++ wds ws)[16]? = some (wat ws 3 / 16777216) := by
        rw [List.getElem?_append_right (by omega), hh]
        obtain ⟨n, hn⟩ := get_some (l := ws) (k := 3) (by omega)
        have e1 := get_wds hn
        have hwat : wat ws 3 = n := by simp [wat, hn]
        have e2 : (wds ws)[12]? = ((wds ws).drop (4 * 3))[0]? := by rw [List.getElem?_drop]
        rw [show 16 - 4 = 12 from rfl, e2, e1, hwat]
        simp [be]
        omega
      rw [show (18 : Int) = ((18 : Nat) : Int) from rfl, ref_Pack_eq (b := 18) (by decide) hU, show ((18 : Nat) : Int) = 18 from rfl]
      simp only [Option.bind_some]
      rw [gd_ok (by omega)]
      rw [ix_at (i := 16) (k := 16) rfl hx]
      simp only [Option.bind_some]
      rw [remb_or (by omega) hU, words_eq (by
        intro q hq
        have := pe18 hU
        simp at hq
        subst hq
        unfold U32 rateN
        omega) (by simp)]
      simp only [Option.bind_some]
      have e1 : ∀ q : Int, wds [q] = be 4 q := fun q => by simp [wds]
      rw [e1, cpy_wds hh (j := 3) (by omega) (by rfl), none_ _ _ rfl]
      rfl
    · have hS : shortS t c ws = ws := by unfold shortS; rw [if_neg h12, if_neg h5]
      have hk5 : (((refR t c ws).Kind == 5) && (decide (20 ≤ ((hdr ++ wds ws).length : Int)))) = false := by
        have : (refR t c ws).Kind = kindOf t c := by
          unfold refR
          rw [if_neg h12]
          repeat' split
          all_goals (simp only; omega)
        rw [this, hlen]
        simp
        omega
      rw [hS]
      simp only [hk5, Bool.false_eq_true, if_false, Option.bind_some]
      rw [none_ _ _ hT]
      rfl
theorem W32.drop {ws : List Int} (h : W32 ws) (k : Nat) : W32 (ws.drop k) := fun n hn => h n (List.mem_of_mem_drop hn)
theorem tups_WT : ∀ {l : List Int}, W32 l → ∀ t ∈ tups l, WT t ∧ 0 ≤ t.Over ∧ t.Over ≤ 511
  | [], _, t, ht => by simp [tups] at ht
  | [_], _, t, ht => by simp [tups] at ht
  | o :: n :: r, h, t, ht => by
    simp only [tups, List.mem_cons] at ht
    rcases ht with rfl | ht
    · exact WT_tupOf (h o (by simp)) (h n (by simp))
    · exact tups_WT (l := r) (fun q hq => h q (by simp [hq])) t ht
theorem firA_bd : ∀ {l : List Int}, W32 l → ∀ n ∈ firA l, U32 n
  | [], _, t, ht => by simp [firA] at ht
  | [_], _, t, ht => by simp [firA] at ht
  | o :: n :: r, h, t, ht => by
    simp only [firA, List.mem_cons] at ht
    rcases ht with rfl | ht
    · exact h t (by simp)
    · exact firA_bd (l := r) (fun q hq => h q (by simp [hq])) t ht
theorem firN_bd : ∀ {l : List Int}, W32 l → ∀ n ∈ firN l, 0 ≤ n ∧ n ≤ 255
  | [], _, t, ht => by simp [firN] at ht
  | [_], _, t, ht => by simp [firN] at ht
  | o :: n :: r, h, t, ht => by
    simp only [firN, List.mem_cons] at ht
    rcases ht with rfl | ht
    · have := h n (by simp); unfold U32 at this; omega
    · exact firN_bd (l := r) (fun q hq => h q (by simp [hq])) t ht
theorem refR_WR {ws : List Int} (hw : W32 ws) (hl : ws.length ≤ 1000) {t c : Int} (ht : 192 ≤ t ∧ t ≤ 223) (hc : 0 ≤ c ∧ c ≤ 31) : WR (refR t c ws) := by
  have hk := kindOf_le t c
  have h0 := wat_bd hw 0
  have h1 := wat_bd hw 1
  have z32 : U32 0 := by unfold U32; omega
  have z64 : U64 0 := by unfold U64; omega
  have zi : I64 0 := by unfold I64; omega
  have nT : ∀ t ∈ ([] : List api_Tuple), WT t := fun t h => by simp at h
  have nA : ∀ n ∈ ([] : List Int), U32 n := fun t h => by simp at h
  have nI : ∀ n ∈ ([] : List Int), I64 n := fun t h => by simp at h
  have nB : Byt [] := fun t h => by simp at h
  unfold refR
  by_cases h6 : kindOf t c = 6
  · rw [if_pos h6]
    exact ⟨by unfold I64; simp, z32, z32, nT, nA, nI, z64, by unfold I64; simp only; omega, by unfold I64; simp only; omega, wds_byt ws, by simp, by simp, by simp, by rw [wds_length]; omega⟩
  · rw [if_neg h6]
    by_cases h12 : kindOf t c = 1 ∨ kindOf t c = 2
    · rw [if_pos h12]
      exact ⟨by unfold I64; simp only; omega, h0, z32, fun q hq => (tups_WT (hw.drop 2) q hq).1, nA, nI, z64, zi, zi, nB, by simp only [tups_len, List.length_drop]; omega, by simp, by simp, by simp⟩
    · rw [if_neg h12]
      by_cases h3 : kindOf t c = 3
      · rw [if_pos h3]
        exact ⟨by unfold I64; simp, h0, h1, nT, nA, nI, z64, zi, zi, nB, by simp, by simp, by simp, by simp⟩
      · rw [if_neg h3]
        by_cases h4 : kindOf t c = 4
        · rw [if_pos h4]
          exact ⟨by unfold I64; simp, h0, z32, nT, firA_bd (hw.drop 2), fun n hn => by have := firN_bd (hw.drop 2) n hn; unfold I64; omega, z64, zi, zi, nB, by simp, by simp only [firA_len, List.length_drop]; omega, by simp only [firN_len, List.length_drop]; omega, by simp⟩
        · rw [if_neg h4]
          have h3' := wat_bd hw 3
          unfold U32 at h3'
          exact ⟨by unfold I64; simp, h0, z32, nT, hw.drop 4, nI, openR_le (by omega), zi, zi, nB, by simp, by simp only [List.length_drop]; omega, by simp, by simp⟩
theorem tupOk_of {o n : Int} (hn : U32 n) : tupOk (tupOf o n) = !tupBad n := by
  unfold U32 at hn
  have e0 : tupOk (tupOf o n) = (decide (0 ≤ n % 512) && decide (n % 512 ≤ 511) && decide (downR 17 (openR (n / 67108864).toNat (n / 512 % 131072)) = openR (n / 67108864).toNat (n / 512 % 131072))) := rfl
  rw [e0]
  unfold tupBad
  rw [decide_eq_true (show 0 ≤ n % 512 by omega), decide_eq_true (show n % 512 ≤ 511 by omega)]
  simp only [Bool.true_and]
  generalize he : (n / 67108864).toNat = e
  generalize hm : n / 512 % 131072 = m
  unfold sat
  by_cases h : m * 2 ^ e ≤ 18446744073709551615
  · have h1 : openR e m = m * 2 ^ e := by unfold openR; rw [if_pos h]
    rw [h1, down_open (b := 17) ⟨by omega, by have : (2 : Int) ^ 17 = 131072 := rfl; omega⟩, decide_eq_true rfl, decide_eq_false (by omega)]
    rfl
  · have h1 : openR e m = 18446744073709551615 := by unfold openR; rw [if_neg h]
    rw [h1, decide_eq_false (down_most (by omega)), decide_eq_true (by omega)]
    rfl
theorem down18 {e : Nat} {m : Int} (hm : 0 ≤ m ∧ m < 262144) : downR 18 (openR e m) = openR e m ↔ sat e m = false := by
  unfold sat
  by_cases h : m * 2 ^ e ≤ 18446744073709551615
  · have h1 : openR e m = m * 2 ^ e := by unfold openR; rw [if_pos h]
    rw [h1, down_open (b := 18) ⟨hm.1, hm.2⟩, decide_eq_false (by omega)]
    simp
  · have h1 : openR e m = 18446744073709551615 := by unfold openR; rw [if_neg h]
    rw [h1, decide_eq_true (by omega)]
    simp [down_most (b := 18) (by omega)]
theorem evt_iff : ∀ {l : List Int}, W32 l → ((∀ t ∈ tups l, tupOk t = true) ∧ (tups l).flatMap tupW = sht l ↔ evt l = true)
  | [], _ => by simp [tups, sht, evt]
  | [x], _ => by simp [tups, sht, evt]
  | o :: n :: r, h => by
    have ih := evt_iff (l := r) fun q hq => h q (by simp [hq])
    have h1 := tupOk_of (o := o) (h n (by simp))
    simp only [tups, sht, evt, List.mem_cons, forall_eq_or_imp, h1, List.flatMap_cons, tupW, Bool.and_eq_true, ← ih]
    constructor
    · rintro ⟨⟨q1, q2⟩, q3⟩
      refine ⟨q1, q2, ?_⟩
      simpa [tupOf] using q3
    · rintro ⟨q1, q2, q3⟩
      refine ⟨⟨q1, q2⟩, ?_⟩
      simpa [tupOf] using q3
theorem evf_iff : ∀ {l : List Int}, W32 l → (((firA l).zip (firN l)).flatMap firW = l ↔ evf l = true)
  | [], _ => by simp [firA, firN, evf]
  | [x], _ => by simp [firA, firN, evf]
  | o :: n :: r, h => by
    have ih := evf_iff (l := r) fun q hq => h q (by simp [hq])
    simp only [firA, firN, evf, List.zip_cons_cons, List.flatMap_cons, firW, Bool.and_eq_true, decide_eq_true_iff, ← ih]
    constructor
    · intro q
      simp at q
      exact ⟨by omega, by simpa [firW] using q.2⟩
    · rintro ⟨q1, q2⟩
      have : n / 16777216 * 16777216 = n := by omega
      simp only [this]
      simpa [firW] using q2
theorem W32_cons {a : Int} {l : List Int} (ha : U32 a) (hl : W32 l) : W32 (a :: l) := fun n hn => by
  rcases List.mem_cons.1 hn with rfl | hn
  · exact ha
  · exact hl n hn
theorem W32_app {a l : List Int} (ha : W32 a) (hl : W32 l) : W32 (a ++ l) := fun n hn => by
  rcases List.mem_append.1 hn with hn | hn
  · exact ha n hn
  · exact hl n hn
theorem W32_flat {α : Type} {f : α → List Int} {l : List α} (h : ∀ a ∈ l, W32 (f a)) : W32 (l.flatMap f) := fun n hn => by
  obtain ⟨a, ha, hn⟩ := List.mem_flatMap.1 hn
  exact h a ha n hn
theorem rateN_bd {n : Int} (h : U64 n) : 0 ≤ rateN n ∧ rateN n < 16777216 := by
  have := pe18 h
  unfold rateN
  omega
theorem bodyW_32 {r : api_Report} (hr : WR r) (h : rightE r = 0) : W32 (bodyW r) := by
  obtain ⟨hk, hv, _⟩ := right_val h
  have z32 : U32 0 := by unfold U32; omega
  have nil : W32 [] := fun n h => by simp at h
  unfold bodyW
  by_cases h12 : r.Kind = 1 ∨ r.Kind = 2
  · rw [if_pos h12]
    have hv := val12 hv h12
    exact W32_cons hr.from_ (W32_cons z32 (W32_flat fun t ht => W32_cons (hr.tuples t ht).1 (W32_cons (tupN_bd (hr.tuples t ht) (hv.2 t ht).1) nil)))
  · rw [if_neg h12]
    by_cases h3 : r.Kind = 3
    · rw [if_pos h3]; exact W32_cons hr.from_ (W32_cons hr.about nil)
    · rw [if_neg h3]
      by_cases h4 : r.Kind = 4
      · rw [if_pos h4]
        have hv := val4 hv h4
        refine W32_cons hr.from_ (W32_cons z32 (W32_flat fun p hp => ?_))
        have h1 := List.of_mem_zip (show (p.1, p.2) ∈ r.Abouts.zip r.Numbers from hp)
        have h2 := hv.2.2.2 _ h1.2
        exact W32_cons (hr.abouts _ h1.1) (W32_cons (by unfold U32; omega) nil)
      · rw [if_neg h4]
        by_cases h5 : r.Kind = 5
        · rw [if_pos h5]
          have hv := val5 hv h5
          have := rateN_bd hr.rate
          exact W32_cons hr.from_ (W32_cons z32 (W32_cons (by unfold U32; omega) (W32_cons (by unfold U32; omega) hr.abouts)))
        · rw [if_neg h5]; exact nil
theorem sht_32 : ∀ {l : List Int}, W32 l → W32 (sht l)
  | [], h => h
  | [_], h => by simpa [sht] using h
  | o :: n :: r, h => by
    obtain ⟨h1, h2⟩ := WT_tupOf (h o (by simp)) (h n (by simp))
    simp only [sht]
    exact W32_cons (h o (by simp)) (W32_cons (tupN_bd h1 h2) (sht_32 (l := r) fun q hq => h q (by simp [hq])))
theorem shortS_32 {ws : List Int} (hw : W32 ws) (t c : Int) : W32 (shortS t c ws) := by
  unfold shortS
  by_cases h12 : kindOf t c = 1 ∨ kindOf t c = 2
  · rw [if_pos h12]; exact W32_app (fun n hn => hw n (List.mem_of_mem_take hn)) (sht_32 (hw.drop 2))
  · rw [if_neg h12]
    by_cases h5 : kindOf t c = 5 ∧ 4 ≤ ws.length
    · rw [if_pos h5]
      intro n hn
      rcases List.mem_or_eq_of_mem_set hn with hn | hn
      · exact hw n hn
      · subst hn
        have h3 := wat_bd hw 3
        unfold U32 at h3 ⊢
        have := rateN_bd (n := openR (wat ws 3 / 262144 % 64).toNat (wat ws 3 % 262144)) (openR_le (by omega))
        omega
    · rw [if_neg h5]; exact hw
theorem shortS_len {ws : List Int} (t c : Int) : (shortS t c ws).length = ws.length := by
  unfold shortS
  repeat' split
  · rw [List.length_append, sht_len, ← List.length_append, List.take_append_drop]
  · simp
  · rfl
def Taken (t c : Int) (ws : List Int) : Prop := rightE (refR t c ws) = 0 ∧ enc (refR t c ws) = (128 + c) :: t :: (be 2 (ws.length : Int) ++ wds (shortS t c ws))
theorem kindOf_tc {t c k : Int} (h : kindOf t c = k) (hk : k ≠ 6) : (k = 1 ∧ t = 205 ∧ c = 3) ∨ (k = 2 ∧ t = 205 ∧ c = 4) ∨ (k = 3 ∧ t = 206 ∧ c = 1) ∨ (k = 4 ∧ t = 206 ∧ c = 4) ∨ (k = 5 ∧ t = 206 ∧ c = 15) := by
  unfold kindOf at h
  by_cases h1 : t = 205 ∧ c = 3
  · rw [if_pos h1] at h; exact .inl ⟨h.symm, h1⟩
  · rw [if_neg h1] at h
    by_cases h2 : t = 205 ∧ c = 4
    · rw [if_pos h2] at h; exact .inr (.inl ⟨h.symm, h2⟩)
    · rw [if_neg h2] at h
      by_cases h3 : t = 206 ∧ c = 1
      · rw [if_pos h3] at h; exact .inr (.inr (.inl ⟨h.symm, h3⟩))
      · rw [if_neg h3] at h
        by_cases h4 : t = 206 ∧ c = 4
        · rw [if_pos h4] at h; exact .inr (.inr (.inr (.inl ⟨h.symm, h4⟩)))
        · rw [if_neg h4] at h
          by_cases h5 : t = 206 ∧ c = 15
          · rw [if_pos h5] at h; exact .inr (.inr (.inr (.inr ⟨h.symm, h5⟩)))
          · rw [if_neg h5] at h; exact absurd h.symm hk
theorem taken_iff {ws : List Int} (hw : W32 ws) (hl : ws.length ≤ 1000) {t c : Int} (ht : 192 ≤ t ∧ t ≤ 223) (hc : 0 ≤ c ∧ c ≤ 31) (h6 : kindOf t c ≠ 6) :
    Taken t c ws ↔ rightE (refR t c ws) = 0 ∧ bodyW (refR t c ws) = shortS t c ws := by
  unfold Taken
  constructor
  · rintro ⟨h1, h2⟩
    refine ⟨h1, ?_⟩
    unfold enc at h2
    have h3 := (List.cons.inj (List.cons.inj h2).2).2
    have h4 := (List.append_inj h3 (by rw [be_length, be_length])).2
    have hk : (refR t c ws).Kind ≠ 6 := by
      unfold refR
      rw [if_neg h6]
      repeat' split
      all_goals simp only
      all_goals omega
    unfold bodyB at h4
    rw [if_neg hk] at h4
    exact wds_inj (bodyW_32 (refR_WR hw hl ht hc) h1) (shortS_32 hw t c) h4
  · rintro ⟨h1, h2⟩
    refine ⟨h1, ?_⟩
    have hkk := kindOf_le t c
    have hk : (refR t c ws).Kind = kindOf t c := by
      unfold refR
      rw [if_neg h6]
      repeat' split
      all_goals simp only
      all_goals omega
    have hb : bodyB (refR t c ws) = wds (shortS t c ws) := by unfold bodyB; rw [if_neg (by omega), h2]
    have hc' : cntE (refR t c ws) = c := by
      unfold cntE
      rw [hk]
      rcases kindOf_tc rfl h6 with ⟨h, _, h'⟩ | ⟨h, _, h'⟩ | ⟨h, _, h'⟩ | ⟨h, _, h'⟩ | ⟨h, _, h'⟩ <;> rw [h] <;> simp [h']
    have ht' : typE (refR t c ws) = t := by
      unfold typE
      rw [hk]
      rcases kindOf_tc rfl h6 with ⟨h, h', _⟩ | ⟨h, h', _⟩ | ⟨h, h', _⟩ | ⟨h, h', _⟩ | ⟨h, h', _⟩ <;> rw [h] <;> simp [h']
    unfold enc
    rw [hb, hc', ht', wds_length, shortS_len, Nat.mul_div_cancel_left _ (by omega)]
theorem right_of {r : api_Report} (hk : 1 ≤ r.Kind ∧ r.Kind ≤ 6) (hf : fldB r = true) : rightE r = 0 ↔ valB r = true := by
  unfold rightE
  rw [if_neg (by omega), hf]
  cases valB r <;> simp
theorem parse12 {t c : Int} (ws : List Int) (h12 : kindOf t c = 1 ∨ kindOf t c = 2) : parseS t c ws = match ws with | f :: z :: r => if z = 0 ∧ evt r = true ∧ (tups r).length ≤ 6 then some ⟨kindOf t c, f, 0, tups r, [], [], 0, 0, 0, []⟩ else none | _ => none := by
  unfold parseS; rw [if_neg (by omega), if_pos h12]
  rfl
theorem parse3 {t c : Int} (ws : List Int) (h3 : kindOf t c = 3) : parseS t c ws = match ws with | [f, a] => some ⟨3, f, a, [], [], [], 0, 0, 0, []⟩ | _ => none := by
  unfold parseS; rw [if_neg (by omega), if_neg (by omega), if_pos h3]
  rfl
theorem parse4 {t c : Int} (ws : List Int) (h4 : kindOf t c = 4) : parseS t c ws = match ws with | f :: z :: r => if z = 0 ∧ evf r = true ∧ 1 ≤ (firA r).length ∧ (firA r).length ≤ 16 then some ⟨4, f, 0, [], firA r, firN r, 0, 0, 0, []⟩ else none | _ => none := by
  unfold parseS; rw [if_neg (by omega), if_neg (by omega), if_neg (by omega), if_pos h4]
  rfl
theorem parse5 {t c : Int} (ws : List Int) (h5 : kindOf t c = 5) : parseS t c ws = match ws with | f :: z :: m :: n :: r => if z = 0 ∧ m = 1380273474 ∧ n / 16777216 = r.length ∧ r.length ≤ 16 ∧ sat (n / 262144 % 64).toNat (n % 262144) = false then some ⟨5, f, 0, [], r, [], openR (n / 262144 % 64).toNat (n % 262144), 0, 0, []⟩ else none | _ => none := by
  unfold parseS; rw [if_neg (by omega), if_neg (by omega), if_neg (by omega), if_neg (by omega)]
  rfl
theorem taken_parse {ws : List Int} (hw : W32 ws) (hl : ws.length ≤ 1000) {t c : Int} (ht : 192 ≤ t ∧ t ≤ 223) (hc : 0 ≤ c ∧ c ≤ 31) :
    (Taken t c ws ∧ parseS t c ws = some (refR t c ws)) ∨ (¬ Taken t c ws ∧ parseS t c ws = none) := by
  by_cases h6 : kindOf t c = 6
  · left
    have hR : refR t c ws = ⟨6, 0, 0, [], [], [], 0, t, c, wds ws⟩ := by unfold refR; rw [if_pos h6]
    have hP : parseS t c ws = some ⟨6, 0, 0, [], [], [], 0, t, c, wds ws⟩ := by unfold parseS; rw [if_pos h6]
    refine ⟨⟨?_, ?_⟩, by rw [hR, hP]⟩
    · rw [hR, right_of (by simp) (by simp [fldB])]
      unfold valB
      simp [h6, ht, hc, wds_length]
      omega
    · have hS : shortS t c ws = ws := by unfold shortS; rw [if_neg (by omega), if_neg (by omega)]
      rw [hR, hS]
      have hq : (wds ws).length / 4 = ws.length := by rw [wds_length]; omega
      simp [enc, cntE, typE, bodyB, hq]
  · rw [taken_iff hw hl ht hc h6]
    have hkk := kindOf_le t c
    have hdec : ∀ (A : Prop) (x : Option api_Report) (r : api_Report), (A ↔ x = some r) → (¬ A → x = none) → (A ∧ x = some r) ∨ (¬ A ∧ x = none) := fun A x r h1 h2 => by
      by_cases h : A
      · exact .inl ⟨h, h1.1 h⟩
      · exact .inr ⟨h, h2 h⟩
    by_cases h12 : kindOf t c = 1 ∨ kindOf t c = 2
    · have hR : refR t c ws = ⟨kindOf t c, wat ws 0, 0, tups (ws.drop 2), [], [], 0, 0, 0, []⟩ := by
        unfold refR; rw [if_neg h6, if_pos h12]
      have hS : shortS t c ws = ws.take 2 ++ sht (ws.drop 2) := by unfold shortS; rw [if_pos h12]
      have hW : bodyW (refR t c ws) = wat ws 0 :: 0 :: (tups (ws.drop 2)).flatMap tupW := by rw [hR]; unfold bodyW; rw [if_pos h12]
      have hV : rightE (refR t c ws) = 0 ↔ (tups (ws.drop 2)).length ≤ 6 ∧ ∀ q ∈ tups (ws.drop 2), tupOk q = true := by
        rw [hR, right_of (by simp only; omega) (by
          have h3 : kindOf t c ≠ 6 := h6
          simp only [fldB]
          rcases h12 with h | h <;> simp [h])]
        unfold valB
        rw [if_pos h12]
        simp only [Bool.and_eq_true, decide_eq_true_iff, List.all_eq_true]
      rw [hV, hW, hS]
      rw [parse12 ws h12, hR]
      match ws, hw with
      | [], _ => right; exact ⟨by simp [sht], rfl⟩
      | [_], _ => right; exact ⟨by simp [sht], rfl⟩
      | f :: z :: r, hw =>
        have e1 : (f :: z :: r).drop 2 = r := rfl
        have e2 : (f :: z :: r).take 2 = [f, z] := rfl
        have e3 : wat (f :: z :: r) 0 = f := rfl
        have hr : W32 r := fun q hq => hw q (by simp [hq])
        rw [e1, e2, e3]
        have hiff := evt_iff hr
        try dsimp only
        refine hdec _ _ _ ?_ ?_
        · constructor
          · rintro ⟨⟨q1, q2⟩, q3⟩
            simp only [List.cons_append, List.nil_append, List.cons.injEq, true_and] at q3
            rw [if_pos ⟨q3.1.symm, hiff.1 ⟨q2, q3.2⟩, q1⟩]
          · intro q
            by_cases hq : z = 0 ∧ evt r = true ∧ (tups r).length ≤ 6
            · obtain ⟨q2, q3⟩ := hiff.2 hq.2.1
              exact ⟨⟨hq.2.2, q2⟩, by rw [q3, hq.1]; rfl⟩
            · rw [if_neg hq] at q; cases q
        · intro q
          rw [if_neg]
          rintro ⟨rfl, q1, q2⟩
          obtain ⟨q3, q4⟩ := hiff.2 q1
          exact q ⟨⟨q2, q3⟩, by rw [q4]; rfl⟩
    · by_cases h3 : kindOf t c = 3
      · have hR : refR t c ws = ⟨3, wat ws 0, wat ws 1, [], [], [], 0, 0, 0, []⟩ := by
          unfold refR; rw [if_neg h6, if_neg h12, if_pos h3]
        have hS : shortS t c ws = ws := by unfold shortS; rw [if_neg h12, if_neg (by omega)]
        have hW : bodyW (refR t c ws) = [wat ws 0, wat ws 1] := by rw [hR]; rfl
        have hV : rightE (refR t c ws) = 0 := by rw [hR, right_of (by simp) (by simp [fldB])]; rfl
        rw [hV, hW, hS, parse3 ws h3, hR]
        match ws with
        | [] => right; exact ⟨by simp, rfl⟩
        | [_] => right; exact ⟨by simp, rfl⟩
        | [f, a] => left; exact ⟨⟨rfl, rfl⟩, rfl⟩
        | _ :: _ :: _ :: _ => right; exact ⟨by simp, rfl⟩
      · by_cases h4 : kindOf t c = 4
        · have hR : refR t c ws = ⟨4, wat ws 0, 0, [], firA (ws.drop 2), firN (ws.drop 2), 0, 0, 0, []⟩ := by
            unfold refR; rw [if_neg h6, if_neg h12, if_neg h3, if_pos h4]
          have hS : shortS t c ws = ws := by unfold shortS; rw [if_neg h12, if_neg (by omega)]
          have hW : bodyW (refR t c ws) = wat ws 0 :: 0 :: ((firA (ws.drop 2)).zip (firN (ws.drop 2))).flatMap firW := by rw [hR]; rfl
          have hV : rightE (refR t c ws) = 0 ↔ 1 ≤ (firA (ws.drop 2)).length ∧ (firA (ws.drop 2)).length ≤ 16 := by
            rw [hR, right_of (by simp) (by simp [fldB])]
            unfold valB
            simp only [Int.reduceEq, or_self, if_false, if_true]
            have hall : (firN (ws.drop 2)).all (fun n => decide (0 ≤ n) && decide (n ≤ 255)) = true := by
              rw [List.all_eq_true]
              intro n hn
              have := firN_bd (hw.drop 2) n hn
              simp [this]
            rw [hall, decide_eq_true (show (firN (ws.drop 2)).length = (firA (ws.drop 2)).length by rw [firN_len, firA_len])]
            simp
          rw [hV, hW, hS]
          rw [parse4 ws h4, hR]
          match ws, hw with
          | [], _ => right; exact ⟨by simp, rfl⟩
          | [_], _ => right; exact ⟨by simp [firA, firN], rfl⟩
          | f :: z :: r, hw =>
            have e1 : (f :: z :: r).drop 2 = r := rfl
            have e3 : wat (f :: z :: r) 0 = f := rfl
            have hr : W32 r := fun q hq => hw q (by simp [hq])
            rw [e1, e3]
            have hiff := evf_iff hr
            try dsimp only
            refine hdec _ _ _ ?_ ?_
            · constructor
              · rintro ⟨⟨q1, q2⟩, q3⟩
                simp only [List.cons.injEq, true_and] at q3
                rw [if_pos ⟨q3.1.symm, hiff.1 q3.2, q1, q2⟩]
              · intro q
                by_cases hq : z = 0 ∧ evf r = true ∧ 1 ≤ (firA r).length ∧ (firA r).length ≤ 16
                · exact ⟨hq.2.2, by rw [hiff.2 hq.2.1, hq.1]⟩
                · rw [if_neg hq] at q; cases q
            · intro q
              rw [if_neg]
              rintro ⟨rfl, q1, q2⟩
              exact q ⟨q2, by rw [hiff.2 q1]⟩
        · have h5 : kindOf t c = 5 := by omega
          have hR : refR t c ws = ⟨5, wat ws 0, 0, [], ws.drop 4, [], openR (wat ws 3 / 262144 % 64).toNat (wat ws 3 % 262144), 0, 0, []⟩ := by
            unfold refR; rw [if_neg h6, if_neg h12, if_neg h3, if_neg h4]
          have hW : bodyW (refR t c ws) = wat ws 0 :: 0 :: 1380273474 :: ((ws.drop 4).length * 16777216 + rateN (openR (wat ws 3 / 262144 % 64).toNat (wat ws 3 % 262144))) :: ws.drop 4 := by rw [hR]; rfl
          have hV : rightE (refR t c ws) = 0 ↔ (ws.drop 4).length ≤ 16 ∧ sat (wat ws 3 / 262144 % 64).toNat (wat ws 3 % 262144) = false := by
            rw [hR, right_of (by simp) (by simp [fldB]), ← down18 (by omega)]
            unfold valB
            simp
          rw [hV, hW, parse5 ws h5, hR]
          have hS0 : ws.length < 4 → shortS t c ws = ws := fun h => by unfold shortS; rw [if_neg h12, if_neg (by omega)]
          match ws, hw, hS0 with
          | [], _, hS0 => right; rw [hS0 (by simp)]; exact ⟨by simp, rfl⟩
          | [_], _, hS0 => right; rw [hS0 (by simp)]; exact ⟨by simp, rfl⟩
          | [_, _], _, hS0 => right; rw [hS0 (by simp)]; exact ⟨by simp, rfl⟩
          | [_, _, _], _, hS0 => right; rw [hS0 (by simp)]; exact ⟨by simp, rfl⟩
          | f :: z :: m :: n :: r, hw, _ =>
            have e1 : (f :: z :: m :: n :: r).drop 4 = r := rfl
            have e3 : wat (f :: z :: m :: n :: r) 0 = f := rfl
            have e4 : wat (f :: z :: m :: n :: r) 3 = n := rfl
            have hn := hw n (by simp)
            unfold U32 at hn
            have hS : shortS t c (f :: z :: m :: n :: r) = f :: z :: m :: (n / 16777216 * 16777216 + rateN (openR (n / 262144 % 64).toNat (n % 262144))) :: r := by
              unfold shortS; rw [if_neg h12, if_pos ⟨h5, by simp⟩, e4]; rfl
            rw [e1, e3, e4, hS]
            have hN := rateN_bd (n := openR (n / 262144 % 64).toNat (n % 262144)) (openR_le (by omega))
            try dsimp only
            refine hdec _ _ _ ?_ ?_
            · constructor
              · rintro ⟨⟨q1, q2⟩, q3⟩
                simp only [List.cons.injEq, true_and, and_true] at q3
                rw [if_pos ⟨q3.1.symm, q3.2.1.symm, by omega, q1, q2⟩]
              · intro q
                by_cases hq : z = 0 ∧ m = 1380273474 ∧ n / 16777216 = r.length ∧ r.length ≤ 16 ∧ sat (n / 262144 % 64).toNat (n % 262144) = false
                · obtain ⟨rfl, rfl, q1, q2, q3⟩ := hq
                  exact ⟨⟨q2, q3⟩, by rw [q1]⟩
                · rw [if_neg hq] at q; cases q
            · intro q
              rw [if_neg]
              rintro ⟨rfl, rfl, q1, q2, q3⟩
              exact q ⟨⟨q2, q3⟩, by rw [q1]⟩
end Go.Lk
