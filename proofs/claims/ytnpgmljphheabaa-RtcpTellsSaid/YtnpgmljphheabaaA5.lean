/- A part of this proof: RtcpTells returns true for every input and leaves its arguments as they were; there are no conditions. -/
import Derived.Test.YtnpgmljphheabaaA4
set_option linter.unusedVariables false
set_option linter.unusedSimpArgs false
namespace Go.Lk
open Go.RowKit
def W32 (ws : List Int) : Prop := ∀ n ∈ ws, U32 n
def unw : List Int → List Int
  | a :: b :: c :: d :: r => val [a, b, c, d] :: unw r
  | _ => []
theorem val_be4 {n : Int} (h : U32 n) : val (be 4 n) = n := by unfold U32 at h; simp [be, val]; omega
theorem be_val4 {a b c d : Int} (ha : 0 ≤ a ∧ a ≤ 255) (hb : 0 ≤ b ∧ b ≤ 255) (hc : 0 ≤ c ∧ c ≤ 255) (hd : 0 ≤ d ∧ d ≤ 255) : be 4 (val [a, b, c, d]) = [a, b, c, d] := by
  simp [be, val]; omega
theorem unw_ok : ∀ (m : Nat) (p : List Int), Byt p → p.length = 4 * m → wds (unw p) = p ∧ W32 (unw p) ∧ (unw p).length = m
  | 0, p, _, hl => by
    have : p = [] := List.eq_nil_of_length_eq_zero (by omega)
    subst this
    exact ⟨rfl, fun n h => by simp [unw] at h, rfl⟩
  | m + 1, p, hp, hl => by
    match p, hl with
    | a :: b :: c :: d :: r, hl =>
      have ha := hp a (by simp)
      have hb := hp b (by simp)
      have hc := hp c (by simp)
      have hd := hp d (by simp)
      obtain ⟨h1, h2, h3⟩ := unw_ok m r (fun x hx => hp x (by simp [hx])) (by simp at hl; omega)
      refine ⟨?_, fun n hn => ?_, by simp [unw, h3]⟩
      · rw [unw, wds_cons, h1, be_val4 ha hb hc hd]; rfl
      · rw [unw] at hn
        rcases List.mem_cons.1 hn with rfl | hn
        · simp only [val, List.foldl_cons, List.foldl_nil, U32]; omega
        · exact h2 n hn
theorem unw_wds : ∀ {ws : List Int}, W32 ws → unw (wds ws) = ws
  | [], _ => rfl
  | a :: l, h => by
    have h1 : wds (a :: l) = (a / 256 ^ 3) % 256 :: (a / 256 ^ 2) % 256 :: (a / 256 ^ 1) % 256 :: (a / 256 ^ 0) % 256 :: wds l := rfl
    have h2 := val_be4 (h a (by simp))
    rw [h1, unw, unw_wds (ws := l) fun n hn => h n (by simp [hn])]
    congr 1
theorem wds_inj {a b : List Int} (ha : W32 a) (hb : W32 b) (h : wds a = wds b) : a = b := by
  rw [← unw_wds ha, ← unw_wds hb, h]
def wat (ws : List Int) (i : Nat) : Int := (ws[i]?).getD 0
theorem wat_bd {ws : List Int} (h : W32 ws) (i : Nat) : U32 (wat ws i) := by
  unfold wat
  cases e : ws[i]? with
  | none => unfold U32; simp
  | some n => exact h n (List.mem_of_getElem? e)
theorem drop_wds (ws : List Int) (i : Nat) : (wds ws).drop (4 * i) = wds (ws.drop i) := by
  induction i generalizing ws with
  | zero => simp
  | succ i ih =>
    cases ws with
    | nil => simp [wds]
    | cons a l =>
      rw [wds_cons, show 4 * (i + 1) = (be 4 a).length + 4 * i from by rw [be_length]; omega, ← List.drop_drop, List.drop_left, ih]
      rfl
theorem get_wds {ws : List Int} {i : Nat} {n : Int} (h : ws[i]? = some n) : (wds ws).drop (4 * i) = be 4 n ++ wds (ws.drop (i + 1)) := by
  have hi : i < ws.length := (List.getElem?_eq_some_iff.1 h).1
  rw [drop_wds, List.drop_eq_getElem_cons hi, wds_cons]
  rw [List.getElem?_eq_getElem hi] at h
  rw [Option.some.inj h]
theorem num_eq {p : List Int} (hB : Byt p) (hb : p.length ≤ 1000000) {at_ : Nat} (ha : at_ ≤ 1000000) (bad : Bool) {size : Int} (k : Nat) (hk : size = (k : Int)) (hs : 1 ≤ k ∧ k ≤ 8) :
    rtcp_reader_num ⟨p, (at_ : Int), bad⟩ size = some (if at_ + k ≤ p.length then (val ((p.drop at_).take k), ⟨p, ((at_ + k : Nat) : Int), bad⟩) else (0, ⟨p, ((at_ + k : Nat) : Int), true⟩)) := by
  subst hk
  unfold rtcp_reader_num
  dsimp only
  rw [octet_Get_eq hB (by omega) (by omega) (by omega)]
  simp only [Option.bind_some]
  rw [add_i64 (by omega)]
  by_cases h : at_ + k ≤ p.length
  · rw [if_pos (by omega), if_pos h]; simp
  · rw [if_neg (by omega), if_neg h]; simp
theorem num4 {ws : List Int} (hw : W32 ws) (hl : ws.length ≤ 100000) {i : Nat} (hi : i ≤ 100000) (bad : Bool) {a : Int} (ha : a = ((4 * i : Nat) : Int)) :
    rtcp_reader_num ⟨wds ws, a, bad⟩ 4 = some (wat ws i, ⟨wds ws, ((4 * (i + 1) : Nat) : Int), bad || !decide (i < ws.length)⟩) := by
  subst ha
  rw [num_eq (wds_byt ws) (by rw [wds_length]; omega) (by omega) bad (size := 4) 4 rfl (by omega)]
  by_cases h : i < ws.length
  · obtain ⟨n, hn⟩ := get_some h
    have hwat : wat ws i = n := by simp [wat, hn]
    rw [hwat, if_pos (by rw [wds_length]; omega), get_wds hn, show be 4 n ++ wds (ws.drop (i + 1)) = be 4 n ++ wds (ws.drop (i + 1)) from rfl, List.take_left' (be_length 4 n), val_be4 (hw n (List.mem_of_getElem? hn))]
    simp [h]
    omega
  · rw [if_neg (by rw [wds_length]; omega)]
    simp [wat, List.getElem?_eq_none (show ws.length ≤ i by omega), h]
    omega
theorem num1 {ws : List Int} (hw : W32 ws) (hl : ws.length ≤ 100000) {i : Nat} (hi : i ≤ 100000) (bad : Bool) {a : Int} (ha : a = ((4 * i : Nat) : Int)) :
    rtcp_reader_num ⟨wds ws, a, bad⟩ 1 = some (wat ws i / 16777216, ⟨wds ws, ((4 * i + 1 : Nat) : Int), bad || !decide (i < ws.length)⟩) := by
  subst ha
  rw [num_eq (wds_byt ws) (by rw [wds_length]; omega) (by omega) bad (size := 1) 1 rfl (by omega)]
  by_cases h : i < ws.length
  · obtain ⟨n, hn⟩ := get_some h
    have hu := hw n (List.mem_of_getElem? hn)
    unfold U32 at hu
    have hwat : wat ws i = n := by simp [wat, hn]
    rw [hwat, if_pos (by rw [wds_length]; omega), get_wds hn]
    have e1 : (be 4 n ++ wds (ws.drop (i + 1))).take 1 = [n / 256 ^ 3 % 256] := rfl
    rw [e1]
    simp [h, val]
    omega
  · rw [if_neg (by rw [wds_length]; omega)]
    simp [wat, List.getElem?_eq_none (show ws.length ≤ i by omega), h]
theorem num3 {ws : List Int} (hw : W32 ws) (hl : ws.length ≤ 100000) {i : Nat} (hi : i ≤ 100000) (bad : Bool) {a : Int} (ha : a = ((4 * i + 1 : Nat) : Int)) :
    rtcp_reader_num ⟨wds ws, a, bad⟩ 3 = some (wat ws i % 16777216, ⟨wds ws, ((4 * (i + 1) : Nat) : Int), bad || !decide (i < ws.length)⟩) := by
  subst ha
  rw [num_eq (wds_byt ws) (by rw [wds_length]; omega) (by omega) bad (size := 3) 3 rfl (by omega)]
  by_cases h : i < ws.length
  · obtain ⟨n, hn⟩ := get_some h
    have hu := hw n (List.mem_of_getElem? hn)
    unfold U32 at hu
    have e0 : (wds ws).drop (4 * i + 1) = (be 4 n ++ wds (ws.drop (i + 1))).drop 1 := by rw [← get_wds hn, List.drop_drop]
    have e1 : ((be 4 n ++ wds (ws.drop (i + 1))).drop 1).take 3 = [n / 256 ^ 2 % 256, n / 256 ^ 1 % 256, n / 256 ^ 0 % 256] := rfl
    have hwat : wat ws i = n := by simp [wat, hn]
    rw [hwat, if_pos (by rw [wds_length]; omega), e0, e1]
    simp [h, val]
    omega
  · rw [if_neg (by rw [wds_length]; omega)]
    simp [wat, List.getElem?_eq_none (show ws.length ≤ i by omega), h]
    omega
theorem nought4 {ws : List Int} (hw : W32 ws) (hl : ws.length ≤ 100000) {i : Nat} (hi : i ≤ 100000) (bad : Bool) {a : Int} (ha : a = ((4 * i : Nat) : Int)) :
    rtcp_reader_nought ⟨wds ws, a, bad⟩ 4 = some ⟨wds ws, ((4 * (i + 1) : Nat) : Int), decide (wat ws i ≠ 0) || (bad || !decide (i < ws.length))⟩ := by
  unfold rtcp_reader_nought
  rw [num4 hw hl hi bad ha]
  simp only [Option.bind_some, bne_dec]
theorem nought3 {ws : List Int} (hw : W32 ws) (hl : ws.length ≤ 100000) {i : Nat} (hi : i ≤ 100000) (bad : Bool) {a : Int} (ha : a = ((4 * i + 1 : Nat) : Int)) :
    rtcp_reader_nought ⟨wds ws, a, bad⟩ 3 = some ⟨wds ws, ((4 * (i + 1) : Nat) : Int), decide (wat ws i % 16777216 ≠ 0) || (bad || !decide (i < ws.length))⟩ := by
  unfold rtcp_reader_nought
  rw [num3 hw hl hi bad ha]
  simp only [Option.bind_some, bne_dec]
theorem left_eq {ws : List Int} {i : Nat} (bad : Bool) {a : Int} (ha : a = ((4 * i : Nat) : Int)) : rtcp_reader_left ⟨wds ws, a, bad⟩ = some (!bad && decide (i < ws.length), ⟨wds ws, a, bad⟩) := by
  unfold rtcp_reader_left
  have : (a < ((wds ws).length : Int)) ↔ i < ws.length := by rw [ha, wds_length]; omega
  simp only [this]
def sat (e : Nat) (m : Int) : Bool := decide (18446744073709551615 < m * 2 ^ e)
theorem open_sat {e : Nat} {m : Int} (he : e ≤ 63) (hm : 0 ≤ m ∧ m < 262144) : (openR e m / 2 ^ e ≠ m) ↔ sat e m = true := by
  have hp := two_pos e
  unfold openR sat
  rw [decide_eq_true_iff]
  by_cases h : m * 2 ^ e ≤ 18446744073709551615
  · rw [if_pos h, Int.mul_ediv_cancel _ (by omega)]
    simp; omega
  · rw [if_neg h]
    constructor
    · intro _; omega
    · intro _ hc
      have h64 : (2 : Int) ^ (64 - e) * 2 ^ e = 18446744073709551616 := by
        rw [← Int.pow_add, show 64 - e + e = 64 from by omega]; rfl
      have h1 : (18446744073709551615 : Int) / 2 ^ e < 2 ^ (64 - e) := by
        rw [Int.ediv_lt_iff_lt_mul hp]; omega
      have h2 : (2 : Int) ^ (64 - e) ≤ m := by
        by_cases h3 : m < 2 ^ (64 - e)
        · have h4 : m + 1 ≤ (2 : Int) ^ (64 - e) := h3
          have h5 : (m + 1) * 2 ^ e ≤ 2 ^ (64 - e) * 2 ^ e := Int.mul_le_mul_of_nonneg_right h4 (Int.le_of_lt hp)
          rw [Int.add_mul] at h5
          omega
        · omega
      omega
theorem rate_eq (p : List Int) (a : Int) (bad : Bool) {n : Int} {b : Nat} (hb : b = 17 ∨ b = 18) (hn : 0 ≤ n ∧ n < 64 * 2 ^ b) :
    rtcp_reader_rate ⟨p, a, bad⟩ n (b : Int) = some (openR (n / 2 ^ b).toNat (n % 2 ^ b), ⟨p, a, bad || sat (n / 2 ^ b).toNat (n % 2 ^ b)⟩) := by
  have hp : (2 : Int) ^ b = 131072 ∨ (2 : Int) ^ b = 262144 := by rcases hb with rfl | rfl; exact .inl rfl; exact .inr rfl
  have e1 : shr .u64 n (b : Int) = n / 2 ^ b := shr_e b rfl (by rcases hb with rfl | rfl <;> decide)
  have e2 : shl .u64 1 (b : Int) = 2 ^ b := by rw [shl_e b rfl (by rcases hb with rfl | rfl <;> decide), w_u64]; omega
  have hq : 0 ≤ n / 2 ^ b ∧ n / 2 ^ b ≤ 63 := by rcases hp with h | h <;> rw [h] at hn ⊢ <;> omega
  have hm : 0 ≤ n % 2 ^ b ∧ n % 2 ^ b < 2 ^ b := ⟨Int.emod_nonneg _ (by omega), Int.emod_lt_of_pos _ (by omega)⟩
  have e3 : band .u64 n (sub .u64 (shl .u64 1 (b : Int)) 1) = n % 2 ^ b := by
    rw [e2, sub_u64 (by omega), band_low b rfl hn.1 (by simp [IntKind.bits]; omega) (by rcases hb with rfl | rfl <;> decide), w_u64]
    omega
  have e4 : (n / 2 ^ b) = (((n / 2 ^ b).toNat : Nat) : Int) := by omega
  unfold rtcp_reader_rate
  rw [gd_ok (by omega), gd_ok (by omega), e3, e1, cv_i64 (by omega), cv_u32 (by omega), cv_u64 (by omega)]
  generalize hE : (n / 2 ^ b).toNat = E at e4
  rw [e4, rate_Open_eq (b := b) (e := E) (by omega) (by omega) hm]
  simp only [Option.bind_some]
  have hs := open_sat (e := E) (m := n % 2 ^ b) (by omega) (by omega)
  cases bad with
  | true => rfl
  | false =>
    simp only [Bool.false_eq_true, if_false, Bool.false_or]
    rw [gd_ok (by omega), shr_e E rfl (by simp [IntKind.bits]; omega)]
    simp only [Option.bind_some]
    congr 3
    rw [Bool.eq_iff_iff, bne_iff_ne, hs]
def tupOf (o n : Int) : api_Tuple := ⟨o, openR (n / 67108864).toNat (n / 512 % 131072), n % 512⟩
def tupBad (n : Int) : Bool := sat (n / 67108864).toNat (n / 512 % 131072)
def tups : List Int → List api_Tuple
  | o :: n :: r => tupOf o n :: tups r
  | _ => []
def evt : List Int → Bool
  | [] => true
  | [_] => false
  | _ :: n :: r => !tupBad n && evt r
def firA : List Int → List Int
  | a :: _ :: r => a :: firA r
  | _ => []
def firN : List Int → List Int
  | _ :: n :: r => n / 16777216 :: firN r
  | _ => []
def evf : List Int → Bool
  | [] => true
  | [_] => false
  | _ :: n :: r => decide (n % 16777216 = 0) && evf r
theorem tups_len : ∀ l : List Int, (tups l).length = l.length / 2
  | [] => rfl
  | [_] => by simp [tups, firA, firN]
  | _ :: _ :: r => by simp only [tups, List.length_cons, tups_len r]; omega
theorem firA_len : ∀ l : List Int, (firA l).length = l.length / 2
  | [] => rfl
  | [_] => by simp [tups, firA, firN]
  | _ :: _ :: r => by simp only [firA, List.length_cons, firA_len r]; omega
theorem firN_len : ∀ l : List Int, (firN l).length = l.length / 2
  | [] => rfl
  | [_] => by simp [tups, firA, firN]
  | _ :: _ :: r => by simp only [firN, List.length_cons, firN_len r]; omega
theorem tuple_eq {ws : List Int} (hw : W32 ws) (hl : ws.length ≤ 100000) {i : Nat} (hi : i ≤ 90000) (bad : Bool) {a : Int} (ha : a = ((4 * i : Nat) : Int)) :
    rtcp_reader_tuple ⟨wds ws, a, bad⟩ = some (tupOf (wat ws i) (wat ws (i + 1)), ⟨wds ws, ((4 * (i + 2) : Nat) : Int), (bad || !decide (i < ws.length) || !decide (i + 1 < ws.length)) || tupBad (wat ws (i + 1))⟩) := by
  have h1 := wat_bd hw i
  have h2 := wat_bd hw (i + 1)
  unfold U32 at h1 h2
  unfold rtcp_reader_tuple
  rw [num4 hw hl (by omega) bad ha]
  simp only [Option.bind_some]
  rw [num4 hw hl (i := i + 1) (by omega) _ rfl]
  simp only [Option.bind_some]
  rw [shr_e (n := 9) 9 rfl (by decide), show (17 : Int) = ((17 : Nat) : Int) from rfl, rate_eq _ _ _ (b := 17) (.inl rfl) (by
    have : (2 : Int) ^ 9 = 512 := rfl
    have : (2 : Int) ^ 17 = 131072 := rfl
    omega)]
  simp only [Option.bind_some]
  have e1 : band .u64 (wat ws (i + 1)) 511 = wat ws (i + 1) % 512 := by
    rw [band_low (n := 511) 9 rfl h2.1 (by simp [IntKind.bits]; omega) (by decide), w_u64]
    have : (2 : Int) ^ 9 = 512 := rfl
    omega
  have e2 : wat ws (i + 1) / 2 ^ 9 / 2 ^ 17 = wat ws (i + 1) / 67108864 := by
    have : (2 : Int) ^ 9 = 512 := rfl
    have : (2 : Int) ^ 17 = 131072 := rfl
    omega
  rw [e1, cv_u32 (by omega), cv_i64 (by omega), e2]
  rfl
theorem loop_tups {ws : List Int} (hw : W32 ws) (hl : ws.length ≤ 10000) : ∀ (d i : Nat) (acc : List api_Tuple), ws.length ≤ i + d → i ≤ ws.length → acc.length ≤ i →
    ∃ a acc', loopF (fun sg => rtcp_parse_l0 sg.1 sg.2.1 sg.2.2.1 sg.2.2.2) (wds ws, ((4 * i : Nat) : Int), false, acc) = some (.brk (wds ws, a, !evt (ws.drop i), acc')) ∧
      (evt (ws.drop i) = true → a = ((4 * ws.length : Nat) : Int) ∧ acc' = acc ++ tups (ws.drop i)) := by
  have stop : ∀ (a : Nat) (acc : List api_Tuple), loopF (fun sg => rtcp_parse_l0 sg.1 sg.2.1 sg.2.2.1 sg.2.2.2) (wds ws, ((4 * a : Nat) : Int), true, acc) = some (.brk (wds ws, ((4 * a : Nat) : Int), true, acc)) := fun a acc => by
    refine loopF_brk ?_
    simp only [rtcp_parse_l0]
    rw [left_eq true rfl]
    rfl
  intro d
  induction d using Nat.strongRecOn with
  | _ d ih =>
    intro i acc hd hi hacc
    by_cases h0 : i = ws.length
    · subst h0
      refine ⟨_, acc, loopF_brk ?_, fun _ => ⟨rfl, ?_⟩⟩
      · simp only [rtcp_parse_l0]
        rw [left_eq false rfl]
        simp [evt]
      · simp [tups]
    · have hil : i < ws.length := by omega
      have step : rtcp_parse_l0 (wds ws) ((4 * i : Nat) : Int) false acc = some (.next (wds ws, ((4 * (i + 2) : Nat) : Int), (!decide (i + 1 < ws.length)) || tupBad (wat ws (i + 1)), acc ++ [tupOf (wat ws i) (wat ws (i + 1))])) := by
        simp only [rtcp_parse_l0]
        rw [left_eq false rfl]
        simp only [Option.bind_some, Bool.not_false, Bool.true_and, hil, decide_true, if_true]
        rw [tuple_eq hw (by omega) (by omega) false rfl]
        simp only [Option.bind_some]
        rw [app_ok (by simp; omega)]
        simp [hil]
      have e1 : ws.drop i = wat ws i :: ws.drop (i + 1) := by
        rw [List.drop_eq_getElem_cons hil]; simp [wat, List.getElem?_eq_getElem hil]
      by_cases h1 : i + 1 < ws.length
      · have e2 : ws.drop (i + 1) = wat ws (i + 1) :: ws.drop (i + 2) := by
          rw [List.drop_eq_getElem_cons h1]; simp [wat, List.getElem?_eq_getElem h1]
        rw [e1, e2]
        simp only [evt, tups]
        cases hb : tupBad (wat ws (i + 1)) with
        | true =>
          rw [hb] at step
          simp only [h1, decide_true, Bool.not_true, Bool.false_or] at step
          refine ⟨_, _, (loopF_next step).trans (stop _ _), fun h => ?_⟩
          simp at h
        | false =>
          rw [hb] at step
          simp only [h1, decide_true, Bool.not_true, Bool.false_or] at step
          obtain ⟨a, acc', q1, q2⟩ := ih (d - 2) (by omega) (i + 2) (acc ++ [tupOf (wat ws i) (wat ws (i + 1))]) (by omega) (by omega) (by simp; omega)
          refine ⟨a, acc', (loopF_next step).trans ?_, fun h => ?_⟩
          · simpa using q1
          · obtain ⟨q3, q4⟩ := q2 (by simpa using h)
            exact ⟨q3, by rw [q4]; simp⟩
      · have e2 : ws.drop (i + 1) = [] := List.drop_eq_nil_of_le (by omega)
        rw [e1, e2]
        simp only [h1, decide_false, Bool.not_false, Bool.true_or] at step
        refine ⟨_, _, (loopF_next step).trans (stop _ _), fun h => ?_⟩
        simp [evt] at h
theorem loop_firs {ws : List Int} (hw : W32 ws) (hl : ws.length ≤ 10000) : ∀ (d i : Nat) (acc acc2 : List Int), ws.length ≤ i + d → i ≤ ws.length → acc.length ≤ i → acc2.length ≤ i →
    ∃ a acc' acc2', loopF (fun sg => rtcp_parse_l1 sg.1 sg.2.1 sg.2.2.1 sg.2.2.2.1 sg.2.2.2.2) (wds ws, ((4 * i : Nat) : Int), false, acc, acc2) = some (.brk (wds ws, a, !evf (ws.drop i), acc', acc2')) ∧
      (evf (ws.drop i) = true → a = ((4 * ws.length : Nat) : Int) ∧ acc' = acc ++ firA (ws.drop i) ∧ acc2' = acc2 ++ firN (ws.drop i)) := by
  have stop : ∀ (a : Nat) (acc acc2 : List Int), loopF (fun sg => rtcp_parse_l1 sg.1 sg.2.1 sg.2.2.1 sg.2.2.2.1 sg.2.2.2.2) (wds ws, ((4 * a : Nat) : Int), true, acc, acc2) = some (.brk (wds ws, ((4 * a : Nat) : Int), true, acc, acc2)) := fun a acc acc2 => by
    refine loopF_brk ?_
    simp only [rtcp_parse_l1]
    rw [left_eq true rfl]
    rfl
  intro d
  induction d using Nat.strongRecOn with
  | _ d ih =>
    intro i acc acc2 hd hi hacc hacc2
    by_cases h0 : i = ws.length
    · subst h0
      refine ⟨_, acc, acc2, loopF_brk ?_, fun _ => ⟨rfl, ?_, ?_⟩⟩
      · simp only [rtcp_parse_l1]
        rw [left_eq false rfl]
        simp [evf]
      · simp [firA]
      · simp [firN]
    · have hil : i < ws.length := by omega
      have hu := wat_bd hw i
      have hu2 := wat_bd hw (i + 1)
      unfold U32 at hu hu2
      have step : rtcp_parse_l1 (wds ws) ((4 * i : Nat) : Int) false acc acc2 = some (.next (wds ws, ((4 * (i + 2) : Nat) : Int), decide (wat ws (i + 1) % 16777216 ≠ 0) || !decide (i + 1 < ws.length), acc ++ [wat ws i], acc2 ++ [wat ws (i + 1) / 16777216])) := by
        simp only [rtcp_parse_l1]
        rw [left_eq false rfl]
        simp only [Option.bind_some, Bool.not_false, Bool.true_and, hil, decide_true, if_true]
        rw [num4 hw (by omega) (by omega) false rfl]
        simp only [Option.bind_some]
        rw [cv_u32 (by omega), app_ok (by simp; omega)]
        simp only [Option.bind_some]
        rw [num1 hw (by omega) (i := i + 1) (by omega) _ rfl]
        simp only [Option.bind_some]
        rw [cv_i64 (by omega), app_ok (by simp; omega)]
        simp only [Option.bind_some]
        rw [nought3 hw (by omega) (i := i + 1) (by omega) _ rfl]
        simp [hil]
        omega
      have e1 : ws.drop i = wat ws i :: ws.drop (i + 1) := by
        rw [List.drop_eq_getElem_cons hil]; simp [wat, List.getElem?_eq_getElem hil]
      by_cases h1 : i + 1 < ws.length
      · have e2 : ws.drop (i + 1) = wat ws (i + 1) :: ws.drop (i + 2) := by
          rw [List.drop_eq_getElem_cons h1]; simp [wat, List.getElem?_eq_getElem h1]
        rw [e1, e2]
        simp only [evf, firA, firN]
        by_cases hb : wat ws (i + 1) % 16777216 = 0
        · simp only [h1, hb, ne_eq, not_true, decide_false, decide_true, Bool.not_true, Bool.false_or] at step
          obtain ⟨a, acc', acc2', q1, q2⟩ := ih (d - 2) (by omega) (i + 2) (acc ++ [wat ws i]) (acc2 ++ [wat ws (i + 1) / 16777216]) (by omega) (by omega) (by simp; omega) (by simp; omega)
          refine ⟨a, acc', acc2', (loopF_next step).trans ?_, fun h => ?_⟩
          · simpa [hb] using q1
          · obtain ⟨q3, q4, q5⟩ := q2 (by simpa [hb] using h)
            exact ⟨q3, by rw [q4]; simp, by rw [q5]; simp⟩
        · simp only [h1, hb, ne_eq, not_false_eq_true, decide_true, Bool.not_true, Bool.true_or] at step
          refine ⟨_, _, _, (loopF_next step).trans ((stop (i + 2) _ _).trans (by simp only [hb, decide_false, Bool.false_and, Bool.not_false]; rfl)), fun h => ?_⟩
          simp [hb] at h
      · have e2 : ws.drop (i + 1) = [] := List.drop_eq_nil_of_le (by omega)
        rw [e1, e2]
        simp only [h1, decide_false, Bool.not_false, Bool.or_true] at step
        refine ⟨_, _, _, (loopF_next step).trans (stop _ _ _), fun h => ?_⟩
        simp [evf] at h
theorem loop_abouts {ws : List Int} (hw : W32 ws) (hl : ws.length ≤ 10000) : ∀ (d i : Nat) (acc : List Int), ws.length = i + d → acc.length ≤ i →
    loopF (fun sg => rtcp_reader_remb_l0 sg.1 sg.2.1 sg.2.2.1 sg.2.2.2) (wds ws, ((4 * i : Nat) : Int), false, acc) = some (.brk (wds ws, ((4 * ws.length : Nat) : Int), false, acc ++ ws.drop i)) := by
  intro d
  induction d with
  | zero =>
    intro i acc hd hacc
    have : i = ws.length := by omega
    subst this
    refine loopF_brk ?_
    simp only [rtcp_reader_remb_l0]
    rw [left_eq false rfl]
    simp
  | succ d ih =>
    intro i acc hd hacc
    have hil : i < ws.length := by omega
    have hu := wat_bd hw i
    unfold U32 at hu
    have e1 : ws.drop i = wat ws i :: ws.drop (i + 1) := by
      rw [List.drop_eq_getElem_cons hil]; simp [wat, List.getElem?_eq_getElem hil]
    rw [loopF_next (s' := (wds ws, ((4 * (i + 1) : Nat) : Int), false, acc ++ [wat ws i])), ih (i + 1) _ (by omega) (by simp; omega), e1]
    · simp
    · simp only [rtcp_reader_remb_l0]
      rw [left_eq false rfl]
      simp only [Option.bind_some, Bool.not_false, Bool.true_and, hil, decide_true, if_true]
      rw [num4 hw (by omega) (by omega) false rfl]
      simp only [Option.bind_some]
      rw [cv_u32 (by omega), app_ok (by simp; omega)]
      simp [hil]
def parseS (t c : Int) (ws : List Int) : Option api_Report :=
  if kindOf t c = 6 then some ⟨6, 0, 0, [], [], [], 0, t, c, wds ws⟩
  else if kindOf t c = 1 ∨ kindOf t c = 2 then
    match ws with
    | f :: z :: r => if z = 0 ∧ evt r = true ∧ (tups r).length ≤ 6 then some ⟨kindOf t c, f, 0, tups r, [], [], 0, 0, 0, []⟩ else none
    | _ => none
  else if kindOf t c = 3 then
    match ws with
    | [f, a] => some ⟨3, f, a, [], [], [], 0, 0, 0, []⟩
    | _ => none
  else if kindOf t c = 4 then
    match ws with
    | f :: z :: r => if z = 0 ∧ evf r = true ∧ 1 ≤ (firA r).length ∧ (firA r).length ≤ 16 then some ⟨4, f, 0, [], firA r, firN r, 0, 0, 0, []⟩ else none
    | _ => none
  else
    match ws with
    | f :: z :: m :: n :: r => if z = 0 ∧ m = 1380273474 ∧ n / 16777216 = r.length ∧ r.length ≤ 16 ∧ sat (n / 262144 % 64).toNat (n % 262144) = false then some ⟨5, f, 0, [], r, [], openR (n / 262144 % 64).toNat (n % 262144), 0, 0, []⟩ else none
    | _ => none
def Ans (x : Option (api_Report × Bool)) (s : Option api_Report) : Prop := ∃ r b, x = some (r, b) ∧ (match s with | some q => b = true ∧ r = q | none => b = false)
theorem mark_or : (bor .u64 (bor .u64 (bor .u64 (shl .u64 (cv .u64 82) 24) (shl .u64 (cv .u64 69) 16)) (shl .u64 (cv .u64 77) 8)) (cv .u64 66)) = 1380273474 := by
  rw [cv_u64 (by omega), cv_u64 (by omega), cv_u64 (by omega), cv_u64 (by omega), shlL (k := .u64) (n := 24) 24 rfl (by decide) 16777216 rfl (by rw [w_u64]; rfl), shlL (k := .u64) (n := 16) 16 rfl (by decide) 65536 rfl (by rw [w_u64]; rfl), shlL (k := .u64) (n := 8) 8 rfl (by decide) 256 rfl (by rw [w_u64]; rfl),
    borL (k := .u64) (m := 82 * 16777216) (n := 69 * 65536) 24 16777216 rfl (by omega) (by omega) (by omega) (by omega) (by simp [IntKind.bits]) (by rw [w_u64]; rfl),
    borL (k := .u64) (m := 82 * 16777216 + 69 * 65536) (n := 77 * 256) 16 65536 rfl (by omega) (by omega) (by omega) (by omega) (by simp [IntKind.bits]) (by rw [w_u64]; rfl),
    borL (k := .u64) (n := 66) 8 256 rfl (by omega) (by omega) (by omega) (by omega) (by simp [IntKind.bits]) (by rw [w_u64]; rfl)]
  rfl
def RembPost (ws : List Int) (bad : Bool) (a : Int) (q : List Int) (v : Int) (b : Bool) : Prop :=
  match ws with
  | _ :: _ :: m :: n :: r => if bad = false ∧ m = 1380273474 ∧ n / 16777216 = r.length ∧ r.length ≤ 16 ∧ sat (n / 262144 % 64).toNat (n % 262144) = false then b = false ∧ a = ((4 * ws.length : Nat) : Int) ∧ q = r ∧ v = openR (n / 262144 % 64).toNat (n % 262144) else b = true
  | _ => b = true
theorem remb_eq {ws : List Int} (hw : W32 ws) (hl : ws.length ≤ 10000) (o : api_Report) (ho : o.Abouts = []) (bad : Bool) :
    ∃ a q v b, rtcp_reader_remb ⟨wds ws, ((4 * 2 : Nat) : Int), bad⟩ o = some (⟨wds ws, a, b⟩, ⟨o.Kind, o.From, o.About, o.Tuples, q, o.Numbers, v, o.Type_, o.Count, o.Body⟩) ∧
      RembPost ws bad a q v b := by
  unfold RembPost
  have h3 := wat_bd hw 3
  unfold U32 at h3
  unfold rtcp_reader_remb
  rw [num4 hw (by omega) (i := 2) (by omega) bad rfl]
  simp only [Option.bind_some, mark_or]
  rw [num1 hw (by omega) (i := 3) (by omega) _ rfl]
  simp only [Option.bind_some]
  rw [num3 hw (by omega) (i := 3) (by omega) _ rfl]
  simp only [Option.bind_some]
  have e18 : (2 : Int) ^ 18 = 262144 := rfl
  have e1 : wat ws 3 % 16777216 / 262144 = wat ws 3 / 262144 % 64 := by omega
  have e2 : wat ws 3 % 16777216 % 262144 = wat ws 3 % 262144 := by omega
  rw [show (18 : Int) = ((18 : Nat) : Int) from rfl, rate_eq _ _ _ (b := 18) (.inr rfl) (by omega)]
  simp only [Option.bind_some, e18, e1, e2, ho, bne_dec]
  have stop : ∀ (a : Int) (acc : List Int), loopF (fun sg => rtcp_reader_remb_l0 sg.1 sg.2.1 sg.2.2.1 sg.2.2.2) (wds ws, a, true, acc) = some (.brk (wds ws, a, true, acc)) := fun a acc => by
    refine loopF_brk ?_
    simp only [rtcp_reader_remb_l0, rtcp_reader_left]
    rfl
  by_cases h4 : 4 ≤ ws.length
  · match ws, h4 with
    | f :: z :: m :: n :: r, _ =>
      have w2 : wat (f :: z :: m :: n :: r) 2 = m := rfl
      have w3 : wat (f :: z :: m :: n :: r) 3 = n := rfl
      rw [w2, w3] at *
      have d2 : decide (2 < (f :: z :: m :: n :: r).length) = true := by simp
      have d3 : decide (3 < (f :: z :: m :: n :: r).length) = true := by simp
      rw [d2, d3]
      simp only [Bool.not_true, Bool.or_false]
      by_cases hc : bad = false ∧ m = 1380273474 ∧ sat (n / 262144 % 64).toNat (n % 262144) = false
      · obtain ⟨rfl, rfl, hs⟩ := hc
        simp only [hs, ne_eq, not_true, decide_false, Bool.or_false]
        rw [loop_abouts hw hl r.length 4 [] (by simp; omega) (by simp)]
        simp only [Option.bind_some, Flow.el, List.nil_append]
        refine ⟨_, _, _, _, rfl, ?_⟩
        have e5 : List.drop 4 (f :: z :: 1380273474 :: n :: r) = r := rfl
        rw [e5]
        have hr : r.length ≤ 10000 := by simp at hl; omega
        rw [cv_u64 (by omega)]
        by_cases hc2 : n / 16777216 = (r.length : Int) ∧ r.length ≤ 16
        · rw [if_pos (by simpa using hc2)]
          refine ⟨?_, rfl, rfl, rfl⟩
          simp
          omega
        · rw [if_neg (by simpa using hc2)]
          simp
          omega
      · have hb : ((decide (m ≠ 1380273474) || bad) || sat (n / 262144 % 64).toNat (n % 262144)) = true := by
          by_cases q1 : bad = false
          · by_cases q2 : m = 1380273474
            · have q3 : sat (n / 262144 % 64).toNat (n % 262144) = true := by simpa using fun q3 => hc ⟨q1, q2, q3⟩
              simp [q3]
            · simp [q2]
          · simp at q1; simp [q1]
        rw [hb, stop]
        simp only [Option.bind_some, Flow.el]
        refine ⟨_, _, _, _, rfl, ?_⟩
        rw [if_neg fun h => hc ⟨h.1, h.2.1, h.2.2.2.2⟩]
        simp
  · have hb : ((decide (wat ws 2 ≠ 1380273474) || (bad || !decide (2 < ws.length)) || !decide (3 < ws.length) || !decide (3 < ws.length)) || sat (wat ws 3 / 262144 % 64).toNat (wat ws 3 % 262144)) = true := by
      have : decide (3 < ws.length) = false := by simp; omega
      simp [this]
    rw [hb, stop]
    simp only [Option.bind_some, Flow.el]
    refine ⟨_, _, _, _, rfl, ?_⟩
    match ws, h4 with
    | [], _ => simp
    | [_], _ => simp
    | [_, _], _ => simp
    | [_, _, _], _ => simp
    | _ :: _ :: _ :: _ :: _, h4 => simp at h4
theorem parse_eq {ws : List Int} (hw : W32 ws) (hl : ws.length ≤ 10000) (t c : Int) : Ans (rtcp_parse t c (wds ws)) (parseS t c ws) := by
  have hk := kindOf_le t c
  have hp : ∀ i : Nat, ((((4 * i : Nat) : Int)) == ((wds ws).length : Int)) = decide (i = ws.length) := fun i => by
    rw [wds_length, Bool.eq_iff_iff]; simp; omega
  have w0 := wat_bd hw 0
  unfold U32 at w0
  unfold rtcp_parse parseS
  rw [kind_eq]
  simp only [Option.bind_some]
  generalize kindOf t c = k at hk
  rcases (by omega : k = 6 ∨ (k = 1 ∨ k = 2) ∨ k = 3 ∨ k = 4 ∨ k = 5) with rfl | h12 | rfl | rfl | rfl
  · simp only [slices_Clone_byte]
    rw [app_ok (by rw [wds_length]; simp; omega)]
    exact ⟨_, _, rfl, rfl, rfl⟩
  · have h6 : (k == 6) = false := by simp; omega
    have h3 : (k != 3) = true := by simp; omega
    have hor : ((if (k == 1) = true then some (k == 1) else some (k == 2) : Option Bool)) = some true := by
      rcases h12 with rfl | rfl <;> rfl
    have h6' : ¬ k = 6 := by omega
    simp only [h6, h3, hor, h6', h12, Bool.false_eq_true, if_false, if_true]
    rw [num4 hw (by omega) (i := 0) (a := 0) (by omega) false rfl]
    simp only [Option.bind_some]
    rw [nought4 hw (by omega) (i := 0 + 1) (by omega) _ rfl]
    simp only [Option.bind_some, Nat.zero_add, Bool.false_or]
    by_cases hb : 2 ≤ ws.length ∧ wat ws 1 = 0
    · match ws, hb with
      | f :: z :: r, hb =>
        have hz : z = 0 := hb.2
        subst hz
        have d0 : decide (0 < (f :: 0 :: r).length) = true := by simp
        have d1 : decide (1 < (f :: 0 :: r).length) = true := by simp
        have e1 : wat (f :: 0 :: r) 1 = 0 := rfl
        have e0 : wat (f :: 0 :: r) 0 = f := rfl
        rw [d0, d1, e1, e0]
        simp only [ne_eq, not_true, decide_false, Bool.not_true, Bool.or_false]
        obtain ⟨a, acc, q1, q2⟩ := loop_tups hw hl (f :: 0 :: r).length 2 [] (by omega) (by simp) (by simp)
        rw [show (1 + 1 : Nat) = 2 from rfl, q1]
        have e2 : (f :: 0 :: r).drop 2 = r := rfl
        rw [e2] at q2 ⊢
        rw [e0] at w0
        simp only [Option.bind_some, Flow.el]
        rw [cv_u32 (by omega)]
        cases hev : evt r with
        | false =>
          refine ⟨_, _, rfl, ?_⟩
          try dsimp only
          simp
        | true =>
          obtain ⟨rfl, rfl⟩ := q2 hev
          by_cases ht : (tups r).length ≤ 6
          · refine ⟨_, _, rfl, ?_⟩
            try dsimp only
            rw [hp, if_pos (show True ∧ true = true ∧ (tups r).length ≤ 6 from ⟨trivial, rfl, ht⟩)]
            refine ⟨?_, rfl⟩
            simp; omega
          · refine ⟨_, _, rfl, ?_⟩
            try dsimp only
            rw [if_neg (show ¬ (True ∧ true = true ∧ (tups r).length ≤ 6) from fun h => ht h.2.2)]
            simp; omega
    · have hbad : (decide (wat ws 1 ≠ 0) || (!decide (0 < ws.length) || !decide (1 < ws.length))) = true := by
        by_cases q : 2 ≤ ws.length
        · have : wat ws 1 ≠ 0 := fun h => hb ⟨q, h⟩
          simp [this]
        · have : decide (1 < ws.length) = false := by simp; omega
          simp [this]
      rw [hbad]
      have stop : loopF (fun sg => rtcp_parse_l0 sg.1 sg.2.1 sg.2.2.1 sg.2.2.2) (wds ws, ((4 * (1 + 1) : Nat) : Int), true, []) = some (.brk (wds ws, ((4 * (1 + 1) : Nat) : Int), true, [])) := by
        refine loopF_brk ?_
        simp only [rtcp_parse_l0, rtcp_reader_left]
        rfl
      rw [stop]
      have hn : (match ws with | f :: z :: r => if z = 0 ∧ evt r = true ∧ (tups r).length ≤ 6 then some (⟨k, f, 0, tups r, [], [], 0, 0, 0, []⟩ : api_Report) else none | _ => none) = none := by
        match ws, hb with
        | [], _ => rfl
        | [_], _ => rfl
        | f :: z :: r, hb =>
          have : z ≠ 0 := fun h => hb ⟨by simp, h⟩
          simp [this]
      rw [hn]
      exact ⟨_, _, rfl, by simp⟩
  · simp only [Int.reduceBEq, Int.reduceBNe, Int.reduceEq, or_self, Bool.false_eq_true, if_false, if_true]
    have w1 := wat_bd hw 1
    unfold U32 at w1
    rw [num4 hw (by omega) (i := 0) (a := 0) (by omega) false rfl]
    simp only [Option.bind_some]
    rw [num4 hw (by omega) (i := 0 + 1) (by omega) _ rfl]
    simp only [Option.bind_some, Nat.zero_add, Bool.false_or]
    rw [cv_u32 (by omega), cv_u32 (by omega)]
    refine ⟨_, _, rfl, ?_⟩
    dsimp only
    rw [hp]
    match ws with
    | [] => simp
    | [_] => simp
    | [f, a] => exact ⟨rfl, rfl⟩
    | _ :: _ :: _ :: _ => simp
  · simp only [Int.reduceBEq, Int.reduceBNe, Int.reduceEq, or_self, Bool.false_eq_true, if_false, if_true]
    rw [num4 hw (by omega) (i := 0) (a := 0) (by omega) false rfl]
    simp only [Option.bind_some]
    rw [nought4 hw (by omega) (i := 0 + 1) (by omega) _ rfl]
    simp only [Option.bind_some, Nat.zero_add, Bool.false_or, Bool.false_eq_true, if_false]
    by_cases hb : 2 ≤ ws.length ∧ wat ws 1 = 0
    · match ws, hb with
      | f :: z :: r, hb =>
        have hz : z = 0 := hb.2
        subst hz
        have d0 : decide (0 < (f :: 0 :: r).length) = true := by simp
        have d1 : decide (1 < (f :: 0 :: r).length) = true := by simp
        have e1 : wat (f :: 0 :: r) 1 = 0 := rfl
        have e0 : wat (f :: 0 :: r) 0 = f := rfl
        rw [d0, d1, e1, e0]
        simp only [ne_eq, not_true, decide_false, Bool.not_true, Bool.or_false]
        obtain ⟨a, acc, acc2, q1, q2⟩ := loop_firs hw hl (f :: 0 :: r).length 2 [] [] (by omega) (by simp) (by simp) (by simp)
        rw [show (1 + 1 : Nat) = 2 from rfl, q1]
        have e2 : (f :: 0 :: r).drop 2 = r := rfl
        rw [e2] at q2 ⊢
        rw [e0] at w0
        simp only [Option.bind_some, Flow.el]
        rw [cv_u32 (by omega)]
        cases hev : evf r with
        | false =>
          refine ⟨_, _, rfl, ?_⟩
          try dsimp only
          simp
        | true =>
          obtain ⟨rfl, rfl, rfl⟩ := q2 hev
          by_cases ht : 1 ≤ (firA r).length ∧ (firA r).length ≤ 16
          · refine ⟨_, _, rfl, ?_⟩
            try dsimp only
            rw [hp, if_pos (show True ∧ true = true ∧ 1 ≤ (firA r).length ∧ (firA r).length ≤ 16 from ⟨trivial, rfl, ht⟩)]
            refine ⟨?_, rfl⟩
            simp; omega
          · refine ⟨_, _, rfl, ?_⟩
            try dsimp only
            rw [if_neg (show ¬ (True ∧ true = true ∧ 1 ≤ (firA r).length ∧ (firA r).length ≤ 16) from fun h => ht h.2.2)]
            simp; omega
    · have hbad : (decide (wat ws 1 ≠ 0) || (!decide (0 < ws.length) || !decide (1 < ws.length))) = true := by
        by_cases q : 2 ≤ ws.length
        · have : wat ws 1 ≠ 0 := fun h => hb ⟨q, h⟩
          simp [this]
        · have : decide (1 < ws.length) = false := by simp; omega
          simp [this]
      rw [hbad]
      have stop : loopF (fun sg => rtcp_parse_l1 sg.1 sg.2.1 sg.2.2.1 sg.2.2.2.1 sg.2.2.2.2) (wds ws, ((4 * (1 + 1) : Nat) : Int), true, [], []) = some (.brk (wds ws, ((4 * (1 + 1) : Nat) : Int), true, [], [])) := by
        refine loopF_brk ?_
        simp only [rtcp_parse_l1, rtcp_reader_left]
        rfl
      rw [stop]
      have hn : (match ws with | f :: z :: r => if z = 0 ∧ evf r = true ∧ 1 ≤ (firA r).length ∧ (firA r).length ≤ 16 then some (⟨4, f, 0, [], firA r, firN r, 0, 0, 0, []⟩ : api_Report) else none | _ => none) = none := by
        match ws, hb with
        | [], _ => rfl
        | [_], _ => rfl
        | f :: z :: r, hb =>
          have : z ≠ 0 := fun h => hb ⟨by simp, h⟩
          simp [this]
      rw [hn]
      exact ⟨_, _, rfl, by simp⟩
  · simp only [Int.reduceBEq, Int.reduceBNe, Int.reduceEq, or_self, Bool.false_eq_true, if_false, if_true]
    rw [num4 hw (by omega) (i := 0) (a := 0) (by omega) false rfl]
    simp only [Option.bind_some]
    rw [nought4 hw (by omega) (i := 0 + 1) (by omega) _ rfl]
    simp only [Option.bind_some, Nat.zero_add, Bool.false_or, Bool.false_eq_true, if_false]
    rw [cv_u32 (by omega)]
    obtain ⟨a, q, v, b, e, he⟩ := remb_eq hw hl ⟨5, wat ws 0, 0, [], [], [], 0, 0, 0, []⟩ rfl (decide (wat ws 1 ≠ 0) || (!decide (0 < ws.length) || !decide (1 < ws.length)))
    rw [show (1 + 1 : Nat) = 2 from rfl, e]
    simp only [Option.bind_some]
    refine ⟨_, _, rfl, ?_⟩
    match ws, he with
    | [], he => simp [RembPost] at he; simp [he]
    | [_], he => simp [RembPost] at he; simp [he]
    | [_, _], he => simp [RembPost] at he; simp [he]
    | [_, _, _], he => simp [RembPost] at he; simp [he]
    | f :: z :: m :: n :: r, he =>
      have e1 : wat (f :: z :: m :: n :: r) 1 = z := rfl
      have e0 : wat (f :: z :: m :: n :: r) 0 = f := rfl
      have d0 : decide (0 < (f :: z :: m :: n :: r).length) = true := by simp
      have d1 : decide (1 < (f :: z :: m :: n :: r).length) = true := by simp
      rw [e1, d0, d1] at he
      unfold RembPost at he
      dsimp only
      simp only [Bool.not_true, Bool.or_false, decide_eq_false_iff_not, ne_eq, Decidable.not_not] at he
      by_cases hc : z = 0 ∧ m = 1380273474 ∧ n / 16777216 = r.length ∧ r.length ≤ 16 ∧ sat (n / 262144 % 64).toNat (n % 262144) = false
      · rw [if_pos hc] at he ⊢
        obtain ⟨rfl, rfl, rfl, rfl⟩ := he
        rw [hp, e0]
        exact ⟨by simp, rfl⟩
      · rw [if_neg hc] at he ⊢
        subst he
        simp
end Go.Lk
