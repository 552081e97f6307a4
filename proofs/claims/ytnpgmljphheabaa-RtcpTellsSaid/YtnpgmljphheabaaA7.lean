/- A part of this proof: RtcpTells returns true for every input and leaves its arguments as they were; there are no conditions. -/
import Derived.Test.YtnpgmljphheabaaA6
set_option linter.unusedVariables false
set_option linter.unusedSimpArgs false
namespace Go.Lk
open Go.RowKit
def zeroR : api_Report := ⟨0, 0, 0, [], [], [], 0, 0, 0, []⟩
def oneS (b : List Int) : api_Report × Nat × Int :=
  match b with
  | b0 :: b1 :: b2 :: b3 :: p =>
    if p.length < 4 * (b2 * 256 + b3).toNat then (zeroR, 0, 13)
    else if ¬ (b0 / 32 = 4 ∧ 192 ≤ b1 ∧ b1 ≤ 223) then (zeroR, 0, 12)
    else match parseS b1 (b0 % 32) (unw (p.take (4 * (b2 * 256 + b3).toNat))) with
      | some r => (r, 4 + 4 * (b2 * 256 + b3).toNat, 0)
      | none => (zeroR, 0, 12)
  | _ => (zeroR, 0, 13)
def readF : Nat → List Int → List api_Report → List api_Report × Int
  | 0, _, acc => (acc, 0)
  | f + 1, b, acc => if b = [] then (acc, 0) else if (oneS b).2.2 ≠ 0 then ([], (oneS b).2.2) else readF f (b.drop (oneS b).2.1) (acc ++ [(oneS b).1])
def readS (b : List Int) : List api_Report × Int := if 1500 < b.length then ([], 3) else if b.length = 0 then ([], 13) else readF b.length b []
theorem bits8 : ∀ a : Fin 256, ((a.val &&& 192) % 256 = 128 ∧ (a.val &&& 32) % 256 = 0) ↔ a.val / 32 = 4 := by decide +kernel
theorem head8 {x : Int} (h : 0 ≤ x ∧ x ≤ 255) : (band .u8 x 192 = 128 ∧ band .u8 x 32 = 0) ↔ x / 32 = 4 := by
  obtain ⟨a, rfl⟩ := Int.eq_ofNat_of_zero_le h.1
  have e1 : band .u8 (a : Int) 192 = ((a &&& 192 : Nat) : Int) % 256 := by
    rw [show (192 : Int) = ((192 : Nat) : Int) from rfl, band_nat (by simp [IntKind.bits]; omega) (by decide), w_u8]
  have e2 : band .u8 (a : Int) 32 = ((a &&& 32 : Nat) : Int) % 256 := by
    rw [show (32 : Int) = ((32 : Nat) : Int) from rfl, band_nat (by simp [IntKind.bits]; omega) (by decide), w_u8]
  rw [e1, e2]
  have := bits8 ⟨a, by omega⟩
  simp only at this
  omega
theorem low5 {x : Int} (h : 0 ≤ x ∧ x ≤ 255) : band .u8 x 31 = x % 32 := by
  rw [band_low (n := 31) 5 rfl h.1 (by simp [IntKind.bits]; omega) (by decide), w_u8]
  have : (2 : Int) ^ 5 = 32 := rfl
  omega
theorem oneS_short {b : List Int} (h : b.length < 4) : oneS b = (zeroR, 0, 13) := by
  match b, h with
  | [], _ => rfl
  | [_], _ => rfl
  | [_, _], _ => rfl
  | [_, _, _], _ => rfl
  | _ :: _ :: _ :: _ :: _, h => simp at h; omega
theorem four {b : List Int} (h : ¬ b.length < 4) : ∃ b0 b1 b2 b3 p, b = b0 :: b1 :: b2 :: b3 :: p := by
  match b, h with
  | [], h => simp at h
  | [_], h => simp at h
  | [_, _], h => simp at h
  | [_, _, _], h => simp at h
  | b0 :: b1 :: b2 :: b3 :: p, _ => exact ⟨b0, b1, b2, b3, p, rfl⟩
theorem rtcp_one_eq {b : List Int} (hB : Byt b) (hl : b.length ≤ 1500) : rtcp_one b = some ((oneS b).1, ((oneS b).2.1 : Int), (oneS b).2.2) := by
  unfold rtcp_one
  by_cases h4 : b.length < 4
  · rw [if_pos (by rw [decide_eq_true_iff]; omega), oneS_short h4]; rfl
  · rw [if_neg (by rw [decide_eq_true_iff]; omega)]
    obtain ⟨b0, b1, b2, b3, p, rfl⟩ := four h4
    have h0 := hB b0 (by simp)
    have h1 := hB b1 (by simp)
    have h2 := hB b2 (by simp)
    have h3 := hB b3 (by simp)
    have hlen : (b0 :: b1 :: b2 :: b3 :: p).length = 4 + p.length := by simp; omega
    have hv : val ((List.drop 2 (b0 :: b1 :: b2 :: b3 :: p)).take 2) = b2 * 256 + b3 := by simp [val]
    have hn : b2 * 256 + b3 = (((b2 * 256 + b3).toNat : Nat) : Int) := by omega
    rw [octet_Get_eq hB (by omega) (by omega) (by omega), if_pos (by omega), show (2 : Int).toNat = 2 from rfl, hv]
    simp only [Option.bind_some]
    unfold oneS
    dsimp only
    generalize hN : (b2 * 256 + b3).toNat = N at hn ⊢
    rw [hn, cv_i64 (by omega), mul_i64 (by omega), add_i64 (by omega)]
    by_cases hs : p.length < 4 * N
    · rw [if_pos hs, if_pos (by rw [decide_eq_true_iff, hlen]; omega)]
      rfl
    · rw [if_neg hs, if_neg (by rw [decide_eq_true_iff, hlen]; omega)]
      have hi0 : ix (b0 :: b1 :: b2 :: b3 :: p) 0 = some b0 := rfl
      have hi1 : ix (b0 :: b1 :: b2 :: b3 :: p) 1 = some b1 := rfl
      have hw := unw_ok N (p.take (4 * N)) (fun x hx => hB x (by simp [List.mem_of_mem_take hx])) (by rw [List.length_take]; omega)
      have htest : ((ix (b0 :: b1 :: b2 :: b3 :: p) 0).bind fun x126 => if ((band .u8 x126 192) != 128) = true then some true else (ix (b0 :: b1 :: b2 :: b3 :: p) 0).bind fun x134 => if ((band .u8 x134 32) != 0) = true then some true else (ix (b0 :: b1 :: b2 :: b3 :: p) 1).bind fun x142 => if (decide (x142 < 192)) = true then some true else (ix (b0 :: b1 :: b2 :: b3 :: p) 1).bind fun x150 => some (decide (223 < x150))) = some (decide (¬ (b0 / 32 = 4 ∧ 192 ≤ b1 ∧ b1 ≤ 223))) := by
        rw [hi0, hi1]
        simp only [Option.bind_some]
        have hh := head8 h0
        by_cases q1 : band .u8 b0 192 = 128
        · rw [if_neg (by simp [q1])]
          by_cases q2 : band .u8 b0 32 = 0
          · rw [if_neg (by simp [q2])]
            have q3 := hh.1 ⟨q1, q2⟩
            by_cases q4 : b1 < 192
            · rw [if_pos (by simpa using q4), decide_eq_true (by omega)]
            · rw [if_neg (by simpa using q4)]
              congr 1
              rw [Bool.eq_iff_iff, decide_eq_true_iff, decide_eq_true_iff]
              omega
          · rw [if_pos (by simp [q2]), decide_eq_true]
            rintro ⟨q3, _⟩
            exact q2 (hh.2 q3).2
        · rw [if_pos (by simp [q1]), decide_eq_true]
          rintro ⟨q3, _⟩
          exact q1 (hh.2 q3).1
      rw [htest]
      simp only [Option.bind_some]
      by_cases ht : ¬ (b0 / 32 = 4 ∧ 192 ≤ b1 ∧ b1 ≤ 223)
      · rw [decide_eq_true ht, if_pos ht]
        rfl
      · rw [decide_eq_false ht, if_neg ht, hi0, hi1]
        simp only [Bool.false_eq_true, if_false, Option.bind_some, Flow.el]
        rw [cutL_ok (a := 4) (i := 4) (j := 4 + 4 * N) rfl (by omega) (by omega) (by omega), low5 h0, cv_i64 (by omega), cv_i64 (by omega)]
        simp only [Option.bind_some]
        have e4 : ((b0 :: b1 :: b2 :: b3 :: p).drop 4).take (4 + 4 * N - 4) = p.take (4 * N) := by
          rw [show 4 + 4 * N - 4 = 4 * N from by omega]; rfl
        obtain ⟨hw1, hw2, hw3⟩ := hw
        rw [e4, ← hw1, unw_wds hw2]
        obtain ⟨r, ok, hp, ha⟩ := parse_eq hw2 (by omega) b1 (b0 % 32)
        rw [hp]
        simp only [Option.bind_some]
        cases hP : parseS b1 (b0 % 32) (unw (p.take (4 * N))) with
        | none =>
          rw [hP] at ha
          subst ha
          rfl
        | some q =>
          rw [hP] at ha
          obtain ⟨rfl, rfl⟩ := ha
          simp
def flowOf (o : api_Report × Nat × Int) (acc : List api_Report) (i : Int) : Flow (List api_Report × Int) (List api_Report × Int) :=
  if o.2.2 ≠ 0 then .ret ([], o.2.2) else .next (acc ++ [o.1], i + (o.2.1 : Int))
theorem oneS_n {b : List Int} (hB : Byt b) : (oneS b).2.1 ≤ 300000 := by
  by_cases h4 : b.length < 4
  · rw [oneS_short h4]; simp
  · obtain ⟨b0, b1, b2, b3, p, rfl⟩ := four h4
    have h2 := hB b2 (by simp)
    have h3 := hB b3 (by simp)
    unfold oneS
    dsimp only
    by_cases h1 : p.length < 4 * (b2 * 256 + b3).toNat
    · rw [if_pos h1]; simp
    · rw [if_neg h1]
      by_cases h2 : ¬ (b0 / 32 = 4 ∧ 192 ≤ b1 ∧ b1 ≤ 223)
      · rw [if_pos h2]; simp
      · rw [if_neg h2]
        cases parseS b1 (b0 % 32) (unw (p.take (4 * (b2 * 256 + b3).toNat))) with
        | none => simp
        | some r => simp only; omega
instance (t c : Int) (ws : List Int) : Decidable (Taken t c ws) := by unfold Taken; infer_instance
theorem rtcp_step {b : List Int} (hB : Byt b) (hl : b.length ≤ 1500) {acc : List api_Report} {i : Nat} (hi : i < b.length) (ha : acc.length ≤ i) :
    rtcp_Read_l0 b acc (i : Int) = some (flowOf (oneS (b.drop i)) acc i) := by
  have hle := oneS_n (hB.drop i)
  simp only [rtcp_Read_l0]
  rw [if_pos (by simpa using hi), cutFrom_ok rfl (Nat.le_of_lt hi)]
  simp only [Option.bind_some]
  rw [rtcp_one_eq (hB.drop i) (by rw [List.length_drop]; omega)]
  simp only [Option.bind_some]
  unfold flowOf
  by_cases he : (oneS (b.drop i)).2.2 ≠ 0
  · rw [if_pos (by simpa using he), if_pos he]
  · rw [if_neg (by simpa using he), if_neg he, app_ok (by simp; omega)]
    simp only [Option.bind_some]
    rw [add_i64 (by omega)]
theorem refR_parse {ws : List Int} (hw : W32 ws) (hl : ws.length ≤ 1000) {t c : Int} (ht : 192 ≤ t ∧ t ≤ 223) (hc : 0 ≤ c ∧ c ≤ 31) {r : api_Report} (h : parseS t c ws = some r) : r = refR t c ws := by
  rcases taken_parse hw hl ht hc with ⟨_, h2⟩ | ⟨_, h2⟩
  · rw [h] at h2; exact Option.some.inj h2
  · rw [h] at h2; cases h2
theorem enc_byt {r : api_Report} (hr : WR r) (h : rightE r = 0) : Byt (enc r) := by
  have h1 := cnt_bd h
  have h2 := typ_bd h
  unfold enc
  refine Byt.cons (by omega) (Byt.cons (by omega) ((be_byt _ _).app ?_))
  unfold bodyB
  split
  · exact hr.body
  · exact wds_byt _
theorem shr5 {x : Int} : shr .u8 x 5 = x / 32 := by
  rw [shr_e (n := 5) 5 rfl (by decide)]
  rfl
theorem ref_step {b : List Int} (hB : Byt b) (hl : b.length ≤ 1500) {acc : List api_Report} {i : Nat} (hi : i < b.length) (ha : acc.length ≤ i) :
    limelightref6_Read_l0 b acc (i : Int) = some (flowOf (oneS (b.drop i)) acc i) := by
  simp only [limelightref6_Read_l0]
  rw [if_pos (by simpa using hi), add_i64 (by omega), ref_Get_eq hB (by omega) (by omega) (by omega)]
  simp only [Option.bind_some]
  have hld : (b.drop i).length = b.length - i := List.length_drop ..
  by_cases h4 : b.length - i < 4
  · rw [if_neg (by omega), oneS_short (by rw [hld]; exact h4)]
    simp only [Option.bind_some]
    rw [ref_Cut_eq (by omega) (by omega) (by decide)]
    rfl
  · rw [if_pos (by omega)]
    have hBd := hB.drop i
    obtain ⟨b0, b1, b2, b3, p, hb⟩ := four (b := b.drop i) (by rw [hld]; exact h4)
    rw [hb] at hld hBd ⊢
    have h0 := hBd b0 (by simp)
    have h1 := hBd b1 (by simp)
    have h2 := hBd b2 (by simp)
    have h3 := hBd b3 (by simp)
    have hv : val ((b.drop ((i : Int) + 2).toNat).take (2 : Int).toNat) = b2 * 256 + b3 := by
      rw [show ((i : Int) + 2).toNat = i + 2 from by omega, ← List.drop_drop, hb]
      simp [val]
    have hn : b2 * 256 + b3 = (((b2 * 256 + b3).toNat : Nat) : Int) := by omega
    rw [hv]
    simp only [Option.bind_some]
    unfold oneS
    dsimp only
    generalize hN : (b2 * 256 + b3).toNat = N at hn ⊢
    rw [hn, cv_i64 (by omega), mul_i64 (by omega), add_i64 (by omega), ref_Cut_eq (by omega) (by omega) (by omega)]
    simp only [List.length_cons] at hld
    by_cases hs : p.length < 4 * N
    · rw [if_pos hs, if_neg (by omega)]
      rfl
    · rw [if_neg hs, if_pos (by omega)]
      have hx : (b.drop (i : Int).toNat).take (4 + 4 * (N : Int)).toNat = b0 :: b1 :: b2 :: b3 :: p.take (4 * N) := by
        rw [Int.toNat_natCast, hb, show (4 + 4 * (N : Int)).toNat = 4 * N + 4 from by omega]
        rfl
      rw [hx]
      simp only [Option.bind_some, Bool.not_true, Bool.or_self, Bool.false_eq_true, if_false]
      have hi0 : ix (b0 :: b1 :: b2 :: b3 :: p.take (4 * N)) 0 = some b0 := rfl
      have hi1 : ix (b0 :: b1 :: b2 :: b3 :: p.take (4 * N)) 1 = some b1 := rfl
      rw [hi0, hi1]
      simp only [Option.bind_some, shr5]
      by_cases ht : ¬ (b0 / 32 = 4 ∧ 192 ≤ b1 ∧ b1 ≤ 223)
      · have htest : (if (b0 / 32 != 4) = true then some true else if (decide (b1 < 192)) = true then some true else some (decide (223 < b1))) = some true := by
          by_cases q1 : b0 / 32 = 4
          · rw [if_neg (by simp [q1])]
            by_cases q2 : b1 < 192
            · rw [if_pos (by simpa using q2)]
            · rw [if_neg (by simpa using q2), decide_eq_true (by omega)]
          · rw [if_pos (by simpa using q1)]
        rw [htest, if_pos ht]
        rfl
      · have ht' : b0 / 32 = 4 ∧ 192 ≤ b1 ∧ b1 ≤ 223 := by omega
        have htest : (if (b0 / 32 != 4) = true then some true else if (decide (b1 < 192)) = true then some true else some (decide (223 < b1))) = some false := by
          rw [if_neg (by simp [ht'.1]), if_neg (by simp; omega), decide_eq_false (by omega)]
        rw [htest, if_neg ht]
        have hw := unw_ok N (p.take (4 * N)) (fun x hx => hBd x (by simp [List.mem_of_mem_take hx])) (by rw [List.length_take]; omega)
        obtain ⟨hw1, hw2, hw3⟩ := hw
        generalize hws : unw (p.take (4 * N)) = ws at hw1 hw2 hw3
        rw [← hw1]
        simp only [Option.bind_some, Bool.false_eq_true, if_false]
        rw [cutFrom_ok (b := 4) (k := 4) rfl (by simp)]
        simp only [Option.bind_some]
        have e4 : (b0 :: b1 :: b2 :: b3 :: wds ws).drop 4 = wds ws := rfl
        rw [e4, low5 h0, cv_i64 (by omega), cv_i64 (by omega), refparse_eq hw2 (by omega)]
        simp only [Option.bind_some]
        have hc : 0 ≤ b0 % 32 ∧ b0 % 32 ≤ 31 := by omega
        have hWR := refR_WR hw2 (by omega) ht'.2 hc
        rw [ref_Right_eq hWR]
        simp only [Option.bind_some]
        have hsh := refshort_eq (hdr := [b0, b1, b2, b3]) (fun x hx => hBd x (by simp at hx ⊢; rcases hx with h | h | h | h <;> simp [h])) rfl hw2 (by omega) b1 (b0 % 32)
        have e5 : [b0, b1, b2, b3] ++ wds ws = b0 :: b1 :: b2 :: b3 :: wds ws := rfl
        rw [e5] at hsh
        have hbe : be 2 (ws.length : Int) = [b2, b3] := by
          rw [hw3, ← hn]
          simp [be]
          omega
        have htk : Taken b1 (b0 % 32) ws ↔ rightE (refR b1 (b0 % 32) ws) = 0 ∧ enc (refR b1 (b0 % 32) ws) = [b0, b1, b2, b3] ++ wds (shortS b1 (b0 % 32) ws) := by
          unfold Taken
          rw [hbe, show 128 + b0 % 32 = b0 from by omega]
          rfl
        have hrej : (if (rightE (refR b1 (b0 % 32) ws) != 0) = true then some true else (limelightref6_one (refR b1 (b0 % 32) ws)).bind fun x131 => (limelightref6_short (b0 :: b1 :: b2 :: b3 :: wds ws) (refR b1 (b0 % 32) ws)).bind fun x143 => some (!((strOfNums x131).toList == (strOfNums x143).toList))) = some (decide (¬ Taken b1 (b0 % 32) ws)) := by
          by_cases q1 : rightE (refR b1 (b0 % 32) ws) = 0
          · rw [if_neg (by simp [q1]), ref_one_eq hWR q1, hsh]
            simp only [Option.bind_some]
            rw [str_eq (enc_byt hWR q1) (Byt.app (fun x hx => hBd x (by simp at hx ⊢; rcases hx with h | h | h | h <;> simp [h])) (wds_byt _))]
            congr 1
            rw [Bool.eq_iff_iff]
            simp only [Bool.not_eq_true', decide_eq_false_iff_not, decide_eq_true_iff, htk, q1, true_and]
          · rw [if_pos (by simpa using q1), decide_eq_true (show ¬ Taken b1 (b0 % 32) ws from fun h => q1 (htk.1 h).1)]
        rw [hrej]
        simp only [Option.bind_some]
        rcases taken_parse hw2 (by omega) ht'.2 hc with ⟨q1, q2⟩ | ⟨q1, q2⟩
        · rw [decide_eq_false (not_not_intro q1), q2]
          simp only [Bool.false_eq_true, if_false]
          rw [app_ok (by simp; omega)]
          simp only [Option.bind_some, Flow.el]
          have e6 : (b0 :: b1 :: b2 :: b3 :: wds ws).length = 4 + 4 * N := by simp [wds_length, hw3]; omega
          rw [e6, add_i64 (by omega)]
          simp [flowOf]
        · rw [decide_eq_true q1, q2]
          rfl
theorem oneS_le {b : List Int} (h : (oneS b).2.2 = 0) : 4 ≤ (oneS b).2.1 ∧ (oneS b).2.1 ≤ b.length := by
  unfold oneS at h ⊢
  match b with
  | [] => simp at h
  | [_] => simp at h
  | [_, _] => simp at h
  | [_, _, _] => simp at h
  | b0 :: b1 :: b2 :: b3 :: p =>
    dsimp only at h ⊢
    by_cases h1 : p.length < 4 * (b2 * 256 + b3).toNat
    · rw [if_pos h1] at h; simp at h
    · rw [if_neg h1] at h ⊢
      by_cases h2 : ¬ (b0 / 32 = 4 ∧ 192 ≤ b1 ∧ b1 ≤ 223)
      · rw [if_pos h2] at h; simp at h
      · rw [if_neg h2] at h ⊢
        cases hP : parseS b1 (b0 % 32) (unw (p.take (4 * (b2 * 256 + b3).toNat))) with
        | none => rw [hP] at h; simp at h
        | some r => simp only [List.length_cons]; omega
theorem read_loop {b : List Int} {body : List api_Report × Int → Option (Flow (List api_Report × Int) (List api_Report × Int))}
    (step : ∀ (acc : List api_Report) (i : Nat), i < b.length → acc.length ≤ i → body (acc, (i : Int)) = some (flowOf (oneS (b.drop i)) acc i))
    (stop : ∀ acc : List api_Report, body (acc, (b.length : Int)) = some (.brk (acc, (b.length : Int)))) : ∀ (f i : Nat) (acc : List api_Report), b.length ≤ i + f → i ≤ b.length → acc.length ≤ i →
    loopF body (acc, (i : Int)) = some (if (readF f (b.drop i) acc).2 = 0 then .brk ((readF f (b.drop i) acc).1, (b.length : Int)) else .ret (readF f (b.drop i) acc)) := by
  intro f
  induction f with
  | zero =>
    intro i acc h1 h2 h3
    have : i = b.length := by omega
    subst this
    rw [loopF_brk (stop acc)]
    simp [readF]
  | succ f ih =>
    intro i acc h1 h2 h3
    by_cases h0 : i = b.length
    · subst h0
      rw [loopF_brk (stop acc)]
      simp [readF]
    · have hne : b.drop i ≠ [] := fun e => by have := List.drop_eq_nil_iff.1 e; omega
      have hs := step acc i (by omega) h3
      unfold readF
      unfold flowOf at hs
      rw [if_neg hne]
      by_cases he : (oneS (b.drop i)).2.2 ≠ 0
      · rw [if_pos he] at hs ⊢
        rw [loopF_ret hs, if_neg he]
      · rw [if_neg he] at hs ⊢
        have hle := oneS_le (b := b.drop i) (by simpa using he)
        rw [List.length_drop] at hle
        rw [loopF_next hs]
        have := ih (i + (oneS (b.drop i)).2.1) (acc ++ [(oneS (b.drop i)).1]) (by omega) (by omega) (by simp; omega)
        rw [← List.drop_drop] at this
        simpa using this
theorem rtcp_Read_eq {b : List Int} (hB : Byt b) : rtcp_Read b = some (readS b) := by
  unfold rtcp_Read readS
  by_cases h1 : 1500 < b.length
  · rw [if_pos (by rw [decide_eq_true_iff]; omega), if_pos h1]
  · rw [if_neg (by rw [decide_eq_true_iff]; omega), if_neg h1]
    by_cases h2 : b.length = 0
    · rw [if_pos (by simp [h2]), if_pos h2]
    · rw [if_neg (by simpa using h2), if_neg h2]
      have := read_loop (b := b) (body := fun sg => rtcp_Read_l0 b sg.1 sg.2) (fun acc i hi ha => rtcp_step hB (by omega) hi ha) (fun acc => by simp [rtcp_Read_l0]) b.length 0 [] (by omega) (by omega) (by simp)
      rw [List.drop_zero] at this
      rw [show (([] : List api_Report), (0 : Int)) = ([], ((0 : Nat) : Int)) from rfl, this]
      by_cases he : (readF b.length b []).2 = 0
      · rw [if_pos he]
        simp only [Option.bind_some, Flow.el, slices_Clip_api_Report]
        rw [← he]
      · rw [if_neg he]
        rfl
theorem ref_Read_eq {b : List Int} (hB : Byt b) : limelightref6_Read b = some (readS b) := by
  unfold limelightref6_Read readS
  by_cases h1 : 1500 < b.length
  · rw [if_pos (by rw [decide_eq_true_iff]; omega), if_pos h1]
  · rw [if_neg (by rw [decide_eq_true_iff]; omega), if_neg h1]
    by_cases h2 : b.length = 0
    · rw [if_pos (by simp [h2]), if_pos h2]
    · rw [if_neg (by simpa using h2), if_neg h2]
      have := read_loop (b := b) (body := fun sg => limelightref6_Read_l0 b sg.1 sg.2) (fun acc i hi ha => ref_step hB (by omega) hi ha) (fun acc => by simp [limelightref6_Read_l0]) b.length 0 [] (by omega) (by omega) (by simp)
      rw [List.drop_zero] at this
      rw [show (([] : List api_Report), (0 : Int)) = ([], ((0 : Nat) : Int)) from rfl, this]
      by_cases he : (readF b.length b []).2 = 0
      · rw [if_pos he]
        simp only [Option.bind_some, Flow.el]
        rw [← he]
      · rw [if_neg he]
        rfl
theorem oneS_WR {b : List Int} (hB : Byt b) (hl : b.length ≤ 1500) (h : (oneS b).2.2 = 0) : WR (oneS b).1 := by
  by_cases h4 : b.length < 4
  · rw [oneS_short h4] at h; simp at h
  · obtain ⟨b0, b1, b2, b3, p, rfl⟩ := four h4
    have h0 := hB b0 (by simp)
    have h2 := hB b2 (by simp)
    have h3 := hB b3 (by simp)
    simp only [List.length_cons] at hl
    unfold oneS at h ⊢
    dsimp only at h ⊢
    by_cases h1 : p.length < 4 * (b2 * 256 + b3).toNat
    · rw [if_pos h1] at h; simp at h
    · rw [if_neg h1] at h ⊢
      by_cases ht : ¬ (b0 / 32 = 4 ∧ 192 ≤ b1 ∧ b1 ≤ 223)
      · rw [if_pos ht] at h; simp at h
      · rw [if_neg ht] at h ⊢
        have hw := unw_ok (b2 * 256 + b3).toNat (p.take (4 * (b2 * 256 + b3).toNat)) (fun x hx => hB x (by simp [List.mem_of_mem_take hx])) (by rw [List.length_take]; omega)
        cases hP : parseS b1 (b0 % 32) (unw (p.take (4 * (b2 * 256 + b3).toNat))) with
        | none => rw [hP] at h; simp at h
        | some r =>
          have := refR_parse hw.2.1 (by omega) (by omega) (by omega) hP
          simp only
          rw [this]
          exact refR_WR hw.2.1 (by omega) (by omega) (by omega)
theorem readF_WR : ∀ (f : Nat) (b : List Int) (acc : List api_Report), Byt b → b.length ≤ 1500 → (∀ r ∈ acc, WR r) → ∀ r ∈ (readF f b acc).1, WR r := by
  intro f
  induction f with
  | zero => intro b acc _ _ h r hr; exact h r hr
  | succ f ih =>
    intro b acc hB hl h r hr
    unfold readF at hr
    by_cases h0 : b = []
    · rw [if_pos h0] at hr; exact h r hr
    · rw [if_neg h0] at hr
      by_cases he : (oneS b).2.2 ≠ 0
      · rw [if_pos he] at hr; simp at hr
      · rw [if_neg he] at hr
        refine ih _ _ (hB.drop _) (by rw [List.length_drop]; omega) (fun q hq => ?_) r hr
        rcases List.mem_append.1 hq with hq | hq
        · exact h q hq
        · simp at hq; subst hq; exact oneS_WR hB hl (by simpa using he)
theorem readS_WR {b : List Int} (hB : Byt b) : ∀ r ∈ (readS b).1, WR r := by
  unfold readS
  intro r hr
  by_cases h1 : 1500 < b.length
  · rw [if_pos h1] at hr; simp at hr
  · rw [if_neg h1] at hr
    by_cases h2 : b.length = 0
    · rw [if_pos h2] at hr; simp at hr
    · rw [if_neg h2] at hr
      exact readF_WR _ _ _ hB (by omega) (by simp) r hr
theorem readF_len : ∀ (f : Nat) (b : List Int) (acc : List api_Report), (readF f b acc).1.length ≤ acc.length + f := by
  intro f
  induction f with
  | zero => intro b acc; simp [readF]
  | succ f ih =>
    intro b acc
    unfold readF
    split
    · simp only; omega
    · split
      · simp
      · have := ih (b.drop (oneS b).2.1) (acc ++ [(oneS b).1])
        simp at this ⊢
        omega
theorem readS_len (b : List Int) : (readS b).1.length ≤ 1500 := by
  unfold readS
  by_cases h1 : 1500 < b.length
  · rw [if_pos h1]; simp
  · rw [if_neg h1]
    by_cases h2 : b.length = 0
    · rw [if_pos h2]; simp
    · rw [if_neg h2]
      have := readF_len b.length b []
      simp at this
      omega
def isS (b : List Int) : Bool := decide (2 ≤ b.length) && decide ((192 : Int) ≤ (b[1]?).getD 0) && decide ((b[1]?).getD 0 ≤ (223 : Int))
theorem rtcp_Is_eq (b : List Int) : rtcp_Is b = some (isS b) := by
  unfold rtcp_Is isS
  by_cases h : 2 ≤ b.length
  · obtain ⟨x, hx⟩ := get_some (l := b) (k := 1) (by omega)
    rw [if_pos (by rw [decide_eq_true_iff]; omega), ix_at (i := 1) (k := 1) rfl hx, hx, decide_eq_true h]
    simp only [Option.bind_some, Option.getD_some, Bool.true_and]
    by_cases h2 : 192 ≤ x
    · rw [if_pos (by simpa using h2), decide_eq_true h2]; rfl
    · rw [if_neg (by simpa using h2), decide_eq_false h2]; rfl
  · rw [if_neg (by rw [decide_eq_true_iff]; omega), decide_eq_false h]; rfl
theorem ref_Is_eq (b : List Int) : limelightref6_Is b = some (isS b) := by
  rw [← rtcp_Is_eq]
  rfl
theorem reads_true {b : List Int} (hB : Byt b) : limelightlaw6_reads b = some true := by
  unfold limelightlaw6_reads
  rw [rtcp_Read_eq hB, ref_Read_eq hB]
  simp only [Option.bind_some, beq_self_eq_true, if_true]
  rw [All_eq (readS_WR hB) (readS_WR hB) (by have := readS_len b; omega), rtcp_Is_eq, ref_Is_eq]
  simp
end Go.Lk
