/- A part of this proof: RtcpTells returns true for every input and leaves its arguments as they were; there are no conditions. -/
import Derived.Test.YtnpgmljphheabaaA1
set_option linter.unusedVariables false
set_option linter.unusedSimpArgs false
namespace Go.Lk
open Go.RowKit
def peF : Nat → Nat → Nat → Nat
  | 0, _, _ => 0
  | f + 1, b, n => if n < 2 ^ b then 0 else peF f b (n / 2) + 1
def pe (b : Nat) (n : Int) : Nat := peF 64 b n.toNat
def openR (e : Nat) (m : Int) : Int := if m * 2 ^ e ≤ 18446744073709551615 then m * 2 ^ e else 18446744073709551615
def downR (b : Nat) (n : Int) : Int := n / 2 ^ pe b n * 2 ^ pe b n
theorem peF_lt : ∀ (f b n : Nat), n < 2 ^ (b + f) → n / 2 ^ peF f b n < 2 ^ b
  | 0, b, n, h => by simpa [peF] using h
  | f + 1, b, n, h => by
    unfold peF
    split
    · simpa using ‹_›
    · have h2 : n / 2 < 2 ^ (b + f) := by
        rw [← Nat.add_assoc, Nat.pow_succ] at h; omega
      have := peF_lt f b (n / 2) h2
      rw [Nat.pow_succ, Nat.mul_comm, ← Nat.div_div_eq_div_mul]
      exact this
theorem peF_le : ∀ (f b n e : Nat), n / 2 ^ e < 2 ^ b → peF f b n ≤ e
  | 0, b, n, e, h => by simp [peF]
  | f + 1, b, n, e, h => by
    unfold peF
    split
    · exact Nat.zero_le _
    · rename_i hn
      cases e with
      | zero => simp at h; exact absurd h hn
      | succ e =>
        rw [Nat.pow_succ, Nat.mul_comm, ← Nat.div_div_eq_div_mul] at h
        have := peF_le f b (n / 2) e h
        omega
theorem peF_big {b n : Nat} (hb : b ≤ 64) (hn : n < 2 ^ 64) (f : Nat) : peF f b n ≤ 64 - b := by
  refine peF_le f b n _ ?_
  rw [Nat.div_lt_iff_lt_mul (Nat.two_pow_pos _), ← Nat.pow_add]
  rwa [show b + (64 - b) = 64 from by omega]
theorem p64 : (2 : Nat) ^ 64 = 18446744073709551616 := rfl
theorem pe_le {b : Nat} {n : Int} (hb : b ≤ 64) (hn : 0 ≤ n ∧ n ≤ 18446744073709551615) : pe b n ≤ 64 - b := peF_big hb (by rw [p64]; omega) 64
theorem cast_two (e : Nat) : ((2 ^ e : Nat) : Int) = 2 ^ e := by simp
theorem pe_lt {b : Nat} {n : Int} (hn : 0 ≤ n ∧ n ≤ 18446744073709551615) : n / 2 ^ pe b n < 2 ^ b := by
  obtain ⟨m, rfl⟩ := Int.eq_ofNat_of_zero_le hn.1
  have h2 : m < 2 ^ (b + 64) := Nat.lt_of_lt_of_le (show m < 2 ^ 64 by rw [p64]; omega) (Nat.pow_le_pow_right (by omega) (by omega))
  have := peF_lt 64 b m h2
  have h3 : ((m / 2 ^ pe b (m : Int) : Nat) : Int) < ((2 ^ b : Nat) : Int) := Int.ofNat_lt.2 this
  simpa using h3
theorem pe_min {b e : Nat} {n : Int} (hn : 0 ≤ n) (h : n / 2 ^ e < 2 ^ b) : pe b n ≤ e := by
  obtain ⟨m, rfl⟩ := Int.eq_ofNat_of_zero_le hn
  refine peF_le 64 b m e ?_
  have h3 : ((m / 2 ^ e : Nat) : Int) < ((2 ^ b : Nat) : Int) := by simpa using h
  exact Int.ofNat_lt.1 h3
theorem rate_Pack_loop {b : Nat} (hb : 1 ≤ b ∧ b ≤ 24) : ∀ (f n : Nat) (x : Nat), n < 2 ^ (b + f) → n < 2 ^ 64 → x + f ≤ 1000 →
    loopF (fun sg => rate_Pack_l0 (b : Int) sg.1 sg.2) ((n : Int), (x : Int)) = some (.brk (((n / 2 ^ peF f b n : Nat) : Int), ((x + peF f b n : Nat) : Int))) := by
  intro f
  induction f with
  | zero =>
    intro n x h h64 hx
    refine loopF_brk ?_
    simp only [rate_Pack_l0]
    rw [gd_ok (by omega), shr_e b rfl (by simp [IntKind.bits]; omega)]
    have h0 : ((n / 2 ^ b : Nat) : Int) = 0 := by rw [Nat.div_eq_of_lt (by simpa using h)]; rfl
    rw [if_neg (by simp at h0; simp [h0])]
    simp [peF]
  | succ f ih =>
    intro n x h h64 hx
    unfold peF
    by_cases hn : n < 2 ^ b
    · rw [if_pos hn]
      refine loopF_brk ?_
      simp only [rate_Pack_l0]
      rw [gd_ok (by omega), shr_e b rfl (by simp [IntKind.bits]; omega)]
      have h0 : ((n / 2 ^ b : Nat) : Int) = 0 := by rw [Nat.div_eq_of_lt hn]; rfl
      rw [if_neg (by simp at h0; simp [h0])]
      simp
    · rw [if_neg hn, loopF_next (s' := (((n / 2 : Nat) : Int), ((x + 1 : Nat) : Int))), ih (n / 2) (x + 1) (by rw [← Nat.add_assoc, Nat.pow_succ] at h; omega) (by omega) (by omega)]
      · congr 3
        · rw [Nat.pow_succ, Nat.mul_comm (2 ^ _) 2, ← Nat.div_div_eq_div_mul]
        · omega
      · simp only [rate_Pack_l0]
        rw [gd_ok (by omega), shr_e b rfl (by simp [IntKind.bits]; omega), shr_e (n := 1) 1 rfl (by decide)]
        have h1 : 0 < n / 2 ^ b := Nat.div_pos (by omega) (Nat.two_pow_pos _)
        have h2 : (0 : Int) < ((n / 2 ^ b : Nat) : Int) := by omega
        rw [if_pos (by simpa using h2), add_i64 (by omega)]
        simp
theorem rate_Pack_eq {n : Int} {b : Nat} (hb : 1 ≤ b ∧ b ≤ 24) (hn : 0 ≤ n ∧ n ≤ 18446744073709551615) : rate_Pack n (b : Int) = some ((pe b n : Int), n / 2 ^ pe b n) := by
  have hlt := pe_lt (b := b) hn
  obtain ⟨m, rfl⟩ := Int.eq_ofNat_of_zero_le hn.1
  have h64 : m < 2 ^ 64 := by rw [p64]; omega
  have h24 : (2 : Int) ^ b ≤ 2 ^ 24 := by
    have h2 := Nat.pow_le_pow_right (n := 2) (by decide) hb.2
    have h3 : ((2 ^ b : Nat) : Int) ≤ ((2 ^ 24 : Nat) : Int) := Int.ofNat_le.2 h2
    simpa using h3
  have e24 : (2 : Int) ^ 24 = 16777216 := rfl
  have hm : rate_may (b : Int) = some true := by simp [rate_may]; omega
  have hl := rate_Pack_loop hb 64 m 0 (Nat.lt_of_lt_of_le h64 (Nat.pow_le_pow_right (by omega) (by omega))) h64 (by omega)
  unfold rate_Pack
  rw [hm]
  simp only [Option.bind_some, Bool.not_true, Bool.false_eq_true, if_false]
  rw [show ((m : Int), (0 : Int)) = ((m : Int), ((0 : Nat) : Int)) from rfl, hl]
  simp only [Option.bind_some, Flow.el]
  have hd : 0 ≤ (m : Int) / 2 ^ pe b (m : Int) := Int.ediv_nonneg (by omega) (Int.le_of_lt (two_pos _))
  have : ((m / 2 ^ peF 64 b m : Nat) : Int) = (m : Int) / 2 ^ pe b (m : Int) := by simp [pe]
  rw [this, cv_u32 (by omega)]
  simp [pe]
theorem ref_Pack_loop {b : Nat} (hb : 1 ≤ b ∧ b ≤ 24) {n : Nat} (h64 : n < 2 ^ 64) : ∀ (f e : Nat), n / 2 ^ e < 2 ^ (b + f) → e + f ≤ 64 →
    loopF (fun sg => limelightref1_Pack_l0 (n : Int) (b : Int) sg) (e : Int) = some (.brk ((e + peF f b (n / 2 ^ e) : Nat) : Int)) := by
  have e1 : shl .u64 1 ((b : Nat) : Int) = ((2 ^ b : Nat) : Int) := by
    have h2 := Nat.pow_le_pow_right (n := 2) (by decide) hb.2
    have h3 : (2 : Nat) ^ 24 = 16777216 := rfl
    rw [shl_e b rfl (by simp [IntKind.bits]; omega), w_u64, Int.one_mul, ← cast_two]
    generalize (2 ^ b : Nat) = p at *
    omega
  have key : ∀ e : Nat, e ≤ 64 → limelightref1_Pack_l0 (n : Int) (b : Int) (e : Int) = if 2 ^ b ≤ n / 2 ^ e then some (Flow.next ((e + 1 : Nat) : Int)) else some (Flow.brk (e : Int)) := by
    intro e he
    simp only [limelightref1_Pack_l0]
    rw [cv_u64 (a := (e : Int)) (by omega), cv_u64 (a := (b : Int)) (by omega), gd_ok (by omega), gd_ok (by omega), e1, shr_e e rfl (by simp [IntKind.bits]; omega), add_i64 (by omega)]
    have h2 : ((2 ^ b : Nat) : Int) ≤ (n : Int) / 2 ^ e ↔ 2 ^ b ≤ n / 2 ^ e := by
      rw [← cast_two, ← Int.natCast_ediv]; exact Int.ofNat_le
    by_cases h : 2 ^ b ≤ n / 2 ^ e
    · rw [if_pos h, if_pos (by simpa using h2.2 h)]; simp
    · rw [if_neg h, if_neg (by rw [decide_eq_true_iff]; exact fun h' => h (h2.1 h'))]
  intro f
  induction f with
  | zero =>
    intro e h he
    refine loopF_brk ?_
    rw [key e (by omega), if_neg (by have : 2 ^ (b + 0) = 2 ^ b := rfl; omega)]
    simp [peF]
  | succ f ih =>
    intro e h he
    unfold peF
    by_cases hn : n / 2 ^ e < 2 ^ b
    · rw [if_pos hn]
      refine loopF_brk ?_
      rw [key e (by omega), if_neg (by omega)]
      simp
    · have hdd : n / 2 ^ (e + 1) = n / 2 ^ e / 2 := by rw [Nat.pow_succ, Nat.div_div_eq_div_mul]
      rw [if_neg hn, loopF_next (s' := ((e + 1 : Nat) : Int)) (by rw [key e (by omega), if_pos (by omega)]), ih (e + 1) (by rw [hdd]; rw [← Nat.add_assoc, Nat.pow_succ] at h; omega) (by omega), hdd]
      congr 2
      omega
theorem ref_Pack_eq {n : Int} {b : Nat} (hb : 1 ≤ b ∧ b ≤ 24) (hn : 0 ≤ n ∧ n ≤ 18446744073709551615) : limelightref1_Pack n (b : Int) = some ((pe b n : Int), n / 2 ^ pe b n) := by
  have hlt := pe_lt (b := b) hn
  have hle := pe_le (b := b) (by omega) hn
  obtain ⟨m, rfl⟩ := Int.eq_ofNat_of_zero_le hn.1
  have h64 : m < 2 ^ 64 := by rw [p64]; omega
  have h24 : (2 : Int) ^ b ≤ 2 ^ 24 := by
    have h2 := Nat.pow_le_pow_right (n := 2) (by decide) hb.2
    have h3 : ((2 ^ b : Nat) : Int) ≤ ((2 ^ 24 : Nat) : Int) := Int.ofNat_le.2 h2
    simpa using h3
  have e24 : (2 : Int) ^ 24 = 16777216 := rfl
  have hl := ref_Pack_loop hb h64 64 0 (by simpa using Nat.lt_of_lt_of_le h64 (Nat.pow_le_pow_right (by omega) (by omega : 64 ≤ b + 64))) (by omega)
  unfold limelightref1_Pack
  rw [if_neg (by simp; omega)]
  rw [show loopF (fun sg => limelightref1_Pack_l0 (m : Int) (b : Int) sg) 0 = _ from hl]
  simp only [Option.bind_some, Flow.el, Nat.zero_add, Nat.pow_zero, Nat.div_one]
  have e1 : peF 64 b m = pe b (m : Int) := by simp [pe]
  rw [e1]
  have hle' : pe b (m : Int) ≤ 64 - b := hle
  have hd : 0 ≤ (m : Int) / 2 ^ pe b (m : Int) := Int.ediv_nonneg (by omega) (Int.le_of_lt (two_pos _))
  have hlt' : (m : Int) / 2 ^ pe b (m : Int) < 2 ^ b := hlt
  rw [cv_u64 (a := ((pe b (m : Int) : Nat) : Int)) (by omega), gd_ok (by omega), shr_e _ rfl (by simp [IntKind.bits]; omega), cv_u32 (by omega)]
theorem open_core {e : Nat} {m : Int} (he : e ≤ 63) (hm : 0 ≤ m ∧ m ≤ 4294967295) :
    (if ((shr .u64 (shl .u64 m (e : Int)) (e : Int)) != m) = true then some (18446744073709551615 : Int) else some (shl .u64 m (e : Int))) = some (openR e m) := by
  have hp := two_pos e
  have h64 : (2 : Int) ^ (64 - e) * 2 ^ e = 18446744073709551616 := by
    rw [← Int.pow_add, show 64 - e + e = 64 from by omega]; rfl
  rw [shl_e e rfl (by simp [IntKind.bits]; omega), shr_e e rfl (by simp [IntKind.bits]; omega), w_u64]
  unfold openR
  by_cases h : m * 2 ^ e ≤ 18446744073709551615
  · have h0 : 0 ≤ m * 2 ^ e := Int.mul_nonneg hm.1 (Int.le_of_lt hp)
    rw [Int.emod_eq_of_lt h0 (by omega), Int.mul_ediv_cancel _ (by omega)]
    simp [h]
  · have h1 : (m * 2 ^ e) % 18446744073709551616 / 2 ^ e ≠ m := by
      intro hc
      have h2 : (m * 2 ^ e) % 18446744073709551616 / 2 ^ e * 2 ^ e ≤ (m * 2 ^ e) % 18446744073709551616 := Int.ediv_mul_le _ (by omega)
      rw [hc] at h2
      omega
    rw [if_pos (by simpa using h1), if_neg h]
theorem rate_Open_eq {e b : Nat} {m : Int} (hb : 1 ≤ b ∧ b ≤ 24) (he : e ≤ 63) (hm : 0 ≤ m ∧ m < 2 ^ b) : rate_Open (e : Int) m (b : Int) = some (openR e m) := by
  have h24 : (2 : Int) ^ b ≤ 2 ^ 24 := by
    have h2 := Nat.pow_le_pow_right (n := 2) (by decide) hb.2
    have h3 : ((2 ^ b : Nat) : Int) ≤ ((2 ^ 24 : Nat) : Int) := Int.ofNat_le.2 h2
    simpa using h3
  have e24 : (2 : Int) ^ 24 = 16777216 := rfl
  have hmay : rate_may (b : Int) = some true := by simp [rate_may]; omega
  unfold rate_Open
  rw [hmay]
  simp only [Option.bind_some, Bool.not_true, Bool.false_or]
  rw [if_neg (by simp; omega), gd_ok (by omega), shr_e b rfl (by simp [IntKind.bits]; omega), Int.ediv_eq_zero_of_lt hm.1 hm.2]
  simp only [Option.bind_some, Int.lt_irrefl, decide_false, Bool.false_eq_true, if_false]
  rw [gd_ok (by omega), gd_ok (by omega), cv_u64 (by omega), open_core he (by omega)]
theorem ref_Open_eq {e b : Nat} {m : Int} (hb : 1 ≤ b ∧ b ≤ 24) (he : e ≤ 63) (hm : 0 ≤ m ∧ m < 2 ^ b) : limelightref1_Open (e : Int) m (b : Int) = some (openR e m) := by
  have h24 : (2 : Int) ^ b ≤ 2 ^ 24 := by
    have h2 := Nat.pow_le_pow_right (n := 2) (by decide) hb.2
    have h3 : ((2 ^ b : Nat) : Int) ≤ ((2 ^ 24 : Nat) : Int) := Int.ofNat_le.2 h2
    simpa using h3
  have e24 : (2 : Int) ^ 24 = 16777216 := rfl
  have e1 : shl .u32 1 ((b : Nat) : Int) = 2 ^ b := by
    rw [shl_e b rfl (by simp [IntKind.bits]; omega), w_u32, Int.one_mul]
    have := two_pos b
    omega
  unfold limelightref1_Open
  rw [if_neg (by simp; omega), cv_u64 (a := (b : Int)) (by omega), gd_ok (by omega), e1]
  simp only [Option.bind_some]
  rw [if_neg (by simp; omega), cv_u64 (a := (e : Int)) (by omega), gd_ok (by omega), gd_ok (by omega), cv_u64 (by omega), open_core he (by omega)]
theorem down_le {b : Nat} {n : Int} (hn : 0 ≤ n) : 0 ≤ downR b n ∧ downR b n ≤ n := by
  have hp := two_pos (pe b n)
  unfold downR
  exact ⟨Int.mul_nonneg (Int.ediv_nonneg hn (Int.le_of_lt hp)) (Int.le_of_lt hp), Int.ediv_mul_le _ (by omega)⟩
theorem openR_pe {b : Nat} {n : Int} (hn : 0 ≤ n ∧ n ≤ 18446744073709551615) : openR (pe b n) (n / 2 ^ pe b n) = downR b n := by
  have := down_le (b := b) hn.1
  unfold openR
  rw [if_pos (by unfold downR at this; omega)]
  rfl
theorem rate_Down_eq {n : Int} {b : Nat} (hb : 1 ≤ b ∧ b ≤ 24) (hn : 0 ≤ n ∧ n ≤ 18446744073709551615) : rate_Down n (b : Int) = some (downR b n) := by
  have hle := pe_le (b := b) (by omega) hn
  unfold rate_Down
  rw [rate_Pack_eq hb hn]
  simp only [Option.bind_some]
  rw [rate_Open_eq hb (by omega) ⟨Int.ediv_nonneg hn.1 (Int.le_of_lt (two_pos _)), pe_lt hn⟩, openR_pe hn]
  rfl
theorem ref_Down_eq {n : Int} {b : Nat} (hb : 1 ≤ b ∧ b ≤ 24) (hn : 0 ≤ n ∧ n ≤ 18446744073709551615) : limelightref1_Down n (b : Int) = some (downR b n) := by
  have hle := pe_le (b := b) (by omega) hn
  unfold limelightref1_Down
  rw [ref_Pack_eq hb hn]
  simp only [Option.bind_some]
  rw [ref_Open_eq hb (by omega) ⟨Int.ediv_nonneg hn.1 (Int.le_of_lt (two_pos _)), pe_lt hn⟩, openR_pe hn]
  rfl
theorem down_open {b e : Nat} {m : Int} (hm : 0 ≤ m ∧ m < 2 ^ b) : downR b (m * 2 ^ e) = m * 2 ^ e := by
  have hp := two_pos e
  have hle : pe b (m * 2 ^ e) ≤ e := pe_min (Int.mul_nonneg hm.1 (Int.le_of_lt hp)) (by rw [Int.mul_ediv_cancel _ (by omega)]; exact hm.2)
  unfold downR
  generalize pe b (m * 2 ^ e) = k at hle
  have hk := two_pos k
  have e1 : m * 2 ^ e = m * 2 ^ (e - k) * 2 ^ k := by
    rw [Int.mul_assoc, ← Int.pow_add, show e - k + k = e from by omega]
  rw [e1, Int.mul_ediv_cancel _ (by omega)]
theorem down_most {b : Nat} (hb : b ≤ 24) : downR b 18446744073709551615 ≠ 18446744073709551615 := by
  intro h
  have h0 : pe b 18446744073709551615 ≠ 0 := by
    intro h0
    have := pe_lt (b := b) (n := 18446744073709551615) (by omega)
    rw [h0] at this
    have h24 : (2 : Int) ^ b ≤ 2 ^ 24 := by
      have h2 := Nat.pow_le_pow_right (n := 2) (by decide) hb
      have h3 : ((2 ^ b : Nat) : Int) ≤ ((2 ^ 24 : Nat) : Int) := Int.ofNat_le.2 h2
      simpa using h3
    have e24 : (2 : Int) ^ 24 = 16777216 := rfl
    simp at this
    omega
  unfold downR at h
  obtain ⟨k, hk⟩ := Nat.exists_eq_succ_of_ne_zero h0
  rw [hk, Int.pow_succ, ← Int.mul_assoc] at h
  omega
theorem openR_le {e : Nat} {m : Int} (hm : 0 ≤ m) : 0 ≤ openR e m ∧ openR e m ≤ 18446744073709551615 := by
  have := Int.mul_nonneg hm (Int.le_of_lt (two_pos e))
  unfold openR
  split <;> omega
end Go.Lk
