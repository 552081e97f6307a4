/- A part of this proof: RtcpRates returns true for every input and leaves its arguments as they were; there are no conditions. -/
import Derived.Test.YtnpgmljphheabaaA8
set_option linter.unusedVariables false
set_option linter.unusedSimpArgs false
namespace Go.Lk
open Go.RowKit
theorem band_i64 {m : Int} {e : Nat} (he : e ≤ 1152921504606846975) : 0 ≤ band .i64 m (e : Int) ∧ band .i64 m (e : Int) ≤ e := by
  unfold band
  have h3 : (BitVec.ofInt IntKind.i64.bits (e : Int)).toNat = e := by rw [ofInt_toNat (by omega) (by simp [IntKind.bits]; omega)]; simp
  have h := Nat.and_le_right (n := (BitVec.ofInt IntKind.i64.bits m).toNat) (m := e)
  rw [BitVec.toNat_and, h3, IntWalk.i64_in _ (by omega)]
  omega
theorem rates_law {G o p : Int} (hG : U32 G) (ho : I64 o) (hp : 0 ≤ p ∧ p ≤ 255) : limelightlaw6_RtcpRates G o p = some true := by
  unfold limelightlaw6_RtcpRates
  have he := band_i64 (m := o) (e := 31) (by omega)
  rw [show ((31 : Nat) : Int) = 31 from rfl] at he
  generalize band .i64 o 31 = e at he
  have hm : band .u32 G 1023 = G % 1024 := by
    have : (2 : Int) ^ 10 = 1024 := rfl
    unfold U32 at hG
    rw [band_low (n := 1023) 10 rfl hG.1 (by simp [IntKind.bits]; omega) (by decide), w_u32]
    omega
  rw [hm]
  have hm2 : 0 ≤ G % 1024 ∧ G % 1024 ≤ 1023 := by omega
  generalize G % 1024 = m at hm2
  have hk : band .u8 p 7 = p % 8 := by
    have : (2 : Int) ^ 3 = 8 := rfl
    rw [band_low (n := 7) 3 rfl hp.1 (by simp [IntKind.bits]; omega) (by decide), w_u8]
    omega
  rw [hk]
  have hk2 : 0 ≤ p % 8 ∧ p % 8 ≤ 7 := by omega
  generalize p % 8 = k at hk2
  obtain ⟨E, rfl⟩ := Int.eq_ofNat_of_zero_le he.1
  obtain ⟨K, rfl⟩ := Int.eq_ofNat_of_zero_le hk2.1
  have hopen : limelightref1_Open (E : Int) m 18 = some (openR E m) := ref_Open_eq (b := 18) (by decide) (by omega) ⟨by omega, by have : (2 : Int) ^ 18 = 262144 := rfl; omega⟩
  rw [hopen]
  simp only [Option.bind_some, apz]
  rw [if_pos (by decide)]
  simp only [Option.bind_some]
  rw [cv_u64 (a := (K : Int)) (by omega), cv_u64 (a := (E : Int)) (by omega)]
  have hword : ∃ (E' : Nat) (M : Int), ((if (decide ((K : Int) ≤ (E : Int))) = true then gd ((0 : Int) ≤ (K : Int)) (some (bor .u32 (shl .u32 (cv .u32 (sub .i64 (E : Int) (cv .i64 (K : Int)))) 18) (shl .u32 m (K : Int)))) else some (bor .u32 (shl .u32 (cv .u32 (E : Int)) 18) m)) : Option Int) = some ((E' : Int) * 262144 + M) ∧
      E' ≤ 31 ∧ (0 ≤ M ∧ M < 262144) ∧ openR E' M = openR E m := by
    by_cases hc : K ≤ E
    · have hp7 : (2 : Int) ^ K ≤ 128 := by
        have h2 := Nat.pow_le_pow_right (n := 2) (by decide) (show K ≤ 7 by omega)
        have h3 : ((2 ^ K : Nat) : Int) ≤ ((2 ^ 7 : Nat) : Int) := Int.ofNat_le.2 h2
        simpa using h3
      have hpos := two_pos K
      have hM1 : m * 2 ^ K ≤ 1023 * 128 := Int.le_trans (Int.mul_le_mul_of_nonneg_right hm2.2 (Int.le_of_lt hpos)) (Int.mul_le_mul_of_nonneg_left hp7 (by omega))
      have hM0 : 0 ≤ m * 2 ^ K := Int.mul_nonneg hm2.1 (Int.le_of_lt hpos)
      refine ⟨E - K, m * 2 ^ K, ?_, by omega, by omega, ?_⟩
      · rw [if_pos (by simpa using hc), gd_ok (by omega), cv_i64 (by omega), sub_i64 (by omega), cv_u32 (by omega), shlL (k := .u32) (n := 18) 18 rfl (by decide) 262144 rfl (by rw [w_u32]; omega), shl_e K rfl (by simp [IntKind.bits]; omega), w_u32, Int.emod_eq_of_lt hM0 (by omega),
          borL (k := .u32) 18 262144 rfl (by omega) (by omega) (by omega) (by omega) (by simp [IntKind.bits]; omega) (by rw [w_u32]; omega)]
        congr 2
        omega
      · unfold openR
        rw [Int.mul_assoc, ← Int.pow_add, show K + (E - K) = E from by omega]
    · refine ⟨E, m, ?_, by omega, by omega, rfl⟩
      rw [if_neg (by simpa using hc), cv_u32 (by omega), shlL (k := .u32) (n := 18) 18 rfl (by decide) 262144 rfl (by rw [w_u32]; omega),
        borL (k := .u32) 18 262144 rfl (by omega) (by omega) (by omega) (by omega) (by simp [IntKind.bits]; omega) (by rw [w_u32]; omega)]
  obtain ⟨E', M, hw, hE, hM, hop⟩ := hword
  rw [hw]
  simp only [Option.bind_some]
  rw [app_ok (by simp)]
  simp only [Option.bind_some]
  rw [app_ok (by simp)]
  simp only [Option.bind_some]
  generalize hW : (E' : Int) * 262144 + M = W at *
  have hWb : 0 ≤ W ∧ W < 8388608 := by omega
  have hbytes : [cv .u8 (shr .u32 W 24), cv .u8 (shr .u32 W 16), cv .u8 (shr .u32 W 8), cv .u8 W] = be 4 W := by
    have e24 : (2 : Int) ^ 24 = 16777216 := rfl
    have e16 : (2 : Int) ^ 16 = 65536 := rfl
    have e8 : (2 : Int) ^ 8 = 256 := rfl
    rw [shr_e (n := 24) 24 rfl (by decide), shr_e (n := 16) 16 rfl (by decide), shr_e (n := 8) 8 rfl (by decide), cv_u8m, cv_u8m, cv_u8m, cv_u8m, e24, e16, e8]
    simp [be]
  have hb : ([143, 206, 0, 4] ++ List.replicate (8 : Int).toNat 0 ++ [82, 69, 77, 66] ++ [cv .u8 (shr .u32 W 24), cv .u8 (shr .u32 W 16), cv .u8 (shr .u32 W 8), cv .u8 W] : List Int) = 143 :: 206 :: 0 :: 4 :: wds [0, 0, 1380273474, W] := by
    rw [hbytes]
    have : be 4 0 = [0, 0, 0, 0] := by decide
    simp [wds, this, remb4]
  rw [hb]
  have hB : Byt (143 :: 206 :: 0 :: 4 :: wds [0, 0, 1380273474, W]) := Byt.cons (by omega) (Byt.cons (by omega) (Byt.cons (by omega) (Byt.cons (by omega) (wds_byt _))))
  have h32 : W32 [0, 0, 1380273474, W] := W32_cons (by unfold U32; omega) (W32_cons (by unfold U32; omega) (W32_cons (by unfold U32; omega) (W32_cons (by unfold U32; omega) (fun n h => by simp at h))))
  have hl : (wds [0, 0, 1380273474, W]).length = 16 := by rw [wds_length]; rfl
  have hone : oneS (143 :: 206 :: 0 :: 4 :: wds [0, 0, 1380273474, W]) = (⟨5, 0, 0, [], [], [], openR E m, 0, 0, []⟩, 20, 0) := by
    unfold oneS
    dsimp only
    have hn : (0 * 256 + 4 : Int).toNat = 4 := rfl
    rw [hn, if_neg (by omega), if_neg (by decide), List.take_of_length_le (by omega), unw_wds h32, parse5 _ (by decide)]
    dsimp only
    have d1 : W / 262144 % 64 = (E' : Int) := by omega
    have d2 : W % 262144 = M := by omega
    have hs : sat E' M = false := by
      unfold sat
      have hp31 : (2 : Int) ^ E' ≤ 2147483648 := by
        have h2 := Nat.pow_le_pow_right (n := 2) (by decide) hE
        have h3 : ((2 ^ E' : Nat) : Int) ≤ ((2 ^ 31 : Nat) : Int) := Int.ofNat_le.2 h2
        simpa using h3
      have h4 : M * 2 ^ E' ≤ 262144 * 2147483648 := Int.le_trans (Int.mul_le_mul_of_nonneg_right (show M ≤ 262144 by omega) (Int.le_of_lt (two_pos E'))) (Int.mul_le_mul_of_nonneg_left hp31 (by omega))
      exact decide_eq_false (by omega)
    rw [d1, d2, Int.toNat_natCast, hs, if_pos ⟨rfl, rfl, by simp; omega, by simp, rfl⟩, hop]
  have hrd : readS (143 :: 206 :: 0 :: 4 :: wds [0, 0, 1380273474, W]) = ([⟨5, 0, 0, [], [], [], openR E m, 0, 0, []⟩], 0) := by
    have hlen : (143 :: 206 :: 0 :: 4 :: wds [0, 0, 1380273474, W]).length = 18 + 1 + 1 := by simp [hl]
    unfold readS
    rw [if_neg (by omega), if_neg (by omega), hlen]
    unfold readF
    rw [if_neg (by simp), hone, if_neg (by simp)]
    simp only
    have hdrop : (143 :: 206 :: 0 :: 4 :: wds [0, 0, 1380273474, W]).drop 20 = [] := List.drop_eq_nil_of_le (by omega)
    rw [hdrop]
    unfold readF
    rw [if_pos rfl]
    rfl
  rw [rtcp_Read_eq hB, hrd]
  simp only [Option.bind_some]
  have i0 : ix [(⟨5, 0, 0, [], [], [], openR E m, 0, 0, []⟩ : api_Report)] 0 = some ⟨5, 0, 0, [], [], [], openR E m, 0, 0, []⟩ := rfl
  rw [if_pos (by simp), i0]
  simp only [Option.bind_some, beq_self_eq_true, if_true]
  rw [if_pos (by simp), known_true]
  rfl
end Go.Lk
