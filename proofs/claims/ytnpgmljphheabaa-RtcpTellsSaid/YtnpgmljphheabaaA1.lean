/- A part of this proof: RtcpTells returns true for every input and leaves its arguments as they were; there are no conditions. -/
import Derived.Test.YtnpgmljphheabaaN2
set_option linter.unusedVariables false
set_option linter.unusedSimpArgs false
namespace Go.Lk
open Go.RowKit
def be : Nat → Int → List Int
  | 0, _ => []
  | k + 1, n => (n / 256 ^ k) % 256 :: be k n
def val (l : List Int) : Int := l.foldl (fun a b => a * 256 + b) 0
theorem be_length : ∀ (k : Nat) (n : Int), (be k n).length = k
  | 0, _ => rfl
  | k + 1, n => by simp [be, be_length k n]
theorem be_byt : ∀ (k : Nat) (n : Int), Byt (be k n)
  | 0, _ => fun x h => by simp [be] at h
  | k + 1, n => fun x h => by
    simp only [be, List.mem_cons] at h
    rcases h with rfl | h
    · omega
    · exact be_byt k n x h
theorem Byt.nil : Byt [] := fun x h => by simp at h
theorem Byt.cons {x : Int} {l : List Int} (h0 : 0 ≤ x ∧ x ≤ 255) (h : Byt l) : Byt (x :: l) := fun y hy => by
  rcases List.mem_cons.1 hy with rfl | hy
  · exact h0
  · exact h y hy
theorem Byt.app {a b : List Int} (ha : Byt a) (hb : Byt b) : Byt (a ++ b) := fun x h => by
  rcases List.mem_append.1 h with h | h
  · exact ha x h
  · exact hb x h
theorem Byt.left {a b : List Int} (h : Byt (a ++ b)) : Byt a := fun x hx => h x (List.mem_append_left _ hx)
theorem Byt.right {a b : List Int} (h : Byt (a ++ b)) : Byt b := fun x hx => h x (List.mem_append_right _ hx)
theorem Byt.sub {a b : List Int} (hs : ∀ x ∈ a, x ∈ b) (h : Byt b) : Byt a := fun x hx => h x (hs x hx)
theorem Byt.drop {l : List Int} (h : Byt l) (k : Nat) : Byt (l.drop k) := h.sub fun x hx => List.mem_of_mem_drop hx
theorem Byt.take {l : List Int} (h : Byt l) (k : Nat) : Byt (l.take k) := h.sub fun x hx => List.mem_of_mem_take hx
theorem Byt.get {l : List Int} (h : Byt l) {k : Nat} {x : Int} (hx : l[k]? = some x) : 0 ≤ x ∧ x ≤ 255 := h x (List.mem_of_getElem? hx)
theorem val_snoc (l : List Int) (x : Int) : val (l ++ [x]) = val l * 256 + x := by simp [val, List.foldl_append]
theorem pow256_succ (k : Nat) : (256 : Int) ^ (k + 1) = 256 ^ k * 256 := Int.pow_succ 256 k
theorem pow2_8 (k : Nat) : (2 : Int) ^ (8 * k) = 256 ^ k := by rw [Int.pow_mul]; rfl
theorem val_bd : ∀ (k : Nat) {l : List Int}, Byt l → l.length = k → 0 ≤ val l ∧ val l < 256 ^ k := by
  intro k
  induction k with
  | zero => intro l h hl; rw [List.eq_nil_of_length_eq_zero hl]; simp [val]
  | succ k ih =>
    intro l h hl
    have hne : l ≠ [] := fun e => by rw [e] at hl; simp at hl
    obtain ⟨l', x, rfl⟩ : ∃ l' x, l = l' ++ [x] := ⟨l.dropLast, l.getLast hne, (List.dropLast_concat_getLast hne).symm⟩
    have h1 := ih h.left (by simpa using hl)
    have h2 := h x (by simp)
    rw [val_snoc, pow256_succ]
    omega
theorem octet_Put_loop {n : Int} (hn : 0 ≤ n ∧ n ≤ 18446744073709551615) : ∀ (k : Nat) (acc : List Int), k ≤ 8 → acc.length + k ≤ 1000000000 →
    loopF (fun sg => octet_Put_l0 n sg.1 sg.2) (acc, (k : Int) - 1) = some (.brk (acc ++ be k n, -1)) := by
  intro k
  induction k with
  | zero =>
    intro acc _ _
    refine loopF_brk ?_
    simp [octet_Put_l0, be]
  | succ k ih =>
    intro acc hk hl
    have h1 := ih (acc ++ [(n / 256 ^ k) % 256]) (by omega) (by simp; omega)
    rw [loopF_next (s' := (acc ++ [(n / 256 ^ k) % 256], (k : Int) - 1)), h1]
    · simp [be]
    · have e1 : ((k + 1 : Nat) : Int) - 1 = k := by omega
      have e2 : mul .i64 (k : Int) 8 = ((8 * k : Nat) : Int) := by rw [mul_i64 (by omega)]; omega
      have e3 : shr .u64 n (((8 * k : Nat) : Int)) = n / 256 ^ k := by rw [shr_e (8 * k) rfl (by simp [IntKind.bits]; omega), pow2_8]
      simp only [e1, octet_Put_l0, e2, e3, cv_u8m]
      rw [if_pos (by simp), gd_ok (by omega), app_ok (by simp; omega), sub_i64 (by omega)]
      rfl
theorem octet_Put_eq {b : List Int} {n size : Int} (k : Nat) (hs : size = (k : Int)) (h1 : 1 ≤ k) (h8 : k ≤ 8) (hn : 0 ≤ n ∧ n ≤ 18446744073709551615) (hb : b.length ≤ 900000000) : octet_Put b n size = some (b ++ be k n) := by
  subst hs
  have hd : ((decide ((k : Int) < 1)) || (decide (8 < (k : Int)))) = false := by simp; omega
  simp only [octet_Put, slices_Clone_byte, slices_Clip_byte]
  rw [app_ok (by simp; omega)]
  simp only [List.nil_append, Option.bind_some, hd]
  rw [sub_i64 (by omega), octet_Put_loop hn k b h8 (by omega)]
  rfl
theorem ref_Put_loop {n : Int} (hn : 0 ≤ n ∧ n ≤ 18446744073709551615) : ∀ (k : Nat) (acc : List Int), k ≤ 8 → acc.length + k ≤ 1000000000 →
    loopF (fun sg => limelightref1_Put_l0 n sg.1 sg.2) (acc, (k : Int) - 1) = some (.brk (acc ++ be k n, -1)) := by
  intro k
  induction k with
  | zero =>
    intro acc _ _
    refine loopF_brk ?_
    simp [limelightref1_Put_l0, be]
  | succ k ih =>
    intro acc hk hl
    have h1 := ih (acc ++ [(n / 256 ^ k) % 256]) (by omega) (by simp; omega)
    rw [loopF_next (s' := (acc ++ [(n / 256 ^ k) % 256], (k : Int) - 1)), h1]
    · simp [be]
    · have e1 : ((k + 1 : Nat) : Int) - 1 = k := by omega
      have e2 : cv .u64 (mul .i64 8 (k : Int)) = ((8 * k : Nat) : Int) := by rw [mul_i64 (by omega), cv_u64 (by omega)]; omega
      have e3 : shr .u64 n (((8 * k : Nat) : Int)) = n / 256 ^ k := by rw [shr_e (8 * k) rfl (by simp [IntKind.bits]; omega), pow2_8]
      simp only [e1, limelightref1_Put_l0, e2, e3, cv_u8m]
      rw [if_pos (by simp), gd_ok (by omega), app_ok (by simp; omega), sub_i64 (by omega)]
      rfl
theorem ref_Put_eq {b : List Int} {n size : Int} (k : Nat) (hs : size = (k : Int)) (h1 : 1 ≤ k) (h8 : k ≤ 8) (hn : 0 ≤ n ∧ n ≤ 18446744073709551615) (hb : b.length ≤ 900000000) : limelightref1_Put b n size = some (b ++ be k n) := by
  subst hs
  have hd : ((decide ((k : Int) < 1)) || (decide (8 < (k : Int)))) = false := by simp; omega
  simp only [limelightref1_Put]
  rw [app_ok (by simp; omega)]
  simp only [List.nil_append, Option.bind_some, hd]
  rw [sub_i64 (by omega)]
  simp only [Bool.false_eq_true, if_false]
  rw [ref_Put_loop hn k b h8 (by omega)]
  rfl
theorem octet_Cut_eq {b : List Int} {at_ n : Int} (hb : b.length ≤ 140737488355328) (ha : -9223372036854775808 ≤ at_ ∧ at_ ≤ 9223372036854775807) (hn : -9223372036854775808 ≤ n ∧ n ≤ 9223372036854775807) :
    octet_Cut b at_ n = some (if 0 ≤ at_ ∧ 0 ≤ n ∧ at_ + n ≤ (b.length : Int) then ((b.drop at_.toNat).take n.toNat, true) else ([], false)) := by
  unfold octet_Cut
  by_cases h : 0 ≤ at_ ∧ 0 ≤ n ∧ at_ + n ≤ (b.length : Int)
  · rw [if_pos h]
    obtain ⟨h1, h2, h3⟩ := h
    obtain ⟨i, rfl⟩ := Int.eq_ofNat_of_zero_le h1
    obtain ⟨m, rfl⟩ := Int.eq_ofNat_of_zero_le h2
    have hc : ((((decide ((i : Int) < 0)) || (decide ((m : Int) < 0))) || (decide ((b.length : Int) < (i : Int)))) || (decide ((sub .i64 (b.length : Int) (i : Int)) < (m : Int)))) = false := by
      rw [sub_i64 (by omega)]; simp; omega
    rw [if_neg (by rw [hc]; simp), add_i64 (by omega), cutL_ok rfl (j := i + m) (by simp) (by omega) (by omega)]
    simp only [Option.bind_some, slices_Clone_byte]
    rw [app_ok (by simp; omega)]
    simp
  · rw [if_neg h]
    have hc : ((((decide (at_ < 0)) || (decide (n < 0))) || (decide ((b.length : Int) < at_))) || (decide ((sub .i64 (b.length : Int) at_) < n))) = true := by
      by_cases h1 : at_ < 0
      · simp [h1]
      · by_cases h2 : n < 0
        · simp [h2]
        · rw [sub_i64 (by omega)]; simp; omega
    rw [if_pos hc]
theorem ref_Cut_eq {b : List Int} {at_ n : Int} (hb : b.length ≤ 140737488355328) (ha : -9223372036854775808 ≤ at_ ∧ at_ ≤ 9223372036854775807) (hn : -9223372036854775808 ≤ n ∧ n ≤ 9223372036854775807) :
    limelightref1_Cut b at_ n = some (if 0 ≤ at_ ∧ 0 ≤ n ∧ at_ + n ≤ (b.length : Int) then ((b.drop at_.toNat).take n.toNat, true) else ([], false)) := by
  unfold limelightref1_Cut
  by_cases h : 0 ≤ at_ ∧ 0 ≤ n ∧ at_ + n ≤ (b.length : Int)
  · rw [if_pos h]
    obtain ⟨h1, h2, h3⟩ := h
    obtain ⟨i, rfl⟩ := Int.eq_ofNat_of_zero_le h1
    obtain ⟨m, rfl⟩ := Int.eq_ofNat_of_zero_le h2
    have hc : ((((decide ((i : Int) < 0)) || (decide ((m : Int) < 0))) || (decide ((b.length : Int) < (i : Int)))) || (decide ((sub .i64 (b.length : Int) (i : Int)) < (m : Int)))) = false := by
      rw [sub_i64 (by omega)]; simp; omega
    rw [if_neg (by rw [hc]; simp), add_i64 (by omega), cutL_ok rfl (j := i + m) (by simp) (by omega) (by omega)]
    simp only [Option.bind_some]
    rw [app_ok (by simp; omega)]
    simp
  · rw [if_neg h]
    have hc : ((((decide (at_ < 0)) || (decide (n < 0))) || (decide ((b.length : Int) < at_))) || (decide ((sub .i64 (b.length : Int) at_) < n))) = true := by
      by_cases h1 : at_ < 0
      · simp [h1]
      · by_cases h2 : n < 0
        · simp [h2]
        · rw [sub_i64 (by omega)]; simp; omega
    rw [if_pos hc]
theorem shl8_or {v x : Int} (hv : 0 ≤ v ∧ v < 256 ^ 7) (hx : 0 ≤ x ∧ x ≤ 255) : bor .u64 (shl .u64 v 8) (cv .u64 x) = v * 256 + x := by
  have e1 : shl .u64 v 8 = v * 256 := by
    rw [shl_e (n := 8) 8 rfl (by decide), w_u64]
    have : (2 : Int) ^ 8 = 256 := rfl
    have : (256 : Int) ^ 7 = 72057594037927936 := rfl
    omega
  have : (256 : Int) ^ 7 = 72057594037927936 := rfl
  rw [e1, cv_u64 (by omega), bor_low 8 (by omega) (by omega) (by omega) (by omega) (by simp [IntKind.bits]; omega), w_u64]
  omega
theorem pow256_le7 {k : Nat} (h : k ≤ 7) : (256 : Int) ^ k ≤ 256 ^ 7 := by
  have h2 := Nat.pow_le_pow_right (n := 256) (by decide) h
  have h3 : ((256 ^ k : Nat) : Int) ≤ ((256 ^ 7 : Nat) : Int) := Int.ofNat_le.2 h2
  simpa using h3
theorem octet_Get_eq {b : List Int} {at_ size : Int} (hB : Byt b) (hb : b.length ≤ 140737488355328) (ha : -9223372036854775808 ≤ at_ ∧ at_ ≤ 9223372036854775807) (hs : 1 ≤ size ∧ size ≤ 8) :
    octet_Get b at_ size = some (if 0 ≤ at_ ∧ at_ + size ≤ (b.length : Int) then (val ((b.drop at_.toNat).take size.toNat), true) else (0, false)) := by
  unfold octet_Get
  rw [octet_Cut_eq hb ha (by omega)]
  simp only [Option.bind_some]
  by_cases h : 0 ≤ at_ ∧ at_ + size ≤ (b.length : Int)
  · have h2 : 0 ≤ at_ ∧ 0 ≤ size ∧ at_ + size ≤ (b.length : Int) := ⟨h.1, by omega, h.2⟩
    rw [if_pos h, if_pos h2]
    clear h2
    obtain ⟨i, rfl⟩ := Int.eq_ofNat_of_zero_le h.1
    obtain ⟨m, rfl⟩ := Int.eq_ofNat_of_zero_le (show 0 ≤ size by omega)
    simp only [Int.ofNat_eq_natCast, Int.toNat_natCast] at *
    generalize hl : (b.drop i).take m = l
    have hlen : l.length = m := by rw [← hl]; simp; omega
    have hlB : Byt l := by rw [← hl]; exact (hB.drop _).take _
    have hc : (((!true) || (decide ((m : Int) < 1))) || (decide (8 < (m : Int)))) = false := by simp; omega
    rw [if_neg (by rw [hc]; simp), loopF_up (fun k => (val (l.take k), (k : Int))) m (s0 := (0, 0)) (s' := (val l, (m : Int))) rfl]
    · rfl
    · intro k hk
      obtain ⟨x, hx⟩ := get_some (l := l) (k := k) (by omega)
      have hv := val_bd k (hlB.take k) (by simp; omega)
      have := pow256_le7 (k := k) (by omega)
      simp only [octet_Get_l0, hlen]
      rw [if_pos (by simpa using hk), ix_nat, hx]
      simp only [Option.bind_some]
      rw [shl8_or ⟨hv.1, by omega⟩ (hlB.get hx), add_i64 (by omega), snoc_take hx, val_snoc]
      simp
    · simp only [octet_Get_l0, hlen]
      rw [if_neg (by simp), List.take_of_length_le (by omega)]
  · have h2 : ¬ (0 ≤ at_ ∧ 0 ≤ size ∧ at_ + size ≤ (b.length : Int)) := fun h2 => h ⟨h2.1, h2.2.2⟩
    rw [if_neg h, if_neg h2]
    rfl
theorem ref_Get_eq {b : List Int} {at_ size : Int} (hB : Byt b) (hb : b.length ≤ 140737488355328) (ha : -9223372036854775808 ≤ at_ ∧ at_ ≤ 9223372036854775807) (hs : 1 ≤ size ∧ size ≤ 8) :
    limelightref1_Get b at_ size = some (if 0 ≤ at_ ∧ at_ + size ≤ (b.length : Int) then (val ((b.drop at_.toNat).take size.toNat), true) else (0, false)) := by
  unfold limelightref1_Get
  by_cases h : 0 ≤ at_ ∧ at_ + size ≤ (b.length : Int)
  · rw [if_pos h]
    obtain ⟨i, rfl⟩ := Int.eq_ofNat_of_zero_le h.1
    obtain ⟨m, rfl⟩ := Int.eq_ofNat_of_zero_le (show 0 ≤ size by omega)
    simp only [Int.ofNat_eq_natCast, Int.toNat_natCast] at *
    generalize hl : (b.drop i).take m = l
    have hlen : l.length = m := by rw [← hl]; simp; omega
    have hlB : Byt l := by rw [← hl]; exact (hB.drop _).take _
    have hc : (((((decide ((m : Int) < 1)) || (decide (8 < (m : Int)))) || (decide ((i : Int) < 0))) || (decide ((b.length : Int) < (i : Int)))) || (decide ((sub .i64 (b.length : Int) (i : Int)) < (m : Int)))) = false := by
      rw [sub_i64 (by omega)]; simp; omega
    rw [if_neg (by rw [hc]; simp), loopF_up (fun k => (val (l.take k), (k : Int))) m (s0 := (0, 0)) (s' := (val l, (m : Int))) rfl]
    · rfl
    · intro k hk
      obtain ⟨x, hx⟩ := get_some (l := l) (k := k) (by omega)
      have hbx : b[i + k]? = some x := by
        rw [← hl, List.getElem?_take, if_pos hk, List.getElem?_drop] at hx; exact hx
      have hv := val_bd k (hlB.take k) (by simp; omega)
      have := pow256_le7 (k := k) (by omega)
      simp only [limelightref1_Get_l0]
      rw [if_pos (by simpa using hk), add_i64 (by omega), ix_at (k := i + k) (by simp) hbx]
      simp only [Option.bind_some]
      rw [shl8_or ⟨hv.1, by omega⟩ (hlB.get hx), add_i64 (by omega), snoc_take hx, val_snoc]
      simp
    · simp only [limelightref1_Get_l0]
      rw [if_neg (by simp), List.take_of_length_le (by omega)]
  · rw [if_neg h]
    have hc : (((((decide (size < 1)) || (decide (8 < size))) || (decide (at_ < 0))) || (decide ((b.length : Int) < at_))) || (decide ((sub .i64 (b.length : Int) at_) < size))) = true := by
      by_cases h1 : at_ < 0
      · simp [h1]
      · rw [sub_i64 (by omega)]; simp; omega
    rw [if_pos hc]
end Go.Lk
