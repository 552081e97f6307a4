/- A part of this proof: RtcpBack returns true for every input and leaves its arguments as they were; there are no conditions. -/
import Derived.Test.YtnpgmljphheabaaA5
set_option linter.unusedVariables false
set_option linter.unusedSimpArgs false
namespace Go.Lk
open Go.RowKit
def refR (t c : Int) (ws : List Int) : api_Report :=
  if kindOf t c = 6 then ⟨6, 0, 0, [], [], [], 0, t, c, wds ws⟩
  else if kindOf t c = 1 ∨ kindOf t c = 2 then ⟨kindOf t c, wat ws 0, 0, tups (ws.drop 2), [], [], 0, 0, 0, []⟩
  else if kindOf t c = 3 then ⟨3, wat ws 0, wat ws 1, [], [], [], 0, 0, 0, []⟩
  else if kindOf t c = 4 then ⟨4, wat ws 0, 0, [], firA (ws.drop 2), firN (ws.drop 2), 0, 0, 0, []⟩
  else ⟨5, wat ws 0, 0, [], ws.drop 4, [], openR (wat ws 3 / 262144 % 64).toNat (wat ws 3 % 262144), 0, 0, []⟩
def sht : List Int → List Int
  | o :: n :: r => o :: tupN (tupOf o n) :: sht r
  | l => l
def shortS (t c : Int) (ws : List Int) : List Int :=
  if kindOf t c = 1 ∨ kindOf t c = 2 then ws.take 2 ++ sht (ws.drop 2)
  else if kindOf t c = 5 ∧ 4 ≤ ws.length then ws.set 3 (wat ws 3 / 16777216 * 16777216 + rateN (openR (wat ws 3 / 262144 % 64).toNat (wat ws 3 % 262144)))
  else ws
theorem W32.drop {ws : List Int} (h : W32 ws) (k : Nat) : W32 (ws.drop k) := fun n hn => h n (List.mem_of_mem_drop hn)
theorem W32_cons {a : Int} {l : List Int} (ha : U32 a) (hl : W32 l) : W32 (a :: l) := fun n hn => by
  rcases List.mem_cons.1 hn with rfl | hn
  · exact ha
  · exact hl n hn
theorem W32_flat {α : Type} {f : α → List Int} {l : List α} (h : ∀ a ∈ l, W32 (f a)) : W32 (l.flatMap f) := fun n hn => by
  obtain ⟨a, ha, hn⟩ := List.mem_flatMap.1 hn
  exact h a ha n hn
theorem rateN_bd {n : Int} (h : U64 n) : 0 ≤ rateN n ∧ rateN n < 16777216 := by
  have := pe18 h
  unfold rateN
  omega
theorem bodyW_32 {r : api_Report} (hr : WR r) (h : rightE r = 0) : W32 (bodyW r) := by
  obtain ⟨hk, hv, _⟩ := right_val h
  have z32 : U32 0 := by unfold U32; omega
  have nil : W32 [] := fun n h => by simp at h
  unfold bodyW
  by_cases h12 : r.Kind = 1 ∨ r.Kind = 2
  · rw [if_pos h12]
    have hv := val12 hv h12
    exact W32_cons hr.from_ (W32_cons z32 (W32_flat fun t ht => W32_cons (hr.tuples t ht).1 (W32_cons (tupN_bd (hr.tuples t ht) (hv.2 t ht).1) nil)))
  · rw [if_neg h12]
    by_cases h3 : r.Kind = 3
    · rw [if_pos h3]; exact W32_cons hr.from_ (W32_cons hr.about nil)
    · rw [if_neg h3]
      by_cases h4 : r.Kind = 4
      · rw [if_pos h4]
        have hv := val4 hv h4
        refine W32_cons hr.from_ (W32_cons z32 (W32_flat fun p hp => ?_))
        have h1 := List.of_mem_zip (show (p.1, p.2) ∈ r.Abouts.zip r.Numbers from hp)
        have h2 := hv.2.2.2 _ h1.2
        exact W32_cons (hr.abouts _ h1.1) (W32_cons (by unfold U32; omega) nil)
      · rw [if_neg h4]
        by_cases h5 : r.Kind = 5
        · rw [if_pos h5]
          have hv := val5 hv h5
          have := rateN_bd hr.rate
          exact W32_cons hr.from_ (W32_cons z32 (W32_cons (by unfold U32; omega) (W32_cons (by unfold U32; omega) hr.abouts)))
        · rw [if_neg h5]; exact nil
def Taken (t c : Int) (ws : List Int) : Prop := rightE (refR t c ws) = 0 ∧ enc (refR t c ws) = (128 + c) :: t :: (be 2 (ws.length : Int) ++ wds (shortS t c ws))
theorem right_of {r : api_Report} (hk : 1 ≤ r.Kind ∧ r.Kind ≤ 6) (hf : fldB r = true) : rightE r = 0 ↔ valB r = true := by
  unfold rightE
  rw [if_neg (by omega), hf]
  cases valB r <;> simp
theorem parse12 {t c : Int} (ws : List Int) (h12 : kindOf t c = 1 ∨ kindOf t c = 2) : parseS t c ws = match ws with | f :: z :: r => if z = 0 ∧ evt r = true ∧ (tups r).length ≤ 6 then some ⟨kindOf t c, f, 0, tups r, [], [], 0, 0, 0, []⟩ else none | _ => none := by
  unfold parseS; rw [if_neg (by omega), if_pos h12]
  rfl
theorem parse3 {t c : Int} (ws : List Int) (h3 : kindOf t c = 3) : parseS t c ws = match ws with | [f, a] => some ⟨3, f, a, [], [], [], 0, 0, 0, []⟩ | _ => none := by
  unfold parseS; rw [if_neg (by omega), if_neg (by omega), if_pos h3]
  rfl
theorem parse4 {t c : Int} (ws : List Int) (h4 : kindOf t c = 4) : parseS t c ws = match ws with | f :: z :: r => if z = 0 ∧ evf r = true ∧ 1 ≤ (firA r).length ∧ (firA r).length ≤ 16 then some ⟨4, f, 0, [], firA r, firN r, 0, 0, 0, []⟩ else none | _ => none := by
  unfold parseS; rw [if_neg (by omega), if_neg (by omega), if_neg (by omega), if_pos h4]
  rfl
theorem parse5 {t c : Int} (ws : List Int) (h5 : kindOf t c = 5) : parseS t c ws = match ws with | f :: z :: m :: n :: r => if z = 0 ∧ m = 1380273474 ∧ n / 16777216 = r.length ∧ r.length ≤ 16 ∧ sat (n / 262144 % 64).toNat (n % 262144) = false then some ⟨5, f, 0, [], r, [], openR (n / 262144 % 64).toNat (n % 262144), 0, 0, []⟩ else none | _ => none := by
  unfold parseS; rw [if_neg (by omega), if_neg (by omega), if_neg (by omega), if_neg (by omega)]
  rfl
end Go.Lk
