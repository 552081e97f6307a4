/- A part of this proof: RtcpRates returns true for every input and leaves its arguments as they were; there are no conditions. -/
import Derived.Test.YtnpgmljphheabaaA5
set_option linter.unusedVariables false
set_option linter.unusedSimpArgs false
namespace Go.Lk
open Go.RowKit
def refR (t c : Int) (ws : List Int) : api_Report :=
  if kindOf t c = 6 then ⟨6, 0, 0, [], [], [], 0, t, c, wds ws⟩
  else if kindOf t c = 1 ∨ kindOf t c = 2 then ⟨kindOf t c, wat ws 0, 0, tups (ws.drop 2), [], [], 0, 0, 0, []⟩
  else if kindOf t c = 3 then ⟨3, wat ws 0, wat ws 1, [], [], [], 0, 0, 0, []⟩
  else if kindOf t c = 4 then ⟨4, wat ws 0, 0, [], firA (ws.drop 2), firN (ws.drop 2), 0, 0, 0, []⟩
  else ⟨5, wat ws 0, 0, [], ws.drop 4, [], openR (wat ws 3 / 262144 % 64).toNat (wat ws 3 % 262144), 0, 0, []⟩
def sht : List Int → List Int
  | o :: n :: r => o :: tupN (tupOf o n) :: sht r
  | l => l
def shortS (t c : Int) (ws : List Int) : List Int :=
  if kindOf t c = 1 ∨ kindOf t c = 2 then ws.take 2 ++ sht (ws.drop 2)
  else if kindOf t c = 5 ∧ 4 ≤ ws.length then ws.set 3 (wat ws 3 / 16777216 * 16777216 + rateN (openR (wat ws 3 / 262144 % 64).toNat (wat ws 3 % 262144)))
  else ws
theorem W32.drop {ws : List Int} (h : W32 ws) (k : Nat) : W32 (ws.drop k) := fun n hn => h n (List.mem_of_mem_drop hn)
theorem W32_cons {a : Int} {l : List Int} (ha : U32 a) (hl : W32 l) : W32 (a :: l) := fun n hn => by
  rcases List.mem_cons.1 hn with rfl | hn
  · exact ha
  · exact hl n hn
def Taken (t c : Int) (ws : List Int) : Prop := rightE (refR t c ws) = 0 ∧ enc (refR t c ws) = (128 + c) :: t :: (be 2 (ws.length : Int) ++ wds (shortS t c ws))
theorem parse5 {t c : Int} (ws : List Int) (h5 : kindOf t c = 5) : parseS t c ws = match ws with | f :: z :: m :: n :: r => if z = 0 ∧ m = 1380273474 ∧ n / 16777216 = r.length ∧ r.length ≤ 16 ∧ sat (n / 262144 % 64).toNat (n % 262144) = false then some ⟨5, f, 0, [], r, [], openR (n / 262144 % 64).toNat (n % 262144), 0, 0, []⟩ else none | _ => none := by
  unfold parseS; rw [if_neg (by omega), if_neg (by omega), if_neg (by omega), if_neg (by omega)]
  rfl
end Go.Lk
