/- A part of this proof: RtcpNumbers returns true for every input and leaves its arguments as they were; there are no conditions. -/
import Derived.Test.YtnpgmljphheabaaA9
set_option linter.unusedVariables false
set_option linter.unusedSimpArgs false
namespace Go.Lk
open Go.RowKit
theorem TOK_start {L : List Int} (h : ∀ x ∈ L, I64 x) (hl : L.length ≤ 140737488355328) : TOK ⟨L, 0⟩ := ⟨h, hl, by simp, by simp⟩
theorem bxor_u8 (m n : Int) : 0 ≤ bxor .u8 m n ∧ bxor .u8 m n ≤ 255 := u8_bd _
theorem cv8_bd (n : Int) : 0 ≤ cv .u8 n ∧ cv .u8 n ≤ 255 := u8_bd n
theorem set_byt {l : List Int} (h : Byt l) (k : Nat) {v : Int} (hv : 0 ≤ v ∧ v ≤ 255) : Byt (l.set k v) := fun x hx => by
  rcases List.mem_or_eq_of_mem_set hx with h1 | h1
  · exact h x h1
  · subst h1; exact hv
theorem enc2 (a b : api_Report) : [a, b].flatMap enc = enc a ++ enc b := by simp
end Go.Lk
