/- A part of this proof: RtcpTells returns true for every input and leaves its arguments as they were; there are no conditions. -/
import Derived.Test.YtnpgmljphheabaaA8
set_option linter.unusedVariables false
set_option linter.unusedSimpArgs false
namespace Go.Lk
open Go.RowKit
theorem firstE_zero {l : List api_Report} (h : ∀ r ∈ l, rightE r = 0) : firstE l = 0 := by
  have := first_find l
  have h2 : (l.any fun r => decide (rightE r ≠ 0)) = false := by
    rw [List.any_eq_false]
    intro r hr
    simp [h r hr]
  rw [h2] at this
  simpa using this.symm
theorem bytesS_encs {l : List api_Report} (h : ∀ r ∈ l, rightE r = 0) (hl : (l.flatMap enc).length ≤ 1500) (h0 : l ≠ []) : bytesS l = (l.flatMap enc, 0) := by
  unfold bytesS
  rw [if_neg h0, if_neg (by simp [firstE_zero h]), if_neg (by omega)]
end Go.Lk
