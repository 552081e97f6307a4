/- A part of this proof: AlarmOrder returns true for every input and leaves its arguments as they were; there are no conditions. -/
import Derived.Test.YtaclkgdbkejfjaaA8
set_option linter.unusedVariables false
namespace Go.Lk
open Go.RowKit
theorem br_AlarmOrder (x0 : List Int) (x1 : Int) (y0 : (∀ a ∈ x0, (Lit.int .i64 a).wf = true) ∧ x0.length * 8 ≤ 140737488351232) (y1 : (Lit.int .i64 x1).wf = true) : limelightlaw12_AlarmOrder x0 x1 = some true := alarmOrder_eq x0 x1 (by omega)
end Go.Lk
