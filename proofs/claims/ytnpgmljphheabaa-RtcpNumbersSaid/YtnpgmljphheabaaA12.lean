/- A part of this proof: RtcpNumbers returns true for every input and leaves its arguments as they were; there are no conditions. -/
import Derived.Test.YtnpgmljphheabaaA11
set_option linter.unusedVariables false
set_option linter.unusedSimpArgs false
namespace Go.Lk
open Go.RowKit
theorem br_RtcpNumbers : limelightlaw6_RtcpNumbers = some true := numbers_law
end Go.Lk
