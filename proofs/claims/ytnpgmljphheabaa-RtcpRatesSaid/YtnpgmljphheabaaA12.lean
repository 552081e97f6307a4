/- A part of this proof: RtcpRates returns true for every input and leaves its arguments as they were; there are no conditions. -/
import Derived.Test.YtnpgmljphheabaaA10
set_option linter.unusedVariables false
set_option linter.unusedSimpArgs false
namespace Go.Lk
open Go.RowKit
theorem br_RtcpRates (x0 x1 x2 : Int) (y0 : (Lit.int .u32 x0).wf = true) (y1 : (Lit.int .i64 x1).wf = true) (y2 : (Lit.int .u8 x2).wf = true) : limelightlaw6_RtcpRates x0 x1 x2 = some true :=
  rates_law (wf_u32 y0) (wf_i64 y1) (wf_u8 y2)
end Go.Lk
