/- A part of this proof: RtcpBack returns true for every input and leaves its arguments as they were; there are no conditions. -/
import Derived.Test.YtnpgmljphheabaaA10
set_option linter.unusedVariables false
set_option linter.unusedSimpArgs false
namespace Go.Lk
open Go.RowKit
theorem nums64 {l : List Int} (h : (∀ a ∈ l, (Lit.int .i64 a).wf = true) ∧ l.length * 8 ≤ 140737488351232) : (∀ x ∈ l, I64 x) ∧ l.length ≤ 140737488355328 := ⟨fun x hx => wf_i64 (h.1 x hx), by omega⟩
theorem br_RtcpBack (x0 : List Int) (x1 : Int) (y0 : (∀ a ∈ x0, (Lit.int .i64 a).wf = true) ∧ x0.length * 8 ≤ 140737488351232) (y1 : (Lit.int .i64 x1).wf = true) : limelightlaw6_RtcpBack x0 x1 = some true :=
  back_law (nums64 y0).1 (nums64 y0).2 (wf_i64 y1)
end Go.Lk
