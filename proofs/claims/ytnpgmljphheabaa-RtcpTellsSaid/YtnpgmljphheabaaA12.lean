/- A part of this proof: RtcpTells returns true for every input and leaves its arguments as they were; there are no conditions. -/
import Derived.Test.YtnpgmljphheabaaO
set_option linter.unusedVariables false
set_option linter.unusedSimpArgs false
namespace Go.Lk
open Go.RowKit
theorem nums64 {l : List Int} (h : (∀ a ∈ l, (Lit.int .i64 a).wf = true) ∧ l.length * 8 ≤ 140737488351232) : (∀ x ∈ l, I64 x) ∧ l.length ≤ 140737488355328 := ⟨fun x hx => wf_i64 (h.1 x hx), by omega⟩
theorem br_RtcpTells (x0 : List Int) (x1 x2 : Int) (x3 : api_Report) (x4 : List Int) (x5 x6 : Int) (y0 : (∀ a ∈ x0, (Lit.int .i64 a).wf = true) ∧ x0.length * 8 ≤ 140737488351232) (y1 : (Lit.int .i64 x1).wf = true) (y2 : (Lit.int .i64 x2).wf = true) (y3 : Q33 x3)
    (y4 : (∀ a ∈ x4, (Lit.int .u8 a).wf = true) ∧ x4.length * 1 ≤ 140737488351232) (y5 : (Lit.int .i64 x5).wf = true) (y6 : (Lit.int .u8 x6).wf = true) : limelightlaw6_RtcpTells x0 x1 x2 x3 x4 x5 x6 = some true := by
  obtain ⟨q1, q2, q3, q4, q5, q6, q7, q8, q9, q10⟩ := y3
  refine tells_law (nums64 y0).1 (nums64 y0).2 (wf_i64 y1) (wf_i64 y2) ⟨wf_i64 q1, wf_u32 q2, wf_u32 q3, fun t ht => ?_, fun n hn => wf_u32 (q5.1 n hn), fun n hn => wf_i64 (q6.1 n hn), wf_u64 q7, wf_i64 q8, wf_i64 q9, fun n hn => wf_u8 (q10.1 n hn), by omega⟩ (fun n hn => wf_u8 (y4.1 n hn)) (by omega) (wf_i64 y5) (wf_u8 y6)
  obtain ⟨p1, p2, p3⟩ := q4.1 t ht
  exact ⟨wf_u32 p1, wf_u64 p2, wf_i64 p3⟩
end Go.Lk
