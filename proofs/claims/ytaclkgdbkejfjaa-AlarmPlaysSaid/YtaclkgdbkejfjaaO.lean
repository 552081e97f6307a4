/- A part of this proof: AlarmPlays returns true for every input and leaves its arguments as they were; there are no conditions. -/
import Derived.Test.YtaclkgdbkejfjaaA6
import Derived.KernelRfl
set_option linter.unusedVariables false
set_option linter.unusedSimpArgs false
set_option maxRecDepth 100000
namespace Go.Lk
open Go.RowKit Go.Proofs
def Q36 (x : limelightlaw12_Ask) : Prop := ((Lit.int .i64 x.Kind).wf = true) ∧ ((Lit.int .u64 x.Key).wf = true) ∧ ((Lit.int .i64 x.At).wf = true)
theorem opn36 {H : Type} {enc : TypeId × Value → H} {w : World} : Opn enc Try.prog w 36 3 R_limelightlaw12_Ask Q36 := fun base spare held fuel cs x h hs => by
  obtain ⟨hcl, hf⟩ := struct_field Try.underlying36 h hs
  rw [show Try.prog.cellsOf 36 = 3 from by kernel_rfl] at hcl
  match cs, hcl with
  | [c0, c1, c2], _ =>
    obtain ⟨n0, y0, h0, w0⟩ := hf 0 _ rfl
    have g0 : DataW.trod enc Try.prog w base spare held n0 3 [c0] = some y0 := by rw [show ([c0] : List Value) = (List.drop 0 [c0, c1, c2]).take (Try.prog.cellsOf 3) from by rw [show Try.prog.cellsOf 3 = 1 from by kernel_rfl]; rfl]; exact h0
    clear h0
    obtain ⟨n1, y1, h1, w1⟩ := hf 1 _ rfl
    have g1 : DataW.trod enc Try.prog w base spare held n1 26 [c1] = some y1 := by rw [show ([c1] : List Value) = (List.drop 1 [c0, c1, c2]).take (Try.prog.cellsOf 26) from by rw [show Try.prog.cellsOf 26 = 1 from by kernel_rfl]; rfl]; exact h1
    clear h1
    obtain ⟨n2, y2, h2, w2⟩ := hf 2 _ rfl
    have g2 : DataW.trod enc Try.prog w base spare held n2 2 [c2] = some y2 := by rw [show ([c2] : List Value) = (List.drop 2 [c0, c1, c2]).take (Try.prog.cellsOf 2) from by rw [show Try.prog.cellsOf 2 = 1 from by kernel_rfl]; rfl]; exact h2
    clear h2
    obtain ⟨a0, r0, q0, _, o0⟩ := (Opn.int Try.underlying3) _ _ _ _ _ _ g0 w0
    obtain rfl : c0 = _ := (List.cons.inj r0).1
    obtain ⟨a1, r1, q1, _, o1⟩ := (Opn.int Try.underlying26) _ _ _ _ _ _ g1 w1
    obtain rfl : c1 = _ := (List.cons.inj r1).1
    obtain ⟨a2, r2, q2, _, o2⟩ := (Opn.int Try.underlying2) _ _ _ _ _ _ g2 w2
    obtain rfl : c2 = _ := (List.cons.inj r2).1
    refine ⟨⟨a0, a1, a2⟩, rfl, ⟨q0, q1, q2⟩, rfl, ?_⟩
    intro u hu
    simp only [List.mem_cons, List.not_mem_nil, or_false] at hu
    rcases hu with rfl | rfl | rfl
    · exact o0 _ (by simp)
    · exact o1 _ (by simp)
    · exact o2 _ (by simp)
end Go.Lk
