/- A part of this proof: RtcpTells returns true for every input and leaves its arguments as they were; there are no conditions. -/
import Derived.Test.YtnpgmljphheabaaA10
import Derived.KernelRfl
set_option linter.unusedVariables false
set_option linter.unusedSimpArgs false
set_option maxRecDepth 100000
namespace Go.Lk
open Go.RowKit Go.Proofs
def Q57 (x : api_Tuple) : Prop := ((Lit.int .u32 x.Owner).wf = true) ∧ ((Lit.int .u64 x.Rate).wf = true) ∧ ((Lit.int .i64 x.Over).wf = true)
theorem opn57 {H : Type} {enc : TypeId × Value → H} {w : World} : Opn enc Try.prog w 57 3 R_api_Tuple Q57 := fun base spare held fuel cs x h hs => by
  obtain ⟨hcl, hf⟩ := struct_field Try.underlying57 h hs
  rw [show Try.prog.cellsOf 57 = 3 from by kernel_rfl] at hcl
  match cs, hcl with
  | [c0, c1, c2], _ =>
    obtain ⟨n0, y0, h0, w0⟩ := hf 0 _ rfl
    have g0 : DataW.trod enc Try.prog w base spare held n0 27 [c0] = some y0 := by rw [show ([c0] : List Value) = (List.drop 0 [c0, c1, c2]).take (Try.prog.cellsOf 27) from by rw [show Try.prog.cellsOf 27 = 1 from by kernel_rfl]; rfl]; exact h0
    clear h0
    obtain ⟨n1, y1, h1, w1⟩ := hf 1 _ rfl
    have g1 : DataW.trod enc Try.prog w base spare held n1 30 [c1] = some y1 := by rw [show ([c1] : List Value) = (List.drop 1 [c0, c1, c2]).take (Try.prog.cellsOf 30) from by rw [show Try.prog.cellsOf 30 = 1 from by kernel_rfl]; rfl]; exact h1
    clear h1
    obtain ⟨n2, y2, h2, w2⟩ := hf 2 _ rfl
    have g2 : DataW.trod enc Try.prog w base spare held n2 3 [c2] = some y2 := by rw [show ([c2] : List Value) = (List.drop 2 [c0, c1, c2]).take (Try.prog.cellsOf 3) from by rw [show Try.prog.cellsOf 3 = 1 from by kernel_rfl]; rfl]; exact h2
    clear h2
    obtain ⟨a0, r0, q0, _, o0⟩ := (Opn.int Try.underlying27) _ _ _ _ _ _ g0 w0
    obtain rfl : c0 = _ := (List.cons.inj r0).1
    obtain ⟨a1, r1, q1, _, o1⟩ := (Opn.int Try.underlying30) _ _ _ _ _ _ g1 w1
    obtain rfl : c1 = _ := (List.cons.inj r1).1
    obtain ⟨a2, r2, q2, _, o2⟩ := (Opn.int Try.underlying3) _ _ _ _ _ _ g2 w2
    obtain rfl : c2 = _ := (List.cons.inj r2).1
    refine ⟨⟨a0, a1, a2⟩, rfl, ⟨q0, q1, q2⟩, rfl, ?_⟩
    intro u hu
    simp only [List.mem_cons, List.not_mem_nil, or_false] at hu
    rcases hu with rfl | rfl | rfl
    · exact o0 _ (by simp)
    · exact o1 _ (by simp)
    · exact o2 _ (by simp)
def Q33 (x : api_Report) : Prop := ((Lit.int .i64 x.Kind).wf = true) ∧ ((Lit.int .u32 x.From).wf = true) ∧ ((Lit.int .u32 x.About).wf = true) ∧ ((∀ a ∈ x.Tuples, Q57 a) ∧ x.Tuples.length * 24 ≤ 140737488351232) ∧ ((∀ a ∈ x.Abouts, (Lit.int .u32 a).wf = true) ∧ x.Abouts.length * 4 ≤ 140737488351232) ∧ ((∀ a ∈ x.Numbers, (Lit.int .i64 a).wf = true) ∧ x.Numbers.length * 8 ≤ 140737488351232) ∧ ((Lit.int .u64 x.Rate).wf = true) ∧ ((Lit.int .i64 x.Type_).wf = true) ∧ ((Lit.int .i64 x.Count).wf = true) ∧ ((∀ a ∈ x.Body, (Lit.int .u8 a).wf = true) ∧ x.Body.length * 1 ≤ 140737488351232)
theorem opn33 {H : Type} {enc : TypeId × Value → H} {w : World} : Opn enc Try.prog w 33 10 R_api_Report Q33 := fun base spare held fuel cs x h hs => by
  obtain ⟨hcl, hf⟩ := struct_field Try.underlying33 h hs
  rw [show Try.prog.cellsOf 33 = 10 from by kernel_rfl] at hcl
  match cs, hcl with
  | [c0, c1, c2, c3, c4, c5, c6, c7, c8, c9], _ =>
    obtain ⟨n0, y0, h0, w0⟩ := hf 0 _ rfl
    have g0 : DataW.trod enc Try.prog w base spare held n0 3 [c0] = some y0 := by rw [show ([c0] : List Value) = (List.drop 0 [c0, c1, c2, c3, c4, c5, c6, c7, c8, c9]).take (Try.prog.cellsOf 3) from by rw [show Try.prog.cellsOf 3 = 1 from by kernel_rfl]; rfl]; exact h0
    clear h0
    obtain ⟨n1, y1, h1, w1⟩ := hf 1 _ rfl
    have g1 : DataW.trod enc Try.prog w base spare held n1 27 [c1] = some y1 := by rw [show ([c1] : List Value) = (List.drop 1 [c0, c1, c2, c3, c4, c5, c6, c7, c8, c9]).take (Try.prog.cellsOf 27) from by rw [show Try.prog.cellsOf 27 = 1 from by kernel_rfl]; rfl]; exact h1
    clear h1
    obtain ⟨n2, y2, h2, w2⟩ := hf 2 _ rfl
    have g2 : DataW.trod enc Try.prog w base spare held n2 27 [c2] = some y2 := by rw [show ([c2] : List Value) = (List.drop 2 [c0, c1, c2, c3, c4, c5, c6, c7, c8, c9]).take (Try.prog.cellsOf 27) from by rw [show Try.prog.cellsOf 27 = 1 from by kernel_rfl]; rfl]; exact h2
    clear h2
    obtain ⟨n3, y3, h3, w3⟩ := hf 3 _ rfl
    have g3 : DataW.trod enc Try.prog w base spare held n3 28 [c3] = some y3 := by rw [show ([c3] : List Value) = (List.drop 3 [c0, c1, c2, c3, c4, c5, c6, c7, c8, c9]).take (Try.prog.cellsOf 28) from by rw [show Try.prog.cellsOf 28 = 1 from by kernel_rfl]; rfl]; exact h3
    clear h3
    obtain ⟨n4, y4, h4, w4⟩ := hf 4 _ rfl
    have g4 : DataW.trod enc Try.prog w base spare held n4 29 [c4] = some y4 := by rw [show ([c4] : List Value) = (List.drop 4 [c0, c1, c2, c3, c4, c5, c6, c7, c8, c9]).take (Try.prog.cellsOf 29) from by rw [show Try.prog.cellsOf 29 = 1 from by kernel_rfl]; rfl]; exact h4
    clear h4
    obtain ⟨n5, y5, h5, w5⟩ := hf 5 _ rfl
    have g5 : DataW.trod enc Try.prog w base spare held n5 23 [c5] = some y5 := by rw [show ([c5] : List Value) = (List.drop 5 [c0, c1, c2, c3, c4, c5, c6, c7, c8, c9]).take (Try.prog.cellsOf 23) from by rw [show Try.prog.cellsOf 23 = 1 from by kernel_rfl]; rfl]; exact h5
    clear h5
    obtain ⟨n6, y6, h6, w6⟩ := hf 6 _ rfl
    have g6 : DataW.trod enc Try.prog w base spare held n6 30 [c6] = some y6 := by rw [show ([c6] : List Value) = (List.drop 6 [c0, c1, c2, c3, c4, c5, c6, c7, c8, c9]).take (Try.prog.cellsOf 30) from by rw [show Try.prog.cellsOf 30 = 1 from by kernel_rfl]; rfl]; exact h6
    clear h6
    obtain ⟨n7, y7, h7, w7⟩ := hf 7 _ rfl
    have g7 : DataW.trod enc Try.prog w base spare held n7 3 [c7] = some y7 := by rw [show ([c7] : List Value) = (List.drop 7 [c0, c1, c2, c3, c4, c5, c6, c7, c8, c9]).take (Try.prog.cellsOf 3) from by rw [show Try.prog.cellsOf 3 = 1 from by kernel_rfl]; rfl]; exact h7
    clear h7
    obtain ⟨n8, y8, h8, w8⟩ := hf 8 _ rfl
    have g8 : DataW.trod enc Try.prog w base spare held n8 3 [c8] = some y8 := by rw [show ([c8] : List Value) = (List.drop 8 [c0, c1, c2, c3, c4, c5, c6, c7, c8, c9]).take (Try.prog.cellsOf 3) from by rw [show Try.prog.cellsOf 3 = 1 from by kernel_rfl]; rfl]; exact h8
    clear h8
    obtain ⟨n9, y9, h9, w9⟩ := hf 9 _ rfl
    have g9 : DataW.trod enc Try.prog w base spare held n9 31 [c9] = some y9 := by rw [show ([c9] : List Value) = (List.drop 9 [c0, c1, c2, c3, c4, c5, c6, c7, c8, c9]).take (Try.prog.cellsOf 31) from by rw [show Try.prog.cellsOf 31 = 1 from by kernel_rfl]; rfl]; exact h9
    clear h9
    obtain ⟨a0, r0, q0, _, o0⟩ := (Opn.int Try.underlying3) _ _ _ _ _ _ g0 w0
    obtain rfl : c0 = _ := (List.cons.inj r0).1
    obtain ⟨a1, r1, q1, _, o1⟩ := (Opn.int Try.underlying27) _ _ _ _ _ _ g1 w1
    obtain rfl : c1 = _ := (List.cons.inj r1).1
    obtain ⟨a2, r2, q2, _, o2⟩ := (Opn.int Try.underlying27) _ _ _ _ _ _ g2 w2
    obtain rfl : c2 = _ := (List.cons.inj r2).1
    obtain ⟨a3, r3, q3, _, o3⟩ := (Opn.slice Try.underlying28 (by kernel_rfl : Try.prog.cellsOf 57 = 3) (by kernel_rfl : Try.prog.bytesOf 57 = 24) (by decide) (opn57 (enc := enc) (w := w))) _ _ _ _ _ _ g3 w3
    obtain ⟨v3, e3, r3⟩ := r3
    obtain rfl : c3 = _ := (List.cons.inj e3).1
    obtain ⟨a4, r4, q4, _, o4⟩ := (Opn.slice Try.underlying29 (by kernel_rfl : Try.prog.cellsOf 27 = 1) (by kernel_rfl : Try.prog.bytesOf 27 = 4) (by decide) (Opn.int Try.underlying27)) _ _ _ _ _ _ g4 w4
    obtain ⟨v4, e4, r4⟩ := r4
    obtain rfl : c4 = _ := (List.cons.inj e4).1
    obtain ⟨a5, r5, q5, _, o5⟩ := (Opn.slice Try.underlying23 (by kernel_rfl : Try.prog.cellsOf 3 = 1) (by kernel_rfl : Try.prog.bytesOf 3 = 8) (by decide) (Opn.int Try.underlying3)) _ _ _ _ _ _ g5 w5
    obtain ⟨v5, e5, r5⟩ := r5
    obtain rfl : c5 = _ := (List.cons.inj e5).1
    obtain ⟨a6, r6, q6, _, o6⟩ := (Opn.int Try.underlying30) _ _ _ _ _ _ g6 w6
    obtain rfl : c6 = _ := (List.cons.inj r6).1
    obtain ⟨a7, r7, q7, _, o7⟩ := (Opn.int Try.underlying3) _ _ _ _ _ _ g7 w7
    obtain rfl : c7 = _ := (List.cons.inj r7).1
    obtain ⟨a8, r8, q8, _, o8⟩ := (Opn.int Try.underlying3) _ _ _ _ _ _ g8 w8
    obtain rfl : c8 = _ := (List.cons.inj r8).1
    obtain ⟨a9, r9, q9, _, o9⟩ := (Opn.slice Try.underlying31 (by kernel_rfl : Try.prog.cellsOf 5 = 1) (by kernel_rfl : Try.prog.bytesOf 5 = 1) (by decide) (Opn.int Try.underlying5)) _ _ _ _ _ _ g9 w9
    obtain ⟨v9, e9, r9⟩ := r9
    obtain rfl : c9 = _ := (List.cons.inj e9).1
    refine ⟨⟨a0, a1, a2, a3, a4, a5, a6, a7, a8, a9⟩, ⟨_, _, _, _, rfl, r3, r4, r5, r9⟩, ⟨q0, q1, q2, q3, q4, q5, q6, q7, q8, q9⟩, rfl, ?_⟩
    intro u hu
    simp only [List.mem_cons, List.not_mem_nil, or_false] at hu
    rcases hu with rfl | rfl | rfl | rfl | rfl | rfl | rfl | rfl | rfl | rfl
    · exact o0 _ (by simp)
    · exact o1 _ (by simp)
    · exact o2 _ (by simp)
    · exact o3 _ (by simp)
    · exact o4 _ (by simp)
    · exact o5 _ (by simp)
    · exact o6 _ (by simp)
    · exact o7 _ (by simp)
    · exact o8 _ (by simp)
    · exact o9 _ (by simp)
end Go.Lk
