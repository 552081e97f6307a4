/- A part of this proof: AlarmOrder returns true for every input and leaves its arguments as they were; there are no conditions. -/
import Derived.Test.YtaclkgdbkejfjaaA3
set_option linter.unusedVariables false
set_option linter.unusedSimpArgs false
namespace Go.Lk
open Go.RowKit Go.Proofs Go.Sort
theorem loopF_inv {σ ρ : Type} {body : σ → Option (Flow σ ρ)} (I : Nat → σ → Prop) {s0 : σ} (h0 : I 0 s0) : ∀ n : Nat, (∀ k s, k < n → I k s → ∃ s', body s = some (.next s') ∧ I (k + 1) s') → ∃ s, I n s ∧ loopF body s0 = loopF body s
  | 0, _ => ⟨s0, h0, rfl⟩
  | n + 1, h => by
    obtain ⟨s, h1, h2⟩ := loopF_inv I h0 n (fun k s hk => h k s (by omega))
    obtain ⟨s', h3, h4⟩ := h n s (by omega) h1
    exact ⟨s', h4, by rw [h2, loopF_next h3]⟩
theorem srt_late (now : Int) : ∀ t : List alarm_Due, Srt t → ∀ d ∈ t.dropWhile (leN now), now < d.At
  | [], _, d, h => by simp at h
  | x :: t, hs, d, h => by
    unfold Srt at hs
    rw [List.pairwise_cons] at hs
    cases hx : leN now x with
    | true =>
      rw [List.dropWhile_cons, hx] at h
      exact srt_late now t hs.2 d (by simpa using h)
    | false =>
      rw [List.dropWhile_cons, hx] at h
      have hn : now < x.At := by simpa [leN] using hx
      rcases List.mem_cons.1 (by simpa using h : d ∈ x :: t) with rfl | q
      · exact hn
      · have := hs.1 d q
        unfold ltD at this
        omega
theorem srt_early (now : Int) : ∀ t : List alarm_Due, ∀ d ∈ t.takeWhile (leN now), d.At ≤ now
  | [], d, h => by simp at h
  | x :: t, d, h => by
    cases hx : leN now x with
    | true =>
      rw [List.takeWhile_cons, hx] at h
      rcases List.mem_cons.1 (by simpa using h : d ∈ x :: t.takeWhile (leN now)) with rfl | q
      · simpa [leN] using hx
      · exact srt_early now t d q
    | false => rw [List.takeWhile_cons, hx] at h; simp at h
end Go.Lk
