/- A part of this proof: AlarmLast returns true for every input and leaves its arguments as they were; there are no conditions. -/
import Derived.Test.YtaclkgdbkejfjaaA3
set_option linter.unusedVariables false
set_option linter.unusedSimpArgs false
namespace Go.Lk
open Go.RowKit Go.Proofs Go.Sort
theorem loopF_inv {σ ρ : Type} {body : σ → Option (Flow σ ρ)} (I : Nat → σ → Prop) {s0 : σ} (h0 : I 0 s0) : ∀ n : Nat, (∀ k s, k < n → I k s → ∃ s', body s = some (.next s') ∧ I (k + 1) s') → ∃ s, I n s ∧ loopF body s0 = loopF body s
  | 0, _ => ⟨s0, h0, rfl⟩
  | n + 1, h => by
    obtain ⟨s, h1, h2⟩ := loopF_inv I h0 n (fun k s hk => h k s (by omega))
    obtain ⟨s', h3, h4⟩ := h n s (by omega) h1
    exact ⟨s', h4, by rw [h2, loopF_next h3]⟩
end Go.Lk
