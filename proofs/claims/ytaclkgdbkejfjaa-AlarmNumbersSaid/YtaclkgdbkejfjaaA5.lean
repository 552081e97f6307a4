/- A part of this proof: AlarmNumbers returns true for every input and leaves its arguments as they were; there are no conditions. -/
import Derived.Test.YtaclkgdbkejfjaaA4
set_option linter.unusedVariables false
set_option linter.unusedSimpArgs false
namespace Go.Lk
open Go.RowKit Go.Proofs Go.Sort
theorem loopF_inv {σ ρ : Type} {body : σ → Option (Flow σ ρ)} (I : Nat → σ → Prop) {s0 : σ} (h0 : I 0 s0) : ∀ n : Nat, (∀ k s, k < n → I k s → ∃ s', body s = some (.next s') ∧ I (k + 1) s') → ∃ s, I n s ∧ loopF body s0 = loopF body s
  | 0, _ => ⟨s0, h0, rfl⟩
  | n + 1, h => by
    obtain ⟨s, h1, h2⟩ := loopF_inv I h0 n (fun k s hk => h k s (by omega))
    obtain ⟨s', h3, h4⟩ := h n s (by omega) h1
    exact ⟨s', h4, by rw [h2, loopF_next h3]⟩
theorem rm_len (key : Int) (w : List alarm_Due) : decide (((rmK key w).length : Int) < (w.length : Int)) = w.any (isK key) := by
  rw [Bool.eq_iff_iff, decide_eq_true_iff, List.any_eq_true]
  have h := List.length_filter_lt_length_iff_exists (p := fun d => !isK key d) (l := w)
  have e : ((rmK key w).length : Int) < (w.length : Int) ↔ (rmK key w).length < w.length := by omega
  rw [e]
  unfold rmK
  rw [h]
  simp
theorem srt_late (now : Int) : ∀ t : List alarm_Due, Srt t → ∀ d ∈ t.dropWhile (leN now), now < d.At
  | [], _, d, h => by simp at h
  | x :: t, hs, d, h => by
    unfold Srt at hs
    rw [List.pairwise_cons] at hs
    cases hx : leN now x with
    | true =>
      rw [List.dropWhile_cons, hx] at h
      exact srt_late now t hs.2 d (by simpa using h)
    | false =>
      rw [List.dropWhile_cons, hx] at h
      have hn : now < x.At := by simpa [leN] using hx
      rcases List.mem_cons.1 (by simpa using h : d ∈ x :: t) with rfl | q
      · exact hn
      · have := hs.1 d q
        unfold ltD at this
        omega
theorem srt_early (now : Int) : ∀ t : List alarm_Due, ∀ d ∈ t.takeWhile (leN now), d.At ≤ now
  | [], d, h => by simp at h
  | x :: t, d, h => by
    cases hx : leN now x with
    | true =>
      rw [List.takeWhile_cons, hx] at h
      rcases List.mem_cons.1 (by simpa using h : d ∈ x :: t.takeWhile (leN now)) with rfl | q
      · simpa [leN] using hx
      · exact srt_early now t d q
    | false => rw [List.takeWhile_cons, hx] at h; simp at h
theorem step_eq (G : List limelightlaw12_Ask) (i : Nat) (x : limelightlaw12_Ask) (hx : G[i]? = some x) (hi120 : i < 120) (w t : List alarm_Due) (hi : Inv w t) (hl : w.length ≤ i) :
    ∃ w' t', limelightlaw12_play_l0 G w (i : Int) t = some (.next (w', ((i + 1 : Nat) : Int), t')) ∧ Inv w' t' ∧ w'.length ≤ i + 1 := by
  have hlt := hi.len
  have hG := (List.getElem?_eq_some_iff.1 hx).1
  have hrl : (rmK x.Key w).length ≤ w.length := List.length_filter_le _ _
  unfold limelightlaw12_play_l0
  rw [if_pos (by simp; omega), ix_nat, hx]
  simp only [Option.bind_some]
  by_cases k3 : x.Kind = 3
  · refine ⟨rmK x.Key w, rmK x.Key t, ?_, hi.rm x.Key, by omega⟩
    have ht := tail_eq x (rmK x.Key w) (rmK x.Key t) (hi.rm x.Key) (by omega)
    rw [if_pos (show (x.Kind == 3) = true by simp [k3]), drop_eq w x.Key (by omega)]
    simp only [Option.bind_some]
    rw [show (⟨t⟩ : alarm_Table) = ⟨t⟩ from rfl, clear_eq t x.Key hi.apt (by omega)]
    simp only [Option.bind_some]
    rw [rm_len, hi.any, if_neg (by simp)]
    simp only [Option.bind_some, Flow.el]
    simp only [Flow.el] at ht
    rw [ht]
    simp only [Option.bind_some, Flow.el]
    rw [add_i64 (by omega)]
    rfl
  · rw [if_neg (show ¬ (x.Kind == 3) = true by simp [k3])]
    by_cases k4 : x.Kind = 4
    · have happ : t.takeWhile (leN x.At) ++ t.dropWhile (leN x.At) = t := List.takeWhile_append_dropWhile
      obtain ⟨w', h1, h2, h3⟩ := l2_eq x (t.dropWhile (leN x.At)) (srt_late x.At t hi.srt) (t.takeWhile (leN x.At)) w (by rw [happ]; exact hi) (srt_early x.At t) (by omega)
      refine ⟨w', t.dropWhile (leN x.At), ?_, h2, by omega⟩
      have ht := tail_eq x w' (t.dropWhile (leN x.At)) h2 (by omega)
      rw [if_pos (show (x.Kind == 4) = true by simp [k4]), due_eq t x.At (by omega)]
      simp only [Option.bind_some]
      rw [h1]
      simp only [Option.bind_some, Flow.el]
      rw [if_neg (by simp)]
      simp only [Option.bind_some, Flow.el]
      simp only [Flow.el] at ht
      rw [ht]
      simp only [Option.bind_some, Flow.el]
      rw [add_i64 (by omega)]
      rfl
    · rw [if_neg (show ¬ (x.Kind == 4) = true by simp [k4])]
      have hi2 := hi.set x.Key x.At
      refine ⟨rmK x.Key w ++ [⟨x.At, x.Key⟩], sortDue (rmK x.Key t ++ [⟨x.At, x.Key⟩]), ?_, hi2, by simp; omega⟩
      have ht := tail_eq x _ _ hi2 (by simp; omega)
      rw [set_eq t x.Key x.At hi.apt (by omega)]
      simp only [Option.bind_some]
      rw [drop_eq w x.Key (by omega)]
      simp only [Option.bind_some]
      rw [app_ok (by simp; omega)]
      simp only [Option.bind_some, Flow.el]
      simp only [Flow.el] at ht
      rw [ht]
      simp only [Option.bind_some, Flow.el]
      rw [add_i64 (by omega)]
      rfl
theorem play_eq (G : List limelightlaw12_Ask) : limelightlaw12_play G = some true := by
  unfold limelightlaw12_play alarm_New
  simp only [Option.bind_some]
  obtain ⟨s, ⟨w, t, rfl, hi, hl⟩, hs⟩ := loopF_inv (body := fun sg => limelightlaw12_play_l0 G sg.1 sg.2.1 sg.2.2) (fun k s => ∃ w t, s = (w, (k : Int), t) ∧ Inv w t ∧ w.length ≤ k) (s0 := (([] : List alarm_Due), (0 : Int), ([] : List alarm_Due)))
    ⟨[], [], rfl, ⟨List.Perm.refl _, List.Pairwise.nil, List.nodup_nil⟩, Nat.le_refl _⟩ (min G.length 120) (fun k s hk ⟨w, t, e, hi, hl⟩ => by
      subst e
      obtain ⟨w', t', h1, h2, h3⟩ := step_eq G k _ (List.getElem?_eq_getElem (show k < G.length by omega)) (by omega) w t hi hl
      exact ⟨_, h1, w', t', rfl, h2, h3⟩)
  rw [hs, loopF_brk (s' := (w, ((min G.length 120 : Nat) : Int), t)) (by
    simp only
    unfold limelightlaw12_play_l0
    rw [if_neg (by simp; omega)])]
  rfl
end Go.Lk
