/- A part of this proof: AlarmLast returns true for every input and leaves its arguments as they were; there are no conditions. -/
import Derived.Test.YtaclkgdbkejfjaaA5
set_option linter.unusedVariables false
set_option linter.unusedSimpArgs false
namespace Go.Lk
open Go.RowKit Go.Proofs Go.Sort
theorem srt_uniq : ∀ l m : List alarm_Due, l.Perm m → Srt l → Srt m → l = m
  | [], m, h, _, _ => (List.nil_perm.1 h).symm
  | x :: l, [], h, _, _ => absurd (List.perm_nil.1 h) (by simp)
  | x :: l, y :: m, h, h1, h2 => by
    unfold Srt at h1 h2
    rw [List.pairwise_cons] at h1 h2
    have e : x = y := by
      rcases List.mem_cons.1 (h.mem_iff.1 (by simp : x ∈ x :: l)) with q | q
      · exact q
      · rcases List.mem_cons.1 (h.mem_iff.2 (by simp : y ∈ y :: m)) with q2 | q2
        · exact q2.symm
        · exact ltD_eq (h2.1 x q) (h1.1 y q2)
    subst e
    rw [srt_uniq l m h.cons_inv h1.2 h2.2]
theorem sort_id {l : List alarm_Due} (h : Srt l) : sortDue l = l := srt_uniq _ _ (sort_spec l).1 (sort_spec l).2 h
theorem known_eq : limelightlaw12_known = some true := by
  have s1 : ∀ a k, sortDue [(⟨a, k⟩ : alarm_Due)] = [⟨a, k⟩] := fun a k => sort_id (by simp [Srt])
  have s2 : sortDue [(⟨7, 1⟩ : alarm_Due), ⟨7, 2⟩] = [⟨7, 1⟩, ⟨7, 2⟩] := sort_id (by simp [Srt, ltD])
  unfold limelightlaw12_known alarm_New
  simp only [Option.bind_some, next_eq]
  rw [clear_eq [] 1 (by simp [Apart]) (by simp)]
  simp only [Option.bind_some]
  rw [set_eq _ 1 5 (by simp [Apart, rmK]) (by simp [rmK])]
  simp only [Option.bind_some]
  rw [show sortDue (rmK 1 (rmK 1 []) ++ [(⟨5, 1⟩ : alarm_Due)]) = [⟨5, 1⟩] from s1 5 1]
  rw [set_eq _ 1 7 (by simp [Apart]) (by simp)]
  simp only [Option.bind_some]
  rw [show rmK 1 [(⟨5, 1⟩ : alarm_Due)] ++ [⟨7, 1⟩] = [⟨7, 1⟩] by simp [rmK, isK], s1]
  rw [due_eq _ 6 (by simp)]
  simp only [Option.bind_some]
  rw [show List.dropWhile (leN 6) [(⟨7, 1⟩ : alarm_Due)] = [⟨7, 1⟩] by simp [leN], show List.takeWhile (leN 6) [(⟨7, 1⟩ : alarm_Due)] = [] by simp [leN]]
  rw [set_eq _ 2 7 (by simp [Apart]) (by simp)]
  simp only [Option.bind_some]
  rw [show rmK 2 [(⟨7, 1⟩ : alarm_Due)] ++ [⟨7, 2⟩] = [⟨7, 1⟩, ⟨7, 2⟩] by simp [rmK, isK], s2]
  rw [due_eq _ 7 (by simp)]
  simp only [Option.bind_some]
  rw [show List.dropWhile (leN 7) [(⟨7, 1⟩ : alarm_Due), ⟨7, 2⟩] = [] by simp [leN], show List.takeWhile (leN 7) [(⟨7, 1⟩ : alarm_Due), ⟨7, 2⟩] = [⟨7, 1⟩, ⟨7, 2⟩] by simp [leN]]
  simp [len_eq, ix]
end Go.Lk
