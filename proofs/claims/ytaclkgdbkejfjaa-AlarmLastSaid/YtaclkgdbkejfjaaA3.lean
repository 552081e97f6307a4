/- A part of this proof: AlarmLast returns true for every input and leaves its arguments as they were; there are no conditions. -/
import Derived.Test.YtaclkgdbkejfjaaA2
set_option linter.unusedVariables false
set_option linter.unusedSimpArgs false
namespace Go.Lk
open Go.RowKit Go.Proofs Go.Sort
theorem ltD_eq {x y : alarm_Due} (h1 : ¬ ltD x y) (h2 : ¬ ltD y x) : x = y := by
  cases x; cases y
  unfold ltD at *
  simp only at h1 h2
  have e1 : (0 : Int) = 0 := rfl
  simp only [alarm_Due.mk.injEq]
  omega
structure Inv (w t : List alarm_Due) : Prop where
  perm : t.Perm w
  srt : Srt t
  ap : Apart w
theorem Inv.apt {w t : List alarm_Due} (h : Inv w t) : Apart t := ((h.perm.map alarm_Due.Key).nodup_iff).2 h.ap
theorem Inv.len {w t : List alarm_Due} (h : Inv w t) : t.length = w.length := h.perm.length_eq
theorem apart_rm (key : Int) {w : List alarm_Due} (h : Apart w) : Apart (rmK key w) := (List.filter_sublist.map _).nodup h
theorem Inv.rm {w t : List alarm_Due} (h : Inv w t) (key : Int) : Inv (rmK key w) (rmK key t) :=
  ⟨h.perm.filter _, h.srt.sublist List.filter_sublist, apart_rm key h.ap⟩
theorem Inv.set {w t : List alarm_Due} (h : Inv w t) (key a : Int) : Inv (rmK key w ++ [⟨a, key⟩]) (sortDue (rmK key t ++ [⟨a, key⟩])) := by
  obtain ⟨h1, h2⟩ := sort_spec (rmK key t ++ [⟨a, key⟩])
  refine ⟨h1.trans ((h.rm key).perm.append_right _), h2, ?_⟩
  unfold Apart
  rw [List.map_append, List.nodup_append]
  refine ⟨apart_rm key h.ap, by simp, fun x hx y hy => ?_⟩
  simp at hy
  subst hy
  obtain ⟨d, hd, rfl⟩ := List.mem_map.1 hx
  have := (List.mem_filter.1 hd).2
  simpa [isK] using this
theorem Inv.any {w t : List alarm_Due} (h : Inv w t) (p : alarm_Due → Bool) : t.any p = w.any p := by
  rw [Bool.eq_iff_iff, List.any_eq_true, List.any_eq_true]
  constructor
  · rintro ⟨x, hx, hp⟩; exact ⟨x, h.perm.mem_iff.1 hx, hp⟩
  · rintro ⟨x, hx, hp⟩; exact ⟨x, h.perm.mem_iff.2 hx, hp⟩
theorem apart_uniq {w : List alarm_Due} (h : Apart w) {x y : alarm_Due} (hx : x ∈ w) (hy : y ∈ w) (e : x.Key = y.Key) : x = y := by
  induction w with
  | nil => cases hx
  | cons d w ih =>
    unfold Apart at h
    simp only [List.map_cons, List.nodup_cons] at h
    rcases List.mem_cons.1 hx with rfl | hx
    · rcases List.mem_cons.1 hy with rfl | hy
      · rfl
      · exact absurd (List.mem_map.2 ⟨y, hy, e.symm⟩) h.1
    · rcases List.mem_cons.1 hy with q | hy
      · exact absurd (List.mem_map.2 ⟨x, hx, by rw [e, q]⟩) h.1
      · exact ih h.2 hx hy
end Go.Lk
