/- A part of this proof: AlarmNumbers returns true for every input and leaves its arguments as they were; there are no conditions. -/
import Derived.Test.YtaclkgdbkejfjaaA3
set_option linter.unusedVariables false
set_option linter.unusedSimpArgs false
namespace Go.Lk
open Go.RowKit Go.Proofs Go.Sort
def wantF (key : Int) : List alarm_Due → Int × Bool → Int × Bool
  | [], s => s
  | d :: l, s => wantF key l (if isK key d then (d.At, true) else s)
theorem wantF_snoc (key : Int) (d : alarm_Due) : ∀ (l : List alarm_Due) (s : Int × Bool), wantF key (l ++ [d]) s = if isK key d then (d.At, true) else wantF key l s
  | [], s => rfl
  | x :: l, s => wantF_snoc key d l _
theorem wantF_none (key : Int) : ∀ (l : List alarm_Due) (s : Int × Bool), l.any (isK key) = false → wantF key l s = s
  | [], s, _ => rfl
  | x :: l, s, h => by
    simp only [List.any_cons, Bool.or_eq_false_iff] at h
    show wantF key l (if isK key x then (x.At, true) else s) = s
    rw [h.1, wantF_none key l _ h.2]
    rfl
theorem wantF_some (key : Int) : ∀ (l : List alarm_Due) (s : Int × Bool), Apart l → ∀ d ∈ l, isK key d = true → wantF key l s = (d.At, true)
  | [], s, _, d, hd, _ => by cases hd
  | x :: l, s, ha, d, hd, hk => by
    have ha' := ha
    unfold Apart at ha'
    simp only [List.map_cons, List.nodup_cons] at ha'
    show wantF key l (if isK key x then (x.At, true) else s) = _
    rcases List.mem_cons.1 hd with rfl | hd
    · rw [hk]
      refine wantF_none key l _ ?_
      cases h : l.any (isK key) with
      | false => rfl
      | true =>
        obtain ⟨y, hy, hyk⟩ := List.any_eq_true.1 h
        have e1 : d.Key = key := by simpa [isK] using hk
        have e2 : y.Key = key := by simpa [isK] using hyk
        exact absurd (List.mem_map.2 ⟨y, hy, by rw [e2, e1]⟩) ha'.1
    · exact wantF_some key l _ ha'.2 d hd hk
theorem l1_eq (x : limelightlaw12_Ask) (w : List alarm_Due) (hl : w.length ≤ 1000) :
    loopF (fun sg => limelightlaw12_play_l1 x w sg.1 sg.2.1 sg.2.2) ((0 : Int), false, (0 : Int)) = some (.brk ((wantF x.Key w (0, false)).1, (wantF x.Key w (0, false)).2, (w.length : Int))) := by
  refine loopF_up (fun k => ((wantF x.Key (w.take k) (0, false)).1, (wantF x.Key (w.take k) (0, false)).2, (k : Int))) w.length rfl (fun k hk => ?_) ?_
  · have hx := List.getElem?_eq_getElem hk
    simp only
    unfold limelightlaw12_play_l1
    rw [if_pos (by simpa using hk), ix_nat, hx, snoc_take hx, wantF_snoc, add_i64 (by omega)]
    simp only [Option.bind_some]
    cases hq : isK x.Key w[k] with
    | true =>
      have : (w[k].Key == x.Key) = true := hq
      rw [this]; simp
    | false =>
      have : (w[k].Key == x.Key) = false := hq
      rw [this]; simp
  · simp only
    unfold limelightlaw12_play_l1
    rw [if_neg (by simp)]
    simp
theorem l2_eq (x : limelightlaw12_Ask) (rest : List alarm_Due) (hr : ∀ d ∈ rest, x.At < d.At) : ∀ (got w : List alarm_Due), Inv w (got ++ rest) → (∀ d ∈ got, d.At ≤ x.At) → w.length ≤ 1000 →
    ∃ w', loopF (fun sg => limelightlaw12_play_l2 x sg.1 sg.2) (w, got) = some (.brk (w', [])) ∧ Inv w' rest ∧ w'.length ≤ w.length
  | [], w, hi, _, hl => by
    refine ⟨w, loopF_brk ?_, hi, Nat.le_refl _⟩
    simp only
    unfold limelightlaw12_play_l2
    by_cases h0 : 0 < w.length
    · obtain ⟨i, d, e1, e2, hd, _⟩ := first_spec w h0 hl
      have hd2 : d ∈ rest := hi.perm.mem_iff.2 hd
      have := hr d hd2
      rw [if_pos (by simpa using h0), e1]
      simp only [Option.bind_some, ix_nat, e2]
      rw [if_neg (by simp; omega)]
    · rw [if_neg (by simpa using h0)]
      simp
  | g :: gs, w, hi, hg, hl => by
    have hgw : g ∈ w := hi.perm.mem_iff.1 (by simp)
    have h0 : 0 < w.length := List.length_pos_of_mem hgw
    obtain ⟨i, d, e1, e2, hd, hmin⟩ := first_spec w h0 hl
    have hsr := hi.srt
    unfold Srt at hsr
    rw [List.cons_append, List.pairwise_cons] at hsr
    have hdt : d ∈ g :: (gs ++ rest) := by have := hi.perm.mem_iff.2 hd; simpa using this
    have hdg : d = g := by
      rcases List.mem_cons.1 hdt with q | q
      · exact q
      · exact ltD_eq (hsr.1 d q) (hmin g hgw)
    subst hdg
    have hap := hi.apt
    have hrm : rmK d.Key (d :: gs ++ rest) = gs ++ rest := by
      unfold Apart at hap
      rw [List.cons_append, List.map_cons, List.nodup_cons] at hap
      unfold rmK
      rw [List.cons_append, List.filter_cons_of_neg (by simp [isK])]
      rw [List.filter_eq_self]
      intro y hy
      have : y.Key ≠ d.Key := fun e => hap.1 (List.mem_map.2 ⟨y, hy, e⟩)
      simpa [isK] using this
    have hi2 := hi.rm d.Key
    rw [hrm] at hi2
    have hll : (rmK d.Key w).length ≤ w.length := List.length_filter_le _ _
    obtain ⟨w', h1, h2, h3⟩ := l2_eq x rest hr gs (rmK d.Key w) hi2 (fun y hy => hg y (by simp [hy])) (by omega)
    refine ⟨w', ?_, h2, by omega⟩
    rw [loopF_next (s' := (rmK d.Key w, gs)) ?_]
    · exact h1
    · simp only
      unfold limelightlaw12_play_l2
      rw [if_pos (by simpa using h0), e1]
      simp only [Option.bind_some, ix_nat, e2]
      rw [if_pos (by simpa using hg d (by simp))]
      rw [if_neg (by simp; omega)]
      rw [show (0 : Int) = ((0 : Nat) : Int) from rfl, ix_nat]
      simp only [List.getElem?_cons_zero, Option.bind_some]
      rw [if_neg (by simp), cutFrom_ok (xs := d :: gs) (b := 1) (k := 1) rfl (by simp), drop_eq w d.Key hl]
      simp [Flow.el]
theorem tail_eq (x72 : limelightlaw12_Ask) (w t : List alarm_Due) (hi : Inv w t) (hl : w.length ≤ 1000) :
    ((alarm_Table_At (⟨t⟩ : alarm_Table) x72.Key).bind fun x99 =>
    (alarm_Table_Next (⟨x99.2.2.l_⟩ : alarm_Table)).bind fun x111 =>
    ((
     (alarm_Table_Len (⟨x111.2.2.l_⟩ : alarm_Table)).bind fun x194 =>
     if ((x194.1 != (w.length : Int)) || (!(x111.2.1 == (decide (0 < (w.length : Int)))))) = true then (
      some (true, x194.2.l_))
     else (
      if x111.2.1 = true then (
       (limelightlaw12_first w).bind fun x208 =>
       (ix w x208).bind fun x216 =>
       some (!((x111.1.At == x216.At) && ((x111.1.Key == x216.Key) && true)), x194.2.l_))
      else (
       some (false, x194.2.l_))) : Option (Bool × (List alarm_Due)))).bind fun p129 =>
    if p129.1 = true then (
     some (Flow.ret false))
    else (
     (loopF (fun sg => limelightlaw12_play_l1 x72 w sg.1 sg.2.1 sg.2.2) (0, false, 0)).bind fun fl140 =>
     Flow.el fl140 (fun s190 => (
      none))
     (fun s191 => (
      if ((x99.1 != s191.1) || (!(x99.2.1 == s191.2.1))) = true then (
       some (Flow.ret false))
      else (
       some (Flow.next (w, p129.2)))))
     (fun r192 => (
      none)))) = (some (.next (w, t)) : Option (Flow ((List alarm_Due) × (List alarm_Due)) Bool)) := by
  have hlt := hi.len
  have hwant : wantF x72.Key w (0, false) = (match t.find? (isK x72.Key) with | some d => (d.At, true) | none => (0, false)) := by
    cases h : t.find? (isK x72.Key) with
    | none =>
      refine wantF_none _ w _ ?_
      rw [← hi.any]
      rw [List.any_eq_false]
      intro y hy
      rw [List.find?_eq_none] at h
      exact h y hy
    | some d => exact wantF_some _ w _ hi.ap d (hi.perm.mem_iff.1 (List.mem_of_find?_eq_some h)) (List.find?_some h)
  rw [at_eq t x72.Key (by omega), l1_eq x72 w hl, hwant]
  cases hf : t.find? (isK x72.Key) with
  | none =>
    simp only [Option.bind_some, next_eq]
    cases t with
    | nil =>
      have hw : w = [] := List.eq_nil_of_length_eq_zero (by simpa using hlt.symm)
      subst hw
      simp [len_eq, Flow.el]
    | cons d ts =>
      have h0 : 0 < w.length := by simp at hlt; omega
      obtain ⟨i, d', e1, e2, hd', hmin⟩ := first_spec w h0 hl
      have hsr := hi.srt
      unfold Srt at hsr
      rw [List.pairwise_cons] at hsr
      have hdd : d' = d := by
        rcases List.mem_cons.1 (hi.perm.mem_iff.2 hd') with q | q
        · exact q
        · exact ltD_eq (hsr.1 d' q) (hmin d (hi.perm.mem_iff.1 (by simp)))
      subst hdd
      simp only [len_eq, Option.bind_some, e1, ix_nat, e2]
      have hc : decide (0 < (w.length : Int)) = true := by simpa using h0
      rw [if_neg (by rw [hlt, hc]; simp)]
      simp [Flow.el]
  | some dd =>
    simp only [Option.bind_some, next_eq]
    cases t with
    | nil => simp at hf
    | cons d ts =>
      have h0 : 0 < w.length := by simp at hlt; omega
      obtain ⟨i, d', e1, e2, hd', hmin⟩ := first_spec w h0 hl
      have hsr := hi.srt
      unfold Srt at hsr
      rw [List.pairwise_cons] at hsr
      have hdd : d' = d := by
        rcases List.mem_cons.1 (hi.perm.mem_iff.2 hd') with q | q
        · exact q
        · exact ltD_eq (hsr.1 d' q) (hmin d (hi.perm.mem_iff.1 (by simp)))
      subst hdd
      simp only [len_eq, Option.bind_some, e1, ix_nat, e2]
      have hc : decide (0 < (w.length : Int)) = true := by simpa using h0
      rw [if_neg (by rw [hlt, hc]; simp)]
      simp [Flow.el]
end Go.Lk
