/- A part of this proof: AlarmLast returns true for every input and leaves its arguments as they were; there are no conditions. -/
import Derived.Test.YtaclkgdbkejfjaaP1
import Derived.Shelf.SlSortCmp.WholeK
set_option linter.unusedVariables false
set_option linter.unusedSimpArgs false
set_option maxRecDepth 100000
namespace Go.Lk
open Go.RowKit Go.Proofs Go.Sort Go.Lib
def lay15_ren : Go.Shelf.Ren := ⟨fun | 6 => 15 | 15 => 27 | 14 => 26 | 28 => 40 | 29 => 41 | 20 => 32 | 21 => 33 | 22 => 34 | 23 => 35 | 24 => 36 | 25 => 37 | 26 => 38 | 27 => 39 | 46 => 42 | 47 => 43 | 48 => 44 | 49 => 45 | 50 => 46 | 57 => 47 | n => n, fun | 22 => 27 | 24 => 30 | 25 => 50 | 3 => 3 | 39 => 60 | 0 => 0 | 53 => 74 | 55 => 26 | 4 => 4 | 46 => 67 | 45 => 66 | 50 => 71 | 5 => 5 | 9 => 9 | 66 => 75 | 70 => 79 | 76 => 81 | 77 => 82 | n => n, fun | n => n⟩
theorem lay15 : Go.Proofs.SlLaysF0.n6 Try.prog lay15_ren where
  mixed := by kernel_rfl
  f6 := ⟨ "slices.SortFunc[[]limelight/alarm.Due,limelight/alarm.Due]", by decide, Try.func15.trans (congrArg some (by kernel_rfl))⟩
  f14 := ⟨ "slices.pdqsortCmpFunc[limelight/alarm.Due]", by decide, Try.func26.trans (congrArg some (by kernel_rfl))⟩
  f15 := Try.func27.trans (congrArg some (by kernel_rfl))
  f20 := ⟨ "slices.insertionSortCmpFunc[limelight/alarm.Due]", by decide, Try.func32.trans (congrArg some (by kernel_rfl))⟩
  f21 := ⟨ "slices.heapSortCmpFunc[limelight/alarm.Due]", by decide, Try.func33.trans (congrArg some (by kernel_rfl))⟩
  f22 := ⟨ "slices.breakPatternsCmpFunc[limelight/alarm.Due]", by decide, Try.func34.trans (congrArg some (by kernel_rfl))⟩
  f23 := ⟨ "slices.choosePivotCmpFunc[limelight/alarm.Due]", by decide, Try.func35.trans (congrArg some (by kernel_rfl))⟩
  f24 := ⟨ "slices.reverseRangeCmpFunc[limelight/alarm.Due]", by decide, Try.func36.trans (congrArg some (by kernel_rfl))⟩
  f25 := ⟨ "slices.partialInsertionSortCmpFunc[limelight/alarm.Due]", by decide, Try.func37.trans (congrArg some (by kernel_rfl))⟩
  f26 := ⟨ "slices.partitionEqualCmpFunc[limelight/alarm.Due]", by decide, Try.func38.trans (congrArg some (by kernel_rfl))⟩
  f27 := ⟨ "slices.partitionCmpFunc[limelight/alarm.Due]", by decide, Try.func39.trans (congrArg some (by kernel_rfl))⟩
  f28 := Try.func40.trans (congrArg some (by kernel_rfl))
  f29 := Try.func41.trans (congrArg some (by kernel_rfl))
  f46 := ⟨ "slices.siftDownCmpFunc[limelight/alarm.Due]", by decide, Try.func42.trans (congrArg some (by kernel_rfl))⟩
  f47 := Try.func43.trans (congrArg some (by kernel_rfl))
  f48 := Try.func44.trans (congrArg some (by kernel_rfl))
  f49 := ⟨ "slices.medianAdjacentCmpFunc[limelight/alarm.Due]", by decide, Try.func45.trans (congrArg some (by kernel_rfl))⟩
  f50 := ⟨ "slices.medianCmpFunc[limelight/alarm.Due]", by decide, Try.func46.trans (congrArg some (by kernel_rfl))⟩
  f57 := ⟨ "slices.order2CmpFunc[limelight/alarm.Due]", by decide, Try.func47.trans (congrArg some (by kernel_rfl))⟩
  t0 := Try.underlying0
  a0 := Try.isAgg0
  z0 := Try.sizeOf0
  v0 := Try.zeroValue0
  t3 := Try.underlying3
  a3 := Try.isAgg3
  z3 := Try.sizeOf3
  v3 := Try.zeroValue3
  t4 := Try.underlying4
  a4 := Try.isAgg4
  z4 := Try.sizeOf4
  v4 := Try.zeroValue4
  t5 := Try.underlying5
  a5 := Try.isAgg5
  z5 := Try.sizeOf5
  v5 := Try.zeroValue5
  t9 := Try.underlying9
  a9 := Try.isAgg9
  z9 := Try.sizeOf9
  v9 := Try.zeroValue9
  t22 := Try.underlying27
  a22 := Try.isAgg27
  z22 := Try.sizeOf27
  v22 := Try.zeroValue27
  t25 := Try.underlying50
  a25 := Try.isAgg50
  z25 := Try.sizeOf50
  v25 := Try.zeroValue50
  t39 := Try.underlying60
  a39 := Try.isAgg60
  z39 := Try.sizeOf60
  v39 := Try.zeroValue60
  t45 := Try.underlying66
  a45 := Try.isAgg66
  z45 := Try.sizeOf66
  v45 := Try.zeroValue66
  t46 := Try.underlying67
  a46 := Try.isAgg67
  z46 := Try.sizeOf67
  v46 := Try.zeroValue67
  t50 := Try.underlying71
  a50 := Try.isAgg71
  z50 := Try.sizeOf71
  v50 := Try.zeroValue71
  t53 := Try.underlying74
  a53 := Try.isAgg74
  z53 := Try.sizeOf74
  v53 := Try.zeroValue74
  t55 := Try.underlying26
  a55 := Try.isAgg26
  z55 := Try.sizeOf26
  v55 := Try.zeroValue26
  t66 := Try.underlying75
  a66 := Try.isAgg75
  z66 := Try.sizeOf75
  v66 := Try.zeroValue75
  t70 := Try.underlying79
  a70 := Try.isAgg79
  z70 := Try.sizeOf79
  v70 := Try.zeroValue79
  t76 := Try.underlying81
  a76 := Try.isAgg81
  z76 := Try.sizeOf81
  v76 := Try.zeroValue81
  t77 := Try.underlying82
  a77 := Try.isAgg82
  z77 := Try.sizeOf82
  v77 := Try.zeroValue82
def cmpI (x y : Int) : Int := if x < y then -1 else if y < x then 1 else 0
def cmpDue (x y : alarm_Due) : Int := if cmpI x.At y.At ≠ 0 then cmpI x.At y.At else cmpI x.Key y.Key
instance : Inhabited alarm_Due := ⟨⟨0, 0⟩⟩
theorem cmp64 (x y : Int) : cmp_Compare_int64 x y = some (cmpI x y) := by
  unfold cmp_Compare_int64 cmp_isNaN_int64 cmpI
  by_cases h : x < y
  · simp [h]
  · by_cases h2 : y < x <;> simp [h, h2]
theorem cmpu64 (x y : Int) : cmp_Compare_uint64 x y = some (cmpI x y) := by
  unfold cmp_Compare_uint64 cmp_isNaN_uint64 cmpI
  by_cases h : x < y
  · simp [h]
  · by_cases h2 : y < x <;> simp [h, h2]
theorem or2 (a b : Int) : cmp_Or_int [a, b] = some (if a ≠ 0 then a else b) := by
  unfold cmp_Or_int
  by_cases ha : a = 0
  · subst ha
    have h0 : cmp_Or_int_l0 [0, b] 0 = some (.next 1) := by unfold cmp_Or_int_l0; simp [ix]; decide
    rw [loopF_next h0]
    by_cases hb : b = 0
    · subst hb
      have h1 : cmp_Or_int_l0 [0, 0] 1 = some (.next 2) := by unfold cmp_Or_int_l0; simp [ix]; decide
      have h2 : cmp_Or_int_l0 [0, 0] 2 = some (.brk 2) := by unfold cmp_Or_int_l0; simp
      rw [loopF_next h1, loopF_brk h2]
      rfl
    · have h1 : cmp_Or_int_l0 [0, b] 1 = some (.ret b) := by unfold cmp_Or_int_l0; simp [ix, hb]
      rw [loopF_ret h1]
      rfl
  · have h0 : cmp_Or_int_l0 [a, b] 0 = some (.ret a) := by unfold cmp_Or_int_l0; simp [ix, ha]
    rw [loopF_ret h0]
    simp [ha, Flow.el]
theorem set1 (x y : alarm_Due) : alarm_Table_Set_1 x y = some (cmpDue x y) := by
  unfold alarm_Table_Set_1 cmpDue
  simp [cmp64, cmpu64, or2]
theorem ltI (a b : Int) : (cmpI a b < 0 ↔ a < b) ∧ (cmpI a b = 0 ↔ a = b) := by
  unfold cmpI
  split
  · constructor <;> constructor <;> intro h <;> omega
  · split
    · constructor <;> constructor <;> intro h <;> omega
    · constructor <;> constructor <;> intro h <;> omega
theorem ltDue (x y : alarm_Due) : ltOf cmpDue x y = decide (x.At < y.At ∨ (x.At = y.At ∧ x.Key < y.Key)) := by
  have h1 := ltI x.At y.At
  have h2 := ltI x.Key y.Key
  unfold ltOf cmpDue
  by_cases h : cmpI x.At y.At = 0
  · have e := h1.2.1 h
    rw [if_neg (by simp [h]), decide_eq_decide, h2.1]
    omega
  · have hne : x.At ≠ y.At := fun e => h (h1.2.2 e)
    simp only [h, ne_eq, not_false_eq_true, if_true, h1.1, hne, false_and, or_false]
theorem swoDue : SWO (ltOf cmpDue) where
  irrefl x := by rw [ltDue]; simp
  trans x y z h1 h2 := by rw [ltDue] at *; simp at *; omega
  ntrans x y z h1 h2 := by rw [ltDue] at *; simp at *; omega
def encDue (x : alarm_Due) : List Value := [.int .i64 x.At, .int .u64 x.Key]
theorem call16 (x y : alarm_Due) (W : World) : Calls Try.prog 16 (#[.agg (encDue x).toArray, .agg (encDue y).toArray] ++ #[]) W (Re fun v w1 => ∃ S0 S1 L, v = .int .i64 (cmpDue x y) ∧ St W [] S0 S1 L w1) := by
  have h := c16 (fun _ => none) (St.start W (fun _ => none) (fun _ _ e => by cases e)) x y _ (set1 x y)
  refine h.mono fun e w1 ⟨v, he, S1, hv, hst⟩ => ⟨v, he, _, S1, _, hv, hst⟩
noncomputable def sortDue (p : List alarm_Due) : List alarm_Due := (Sort.pdq (ltOf cmpDue) p.toArray 0 p.toArray.size (Lib.bitLen p.toArray.size) true true).toList
noncomputable def slices_SortFunc_alarm_Due (p : List alarm_Due) : Option (List alarm_Due) := if p.isEmpty = true ∨ 4611686018427387904 ≤ p.length then none else some (sortDue p)
def Po15 (S0 : Mp) (w0 : World) (D : List Nat) (v0 : Value) (r : List alarm_Due) (v : Value) (w1 : World) : Prop :=
  ∃ (S1 : Mp) (g : Option Nat) (cur : Array Value), v = .tuple #[] ∧ St w0 D S0 S1 [.row g cur 30] w1 ∧ Rw S1 2 R_alarm_Due g cur v0 r
theorem c15 (S0 : Mp) {w0 : World} (p_0 : List alarm_Due) (v : Value) (g : Option Nat) (cur : Array Value) (f : Rw S0 2 R_alarm_Due g cur v p_0) (hs : St w0 g.toList S0 S0 [.row g cur 30] w0) (r : List alarm_Due) (h0 : slices_SortFunc_alarm_Due p_0 = some r) :
    Calls Try.prog 15 #[v, .func (.func 16) #[] #[]] w0 (Re (Po15 S0 w0 g.toList v r)) := by
  unfold slices_SortFunc_alarm_Due at h0
  cases g with
  | none => obtain ⟨_, rfl⟩ := f; simp at h0
  | some b =>
    have hn : ¬ (p_0.isEmpty = true ∨ 4611686018427387904 ≤ p_0.length) := fun q => by rw [if_pos q] at h0; cases h0
    rw [if_neg hn] at h0
    obtain rfl := some_s h0
    have hlen : p_0.length < 4611686018427387904 := by omega
    have hH := Rw.holds (enc := encDue) hs 0 rfl f (fun S vals x h => h) (fun _ => rfl)
    have hrow := hs.rowheap 0 rfl
    have hb : b < w0.heap.size := (Array.getElem?_eq_some_iff.1 hrow).1
    have hlt := f.lt
    obtain ⟨cap, hv, c1, c2, c3, hF⟩ := id f
    subst hv
    have eg : ∀ args w, (callFunc 16 args).run Try.prog w = .ok (.enter 16 args) w := Try.call16
    have hcon := AnyQ.slices_SortFunc_eq lay15 2 Try.isAgg30 Try.sizeOf30 encDue (fun _ => rfl) (fun x v hv => by simp [encDue] at hv; rcases hv with rfl | rfl <;> rfl) cmpDue swoDue 16 #[] b 0 cap p_0.toArray w0 eg (cmpLays_of call16) hH hb (by simpa using hlen)
    refine Calls.mono hcon fun e w1 ⟨he, n, os, hw⟩ => ?_
    have hp := pdq_sorts (ltOf cmpDue) swoDue p_0.toArray 0 p_0.toArray.size (Lib.bitLen p_0.toArray.size) true true (Nat.zero_le _) (Nat.le_refl _) (Or.inl rfl)
    obtain ⟨cur', h1, h2⟩ := hs.sortRow (enc := encDue) 0 rfl f (fun _ _ => rfl) (fun _ => rfl) (fun x v hv => by simp [encDue] at hv; rcases hv with rfl | rfl <;> rfl) (d' := Sort.pdq (ltOf cmpDue) p_0.toArray 0 p_0.toArray.size (Lib.bitLen p_0.toArray.size) true true) (by rw [hp.1.1]; simp) n os
    rw [← hw] at h1
    exact ⟨_, he, S0, some b, cur', rfl, h1, h2⟩
end Go.Lk
