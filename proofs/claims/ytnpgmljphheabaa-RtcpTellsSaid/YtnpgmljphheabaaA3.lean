/- A part of this proof: RtcpTells returns true for every input and leaves its arguments as they were; there are no conditions. -/
import Derived.Test.YtnpgmljphheabaaA2
set_option linter.unusedVariables false
set_option linter.unusedSimpArgs false
namespace Go.Lk
open Go.RowKit
def I64 (n : Int) : Prop := -9223372036854775808 ≤ n ∧ n ≤ 9223372036854775807
def U64 (n : Int) : Prop := 0 ≤ n ∧ n ≤ 18446744073709551615
def U32 (n : Int) : Prop := 0 ≤ n ∧ n ≤ 4294967295
def WT (t : api_Tuple) : Prop := U32 t.Owner ∧ U64 t.Rate ∧ I64 t.Over
structure WR (r : api_Report) : Prop where
  kind : I64 r.Kind
  from_ : U32 r.From
  about : U32 r.About
  tuples : ∀ t ∈ r.Tuples, WT t
  abouts : ∀ n ∈ r.Abouts, U32 n
  numbers : ∀ n ∈ r.Numbers, I64 n
  rate : U64 r.Rate
  type : I64 r.Type_
  count : I64 r.Count
  body : Byt r.Body
  lt : r.Tuples.length ≤ 1000
  la : r.Abouts.length ≤ 1000
  ln : r.Numbers.length ≤ 1000
  lb : r.Body.length ≤ 140737488355328
instance : DecidableEq api_Tuple := fun a b => decidable_of_iff (a.Owner = b.Owner ∧ a.Rate = b.Rate ∧ a.Over = b.Over) (by cases a; cases b; simp)
instance : DecidableEq api_Report := fun a b => decidable_of_iff (a.Kind = b.Kind ∧ a.From = b.From ∧ a.About = b.About ∧ a.Tuples = b.Tuples ∧ a.Abouts = b.Abouts ∧ a.Numbers = b.Numbers ∧ a.Rate = b.Rate ∧ a.Type_ = b.Type_ ∧ a.Count = b.Count ∧ a.Body = b.Body) (by cases a; cases b; simp)
def tupOk (t : api_Tuple) : Bool := decide (0 ≤ t.Over) && decide (t.Over ≤ 511) && decide (downR 17 t.Rate = t.Rate)
def kindOf (t c : Int) : Int :=
  if t = 205 ∧ c = 3 then 1 else if t = 205 ∧ c = 4 then 2 else if t = 206 ∧ c = 1 then 3 else if t = 206 ∧ c = 4 then 4 else if t = 206 ∧ c = 15 then 5 else 6
def valB (r : api_Report) : Bool :=
  if r.Kind = 1 ∨ r.Kind = 2 then decide (r.Tuples.length ≤ 6) && r.Tuples.all tupOk
  else if r.Kind = 4 then decide (r.Numbers.length = r.Abouts.length) && decide (1 ≤ r.Abouts.length) && decide (r.Abouts.length ≤ 16) && r.Numbers.all (fun n => decide (0 ≤ n) && decide (n ≤ 255))
  else if r.Kind = 5 then decide (r.Abouts.length ≤ 16) && decide (downR 18 r.Rate = r.Rate)
  else if r.Kind = 6 then decide (192 ≤ r.Type_) && decide (r.Type_ ≤ 223) && decide (0 ≤ r.Count) && decide (r.Count ≤ 31) && decide (r.Body.length % 4 = 0) && decide (r.Body.length ≤ 262140) && decide (kindOf r.Type_ r.Count = 6)
  else true
def fldB (r : api_Report) : Bool :=
  (decide (r.Kind = 1) || decide (r.Kind = 2) || decide (r.Tuples.length = 0)) && (decide (r.Kind = 3) || decide (r.About = 0)) && (decide (r.Kind = 4) || decide (r.Numbers.length = 0)) &&
  (decide (r.Kind = 4) || decide (r.Kind = 5) || decide (r.Abouts.length = 0)) && (decide (r.Kind = 5) || decide (r.Rate = 0)) &&
  (decide (r.Kind = 6) || decide (r.Type_ = 0) && decide (r.Count = 0) && decide (r.Body.length = 0)) && (!decide (r.Kind = 6) || decide (r.From = 0))
def rightE (r : api_Report) : Int := if r.Kind < 1 ∨ 6 < r.Kind then 12 else if valB r = false then 1 else if fldB r = false then 12 else 0
theorem kind_eq (t c : Int) : rtcp_kind t c = some (kindOf t c) := by
  unfold rtcp_kind kindOf
  simp only [Bool.and_eq_true, beq_iff_eq]
  repeat' split
  all_goals rfl
theorem kindOf_le (t c : Int) : 1 ≤ kindOf t c ∧ kindOf t c ≤ 6 := by
  unfold kindOf
  repeat' split
  all_goals omega
theorem known_eq (t c : Int) : limelightref6_known t c = some (decide (kindOf t c ≠ 6)) := by
  unfold limelightref6_known kindOf
  congr 1
  rw [Bool.eq_iff_iff]
  simp only [Bool.or_eq_true, Bool.and_eq_true, beq_iff_eq, decide_eq_true_iff]
  repeat' split
  all_goals simp
  all_goals omega
theorem tuples_find {l : List api_Tuple} (hl : ∀ t ∈ l, WT t) (hn : l.length ≤ 1000) : slices_ContainsFunc_api_Tuple l rtcp_values_1 = some (l.any fun t => !tupOk t) := by
  have h1 : ∀ t, WT t → rtcp_values_1 t = some (!tupOk t) := fun t ht => by
    unfold rtcp_values_1
    rw [show (17 : Int) = ((17 : Nat) : Int) from rfl, rate_Down_eq (b := 17) (by decide) ht.2.1]
    by_cases h0 : ((decide (t.Over < 0)) || (decide (511 < t.Over))) = true
    · rw [if_pos h0]
      simp only [Option.bind_some]
      congr 1
      simp at h0
      unfold tupOk
      rcases h0 with h0 | h0
      · rw [decide_eq_false (by omega)]; simp
      · rw [decide_eq_false (p := t.Over ≤ 511) (by omega)]; simp
    · rw [if_neg h0]
      simp only [Option.bind_some]
      congr 1
      simp at h0
      unfold tupOk
      rw [decide_eq_true h0.1, decide_eq_true h0.2]
      rw [Bool.eq_iff_iff]; simp
  unfold slices_ContainsFunc_api_Tuple slices_IndexFunc_api_Tuple
  rw [loopF_find l (fun t => !tupOk t) (fun k => (k : Int)) (fun k => (k : Int)) (s0 := 0) (s' := (l.length : Int)) rfl]
  · by_cases ha : (l.any fun t => !tupOk t) = true
    · rw [if_pos ha, ha]; simp [Flow.el]
    · rw [if_neg ha]; rw [Bool.eq_false_iff.2 ha]; rfl
  · intro k x hx hp
    have hk : k < l.length := (List.getElem?_eq_some_iff.1 hx).1
    simp only [slices_IndexFunc_api_Tuple_l0]
    rw [if_pos (by simpa using hk), ix_nat, hx]
    simp only [Option.bind_some]
    rw [h1 x (hl x (List.mem_of_getElem? hx)), hp, add_i64 (by omega)]
    simp
  · intro k x hx hp
    have hk : k < l.length := (List.getElem?_eq_some_iff.1 hx).1
    simp only [slices_IndexFunc_api_Tuple_l0]
    rw [if_pos (by simpa using hk), ix_nat, hx]
    simp only [Option.bind_some]
    rw [h1 x (hl x (List.mem_of_getElem? hx)), hp]
    simp
  · simp [slices_IndexFunc_api_Tuple_l0]
theorem numbers_find {l : List Int} (hn : l.length ≤ 1000) : slices_ContainsFunc_int l rtcp_values_2 = some (l.any fun n => !(decide (0 ≤ n) && decide (n ≤ 255))) := by
  have h1 : ∀ n, rtcp_values_2 n = some (!(decide (0 ≤ n) && decide (n ≤ 255))) := fun n => by
    unfold rtcp_values_2
    congr 1
    rw [Bool.eq_iff_iff]; simp
  unfold slices_ContainsFunc_int slices_IndexFunc_int
  rw [loopF_find l (fun n => !(decide (0 ≤ n) && decide (n ≤ 255))) (fun k => (k : Int)) (fun k => (k : Int)) (s0 := 0) (s' := (l.length : Int)) rfl]
  · by_cases ha : (l.any fun n => !(decide (0 ≤ n) && decide (n ≤ 255))) = true
    · rw [if_pos ha, ha]; simp [Flow.el]
    · rw [if_neg ha, Bool.eq_false_iff.2 ha]; rfl
  · intro k x hx hp
    have hk : k < l.length := (List.getElem?_eq_some_iff.1 hx).1
    simp only [slices_IndexFunc_int_l0]
    rw [if_pos (by simpa using hk), ix_nat, hx]
    simp only [Option.bind_some]
    rw [h1 x, hp, add_i64 (by omega)]
    simp
  · intro k x hx hp
    have hk : k < l.length := (List.getElem?_eq_some_iff.1 hx).1
    simp only [slices_IndexFunc_int_l0]
    rw [if_pos (by simpa using hk), ix_nat, hx]
    simp only [Option.bind_some]
    rw [h1 x, hp]
    simp
  · simp [slices_IndexFunc_int_l0]
theorem all_any {α : Type} (l : List α) (p : α → Bool) : l.all p = !(l.any fun x => !p x) := by
  induction l with
  | nil => rfl
  | cons a l ih => simp only [List.all_cons, List.any_cons, ih]; cases p a <;> simp
theorem values_eq {r : api_Report} (h : WR r) : rtcp_values r = some (valB r) := by
  have hr := h.rate
  unfold rtcp_values valB
  by_cases h12 : r.Kind = 1 ∨ r.Kind = 2
  · rw [if_pos h12]
    have e1 : ((if (r.Kind == 1) = true then some (r.Kind == 1) else some (r.Kind == 2) : Option Bool)) = some true := by
      rcases h12 with h | h <;> simp [h]
    rw [e1]
    simp only [Option.bind_some, if_true]
    rw [tuples_find h.tuples h.lt, all_any]
    by_cases hl : r.Tuples.length ≤ 6
    · rw [if_pos (by simp; omega), decide_eq_true hl]; simp
    · rw [if_neg (by simp; omega), decide_eq_false hl]; simp
  · rw [if_neg h12]
    have h1 : r.Kind ≠ 1 := fun e => h12 (.inl e)
    have h2 : r.Kind ≠ 2 := fun e => h12 (.inr e)
    have e1 : ((if (r.Kind == 1) = true then some (r.Kind == 1) else some (r.Kind == 2) : Option Bool)) = some false := by
      simp [h1, h2]
    rw [e1]
    simp only [Option.bind_some, Bool.false_eq_true, if_false]
    by_cases h4 : r.Kind = 4
    · rw [if_pos (by simpa using h4), if_pos h4, numbers_find h.ln]
      by_cases hc : r.Numbers.length = r.Abouts.length ∧ 1 ≤ r.Abouts.length ∧ r.Abouts.length ≤ 16
      · rw [if_pos (by simp; omega), decide_eq_true hc.1, decide_eq_true hc.2.1, decide_eq_true hc.2.2, all_any]; simp
      · rw [if_neg (by simp; omega)]
        have : (decide (r.Numbers.length = r.Abouts.length) && decide (1 ≤ r.Abouts.length) && decide (r.Abouts.length ≤ 16)) = false := by
          rw [Bool.eq_false_iff]; simp; omega
        rw [this]; simp
    · rw [if_neg (by simpa using h4), if_neg h4]
      by_cases h5 : r.Kind = 5
      · rw [if_pos (by simpa using h5), if_pos h5, show (18 : Int) = ((18 : Nat) : Int) from rfl, rate_Down_eq (b := 18) (by decide) h.rate]
        by_cases hl : r.Abouts.length ≤ 16
        · rw [if_pos (by simp; omega), decide_eq_true hl]; simp [beq_dec]
        · rw [if_neg (by simp; omega), decide_eq_false hl]; simp
      · rw [if_neg (by simpa using h5), if_neg h5]
        by_cases h6 : r.Kind = 6
        · rw [if_pos (by simpa using h6), if_pos h6, kind_eq, rem_nn (by omega)]
          by_cases hc : 192 ≤ r.Type_ ∧ r.Type_ ≤ 223 ∧ 0 ≤ r.Count ∧ r.Count ≤ 31 ∧ r.Body.length % 4 = 0 ∧ r.Body.length ≤ 262140
          · rw [if_pos (by simp; omega), decide_eq_true hc.1, decide_eq_true hc.2.1, decide_eq_true hc.2.2.1, decide_eq_true hc.2.2.2.1, decide_eq_true hc.2.2.2.2.1, decide_eq_true hc.2.2.2.2.2]
            simp [beq_dec]
          · rw [if_neg (by simp; omega)]
            have : (decide (192 ≤ r.Type_) && decide (r.Type_ ≤ 223) && decide (0 ≤ r.Count) && decide (r.Count ≤ 31) && decide (r.Body.length % 4 = 0) && decide (r.Body.length ≤ 262140)) = false := by
              rw [Bool.eq_false_iff]; simp; omega
            rw [this]; simp
        · rw [if_neg (by simpa using h6), if_neg h6]
theorem fields_eq (r : api_Report) : rtcp_fields r = some (fldB r) := by
  unfold rtcp_fields fldB
  congr 1
  have e : ∀ n : Nat, ((n : Int) == 0) = decide (n = 0) := fun n => by rw [Bool.eq_iff_iff]; simp
  simp only [e, beq_dec]
theorem rtcp_Right_eq {r : api_Report} (h : WR r) : rtcp_Right r = some (rightE r) := by
  unfold rtcp_Right rightE
  rw [values_eq h, fields_eq]
  by_cases hk : r.Kind < 1 ∨ 6 < r.Kind
  · rw [if_pos (by simpa using hk), if_pos hk]
  · rw [if_neg (by simpa using hk), if_neg hk]
    simp only [Option.bind_some]
    cases valB r <;> cases fldB r <;> simp
theorem ref_tuples_eq {l : List api_Tuple} (hl : ∀ t ∈ l, WT t) (hn : l.length ≤ 1000) : limelightref6_tuples l = some (decide (l.length ≤ 6) && l.all tupOk) := by
  have h1 : ∀ t, WT t → ((if ((decide (t.Over < 0)) || (decide (511 < t.Over))) = true then some true else (limelightref1_Down t.Rate 17).bind fun x47 => some (x47 != t.Rate) : Option Bool)) = some (!tupOk t) := fun t ht => by
    rw [show (17 : Int) = ((17 : Nat) : Int) from rfl, ref_Down_eq (b := 17) (by decide) ht.2.1]
    by_cases h0 : ((decide (t.Over < 0)) || (decide (511 < t.Over))) = true
    · rw [if_pos h0]
      congr 1
      simp at h0
      unfold tupOk
      rcases h0 with h0 | h0
      · rw [decide_eq_false (by omega)]; simp
      · rw [decide_eq_false (p := t.Over ≤ 511) (by omega)]; simp
    · rw [if_neg h0]
      simp only [Option.bind_some]
      congr 1
      simp at h0
      unfold tupOk
      rw [decide_eq_true h0.1, decide_eq_true h0.2]
      rw [Bool.eq_iff_iff]; simp
  unfold limelightref6_tuples
  rw [loopF_find l (fun t => !tupOk t) (fun k => (k : Int)) (fun _ => false) (s0 := 0) (s' := (l.length : Int)) rfl, all_any]
  · by_cases ha : (l.any fun t => !tupOk t) = true
    · rw [if_pos ha, ha]; simp [Flow.el]
    · rw [if_neg ha, Bool.eq_false_iff.2 ha]; simp [Flow.el]; omega
  · intro k x hx hp
    have hk : k < l.length := (List.getElem?_eq_some_iff.1 hx).1
    simp only [limelightref6_tuples_l0]
    rw [if_pos (by simpa using hk), ix_nat, hx]
    simp only [Option.bind_some]
    rw [h1 x (hl x (List.mem_of_getElem? hx)), hp, add_i64 (by omega)]
    simp [Flow.el]
  · intro k x hx hp
    have hk : k < l.length := (List.getElem?_eq_some_iff.1 hx).1
    simp only [limelightref6_tuples_l0]
    rw [if_pos (by simpa using hk), ix_nat, hx]
    simp only [Option.bind_some]
    rw [h1 x (hl x (List.mem_of_getElem? hx)), hp]
    simp [Flow.el]
  · simp [limelightref6_tuples_l0]
theorem empty_eq (r : api_Report) : limelightref6_empty r = some (fldB r) := by
  unfold limelightref6_empty fldB
  by_cases h1 : ((((r.Kind == 6) && (r.From != 0)) || ((r.Kind != 3) && (r.About != 0))) || (((r.Kind != 1) && (r.Kind != 2)) && (decide (0 < (r.Tuples.length : Int))))) = true
  · rw [if_pos h1]
    congr 1
    symm
    rw [Bool.eq_false_iff]
    simp only [Bool.or_eq_true, Bool.and_eq_true, decide_eq_true_iff, beq_iff_eq, bne_iff_ne, Bool.not_eq_true', decide_eq_false_iff_not, ne_eq] at h1 ⊢
    omega
  · rw [if_neg h1]
    by_cases h2 : (((((r.Kind != 4) && (r.Kind != 5)) && (decide (0 < (r.Abouts.length : Int)))) || ((r.Kind != 4) && (decide (0 < (r.Numbers.length : Int))))) || ((r.Kind != 5) && (r.Rate != 0))) = true
    · rw [if_pos h2]
      congr 1
      symm
      rw [Bool.eq_false_iff]
      simp only [Bool.or_eq_true, Bool.and_eq_true, decide_eq_true_iff, beq_iff_eq, bne_iff_ne, Bool.not_eq_true', decide_eq_false_iff_not, ne_eq] at h1 h2 ⊢
      omega
    · rw [if_neg h2]
      congr 1
      rw [Bool.eq_iff_iff]
      simp only [Bool.or_eq_true, Bool.and_eq_true, decide_eq_true_iff, beq_iff_eq, bne_iff_ne, Bool.not_eq_true', decide_eq_false_iff_not, ne_eq] at h1 h2 ⊢
      omega
theorem numbers_loop (r : api_Report) (hn : r.Numbers.length ≤ 1000) (b : Bool) : loopF (fun sg => limelightref6_Right_l0 r sg.1 sg.2) (b, 0) = some (.brk (b && r.Numbers.all (fun n => decide (0 ≤ n) && decide (n ≤ 255)), (r.Numbers.length : Int))) := by
  refine loopF_up (fun k => (b && (r.Numbers.take k).all (fun n => decide (0 ≤ n) && decide (n ≤ 255)), (k : Int))) r.Numbers.length (by simp) (fun k hk => ?_) ?_
  · obtain ⟨x, hx⟩ := get_some hk
    simp only [limelightref6_Right_l0]
    rw [if_pos (by simpa using hk), ix_nat, hx, add_i64 (by omega), snoc_take hx]
    simp [Bool.and_assoc]
  · simp only [limelightref6_Right_l0]
    rw [if_neg (by simp), List.take_length]
theorem ref_Right_eq {r : api_Report} (h : WR r) : limelightref6_Right r = some (rightE r) := by
  have hr := h.rate
  unfold limelightref6_Right rightE
  by_cases hk : r.Kind < 1 ∨ 6 < r.Kind
  · rw [if_pos (by simpa using hk), if_pos hk]
  · rw [if_neg (by simpa using hk), if_neg hk]
    have key : ∀ x : Option Bool, x = some (valB r) → (x.bind fun p14 => if (!p14) = true then some (1 : Int) else (limelightref6_empty r).bind fun x21 => if (!x21) = true then some 12 else some 0) = some (if valB r = false then 1 else if fldB r = false then 12 else 0) := by
      intro x hx
      rw [hx, empty_eq]
      simp only [Option.bind_some]
      cases valB r <;> cases fldB r <;> simp
    refine key _ ?_
    clear key
    unfold valB
    by_cases h12 : r.Kind = 1 ∨ r.Kind = 2
    · rw [if_pos h12]
      have e1 : ((if (r.Kind == 1) = true then some (r.Kind == 1) else some (r.Kind == 2) : Option Bool)) = some true := by
        rcases h12 with h | h <;> simp [h]
      rw [e1]
      simp only [Option.bind_some, if_true]
      rw [ref_tuples_eq h.tuples h.lt]
      rfl
    · rw [if_neg h12]
      have h1 : r.Kind ≠ 1 := fun e => h12 (.inl e)
      have h2 : r.Kind ≠ 2 := fun e => h12 (.inr e)
      have e1 : ((if (r.Kind == 1) = true then some (r.Kind == 1) else some (r.Kind == 2) : Option Bool)) = some false := by
        simp [h1, h2]
      rw [e1]
      simp only [Option.bind_some, Bool.false_eq_true, if_false]
      by_cases h4 : r.Kind = 4
      · rw [if_pos (by simpa using h4), if_pos h4, numbers_loop r h.ln]
        simp only [Option.bind_some, Flow.el]
        congr 1
        congr 1
        rw [Bool.eq_iff_iff]
        simp only [Bool.and_eq_true, decide_eq_true_iff, beq_iff_eq]
        omega
      · rw [if_neg (by simpa using h4), if_neg h4]
        by_cases h5 : r.Kind = 5
        · rw [if_pos (by simpa using h5), if_pos h5, show (18 : Int) = ((18 : Nat) : Int) from rfl, ref_Down_eq (b := 18) (by decide) h.rate]
          by_cases hl : r.Abouts.length ≤ 16
          · rw [if_pos (by simp; omega), decide_eq_true hl]; simp [beq_dec]
          · rw [if_neg (by simp; omega), decide_eq_false hl]; simp
        · rw [if_neg (by simpa using h5), if_neg h5]
          by_cases h6 : r.Kind = 6
          · rw [if_pos (by simpa using h6), if_pos h6, known_eq, rem_nn (by omega)]
            by_cases hc : 192 ≤ r.Type_ ∧ r.Type_ ≤ 223 ∧ 0 ≤ r.Count ∧ r.Count ≤ 31 ∧ r.Body.length % 4 = 0 ∧ r.Body.length ≤ 262140
            · rw [if_pos (by simp; omega), decide_eq_true hc.1, decide_eq_true hc.2.1, decide_eq_true hc.2.2.1, decide_eq_true hc.2.2.2.1, decide_eq_true hc.2.2.2.2.1, decide_eq_true hc.2.2.2.2.2]
              simp
            · rw [if_neg (by simp; omega)]
              have : (decide (192 ≤ r.Type_) && decide (r.Type_ ≤ 223) && decide (0 ≤ r.Count) && decide (r.Count ≤ 31) && decide (r.Body.length % 4 = 0) && decide (r.Body.length ≤ 262140)) = false := by
                rw [Bool.eq_false_iff]; simp; omega
              rw [this]; simp
          · rw [if_neg (by simpa using h6), if_neg h6]; rfl
theorem tupE (x y : api_Tuple) : ((x.Owner == y.Owner) && ((x.Rate == y.Rate) && ((x.Over == y.Over) && true))) = decide (x = y) := by
  rw [Bool.eq_iff_iff]
  cases x; cases y
  simp
theorem intE (x y : Int) : (x == y) = decide (x = y) := beq_dec x y
theorem Tuples_eq {a b : List api_Tuple} (ha : a.length ≤ 1000000000) : limelightref6_Tuples a b = some (decide (a = b)) := by
  unfold limelightref6_Tuples
  by_cases hl : a.length = b.length
  · rw [if_neg (by simp [hl]), loopF_two a b (fun x y => (x.Owner == y.Owner) && ((x.Rate == y.Rate) && ((x.Over == y.Over) && true))) hl (fun k => (k : Int)) (s0 := 0) (s' := (a.length : Int)) rfl, all2_eq tupE]
    · by_cases h : a = b
      · rw [if_pos (by simpa using h), decide_eq_true h]; rfl
      · rw [if_neg (by simpa using h), decide_eq_false h]; rfl
    · intro k x y hx hy he
      have hk : k < a.length := (List.getElem?_eq_some_iff.1 hx).1
      simp only [limelightref6_Tuples_l0]
      rw [if_pos (by simpa using hk), ix_nat, hx, ix_nat, hy]
      simp only [Option.bind_some]
      rw [he, add_i64 (by omega)]
      simp
    · intro k x y hx hy he
      have hk : k < a.length := (List.getElem?_eq_some_iff.1 hx).1
      simp only [limelightref6_Tuples_l0]
      rw [if_pos (by simpa using hk), ix_nat, hx, ix_nat, hy]
      simp only [Option.bind_some]
      rw [he]
      simp
    · simp [limelightref6_Tuples_l0]
  · rw [if_pos (by simp; omega), decide_eq_false fun e => hl (by rw [e])]
theorem nums_eq {a b : List Int} (ha : a.length ≤ 140737488355328) : limelightref6_nums a b = some (decide (a = b)) := by
  unfold limelightref6_nums
  by_cases hl : a.length = b.length
  · rw [if_neg (by simp [hl]), loopF_two a b (fun x y => x == y) hl (fun k => (k : Int)) (s0 := 0) (s' := (a.length : Int)) rfl, all2_eq intE]
    · by_cases h : a = b
      · rw [if_pos (by simpa using h), decide_eq_true h]; rfl
      · rw [if_neg (by simpa using h), decide_eq_false h]; rfl
    · intro k x y hx hy he
      have hk : k < a.length := (List.getElem?_eq_some_iff.1 hx).1
      simp only [limelightref6_nums_l0]
      rw [if_pos (by simpa using hk), ix_nat, hx, ix_nat, hy]
      simp only [Option.bind_some]
      rw [if_neg (by rw [bne, he]; simp), add_i64 (by omega)]
      rfl
    · intro k x y hx hy he
      have hk : k < a.length := (List.getElem?_eq_some_iff.1 hx).1
      simp only [limelightref6_nums_l0]
      rw [if_pos (by simpa using hk), ix_nat, hx, ix_nat, hy]
      simp only [Option.bind_some]
      rw [if_pos (by rw [bne, he]; rfl)]
    · simp [limelightref6_nums_l0]
  · rw [if_pos (by simp; omega), decide_eq_false fun e => hl (by rw [e])]
theorem eqT_eq {a b : List api_Tuple} (ha : a.length ≤ 140737488355328) : slices_Equal_api_Tuple a b = some (decide (a = b)) := by
  unfold slices_Equal_api_Tuple
  by_cases hl : a.length = b.length
  · rw [if_neg (by simp [hl]), loopF_two a b (fun x y => (x.Owner == y.Owner) && ((x.Rate == y.Rate) && ((x.Over == y.Over) && true))) hl (fun k => (k : Int)) (s0 := 0) (s' := (a.length : Int)) rfl, all2_eq tupE]
    · by_cases h : a = b
      · rw [if_pos (by simpa using h), decide_eq_true h]; rfl
      · rw [if_neg (by simpa using h), decide_eq_false h]; rfl
    · intro k x y hx hy he
      have hk : k < a.length := (List.getElem?_eq_some_iff.1 hx).1
      simp only [slices_Equal_api_Tuple_l0]
      rw [if_pos (by simpa using hk), ix_nat, hx, ix_nat, hy]
      simp only [Option.bind_some]
      skip
      rw [he, add_i64 (by omega)]
      simp
    · intro k x y hx hy he
      have hk : k < a.length := (List.getElem?_eq_some_iff.1 hx).1
      simp only [slices_Equal_api_Tuple_l0]
      rw [if_pos (by simpa using hk), ix_nat, hx, ix_nat, hy]
      simp only [Option.bind_some]
      skip
      rw [he]
      simp
    · simp [slices_Equal_api_Tuple_l0]
  · rw [if_pos (by simp; omega), decide_eq_false fun e => hl (by rw [e])]
theorem eq_uint32 {a b : List Int} (ha : a.length ≤ 140737488355328) : slices_Equal_uint32 a b = some (decide (a = b)) := by
  unfold slices_Equal_uint32
  by_cases hl : a.length = b.length
  · rw [if_neg (by simp [hl]), loopF_two a b (fun x y => x == y) hl (fun k => (k : Int)) (s0 := 0) (s' := (a.length : Int)) rfl, all2_eq intE]
    · by_cases h : a = b
      · rw [if_pos (by simpa using h), decide_eq_true h]; rfl
      · rw [if_neg (by simpa using h), decide_eq_false h]; rfl
    · intro k x y hx hy he
      have hk : k < a.length := (List.getElem?_eq_some_iff.1 hx).1
      simp only [slices_Equal_uint32_l0]
      rw [if_pos (by simpa using hk), ix_nat, hx, ix_nat, hy]
      simp only [Option.bind_some]
      rw [if_neg (by rw [bne, he]; simp), add_i64 (by omega)]
      rfl
    · intro k x y hx hy he
      have hk : k < a.length := (List.getElem?_eq_some_iff.1 hx).1
      simp only [slices_Equal_uint32_l0]
      rw [if_pos (by simpa using hk), ix_nat, hx, ix_nat, hy]
      simp only [Option.bind_some]
      rw [if_pos (by rw [bne, he]; rfl)]
    · simp [slices_Equal_uint32_l0]
  · rw [if_pos (by simp; omega), decide_eq_false fun e => hl (by rw [e])]
theorem eq_int {a b : List Int} (ha : a.length ≤ 140737488355328) : slices_Equal_int a b = some (decide (a = b)) := by
  unfold slices_Equal_int
  by_cases hl : a.length = b.length
  · rw [if_neg (by simp [hl]), loopF_two a b (fun x y => x == y) hl (fun k => (k : Int)) (s0 := 0) (s' := (a.length : Int)) rfl, all2_eq intE]
    · by_cases h : a = b
      · rw [if_pos (by simpa using h), decide_eq_true h]; rfl
      · rw [if_neg (by simpa using h), decide_eq_false h]; rfl
    · intro k x y hx hy he
      have hk : k < a.length := (List.getElem?_eq_some_iff.1 hx).1
      simp only [slices_Equal_int_l0]
      rw [if_pos (by simpa using hk), ix_nat, hx, ix_nat, hy]
      simp only [Option.bind_some]
      rw [if_neg (by rw [bne, he]; simp), add_i64 (by omega)]
      rfl
    · intro k x y hx hy he
      have hk : k < a.length := (List.getElem?_eq_some_iff.1 hx).1
      simp only [slices_Equal_int_l0]
      rw [if_pos (by simpa using hk), ix_nat, hx, ix_nat, hy]
      simp only [Option.bind_some]
      rw [if_pos (by rw [bne, he]; rfl)]
    · simp [slices_Equal_int_l0]
  · rw [if_pos (by simp; omega), decide_eq_false fun e => hl (by rw [e])]
theorem eq_byte {a b : List Int} (ha : a.length ≤ 140737488355328) : slices_Equal_byte a b = some (decide (a = b)) := by
  unfold slices_Equal_byte
  by_cases hl : a.length = b.length
  · rw [if_neg (by simp [hl]), loopF_two a b (fun x y => x == y) hl (fun k => (k : Int)) (s0 := 0) (s' := (a.length : Int)) rfl, all2_eq intE]
    · by_cases h : a = b
      · rw [if_pos (by simpa using h), decide_eq_true h]; rfl
      · rw [if_neg (by simpa using h), decide_eq_false h]; rfl
    · intro k x y hx hy he
      have hk : k < a.length := (List.getElem?_eq_some_iff.1 hx).1
      simp only [slices_Equal_byte_l0]
      rw [if_pos (by simpa using hk), ix_nat, hx, ix_nat, hy]
      simp only [Option.bind_some]
      rw [if_neg (by rw [bne, he]; simp), add_i64 (by omega)]
      rfl
    · intro k x y hx hy he
      have hk : k < a.length := (List.getElem?_eq_some_iff.1 hx).1
      simp only [slices_Equal_byte_l0]
      rw [if_pos (by simpa using hk), ix_nat, hx, ix_nat, hy]
      simp only [Option.bind_some]
      rw [if_pos (by rw [bne, he]; rfl)]
    · simp [slices_Equal_byte_l0]
  · rw [if_pos (by simp; omega), decide_eq_false fun e => hl (by rw [e])]
theorem rtcp_Same_eq {a b : api_Report} (ha : WR a) : rtcp_Same a b = some (decide (a = b)) := by
  have h1 := ha.lt
  have h2 := ha.la
  have h3 := ha.ln
  unfold rtcp_Same
  rw [eqT_eq (by omega), eq_uint32 (by omega), eq_int (by omega), eq_byte ha.lb]
  simp only [Option.bind_some, Option.bind_some]
  by_cases e : a = b
  · subst e; simp
  · rw [decide_eq_false e]
    cases a with | mk k f ab t q n r ty c bd =>
    cases b with | mk k' f' ab' t' q' n' r' ty' c' bd' =>
    simp only [api_Report.mk.injEq, not_and] at e
    by_cases e1 : k = k' ∧ f = f' ∧ ab = ab'
    · obtain ⟨rfl, rfl, rfl⟩ := e1
      by_cases e2 : t = t'
      · subst e2
        by_cases e3 : q = q'
        · subst e3
          by_cases e4 : n = n' ∧ r = r' ∧ ty = ty' ∧ c = c'
          · obtain ⟨rfl, rfl, rfl, rfl⟩ := e4
            have := e rfl rfl rfl rfl rfl rfl rfl rfl rfl
            simp [this]
          · rw [if_pos (by simp)]; simp; intro q1 q2 q3 q4; exact absurd ⟨q1, q2, q3, q4⟩ e4
        · simp [e3]
      · simp [e2]
    · rw [if_neg (by simp; intro q1 q2 q3; exact e1 ⟨q1, q2, q3⟩)]; rfl
theorem ref_Same_eq {a b : api_Report} (ha : WR a) (hb : WR b) : limelightref6_Same a b = some (decide (a = b)) := by
  have h1 := ha.lt
  have h2 := ha.la
  have h3 := ha.ln
  unfold limelightref6_Same
  rw [nums_eq (by omega), Tuples_eq (by omega), str_eq ha.body hb.body]
  simp only [Option.bind_some]
  by_cases e0 : a.Kind = b.Kind ∧ a.From = b.From ∧ a.About = b.About ∧ a.Rate = b.Rate ∧ a.Type_ = b.Type_ ∧ a.Count = b.Count ∧ a.Body = b.Body ∧ a.Abouts = b.Abouts ∧ a.Tuples = b.Tuples ∧ a.Numbers.length = b.Numbers.length
  · obtain ⟨q1, q2, q3, q4, q5, q6, q7, q8, q9, q10⟩ := e0
    rw [if_neg (by simp [q1, q2, q3, q4, q5, q6, q7])]
    simp only [q8, q9, q10, decide_true, Bool.not_true, Bool.false_eq_true, if_false, Option.bind_some, bne_self_eq_false, Bool.or_false]
    rw [loopF_two a.Numbers b.Numbers (fun x y => x == y) q10 (fun k => (k : Int)) (s0 := 0) (s' := (a.Numbers.length : Int)) rfl, all2_eq intE]
    · by_cases h : a.Numbers = b.Numbers
      · have : a = b := by cases a; cases b; simp_all
        rw [if_pos (by simpa using h), decide_eq_true this]; rfl
      · rw [if_neg (by simpa using h), decide_eq_false fun e => h (by rw [e])]; rfl
    · intro k x y hx hy he
      have hk : k < a.Numbers.length := (List.getElem?_eq_some_iff.1 hx).1
      simp only [limelightref6_Same_l0]
      rw [if_pos (by simpa using hk), ix_nat, hx, ix_nat, hy]
      simp only [Option.bind_some]
      rw [if_neg (by rw [bne, he]; simp), add_i64 (by omega)]
      rfl
    · intro k x y hx hy he
      have hk : k < a.Numbers.length := (List.getElem?_eq_some_iff.1 hx).1
      simp only [limelightref6_Same_l0]
      rw [if_pos (by simpa using hk), ix_nat, hx, ix_nat, hy]
      simp only [Option.bind_some]
      rw [if_pos (by rw [bne, he]; rfl)]
    · simp [limelightref6_Same_l0]
  · have hne : a ≠ b := fun e => e0 (by subst e; simp)
    rw [decide_eq_false hne]
    by_cases e1 : a.Kind = b.Kind ∧ a.From = b.From ∧ a.About = b.About ∧ a.Rate = b.Rate ∧ a.Type_ = b.Type_ ∧ a.Count = b.Count ∧ a.Body = b.Body
    · obtain ⟨q1, q2, q3, q4, q5, q6, q7⟩ := e1
      rw [if_neg (by simp [q1, q2, q3, q4, q5, q6, q7])]
      by_cases q8 : a.Abouts = b.Abouts
      · by_cases q9 : a.Tuples = b.Tuples
        · have q10 : ¬ a.Numbers.length = b.Numbers.length := fun q10 => e0 ⟨q1, q2, q3, q4, q5, q6, q7, q8, q9, q10⟩
          have q11 : ((a.Numbers.length : Int) != (b.Numbers.length : Int)) = true := by simp; omega
          simp [q8, q9, q11]
        · simp [q8, q9]
      · simp [q8]
    · rw [if_pos (by
        simp only [Bool.or_eq_true, bne_iff_ne, Bool.not_eq_true', decide_eq_false_iff_not]
        by_cases q1 : a.Kind = b.Kind
        · by_cases q2 : a.From = b.From
          · by_cases q3 : a.About = b.About
            · by_cases q4 : a.Rate = b.Rate
              · by_cases q5 : a.Type_ = b.Type_
                · by_cases q6 : a.Count = b.Count
                  · exact .inr fun q7 => e1 ⟨q1, q2, q3, q4, q5, q6, q7⟩
                  · exact .inl (.inr q6)
                · exact .inl (.inl (.inr q5))
              · exact .inl (.inl (.inl (.inr q4)))
            · exact .inl (.inl (.inl (.inl (.inr q3))))
          · exact .inl (.inl (.inl (.inl (.inl (.inr q2)))))
        · exact .inl (.inl (.inl (.inl (.inl (.inl q1))))))]
      rfl
theorem All_eq {a b : List api_Report} (ha : ∀ r ∈ a, WR r) (hb : ∀ r ∈ b, WR r) (hl : a.length ≤ 1000000000) : limelightref6_All a b = some (decide (a = b)) := by
  unfold limelightref6_All
  by_cases hl : a.length = b.length
  · rw [if_neg (by simp [hl]), loopF_two a b (fun x y => decide (x = y)) hl (fun k => (k : Int)) (s0 := 0) (s' := (a.length : Int)) rfl, all2_eq (fun _ _ => rfl)]
    · by_cases h : a = b
      · rw [if_pos (by simpa using h), decide_eq_true h]; rfl
      · rw [if_neg (by simpa using h), decide_eq_false h]; rfl
    · intro k x y hx hy he
      have hk : k < a.length := (List.getElem?_eq_some_iff.1 hx).1
      simp only [limelightref6_All_l0]
      rw [if_pos (by simpa using hk), ix_nat, hx, ix_nat, hy]
      simp only [Option.bind_some]
      rw [ref_Same_eq (ha x (List.mem_of_getElem? hx)) (hb y (List.mem_of_getElem? hy)), he, add_i64 (by omega)]
      simp [Flow.el]
    · intro k x y hx hy he
      have hk : k < a.length := (List.getElem?_eq_some_iff.1 hx).1
      simp only [limelightref6_All_l0]
      rw [if_pos (by simpa using hk), ix_nat, hx, ix_nat, hy]
      simp only [Option.bind_some]
      rw [ref_Same_eq (ha x (List.mem_of_getElem? hx)) (hb y (List.mem_of_getElem? hy)), he]
      simp [Flow.el]
    · simp [limelightref6_All_l0]
  · rw [if_pos (by simp; omega), decide_eq_false fun e => hl (by rw [e])]
end Go.Lk
