/- A part of this proof: RtcpTells returns true for every input and leaves its arguments as they were; there are no conditions. -/
import Derived.Test.YtnpgmljphheabaaA3
set_option linter.unusedVariables false
set_option linter.unusedSimpArgs false
namespace Go.Lk
open Go.RowKit
def wds (ws : List Int) : List Int := ws.flatMap (be 4)
def tupN (t : api_Tuple) : Int := (pe 17 t.Rate : Int) * 67108864 + t.Rate / 2 ^ pe 17 t.Rate * 512 + t.Over
def tupW (t : api_Tuple) : List Int := [t.Owner, tupN t]
def firW (p : Int × Int) : List Int := [p.1, p.2 * 16777216]
def rateN (n : Int) : Int := (pe 18 n : Int) * 262144 + n / 2 ^ pe 18 n
def bodyW (r : api_Report) : List Int :=
  if r.Kind = 1 ∨ r.Kind = 2 then r.From :: 0 :: r.Tuples.flatMap tupW
  else if r.Kind = 3 then [r.From, r.About]
  else if r.Kind = 4 then r.From :: 0 :: (r.Abouts.zip r.Numbers).flatMap firW
  else if r.Kind = 5 then r.From :: 0 :: 1380273474 :: (r.Abouts.length * 16777216 + rateN r.Rate) :: r.Abouts
  else []
def bodyB (r : api_Report) : List Int := if r.Kind = 6 then r.Body else wds (bodyW r)
def typE (r : api_Report) : Int := if r.Kind = 1 ∨ r.Kind = 2 then 205 else if r.Kind = 3 ∨ r.Kind = 4 ∨ r.Kind = 5 then 206 else r.Type_
def cntE (r : api_Report) : Int := if r.Kind = 1 ∨ r.Kind = 2 then 2 + r.Kind else if r.Kind = 3 then 1 else if r.Kind = 4 then 4 else if r.Kind = 5 then 15 else r.Count
def enc (r : api_Report) : List Int := (128 + cntE r) :: typE r :: (be 2 ((bodyB r).length / 4 : Nat) ++ bodyB r)
def firstE (l : List api_Report) : Int := ((l.map rightE).find? (fun e => decide (e ≠ 0))).getD 0
def bytesS (l : List api_Report) : List Int × Int :=
  if l = [] then ([], 1) else if firstE l ≠ 0 then ([], firstE l) else if 1500 < (l.flatMap enc).length then ([], 3) else (l.flatMap enc, 0)
theorem wds_length (ws : List Int) : (wds ws).length = 4 * ws.length := by
  induction ws with
  | nil => rfl
  | cons a l ih => simp only [wds, List.flatMap_cons, List.length_append, be_length, List.length_cons] at *; omega
theorem wds_cons (a : Int) (l : List Int) : wds (a :: l) = be 4 a ++ wds l := rfl
theorem wds_app (a b : List Int) : wds (a ++ b) = wds a ++ wds b := by simp [wds]
theorem wds_byt : ∀ ws : List Int, Byt (wds ws)
  | [] => fun x h => by simp [wds] at h
  | a :: l => (be_byt 4 a).app (wds_byt l)
theorem right_val {r : api_Report} (h : rightE r = 0) : (1 ≤ r.Kind ∧ r.Kind ≤ 6) ∧ valB r = true ∧ fldB r = true := by
  unfold rightE at h
  by_cases h1 : r.Kind < 1 ∨ 6 < r.Kind
  · rw [if_pos h1] at h; cases h
  · rw [if_neg h1] at h
    by_cases h2 : valB r = false
    · rw [if_pos h2] at h; cases h
    · rw [if_neg h2] at h
      by_cases h3 : fldB r = false
      · rw [if_pos h3] at h; cases h
      · exact ⟨by omega, by simpa using h2, by simpa using h3⟩
theorem val12 {r : api_Report} (h : valB r = true) (hk : r.Kind = 1 ∨ r.Kind = 2) : r.Tuples.length ≤ 6 ∧ ∀ t ∈ r.Tuples, (0 ≤ t.Over ∧ t.Over ≤ 511) ∧ downR 17 t.Rate = t.Rate := by
  unfold valB at h
  rw [if_pos hk] at h
  simp only [Bool.and_eq_true, decide_eq_true_iff, List.all_eq_true, tupOk] at h
  exact ⟨h.1, fun t ht => h.2 t ht⟩
theorem val4 {r : api_Report} (h : valB r = true) (hk : r.Kind = 4) : r.Numbers.length = r.Abouts.length ∧ 1 ≤ r.Abouts.length ∧ r.Abouts.length ≤ 16 ∧ ∀ n ∈ r.Numbers, 0 ≤ n ∧ n ≤ 255 := by
  unfold valB at h
  rw [if_neg (by omega), if_pos hk] at h
  simp only [Bool.and_eq_true, decide_eq_true_iff, List.all_eq_true] at h
  exact ⟨h.1.1.1, h.1.1.2, h.1.2, h.2⟩
theorem val5 {r : api_Report} (h : valB r = true) (hk : r.Kind = 5) : r.Abouts.length ≤ 16 ∧ downR 18 r.Rate = r.Rate := by
  unfold valB at h
  rw [if_neg (by omega), if_neg (by omega), if_pos hk] at h
  simpa using h
theorem val6 {r : api_Report} (h : valB r = true) (hk : r.Kind = 6) : (192 ≤ r.Type_ ∧ r.Type_ ≤ 223) ∧ (0 ≤ r.Count ∧ r.Count ≤ 31) ∧ r.Body.length % 4 = 0 ∧ r.Body.length ≤ 262140 ∧ kindOf r.Type_ r.Count = 6 := by
  unfold valB at h
  rw [if_neg (by omega), if_neg (by omega), if_neg (by omega), if_pos hk] at h
  simp only [Bool.and_eq_true, decide_eq_true_iff] at h
  exact ⟨⟨h.1.1.1.1.1.1, h.1.1.1.1.1.2⟩, ⟨h.1.1.1.1.2, h.1.1.1.2⟩, h.1.1.2, h.1.2, h.2⟩
theorem cnt_bd {r : api_Report} (h : rightE r = 0) : 0 ≤ cntE r ∧ cntE r ≤ 31 := by
  obtain ⟨hk, hv, _⟩ := right_val h
  unfold cntE
  by_cases h6 : r.Kind = 6
  · have := val6 hv h6
    repeat' split
    all_goals omega
  · repeat' split
    all_goals omega
theorem typ_bd {r : api_Report} (h : rightE r = 0) : 192 ≤ typE r ∧ typE r ≤ 223 := by
  obtain ⟨hk, hv, _⟩ := right_val h
  unfold typE
  by_cases h6 : r.Kind = 6
  · have := val6 hv h6
    repeat' split
    all_goals omega
  · repeat' split
    all_goals omega
theorem flat2 {α : Type} (f : α → List Int) (hf : ∀ a, (f a).length = 2) (l : List α) : (l.flatMap f).length = 2 * l.length := by
  induction l with
  | nil => rfl
  | cons a l ih => simp only [List.flatMap_cons, List.length_append, hf, ih, List.length_cons]; omega
theorem body_le {r : api_Report} (h : rightE r = 0) : (bodyB r).length % 4 = 0 ∧ (bodyB r).length ≤ 262140 := by
  obtain ⟨hk, hv, _⟩ := right_val h
  unfold bodyB
  by_cases h6 : r.Kind = 6
  · rw [if_pos h6]; have := val6 hv h6; omega
  · rw [if_neg h6, wds_length]
    unfold bodyW
    by_cases h12 : r.Kind = 1 ∨ r.Kind = 2
    · rw [if_pos h12]
      have := val12 hv h12
      simp only [List.length_cons, flat2 tupW (fun _ => rfl)]
      omega
    · rw [if_neg h12]
      by_cases h3 : r.Kind = 3
      · rw [if_pos h3]; simp
      · rw [if_neg h3]
        by_cases h4 : r.Kind = 4
        · rw [if_pos h4]
          have := val4 hv h4
          simp only [List.length_cons, flat2 firW (fun _ => rfl), List.length_zip]
          omega
        · rw [if_neg h4]
          by_cases h5 : r.Kind = 5
          · rw [if_pos h5]
            have := val5 hv h5
            simp only [List.length_cons]
            omega
          · omega
theorem enc_length (r : api_Report) : (enc r).length = 4 + (bodyB r).length := by
  simp only [enc, List.length_cons, List.length_append, be_length]; omega
theorem pe17 {n : Int} (hn : U64 n) : pe 17 n ≤ 47 ∧ 0 ≤ n / 2 ^ pe 17 n ∧ n / 2 ^ pe 17 n < 131072 :=
  ⟨pe_le (b := 17) (by omega) hn, Int.ediv_nonneg hn.1 (Int.le_of_lt (two_pos _)), pe_lt (b := 17) hn⟩
theorem pe18 {n : Int} (hn : U64 n) : pe 18 n ≤ 46 ∧ 0 ≤ n / 2 ^ pe 18 n ∧ n / 2 ^ pe 18 n < 262144 :=
  ⟨pe_le (b := 18) (by omega) hn, Int.ediv_nonneg hn.1 (Int.le_of_lt (two_pos _)), pe_lt (b := 18) hn⟩
theorem shlL {k : IntKind} {m n : Int} (e : Nat) (hn : n = (e : Int)) (he : e ≤ k.bits) (p : Int) (hp : p = 2 ^ e) (hr : k.wrap (m * p) = m * p) : shl k m n = m * p := by
  subst hp
  rw [shl_e e hn he, hr]
theorem borL {k : IntKind} {m n : Int} (e : Nat) (p : Int) (hp : p = 2 ^ e) (hm : m % p = 0) (h0 : 0 ≤ m) (h1 : 0 ≤ n) (hn : n < p) (h : m + n < 2 ^ k.bits) (hr : k.wrap (m + n) = m + n) : bor k m n = m + n := by
  subst hp
  rw [bor_low e hm h0 h1 hn h, hr]
theorem packed17 {t : api_Tuple} (ht : WT t) (ho : 0 ≤ t.Over ∧ t.Over ≤ 511) : rtcp_packed t.Rate 17 9 (cv .u64 t.Over) = some (tupN t) := by
  obtain ⟨h1, h2, h3⟩ := pe17 ht.2.1
  unfold rtcp_packed
  rw [show (17 : Int) = ((17 : Nat) : Int) from rfl, rate_Pack_eq (b := 17) (by decide) ht.2.1]
  simp only [Option.bind_some]
  rw [add_i64 (by omega), gd_ok (by omega), gd_ok (by omega), cv_u64 (a := ((pe 17 t.Rate : Nat) : Int)) (by omega), cv_u64 (a := t.Over) (by omega), cv_u64 (by omega),
    shlL (k := .u64) 26 (by omega) (by decide) 67108864 rfl (by rw [w_u64]; omega), shlL (k := .u64) 9 (by omega) (by decide) 512 rfl (by rw [w_u64]; omega),
    borL (k := .u64) (m := (pe 17 t.Rate : Int) * 67108864) (n := t.Rate / 2 ^ pe 17 t.Rate * 512) 26 67108864 rfl (by omega) (by omega) (by omega) (by omega) (by simp [IntKind.bits]; omega) (by rw [w_u64]; omega),
    borL (k := .u64) 9 512 rfl (by omega) (by omega) (by omega) (by omega) (by simp [IntKind.bits]; omega) (by rw [w_u64]; omega)]
  rfl
theorem packed18 {n : Int} (hn : U64 n) : rtcp_packed n 18 0 0 = some (rateN n) := by
  obtain ⟨h1, h2, h3⟩ := pe18 hn
  unfold rtcp_packed
  rw [show (18 : Int) = ((18 : Nat) : Int) from rfl, rate_Pack_eq (b := 18) (by decide) hn]
  simp only [Option.bind_some]
  rw [add_i64 (by omega), gd_ok (by omega), gd_ok (by omega), cv_u64 (a := ((pe 18 n : Nat) : Int)) (by omega), cv_u64 (by omega),
    shlL (k := .u64) 18 (by omega) (by decide) 262144 rfl (by rw [w_u64]; omega), shlL (k := .u64) 0 (by omega) (by decide) 1 rfl (by rw [w_u64]; omega), Int.mul_one,
    borL (k := .u64) (m := (pe 18 n : Int) * 262144) (n := n / 2 ^ pe 18 n) 18 262144 rfl (by omega) (by omega) (by omega) (by omega) (by simp [IntKind.bits]; omega) (by rw [w_u64]; omega),
    borL (k := .u64) 0 1 rfl (by omega) (by omega) (by omega) (by omega) (by simp [IntKind.bits]; omega) (by rw [w_u64]; omega)]
  simp [rateN]
theorem be4_fir {n : Int} (hn : 0 ≤ n ∧ n ≤ 255) : be 4 (n * 16777216) = be 1 n ++ be 3 0 := by
  simp [be]; omega
theorem be4_remb {c n : Int} (hc : 0 ≤ c ∧ c ≤ 255) (hn : 0 ≤ n ∧ n < 16777216) : be 4 (c * 16777216 + n) = be 1 c ++ be 3 n := by
  simp [be]; omega
theorem put1 {b : List Int} {n : Int} (hn : 0 ≤ n ∧ n ≤ 18446744073709551615) (hb : b.length ≤ 900000000) : octet_Put b n 1 = some (b ++ be 1 n) := octet_Put_eq 1 rfl (by omega) (by omega) hn hb
theorem put2 {b : List Int} {n : Int} (hn : 0 ≤ n ∧ n ≤ 18446744073709551615) (hb : b.length ≤ 900000000) : octet_Put b n 2 = some (b ++ be 2 n) := octet_Put_eq 2 rfl (by omega) (by omega) hn hb
theorem rput2 {b : List Int} {n : Int} (hn : 0 ≤ n ∧ n ≤ 18446744073709551615) (hb : b.length ≤ 900000000) : limelightref1_Put b n 2 = some (b ++ be 2 n) := ref_Put_eq 2 rfl (by omega) (by omega) hn hb
theorem put3 {b : List Int} {n : Int} (hn : 0 ≤ n ∧ n ≤ 18446744073709551615) (hb : b.length ≤ 900000000) : octet_Put b n 3 = some (b ++ be 3 n) := octet_Put_eq 3 rfl (by omega) (by omega) hn hb
theorem put4 {b : List Int} {n : Int} (hn : 0 ≤ n ∧ n ≤ 18446744073709551615) (hb : b.length ≤ 900000000) : octet_Put b n 4 = some (b ++ be 4 n) := octet_Put_eq 4 rfl (by omega) (by omega) hn hb
theorem rput4 {b : List Int} {n : Int} (hn : 0 ≤ n ∧ n ≤ 18446744073709551615) (hb : b.length ≤ 900000000) : limelightref1_Put b n 4 = some (b ++ be 4 n) := ref_Put_eq 4 rfl (by omega) (by omega) hn hb
theorem take_snoc_flat {α : Type} (f : α → List Int) {l : List α} {k : Nat} {x : α} (h : l[k]? = some x) : (l.take (k + 1)).flatMap f = (l.take k).flatMap f ++ f x := by
  rw [snoc_take h]; simp
theorem take_flat_le {α : Type} (f : α → List Int) (l : List α) (k : Nat) : ((l.take k).flatMap f).length ≤ (l.flatMap f).length := by
  have := congrArg (List.flatMap f) (List.take_append_drop k l)
  rw [List.flatMap_append] at this
  have h2 := congrArg List.length this
  rw [List.length_append] at h2
  omega
theorem body_loop0 {r : api_Report} (hr : WR r) (hl : r.Tuples.length ≤ 6) (ht : ∀ t ∈ r.Tuples, 0 ≤ t.Over ∧ t.Over ≤ 511) (pre : List Int) (hp : pre.length ≤ 100) :
    loopF (fun sg => rtcp_body_l0 r sg.1 sg.2) (wds pre, 0) = some (.brk (wds (pre ++ r.Tuples.flatMap tupW), (r.Tuples.length : Int))) := by
  refine loopF_up (fun k => (wds (pre ++ (r.Tuples.take k).flatMap tupW), (k : Int))) r.Tuples.length (by simp) (fun k hk => ?_) ?_
  · obtain ⟨x, hx⟩ := get_some hk
    have hw := hr.tuples x (List.mem_of_getElem? hx)
    have hle := take_flat_le tupW r.Tuples k
    rw [flat2 tupW (fun _ => rfl) r.Tuples] at hle
    have hN := pe17 hw.2.1
    have ho := ht x (List.mem_of_getElem? hx)
    have h1 := hw.1
    unfold U32 at h1
    simp only [rtcp_body_l0]
    rw [if_pos (by simpa using hk), ix_nat, hx]
    simp only [Option.bind_some]
    rw [cv_u64 (by omega), put4 (by omega) (by rw [wds_length, List.length_append]; omega)]
    simp only [Option.bind_some]
    rw [packed17 hw ho]
    simp only [Option.bind_some]
    rw [put4 (by unfold tupN; omega) (by rw [List.length_append, wds_length, List.length_append, be_length]; omega), take_snoc_flat tupW hx, add_i64 (by omega)]
    simp [wds_app, tupW, wds]
  · simp only [rtcp_body_l0]
    rw [if_neg (by simp), List.take_length]
theorem body_loop1 {r : api_Report} (hr : WR r) (hl : r.Abouts.length ≤ 16) (he : r.Numbers.length = r.Abouts.length) (hn : ∀ n ∈ r.Numbers, 0 ≤ n ∧ n ≤ 255) (pre : List Int) (hp : pre.length ≤ 100) :
    loopF (fun sg => rtcp_body_l1 r sg.1 sg.2) (wds pre, 0) = some (.brk (wds (pre ++ (r.Abouts.zip r.Numbers).flatMap firW), (r.Abouts.length : Int))) := by
  have hz : (r.Abouts.zip r.Numbers).length = r.Abouts.length := by rw [List.length_zip]; omega
  refine loopF_up (fun k => (wds (pre ++ ((r.Abouts.zip r.Numbers).take k).flatMap firW), (k : Int))) r.Abouts.length (by simp) (fun k hk => ?_) ?_
  · obtain ⟨x, hx⟩ := get_some hk
    obtain ⟨y, hy⟩ := get_some (l := r.Numbers) (k := k) (by omega)
    have hxy : (r.Abouts.zip r.Numbers)[k]? = some (x, y) := by rw [List.getElem?_zip_eq_some]; exact ⟨hx, hy⟩
    have h1 := hr.abouts x (List.mem_of_getElem? hx)
    unfold U32 at h1
    have h2 := hn y (List.mem_of_getElem? hy)
    have hle := take_flat_le firW (r.Abouts.zip r.Numbers) k
    rw [flat2 firW (fun _ => rfl) (r.Abouts.zip r.Numbers), hz] at hle
    simp only [rtcp_body_l1]
    rw [if_pos (by simpa using hk), ix_nat, hx]
    simp only [Option.bind_some]
    rw [ix_nat, hy]
    simp only [Option.bind_some]
    rw [cv_u64 (by omega), put4 (by omega) (by rw [wds_length, List.length_append]; omega)]
    simp only [Option.bind_some]
    rw [cv_u64 (by omega), put1 (by omega) (by simp only [List.length_append, wds_length, be_length]; omega)]
    simp only [Option.bind_some]
    rw [put3 (by omega) (by simp only [List.length_append, wds_length, be_length]; omega), take_snoc_flat firW hxy, add_i64 (by omega)]
    simp [wds_app, firW, wds, be4_fir h2]
  · simp only [rtcp_body_l1]
    rw [if_neg (by simp), List.take_of_length_le (by omega)]
theorem body_loop2 {r : api_Report} (hr : WR r) (hl : r.Abouts.length ≤ 16) (pre : List Int) (hp : pre.length ≤ 100) :
    loopF (fun sg => rtcp_body_l2 r sg.1 sg.2) (wds pre, 0) = some (.brk (wds (pre ++ r.Abouts), (r.Abouts.length : Int))) := by
  refine loopF_up (fun k => (wds (pre ++ r.Abouts.take k), (k : Int))) r.Abouts.length (by simp) (fun k hk => ?_) ?_
  · obtain ⟨x, hx⟩ := get_some hk
    have h1 := hr.abouts x (List.mem_of_getElem? hx)
    unfold U32 at h1
    simp only [rtcp_body_l2]
    rw [if_pos (by simpa using hk), ix_nat, hx]
    simp only [Option.bind_some]
    rw [cv_u64 (by omega), put4 (by omega) (by rw [wds_length, List.length_append, List.length_take]; omega)]
    simp only [Option.bind_some]
    rw [snoc_take hx, add_i64 (by omega)]
    simp [wds_app, wds]
  · simp only [rtcp_body_l2]
    rw [if_neg (by simp), List.take_length]
theorem remb4 : [82, 69, 77, 66] = be 4 1380273474 := by decide
theorem rtcp_body_eq {r : api_Report} (hr : WR r) (h : rightE r = 0) : rtcp_body r = some (bodyB r, typE r, cntE r) := by
  obtain ⟨hk, hv, _⟩ := right_val h
  have h1 := hr.from_
  have h2 := hr.about
  have h3 := hr.lb
  unfold U32 at h1 h2
  have e2 : be 4 r.From ++ be 4 0 = wds [r.From, 0] := by simp [wds]
  unfold rtcp_body bodyB bodyW typE cntE
  rw [cv_u64 (a := r.From) (by omega), put4 (b := []) (by omega) (by simp)]
  simp only [Option.bind_some, List.nil_append]
  rcases (by omega : r.Kind = 1 ∨ r.Kind = 2 ∨ r.Kind = 3 ∨ r.Kind = 4 ∨ r.Kind = 5 ∨ r.Kind = 6) with hk | hk | hk | hk | hk | hk
  · have hv := val12 hv (.inl hk)
    simp only [hk, Int.reduceBEq, Int.reduceBNe, Int.reduceEq, Bool.and_self, Bool.and_true, Bool.true_and, Bool.and_false, Bool.false_and, Bool.false_eq_true, reduceIte, or_self, or_false, false_or, or_true, true_or, Option.bind_some]
    rw [put4 (n := 0) (by omega) (by simp [be_length])]
    simp only [Option.bind_some]
    rw [e2, body_loop0 hr hv.1 (fun t ht => (hv.2 t ht).1) _ (by simp)]
    rfl
  · have hv := val12 hv (.inr hk)
    simp only [hk, Int.reduceBEq, Int.reduceBNe, Int.reduceEq, Bool.and_self, Bool.and_true, Bool.true_and, Bool.and_false, Bool.false_and, Bool.false_eq_true, reduceIte, or_self, or_false, false_or, or_true, true_or, Option.bind_some]
    rw [put4 (n := 0) (by omega) (by simp [be_length])]
    simp only [Option.bind_some]
    rw [e2, body_loop0 hr hv.1 (fun t ht => (hv.2 t ht).1) _ (by simp)]
    rfl
  · simp only [hk, Int.reduceBEq, Int.reduceBNe, Int.reduceEq, Bool.and_self, Bool.and_true, Bool.true_and, Bool.and_false, Bool.false_and, Bool.false_eq_true, reduceIte, or_self, or_false, false_or, or_true, true_or, Option.bind_some]
    rw [cv_u64 (a := r.About) (by omega), put4 (by omega) (by simp [be_length])]
    simp [Flow.el, wds]
  · have hv := val4 hv hk
    simp only [hk, Int.reduceBEq, Int.reduceBNe, Int.reduceEq, Bool.and_self, Bool.and_true, Bool.true_and, Bool.and_false, Bool.false_and, Bool.false_eq_true, reduceIte, or_self, or_false, false_or, or_true, true_or, Option.bind_some]
    rw [put4 (n := 0) (by omega) (by simp [be_length])]
    simp only [Option.bind_some]
    rw [e2, body_loop1 hr hv.2.2.1 hv.1 hv.2.2.2 _ (by simp)]
    rfl
  · have hv := val5 hv hk
    have hN := pe18 hr.rate
    simp only [hk, Int.reduceBEq, Int.reduceBNe, Int.reduceEq, Bool.and_self, Bool.and_true, Bool.true_and, Bool.and_false, Bool.false_and, Bool.false_eq_true, reduceIte, or_self, or_false, false_or, or_true, true_or, Option.bind_some]
    rw [put4 (n := 0) (by omega) (by simp [be_length])]
    simp only [Option.bind_some]
    rw [app_ok (by simp [be_length])]
    simp only [Option.bind_some]
    rw [cv_u64 (by omega), put1 (by omega) (by simp [be_length]), packed18 hr.rate]
    simp only [Option.bind_some]
    rw [put3 (by unfold rateN; omega) (by simp [be_length])]
    simp only [Option.bind_some]
    have e3 : be 4 r.From ++ be 4 0 ++ [82, 69, 77, 66] ++ be 1 (r.Abouts.length : Int) ++ be 3 (rateN r.Rate) = wds [r.From, 0, 1380273474, r.Abouts.length * 16777216 + rateN r.Rate] := by
      have := be4_remb (c := (r.Abouts.length : Int)) (n := rateN r.Rate) (by omega) (by unfold rateN; omega)
      simp [wds, this, remb4]
    rw [e3, body_loop2 hr hv.1 _ (by simp)]
    rfl
  · simp only [hk, Int.reduceBEq, Int.reduceBNe, Int.reduceEq, Bool.and_self, Bool.and_true, Bool.true_and, Bool.and_false, Bool.false_and, Bool.false_eq_true, reduceIte, or_self, or_false, false_or, or_true, true_or, Option.bind_some]
    simp only [Flow.el, slices_Clone_byte]
    rw [app_ok (by simp; omega)]
    rfl
theorem words_eq {l : List Int} (h : ∀ n ∈ l, U32 n) (hl : l.length ≤ 1000000) : limelightref6_words l = some (wds l) := by
  unfold limelightref6_words
  have hloop : loopF (fun sg => limelightref6_words_l0 l sg.1 sg.2) ([], 0) = some (.brk (wds l, (l.length : Int))) := by
    refine loopF_up (fun k => (wds (l.take k), (k : Int))) l.length rfl (fun k hk => ?_) ?_
    rotate_left
    · simp only [limelightref6_words_l0]
      rw [if_neg (by simp), List.take_length]
    obtain ⟨x, hx⟩ := get_some hk
    have h1 := h x (List.mem_of_getElem? hx)
    unfold U32 at h1
    simp only [limelightref6_words_l0]
    rw [if_pos (by simpa using hk), ix_nat, hx]
    simp only [Option.bind_some]
    rw [cv_u64 (by omega), rput4 (by omega) (by rw [wds_length, List.length_take]; omega), snoc_take hx, add_i64 (by omega), wds_app]
    simp [wds]
  rw [hloop]
  rfl
theorem tupN_bd {t : api_Tuple} (ht : WT t) (ho : 0 ≤ t.Over ∧ t.Over ≤ 511) : U32 (tupN t) := by
  have := pe17 ht.2.1
  unfold tupN U32
  omega
theorem tupN_or {t : api_Tuple} (ht : WT t) (ho : 0 ≤ t.Over ∧ t.Over ≤ 511) : bor .u32 (bor .u32 (shl .u32 (cv .u32 (pe 17 t.Rate : Int)) 26) (shl .u32 (t.Rate / 2 ^ pe 17 t.Rate) 9)) (cv .u32 t.Over) = tupN t := by
  obtain ⟨h1, h2, h3⟩ := pe17 ht.2.1
  rw [cv_u32 (a := ((pe 17 t.Rate : Nat) : Int)) (by omega), cv_u32 (a := t.Over) (by omega),
    shlL (k := .u32) (n := 26) 26 rfl (by decide) 67108864 rfl (by rw [w_u32]; omega), shlL (k := .u32) (n := 9) 9 rfl (by decide) 512 rfl (by rw [w_u32]; omega),
    borL (k := .u32) (m := (pe 17 t.Rate : Int) * 67108864) (n := t.Rate / 2 ^ pe 17 t.Rate * 512) 26 67108864 rfl (by omega) (by omega) (by omega) (by omega) (by simp [IntKind.bits]; omega) (by rw [w_u32]; omega),
    borL (k := .u32) 9 512 rfl (by omega) (by omega) (by omega) (by omega) (by simp [IntKind.bits]; omega) (by rw [w_u32]; omega)]
  rfl
theorem remb_or {c n : Int} (hc : 0 ≤ c ∧ c ≤ 255) (hn : U64 n) : bor .u32 (bor .u32 (shl .u32 (cv .u32 c) 24) (shl .u32 (cv .u32 (pe 18 n : Int)) 18)) (n / 2 ^ pe 18 n) = c * 16777216 + rateN n := by
  obtain ⟨h1, h2, h3⟩ := pe18 hn
  rw [cv_u32 (a := ((pe 18 n : Nat) : Int)) (by omega), cv_u32 (a := c) (by omega),
    shlL (k := .u32) (n := 24) 24 rfl (by decide) 16777216 rfl (by rw [w_u32]; omega), shlL (k := .u32) (n := 18) 18 rfl (by decide) 262144 rfl (by rw [w_u32]; omega),
    borL (k := .u32) (m := c * 16777216) (n := (pe 18 n : Int) * 262144) 24 16777216 rfl (by omega) (by omega) (by omega) (by omega) (by simp [IntKind.bits]; omega) (by rw [w_u32]; omega),
    borL (k := .u32) 18 262144 rfl (by omega) (by omega) (by omega) (by omega) (by simp [IntKind.bits]; omega) (by rw [w_u32]; omega)]
  unfold rateN
  omega
theorem refbody_loop0 {r : api_Report} (hr : WR r) (hl : r.Tuples.length ≤ 6) (ht : ∀ t ∈ r.Tuples, 0 ≤ t.Over ∧ t.Over ≤ 511) (pre : List Int) (hp : pre.length ≤ 100) :
    loopF (fun sg => limelightref6_body_l0 r sg.1 sg.2) (wds pre, 0) = some (.brk (wds (pre ++ r.Tuples.flatMap tupW), (r.Tuples.length : Int))) := by
  refine loopF_up (fun k => (wds (pre ++ (r.Tuples.take k).flatMap tupW), (k : Int))) r.Tuples.length (by simp) (fun k hk => ?_) ?_
  · obtain ⟨x, hx⟩ := get_some hk
    have hw := hr.tuples x (List.mem_of_getElem? hx)
    have hle := take_flat_le tupW r.Tuples k
    rw [flat2 tupW (fun _ => rfl) r.Tuples] at hle
    have hN := pe17 hw.2.1
    have ho := ht x (List.mem_of_getElem? hx)
    simp only [limelightref6_body_l0]
    rw [if_pos (by simpa using hk), ix_nat, hx]
    simp only [Option.bind_some]
    rw [show (17 : Int) = ((17 : Nat) : Int) from rfl, ref_Pack_eq (b := 17) (by decide) hw.2.1]
    simp only [Option.bind_some]
    rw [tupN_or hw ho, words_eq (by intro n hn; simp at hn; rcases hn with rfl | rfl; exact hw.1; exact tupN_bd hw ho) (by simp)]
    simp only [Option.bind_some]
    rw [app_ok (by simp only [List.length_append, wds_length, List.length_cons, List.length_nil]; omega)]
    simp only [Option.bind_some]
    rw [take_snoc_flat tupW hx, add_i64 (by omega), ← wds_app]
    simp [tupW]
  · simp only [limelightref6_body_l0]
    rw [if_neg (by simp), List.take_length]
theorem fir_or {y : Int} (hy : 0 ≤ y ∧ y ≤ 255) : shl .u32 (cv .u32 y) 24 = y * 16777216 := by
  rw [cv_u32 (by omega), shlL (k := .u32) (n := 24) 24 rfl (by decide) 16777216 rfl (by rw [w_u32]; omega)]
theorem refbody_loop1 {r : api_Report} (hr : WR r) (hl : r.Abouts.length ≤ 16) (he : r.Numbers.length = r.Abouts.length) (hn : ∀ n ∈ r.Numbers, 0 ≤ n ∧ n ≤ 255) (pre : List Int) (hp : pre.length ≤ 100) :
    loopF (fun sg => limelightref6_body_l1 r sg.1 sg.2) (wds pre, 0) = some (.brk (wds (pre ++ (r.Abouts.zip r.Numbers).flatMap firW), (r.Abouts.length : Int))) := by
  have hz : (r.Abouts.zip r.Numbers).length = r.Abouts.length := by rw [List.length_zip]; omega
  refine loopF_up (fun k => (wds (pre ++ ((r.Abouts.zip r.Numbers).take k).flatMap firW), (k : Int))) r.Abouts.length (by simp) (fun k hk => ?_) ?_
  · obtain ⟨x, hx⟩ := get_some hk
    obtain ⟨y, hy⟩ := get_some (l := r.Numbers) (k := k) (by omega)
    have hxy : (r.Abouts.zip r.Numbers)[k]? = some (x, y) := by rw [List.getElem?_zip_eq_some]; exact ⟨hx, hy⟩
    have h1 := hr.abouts x (List.mem_of_getElem? hx)
    have h2 := hn y (List.mem_of_getElem? hy)
    have hle := take_flat_le firW (r.Abouts.zip r.Numbers) k
    rw [flat2 firW (fun _ => rfl) (r.Abouts.zip r.Numbers), hz] at hle
    simp only [limelightref6_body_l1]
    rw [if_pos (by simpa using hk), ix_nat, hx]
    simp only [Option.bind_some]
    rw [ix_nat, hy]
    simp only [Option.bind_some]
    rw [fir_or h2, words_eq (by intro n hn; simp at hn; rcases hn with rfl | rfl; exact h1; unfold U32; omega) (by simp)]
    simp only [Option.bind_some]
    rw [app_ok (by simp only [List.length_append, wds_length, List.length_cons, List.length_nil]; omega)]
    simp only [Option.bind_some]
    rw [take_snoc_flat firW hxy, add_i64 (by omega), ← wds_app]
    simp [firW]
  · simp only [limelightref6_body_l1]
    rw [if_neg (by simp), List.take_of_length_le (by omega)]
theorem ref_body_eq {r : api_Report} (hr : WR r) (h : rightE r = 0) : limelightref6_body r = some (typE r, cntE r, bodyB r) := by
  obtain ⟨hk, hv, _⟩ := right_val h
  have h3 := hr.lb
  have w2 : ∀ a b : Int, U32 a → U32 b → limelightref6_words [a, b] = some (wds [a, b]) := fun a b ha hb => words_eq (by intro n hn; simp at hn; rcases hn with rfl | rfl; exact ha; exact hb) (by simp)
  have u0 : U32 0 := by unfold U32; omega
  unfold limelightref6_body bodyB bodyW typE cntE
  rcases (by omega : r.Kind = 1 ∨ r.Kind = 2 ∨ r.Kind = 3 ∨ r.Kind = 4 ∨ r.Kind = 5 ∨ r.Kind = 6) with hk | hk | hk | hk | hk | hk
  · have hv := val12 hv (.inl hk)
    simp only [hk, Int.reduceBEq, Int.reduceBNe, Int.reduceEq, Bool.and_self, Bool.and_true, Bool.true_and, Bool.and_false, Bool.false_and, Bool.false_eq_true, reduceIte, or_self, or_false, false_or, or_true, true_or, Option.bind_some]
    rw [w2 _ _ hr.from_ u0]
    simp only [Option.bind_some]
    rw [refbody_loop0 hr hv.1 (fun t ht => (hv.2 t ht).1) _ (by simp)]
    rfl
  · have hv := val12 hv (.inr hk)
    simp only [hk, Int.reduceBEq, Int.reduceBNe, Int.reduceEq, Bool.and_self, Bool.and_true, Bool.true_and, Bool.and_false, Bool.false_and, Bool.false_eq_true, reduceIte, or_self, or_false, false_or, or_true, true_or, Option.bind_some]
    rw [w2 _ _ hr.from_ u0]
    simp only [Option.bind_some]
    rw [refbody_loop0 hr hv.1 (fun t ht => (hv.2 t ht).1) _ (by simp)]
    rfl
  · simp only [hk, Int.reduceBEq, Int.reduceBNe, Int.reduceEq, Bool.and_self, Bool.and_true, Bool.true_and, Bool.and_false, Bool.false_and, Bool.false_eq_true, reduceIte, or_self, or_false, false_or, or_true, true_or, Option.bind_some]
    rw [w2 _ _ hr.from_ hr.about]
    rfl
  · have hv := val4 hv hk
    simp only [hk, Int.reduceBEq, Int.reduceBNe, Int.reduceEq, Bool.and_self, Bool.and_true, Bool.true_and, Bool.and_false, Bool.false_and, Bool.false_eq_true, reduceIte, or_self, or_false, false_or, or_true, true_or, Option.bind_some]
    rw [w2 _ _ hr.from_ u0]
    simp only [Option.bind_some]
    rw [refbody_loop1 hr hv.2.2.1 hv.1 hv.2.2.2 _ (by simp)]
    rfl
  · have hv := val5 hv hk
    have hN := pe18 hr.rate
    simp only [hk, Int.reduceBEq, Int.reduceBNe, Int.reduceEq, Bool.and_self, Bool.and_true, Bool.true_and, Bool.and_false, Bool.false_and, Bool.false_eq_true, reduceIte, or_self, or_false, false_or, or_true, true_or, Option.bind_some]
    rw [show (18 : Int) = ((18 : Nat) : Int) from rfl, ref_Pack_eq (b := 18) (by decide) hr.rate, w2 _ _ hr.from_ u0]
    simp only [Option.bind_some]
    rw [app_ok (by simp [wds_length]), show ((18 : Nat) : Int) = 18 from rfl, remb_or (by omega) hr.rate]
    simp only [Option.bind_some]
    rw [app_ok (by simp; omega)]
    simp only [Option.bind_some]
    rw [words_eq (by
      intro n hn
      rcases List.mem_append.1 hn with h | h
      · simp at h; subst h; unfold U32 rateN; omega
      · exact hr.abouts n h) (by simp; omega)]
    simp only [Option.bind_some]
    rw [app_ok (by simp [wds_length]; omega)]
    simp [Flow.el, wds, remb4]
  · simp only [hk, Int.reduceBEq, Int.reduceBNe, Int.reduceEq, Bool.and_self, Bool.and_true, Bool.true_and, Bool.and_false, Bool.false_and, Bool.false_eq_true, reduceIte, or_self, or_false, false_or, or_true, true_or, Option.bind_some]
    rfl
theorem head_or {c : Int} (hc : 0 ≤ c ∧ c ≤ 31) : cv .u8 (bor .i64 128 c) = 128 + c := by
  rw [borL (k := .i64) 7 128 rfl (by omega) (by omega) (by omega) (by omega) (by simp [IntKind.bits]; omega) (IntWalk.i64_in _ (by omega)), cv_u8 (by omega)]
theorem ref_one_eq {r : api_Report} (hr : WR r) (h : rightE r = 0) : limelightref6_one r = some (enc r) := by
  have hc := cnt_bd h
  have ht := typ_bd h
  have hb := body_le h
  unfold limelightref6_one
  rw [ref_body_eq hr h]
  simp only [Option.bind_some]
  rw [head_or hc, cv_u8 (by omega), quo_i64 (by omega), cv_u64 (by omega), rput2 (by omega) (by simp)]
  simp only [Option.bind_some]
  rw [app_ok (by simp [be_length]; omega)]
  simp [enc]
theorem first_find (l : List api_Report) : (l.any fun r => decide (rightE r ≠ 0)) = decide (firstE l ≠ 0) := by
  unfold firstE
  induction l with
  | nil => rfl
  | cons a l ih =>
    simp only [List.any_cons, List.map_cons, List.find?_cons]
    by_cases h : rightE a ≠ 0
    · simp [h]
    · simp only [h, decide_false, Bool.false_or]; exact ih
theorem first_at (l : List api_Report) (h : (l.any fun r => decide (rightE r ≠ 0)) = true) : ∃ r, l[l.findIdx fun r => decide (rightE r ≠ 0)]? = some r ∧ rightE r = firstE l := by
  unfold firstE
  induction l with
  | nil => simp at h
  | cons a l ih =>
    by_cases ha : rightE a ≠ 0
    · exact ⟨a, by simp [List.findIdx_cons, ha], by simp [ha]⟩
    · obtain ⟨r, h1, h2⟩ := ih (by simpa [ha] using h)
      refine ⟨r, ?_, ?_⟩
      · rw [List.findIdx_cons]; simp only [ha, decide_false]; simpa using h1
      · rw [h2]; simp [ha]
theorem first_zero {l : List api_Report} (h : firstE l = 0) : ∀ r ∈ l, rightE r = 0 := fun r hr => by
  have := first_find l
  rw [decide_eq_false (by simpa using h)] at this
  simpa using List.any_eq_false.1 this r hr
theorem enc_le {l : List api_Report} (h : ∀ r ∈ l, rightE r = 0) : (l.flatMap enc).length ≤ 262144 * l.length := by
  induction l with
  | nil => simp
  | cons a l ih =>
    have h1 := enc_length a
    have h2 := body_le (h a (by simp))
    have h3 := ih fun r hr => h r (by simp [hr])
    simp only [List.flatMap_cons, List.length_append, List.length_cons]
    omega
theorem ref_Bytes_eq {l : List api_Report} (hl : ∀ r ∈ l, WR r) (hn : l.length ≤ 1000) : limelightref6_Bytes l = some (bytesS l) := by
  unfold limelightref6_Bytes bytesS
  by_cases h0 : l = []
  · subst h0; rfl
  · have hlen : 0 < l.length := List.length_pos_iff.2 h0
    rw [if_neg (by simp; omega), if_neg h0]
    rw [loopF_find l (fun r => decide (rightE r ≠ 0)) (fun k => (k : Int)) (fun k => (([] : List Int), (l[k]?.map rightE).getD 0)) (s0 := 0) (s' := (l.length : Int)) rfl]
    · by_cases hf : firstE l ≠ 0
      · rw [if_pos (by rw [first_find]; simpa using hf), if_pos hf]
        obtain ⟨r, h1, h2⟩ := first_at l (by rw [first_find]; simpa using hf)
        simp only [Option.bind_some, Flow.el]
        rw [h1]
        simp [h2]
      · rw [if_neg (by rw [first_find]; simpa using hf), if_neg hf]
        have hr := first_zero (l := l) (by simpa using hf)
        have he := enc_le hr
        simp only [Option.bind_some, Flow.el]
        have hloop : loopF (fun sg => limelightref6_Bytes_l1 l sg.1 sg.2) ([], 0) = some (.brk (l.flatMap enc, (l.length : Int))) := by
          refine loopF_up (fun k => ((l.take k).flatMap enc, (k : Int))) l.length rfl (fun k hk => ?_) ?_
          rotate_left
          · simp only [limelightref6_Bytes_l1]
            rw [if_neg (by simp), List.take_length]
          obtain ⟨x, hx⟩ := get_some hk
          have hm := List.mem_of_getElem? hx
          have h1 := enc_length x
          have h2 := body_le (hr x hm)
          have h3 := take_flat_le enc l k
          simp only [limelightref6_Bytes_l1]
          rw [if_pos (by simpa using hk), ix_nat, hx]
          simp only [Option.bind_some]
          rw [ref_one_eq (hl x hm) (hr x hm)]
          simp only [Option.bind_some]
          rw [app_ok (by omega), take_snoc_flat enc hx, add_i64 (by omega)]
          rfl
        rw [hloop]
        simp only [Option.bind_some, Flow.el]
        by_cases hb : 1500 < (l.flatMap enc).length
        · rw [if_pos (by rw [decide_eq_true_iff]; omega), if_pos hb]
        · rw [if_neg (by rw [decide_eq_true_iff]; omega), if_neg hb]
    · intro k x hx hp
      have hk : k < l.length := (List.getElem?_eq_some_iff.1 hx).1
      simp only [limelightref6_Bytes_l0]
      rw [if_pos (by simpa using hk), ix_nat, hx]
      simp only [Option.bind_some]
      rw [ref_Right_eq (hl x (List.mem_of_getElem? hx)), add_i64 (by omega)]
      simp only [Option.bind_some]
      rw [if_neg (by simpa using hp)]
      rfl
    · intro k x hx hp
      have hk : k < l.length := (List.getElem?_eq_some_iff.1 hx).1
      simp only [limelightref6_Bytes_l0]
      rw [if_pos (by simpa using hk), ix_nat, hx]
      simp only [Option.bind_some]
      rw [ref_Right_eq (hl x (List.mem_of_getElem? hx))]
      simp only [Option.bind_some]
      rw [if_pos (by simpa using hp)]
      rfl
    · simp [limelightref6_Bytes_l0]
theorem rtcp_Bytes_loop {l : List api_Report} (hl : ∀ r ∈ l, WR r) (hr : ∀ r ∈ l, rightE r = 0) (hn : l.length ≤ 1000) : ∀ (d k : Nat), l.length = k + d → ((l.take k).flatMap enc).length ≤ 1500 →
    loopF (fun sg => rtcp_Bytes_l1 l sg.1 sg.2) ((l.take k).flatMap enc, (k : Int)) = some (if 1500 < (l.flatMap enc).length then .ret ([], 3) else .brk (l.flatMap enc, (l.length : Int))) := by
  intro d
  induction d with
  | zero =>
    intro k hk hb
    have hkl : k = l.length := by omega
    subst hkl
    rw [List.take_length] at hb ⊢
    rw [if_neg (by omega)]
    refine loopF_brk ?_
    simp [rtcp_Bytes_l1]
  | succ d ih =>
    intro k hk hb
    have hk' : k < l.length := by omega
    obtain ⟨x, hx⟩ := get_some hk'
    have hm := List.mem_of_getElem? hx
    have h1 := enc_length x
    have h2 := body_le (hr x hm)
    have hc := cnt_bd (hr x hm)
    have ht := typ_bd (hr x hm)
    have h3 := take_flat_le enc l (k + 1)
    rw [take_snoc_flat enc hx] at h3
    have step : rtcp_Bytes_l1 l ((l.take k).flatMap enc) (k : Int) = if 1500 < ((l.take k).flatMap enc ++ enc x).length then some (.ret ([], 3)) else some (.next ((l.take k).flatMap enc ++ enc x, (k : Int) + 1)) := by
      simp only [rtcp_Bytes_l1]
      rw [if_pos (by simpa using hk'), ix_nat, hx]
      simp only [Option.bind_some]
      rw [rtcp_body_eq (hl x hm) (hr x hm)]
      simp only [Option.bind_some]
      rw [head_or hc, cv_u8 (by omega), app_ok (by simp only [List.length_append, List.length_cons, List.length_nil, be_length]; omega)]
      simp only [Option.bind_some]
      rw [quo_i64 (by omega), cv_u64 (by omega), put2 (by omega) (by simp only [List.length_append, List.length_cons, List.length_nil, be_length]; omega)]
      simp only [Option.bind_some]
      rw [app_ok (by simp only [List.length_append, List.length_cons, List.length_nil, be_length]; omega)]
      simp only [Option.bind_some]
      rw [add_i64 (by omega)]
      have e1 : (l.take k).flatMap enc ++ [128 + cntE x, typE x] ++ be 2 ((bodyB x).length / 4 : Int) ++ bodyB x = (l.take k).flatMap enc ++ enc x := by simp [enc]
      rw [e1]
      by_cases hb2 : 1500 < ((l.take k).flatMap enc ++ enc x).length
      · rw [if_pos hb2, if_pos (by rw [decide_eq_true_iff]; omega)]
      · rw [if_neg hb2, if_neg (by rw [decide_eq_true_iff]; omega)]
    by_cases hb2 : 1500 < ((l.take k).flatMap enc ++ enc x).length
    · rw [if_pos hb2] at step
      rw [loopF_ret step, if_pos (by omega)]
    · rw [if_neg hb2] at step
      rw [loopF_next step]
      have := ih (k + 1) (by omega) (by rw [take_snoc_flat enc hx]; omega)
      rw [take_snoc_flat enc hx] at this
      exact this
theorem rtcp_Bytes_eq {l : List api_Report} (hl : ∀ r ∈ l, WR r) (hn : l.length ≤ 1000) : rtcp_Bytes l = some (bytesS l) := by
  unfold rtcp_Bytes bytesS
  by_cases h0 : l = []
  · subst h0; rfl
  · have hlen : 0 < l.length := List.length_pos_iff.2 h0
    rw [if_neg (by simp; omega), if_neg h0]
    rw [loopF_find l (fun r => decide (rightE r ≠ 0)) (fun k => (k : Int)) (fun k => (([] : List Int), (l[k]?.map rightE).getD 0)) (s0 := 0) (s' := (l.length : Int)) rfl]
    · by_cases hf : firstE l ≠ 0
      · rw [if_pos (by rw [first_find]; simpa using hf), if_pos hf]
        obtain ⟨r, h1, h2⟩ := first_at l (by rw [first_find]; simpa using hf)
        simp only [Option.bind_some, Flow.el]
        rw [h1]
        simp [h2]
      · rw [if_neg (by rw [first_find]; simpa using hf), if_neg hf]
        have hr := first_zero (l := l) (by simpa using hf)
        have hloop := rtcp_Bytes_loop hl hr hn l.length 0 (by omega) (by simp)
        simp only [Option.bind_some, Flow.el]
        rw [show (([] : List Int), (0 : Int)) = ((l.take 0).flatMap enc, ((0 : Nat) : Int)) from rfl, hloop]
        by_cases hb : 1500 < (l.flatMap enc).length
        · rw [if_pos hb, if_pos hb]; rfl
        · rw [if_neg hb, if_neg hb]; rfl
    · intro k x hx hp
      have hk : k < l.length := (List.getElem?_eq_some_iff.1 hx).1
      simp only [rtcp_Bytes_l0]
      rw [if_pos (by simpa using hk), ix_nat, hx]
      simp only [Option.bind_some]
      rw [rtcp_Right_eq (hl x (List.mem_of_getElem? hx)), add_i64 (by omega)]
      simp only [Option.bind_some]
      rw [if_neg (by simpa using hp)]
      rfl
    · intro k x hx hp
      have hk : k < l.length := (List.getElem?_eq_some_iff.1 hx).1
      simp only [rtcp_Bytes_l0]
      rw [if_pos (by simpa using hk), ix_nat, hx]
      simp only [Option.bind_some]
      rw [rtcp_Right_eq (hl x (List.mem_of_getElem? hx))]
      simp only [Option.bind_some]
      rw [if_pos (by simpa using hp)]
      rfl
    · simp [rtcp_Bytes_l0]
end Go.Lk
