/- A part of this proof: RtcpBack returns true for every input and leaves its arguments as they were; there are no conditions. -/
import Derived.Test.YtnpgmljphheabaaA8
set_option linter.unusedVariables false
set_option linter.unusedSimpArgs false
namespace Go.Lk
open Go.RowKit
theorem tupN_parts {t : api_Tuple} (ht : WT t) (ho : 0 ≤ t.Over ∧ t.Over ≤ 511) (hd : downR 17 t.Rate = t.Rate) : tupOf t.Owner (tupN t) = t ∧ tupBad (tupN t) = false := by
  obtain ⟨h1, h2, h3⟩ := pe17 ht.2.1
  have e1 : (tupN t / 67108864).toNat = pe 17 t.Rate := by unfold tupN; omega
  have e2 : tupN t / 512 % 131072 = t.Rate / 2 ^ pe 17 t.Rate := by unfold tupN; omega
  have e3 : tupN t % 512 = t.Over := by unfold tupN; omega
  constructor
  · unfold tupOf
    rw [e1, e2, e3, openR_pe ht.2.1, hd]
  · unfold tupBad sat
    rw [e1, e2]
    have := down_le (b := 17) ht.2.1.1
    have h4 := ht.2.1
    unfold U64 at h4
    unfold downR at this
    exact decide_eq_false (by omega)
theorem tups_flat : ∀ {ts : List api_Tuple}, (∀ t ∈ ts, WT t ∧ (0 ≤ t.Over ∧ t.Over ≤ 511) ∧ downR 17 t.Rate = t.Rate) → tups (ts.flatMap tupW) = ts ∧ evt (ts.flatMap tupW) = true
  | [], _ => ⟨rfl, rfl⟩
  | t :: ts, h => by
    obtain ⟨h1, h2, h3⟩ := h t (by simp)
    obtain ⟨q1, q2⟩ := tupN_parts h1 h2 h3
    obtain ⟨q3, q4⟩ := tups_flat (ts := ts) fun t ht => h t (by simp [ht])
    have e : (t :: ts).flatMap tupW = t.Owner :: tupN t :: ts.flatMap tupW := rfl
    rw [e]
    simp only [tups, evt]
    rw [q1, q2, q3, q4]
    exact ⟨rfl, rfl⟩
theorem firs_flat : ∀ {aa ns : List Int}, aa.length = ns.length → (∀ n ∈ ns, 0 ≤ n ∧ n ≤ 255) → firA ((aa.zip ns).flatMap firW) = aa ∧ firN ((aa.zip ns).flatMap firW) = ns ∧ evf ((aa.zip ns).flatMap firW) = true
  | [], [], _, _ => ⟨rfl, rfl, rfl⟩
  | [], _ :: _, h, _ => by simp at h
  | _ :: _, [], h, _ => by simp at h
  | a :: aa, n :: ns, h, hn => by
    obtain ⟨q1, q2, q3⟩ := firs_flat (aa := aa) (ns := ns) (by simpa using h) fun t ht => hn t (by simp [ht])
    have h0 := hn n (by simp)
    have e : ((a :: aa).zip (n :: ns)).flatMap firW = a :: (n * 16777216) :: (aa.zip ns).flatMap firW := rfl
    rw [e]
    simp only [firA, firN, evf]
    rw [q1, q2, q3, decide_eq_true (by omega), show n * 16777216 / 16777216 = n from by omega]
    exact ⟨rfl, rfl, rfl⟩
theorem fld_of {r : api_Report} (h : fldB r = true) : (r.Kind = 1 ∨ r.Kind = 2 ∨ r.Tuples = []) ∧ (r.Kind = 3 ∨ r.About = 0) ∧ (r.Kind = 4 ∨ r.Numbers = []) ∧ (r.Kind = 4 ∨ r.Kind = 5 ∨ r.Abouts = []) ∧ (r.Kind = 5 ∨ r.Rate = 0) ∧
    (r.Kind = 6 ∨ (r.Type_ = 0 ∧ r.Count = 0 ∧ r.Body = [])) ∧ (r.Kind ≠ 6 ∨ r.From = 0) := by
  unfold fldB at h
  simp only [Bool.and_eq_true, Bool.or_eq_true, decide_eq_true_iff, Bool.not_eq_true', decide_eq_false_iff_not, List.length_eq_zero_iff] at h
  obtain ⟨⟨⟨⟨⟨⟨h1, h2⟩, h3⟩, h4⟩, h5⟩, h6⟩, h7⟩ := h
  refine ⟨?_, h2, h3, ?_, h5, ?_, h7⟩
  · rcases h1 with (h | h) | h
    · exact .inl h
    · exact .inr (.inl h)
    · exact .inr (.inr h)
  · rcases h4 with (h | h) | h
    · exact .inl h
    · exact .inr (.inl h)
    · exact .inr (.inr h)
  · rcases h6 with h | h
    · exact .inl h
    · exact .inr ⟨h.1.1, h.1.2, h.2⟩
theorem parse_body {r : api_Report} (hr : WR r) (h : rightE r = 0) : parseS (typE r) (cntE r) (unw (bodyB r)) = some r := by
  obtain ⟨hk, hv, hf⟩ := right_val h
  have hb := body_le h
  have h32 := bodyW_32 hr h
  obtain ⟨f1, f2, f3, f4, f5, f6, f7⟩ := fld_of hf
  rcases (by omega : (r.Kind = 1 ∨ r.Kind = 2) ∨ r.Kind = 3 ∨ r.Kind = 4 ∨ r.Kind = 5 ∨ r.Kind = 6) with h12 | h3 | h4 | h5 | h6
  · have hv := val12 hv h12
    have e0 : bodyB r = wds (bodyW r) := by unfold bodyB; rw [if_neg (by omega)]
    have e1 : bodyW r = r.From :: 0 :: r.Tuples.flatMap tupW := by unfold bodyW; rw [if_pos h12]
    have e2 : kindOf (typE r) (cntE r) = r.Kind := by
      unfold typE cntE kindOf
      rw [if_pos h12, if_pos h12]
      rcases h12 with h | h <;> rw [h] <;> rfl
    obtain ⟨q1, q2⟩ := tups_flat (ts := r.Tuples) fun t ht => ⟨hr.tuples t ht, (hv.2 t ht).1, (hv.2 t ht).2⟩
    rw [e0, unw_wds h32, e1, parse12 _ (by rw [e2]; exact h12)]
    dsimp only
    rw [q1, q2, if_pos ⟨rfl, rfl, hv.1⟩, e2]
    have g2 : r.About = 0 := by omega
    have g3 : r.Numbers = [] := by rcases f3 with h | h; omega; exact h
    have g4 : r.Abouts = [] := by rcases f4 with h | h | h; omega; omega; exact h
    have g5 : r.Rate = 0 := by omega
    obtain ⟨g6, g7, g8⟩ : r.Type_ = 0 ∧ r.Count = 0 ∧ r.Body = [] := by rcases f6 with h | h; omega; exact h
    cases r
    simp_all
  · have e0 : bodyB r = wds (bodyW r) := by unfold bodyB; rw [if_neg (by omega)]
    have e1 : bodyW r = [r.From, r.About] := by unfold bodyW; rw [if_neg (by omega), if_pos h3]
    have e2 : kindOf (typE r) (cntE r) = 3 := by
      unfold typE cntE kindOf
      rw [h3]; rfl
    rw [e0, unw_wds h32, e1, parse3 _ e2]
    have g1 : r.Tuples = [] := by rcases f1 with h | h | h; omega; omega; exact h
    have g3 : r.Numbers = [] := by rcases f3 with h | h; omega; exact h
    have g4 : r.Abouts = [] := by rcases f4 with h | h | h; omega; omega; exact h
    have g5 : r.Rate = 0 := by omega
    obtain ⟨g6, g7, g8⟩ : r.Type_ = 0 ∧ r.Count = 0 ∧ r.Body = [] := by rcases f6 with h | h; omega; exact h
    cases r
    simp_all
  · have hv := val4 hv h4
    have e0 : bodyB r = wds (bodyW r) := by unfold bodyB; rw [if_neg (by omega)]
    have e1 : bodyW r = r.From :: 0 :: (r.Abouts.zip r.Numbers).flatMap firW := by unfold bodyW; rw [if_neg (by omega), if_neg (by omega), if_pos h4]
    have e2 : kindOf (typE r) (cntE r) = 4 := by
      unfold typE cntE kindOf
      rw [h4]; rfl
    obtain ⟨q1, q2, q3⟩ := firs_flat (aa := r.Abouts) (ns := r.Numbers) hv.1.symm hv.2.2.2
    rw [e0, unw_wds h32, e1, parse4 _ e2]
    dsimp only
    rw [q1, q2, q3, if_pos ⟨rfl, rfl, hv.2.1, hv.2.2.1⟩]
    have g1 : r.Tuples = [] := by rcases f1 with h | h | h; omega; omega; exact h
    have g2 : r.About = 0 := by omega
    have g5 : r.Rate = 0 := by omega
    obtain ⟨g6, g7, g8⟩ : r.Type_ = 0 ∧ r.Count = 0 ∧ r.Body = [] := by rcases f6 with h | h; omega; exact h
    cases r
    simp_all
  · have hv := val5 hv h5
    have e0 : bodyB r = wds (bodyW r) := by unfold bodyB; rw [if_neg (by omega)]
    have e1 : bodyW r = r.From :: 0 :: 1380273474 :: (r.Abouts.length * 16777216 + rateN r.Rate) :: r.Abouts := by unfold bodyW; rw [if_neg (by omega), if_neg (by omega), if_neg (by omega), if_pos h5]
    have e2 : kindOf (typE r) (cntE r) = 5 := by
      unfold typE cntE kindOf
      rw [h5]; rfl
    obtain ⟨p1, p2, p3⟩ := pe18 hr.rate
    have hN := rateN_bd hr.rate
    have n1 : ((r.Abouts.length : Int) * 16777216 + rateN r.Rate) / 16777216 = r.Abouts.length := by omega
    have n2 : (((r.Abouts.length : Int) * 16777216 + rateN r.Rate) / 262144 % 64).toNat = pe 18 r.Rate := by unfold rateN; omega
    have n3 : ((r.Abouts.length : Int) * 16777216 + rateN r.Rate) % 262144 = r.Rate / 2 ^ pe 18 r.Rate := by unfold rateN; omega
    have hs : sat (pe 18 r.Rate) (r.Rate / 2 ^ pe 18 r.Rate) = false := by
      unfold sat
      have := down_le (b := 18) hr.rate.1
      have h4 := hr.rate
      unfold U64 at h4
      unfold downR at this
      exact decide_eq_false (by omega)
    rw [e0, unw_wds h32, e1, parse5 _ e2]
    dsimp only
    rw [n1, n2, n3, hs, if_pos ⟨rfl, rfl, rfl, hv.1, rfl⟩, openR_pe hr.rate, hv.2]
    have g1 : r.Tuples = [] := by rcases f1 with h | h | h; omega; omega; exact h
    have g2 : r.About = 0 := by omega
    have g3 : r.Numbers = [] := by rcases f3 with h | h; omega; exact h
    obtain ⟨g6, g7, g8⟩ : r.Type_ = 0 ∧ r.Count = 0 ∧ r.Body = [] := by rcases f6 with h | h; omega; exact h
    cases r
    simp_all
  · have hv := val6 hv h6
    have e0 : bodyB r = r.Body := by unfold bodyB; rw [if_pos h6]
    have e2 : typE r = r.Type_ ∧ cntE r = r.Count := by
      unfold typE cntE
      rw [h6]
      exact ⟨rfl, rfl⟩
    have hw := unw_ok (r.Body.length / 4) r.Body hr.body (by omega)
    rw [e0, e2.1, e2.2]
    unfold parseS
    rw [if_pos hv.2.2.2.2, hw.1]
    have g1 : r.Tuples = [] := by rcases f1 with h | h | h; omega; omega; exact h
    have g2 : r.About = 0 := by omega
    have g3 : r.Numbers = [] := by rcases f3 with h | h; omega; exact h
    have g4 : r.Abouts = [] := by rcases f4 with h | h | h; omega; omega; exact h
    have g5 : r.Rate = 0 := by omega
    have g7 : r.From = 0 := by omega
    cases r
    simp_all
theorem enc_form {r : api_Report} (h : rightE r = 0) : ∃ b2 b3, enc r = (128 + cntE r) :: typE r :: b2 :: b3 :: bodyB r ∧ (b2 * 256 + b3).toNat = (bodyB r).length / 4 := by
  have hb := body_le h
  refine ⟨((bodyB r).length / 4 : Nat) / 256 ^ 1 % 256, ((bodyB r).length / 4 : Nat) / 256 ^ 0 % 256, rfl, ?_⟩
  have e1 : (256 : Int) ^ 1 = 256 := rfl
  have e0 : (256 : Int) ^ 0 = 1 := rfl
  rw [e1, e0]
  omega
theorem oneS_enc {r : api_Report} (hr : WR r) (h : rightE r = 0) (rest : List Int) : oneS (enc r ++ rest) = (r, (enc r).length, 0) := by
  have hb := body_le h
  have hc := cnt_bd h
  have ht := typ_bd h
  have hlen := enc_length r
  obtain ⟨b2, b3, e, hn⟩ := enc_form h
  have e1 : enc r ++ rest = (128 + cntE r) :: typE r :: b2 :: b3 :: (bodyB r ++ rest) := by rw [e]; rfl
  rw [e1]
  unfold oneS
  dsimp only
  rw [hn, if_neg (by rw [List.length_append]; omega), if_neg (by omega), List.take_left' (by omega), show (128 + cntE r) % 32 = cntE r from by omega, parse_body hr h]
  simp only
  rw [hlen, show 4 * ((bodyB r).length / 4) = (bodyB r).length from by omega]
theorem oneS_cut {r : api_Report} (h : rightE r = 0) (rest : List Int) {k : Nat} (hk : k < (enc r).length) : (oneS ((enc r ++ rest).take k)).2.2 = 13 := by
  have hb := body_le h
  have hlen := enc_length r
  by_cases h4 : k < 4
  · rw [oneS_short (by rw [List.length_take]; omega)]
  · obtain ⟨b2, b3, e, hn⟩ := enc_form h
    obtain ⟨j, rfl⟩ : ∃ j, k = j + 4 := ⟨k - 4, by omega⟩
    have e1 : (enc r ++ rest).take (j + 4) = (128 + cntE r) :: typE r :: b2 :: b3 :: (bodyB r ++ rest).take j := by rw [e]; rfl
    rw [e1]
    unfold oneS
    dsimp only
    rw [hn, if_pos (by rw [List.length_take]; omega)]
theorem enc_ne (r : api_Report) : enc r ≠ [] := by unfold enc; simp
theorem readF_encs : ∀ {l : List api_Report} (f : Nat) (acc : List api_Report), (∀ r ∈ l, WR r ∧ rightE r = 0) → (l.flatMap enc).length ≤ f → readF f (l.flatMap enc) acc = (acc ++ l, 0)
  | [], f, acc, _, _ => by cases f <;> simp [readF]
  | r :: l, f, acc, h, hf => by
    have hlen := enc_length r
    have e : (r :: l).flatMap enc = enc r ++ l.flatMap enc := rfl
    rw [e, List.length_append] at hf
    obtain ⟨f, rfl⟩ : ∃ g, f = g + 1 := ⟨f - 1, by omega⟩
    obtain ⟨h1, h2⟩ := h r (by simp)
    have hne : enc r ++ l.flatMap enc ≠ [] := fun q => enc_ne r (List.append_eq_nil_iff.1 q).1
    unfold readF
    rw [e, if_neg hne, oneS_enc h1 h2, if_neg (by simp)]
    simp only
    rw [List.drop_left, readF_encs (l := l) f (acc ++ [r]) (fun q hq => h q (by simp [hq])) (by omega)]
    simp
theorem readS_encs {l : List api_Report} (h : ∀ r ∈ l, WR r ∧ rightE r = 0) (hl : (l.flatMap enc).length ≤ 1500) (h0 : l ≠ []) : readS (l.flatMap enc) = (l, 0) := by
  have hne : (l.flatMap enc).length ≠ 0 := by
    cases l with
    | nil => exact absurd rfl h0
    | cons r l => have := enc_length r; simp only [List.flatMap_cons, List.length_append]; omega
  unfold readS
  rw [if_neg (by omega), if_neg hne, readF_encs _ _ h (Nat.le_refl _)]
  simp
theorem firstE_zero {l : List api_Report} (h : ∀ r ∈ l, rightE r = 0) : firstE l = 0 := by
  have := first_find l
  have h2 : (l.any fun r => decide (rightE r ≠ 0)) = false := by
    rw [List.any_eq_false]
    intro r hr
    simp [h r hr]
  rw [h2] at this
  simpa using this.symm
theorem bytesS_encs {l : List api_Report} (h : ∀ r ∈ l, rightE r = 0) (hl : (l.flatMap enc).length ≤ 1500) (h0 : l ≠ []) : bytesS l = (l.flatMap enc, 0) := by
  unfold bytesS
  rw [if_neg h0, if_neg (by simp [firstE_zero h]), if_neg (by omega)]
theorem cut_short {a : api_Report} (hr : rightE a = 0) (rest : List Int) {k : Nat} (hk : k < (enc a).length) (hl : k ≤ 1500) : readS ((enc a ++ rest).take k) = ([], 13) := by
  have hlen : ((enc a ++ rest).take k).length = k := by rw [List.length_take, List.length_append]; omega
  unfold readS
  rw [if_neg (by omega)]
  by_cases h0 : k = 0
  · rw [if_pos (by omega)]
  · rw [if_neg (by omega), hlen]
    obtain ⟨f, rfl⟩ : ∃ g, k = g + 1 := ⟨k - 1, by omega⟩
    unfold readF
    have hne : (enc a ++ rest).take (f + 1) ≠ [] := fun q => by rw [q] at hlen; simp at hlen
    rw [if_neg hne, oneS_cut hr rest hk, if_pos (by decide)]
theorem cut_second {a b : api_Report} (ha : WR a) (ra : rightE a = 0) (rb : rightE b = 0) {k : Nat} (hk : (enc a).length < k) (hk2 : k < (enc a).length + (enc b).length) (hl : k ≤ 1500) : readS ((enc a ++ enc b).take k) = ([], 13) := by
  have hla := enc_length a
  have hlen : ((enc a ++ enc b).take k).length = k := by rw [List.length_take, List.length_append]; omega
  have e : (enc a ++ enc b).take k = enc a ++ (enc b).take (k - (enc a).length) := by
    rw [List.take_append, List.take_of_length_le (by omega)]
  unfold readS
  rw [if_neg (by omega), if_neg (by omega), hlen, e]
  obtain ⟨f, rfl⟩ : ∃ g, k = g + 1 + 1 := ⟨k - 2, by omega⟩
  unfold readF
  have hne : enc a ++ (enc b).take (f + 1 + 1 - (enc a).length) ≠ [] := fun q => enc_ne a (List.append_eq_nil_iff.1 q).1
  rw [if_neg hne, oneS_enc ha ra, if_neg (by simp)]
  simp only
  rw [List.drop_left]
  unfold readF
  have hne2 : (enc b).take (f + 1 + 1 - (enc a).length) ≠ [] := fun q => by
    have := congrArg List.length q
    rw [List.length_take, List.length_nil] at this
    omega
  have hc := oneS_cut rb [] (k := f + 1 + 1 - (enc a).length) (by omega)
  rw [List.append_nil] at hc
  rw [if_neg hne2, hc, if_pos (by decide)]
end Go.Lk
