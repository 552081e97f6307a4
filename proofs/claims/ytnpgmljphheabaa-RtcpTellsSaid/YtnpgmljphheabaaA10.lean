/- A part of this proof: RtcpTells returns true for every input and leaves its arguments as they were; there are no conditions. -/
import Derived.Test.YtnpgmljphheabaaA9
set_option linter.unusedVariables false
set_option linter.unusedSimpArgs false
namespace Go.Lk
open Go.RowKit
theorem TOK_start {L : List Int} (h : ∀ x ∈ L, I64 x) (hl : L.length ≤ 140737488355328) : TOK ⟨L, 0⟩ := ⟨h, hl, by simp, by simp⟩
theorem mn_len {a b : Nat} : mn (a : Int) (b : Int) = ((min a b : Nat) : Int) := by unfold mn; split <;> omega
theorem bor_u8 (m n : Int) : 0 ≤ bor .u8 m n ∧ bor .u8 m n ≤ 255 := u8_bd _
theorem bxor_u8 (m n : Int) : 0 ≤ bxor .u8 m n ∧ bxor .u8 m n ≤ 255 := u8_bd _
theorem cv8_bd (n : Int) : 0 ≤ cv .u8 n ∧ cv .u8 n ≤ 255 := u8_bd n
theorem set_byt {l : List Int} (h : Byt l) (k : Nat) {v : Int} (hv : 0 ≤ v ∧ v ≤ 255) : Byt (l.set k v) := fun x hx => by
  rcases List.mem_or_eq_of_mem_set hx with h1 | h1
  · exact h x h1
  · subst h1; exact hv
theorem band_i64 {m : Int} {e : Nat} (he : e ≤ 1152921504606846975) : 0 ≤ band .i64 m (e : Int) ∧ band .i64 m (e : Int) ≤ e := by
  unfold band
  have h3 : (BitVec.ofInt IntKind.i64.bits (e : Int)).toNat = e := by rw [ofInt_toNat (by omega) (by simp [IntKind.bits]; omega)]; simp
  have h := Nat.and_le_right (n := (BitVec.ofInt IntKind.i64.bits m).toNat) (m := e)
  rw [BitVec.toNat_and, h3, IntWalk.i64_in _ (by omega)]
  omega
structure RawOk (C : api_Report) : Prop where
  kind : I64 C.Kind
  from_ : U32 C.From
  about : U32 C.About
  tuples : ∀ t ∈ C.Tuples, WT t
  abouts : ∀ n ∈ C.Abouts, U32 n
  numbers : ∀ n ∈ C.Numbers, I64 n
  rate : U64 C.Rate
  type : I64 C.Type_
  count : I64 C.Count
  body : Byt C.Body
  lb : C.Body.length ≤ 140737488355328
theorem tells_law {G : List Int} {o p : Int} {C : api_Report} {b : List Int} {d e : Int} (hG : ∀ x ∈ G, I64 x) (hGl : G.length ≤ 140737488355328) (ho : I64 o) (hp : I64 p) (hC : RawOk C) (hb : Byt b) (hbl : b.length ≤ 140737488351232) (hd : I64 d) (he : 0 ≤ e ∧ e ≤ 255) :
    limelightlaw6_RtcpTells G o p C b d e = some true := by
  unfold limelightlaw6_RtcpTells
  obtain ⟨x, T1, e1, h1, gx⟩ := report_ok (TOK_start hG hGl)
  rw [e1]
  simp only [Option.bind_some]
  obtain ⟨y, T2, e2, h2, gy⟩ := report_ok h1
  rw [show (⟨T1.L, T1.At⟩ : limelightkeep_Tape) = T1 from rfl, e2]
  simp only [Option.bind_some]
  obtain ⟨z, T3, e3, h3, gz⟩ := report_ok h2
  rw [show (⟨T2.L, T2.At⟩ : limelightkeep_Tape) = T2 from rfl, e3]
  simp only [Option.bind_some]
  have h3w : ∀ r ∈ [x, y, z], WR r := by
    intro r hr
    simp at hr
    rcases hr with rfl | rfl | rfl
    · exact gx.wr
    · exact gy.wr
    · exact gz.wr
  have h3r : ∀ r ∈ [x, y, z], rightE r = 0 := by
    intro r hr
    simp at hr
    rcases hr with rfl | rfl | rfl
    · exact gx.right
    · exact gy.right
    · exact gz.right
  have hlen : ([x, y, z].flatMap enc).length ≤ 300 := by
    have := gx.small
    have := gy.small
    have := gz.small
    simp
    omega
  have hpos : 4 ≤ ([x, y, z].flatMap enc).length := by
    have := enc_length x
    simp
    omega
  have hBy : Byt ([x, y, z].flatMap enc) := by
    have := bytes_byt h3w
    rwa [bytesS_encs h3r (by omega) (by simp)] at this
  rw [ref_Bytes_eq h3w (by simp), bytesS_encs h3r (by omega) (by simp)]
  generalize hc : [x, y, z].flatMap enc = c at hlen hpos hBy
  simp only [Option.bind_some]
  rw [sub_i64 (by omega)]
  obtain ⟨q, hq, q0, q1⟩ := within_ok hd (lo := 0) (hi := (c.length : Int) - 1) (by omega) (by omega) (by omega)
  rw [hq]
  simp only [Option.bind_some]
  obtain ⟨j, rfl⟩ := Int.eq_ofNat_of_zero_le q0
  obtain ⟨v, hv⟩ := get_some (l := c) (k := j) (by omega)
  rw [ix_nat, hv]
  simp only [Option.bind_some]
  rw [show (9 : Int) = ((9 : Nat) : Int) from rfl, show (20 : Int) = ((20 : Nat) : Int) from rfl, mn_len, mn_len, mn_len, cutTo_ok rfl (Nat.min_le_left ..), cutTo_ok rfl (Nat.min_le_left ..), cutTo_ok rfl (Nat.min_le_left ..)]
  simp only [Option.bind_some]
  have hraw : WR ⟨C.Kind, C.From, C.About, C.Tuples.take (min C.Tuples.length 9), C.Abouts.take (min C.Abouts.length 20), C.Numbers.take (min C.Numbers.length 20), C.Rate, C.Type_, C.Count, C.Body⟩ :=
    ⟨hC.kind, hC.from_, hC.about, fun t ht => hC.tuples t (List.mem_of_mem_take ht), fun t ht => hC.abouts t (List.mem_of_mem_take ht), fun t ht => hC.numbers t (List.mem_of_mem_take ht), hC.rate, hC.type, hC.count, hC.body,
      by simp only [List.length_take]; omega, by simp only [List.length_take]; omega, by simp only [List.length_take]; omega, hC.lb⟩
  rw [same_true h3w (by simp)]
  have i0 : ix [x, y, z] 0 = some x := rfl
  have i1 : ix [x, y, z] 1 = some y := rfl
  have i2 : ix [x, y, z] 2 = some z := rfl
  rw [i0, i1, i2]
  simp only [Option.bind_some, if_true]
  have gs : x.Tuples.length ≤ 900 ∧ x.Abouts.length ≤ 900 ∧ x.Numbers.length ≤ 900 ∧ x.Body.length ≤ 900 := ⟨by have := gx.lt; omega, by have := gx.la; omega, by have := gx.ln; omega, by have := gx.lb; omega⟩
  obtain ⟨r1, er1, wr1⟩ := odd_ok gx.wr gs ho hp
  rw [er1]
  simp only [Option.bind_some]
  have two : ∀ a b : api_Report, WR a → WR b → limelightlaw6_same [a, b] = some true := fun a b ha hb => same_true (by intro r hr; simp at hr; rcases hr with rfl | rfl; exact ha; exact hb) (by simp)
  rw [two _ _ wr1 gy.wr]
  simp only [Option.bind_some, if_true]
  have hb511 := band_i64 (m := p) (e := 511) (by omega)
  obtain ⟨r2, er2, wr2⟩ := odd_ok gx.wr gs ho (n := band .i64 p 511) (by unfold I64; have : ((511 : Nat) : Int) = 511 := rfl; rw [this] at hb511; omega)
  rw [er2]
  simp only [Option.bind_some]
  rw [two _ _ gz.wr wr2]
  simp only [Option.bind_some, if_true]
  rw [same_true (l := [_]) (by intro r hr; simp at hr; subst hr; exact hraw) (by simp)]
  simp only [Option.bind_some, if_true]
  rw [reads_true (set_byt hBy _ (bxor_u8 _ _))]
  simp only [Option.bind_some, if_true]
  rw [reads_true hb]
  simp only [Option.bind_some, if_true]
  have hquo : quo .i64 (b.length : Int) 4 = ((b.length / 4 : Nat) : Int) := by rw [quo_i64 (by omega)]; omega
  rw [hquo, mul_i64 (by omega), cutTo_ok (k := b.length / 4 * 4) (by omega) (by omega)]
  simp only [Option.bind_some]
  rw [app_ok (by simp; omega)]
  simp only [Option.bind_some]
  rw [reads_true (Byt.app (Byt.cons (bor_u8 _ _) (Byt.cons (by omega) (Byt.cons (by omega) (Byt.cons (cv8_bd _) Byt.nil)))) (hb.take _))]
  simp only [Option.bind_some, if_true]
  rw [rtcp_Same_eq gx.wr, ref_Same_eq gx.wr hraw]
  simp only [Option.bind_some, beq_self_eq_true, if_true]
  rw [known_true]
  rfl
end Go.Lk
