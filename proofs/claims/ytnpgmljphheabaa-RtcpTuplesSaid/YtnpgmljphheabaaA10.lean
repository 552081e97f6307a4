/- A part of this proof: RtcpTuples returns true for every input and leaves its arguments as they were; there are no conditions. -/
import Derived.Test.YtnpgmljphheabaaA9
set_option linter.unusedVariables false
set_option linter.unusedSimpArgs false
namespace Go.Lk
open Go.RowKit
theorem TOK_start {L : List Int} (h : ∀ x ∈ L, I64 x) (hl : L.length ≤ 140737488355328) : TOK ⟨L, 0⟩ := ⟨h, hl, by simp, by simp⟩
theorem band_i64 {m : Int} {e : Nat} (he : e ≤ 1152921504606846975) : 0 ≤ band .i64 m (e : Int) ∧ band .i64 m (e : Int) ≤ e := by
  unfold band
  have h3 : (BitVec.ofInt IntKind.i64.bits (e : Int)).toNat = e := by rw [ofInt_toNat (by omega) (by simp [IntKind.bits]; omega)]; simp
  have h := Nat.and_le_right (n := (BitVec.ofInt IntKind.i64.bits m).toNat) (m := e)
  rw [BitVec.toNat_and, h3, IntWalk.i64_in _ (by omega)]
  omega
theorem enc1 (a : api_Report) : [a].flatMap enc = enc a := by simp
theorem tuples_law {G : List Int} {o p : Int} (hG : ∀ x ∈ G, I64 x) (hGl : G.length ≤ 140737488355328) (ho : I64 o) (hp : U32 p) : limelightlaw6_RtcpTuples G o p = some true := by
  obtain ⟨n, hn, n0, n1⟩ := within_ok ho (lo := 0) (hi := 6) (by omega) (by omega) (by omega)
  have loop : ∀ (d : Nat) (T : limelightkeep_Tape) (acc : List api_Tuple), TOK T → (∀ t ∈ acc, WT t ∧ tupOk t = true) → (acc.length : Int) + d = n →
      ∃ (v : List api_Tuple) (T' : limelightkeep_Tape), loopF (fun sg => limelightlaw6_RtcpTuples_l0 o sg.1 sg.2.1 sg.2.2.1 sg.2.2.2) ((acc.length : Int), acc, T.L, T.At) = some (.brk (n, v, T'.L, T'.At)) ∧ (∀ t ∈ v, WT t ∧ tupOk t = true) ∧ (v.length : Int) = n := by
    intro d
    induction d with
    | zero =>
      intro T acc hT hB hl
      refine ⟨acc, T, loopF_brk ?_, hB, by omega⟩
      simp only [limelightlaw6_RtcpTuples_l0]
      rw [hn]
      simp only [Option.bind_some]
      rw [if_neg (by rw [decide_eq_true_iff]; omega)]
      congr 3
    | succ d ih =>
      intro T acc hT hB hl
      obtain ⟨x, T1, e1, h1, b1⟩ := tuple_ok hT
      obtain ⟨v, T', e2, h3, h4⟩ := ih T1 (acc ++ [x]) h1 (fun t ht => by
        rcases List.mem_append.1 ht with h | h
        · exact hB t h
        · simp at h; subst h; exact b1) (by simp; omega)
      refine ⟨v, T', (loopF_next ?_).trans e2, h3, h4⟩
      simp only [limelightlaw6_RtcpTuples_l0]
      rw [hn]
      simp only [Option.bind_some]
      rw [if_pos (by rw [decide_eq_true_iff]; omega), e1]
      simp only [Option.bind_some]
      rw [app_ok (by simp; omega), add_i64 (by omega)]
      simp
  unfold limelightlaw6_RtcpTuples
  obtain ⟨v, T', e1, hv, hvl⟩ := loop n.toNat ⟨G, 0⟩ [] (TOK_start hG hGl) (by simp) (by simp; omega)
  simp only [List.length_nil, Int.natCast_zero] at e1
  rw [e1]
  simp only [Option.bind_some, Flow.el]
  have hb := band_i64 (m := o) (e := 1) (by omega)
  rw [show ((1 : Nat) : Int) = 1 from rfl] at hb
  generalize band .i64 o 1 = b at hb
  rw [add_i64 (by omega)]
  have zi : I64 0 := by unfold I64; omega
  have hr : rightE ⟨1 + b, p, 0, v, [], [], 0, 0, 0, []⟩ = 0 := by
    rw [right_of (by simp only; omega) (by rcases (by omega : b = 0 ∨ b = 1) with rfl | rfl <;> simp [fldB])]
    unfold valB
    rw [if_pos (by simp only; omega)]
    simp only [Bool.and_eq_true, decide_eq_true_iff, List.all_eq_true]
    exact ⟨by omega, fun t ht => (hv t ht).2⟩
  have hw : WR ⟨1 + b, p, 0, v, [], [], 0, 0, 0, []⟩ := ⟨by unfold I64; simp only; omega, hp, by unfold U32; simp, fun t ht => (hv t ht).1, fun t h => by simp at h, fun t h => by simp at h, by unfold U64; simp, zi, zi, Byt.nil, by simp only; omega, by simp, by simp, by simp⟩
  have hlen : (enc ⟨1 + b, p, 0, v, [], [], 0, 0, 0, []⟩).length = 12 + 8 * v.length := by
    rw [enc_length]
    unfold bodyB bodyW
    rw [if_neg (by simp only; omega), if_pos (by simp only; omega), wds_length]
    simp only [List.length_cons, flat2 tupW (fun _ => rfl)]
    omega
  have hB := enc_byt hw hr
  have hbytes : rtcp_Bytes [⟨1 + b, p, 0, v, [], [], 0, 0, 0, []⟩] = some (enc ⟨1 + b, p, 0, v, [], [], 0, 0, 0, []⟩, 0) := by
    rw [rtcp_Bytes_eq (l := [_]) (by intro q hq; simp at hq; subst hq; exact hw) (by simp), bytesS_encs (l := [_]) (by intro q hq; simp at hq; subst hq; exact hr) (by rw [enc1]; omega) (by simp), enc1]
  have hrd : readS (enc ⟨1 + b, p, 0, v, [], [], 0, 0, 0, []⟩) = ([⟨1 + b, p, 0, v, [], [], 0, 0, 0, []⟩], 0) := by
    have := readS_encs (l := [⟨1 + b, p, 0, v, [], [], 0, 0, 0, []⟩]) (by intro r hq; simp at hq; subst hq; exact ⟨hw, hr⟩) (by rw [enc1]; omega) (by simp)
    rwa [enc1] at this
  rw [hbytes]
  simp only [Option.bind_some]
  rw [rtcp_Read_eq hB, hrd]
  simp only [Option.bind_some]
  rw [mul_i64 (by omega), add_i64 (by omega), if_pos (by rw [hlen]; simp)]
  have i0 : ix [(⟨1 + b, p, 0, v, [], [], 0, 0, 0, []⟩ : api_Report)] 0 = some ⟨1 + b, p, 0, v, [], [], 0, 0, 0, []⟩ := rfl
  rw [i0]
  simp only [Option.bind_some, beq_self_eq_true, if_true]
  rw [Tuples_eq (by omega), decide_eq_true rfl, known_true]
  rfl
end Go.Lk
