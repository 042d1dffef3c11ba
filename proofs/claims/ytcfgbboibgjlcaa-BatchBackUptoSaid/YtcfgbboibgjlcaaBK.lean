/- Layer 7: the laws of there and back, and of marks. -/
import Derived.Test.YtcfgbboibgjlcaaBJ
namespace Go.Proofs.Ytcfgbboibgjlcaa
open Go Go.Pk
section
variable {W w : World} {l : List Res} {K : Value → World → Prop} {d d1 d2 : Dc} {t : List UInt8}
theorem law_back7 {x1 : Sl} (h : Sat W w l) (hn : d.num) (hv : VRd W l d) (hs : d.small) (hx : Rd W l x1 1 (t.map vB)) (ht : t.length ≤ 140737488355328) (hK : ∀ w', Sat W w' l → K (.bool true) w') :
    CallP P F_law07_BatchBack [.agg d.cells.toArray, x1.v] w K := by
  apply c_law07_BatchBack
  unfold S_law07_BatchBack
  refine boxB h fun a0 w1 h1 => ?_
  have h1 : Sat W w1 (Blk a0 d.cells T_api_Batch :: l) := h1
  refine awake7_ok h1 fun w2 h2 => tyI ?_
  refine ldAggB h2 (by kernel_rfl) ?_
  refine copy_ok h2 hv.cons hs.1 hs.2 fun vs ss w3 hss h3 => tyI (k := .val) ?_
  refine encode_all (d := cp d vs ss) h3 hn (VRd.own (d := d) hss) fun s w4 h4 => tup2 ?_
  have ec : chk (cp d vs ss) = chk d := chk_dat rfl
  have ee : eB (cp d vs ss) = eB d := by unfold eB; rw [ec]; rfl
  rw [ec]
  rw [ee] at h4
  have h5 : Sat W w4 (BsR s (eB d) :: Blk a0 d.cells T_api_Batch :: l) := h4.cut 1
  refine ⟨fun _ w' => Sat W w' l, ?_, ?_⟩
  · rintro _ w5 h6
    refine copyBytes h6 hx ht fun s2 w6 h7 => ?_
    refine decode_all h7 Rd.own ht fun v2 ss2 w7 hs2 h8 => tup2v ?_
    refine newDc h8 _ fun a40 w8 h9 => ?_
    refine ifB_bne (fun hne => ?_) fun he => ?_
    · have hne' : decE t ≠ 0 := hne
      have e0 : (rD t).bs = [] := by unfold rD; rw [if_neg hne']; rfl
      refine ldB h9 (i := 8) (x := v2) ?_
      have hl := (sat_vs.1 h9.tail).slLen
      rw [e0] at hs2
      have hss0 : ss2 = [] := List.eq_nil_of_length_eq_zero hs2
      subst hss0
      simp only [List.map_nil, List.length_nil, Nat.mul_one] at hl
      have : (((v2.len : Nat) : Int) == 0) = true := by rw [← hl.1]; rfl
      rw [this]
      exact hK w8 h9.tail.tail.tail
    · have he' : decE t = 0 := he
      have er : rD t = decD t := by unfold rD; rw [if_pos he']
      obtain ⟨q1, q2, q3⟩ := enc_dec he'
      refine ldAggB h9 (by kernel_rfl) ?_
      have hv2 : ∀ {l : List Res}, VRd W (VsR v2 ss2 (rD t).bs :: l) (rV t v2 ss2) := VRd.own (d := rD t) hs2
      have c2 : chk (rV t v2 ss2) = 0 := by rw [← q3, ← er]; exact chk_dat rfl
      have e2 : eB (rV t v2 ss2) = t := by
        unfold eB; rw [if_pos c2]
        have : encB (rV t v2 ss2) = encB (decD t) := by rw [← er]; rfl
        rw [this]; exact q1
      refine encode_all (d := rV t v2 ss2) h9 (by rw [← er] at q2; exact q2) hv2.cons fun s3 w9 h10 => tup2 ?_
      rw [c2, e2] at *
      refine ifB_beq (fun _ => ?_) fun hne => absurd rfl hne
      refine same_ok h10 Rd.own hx.cons.cons.cons.cons (by omega) fun w10 h11 => tyI ?_
      rw [decide_eq_true rfl]
      exact hK w10 h11.tail.tail.tail.tail
  · refine ifB_beq (fun hc => ?_) fun hc => ?_
    · have hc' : chk d = 0 := hc
      have ed : eB d = encB d := by unfold eB; rw [if_pos hc']
      rw [ed] at h5
      obtain ⟨q1, q2⟩ := dec_enc hn hc'
      have hel := encB_len hn hc'
      have hsm := rD_small (encB d)
      generalize encB d = tt at h5 q1 q2 hel hsm
      refine decode_all h5 Rd.own (by omega) fun v1 ss1 w5 hs1 h6 => tup2v ?_
      refine newDc h6 _ fun a18 w6 h7 => ?_
      rw [q1]
      refine ifB_bne (fun hne => absurd rfl hne) fun _ => ?_
      refine ldAggB h7 (by kernel_rfl) ?_
      refine ldAggB (h7.up 3) (by kernel_rfl) ?_
      refine rsame_ok (d1 := rV tt v1 ss1) (d2 := d) h7 (VRd.own (d := rD tt) hs1).cons hv.cons.cons.cons.cons (fun b hb => by have := hsm.2 b hb; omega) (by have := hsm.1; show (rD tt).bs.length < _; omega) fun w7 h8 => tyI ?_
      have er : rD tt = decD tt := by unfold rD; rw [if_pos q1]
      have e : dsame (rV tt v1 ss1) d = true := dsame_yes (by rw [← q2, ← er]; rfl)
      rw [e]
      exact h8.tail.tail.tail.tail
    · have hc' : chk d ≠ 0 := hc
      have ed : eB d = [] := by unfold eB; rw [if_neg hc']
      rw [ed] at h5
      have hl := Sat.bsLen h5
      refine ldAggB h5.swap (by kernel_rfl) ?_
      refine copy_ok h5 hv.cons.cons hs.1 hs.2 fun vs1 ss1 w5 hss1 h6 => tyI (k := .val) ?_
      refine check_ok (d := cp d vs1 ss1) h6 (VRd.own (d := d) hss1) fun w6 h7 => tyI ?_
      have ec1 : chk (cp d vs1 ss1) = chk d := chk_dat rfl
      rw [ec1]
      refine ifB_bne (fun hne => absurd rfl hne) fun _ => ?_
      refine ifB_bne (fun hne => absurd (by show ((s.len : Nat) : Int) = 0; have := hl.1; simp at this; omega) hne) fun _ => ?_
      exact h7.tail.tail.tail
end
end Go.Proofs.Ytcfgbboibgjlcaa
