/- Layer 7: the laws of reading, writing, cutting, holding apart. -/
import Derived.Test.YtcfgbboibgjlcaaBH
namespace Go.Proofs.Ytcfgbboibgjlcaa
open Go Go.Pk
noncomputable def rD (t : List UInt8) : Dc := if decE t = 0 then decD t else zeroDc
noncomputable abbrev rV (t : List UInt8) (vs : Sl) (ss : List Sl) : Dc := { rD t with vs := vs, ss := ss }
theorem rD_small (t : List UInt8) : (rD t).bs.length ≤ 16 ∧ ∀ b ∈ (rD t).bs, b.length ≤ 64 := by
  unfold rD
  by_cases h : decE t = 0
  · rw [if_pos h]
    obtain ⟨_, _, n2⟩ := chk0 (enc_dec h).2.2
    exact ⟨Nat.le_of_not_lt fun h => n2 (.inl h), fun b hb => Nat.le_of_not_lt fun h => n2 (.inr ⟨b, hb, h⟩)⟩
  · rw [if_neg h]
    exact ⟨by simp [zeroDc], by simp [zeroDc]⟩
theorem sat_nilVs {W w : World} {l : List Res} (h : Sat W w l) : Sat W w (VsR ⟨none, 0, 0⟩ [] [] :: l) := by
  exact (sat_vs (ss := []) (bs := [])).2 (Sat.nilSlr ((sat_all (l' := [])).2 h) T_sl_uint8 1)
section
variable {W w : World} {l : List Res} {K : Value → World → Prop} {d d1 d2 : Dc} {t : List UInt8}
theorem decode_all {x : Sl} (h : Sat W w l) (hx : Rd W l x 1 (t.map vB)) (ht : t.length ≤ 140737488355328)
    (hK : ∀ vs ss w', ss.length = (rD t).bs.length → Sat W w' (VsR vs ss (rD t).bs :: l) → K (.tuple #[.agg (rV t vs ss).cells.toArray, .int .i64 (decE t)]) w') :
    CallP P F_batch_Decode [x.v] w K := by
  refine decode_ok h hx ht (fun hne w' h' => ?_) fun he vs ss w' hs h' => ?_
  · have e : rD t = zeroDc := by unfold rD; rw [if_neg hne]
    have := hK ⟨none, 0, 0⟩ [] w' (by rw [e]; rfl) (by rw [e]; exact sat_nilVs h')
    simp only [rV, e] at this
    exact this
  · have e : rD t = decD t := by unfold rD; rw [if_pos he]
    have := hK vs ss w' (by rw [e]; exact hs) (by rw [e]; exact h')
    simp only [rV, e, he] at this
    exact this
theorem rdecode_all {x : Sl} (h : Sat W w l) (hx : Rd W l x 1 (t.map vB)) (ht : t.length ≤ 140737488355328)
    (hK : ∀ vs ss w', ss.length = (rD t).bs.length → Sat W w' (VsR vs ss (rD t).bs :: l) → K (.tuple #[.agg (rV t vs ss).cells.toArray, .int .i64 (decE t)]) w') :
    CallP P F_ref07_DocDecode [x.v] w K := by
  refine rdecode_ok h hx ht (fun hne w' h' => ?_) fun he vs ss w' hs h' => ?_
  · have e : rD t = zeroDc := by unfold rD; rw [if_neg hne]
    have := hK ⟨none, 0, 0⟩ [] w' (by rw [e]; rfl) (by rw [e]; exact sat_nilVs h')
    simp only [rV, e] at this
    exact this
  · have e : rD t = decD t := by unfold rD; rw [if_pos he]
    have := hK vs ss w' (by rw [e]; exact hs) (by rw [e]; exact h')
    simp only [rV, e, he] at this
    exact this
theorem vals_drop {ss : List Sl} {bs : List (List UInt8)} {i : Nat} (hs : i < ss.length) (hb : i < bs.length) : vals (ss.drop i) (bs.drop i) = BsR ss[i] bs[i] :: vals (ss.drop (i + 1)) (bs.drop (i + 1)) := by
  rw [List.drop_eq_getElem_cons hs, List.drop_eq_getElem_cons hb]; rfl
theorem law_reads {x : Sl} (h : Sat W w l) (hx : Rd W l x 1 (t.map vB)) (ht : t.length ≤ 140737488355328) (hK : ∀ w', Sat W w' l → K (.bool true) w') :
    CallP P F_law07_BatchReads [x.v] w K := by
  apply c_law07_BatchReads
  unfold S_law07_BatchReads
  have hsm := rD_small t
  refine rdecode_all h hx ht fun v1 s1 w1 hs1 h1 => tup2v ?_
  refine newDc h1 _ fun a3 w2 h2 => ?_
  refine awake7_ok h2 fun w3 h3 => tyI ?_
  refine copyBytes h3 hx.cons.cons ht fun s w4 h4 => ?_
  refine decode_all h4 Rd.own ht fun v2 s2 w5 hs2 h5 => tup2v ?_
  refine newDc h5 _ fun a16 w6 h6 => ?_
  refine ⟨fun _ w' => Sat W w' (Blk a16 (rV t v2 s2).cells T_api_Batch :: VsR v2 s2 (rD t).bs :: BsR s t :: Blk a3 (rV t v1 s1).cells T_api_Batch :: VsR v1 s1 (rD t).bs :: l), ?_, ?_⟩
  · rintro _ w7 h7
    refine ldB h7 (i := 8) (x := v2) ?_
    have h8 := sat_vs.1 (h7.up 1)
    have hlen := h8.slLen
    simp only [List.length_map, Nat.mul_one] at hlen
    refine ⟨fun z w' => ∃ i : Nat, z.1 = i ∧ i ≤ s2.length ∧ Sat W w' (SlR T_sl_uint8 1 v2 (s2.map Sl.v) :: All (vals (s2.drop i) ((rD t).bs.drop i)) :: BsR s t :: l), fun z _ => s2.length - z.1.toNat, ⟨0, rfl, Nat.zero_le _, ?_⟩, ?_⟩
    · exact (((h8.cut 2).cut 3).cut 3)
    · rintro ⟨i', u⟩ w9 ⟨i, hi, hil, h9⟩
      simp only at hi ⊢
      subst hi
      refine ifB_dec (fun hlt => ?_) fun hge => ?_
      · have hi1 : i < s2.length := by omega
        have hi2 : i < (rD t).bs.length := by omega
        refine ixld et_vs h9.rdc (by omega) (k := .sl) (x := s2[i]) (by simp [hi1]) ?_
        rw [vals_drop hi1 hi2] at h9
        have h10 := sat_allc.1 h9.swap
        refine fillLoop 1 h10 fun w10 h11 => ?_
        rw [w_i64 (by omega) (by omega)]
        exact ⟨⟨i + 1, rfl, by omega, h11.swap⟩, by omega⟩
      · refine same_ok h9 Rd.own.cons.cons hx.cons.cons.cons (by omega) fun w10 h10 => tyI ?_
        rw [decide_eq_true rfl]
        exact hK w10 h10.tail.tail.tail
  · refine ifB_bne (fun hne => absurd rfl hne) fun _ => ?_
    refine ldAggB h6 (by kernel_rfl) ?_
    refine ldAggB (h6.up 3) (by kernel_rfl) ?_
    refine rsame_ok (d1 := rV t v2 s2) (d2 := rV t v1 s1) h6 (VRd.own (d := rD t) hs2).cons (VRd.own (d := rD t) hs1).cons.cons.cons.cons (fun b hb => by have := hsm.2 b hb; omega) (by have := hsm.1; show (rD t).bs.length < _; omega) fun w7 h7 => tyI ?_
    have e : dsame (rV t v2 s2) (rV t v1 s1) = true := dsame_yes rfl
    rw [e]
    exact h7
end
end Go.Proofs.Ytcfgbboibgjlcaa
