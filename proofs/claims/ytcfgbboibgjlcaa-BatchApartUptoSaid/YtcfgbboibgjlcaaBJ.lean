/- Layer 7: the laws of writing, cutting, holding apart. -/
import Derived.Test.YtcfgbboibgjlcaaBI
import Derived.Test.YtcfgbboibgjlcaaLF
namespace Go.Proofs.Ytcfgbboibgjlcaa
open Go Go.Pk
noncomputable def eB (d : Dc) : List UInt8 := if chk d = 0 then encB d else []
def Dc.small (d : Dc) : Prop := d.bs.length < 2 ^ 40 ∧ ∀ b ∈ d.bs, b.length ≤ 140737488355328
theorem eB_len {d : Dc} (hn : d.num) : (eB d).length ≤ 2000 := by
  unfold eB
  split
  · rename_i h
    obtain ⟨n1, n7, n2⟩ := chk0 h
    have hb16 : d.bs.length ≤ 16 := Nat.le_of_not_lt fun h => n2 (.inl h)
    have hb64 : ∀ b ∈ d.bs, b.length ≤ 64 := fun b hb => Nat.le_of_not_lt fun h => n2 (.inr ⟨b, hb, h⟩)
    obtain ⟨⟨a0, a1⟩, ⟨b0, b1⟩, ⟨c0, c1⟩, ⟨e0, e1⟩, ⟨f0, f1⟩⟩ := hn
    have q1 := intB_len10 a0 a1
    have q2 := intB_len10 b0 b1
    have q3 := uintB_len10 d.pid.toNat (by omega)
    have q4 := intB_len10 e0 e1
    have q5 := intB_len10 f0 f1
    have q6 := uintB_len10 d.bs.length (by omega)
    have q7 := flagB_len d.tx
    have q8 := flagB_len d.ct
    have q9 := flagB_len d.cm
    have q0 := vals_len d.bs hb64
    simp only [encB, headB, List.length_append]
    omega
  · simp
theorem encB_len {d : Dc} (hn : d.num) (h : chk d = 0) : (encB d).length ≤ 2000 := by
  have := eB_len hn
  unfold eB at this
  rwa [if_pos h] at this
theorem encB_pos {d : Dc} : 0 < (encB d).length := by
  simp only [encB, headB, List.length_append]
  have := uintB_pos d.bs.length
  omega
section
variable {W w : World} {l : List Res} {K : Value → World → Prop} {d d1 d2 : Dc} {t : List UInt8}
theorem hldAggB {S : World → Prop} {W : World} {b : Nat} {cs : List Value} {T : TypeId} {t : TypeId} (hS : ∀ w, S w → ∃ l, Sat W w (Blk b cs T :: l)) (ht : aggT P t cs.length = true) {K : Value → Prop} (hK : K (.agg cs.toArray)) :
    HRun S .val P (Instr.loadAt t (.pointer (some ⟨b, 0, none⟩))) K :=
  ⟨.agg cs.toArray, fun w hw => by
    obtain ⟨l, h⟩ := hS w hw
    obtain ⟨x, hx, hk⟩ := ldAggB (K := fun v => v = .agg cs.toArray) h ht rfl
    rw [hx]; exact congrArg (fun v => Result.ok v w) hk, hK⟩
theorem encode_all (h : Sat W w l) (hn : d.num) (hv : VRd W l d) (hK : ∀ s w', Sat W w' (BsR s (eB d) :: l) → K (.tuple #[s.v, .int .i64 (chk d)]) w') : CallP P F_batch_Encode [.agg d.cells.toArray] w K := by
  refine encode_ok h hn hv (fun hne w' h' => ?_) fun he s w' h' => ?_
  · have := hK ⟨none, 0, 0⟩ w' (by unfold eB; rw [if_neg hne]; exact Sat.nilSlr h' T_uint8 1)
    exact this
  · have := hK s w' (by unfold eB; rw [if_pos he]; exact h')
    rwa [he] at this
theorem rencode_all (h : Sat W w l) (hn : d.num) (hv : VRd W l d) (hK : ∀ s w', Sat W w' (BsR s (eB d) :: l) → K (.tuple #[s.v, .int .i64 (chk d)]) w') : CallP P F_ref07_DocEncode [.agg d.cells.toArray] w K := by
  refine rencode_ok h hn hv (fun hne w' h' => ?_) fun he s w' h' => ?_
  · have := hK ⟨none, 0, 0⟩ w' (by unfold eB; rw [if_neg hne]; exact Sat.nilSlr h' T_uint8 1)
    exact this
  · have := hK s w' (by unfold eB; rw [if_pos he]; exact h')
    rwa [he] at this
abbrev cp (d : Dc) (vs : Sl) (ss : List Sl) : Dc := { d with vs := vs, ss := ss }
theorem emptyBytes (h : Sat W w l) {K : Sl → World → Prop} (hK : ∀ s w', Sat W w' (BsR s [] :: l) → K s w') : RunK .sl P (Instr.buildSlice T_sl_uint8 0 #[]) w K :=
  bsB h (cs := []) (e := T_uint8) (fun w => by kernel_rfl) fun g w1 h1 => hK ⟨some ⟨g, 0, none⟩, 0, 0⟩ w1 (h1.mkSlr rfl (by simp) (by simp) (by simp) rfl (by simp))
theorem law_checks (h : Sat W w l) (hn : d.num) (hv : VRd W l d) (hs : d.small) (hK : ∀ w', Sat W w' l → K (.bool true) w') : CallP P F_law07_BatchChecks [.agg d.cells.toArray] w K := by
  apply c_law07_BatchChecks
  unfold S_law07_BatchChecks
  refine boxB h fun a0 w1 h1 => ?_
  have h1 : Sat W w1 (Blk a0 d.cells T_api_Batch :: l) := h1
  refine ldAggB h1 (by kernel_rfl) ?_
  refine rencode_all h1 hn hv.cons fun s1 w2 h2 => tup2 ?_
  refine awake7_ok h2 fun w3 h3 => tyI ?_
  refine ldAggB h3.swap (by kernel_rfl) ?_
  refine copy_ok h3 hv.cons.cons hs.1 hs.2 fun vs ss w4 hss h4 => tyI (k := .val) ?_
  refine newDc h4 (cp d vs ss) fun a13 w5 h5 => ?_
  refine ldAggB h5 (by kernel_rfl) ?_
  have hv2 : ∀ {l : List Res}, VRd W (VsR vs ss d.bs :: l) (cp d vs ss) := VRd.own (d := d) hss
  refine encode_all (d := cp d vs ss) h5 hn hv2.cons fun s2 w6 h6 => tup2 ?_
  have ec : chk (cp d vs ss) = chk d := chk_dat rfl
  have ee : eB (cp d vs ss) = eB d := by unfold eB; rw [ec]; rfl
  rw [ec]
  rw [ee] at h6
  have hel := eB_len hn
  let L : List Res := BsR s2 (eB d) :: Blk a13 (cp d vs ss).cells T_api_Batch :: VsR vs ss d.bs :: BsR s1 (eB d) :: Blk a0 d.cells T_api_Batch :: l
  have h7 : Sat W w6.drew L := h6.drew
  have la : ∀ w, Sat W w L → ∃ l, Sat W w (Blk a13 (cp d vs ss).cells T_api_Batch :: l) := fun w h => ⟨_, h.up 1⟩
  have lb : ∀ w, Sat W w L → ∃ l, Sat W w (Blk a0 d.cells T_api_Batch :: l) := fun w h => ⟨_, h.up 4⟩
  have va : VRd W L (cp d vs ss) := hv2.cons.cons
  have vb : VRd W L d := hv.cons.cons.cons.cons.cons
  refine ⟨fun w => Sat W w L, h7, ?_⟩
  refine hldAggB la (by kernel_rfl) ?_
  refine hldAggB lb (by kernel_rfl) ?_
  refine size_ok h7 va fun w8 h8 => tyI ⟨h8, ?_⟩
  refine rsize_ok h8 vb fun w9 h9 => tyI ⟨h9, ?_⟩
  refine ifB_beq (fun _ => ?_) fun hne => absurd rfl hne
  refine hldAggB la (by kernel_rfl) ?_
  refine hldAggB lb (by kernel_rfl) ?_
  refine check_ok h9 va fun w10 h10 => tyI ⟨h10, ?_⟩
  refine rcheck_ok h10 vb fun w11 h11 => tyI ⟨h11, ?_⟩
  rw [ec]
  refine ifB_beq (fun _ => ?_) fun hne => absurd rfl hne
  refine ifB_beq (fun _ => ?_) fun hne => absurd rfl hne
  refine same_ok h11 Rd.own (Rd.own.cons.cons.cons) (by omega) fun w12 h12 => tyI ⟨h12, ?_⟩
  rw [decide_eq_true rfl]
  refine hldAggB la (by kernel_rfl) ?_
  refine hldAggB lb (by kernel_rfl) ?_
  refine rsame_ok (d1 := cp d vs ss) (d2 := d) h12 va vb (fun b hb => by have := hs.2 b hb; omega) (by show d.bs.length < _; have := hs.1; omega) fun w13 h13 => tyI ⟨h13, ?_⟩
  have e : dsame (cp d vs ss) d = true := dsame_yes rfl
  rw [e]
  exact hK w13 h13.tail.tail.tail.tail.tail
theorem law_apart7 (h : Sat W w l) (hn1 : d1.num) (hv1 : VRd W l d1) (hs1 : d1.small) (hn2 : d2.num) (hv2 : VRd W l d2) (hs2 : d2.small) (hK : ∀ w', Sat W w' l → K (.bool true) w') :
    CallP P F_law07_BatchApart [.agg d1.cells.toArray, .agg d2.cells.toArray] w K := by
  apply c_law07_BatchApart
  unfold S_law07_BatchApart
  refine boxB h fun a0 w1 h1 => ?_
  refine boxB h1 fun a2 w2 h2 => ?_
  have h2 : Sat W w2 (Blk a2 d2.cells T_api_Batch :: Blk a0 d1.cells T_api_Batch :: l) := h2
  refine ldAggB h2.swap (by kernel_rfl) ?_
  refine copy_ok h2 hv1.cons.cons hs1.1 hs1.2 fun vs1 ss1 w3 hss1 h3 => tyI (k := .val) ?_
  refine encode_all (d := cp d1 vs1 ss1) h3 hn1 (VRd.own (d := d1) hss1) fun s1 w4 h4 => tup2 ?_
  refine ldAggB (h4.up 2) (by kernel_rfl) ?_
  refine copy_ok h4 hv2.cons.cons.cons.cons hs2.1 hs2.2 fun vs2 ss2 w5 hss2 h5 => tyI (k := .val) ?_
  refine encode_all (d := cp d2 vs2 ss2) h5 hn2 (VRd.own (d := d2) hss2) fun s2 w6 h6 => tup2 ?_
  have ec1 : chk (cp d1 vs1 ss1) = chk d1 := chk_dat rfl
  have ec2 : chk (cp d2 vs2 ss2) = chk d2 := chk_dat rfl
  have ee1 : eB (cp d1 vs1 ss1) = eB d1 := by unfold eB; rw [ec1]; rfl
  have ee2 : eB (cp d2 vs2 ss2) = eB d2 := by unfold eB; rw [ec2]; rfl
  rw [ec1, ec2]
  rw [ee1, ee2] at h6
  have hel := eB_len hn1
  let L : List Res := BsR s2 (eB d2) :: VsR vs2 ss2 d2.bs :: BsR s1 (eB d1) :: VsR vs1 ss1 d1.bs :: Blk a2 d2.cells T_api_Batch :: Blk a0 d1.cells T_api_Batch :: l
  have h7 : Sat W w6.drew L := h6.drew
  have la : ∀ w, Sat W w L → ∃ l, Sat W w (Blk a0 d1.cells T_api_Batch :: l) := fun w h => ⟨_, h.up 5⟩
  have lb : ∀ w, Sat W w L → ∃ l, Sat W w (Blk a2 d2.cells T_api_Batch :: l) := fun w h => ⟨_, h.up 4⟩
  refine ⟨fun w => Sat W w L, h7, ?_⟩
  refine awake7_ok h7 fun w8 h8 => tyI ⟨h8, ?_⟩
  rw [ifB_true]
  have fin : K (.bool true) w8 := hK w8 h8.tail.tail.tail.tail.tail.tail
  refine ifB_bne (fun _ => fin) fun z1 => ?_
  refine ifB_bne (fun _ => fin) fun z2 => ?_
  refine hldAggB la (by kernel_rfl) ?_
  refine hldAggB lb (by kernel_rfl) ?_
  refine same_ok h8 Rd.own.cons.cons Rd.own (by omega) fun w9 h9 => tyI ⟨h9, ?_⟩
  refine rsame_ok (d1 := d1) (d2 := d2) h9 hv1.cons.cons.cons.cons.cons.cons hv2.cons.cons.cons.cons.cons.cons (fun b hb => by have := hs1.2 b hb; omega) (by have := hs1.1; omega) fun w10 h10 => tyI ⟨h10, ?_⟩
  have z1' : chk d1 = 0 := z1
  have z2' : chk d2 = 0 := z2
  have e : (decide (eB d1 = eB d2) == dsame d1 d2) = true := by
    have h1 : eB d1 = encB d1 := by unfold eB; rw [if_pos z1']
    have h2 : eB d2 = encB d2 := by unfold eB; rw [if_pos z2']
    rw [h1, h2]
    by_cases hd : d1.dat = d2.dat
    · rw [dsame_yes hd, decide_eq_true ((enc_same hn1 hn2 z1' z2').2 hd)]; rfl
    · rw [dsame_no hd, decide_eq_false (fun h => hd ((enc_same hn1 hn2 z1' z2').1 h))]; rfl
  rw [e]
  exact hK w10 h10.tail.tail.tail.tail.tail.tail
theorem law_cut7 {x1 : Int} {x2 : Sl} {m : List UInt8} (h : Sat W w l) (hn : d.num) (hv : VRd W l d) (hs : d.small) (h0 : 0 ≤ x1) (h1 : x1 < 65536) (hx2 : Rd W l x2 1 (m.map vB)) (hm : m.length ≤ 140737488300000) (hK : ∀ w', Sat W w' l → K (.bool true) w') :
    CallP P F_law07_BatchCut [.agg d.cells.toArray, .int .u16 x1, x2.v] w K := by
  apply c_law07_BatchCut
  unfold S_law07_BatchCut
  refine boxB h fun a0 w1 h1 => ?_
  have h1 : Sat W w1 (Blk a0 d.cells T_api_Batch :: l) := h1
  refine ldAggB h1 (by kernel_rfl) ?_
  refine copy_ok h1 hv.cons hs.1 hs.2 fun vs ss w2 hss h2 => tyI (k := .val) ?_
  refine encode_all (d := cp d vs ss) h2 hn (VRd.own (d := d) hss) fun s w3 h3 => tup2 ?_
  have ec : chk (cp d vs ss) = chk d := chk_dat rfl
  have ee : eB (cp d vs ss) = eB d := by unfold eB; rw [ec]; rfl
  rw [ec]
  rw [ee] at h3
  have h3 : Sat W w3 (BsR s (eB d) :: l) := ((h3.cut 1).cut 1)
  have hsl := Sat.bsLen h3
  have hsc := Sat.slLen h3
  refine ⟨fun _ w' => chk d = 0 ∧ s.len ≠ 0 ∧ Sat W w' (BsR s (eB d) :: l), ?_, ?_⟩
  · rintro _ w4 ⟨hc, hne, h4⟩
    have ed : eB d = encB d := by unfold eB; rw [if_pos hc]
    rw [ed] at h4 hsl
    have hel := encB_len hn hc
    have e1 : IntKind.i64.wrap x1 = x1 := w_i64 (by omega) (by omega)
    have hxl := (hx2 w4 h4.tail).1
    simp only [List.length_map, Nat.mul_one] at hxl
    refine emptyBytes h4 fun e w5 h5 => ?_
    rw [e1]
    refine remR (by simp only; omega) ?_
    simp only
    rw [Int.tmod_eq_emod_of_nonneg h0]
    have hn2 : (x1 % (s.len : Int)).toNat < s.len := by
      have := Int.emod_lt_of_pos x1 (b := (s.len : Int)) (by omega)
      have := Int.emod_nonneg x1 (b := (s.len : Int)) (by omega)
      omega
    have hnn := Int.emod_nonneg x1 (b := (s.len : Int)) (by omega)
    generalize x1 % (s.len : Int) = k at hn2 hnn
    refine ⟨⟨s.a, k.toNat, s.cap⟩, run_sliceHi et_bytes hnn (by omega) _, ?_⟩
    have et : ((encB d).map vB).take (k.toNat * 1) = ((encB d).take k.toNat).map vB := by rw [Nat.mul_one, List.map_take]
    have rs : Rd W (BsR s (encB d) :: l) ⟨s.a, k.toNat, s.cap⟩ 1 (((encB d).take k.toNat).map vB) := by
      rw [← et]; exact Rd.hi Rd.own (by omega)
    refine appBytes h5 (rs w5 h5.tail) (by simp; omega) fun s2 w6 h6 => ?_
    rw [List.nil_append] at h6
    have htl : ((encB d).take k.toNat).length ≤ 140737488355328 := by simp; omega
    refine decode_all h6 Rd.own htl fun v3 ss3 w7 hs3 h7 => tup2v ?_
    have hd1 := dec_cut hn hc (m := k.toNat) (by omega)
    rw [hd1]
    refine newDc h7 _ fun a34 w8 h8 => ?_
    have h9 : Sat W w8 (BsR s (encB d) :: l) := ((h8.cut 0).cut 0).cut 0
    refine emptyBytes h9 fun e2 w9 h10 => ?_
    refine appBytes h10 h10.tail.rdc (by simp; omega) fun s3 w10 h11 => ?_
    rw [List.nil_append] at h11
    refine appBytes h11 (hx2 w10 h11.tail.tail) (by omega) fun s4 w11 h12 => ?_
    refine decode_all h12 Rd.own (by simp; omega) fun v4 ss4 w12 hs4 h13 => tup2v ?_
    refine newDc h13 _ fun a46 w13 h14 => ?_
    refine ifB_beq (fun _ => ?_) fun hne => absurd rfl hne
    rw [dec_more hn hc m]
    have e3 : (((if m = [] then (0 : Int) else 6) == 0) == ((x2.len : Int) == 0)) = true := by
      by_cases hm0 : m = []
      · subst hm0
        simp only [List.length_nil] at hxl
        rw [← hxl]; rfl
      · have hm1 : 0 < m.length := List.length_pos_iff.2 hm0
        have hx0 : ((x2.len : Int) == 0) = false := by simp; omega
        rw [if_neg hm0, hx0]; rfl
    rw [e3]
    exact hK w13 h14.tail.tail.tail.tail
  · refine awake7_ok h3 fun w4 h4 => tyI ?_
    refine ifB_bne (fun _ => ?_) fun hc => ?_
    · exact awake7_ok h4 fun w5 h5 => tyI (hK w5 h5.tail)
    · refine ifB_beq (fun hz => ?_) fun hz => ⟨hc, by simp only at hz; omega, h4⟩
      exact awake7_ok h4 fun w5 h5 => tyI (hK w5 h5.tail)
end
end Go.Proofs.Ytcfgbboibgjlcaa
