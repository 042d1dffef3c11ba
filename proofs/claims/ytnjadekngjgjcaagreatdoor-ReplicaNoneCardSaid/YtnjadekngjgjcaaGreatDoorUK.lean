/- Layer 14: a batch is laid behind the leader's log. -/
import Derived.Test.YtnjadekngjgjcaaGreatDoorUJ
namespace Go.Proofs.YtnjadekngjgjcaaGreatDoor
open Go Go.Pk
section
variable {W w : World} {l : List Res} {K : Value → World → Prop} {a b : Nat} {r : Rp} {p : RpP}
theorem append_okL {dk : Dk} {d : Dc} (h : Sat W w (RpL a b r p (DkR b dk :: l))) (hl : Lai W l) (hv : VRd W l d) (hnum : ({ d with ba := r.log.fin, ep := r.epoch } : Dc).num) (F : RpF r) (hn : r.log.name.length ≤ 8)
    (hF2 : LFit (r.log.put dk { d.bd with ba := r.log.fin, ep := r.epoch }).1)
    (hK : ∀ w', Sat W w' (RpL a b (r.append dk d.bd).1 p (DkR b (r.append dk d.bd).2.1 :: l)) → K (.tuple #[.int .i64 (r.append dk d.bd).2.2.1, .int .i64 (r.append dk d.bd).2.2.2]) w') :
    CallP P F_replica_Replica_append [.pointer (some ⟨a, 0, none⟩), .agg d.cells.toArray] w K := by
  apply c_replica_Replica_append
  unfold S_replica_Replica_append
  refine boxB h fun g w1 h1 => ?_
  have h1 : Sat W w1 (Blk g d.cells T_api_Batch :: RpL a b r p (DkR b dk :: l)) := h1
  let S : World → Prop := fun w => ∃ L, Sat W w (Blk a (rpcells r p) T_replica_Replica :: L)
  refine ⟨S, ⟨_, h1.drew.tail⟩, ?_⟩
  refine hldX (S := S) (b := a) (fun w hw => hw) 2 (x := some ⟨p.al, 0, none⟩) ?_
  refine hldX (S := S) (b := a) (fun w hw => hw) 5 (x := r.epoch) ?_
  have h2 : Sat W w1.drew (LgR p.al b r.log :: Blk g d.cells T_api_Batch :: Blk a (rpcells r p) T_replica_Replica :: PtR p.at_ r.pt :: EcR p.ae r.ec :: IsR p.isr r.isr :: IsR p.asked r.asked :: MpP .i64 p.pm PeR r.peers :: DkR b dk :: l) := h1.drew.sel 8 [2, 0, 1, 3, 4, 5, 6, 7]
  refine fin_ok h2 F.log.b fun w8 h3 => tyI (k := .int .i64) ⟨⟨_, h3.up 2⟩, ?_⟩
  refine stX (h3.up 1) 0 (v := .int .i64 r.log.fin) (hi := (by show 0 < 9; decide)) fun w10 h4 => ⟨⟨_, h4.up 2⟩, ?_⟩
  refine stX h4 1 (v := .int .i64 r.epoch) (hi := (by show 1 < 9; decide)) fun w11 h5 => ⟨⟨_, h5.up 2⟩, ?_⟩
  let d' : Dc := { d with ba := r.log.fin, ep := r.epoch }
  have hv' : VRd W l d' := hv
  have h6 : Sat W w11 (Blk g d'.cells T_api_Batch :: LgR p.al b r.log :: Blk a (rpcells r p) T_replica_Replica :: PtR p.at_ r.pt :: EcR p.ae r.ec :: IsR p.isr r.isr :: IsR p.asked r.asked :: MpP .i64 p.pm PeR r.peers :: DkR b dk :: l) := h5
  let S2 : World → Prop := fun w => ∃ L, Sat W w (Blk a (rpcells r p) T_replica_Replica :: Blk g d'.cells T_api_Batch :: L)
  have h7 := h6.drew
  refine ⟨S2, ⟨_, h7.sel 3 [2, 0, 1]⟩, ?_⟩
  refine hldX (S := S2) (b := a) (fun w hw => by obtain ⟨L, hw⟩ := hw; exact ⟨_, hw⟩) 2 (x := some ⟨p.al, 0, none⟩) ?_
  refine hldAggX (S := S2) (b := g) 0 9 (fun w hw => by obtain ⟨L, hw⟩ := hw; exact ⟨_, hw.swap⟩) ?_ (by show 0 + 9 ≤ 9; decide)
  have h8 : Sat W w11.drew (LgR p.al b r.log :: DkR b dk :: Blk g d'.cells T_api_Batch :: Blk a (rpcells r p) T_replica_Replica :: PtR p.at_ r.pt :: EcR p.ae r.ec :: IsR p.isr r.isr :: IsR p.asked r.asked :: MpP .i64 p.pm PeR r.peers :: l) := h7.sel 9 [1, 8, 0, 2, 3, 4, 5, 6, 7]
  have hfin := F.log.fin
  refine put_ok (d := d') h8 hl.cons.cons.cons.cons.cons.cons.cons hnum hv'.cons.cons.cons.cons.cons.cons.cons F.log.b F.log.f (by omega) hn F.log.n fun w17 h9 => tyI (k := .int .i64) ⟨⟨_, h9.sel 4 [3, 2, 0, 1]⟩, ?_⟩
  have ed : ({ d.bd with ba := r.log.fin, ep := r.epoch } : Bd) = d'.bd := rfl
  unfold Rp.append at hK
  simp only [ed] at hK hF2
  have mk : ∀ {w' g' dk'}, Sat W w' (LgR p.al b g' :: DkR b dk' :: Blk g d'.cells T_api_Batch :: Blk a (rpcells r p) T_replica_Replica :: PtR p.at_ r.pt :: EcR p.ae r.ec :: IsR p.isr r.isr :: IsR p.asked r.asked :: MpP .i64 p.pm PeR r.peers :: l) → Sat W w' (RpL a b { r with log := g' } p (Blk g d'.cells T_api_Batch :: DkR b dk' :: l)) := fun h => h.sel 9 [3, 0, 4, 5, 6, 7, 8, 2, 1]
  refine ifB_bne (fun c => ?_) fun c => ?_
  · rw [if_pos c] at hK
    exact hK w17 ((mk h9).cut 7)
  rw [if_neg (by rw [c]; simp)] at hK
  refine ldX (mk h9) 2 (x := some ⟨p.al, 0, none⟩) ?_
  refine flush_ok h9 hF2.b fun w22 h10 => tyI (k := .int .i64) ?_
  refine ifB_bne (fun c2 => ?_) fun c2 => ?_
  · rw [if_pos c2] at hK
    exact hK w22 ((mk h10).cut 7)
  rw [if_neg (by rw [c2]; simp)] at hK
  have h11 := mk h10
  refine ldAggB (h11.up 7) (by kernel_rfl) ?_
  refine note_okL (d := d') h11 hv'.cons.cons F.pt F.ec fun w26 h12 => tupU rfl ?_
  refine rise_okL h12 F.isr F.asked fun w29 h13 => tupU rfl ?_
  refine ldX (h13.up 7) 0 (x := r.log.fin) ?_
  exact hK w29 (h13.cut 7)
theorem produce_okL {dk : Dk} {d : Dc} (h : Sat W w (RpL a b r p (DkR b dk :: l))) (hl : Lai W l) (hv : VRd W l d) (hnum : ({ d with ba := r.log.fin, ep := r.epoch } : Dc).num) (F : RpF r) (hn : r.log.name.length ≤ 8)
    (hF2 : LFit (r.log.put dk { d.bd with ba := r.log.fin, ep := r.epoch }).1)
    (hK : ∀ w', Sat W w' (RpL a b (r.produce dk d.bd).1 p (DkR b (r.produce dk d.bd).2.1 :: l)) → K (.tuple #[.int .i64 (r.produce dk d.bd).2.2.1, .int .i64 (r.produce dk d.bd).2.2.2]) w') :
    CallP P F_replica_Replica_Produce [.pointer (some ⟨a, 0, none⟩), .agg d.cells.toArray] w K := by
  apply c_replica_Replica_Produce
  unfold S_replica_Replica_Produce
  refine boxB h fun g w1 h1 => ?_
  have h1 : Sat W w1 (Blk g d.cells T_api_Batch :: RpL a b r p (DkR b dk :: l)) := h1
  unfold Rp.produce at hK
  refine ifB_intro (fun c => absurd c (by simp)) fun _ => ?_
  refine ldX (h1.up 1) 6 (x := r.leads) ?_
  refine ifB_intro (fun c => ?_) fun c => ?_
  · rw [if_pos (by simpa using c)] at hK
    exact hK w1 h1.tail
  rw [if_neg (by simpa using c)] at hK
  refine stX h1 0 (v := .int .i64 0) (hi := (by show 0 < 9; decide)) fun w4 h2 => ?_
  refine stX h2 1 (v := .int .i64 0) (hi := (by show 1 < 9; decide)) fun w5 h3 => ?_
  let d' : Dc := { d with ba := 0, ep := 0 }
  have hv' : VRd W l d' := hv
  have ed : ({ d.bd with ba := 0, ep := 0 } : Bd) = d'.bd := rfl
  simp only [ed] at hK
  have h4 : Sat W w5.drew (Blk g d'.cells T_api_Batch :: RpL a b r p (DkR b dk :: l)) := h3.drew
  let S : World → Prop := fun w => ∃ L, Sat W w (Blk g d'.cells T_api_Batch :: Blk a (rpcells r p) T_replica_Replica :: L)
  have sa : ∀ w, S w → ∃ L, Sat W w (Blk a (rpcells r p) T_replica_Replica :: L) := fun w hw => by obtain ⟨L, hw⟩ := hw; exact ⟨_, hw.swap⟩
  have sg : ∀ w, S w → ∃ L, Sat W w (Blk g d'.cells T_api_Batch :: L) := fun w hw => by obtain ⟨L, hw⟩ := hw; exact ⟨_, hw⟩
  refine ⟨S, ⟨_, h4⟩, ?_⟩
  refine hldX sa 3 (x := some ⟨p.at_, 0, none⟩) ?_
  refine hldAggX 0 9 sg ?_ (by show 0 + 9 ≤ 9; decide)
  have hsel : ∀ {w'}, Sat W w' (Blk g d'.cells T_api_Batch :: RpL a b r p (DkR b dk :: l)) → Sat W w' (PtR p.at_ r.pt :: Blk g d'.cells T_api_Batch :: Blk a (rpcells r p) T_replica_Replica :: LgR p.al b r.log :: EcR p.ae r.ec :: IsR p.isr r.isr :: IsR p.asked r.asked :: MpP .i64 p.pm PeR r.peers :: DkR b dk :: l) := fun h => h.sel 8 [3, 0, 1, 2, 4, 5, 6, 7]
  have hsel2 : ∀ {w'}, Sat W w' (PtR p.at_ r.pt :: Blk g d'.cells T_api_Batch :: Blk a (rpcells r p) T_replica_Replica :: LgR p.al b r.log :: EcR p.ae r.ec :: IsR p.isr r.isr :: IsR p.asked r.asked :: MpP .i64 p.pm PeR r.peers :: DkR b dk :: l) → Sat W w' (Blk g d'.cells T_api_Batch :: RpL a b r p (DkR b dk :: l)) := fun h => h.sel 8 [1, 2, 3, 0, 4, 5, 6, 7]
  refine prodCheck_ok (d := d') (hsel h4) hv'.cons.cons.cons.cons.cons.cons.cons.cons F.pt fun w11 h5 => ?_
  have h6 := hsel2 h5
  generalize r.pt.check d'.bd = z at hK
  obtain ⟨z1, z2, z3⟩ := z
  refine ⟨(z1, z2, z3, ()), rfl, ⟨_, h6⟩, ?_⟩
  simp only at hK ⊢
  refine ⟨fun _ w' => w' = w11 ∧ ¬ (z3 ≠ 0 ∨ z2 = true), ?_, ?_⟩
  · rintro _ _ ⟨rfl, hz⟩
    rw [if_neg hz] at hK
    simp only [show d.bd.pid = d.pid from rfl, show d.bd.ct = d.ct from rfl, show d.bd.pe = d.pe from rfl] at hK
    refine ⟨fun _ w' => Sat W w' (Blk g d'.cells T_api_Batch :: RpL a b r p (DkR b dk :: l)) ∧ ∀ w', Sat W w' (RpL a b (r.append dk d'.bd).1 p (DkR b (r.append dk d'.bd).2.1 :: l)) → K (.tuple #[.int .i64 (r.append dk d'.bd).2.2.1, .int .i64 (r.append dk d'.bd).2.2.2]) w', ?_, ?_⟩
    · rintro _ w18 ⟨h7, hK⟩
      refine ldAggB h7 (by kernel_rfl) ?_
      refine append_okL (d := d') (l := Blk g d'.cells T_api_Batch :: l) (h7.sel 9 [1, 2, 3, 4, 5, 6, 7, 8, 0]) hl.cons hv'.cons hnum F hn hF2 fun w35 h8 => ⟨(_, _, ()), rfl, ?_⟩
      exact hK w35 (h8.cut 8)
    · have h7 := h6.drew
      refine ⟨S, ⟨_, h7⟩, ?_⟩
      refine hldX sa 3 (x := some ⟨p.at_, 0, none⟩) ?_
      refine hldX sg 2 (x := d.pid) ?_
      refine known_ok (hsel h7) fun w24 h8 => ?_
      have h9 := hsel2 h8
      cases hf : r.pt.find d.pid with
      | none =>
        rw [hf] at hK
        simp only at hK
        refine ⟨(0, 0, 0, false, ()), rfl, ⟨_, h9⟩, ?_⟩
        refine ldX h9 6 (x := d.ct) ?_
        refine ifB_intro (fun _ => ?_) fun _ => ⟨h9, hK⟩
        exact ⟨h9, hK⟩
      | some q =>
        rw [hf] at hK
        simp only at hK
        refine ⟨(q.epoch, q.next, q.opn, true, ()), rfl, ⟨_, h9⟩, ?_⟩
        refine ldX h9 6 (x := d.ct) ?_
        refine ifB_intro (fun c1 => ?_) fun c1 => ⟨h9, by rw [if_neg (fun c => by rw [c.1] at c1; cases c1)] at hK; exact hK⟩
        show ifB true _ _
        rw [ifB_true]
        refine ldX h9 3 (x := d.pe) ?_
        refine ifB_dec (fun c2 => ?_) fun c2 => ⟨h9, by rw [if_neg (fun c => c2 c.2.1)] at hK; exact hK⟩
        refine ifB_dec (fun c3 => ?_) fun c3 => ⟨h9, by rw [if_neg (fun c => c3 c.2.2)] at hK; exact hK⟩
        rw [if_pos ⟨c1, c2, c3⟩] at hK
        refine ldX (h9.up 1) 2 (x := some ⟨p.al, 0, none⟩) ?_
        refine fin_ok (h9.up 2) F.log.b fun w31 h10 => tyI (k := .int .i64) ?_
        have hfin := F.log.fin
        rw [w_i64 (n := r.log.fin - 1) (by omega) (by omega)]
        exact hK w31 (h10.sel 8 [2, 0, 3, 4, 5, 6, 7])
  · refine ifB_bne (fun c1 => ?_) fun c1 => ?_
    · rw [if_pos (.inl c1)] at hK
      exact hK w11 h6.tail
    · refine ifB_intro (fun c2 => ?_) fun c2 => ⟨rfl, fun hh => hh.elim (fun c => c c1) (fun c => by rw [c] at c2; cases c2)⟩
      rw [if_pos (.inr c2)] at hK
      exact hK w11 h6.tail
end
end Go.Proofs.YtnjadekngjgjcaaGreatDoor
