/- Layer 12: Take. -/
import Derived.Test.YtfbffgcoopelfaaRfE
namespace Go.Proofs.Ytfbffgcoopelfaa
open Go Go.Pk
def hdOf (r : Rs) : Hd := if r.save then r.hd else zeroHd
/-- what a take needs -/
structure Takes (r : Rs) : Prop where
  far : r.commit ≤ r.told ∨ (0 ≤ r.hd.base ∧ r.hd.base ≤ r.told ∧ r.commit ≤ r.last ∧ r.commit < 4611690416473899008)
  small : Hd.Sm r.hd
  commits : r.commits.length < 2 ^ 38
theorem tells_len (r : Rs) : ∀ (k : Nat) (t : Int), (r.tells k t).length = k
  | 0, _ => rfl
  | k + 1, t => by simp [Rs.tells, tells_len r k]
section
variable {W w : World} {l : List Res} {K : Value → World → Prop} {b : Nat} {r : Rs}
theorem EnRd.own {s : Sl} {es : List EnC} : EnRd W (OwnS (elP T_api_Entry) s es :: l) s (es.map EnC.dat) :=
  ⟨es, rfl, Rd.ownS, fun e he => by
    obtain ⟨i, hi⟩ := List.getElem?_of_mem he
    exact Rd.ownE hi fun l => Rd.own⟩
theorem take_ok (h : Sat W w (RaR b r :: l)) (ht : Takes r)
    (hK : ∀ ss ls ms rs cs w', Sat W w' (RaR b (Rs.taken r).2 :: BsR ss (hdOf r).snap :: PrR T_api_Entry ls (hdOf r).log :: MsR ms r.msgs :: BsR rs r.rsnap :: PrR T_api_Commit cs (Rs.taken r).1.commits :: l) →
      K (.agg (rdcells r.save ⟨hdOf r, ss, ls⟩ ms r.restore rs cs).toArray) w') :
    CallP P F_raft_Raft_Take [.pointer (some ⟨b, 0, none⟩)] w K := by
  apply c_raft_Raft_Take
  unfold S_raft_Raft_Take
  refine allocB h (z := .agg zReady.toArray) (by kernel_rfl) fun a0 w1 h1 => ?_
  have h1 : Sat W w1 (Blk a0 zReady T_api_Ready :: RaR b r :: l) := h1
  simp only [Option.isNone_some]
  let tc : World → Int := fun w => match w.cell? ⟨b, 11, none⟩ with | some (.int _ n) => n | _ => 0
  have htc : ∀ {w : World} {q : Rs} {L : List Res}, Sat W w (RaR b q :: L) → tc w = q.told := fun h => by
    obtain ⟨p, hp⟩ := sat_ra.1 h
    have := Sat.cell hp 11
    show (match World.cell? _ ⟨b, 11, none⟩ with | some (.int _ n) => n | _ => 0) = _
    rw [this]; rfl
  refine ⟨fun _ w' => ∃ k : Nat, k ≤ (r.commit - r.told).toNat ∧ Sat W w' (RaR b (rk r k) :: Blk a0 zReady T_api_Ready :: l), fun _ w' => (r.commit - tc w').toNat, ⟨0, Nat.zero_le _, by simpa [rk, Rs.tells] using h1.swap⟩, ?_⟩
  rintro _ w2 ⟨k, hk, h2⟩
  have e2 := htc h2
  obtain ⟨p, h3⟩ := sat_ra.1 h2.drew
  refine ldX h3 11 (x := (rk r k).told) ?_
  refine ldX h3 10 (x := r.commit) ?_
  refine ifB_dec (fun hlt => ?_) fun hge => ?_
  · have hlt' : r.told + k < r.commit := hlt
    obtain ⟨f1, f2, f3, f4⟩ := ht.far.resolve_left (by omega)
    have hcs : r.commits.length + k < 2 ^ 41 := by
      have := ht.commits
      have h5 : r.last = r.hd.base + r.hd.log.length := rfl
      have h6 := ht.small.2.1
      omega
    refine tell_step h2.drew.drew hlt' f1 f2 f3 f4 ht.small hcs (tells_len _ _ _) fun w3 h4 => ?_
    have e3 := htc h4
    have t2 : (rk r k).told = r.told + k := rfl
    have t3 : (rk r (k + 1)).told = r.told + (k + 1 : Nat) := rfl
    refine ⟨⟨k + 1, by omega, h4⟩, ?_⟩
    show (r.commit - tc w3).toNat < (r.commit - tc w2).toNat
    rw [e3, e2, t2, t3]; omega
  · have hk' : k = (r.commit - r.told).toNat := by
      have : ¬ r.told + k < r.commit := hge
      omega
    let R : Rs := rk r k
    have h4 : Sat W w2.drew (RaL b R p (Blk a0 zReady T_api_Ready :: l)) := h3
    refine ldAggX 17 11 h4 ?_ (by show 17 + 11 ≤ 28; decide)
    refine newAgg (cs := rdcells r.save ⟨zeroHd, ⟨none, 0, 0⟩, ⟨none, 0, 0⟩⟩ p.msgs r.restore p.rsnap p.commits) (z := zReady) h4 (rdcells_ones _ _ _ _ _ _) fun a1 w3 h5 => ?_
    refine ⟨fun _ w' => ∃ ss ls, Sat W w' (Blk a1 (rdcells r.save ⟨hdOf r, ss, ls⟩ p.msgs r.restore p.rsnap p.commits) T_api_Ready :: BsR ss (hdOf r).snap :: PrR T_api_Entry ls (hdOf r).log :: RaL b R p (Blk a0 zReady T_api_Ready :: l)), ?_, ?_⟩
    · rintro _ w4 ⟨ss, ls, h6⟩
      refine stAggX (cs' := zReady) 17 (h6.up 3) (rdcells_ones _ _ _ _ _ _) (fun w5 h7 => ?_) (by show 17 + 11 ≤ 28; decide)
      have h7 : Sat W w5 (Blk b (rcells { R with save := false, msgs := [], restore := false, rsnap := [], commits := [] } { p with msgs := ⟨none, 0, 0⟩, rsnap := ⟨none, 0, 0⟩, commits := ⟨none, 0, 0⟩ }) T_raft_Raft :: Blk a1 (rdcells r.save ⟨hdOf r, ss, ls⟩ p.msgs r.restore p.rsnap p.commits) T_api_Ready :: BsR ss (hdOf r).snap :: PrR T_api_Entry ls (hdOf r).log ::
          BsR p.snap R.hd.snap :: PrR T_api_Entry p.log R.hd.log :: VtR p.votes R.votes :: IsR p.next R.next :: IsR p.mtch R.mtch :: MsR p.msgs R.msgs :: BsR p.rsnap R.rsnap :: PrR T_api_Commit p.commits R.commits :: Blk a0 zReady T_api_Ready :: l) := h7
      refine ldAggX 0 11 (h7.up 1) ?_ (by show 0 + 11 ≤ 11; decide)
      refine stAggB (cs' := rdcells r.save ⟨hdOf r, ss, ls⟩ p.msgs r.restore p.rsnap p.commits) (h7.up 12) rfl (rdcells_ones _ _ _ _ _ _) (by kernel_rfl) fun w6 h8 => ?_
      refine ldAggB h8 (by kernel_rfl) ?_
      have h9 : Sat W w6 (Blk b (rcells { R with save := false, msgs := [], restore := false, rsnap := [], commits := [] } { p with msgs := ⟨none, 0, 0⟩, rsnap := ⟨none, 0, 0⟩, commits := ⟨none, 0, 0⟩ }) T_raft_Raft :: BsR ss (hdOf r).snap :: PrR T_api_Entry ls (hdOf r).log ::
          BsR p.snap R.hd.snap :: PrR T_api_Entry p.log R.hd.log :: VtR p.votes R.votes :: IsR p.next R.next :: IsR p.mtch R.mtch :: MsR p.msgs R.msgs :: BsR p.rsnap R.rsnap :: PrR T_api_Commit p.commits R.commits :: l) := (h8.cut 0).cut 1
      have h10 : Sat W w6 (PrR T_api_Commit ⟨none, 0, 0⟩ [] :: _) := pr_nil h9
      have h11 : Sat W w6 (BsR ⟨none, 0, 0⟩ [] :: _) := Sat.nilSlr h10 T_uint8 1
      have h12 : Sat W w6 (MsR ⟨none, 0, 0⟩ [] :: _) := sat_ms.2 ⟨[], rfl, own_nil h11⟩
      have h13 : Sat W w6 (Blk b (rcells { R with save := false, msgs := [], restore := false, rsnap := [], commits := [] } { p with msgs := ⟨none, 0, 0⟩, rsnap := ⟨none, 0, 0⟩, commits := ⟨none, 0, 0⟩ }) T_raft_Raft :: BsR p.snap R.hd.snap :: PrR T_api_Entry p.log R.hd.log :: VtR p.votes R.votes :: IsR p.next R.next :: IsR p.mtch R.mtch ::
          MsR ⟨none, 0, 0⟩ [] :: BsR ⟨none, 0, 0⟩ [] :: PrR T_api_Commit ⟨none, 0, 0⟩ [] :: BsR ss (hdOf r).snap :: PrR T_api_Entry ls (hdOf r).log :: MsR p.msgs R.msgs :: BsR p.rsnap R.rsnap :: PrR T_api_Commit p.commits R.commits :: l) := by
        exact h12.sel 11 [3, 6, 7, 8, 9, 10, 0, 1, 2, 4, 5]
      have h14 := sat_ra.2 ⟨_, h13⟩
      have eT : (Rs.taken r).2 = { R with save := false, msgs := [], restore := false, rsnap := [], commits := [] } := by
        simp only [Rs.taken, R, rk]
        have : max r.told r.commit = r.told + (k : Int) := by omega
        rw [this]
      have eC : (Rs.taken r).1.commits = R.commits := by
        simp only [Rs.taken, R, rk, hk']
      have := hK ss ls p.msgs p.rsnap p.commits w6 (by rw [eT, eC]; exact h14)
      exact this
    · refine ldX h5 0 (x := r.save) ?_
      refine ifB_intro (fun hs => ?_) fun hs => ?_
      · have eh : hdOf r = r.hd := by unfold hdOf; rw [if_pos hs]
        refine ldAggX 2 6 (h5.up 1) ?_ (by show 2 + 6 ≤ 28; decide)
        obtain ⟨es, he, h6⟩ := sat_pr.1 (h5.up 3)
        have hrd : HdRd W (OwnS (elP T_api_Entry) p.log es :: Blk a1 (rdcells r.save ⟨zeroHd, ⟨none, 0, 0⟩, ⟨none, 0, 0⟩⟩ p.msgs r.restore p.rsnap p.commits) T_api_Ready :: Blk b (rcells R p) T_raft_Raft :: BsR p.snap R.hd.snap :: VtR p.votes R.votes :: IsR p.next R.next :: IsR p.mtch R.mtch :: MsR p.msgs R.msgs :: BsR p.rsnap R.rsnap :: PrR T_api_Commit p.commits R.commits :: Blk a0 zReady T_api_Ready :: l) ⟨r.hd, p.snap, p.log⟩ :=
          ⟨Rd.own.cons.cons.cons, by rw [← he]; exact EnRd.own⟩
        refine own_ok (c := ⟨r.hd, p.snap, p.log⟩) h6 hrd ht.small fun ss ls w4 h7 => tyI (k := .val) ?_
        refine stAggX (cs' := HdC.cells ⟨r.hd, ss, ls⟩) 1 (h7.up 3) (HdC.ones _) (fun w5 h8 => ⟨ss, ls, ?_⟩) (by show 1 + 6 ≤ 11; decide)
        rw [eh]
        have h9 := sat_pr.2 ⟨es, he, h8.up 3⟩
        exact h9.sel 7 [1, 2, 3, 4, 5, 0, 6]
      · have eh : hdOf r = zeroHd := by unfold hdOf; rw [if_neg (by rw [hs]; decide)]
        refine ⟨⟨none, 0, 0⟩, ⟨none, 0, 0⟩, ?_⟩
        rw [eh]
        have a : Sat W w3 (PrR T_api_Entry ⟨none, 0, 0⟩ [] :: _) := pr_nil h5
        have a2 : Sat W w3 (BsR ⟨none, 0, 0⟩ [] :: _) := Sat.nilSlr a T_uint8 1
        exact a2.sel 3 [2, 0, 1]
end
end Go.Proofs.Ytfbffgcoopelfaa
