/- Layer 19: an answer. -/
import Derived.Test.YtajhdjjmhfbhgaaKY
namespace Go.Proofs.Ytajhdjjmhfbhgaa
open Go Go.Pk
/-- what a client that waits has asked -/
structure Waits (c : Cl) : Prop where
  part : c.asked.kind = 5 ∨ c.asked.kind = 6 ∨ c.asked.kind = 12 ∨ c.asked.kind = 14 → 0 ≤ c.asked.part ∧ c.asked.part < c.parts
  op : c.asked.kind = 5 ∨ c.asked.kind = 6 → c.op < c.ops.length
  vals : c.asked.vals.length ≤ 1000000
section
variable {W w : World} {l : List Res} {K : Value → World → Prop} {b : Nat} {c : Cl} {p : ClP} {cs : List Value} {m : Rp}
theorem answered_ok (h : Sat W w (ClM b c :: l)) (hm : RpC cs m) (hr : RpRd W l m) (q : Good c) (hw : Waits c) (hn : m.bl.length ≤ 1000000000 ∧ vtot m.bl ≤ 1000000000 ∧ m.al.length ≤ 1000000000)
    (hK : ∀ w', Sat W w' (ClM b (c.answered m) :: l) → K (.tuple #[]) w') : CallP P F_client_Client_answered [.pointer (some ⟨b, 0, none⟩), .agg cs.toArray] w K := by
  apply c_client_Client_answered
  unfold S_client_Client_answered
  have q1 := q.parts
  have q5 := q.seen
  have qd := q.added
  refine boxB h fun g w1 h1 => ?_
  have h1 : Sat W w1 (Blk g cs T_api_Msg :: ClM b c :: l) := h1
  obtain ⟨p, h2⟩ := sat_cl.1 h1.swap
  unfold Cl.answered at hK
  refine ldX h2 13 (x := c.asked.kind) ?_
  refine ifB_beq (fun k => ?_) fun k7 => ?_
  · rw [if_pos k] at hK
    refine ldAggB h1 (by rw [hm.len]; kernel_rfl) ?_
    exact given_ok h1.swap hm q fun w3 h3 => tupU rfl (hK w3 (h3.cut 1))
  rw [if_neg k7] at hK
  refine ifB_beq (fun k => ?_) fun k8 => ?_
  · rw [if_pos k] at hK
    have h3 := h2.drew
    have hs : ∀ {w : World} {c' : Cl} {q : ClP} {L : List Res}, Sat W w (Blk b (ccells c' q) T_client_Client :: L) → c'.asked = c.asked → At W b 59 (.int .i64 c.asked.offset) w := fun h e => ⟨_, _, _, h, by rw [← e]; rfl⟩
    refine ⟨fun w => At W b 59 (.int .i64 c.asked.offset) w, hs h3 rfl, ?_⟩
    refine hldY b 59 (x := c.asked.offset) (fun _ h => h) ?_
    have hal : c.added.length = p.added.len := (Sat.isLen (s := p.added) (Sat.up (L := ClL b c p (Blk g cs T_api_Msg :: l)) h2 7)).1
    have fin : ∀ g2 w', Sat W w' (Blk g2 [.int .i64 c.asked.offset] T_int :: ClL b c p (Blk g cs T_api_Msg :: l)) → RunK .sl P (Builtin.append_ #[T_sl_int, T_sl_int] T_sl_int #[p.added.v, Sl.v ⟨some ⟨g2, 0, none⟩, 1, 1⟩]) w' fun (s15 : Sl) w16 =>
        At W b 59 (.int .i64 c.asked.offset) w16 ∧ StoreP P T_sl_int (.pointer (some (((⟨b, 0, none⟩ : Addr).add 77).add 5))) s15.v w16 fun w18 => At W b 59 (.int .i64 c.asked.offset) w18 ∧ K (.tuple #[]) w18 := by
      intro g2 w' h'
      have h6 : Sat W w' (SlR T_int 1 p.added (c.added.map vI) :: Blk g2 [.int .i64 c.asked.offset] T_int :: Blk b (ccells c p) T_client_Client :: SlR T_api_Op 5 p.ops (elO.flat c.ops) :: IsR p.targets c.targets :: Pure (p.vl.map Prod.snd = c.asked.vals) :: OwnS elV p.vs p.vl :: SlR T_api_Msg 59 p.out (outL c p.vs) ::
          SlR T_api_Seen 7 p.seen (elS.flat c.seen) :: IsR p.next c.next :: IsR p.mine c.mine :: IsR p.att c.att :: IsR p.sure c.sure :: SlR T_string 1 p.values (c.values.map vT) :: Blk g cs T_api_Msg :: l) := h'.sel 15 [8, 0, 1, 2, 3, 4, 5, 6, 7, 9, 10, 11, 12, 13, 14]
      refine pushB et_ints (by decide) h6 rfl (by intro u hu; simp at hu; subst hu; rfl) (by omega) (by omega) fun s' w2 h7 => ⟨hs (h7.up 2) rfl, ?_⟩
      refine stX (h7.up 2) 82 fun w3 h8 => ?_
      have e : (c.added.map vI ++ [Value.int .i64 c.asked.offset]) = (c.added ++ [c.asked.offset]).map vI := by rw [List.map_append]; rfl
      rw [e] at h8
      have h9 : Sat W w3 (ClL b { c with added := c.added ++ [c.asked.offset] } { p with added := s' } (Blk g cs T_api_Msg :: l)) := Sat.sel h8 15 [0, 3, 4, 5, 6, 7, 8, 1, 9, 10, 11, 12, 13, 14]
      exact ⟨hs (c' := { c with added := c.added ++ [c.asked.offset] }) h9 rfl, hK w3 ((sat_cl.2 ⟨_, h9⟩ : Sat W w3 (ClM b _ :: Blk g cs T_api_Msg :: l)).cut 1)⟩
    refine ⟨?_, ?_, trivial⟩
    · refine ldX h3 82 (k := .sl) (x := p.added) ⟨hs h3 rfl, ?_⟩
      refine bsB h3 (cs := [.int .i64 c.asked.offset]) (e := T_int) (fun w => by kernel_rfl) fun g2 w4 h4 => ⟨hs h4.tail rfl, ?_⟩
      exact fin g2 w4 h4
    · refine bsB h3 (cs := [.int .i64 c.asked.offset]) (e := T_int) (fun w => by kernel_rfl) fun g2 w4 h4 => ⟨hs h4.tail rfl, ?_⟩
      refine ldX h4.tail 82 (k := .sl) (x := p.added) ⟨hs h4.tail rfl, ?_⟩
      exact fin g2 w4 h4
  rw [if_neg k8] at hK
  refine ifB_beq (fun k => ?_) fun k5 => ?_
  · rw [if_pos k] at hK
    refine ldAggB h1 (by rw [hm.len]; kernel_rfl) ?_
    exact sent_ok h1.swap hm q k (hw.part (.inl k)) (hw.op (.inl k)) hw.vals fun w3 h3 => tupU rfl (hK w3 (h3.cut 1))
  rw [if_neg k5] at hK
  refine ifB_beq (fun k => ?_) fun k9 => ?_
  · rw [if_pos k] at hK
    refine ldX h1 50 (x := m.epoch) ?_ (hx := hm.epoch)
    refine stX h2 79 fun w3 h3 => ?_
    have h3 : Sat W w3 (ClL b { c with epoch := m.epoch } p (Blk g cs T_api_Msg :: l)) := h3
    refine ldX h3 64 (k := .bool) (x := c.asked.commit) ?_
    exact ended_ok (c := { c with epoch := m.epoch }) (sat_cl.2 ⟨p, h3⟩) (show 0 ≤ c.parts by omega) q1.2 (show c.seen.length ≤ _ by omega) fun w4 h4 => tupU rfl (hK w4 (h4.cut 1))
  rw [if_neg k9] at hK
  refine ifB_beq (fun k => ?_) fun k13 => ?_
  · rw [if_pos k] at hK
    have hnx := q.next (.inr (.inr (.inr k)))
    have hp1 : nx c.parts = c.parts + 1 := w_i64 (by omega) (by omega)
    have h3 := h2.drew
    have hs : ∀ {w : World} {c' : Cl} {L : List Res}, Sat W w (ClL b c' p L) → c'.parts = c.parts → At W b 83 p.next.v w ∧ At W b 3 (.int .i64 c.parts) w := fun h e => ⟨⟨_, _, _, h, rfl⟩, ⟨_, _, _, h, by rw [← e]; rfl⟩⟩
    refine ⟨fun w => At W b 83 p.next.v w ∧ At W b 3 (.int .i64 c.parts) w, hs h3 rfl, ?_⟩
    refine hldY b 83 (k := .sl) (x := p.next) (fun _ h => h.1) ?_
    refine hldY b 3 (x := c.parts) (fun _ h => h.2) ?_
    have hr3 : Sat W w1.drew (SlR T_int 1 p.next (c.next.map vI) :: _) := Sat.up (L := ClL b c p (Blk g cs T_api_Msg :: l)) h3 8
    have hl := (Sat.isLen hr3).1
    obtain ⟨sa, hsa⟩ := slSome hr3 (by omega)
    rw [show IntKind.i64.wrap (c.parts + 1) = nx c.parts from rfl]
    refine hixP et_ints hsa (by omega) (by omega) ?_
    refine ldC (x := geti c.next (nx c.parts)) (by rw [Nat.mul_one]; exact hr3.rdc.2.2.2 sa hsa _ _ (geti_at (by omega))) ⟨hs h3 rfl, ?_⟩
    refine hixP et_ints hsa (by omega) (by omega) ?_
    refine stSl hr3 hsa (by omega) fun w3 h4 => ?_
    have e2 : (c.next.map vI).set (nx c.parts).toNat (.int .i64 (IntKind.i64.wrap (geti c.next (nx c.parts) + 1))) = (seti c.next (nx c.parts) (nx (geti c.next (nx c.parts)))).map vI := by unfold seti; rw [List.map_set]; rfl
    rw [e2] at h4
    have h5 : Sat W w3 (ClL b { c with next := seti c.next (nx c.parts) (nx (geti c.next (nx c.parts))) } p (Blk g cs T_api_Msg :: l)) := h4.dn 8
    refine ⟨hs h5 rfl, ?_⟩
    refine stX h5 94 fun w4 h6 => ?_
    exact hK w4 ((sat_cl.2 ⟨p, h6⟩ : Sat W w4 (ClM b { c with next := seti c.next (nx c.parts) (nx (geti c.next (nx c.parts))), step := 3 } :: Blk g cs T_api_Msg :: l)).cut 1)
  rw [if_neg k13] at hK
  refine ldAggB h1 (by rw [hm.len]; kernel_rfl) ?_
  exact placed_ok h1.swap hm hr.cons q (fun hk => hw.part (by omega)) (fun hk => hw.op (.inr hk)) hn fun w3 h3 => tupU rfl (hK w3 (h3.cut 1))
end
end Go.Proofs.Ytajhdjjmhfbhgaa
