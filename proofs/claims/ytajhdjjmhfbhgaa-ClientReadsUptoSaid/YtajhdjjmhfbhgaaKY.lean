/- Layer 19: answers to a consumer. -/
import Derived.Test.YtajhdjjmhfbhgaaKX
namespace Go.Proofs.Ytajhdjjmhfbhgaa
open Go Go.Pk
section
variable {W w : World} {l : List Res} {K : Value → World → Prop} {b : Nat} {c : Cl} {p : ClP} {cs : List Value} {m : Rp}
theorem placed_ok (h : Sat W w (ClM b c :: l)) (hm : RpC cs m) (hr : RpRd W l m) (q : Good c) (ha : c.asked.kind = 6 ∨ c.asked.kind = 12 ∨ c.asked.kind = 14 → 0 ≤ c.asked.part ∧ c.asked.part < c.parts) (hop : c.asked.kind = 6 → c.op < c.ops.length)
    (hn : m.bl.length ≤ 1000000000 ∧ vtot m.bl ≤ 1000000000 ∧ m.al.length ≤ 1000000000) (hK : ∀ w', Sat W w' (ClM b (c.placed m) :: l) → K (.tuple #[]) w') : CallP P F_client_Client_placed [.pointer (some ⟨b, 0, none⟩), .agg cs.toArray] w K := by
  apply c_client_Client_placed
  unfold S_client_Client_placed
  have q1 := q.parts
  have q5 := q.seen
  have qa := q.att
  have qs := q.sure
  refine boxB h fun g w1 h1 => ?_
  have h1 : Sat W w1 (Blk g cs T_api_Msg :: ClM b c :: l) := h1
  obtain ⟨p, h2⟩ := sat_cl.1 h1.swap
  unfold Cl.placed at hK
  refine ldX h2 13 (x := c.asked.kind) ?_
  refine ifB_beq (fun k => ?_) fun k11 => ?_
  · rw [if_pos k] at hK
    refine away_ok h1.swap (by omega) q1.2 fun w2 h3 => tupU rfl ?_
    obtain ⟨p2, h4⟩ := sat_cl.1 h3
    have h5 := h4.drew
    let S : World → Prop := fun w => ∃ L, Sat W w (Blk g cs T_api_Msg :: L)
    have hs : ∀ {w : World} {c' : Cl} {q : ClP}, Sat W w (ClL b c' q (Blk g cs T_api_Msg :: l)) → S w := fun {w c' q} h => ⟨_, Sat.up (L := ClL b c' q (Blk g cs T_api_Msg :: l)) h 13⟩
    refine ⟨S, hs h5, ?_⟩
    refine hldX (fun w h => h) 53 (x := m.gen) ?_ (hx := hm.gen)
    refine stX h5 84 fun w4 h6 => ⟨hs (c' := { c.away with joined := true }) h6, ?_⟩
    refine stX h6 85 fun w5 h7 => ⟨hs (c' := { c.away with joined := true, gen := m.gen }) h7, ?_⟩
    have h7 : Sat W w5 (ClL b { c.away with joined := true, gen := m.gen } p2 (Blk g cs T_api_Msg :: l)) := h7
    have h8 := h7.drew
    have hs2 : ∀ {w : World} {c' : Cl} {q : ClP} {L : List Res}, Sat W w (ClL b c' q (Blk g cs T_api_Msg :: L)) → c'.parts = c.parts → c'.number = c.number → At W g 55 m.ms.v w ∧ At W b 3 (.int .i64 c.parts) w ∧ At W b 1 (.int .i64 c.number) w := fun {w c' q L} h e1 e2 =>
      ⟨⟨_, _, _, Sat.up (L := ClL b c' q (Blk g cs T_api_Msg :: L)) h 13, hm.ms⟩, ⟨_, _, _, h, by rw [← e1]; rfl⟩, ⟨_, _, _, h, by rw [← e2]; rfl⟩⟩
    refine ⟨fun w => At W g 55 m.ms.v w ∧ At W b 3 (.int .i64 c.parts) w ∧ At W b 1 (.int .i64 c.number) w, hs2 h8 rfl rfl, ?_⟩
    refine hldY g 55 (k := .sl) (x := m.ms) (fun _ h => h.1) ?_
    refine hldY b 3 (x := c.parts) (fun _ h => h.2.1) ?_
    refine hldY b 1 (x := c.number) (fun _ h => h.2.2) ?_
    have hmi : Rd W (ClL b { c.away with joined := true, gen := m.gen } p2 (Blk g cs T_api_Msg :: l)) m.ms 1 (m.mi.map vI) := hr.mi.cons.cons.cons.cons.cons.cons.cons.cons.cons.cons.cons.cons.cons.cons
    refine owned_ok h8 hmi (by omega) fun s w6 h9 => tyI (k := .sl) ?_
    have h10 := h9.up 1
    refine ⟨hs2 (c' := { c.away with joined := true, gen := m.gen }) (q := p2) h9.tail rfl rfl, ?_⟩
    refine stX h10 86 fun w7 h11 => ?_
    have h12 : Sat W w7 (ClL b { c.away with joined := true, gen := m.gen, mine := ownedBy m.mi c.parts c.number } { p2 with mine := s } (Blk g cs T_api_Msg :: l)) := Sat.sel h11 14 [0, 2, 3, 4, 5, 6, 7, 8, 9, 1, 11, 12, 13]
    exact ⟨hs2 h12 rfl rfl, hK w7 ((sat_cl.2 ⟨_, h12⟩ : Sat W w7 (ClM b _ :: Blk g cs T_api_Msg :: l)).cut 1)⟩
  rw [if_neg k11] at hK
  have hatt : ∀ {w : World} {c' : Cl} {L : List Res}, Sat W w (ClL b c' p L) → Sat W w (SlR T_int 1 p.att (c'.att.map vI) :: (ClL b c' p L).eraseIdx 10) := fun {w c' L} h => Sat.up (L := ClL b c' p L) h 10
  have hsur : ∀ {w : World} {c' : Cl} {L : List Res}, Sat W w (ClL b c' p L) → Sat W w (SlR T_int 1 p.sure (c'.sure.map vI) :: (ClL b c' p L).eraseIdx 11) := fun {w c' L} h => Sat.up (L := ClL b c' p L) h 11
  refine ifB_beq (fun k => ?_) fun k14 => ?_
  · rw [if_pos k] at hK
    obtain ⟨a0, a1⟩ := ha (.inr (.inr k))
    have h3 := h2.drew
    have hs : ∀ {w : World} {c' : Cl} {L : List Res}, Sat W w (ClL b c' p (Blk g cs T_api_Msg :: L)) → c'.asked = c.asked → At W b 87 p.att.v w ∧ At W b 58 (.int .i64 c.asked.part) w ∧ At W b 88 p.sure.v w ∧ At W g 46 (.int .i64 m.offset) w := fun {w c' L} h e =>
      ⟨⟨_, _, _, h, rfl⟩, ⟨_, _, _, h, by rw [← e]; rfl⟩, ⟨_, _, _, h, rfl⟩, ⟨_, _, _, Sat.up (L := ClL b c' p (Blk g cs T_api_Msg :: L)) h 13, hm.offset⟩⟩
    refine ⟨fun w => At W b 87 p.att.v w ∧ At W b 58 (.int .i64 c.asked.part) w ∧ At W b 88 p.sure.v w ∧ At W g 46 (.int .i64 m.offset) w, hs h3 rfl, ?_⟩
    refine hldY b 87 (k := .sl) (x := p.att) (fun _ h => h.1) ?_
    refine hldY b 58 (x := c.asked.part) (fun _ h => h.2.1) ?_
    refine hldY b 88 (k := .sl) (x := p.sure) (fun _ h => h.2.2.1) ?_
    refine hldY b 58 (x := c.asked.part) (fun _ h => h.2.1) ?_
    refine hldY g 46 (x := m.offset) (fun _ h => h.2.2.2) ?_
    refine hldY g 46 (x := m.offset) (fun _ h => h.2.2.2) ?_
    have r1 := hatt h3
    have l1 := (Sat.isLen r1).1
    obtain ⟨s1, hs1⟩ := slSome r1 (by omega)
    refine hixP et_ints hs1 a0 (by omega) ?_
    refine stSl r1 hs1 (by omega) fun w3 h4 => ?_
    have e1 : (c.att.map vI).set c.asked.part.toNat (.int .i64 m.offset) = (seti c.att c.asked.part m.offset).map vI := by unfold seti; rw [List.map_set]; rfl
    rw [e1] at h4
    have h5 : Sat W w3 (ClL b { c with att := seti c.att c.asked.part m.offset } p (Blk g cs T_api_Msg :: l)) := h4.dn 10
    refine ⟨hs h5 rfl, ?_⟩
    have r2 : Sat W w3 (SlR T_int 1 p.sure (c.sure.map vI) :: (ClL b { c with att := seti c.att c.asked.part m.offset } p (Blk g cs T_api_Msg :: l)).eraseIdx 11) := hsur (c' := { c with att := seti c.att c.asked.part m.offset }) h5
    have l2 := (Sat.isLen r2).1
    obtain ⟨s2, hs2⟩ := slSome r2 (by omega)
    refine hixP et_ints hs2 a0 (by omega) ?_
    refine stSl r2 hs2 (by omega) fun w4 h6 => ?_
    have e2 : (c.sure.map vI).set c.asked.part.toNat (.int .i64 m.offset) = (seti c.sure c.asked.part m.offset).map vI := by unfold seti; rw [List.map_set]; rfl
    rw [e2] at h6
    have h7 : Sat W w4 (ClL b { c with att := seti c.att c.asked.part m.offset, sure := seti c.sure c.asked.part m.offset } p (Blk g cs T_api_Msg :: l)) := h6.dn 11
    refine ⟨hs h7 rfl, ?_⟩
    have h8 := h7.drew
    have ht : ∀ {w : World} {c' : Cl} {q : ClP} {L : List Res}, Sat W w (ClL b c' q (Blk g cs T_api_Msg :: L)) → c'.asked = c.asked → At W b 58 (.int .i64 c.asked.part) w ∧ At W g 46 (.int .i64 m.offset) w := fun {w c' q L} h e =>
      ⟨⟨_, _, _, h, by rw [← e]; rfl⟩, ⟨_, _, _, Sat.up (L := ClL b c' q (Blk g cs T_api_Msg :: L)) h 13, hm.offset⟩⟩
    refine ⟨fun w => At W b 58 (.int .i64 c.asked.part) w ∧ At W g 46 (.int .i64 m.offset) w, ht h8 rfl, ?_⟩
    refine hldY b 58 (x := c.asked.part) (fun _ h => h.1) ?_
    refine hldY g 46 (x := m.offset) (fun _ h => h.2) ?_
    refine tell_okL (s := { zSn with kind := 6, part := c.asked.part, offset := m.offset }) h8 (show c.seen.length ≤ _ by omega) fun s' w5 h9 => tupU rfl ⟨ht h9 rfl, ?_⟩
    exact hK w5 ((sat_cl.2 ⟨_, h9⟩ : Sat W w5 (ClM b _ :: Blk g cs T_api_Msg :: l)).cut 1)
  rw [if_neg k14] at hK
  refine ifB_beq (fun k => ?_) fun k12 => ?_
  · rw [if_pos k] at hK
    obtain ⟨a0, a1⟩ := ha (.inr (.inl k))
    have h3 := h2.drew
    have hs : ∀ {w : World} {c' : Cl} {L : List Res}, Sat W w (ClL b c' p L) → c'.asked = c.asked → At W b 88 p.sure.v w ∧ At W b 58 (.int .i64 c.asked.part) w ∧ At W b 59 (.int .i64 c.asked.offset) w := fun {w c' L} h e =>
      ⟨⟨_, _, _, h, rfl⟩, ⟨_, _, _, h, by rw [← e]; rfl⟩, ⟨_, _, _, h, by rw [← e]; rfl⟩⟩
    refine ⟨fun w => At W b 88 p.sure.v w ∧ At W b 58 (.int .i64 c.asked.part) w ∧ At W b 59 (.int .i64 c.asked.offset) w, hs h3 rfl, ?_⟩
    refine hldY b 88 (k := .sl) (x := p.sure) (fun _ h => h.1) ?_
    refine hldY b 58 (x := c.asked.part) (fun _ h => h.2.1) ?_
    refine hldY b 59 (x := c.asked.offset) (fun _ h => h.2.2) ?_
    have r2 := hsur h3
    have l2 := (Sat.isLen r2).1
    obtain ⟨s2, hs2⟩ := slSome r2 (by omega)
    refine hixP et_ints hs2 a0 (by omega) ?_
    refine stSl r2 hs2 (by omega) fun w4 h6 => ?_
    have e2 : (c.sure.map vI).set c.asked.part.toNat (.int .i64 c.asked.offset) = (seti c.sure c.asked.part c.asked.offset).map vI := by unfold seti; rw [List.map_set]; rfl
    rw [e2] at h6
    have h7 : Sat W w4 (ClL b { c with sure := seti c.sure c.asked.part c.asked.offset } p (Blk g cs T_api_Msg :: l)) := h6.dn 11
    exact ⟨hs h7 rfl, hK w4 ((sat_cl.2 ⟨_, h7⟩ : Sat W w4 (ClM b _ :: Blk g cs T_api_Msg :: l)).cut 1)⟩
  rw [if_neg k12] at hK
  refine ifB_beq (fun k => ?_) fun k6 => ?_
  · rw [if_pos k] at hK
    have hb : Sat W w1 (Blk g cs T_api_Msg :: ClM b c :: l) := h1
    refine ldAggB hb (by rw [hm.len]; kernel_rfl) ?_
    exact read_ok h1.swap hm hr.cons q (ha (.inl k)) (hop k) hn fun w3 h3 => tupU rfl (hK w3 (h3.cut 1))
  · rw [if_neg k6] at hK
    exact hK w1 h1.tail
end
end Go.Proofs.Ytajhdjjmhfbhgaa
