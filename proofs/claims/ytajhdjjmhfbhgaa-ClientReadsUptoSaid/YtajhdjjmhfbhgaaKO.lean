/- Layer 19: polling. -/
import Derived.Test.YtajhdjjmhfbhgaaKN
namespace Go.Proofs.Ytajhdjjmhfbhgaa
open Go Go.Pk
def pollRd (c : Cl) (o : Oc) : Prop := c.step = 0 ∧ c.count < o.count ∧ c.dry < c.mine.length
theorem poll_no {c : Cl} {o : Oc} (h : (c.settle c.mine).2 = false) : c.poll o = (c.settle c.mine).1 := by
  unfold Cl.poll; rw [if_pos h]
theorem poll_read {c : Cl} {o : Oc} (h : c.settle c.mine = (c, true)) (h2 : pollRd c o) : c.poll o = c.ask { zAq with kind := 6, part := geti c.mine (c.turn.tmod c.mine.length), offset := geti c.att (geti c.mine (c.turn.tmod c.mine.length)) } := by
  unfold Cl.poll; unfold pollRd at h2; rw [if_neg (by rw [h]; simp), if_pos h2]
theorem poll_rest {c : Cl} {o : Oc} (h : c.settle c.mine = (c, true)) (h2 : ¬ pollRd c o) : c.poll o = match c.mine.find? fun k => decide (geti c.att k > geti c.sure k) with
    | some k => (if c.step = 0 then { c with step := 1 } else c : Cl).ask { zAq with kind := 12, gen := c.gen, part := k, offset := geti c.att k }
    | none => { c with step := 0, count := 0, dry := 0, op := nx c.op } := by
  unfold Cl.poll; unfold pollRd at h2; rw [if_neg (by rw [h]; simp), if_neg h2]
  cases c.mine.find? (fun k => decide (geti c.att k > geti c.sure k)) <;> rfl
theorem find_at {l : List Int} {f : Int → Bool} {i : Nat} (hi : i < l.length) (hv : ∀ k ∈ l.take i, f k = false) (h : f l[i] = true) : l.find? f = some l[i] := by
  have e1 : l = l.take i ++ (l[i] :: l.drop (i + 1)) := by rw [← List.drop_eq_getElem_cons hi, List.take_append_drop]
  conv => lhs; rw [e1]
  rw [List.find?_append, List.find?_eq_none.2 (by intro k hk; rw [hv k hk]; decide), Option.none_or, List.find?_cons, h]
section
variable {W w : World} {l : List Res} {K : Value → World → Prop} {b : Nat} {c : Cl} {p : ClP}
theorem poll_ok {o : Oc} (h : Sat W w (ClM b c :: l)) (ho : 0 ≤ o.count ∧ o.count ≤ 16) (g : Good c) (hK : ∀ w', Sat W w' (ClM b (c.poll o) :: l) → K (.tuple #[]) w') :
    CallP P F_client_Client_poll [.pointer (some ⟨b, 0, none⟩), .agg o.cells.toArray] w K := by
  apply c_client_Client_poll
  unfold S_client_Client_poll
  refine boxB h fun g1 w1 h1 => ?_
  have h1 : Sat W w1 (Blk g1 o.cells T_api_Op :: ClM b c :: l) := h1
  obtain ⟨p, h2⟩ := sat_cl.1 h1.swap
  have gp := g.parts
  have gm := g.mlen
  have ga := g.att
  have gu := g.sure
  refine ldX h2 86 (k := .sl) (x := p.mine) ?_
  have hm2 : Sat W w1 (SlR T_int 1 p.mine (c.mine.map vI) :: _) := Sat.up (L := ClL b c p (Blk g1 o.cells T_api_Op :: l)) h2 9
  have hml : c.mine.length = p.mine.len := (Sat.isLen (s := p.mine) hm2).1
  refine settle_ok h2 hm2.rdc (by omega) g.mine g.out gp g.targets ga (fun hs => tyI ?_) fun w2 hf h3 => tyI ?_
  · simp only [Bool.not_true, ifB_false]
    have hc1 : ∃ c1 : Cl, c1 = (if c.step = 0 then { c with step := 1 } else c) ∧ c1.mine = c.mine ∧ c1.att = c.att ∧ c1.sure = c.sure ∧ c1.gen = c.gen ∧ c1.out = none ∧ c1.parts = c.parts ∧ c1.targets = c.targets ∧ c1.op = c.op ∧
        ({ c1 with step := 0, count := 0, dry := 0, op := nx c.op } : Cl) = { c with step := 0, count := 0, dry := 0, op := nx c.op } := by
      refine ⟨_, rfl, ?_⟩
      split
      · exact ⟨rfl, rfl, rfl, rfl, g.out, rfl, rfl, rfl, rfl⟩
      · exact ⟨rfl, rfl, rfl, rfl, g.out, rfl, rfl, rfl, rfl⟩
    obtain ⟨c1, e0, e1, e2, e3, e4, e5, e6, e7, e8, e9⟩ := hc1
    refine ⟨fun _ w' => ¬ pollRd c o ∧ Sat W w' (ClL b c1 p (Blk g1 o.cells T_api_Op :: l)), ?_, ?_⟩
    · rintro _ w2 ⟨hn, h3⟩
      rw [poll_rest hs hn, ← e0] at hK
      refine ldX h3 86 (k := .sl) (x := p.mine) ?_
      refine ⟨fun z w' => ∃ i : Nat, z.1 = i ∧ i ≤ c.mine.length ∧ (∀ k ∈ c.mine.take i, decide (geti c.att k > geti c.sure k) = false) ∧ Sat W w' (ClL b c1 p (Blk g1 o.cells T_api_Op :: l)), fun z _ => c.mine.length - z.1.toNat, ⟨0, rfl, Nat.zero_le _, (by intro k hk; simp at hk), h3⟩, ?_⟩
      rintro ⟨i', u⟩ w3 ⟨i, hi, hil, hv, h4⟩
      simp only at hi ⊢
      subst hi
      refine ifB_dec (fun hlt => ?_) fun hge => ?_
      · have hi1 : i < c.mine.length := by omega
        obtain ⟨k0, k1⟩ := g.mine _ (List.getElem_mem hi1)
        have hm4 : Sat W w3 (SlR T_int 1 p.mine (c1.mine.map vI) :: _) := Sat.up (L := ClL b c1 p (Blk g1 o.cells T_api_Op :: l)) h4 9
        rw [e1] at hm4
        refine ixld et_ints hm4.rdc (by omega) (x := c.mine[i]) (by simp [hi1]; rfl) ?_
        have h5 := h4.drew
        have ha5 : ∀ {w : World} {c' : Cl} {q : ClP} {L : List Res}, c'.att = c.att → q.att = p.att → Sat W w (ClL b c' q L) → RdC w p.att 1 (c.att.map vI) := fun {w c' q L} e eq h => by
          have hr : Sat W w (SlR T_int 1 q.att (c'.att.map vI) :: _) := Sat.up (L := ClL b c' q L) h 10
          rw [e, eq] at hr
          exact hr.rdc
        have hsu : RdC w3.drew p.sure 1 (c.sure.map vI) := by
          have hr : Sat W w3.drew (SlR T_int 1 p.sure (c1.sure.map vI) :: _) := Sat.up (L := ClL b c1 p (Blk g1 o.cells T_api_Op :: l)) h5 11
          rw [e3] at hr
          exact hr.rdc
        refine ldX h5 87 (k := .sl) (x := p.att) ?_
        refine ixld et_ints (ha5 e2 rfl h5) k0 (geti_at (by omega)) ?_
        refine ldX h5 88 (k := .sl) (x := p.sure) ?_
        refine ixld et_ints hsu k0 (geti_at (by omega)) ?_
        refine ifB_dec (fun hgt => ?_) fun hle => ?_
        · rw [find_at hi1 hv (decide_eq_true hgt)] at hK
          simp only at hK
          have h6 := h5.drew
          have hal : p.att.len = c.att.length := by
            have := (ha5 e2 rfl h6).1
            simp only [List.length_map, Nat.mul_one] at this
            exact this.symm
          obtain ⟨sa, hsa⟩ := some_of_lt (ha5 e2 rfl h6) (n := 0) (by omega)
          have hs6 : ∀ {w : World} {c' : Cl} {q : ClP} {L : List Res}, Sat W w (ClL b c' q L) → c'.att = c.att → c'.gen = c.gen → q.att = p.att →
              At W b 85 (.int .i64 c.gen) w ∧ At W b 87 p.att.v w ∧ w.cell? (sa.add (c.mine[i].toNat * 1)) = some (.int .i64 (geti c.att c.mine[i])) := fun {w c' q L} h f1 f2 f3 =>
            ⟨⟨_, _, _, h, by rw [← f2]; rfl⟩, ⟨_, _, _, h, by rw [← f3]; rfl⟩, by rw [Nat.mul_one]; exact (ha5 f1 f3 h).2.2.2 sa hsa _ _ (geti_at (by omega))⟩
          refine ⟨fun w => At W b 85 (.int .i64 c.gen) w ∧ At W b 87 p.att.v w ∧ w.cell? (sa.add (c.mine[i].toNat * 1)) = some (.int .i64 (geti c.att c.mine[i])), hs6 h6 e2 e4 rfl, ?_⟩
          refine hldY b 85 (x := c.gen) (fun _ h => h.1) ?_
          refine hldY b 87 (k := .sl) (x := p.att) (fun _ h => h.2.1) ?_
          refine hixP et_ints hsa k0 (by omega) ?_
          refine hld (x := geti c.att c.mine[i]) (fun _ h => h.2.2) ?_
          refine ask0_okL (a := { zAq with kind := 12, gen := c.gen, part := c.mine[i], offset := geti c.att c.mine[i] }) h6 rfl e5 (by rw [e6]; exact gp) (by rw [e6, e7]; exact g.targets) (by rintro (h | h) <;> cases h) fun s' w7 h7 => tupU rfl ⟨?_, ?_⟩
          · exact hs6 h7 e2 e4 rfl
          · exact hK w7 ((sat_cl.2 ⟨_, h7⟩ : Sat W w7 (ClM b _ :: Blk g1 o.cells T_api_Op :: l)).cut 1)
        · rw [w_i64 (by omega) (by omega)]
          refine ⟨⟨i + 1, rfl, by omega, fun k hk => ?_, h5⟩, by omega⟩
          rw [List.take_add_one, List.getElem?_eq_getElem hi1] at hk
          simp only [Option.toList_some, List.mem_append, List.mem_singleton] at hk
          rcases hk with hk | rfl
          · exact hv k hk
          · exact decide_eq_false hle
      · rw [List.take_of_length_le (by omega)] at hv
        rw [List.find?_eq_none.2 (by intro k hk; rw [hv k hk]; decide)] at hK
        simp only at hK
        refine stX h4 94 fun w4 h5 => ?_
        refine stX h5 91 fun w5 h6 => ?_
        refine stX h6 90 fun w6 h7 => ?_
        refine ldX h7 8 (x := c1.op) ?_
        refine stX h7 8 fun w7 h8 => ?_
        rw [e8] at h8
        rw [← e9] at hK
        have h9 : Sat W w7 (ClL b { c1 with step := 0, count := 0, dry := 0, op := nx c.op } p (Blk g1 o.cells T_api_Op :: l)) := h8
        exact hK w7 ((sat_cl.2 ⟨_, h9⟩ : Sat W w7 (ClM b _ :: Blk g1 o.cells T_api_Op :: l)).cut 1)
    · refine ldX h2 94 (x := c.step) ?_
      refine ifB_beq (fun h0 => ?_) fun h0 => ?_
      · rw [if_pos h0] at e0
        refine ⟨fun _ w' => ¬ pollRd c o ∧ Sat W w' (ClL b c p (Blk g1 o.cells T_api_Op :: l)), ?_, ?_⟩
        · rintro _ w2 ⟨hn, h3⟩
          refine stX h3 94 fun w3 h4 => ⟨hn, ?_⟩
          rw [e0]
          exact h4
        · have h3 := h2.drew
          refine ldX h3 91 (x := c.count) ?_
          have hb : Sat W w1.drew (Blk g1 o.cells T_api_Op :: _) := Sat.up (L := ClL b c p (Blk g1 o.cells T_api_Op :: l)) h3 13
          refine ldB hb (o := 0) (i := 3) (x := o.count) ?_
          refine ifB_dec (fun hc => ?_) fun hc => ⟨fun hh => hc hh.2.1, h3⟩
          refine ldX h3 90 (x := c.dry) ?_
          refine ldX h3 86 (k := .sl) (x := p.mine) ?_
          rw [← hml]
          refine ifB_dec (fun hd => ?_) fun hd => ⟨fun hh => hd hh.2.2, h3⟩
          rw [poll_read hs ⟨h0, hc, hd⟩] at hK
          have gd := g.dry
          have gt := g.turn
          have h4 := h3.drew
          let S : World → Prop := fun w => ∃ L, Sat W w (ClL b c p L)
          refine ⟨S, ⟨_, h4⟩, ?_⟩
          refine hldX (fun w ⟨L, h⟩ => ⟨_, h⟩) 86 (k := .sl) (x := p.mine) ?_
          refine hldX (fun w ⟨L, h⟩ => ⟨_, h⟩) 89 (x := c.turn) ?_
          refine hldX (fun w ⟨L, h⟩ => ⟨_, h⟩) 86 (k := .sl) (x := p.mine) ?_
          rw [← hml]
          refine remR (by omega) ⟨⟨_, h4⟩, ?_⟩
          have hidx : 0 ≤ c.turn.tmod c.mine.length ∧ c.turn.tmod c.mine.length < c.mine.length := by
            rw [Int.tmod_eq_emod_of_nonneg gt]
            exact ⟨Int.emod_nonneg _ (by omega), Int.emod_lt_of_pos _ (by omega)⟩
          obtain ⟨sa, hsa⟩ := slSome hm2 (by omega)
          refine hixP et_ints hsa hidx.1 (by omega) ?_
          refine hld (x := geti c.mine (c.turn.tmod c.mine.length)) (fun w hw => ?_) ?_
          · obtain ⟨L, hw⟩ := hw
            have hr : Sat W w (SlR T_int 1 p.mine (c.mine.map vI) :: _) := Sat.up (L := ClL b c p L) hw 9
            rw [Nat.mul_one]
            exact hr.rdc.2.2.2 sa hsa _ _ (geti_at (by omega))
          have hkm : geti c.mine (c.turn.tmod c.mine.length) ∈ c.mine := by
            unfold geti
            rw [List.getD_eq_getElem?_getD, List.getElem?_eq_getElem (by omega)]
            exact List.getElem_mem _
          obtain ⟨k0, k1⟩ := g.mine _ hkm
          refine ldX h4 87 (k := .sl) (x := p.att) ?_
          have hr : Sat W w1.drew.drew (SlR T_int 1 p.att (c.att.map vI) :: _) := Sat.up (L := ClL b c p (Blk g1 o.cells T_api_Op :: l)) h4 10
          refine ixld et_ints hr.rdc k0 (geti_at (by omega)) ?_
          refine ask0_ok (a := { zAq with kind := 6, part := geti c.mine (c.turn.tmod c.mine.length), offset := geti c.att (geti c.mine (c.turn.tmod c.mine.length)) }) (sat_cl.2 ⟨p, h4⟩) rfl g.out gp g.targets (fun _ => ⟨k0, k1⟩) fun w7 h7 => tupU rfl ?_
          exact hK w7 (h7.cut 1)
      · rw [if_neg h0] at e0
        refine ⟨fun hh => h0 hh.1, ?_⟩
        rw [e0]
        exact h2
  · simp only [Bool.not_false, ifB_true]
    rw [poll_no hf] at hK
    exact hK w2 (h3.cut 1)
end
end Go.Proofs.Ytajhdjjmhfbhgaa
