/- Layer 19: small steps of a client. -/
import Derived.Test.YtajhdjjmhfbhgaaKE
namespace Go.Proofs.Ytajhdjjmhfbhgaa
open Go Go.Pk
def Cl.partOf (c : Cl) : Int := if c.asked.kind = 7 ∨ c.asked.kind = 8 ∨ c.asked.kind = 9 then c.parts else if c.asked.kind = 5 ∨ c.asked.kind = 6 then c.asked.part else IntKind.i64.wrap (c.parts + 1)
def Cl.again (c : Cl) : Cl := { c with out := some (c.targets.getD c.partOf.toNat 0) }
def Cl.stamp (c : Cl) (a : Aq) : Aq := { a with frm := c.id, corr := IntKind.i64.wrap (c.corr + 1), tx := c.number, inc := c.inc, group := c.group, member := c.number }
def Cl.put (c : Cl) (a : Aq) : Cl := { c with corr := IntKind.i64.wrap (c.corr + 1), asked := c.stamp a, waits := true, age := 0, busy := false }
def Cl.ask (c : Cl) (a : Aq) : Cl := (c.put a).again
def Cl.tell (c : Cl) (s : Sn) : Cl := { c with seen := c.seen ++ [{ s with client := c.number, op := c.op }] }
theorem outL_none {c : Cl} {vs : Sl} (h : c.out = none) : outL c vs = [] := by unfold outL; rw [h]
section
variable {W w : World} {l : List Res} {K : Value → World → Prop} {b : Nat} {c : Cl} {p : ClP}
theorem pushB {t e sz by_ g : Nat} {cs us : List Value} {s : Sl} {ty : TypeId} (et : ET P t e sz by_) (h0 : 0 < sz) (h : Sat W w (SlR e sz s us :: Blk g cs e :: l)) (hc : cs.length = 1 * sz) (h1 : ∀ u ∈ cs, u.oneCell' = true)
    (hb : (s.len + 1) * by_ ≤ 140737488355328) (hm : s.len + 1 < 2 ^ 63) {K : Sl → World → Prop} (hK : ∀ s' w', Sat W w' (SlR e sz s' (us ++ cs) :: Blk g cs e :: l) → K s' w') :
    RunK .sl P (Builtin.append_ #[t, t] ty #[s.v, Sl.v ⟨some ⟨g, 0, none⟩, 1, 1⟩]) w K :=
  appB et h0 (x := ⟨some ⟨g, 0, none⟩, 1, 1⟩) h (rdBlk (h.up 1) hc) h1 hb hm fun s' w' h' _ => hK s' w' h'
theorem part_ok (h : Sat W w (Blk b (ccells c p) T_client_Client :: l)) (hK : K (.int .i64 c.partOf) w) : CallP P F_client_Client_part [.pointer (some ⟨b, 0, none⟩)] w K := by
  apply c_client_Client_part
  unfold S_client_Client_part
  unfold Cl.partOf at hK
  refine ⟨fun _ w' => w' = w ∧ ¬ (c.asked.kind = 7 ∨ c.asked.kind = 8 ∨ c.asked.kind = 9) ∧ ¬ (c.asked.kind = 5 ∨ c.asked.kind = 6), ?_, ?_⟩
  · rintro _ w1 ⟨rfl, h1, h2⟩
    rw [if_neg h1, if_neg h2] at hK
    exact ldX h 3 (x := c.parts) hK
  · refine ldX h 13 (x := c.asked.kind) ?_
    refine ifB_beq (fun e => ?_) fun e1 => ?_
    · rw [if_pos (.inl e)] at hK
      exact ldX h 3 (x := c.parts) hK
    refine ifB_beq (fun e => ?_) fun e2 => ?_
    · rw [if_pos (.inr (.inl e))] at hK
      exact ldX h 3 (x := c.parts) hK
    refine ifB_beq (fun e => ?_) fun e3 => ?_
    · rw [if_pos (.inr (.inr e))] at hK
      exact ldX h 3 (x := c.parts) hK
    rw [if_neg (by omega)] at hK
    refine ifB_beq (fun e => ?_) fun e4 => ?_
    · rw [if_pos (.inl e)] at hK
      exact ldX h 58 (x := c.asked.part) hK
    refine ifB_beq (fun e => ?_) fun e5 => ?_
    · rw [if_pos (.inr e)] at hK
      exact ldX h 58 (x := c.asked.part) hK
    exact ⟨rfl, by omega, by omega⟩
theorem again_okL (h1 : Sat W w (ClL b c p l)) (ho : c.out = none) (hp0 : 0 ≤ c.partOf) (hp1 : c.partOf.toNat < c.targets.length) (hK : ∀ s' w', Sat W w' (ClL b c.again { p with out := s' } l) → K (.tuple #[]) w') : CallP P F_client_Client_again [.pointer (some ⟨b, 0, none⟩)] w K := by
  apply c_client_Client_again
  unfold S_client_Client_again
  refine ldAggX 13 59 h1 (hl := (by show 13 + 59 ≤ 95; decide)) ?_
  have e1 : (((ccells c p).drop 13).take 59).toArray = (c.asked.cells p.vs).toArray := rfl
  rw [e1]
  refine newAgg (z := zAq.cells ⟨none, 0, 0⟩) h1 (Aq.ones _ _) fun a w2 h2 => ?_
  have h3 := h2.drew
  let S : World → Prop := fun w => ∃ L, Sat W w (ClL b c p L)
  refine ⟨S, ⟨_, h3.tail⟩, ?_⟩
  refine hldX (fun w ⟨L, h⟩ => ⟨_, h⟩) 11 (x := p.targets) ?_
  refine part_ok (h3.up 1) (tyI ⟨⟨_, h3.tail⟩, ?_⟩)
  have hlen : c.targets.length = p.targets.len := (Sat.isLen (s := p.targets) (Sat.up (L := ClL b c p l) h1 2)).1
  obtain ⟨sa, hsa⟩ := slSome (Sat.up (L := ClL b c p l) h1 2) (by omega)
  refine hixP et_ints hsa hp0 (by omega) ?_
  have hg : c.targets[c.partOf.toNat]? = some (c.targets.getD c.partOf.toNat 0) := by
    rw [List.getD_eq_getElem?_getD, List.getElem?_eq_getElem hp1]; rfl
  refine hld (x := c.targets.getD c.partOf.toNat 0) (fun w hw => ?_) ?_
  · obtain ⟨L, hw⟩ := hw
    have hr : Sat W w (SlR T_int 1 p.targets (c.targets.map vI) :: _) := Sat.up (L := ClL b c p L) hw 2
    rw [Nat.mul_one]
    exact hr.rdc.2.2.2 sa hsa _ _ (by rw [List.getElem?_map, hg]; rfl)
  refine stB h3 (o := 0) (i := 2) (hi := by rw [Aq.len]; decide) fun w4 h4 => ⟨⟨_, h4.tail⟩, ?_⟩
  have h4 : Sat W w4 (Blk a (({ c.asked with to := c.targets.getD c.partOf.toNat 0 } : Aq).cells p.vs) T_api_Msg :: ClL b c p l) := h4
  generalize hm : ({ c.asked with to := c.targets.getD c.partOf.toNat 0 } : Aq).cells p.vs = ms at h4
  have hml : ms.length = 59 := by rw [← hm]; rfl
  have hmo : ∀ u ∈ ms, u.oneCell' = true := by rw [← hm]; exact Aq.ones _ _
  have h5 := h4.drew
  let S2 : World → Prop := fun w => ∃ L, Sat W w (Blk a ms T_api_Msg :: L)
  refine ⟨S2, ⟨_, h5⟩, ?_⟩
  refine hldAggB (W := W) (fun w h => h) (by rw [hml]; kernel_rfl) ?_
  have hol : p.out.len = 0 := by
    have hs : Sat W w (SlR T_api_Msg 59 p.out (outL c p.vs) :: _) := Sat.up (L := ClL b c p l) h1 5
    have := hs.slLen.1
    rw [outL_none ho] at this
    simp at this; omega
  have hbs : ∀ {w : World} {L : List Res} {K : Sl → World → Prop}, Sat W w L → (∀ g w', Sat W w' (Blk g ms T_api_Msg :: L) → K ⟨some ⟨g, 0, none⟩, 1, 1⟩ w') → RunK .sl P (Instr.buildSlice T_sl_api_Msg 1 #[(0, .agg ms.toArray)]) w K := by
    intro w L K h hk
    subst hm
    exact bsB h (cs := ({ c.asked with to := c.targets.getD c.partOf.toNat 0 } : Aq).cells p.vs) (e := T_api_Msg) (fun w => by kernel_rfl) fun g w' h' => hk g w' h'
  have fin : ∀ g w', Sat W w' (Blk g ms T_api_Msg :: Blk a ms T_api_Msg :: ClL b c p l) → RunK .sl P (Builtin.append_ #[T_sl_api_Msg, T_sl_api_Msg] T_sl_api_Msg #[p.out.v, Sl.v ⟨some ⟨g, 0, none⟩, 1, 1⟩]) w' fun (s20 : Sl) w21 =>
      (S2 w21) ∧ StoreP P T_sl_api_Msg (.pointer (some ((⟨b, 0, none⟩ : Addr).add 75))) s20.v w21 fun w23 => (S2 w23) ∧ K (.tuple #[]) w23 := by
    intro g w' h'
    have h6 : Sat W w' (SlR T_api_Msg 59 p.out (outL c p.vs) :: Blk g ms T_api_Msg :: Blk b (ccells c p) T_client_Client :: Blk a ms T_api_Msg :: SlR T_api_Op 5 p.ops (elO.flat c.ops) :: IsR p.targets c.targets :: Pure (p.vl.map Prod.snd = c.asked.vals) :: OwnS elV p.vs p.vl ::
        SlR T_api_Seen 7 p.seen (elS.flat c.seen) :: IsR p.added c.added :: IsR p.next c.next :: IsR p.mine c.mine :: IsR p.att c.att :: IsR p.sure c.sure :: SlR T_string 1 p.values (c.values.map vT) :: l) := h'.sel 15 [7, 0, 2, 1, 3, 4, 5, 6, 8, 9, 10, 11, 12, 13, 14]
    rw [outL_none ho] at h6
    refine pushB et_msgs (by decide) h6 (by rw [hml]) hmo (by rw [hol]; decide) (by rw [hol]; decide) fun s' w2 h7 => ⟨⟨_, h7.up 3⟩, ?_⟩
    refine stX (h7.up 2) 75 fun w3 h8 => ⟨⟨_, Sat.up h8 3⟩, ?_⟩
    refine hK s' w3 ?_
    rw [List.nil_append] at h8
    subst hm
    exact Sat.sel h8 15 [0, 4, 5, 6, 7, 1, 8, 9, 10, 11, 12, 13, 14]
  refine ⟨?_, ?_, trivial⟩
  · refine ldX (h5.up 1) 75 (x := p.out) ⟨⟨_, h5⟩, ?_⟩
    refine hbs h5 fun g w6 h6 => ⟨⟨_, h6.up 1⟩, ?_⟩
    exact fin g w6 h6
  · refine hbs h5 fun g w6 h6 => ⟨⟨_, h6.up 1⟩, ?_⟩
    refine ldX (h6.up 2) 75 (x := p.out) ⟨⟨_, h6.up 1⟩, ?_⟩
    exact fin g w6 h6
theorem again_ok (h : Sat W w (ClM b c :: l)) (ho : c.out = none) (hp0 : 0 ≤ c.partOf) (hp1 : c.partOf.toNat < c.targets.length) (hK : ∀ w', Sat W w' (ClM b c.again :: l) → K (.tuple #[]) w') : CallP P F_client_Client_again [.pointer (some ⟨b, 0, none⟩)] w K := by
  obtain ⟨p, h1⟩ := sat_cl.1 h
  exact again_okL h1 ho hp0 hp1 fun s' w' h' => hK w' (sat_cl.2 ⟨_, h'⟩)
theorem take_ok (h : Sat W w (ClL b c p l)) (hK : ∀ w', Sat W w' (SlR T_api_Msg 59 p.out (outL c p.vs) :: ClL b { c with out := none } { p with out := ⟨none, 0, 0⟩ } l) → K p.out.v w') : CallP P F_client_Client_take [.pointer (some ⟨b, 0, none⟩)] w K := by
  apply c_client_Client_take
  unfold S_client_Client_take
  refine ldX h 75 (x := p.out) ?_
  refine stX h 75 fun w2 h2 => hK w2 ?_
  have h3 := Sat.nilSlr h2 T_api_Msg 59
  exact h3.sel 14 [6, 1, 2, 3, 4, 5, 0, 7, 8, 9, 10, 11, 12, 13]
theorem tell_okL {s : Sn} (h1 : Sat W w (ClL b c p l)) (hl : c.seen.length ≤ 1099511627776) (hK : ∀ s' w', Sat W w' (ClL b (c.tell s) { p with seen := s' } l) → K (.tuple #[]) w') : CallP P F_client_Client_tell [.pointer (some ⟨b, 0, none⟩), .agg s.cells.toArray] w K := by
  apply c_client_Client_tell
  unfold S_client_Client_tell
  refine boxB h1 fun a w2 h2 => ?_
  have h2 : Sat W w2 (Blk a s.cells T_api_Seen :: ClL b c p l) := h2
  have h3 := h2.drew
  let S : World → Prop := fun w => ∃ L, Sat W w (Blk b (ccells c p) T_client_Client :: L)
  refine ⟨S, ⟨_, h3.tail⟩, ?_⟩
  refine hldX (fun w h => h) 1 (x := c.number) ?_
  refine hldX (fun w h => h) 8 (x := c.op) ?_
  refine stX h3 1 (hi := by show 1 < 7; decide) fun w4 h4 => ⟨⟨_, h4.tail⟩, ?_⟩
  refine stX h4 2 (hi := by rw [List.length_set]; show 2 < 7; decide) fun w5 h5 => ⟨⟨_, h5.tail⟩, ?_⟩
  have h5 : Sat W w5 (Blk a ({ s with client := c.number, op := c.op } : Sn).cells T_api_Seen :: ClL b c p l) := h5
  generalize hm : ({ s with client := c.number, op := c.op } : Sn) = sn at h5
  have h6 := h5.drew
  let S2 : World → Prop := fun w => ∃ L, Sat W w (Blk a sn.cells T_api_Seen :: L)
  refine ⟨S2, ⟨_, h6⟩, ?_⟩
  refine hldAggB (W := W) (fun w h => h) (by kernel_rfl) ?_
  have hsl : c.seen.length = p.seen.len := by
    have hs : Sat W w (SlR T_api_Seen 7 p.seen (elS.flat c.seen) :: _) := Sat.up (L := ClL b c p l) h1 6
    exact (RdC.elen (E := elS) hs.rdc (by decide)).symm
  have hbs : ∀ {w : World} {L : List Res} {K : Sl → World → Prop}, Sat W w L → (∀ g w', Sat W w' (Blk g sn.cells T_api_Seen :: L) → K ⟨some ⟨g, 0, none⟩, 1, 1⟩ w') → RunK .sl P (Instr.buildSlice T_sl_api_Seen 1 #[(0, .agg sn.cells.toArray)]) w K := by
    intro w L K h hk
    exact bsB h (cs := sn.cells) (e := T_api_Seen) (fun w => by kernel_rfl) fun g w' h' => hk g w' h'
  have fin : ∀ g w', Sat W w' (Blk g sn.cells T_api_Seen :: Blk a sn.cells T_api_Seen :: ClL b c p l) → RunK .sl P (Builtin.append_ #[T_sl_api_Seen, T_sl_api_Seen] T_sl_api_Seen #[p.seen.v, Sl.v ⟨some ⟨g, 0, none⟩, 1, 1⟩]) w' fun (s20 : Sl) w21 =>
      (S2 w21) ∧ StoreP P T_sl_api_Seen (.pointer (some ((⟨b, 0, none⟩ : Addr).add 76))) s20.v w21 fun w23 => (S2 w23) ∧ K (.tuple #[]) w23 := by
    intro g w' h'
    have h6 : Sat W w' (SlR T_api_Seen 7 p.seen (elS.flat c.seen) :: Blk g sn.cells T_api_Seen :: Blk b (ccells c p) T_client_Client :: Blk a sn.cells T_api_Seen :: SlR T_api_Op 5 p.ops (elO.flat c.ops) :: IsR p.targets c.targets :: Pure (p.vl.map Prod.snd = c.asked.vals) :: OwnS elV p.vs p.vl ::
        SlR T_api_Msg 59 p.out (outL c p.vs) :: IsR p.added c.added :: IsR p.next c.next :: IsR p.mine c.mine :: IsR p.att c.att :: IsR p.sure c.sure :: SlR T_string 1 p.values (c.values.map vT) :: l) := h'.sel 15 [8, 0, 2, 1, 3, 4, 5, 6, 7, 9, 10, 11, 12, 13, 14]
    refine pushB et_seen (by decide) h6 rfl (Sn.ones _) (by omega) (by omega) fun s' w2 h7 => ⟨⟨_, h7.up 3⟩, ?_⟩
    refine stX (h7.up 2) 76 fun w3 h8 => ⟨⟨_, Sat.up h8 3⟩, ?_⟩
    refine hK s' w3 ?_
    have e : elS.flat c.seen ++ sn.cells = elS.flat (c.tell s).seen := by
      unfold Cl.tell
      rw [flat_app, flat_one, hm]; rfl
    rw [e] at h8
    exact Sat.sel h8 15 [0, 4, 5, 6, 7, 8, 1, 9, 10, 11, 12, 13, 14]
  refine ⟨?_, ?_, trivial⟩
  · refine ldX (h6.up 1) 76 (x := p.seen) ⟨⟨_, h6⟩, ?_⟩
    refine hbs h6 fun g w6 h6 => ⟨⟨_, h6.up 1⟩, ?_⟩
    exact fin g w6 h6
  · refine hbs h6 fun g w6 h6 => ⟨⟨_, h6.up 1⟩, ?_⟩
    refine ldX (h6.up 2) 76 (x := p.seen) ⟨⟨_, h6.up 1⟩, ?_⟩
    exact fin g w6 h6
theorem tell_ok {s : Sn} (h : Sat W w (ClM b c :: l)) (hl : c.seen.length ≤ 1099511627776) (hK : ∀ w', Sat W w' (ClM b (c.tell s) :: l) → K (.tuple #[]) w') : CallP P F_client_Client_tell [.pointer (some ⟨b, 0, none⟩), .agg s.cells.toArray] w K := by
  obtain ⟨p, h1⟩ := sat_cl.1 h
  exact tell_okL h1 hl fun s' w' h' => hK w' (sat_cl.2 ⟨_, h'⟩)
end
end Go.Proofs.Ytajhdjjmhfbhgaa
