/- Layer 19: values were sent. -/
import Derived.Test.YtajhdjjmhfbhgaaKU
namespace Go.Proofs.Ytajhdjjmhfbhgaa
open Go Go.Pk
def Cl.plus (c : Cl) (evs : List Sn) : Cl := { c with seen := c.seen ++ evs }
section
variable {W w : World} {l : List Res} {K : Value → World → Prop} {b : Nat} {c : Cl} {p : ClP} {cs : List Value} {m : Rp}
theorem sent_ok (h : Sat W w (ClM b c :: l)) (hm : RpC cs m) (q : Good c) (hk : c.asked.kind = 5) (ha : 0 ≤ c.asked.part ∧ c.asked.part < c.parts) (hop : c.op < c.ops.length) (hv : c.asked.vals.length ≤ 1000000)
    (hK : ∀ w', Sat W w' (ClM b (c.sent m) :: l) → K (.tuple #[]) w') : CallP P F_client_Client_sent [.pointer (some ⟨b, 0, none⟩), .agg cs.toArray] w K := by
  apply c_client_Client_sent
  unfold S_client_Client_sent
  have q1 := q.parts
  have q3 := q.op
  have q5 := q.seen
  have hnx := q.next (.inr (.inr (.inl hk)))
  refine boxB h fun g w1 h1 => ?_
  have h1 : Sat W w1 (Blk g cs T_api_Msg :: ClM b c :: l) := h1
  obtain ⟨p, h2⟩ := sat_cl.1 h1.swap
  have hvl : p.vl.map Prod.snd = c.asked.vals := (sat_pure.1 (Sat.up (L := ClL b c p (Blk g cs T_api_Msg :: l)) h2 3)).1
  have hvn : p.vl.length = c.asked.vals.length := by rw [← hvl, List.length_map]
  refine ldX h2 58 (x := c.asked.part) ?_
  refine ldX h2 57 (k := .sl) (x := p.vs) ?_
  have hvs : p.vs.len = p.vl.length := (own_len (Sat.up (L := ClL b c p (Blk g cs T_api_Msg :: l)) h2 4) (by decide)).1
  have h2 : Sat W w1 (ClL b (c.plus (sentL c c.asked.part m.offset 0 (c.asked.vals.take 0))) { p with seen := p.seen } (Blk g cs T_api_Msg :: l)) := by
    have e : c.plus (sentL c c.asked.part m.offset 0 (c.asked.vals.take 0)) = c := by unfold Cl.plus; rw [List.take_zero]; simp only [sentL, List.append_nil]
    rw [e]; exact h2
  refine ⟨fun z w' => ∃ (i : Nat) (s' : Sl), z.1 = i ∧ i ≤ c.asked.vals.length ∧ Sat W w' (ClL b (c.plus (sentL c c.asked.part m.offset 0 (c.asked.vals.take i))) { p with seen := s' } (Blk g cs T_api_Msg :: l)), fun z _ => c.asked.vals.length - z.1.toNat, ⟨0, p.seen, rfl, Nat.zero_le _, h2⟩, ?_⟩
  rintro ⟨i', u⟩ w2 ⟨i, s', hi, hil, h3⟩
  simp only at hi ⊢
  subst hi
  refine ifB_dec (fun hlt => ?_) fun hge => ?_
  · have hi1 : i < p.vl.length := by omega
    have hi2 : i < c.asked.vals.length := by omega
    have hxi : p.vl[((i : Nat) : Int).toNat]? = some p.vl[i] := by simp [hi1]
    have hev : p.vl[i].2 = c.asked.vals[i] := by
      have : (p.vl.map Prod.snd)[i]? = some p.vl[i].2 := by rw [List.getElem?_map, List.getElem?_eq_getElem hi1]; rfl
      rw [hvl, List.getElem?_eq_getElem hi2] at this
      exact (Option.some.inj this).symm
    have h4 : Sat W w2 (OwnS elV p.vs p.vl :: _) := Sat.up (L := ClL b (c.plus (sentL c c.asked.part m.offset 0 (c.asked.vals.take i))) { p with seen := s' } (Blk g cs T_api_Msg :: l)) h3 4
    refine ixEl (E := elV) et_lists rfl (Rd.ownS w2 h4) (by omega) hxi (by omega) fun a ha' => ?_
    refine ldC (k := .sl) (x := p.vl[i].1) (ha' 0 _ rfl) ?_
    have hb : Sat W w2 (Blk g cs T_api_Msg :: _) := Sat.up (L := ClL b (c.plus (sentL c c.asked.part m.offset 0 (c.asked.vals.take i))) { p with seen := s' } (Blk g cs T_api_Msg :: l)) h3 13
    refine ldX hb 46 (x := m.offset) ?_ (hx := hm.offset)
    have hrd : RdC w2 p.vl[i].1 1 (p.vl[i].2.map vB) := Rd.ownE (E := elV) (x := p.vl[i]) (i := i) (List.getElem?_eq_getElem hi1) (fun _ => Rd.own) w2 h4
    refine cvStr (e := T_uint8) (by kernel_rfl) (by kernel_rfl) (by kernel_rfl) hrd ?_
    have hlen := sentL_len (c := c) (part := c.asked.part) (offset := m.offset) (c.asked.vals.take i) 0
    refine tell_okL (s := { zSn with kind := 1, part := c.asked.part, offset := IntKind.i64.wrap (m.offset + (i : Int)), value := str p.vl[i].2 }) h3 (by show (c.seen ++ _).length ≤ _; rw [List.length_append, hlen, List.length_take]; omega) fun s2 w3 h5 => tupU rfl ?_
    rw [w_i64 (by omega) (by omega)]
    refine ⟨⟨i + 1, s2, rfl, by omega, ?_⟩, by omega⟩
    have e : (c.plus (sentL c c.asked.part m.offset 0 (c.asked.vals.take i))).tell { zSn with kind := 1, part := c.asked.part, offset := IntKind.i64.wrap (m.offset + (i : Int)), value := str p.vl[i].2 } = c.plus (sentL c c.asked.part m.offset 0 (c.asked.vals.take (i + 1))) := by
      unfold Cl.plus Cl.tell
      rw [List.take_add_one, List.getElem?_eq_getElem hi2, Option.toList_some, sentL_snoc, hev]
      simp only [List.append_assoc, Nat.zero_add, List.length_take, Nat.min_eq_left hil]
    rw [e] at h5
    exact h5
  · rw [List.take_of_length_le (by omega)] at h3
    have es : tells c.asked.part m.offset 0 c.asked.vals c = c.plus (sentL c c.asked.part m.offset 0 c.asked.vals) := tells_eq _ _ _
    unfold Cl.sent at hK
    simp only [es] at hK
    generalize hc1 : c.plus (sentL c c.asked.part m.offset 0 c.asked.vals) = c1 at h3 hK
    have f1 : c1.next = c.next := by rw [← hc1]; rfl
    have f2 : c1.op = c.op := by rw [← hc1]; rfl
    have f3 : c1.ops = c.ops := by rw [← hc1]; rfl
    have f4 : c1.asked = c.asked := by rw [← hc1]; rfl
    rw [f1] at hK
    have h4 := h3.drew
    have hs : ∀ {w : World} {c' : Cl} {L : List Res}, Sat W w (ClL b c' { p with seen := s' } L) → At W b 83 p.next.v w ∧ At W b 57 p.vs.v w := fun h => ⟨⟨_, _, _, h, rfl⟩, ⟨_, _, _, h, rfl⟩⟩
    refine ⟨fun w => At W b 83 p.next.v w ∧ At W b 57 p.vs.v w, hs h4, ?_⟩
    have hr : Sat W w2.drew (SlR T_int 1 p.next (c1.next.map vI) :: _) := Sat.up (L := ClL b c1 { p with seen := s' } (Blk g cs T_api_Msg :: l)) h4 8
    rw [f1] at hr
    have hl := (Sat.isLen hr).1
    obtain ⟨sa, hsa⟩ := slSome hr (by omega)
    refine hldY b 83 (k := .sl) (x := p.next) (fun _ h => h.1) ?_
    refine hixP et_ints hsa ha.1 (by omega) ?_
    refine hldY b 57 (k := .sl) (x := p.vs) (fun _ h => h.2) ?_
    refine ldC (x := geti c.next c.asked.part) (by rw [Nat.mul_one]; exact hr.rdc.2.2.2 sa hsa _ _ (geti_at (by omega))) ⟨hs h4, ?_⟩
    refine hixP et_ints hsa ha.1 (by omega) ?_
    refine stSl hr hsa (by omega) fun w3 h5 => ?_
    have e2 : (c.next.map vI).set c.asked.part.toNat (.int .i64 (IntKind.i64.wrap (geti c.next c.asked.part + (p.vs.len : Int)))) = (seti c.next c.asked.part (IntKind.i64.wrap (geti c.next c.asked.part + (c.asked.vals.length : Int)))).map vI := by
      rw [hvs, hvn]; unfold seti; rw [List.map_set]; rfl
    rw [e2] at h5
    have h6 : Sat W w3 (ClL b { c1 with next := seti c.next c.asked.part (IntKind.i64.wrap (geti c.next c.asked.part + (c.asked.vals.length : Int))) } { p with seen := s' } (Blk g cs T_api_Msg :: l)) := h5.dn 8
    refine ⟨hs h6, ?_⟩
    have h7 := h6.drew
    have hol : p.ops.len = c.ops.length := by
      have hs : Sat W w3 (SlR T_api_Op 5 p.ops (elO.flat c1.ops) :: _) := Sat.up (L := ClL b { c1 with next := seti c.next c.asked.part (IntKind.i64.wrap (geti c.next c.asked.part + (c.asked.vals.length : Int))) } { p with seen := s' } (Blk g cs T_api_Msg :: l)) h6 1
      rw [f3] at hs
      exact RdC.elen (E := elO) hs.rdc (by decide)
    refine ldX h7 6 (k := .sl) (x := p.ops) ?_
    refine ldX h7 8 (x := c1.op) ?_
    have hx : c.ops[c1.op.toNat]? = some (c.ops[c1.op.toNat]'(by omega)) := by simp
    generalize (c.ops[c1.op.toNat]'(by omega)) = o at hx
    have hs3 : Sat W w3.drew (SlR T_api_Op 5 p.ops (elO.flat c1.ops) :: _) := Sat.up (L := ClL b { c1 with next := seti c.next c.asked.part (IntKind.i64.wrap (geti c.next c.asked.part + (c.asked.vals.length : Int))) } { p with seen := s' } (Blk g cs T_api_Msg :: l)) h7 1
    rw [f3] at hs3
    refine ixEl (E := elO) et_ops rfl hs3.rdc (by omega) hx (by omega) fun a ha' => ?_
    refine ldC (x := o.kind) (ha' 0 _ rfl) ?_
    have hkd : c.kindAt = o.kind := by unfold Cl.kindAt; rw [← f2, hx]
    rw [hkd] at hK
    refine ifB_beq (fun k5 => ?_) fun k5 => ?_
    · rw [if_pos k5] at hK
      refine stX h7 94 fun w5 h8 => ?_
      exact hK w5 ((sat_cl.2 ⟨_, h8⟩ : Sat W w5 (ClM b { c1 with next := seti c.next c.asked.part (IntKind.i64.wrap (geti c.next c.asked.part + (c.asked.vals.length : Int))), step := 2 } :: Blk g cs T_api_Msg :: l)).cut 1)
    · rw [if_neg k5] at hK
      refine ldX h7 8 (x := c1.op) ?_
      refine stX h7 8 fun w5 h8 => ?_
      rw [f2] at h8
      exact hK w5 ((sat_cl.2 ⟨_, h8⟩ : Sat W w5 (ClM b { c1 with next := seti c.next c.asked.part (IntKind.i64.wrap (geti c.next c.asked.part + (c.asked.vals.length : Int))), op := nx c.op } :: Blk g cs T_api_Msg :: l)).cut 1)
end
end Go.Proofs.Ytajhdjjmhfbhgaa
