/- Layer 19: deciding; a tick. -/
import Derived.Test.YtajhdjjmhfbhgaaKP
namespace Go.Proofs.Ytajhdjjmhfbhgaa
open Go Go.Pk
section
variable {W w : World} {l : List Res} {K : Value → World → Prop} {b : Nat} {c : Cl} {p : ClP}
theorem decide_ok (h : Sat W w (ClM b c :: l)) (q : Good c) (hK : ∀ w', Sat W w' (ClM b c.decide :: l) → K (.tuple #[]) w') : CallP P F_client_Client_decide [.pointer (some ⟨b, 0, none⟩)] w K := by
  apply c_client_Client_decide
  unfold S_client_Client_decide
  obtain ⟨p, h1⟩ := sat_cl.1 h
  unfold Cl.decide at hK
  have q1 := q.parts
  have q2 := q.targets
  have q3 := q.op
  have q4 := q.opsN
  have q5 := q.seen
  refine ldX h1 9 (k := .bool) (x := c.done) ?_
  cases hd : c.done with
  | true =>
    rw [hd] at hK
    exact hK w h
  | false =>
    rw [if_neg (show ¬ c.done = true by rw [hd]; decide)] at hK
    simp only [ifB_false]
    refine ⟨fun _ w' => ¬ (c.opn ≥ 0 ∧ c.ready = false) ∧ Sat W w' (ClL b c p l), ?_, ?_⟩
    · rintro _ w2 ⟨n1, h2⟩
      rw [if_neg n1] at hK
      have hol : p.ops.len = c.ops.length := by
        have hs : Sat W w2 (SlR T_api_Op 5 p.ops (elO.flat c.ops) :: _) := Sat.up (L := ClL b c p l) h2 1
        exact RdC.elen (E := elO) hs.rdc (by decide)
      have h3 := h2.drew
      refine ldX h3 8 (x := c.op) ?_
      refine ldX h3 6 (x := p.ops) ?_
      refine ifB_dec (fun hge => ?_) fun hlt => ?_
      · have hn : c.ops[c.op.toNat]? = none := by rw [List.getElem?_eq_none]; omega
        rw [hn] at hK
        refine stX h3 9 fun w4 h4 => ?_
        refine tell_ok (c := { c with done := true }) (s := { zSn with kind := 7 }) (sat_cl.2 ⟨p, h4⟩) (show c.seen.length ≤ _ by omega) fun w5 h5 => tupU rfl ?_
        exact hK w5 h5
      · have hx : c.ops[c.op.toNat]? = some (c.ops[c.op.toNat]'(by omega)) := by simp
        have hm : (c.ops[c.op.toNat]'(by omega)) ∈ c.ops := List.getElem_mem (by omega)
        generalize (c.ops[c.op.toNat]'(by omega)) = o at hx hm
        rw [hx] at hK
        simp only at hK
        have hob := q.ops o hm
        obtain ⟨k1, k2, _, _, _, _, k3, k4, _⟩ := op_in hob
        have h4 := h3.drew
        let S : World → Prop := fun w => ∃ L, Sat W w (ClL b c p L)
        refine ⟨S, ⟨_, h4⟩, ?_⟩
        refine hldX (fun w ⟨L, h⟩ => ⟨_, h⟩) 6 (k := .sl) (x := p.ops) ?_
        refine hldX (fun w ⟨L, h⟩ => ⟨_, h⟩) 8 (x := c.op) ?_
        have hS : ∀ w, S w → RdC w p.ops 5 (elO.flat c.ops) := fun w ⟨L, h⟩ => by
          have hs : Sat W w (SlR T_api_Op 5 p.ops (elO.flat c.ops) :: _) := Sat.up (L := ClL b c p L) h 1
          exact hs.rdc
        refine hixEl (E := elO) et_ops rfl hS ⟨_, h4⟩ q3.1 hx (by omega) fun a ha => ?_
        refine hldAggC (cs := o.cells) ha ?_
        refine allocB h4 (z := .agg #[.int .i64 0, .int .i64 0, .int .i64 0, .int .i64 0, .string ⟨#[]⟩]) (by kernel_rfl) fun g w5 h5 => ?_
        have h5 : Sat W w5 (Blk g [.int .i64 0, .int .i64 0, .int .i64 0, .int .i64 0, .string ⟨#[]⟩] T_api_Op :: ClL b c p l) := h5
        refine ⟨⟨_, h5.tail⟩, ?_⟩
        refine stAggB (cs' := o.cells) h5 rfl (Oc.ones o) (by kernel_rfl) fun w6 h6 => ⟨⟨_, h6.tail⟩, ?_⟩
        have h7 := h6.drew
        let S2 : World → Prop := fun w => ∃ L, Sat W w (Blk g o.cells T_api_Op :: L)
        refine ⟨S2, ⟨_, h7⟩, ?_⟩
        refine hldX (fun w h => h) 0 (x := o.kind) ?_
        refine hldAggB (W := W) (fun w h => h) (by kernel_rfl) ?_
        refine deeds_ok h7 fun r w8 h8 => tyI (k := .map) ⟨⟨_, h8.tail⟩, ?_⟩
        refine mapLook (z := .nilFunc) ul_fn (by kernel_rfl) (fun w => by kernel_rfl) h8 ?_
        have h9 : Sat W w8 (ClM b c :: Blk g o.cells T_api_Op :: l) := sat_cl.2 ⟨p, by
          have := h8.tail
          exact this.sel 14 [1, 2, 3, 4, 5, 6, 7, 8, 9, 10, 11, 12, 13, 0]⟩
        have kk : o.kind = 1 ∨ o.kind = 2 ∨ o.kind = 3 ∨ o.kind = 4 ∨ o.kind = 5 := by omega
        unfold Cl.deed at hK
        rcases kk with k | k | k | k | k
        · rw [k] at hK ⊢
          refine tyI (k := .val) (x := .func (Go.Fn.func F_client_Client_write) #[] #[]) ⟨⟨_, h8.tail⟩, ?_⟩
          refine dynFn (f := F_client_Client_write) (fun w => by kernel_rfl) ?_
          exact write_ok (o := o) h9 hob q fun w9 h10 => tupU rfl ⟨⟨_, h10.tail⟩, hK w9 (h10.cut 1)⟩
        · rw [k] at hK ⊢
          refine tyI (k := .val) (x := .func (Go.Fn.func F_client_Client_finish) #[] #[]) ⟨⟨_, h8.tail⟩, ?_⟩
          refine dynFn (f := F_client_Client_finish) (fun w => by kernel_rfl) ?_
          refine finish_ok (o := o) h9 q fun w9 h10 => tupU rfl ⟨⟨_, h10.tail⟩, ?_⟩
          rw [k] at h10
          exact hK w9 (h10.cut 1)
        · rw [k] at hK ⊢
          refine tyI (k := .val) (x := .func (Go.Fn.func F_client_Client_finish) #[] #[]) ⟨⟨_, h8.tail⟩, ?_⟩
          refine dynFn (f := F_client_Client_finish) (fun w => by kernel_rfl) ?_
          refine finish_ok (o := o) h9 q fun w9 h10 => tupU rfl ⟨⟨_, h10.tail⟩, ?_⟩
          rw [k] at h10
          exact hK w9 (h10.cut 1)
        · rw [k] at hK ⊢
          refine tyI (k := .val) (x := .func (Go.Fn.func F_client_Client_poll) #[] #[]) ⟨⟨_, h8.tail⟩, ?_⟩
          refine dynFn (f := F_client_Client_poll) (fun w => by kernel_rfl) ?_
          exact poll_ok (o := o) h9 ⟨k3, k4⟩ q fun w9 h10 => tupU rfl ⟨⟨_, h10.tail⟩, hK w9 (h10.cut 1)⟩
        · rw [k] at hK ⊢
          refine tyI (k := .val) (x := .func (Go.Fn.func F_client_Client_copy) #[] #[]) ⟨⟨_, h8.tail⟩, ?_⟩
          refine dynFn (f := F_client_Client_copy) (fun w => by kernel_rfl) ?_
          exact copy_ok (o := o) h9 hob q fun w9 h10 => tupU rfl ⟨⟨_, h10.tail⟩, hK w9 (h10.cut 1)⟩
    · refine ldX h1 81 (x := c.opn) ?_
      refine ifB_dec (fun hge => ?_) fun hn => ⟨fun hh => hn hh.1, h1⟩
      refine ldX h1 77 (k := .bool) (x := c.ready) ?_
      cases hr : c.ready with
      | true => exact ⟨(fun hh => nomatch hh.2), h1⟩
      | false =>
        rw [if_pos ⟨hge, hr⟩] at hK
        simp only [Bool.not_false, ifB_true]
        exact ask0_ok (a := qInit) h rfl q.out q1 q2 (by rintro (h | h) <;> cases h) fun w4 h4 => tupU rfl (hK w4 h4)
theorem next_ok (h : Sat W w (ClM b c :: l)) (hp0 : 0 ≤ c.partOf) (hp1 : c.partOf.toNat < c.targets.length) (hn : 1 ≤ c.nodes) (hK : ∀ w', Sat W w' (ClM b c.nextT :: l) → K (.tuple #[]) w') : CallP P F_client_Client_next [.pointer (some ⟨b, 0, none⟩)] w K := by
  apply c_client_Client_next
  unfold S_client_Client_next
  obtain ⟨p, h1⟩ := sat_cl.1 h
  refine part_ok h1 (tyI ?_)
  have h2 := h1.drew
  have hs : ∀ {w : World} {c' : Cl} {L : List Res}, Sat W w (ClL b c' p L) → c'.nodes = c.nodes → At W b 11 p.targets.v w ∧ At W b 2 (.int .i64 c.nodes) w := fun h e => ⟨⟨_, _, _, h, rfl⟩, ⟨_, _, _, h, by rw [← e]; rfl⟩⟩
  have hr : Sat W w.drew (SlR T_int 1 p.targets (c.targets.map vI) :: _) := Sat.up (L := ClL b c p l) h2 2
  have hl : c.targets.length = p.targets.len := (Sat.isLen hr).1
  obtain ⟨sa, hsa⟩ := slSome hr (by omega)
  refine ⟨fun w => At W b 11 p.targets.v w ∧ At W b 2 (.int .i64 c.nodes) w, hs h2 rfl, ?_⟩
  refine hldY b 11 (k := .sl) (x := p.targets) (fun _ h => h.1) ?_
  refine hldY b 11 (k := .sl) (x := p.targets) (fun _ h => h.1) ?_
  refine hixP et_ints hsa hp0 (by omega) ?_
  refine hldY b 2 (x := c.nodes) (fun _ h => h.2) ?_
  refine ldC (x := geti c.targets c.partOf) (by rw [Nat.mul_one]; exact hr.rdc.2.2.2 sa hsa _ _ (geti_at hp1)) ⟨hs h2 rfl, ?_⟩
  refine remR (by omega) ⟨hs h2 rfl, ?_⟩
  refine hixP et_ints hsa hp0 (by omega) ?_
  refine stSl hr hsa (by omega) fun w3 h3 => ?_
  have e : (c.targets.map vI).set c.partOf.toNat (.int .i64 ((IntKind.i64.wrap (geti c.targets c.partOf + 1)).tmod c.nodes)) = c.nextT.targets.map vI := by
    show _ = (seti c.targets c.partOf ((nx (geti c.targets c.partOf)).tmod c.nodes)).map vI
    unfold seti; rw [List.map_set]; rfl
  rw [e] at h3
  have h4 : Sat W w3 (ClL b c.nextT p l) := h3.dn 2
  exact ⟨hs h4 rfl, hK w3 (sat_cl.2 ⟨p, h4⟩)⟩
theorem tick_ok (h : Sat W w (ClM b c :: l)) (q : Good c) (hw : c.waits = true → 0 ≤ c.partOf ∧ c.partOf.toNat < c.targets.length)
    (hK : ∀ (p : ClP) w', Sat W w' (SlR T_api_Msg 59 p.out (outL c.tick p.vs) :: ClL b { c.tick with out := none } { p with out := ⟨none, 0, 0⟩ } l) → K p.out.v w') : CallP P F_client_Client_Tick [.pointer (some ⟨b, 0, none⟩)] w K := by
  apply c_client_Client_Tick
  unfold S_client_Client_Tick
  simp only [Option.isNone_some, ifB_false]
  have fin : ∀ {w' : World} {c' : Cl}, c' = c.tick → Sat W w' (ClM b c' :: l) → CallP P F_client_Client_take [.pointer (some ⟨b, 0, none⟩)] w' fun v23 w24 => TyP .sl v23 fun (s25 : Sl) => K s25.v w24 := by
    rintro w' c' rfl h'
    obtain ⟨p, h2⟩ := sat_cl.1 h'
    exact take_ok h2 fun w3 h3 => tyI (k := .sl) (hK p w3 h3)
  unfold Cl.tick at fin
  obtain ⟨p, h1⟩ := sat_cl.1 h
  refine ldX h1 72 (k := .bool) (x := c.waits) ?_
  cases hwt : c.waits with
  | false =>
    rw [if_pos hwt] at fin
    simp only [ifB_false]
    exact decide_ok h q fun w2 h2 => tupU rfl (fin rfl h2)
  | true =>
    rw [if_neg (show ¬ c.waits = false by rw [hwt]; decide)] at fin
    obtain ⟨p0, p1⟩ := hw hwt
    simp only [ifB_true]
    refine ldX h1 73 (x := c.age) ?_
    refine stX h1 73 fun w2 h2 => ?_
    have h2 : Sat W w2 (ClL b { c with age := nx c.age } p l) := h2
    refine ldX h2 73 (x := nx c.age) ?_
    refine ifB_dec (fun hge => ?_) fun hlt => ?_
    · rw [if_neg (by omega)] at fin
      have hc1 : ∃ c1 : Cl, c1 = (if c.busy then { c with age := 0 } else ({ c with age := 0 } : Cl).nextT) ∧ c1.out = none ∧ c1.partOf = c.partOf ∧ c1.targets.length = c.targets.length := by
        refine ⟨_, rfl, ?_⟩
        split
        · exact ⟨q.out, rfl, rfl⟩
        · exact ⟨q.out, rfl, by show (seti c.targets _ _).length = _; unfold seti; rw [List.length_set]⟩
      obtain ⟨c1, e0, e1, e2, e3⟩ := hc1
      rw [← e0] at fin
      refine ⟨fun _ w' => Sat W w' (ClM b c1 :: l), ?_, ?_⟩
      · rintro _ w3 h3
        obtain ⟨p', h4⟩ := sat_cl.1 h3
        refine stX h4 74 fun w4 h5 => ?_
        have h5 : Sat W w4 (ClL b { c1 with busy := false } p' l) := h5
        refine again_ok (c := { c1 with busy := false }) (sat_cl.2 ⟨p', h5⟩) e1 (show 0 ≤ c1.partOf by rw [e2]; exact p0) (show c1.partOf.toNat < c1.targets.length by rw [e2, e3]; exact p1) fun w5 h6 => tupU rfl ?_
        exact fin rfl h6
      · refine stX h2 73 fun w3 h3 => ?_
        have h3 : Sat W w3 (ClL b { c with age := 0 } p l) := h3
        refine ldX h3 74 (k := .bool) (x := c.busy) ?_
        cases hb : c.busy with
        | true =>
          rw [hb] at e0
          simp only [Bool.not_true, ifB_false]
          have e0 : c1 = { c with age := 0 } := by rw [e0, if_pos rfl, ← hb]
          rw [e0]
          exact sat_cl.2 ⟨p, h3⟩
        | false =>
          have e0 : c1 = ({ c with age := 0 } : Cl).nextT := by rw [e0, hb]; rfl
          simp only [Bool.not_false, ifB_true]
          refine next_ok (c := { c with age := 0 }) (sat_cl.2 ⟨p, h3⟩) p0 p1 q.nodes.1 fun w4 h4 => tupU rfl ?_
          rw [e0]
          exact h4
    · rw [if_pos (by omega)] at fin
      exact fin rfl (sat_cl.2 ⟨p, h2⟩)
end
end Go.Proofs.Ytajhdjjmhfbhgaa
