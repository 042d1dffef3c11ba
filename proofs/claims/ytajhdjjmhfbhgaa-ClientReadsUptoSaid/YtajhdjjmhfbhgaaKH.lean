/- Layer 19: a client that isn't answered. -/
import Derived.Test.YtajhdjjmhfbhgaaKG
namespace Go.Proofs.Ytajhdjjmhfbhgaa
open Go Go.Pk
noncomputable def tFn : Nat := match P.underlying T_map_int_func_p_client_Client_api_Op with | some (.map _ e) => e | _ => 0
theorem ul_fn : P.underlying T_map_int_func_p_client_Client_api_Op = some (.map T_int tFn) := by kernel_rfl
abbrev dm : List (Int × Value) := [(1, .func (Go.Fn.func F_client_Client_write) #[] #[]), (2, .func (Go.Fn.func F_client_Client_finish) #[] #[]), (3, .func (Go.Fn.func F_client_Client_finish) #[] #[]), (4, .func (Go.Fn.func F_client_Client_poll) #[] #[]), (5, .func (Go.Fn.func F_client_Client_copy) #[] #[])]
/-- a client that isn't in a transaction, and has no producer -/
structure Quiet (c : Cl) : Prop where
  opn : c.opn < 0
  ready : c.ready = false
  out : c.out = none
  parts : 1 ≤ c.parts ∧ c.parts ≤ 4
  targets : c.targets.length = (c.parts + 2).toNat
  op : 0 ≤ c.op
  ops : c.ops.length ≤ 64
  kinds : ∀ o ∈ c.ops, 1 ≤ o.kind ∧ o.kind ≤ 3
def Cl.dec0 (c : Cl) : Cl := if c.done then c else match c.ops[c.op.toNat]? with
  | none => c.finished
  | some o => if o.kind = 1 then c.ask qInit else c.ended (o.kind == 2)
section
variable {W w : World} {l : List Res} {K : Value → World → Prop} {b : Nat} {c : Cl} {p : ClP}
theorem deeds_ok (h : Sat W w l) (hK : ∀ r w', Sat W w' (MpR .i64 r dm :: l) → K (.map (some r)) w') : CallP P F_client_deeds [] w K := by
  apply c_client_deeds
  unfold S_client_deeds
  refine mkMap ul_fn h .i64 (fun r w1 h1 => ?_) (fun w => by kernel_rfl)
  refine mapUpd ul_fn (by kernel_rfl) h1 fun w2 h2 => ?_
  refine mapUpd ul_fn (by kernel_rfl) h2 fun w3 h3 => ?_
  refine mapUpd ul_fn (by kernel_rfl) h3 fun w4 h4 => ?_
  refine mapUpd ul_fn (by kernel_rfl) h4 fun w5 h5 => ?_
  refine mapUpd ul_fn (by kernel_rfl) h5 fun w6 h6 => ?_
  exact hK r w6 h6
theorem dynFn {f : Nat} {v : Value} {args : Array Value} {K : Value → World → Prop} (hr : ∀ w, (Pk.callV v args).run P w = .ok (.enter f args) w) (h : CallP P f args.toList w K) : DynP P (Pk.callV v args) w K := ⟨f, args, w, hr w, h⟩
theorem decide0_ok (h : Sat W w (ClM b c :: l)) (q : Quiet c) (hl : c.seen.length ≤ 1099511627776) (hK : ∀ w', Sat W w' (ClM b c.dec0 :: l) → K (.tuple #[]) w') : CallP P F_client_Client_decide [.pointer (some ⟨b, 0, none⟩)] w K := by
  apply c_client_Client_decide
  unfold S_client_Client_decide
  obtain ⟨p, h1⟩ := sat_cl.1 h
  unfold Cl.dec0 at hK
  refine ldX h1 9 (k := .bool) (x := c.done) ?_
  cases hd : c.done with
  | true =>
    rw [hd] at hK
    exact hK w h
  | false =>
    rw [hd] at hK
    simp only [Bool.false_eq_true, if_false] at hK
    simp only [ifB_false]
    have q0 := q.opn
    have q1 := q.parts
    have q2 := q.targets
    have q3 := q.op
    have q4 := q.ops
    refine ⟨fun _ w' => Sat W w' (ClL b c p l), ?_, ?_⟩
    · rintro _ w2 h2
      have hol : p.ops.len = c.ops.length := by
        have hs : Sat W w2 (SlR T_api_Op 5 p.ops (elO.flat c.ops) :: _) := Sat.up (L := ClL b c p l) h2 1
        exact RdC.elen (E := elO) hs.rdc (by decide)
      have h3 := h2.drew
      refine ldX h3 8 (x := c.op) ?_
      refine ldX h3 6 (x := p.ops) ?_
      refine ifB_dec (fun hge => ?_) fun hlt => ?_
      · have hn : c.ops[c.op.toNat]? = none := by rw [List.getElem?_eq_none]; omega
        rw [hn] at hK
        refine stX h3 9 fun w4 h4 => ?_
        refine tell_ok (c := { c with done := true }) (s := { zSn with kind := 7 }) (sat_cl.2 ⟨p, h4⟩) hl fun w5 h5 => tupU rfl ?_
        exact hK w5 h5
      · have hx : c.ops[c.op.toNat]? = some (c.ops[c.op.toNat]'(by omega)) := by simp
        have hm : (c.ops[c.op.toNat]'(by omega)) ∈ c.ops := List.getElem_mem (by omega)
        generalize (c.ops[c.op.toNat]'(by omega)) = o at hx hm
        rw [hx] at hK
        simp only at hK
        obtain ⟨k1, k2⟩ := q.kinds o hm
        have h4 := h3.drew
        let S : World → Prop := fun w => ∃ L, Sat W w (ClL b c p L)
        refine ⟨S, ⟨_, h4⟩, ?_⟩
        refine hldX (fun w ⟨L, h⟩ => ⟨_, h⟩) 6 (k := .sl) (x := p.ops) ?_
        refine hldX (fun w ⟨L, h⟩ => ⟨_, h⟩) 8 (x := c.op) ?_
        have hS : ∀ w, S w → RdC w p.ops 5 (elO.flat c.ops) := fun w ⟨L, h⟩ => by
          have hs : Sat W w (SlR T_api_Op 5 p.ops (elO.flat c.ops) :: _) := Sat.up (L := ClL b c p L) h 1
          exact hs.rdc
        refine hixEl (E := elO) et_ops rfl hS ⟨_, h4⟩ q3 hx (by omega) fun a ha => ?_
        refine hldAggC (cs := o.cells) ha ?_
        refine allocB h4 (z := .agg #[.int .i64 0, .int .i64 0, .int .i64 0, .int .i64 0, .string ⟨#[]⟩]) (by kernel_rfl) fun g w5 h5 => ?_
        have h5 : Sat W w5 (Blk g [.int .i64 0, .int .i64 0, .int .i64 0, .int .i64 0, .string ⟨#[]⟩] T_api_Op :: ClL b c p l) := h5
        refine ⟨⟨_, h5.tail⟩, ?_⟩
        refine stAggB (cs' := o.cells) h5 rfl (Oc.ones o) (by kernel_rfl) fun w6 h6 => ⟨⟨_, h6.tail⟩, ?_⟩
        have h7 := h6.drew
        let S2 : World → Prop := fun w => ∃ L, Sat W w (Blk g o.cells T_api_Op :: L)
        refine ⟨S2, ⟨_, h7⟩, ?_⟩
        refine hldX (fun w h => h) 0 (x := o.kind) ?_
        refine hldAggB (W := W) (fun w h => h) (by kernel_rfl) ?_
        refine deeds_ok h7 fun r w8 h8 => tyI (k := .map) ⟨⟨_, h8.tail⟩, ?_⟩
        refine mapLook (z := .nilFunc) ul_fn (by kernel_rfl) (fun w => by kernel_rfl) h8 ?_
        have h9 : Sat W w8 (ClM b c :: Blk g o.cells T_api_Op :: l) := sat_cl.2 ⟨p, by
          have := h8.tail
          exact this.sel 14 [1, 2, 3, 4, 5, 6, 7, 8, 9, 10, 11, 12, 13, 0]⟩
        have k3 : o.kind = 1 ∨ o.kind = 2 ∨ o.kind = 3 := by omega
        rcases k3 with k | k | k
        · rw [k] at hK ⊢
          refine tyI (k := .val) (x := .func (Go.Fn.func F_client_Client_write) #[] #[]) ⟨⟨_, h8.tail⟩, ?_⟩
          refine dynFn (f := F_client_Client_write) (fun w => by kernel_rfl) ?_
          refine write0_ok (o := o) h9 q.ready q.out (by omega) (by omega) fun w9 h10 => tupU rfl ⟨⟨_, h10.tail⟩, ?_⟩
          exact hK w9 (h10.cut 1)
        · rw [k] at hK ⊢
          refine tyI (k := .val) (x := .func (Go.Fn.func F_client_Client_finish) #[] #[]) ⟨⟨_, h8.tail⟩, ?_⟩
          refine dynFn (f := F_client_Client_finish) (fun w => by kernel_rfl) ?_
          refine finish0_ok (o := o) h9 q.opn (by omega) (by omega) hl fun w9 h10 => tupU rfl ⟨⟨_, h10.tail⟩, ?_⟩
          rw [k] at h10
          exact hK w9 (h10.cut 1)
        · rw [k] at hK ⊢
          refine tyI (k := .val) (x := .func (Go.Fn.func F_client_Client_finish) #[] #[]) ⟨⟨_, h8.tail⟩, ?_⟩
          refine dynFn (f := F_client_Client_finish) (fun w => by kernel_rfl) ?_
          refine finish0_ok (o := o) h9 q.opn (by omega) (by omega) hl fun w9 h10 => tupU rfl ⟨⟨_, h10.tail⟩, ?_⟩
          rw [k] at h10
          exact hK w9 (h10.cut 1)
    · refine ldX h1 81 (x := c.opn) ?_
      refine ifB_dec (fun hge => absurd hge (by omega)) fun _ => h1
/-- a tick of a client that doesn't wait -/
theorem tick0_ok (h : Sat W w (ClM b c :: l)) (q : Quiet c) (hw : c.waits = false) (hl : c.seen.length ≤ 1099511627776)
    (hK : ∀ (p : ClP) w', Sat W w' (SlR T_api_Msg 59 p.out (outL c.dec0 p.vs) :: ClL b { c.dec0 with out := none } { p with out := ⟨none, 0, 0⟩ } l) → K p.out.v w') : CallP P F_client_Client_Tick [.pointer (some ⟨b, 0, none⟩)] w K := by
  apply c_client_Client_Tick
  unfold S_client_Client_Tick
  simp only [Option.isNone_some, ifB_false]
  obtain ⟨p, h1⟩ := sat_cl.1 h
  refine ldX h1 72 (k := .bool) (x := c.waits) ?_
  rw [hw]
  simp only [ifB_false]
  refine decide0_ok h q hl fun w2 h2 => tupU rfl ?_
  obtain ⟨p2, h3⟩ := sat_cl.1 h2
  exact take_ok h3 fun w3 h4 => tyI (k := .sl) (hK p2 w3 h4)
theorem trace_ok (h : Sat W w (ClM b c :: l)) (hl : c.seen.length ≤ 1099511627776) (hK : ∀ s w', Sat W w' (SlR T_api_Seen 7 s (elS.flat c.seen) :: ClM b c :: l) → K s.v w') : CallP P F_client_Client_Trace [.pointer (some ⟨b, 0, none⟩)] w K := by
  apply c_client_Client_Trace
  unfold S_client_Client_Trace
  simp only [Option.isNone_some, ifB_false]
  obtain ⟨p, h1⟩ := sat_cl.1 h
  refine ldX h1 76 (x := p.seen) ?_
  have hr : Rd W (ClL b c p l) p.seen 7 (elS.flat c.seen) := fun w' h' => by
    have hs : Sat W w' (SlR T_api_Seen 7 p.seen (elS.flat c.seen) :: _) := Sat.up (L := ClL b c p l) h' 6
    exact hs.rdc
  refine cloneSn_ok h1 hr hl fun s w2 h2 => tyI (k := .sl) (hK s w2 ?_)
  exact (sat_cl.2 ⟨p, h2.sel 14 [1, 2, 3, 4, 5, 6, 7, 8, 9, 10, 11, 12, 13, 0]⟩).swap
theorem state_ok (h : Sat W w (ClM b c :: l)) (hK : ∀ w', Sat W w' (ClM b c :: l) → K (.tuple #[.int .i64 c.op, .int .i64 c.inc, .bool c.done]) w') : CallP P F_client_Client_State [.pointer (some ⟨b, 0, none⟩)] w K := by
  apply c_client_Client_State
  unfold S_client_Client_State
  simp only [Option.isNone_some, ifB_false]
  obtain ⟨p, h1⟩ := sat_cl.1 h
  have h2 := h1.drew
  refine ldX h2 8 (x := c.op) ?_
  refine ldX h2 10 (x := c.inc) ?_
  refine ldX h2 9 (k := .bool) (x := c.done) ?_
  exact hK w.drew (sat_cl.2 ⟨p, h2⟩)
end
end Go.Proofs.Ytajhdjjmhfbhgaa
