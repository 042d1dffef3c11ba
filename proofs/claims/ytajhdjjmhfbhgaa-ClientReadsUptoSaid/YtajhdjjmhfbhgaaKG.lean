/- Layer 19: asking, ending, and what is done while nothing is answered. -/
import Derived.Test.YtajhdjjmhfbhgaaKF
namespace Go.Proofs.Ytajhdjjmhfbhgaa
open Go Go.Pk
def Cl.close (c : Cl) : Cl := { c with opn := -1, added := [], next := List.replicate (c.parts + 2).toNat 0, step := 0 }
def zSn : Sn := ⟨0, 0, 0, 0, 0, ⟨#[]⟩, 0⟩
def Cl.ended (c : Cl) (commit : Bool) : Cl := ({ c.tell { zSn with kind := if commit then 2 else 3 } with op := IntKind.i64.wrap (c.op + 1) } : Cl).close
def Cl.finished (c : Cl) : Cl := ({ c with done := true } : Cl).tell { zSn with kind := 7 }
section
variable {W w : World} {l : List Res} {K : Value → World → Prop} {b : Nat} {c : Cl} {p : ClP}
theorem ask_okL {a : Aq} {vs : Sl} {vl : List (Sl × List UInt8)} (h1 : Sat W w (ClL b c p (OwnS elV vs vl :: l))) (hvl : vl.map Prod.snd = a.vals) (ho : c.out = none) (hp0 : 0 ≤ (c.put a).partOf) (hp1 : (c.put a).partOf.toNat < c.targets.length)
    (hK : ∀ s' w', Sat W w' (ClL b (c.ask a) { p with vs := vs, vl := vl, out := s' } l) → K (.tuple #[]) w') : CallP P F_client_Client_ask [.pointer (some ⟨b, 0, none⟩), .agg (a.cells vs).toArray] w K := by
  apply c_client_Client_ask
  unfold S_client_Client_ask
  refine boxB h1 fun g w2 h2 => ?_
  have h2 : Sat W w2 (Blk g (a.cells vs) T_api_Msg :: ClL b c p (OwnS elV vs vl :: l)) := h2
  refine ldX (h2.up 1) 12 (x := c.corr) ?_
  refine stX (h2.up 1) 12 fun w3 h3 => ?_
  have h3 : Sat W w3 (Blk b (ccells { c with corr := IntKind.i64.wrap (c.corr + 1) } p) T_client_Client :: Blk g (a.cells vs) T_api_Msg :: _) := h3
  let S : World → Prop := fun w => ∃ L, Sat W w (Blk b (ccells { c with corr := IntKind.i64.wrap (c.corr + 1) } p) T_client_Client :: L)
  have h4 := h3.drew
  refine ⟨S, ⟨_, h4⟩, ?_⟩
  refine hldX (fun w h => h) 0 (x := c.id) ?_
  refine hldX (fun w h => h) 12 (x := IntKind.i64.wrap (c.corr + 1)) ?_
  have h5 := h4.swap
  refine stX h5 1 (hi := by rw [Aq.len]; decide) fun w5 h6 => ⟨⟨_, h6.swap⟩, ?_⟩
  refine stX h6 3 (hi := by rw [List.length_set, Aq.len]; decide) fun w6 h7 => ⟨⟨_, h7.swap⟩, ?_⟩
  have h8 := h7.drew
  refine ⟨S, ⟨_, h8.swap⟩, ?_⟩
  refine hldX (fun w h => h) 1 (x := c.number) ?_
  refine hldX (fun w h => h) 10 (x := c.inc) ?_
  refine hldX (fun w h => h) 7 (x := c.group) ?_
  refine hldX (fun w h => h) 1 (x := c.number) ?_
  refine stX h8 47 (hi := by simp only [List.length_set, Aq.len]; decide) fun w8 h9 => ⟨⟨_, h9.swap⟩, ?_⟩
  refine stX h9 48 (hi := by simp only [List.length_set, Aq.len]; decide) fun w9 h10 => ⟨⟨_, h10.swap⟩, ?_⟩
  refine stX h10 52 (hi := by simp only [List.length_set, Aq.len]; decide) fun w10 h11 => ⟨⟨_, h11.swap⟩, ?_⟩
  refine stX h11 54 (hi := by simp only [List.length_set, Aq.len]; decide) fun w11 h12 => ⟨⟨_, h12.swap⟩, ?_⟩
  have h12 : Sat W w11 (Blk g ((c.stamp a).cells vs) T_api_Msg :: _) := h12
  refine ldAggB h12 (by rw [Aq.len]; kernel_rfl) ?_
  have h13 := h12.swap
  refine stAggX (cs' := (c.stamp a).cells vs) 13 h13 (Aq.ones _ _) (fun w12 h14 => ?_) (by show 13 + 59 ≤ 95; decide)
  have h14 : Sat W w12 (Blk b (ccells { c with corr := IntKind.i64.wrap (c.corr + 1), asked := c.stamp a } { p with vs := vs, vl := vl }) T_client_Client :: _) := h14
  refine stX h14 72 fun w13 h15 => ?_
  refine stX h15 73 fun w14 h16 => ?_
  refine stX h16 74 fun w15 h17 => ?_
  have h18 : Sat W w15 (Blk b (ccells (c.put a) { p with vs := vs, vl := vl }) T_client_Client :: Blk g ((c.stamp a).cells vs) T_api_Msg :: SlR T_api_Op 5 p.ops (elO.flat c.ops) :: IsR p.targets c.targets :: Pure (p.vl.map Prod.snd = c.asked.vals) :: OwnS elV p.vs p.vl :: SlR T_api_Msg 59 p.out (outL c p.vs) ::
      SlR T_api_Seen 7 p.seen (elS.flat c.seen) :: IsR p.added c.added :: IsR p.next c.next :: IsR p.mine c.mine :: IsR p.att c.att :: IsR p.sure c.sure :: SlR T_string 1 p.values (c.values.map vT) :: OwnS elV vs vl :: l) := h17
  have e : outL c p.vs = outL (c.put a) vs := by rw [outL_none ho, outL_none (c := c.put a) ho]
  rw [e] at h18
  have h19 : Sat W w15 (Pure (vl.map Prod.snd = (c.put a).asked.vals) :: _) := sat_pure.2 ⟨hvl, h18⟩
  have h20 : Sat W w15 (ClL b (c.put a) { p with vs := vs, vl := vl } l) := h19.sel 16 [1, 3, 4, 0, 15, 7, 8, 9, 10, 11, 12, 13, 14]
  exact again_okL h20 ho hp0 hp1 fun s' w16 h21 => tupU rfl (hK s' w16 h21)
theorem ask_ok {a : Aq} {vs : Sl} {vl : List (Sl × List UInt8)} (h : Sat W w (ClM b c :: OwnS elV vs vl :: l)) (hvl : vl.map Prod.snd = a.vals) (ho : c.out = none) (hp0 : 0 ≤ (c.put a).partOf) (hp1 : (c.put a).partOf.toNat < c.targets.length)
    (hK : ∀ w', Sat W w' (ClM b (c.ask a) :: l) → K (.tuple #[]) w') : CallP P F_client_Client_ask [.pointer (some ⟨b, 0, none⟩), .agg (a.cells vs).toArray] w K := by
  obtain ⟨p, h1⟩ := sat_cl.1 h
  exact ask_okL h1 hvl ho hp0 hp1 fun s' w' h' => hK w' (sat_cl.2 ⟨_, h'⟩)
theorem close_ok (h : Sat W w (ClM b c :: l)) (h0 : 0 ≤ c.parts) (h1 : c.parts ≤ 4) (hK : ∀ w', Sat W w' (ClM b c.close :: l) → K (.tuple #[]) w') : CallP P F_client_Client_close [.pointer (some ⟨b, 0, none⟩)] w K := by
  apply c_client_Client_close
  unfold S_client_Client_close
  obtain ⟨p, h2⟩ := sat_cl.1 h
  refine stX h2 81 fun w3 h3 => ?_
  refine stX h3 82 fun w4 h4 => ?_
  refine ldX h4 3 (x := c.parts) ?_
  have hp2 : IntKind.i64.wrap (c.parts + 2) = c.parts + 2 := w_i64 (by omega) (by omega)
  rw [hp2]
  refine mkInts h4 (by omega) (by omega) fun s w5 h5 => ?_
  refine stX (h5.up 1) 83 fun w6 h6 => ?_
  refine stX h6 94 fun w7 h7 => ?_
  have h8 := Sat.nilSlr h7 T_int 1
  refine hK w7 (sat_cl.2 ⟨{ p with added := ⟨none, 0, 0⟩, next := s }, ?_⟩)
  exact h8.sel 15 [1, 3, 4, 5, 6, 7, 8, 0, 2, 11, 12, 13, 14]
theorem ended_ok {m : Bool} (h : Sat W w (ClM b c :: l)) (h0 : 0 ≤ c.parts) (h1 : c.parts ≤ 4) (hl : c.seen.length ≤ 1099511627776) (hK : ∀ w', Sat W w' (ClM b (c.ended m) :: l) → K (.tuple #[]) w') : CallP P F_client_Client_ended [.pointer (some ⟨b, 0, none⟩), .bool m] w K := by
  apply c_client_Client_ended
  unfold S_client_Client_ended
  refine ⟨fun t w' => t.1 = (if m then 2 else 3) ∧ Sat W w' (ClM b c :: l), ?_, ?_⟩
  · rintro ⟨t, u⟩ w2 ⟨ht, h2⟩
    simp only at ht
    subst ht
    refine tell_ok (s := { zSn with kind := if m then 2 else 3 }) h2 hl fun w3 h3 => tupU rfl ?_
    obtain ⟨p, h4⟩ := sat_cl.1 h3
    refine ldX h4 8 (x := c.op) ?_
    refine stX h4 8 fun w4 h5 => ?_
    refine close_ok (c := { c.tell { zSn with kind := if m then 2 else 3 } with op := IntKind.i64.wrap (c.op + 1) }) (sat_cl.2 ⟨p, h5⟩) h0 h1 fun w5 h6 => tupU rfl ?_
    exact hK w5 h6
  · cases m
    · exact ⟨rfl, h⟩
    · exact ⟨rfl, h⟩
theorem end0_ok {m : Bool} (h : Sat W w (ClM b c :: l)) (hop : c.opn < 0) (h0 : 0 ≤ c.parts) (h1 : c.parts ≤ 4) (hl : c.seen.length ≤ 1099511627776) (hK : ∀ w', Sat W w' (ClM b (c.ended m) :: l) → K (.tuple #[]) w') : CallP P F_client_Client_end [.pointer (some ⟨b, 0, none⟩), .bool m] w K := by
  apply c_client_Client_end
  unfold S_client_Client_end
  obtain ⟨p, h2⟩ := sat_cl.1 h
  refine ldX h2 81 (x := c.opn) ?_
  refine ifB_dec (fun _ => ?_) fun hn => absurd hop hn
  exact ended_ok h h0 h1 hl fun w3 h3 => tupU rfl (hK w3 h3)
theorem finish0_ok {o : Oc} (h : Sat W w (ClM b c :: l)) (hop : c.opn < 0) (h0 : 0 ≤ c.parts) (h1 : c.parts ≤ 4) (hl : c.seen.length ≤ 1099511627776) (hK : ∀ w', Sat W w' (ClM b (c.ended (o.kind == 2)) :: l) → K (.tuple #[]) w') :
    CallP P F_client_Client_finish [.pointer (some ⟨b, 0, none⟩), .agg o.cells.toArray] w K := by
  apply c_client_Client_finish
  unfold S_client_Client_finish
  refine boxB h fun g w2 h2 => ?_
  have h2 : Sat W w2 (Blk g o.cells T_api_Op :: ClM b c :: l) := h2
  refine ldB h2 (o := 0) (i := 0) (x := o.kind) ?_
  exact end0_ok h2.tail hop h0 h1 hl fun w3 h3 => tupU rfl (hK w3 h3)
def qInit : Aq := { zAq with kind := 7 }
theorem prep0_ok {n : Int} (h : Sat W w (ClM b c :: l)) (hr : c.ready = false) (ho : c.out = none) (h0 : 0 ≤ c.parts) (hp1 : c.parts.toNat < c.targets.length) (hK : ∀ w', Sat W w' (ClM b (c.ask qInit) :: l) → K (.bool false) w') :
    CallP P F_client_Client_prepare [.pointer (some ⟨b, 0, none⟩), .int .i64 n] w K := by
  apply c_client_Client_prepare
  unfold S_client_Client_prepare
  obtain ⟨p, h2⟩ := sat_cl.1 h
  refine ldX h2 77 (k := .bool) (x := c.ready) ?_
  rw [hr]
  simp only [Bool.not_false, ifB_true]
  have hpp : (c.put qInit).partOf = c.parts := by unfold Cl.partOf; rw [if_pos (.inl rfl)]; rfl
  refine ask_ok (a := qInit) (vs := ⟨none, 0, 0⟩) (vl := []) (own_nil (E := elV) h).swap rfl ho (by rw [hpp]; exact h0) (by rw [hpp]; exact hp1) fun w3 h3 => tupU rfl (hK w3 h3)
theorem send0_ok {n : Int} {x : Sl} (h : Sat W w (ClM b c :: l)) (hr : c.ready = false) (ho : c.out = none) (h0 : 0 ≤ c.parts) (hp1 : c.parts.toNat < c.targets.length) (hK : ∀ w', Sat W w' (ClM b (c.ask qInit) :: l) → K (.tuple #[]) w') :
    CallP P F_client_Client_send [.pointer (some ⟨b, 0, none⟩), .int .i64 n, x.v] w K := by
  apply c_client_Client_send
  unfold S_client_Client_send
  refine prep0_ok h hr ho h0 hp1 fun w2 h2 => tyI ?_
  exact hK w2 h2
theorem write0_ok {o : Oc} (h : Sat W w (ClM b c :: l)) (hr : c.ready = false) (ho : c.out = none) (h0 : 0 ≤ c.parts) (hp1 : c.parts.toNat < c.targets.length) (hK : ∀ w', Sat W w' (ClM b (c.ask qInit) :: l) → K (.tuple #[]) w') :
    CallP P F_client_Client_write [.pointer (some ⟨b, 0, none⟩), .agg o.cells.toArray] w K := by
  apply c_client_Client_write
  unfold S_client_Client_write
  refine boxB h fun g w2 h2 => ?_
  have h2 : Sat W w2 (Blk g o.cells T_api_Op :: ClM b c :: l) := h2
  refine ldB h2 (o := 0) (i := 1) (x := o.part) ?_
  refine ldB h2 (o := 0) (i := 4) (k := .str) (x := o.value) ?_
  refine bsB h2 (cs := [.string o.value]) (e := T_string) (fun w => by kernel_rfl) fun g2 w3 h3 => ?_
  exact send0_ok h3.tail.tail hr ho h0 hp1 fun w4 h4 => tupU rfl (hK w4 h4)
end
end Go.Proofs.Ytajhdjjmhfbhgaa
