/- Layer 19: answers: a producer is given; values were sent. -/
import Derived.Test.YtajhdjjmhfbhgaaKQ
namespace Go.Proofs.Ytajhdjjmhfbhgaa
open Go Go.Pk
/-- the cells of an answer -/
structure RpC (cs : List Value) (m : Rp) : Prop where
  len : cs.length = 59
  kind : cs[0]? = some (.int .i64 m.kind)
  corr : cs[3]? = some (.int .i64 m.corr)
  er : cs[4]? = some (.int .i64 m.er)
  offset : cs[46]? = some (.int .i64 m.offset)
  inc : cs[48]? = some (.int .i64 m.inc)
  pid : cs[49]? = some (.int .u64 m.pid)
  epoch : cs[50]? = some (.int .i64 m.epoch)
  commit : cs[51]? = some (.bool m.commit)
  gen : cs[53]? = some (.int .i64 m.gen)
  ms : cs[55]? = some m.ms.v
  bs : cs[56]? = some m.bs.v
  av : cs[57]? = some m.av.v
  high : cs[58]? = some (.int .i64 m.high)
section
variable {W w : World} {l : List Res} {K : Value → World → Prop} {b : Nat} {c : Cl} {p : ClP} {cs : List Value} {m : Rp}
theorem given_ok (h : Sat W w (ClM b c :: l)) (hm : RpC cs m) (q : Good c) (hK : ∀ w', Sat W w' (ClM b (c.given m) :: l) → K (.tuple #[]) w') :
    CallP P F_client_Client_given [.pointer (some ⟨b, 0, none⟩), .agg cs.toArray] w K := by
  apply c_client_Client_given
  unfold S_client_Client_given
  have q1 := q.parts
  have q3 := q.op
  have q4 := q.opsN
  have q5 := q.seen
  refine boxB h fun g w1 h1 => ?_
  have h1 : Sat W w1 (Blk g cs T_api_Msg :: ClM b c :: l) := h1
  obtain ⟨p, h2⟩ := sat_cl.1 h1.swap
  have h3 := h2.drew
  refine ldX h3 81 (x := c.opn) ?_
  refine ldX h3 78 (k := .int .u64) (x := c.pid) ?_
  refine ldX h3 80 (x := c.begin) ?_
  have h4 := h3.drew
  let S : World → Prop := fun w => ∃ L, Sat W w (Blk g cs T_api_Msg :: L)
  have hs : ∀ {w : World} {c' : Cl}, Sat W w (ClL b c' p (Blk g cs T_api_Msg :: l)) → S w := fun {w c'} h => ⟨_, Sat.up (L := ClL b c' p (Blk g cs T_api_Msg :: l)) h 13⟩
  refine ⟨S, hs h4, ?_⟩
  refine hldX (fun w h => h) 49 (k := .int .u64) (x := m.pid) ?_ (hx := hm.pid)
  refine hldX (fun w h => h) 50 (x := m.epoch) ?_ (hx := hm.epoch)
  refine stX h4 77 fun w4 h5 => ⟨hs (c' := { c with ready := true }) h5, ?_⟩
  refine stX h5 78 fun w5 h6 => ⟨hs (c' := { c with ready := true, pid := m.pid }) h6, ?_⟩
  refine stX h6 79 fun w6 h7 => ⟨hs (c' := { c with ready := true, pid := m.pid, epoch := m.epoch }) h7, ?_⟩
  have h7 : Sat W w6 (ClL b { c with ready := true, pid := m.pid, epoch := m.epoch } p (Blk g cs T_api_Msg :: l)) := h7
  refine close_ok (sat_cl.2 ⟨p, h7⟩) (show 0 ≤ c.parts by omega) q1.2 fun w7 h8 => tupU rfl ?_
  unfold Cl.given at hK
  simp only at hK
  generalize hc1 : ({ c with ready := true, pid := m.pid, epoch := m.epoch } : Cl).close = c1 at h8 hK
  have f1 : c1.parts = c.parts := by rw [← hc1]; rfl
  have f2 : c1.op = c.op := by rw [← hc1]; rfl
  have f3 : c1.ops = c.ops := by rw [← hc1]; rfl
  have f4 : c1.seen = c.seen := by rw [← hc1]; rfl
  refine ifB_dec (fun h0 => ?_) fun h0 => ?_
  · rw [if_pos h0] at hK
    exact hK w7 (h8.cut 1)
  rw [if_neg h0] at hK
  generalize hbm : (m.offset == c.opn && IntKind.u64.wrap m.high == c.pid) = bm at hK
  generalize hkd : c.kindAt = kd at hK
  unfold Cl.kindAt at hkd
  have h9 := h8.swap
  refine ⟨fun t w' => t.1 = bm ∧ Sat W w' (ClM b c1 :: Blk g cs T_api_Msg :: l), ?_, ?_⟩
  · rintro ⟨t, u⟩ w8 ⟨ht, h10⟩
    simp only at ht
    subst ht
    refine ⟨fun t w' => t.1 = kd ∧ Sat W w' (ClM b c1 :: Blk g cs T_api_Msg :: l), ?_, ?_⟩
    · rintro ⟨t2, u⟩ w9 ⟨ht2, h11⟩
      simp only at ht2
      subst ht2
      have en : ∀ (e : Bool), (∀ w', Sat W w' (ClM b (c1.ended e) :: l) → K (.tuple #[]) w') → CallP P F_client_Client_ended [.pointer (some ⟨b, 0, none⟩), .bool e] w9 fun v39 w40 => TupP [] v39 fun _ => K (.tuple #[]) w40 := fun e hk =>
        ended_ok h11 (by omega) (by omega) (by rw [f4]; omega) fun w' h' => tupU rfl (hk w' (h'.cut 1))
      have fl : (∀ w', Sat W w' (ClM b { c1.tell { zSn with kind := 4, e := 14 } with op := c.begin } :: l) → K (.tuple #[]) w') →
          CallP P F_client_Client_tell [.pointer (some ⟨b, 0, none⟩), .agg #[.int .i64 4, .int .i64 0, .int .i64 0, .int .i64 0, .int .i64 0, .string (ByteArray.mk #[]), .int .i64 14]] w9 fun v49 w50 => TupP [] v49 fun _ =>
            StoreP P T_int (.pointer (some ((⟨b, 0, none⟩ : Addr).add 8))) (.int .i64 c.begin) w50 fun w53 => K (.tuple #[]) w53 := fun hk =>
        tell_ok (s := { zSn with kind := 4, e := 14 }) h11 (by rw [f4]; omega) fun w' h' => tupU rfl (by
          obtain ⟨p', h12⟩ := sat_cl.1 h'
          refine stX h12 8 fun w'' h13 => ?_
          exact hk w'' ((sat_cl.2 ⟨p', h13⟩ : Sat W w'' (ClM b { c1.tell { zSn with kind := 4, e := 14 } with op := c.begin } :: Blk g cs T_api_Msg :: l)).cut 1))
      have h12 := h11.swap
      cases t with
      | false =>
        rw [if_neg (by simp), if_neg (by simp)] at hK
        simp only [ifB_false]
        exact fl hK
      | true =>
        simp only [ifB_true]
        refine ldX h12 51 (k := .bool) (x := m.commit) ?_ (hx := hm.commit)
        cases hmc : m.commit with
        | true =>
          simp only [ifB_true]
          rw [hmc] at hK
          refine ifB_beq (fun k2 => ?_) fun k2 => ?_
          · rw [if_pos ⟨rfl, rfl, .inl k2⟩] at hK
            exact en true hK
          refine ifB_beq (fun k5 => ?_) fun k5 => ?_
          · rw [if_pos ⟨rfl, rfl, .inr k5⟩] at hK
            exact en true hK
          rw [if_neg (by rintro ⟨_, _, h | h⟩; exact k2 h; exact k5 h), if_neg (by simp)] at hK
          refine ldX h12 51 (k := .bool) (x := m.commit) ?_ (hx := hm.commit)
          rw [hmc]
          simp only [Bool.not_true, ifB_false]
          exact fl hK
        | false =>
          simp only [ifB_false]
          rw [hmc, if_neg (by simp)] at hK
          refine ldX h12 51 (k := .bool) (x := m.commit) ?_ (hx := hm.commit)
          rw [hmc]
          simp only [Bool.not_false, ifB_true]
          refine ifB_beq (fun k3 => ?_) fun k3 => ?_
          · rw [if_pos ⟨rfl, rfl, k3⟩] at hK
            exact en false hK
          · rw [if_neg (by rintro ⟨_, _, h⟩; exact k3 h)] at hK
            exact fl hK
    · obtain ⟨p', h11⟩ := sat_cl.1 h10
      have hol : p'.ops.len = c.ops.length := by
        have hs : Sat W w8 (SlR T_api_Op 5 p'.ops (elO.flat c1.ops) :: _) := Sat.up (L := ClL b c1 p' (Blk g cs T_api_Msg :: l)) h11 1
        rw [f3] at hs
        exact RdC.elen (E := elO) hs.rdc (by decide)
      have h12 := h11.drew
      refine ldX h12 8 (x := c1.op) ?_
      refine ldX h12 6 (x := p'.ops) ?_
      refine ifB_dec (fun hlt => ?_) fun hge => ?_
      · have h13 := h12.drew
        refine ldX h13 6 (x := p'.ops) ?_
        refine ldX h13 8 (x := c1.op) ?_
        have hx : c.ops[c1.op.toNat]? = some (c.ops[c1.op.toNat]'(by omega)) := by simp
        generalize (c.ops[c1.op.toNat]'(by omega)) = o at hx
        have hs : Sat W w8.drew.drew (SlR T_api_Op 5 p'.ops (elO.flat c1.ops) :: _) := Sat.up (L := ClL b c1 p' (Blk g cs T_api_Msg :: l)) h13 1
        rw [f3] at hs
        refine ixEl (E := elO) et_ops rfl hs.rdc (by omega) hx (by omega) fun a ha => ?_
        refine ldC (x := o.kind) (ha 0 _ rfl) ⟨?_, sat_cl.2 ⟨p', h13⟩⟩
        rw [← hkd, ← f2, hx]
      · refine ⟨?_, sat_cl.2 ⟨p', h12⟩⟩
        rw [← hkd, List.getElem?_eq_none (by omega)]
  · refine ldX h9 46 (x := m.offset) ?_ (hx := hm.offset)
    refine ifB_beq (fun e => ?_) fun e => ?_
    · refine ldX h9 58 (x := m.high) ⟨?_, h8⟩ (hx := hm.high)
      rw [← hbm, e]; simp
    · refine ⟨?_, h8⟩
      rw [← hbm]; simp [e]
end
end Go.Proofs.Ytajhdjjmhfbhgaa
