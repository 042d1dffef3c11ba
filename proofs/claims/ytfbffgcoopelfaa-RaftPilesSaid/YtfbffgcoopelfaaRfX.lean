/- Layer 12: a message of the term comes. -/
import Derived.Test.YtfbffgcoopelfaaRfW
namespace Go.Proofs.Ytfbffgcoopelfaa
open Go Go.Pk
theorem bneI (a c : Int) : (a != c) = decide (a ≠ c) := by by_cases h : a = c <;> simp [h]
theorem Sane.follow {r : Rs} (hs : Sane r) {t ld : Int} (ht : -9223372036854775808 ≤ t ∧ t < 4611686018427387904) : Sane (r.follow t ld) := by
  unfold Rs.follow
  have h : Sane (if t > r.hd.term then { r with hd := { r.hd with term := t, vote := -1 }, save := true } else r) := by
    split
    · exact { base := hs.base, len := hs.len, id := hs.id, n := hs.n, commit := hs.commit, told := hs.told, ticks := hs.ticks, limit := hs.limit, term := ht, next := hs.next, mtch := hs.mtch, small := hs.small, msgs := hs.msgs, commits := hs.commits }
    · exact hs
  exact h.of
theorem follow_same (r : Rs) (t ld : Int) : (r.follow t ld).hd.log = r.hd.log ∧ (r.follow t ld).msgs = r.msgs ∧ (r.follow t ld).next = r.next ∧ (r.follow t ld).n = r.n ∧ (r.follow t ld).id = r.id ∧ (r.follow t ld).role = 0 := by
  unfold Rs.follow
  dsimp only
  split <;> exact ⟨rfl, rfl, rfl, rfl, rfl, rfl⟩
/-- what may come -/
structure MgOk (W : World) (l : List Res) (r : Rs) (m : MgC) : Prop where
  rd : MgRd W l m
  index : -9223372036854775808 ≤ m.index ∧ m.index < 9223372036854775808
  term : 0 ≤ m.term ∧ m.term + 1 < 4611686018427387904
  sm : EnSm m.ents
  room : r.hd.log.length + m.ents.length < 2 ^ 40
  snap : m.snap.length ≤ 140737488355328
section
variable {W w : World} {l : List Res} {K : Value → World → Prop} {b : Nat} {r : Rs} {p : RsP}
theorem now_ok {m : MgC} (h : Sat W w (RaR b r :: l)) (hs : Sane r) (hr : Roomy r) (hv : Voting r) (hx : NextOk r) (hm : MgOk W l r m) (hf : 0 ≤ m.frm ∧ m.frm < r.n)
    (hK : ∀ w', Sat W w' (RaR b (r.now m.dat) :: l) → K (.tuple #[]) w') : CallP P F_raft_Raft_now [.pointer (some ⟨b, 0, none⟩), .agg m.cells.toArray] w K := by
  apply c_raft_Raft_now
  unfold S_raft_Raft_now
  refine boxB h fun a0 w1 h1 => ?_
  have h1 : Sat W w1 (Blk a0 m.cells T_api_RMsg :: RaR b r :: l) := h1
  have hrm := hr.msgs
  refine ldX h1 0 (x := m.kind) ?_
  refine ifB_beq (fun k3 => ?_) fun k3 => ?_
  · let y : Bool := (decide (r.hd.vote < 0) || decide (r.hd.vote = m.frm)) && r.fresh m.dat
    have hnow : r.now m.dat = (if y = true then { r with save := (r.save || decide (r.hd.vote ≠ m.frm)), hd := { r.hd with vote := m.frm }, ticks := 0 } else r).send { Rs.mg0 with kind := 4, to := m.frm, term := (if y = true then { r with save := (r.save || decide (r.hd.vote ≠ m.frm)), hd := { r.hd with vote := m.frm }, ticks := 0 } else r).hd.term, rej := !y } := by
      unfold Rs.now
      rw [if_pos (by exact k3)]
      rfl
    refine ⟨fun t w' => t = (y, ()) ∧ Sat W w' (RaR b r :: Blk a0 m.cells T_api_RMsg :: l), ?_, ?_⟩
    · rintro t w2 ⟨rfl, h2⟩
      let rV : Rs := if y = true then { r with save := (r.save || decide (r.hd.vote ≠ m.frm)), hd := { r.hd with vote := m.frm }, ticks := 0 } else r
      refine ⟨fun _ w' => Sat W w' (RaR b rV :: Blk a0 m.cells T_api_RMsg :: l), ?_, ?_⟩
      · intro _ w3 h3
        obtain ⟨p, h4⟩ := sat_ra.1 h3.drew
        refine ⟨SMg W b a0 m rV.hd rV.commit, ⟨_, p, ⟨_, h4⟩, rfl, rfl, _, h4.up 9⟩, ?_⟩
        refine ldM 1 (x := m.frm) ?_
        refine ldR 2 (x := rV.hd.term) ?_ (fun r' p' e1 _ => by rw [← e1]; rfl)
        have h5 : Sat W w3.drew (RaL b rV p (elM.own (mgNil 4 m.frm rV.hd.term 0 (!y)) :: Blk a0 m.cells T_api_RMsg :: l)) := (own_mgNil h4).sel 10 [1, 2, 3, 4, 5, 6, 7, 8, 9, 0]
        have hvm : rV.msgs = r.msgs := by show (if y = true then _ else _ : Rs).msgs = _; split <;> rfl
        refine sendL_ok (m := mgNil 4 m.frm rV.hd.term 0 (!y)) h5 (by rw [hvm]; exact hs.msgs) fun s' w5 h7 => tupU rfl ⟨⟨rV.send (mgNil 4 m.frm rV.hd.term 0 (!y)).dat, _, ⟨_, h7⟩, rfl, rfl, _, h7.up 9⟩, ?_⟩
        rw [hnow] at hK
        exact hK w5 (sat_ra.2 ⟨_, h7.cut 9⟩)
      · refine ifB_intro (fun hy => ?_) fun hy => ?_
        · have hy : y = true := hy
          have eV : rV = { r with save := (r.save || decide (r.hd.vote ≠ m.frm)), hd := { r.hd with vote := m.frm }, ticks := 0 } := if_pos hy
          let rS : Rs := { r with save := (r.save || decide (r.hd.vote ≠ m.frm)) }
          refine ⟨fun _ w' => Sat W w' (RaR b rS :: Blk a0 m.cells T_api_RMsg :: l), ?_, ?_⟩
          · intro _ w3 h3
            obtain ⟨p, h4⟩ := sat_ra.1 h3
            have g4 : Sat W w3 (Blk a0 m.cells T_api_RMsg :: _) := h4.up 9
            refine ldX g4 1 (x := m.frm) ?_
            refine stX h4 3 (hi := (by show 3 < 28; decide)) fun w4 h5 => ?_
            refine stX h5 12 (hi := (by show 12 < 28; decide)) fun w5 h6 => ?_
            show Sat W w5 (RaR b rV :: Blk a0 m.cells T_api_RMsg :: l)
            rw [eV]
            exact sat_ra.2 ⟨p, h6⟩
          · obtain ⟨p, h4⟩ := sat_ra.1 h2.drew
            refine ⟨SMg W b a0 m r.hd r.commit, ⟨_, p, ⟨_, h4⟩, rfl, rfl, _, h4.up 9⟩, ?_⟩
            refine ldX h4 17 (x := r.save) ⟨⟨_, p, ⟨_, h4⟩, rfl, rfl, _, h4.up 9⟩, ?_⟩
            refine ifB_intro (fun c => ?_) fun c => ?_
            · have c : r.save = true := c
              refine stX h4 17 (hi := (by show 17 < 28; decide)) fun w4 h5 => ?_
              have h5 : Sat W w4 (RaL b { r with save := true } p (Blk a0 m.cells T_api_RMsg :: l)) := h5
              have e : rS = { r with save := true } := by show ({ r with save := _ } : Rs) = _; rw [c, Bool.true_or]
              refine ⟨⟨_, p, ⟨_, h5⟩, rfl, rfl, _, h5.up 9⟩, ?_⟩
              show Sat W w4 (RaR b rS :: Blk a0 m.cells T_api_RMsg :: l)
              rw [e]
              exact sat_ra.2 ⟨p, h5⟩
            · have c : r.save = false := c
              refine ldR 3 (x := r.hd.vote) ?_ (fun r' p' e1 _ => by rw [← e1]; rfl)
              refine ldM 1 (x := m.frm) ?_
              rw [bneI]
              refine stX h4 17 (hi := (by show 17 < 28; decide)) fun w4 h5 => ?_
              have h5 : Sat W w4 (RaL b { r with save := decide (r.hd.vote ≠ m.frm) } p (Blk a0 m.cells T_api_RMsg :: l)) := h5
              have e : rS = { r with save := decide (r.hd.vote ≠ m.frm) } := by show ({ r with save := _ } : Rs) = _; rw [c, Bool.false_or]
              refine ⟨⟨_, p, ⟨_, h5⟩, rfl, rfl, _, h5.up 9⟩, ?_⟩
              show Sat W w4 (RaR b rS :: Blk a0 m.cells T_api_RMsg :: l)
              rw [e]
              exact sat_ra.2 ⟨p, h5⟩
        · have hy : y = false := hy
          have eV : rV = r := if_neg (by rw [hy]; decide)
          show Sat W w2 (RaR b rV :: Blk a0 m.cells T_api_RMsg :: l)
          rw [eV]
          exact h2
    · have h2 := h1.drew.swap
      obtain ⟨p, h3⟩ := sat_ra.1 h2
      refine ⟨SMg W b a0 m r.hd r.commit, ⟨_, p, ⟨_, h3⟩, rfl, rfl, _, h3.up 9⟩, ?_⟩
      have ask : ∀ {X : Bool → World → Prop}, (∀ w', Sat W w' (RaR b r :: Blk a0 m.cells T_api_RMsg :: l) → X (r.fresh m.dat) w') →
          HRun (SMg W b a0 m r.hd r.commit) .val P (Instr.loadAt T_api_RMsg (.pointer (some ⟨a0, 0, none⟩))) fun (v9 : Value) =>
          CallP P F_raft_Raft_fresh [(.pointer (some ⟨b, 0, none⟩)), v9] w1.drew fun (v10 : Value) w11 =>
           TyP .bool v10 fun (b12 : Bool) =>
            (SMg W b a0 m r.hd r.commit w11) ∧ X b12 w11 := by
        intro X hX
        refine hldAggX 0 10 (fun w hw => by obtain ⟨_, _, _, _, _, hq⟩ := hw; exact hq) ?_ (by show 0 + 10 ≤ 10; decide)
        refine fresh_ok (m := m) h2 hs fun w2 h4 => tyI (k := .bool) ⟨?_, hX w2 h4⟩
        obtain ⟨p, h5⟩ := sat_ra.1 h4
        exact ⟨_, p, ⟨_, h5⟩, rfl, rfl, _, h5.up 9⟩
      refine ldR 3 (x := r.hd.vote) ?_ (fun r' p' e1 _ => by rw [← e1]; rfl)
      refine ifB_dec (fun c => ?_) fun c => ?_
      · refine ask fun w2 h4 => ⟨?_, h4⟩
        show (r.fresh m.dat, ()) = (y, ())
        have : y = r.fresh m.dat := by show ((decide (r.hd.vote < 0) || _) && _) = _; rw [decide_eq_true c, Bool.true_or, Bool.true_and]
        rw [this]
      · refine ldR 3 (x := r.hd.vote) ?_ (fun r' p' e1 _ => by rw [← e1]; rfl)
        refine ldM 1 (x := m.frm) ?_
        refine ifB_beq (fun c2 => ?_) fun c2 => ?_
        · refine ask fun w2 h4 => ⟨?_, h4⟩
          show (r.fresh m.dat, ()) = (y, ())
          have : y = r.fresh m.dat := by show ((decide (r.hd.vote < 0) || decide (r.hd.vote = m.frm)) && _) = _; rw [decide_eq_true c2, Bool.or_true, Bool.true_and]
          rw [this]
        · refine ⟨?_, h2⟩
          show (false, ()) = (y, ())
          have : y = false := by show ((decide (r.hd.vote < 0) || decide (r.hd.vote = m.frm)) && _) = _; rw [decide_eq_false c, decide_eq_false c2, Bool.or_self, Bool.false_and]
          rw [this]
  refine ifB_beq (fun k4 => ?_) fun k4 => ?_
  · have keep : ¬ (r.role = 2 ∧ m.rej = false) → K (.tuple #[]) w1 := fun hno => by
      have e : r.now m.dat = r := by
        unfold Rs.now
        rw [if_neg (by exact k3), if_pos (by exact k4), if_neg (by exact hno)]
      rw [e] at hK
      exact hK _ h1.tail
    obtain ⟨p, h2⟩ := sat_ra.1 h1.swap
    refine ldX h2 8 (x := r.role) ?_
    refine ifB_beq (fun c1 => ?_) fun c1 => keep fun h => c1 h.1
    refine ldX h1 7 (x := m.rej) ?_
    refine ifB_intro (fun c2 => ?_) fun c2 => keep fun h => by rw [h.2] at c2; cases c2
    have c2' : m.rej = false := by simpa using c2
    obtain ⟨v, hv1, hv2⟩ := hv (.inr c1)
    have h5 := h2.drew
    obtain ⟨mp, hmp, hup⟩ := vote_upd (a := m.frm) hv1 h5
    let S : World → Prop := fun w => ∃ r' L, Sat W w (Blk b (rcells r' p) T_raft_Raft :: L) ∧ ∃ L', Sat W w (Blk a0 m.cells T_api_RMsg :: L')
    refine ⟨S, ⟨r, _, h5, _, h1.drew⟩, ?_⟩
    refine ⟨some mp, fun w hw => ?_, ?_⟩
    · obtain ⟨r', L, hp, _⟩ := hw
      have hc : w.cell? ⟨b, 14, none⟩ = some (Value.map (some mp)) := by
        rw [Sat.cell (cs := rcells r' p) hp 14, ← hmp]
        rfl
      exact run_load1 (t := T_map_int_bool) (a := ⟨b, 14, none⟩) (by kernel_rfl) hc
    refine hldX (fun w hw => by obtain ⟨r', L, _, hq⟩ := hw; exact hq) 1 (x := m.frm) ?_
    refine hup fun w3 h6 => ⟨⟨r.vote m.frm, _, h6, _, h6.up 9⟩, ?_⟩
    have hv3 : (r.vote m.frm).votes = some (Rs.vput v m.frm) := by simp [Rs.vote, hv1]
    have hv4 := vput_len v m.frm
    have e : r.now m.dat = (r.vote m.frm).count := by
      unfold Rs.now
      rw [if_neg (by exact k3), if_pos (by exact k4), if_pos (by exact ⟨c1, c2'⟩)]
      rfl
    rw [e] at hK
    have h7 : Sat W w3 (RaR b (r.vote m.frm) :: Blk a0 m.cells T_api_RMsg :: l) := sat_ra.2 ⟨p, h6⟩
    exact count_ok h7 (hs.vote _) hv3 (by omega) hr.term (by show r.msgs.length + 200 < _; omega) hr.log fun w4 h8 => tupU rfl (hK w4 (h8.cut 1))
  -- entries, a snapshot
  have stay : (m.kind = 5 ∨ m.kind = 7) → r.role = 3 → r.now m.dat = r := fun hk h3 => by
    unfold Rs.now
    rw [if_neg (by exact k3), if_neg (by exact k4), if_pos (by exact hk), if_pos h3]
  have go : (m.kind = 5 ∨ m.kind = 7) → r.role ≠ 3 → r.now m.dat = (if m.kind = 5 then Rs.take { r.follow m.term m.frm with ticks := 0 } m.dat else Rs.install { r.follow m.term m.frm with ticks := 0 } m.dat) := fun hk h3 => by
    unfold Rs.now
    rw [if_neg (by exact k3), if_neg (by exact k4), if_pos (by exact hk), if_neg h3]
    rfl
  obtain ⟨f1, f2, f3, f4, f5, f6⟩ := follow_same r m.term m.frm
  have hsf : Sane { r.follow m.term m.frm with ticks := 0 } := { hs.follow (ld := m.frm) (t := m.term) (by have := hm.term; omega) with ticks := (by show (0 : Int) ≤ 0 ∧ (0 : Int) < 1000; decide) }
  have take : ∀ {w3 : World}, m.kind = 5 → r.role ≠ 3 → Sat W w3 (RaR b { r.follow m.term m.frm with ticks := 0 } :: Blk a0 m.cells T_api_RMsg :: l) → CallP P F_raft_Raft_take [.pointer (some ⟨b, 0, none⟩), .agg m.cells.toArray] w3 fun v w => TupP [] v fun _ => K (.tuple #[]) w := by
    intro w3 hk h3 h4
    have e := go (.inl hk) h3
    rw [if_pos hk] at e
    rw [e] at hK
    refine take2_ok h4 hsf hm.rd.cons hm.index hm.sm ?_ fun w4 h5 => tupU rfl (hK w4 (h5.cut 1))
    show (r.follow m.term m.frm).hd.log.length + _ < _
    rw [f1]; exact hm.room
  have inst : ∀ {w3 : World}, m.kind = 7 → r.role ≠ 3 → Sat W w3 (RaR b { r.follow m.term m.frm with ticks := 0 } :: Blk a0 m.cells T_api_RMsg :: l) → CallP P F_raft_Raft_install [.pointer (some ⟨b, 0, none⟩), .agg m.cells.toArray] w3 fun v w => TupP [] v fun _ => K (.tuple #[]) w := by
    intro w3 hk h3 h4
    have e := go (.inr hk) h3
    rw [if_neg (by omega)] at e
    rw [e] at hK
    exact install_ok h4 hsf hm.rd.cons hm.index hm.snap fun w4 h5 => tupU rfl (hK w4 (h5.cut 1))
  have two : ∀ {X Y : World → Prop}, (m.kind = 5 ∨ m.kind = 7) → r.role ≠ 3 → (m.kind = 5 → ∀ w', Sat W w' (RaR b { r.follow m.term m.frm with ticks := 0 } :: Blk a0 m.cells T_api_RMsg :: l) → X w') → (m.kind = 7 → ∀ w', Sat W w' (RaR b { r.follow m.term m.frm with ticks := 0 } :: Blk a0 m.cells T_api_RMsg :: l) → Y w') →
      RunQ (.int .i64) P (Instr.loadAt T_int (.pointer (some (Go.Addr.add ⟨a0, 0, none⟩ 3)))) w1 fun (n61 : Int) =>
         RunQ (.int .i64) P (Instr.loadAt T_int (.pointer (some (Go.Addr.add ⟨a0, 0, none⟩ 1)))) w1 fun (n62 : Int) =>
          CallP P F_raft_Raft_follow [(.pointer (some ⟨b, 0, none⟩)), (.int .i64 n61), (.int .i64 n62)] w1 fun (v63 : Value) w64 =>
           TupP [] v63 fun (t65 : Unit) =>
            nilCk (some ⟨b, 0, none⟩) fun (a66 : Addr) =>
             StoreP P T_int (.pointer (some (a66.add 12))) (.int .i64 0) w64 fun w67 =>
              RunQ (.int .i64) P (Instr.loadAt T_int (.pointer (some (Go.Addr.add ⟨a0, 0, none⟩ 0)))) w67 fun (n68 : Int) =>
               ifB (n68 == 5) (X w67) (Y w67) := by
    intro X Y hk h3 hX hY
    refine ldX h1 3 (x := m.term) ?_
    refine ldX h1 1 (x := m.frm) ?_
    refine follow_ok h1.swap fun w2 h4 => tupU rfl ?_
    obtain ⟨p, h5⟩ := sat_ra.1 h4
    refine stX h5 12 (hi := (by show 12 < 28; decide)) fun w3 h6 => ?_
    have h7 : Sat W w3 (RaR b { r.follow m.term m.frm with ticks := 0 } :: Blk a0 m.cells T_api_RMsg :: l) := sat_ra.2 ⟨p, h6⟩
    have g7 : Sat W w3 (Blk a0 m.cells T_api_RMsg :: _) := h7.tail
    refine ldX g7 0 (x := m.kind) ?_
    exact ifB_beq (fun c => hX c w3 h7) fun c => hY (hk.resolve_left c) w3 h7
  obtain ⟨p, h2⟩ := sat_ra.1 h1.swap
  have agg : ∀ {w3 : World} {X : Value → Prop} {L : List Res}, Sat W w3 (Blk a0 m.cells T_api_RMsg :: L) → X (.agg m.cells.toArray) → RunQ .val P (Instr.loadAt T_api_RMsg (.pointer (some ⟨a0, 0, none⟩))) w3 X := fun h hx =>
    ldAggX 0 10 h hx (by show 0 + 10 ≤ 10; decide)
  refine ifB_beq (fun k5 => ?_) fun k5 => ?_
  · refine ldX h2 8 (x := r.role) ?_
    refine ifB_beq (fun c => ?_) fun c => ?_
    · have e := stay (.inl k5) c
      rw [e] at hK
      exact hK _ h1.tail
    · refine two (.inl k5) c (fun _ w3 h3 => agg h3.tail (take k5 c h3)) fun k7 w3 h3 => agg h3.tail (inst k7 c h3)
  refine ifB_beq (fun k7 => ?_) fun k7 => ?_
  · refine ldX h2 8 (x := r.role) ?_
    refine ifB_beq (fun c => ?_) fun c => ?_
    · have e := stay (.inr k7) c
      rw [e] at hK
      exact hK _ h1.tail
    · refine two (.inr k7) c (fun k5' w3 h3 => agg h3.tail (take k5' c h3)) fun k7 w3 h3 => agg h3.tail (inst k7 c h3)
  refine ifB_beq (fun k6 => ?_) fun k6 => ?_
  · have e : r.now m.dat = r.appended m.dat := by
      unfold Rs.now
      rw [if_neg (by exact k3), if_neg (by exact k4), if_neg (by rintro (h | h); exact k5 h; exact k7 h), if_pos (by exact k6)]
    rw [e] at hK
    refine agg h1 ?_
    exact appended_ok h1.swap hs hx hf (by omega) fun w2 h3 => tupU rfl (hK w2 (h3.cut 1))
  · have e : r.now m.dat = r := by
      unfold Rs.now
      rw [if_neg (by exact k3), if_neg (by exact k4), if_neg (by rintro (h | h); exact k5 h; exact k7 h), if_neg (by exact k6)]
    rw [e] at hK
    exact hK _ h1.tail
end
end Go.Proofs.Ytfbffgcoopelfaa
