/- Layer 12: Step. -/
import Derived.Test.YtfbffgcoopelfaaRfX
namespace Go.Proofs.Ytfbffgcoopelfaa
open Go Go.Pk
section
variable {W w : World} {l : List Res} {K : Value → World → Prop} {b : Nat} {r : Rs} {p : RsP}
def stepR (r : Rs) (m : Mg) : Rs := if m.term > r.hd.term then r.follow m.term (-1) else r
theorem step_ok {m : MgC} (h : Sat W w (RaR b r :: l)) (hs : Sane r) (hr : Roomy r) (hv : Voting r) (hx : NextOk r) (hm : 0 ≤ m.term → MgOk W l r m)
    (hK : ∀ w', Sat W w' (RaR b (r.step m.dat) :: l) → K (.tuple #[]) w') : CallP P F_raft_Raft_Step [.pointer (some ⟨b, 0, none⟩), .agg m.cells.toArray] w K := by
  apply c_raft_Raft_Step
  unfold S_raft_Raft_Step
  refine boxB h fun a0 w1 h1 => ?_
  have h1 : Sat W w1 (Blk a0 m.cells T_api_RMsg :: RaR b r :: l) := h1
  refine ⟨fun _ w' => ¬ (m.to ≠ r.id ∨ m.frm < 0 ∨ m.frm ≥ r.n ∨ m.frm = r.id ∨ m.term < 0) ∧ Sat W w' (RaR b r :: Blk a0 m.cells T_api_RMsg :: l), ?_, ?_⟩
  · rintro _ w2 ⟨hok, h2⟩
    have hf : 0 ≤ m.frm ∧ m.frm < r.n := by omega
    have hm := hm (by omega)
    have g2 : Sat W w2 (Blk a0 m.cells T_api_RMsg :: _) := h2.tail
    refine ldX g2 0 (x := m.kind) ?_
    refine ifB_beq (fun k1 => ?_) fun k1 => ?_
    · let y : Bool := decide (m.term > r.hd.term) && r.fresh m.dat && decide (r.role ≠ 3) && (decide (r.leader < 0) || decide (r.ticks ≥ 4))
      have e : r.step m.dat = r.send (mgNil 2 m.frm (if y = true then m.term else r.hd.term) 0 (!y)).dat := by
        unfold Rs.step
        rw [if_neg (by exact hok), if_pos (by exact k1)]
        rfl
      rw [e] at hK
      refine ⟨fun t w' => t = (y, ()) ∧ Sat W w' (RaR b r :: Blk a0 m.cells T_api_RMsg :: l), ?_, ?_⟩
      · rintro t w3 ⟨rfl, h3⟩
        have g3 : Sat W w3 (Blk a0 m.cells T_api_RMsg :: _) := h3.tail
        refine ldX g3 3 (x := m.term) ?_
        refine ⟨fun t w' => t = ((if y = true then m.term else r.hd.term), ()) ∧ Sat W w' (RaR b r :: Blk a0 m.cells T_api_RMsg :: l), ?_, ?_⟩
        · rintro t w4 ⟨rfl, h4⟩
          have g4 : Sat W w4 (Blk a0 m.cells T_api_RMsg :: _) := h4.tail
          refine ldX g4 1 (x := m.frm) ?_
          have h5 : Sat W w4 (RaR b r :: elM.own (mgNil 2 m.frm (if y = true then m.term else r.hd.term) 0 (!y)) :: Blk a0 m.cells T_api_RMsg :: l) := (own_mgNil h4).swap
          refine send_ok (m := mgNil 2 m.frm (if y = true then m.term else r.hd.term) 0 (!y)) h5 hs.msgs fun w5 h6 => tupU rfl (hK w5 (h6.cut 1))
        · refine ifB_intro (fun c => ?_) fun c => ?_
          · have c : y = false := by simpa using c
            obtain ⟨p, h4⟩ := sat_ra.1 h3
            refine ldX h4 2 (x := r.hd.term) ⟨?_, h3⟩
            rw [c]; rfl
          · have c : y = true := by simpa using c
            refine ⟨?_, h3⟩
            rw [c]; rfl
      · have h3 := h2.drew
        let S : World → Prop := fun w => (∃ p', ∃ L, Sat W w (Blk b (rcells r p') T_raft_Raft :: L)) ∧ ∃ L, Sat W w (Blk a0 m.cells T_api_RMsg :: L)
        have hS : ∀ {w : World}, Sat W w (RaR b r :: Blk a0 m.cells T_api_RMsg :: l) → S w := fun h => by
          obtain ⟨p, h'⟩ := sat_ra.1 h
          exact ⟨⟨p, _, h'⟩, _, h'.up 9⟩
        have ld : ∀ {k : Kd} {t : TypeId} {A : Addr} (i : Nat) {x : k.Ty} {K : k.Ty → Prop}, K x → (∀ p', (rcells r p')[i]? = some (k.v x)) → A = ⟨b, i, none⟩ → oneT P t = true → HRun S k P (Instr.loadAt t (.pointer (some A))) K := by
          intro k t A i x K hk hx hA ht
          subst hA
          refine ⟨x, fun w hw => ?_, hk⟩
          obtain ⟨⟨p', L, hp⟩, _⟩ := hw
          exact run_load1 ht (by rw [Sat.cell (cs := rcells r p') hp, hx p'])
        refine ⟨S, hS h3, ?_⟩
        refine hldX (fun w hw => hw.2) 3 (x := m.term) ?_
        refine ld 2 (x := r.hd.term) ?_ (fun _ => rfl) rfl (by kernel_rfl)
        refine ifB_dec (fun c1 => ?_) fun c1 => ?_
        · refine hldAggX 0 10 (fun w hw => hw.2) ?_ (by show 0 + 10 ≤ 10; decide)
          refine fresh_ok (m := m) h3 hs fun w4 h4 => tyI (k := .bool) ⟨hS h4, ?_⟩
          refine ifB_intro (fun c2 => ?_) fun c2 => ?_
          · have c2 : r.fresh m.dat = true := c2
            refine ld 8 (x := r.role) ?_ (fun _ => rfl) rfl (by kernel_rfl)
            refine ifB_bne (fun c3 => ?_) fun c3 => ?_
            · refine ld 9 (x := r.leader) ?_ (fun _ => rfl) rfl (by kernel_rfl)
              refine ifB_dec (fun c4 => ?_) fun c4 => ?_
              · refine ⟨?_, h4⟩
                show (true, ()) = (y, ())
                have : y = true := by
                  show (decide (m.term > r.hd.term) && r.fresh m.dat && decide (r.role ≠ 3) && (decide (r.leader < 0) || decide (r.ticks ≥ 4))) = true
                  rw [decide_eq_true c1, c2, decide_eq_true c3, decide_eq_true c4]; rfl
                rw [this]
              · refine ld 12 (x := r.ticks) ?_ (fun _ => rfl) rfl (by kernel_rfl)
                refine ⟨?_, h4⟩
                show (decide (r.ticks ≥ 4), ()) = (y, ())
                have : y = decide (r.ticks ≥ 4) := by
                  show (decide (m.term > r.hd.term) && r.fresh m.dat && decide (r.role ≠ 3) && (decide (r.leader < 0) || decide (r.ticks ≥ 4))) = _
                  rw [decide_eq_true c1, c2, decide_eq_true c3, decide_eq_false c4]; rfl
                rw [this]
            · refine ⟨?_, h4⟩
              show (false, ()) = (y, ())
              have : y = false := by
                show (decide (m.term > r.hd.term) && r.fresh m.dat && decide (r.role ≠ 3) && (decide (r.leader < 0) || decide (r.ticks ≥ 4))) = _
                rw [decide_eq_true c1, c2, decide_eq_false (fun h => h c3)]; rfl
              rw [this]
          · have c2 : r.fresh m.dat = false := c2
            refine ⟨?_, h4⟩
            show (false, ()) = (y, ())
            have : y = false := by
              show (decide (m.term > r.hd.term) && r.fresh m.dat && decide (r.role ≠ 3) && (decide (r.leader < 0) || decide (r.ticks ≥ 4))) = _
              rw [c2, Bool.and_false, Bool.false_and, Bool.false_and]
            rw [this]
        · refine ⟨?_, h3⟩
          show (false, ()) = (y, ())
          have : y = false := by
            show (decide (m.term > r.hd.term) && r.fresh m.dat && decide (r.role ≠ 3) && (decide (r.leader < 0) || decide (r.ticks ≥ 4))) = _
            rw [decide_eq_false c1, Bool.false_and, Bool.false_and, Bool.false_and]
          rw [this]
    have agg : ∀ {w3 : World} {X : Value → Prop} {L : List Res}, Sat W w3 (Blk a0 m.cells T_api_RMsg :: L) → X (.agg m.cells.toArray) → RunQ .val P (Instr.loadAt T_api_RMsg (.pointer (some ⟨a0, 0, none⟩))) w3 X := fun h hx =>
      ldAggX 0 10 h hx (by show 0 + 10 ≤ 10; decide)
    refine ifB_beq (fun k2 => ?_) fun k2 => ?_
    · have e : r.step m.dat = r.prevoted m.dat := by
        unfold Rs.step
        rw [if_neg (by exact hok), if_neg (by exact k1), if_pos (by exact k2)]
      rw [e] at hK
      refine agg g2 ?_
      exact prevoted_ok h2 hs hr hv fun w3 h3 => tupU rfl (hK w3 (h3.cut 1))
    have e : r.step m.dat = (if m.term < (stepR r m.dat).hd.term then (if m.kind = 5 ∨ m.kind = 7 then (stepR r m.dat).send (mgNil 6 m.frm (stepR r m.dat).hd.term (stepR r m.dat).last true).dat else stepR r m.dat) else (stepR r m.dat).now m.dat) := by
      unfold Rs.step
      rw [if_neg (by exact hok), if_neg (by exact k1), if_neg (by exact k2)]
      rfl
    rw [e] at hK
    have hmt := hm.term
    obtain ⟨f1, f2, f3, f4, f5, f6⟩ := follow_same r m.term (-1)
    have hs1 : Sane (stepR r m.dat) := by
      unfold stepR
      split
      · exact hs.follow (by show -9223372036854775808 ≤ m.term ∧ m.term < _; omega)
      · exact hs
    have hsame : (stepR r m.dat).hd.log = r.hd.log ∧ (stepR r m.dat).msgs = r.msgs ∧ (stepR r m.dat).next = r.next ∧ (stepR r m.dat).n = r.n := by
      unfold stepR
      split
      · exact ⟨f1, f2, f3, f4⟩
      · exact ⟨rfl, rfl, rfl, rfl⟩
    obtain ⟨q1, q2, q3, q4⟩ := hsame
    have hv1 : Voting (stepR r m.dat) := by
      unfold stepR
      split
      · intro h
        have f6 : (r.follow m.dat.term (-1)).role = 0 := f6
        rw [f6] at h; omega
      · exact hv
    have hterm : (stepR r m.dat).hd.term + 1 < 4611686018427387904 := by
      unfold stepR
      split
      · rename_i hgt
        unfold Rs.follow
        dsimp only
        rw [if_pos hgt]
        exact hmt.2
      · exact hr.term
    have hr1 : Roomy (stepR r m.dat) := ⟨hterm, by rw [q2]; exact hr.msgs, by rw [q1]; exact hr.log⟩
    have hx1 : NextOk (stepR r m.dat) := by unfold NextOk; rw [q3]; exact hx
    refine ⟨fun _ w' => Sat W w' (RaR b (stepR r m.dat) :: Blk a0 m.cells T_api_RMsg :: l), ?_, ?_⟩
    · intro _ w3 h3
      have h4 := h3.drew
      have g4 : Sat W w3.drew (Blk a0 m.cells T_api_RMsg :: _) := h4.tail
      obtain ⟨p, h5⟩ := sat_ra.1 h4
      refine ldX g4 3 (x := m.term) ?_
      refine ldX h5 2 (x := (stepR r m.dat).hd.term) ?_
      refine ifB_dec (fun c => ?_) fun c => ?_
      · rw [if_pos c] at hK
        have tell : (m.kind = 5 ∨ m.kind = 7) → ∃ S62 : World → Prop, (S62 w3.drew.drew) ∧
              HRun S62 (.int .i64) P (Instr.loadAt T_int (.pointer (some (Go.Addr.add ⟨a0, 0, none⟩ 1)))) fun (n63 : Int) =>
               nilCk (some ⟨b, 0, none⟩) fun (a64 : Addr) =>
                HRun S62 (.int .i64) P (Instr.loadAt T_int (.pointer (some ((a64.add 2).add 0)))) fun (n65 : Int) =>
                CallP P F_raft_Raft_last [(.pointer (some ⟨b, 0, none⟩))] w3.drew.drew fun (v66 : Value) w67 =>
                TyP (.int .i64) v66 fun (n68 : Int) =>
                (S62 w67) ∧
                CallP P F_raft_Raft_send [(.pointer (some ⟨b, 0, none⟩)), (.agg #[(.int .i64 6), (.int .i64 0), (.int .i64 n63), (.int .i64 n65), (.int .i64 n68), (.int .i64 0), (.int .i64 0), (.bool true), (.slice none 0 0), (.slice none 0 0)])] w67 fun (v69 : Value) w70 =>
                TupP [] v69 fun (t71 : Unit) =>
                (S62 w70) ∧
                K (.tuple #[]) w70 := by
          intro hk
          rw [if_pos hk] at hK
          have h6 := h5.drew
          refine ⟨SMg W b a0 m (stepR r m.dat).hd (stepR r m.dat).commit, ⟨_, p, ⟨_, h6⟩, rfl, rfl, _, h6.up 9⟩, ?_⟩
          refine ldM 1 (x := m.frm) ?_
          refine ldR 2 (x := (stepR r m.dat).hd.term) ?_ (fun r' p' e1 _ => by rw [← e1]; rfl)
          refine lastL_ok h6 hs1 fun w4 h7 => tyI ⟨⟨_, p, ⟨_, h7⟩, rfl, rfl, _, h7.up 9⟩, ?_⟩
          have h8 : Sat W w4 (RaL b (stepR r m.dat) p (elM.own (mgNil 6 m.frm (stepR r m.dat).hd.term (stepR r m.dat).last true) :: Blk a0 m.cells T_api_RMsg :: l)) := (own_mgNil h7).sel 10 [1, 2, 3, 4, 5, 6, 7, 8, 9, 0]
          refine sendL_ok (m := mgNil 6 m.frm (stepR r m.dat).hd.term (stepR r m.dat).last true) h8 hs1.msgs fun s' w5 h9 => tupU rfl ⟨⟨(stepR r m.dat).send (mgNil 6 m.frm (stepR r m.dat).hd.term (stepR r m.dat).last true).dat, _, ⟨_, h9⟩, rfl, rfl, _, h9.up 9⟩, ?_⟩
          exact hK w5 (sat_ra.2 ⟨_, h9.cut 9⟩)
        refine ldX g4 0 (x := m.kind) ?_
        refine ifB_beq (fun k5 => tell (.inl k5)) fun k5 => ?_
        refine ldX g4 0 (x := m.kind) ?_
        refine ifB_beq (fun k7 => tell (.inr k7)) fun k7 => ?_
        rw [if_neg (by rintro (h | h); exact k5 h; exact k7 h)] at hK
        exact hK _ (h4.cut 1)
      · rw [if_neg c] at hK
        refine agg g4 ?_
        refine now_ok h4 hs1 hr1 hv1 hx1 ⟨hm.rd.cons, hm.index, hm.term, hm.sm, by rw [q1]; exact hm.room, hm.snap⟩ (by rw [q4]; exact hf) fun w4 h6 => tupU rfl (hK w4 (h6.cut 1))
    · have h3 := h2.drew
      have g3 : Sat W w2.drew (Blk a0 m.cells T_api_RMsg :: _) := h3.tail
      obtain ⟨p, h4⟩ := sat_ra.1 h3
      refine ldX g3 3 (x := m.term) ?_
      refine ldX h4 2 (x := r.hd.term) ?_
      refine ifB_dec (fun c => ?_) fun c => ?_
      · refine ldX g3 3 (x := m.term) ?_
        have e1 : stepR r m.dat = r.follow m.term (-1) := if_pos c
        refine follow_ok h3 fun w4 h5 => tupU rfl ?_
        show Sat W w4 (RaR b (stepR r m.dat) :: Blk a0 m.cells T_api_RMsg :: l)
        rw [e1]; exact h5
      · have e1 : stepR r m.dat = r := if_neg c
        show Sat W _ (RaR b (stepR r m.dat) :: Blk a0 m.cells T_api_RMsg :: l)
        rw [e1]; exact h3
  · have keep : (m.to ≠ r.id ∨ m.frm < 0 ∨ m.frm ≥ r.n ∨ m.frm = r.id ∨ m.term < 0) → K (.tuple #[]) w1.drew := fun hbad => by
      have e : r.step m.dat = r := by
        unfold Rs.step
        rw [if_pos (by exact hbad)]
      rw [e] at hK
      exact hK _ h1.drew.tail
    have g1 := h1.drew
    obtain ⟨p, h2⟩ := sat_ra.1 g1.swap
    rw [show Option.isNone (some (⟨b, 0, none⟩ : Addr)) = false from rfl]
    refine ldX g1 2 (x := m.to) ?_
    refine ldX h2 0 (x := r.id) ?_
    refine ifB_bne (fun c => keep (.inl c)) fun c1 => ?_
    refine ldX g1 1 (x := m.frm) ?_
    refine ifB_dec (fun c => keep (.inr (.inl c))) fun c2 => ?_
    refine ldX g1 1 (x := m.frm) ?_
    refine ldX h2 1 (x := r.n) ?_
    refine ifB_dec (fun c => keep (.inr (.inr (.inl c)))) fun c3 => ?_
    refine ldX g1 1 (x := m.frm) ?_
    refine ldX h2 0 (x := r.id) ?_
    refine ifB_beq (fun c => keep (.inr (.inr (.inr (.inl c))))) fun c4 => ?_
    refine ldX g1 3 (x := m.term) ?_
    refine ifB_dec (fun c => keep (.inr (.inr (.inr (.inr c))))) fun c5 => ⟨by omega, g1.swap⟩
end
end Go.Proofs.Ytfbffgcoopelfaa
