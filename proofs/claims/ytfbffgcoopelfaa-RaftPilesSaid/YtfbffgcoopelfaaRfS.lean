/- Layer 12: messages that come: how fresh a log is; votes. -/
import Derived.Test.YtfbffgcoopelfaaRfN
namespace Go.Proofs.Ytfbffgcoopelfaa
open Go Go.Pk
def MgRd (W : World) (l : List Res) (m : MgC) : Prop := EnRd W l m.es m.ents ∧ Rd W l m.ss 1 (m.snap.map vB)
theorem MgRd.cons {R : Res} {l : List Res} {W : World} {m : MgC} (h : MgRd W l m) : MgRd W (R :: l) m := ⟨h.1.cons, h.2.cons⟩
theorem kv_put : ∀ (v : List (Int × Bool)) (a : Int), mput (kv v) a (.bool true) = kv (Rs.vput v a)
  | [], a => rfl
  | p :: v, a => by
    simp only [kv, List.map_cons, mput, Rs.vput]
    split
    · rfl
    · rw [List.map_cons]; exact congrArg _ (kv_put v a)
theorem vput_len : ∀ (v : List (Int × Bool)) (a : Int), (Rs.vput v a).length ≤ v.length + 1
  | [], a => Nat.le_refl _
  | p :: v, a => by
    simp only [Rs.vput]
    split
    · simp
    · have := vput_len v a
      simp only [List.length_cons]; omega
/-- who counts votes has a list of them -/
def Voting (r : Rs) : Prop := r.role = 1 ∨ r.role = 2 → ∃ v, r.votes = some v ∧ v.length ≤ 900
section
variable {W w : World} {l : List Res} {K : Value → World → Prop} {b : Nat} {r : Rs} {p : RsP}
theorem fresh_ok {m : MgC} (h : Sat W w (RaR b r :: l)) (hs : Sane r) (hK : ∀ w', Sat W w' (RaR b r :: l) → K (.bool (r.fresh m.dat)) w') :
    CallP P F_raft_Raft_fresh [.pointer (some ⟨b, 0, none⟩), .agg m.cells.toArray] w K := by
  apply c_raft_Raft_fresh
  unfold S_raft_Raft_fresh
  refine boxB h fun a0 w1 h1 => ?_
  have h1 : Sat W w1 (Blk a0 m.cells T_api_RMsg :: RaR b r :: l) := h1
  have hl := last_in hs
  refine lastS_ok h1.swap hs fun w2 h2 => tyI ?_
  refine term_ok h2 hs (by omega) fun w3 h3 => ⟨(_, _, ()), rfl, ?_⟩
  have h4 := h3.swap
  refine ldX h4 5 (x := m.lterm) ?_
  refine ifB_dec (fun c => ?_) fun c => ?_
  · have := hK w3 h4.tail
    have c : m.lterm > (r.termAt r.last).1 := c
    have e : r.fresh m.dat = true := by
      show (decide (m.lterm > (r.termAt r.last).1) || (decide (m.lterm = (r.termAt r.last).1) && decide (m.index ≥ r.last))) = true
      rw [decide_eq_true c, Bool.true_or]
    rw [e] at this; exact this
  · have c : ¬ m.lterm > (r.termAt r.last).1 := c
    refine ldX h4 5 (x := m.lterm) ?_
    refine ifB_beq (fun c2 => ?_) fun c2 => ?_
    · have c2 : m.lterm = (r.termAt r.last).1 := c2
      refine ldX h4 4 (x := m.index) ?_
      have := hK w3 h4.tail
      have e : r.fresh m.dat = decide (m.index ≥ r.last) := by
        show (decide (m.lterm > (r.termAt r.last).1) || (decide (m.lterm = (r.termAt r.last).1) && decide (m.index ≥ r.last))) = _
        rw [decide_eq_false c, decide_eq_true c2, Bool.false_or, Bool.true_and]
      rw [e] at this; exact this
    · have c2 : ¬ m.lterm = (r.termAt r.last).1 := c2
      have := hK w3 h4.tail
      have e : r.fresh m.dat = false := by
        show (decide (m.lterm > (r.termAt r.last).1) || (decide (m.lterm = (r.termAt r.last).1) && decide (m.index ≥ r.last))) = _
        rw [decide_eq_false c, decide_eq_false c2, Bool.false_or, Bool.false_and]
      rw [e] at this; exact this
/-- a vote is written down -/
theorem vote_upd {v : List (Int × Bool)} {a : Int} (hv : r.votes = some v) (h : Sat W w (RaL b r p l)) : ∃ m, p.votes = some m ∧ ∀ {K : World → Prop}, (∀ w', Sat W w' (RaL b (r.vote a) p l) → K w') → RunU P (Instr.mapUpdate T_map_int_bool (.map (some m)) (.int .i64 a) (.bool true)) w K := by
  obtain ⟨m, hm, g⟩ := vt_some hv h
  refine ⟨m, hm, fun {K} hK => ?_⟩
  refine mapUpd (k := T_int) (e := T_bool) (by kernel_rfl) (by kernel_rfl) g fun w2 h2 => hK w2 ?_
  rw [kv_put] at h2
  have e : (r.vote a).votes = some (Rs.vput v a) := by simp [Rs.vote, hv]
  have h3 : Sat W w2 (VtR p.votes (r.vote a).votes :: Blk b (rcells (r.vote a) p) T_raft_Raft :: BsR p.snap r.hd.snap :: PrR T_api_Entry p.log r.hd.log :: IsR p.next r.next :: IsR p.mtch r.mtch :: MsR p.msgs r.msgs :: BsR p.rsnap r.rsnap :: PrR T_api_Commit p.commits r.commits :: l) := by
    rw [hm, e]; exact h2
  exact h3.sel 4 [1, 2, 3, 0]
theorem Sane.vote (hs : Sane r) (a : Int) : Sane (r.vote a) := hs.of
theorem prevoted_ok {m : MgC} (h : Sat W w (RaR b r :: l)) (hs : Sane r) (hr : Roomy r) (hv : Voting r) (hK : ∀ w', Sat W w' (RaR b (r.prevoted m.dat) :: l) → K (.tuple #[]) w') :
    CallP P F_raft_Raft_prevoted [.pointer (some ⟨b, 0, none⟩), .agg m.cells.toArray] w K := by
  apply c_raft_Raft_prevoted
  unfold S_raft_Raft_prevoted
  refine boxB h fun a0 w1 h1 => ?_
  have h1 : Sat W w1 (Blk a0 m.cells T_api_RMsg :: RaR b r :: l) := h1
  have ht := hs.term
  have hrt := hr.term
  have hrm := hr.msgs
  have hrl := hr.log
  obtain ⟨p, h2⟩ := sat_ra.1 h1.drew.swap
  have g1 : Sat W w1.drew (Blk a0 m.cells T_api_RMsg :: _) := h1.drew
  refine ldX g1 7 (x := m.rej) ?_
  -- the second test
  have second : ∀ (hno : ¬ (m.rej = true ∧ m.term > r.hd.term)) (w2 : World), Sat W w2 (Blk a0 m.cells T_api_RMsg :: RaR b r :: l) →
      RunQ .bool P (Instr.loadAt T_bool (.pointer (some (Go.Addr.add ⟨a0, 0, none⟩ 7)))) w2 fun (b10 : Bool) =>
        ifB (!b10)
         (nilCk (some ⟨b, 0, none⟩) fun (a11 : Addr) =>
          RunQ (.int .i64) P (Instr.loadAt T_int (.pointer (some (a11.add 8)))) w2 fun (n12 : Int) =>
           ifB (n12 == 1)
            (RunQ (.int .i64) P (Instr.loadAt T_int (.pointer (some (Go.Addr.add ⟨a0, 0, none⟩ 3)))) w2 fun (n13 : Int) =>
             nilCk (some ⟨b, 0, none⟩) fun (a14 : Addr) =>
              RunQ (.int .i64) P (Instr.loadAt T_int (.pointer (some ((a14.add 2).add 0)))) w2 fun (n15 : Int) =>
               ifB (n13 == IntKind.i64.wrap (n15 + 1))
                (∃ S16 : World → Prop, (S16 w2.drew) ∧
                nilCk (some ⟨b, 0, none⟩) fun (a17 : Addr) =>
                HRun S16 .map P (Instr.loadAt T_map_int_bool (.pointer (some (a17.add 14)))) fun (m18 : Option Nat) =>
                HRun S16 (.int .i64) P (Instr.loadAt T_int (.pointer (some (Go.Addr.add ⟨a0, 0, none⟩ 1)))) fun (n19 : Int) =>
                RunU P (Instr.mapUpdate T_map_int_bool (.map m18) (.int .i64 n19) (.bool true)) w2.drew fun w20 =>
                (S16 w20) ∧
                CallP P F_raft_Raft_count [(.pointer (some ⟨b, 0, none⟩))] w20 fun (v21 : Value) w22 =>
                TupP [] v21 fun (t23 : Unit) =>
                K (.tuple #[]) w22)
                (K (.tuple #[]) w2))
            (K (.tuple #[]) w2))
         (K (.tuple #[]) w2) := by
    intro hno w2 h3
    have keep : ¬ (m.rej = false ∧ r.role = 1 ∧ m.term = r.hd.term + 1) → K (.tuple #[]) w2 := fun hn => by
      have this := hK w2
      have e : r.prevoted m.dat = r := by
        show (if m.rej = true ∧ m.term > r.hd.term then r.follow m.term (-1) else if m.rej = false ∧ r.role = 1 ∧ m.term = r.hd.term + 1 then (r.vote m.frm).count else r) = _
        rw [if_neg hno, if_neg hn]
      rw [e] at this; exact this h3.tail
    obtain ⟨p, h4⟩ := sat_ra.1 h3.swap
    have g3 : Sat W w2 (Blk a0 m.cells T_api_RMsg :: _) := h3
    refine ldX g3 7 (x := m.rej) ?_
    refine ifB_intro (fun c1 => ?_) fun c1 => keep fun h => by simp [h.1] at c1
    have c1' : m.rej = false := by simpa using c1
    refine ldX h4 8 (x := r.role) ?_
    refine ifB_beq (fun c2 => ?_) fun c2 => keep fun h => c2 h.2.1
    refine ldX g3 3 (x := m.term) ?_
    refine ldX h4 2 (x := r.hd.term) ?_
    rw [w_i64 (n := r.hd.term + 1) (by omega) (by omega)]
    refine ifB_beq (fun c3 => ?_) fun c3 => keep fun h => c3 h.2.2
    have e : r.prevoted m.dat = (r.vote m.frm).count := by
      show (if m.rej = true ∧ m.term > r.hd.term then r.follow m.term (-1) else if m.rej = false ∧ r.role = 1 ∧ m.term = r.hd.term + 1 then (r.vote m.frm).count else r) = _
      rw [if_neg hno, if_pos ⟨c1', c2, c3⟩]
    obtain ⟨v, hv1, hv2⟩ := hv (.inl c2)
    have h5 := h4.drew
    obtain ⟨mp, hm, hup⟩ := vote_upd (a := m.frm) hv1 h5
    let S : World → Prop := fun w => ∃ r' L, Sat W w (Blk b (rcells r' p) T_raft_Raft :: L) ∧ ∃ L', Sat W w (Blk a0 m.cells T_api_RMsg :: L')
    refine ⟨S, ⟨r, _, h5, _, h3.drew⟩, ?_⟩
    refine ⟨some mp, fun w hw => ?_, ?_⟩
    · obtain ⟨r', L, hp, _⟩ := hw
      have hc : w.cell? ⟨b, 14, none⟩ = some (Value.map (some mp)) := by
        rw [Sat.cell (cs := rcells r' p) hp 14, ← hm]
        rfl
      exact run_load1 (t := T_map_int_bool) (a := ⟨b, 14, none⟩) (by kernel_rfl) hc
    refine hldX (fun w hw => by obtain ⟨r', L, _, hq⟩ := hw; exact hq) 1 (x := m.frm) ?_
    refine hup fun w3 h6 => ⟨⟨r.vote m.frm, _, h6, _, h6.up 9⟩, ?_⟩
    have hv3 : (r.vote m.frm).votes = some (Rs.vput v m.frm) := by simp [Rs.vote, hv1]
    have hv4 := vput_len v m.frm
    rw [e] at hK
    have h7 : Sat W w3 (RaR b (r.vote m.frm) :: Blk a0 m.cells T_api_RMsg :: l) := sat_ra.2 ⟨p, h6⟩
    exact count_ok h7 (hs.vote _) hv3 (by omega) hrt (by show r.msgs.length + 200 < _; omega) hrl fun w4 h8 => tupU rfl (hK w4 (h8.cut 1))
  refine ifB_intro (fun c1 => ?_) fun c1 => ?_
  · refine ldX g1 3 (x := m.term) ?_
    refine ldX h2 2 (x := r.hd.term) ?_
    refine ifB_dec (fun c2 => ?_) fun c2 => ?_
    · refine ldX g1 3 (x := m.term) ?_
      have e : r.prevoted m.dat = r.follow m.term (-1) := by
        show (if m.rej = true ∧ m.term > r.hd.term then r.follow m.term (-1) else if m.rej = false ∧ r.role = 1 ∧ m.term = r.hd.term + 1 then (r.vote m.frm).count else r) = _
        rw [if_pos ⟨c1, c2⟩]
      rw [e] at hK
      refine follow_ok h1.drew.swap fun w2 h3 => tupU rfl (hK w2 (h3.cut 1))
    · exact second (fun h => c2 h.2) _ h1.drew.drew
  · exact second (fun h => by rw [h.1] at c1; cases c1) _ h1.drew.drew
end
end Go.Proofs.Ytfbffgcoopelfaa
