/- Layer 12: candidates; the clock; proposing; a node that is not there. -/
import Derived.Test.YtfbffgcoopelfaaRfL
namespace Go.Proofs.Ytfbffgcoopelfaa
open Go Go.Pk
theorem asked_votes (r : Rs) (kd tm : Int) (k : Nat) : (r.asked kd tm k).votes = r.votes ∧ (r.asked kd tm k).role = r.role ∧ (r.asked kd tm k).hd = r.hd ∧ (r.asked kd tm k).n = r.n := by
  obtain ⟨ms, _, h⟩ := asked_eq r kd tm k
  rw [h]
  exact ⟨rfl, rfl, rfl, rfl⟩
theorem asked_sane {r : Rs} (hs : Sane r) (kd tm : Int) (k : Nat) (hm : r.msgs.length + k < 2 ^ 40) : Sane (r.asked kd tm k) ∧ (r.asked kd tm k).msgs.length ≤ r.msgs.length + k := by
  obtain ⟨ms, h1, h⟩ := asked_eq r kd tm k
  rw [h]
  exact ⟨hs.more (by rw [List.length_append]; omega), by show (r.msgs ++ ms).length ≤ _; rw [List.length_append]; omega⟩
/-- room for an election -/
structure Roomy (r : Rs) : Prop where
  term : r.hd.term + 1 < 4611686018427387904
  msgs : r.msgs.length + 400 < 2 ^ 40
  log : r.hd.log.length + 1 < 2 ^ 40
section
variable {W w : World} {l : List Res} {K : Value → World → Prop} {b : Nat} {r : Rs} {p : RsP}
theorem askSt_sane (hs : Sane r) (ht : r.hd.term + 1 < 4611686018427387904) (hm : r.msgs.length + 200 < 2 ^ 40) (x : Int) :
    Sane (askSt r x) ∧ (askSt r x).msgs.length ≤ r.msgs.length + 5 ∧ (askSt r x).votes = some [(r.id, true)] ∧ (askSt r x).role = (if x = 2 then 2 else 1) ∧ (askSt r x).hd.log = r.hd.log := by
  have hsv := sane_cand hs ht x
  have hn := hs.n
  obtain ⟨c1, c2, c3, c4, c5, c6, c7, c8⟩ := cand_same r x
  unfold askSt
  obtain ⟨a1, a2⟩ := asked_sane hsv (if x = 2 then 3 else 1) (r.hd.term + 1) r.n.toNat (by rw [c3]; omega)
  obtain ⟨b1, b2, b3, b4⟩ := asked_votes (candV r x) (if x = 2 then 3 else 1) (r.hd.term + 1) r.n.toNat
  exact ⟨a1, by rw [c3] at a2; omega, by rw [b1, c8], by rw [b2, c7], by rw [b3, c5]⟩
theorem askC_eq (r : Rs) : r.askC = (askSt r 2).countC := by
  simp [askSt, candV, cand, Rs.askC]
theorem askP_eq (r : Rs) : r.askP = (askSt r 1).count := by
  simp [askSt, candV, cand, Rs.askP]
theorem ask_cand (h : Sat W w (RaR b r :: l)) (hs : Sane r) (ht : r.hd.term + 1 < 4611686018427387904) (hm : r.msgs.length + 200 < 2 ^ 40) (hl : r.hd.log.length + 1 < 2 ^ 40)
    (hK : ∀ w', Sat W w' (RaR b r.askC :: l) → K (.tuple #[]) w') : CallP P F_raft_Raft_ask [.pointer (some ⟨b, 0, none⟩), .int .i64 2] w K := by
  refine ask_base (.inr rfl) h hs ht hm fun w1 h1 => ?_
  obtain ⟨s1, s2, s3, s4, s5⟩ := askSt_sane hs ht hm 2
  have hv : (askSt r 2).votesOf = [(r.id, true)] := by unfold Rs.votesOf; rw [s3]
  rw [askC_eq] at hK
  unfold Rs.countC at hK
  rw [hv] at hK
  refine count_base h1 s1 s3 (by simp) (fun c w2 h2 => tupU rfl ?_) (fun _ c => ?_) fun c _ w2 h2 => ?_
  · rw [if_pos c] at hK; exact hK w2 h2
  · rw [s4] at c; simp at c
  · rw [if_neg c] at hK
    exact lead_ok h2 s1 (by omega) (by rw [s5]; exact hl) fun w3 h3 => tupU rfl (tupU rfl (hK w3 h3))
theorem count_ok {v : List (Int × Bool)} (h : Sat W w (RaR b r :: l)) (hs : Sane r) (hv : r.votes = some v) (hvl : v.length ≤ 1000) (ht : r.hd.term + 1 < 4611686018427387904) (hm : r.msgs.length + 200 < 2 ^ 40) (hl : r.hd.log.length + 1 < 2 ^ 40)
    (hK : ∀ w', Sat W w' (RaR b r.count :: l) → K (.tuple #[]) w') : CallP P F_raft_Raft_count [.pointer (some ⟨b, 0, none⟩)] w K := by
  have hvo : r.votesOf = v := by unfold Rs.votesOf; rw [hv]
  unfold Rs.count at hK
  rw [hvo] at hK
  refine count_base h hs hv hvl (fun c w2 h2 => ?_) (fun c c2 w2 h2 => ?_) fun c c2 w2 h2 => ?_
  · rw [if_pos c] at hK; exact hK w2 h2
  · rw [if_neg c, if_pos c2] at hK
    exact ask_cand h2 hs ht hm hl fun w3 h3 => tupU rfl (hK w3 h3)
  · rw [if_neg c, if_neg c2] at hK
    exact lead_ok h2 hs (by omega) hl fun w3 h3 => tupU rfl (hK w3 h3)
theorem ask_pre (h : Sat W w (RaR b r :: l)) (hs : Sane r) (hr : Roomy r)
    (hK : ∀ w', Sat W w' (RaR b r.askP :: l) → K (.tuple #[]) w') : CallP P F_raft_Raft_ask [.pointer (some ⟨b, 0, none⟩), .int .i64 1] w K := by
  have hm := hr.msgs
  refine ask_base (.inl rfl) h hs hr.term (by omega) fun w1 h1 => ?_
  obtain ⟨s1, s2, s3, s4, s5⟩ := askSt_sane hs hr.term (by omega) 1
  rw [askP_eq] at hK
  have et : (askSt r 1).hd.term = r.hd.term := by
    unfold askSt
    rw [(asked_votes _ _ _ _).2.2.1]
    rfl
  exact count_ok h1 s1 s3 (by simp) (by rw [et]; exact hr.term) (by omega) (by rw [s5]; exact hr.log) fun w2 h2 => tupU rfl (hK w2 h2)
theorem tick_ok {d : Int} (h : Sat W w (RaR b r :: l)) (hd : 0 ≤ d ∧ d < 18446744073709551616) (hs : Sane r) (hr : Roomy r) (hx : r.role = 3 → NextOk r)
    (hK : ∀ w', Sat W w' (RaR b (r.tick d) :: l) → K (.tuple #[]) w') : CallP P F_raft_Raft_Tick [.pointer (some ⟨b, 0, none⟩), .int .u64 d] w K := by
  apply c_raft_Raft_Tick
  unfold S_raft_Raft_Tick
  rw [show Option.isNone (some (⟨b, 0, none⟩ : Addr)) = false from rfl]
  unfold Rs.tick at hK
  have hm := hr.msgs
  have htk := hs.ticks
  obtain ⟨p, h1⟩ := sat_ra.1 h
  refine ldX h1 8 (x := r.role) ?_
  refine ifB_beq (fun c => ?_) fun c => ?_
  · rw [if_pos c] at hK
    exact spread_ok h hs (by omega) (hx c) fun w2 h2 => tupU rfl (hK w2 h2)
  · rw [if_neg c] at hK
    refine ldX h1 12 (x := r.ticks) ?_
    rw [w_i64 (n := r.ticks + 1) (by omega) (by omega)]
    refine stX h1 12 (hi := (by show 12 < 28; decide)) fun w2 h2 => ?_
    have h3 : Sat W w2 (RaL b { r with ticks := r.ticks + 1 } p l) := h2
    have h4 := h3.drew
    refine ldX h4 12 (x := r.ticks + 1) ?_
    refine ldX h4 13 (x := r.limit) ?_
    refine ifB_dec (fun c2 => ?_) fun c2 => ?_
    · simp only [if_pos c2] at hK
      refine wait_ok (sat_ra.2 ⟨p, h4⟩) hd fun w5 h5 => tupU rfl ?_
      have hlo : 0 ≤ d % 4 := Int.emod_nonneg _ (by decide)
      have hhi : d % 4 < 4 := Int.emod_lt_of_pos _ (by decide)
      have hs2 : Sane { r with ticks := 0, limit := 4 + d % 4 } := { hs with ticks := (by show (0 : Int) ≤ 0 ∧ (0 : Int) < 1000; omega), limit := (by show 0 ≤ 4 + d % 4 ∧ 4 + d % 4 < 1000; omega) }
      exact ask_pre h5 hs2 ⟨hr.term, hr.msgs, hr.log⟩ fun w6 h6 => tupU rfl (hK w6 h6)
    · simp only [if_neg c2] at hK
      exact hK _ (sat_ra.2 ⟨p, h4⟩)
end
end Go.Proofs.Ytfbffgcoopelfaa
