/- Layer 12: proposing; a node that is not there. -/
import Derived.Test.YtfbffgcoopelfaaRfM
import Derived.Test.YtfbffgcoopelfaaFRc
namespace Go.Proofs.Ytfbffgcoopelfaa
open Go Go.Pk
theorem Sane.append {r : Rs} (hs : Sane r) {d : List UInt8} (hl : r.hd.log.length + 1 < 2 ^ 40) (hd : d.length ≤ 140737488355328) : Sane (r.append d) :=
  ((hs.laid (d := d) hl hd).of (r' := laidM r d) (e9 := by simp)).advance
theorem advFrom_keeps (q : Rs) : ∀ (k : Nat) (i : Int), (q.advFrom k i).next = q.next ∧ (q.advFrom k i).msgs = q.msgs ∧ (q.advFrom k i).hd = q.hd
  | 0, _ => ⟨rfl, rfl, rfl⟩
  | k + 1, i => by
    simp only [Rs.advFrom]
    split
    · exact ⟨rfl, rfl, rfl⟩
    · split
      · exact ⟨rfl, rfl, rfl⟩
      · exact advFrom_keeps q k _
theorem append_keeps (r : Rs) (d : List UInt8) : (r.append d).next = r.next ∧ (r.append d).msgs = r.msgs ∧ (r.append d).hd = (laid r d).hd := advFrom_keeps _ _ _
section
variable {W w : World} {l : List Res} {K : Value → World → Prop} {b : Nat} {r : Rs} {p : RsP}
theorem propose_ok {x : Sl} {d : List UInt8} (h : Sat W w (RaR b r :: l)) (hx : Rd W l x 1 (d.map vB)) (hs : Sane r) (hr : Roomy r) (hn : r.role = 3 → NextOk r)
    (hK : ∀ w', Sat W w' (RaR b (r.propose d).1 :: l) → K (.tuple #[.int .i64 (r.propose d).2.1, .int .i64 (r.propose d).2.2]) w') : CallP P F_raft_Raft_Propose [.pointer (some ⟨b, 0, none⟩), x.v] w K := by
  apply c_raft_Raft_Propose
  unfold S_raft_Raft_Propose
  rw [show Option.isNone (some (⟨b, 0, none⟩ : Addr)) = false from rfl]
  unfold Rs.propose at hK
  have hm := hr.msgs
  have hll := hr.log
  have hc := hs.commit
  have hxl : x.len = d.length := by have := (hx w (h.cut 0)).1; simp at this; omega
  obtain ⟨p, h1⟩ := sat_ra.1 h
  refine ldX h1 8 (x := r.role) ?_
  refine ifB_bne (fun c => ?_) fun c => ?_
  · rw [if_pos c] at hK
    exact hK _ h
  · rw [if_neg (by simpa using c)] at hK
    rw [hxl]
    refine ifB_dec (fun c2 => ?_) fun c2 => ?_
    · rw [if_pos (by omega)] at hK
      exact hK _ h
    · rw [if_neg (by omega)] at hK
      have h2 := h1.drew
      have hlast := last_in hs
      refine ⟨fun w => ∃ L, Sat W w (Blk b (rcells r p) T_raft_Raft :: L), ⟨_, h2⟩, ?_⟩
      refine hldX (fun _ h => h) 10 (x := r.commit) ?_
      refine lastL_ok h2 hs fun w3 h3 => tyI ⟨⟨_, h3⟩, ?_⟩
      rw [w_i64 (n := r.last - r.commit) (by omega) (by omega)]
      refine ifB_dec (fun c3 => ?_) fun c3 => ?_
      · rw [if_pos c3] at hK
        exact hK _ (sat_ra.2 ⟨p, h3⟩)
      · rw [if_neg c3] at hK
        have hd : d.length ≤ 140737488355328 := by omega
        refine append_ok (sat_ra.2 ⟨p, h3⟩) hx hd hs hll fun w4 h4 => tupU rfl ?_
        have hs2 := hs.append (d := d) hll hd
        obtain ⟨k1, k2, k3⟩ := append_keeps r d
        refine spread_ok h4 hs2 (by rw [k2]; omega) (by unfold NextOk; rw [k1]; exact hn c) fun w5 h5 => tupU rfl ?_
        obtain ⟨ms, m1, m2⟩ := spread_eq (r.append d) (r.append d).n.toNat
        have e : (r.append d).spread = { (r.append d) with msgs := (r.append d).msgs ++ ms } := m2
        have hn5 := hs2.n
        have hs3 : Sane (r.append d).spread := by rw [e]; exact hs2.more (by rw [k2, List.length_append]; omega)
        exact lastS_ok h5 hs3 fun w6 h6 => tyI (hK w6 h6)
theorem none_state (hK : K (.tuple #[.int .i64 0, .int .i64 0, .int .i64 0, .int .i64 0, .int .i64 0]) w) : CallP P F_raft_Raft_State [.pointer none] w K := by
  apply c_raft_Raft_State
  exact hK
theorem none_tick {d : Int} (hK : K (.tuple #[]) w) : CallP P F_raft_Raft_Tick [.pointer none, .int .u64 d] w K := by
  apply c_raft_Raft_Tick
  exact hK
theorem none_propose {x : Sl} (hK : K (.tuple #[.int .i64 0, .int .i64 5]) w) : CallP P F_raft_Raft_Propose [.pointer none, x.v] w K := by
  apply c_raft_Raft_Propose
  exact hK
theorem none_compact {i : Int} {x : Sl} (hK : K (.int .i64 5) w) : CallP P F_raft_Raft_Compact [.pointer none, .int .i64 i, x.v] w K := by
  apply c_raft_Raft_Compact
  exact ⟨fun _ _ => False, fun _ _ h => h.elim, hK⟩
theorem none_step {cs : List Value} (h : Sat W w l) (hK : ∀ a w', Sat W w' (Blk a cs T_api_RMsg :: l) → K (.tuple #[]) w') : CallP P F_raft_Raft_Step [.pointer none, .agg cs.toArray] w K := by
  apply c_raft_Raft_Step
  unfold S_raft_Raft_Step
  refine boxB h fun a0 w1 h1 => ?_
  have h1 : Sat W w1 (Blk a0 cs T_api_RMsg :: l) := h1
  exact ⟨fun _ _ => False, fun _ _ h => h.elim, hK a0 _ h1.drew⟩
theorem none_take (h : Sat W w l) (hK : ∀ a w', Sat W w' (Blk a zReady T_api_Ready :: l) → K (.agg zReady.toArray) w') : CallP P F_raft_Raft_Take [.pointer none] w K := by
  apply c_raft_Raft_Take
  unfold S_raft_Raft_Take
  refine allocB h (z := .agg zReady.toArray) (by kernel_rfl) fun a0 w1 h1 => ?_
  have h1 : Sat W w1 (Blk a0 zReady T_api_Ready :: l) := h1
  rw [show Option.isNone (none : Option Addr) = true from rfl]
  refine stAggB (cs' := zReady) h1 rfl (rdcells_ones _ _ _ _ _ _) (by kernel_rfl) fun w2 h2 => ?_
  refine ldAggB h2 (by kernel_rfl) ?_
  exact hK a0 w2 h2
end
end Go.Proofs.Ytfbffgcoopelfaa
