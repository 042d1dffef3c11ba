/- Layer 12: the small steps of a node. -/
import Derived.Test.YtfbffgcoopelfaaRfB
namespace Go.Proofs.Ytfbffgcoopelfaa
open Go Go.Pk
/-- numbers that stay within a word -/
structure Sane (r : Rs) : Prop where
  base : 0 ≤ r.hd.base ∧ r.hd.base < 4611686018427387904
  len : r.hd.log.length < 2 ^ 40
  id : 0 ≤ r.id ∧ r.id < r.n
  n : r.n ≤ 5
  commit : 0 ≤ r.commit ∧ r.commit < 4611690416473899008
  told : 0 ≤ r.told ∧ r.told < 4611690416473899008
  ticks : 0 ≤ r.ticks ∧ r.ticks < 1000
  limit : 0 ≤ r.limit ∧ r.limit < 1000
  term : -9223372036854775808 ≤ r.hd.term ∧ r.hd.term < 4611686018427387904
  next : r.next.length = r.n.toNat
  mtch : r.mtch.length = r.n.toNat
  small : Hd.Sm r.hd
  msgs : r.msgs.length < 2 ^ 40
  commits : r.commits.length < 2 ^ 40
section
variable {W w : World} {l : List Res} {K : Value → World → Prop} {b : Nat} {r : Rs}
theorem ra_log {p : RsP} (h : Sat W w (RaL b r p l)) : p.log.len = r.hd.log.length := by
  have h1 : Sat W w (PrR T_api_Entry p.log r.hd.log :: _) := Sat.up (L := RaL b r p l) h 2
  exact (Sat.prLen h1).1.symm
theorem last_ok (h : Sat W w (RaR b r :: l)) (hK : ∀ w', Sat W w' (RaR b r :: l) → K (.int .i64 (IntKind.i64.wrap r.last)) w') : CallP P F_raft_Raft_last [.pointer (some ⟨b, 0, none⟩)] w K := by
  apply c_raft_Raft_last
  unfold S_raft_Raft_last
  obtain ⟨p, h1⟩ := sat_ra.1 h
  have hl := ra_log h1
  refine ldX h1.drew 4 (x := r.hd.base) ?_
  refine ldX h1.drew 7 (x := p.log) ?_
  rw [hl]
  exact hK _ (sat_ra.2 ⟨p, h1.drew⟩)
theorem last_in (hs : Sane r) : 0 ≤ r.last ∧ r.last < 4611687117939015680 := by
  have h1 := hs.base
  have h2 := hs.len
  unfold Rs.last
  omega
theorem lastS_ok (h : Sat W w (RaR b r :: l)) (hs : Sane r) (hK : ∀ w', Sat W w' (RaR b r :: l) → K (.int .i64 r.last) w') : CallP P F_raft_Raft_last [.pointer (some ⟨b, 0, none⟩)] w K := by
  refine last_ok h fun w' h' => ?_
  have := last_in hs
  rw [w_i64 (by omega) (by omega)]
  exact hK w' h'
theorem term_ok {i : Int} (h : Sat W w (RaR b r :: l)) (hs : Sane r) (hi : -9223372036854775808 ≤ i ∧ i < 9223372036854775808) (hK : ∀ w', Sat W w' (RaR b r :: l) → K (.tuple #[.int .i64 (r.termAt i).1, .bool (r.termAt i).2]) w') :
    CallP P F_raft_Raft_term [.pointer (some ⟨b, 0, none⟩), .int .i64 i] w K := by
  apply c_raft_Raft_term
  unfold S_raft_Raft_term
  have hb := hs.base
  have hll := last_in hs
  refine ⟨fun _ w' => i ≠ r.hd.base ∧ r.hd.base ≤ i ∧ i ≤ r.last ∧ Sat W w' (RaR b r :: l), ?_, ?_⟩
  · rintro _ w1 ⟨g1, g2, g3, h1⟩
    obtain ⟨p, h2⟩ := sat_ra.1 h1
    have hl := ra_log h2
    have h3 := h2.drew
    refine ldX h3 7 (x := p.log) ?_
    refine ldX h3 4 (x := r.hd.base) ?_
    rw [w_i64 (n := i - r.hd.base) (by omega) (by omega), w_i64 (n := i - r.hd.base - 1) (by omega) (by omega)]
    have h4 : Sat W w1.drew (PrR T_api_Entry p.log r.hd.log :: _) := Sat.up (L := RaL b r p l) h3 2
    obtain ⟨es, he, h5⟩ := sat_pr.1 h4
    have hel : es.length = r.hd.log.length := by rw [← he]; simp
    have hlast : r.last = r.hd.base + r.hd.log.length := rfl
    have hlt : (i - r.hd.base - 1).toNat < es.length := by omega
    have hx : es[(i - r.hd.base - 1).toNat]? = some es[(i - r.hd.base - 1).toNat] := List.getElem?_eq_getElem hlt
    have hrd : RdC w1.drew p.log 2 ((elP T_api_Entry).flat es) := (sat_own.1 h5).rdc
    refine ixEl et_ents rfl hrd (by omega) hx (by omega) fun a ha => ?_
    refine ldC (x := es[(i - r.hd.base - 1).toNat].t) (ha 0 _ rfl) ?_
    have e : r.termAt i = (es[(i - r.hd.base - 1).toNat].t, true) := by
      unfold Rs.termAt
      rw [if_neg g1, if_neg (by omega), ← he, List.getElem?_map, hx]
      rfl
    have := hK w1.drew (sat_ra.2 ⟨p, h3⟩)
    rw [e] at this
    exact this
  · obtain ⟨p, h2⟩ := sat_ra.1 h
    refine ldX h2 4 (x := r.hd.base) ?_
    refine ifB_beq (fun g1 => ?_) fun g1 => ?_
    · refine ldX h2 5 (x := r.hd.bterm) ?_
      have e : r.termAt i = (r.hd.bterm, true) := by unfold Rs.termAt; rw [if_pos g1]
      have := hK w h
      rw [e] at this
      exact this
    · refine ldX h2 4 (x := r.hd.base) ?_
      refine ifB_dec (fun g2 => ?_) fun g2 => ?_
      · have e : r.termAt i = (0, false) := by unfold Rs.termAt; rw [if_neg g1, if_pos (.inl g2)]
        have := hK w h
        rw [e] at this
        exact this
      · refine lastS_ok h hs fun w1 h1 => tyI ?_
        refine ifB_dec (fun g3 => ?_) fun g3 => ⟨g1, by omega, by omega, h1⟩
        have e : r.termAt i = (0, false) := by unfold Rs.termAt; rw [if_neg g1, if_pos (.inr g3)]
        have := hK w1 h1
        rw [e] at this
        exact this
theorem state_ok (h : Sat W w (RaR b r :: l)) (hK : ∀ w', Sat W w' (RaR b r :: l) → K (.tuple #[.int .i64 r.role, .int .i64 r.hd.term, .int .i64 r.leader, .int .i64 r.commit, .int .i64 (IntKind.i64.wrap r.last)]) w') :
    CallP P F_raft_Raft_State [.pointer (some ⟨b, 0, none⟩)] w K := by
  apply c_raft_Raft_State
  unfold S_raft_Raft_State
  obtain ⟨p, h1⟩ := sat_ra.1 h
  let S : World → Prop := fun w => ∃ p, Sat W w (RaL b r p l)
  have hS : ∀ w, S w → ∃ p, Sat W w (RaL b r p l) := fun _ h => h
  have ld : ∀ {k : Kd} {t : TypeId} {A : Addr} (i : Nat) {x : k.Ty} {K : k.Ty → Prop}, K x → (∀ p, (rcells r p)[i]? = some (k.v x)) → A = ⟨b, i, none⟩ → oneT P t = true → HRun S k P (Instr.loadAt t (.pointer (some A))) K := by
    intro k t A i x K hk hx hA ht
    subst hA
    refine ⟨x, fun w hw => ?_, hk⟩
    obtain ⟨p, hp⟩ := hw
    exact run_load1 ht (by rw [Sat.cell (cs := rcells r p) hp, hx])
  refine ⟨S, ⟨p, h1.drew⟩, ?_⟩
  refine ld 8 (x := r.role) ?_ (fun _ => rfl) rfl (by kernel_rfl)
  refine ld 2 (x := r.hd.term) ?_ (fun _ => rfl) rfl (by kernel_rfl)
  refine ld 9 (x := r.leader) ?_ (fun _ => rfl) rfl (by kernel_rfl)
  refine ld 10 (x := r.commit) ?_ (fun _ => rfl) rfl (by kernel_rfl)
  refine last_ok h.drew fun w1 h2 => tyI ⟨sat_ra.1 h2, ?_⟩
  exact hK w1 h2
theorem wait_ok {d : Int} (h : Sat W w (RaR b r :: l)) (hd : 0 ≤ d ∧ d < 18446744073709551616) (hK : ∀ w', Sat W w' (RaR b { r with ticks := 0, limit := 4 + d % 4 } :: l) → K (.tuple #[]) w') :
    CallP P F_raft_Raft_wait [.pointer (some ⟨b, 0, none⟩), .int .u64 d] w K := by
  apply c_raft_Raft_wait
  unfold S_raft_Raft_wait
  obtain ⟨p, h1⟩ := sat_ra.1 h
  have hm : Int.tmod d 4 = d % 4 := Int.tmod_eq_emod_of_nonneg hd.1
  have hlo : 0 ≤ d % 4 := Int.emod_nonneg _ (by decide)
  have hhi : d % 4 < 4 := Int.emod_lt_of_pos _ (by decide)
  rw [hm, w_i64 (n := d % 4) (by omega) (by omega), w_i64 (n := 4 + d % 4) (by omega) (by omega)]
  refine stX h1 12 (hi := (by show 12 < 28; decide)) fun w2 h2 => ?_
  refine stX h2 13 (hi := (by show 13 < 28; decide)) fun w3 h3 => ?_
  exact hK w3 (sat_ra.2 ⟨p, h3⟩)
theorem follow_ok {t ld : Int} (h : Sat W w (RaR b r :: l)) (hK : ∀ w', Sat W w' (RaR b (r.follow t ld) :: l) → K (.tuple #[]) w') :
    CallP P F_raft_Raft_follow [.pointer (some ⟨b, 0, none⟩), .int .i64 t, .int .i64 ld] w K := by
  apply c_raft_Raft_follow
  unfold S_raft_Raft_follow
  obtain ⟨p, h1⟩ := sat_ra.1 h
  let r1 : Rs := if t > r.hd.term then { r with hd := { r.hd with term := t, vote := -1 }, save := true } else r
  refine ⟨fun _ w' => Sat W w' (RaL b r1 p l), ?_, ?_⟩
  · rintro _ w1 h2
    refine stX h2 8 (hi := (by show 8 < 28; decide)) fun w2 h3 => ?_
    refine stX h3 9 (hi := (by show 9 < 28; decide)) fun w3 h4 => ?_
    refine stX h4 14 (hi := (by show 14 < 28; decide)) fun w4 h5 => ?_
    refine hK w4 (sat_ra.2 ⟨{ p with votes := none }, ?_⟩)
    have h6 : Sat W w4 (Blk b (rcells (r.follow t ld) { p with votes := none }) T_raft_Raft :: BsR p.snap r1.hd.snap :: PrR T_api_Entry p.log r1.hd.log :: VtR p.votes r1.votes :: IsR p.next r1.next :: IsR p.mtch r1.mtch :: MsR p.msgs r1.msgs :: BsR p.rsnap r1.rsnap :: PrR T_api_Commit p.commits r1.commits :: l) := h5
    have h7 : Sat W w4 (VtR none none :: _) := sat_pure.2 ⟨trivial, h6.cut 3⟩
    have h8 := h7.dn 3
    exact h8
  · refine ldX h1 2 (x := r.hd.term) ?_
    refine ifB_dec (fun g => ?_) fun g => ?_
    · have e : r1 = { r with hd := { r.hd with term := t, vote := -1 }, save := true } := if_pos g
      refine stX h1 2 (hi := (by show 2 < 28; decide)) fun w2 h3 => ?_
      refine stX h3 3 (hi := (by show 3 < 28; decide)) fun w3 h4 => ?_
      refine stX h4 17 (hi := (by show 17 < 28; decide)) fun w4 h5 => ?_
      show Sat W w4 (RaL b r1 p l)
      rw [e]
      exact h5
    · have e : r1 = r := if_neg g
      show Sat W w (RaL b r1 p l)
      rw [e]
      exact h1
theorem ms_app {s : Sl} {ms : List Mg} {m : MgC} {g : Nat} (h : Sat W w (Blk g m.cells T_api_RMsg :: elM.own m :: MsR s ms :: l)) (hn : ms.length < 2 ^ 40) {ty : TypeId} {K : Sl → World → Prop}
    (hK : ∀ s' w', Sat W w' (MsR s' (ms ++ [m.dat]) :: l) → K s' w') : RunK .sl P (Builtin.append_ #[T_sl_api_RMsg, T_sl_api_RMsg] ty #[s.v, Sl.v ⟨some ⟨g, 0, none⟩, 1, 1⟩]) w K := by
  obtain ⟨es, rfl, h2⟩ := sat_ms.1 (h.up 2)
  have h3 : Sat W w (Blk g (elM.cells m) T_api_RMsg :: elM.own m :: OwnS elM s es :: l) := (h2.up 2).up 2
  simp only [List.length_map] at hn
  exact own_push (E := elM) (x := m) et_msgs rfl rfl (by decide) h3 (by omega) (by omega) fun s' w' h4 => hK s' w' (sat_ms.2 ⟨es ++ [m], by simp, h4⟩)
theorem ms_bs {m : MgC} (h : Sat W w l) {K : Sl → World → Prop} (hK : ∀ g w', Sat W w' (Blk g m.cells T_api_RMsg :: l) → K ⟨some ⟨g, 0, none⟩, 1, 1⟩ w') : RunK .sl P (Instr.buildSlice T_sl_api_RMsg 1 #[(0, .agg m.cells.toArray)]) w K :=
  bsB h (cs := m.cells) (e := T_api_RMsg) (fun w => by kernel_rfl) hK
theorem sendL_ok {m : MgC} {p : RsP} (h : Sat W w (RaL b r p (elM.own m :: l))) (hn : r.msgs.length < 2 ^ 40) (hK : ∀ s' w', Sat W w' (RaL b (r.send m.dat) { p with msgs := s' } l) → K (.tuple #[]) w') :
    CallP P F_raft_Raft_send [.pointer (some ⟨b, 0, none⟩), .agg m.cells.toArray] w K := by
  apply c_raft_Raft_send
  unfold S_raft_Raft_send
  refine boxB h fun a0 w1 h1 => ?_
  have h2 : Sat W w1 (Blk a0 m.cells T_api_RMsg :: RaL b r p (elM.own m :: l)) := h1
  refine ldX (h2.up 1) 0 (x := r.id) ?_
  let m' : MgC := { m with frm := r.id }
  refine stX h2 1 (hi := (by show 1 < 10; decide)) fun w2 h3 => ?_
  have h3 : Sat W w2 (Blk a0 m'.cells T_api_RMsg :: RaL b r p (elM.own m' :: l)) := h3
  let S : World → Prop := fun w => ∃ L, Sat W w (Blk a0 m'.cells T_api_RMsg :: L)
  have h4 := h3.drew
  refine ⟨S, ⟨_, h4⟩, ?_⟩
  refine hldAggX 0 10 (fun _ h => h) ?_ (by show 0 + 10 ≤ 10; decide)
  have fin : ∀ {w : World} {g : Nat} {K' : World → Prop}, Sat W w (Blk g m'.cells T_api_RMsg :: Blk a0 m'.cells T_api_RMsg :: RaL b r p (elM.own m' :: l)) → (∀ s' w', Sat W w' (RaL b (r.send m.dat) { p with msgs := s' } l) → K' w') →
      RunK .sl P (Builtin.append_ #[T_sl_api_RMsg, T_sl_api_RMsg] T_sl_api_RMsg #[p.msgs.v, Sl.v ⟨some ⟨g, 0, none⟩, 1, 1⟩]) w fun s w => S w ∧ StoreP P T_sl_api_RMsg (.pointer (some (((⟨b, 0, none⟩ : Addr).add 17).add 7))) s.v w fun w => S w ∧ K' w := by
    intro w g K' h5 hk
    have h6 : Sat W w (Blk g m'.cells T_api_RMsg :: elM.own m' :: MsR p.msgs r.msgs :: Blk a0 m'.cells T_api_RMsg :: Blk b (rcells r p) T_raft_Raft :: BsR p.snap r.hd.snap :: PrR T_api_Entry p.log r.hd.log :: VtR p.votes r.votes :: IsR p.next r.next :: IsR p.mtch r.mtch :: BsR p.rsnap r.rsnap :: PrR T_api_Commit p.commits r.commits :: l) := h5.sel 12 [0, 11, 8, 1, 2, 3, 4, 5, 6, 7, 9, 10]
    refine ms_app (m := m') h6 hn fun s' w3 h6 => ⟨⟨_, h6.up 1⟩, ?_⟩
    refine stX (h6.up 2) 24 (v := s'.v) (hi := (by show 24 < 28; decide)) fun w4 h7 => ⟨⟨_, h7.up 2⟩, hk s' w4 ?_⟩
    exact ((h7.cut 2).up 1).dn 6
  refine ⟨?_, ?_, trivial⟩
  · refine ldX (h4.up 1) 24 (x := p.msgs) ⟨⟨_, h4⟩, ?_⟩
    exact ms_bs (m := m') h4 fun g w5 h5 => ⟨⟨_, h5.up 1⟩, fin h5 hK⟩
  · refine ms_bs (m := m') h4 fun g w5 h5 => ⟨⟨_, h5.up 1⟩, ?_⟩
    have h5' : Sat W w5 (Blk a0 m'.cells T_api_RMsg :: _) := h5.up 1
    have h5b : Sat W w5 (Blk b (rcells r p) T_raft_Raft :: _) := h5.up 2
    refine ldX h5b 24 (x := p.msgs) ?_
    exact ⟨⟨_, h5'⟩, fin h5 hK⟩
theorem send_ok {m : MgC} (h : Sat W w (RaR b r :: elM.own m :: l)) (hn : r.msgs.length < 2 ^ 40) (hK : ∀ w', Sat W w' (RaR b (r.send m.dat) :: l) → K (.tuple #[]) w') :
    CallP P F_raft_Raft_send [.pointer (some ⟨b, 0, none⟩), .agg m.cells.toArray] w K := by
  obtain ⟨p, h1⟩ := sat_ra.1 h
  exact sendL_ok h1 hn fun s' w' h' => hK w' (sat_ra.2 ⟨_, h'⟩)
end
end Go.Proofs.Ytfbffgcoopelfaa
