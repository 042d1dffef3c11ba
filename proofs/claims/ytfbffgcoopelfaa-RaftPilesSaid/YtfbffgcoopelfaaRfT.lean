/- Layer 12: a snapshot comes. -/
import Derived.Test.YtfbffgcoopelfaaRfS
namespace Go.Proofs.Ytfbffgcoopelfaa
open Go Go.Pk
section
variable {W w : World} {l : List Res} {K : Value → World → Prop} {b : Nat} {r : Rs} {p : RsP}
/-- a message without lists -/
abbrev mgNil (kind to term index : Int) (rej : Bool) : MgC := ⟨kind, 0, to, term, index, 0, 0, rej, ⟨none, 0, 0⟩, [], ⟨none, 0, 0⟩, []⟩
theorem own_mgNil {kind to term index : Int} {rej : Bool} (h : Sat W w l) : Sat W w (elM.own (mgNil kind to term index rej) :: l) := by
  have a : Sat W w (BsR ⟨none, 0, 0⟩ [] :: _) := Sat.nilSlr h T_uint8 1
  have c : Sat W w (PrR T_api_Entry ⟨none, 0, 0⟩ [] :: _) := pr_nil a
  exact (sat_all (l' := [PrR T_api_Entry ⟨none, 0, 0⟩ [], BsR ⟨none, 0, 0⟩ []])).2 c
/-- a message is in memory, and a node with this -/
def SMg (W : World) (b a0 : Nat) (m : MgC) (hd : Hd) (cm : Int) (w : World) : Prop := ∃ r' p', (∃ L, Sat W w (Blk b (rcells r' p') T_raft_Raft :: L)) ∧ r'.hd = hd ∧ r'.commit = cm ∧ ∃ L, Sat W w (Blk a0 m.cells T_api_RMsg :: L)
theorem ldR {b a0 : Nat} {m : MgC} {hd : Hd} {cm : Int} {k : Kd} {t : TypeId} {A : Addr} (i : Nat) {x : k.Ty} {K : k.Ty → Prop} (hk : K x) (hx : ∀ r' p', r'.hd = hd → r'.commit = cm → (rcells r' p')[i]? = some (k.v x)) (hA : A = ⟨b, i, none⟩ := by rfl) (ht : oneT P t = true := by kernel_rfl) :
    HRun (SMg W b a0 m hd cm) k P (Instr.loadAt t (.pointer (some A))) K := by
  subst hA
  refine ⟨x, fun w hw => ?_, hk⟩
  obtain ⟨r', p', ⟨L, hp⟩, e1, e2, _⟩ := hw
  exact run_load1 ht (by rw [Sat.cell (cs := rcells r' p') hp, hx r' p' e1 e2])
theorem ldM {b a0 : Nat} {m : MgC} {hd : Hd} {cm : Int} {k : Kd} {t : TypeId} {A : Addr} (i : Nat) {x : k.Ty} {K : k.Ty → Prop} (hk : K x) (hx : m.cells[i]? = some (k.v x) := by rfl) (hA : A = ⟨a0, i, none⟩ := by rfl) (ht : oneT P t = true := by kernel_rfl) :
    HRun (SMg W b a0 m hd cm) k P (Instr.loadAt t (.pointer (some A))) K :=
  hldX (fun w hw => by obtain ⟨r', p', _, _, _, hq⟩ := hw; exact hq) i hk hx hA ht
def instd (r : Rs) (m : Mg) : Rs := if m.index > r.commit then
      { r with hd := { r.hd with log := (if (r.termAt m.index).2 = true ∧ (r.termAt m.index).1 = m.lterm then r.hd.log.drop (m.index - r.hd.base).toNat else []), base := m.index, bterm := m.lterm, snap := m.snap },
               commit := m.index, told := m.index, save := true, restore := true, rsnap := m.snap, commits := [] }
    else r
theorem instd_msgs (r : Rs) (m : Mg) : (instd r m).msgs = r.msgs := by unfold instd; split <;> rfl
theorem termAt_range {i : Int} (h : (r.termAt i).2 = true) (hb : 0 ≤ r.hd.log.length) : r.hd.base ≤ i ∧ i ≤ r.last := by
  have hl : r.last = r.hd.base + r.hd.log.length := rfl
  unfold Rs.termAt at h
  split at h
  · omega
  · split at h
    · cases h
    · omega
theorem install_ok {m : MgC} (h : Sat W w (RaR b r :: l)) (hs : Sane r) (hm : MgRd W l m) (hi : -9223372036854775808 ≤ m.index ∧ m.index < 9223372036854775808) (hsn : m.snap.length ≤ 140737488355328)
    (hK : ∀ w', Sat W w' (RaR b (r.install m.dat) :: l) → K (.tuple #[]) w') : CallP P F_raft_Raft_install [.pointer (some ⟨b, 0, none⟩), .agg m.cells.toArray] w K := by
  apply c_raft_Raft_install
  unfold S_raft_Raft_install
  refine boxB h fun a0 w1 h1 => ?_
  have h1 : Sat W w1 (Blk a0 m.cells T_api_RMsg :: RaR b r :: l) := h1
  have hlast := last_in hs
  have hbase := hs.base
  refine ⟨fun _ w' => Sat W w' (RaR b (instd r m.dat) :: Blk a0 m.cells T_api_RMsg :: l), ?_, ?_⟩
  · intro _ w2 h2
    obtain ⟨p, h3⟩ := sat_ra.1 h2.drew
    refine ⟨SMg W b a0 m (instd r m.dat).hd (instd r m.dat).commit, ⟨_, p, ⟨_, h3⟩, rfl, rfl, _, h3.up 9⟩, ?_⟩
    refine ldM 1 (x := m.frm) ?_
    refine ldR 2 (x := (instd r m.dat).hd.term) ?_ (fun r' p' e1 _ => by rw [← e1]; rfl)
    refine ldM 4 (x := m.index) ?_
    refine ldR 10 (x := (instd r m.dat).commit) ?_ (fun r' p' _ e2 => by rw [← e2]; rfl)
    have e0 : (if (instd r m.dat).commit > m.index then (instd r m.dat).commit else m.index) = max m.index (instd r m.dat).commit := by
      split <;> omega
    rw [e0]
    have h4 : Sat W w2.drew (RaL b (instd r m.dat) p (elM.own (mgNil 6 m.frm (instd r m.dat).hd.term (max m.index (instd r m.dat).commit) false) :: Blk a0 m.cells T_api_RMsg :: l)) := (own_mgNil h3).sel 10 [1, 2, 3, 4, 5, 6, 7, 8, 9, 0]
    refine sendL_ok (m := mgNil 6 m.frm (instd r m.dat).hd.term (max m.index (instd r m.dat).commit) false) h4 (by rw [instd_msgs]; exact hs.msgs) fun s' w3 h5 => tupU rfl ⟨⟨(instd r m.dat).send (mgNil 6 m.frm (instd r m.dat).hd.term (max m.index (instd r m.dat).commit) false).dat, _, ⟨_, h5⟩, rfl, rfl, _, h5.up 9⟩, ?_⟩
    exact hK w3 (sat_ra.2 ⟨_, h5.cut 9⟩)
  · have h2 := h1.drew
    refine ldX h2 4 (x := m.index) ?_
    obtain ⟨p, h3⟩ := sat_ra.1 h2.swap
    refine ldX h3 10 (x := r.commit) ?_
    refine ifB_dec (fun c => ?_) fun c => ?_
    · let lg : List En := if (r.termAt m.index).2 = true ∧ (r.termAt m.index).1 = m.lterm then r.hd.log.drop (m.index - r.hd.base).toNat else []
      let rA : Rs := { r with hd := { r.hd with log := lg } }
      refine ⟨fun _ w' => Sat W w' (RaR b rA :: Blk a0 m.cells T_api_RMsg :: l), ?_, ?_⟩
      · intro _ w3 h4
        obtain ⟨p, h5⟩ := sat_ra.1 h4.drew
        let S : World → Prop := fun w => ∃ L, Sat W w (Blk a0 m.cells T_api_RMsg :: L)
        have g5 : Sat W w3.drew (Blk a0 m.cells T_api_RMsg :: _) := h5.up 9
        refine ⟨S, ⟨_, g5⟩, ?_⟩
        refine hldX (fun _ h => h) 4 (x := m.index) ?_
        refine hldX (fun _ h => h) 5 (x := m.lterm) ?_
        refine hldX (k := .sl) (fun _ h => h) 9 (x := m.ss) ?_
        have hmr : RdC w3.drew m.ss 1 (m.snap.map vB) := hm.2 _ (h4.drew.tail.tail)
        refine cpBytes h5 hmr hsn fun s1 w4 h6 => ⟨⟨_, h6.up 10⟩, ?_⟩
        refine stX (h6.up 1) 4 (hi := (by show 4 < 28; decide)) fun w5 h7 => ⟨⟨_, h7.up 10⟩, ?_⟩
        refine stX h7 5 (hi := (by show 5 < 28; decide)) fun w6 h8 => ⟨⟨_, h8.up 10⟩, ?_⟩
        refine stX h8 6 (v := s1.v) (hi := (by show 6 < 28; decide)) fun w7 h9 => ⟨⟨_, h9.up 10⟩, ?_⟩
        have g9 : Sat W w7.drew (Blk a0 m.cells T_api_RMsg :: _) := h9.drew.up 10
        refine ⟨S, ⟨_, g9⟩, ?_⟩
        refine hldX (fun _ h => h) 4 (x := m.index) ?_
        refine hldX (fun _ h => h) 4 (x := m.index) ?_
        refine stX h9.drew 10 (hi := (by show 10 < 28; decide)) fun w8 h10 => ⟨⟨_, h10.up 10⟩, ?_⟩
        refine stX h10 11 (hi := (by show 11 < 28; decide)) fun w9 h11 => ⟨⟨_, h11.up 10⟩, ?_⟩
        have g11 : Sat W w9 (Blk a0 m.cells T_api_RMsg :: _) := h11.up 10
        refine ldX (k := .sl) g11 9 (x := m.ss) ?_
        have g12 : Sat W w9 l := h11.tail.tail.tail.tail.tail.tail.tail.tail.tail.tail.tail
        refine cpBytes h11 (hm.2 _ g12) hsn fun s2 w10 h12 => ?_
        refine stX (h12.up 1) 17 (hi := (by show 17 < 28; decide)) fun w11 h13 => ?_
        refine stX h13 25 (hi := (by show 25 < 28; decide)) fun w12 h14 => ?_
        refine stX h14 26 (v := s2.v) (hi := (by show 26 < 28; decide)) fun w13 h15 => ?_
        refine stX h15 27 (v := .slice none 0 0) (hi := (by show 27 < 28; decide)) fun w14 h16 => ?_
        let rB : Rs := { rA with hd := { rA.hd with base := m.index, bterm := m.lterm, snap := m.snap }, commit := m.index, told := m.index, save := true, restore := true, rsnap := m.snap, commits := [] }
        let pB : RsP := { p with snap := s1, rsnap := s2, commits := ⟨none, 0, 0⟩ }
        have h17 : Sat W w14 (Blk b (rcells rB pB) T_raft_Raft :: BsR s2 m.snap :: BsR s1 m.snap :: BsR p.snap r.hd.snap :: PrR T_api_Entry p.log lg :: VtR p.votes r.votes :: IsR p.next r.next :: IsR p.mtch r.mtch :: MsR p.msgs r.msgs :: BsR p.rsnap r.rsnap :: PrR T_api_Commit p.commits r.commits :: Blk a0 m.cells T_api_RMsg :: l) := h16
        have h18 : Sat W w14 (PrR T_api_Commit ⟨none, 0, 0⟩ [] :: _) := pr_nil h17
        have e : instd r m.dat = rB := by
          unfold instd
          rw [if_pos (by exact c)]
          rfl
        rw [e]
        have h19 := h18.sel 13 [1, 3, 5, 6, 7, 8, 9, 2, 0, 12]
        exact sat_ra.2 ⟨pB, h19⟩
      · refine ldX h2 4 (x := m.index) ?_
        refine term_ok h2.swap hs hi fun w3 h4 => ⟨(_, _, ()), rfl, ?_⟩
        obtain ⟨p, h5⟩ := sat_ra.1 h4
        have empty : ¬ ((r.termAt m.index).2 = true ∧ (r.termAt m.index).1 = m.lterm) → ∀ w', Sat W w' (Blk b ((rcells r p).set 7 (.slice none 0 0)) T_raft_Raft :: BsR p.snap r.hd.snap :: PrR T_api_Entry p.log r.hd.log :: VtR p.votes r.votes :: IsR p.next r.next :: IsR p.mtch r.mtch :: MsR p.msgs r.msgs :: BsR p.rsnap r.rsnap :: PrR T_api_Commit p.commits r.commits :: Blk a0 m.cells T_api_RMsg :: l) → Sat W w' (RaR b rA :: Blk a0 m.cells T_api_RMsg :: l) := fun hn w' h6 => by
          have e : lg = [] := if_neg hn
          have h7 : Sat W w' (PrR T_api_Entry ⟨none, 0, 0⟩ [] :: _) := pr_nil h6
          rw [← e] at h7
          have h8 := h7.sel 10 [1, 2, 0, 4, 5, 6, 7, 8, 9]
          exact sat_ra.2 ⟨{ p with log := ⟨none, 0, 0⟩ }, h8⟩
        refine ifB_intro (fun c1 => ?_) fun c1 => ?_
        · have c1 : (r.termAt m.index).2 = true := c1
          have g5 : Sat W w3 (Blk a0 m.cells T_api_RMsg :: _) := h5.up 9
          refine ldX g5 5 (x := m.lterm) ?_
          refine ifB_beq (fun c2 => ?_) fun c2 => ?_
          · have c2 : (r.termAt m.index).1 = m.lterm := c2
            obtain ⟨q1, q2⟩ := termAt_range c1 (Nat.zero_le _)
            have hll : r.last = r.hd.base + r.hd.log.length := rfl
            have h6 := h5.drew
            have hpl := ra_log h6
            let S : World → Prop := fun w => ∃ r' p', (∃ L, Sat W w (Blk b (rcells r' p') T_raft_Raft :: L)) ∧ r'.hd.base = r.hd.base ∧ ∃ L, Sat W w (Blk a0 m.cells T_api_RMsg :: L)
            refine ⟨S, ⟨r, p, ⟨_, h6⟩, rfl, _, h6.up 9⟩, ?_⟩
            refine hldX (fun w hw => by obtain ⟨_, _, _, _, hq⟩ := hw; exact hq) 4 (x := m.index) ?_
            refine ⟨r.hd.base, fun w hw => ?_, ?_⟩
            · obtain ⟨r', p', ⟨L, hp⟩, e1, _⟩ := hw
              have hc : w.cell? ⟨b, 4, none⟩ = some (Value.int .i64 r.hd.base) := by
                rw [Sat.cell (cs := rcells r' p') hp 4, ← e1]
                rfl
              exact run_load1 (t := T_int) (a := ⟨b, 4, none⟩) (by kernel_rfl) hc
            refine ldX h6 7 (x := p.log) ⟨⟨r, p, ⟨_, h6⟩, rfl, _, h6.up 9⟩, ?_⟩
            rw [w_i64 (n := m.index - r.hd.base) (by omega) (by omega)]
            obtain ⟨es, he, h7⟩ := sat_pr.1 (h6.up 2)
            have hel : es.length = r.hd.log.length := by rw [← he]; simp
            have hcap := own_len h7 (by decide : 0 < 2)
            refine ⟨subSl p.log 2 (m.index - r.hd.base).toNat p.log.len, fun w' _ => run_sliceLo et_ents (by omega) (by omega) (by omega) w', ?_⟩
            have h8 := own_drop h7 (k := (m.index - r.hd.base).toNat) (by omega)
            have h8' : Sat W w3.drew (OwnS (elP T_api_Entry) (subSl p.log 2 (m.index - r.hd.base).toNat p.log.len) (es.drop (m.index - r.hd.base).toNat) :: Blk b (rcells r p) T_raft_Raft :: BsR p.snap r.hd.snap :: VtR p.votes r.votes :: IsR p.next r.next :: IsR p.mtch r.mtch :: MsR p.msgs r.msgs :: BsR p.rsnap r.rsnap :: PrR T_api_Commit p.commits r.commits :: Blk a0 m.cells T_api_RMsg :: l) := h8
            refine stX (h8'.up 1) 7 (v := (subSl p.log 2 (m.index - r.hd.base).toNat p.log.len).v) (hi := (by show 7 < 28; decide)) fun w4 h9 => ?_
            let pC : RsP := { p with log := subSl p.log 2 (m.index - r.hd.base).toNat p.log.len }
            have h10 : Sat W w4 (Blk b (rcells rA pC) T_raft_Raft :: OwnS (elP T_api_Entry) (subSl p.log 2 (m.index - r.hd.base).toNat p.log.len) (es.drop (m.index - r.hd.base).toNat) :: BsR p.snap r.hd.snap :: VtR p.votes r.votes :: IsR p.next r.next :: IsR p.mtch r.mtch :: MsR p.msgs r.msgs :: BsR p.rsnap r.rsnap :: PrR T_api_Commit p.commits r.commits :: Blk a0 m.cells T_api_RMsg :: l) := h9
            refine ⟨⟨rA, pC, ⟨_, h10⟩, rfl, _, h10.up 9⟩, ?_⟩
            have e : (es.drop (m.index - r.hd.base).toNat).map EnC.dat = lg := by
              show _ = if _ then _ else _
              rw [if_pos ⟨c1, c2⟩, List.map_drop, he]
            have h11 : Sat W w4 (PrR T_api_Entry (subSl p.log 2 (m.index - r.hd.base).toNat p.log.len) lg :: _) := sat_pr.2 ⟨_, e, h10.up 1⟩
            exact sat_ra.2 ⟨pC, h11.sel 3 [1, 2, 0]⟩
          · refine stX h5 7 (v := .slice none 0 0) (hi := (by show 7 < 28; decide)) fun w4 h6 => empty (fun h => c2 h.2) w4 h6
        · have c1 : (r.termAt m.index).2 = false := c1
          refine stX h5 7 (v := .slice none 0 0) (hi := (by show 7 < 28; decide)) fun w4 h6 => empty (fun h => by rw [c1] at h; cases h.1) w4 h6
    · have e : instd r m.dat = r := if_neg c
      show Sat W _ _
      rw [e]
      exact h2.swap
end
end Go.Proofs.Ytfbffgcoopelfaa
