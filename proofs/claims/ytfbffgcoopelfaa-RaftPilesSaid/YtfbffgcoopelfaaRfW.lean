/- Layer 12: an answer to entries comes. -/
import Derived.Test.YtfbffgcoopelfaaRfV
namespace Go.Proofs.Ytfbffgcoopelfaa
open Go Go.Pk
theorem at_set {xs : List Int} {i v : Int} (hi : i.toNat < xs.length) : Rs.at_ (xs.set i.toNat v) i = v := by
  unfold Rs.at_
  rw [List.getElem?_set_self hi]
theorem NextOk.set {r : Rs} (h : NextOk r) {i : Nat} {v : Int} (hv : 0 ≤ v ∧ v < 4611690416473899008) : NextOk { r with next := r.next.set i v } := by
  intro x hx
  rcases List.mem_or_eq_of_mem_set hx with hx | rfl
  · exact h x hx
  · exact hv
section
variable {W w : World} {l : List Res} {K : Value → World → Prop} {b : Nat} {r : Rs} {p : RsP}
/-- a node and a message stand in memory -/
def SF (W : World) (b a0 : Nat) (m : MgC) (r : Rs) (p : RsP) (w : World) : Prop := (∃ L, Sat W w (Blk b (rcells r p) T_raft_Raft :: L)) ∧ ∃ L, Sat W w (Blk a0 m.cells T_api_RMsg :: L)
theorem SF.of {a0 : Nat} {m : MgC} (h : Sat W w (RaL b r p (Blk a0 m.cells T_api_RMsg :: l))) : SF W b a0 m r p w := ⟨⟨_, h⟩, _, h.up 9⟩
theorem lf {a0 : Nat} {m : MgC} {k : Kd} {t : TypeId} {A : Addr} (i : Nat) {x : k.Ty} {K : k.Ty → Prop} (hk : K x) (hx : (rcells r p)[i]? = some (k.v x) := by rfl) (hA : A = ⟨b, i, none⟩ := by rfl) (ht : oneT P t = true := by kernel_rfl) :
    HRun (SF W b a0 m r p) k P (Instr.loadAt t (.pointer (some A))) K := hldX (fun w hw => hw.1) i hk hx hA ht
theorem lm {a0 : Nat} {m : MgC} {k : Kd} {t : TypeId} {A : Addr} (i : Nat) {x : k.Ty} {K : k.Ty → Prop} (hk : K x) (hx : m.cells[i]? = some (k.v x) := by rfl) (hA : A = ⟨a0, i, none⟩ := by rfl) (ht : oneT P t = true := by kernel_rfl) :
    HRun (SF W b a0 m r p) k P (Instr.loadAt t (.pointer (some A))) K := hldX (fun w hw => hw.2) i hk hx hA ht
theorem at_get {xs : List Int} {i : Int} (hi : i.toNat < xs.length) : (xs.map vI)[i.toNat]? = some (Kd.v (.int .i64) (Rs.at_ xs i)) := by
  unfold Rs.at_
  rw [List.getElem?_eq_getElem hi]
  simp [hi, vI]
theorem appended_ok {m : MgC} (h : Sat W w (RaR b r :: l)) (hs : Sane r) (hx : NextOk r) (hf : 0 ≤ m.frm ∧ m.frm < r.n) (hms : r.msgs.length + 100 < 2 ^ 40)
    (hK : ∀ w', Sat W w' (RaR b (r.appended m.dat) :: l) → K (.tuple #[]) w') : CallP P F_raft_Raft_appended [.pointer (some ⟨b, 0, none⟩), .agg m.cells.toArray] w K := by
  apply c_raft_Raft_appended
  unfold S_raft_Raft_appended
  refine boxB h fun a0 w1 h1 => ?_
  have h1 : Sat W w1 (Blk a0 m.cells T_api_RMsg :: RaR b r :: l) := h1
  have hlast := last_in hs
  have hnl := hs.next
  have hml := hs.mtch
  have hn5 := hs.n
  have hi1 : m.frm.toNat < r.next.length := by omega
  have hi2 : m.frm.toNat < r.mtch.length := by omega
  refine ⟨fun _ w' => ¬ (r.role ≠ 3 ∨ m.index < 0 ∨ m.index > r.last) ∧ Sat W w' (RaR b r :: Blk a0 m.cells T_api_RMsg :: l), ?_, ?_⟩
  · rintro _ w2 ⟨hok, h2⟩
    have hia : 0 ≤ m.index ∧ m.index ≤ r.last := by omega
    have g2 : Sat W w2 (Blk a0 m.cells T_api_RMsg :: _) := h2.tail
    refine ldX g2 7 (x := m.rej) ?_
    have h3 := h2.drew
    obtain ⟨p, h4⟩ := sat_ra.1 h3
    have g4 : Sat W w2.drew (Blk a0 m.cells T_api_RMsg :: _) := h4.up 9
    refine ifB_intro (fun c1 => ?_) fun c1 => ?_
    · have c1 : m.rej = true := c1
      have keep : ¬ (m.index + 1 < Rs.at_ r.next m.frm ∧ m.index ≥ Rs.at_ r.mtch m.frm) → K (.tuple #[]) w2.drew := fun hno => by
        have e : r.appended m.dat = r := by
          unfold Rs.appended
          rw [if_neg (by exact hok), if_pos (by exact c1), if_neg (by exact hno)]
        rw [e] at hK
        exact hK _ (h3.cut 1)
      refine ldX g4 4 (x := m.index) ?_
      refine ldX (k := .sl) h4 15 (x := p.next) ?_
      refine ldX g4 1 (x := m.frm) ?_
      refine ixld et_ints ((h4.up 4).rdc) hf.1 (k := .int .i64) (x := Rs.at_ r.next m.frm) (at_get hi1) ?_
      rw [w_i64 (n := m.index + 1) (by omega) (by omega)]
      refine ifB_dec (fun c2 => ?_) fun c2 => keep fun h => c2 h.1
      refine ldX g4 4 (x := m.index) ?_
      refine ldX (k := .sl) h4 16 (x := p.mtch) ?_
      refine ldX g4 1 (x := m.frm) ?_
      refine ixld et_ints ((h4.up 5).rdc) hf.1 (k := .int .i64) (x := Rs.at_ r.mtch m.frm) (at_get hi2) ?_
      refine ifB_dec (fun c3 => ?_) fun c3 => keep fun h => c3 h.2
      have h5 := h4.drew
      refine ⟨SF W b a0 m r p, .of h5, ?_⟩
      refine lf (k := .sl) 15 (x := p.next) ?_
      refine lm 1 (x := m.frm) ?_
      refine lm 4 (x := m.index) ?_
      obtain ⟨a1, ha1, hl1⟩ := is_some (h5.up 4) (n := m.frm.toNat) hi1
      refine ⟨_, fun w' _ => run_ix et_ints ha1 hf.1 hl1 w', ?_⟩
      rw [w_i64 (n := m.index + 1) (by omega) (by omega)]
      refine stSl (h5.up 4) ha1 hl1 fun w3 h6 => ?_
      let r1 : Rs := { r with next := r.next.set m.frm.toNat (m.index + 1) }
      have h7 : Sat W w3 (RaL b r1 p (Blk a0 m.cells T_api_RMsg :: l)) := h6.dn 4
      refine ⟨.of (r := r1) h7, ?_⟩
      have g7 : Sat W w3 (Blk a0 m.cells T_api_RMsg :: _) := h7.up 9
      refine ldX g7 1 (x := m.frm) ?_
      have hs1 : Sane r1 := hs.of (e8 := by simp [r1])
      refine feed_ok (sat_ra.2 ⟨p, h7⟩) hs1 hf.1 hf.2 (by show 0 ≤ Rs.at_ (r.next.set m.frm.toNat (m.index + 1)) m.frm ∧ Rs.at_ (r.next.set m.frm.toNat (m.index + 1)) m.frm < _; rw [at_set hi1]; omega) fun w4 h8 => tupU rfl ?_
      have e : r.appended m.dat = r1.feed m.frm := by
        unfold Rs.appended
        rw [if_neg (by exact hok), if_pos (by exact c1), if_pos (by exact ⟨c2, c3⟩)]
        rfl
      rw [e] at hK
      exact hK w4 (h8.cut 1)
    · have c1 : m.rej = false := c1
      refine ldX g4 4 (x := m.index) ?_
      refine ldX (k := .sl) h4 16 (x := p.mtch) ?_
      refine ldX g4 1 (x := m.frm) ?_
      refine ixld et_ints ((h4.up 5).rdc) hf.1 (k := .int .i64) (x := Rs.at_ r.mtch m.frm) (at_get hi2) ?_
      refine ifB_dec (fun c2 => ?_) fun c2 => ?_
      · have h5 := h4.drew
        refine ⟨SF W b a0 m r p, .of h5, ?_⟩
        refine lf (k := .sl) 16 (x := p.mtch) ?_
        refine lm 1 (x := m.frm) ?_
        refine lm 4 (x := m.index) ?_
        obtain ⟨a1, ha1, hl1⟩ := is_some (h5.up 5) (n := m.frm.toNat) hi2
        refine ⟨_, fun w' _ => run_ix et_ints ha1 hf.1 hl1 w', ?_⟩
        refine stSl (h5.up 5) ha1 hl1 fun w3 h6 => ?_
        let rA : Rs := { r with mtch := r.mtch.set m.frm.toNat m.index }
        have h7 : Sat W w3 (RaL b rA p (Blk a0 m.cells T_api_RMsg :: l)) := h6.dn 5
        refine ⟨.of (r := rA) h7, ?_⟩
        have h8 := h7.drew
        refine ⟨SF W b a0 m rA p, .of h8, ?_⟩
        refine lf (k := .sl) 15 (x := p.next) ?_
        refine lm 1 (x := m.frm) ?_
        refine lf (k := .sl) 15 (x := p.next) ?_
        refine lm 1 (x := m.frm) ?_
        obtain ⟨a2, ha2, hl2⟩ := is_some (h8.up 4) (n := m.frm.toNat) hi1
        refine ⟨_, fun w' _ => run_ix et_ints ha2 hf.1 hl2 w', ?_⟩
        refine lm 4 (x := m.index) ?_
        have hcell : w3.drew.cell? (a2.add (m.frm.toNat * 1)) = some (Kd.v (.int .i64) (Rs.at_ r.next m.frm)) := by
          have := (h8.up 4).rdc.2.2.2 a2 ha2 m.frm.toNat _ (at_get hi1)
          rw [Nat.mul_one]; exact this
        refine ldC (k := .int .i64) (x := Rs.at_ r.next m.frm) hcell ⟨.of h8, ?_⟩
        refine ⟨_, fun w' _ => run_ix et_ints ha2 hf.1 hl2 w', ?_⟩
        rw [w_i64 (n := m.index + 1) (by omega) (by omega)]
        have e0 : (if m.index + 1 > Rs.at_ r.next m.frm then m.index + 1 else Rs.at_ r.next m.frm) = max (Rs.at_ r.next m.frm) (m.index + 1) := by
          split <;> omega
        rw [e0]
        have hat := hx.at_ (i := m.frm) hi1
        refine stSl (h8.up 4) ha2 hl2 fun w4 h9 => ?_
        let r1 : Rs := { rA with next := r.next.set m.frm.toNat (max (Rs.at_ r.next m.frm) (m.index + 1)) }
        have h10 : Sat W w4 (RaL b r1 p (Blk a0 m.cells T_api_RMsg :: l)) := h9.dn 4
        refine ⟨⟨⟨_, h9.up 1⟩, _, h9.up 9⟩, ?_⟩
        refine ldX h10 10 (x := r.commit) ?_
        have hs1 : Sane r1 := hs.of (e8 := by simp [r1]) (e9 := by simp [r1, rA])
        have hx1 : NextOk r1 := (hx.set (i := m.frm.toNat) (v := max (Rs.at_ r.next m.frm) (m.index + 1)) (by omega))
        refine advance_ok (sat_ra.2 ⟨p, h10⟩) hs1 fun w5 h11 => tupU rfl ?_
        have hs2 : Sane r1.advance := hs1.advance
        obtain ⟨k1, k2, k3⟩ := advFrom_keeps r1 (r1.last - r1.commit).toNat r1.last
        have k1 : r1.advance.next = r1.next := k1
        have k2 : r1.advance.msgs = r1.msgs := k2
        obtain ⟨p2, h12⟩ := sat_ra.1 h11
        refine ldX h12 10 (x := r1.advance.commit) ?_
        refine ifB_dec (fun c3 => ?_) fun c3 => ?_
        · refine spread_ok h11 hs2 (by rw [k2]; exact hms) (by unfold NextOk; rw [k1]; exact hx1) fun w6 h13 => tupU rfl ?_
          have e : r.appended m.dat = r1.advance.spread := by
            unfold Rs.appended
            rw [if_neg (by exact hok), if_neg (by show ¬ m.rej = true; rw [c1]; decide), if_pos (by exact c2)]
            exact if_pos c3
          rw [e] at hK
          exact hK w6 (h13.cut 1)
        · have h13 := h12.drew
          have hn2 : r1.advance.next.length = r.next.length := by rw [k1]; simp [r1]
          have hi3 : m.frm.toNat < r1.advance.next.length := by rw [hn2]; exact hi1
          let S : World → Prop := fun w => Sat W w (RaL b r1.advance p2 (Blk a0 m.cells T_api_RMsg :: l))
          refine ⟨S, h13, ?_⟩
          refine hldX (k := .sl) (fun w hw => ⟨_, hw⟩) 15 (x := p2.next) ?_
          refine hldX (fun w (hw : S w) => ⟨_, Sat.up hw 9⟩) 1 (x := m.frm) ?_
          obtain ⟨a3, ha3, hl3⟩ := is_some (h13.up 4) (n := m.frm.toNat) hi3
          refine ⟨_, fun w' _ => run_ix et_ints ha3 hf.1 hl3 w', ?_⟩
          refine ⟨Rs.at_ r1.advance.next m.frm, fun w' (hw : S w') => ?_, ?_⟩
          · have h4' : Sat W w' (IsR p2.next r1.advance.next :: _) := Sat.up hw 4
            have := h4'.rdc.2.2.2 a3 ha3 m.frm.toNat _ (at_get hi3)
            exact run_load1 (by kernel_rfl) (by rw [Nat.mul_one]; exact this)
          refine lastL_ok h13 hs2 fun w6 h14 => tyI ⟨h14, ?_⟩
          refine ifB_dec (fun c4 => ?_) fun c4 => ?_
          · have g14 : Sat W w6 (Blk a0 m.cells T_api_RMsg :: _) := h14.up 9
            refine ldX g14 1 (x := m.frm) ?_
            have hfn : m.frm < r1.advance.n := by
              have hh := hs2.next
              have hm2 := hs2.n
              omega
            refine feed_ok (sat_ra.2 ⟨p2, h14⟩) hs2 hf.1 hfn (NextOk.at_ (r := r1.advance) (by unfold NextOk; rw [k1]; exact hx1) hi3) fun w7 h15 => tupU rfl ?_
            have e : r.appended m.dat = r1.advance.feed m.frm := by
              unfold Rs.appended
              rw [if_neg (by exact hok), if_neg (by show ¬ m.rej = true; rw [c1]; decide), if_pos (by exact c2)]
              exact (if_neg c3).trans (if_pos c4)
            rw [e] at hK
            exact hK w7 (h15.cut 1)
          · have e : r.appended m.dat = r1.advance := by
              unfold Rs.appended
              rw [if_neg (by exact hok), if_neg (by show ¬ m.rej = true; rw [c1]; decide), if_pos (by exact c2)]
              exact (if_neg c3).trans (if_neg c4)
            rw [e] at hK
            exact hK w6 (sat_ra.2 ⟨p2, h14.cut 9⟩)
      · have e : r.appended m.dat = r := by
          unfold Rs.appended
          rw [if_neg (by exact hok), if_neg (by show ¬ m.rej = true; rw [c1]; decide), if_neg (by exact c2)]
        rw [e] at hK
        exact hK _ (h3.cut 1)
  · have keep : ∀ {w2 : World}, (r.role ≠ 3 ∨ m.index < 0 ∨ m.index > r.last) → Sat W w2 (RaR b r :: l) → K (.tuple #[]) w2 := fun {w2} hbad h2 => by
      have e : r.appended m.dat = r := by
        unfold Rs.appended
        rw [if_pos (by exact hbad)]
      rw [e] at hK
      exact hK _ h2
    obtain ⟨p, h3⟩ := sat_ra.1 h1.drew.swap
    refine ⟨SF W b a0 m r p, .of h3, ?_⟩
    refine lf 8 (x := r.role) ?_
    refine ifB_bne (fun c => keep (.inl c) h1.drew.tail) fun c => ?_
    refine lm 4 (x := m.index) ?_
    refine ifB_dec (fun c2 => keep (.inr (.inl c2)) h1.drew.tail) fun c2 => ?_
    refine lm 4 (x := m.index) ?_
    refine lastL_ok h3 hs fun w2 h4 => tyI ⟨.of h4, ?_⟩
    refine ifB_dec (fun c3 => keep (.inr (.inr c3)) (sat_ra.2 ⟨p, h4.cut 9⟩)) fun c3 => ⟨by omega, sat_ra.2 ⟨p, h4⟩⟩
end
end Go.Proofs.Ytfbffgcoopelfaa
