/- Layer 12: rounding; what is told as committed is held against what was. -/
import Derived.Test.YtfbffgcoopelfaaRgA
namespace Go.Proofs.Ytfbffgcoopelfaa
open Go Go.Pk
theorem remR {P : Program} {w : World} {k : IntKind} {x y : Int} {t : TypeId} {o1 o2 : Operand} {K : Int → World → Prop} (hy : y ≠ 0) (hK : K (x.tmod y) w) :
    RunK (.int k) P (do eqGuard .rem t o1 o2 (.int k x) (.int k y); binOp .rem t (.int k x) (.int k y)) w K := by
  refine ⟨_, w, ?_, hK⟩
  simp [eqGuard, binOp, hy, Op.intDiv, Sem.run, Kd.v]
theorem hixP {S : World → Prop} {t e sz by_ : Nat} (et : ET P t e sz by_) {s : Sl} {a : Addr} {ik : IntKind} {i : Int} (ha : s.a = some a) (h0 : 0 ≤ i) (h1 : i.toNat < s.len) {K : Addr → Prop} (hK : K (a.add (i.toNat * sz))) :
    HRun S .addr P (Instr.indexAt t s.v (.int ik i)) K := ⟨_, fun w _ => run_ix et ha h0 h1 w, hK⟩
section
variable {W w : World} {l : List Res} {K : Value → World → Prop} {b : Nat} {g : Gp}
theorem rd_in {i n : Int} (hn : 0 < n) : 0 ≤ Gp.rd i n ∧ Gp.rd i n < n := by
  unfold Gp.rd
  have h1 : -n < i.tmod n := by
    have := Int.tmod_lt_of_pos (-i) hn
    rw [Int.neg_tmod] at this; omega
  have h2 := Int.tmod_lt_of_pos i hn
  exact ⟨Int.tmod_nonneg _ (by omega), Int.tmod_lt_of_pos _ hn⟩
theorem round_ok {i n : Int} (h : Sat W w l) (hn : 0 < n ∧ n < 4611686018427387904) (hK : K (.int .i64 (Gp.rd i n)) w) : CallP P F_law12_round [.int .i64 i, .int .i64 n] w K := by
  apply c_law12_round
  unfold S_law12_round
  have h1 : -n < i.tmod n := by
    have := Int.tmod_lt_of_pos (-i) hn.1
    rw [Int.neg_tmod] at this; omega
  have h2 := Int.tmod_lt_of_pos i hn.1
  refine remR (by omega) ?_
  rw [w_i64 (n := i.tmod n + n) (by omega) (by omega)]
  exact remR (by omega) hK
/-- what was told, with room -/
def tellG (g : Gp) (k : Nat) : Gp := { g with told := g.told ++ List.replicate k (0, []) }
theorem tell_bad1 {g : Gp} {c : En} {k : Nat} (hk : k = (c.1 - g.told.length).toNat) (h : c.1 < 1) : g.tell c = { tellG g k with wrong := true } := by
  subst hk
  unfold Gp.tell
  simp only
  rw [if_pos h]; rfl
theorem tell_bad2 {g : Gp} {c e : En} {k : Nat} (hk : k = (c.1 - g.told.length).toNat) (h : ¬ c.1 < 1) (he : (tellG g k).told[(c.1 - 1).toNat]? = some e) (h1 : e.1 ≠ 0 ∧ e.2 ≠ c.2) : g.tell c = { tellG g k with wrong := true } := by
  subst hk
  unfold Gp.tell
  simp only [tellG] at he ⊢
  rw [if_neg h, he]
  simp only
  rw [if_pos h1]
theorem tell_good {g : Gp} {c e : En} {k : Nat} (hk : k = (c.1 - g.told.length).toNat) (h : ¬ c.1 < 1) (he : (tellG g k).told[(c.1 - 1).toNat]? = some e) (h1 : ¬ (e.1 ≠ 0 ∧ e.2 ≠ c.2)) : g.tell c = { tellG g k with told := (tellG g k).told.set (c.1 - 1).toNat c } := by
  subst hk
  unfold Gp.tell
  simp only [tellG] at he ⊢
  rw [if_neg h, he]
  simp only
  rw [if_neg h1]
theorem tell_ok {c : EnC} (h : Sat W w (GpR b g :: (elP T_api_Commit).own c :: l)) (hc : -4611686018427387904 ≤ c.t ∧ c.t ≤ 1099511627776) (ht : g.told.length ≤ 1099511627776)
    (hK : ∀ w', Sat W w' (GpR b (g.tell c.dat) :: l) → K (.tuple #[]) w') : CallP P F_law12_group_tell [.pointer (some ⟨b, 0, none⟩), .agg c.cells.toArray] w K := by
  apply c_law12_group_tell
  unfold S_law12_group_tell
  refine boxB h fun a0 w1 h1 => ?_
  have h1 : Sat W w1 (Blk a0 c.cells T_api_Commit :: GpR b g :: (elP T_api_Commit).own c :: l) := h1
  let tc : World → Nat := fun w => match w.cell? ⟨b, 3, none⟩ with | some (.slice _ n _) => n | _ => 0
  have htc : ∀ {w : World} {q : Gp} {p : GpP} {L : List Res}, Sat W w (GpL b q p L) → tc w = q.told.length := fun {w q p L} h => by
    have := Sat.cell h 3
    have h2 : Sat W w (PrR T_api_Commit p.told q.told :: _) := h.up 4
    have h3 := (Sat.prLen h2).1
    show (match World.cell? _ ⟨b, 3, none⟩ with | some (.slice _ n _) => n | _ => 0) = _
    rw [this]; exact h3.symm
  refine ⟨fun _ w' => ∃ k : Nat, (k = 0 ∨ g.told.length + k ≤ c.t) ∧ Sat W w' (GpR b (tellG g k) :: Blk a0 c.cells T_api_Commit :: (elP T_api_Commit).own c :: l), fun _ w' => (c.t - tc w').toNat, ⟨0, .inl rfl, by simpa [tellG] using h1.swap⟩, ?_⟩
  rintro _ w2 ⟨k, hk, h2⟩
  have h2 := h2.drew
  obtain ⟨p, h3⟩ := sat_gp.1 h2
  have e2 := htc h3
  have hlen : (tellG g k).told.length = g.told.length + k := by simp [tellG]
  have hsl := Sat.prLen (Sat.up (L := GpL b (tellG g k) p _) h3 4)
  refine ldX h3 3 (x := p.told) ?_
  refine ldX (h3.up 7) 0 (x := c.t) ?_
  refine ifB_dec (fun hlt => ?_) fun hge => ?_
  · refine ldX h3 3 (x := p.told) ?_
    refine prBs (a := 0) (ds := ⟨none, 0, 0⟩) h3 (run_bsCm _ _) fun gb w3 h4 => ?_
    have h4' : Sat W w3 (Blk gb [.int .i64 0, Sl.v ⟨none, 0, 0⟩] T_api_Commit :: PrR T_api_Commit p.told (tellG g k).told :: _) := (h4.up 5).swap
    have h5 : Sat W w3 (Blk gb [.int .i64 0, Sl.v ⟨none, 0, 0⟩] T_api_Commit :: BsR ⟨none, 0, 0⟩ [] :: PrR T_api_Commit p.told (tellG g k).told :: _) := (Sat.nilSlr h4' T_uint8 1).swap
    refine prApp et_coms h5 (by rw [hlen]; omega) fun s' w4 h6 => ?_
    refine stX (h6.up 1) 3 (v := s'.v) (hi := (by show 3 < 7; decide)) fun w5 h7 => ?_
    have h8 : Sat W w5 (GpL b (tellG g (k + 1)) { p with told := s' } (Blk a0 c.cells T_api_Commit :: (elP T_api_Commit).own c :: l)) := by
      have e : (tellG g (k + 1)).told = (tellG g k).told ++ [(0, [])] := by simp [tellG, List.replicate_succ']
      have h9 : Sat W w5 (Blk b (gcells { p with told := s' } g.wrong) T_penstocklaw12_group :: PrR T_api_Commit s' ((tellG g k).told ++ [(0, [])]) :: NdR p.nodes g.nodes :: KpR p.kept g.kept :: MsR p.flight g.flight :: IsR p.heads g.heads :: IsR p.applied g.applied :: Blk a0 c.cells T_api_Commit :: (elP T_api_Commit).own c :: l) := h7
      rw [← e] at h9
      exact h9.sel 6 [0, 2, 3, 4, 1, 5]
    have e5 := htc h8
    have hlen2 : (tellG g (k + 1)).told.length = g.told.length + k + 1 := by simp [tellG]; omega
    refine ⟨⟨k + 1, .inr (by omega), sat_gp.2 ⟨_, h8⟩⟩, ?_⟩
    show (c.t - tc w5).toNat < (c.t - tc w2).toNat
    have e2' : tc w2 = tc w2.drew := rfl
    rw [e5, e2', e2, hlen2, hlen]; omega
  · have hk' : k = (c.t - g.told.length).toNat := by omega
    have h2 := h2.drew
    have h3 := h3.drew
    let G := tellG g k
    obtain ⟨es, hes, h4⟩ := sat_pr.1 (Sat.up (L := GpL b G p _) h3 4)
    have h5 : Sat W w2.drew.drew (Blk b (gcells p g.wrong) T_penstocklaw12_group :: OwnS (elP T_api_Commit) p.told es :: NdR p.nodes g.nodes :: KpR p.kept g.kept :: MsR p.flight g.flight :: IsR p.heads g.heads :: IsR p.applied g.applied :: Blk a0 c.cells T_api_Commit :: (elP T_api_Commit).own c :: l) := h4.swap
    have hel : es.length = G.told.length := by rw [← hes]; simp
    have hol := own_len h4 (by decide : 0 < 2)
    have back : ∀ {w : World} {p' : GpP} {wr : Bool} {es' : List EnC}, Sat W w (Blk b (gcells p' wr) T_penstocklaw12_group :: OwnS (elP T_api_Commit) p'.told es' :: NdR p'.nodes g.nodes :: KpR p'.kept g.kept :: MsR p'.flight g.flight :: IsR p'.heads g.heads :: IsR p'.applied g.applied :: l) → Sat W w (GpR b { g with told := es'.map EnC.dat, wrong := wr } :: l) := fun h => by
      have h' := sat_pr.2 ⟨_, rfl, h.swap⟩
      exact sat_gp.2 ⟨_, h'.sel 7 [1, 2, 3, 4, 0, 5, 6]⟩
    let S : World → Prop := fun w => Sat W w (Blk b (gcells p g.wrong) T_penstocklaw12_group :: OwnS (elP T_api_Commit) p.told es :: NdR p.nodes g.nodes :: KpR p.kept g.kept :: MsR p.flight g.flight :: IsR p.heads g.heads :: IsR p.applied g.applied :: Blk a0 c.cells T_api_Commit :: (elP T_api_Commit).own c :: l)
    refine ⟨fun _ w' => 1 ≤ c.t ∧ (∃ e, G.told[(c.t - 1).toNat]? = some e ∧ (e.1 = 0 ∨ e.2 = c.d)) ∧ S w', ?_, ?_⟩
    · rintro _ w3 ⟨hc1, ⟨e, he, hee⟩, h6⟩
      have h6 := Sat.drew h6
      have et : g.tell c.dat = { G with told := G.told.set (c.t - 1).toNat c.dat } := tell_good hk' (by show ¬ c.t < 1; omega) he (by rintro ⟨q1, q2⟩; rcases hee with q | q; exact q1 q; exact q2 q)
      have hlt : (c.t - 1).toNat < es.length := by rw [hel]; exact (List.getElem?_eq_some_iff.1 he).1
      obtain ⟨a, ha⟩ := some_of_lt (sat_own.1 (h6.up 1)).rdc (n := (c.t - 1).toNat) (by omega)
      refine ⟨fun w => ∃ L, Sat W w (Blk b (gcells p g.wrong) T_penstocklaw12_group :: Blk a0 c.cells T_api_Commit :: L), ⟨_, (h6.up 7).swap⟩, ?_⟩
      refine hldX (fun w hw => by obtain ⟨L, hw⟩ := hw; exact ⟨_, hw⟩) 3 (x := p.told) ?_
      refine hldX (fun w hw => by obtain ⟨L, hw⟩ := hw; exact ⟨_, hw.swap⟩) 0 (x := c.t) ?_
      refine hldAggX 0 2 (fun w hw => by obtain ⟨L, hw⟩ := hw; exact ⟨_, hw.swap⟩) ?_ (by show 0 + 2 ≤ 2; decide)
      rw [w_i64 (n := c.t - 1) (by omega) (by omega)]
      refine hixP et_coms ha (by omega) (by omega) ?_
      have h7 : Sat W w3.drew (OwnS (elP T_api_Commit) p.told es :: (elP T_api_Commit).own c :: Blk b (gcells p g.wrong) T_penstocklaw12_group :: NdR p.nodes g.nodes :: KpR p.kept g.kept :: MsR p.flight g.flight :: IsR p.heads g.heads :: IsR p.applied g.applied :: Blk a0 c.cells T_api_Commit :: l) := Sat.sel h6 9 [1, 8, 0, 2, 3, 4, 5, 6, 7]
      refine own_swap (y := c) h7 ha (by omega) (by decide) (fun w4 h8 => ⟨⟨_, (h8.up 7).up 2⟩, ?_⟩)
      have h9 := back (h8.swap.cut 7)
      refine hK w4 ?_
      rw [et]
      have e2 : (es.set (c.t - 1).toNat c).map EnC.dat = G.told.set (c.t - 1).toNat c.dat := by rw [List.map_set, hes]
      rw [e2] at h9
      exact h9
    · have hS1 : ∀ w, S w → ∃ L, Sat W w (Blk b (gcells p g.wrong) T_penstocklaw12_group :: L) := fun w hw => ⟨_, hw⟩
      have hS2 : ∀ w, S w → ∃ L, Sat W w (Blk a0 c.cells T_api_Commit :: L) := fun w hw => ⟨_, Sat.up hw 7⟩
      have hS3 : ∀ w, S w → RdC w p.told 2 ((elP T_api_Commit).flat es) := fun w hw => (sat_own.1 (Sat.up hw 1)).rdc
      have bad : ∀ {w : World}, g.tell c.dat = { G with wrong := true } → S w → StoreP P T_bool (.pointer (some ((⟨b, 0, none⟩ : Addr).add 6))) (.bool true) w fun w' => K (.tuple #[]) w' := fun et hw => by
        refine stX hw 6 (v := .bool true) (hi := (by show 6 < 7; decide)) fun w4 h6 => hK w4 ?_
        rw [et]
        have h7 := back (p' := p) (wr := true) ((h6.cut 7).cut 7)
        rw [hes] at h7
        exact h7
      refine ⟨S, h5, ?_⟩
      refine hldX hS2 0 (x := c.t) ?_
      refine ifB_dec (fun hc1 => ?_) fun hc1 => ?_
      · exact bad (tell_bad1 hk' (by exact hc1)) h5
      · refine hldX hS1 3 (x := p.told) ?_
        refine hldX hS2 0 (x := c.t) ?_
        rw [w_i64 (n := c.t - 1) (by omega) (by omega)]
        have hlt : (c.t - 1).toNat < es.length := by rw [hel]; show _ < (tellG g k).told.length; rw [hlen]; omega
        have hx : es[(c.t - 1).toNat]? = some es[(c.t - 1).toNat] := List.getElem?_eq_getElem hlt
        generalize hE : es[(c.t - 1).toNat] = E at hx
        have hG : G.told[(c.t - 1).toNat]? = some E.dat := by rw [← hes, List.getElem?_map, hx]; rfl
        refine hixEl et_coms rfl hS3 h5 (by omega) hx (by omega) fun a ha => ?_
        refine ⟨E.t, fun w hw => run_load1 (by kernel_rfl) (ha w hw 0 _ rfl), ?_⟩
        refine ifB_bne (fun hne => ?_) fun he0 => ?_
        · refine hldX hS1 3 (x := p.told) ?_
          refine hldX hS2 0 (x := c.t) ?_
          rw [w_i64 (n := c.t - 1) (by omega) (by omega)]
          refine hixEl et_coms rfl hS3 h5 (by omega) hx (by omega) fun a2 ha2 => ?_
          refine ⟨E.s, fun w hw => run_load1 (by kernel_rfl) (ha2 w hw 1 _ rfl), ?_⟩
          refine hldX hS2 1 (x := c.s) ?_
          have hdl : E.d.length < 9223372036854775808 := by
            have h6 := own_open hx (h5.up 1)
            have := (Sat.bsLen (s := E.s) (o := E.d) h6)
            omega
          refine same_ok h5 (Rd.cons (Rd.ownE hx fun l => Rd.own)) (Rd.cons (Rd.cons (Rd.cons (Rd.cons (Rd.cons (Rd.cons (Rd.cons (Rd.cons Rd.own)))))))) hdl fun w3 h6 => tyI (k := .bool) ⟨h6, ?_⟩
          refine ifB_intro (fun hn => ?_) fun hn => ?_
          · have hn : E.d ≠ c.d := by simpa using hn
            exact bad (tell_bad2 hk' (by show ¬ c.t < 1; omega) hG ⟨hne, hn⟩) h6
          · have hn : E.d = c.d := by simpa using hn
            exact ⟨by omega, ⟨_, hG, .inr hn⟩, h6⟩
        · exact ⟨by omega, ⟨_, hG, .inl he0⟩, h5⟩
end
end Go.Proofs.Ytfbffgcoopelfaa
