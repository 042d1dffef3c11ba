/- Layer 12: a message is taken out of those under way; what happens to a group. -/
import Derived.Test.YtfbffgcoopelfaaRgC
namespace Go.Proofs.Ytfbffgcoopelfaa
open Go Go.Pk
abbrev zMsg : List Value := [.int .i64 0, .int .i64 0, .int .i64 0, .int .i64 0, .int .i64 0, .int .i64 0, .int .i64 0, .bool false, .slice none 0 0, .slice none 0 0]
section
variable {W w : World} {l : List Res} {K : Value → World → Prop} {b : Nat} {g : Gp}
theorem eraseIdx_eq {α : Type} (xs : List α) (k : Nat) (h : k < xs.length) : xs.eraseIdx k = xs.take k ++ xs.drop (k + 1) := List.eraseIdx_eq_take_drop_succ xs k
theorem erase_map {α β : Type} (f : α → β) (xs : List α) (k : Nat) : (xs.map f).eraseIdx k = (xs.eraseIdx k).map f := by
  rw [List.eraseIdx_eq_take_drop_succ, List.eraseIdx_eq_take_drop_succ, List.map_append, List.map_take, List.map_drop]
theorem out_ok {k : Nat} (h : Sat W w (GpR b g :: l)) (hk : k < g.flight.length) (hb : g.flight.length ≤ 1099511627776)
    (hK : ∀ m : MgC, g.flight[k]? = some m.dat → ∀ w', Sat W w' (GpR b { g with flight := g.flight.eraseIdx k } :: elM.own m :: l) → K (.agg m.cells.toArray) w') :
    CallP P F_law12_group_out [.pointer (some ⟨b, 0, none⟩), .int .i64 (k : Int)] w K := by
  apply c_law12_group_out
  unfold S_law12_group_out
  obtain ⟨p, h1⟩ := sat_gp.1 h
  obtain ⟨cs, hcs, h2⟩ := sat_ms.1 (Sat.up (L := GpL b g p l) h1 3)
  have hcl : cs.length = g.flight.length := by rw [← hcs]; simp
  have hol := own_len h2 (by decide : 0 < 10)
  have hx : cs[k]? = some cs[k] := List.getElem?_eq_getElem (by omega)
  generalize hE : cs[k] = m at hx
  have hfm : g.flight[k]? = some m.dat := by rw [← hcs, List.getElem?_map, hx]; rfl
  have h3 : Sat W w (Blk b (gcells p g.wrong) T_penstocklaw12_group :: OwnS elM p.flight cs :: NdR p.nodes g.nodes :: KpR p.kept g.kept :: PrR T_api_Commit p.told g.told :: IsR p.heads g.heads :: IsR p.applied g.applied :: l) := h2.swap
  refine allocB h3 (z := .agg zMsg.toArray) (by kernel_rfl) fun a0 w1 h4 => ?_
  have h4 : Sat W w1 (Blk a0 zMsg T_api_RMsg :: Blk b (gcells p g.wrong) T_penstocklaw12_group :: OwnS elM p.flight cs :: NdR p.nodes g.nodes :: KpR p.kept g.kept :: PrR T_api_Commit p.told g.told :: IsR p.heads g.heads :: IsR p.applied g.applied :: l) := h4
  refine ldX (h4.up 1) 2 (x := p.flight) ?_
  have h5 := sat_own.1 (h4.up 2)
  refine ixEl et_msgs (E := elM) rfl h5.rdc (by omega) (x := m) (by simpa using hx) (by omega) fun a ha => ?_
  refine ldAggC ha ?_
  refine newAgg (cs := elM.cells m) (z := zMsg) h5 (elM.one m) fun a6 w8 h6 => ?_
  have hbk : Sat W w8 (Blk b (gcells p g.wrong) T_penstocklaw12_group :: _) := h6.up 4
  refine ldX hbk 2 (x := p.flight) ?_
  refine ⟨⟨p.flight.a, k, p.flight.cap⟩, run_sliceHi (s := p.flight) (hi := (k : Int)) et_msgs (by omega) (by omega) _, ?_⟩
  have hsl : Sat W w8 (SlR T_api_RMsg 10 p.flight (elM.flat cs) :: _) := h6.up 1
  have hr1 : RdC w8 ⟨p.flight.a, k, p.flight.cap⟩ 10 (elM.flat (cs.take k)) := by
    have := hsl.rdc.hi (n := k) (by omega)
    rwa [show k * 10 = k * elM.sz from rfl, flat_take] at this
  refine appB et_msgs (by decide) (s := ⟨none, 0, 0⟩) (x := ⟨p.flight.a, k, p.flight.cap⟩) (xs := []) (news := elM.flat (cs.take k)) (Sat.nilSlr h6 T_api_RMsg 10) hr1 (flat_ones _) (by show (0 + k) * 112 ≤ _; omega) (by show 0 + k < _; omega) fun s12 w13 h7 l7 => ?_
  have l7 : s12.len = k := by have : s12.len = 0 + k := l7; omega
  rw [List.nil_append] at h7
  have hbk : Sat W w13 (Blk b (gcells p g.wrong) T_penstocklaw12_group :: _) := h7.up 5
  refine ldX hbk 2 (x := p.flight) ?_
  rw [w_i64 (n := (k : Int) + 1) (by omega) (by omega)]
  refine ⟨subSl p.flight 10 (k + 1) p.flight.len, run_sliceLo (lo := (k : Int) + 1) et_msgs (by omega) (by omega) (by omega) _, ?_⟩
  have hsl : Sat W w13 (SlR T_api_RMsg 10 p.flight (elM.flat cs) :: _) := h7.up 2
  have hr2 : RdC w13 (subSl p.flight 10 (k + 1) p.flight.len) 10 (elM.flat (cs.drop (k + 1))) := by
    have := hsl.rdc.sub (lo := k + 1) (hi := p.flight.len) (by omega) (Nat.le_refl _)
    rw [show (k + 1) * 10 = (k + 1) * elM.sz from rfl, flat_drop, List.take_of_length_le] at this
    · exact this
    · rw [flat_length, List.length_drop]
      have : elM.sz = 10 := rfl
      rw [this, hol.1]
      exact Nat.le_refl _
  refine appB et_msgs (by decide) (s := s12) (x := subSl p.flight 10 (k + 1) p.flight.len) (news := elM.flat (cs.drop (k + 1))) h7 hr2 (flat_ones _) (by show (s12.len + (p.flight.len - (k + 1))) * 112 ≤ _; omega) (by show s12.len + (p.flight.len - (k + 1)) < _; omega) fun s17 w18 h8 _ => ?_
  rw [← flat_app, ← eraseIdx_eq cs k (by omega)] at h8
  have h9 : Sat W w18 (Blk b (gcells p g.wrong) T_penstocklaw12_group :: Blk a6 (elM.cells m) T_api_RMsg :: Blk a0 zMsg T_api_RMsg :: SlR T_api_RMsg 10 s17 (elM.flat (cs.eraseIdx k)) :: All (cs.map elM.own) :: NdR p.nodes g.nodes :: KpR p.kept g.kept :: PrR T_api_Commit p.told g.told :: IsR p.heads g.heads :: IsR p.applied g.applied :: l) := Sat.sel h8 11 [5, 1, 4, 0, 3, 6, 7, 8, 9, 10]
  refine stX h9 2 (v := s17.v) (hi := (by show 2 < 7; decide)) fun w20 h10 => ?_
  refine ldAggX 0 10 (h10.up 1) ?_ (by show 0 + 10 ≤ 10; decide)
  refine stAggB (cs' := elM.cells m) (h10.up 2) rfl (elM.one m) (by kernel_rfl) fun w22 h11 => ?_
  refine ldAggB h11 (by kernel_rfl) ?_
  have h12 : Sat W w22 (All (cs.map elM.own) :: Blk b (gcells { p with flight := s17 } g.wrong) T_penstocklaw12_group :: SlR T_api_RMsg 10 s17 (elM.flat (cs.eraseIdx k)) :: NdR p.nodes g.nodes :: KpR p.kept g.kept :: PrR T_api_Commit p.told g.told :: IsR p.heads g.heads :: IsR p.applied g.applied :: l) := Sat.sel h11 10 [4, 1, 3, 5, 6, 7, 8, 9]
  have h13 := own_split (i := k) (R := elM.own m) (by rw [List.getElem?_map, hx]; rfl) h12
  rw [erase_map] at h13
  have h14 : Sat W w22 (OwnS elM s17 (cs.eraseIdx k) :: _) := sat_own.2 (Sat.sel h13 4 [3, 1, 0, 2])
  have h15 := sat_ms.2 ⟨_, rfl, h14⟩
  rw [← erase_map, hcs] at h15
  refine hK m hfm w22 ?_
  have h16 : Sat W w22 (GpL b { g with flight := g.flight.eraseIdx k } { p with flight := s17 } (elM.own m :: l)) := Sat.sel h15 8 [2, 3, 4, 0, 5, 6, 7, 1]
  exact sat_gp.2 ⟨_, h16⟩
theorem rd_id {i n : Int} (h0 : 0 ≤ i) (h1 : i < n) : Gp.rd i n = i := by
  unfold Gp.rd
  have e1 : i.tmod n = i := Int.tmod_eq_of_lt h0 h1
  rw [e1, Int.tmod_eq_emod_of_nonneg (by omega), Int.add_emod_right, Int.emod_eq_of_lt h0 h1]
structure TickOk (g : Gp) (i : Nat) (d : Int) : Prop where
  hi : i < g.nodes.length
  len : g.nodes.length ≤ 1000
  sane : Sane (g.node i)
  roomy : Roomy (g.node i)
  next : (g.node i).role = 3 → NextOk (g.node i)
  take : TakeOk { g with nodes := g.nodes.set i ((g.node i).tick d) } i
set_option maxRecDepth 20000 in
theorem act0_ok {i : Nat} {d : Int} {x : Sl} (h : Sat W w (GpR b g :: l)) (hd : 0 ≤ d ∧ d < 9223372036854775808) (ht : TickOk g i d) (hK : ∀ w', Sat W w' (GpR b (g.tick i d) :: l) → K (.tuple #[]) w') :
    CallP P F_law12_group_act [.pointer (some ⟨b, 0, none⟩), .agg #[.int .i64 0, .int .i64 (i : Int), .int .i64 d, x.v]] w K := by
  apply c_law12_group_act
  unfold S_law12_group_act
  have hi := ht.hi
  have hln := ht.len
  refine boxB h fun a0 w1 h1 => ?_
  have h1 : Sat W w1 (Blk a0 [.int .i64 0, .int .i64 (i : Int), .int .i64 d, x.v] T_penstocklaw12_Act :: GpR b g :: l) := h1
  obtain ⟨p, h2⟩ := sat_gp.1 h1.swap.drew
  have hnl := Sat.ndLen (Sat.up (L := GpL b g p _) h2 1)
  have hS2 : ∃ L, Sat W w1.drew (Blk a0 [.int .i64 0, .int .i64 (i : Int), .int .i64 d, x.v] T_penstocklaw12_Act :: Blk b (gcells p g.wrong) T_penstocklaw12_group :: L) := ⟨_, h2.sel 8 [7, 0]⟩
  refine ⟨fun w => ∃ L, Sat W w (Blk a0 [.int .i64 0, .int .i64 (i : Int), .int .i64 d, x.v] T_penstocklaw12_Act :: Blk b (gcells p g.wrong) T_penstocklaw12_group :: L), hS2, ?_⟩
  have hSa : ∀ w, (∃ L, Sat W w (Blk a0 [.int .i64 0, .int .i64 (i : Int), .int .i64 d, x.v] T_penstocklaw12_Act :: Blk b (gcells p g.wrong) T_penstocklaw12_group :: L)) → ∃ L, Sat W w (Blk a0 [.int .i64 0, .int .i64 (i : Int), .int .i64 d, x.v] T_penstocklaw12_Act :: L) := fun w hw => by obtain ⟨L, hw⟩ := hw; exact ⟨_, hw⟩
  have hSb : ∀ w, (∃ L, Sat W w (Blk a0 [.int .i64 0, .int .i64 (i : Int), .int .i64 d, x.v] T_penstocklaw12_Act :: Blk b (gcells p g.wrong) T_penstocklaw12_group :: L)) → ∃ L, Sat W w (Blk b (gcells p g.wrong) T_penstocklaw12_group :: L) := fun w hw => by obtain ⟨L, hw⟩ := hw; exact ⟨_, hw.swap⟩
  refine hldX hSa 1 (x := (i : Int)) ?_
  refine hldX hSb 0 (x := p.nodes) ?_
  have hrd : Gp.rd (i : Int) (p.nodes.len : Int) = i := rd_id (by omega) (by omega)
  refine round_ok h1.drew (by omega) ?_
  rw [hrd]
  refine tyI ⟨hS2, ?_⟩
  refine ldX (h2.up 7) 0 (x := (0 : Int)) ?_
  refine ifB_beq (fun _ => ?_) fun hne => absurd rfl hne
  have h3 := h2.drew
  have hnr := node_eq hi
  obtain ⟨bs, bn, hbs, hbi, h4⟩ := nd_open hnr (h3.up 1)
  obtain ⟨a, ha⟩ := some_of_lt (ndX_sl (h4.up 1)).rdc (n := i) (by omega)
  have hcell : ∀ w, (∃ L, Sat W w (Blk a0 [.int .i64 0, .int .i64 (i : Int), .int .i64 d, x.v] T_penstocklaw12_Act :: Blk b (gcells p g.wrong) T_penstocklaw12_group :: NdX p.nodes bs i :: L)) → w.cell? (a.add (i * 1)) = some (.pointer (some ⟨bn, 0, none⟩)) := fun w hw => by
    obtain ⟨L, hw⟩ := hw
    have h5 := ndX_sl (hw.up 2)
    exact h5.rdc.2.2.2 a ha (i * 1) _ (flat_at (E := elN) (j := 0) hbi rfl)
  have h4 : Sat W w1.drew.drew (RaR bn (g.node i) :: Blk a0 [.int .i64 0, .int .i64 (i : Int), .int .i64 d, x.v] T_penstocklaw12_Act :: Blk b (gcells p g.wrong) T_penstocklaw12_group :: NdX p.nodes bs i :: KpR p.kept g.kept :: MsR p.flight g.flight :: PrR T_api_Commit p.told g.told :: IsR p.heads g.heads :: IsR p.applied g.applied :: l) := Sat.sel h4 9 [0, 8, 2, 1, 3, 4, 5, 6, 7]
  refine ⟨fun w => ∃ L, Sat W w (Blk a0 [.int .i64 0, .int .i64 (i : Int), .int .i64 d, x.v] T_penstocklaw12_Act :: Blk b (gcells p g.wrong) T_penstocklaw12_group :: NdX p.nodes bs i :: L), ⟨_, h4.tail⟩, ?_⟩
  refine hldX (fun w hw => by obtain ⟨L, hw⟩ := hw; exact ⟨_, hw.swap⟩) 0 (x := p.nodes) ?_
  refine hixP et_nodes ha (by omega) (by omega) ?_
  have hin : (i : Int).toNat = i := by omega
  rw [hin]
  refine ⟨some ⟨bn, 0, none⟩, fun w hw => run_load1 (by kernel_rfl) (hcell w hw), ?_⟩
  refine hldX (fun w hw => by obtain ⟨L, hw⟩ := hw; exact ⟨_, hw⟩) 2 (x := d) ?_
  rw [w_u64 (by omega) (by omega)]
  refine tick_ok h4 (by omega) ht.sane ht.roomy ht.next fun w17 h5 => tupU rfl ⟨⟨_, h5.tail⟩, ?_⟩
  have h6 := nd_close hbi (h5.sel 9 [0, 3, 1, 2, 4, 5, 6, 7, 8])
  rw [hbs] at h6
  have h7 : Sat W w17 (GpL b { g with nodes := g.nodes.set i ((g.node i).tick d) } p l) := h6.sel 8 [2, 0, 3, 4, 5, 6, 7]
  exact gtake_ok (sat_gp.2 ⟨p, h7⟩) ht.take fun w20 h8 => tupU rfl (hK w20 h8)
/-- numbers of a message -/
structure MgSm (r : Rs) (m : Mg) : Prop where
  index : -9223372036854775808 ≤ m.index ∧ m.index < 9223372036854775808
  term : 0 ≤ m.term ∧ m.term + 1 < 4611686018427387904
  sm : EnSm m.ents
  room : r.hd.log.length + m.ents.length < 2 ^ 40
  snap : m.snap.length ≤ 140737488355328
structure GiveOk (g : Gp) (m : Mg) (ms : List Mg) (i : Nat) : Prop where
  hi : i < g.nodes.length
  sane : Sane (g.node i)
  roomy : Roomy (g.node i)
  vote : Voting (g.node i)
  next : NextOk (g.node i)
  msg : MgSm (g.node i) m
  take : TakeOk { g with flight := ms, nodes := g.nodes.set i ((g.node i).step m) } i
set_option maxRecDepth 20000 in
theorem act1_ok {d : Int} {x : Sl} (h : Sat W w (GpR b g :: l)) (hl : 0 < g.nodes.length ∧ g.nodes.length ≤ 1000) (hf : g.flight.length ≤ 1099511627776)
    (hg : ∀ m ms, g.flight = m :: ms → 0 ≤ m.to → m.to < g.nodes.length → GiveOk g m ms m.to.toNat) (hK : ∀ w', Sat W w' (GpR b g.give :: l) → K (.tuple #[]) w') :
    CallP P F_law12_group_act [.pointer (some ⟨b, 0, none⟩), .agg #[.int .i64 1, .int .i64 0, .int .i64 d, x.v]] w K := by
  apply c_law12_group_act
  unfold S_law12_group_act
  refine boxB h fun a0 w1 h1 => ?_
  have h1 : Sat W w1 (Blk a0 [.int .i64 1, .int .i64 0, .int .i64 d, x.v] T_penstocklaw12_Act :: GpR b g :: l) := h1
  obtain ⟨p, h2⟩ := sat_gp.1 h1.swap.drew
  have hnl := Sat.ndLen (Sat.up (L := GpL b g p _) h2 1)
  have hml := Sat.msLen (Sat.up (L := GpL b g p _) h2 3)
  let SA : World → Prop := fun w => ∃ L, Sat W w (Blk a0 [.int .i64 1, .int .i64 0, .int .i64 d, x.v] T_penstocklaw12_Act :: Blk b (gcells p g.wrong) T_penstocklaw12_group :: L)
  have hS2 : SA w1.drew := ⟨_, h2.sel 8 [7, 0]⟩
  have hSa : ∀ w, SA w → ∃ L, Sat W w (Blk a0 [.int .i64 1, .int .i64 0, .int .i64 d, x.v] T_penstocklaw12_Act :: L) := fun w hw => by obtain ⟨L, hw⟩ := hw; exact ⟨_, hw⟩
  have hSb : ∀ w, SA w → ∃ L, Sat W w (Blk b (gcells p g.wrong) T_penstocklaw12_group :: L) := fun w hw => by obtain ⟨L, hw⟩ := hw; exact ⟨_, hw.swap⟩
  refine ⟨SA, hS2, ?_⟩
  refine hldX hSa 1 (x := (0 : Int)) ?_
  refine hldX hSb 0 (x := p.nodes) ?_
  refine round_ok h1.drew (by omega) ?_
  rw [rd_id (by omega) (by omega)]
  refine tyI ⟨hS2, ?_⟩
  refine ldX (h2.up 7) 0 (x := (1 : Int)) ?_
  refine ifB_beq (fun hne => absurd hne (by decide)) fun _ => ?_
  refine ifB_beq (fun _ => ?_) fun hne => absurd rfl hne
  refine ldX h2 2 (x := p.flight) ?_
  refine ifB_beq (fun he => ?_) fun hne => ?_
  · have e : g.flight = [] := List.length_eq_zero_iff.1 (by omega)
    have e1 : g.give = g := by unfold Gp.give; rw [e]
    rw [e1] at hK
    exact hK _ h1.drew.tail
  · obtain ⟨m0, ms, hfm⟩ : ∃ m0 ms, g.flight = m0 :: ms := by
      cases hh : g.flight with
      | nil => rw [hh] at hml; simp at hml; omega
      | cons a b => exact ⟨a, b, rfl⟩
    have hpl : 0 < p.flight.len := by omega
    let C : List Value := [.int .i64 1, .int .i64 0, .int .i64 d, x.v]
    let J : (Addr × Unit) → World → Prop := fun t w => ∃ (a : Nat) (m : MgC), t = (⟨a, 0, none⟩, ()) ∧ m.dat = m0 ∧ Sat W w (Blk a m.cells T_api_RMsg :: GpR b { g with flight := ms } :: elM.own m :: Blk a0 C T_penstocklaw12_Act :: l)
    let X0 : World → Prop := fun w => Sat W w (GpL b g p (Blk a0 C T_penstocklaw12_Act :: l))
    let X1 : Nat → World → Prop := fun a w => Sat W w (GpL b g p (Blk a0 C T_penstocklaw12_Act :: Blk a zMsg T_api_RMsg :: l))
    have OU : ∀ {w : World} {L : List Res} {K : Value → World → Prop}, Sat W w (GpL b g p L) → (∀ m : MgC, m.dat = m0 → ∀ w', Sat W w' (GpR b { g with flight := ms } :: elM.own m :: L) → K (.agg m.cells.toArray) w') →
        CallP P F_law12_group_out [.pointer (some ⟨b, 0, none⟩), .int .i64 0] w K := fun h hk => by
      refine out_ok (k := 0) (sat_gp.2 ⟨p, h⟩) (by omega) hf fun m hm w' h' => hk m ?_ w' ?_
      · rw [hfm] at hm
        exact (Option.some.inj hm).symm
      · rw [hfm] at h'
        exact h'
    have RO : ∀ {w : World} {L : List Res} {K : Value → World → Prop}, Sat W w L → K (.int .i64 0) w → CallP P F_law12_round [.int .i64 0, .int .i64 (p.flight.len : Int)] w K := fun h hk => by
      refine round_ok h (by omega) ?_
      rw [rd_id (by omega) (by omega)]; exact hk
    have AL : ∀ {w : World} {K : Addr → World → Prop}, X0 w → (∀ a w', X1 a w' → K ⟨a, 0, none⟩ w') → RunK .addr P (Instr.alloc T_api_RMsg true (.tuple #[])) w K := fun h hk =>
      allocB h (z := .agg zMsg.toArray) (by kernel_rfl) fun a w' h' => by
        have h2 : Sat W w' (Blk a zMsg T_api_RMsg :: GpL b g p (Blk a0 C T_penstocklaw12_Act :: l)) := h'
        exact hk a w' (h2.sel 9 [1, 2, 3, 4, 5, 6, 7, 8, 0])
    have E2 : ∀ {w : World} {a : Nat}, X1 a w → CallP P F_law12_group_out [.pointer (some ⟨b, 0, none⟩), .int .i64 0] w fun v w1 => TyP .val v fun v2 => True ∧ StoreP P T_api_RMsg (.pointer (some (⟨a, 0, none⟩ : Addr))) v2 w1 fun w2 => True ∧ J (⟨a, 0, none⟩, ()) w2 := fun {w a} h => by
      refine OU h fun m hm w1 h1 => tyI (k := .val) ⟨trivial, ?_⟩
      refine stAggB (cs' := elM.cells m) (h1.up 3) rfl (elM.one m) (by kernel_rfl) fun w2 h2 => ⟨trivial, a, m, rfl, hm, h2⟩
    have E1 : ∀ {w : World}, X0 w → CallP P F_law12_group_out [.pointer (some ⟨b, 0, none⟩), .int .i64 0] w fun v w1 => TyP .val v fun v2 => True ∧ RunK .addr P (Instr.alloc T_api_RMsg true (.tuple #[])) w1 fun a w2 => True ∧ StoreP P T_api_RMsg (.pointer (some a)) v2 w2 fun w3 => True ∧ J (a, ()) w3 := fun {w} h => by
      refine OU h fun m hm w1 h1 => tyI (k := .val) ⟨trivial, ?_⟩
      refine allocB h1 (z := .agg zMsg.toArray) (by kernel_rfl) fun a w2 h2 => ⟨trivial, ?_⟩
      have h2 : Sat W w2 (Blk a zMsg T_api_RMsg :: _) := h2
      exact stAggB (cs' := elM.cells m) h2 rfl (elM.one m) (by kernel_rfl) fun w3 h3 => ⟨trivial, a, m, rfl, hm, h3⟩
    have x0 : X0 _ := h2.drew
    have A0 : ∀ {w : World} {K : Int → Prop}, X0 w → K 0 → RunQ (.int .i64) P (Instr.loadAt T_int (.pointer (some (Go.Addr.add (⟨a0, 0, none⟩ : Addr) 1)))) w K := fun h hk => ldX (Sat.up h 7) 1 (x := (0 : Int)) hk
    have A1 : ∀ {w : World} {a : Nat} {K : Int → Prop}, X1 a w → K 0 → RunQ (.int .i64) P (Instr.loadAt T_int (.pointer (some (Go.Addr.add (⟨a0, 0, none⟩ : Addr) 1)))) w K := fun h hk => ldX (Sat.up h 7) 1 (x := (0 : Int)) hk
    have F0 : ∀ {w : World} {K : Sl → Prop}, X0 w → K p.flight → RunQ .sl P (Instr.loadAt T_sl_api_RMsg (.pointer (some ((⟨b, 0, none⟩ : Addr).add 2)))) w K := fun h hk => ldX h 2 (x := p.flight) hk
    have F1 : ∀ {w : World} {a : Nat} {K : Sl → Prop}, X1 a w → K p.flight → RunQ .sl P (Instr.loadAt T_sl_api_RMsg (.pointer (some ((⟨b, 0, none⟩ : Addr).add 2)))) w K := fun h hk => ldX h 2 (x := p.flight) hk
    refine ⟨J, ?_, fun _ => True, trivial, ?_⟩
    · rintro _ w26 ⟨a, m, rfl, hm, h3⟩
      subst hm
      refine ldX (h3.up 3) 0 (x := (1 : Int)) ?_
      refine ifB_beq (fun hne => absurd hne (by decide)) fun _ => ?_
      have hto : m.dat.to = m.to := rfl
      refine ⟨fun _ w' => 0 ≤ m.to ∧ m.to < g.nodes.length ∧ Sat W w' (Blk a m.cells T_api_RMsg :: GpR b { g with flight := ms } :: elM.own m :: Blk a0 C T_penstocklaw12_Act :: l), ?_, ?_⟩
      · rintro _ w89 ⟨t0, t1, h4⟩
        have hgo := hg m.dat ms hfm t0 t1
        have eG : g.give = ({ g with flight := ms, nodes := g.nodes.set m.to.toNat ((g.node m.to.toNat).step m.dat) } : Gp).take m.to.toNat := by
          unfold Gp.give
          rw [hfm]
          simp only
          rw [if_neg (by rw [hto]; show ¬ (m.to < 0 ∨ m.to ≥ (g.nodes.length : Int)); omega)]
          rfl
        rw [hto] at hgo
        refine ldX h4 2 (x := m.to) ?_
        have h4 := h4.drew
        obtain ⟨p, h5⟩ := sat_gp.1 h4.swap
        have hnr := node_eq hgo.hi
        obtain ⟨bs, bn, hbs, hbi, h6⟩ := nd_open (rs := g.nodes) hnr (Sat.up (L := GpL b { g with flight := ms } p _) h5 1)
        have hnl := Sat.ndLen (Sat.up (L := GpL b { g with flight := ms } p _) h5 1)
        have hnl1 : p.nodes.len = g.nodes.length := hnl.1
        obtain ⟨aa, ha⟩ := some_of_lt (ndX_sl (h6.up 1)).rdc (n := m.to.toNat) (by have := hgo.hi; omega)
        have h7 : Sat W w89.drew (All [PrR T_api_Entry m.es m.ents, BsR m.ss m.snap] :: RaR bn (g.node m.to.toNat) :: Blk b (gcells p g.wrong) T_penstocklaw12_group :: NdX p.nodes bs m.to.toNat :: Blk a m.cells T_api_RMsg :: KpR p.kept g.kept :: MsR p.flight ms :: PrR T_api_Commit p.told g.told :: IsR p.heads g.heads :: IsR p.applied g.applied :: l) :=
          Sat.sel h6 11 [9, 0, 2, 1, 8, 3, 4, 5, 6, 7]
        have h8 : Sat W w89.drew (PrR T_api_Entry m.es m.ents :: BsR m.ss m.snap :: RaR bn (g.node m.to.toNat) :: Blk b (gcells p g.wrong) T_penstocklaw12_group :: NdX p.nodes bs m.to.toNat :: Blk a m.cells T_api_RMsg :: KpR p.kept g.kept :: MsR p.flight ms :: PrR T_api_Commit p.told g.told :: IsR p.heads g.heads :: IsR p.applied g.applied :: l) := sat_all.1 h7
        obtain ⟨es, hes, h9⟩ := sat_pr.1 h8
        have h10 : Sat W w89.drew (RaR bn (g.node m.to.toNat) :: OwnS (elP T_api_Entry) m.es es :: BsR m.ss m.snap :: Blk b (gcells p g.wrong) T_penstocklaw12_group :: NdX p.nodes bs m.to.toNat :: Blk a m.cells T_api_RMsg :: KpR p.kept g.kept :: MsR p.flight ms :: PrR T_api_Commit p.told g.told :: IsR p.heads g.heads :: IsR p.applied g.applied :: l) := h9.up 2
        let S : World → Prop := fun w => ∃ L, Sat W w (Blk b (gcells p g.wrong) T_penstocklaw12_group :: NdX p.nodes bs m.to.toNat :: Blk a m.cells T_api_RMsg :: L)
        have hcell : ∀ w, S w → w.cell? (aa.add (m.to.toNat * 1)) = some (.pointer (some ⟨bn, 0, none⟩)) := fun w hw => by
          obtain ⟨L, hw⟩ := hw
          have h5 := ndX_sl (hw.up 1)
          exact h5.rdc.2.2.2 aa ha (m.to.toNat * 1) _ (flat_at (E := elN) (j := 0) hbi rfl)
        refine ⟨S, ⟨_, h10.sel 6 [3, 4, 5]⟩, ?_⟩
        refine hldX (fun w hw => by obtain ⟨L, hw⟩ := hw; exact ⟨_, hw⟩) 0 (x := p.nodes) ?_
        refine hixP et_nodes ha t0 (by have := hgo.hi; omega) ?_
        refine ⟨some ⟨bn, 0, none⟩, fun w hw => run_load1 (by kernel_rfl) (hcell w hw), ?_⟩
        refine hldAggX 0 10 (fun w hw => by obtain ⟨L, hw⟩ := hw; exact ⟨_, hw.up 2⟩) ?_ (by show 0 + 10 ≤ 10; decide)
        refine step_ok (m := m) h10 hgo.sane hgo.roomy hgo.vote hgo.next (fun _ => ⟨⟨⟨es, hes, Rd.ownS, fun e he => ?_⟩, Rd.cons Rd.own⟩, hgo.msg.index, hgo.msg.term, hgo.msg.sm, hgo.msg.room, hgo.msg.snap⟩) fun w103 h11 => tupU rfl ⟨⟨_, h11.sel 6 [3, 4, 5]⟩, ?_⟩
        · obtain ⟨i, hi⟩ := List.getElem?_of_mem he
          exact Rd.ownE hi fun l => Rd.own
        · have h12 := nd_close hbi (h11.sel 11 [0, 4, 3, 6, 7, 8, 9, 10])
          rw [hbs] at h12
          have h13 : Sat W w103 (GpL b { g with flight := ms, nodes := g.nodes.set m.to.toNat ((g.node m.to.toNat).step m.dat) } p l) := h12.sel 7 [1, 0, 2, 3, 4, 5, 6]
          have hin : (m.to.toNat : Int) = m.to := by omega
          have h14 := gtake_ok (i := m.to.toNat) (K := fun v w' => TupP [] v fun _ => K (.tuple #[]) w') (sat_gp.2 ⟨p, h13⟩) hgo.take fun w' h' => tupU rfl (hK w' (by rw [eG]; exact h'))
          rw [hin] at h14
          exact h14
      · have out : ¬ (0 ≤ m.to ∧ m.to < g.nodes.length) → K (.tuple #[]) w26.drew := fun ho => by
          have eG : g.give = { g with flight := ms } := by
            unfold Gp.give
            rw [hfm]
            simp only
            rw [if_pos (by rw [hto]; show m.to < 0 ∨ m.to ≥ (g.nodes.length : Int); omega)]
          rw [eG] at hK
          exact hK _ (h3.drew.sel 4 [1])
        have h4 := h3.drew
        refine ldX (h4.up 3) 0 (x := (1 : Int)) ?_
        refine ifB_beq (fun hne => absurd hne (by decide)) fun _ => ?_
        refine ldX h4 2 (x := m.to) ?_
        refine ifB_dec (fun c1 => out (by omega)) fun c1 => ?_
        refine ldX h4 2 (x := m.to) ?_
        obtain ⟨p2, h5⟩ := sat_gp.1 h4.swap
        have hnl2 := Sat.ndLen (Sat.up (L := GpL b { g with flight := ms } p2 _) h5 1)
        have hnl3 : p2.nodes.len = g.nodes.length := hnl2.1
        refine ldX h5 0 (x := p2.nodes) ?_
        refine ifB_dec (fun c2 => out (by omega)) fun c2 => ?_
        exact ⟨by omega, by omega, h4⟩
    · have eA : ∀ {w : World}, X0 w → RunK .addr P (Instr.alloc T_api_RMsg true (.tuple #[])) w fun a w1 => True ∧ CallP P F_law12_round [.int .i64 0, .int .i64 (p.flight.len : Int)] w1 fun v w2 => TyP (.int .i64) v fun n => True ∧ CallP P F_law12_group_out [.pointer (some ⟨b, 0, none⟩), .int .i64 n] w2 fun v w3 => TyP .val v fun v2 => True ∧ StoreP P T_api_RMsg (.pointer (some a)) v2 w3 fun w4 => True ∧ J (a, ()) w4 :=
        fun h => AL h fun a w1 h1 => ⟨trivial, RO h1 (tyI (k := .int .i64) (x := (0 : Int)) ⟨trivial, E2 h1⟩)⟩
      have eB : ∀ {w : World}, X0 w → CallP P F_law12_round [.int .i64 0, .int .i64 (p.flight.len : Int)] w fun v w2 => TyP (.int .i64) v fun n => True ∧ (CallP P F_law12_group_out [.pointer (some ⟨b, 0, none⟩), .int .i64 n] w2 fun v w1 => TyP .val v fun v2 => True ∧ RunK .addr P (Instr.alloc T_api_RMsg true (.tuple #[])) w1 fun a w2 => True ∧ StoreP P T_api_RMsg (.pointer (some a)) v2 w2 fun w3 => True ∧ J (a, ()) w3) ∧
          (RunK .addr P (Instr.alloc T_api_RMsg true (.tuple #[])) w2 fun a w1 => True ∧ CallP P F_law12_group_out [.pointer (some ⟨b, 0, none⟩), .int .i64 n] w1 fun v w3 => TyP .val v fun v2 => True ∧ StoreP P T_api_RMsg (.pointer (some a)) v2 w3 fun w4 => True ∧ J (a, ()) w4) ∧ True :=
        fun h => RO h (tyI (k := .int .i64) (x := (0 : Int)) ⟨trivial, E1 h, AL h fun a w1 h1 => ⟨trivial, E2 h1⟩, trivial⟩)
      have eC : ∀ {w : World} {a : Nat}, X1 a w → CallP P F_law12_round [.int .i64 0, .int .i64 (p.flight.len : Int)] w fun v w2 => TyP (.int .i64) v fun n => True ∧ CallP P F_law12_group_out [.pointer (some ⟨b, 0, none⟩), .int .i64 n] w2 fun v w3 => TyP .val v fun v2 => True ∧ StoreP P T_api_RMsg (.pointer (some (⟨a, 0, none⟩ : Addr))) v2 w3 fun w4 => True ∧ J (⟨a, 0, none⟩, ()) w4 :=
        fun h1 => RO h1 (tyI (k := .int .i64) (x := (0 : Int)) ⟨trivial, E2 h1⟩)
      refine ⟨A0 x0 ⟨trivial, F0 x0 ⟨trivial, eB x0, eA x0, trivial⟩, AL x0 fun a w1 h1 => ⟨trivial, F1 h1 ⟨trivial, eC h1⟩⟩, trivial⟩, F0 x0 ⟨trivial, A0 x0 ⟨trivial, eB x0, eA x0, trivial⟩, AL x0 fun a w1 h1 => ⟨trivial, A1 h1 ⟨trivial, eC h1⟩⟩, trivial⟩, AL x0 fun a w1 h1 => ⟨trivial, A1 h1 ⟨trivial, F1 h1 ⟨trivial, eC h1⟩⟩, F1 h1 ⟨trivial, A1 h1 ⟨trivial, eC h1⟩⟩, trivial⟩, trivial⟩
end
end Go.Proofs.Ytfbffgcoopelfaa
