/- Layer 12: a group does what a node wants done. -/
import Derived.Test.YtfbffgcoopelfaaRgB
namespace Go.Proofs.Ytfbffgcoopelfaa
open Go Go.Pk
section
variable {W w : World} {l : List Res}
/-- a store into a slice of one's own -/
theorem stSlV {T t' : TypeId} {s : Sl} {xs : List Value} (h : Sat W w (SlR T 1 s xs :: l)) {a : Addr} {i : Nat} {v : Value} (ha : s.a = some a) (h1 : i < s.len) {K : World → Prop}
    (hK : ∀ w', Sat W w' (SlR T 1 s (xs.set i v) :: l) → K w') (hv : v.oneCell' = true := by rfl) (ht : oneT P t' = true := by kernel_rfl) : StoreP P t' (.pointer (some (a.add (i * 1)))) v w K := by
  rcases h.slr with ⟨_, h2, _⟩ | ⟨g, o, cur, ha', hb, h2, h3, h4, h5, h6⟩
  · omega
  · rw [ha'] at ha
    obtain rfl := Option.some.inj ha
    rw [add_add]
    have hlt : o + i * 1 < cur.length := by omega
    refine Go.Pk.stV hb (fun w' h' => hK w' (h'.mkSlr ha' h2 h3 (by simpa using h4) ?_ ?_)) hv hlt ht
    · subst h5
      rw [List.drop_set, if_neg (by omega), List.take_set, show o + i * 1 - o = i by omega]
    · intro u hu
      rcases List.mem_or_eq_of_mem_set hu with hu | rfl
      · exact h6 u hu
      · exact hv
end
structure TakeOk (g : Gp) (i : Nat) : Prop where
  hi : i < g.nodes.length
  kept : g.kept.length = g.nodes.length
  applied : g.applied.length = g.nodes.length
  fit : Takes (g.node i)
  base : ∀ h ∈ g.kept, 0 ≤ h.base ∧ h.base ≤ 1099511627776
  rbase : 0 ≤ (g.node i).hd.base ∧ (g.node i).hd.base ≤ 1099511627776
  coms : ∀ c ∈ (Rs.taken (g.node i)).1.commits, 0 ≤ c.1 ∧ c.1 ≤ 1099511627776
  app : ∀ x ∈ g.applied, 0 ≤ x ∧ x ≤ 1099511627776
  told : g.told.length ≤ 1099511627776
  flight : (g.node i).msgs.length ≤ 1099511627776
  heads : g.heads.length ≤ 1099511627776
theorem node_eq {g : Gp} {i : Nat} (h : i < g.nodes.length) : g.nodes[i]? = some (g.node i) := by
  unfold Gp.node
  rw [List.getElem?_eq_getElem h]
theorem app_eq {g : Gp} {i : Nat} (h : i < g.applied.length) : g.applied[i]? = some (g.app i) := by
  unfold Gp.app
  rw [List.getElem?_eq_getElem h]
/-- what hearing leaves -/
structure Hearing (g0 g : Gp) : Prop where
  nodes : g.nodes = g0.nodes
  kept : g.kept = g0.kept
  flight : g.flight = g0.flight
  heads : g.heads = g0.heads
  applied : g.applied.length = g0.applied.length
  app : ∀ x ∈ g.applied, 0 ≤ x ∧ x ≤ 1099511627776
  told : g.told.length ≤ 1099511627776
theorem tell_keeps (g : Gp) (c : En) (ht : g.told.length ≤ 1099511627776) (hc : c.1 ≤ 1099511627776) : (g.tell c).nodes = g.nodes ∧ (g.tell c).kept = g.kept ∧ (g.tell c).flight = g.flight ∧ (g.tell c).heads = g.heads ∧ (g.tell c).applied = g.applied ∧ (g.tell c).told.length ≤ 1099511627776 := by
  have hl : (g.told ++ List.replicate (c.1 - g.told.length).toNat (0, [])).length ≤ 1099511627776 := by simp; omega
  unfold Gp.tell
  simp only
  split
  · exact ⟨rfl, rfl, rfl, rfl, rfl, hl⟩
  · split
    · split
      · exact ⟨rfl, rfl, rfl, rfl, rfl, hl⟩
      · exact ⟨rfl, rfl, rfl, rfl, rfl, by rw [List.length_set]; exact hl⟩
    · exact ⟨rfl, rfl, rfl, rfl, rfl, hl⟩
theorem Hearing.next {g0 g : Gp} (h : Hearing g0 g) (i : Nat) {c : En} (hc : 0 ≤ c.1 ∧ c.1 ≤ 1099511627776) : Hearing g0 (Gp.hear i g c) := by
  have hw : ∀ q : Gp, Hearing g0 q → Hearing g0 (Gp.tell { q with applied := q.applied.set i c.1 } c) := fun q h => by
    obtain ⟨a, b, d, e, f, k⟩ := tell_keeps { q with applied := q.applied.set i c.1 } c h.told hc.2
    refine ⟨a.trans h.nodes, b.trans h.kept, d.trans h.flight, e.trans h.heads, by rw [f]; simpa using h.applied, ?_, k⟩
    rw [f]
    intro x hx
    rcases List.mem_or_eq_of_mem_set hx with hx | rfl
    · exact h.app x hx
    · exact hc
  unfold Gp.hear
  simp only
  split
  · exact hw _ ⟨h.nodes, h.kept, h.flight, h.heads, h.applied, h.app, h.told⟩
  · exact hw _ h
theorem Hearing.all {g0 : Gp} (i : Nat) : ∀ (cs : List En) (g : Gp), Hearing g0 g → (∀ c ∈ cs, 0 ≤ c.1 ∧ c.1 ≤ 1099511627776) → Hearing g0 (cs.foldl (Gp.hear i) g)
  | [], _, h, _ => h
  | c :: cs, g, h, hc => Hearing.all i cs _ (h.next i (hc c List.mem_cons_self)) fun d hd => hc d (List.mem_cons_of_mem _ hd)
theorem take0_hearing {g : Gp} {i : Nat} (hg : TakeOk g i) : Hearing (g.take0 i) (g.take0 i) := by
  have h1 : (∀ x ∈ (g.take0 i).applied, 0 ≤ x ∧ x ≤ 1099511627776) ∧ (g.take0 i).told.length ≤ 1099511627776 := by
    unfold Gp.take0
    simp only
    split
    · refine ⟨?_, hg.told⟩
      intro x hx
      rcases List.mem_or_eq_of_mem_set hx with hx | rfl
      · exact hg.app x hx
      · split
        · rename_i h hh
          have := List.mem_of_getElem? hh
          split at this
          · rcases List.mem_or_eq_of_mem_set this with h3 | rfl
            · exact hg.base h h3
            · exact hg.rbase
          · exact hg.base h this
        · exact ⟨by decide, by decide⟩
    · exact ⟨hg.app, hg.told⟩
  exact ⟨rfl, rfl, rfl, rfl, rfl, h1.1, h1.2⟩
theorem take0_keeps {g : Gp} {i : Nat} : (g.take0 i).nodes = g.nodes.set i (Rs.taken (g.node i)).2 ∧ (g.take0 i).flight = g.flight ∧ (g.take0 i).heads = g.heads ∧ (g.take0 i).applied.length = g.applied.length := by
  unfold Gp.take0
  simp only
  split
  · exact ⟨rfl, rfl, rfl, by simp⟩
  · exact ⟨rfl, rfl, rfl, rfl⟩
section
variable {W w : World} {l : List Res} {K : Value → World → Prop} {b : Nat} {g : Gp}
theorem run_bsInt (x : Int) (w : World) : (Instr.buildSlice T_sl_int 1 #[(0, .int .i64 x)]).run P w = .ok (.slice (some ⟨w.heap.size, 0, none⟩) 1 1) (w.alloc (.cells #[.int .i64 x] T_int)) := by kernel_rfl
theorem isPush {s : Sl} {xs : List Int} {x : Int} {ty : TypeId} (h : Sat W w (IsR s xs :: l)) (hb : xs.length ≤ 1099511627776) {K : Sl → World → Prop} (hK : ∀ s' w', Sat W w' (IsR s' (xs ++ [x]) :: l) → K s' w') :
    RunK .sl P (Instr.buildSlice T_sl_int 1 #[(0, .int .i64 x)]) w fun s1 w1 => RunK .sl P (Builtin.append_ #[T_sl_int, T_sl_int] ty #[s.v, s1.v]) w1 K := by
  refine bsB h (cs := [.int .i64 x]) (e := T_int) (run_bsInt x) fun gb w1 h1 => ?_
  have hl := Sat.isLen h
  refine appB et_ints (by decide) h1.swap (x := ⟨some ⟨gb, 0, none⟩, 1, 1⟩) (news := [x].map vI) (rdBlk h1 (by simp)) (vI_all [x]) (by show (s.len + 1) * 8 ≤ _; omega) (by show s.len + 1 < _; omega) fun s' w2 h2 _ => ?_
  rw [← List.map_append] at h2
  exact hK s' w2 (h2.cut 1)
theorem sent_keeps (g : Gp) (ms : List Mg) : (g.sent ms).nodes = g.nodes ∧ (g.sent ms).heads = g.heads ∧ (g.sent ms).kept = g.kept ∧ (g.sent ms).applied = g.applied ∧ (g.sent ms).told = g.told ∧ (g.sent ms).wrong = g.wrong := by
  unfold Gp.sent
  split <;> exact ⟨rfl, rfl, rfl, rfl, rfl, rfl⟩
/-- the last part: who leads -/
def headK (g : Gp) (k : Nat) : Gp := { g with heads := g.heads ++ List.replicate k (-1) }
set_option maxRecDepth 20000 in
theorem gtake_ok {i : Nat} (h : Sat W w (GpR b g :: l)) (hg : TakeOk g i) (hK : ∀ w', Sat W w' (GpR b (g.take i) :: l) → K (.tuple #[]) w') :
    CallP P F_law12_group_take [.pointer (some ⟨b, 0, none⟩), .int .i64 (i : Int)] w K := by
  apply c_law12_group_take
  unfold S_law12_group_take
  generalize hr : g.node i = r
  have hnr := node_eq hg.hi
  rw [hr] at hnr
  obtain ⟨p, h1⟩ := sat_gp.1 h
  refine ldX h1 0 (x := p.nodes) ?_
  obtain ⟨bs, bn, hbs, hbi, h2⟩ := nd_open hnr (h1.up 1)
  have h3 := ndX_sl (h2.up 1)
  refine nd_ptr (i := (i : Int)) (by omega) (by simpa using hbi) h3 ?_
  have hf := hg.fit
  rw [hr] at hf
  refine take_ok h2 hf fun ss ls ms rs cs w5 h4 => tyI (k := .val) ?_
  have h5 : Sat W w5 (RaR bn (Rs.taken r).2 :: NdX p.nodes bs i :: Blk b (gcells p g.wrong) T_penstocklaw12_group :: KpR p.kept g.kept :: MsR p.flight g.flight :: PrR T_api_Commit p.told g.told :: IsR p.heads g.heads :: IsR p.applied g.applied :: BsR ss (hdOf r).snap :: PrR T_api_Entry ls (hdOf r).log :: MsR ms r.msgs :: PrR T_api_Commit cs (Rs.taken r).1.commits :: l) :=
    Sat.sel h4 13 [0, 6, 7, 8, 9, 10, 11, 12, 1, 2, 3, 5]
  have h6 := nd_close hbi h5
  rw [hbs] at h6
  refine newAgg (cs := rdcells r.save ⟨hdOf r, ss, ls⟩ ms r.restore rs cs) (z := zReady) h6 (rdcells_ones _ _ _ _ _ _) fun a7 w9 h7 => ?_
  let g1 : Gp := { g with nodes := g.nodes.set i (Rs.taken r).2, kept := if r.save then g.kept.set i r.hd else g.kept }
  have hRd : ∀ {w : World} {L : List Res}, Sat W w (Blk a7 (rdcells r.save ⟨hdOf r, ss, ls⟩ ms r.restore rs cs) T_api_Ready :: L) → Sat W w (Blk a7 (rdcells r.save ⟨hdOf r, ss, ls⟩ ms r.restore rs cs) T_api_Ready :: L) := fun h => h
  generalize hrd : rdcells r.save ⟨hdOf r, ss, ls⟩ ms r.restore rs cs = RD at h7 ⊢
  refine ⟨fun _ w' => Sat W w' (GpR b g1 :: Blk a7 RD T_api_Ready :: MsR ms r.msgs :: PrR T_api_Commit cs (Rs.taken r).1.commits :: l), ?_, ?_⟩
  · rintro _ w12 h8
    have e0 : g.take0 i = if r.restore then { g1 with applied := g1.applied.set i (match g1.kept[i]? with | some h => h.base | none => 0) } else g1 := by
      unfold Gp.take0
      simp only [hr]
      rfl
    refine ⟨fun _ w' => Sat W w' (GpR b (g.take0 i) :: Blk a7 RD T_api_Ready :: MsR ms r.msgs :: PrR T_api_Commit cs (Rs.taken r).1.commits :: l), ?_, ?_⟩
    · rintro _ w22 h9
      obtain ⟨q1, q2, q3, q4⟩ := take0_keeps (g := g) (i := i)
      rw [hr] at q1
      have hq0 := take0_hearing hg
      have hcm := hg.coms
      rw [hr] at hcm
      generalize hG0 : g.take0 i = G0 at h9 q1 q2 q3 q4 hq0
      generalize hC : (Rs.taken r).1.commits = C at h9 hcm
      obtain ⟨es, hes, h10⟩ := sat_pr.1 (h9.up 3)
      have hel : es.length = C.length := by rw [← hes]; simp
      have hol := own_len h10 (by decide : 0 < 2)
      refine ldX (h9.up 1) 10 (x := cs) ?_ (by rw [← hrd]; rfl)
      have h11 : Sat W w22 (GpR b G0 :: SlR T_api_Commit 2 cs ((elP T_api_Commit).flat es) :: All (es.map (elP T_api_Commit).own) :: Blk a7 RD T_api_Ready :: MsR ms r.msgs :: l) := Sat.sel (sat_own.1 h10) 5 [2, 0, 1, 3, 4]
      refine ⟨fun t w' => ∃ j : Nat, t.1 = j ∧ j ≤ es.length ∧ Sat W w' (GpR b ((C.take j).foldl (Gp.hear i) G0) :: SlR T_api_Commit 2 cs ((elP T_api_Commit).flat es) :: All ((es.drop j).map (elP T_api_Commit).own) :: Blk a7 RD T_api_Ready :: MsR ms r.msgs :: l), fun t _ => es.length - t.1.toNat, ⟨0, rfl, Nat.zero_le _, by simpa using h11⟩, ?_⟩
      rintro ⟨j', u⟩ w36 ⟨j, hj, hjl, h12⟩
      simp only at hj ⊢
      subst hj
      have hHj : Hearing G0 ((C.take j).foldl (Gp.hear i) G0) := Hearing.all i _ _ hq0 fun c hc => hcm c (List.mem_of_mem_take hc)
      generalize hGj : (C.take j).foldl (Gp.hear i) G0 = Gj at h12 hHj
      refine ifB_dec (fun hlt => ?_) fun hge => ?_
      · have hjl' : j < es.length := by omega
        have hx : es[j]? = some es[j] := List.getElem?_eq_getElem hjl'
        have hdj : es.drop j = es[j] :: es.drop (j + 1) := List.drop_eq_getElem_cons hjl'
        have hcj : C[j]? = some es[j].dat := by rw [← hes, List.getElem?_map, hx]; rfl
        rw [hdj] at h12
        generalize es[j] = e at hx h12 hcj
        have hce := hcm _ (List.mem_of_getElem? hcj)
        have hnx : (C.take (j + 1)).foldl (Gp.hear i) G0 = Gp.hear i Gj e.dat := by
          rw [← hGj, List.take_add_one, hcj]
          simp [List.foldl_append]
        have h13 : Sat W w36 (GpR b Gj :: SlR T_api_Commit 2 cs ((elP T_api_Commit).flat es) :: (elP T_api_Commit).own e :: All ((es.drop (j + 1)).map (elP T_api_Commit).own) :: Blk a7 RD T_api_Ready :: MsR ms r.msgs :: l) := by
          have := sat_allc.1 (h12.up 2)
          exact this.sel 4 [2, 3, 0, 1]
        refine ixEl et_coms (E := elP T_api_Commit) rfl (h13.up 1).rdc (by omega) (x := e) (by simpa using hx) (by omega) fun a ha => ?_
        refine ldAggC ha ?_
        refine newAgg (cs := (elP T_api_Commit).cells e) (z := [.int .i64 0, .slice none 0 0]) h13 ((elP T_api_Commit).one e) fun a39 w41 h14 => ?_
        have hap : i < Gj.applied.length := by rw [hHj.applied, q4, hg.applied]; exact hg.hi
        have hape := app_eq hap
        have hapb := hHj.app _ (List.mem_of_getElem? hape)
        refine ⟨fun _ w' => Sat W w' (GpR b (if e.t ≠ Gj.app i + 1 then { Gj with wrong := true } else Gj) :: Blk a39 e.cells T_api_Commit :: (elP T_api_Commit).own e :: SlR T_api_Commit 2 cs ((elP T_api_Commit).flat es) :: All ((es.drop (j + 1)).map (elP T_api_Commit).own) :: Blk a7 RD T_api_Ready :: MsR ms r.msgs :: l), ?_, ?_⟩
        · intro _ w44 h15
          generalize hGw : (if e.t ≠ Gj.app i + 1 then { Gj with wrong := true } else Gj) = Gw at h15
          have ew : Gw.applied = Gj.applied ∧ Gw.told = Gj.told := by
            subst hGw
            split
            · exact ⟨rfl, rfl⟩
            · exact ⟨rfl, rfl⟩
          have eh : Gp.hear i Gj e.dat = Gp.tell { Gw with applied := Gw.applied.set i e.t } e.dat := by
            subst hGw; rfl
          obtain ⟨p, h16⟩ := sat_gp.1 h15.drew
          have hal := Sat.isLen (Sat.up (L := GpL b Gw p _) h16 6)
          have hali : i < p.applied.len := by rw [← hal.1, ew.1]; exact hap
          obtain ⟨a, ha⟩ := some_of_lt (Sat.up (L := GpL b Gw p _) h16 6).rdc hali
          let S : World → Prop := fun w => ∃ L, Sat W w (Blk b (gcells p Gw.wrong) T_penstocklaw12_group :: Blk a39 e.cells T_api_Commit :: L)
          refine ⟨S, ⟨_, h16.sel 8 [0, 7]⟩, ?_⟩
          refine hldX (fun w hw => by obtain ⟨L, hw⟩ := hw; exact ⟨_, hw⟩) 5 (x := p.applied) ?_
          refine hldX (fun w hw => by obtain ⟨L, hw⟩ := hw; exact ⟨_, hw.swap⟩) 0 (x := e.t) ?_
          refine hixP et_ints ha (by omega) (by omega) ?_
          have hin : (i : Int).toNat = i := by omega
          rw [hin]
          have h17 : Sat W w44.drew (IsR p.applied Gw.applied :: _) := h16.up 6
          refine stSl h17 ha hali fun w57 h18 => ⟨⟨_, h18.sel 8 [1, 7]⟩, ?_⟩
          have h19 : Sat W w57 (GpL b { Gw with applied := Gw.applied.set i e.t } p (Blk a39 e.cells T_api_Commit :: (elP T_api_Commit).own e :: SlR T_api_Commit 2 cs ((elP T_api_Commit).flat es) :: All ((es.drop (j + 1)).map (elP T_api_Commit).own) :: Blk a7 RD T_api_Ready :: MsR ms r.msgs :: l)) := Sat.sel h18 7 [1, 2, 3, 4, 5, 6, 0]
          refine ldAggX 0 2 (h19.up 7) ?_ (by show 0 + 2 ≤ 2; decide)
          have h20 : Sat W w57 (GpR b { Gw with applied := Gw.applied.set i e.t } :: (elP T_api_Commit).own e :: SlR T_api_Commit 2 cs ((elP T_api_Commit).flat es) :: All ((es.drop (j + 1)).map (elP T_api_Commit).own) :: Blk a7 RD T_api_Ready :: MsR ms r.msgs :: l) := (sat_gp.2 ⟨p, h19⟩).cut 1
          refine tell_ok (c := e) h20 ⟨by have : e.dat.1 = e.t := rfl; omega, hce.2⟩ (by show Gw.told.length ≤ _; rw [ew.2]; exact hHj.told) fun w60 h21 => tupU rfl ?_
          rw [w_i64 (n := (j : Int) + 1) (by omega) (by omega)]
          refine ⟨⟨j + 1, rfl, by omega, ?_⟩, by omega⟩
          rw [hnx, eh]
          exact h21
        · obtain ⟨p, h15⟩ := sat_gp.1 (h14.drew.swap)
          refine ldX (h15.up 7) 0 (x := e.t) ?_
          refine ldX h15 5 (x := p.applied) ?_
          have hal := Sat.isLen (Sat.up (L := GpL b Gj p _) h15 6)
          refine ixld et_ints (Sat.up (L := GpL b Gj p _) h15 6).rdc (by omega) (k := .int .i64) (x := Gj.app i) (by
            have : ((i : Int).toNat) = i := by omega
            rw [this, List.getElem?_map, hape]; rfl) ?_
          rw [w_i64 (n := Gj.app i + 1) (by omega) (by omega)]
          refine ifB_bne (fun hne => ?_) fun he => ?_
          · refine stX h15 6 (v := .bool true) (hi := (by show 6 < 7; decide)) fun w51 h16 => ?_
            show Sat W w51 _
            rw [if_pos hne]
            have h17 : Sat W w51 (GpL b { Gj with wrong := true } p _) := h16
            exact (sat_gp.2 ⟨p, h17⟩).sel 4 [0, 1, 3, 2]
          · show Sat W w41.drew _
            rw [if_neg (by simpa using he)]
            exact h14.drew.sel 4 [1, 0, 3, 2]
      · have hje : j = es.length := by omega
        have hCj : C.take j = C := List.take_of_length_le (by omega)
        rw [hCj] at hGj
        have eT : g.take i = (Gj.sent r.msgs).heads' i := by
          unfold Gp.take
          simp only [hr, hG0, hC, hGj]
        have hfl : Gj.flight = g.flight := hHj.flight.trans q2
        have hmm := hg.flight
        rw [hr] at hmm
        refine ⟨fun _ w' => Sat W w' (GpR b (Gj.sent r.msgs) :: l), ?_, ?_⟩
        · rintro _ w64 h13
          obtain ⟨s1, s2, _⟩ := sent_keeps Gj r.msgs
          have hn2 : i < (Gj.sent r.msgs).nodes.length := by rw [s1, hHj.nodes, q1, List.length_set]; exact hg.hi
          have hh2 : (Gj.sent r.msgs).heads.length ≤ 1099511627776 := by rw [s2, hHj.heads, q3]; exact hg.heads
          rw [eT] at hK
          generalize Gj.sent r.msgs = G2 at h13 hn2 hh2 hK
          have hnr2 := node_eq hn2
          unfold Gp.heads' at hK
          generalize hr2 : G2.node i = r2 at hnr2 hK
          obtain ⟨p, h14⟩ := sat_gp.1 h13
          refine ldX h14 0 (x := p.nodes) ?_
          obtain ⟨bs2, bn2, hbs2, hbi2, h15⟩ := nd_open hnr2 (h14.up 1)
          refine nd_ptr (i := (i : Int)) (by omega) (by simpa using hbi2) (ndX_sl (h15.up 1)) ?_
          refine state_ok h15 fun w80 h16 => ⟨(_, _, _, _, _, ()), rfl, ?_⟩
          dsimp only
          have h17 := nd_close hbi2 h16
          rw [hbs2] at h17
          have h18 : Sat W w80 (NdR p.nodes (G2.nodes.set i r2) :: Blk b (gcells p G2.wrong) T_penstocklaw12_group :: KpR p.kept G2.kept :: MsR p.flight G2.flight :: PrR T_api_Commit p.told G2.told :: IsR p.heads G2.heads :: IsR p.applied G2.applied :: l) := h17
          have es2 : G2.nodes.set i r2 = G2.nodes := by
            obtain ⟨hlt, hx⟩ := List.getElem?_eq_some_iff.1 hnr2
            rw [← hx, List.set_getElem_self]
          rw [es2] at h18
          have h19 := sat_gp.2 ⟨p, h18.swap⟩
          simp only at hK
          have no : ¬ (r2.role = 3 ∧ 0 ≤ r2.hd.term ∧ r2.hd.term < 4000) → K (.tuple #[]) w80 := fun hno => by
            rw [if_neg hno] at hK
            exact hK _ h19
          refine ifB_beq (fun c1 => ?_) fun c1 => no fun q => c1 q.1
          refine ifB_dec (fun c2 => ?_) fun c2 => no fun q => c2 q.2.1
          refine ifB_dec (fun c3 => ?_) fun c3 => no fun q => c3 q.2.2
          rw [if_pos ⟨c1, c2, c3⟩] at hK
          have c2 : 0 ≤ r2.hd.term := c2
          have c3 : r2.hd.term < 4000 := c3
          let hc : World → Nat := fun w => match w.cell? ⟨b, 4, none⟩ with | some (.slice _ n _) => n | _ => 0
          have hhc : ∀ {w : World} {q : Gp} {p : GpP} {L : List Res}, Sat W w (GpL b q p L) → hc w = q.heads.length := fun {w q p L} h => by
            have := Sat.cell h 4
            have h2 : Sat W w (IsR p.heads q.heads :: _) := h.up 5
            have h3 := (Sat.isLen h2).1
            show (match World.cell? _ ⟨b, 4, none⟩ with | some (.slice _ n _) => n | _ => 0) = _
            rw [this]; exact h3.symm
          refine ⟨fun _ w' => ∃ k : Nat, (k = 0 ∨ G2.heads.length + k ≤ r2.hd.term + 1) ∧ Sat W w' (GpR b (headK G2 k) :: l), fun _ w' => (r2.hd.term + 1 - hc w').toNat, ⟨0, .inl rfl, by simpa [headK] using h19⟩, ?_⟩
          rintro _ w84 ⟨k, hk, h20⟩
          obtain ⟨p, h21⟩ := sat_gp.1 h20
          have e84 := hhc h21
          have hlen : (headK G2 k).heads.length = G2.heads.length + k := by simp [headK]
          have hsl := Sat.isLen (Sat.up (L := GpL b (headK G2 k) p _) h21 5)
          refine ldX h21 4 (x := p.heads) ?_
          refine ifB_dec (fun hle => ?_) fun hgt => ?_
          · have hle : (p.heads.len : Int) ≤ r2.hd.term := hle
            refine ldX h21 4 (x := p.heads) ?_
            have h22 : Sat W w84 (IsR p.heads (headK G2 k).heads :: _) := h21.up 5
            refine isPush h22 (by omega) fun s' w92 h23 => ?_
            refine stX (h23.up 1) 4 (v := s'.v) (hi := (by show 4 < 7; decide)) fun w94 h24 => ?_
            have e : (headK G2 (k + 1)).heads = (headK G2 k).heads ++ [-1] := by simp [headK, List.replicate_succ']
            have h24 : Sat W w94 (Blk b (gcells { p with heads := s' } G2.wrong) T_penstocklaw12_group :: IsR s' ((headK G2 k).heads ++ [-1]) :: NdR p.nodes G2.nodes :: KpR p.kept G2.kept :: MsR p.flight G2.flight :: PrR T_api_Commit p.told G2.told :: IsR p.applied G2.applied :: l) := h24
            rw [← e] at h24
            have h25 : Sat W w94 (GpL b (headK G2 (k + 1)) { p with heads := s' } l) := h24.sel 7 [0, 2, 3, 4, 5, 1, 6]
            have e94 := hhc h25
            have hlen2 : (headK G2 (k + 1)).heads.length = G2.heads.length + k + 1 := by simp [headK]; omega
            refine ⟨⟨k + 1, .inr (by omega), sat_gp.2 ⟨_, h25⟩⟩, ?_⟩
            show (r2.hd.term + 1 - hc w94).toNat < (r2.hd.term + 1 - hc w84).toNat
            rw [e94, e84, hlen2, hlen]; omega
          · have hgt : ¬ (p.heads.len : Int) ≤ r2.hd.term := hgt
            have hk' : k = (r2.hd.term + 1 - G2.heads.length).toNat := by omega
            let H := (headK G2 k).heads
            have eH : Gp.head G2 i r2.hd.term = { G2 with wrong := G2.wrong || (decide (Rs.at_ H r2.hd.term ≥ 0) && decide (Rs.at_ H r2.hd.term ≠ i)), heads := H.set r2.hd.term.toNat i } := by
              show _ = { G2 with wrong := G2.wrong || (decide (Rs.at_ (headK G2 k).heads r2.hd.term ≥ 0) && decide (Rs.at_ (headK G2 k).heads r2.hd.term ≠ i)), heads := (headK G2 k).heads.set r2.hd.term.toNat i }
              rw [hk']; rfl
            have htl : r2.hd.term.toNat < H.length := by show _ < (headK G2 k).heads.length; omega
            have hHt : H[r2.hd.term.toNat]? = some (Rs.at_ H r2.hd.term) := by unfold Rs.at_; rw [List.getElem?_eq_getElem htl]
            refine ⟨fun _ w' => Sat W w' (GpL b { G2 with heads := H, wrong := G2.wrong || (decide (Rs.at_ H r2.hd.term ≥ 0) && decide (Rs.at_ H r2.hd.term ≠ i)) } p l), ?_, ?_⟩
            · rintro _ w97 h22
              refine ldX h22 4 (x := p.heads) ?_
              have h23 : Sat W w97 (IsR p.heads H :: _) := h22.up 5
              refine ixst et_ints h23 c2 (by omega) fun w117 h24 => ?_
              have e1 : (H.map vI).set r2.hd.term.toNat (.int .i64 (i : Int)) = (H.set r2.hd.term.toNat (i : Int)).map vI := by rw [List.map_set]; rfl
              rw [e1] at h24
              refine hK w117 ?_
              rw [eH]
              have h25 : Sat W w117 (IsR p.heads (H.set r2.hd.term.toNat (i : Int)) :: Blk b (gcells p (G2.wrong || (decide (Rs.at_ H r2.hd.term ≥ 0) && decide (Rs.at_ H r2.hd.term ≠ i)))) T_penstocklaw12_group :: NdR p.nodes G2.nodes :: KpR p.kept G2.kept :: MsR p.flight G2.flight :: PrR T_api_Commit p.told G2.told :: IsR p.applied G2.applied :: l) := h24
              exact sat_gp.2 ⟨p, h25.sel 7 [1, 2, 3, 4, 5, 0, 6]⟩
            · have h21 : Sat W w84 (Blk b (gcells p G2.wrong) T_penstocklaw12_group :: NdR p.nodes G2.nodes :: KpR p.kept G2.kept :: MsR p.flight G2.flight :: PrR T_api_Commit p.told G2.told :: IsR p.heads H :: IsR p.applied G2.applied :: l) := h21
              have fin : ∀ {wr : Bool}, wr = (G2.wrong || (decide (Rs.at_ H r2.hd.term ≥ 0) && decide (Rs.at_ H r2.hd.term ≠ i))) → ∀ {K : World → Prop}, (∀ w', Sat W w' (GpL b { G2 with heads := H, wrong := G2.wrong || (decide (Rs.at_ H r2.hd.term ≥ 0) && decide (Rs.at_ H r2.hd.term ≠ i)) } p l) → K w') → StoreP P T_bool (.pointer (some ((⟨b, 0, none⟩ : Addr).add 6))) (.bool wr) w84 K := fun {wr} e K hk => by
                refine stX h21 6 (v := .bool wr) (hi := (by show 6 < 7; decide)) fun w' h22 => hk w' ?_
                rw [← e]
                exact h22
              refine ldX h21 6 (x := G2.wrong) ?_
              refine ifB_intro (fun c4 => ?_) fun c4 => ?_
              · exact fin (by rw [c4]; rfl) fun w' h => h
              · refine ldX h21 4 (x := p.heads) ?_
                refine ixld et_ints (Sat.up h21 5).rdc c2 (k := .int .i64) (x := Rs.at_ H r2.hd.term) (by rw [List.getElem?_map, hHt]; rfl) ?_
                refine ifB_dec (fun c5 => ?_) fun c5 => ?_
                · refine ldX h21 4 (x := p.heads) ?_
                  refine ixld et_ints (Sat.up h21 5).rdc c2 (k := .int .i64) (x := Rs.at_ H r2.hd.term) (by rw [List.getElem?_map, hHt]; rfl) ?_
                  refine fin ?_ fun w' h => h
                  rw [c4, decide_eq_true c5]
                  by_cases c6 : Rs.at_ H r2.hd.term = i
                  · simp [c6]
                  · simp [c6, bne]
                · exact fin (by rw [c4, decide_eq_false c5]; rfl) fun w' h => h
        · obtain ⟨p, h13⟩ := sat_gp.1 h12
          refine ldX h13 2 (x := p.flight) ?_
          have hfl2 := Sat.msLen (Sat.up (L := GpL b Gj p _) h13 3)
          refine ifB_dec (fun hlt => ?_) fun hge2 => ?_
          · have e1 : Gj.sent r.msgs = { Gj with flight := Gj.flight ++ r.msgs } := by unfold Gp.sent; rw [if_pos (by omega)]
            have h14 : Sat W w36.drew (Blk b (gcells p Gj.wrong) T_penstocklaw12_group :: Blk a7 RD T_api_Ready :: MsR p.flight Gj.flight :: MsR ms r.msgs :: NdR p.nodes Gj.nodes :: KpR p.kept Gj.kept :: PrR T_api_Commit p.told Gj.told :: IsR p.heads Gj.heads :: IsR p.applied Gj.applied :: l) := Sat.sel h13.drew 11 [0, 9, 3, 10, 1, 2, 4, 5, 6]
            refine ⟨fun w => ∃ L, Sat W w (Blk a7 RD T_api_Ready :: L), ⟨_, h14.up 1⟩, ?_⟩
            refine hldX (fun w hw => hw) 7 (x := ms) ?_ (by rw [← hrd]; rfl)
            refine ldX h14 2 (x := p.flight) ⟨⟨_, h14.up 1⟩, ?_⟩
            obtain ⟨c1, hc1, h15⟩ := sat_ms.1 (h14.up 2)
            obtain ⟨c2, hc2, h16⟩ := sat_ms.1 (h15.up 3)
            have l1 : c1.length = Gj.flight.length := by rw [← hc1]; simp
            have l2 : c2.length = r.msgs.length := by rw [← hc2]; simp
            refine own_app (E := elM) et_msgs rfl rfl (by decide) h16.swap (by omega) (by omega) fun s' w72 h17 => ⟨⟨_, h17.up 2⟩, ?_⟩
            refine stX (h17.up 1) 2 (v := s'.v) (hi := (by show 2 < 7; decide)) fun w74 h18 => ⟨⟨_, h18.up 2⟩, ?_⟩
            have h19 := sat_ms.2 ⟨c1 ++ c2, rfl, h18.up 1⟩
            rw [List.map_append, hc1, hc2] at h19
            have h20 : Sat W w74 (MsR s' (Gj.flight ++ r.msgs) :: Blk b (gcells { p with flight := s' } Gj.wrong) T_penstocklaw12_group :: Blk a7 RD T_api_Ready :: NdR p.nodes Gj.nodes :: KpR p.kept Gj.kept :: PrR T_api_Commit p.told Gj.told :: IsR p.heads Gj.heads :: IsR p.applied Gj.applied :: l) := h19
            show Sat W w74 _
            rw [e1]
            exact sat_gp.2 ⟨{ p with flight := s' }, h20.sel 8 [1, 3, 4, 0, 5, 6, 7]⟩
          · have e1 : Gj.sent r.msgs = Gj := by unfold Gp.sent; rw [if_neg (by omega)]
            show Sat W w36 _
            rw [e1]
            exact h12.sel 5 [0]
    · have hk1 : g1.kept.length = g.nodes.length := by
        show (if r.save then g.kept.set i r.hd else g.kept).length = _
        split
        · simpa using hg.kept
        · exact hg.kept
      obtain ⟨p, h9⟩ := sat_gp.1 h8
      refine ldX (h9.up 7) 8 (x := r.restore) ?_ (by rw [← hrd]; rfl)
      refine ifB_intro (fun hs => ?_) fun hs => ?_
      · rw [if_pos hs] at e0
        have hki : i < g1.kept.length := by rw [hk1]; exact hg.hi
        have hkx : g1.kept[i]? = some g1.kept[i] := List.getElem?_eq_getElem hki
        rw [hkx] at e0
        generalize hh : g1.kept[i] = hd at e0 hkx
        have h10 := h9.drew
        obtain ⟨hcs, hce, h11⟩ := sat_kp.1 (h10.up 2)
        have hol := own_len h11 (by decide : 0 < 6)
        have hcl : hcs.length = g1.kept.length := by rw [← hce]; simp
        have hal := Sat.isLen (Sat.up (L := GpL b g1 p _) h10 6)
        have hali : i < p.applied.len := by rw [← hal.1]; show i < g.applied.length; rw [hg.applied]; exact hg.hi
        obtain ⟨a, ha⟩ := some_of_lt (Sat.up (L := GpL b g1 p _) h10 6).rdc hali
        have hx : hcs[i]? = some hcs[i] := List.getElem?_eq_getElem (by omega)
        generalize hE : hcs[i] = E at hx
        have hEh : E.h = hd := by
          have : (hcs.map HdC.h)[i]? = some hd := by rw [hce]; exact hkx
          rw [List.getElem?_map, hx] at this
          exact Option.some.inj this
        have h12 : Sat W w12.drew (Blk b (gcells p g1.wrong) T_penstocklaw12_group :: Blk a7 RD T_api_Ready :: OwnS elH p.kept hcs :: IsR p.applied g1.applied :: NdR p.nodes g1.nodes :: MsR p.flight g1.flight :: PrR T_api_Commit p.told g1.told :: IsR p.heads g1.heads :: MsR ms r.msgs :: PrR T_api_Commit cs (Rs.taken r).1.commits :: l) := Sat.sel h11 10 [1, 7, 0, 6, 2, 3, 4, 5, 8, 9]
        let S : World → Prop := fun w => ∃ L, Sat W w (Blk b (gcells p g1.wrong) T_penstocklaw12_group :: Blk a7 RD T_api_Ready :: OwnS elH p.kept hcs :: L)
        have hS1 : ∀ w, S w → ∃ L, Sat W w (Blk b (gcells p g1.wrong) T_penstocklaw12_group :: L) := fun w hw => by obtain ⟨L, hw⟩ := hw; exact ⟨_, hw⟩
        have hS3 : ∀ w, S w → RdC w p.kept 6 (elH.flat hcs) := fun w hw => by obtain ⟨L, hw⟩ := hw; exact (sat_own.1 (hw.up 2)).rdc
        refine ⟨S, ⟨_, h12⟩, ?_⟩
        refine hldX hS1 5 (x := p.applied) ?_
        refine hldX hS1 1 (x := p.kept) ?_
        refine hixEl et_hards (E := elH) rfl hS3 ⟨_, h12⟩ (by omega) (x := E) (by simpa using hx) (by omega) fun a2 ha2 => ?_
        refine ⟨E.h.base, fun w hw => run_load1 (by kernel_rfl) (ha2 w hw 2 _ rfl), ?_⟩
        refine hixP et_ints ha (by omega) (by omega) ?_
        have hin : (i : Int).toNat = i := by omega
        rw [hin]
        have h13 : Sat W w12.drew (IsR p.applied g1.applied :: _) := h12.up 3
        refine stSlV h13 ha hali (v := (.int .i64 E.h.base : Value)) fun w32 h14 => ⟨⟨_, h14.sel 4 [1, 2, 3]⟩, ?_⟩
        have e1 : (g1.applied.map vI).set i (.int .i64 E.h.base) = (g1.applied.set i hd.base).map vI := by rw [List.map_set, hEh]; rfl
        rw [e1] at h14
        have h15 := sat_kp.2 ⟨_, hce, Sat.up h14 3⟩
        have h16 : Sat W w32 (GpL b { g1 with applied := g1.applied.set i hd.base } p (Blk a7 RD T_api_Ready :: MsR ms r.msgs :: PrR T_api_Commit cs (Rs.taken r).1.commits :: l)) := Sat.sel h15 10 [2, 4, 0, 5, 6, 7, 1, 3, 8, 9]
        show Sat W w32 _
        rw [e0]
        exact sat_gp.2 ⟨p, h16⟩
      · rw [if_neg (by rw [hs]; decide)] at e0
        show Sat W w12 _
        rw [e0]
        exact h8
  · refine ldX h7 0 (x := r.save) ?_ (by rw [← hrd]; rfl)
    refine ifB_intro (fun hs => ?_) fun hs => ?_
    · have eh : hdOf r = r.hd := by unfold hdOf; rw [if_pos hs]
      have e1 : g1 = { g with nodes := g.nodes.set i (Rs.taken r).2, kept := g.kept.set i r.hd } := by simp [g1, hs]
      rw [e1]
      obtain ⟨hcs, hce, h8⟩ := sat_kp.1 (h7.drew.up 3)
      have hol := own_len h8 (by decide : 0 < 6)
      have hcl : hcs.length = g.kept.length := by rw [← hce]; simp
      have hki : i < p.kept.len := by rw [hol.1, hcl, hg.kept]; exact hg.hi
      obtain ⟨a, ha⟩ := some_of_lt (sat_own.1 h8).rdc hki
      refine ⟨fun w => ∃ L, Sat W w (Blk b (gcells p g.wrong) T_penstocklaw12_group :: Blk a7 RD T_api_Ready :: L), ⟨_, (h8.up 1).up 3⟩, ?_⟩
      refine hldX (fun w hw => by obtain ⟨L, hw⟩ := hw; exact ⟨_, hw⟩) 1 (x := p.kept) ?_
      refine hldAggX 1 6 (fun w hw => by obtain ⟨L, hw⟩ := hw; exact ⟨_, hw.swap⟩) ?_ (by rw [← hrd]; show 1 + 6 ≤ 11; decide)
      have eRD : (RD.drop 1).take 6 = HdC.cells ⟨hdOf r, ss, ls⟩ := by rw [← hrd]; rfl
      rw [eRD]
      refine hixP et_hards ha (by omega) (by omega) ?_
      have h9 : Sat W w9.drew (OwnS elH p.kept hcs :: elH.own ⟨hdOf r, ss, ls⟩ :: Blk a7 RD T_api_Ready :: NdR p.nodes (g.nodes.set i (Rs.taken r).2) :: Blk b (gcells p g.wrong) T_penstocklaw12_group :: MsR p.flight g.flight :: PrR T_api_Commit p.told g.told :: IsR p.heads g.heads :: IsR p.applied g.applied :: MsR ms r.msgs :: PrR T_api_Commit cs (Rs.taken r).1.commits :: l) := by
        have h10 := Sat.sel h8 10 [8, 9]
        have h11 : Sat W w9.drew (All [BsR ss (hdOf r).snap, PrR T_api_Entry ls (hdOf r).log] :: OwnS elH p.kept hcs :: Blk a7 RD T_api_Ready :: NdR p.nodes (g.nodes.set i (Rs.taken r).2) :: Blk b (gcells p g.wrong) T_penstocklaw12_group :: MsR p.flight g.flight :: PrR T_api_Commit p.told g.told :: IsR p.heads g.heads :: IsR p.applied g.applied :: MsR ms r.msgs :: PrR T_api_Commit cs (Rs.taken r).1.commits :: l) :=
          sat_all.2 (Sat.sel h8 12 [8, 9, 0, 1, 2, 3, 4, 5, 6, 7, 10, 11])
        exact h11.swap
      have hin : (i : Int).toNat = i := by omega
      rw [hin]
      refine own_swap (E := elH) (y := ⟨hdOf r, ss, ls⟩) h9 ha hki (by decide) (fun w19 h10 => ⟨⟨_, (h10.up 1).up 3⟩, ?_⟩) (by kernel_rfl)
      have h11 := sat_kp.2 ⟨_, rfl, h10⟩
      rw [List.map_set, hce, eh] at h11
      have h12 : Sat W w19 (GpL b { g with nodes := g.nodes.set i (Rs.taken r).2, kept := g.kept.set i r.hd } p (Blk a7 RD T_api_Ready :: MsR ms r.msgs :: PrR T_api_Commit cs (Rs.taken r).1.commits :: l)) := Sat.sel h11 10 [3, 2, 0, 4, 5, 6, 7, 1, 8, 9]
      exact sat_gp.2 ⟨p, h12⟩
    · have : g1 = { g with nodes := g.nodes.set i (Rs.taken r).2 } := by simp [g1, hs]
      show Sat W w9 _
      rw [this]
      have h8 : Sat W w9 (GpL b { g with nodes := g.nodes.set i (Rs.taken r).2 } p (Blk a7 RD T_api_Ready :: MsR ms r.msgs :: PrR T_api_Commit cs (Rs.taken r).1.commits :: l)) := Sat.sel h7 12 [2, 1, 3, 4, 5, 6, 7, 0, 10, 11]
      exact sat_gp.2 ⟨p, h8⟩
end
end Go.Proofs.Ytfbffgcoopelfaa
