/- Layer 12: the law of piles, walked. -/
import Derived.Test.YtfbffgcoopelfaaRgE
namespace Go.Proofs.Ytfbffgcoopelfaa
open Go Go.Pk
def PropsC (g : Gp) (k : Nat) : Nat → Prop
  | 0 => True
  | n + 1 => (1 < g.nodes.length ∧ Sane (g.node 1) ∧ Roomy (g.node 1) ∧ NextOk (g.node 1) ∧ (((g.node 1).propose [UInt8.ofNat k]).2.2 = 0 ↔ k < 64) ∧ (((g.node 1).propose [UInt8.ofNat k]).2.2 = 0 ∨ ((g.node 1).propose [UInt8.ofNat k]).2.2 = 3)) ∧
      PropsC { g with nodes := g.nodes.set 1 ((g.node 1).propose [UInt8.ofNat k]).1 } (k + 1) n
structure PilesC (n : Nat) (G20 GP GT GE : Gp) : Prop where
  e20 : (Gp.begin' 2).rounds 2 0 20 = G20
  eP : ({ G20 with flight := [] } : Gp).props 1 0 n = GP
  eT : { GP.take 1 with flight := [] } = GT
  eE : GT.rounds 2 0 40 = GE
  r20 : RoundsC (Gp.begin' 2) 2 0 20
  len : G20.nodes.length = 2
  lead0 : (G20.node 0).role ≠ 3
  lead1 : (G20.node 1).role = 3
  last : (G20.node 1).last = 1
  commit : (G20.node 1).commit = 1
  props : PropsC { G20 with flight := [] } 0 n
  take : TakeOk GP 1
  few : ∀ x ∈ (GP.take 1).flight, x.ents.length ≤ 16
  r40 : RoundsC GT 2 0 40
  elen : 1 < GE.nodes.length
  esane : Sane (GE.node 1)
  eroomy : Roomy (GE.node 1)
  enext : NextOk (GE.node 1)
  eall : (GE.node 1).commit = (GE.node 1).last
  ego : ((GE.node 1).propose []).2.2 = 0
  right : GE.wrong = false
section
variable {W w : World} {l : List Res} {K : Value → World → Prop} {b : Nat} {g : Gp}
/-- a node of the group is opened -/
theorem openAt {i : Int} (h : Sat W w (GpR b g :: l)) (h0 : 0 ≤ i) (hi : i.toNat < g.nodes.length) {K : Option Addr → Prop}
    (hk : ∀ bn R, Sat W w (RaR bn (g.node i.toNat) :: R :: l) → (∀ {w' : World} {r' : Rs} {L : List Res}, Sat W w' (RaR bn r' :: R :: L) → Sat W w' (GpR b { g with nodes := g.nodes.set i.toNat r' } :: L)) → K (some ⟨bn, 0, none⟩)) :
    RunQ .sl P (Instr.loadAt T_sl_p_raft_Raft (.pointer (some ((⟨b, 0, none⟩ : Addr).add 0)))) w fun s => RunQ .addr P (Instr.indexAt T_sl_p_raft_Raft s.v (.int .i64 i)) w fun a => RunQ .ptr P (Instr.loadAt T_p_raft_Raft (.pointer (some a))) w K := by
  obtain ⟨p, h1⟩ := sat_gp.1 h
  refine ldX h1 0 (x := p.nodes) ?_
  obtain ⟨bs, bn, hbs, hbi, h2⟩ := nd_open (node_eq hi) (h1.up 1)
  refine nd_ptr h0 hbi (ndX_sl (h2.up 1)) ?_
  refine hk bn (All [NdX p.nodes bs i.toNat, Blk b (gcells p g.wrong) T_penstocklaw12_group, KpR p.kept g.kept, MsR p.flight g.flight, PrR T_api_Commit p.told g.told, IsR p.heads g.heads, IsR p.applied g.applied]) ?_ ?_
  · have h3 : Sat W w (NdX p.nodes bs i.toNat :: Blk b (gcells p g.wrong) T_penstocklaw12_group :: KpR p.kept g.kept :: MsR p.flight g.flight :: PrR T_api_Commit p.told g.told :: IsR p.heads g.heads :: IsR p.applied g.applied :: RaR bn (g.node i.toNat) :: l) := h2.sel 8 [1, 2, 3, 4, 5, 6, 7, 0]
    exact (sat_all (l' := [NdX p.nodes bs i.toNat, Blk b (gcells p g.wrong) T_penstocklaw12_group, KpR p.kept g.kept, MsR p.flight g.flight, PrR T_api_Commit p.told g.told, IsR p.heads g.heads, IsR p.applied g.applied]).2 h3).swap
  · intro w' r' L h3
    have h4 : Sat W w' (NdX p.nodes bs i.toNat :: Blk b (gcells p g.wrong) T_penstocklaw12_group :: KpR p.kept g.kept :: MsR p.flight g.flight :: PrR T_api_Commit p.told g.told :: IsR p.heads g.heads :: IsR p.applied g.applied :: RaR bn r' :: L) := sat_all.1 h3.swap
    have h5 := nd_close hbi (h4.sel 8 [7, 0, 1, 2, 3, 4, 5, 6])
    rw [hbs] at h5
    have h6 : Sat W w' (GpL b { g with nodes := g.nodes.set i.toNat r' } p L) := h5.swap
    exact sat_gp.2 ⟨p, h6⟩
theorem set_same {i : Nat} (hi : i < g.nodes.length) : ({ g with nodes := g.nodes.set i (g.node i) } : Gp) = g := by
  obtain ⟨hlt, hx⟩ := List.getElem?_eq_some_iff.1 (node_eq hi)
  rw [← hx, List.set_getElem_self]
theorem stateAt {i : Int} (h : Sat W w (GpR b g :: l)) (h0 : 0 ≤ i) (hi : i.toNat < g.nodes.length)
    (hK : ∀ w', Sat W w' (GpR b g :: l) → K (.tuple #[.int .i64 (g.node i.toNat).role, .int .i64 (g.node i.toNat).hd.term, .int .i64 (g.node i.toNat).leader, .int .i64 (g.node i.toNat).commit, .int .i64 (IntKind.i64.wrap (g.node i.toNat).last)]) w') :
    RunQ .sl P (Instr.loadAt T_sl_p_raft_Raft (.pointer (some ((⟨b, 0, none⟩ : Addr).add 0)))) w fun s => RunQ .addr P (Instr.indexAt T_sl_p_raft_Raft s.v (.int .i64 i)) w fun a => RunQ .ptr P (Instr.loadAt T_p_raft_Raft (.pointer (some a))) w fun p => CallP P F_raft_Raft_State [.pointer p] w K :=
  openAt h h0 hi fun bn R h1 back => state_ok h1 fun w' h2 => by
    have h3 := back h2
    rw [set_same hi] at h3
    exact hK w' h3
theorem stateAt' {i : Int} {c z : Int} (h : Sat W w (GpR b g :: l)) (h0 : 0 ≤ i) (hi : i.toNat < g.nodes.length) (hc : (g.node i.toNat).commit = c) (hz : (g.node i.toNat).last = z)
    (hK : ∀ w', Sat W w' (GpR b g :: l) → K (.tuple #[.int .i64 (g.node i.toNat).role, .int .i64 (g.node i.toNat).hd.term, .int .i64 (g.node i.toNat).leader, .int .i64 c, .int .i64 (IntKind.i64.wrap z)]) w') :
    RunQ .sl P (Instr.loadAt T_sl_p_raft_Raft (.pointer (some ((⟨b, 0, none⟩ : Addr).add 0)))) w fun s => RunQ .addr P (Instr.indexAt T_sl_p_raft_Raft s.v (.int .i64 i)) w fun a => RunQ .ptr P (Instr.loadAt T_p_raft_Raft (.pointer (some a))) w fun p => CallP P F_raft_Raft_State [.pointer p] w K := by
  subst hc hz
  exact stateAt h h0 hi hK
/-- nothing is under way any more -/
theorem clear_ok (h : Sat W w (GpR b g :: l)) {K : World → Prop} (hK : ∀ w', Sat W w' (GpR b { g with flight := [] } :: l) → K w') : StoreP P T_sl_api_RMsg (.pointer (some ((⟨b, 0, none⟩ : Addr).add 2))) (.slice none 0 0) w K := by
  obtain ⟨p, h1⟩ := sat_gp.1 h
  refine stX h1 2 (v := .slice none 0 0) (hi := (by show 2 < 7; decide)) fun w' h2 => hK w' ?_
  have h3 : Sat W w' (Blk b (gcells { p with flight := ⟨none, 0, 0⟩ } g.wrong) T_penstocklaw12_group :: NdR p.nodes g.nodes :: KpR p.kept g.kept :: MsR p.flight g.flight :: PrR T_api_Commit p.told g.told :: IsR p.heads g.heads :: IsR p.applied g.applied :: l) := h2
  have h4 : Sat W w' (MsR ⟨none, 0, 0⟩ [] :: _) := sat_ms.2 ⟨[], rfl, own_nil (h3.cut 3)⟩
  exact sat_gp.2 ⟨{ p with flight := ⟨none, 0, 0⟩ }, h4.sel 7 [1, 2, 3, 0, 4, 5, 6]⟩
theorem run_bsU8 (x : Int) (w : World) : (Instr.buildSlice T_sl_uint8 1 #[(0, .int .u8 x)]).run P w = .ok (.slice (some ⟨w.heap.size, 0, none⟩) 1 1) (w.alloc (.cells #[.int .u8 x] T_uint8)) := by kernel_rfl
set_option maxRecDepth 20000 in
theorem law_piles {m : Int} {G20 GP GT GE : Gp} (h : Sat W w l) (hm : 0 ≤ m ∧ m < 256) (hc : PilesC (m.tmod 90).toNat G20 GP GT GE) (hK : ∀ w', Sat W w' l → K (.bool true) w') : CallP P F_law12_RaftPiles [.int .u8 m] w K := by
  apply c_law12_RaftPiles
  unfold S_law12_RaftPiles
  have hmt : 0 ≤ m.tmod 90 ∧ m.tmod 90 < 90 := ⟨Int.tmod_nonneg _ hm.1, Int.tmod_lt_of_pos _ (by decide)⟩
  obtain ⟨n, hn⟩ : ∃ n : Nat, m.tmod 90 = n := ⟨(m.tmod 90).toNat, by omega⟩
  rw [hn] at hc hmt
  rw [hn]
  have hc : PilesC n G20 GP GT GE := by simpa using hc
  rw [w_i64 (n := (n : Int)) (by omega) (by omega)]
  refine begin_ok (n := 2) h ⟨by decide, by decide⟩ fun b w1 h1 => tyI (k := .ptr) ?_
  refine ⟨fun _ w' => Sat W w' (GpR b (Gp.begin' 2) :: l), ?_, ?_⟩
  · rintro _ w5 h2
    refine rounds_ok (n := 20) (k := 2) h2 (by decide) (by decide) hc.r20 fun w12 h3 => tupU rfl ?_
    rw [hc.e20] at h3
    have hl2 := hc.len
    refine ⟨fun t w' => ((t.2.1 = 0 ∧ t.1 = -1) ∨ (t.2.1 = 1 ∧ t.1 = -1) ∨ (t.2.1 = 2 ∧ t.1 = 1)) ∧ Sat W w' (GpR b G20 :: l), fun t _ => (2 - t.2.1).toNat, ⟨.inl ⟨rfl, rfl⟩, h3⟩, ?_⟩
    rintro ⟨ld, i, u⟩ w16 ⟨hti, h4⟩
    simp only at hti ⊢
    refine ifB_dec (fun hlt => ?_) fun hge => ?_
    · refine stateAt (i := i) h4 (by omega) (by omega) fun w22 h5 => ⟨(_, _, _, _, _, ()), rfl, ?_⟩
      rcases hti with ⟨rfl, rfl⟩ | ⟨rfl, rfl⟩ | ⟨rfl, rfl⟩
      · refine ifB_beq (fun c => absurd c hc.lead0) fun _ => ?_
        exact ⟨⟨.inr (.inl ⟨rfl, rfl⟩), h5⟩, by decide⟩
      · refine ifB_beq (fun _ => ?_) fun c => absurd hc.lead1 c
        exact ⟨⟨.inr (.inr ⟨rfl, rfl⟩), h5⟩, by decide⟩
      · exact absurd hlt (by decide)
    · obtain ⟨rfl, rfl⟩ : i = 2 ∧ ld = 1 := by omega
      refine ifB_dec (fun hneg => absurd hneg (by decide)) fun _ => ?_
      refine clear_ok h4 fun w25 h5 => ?_
      refine stateAt' (i := 1) (c := 1) (z := 1) h5 (by decide) (by show 1 < G20.nodes.length; omega) hc.commit hc.last fun w31 h6 => ⟨(_, _, _, (1 : Int), IntKind.i64.wrap 1, ()), rfl, ?_⟩
      have e3 : IntKind.i64.wrap (IntKind.i64.wrap 1 - 1) = 0 := by decide
      dsimp only
      rw [e3]
      refine ⟨fun t w' => ∃ (j : Nat) (G : Gp), t.1 = j ∧ j ≤ n ∧ PropsC G j (n - j) ∧ G.props 1 j (n - j) = GP ∧ Sat W w' (GpR b G :: l), fun t _ => n - t.1.toNat, ⟨0, _, rfl, Nat.zero_le _, hc.props, hc.eP, h6⟩, ?_⟩
      rintro ⟨j', u⟩ w35 ⟨j, G, hj, hjn, c1, c2, h7⟩
      simp only at hj ⊢
      subst hj
      refine ifB_dec (fun hlt => ?_) fun hge => ?_
      · obtain ⟨q, hq⟩ : ∃ q, n - j = q + 1 := ⟨n - j - 1, by omega⟩
        rw [hq] at c1 c2
        obtain ⟨⟨d1, d2, d3, d4, d5, d6⟩, c3⟩ := c1
        have hu8 : IntKind.u8.wrap (j : Int) = ((UInt8.ofNat j).toNat : Int) := by
          rw [show (UInt8.ofNat j).toNat = j by simp; omega]
          simp [IntKind.wrap, IntKind.signed, IntKind.bits]; omega
        refine openAt (i := 1) h7 (by decide) d1 fun bn R h8 back => ?_
        refine bsB h8 (cs := [.int .u8 (IntKind.u8.wrap (j : Int))]) (e := T_uint8) (run_bsU8 _) fun gb w41 h9 => ?_
        have h10 : Sat W w41 (RaR bn (G.node 1) :: Blk gb [.int .u8 (IntKind.u8.wrap (j : Int))] T_uint8 :: R :: l) := h9.swap
        have hxr : Rd W (Blk gb [.int .u8 (IntKind.u8.wrap (j : Int))] T_uint8 :: R :: l) ⟨some ⟨gb, 0, none⟩, 1, 1⟩ 1 ([UInt8.ofNat j].map vB) := fun w hw => by
          rw [hu8] at hw
          exact rdBlk hw (by simp)
        refine propose_ok (x := ⟨some ⟨gb, 0, none⟩, 1, 1⟩) (d := [UInt8.ofNat j]) h10 hxr d2 d3 (fun _ => d4) fun w43 h11 => ⟨(_, _, ()), rfl, ?_⟩
        dsimp only
        generalize hpr : (G.node 1).propose [UInt8.ofNat j] = pr at d5 d6 c2 c3 h11
        obtain ⟨r', at_, e⟩ := pr
        simp only at d5 d6 c2 c3 h11 ⊢
        have h12 := back (L := l) (h11.sel 3 [0, 2])
        have c2' : ({ G with nodes := G.nodes.set 1 r' } : Gp).props 1 (j + 1) q = GP := by
          have : ({ G with nodes := G.nodes.set 1 ((G.node 1).propose [UInt8.ofNat j]).1 } : Gp).props 1 (j + 1) q = GP := c2
          rw [hpr] at this
          exact this
        have nx : (fun (t' : Option (Int × Unit)) (w' : World) => match t' with | some t' => (∃ (j : Nat) (G : Gp), t'.1 = j ∧ j ≤ n ∧ PropsC G j (n - j) ∧ G.props 1 j (n - j) = GP ∧ Sat W w' (GpR b G :: l)) ∧ n - t'.1.toNat < n - (j : Int).toNat | none => False) (some (IntKind.i64.wrap ((j : Int) + 1), ())) w43 := by
          rw [w_i64 (n := (j : Int) + 1) (by omega) (by omega)]
          exact ⟨⟨j + 1, _, by omega, by omega, by rw [show n - (j + 1) = q by omega]; exact c3, by rw [show n - (j + 1) = q by omega]; exact c2', h12⟩, by simp only; omega⟩
        have e4 : IntKind.i64.wrap (0 + (j : Int)) = j := by rw [Int.zero_add]; exact w_i64 (by omega) (by omega)
        rw [e4]
        refine ifB_intro (fun c => ?_) fun c => ?_
        · exfalso
          by_cases h64 : j < 64
          · have he : e = 0 := d5.2 h64
            have h64' : ((j : Int) < 64) := by omega
            rw [he, decide_eq_true h64'] at c
            exact absurd c (by decide)
          · have he : e ≠ 0 := fun q => h64 (d5.1 q)
            have h64' : ¬ ((j : Int) < 64) := by omega
            have he2 : (e == 0) = false := by simp [he]
            rw [he2, decide_eq_false h64'] at c
            exact absurd c (by decide)
        · refine ifB_bne (fun ce => ?_) fun ce => ?_
          · refine ifB_bne (fun ce2 => ?_) fun ce2 => ?_
            · exact absurd (d6.resolve_left ce) ce2
            · exact nx
          · exact nx
      · have : n - j = 0 := by omega
        rw [this] at c2
        have c2 : G = GP := c2
        rw [c2] at h7
        refine gtake_ok (i := 1) h7 hc.take fun w46 h8 => tupU rfl ?_
        obtain ⟨p, h9⟩ := sat_gp.1 h8
        refine ldX h9 2 (x := p.flight) ?_
        have hml := Sat.msLen (Sat.up (L := GpL b (GP.take 1) p l) h9 3)
        refine ⟨fun t w' => ∃ j : Nat, t.1 = j ∧ j ≤ p.flight.len ∧ Sat W w' (GpL b (GP.take 1) p l), fun t _ => p.flight.len - t.1.toNat, ⟨0, rfl, Nat.zero_le _, h9⟩, ?_⟩
        rintro ⟨j', u⟩ w52 ⟨j, hj, hjn, h10⟩
        simp only at hj ⊢
        subst hj
        refine ifB_dec (fun hlt => ?_) fun hge => ?_
        · obtain ⟨cs, hcs, h11⟩ := sat_ms.1 (Sat.up (L := GpL b (GP.take 1) p l) h10 3)
          have hol := own_len h11 (by decide : 0 < 10)
          have hx : cs[j]? = some cs[j] := List.getElem?_eq_getElem (by omega)
          generalize hE : cs[j] = x at hx
          refine ixEl et_msgs (E := elM) rfl (sat_own.1 h11).rdc (by omega) (x := x) (by simpa using hx) (by omega) fun a ha => ?_
          refine ldAggC ha ?_
          refine newAgg (cs := elM.cells x) (z := zMsg) h10 (elM.one x) fun a55 w57 h12 => ?_
          refine ldX h12 8 (x := x.es) ?_
          have hxl : x.es.len ≤ 16 := by
            have h13 := own_open hx h11
            have h14 : Sat W w52 (All [PrR T_api_Entry x.es x.ents, BsR x.ss x.snap] :: _) := h13
            have h15 : Sat W w52 (PrR T_api_Entry x.es x.ents :: _) := sat_all.1 h14
            have h16 := (Sat.prLen h15).1
            have h17 := hc.few x.dat (by rw [← hcs]; exact List.mem_map.2 ⟨x, List.mem_of_getElem? hx, rfl⟩)
            have h18 : x.ents.length ≤ 16 := h17
            omega
          refine ifB_dec (fun c => absurd c (by omega)) fun _ => ?_
          rw [w_i64 (n := (j : Int) + 1) (by omega) (by omega)]
          exact ⟨⟨j + 1, by omega, by omega, h12.tail⟩, by omega⟩
        · refine clear_ok (sat_gp.2 ⟨p, h10⟩) fun w60 h11 => ?_
          rw [hc.eT] at h11
          refine rounds_ok (g := GT) (n := 40) (k := 2) h11 (by decide) (by decide) hc.r40 fun w62 h12 => tupU rfl ?_
          rw [hc.eE] at h12
          refine stateAt (i := 1) h12 (by decide) hc.elen fun w69 h13 => ⟨(_, _, _, (GE.node 1).commit, IntKind.i64.wrap (GE.node 1).last, ()), rfl, ?_⟩
          refine openAt (i := 1) h13 (by decide) hc.elen fun bn R h14 back => ?_
          refine propose_ok (x := ⟨none, 0, 0⟩) (d := []) h14 (Rd.nil rfl) hc.esane hc.eroomy (fun _ => hc.enext) fun w76 h15 => ⟨(_, _, ()), rfl, ?_⟩
          have h16 := back h15
          dsimp only
          have hwl : (GE.node 1).commit = IntKind.i64.wrap (GE.node 1).last := by
            have := last_in hc.esane
            rw [w_i64 (by omega) (by omega)]; exact hc.eall
          refine ifB_beq (fun _ => ?_) fun c => absurd hwl c
          refine ifB_beq (fun _ => ?_) fun c => absurd hc.ego c
          obtain ⟨p2, h17⟩ := sat_gp.1 h16
          refine ldX h17 6 (x := GE.wrong) ?_
          rw [hc.right]
          exact hK _ h16.tail
  · refine awake12_ok h1 fun w7 h2 => tyI (k := .bool) ?_
    obtain ⟨p, h3⟩ := sat_gp.1 h2
    refine ldX h3 6 (x := false) ?_
    exact h2
end
end Go.Proofs.Ytfbffgcoopelfaa
