/- Layer 12: a group begins; rounds go by. -/
import Derived.Test.YtfbffgcoopelfaaRgD
namespace Go.Proofs.Ytfbffgcoopelfaa
open Go Go.Pk
structure GiveC (g : Gp) : Prop where
  len : 0 < g.nodes.length ∧ g.nodes.length ≤ 1000
  flight : g.flight.length ≤ 1099511627776
  give : ∀ m ms, g.flight = m :: ms → 0 ≤ m.to → m.to < g.nodes.length → GiveOk g m ms m.to.toNat
def GivesC (g : Gp) : Nat → Prop
  | 0 => True
  | k + 1 => GiveC g ∧ GivesC g.give k
def TicksC (g : Gp) (r k : Nat) : Nat → Prop
  | 0 => True
  | n + 1 => TickOk g (k - (n + 1)) ((k - (n + 1) : Nat) + r : Nat) ∧ TicksC (g.tick (k - (n + 1)) ((k - (n + 1) : Nat) + r : Nat)) r k n
def RoundC (g : Gp) (r k : Nat) : Prop := g.flight.length ≤ 1099511627776 ∧ GivesC g g.flight.length ∧ TicksC (g.gives g.flight.length) r k k
def RoundsC (g : Gp) (k r : Nat) : Nat → Prop
  | 0 => True
  | n + 1 => RoundC g r k ∧ RoundsC (g.round r k) k (r + 1) n
section
variable {W w : World} {l : List Res} {K : Value → World → Prop} {b : Nat} {g : Gp}
set_option maxRecDepth 20000 in
theorem rounds_ok {n k : Nat} (h : Sat W w (GpR b g :: l)) (hn : n ≤ 1000000) (hk : k ≤ 1000000) (hc : RoundsC g k 0 n) (hK : ∀ w', Sat W w' (GpR b (g.rounds k 0 n) :: l) → K (.tuple #[]) w') :
    CallP P F_law12_group_rounds [.pointer (some ⟨b, 0, none⟩), .int .i64 (n : Int), .int .i64 (k : Int)] w K := by
  apply c_law12_group_rounds
  unfold S_law12_group_rounds
  refine ⟨fun t w' => ∃ (j : Nat) (G : Gp), t.1 = j ∧ j ≤ n ∧ RoundsC G k j (n - j) ∧ G.rounds k j (n - j) = g.rounds k 0 n ∧ Sat W w' (GpR b G :: l), fun t _ => n - t.1.toNat, ⟨0, g, rfl, Nat.zero_le _, hc, rfl, h⟩, ?_⟩
  rintro ⟨j', u⟩ w2 ⟨j, G, hj, hjn, c1, c2, h1⟩
  simp only at hj ⊢
  subst hj
  refine ifB_dec (fun hlt => ?_) fun hge => ?_
  · obtain ⟨q, hq⟩ : ∃ q, n - j = q + 1 := ⟨n - j - 1, by omega⟩
    have hq' : n - (j + 1) = q := by omega
    rw [hq] at c1 c2
    obtain ⟨⟨c3, c4, c5⟩, c6⟩ := c1
    obtain ⟨p, h2⟩ := sat_gp.1 h1
    have hml := Sat.msLen (Sat.up (L := GpL b G p l) h2 3)
    refine ldX h2 2 (x := p.flight) ?_
    refine ⟨fun t w' => ∃ (m : Nat) (H : Gp), t.1 = m ∧ m ≤ p.flight.len ∧ GivesC H m ∧ H.gives m = G.gives G.flight.length ∧ Sat W w' (GpR b H :: l), fun t _ => t.1.toNat, ⟨p.flight.len, G, rfl, Nat.le_refl _, by rw [hml.1]; exact c4, by rw [hml.1], h1⟩, ?_⟩
    rintro ⟨m', u⟩ w7 ⟨m, H, hm, hmn, d1, d2, h3⟩
    simp only at hm ⊢
    subst hm
    refine ifB_dec (fun hlt2 => ?_) fun hge2 => ?_
    · obtain ⟨m, rfl⟩ : ∃ m2, m = m2 + 1 := ⟨m - 1, by omega⟩
      refine act1_ok (d := 0) (x := ⟨none, 0, 0⟩) h3 d1.1.len d1.1.flight d1.1.give fun w9 h4 => tupU rfl ?_
      rw [w_i64 (n := ((m + 1 : Nat) : Int) - 1) (by omega) (by omega)]
      exact ⟨⟨m, H.give, by omega, by omega, d1.2, d2, h4⟩, by omega⟩
    · have hm0 : m = 0 := by omega
      subst hm0
      have d2 : H = G.gives G.flight.length := d2
      refine ⟨fun t w' => ∃ (i : Nat) (H : Gp), t.1 = i ∧ i ≤ k ∧ TicksC H j k (k - i) ∧ H.ticks j k (k - i) = G.round j k ∧ Sat W w' (GpR b H :: l), fun t _ => k - t.1.toNat, ⟨0, H, rfl, Nat.zero_le _, by rw [d2]; exact c5, by rw [d2]; rfl, h3⟩, ?_⟩
      rintro ⟨i', u⟩ w13 ⟨i, I, hi, hin, e1, e2, h4⟩
      simp only at hi ⊢
      subst hi
      refine ifB_dec (fun hlt3 => ?_) fun hge3 => ?_
      · obtain ⟨q2, hq2⟩ : ∃ q, k - i = q + 1 := ⟨k - i - 1, by omega⟩
        rw [hq2] at e1 e2
        have hi2 : k - (q2 + 1) = i := by omega
        obtain ⟨e3, e4⟩ := e1
        rw [hi2] at e3 e4
        have e2 : (I.tick (k - (q2 + 1)) ((k - (q2 + 1) : Nat) + j : Nat)).ticks j k q2 = G.round j k := e2
        rw [hi2] at e2
        rw [w_i64 (n := (i : Int) + (j : Int)) (by omega) (by omega)]
        have e5 : ((i + j : Nat) : Int) = (i : Int) + (j : Int) := by omega
        rw [e5] at e3 e4 e2
        refine act0_ok (x := ⟨none, 0, 0⟩) h4 (by omega) e3 fun w15 h5 => tupU rfl ?_
        rw [w_i64 (n := (i : Int) + 1) (by omega) (by omega)]
        exact ⟨⟨i + 1, _, by omega, by omega, by rw [show k - (i + 1) = q2 by omega]; exact e4, by rw [show k - (i + 1) = q2 by omega]; exact e2, h5⟩, by omega⟩
      · have : k - i = 0 := by omega
        rw [this] at e2
        have e2 : I = G.round j k := e2
        rw [w_i64 (n := (j : Int) + 1) (by omega) (by omega)]
        exact ⟨⟨j + 1, I, by omega, by omega, by rw [hq', e2]; exact c6, by rw [hq', e2]; exact c2, h4⟩, by omega⟩
  · have : n - j = 0 := by omega
    rw [this] at c2
    have c2 : G = g.rounds k 0 n := c2
    rw [c2] at h1
    exact hK w2 h1
def hd0 : HdC := ⟨⟨0, -1, 0, 0, [], []⟩, ⟨none, 0, 0⟩, ⟨none, 0, 0⟩⟩
def begK (n i : Nat) : Gp := ⟨(List.range i).map fun (j : Nat) => Rs.new (j : Int) n hd0.h, List.replicate i hd0.h, [], [], [], List.replicate i 0, false⟩
theorem begin_ok {n : Nat} (h : Sat W w l) (hn : 1 ≤ n ∧ n ≤ 5) (hK : ∀ b w', Sat W w' (GpR b (Gp.begin' n) :: l) → K (.pointer (some ⟨b, 0, none⟩)) w') : CallP P F_law12_begin [.int .i64 (n : Int)] w K := by
  apply c_law12_begin
  unfold S_law12_begin
  refine boxB h fun b w1 h1 => ?_
  have h1 : Sat W w1 (Blk b (gcells ⟨⟨none, 0, 0⟩, ⟨none, 0, 0⟩, ⟨none, 0, 0⟩, ⟨none, 0, 0⟩, ⟨none, 0, 0⟩, ⟨none, 0, 0⟩⟩ false) T_penstocklaw12_group :: l) := h1
  have h2 : Sat W w1 (GpR b (begK n 0) :: l) := by
    refine sat_gp.2 ⟨⟨⟨none, 0, 0⟩, ⟨none, 0, 0⟩, ⟨none, 0, 0⟩, ⟨none, 0, 0⟩, ⟨none, 0, 0⟩, ⟨none, 0, 0⟩⟩, ?_⟩
    have a1 : Sat W w1 (IsR ⟨none, 0, 0⟩ [] :: _) := Sat.nilSlr h1 T_int 1
    have a2 : Sat W w1 (IsR ⟨none, 0, 0⟩ [] :: _) := Sat.nilSlr a1 T_int 1
    have a3 : Sat W w1 (PrR T_api_Commit ⟨none, 0, 0⟩ [] :: _) := pr_nil a2
    have a4 : Sat W w1 (MsR ⟨none, 0, 0⟩ [] :: _) := sat_ms.2 ⟨[], rfl, own_nil a3⟩
    have a5 : Sat W w1 (KpR ⟨none, 0, 0⟩ [] :: _) := sat_kp.2 ⟨[], rfl, own_nil a4⟩
    have a6 : Sat W w1 (NdR ⟨none, 0, 0⟩ [] :: _) := sat_nd.2 ⟨[], rfl, own_nil a5⟩
    exact a6.sel 7 [6, 0, 1, 2, 3, 4, 5]
  refine ⟨fun t w' => ∃ i : Nat, t.1 = i ∧ i ≤ n ∧ Sat W w' (GpR b (begK n i) :: l), fun t _ => n - t.1.toNat, ⟨0, rfl, Nat.zero_le _, h2⟩, ?_⟩
  rintro ⟨i', u⟩ w4 ⟨i, hi, hin, h3⟩
  simp only at hi ⊢
  subst hi
  refine ifB_dec (fun hlt => ?_) fun hge => ?_
  · refine new_ok (c := hd0) h3 ⟨Rd.nil rfl, ⟨[], rfl, Rd.nil rfl, fun e he => by cases he⟩⟩ ⟨by decide, by decide, fun e he => by cases he⟩ (fun hb => ?_) fun _ bb w6 h4 => ⟨(_, _, ()), rfl, ?_⟩
    · exfalso
      simp [Rs.badNew, hd0] at hb
      omega
    · obtain ⟨p, h5⟩ := sat_gp.1 h4.swap
      refine ldX h5 0 (x := p.nodes) ?_
      refine bsB h5 (cs := [.pointer (some ⟨bb, 0, none⟩)]) (e := T_p_raft_Raft) (fun w => by kernel_rfl) fun gb w10 h6 => ?_
      obtain ⟨bs, hbs, h7⟩ := sat_nd.1 (h6.up 2)
      have h8 : Sat W w10 (Blk gb (elN.cells (bb, Rs.new (i : Int) n hd0.h)) T_p_raft_Raft :: elN.own (bb, Rs.new (i : Int) n hd0.h) :: OwnS elN p.nodes bs :: Blk b (gcells p false) T_penstocklaw12_group :: KpR p.kept (begK n i).kept :: MsR p.flight [] :: PrR T_api_Commit p.told [] :: IsR p.heads [] :: IsR p.applied (begK n i).applied :: l) := Sat.sel h7 9 [1, 8, 0, 2, 3, 4, 5, 6, 7]
      have hbl : bs.length = i := by
        have := congrArg List.length hbs
        simpa [begK] using this
      refine own_push (E := elN) et_nodes rfl rfl (by decide) h8 (by omega) (by omega) fun s11 w12 h9 => ?_
      have hb' : Sat W w12 (Blk b (gcells p false) T_penstocklaw12_group :: _) := h9.up 1
      refine stX hb' 0 (v := s11.v) (hi := (by show 0 < 7; decide)) fun w13 h10 => ?_
      have h10 : Sat W w13 (Blk b (gcells { p with nodes := s11 } false) T_penstocklaw12_group :: _) := h10
      refine ldX h10 1 (x := p.kept) ?_
      refine bsB h10 (cs := hd0.cells) (e := T_api_Hard) (fun w => by kernel_rfl) fun gc w16 h11 => ?_
      obtain ⟨cs, hcs, h12⟩ := sat_kp.1 (h11.up 3)
      have hcl : cs.length = i := by
        have := congrArg List.length hcs
        simpa [begK] using this
      have a1 : Sat W w16 (PrR T_api_Entry ⟨none, 0, 0⟩ [] :: _) := pr_nil h12
      have a2 : Sat W w16 (BsR ⟨none, 0, 0⟩ [] :: _) := Sat.nilSlr a1 T_uint8 1
      have a3 : Sat W w16 (All [BsR ⟨none, 0, 0⟩ [], PrR T_api_Entry ⟨none, 0, 0⟩ []] :: _) := (sat_all (l' := [BsR ⟨none, 0, 0⟩ [], PrR T_api_Entry ⟨none, 0, 0⟩ []])).2 a2
      have h13 : Sat W w16 (Blk gc (elH.cells hd0) T_api_Hard :: elH.own hd0 :: OwnS elH p.kept cs :: _) := a3.sel 3 [2, 0, 1]
      refine own_push (E := elH) et_hards rfl rfl (by decide) h13 (by omega) (by omega) fun s17 w18 h14 => ?_
      have hb' : Sat W w18 (Blk b (gcells { p with nodes := s11 } false) T_penstocklaw12_group :: _) := h14.up 1
      refine stX hb' 1 (v := s17.v) (hi := (by show 1 < 7; decide)) fun w19 h15 => ?_
      have h15 : Sat W w19 (Blk b (gcells { p with nodes := s11, kept := s17 } false) T_penstocklaw12_group :: _) := h15
      refine ldX h15 5 (x := p.applied) ?_
      have h16 : Sat W w19 (IsR p.applied (List.replicate i 0) :: _) := h15.up 6
      refine isPush h16 (by simp; omega) fun s23 w24 h17 => ?_
      have hb' : Sat W w24 (Blk b (gcells { p with nodes := s11, kept := s17 } false) T_penstocklaw12_group :: _) := h17.up 1
      refine stX hb' 5 (v := s23.v) (hi := (by show 5 < 7; decide)) fun w25 h18 => ?_
      have h18 : Sat W w25 (Blk b (gcells { p with nodes := s11, kept := s17, applied := s23 } false) T_penstocklaw12_group :: _) := h18
      refine ldX h18 6 (x := false) ?_
      refine stX h18 6 (v := .bool false) (hi := (by show 6 < 7; decide)) fun w28 h19 => ?_
      have h19 : Sat W w28 (Blk b (gcells { p with nodes := s11, kept := s17, applied := s23 } false) T_penstocklaw12_group :: IsR s23 (List.replicate i 0 ++ [0]) :: OwnS elH s17 (cs ++ [hd0]) :: OwnS elN s11 (bs ++ [(bb, Rs.new (i : Int) n hd0.h)]) :: MsR p.flight [] :: PrR T_api_Commit p.told [] :: IsR p.heads [] :: l) := h19
      have q1 : (bs ++ [(bb, Rs.new (i : Int) n hd0.h)]).map Prod.snd = (begK n (i + 1)).nodes := by rw [List.map_append, hbs]; simp [begK, List.range_succ]
      have q2 : (cs ++ [hd0]).map HdC.h = (begK n (i + 1)).kept := by rw [List.map_append, hcs]; simp [begK, List.replicate_succ']
      have q3 : List.replicate i (0 : Int) ++ [0] = (begK n (i + 1)).applied := by simp [begK, List.replicate_succ']
      have g1 := sat_nd.2 ⟨_, q1, h19.up 3⟩
      have g2 := sat_kp.2 ⟨_, q2, g1.up 3⟩
      have g3 : Sat W w28 (KpR s17 (begK n (i + 1)).kept :: NdR s11 (begK n (i + 1)).nodes :: Blk b (gcells { p with nodes := s11, kept := s17, applied := s23 } false) T_penstocklaw12_group :: IsR s23 (List.replicate i 0 ++ [0]) :: MsR p.flight [] :: PrR T_api_Commit p.told [] :: IsR p.heads [] :: l) := g2
      rw [q3] at g3
      rw [w_i64 (n := (i : Int) + 1) (by omega) (by omega)]
      refine ⟨⟨i + 1, by omega, by omega, sat_gp.2 ⟨{ p with nodes := s11, kept := s17, applied := s23 }, ?_⟩⟩, by omega⟩
      exact g3.sel 7 [2, 1, 0, 4, 5, 6, 3]
  · have : i = n := by omega
    subst this
    exact hK b w4 h3
end
end Go.Proofs.Ytfbffgcoopelfaa
