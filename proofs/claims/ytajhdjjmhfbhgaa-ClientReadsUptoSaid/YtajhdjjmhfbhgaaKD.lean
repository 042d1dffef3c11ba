/- Layer 19: a client begins. -/
import Derived.Test.YtajhdjjmhfbhgaaKC
namespace Go.Proofs.Ytajhdjjmhfbhgaa
open Go Go.Pk
def Cl.away (c : Cl) : Cl := { c with joined := false, gen := 0, mine := [], att := List.replicate c.parts.toNat (-1), sure := List.replicate c.parts.toNat 0, turn := 0, dry := 0, count := 0, offset := 0, values := [], step := 0 }
def Cl.fresh (c : Cl) : Cl := { c with waits := false, out := none, ready := false }.away
def newC (c : Cf) (n : Int) (p : Pr) : Cl :=
  { id := IntKind.i64.wrap (c.nodes + n), number := n, nodes := c.nodes, parts := c.parts, copies := c.copies, ops := p.ol, group := p.group, op := 0, done := false, inc := 0, targets := (List.range (c.parts + 2).toNat).map fun k => ((k : Nat) : Int) % c.nodes, corr := 0,
    asked := zAq, waits := false, age := 0, busy := false, out := none, seen := [], ready := false, pid := 0, epoch := 0, begin := 0, opn := -1, added := [], next := [], joined := false, gen := 0, mine := [], att := List.replicate c.parts.toNat (-1), sure := List.replicate c.parts.toNat 0,
    turn := 0, dry := 0, count := 0, offset := 0, values := [], step := 0 }
theorem rep_set {n i : Nat} (hi : i < n) : (List.replicate i (-1 : Int) ++ List.replicate (n - i) 0).set i (-1) = List.replicate (i + 1) (-1) ++ List.replicate (n - (i + 1)) 0 := by
  rw [List.set_append, if_neg (by simp)]
  simp only [List.length_replicate, Nat.sub_self]
  have : n - i = (n - (i + 1)) + 1 := by omega
  rw [this, List.replicate_succ, List.set_cons_zero, List.replicate_succ', List.append_assoc]
  rfl
theorem rng_set {n i : Nat} {f : Nat → Int} (hi : i < n) : ((List.range i).map f ++ List.replicate (n - i) 0).set i (f i) = (List.range (i + 1)).map f ++ List.replicate (n - (i + 1)) 0 := by
  rw [List.set_append, if_neg (by simp)]
  simp only [List.length_map, List.length_range, Nat.sub_self]
  have : n - i = (n - (i + 1)) + 1 := by omega
  rw [this, List.replicate_succ, List.set_cons_zero, List.range_succ, List.map_append, List.append_assoc]
  rfl
section
variable {W w : World} {l : List Res} {K : Value → World → Prop} {b : Nat} {c : Cl}
theorem away_ok (h : Sat W w (ClM b c :: l)) (h0 : 0 ≤ c.parts) (h1 : c.parts ≤ 4) (hK : ∀ w', Sat W w' (ClM b c.away :: l) → K (.tuple #[]) w') : CallP P F_client_Client_away [.pointer (some ⟨b, 0, none⟩)] w K := by
  apply c_client_Client_away
  unfold S_client_Client_away
  obtain ⟨p, h2⟩ := sat_cl.1 h
  refine ⟨fun _ w' => ∃ p, Sat W w' (ClL b { c.away with att := List.replicate c.parts.toNat 0 } p l), ?_, ?_⟩
  · rintro _ w3 ⟨p, h3⟩
    refine ldX h3 87 (x := p.att) ?_
    have hl := (Sat.isLen (s := p.att) (Sat.up (L := ClL b { c.away with att := List.replicate c.parts.toNat 0 } p l) h3 10)).1
    simp only [List.length_replicate] at hl
    refine ⟨fun z w' => ∃ i : Nat, z.1 = i ∧ i ≤ c.parts.toNat ∧ Sat W w' (ClL b { c.away with att := List.replicate i (-1) ++ List.replicate (c.parts.toNat - i) 0 } p l), fun z _ => c.parts.toNat - z.1.toNat, ⟨0, rfl, Nat.zero_le _, h3⟩, ?_⟩
    rintro ⟨i', u⟩ w4 ⟨i, hi, hil, h4⟩
    simp only at hi ⊢
    subst hi
    refine ifB_dec (fun hlt => ?_) fun hge => ?_
    · refine ldX h4 87 (x := p.att) ?_
      have h5 : Sat W w4 (SlR T_int 1 p.att ((List.replicate i (-1) ++ List.replicate (c.parts.toNat - i) 0).map vI) :: _) := Sat.up (L := ClL b { c.away with att := List.replicate i (-1) ++ List.replicate (c.parts.toNat - i) 0 } p l) h4 10
      refine ixst et_ints h5 (by omega) (by omega) fun w5 h6 => ?_
      rw [w_i64 (by omega) (by omega)]
      refine ⟨⟨i + 1, rfl, by omega, ?_⟩, by omega⟩
      have e : (((List.replicate i (-1) ++ List.replicate (c.parts.toNat - i) 0).map vI).set (i : Int).toNat (.int .i64 (-1))) = (List.replicate (i + 1) (-1) ++ List.replicate (c.parts.toNat - (i + 1)) 0).map vI := by
        rw [← rep_set (by omega), List.map_set]; rfl
      rw [e] at h6
      exact h6.dn 10
    · have e : i = c.parts.toNat := by omega
      subst e
      rw [Nat.sub_self, List.replicate_zero, List.append_nil] at h4
      exact hK w4 (sat_cl.2 ⟨p, h4⟩)
  · let S : World → Prop := fun w => At W b 3 (.int .i64 c.parts) w
    have hS : ∀ w, S w → At W b 3 (.int .i64 c.parts) w := fun _ h => h
    have hs : ∀ {w : World} {c' : Cl} {p : ClP} {L : List Res}, Sat W w (ClL b c' p L) → c'.parts = c.parts → S w := fun h e => ⟨_, _, _, h, by rw [← e]; rfl⟩
    have h3 : Sat W w.drew (ClL b c p l) := h2.drew
    refine ⟨S, hs h3 rfl, ?_⟩
    refine hldY b 3 hS ?_
    refine hldY b 3 hS ?_
    have fin : ∀ (s1 s2 : Sl) w', Sat W w' (IsR s1 (List.replicate c.parts.toNat 0) :: IsR s2 (List.replicate c.parts.toNat 0) :: ClL b c p l) →
        StoreP P T_client_place (.pointer (some ((⟨b, 0, none⟩ : Addr).add 84))) (.agg #[(.bool false), (.int .i64 0), (.slice none 0 0), s1.v, s2.v, (.int .i64 0), (.int .i64 0), (.int .i64 0), (.int .i64 0), (.slice none 0 0), (.int .i64 0)]) w' fun w13 =>
          S w13 ∧ ∃ p, Sat W w13 (ClL b { c.away with att := List.replicate c.parts.toNat 0 } p l) := by
      intro s1 s2 w' h'
      have h4 : Sat W w' (Blk b (ccells c p) T_client_Client :: SlR T_api_Op 5 p.ops (elO.flat c.ops) :: IsR p.targets c.targets :: Pure (p.vl.map Prod.snd = c.asked.vals) :: OwnS elV p.vs p.vl :: SlR T_api_Msg 59 p.out (outL c p.vs) ::
          SlR T_api_Seen 7 p.seen (elS.flat c.seen) :: IsR p.added c.added :: IsR p.next c.next :: IsR s1 (List.replicate c.parts.toNat 0) :: IsR s2 (List.replicate c.parts.toNat 0) :: l) := h'.sel 15 [2, 3, 4, 5, 6, 7, 8, 9, 10, 0, 1]
      refine stAggX (cs' := [(.bool false), (.int .i64 0), (.slice none 0 0), s1.v, s2.v, (.int .i64 0), (.int .i64 0), (.int .i64 0), (.int .i64 0), (.slice none 0 0), (.int .i64 0)]) 84 h4 (by intro u hu; simp at hu; rcases hu with rfl | rfl | rfl | rfl | rfl | rfl | rfl | rfl | rfl | rfl | rfl <;> rfl) (fun w5 h5 => ?_) (by show 84 + 11 ≤ 95; decide)
      have h6 := Sat.nilSlr (Sat.nilSlr h5 T_int 1) T_string 1
      have h7 : Sat W w5 (ClL b { c.away with att := List.replicate c.parts.toNat 0 } { p with mine := ⟨none, 0, 0⟩, att := s1, sure := s2, values := ⟨none, 0, 0⟩ } l) := h6.sel 13 [2, 3, 4, 5, 6, 7, 8, 9, 10, 1, 11, 12, 0]
      exact ⟨hs h7 rfl, _, h7⟩
    refine ⟨?_, ?_, trivial⟩
    · refine mkInts h3 h0 (by omega) fun s1 w4 h4 => ⟨hs h4.tail rfl, ?_⟩
      refine mkInts h4 h0 (by omega) fun s2 w5 h5 => ⟨hs h5.tail.tail rfl, ?_⟩
      exact fin s1 s2 w5 h5.swap
    · refine mkInts h3 h0 (by omega) fun s1 w4 h4 => ⟨hs h4.tail rfl, ?_⟩
      refine mkInts h4 h0 (by omega) fun s2 w5 h5 => ⟨hs h5.tail.tail rfl, ?_⟩
      exact fin s2 s1 w5 h5
theorem fresh_ok (h : Sat W w (ClM b c :: l)) (h0 : 0 ≤ c.parts) (h1 : c.parts ≤ 4) (hK : ∀ w', Sat W w' (ClM b c.fresh :: l) → K (.tuple #[]) w') : CallP P F_client_Client_fresh [.pointer (some ⟨b, 0, none⟩)] w K := by
  apply c_client_Client_fresh
  unfold S_client_Client_fresh
  obtain ⟨p, h2⟩ := sat_cl.1 h
  refine stX h2 72 (fun w3 h3 => ?_)
  refine stX h3 75 (fun w4 h4 => ?_)
  refine stX h4 77 (fun w5 h5 => ?_)
  have h6 := Sat.nilSlr h5 T_api_Msg 59
  have h7 : Sat W w5 (ClL b { c with waits := false, out := none, ready := false } { p with out := ⟨none, 0, 0⟩ } l) := h6.sel 14 [1, 2, 3, 4, 5, 0, 7, 8, 9, 10, 11, 12, 13]
  refine away_ok (sat_cl.2 ⟨_, h7⟩) h0 h1 fun w6 h8 => tupU rfl ?_
  exact hK w6 h8
end
end Go.Proofs.Ytajhdjjmhfbhgaa
