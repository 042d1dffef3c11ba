/- Layer 19: a new client. -/
import Derived.Test.YtajhdjjmhfbhgaaKD
namespace Go.Proofs.Ytajhdjjmhfbhgaa
open Go Go.Pk
theorem Cf.ones (c : Cf) : ∀ u ∈ c.cells, u.oneCell' = true := by
  intro u hu
  simp only [Cf.cells, List.mem_cons, List.not_mem_nil, or_false] at hu
  rcases hu with rfl | rfl | rfl | rfl <;> rfl
theorem top_in {c : Cf} (h : cfBad c = false) : 1 ≤ c.nodes ∧ c.nodes ≤ 5 ∧ 1 ≤ c.parts ∧ c.parts ≤ 4 ∧ c.cl.length ≤ 4 := by
  simp only [cfBad, topBad, Bool.or_eq_false_iff, decide_eq_false_iff_not] at h
  omega
theorem pr_in {c : Cf} {p : Pr} (h : cfBad c = false) (hp : p ∈ c.cl) : prBad c.parts p = false := by
  simp only [cfBad, Bool.or_eq_false_iff, List.any_eq_false] at h
  have := h.2 p hp
  simpa using this
theorem pr_len {n : Int} {p : Pr} (h : prBad n p = false) : p.ol.length ≤ 64 ∧ 0 ≤ p.group ∧ p.group ≤ 7 := by
  simp only [prBad, Bool.or_eq_false_iff, decide_eq_false_iff_not] at h
  omega
def c0 (c : Cf) (n : Int) (p : Pr) (t : List Int) (o : Int) : Cl := { newC c n p with targets := t, opn := o, att := [], sure := [] }
def p0 (c : Cf) (s1 s2 : Sl) : ClP := ⟨c.cs, s1, s2, ⟨none, 0, 0⟩, [], ⟨none, 0, 0⟩, ⟨none, 0, 0⟩, ⟨none, 0, 0⟩, ⟨none, 0, 0⟩, ⟨none, 0, 0⟩, ⟨none, 0, 0⟩, ⟨none, 0, 0⟩, ⟨none, 0, 0⟩⟩
section
variable {W w : World} {l : List Res} {K : Value → World → Prop} {b : Nat} {c : Cf}
theorem new_begin {n : Int} {p : Pr} {t : List Int} {s1 s2 : Sl} {L : List Res} (h : Sat W w (Blk b (ccells (c0 c n p t 0) (p0 c s1 s2)) T_client_Client :: SlR T_api_Op 5 s1 (elO.flat p.ol) :: IsR s2 t :: L)) : Sat W w (ClL b (c0 c n p t 0) (p0 c s1 s2) L) := by
  have g := own_nil (E := elV) (Sat.nilSlr (Sat.nilSlr (Sat.nilSlr (Sat.nilSlr (Sat.nilSlr (Sat.nilSlr (Sat.nilSlr (Sat.nilSlr h T_string 1) T_int 1) T_int 1) T_int 1) T_int 1) T_int 1) T_api_Seen 7) T_api_Msg 59)
  have g2 : Sat W w (Pure (([] : List (Sl × List UInt8)).map Prod.snd = zAq.vals) :: OwnS elV ⟨none, 0, 0⟩ [] :: SlR T_api_Msg 59 ⟨none, 0, 0⟩ [] :: SlR T_api_Seen 7 ⟨none, 0, 0⟩ [] :: IsR ⟨none, 0, 0⟩ [] :: IsR ⟨none, 0, 0⟩ [] :: IsR ⟨none, 0, 0⟩ [] :: IsR ⟨none, 0, 0⟩ [] :: IsR ⟨none, 0, 0⟩ [] :: SlR T_string 1 ⟨none, 0, 0⟩ [] :: _) := sat_pure.2 ⟨rfl, g⟩
  exact g2.sel 13 [10, 11, 12, 0, 1, 2, 3, 4, 5, 6, 7, 8, 9]
theorem new_ok {n : Int} (h : Sat W w l) (hr : CfRd W l c) (hn : n < 9223372036854775808) (hbad : (cfBad c = true ∨ n < 0 ∨ n ≥ c.cl.length) → ∀ w', Sat W w' l → K (.tuple #[.pointer none, .int .i64 1]) w')
    (hK : ∀ p b w', cfBad c = false → 0 ≤ n → c.cl[n.toNat]? = some p → Sat W w' (ClM b (newC c n p) :: l) → K (.tuple #[.pointer (some ⟨b, 0, none⟩), .int .i64 0]) w') : CallP P F_client_New [.int .i64 n, .agg c.cells.toArray] w K := by
  apply c_client_New
  unfold S_client_New
  refine boxB h fun a0 w1 h1 => ?_
  have h1 : Sat W w1 (Blk a0 c.cells T_api_Config :: l) := h1
  have hcl : c.cs.len = c.cl.length := RdC.elen (E := elP) (hr.cl w h) (by decide)
  refine ldAggB h1 (by kernel_rfl) ?_
  refine client_Check_ok h1 hr.cons fun w2 h2 => ?_
  by_cases hb : cfBad c = true
  · rw [if_pos hb]
    exact tyI (show ifB ((1 : Int) != 0) _ _ from hbad (.inl hb) w2 h2.tail)
  have hb : cfBad c = false := by simpa using hb
  rw [hb]
  refine tyI ?_
  refine ifB_bne (fun hne => absurd rfl hne) fun _ => ?_
  obtain ⟨t1, t2, t3, t4, t5⟩ := top_in hb
  refine ⟨fun _ w' => (0 ≤ n ∧ n < c.cl.length) ∧ Sat W w' (Blk a0 c.cells T_api_Config :: l), ?_, ?_⟩
  · rintro _ w3 ⟨⟨n0, n1⟩, h3⟩
    refine ldB h3 (o := 0) (i := 3) (k := .sl) (x := c.cs) ?_
    have hx : c.cl[n.toNat]? = some (c.cl[n.toNat]'(by omega)) := by simp
    have hm : (c.cl[n.toNat]'(by omega)) ∈ c.cl := List.getElem_mem (by omega)
    generalize (c.cl[n.toNat]'(by omega)) = p at hx hm
    obtain ⟨q1, q2, q3⟩ := pr_len (pr_in hb hm)
    refine ixEl (E := elP) et_progs rfl (hr.cl w3 h3.tail) n0 hx (by omega) fun a ha => ?_
    refine ldAggC (cs := p.cells) ha ?_
    refine newAgg (z := [.int .i64 0, .slice none 0 0]) h3 (Pr.ones p) fun a1 w4 h4 => ?_
    have hp2 : IntKind.i64.wrap (c.parts + 2) = c.parts + 2 := w_i64 (by omega) (by omega)
    have hnil : List.replicate (c.parts + 2).toNat (0 : Int) = (List.range 0).map (fun k => ((k : Nat) : Int) % c.nodes) ++ List.replicate ((c.parts + 2).toNat - 0) 0 := by simp
    refine ⟨fun t w' => ∃ b s1 s2, t.1 = some ⟨b, 0, none⟩ ∧ Sat W w' (ClL b (c0 c n p (List.replicate (c.parts + 2).toNat 0) 0) (p0 c s1 s2) (Blk a0 c.cells T_api_Config :: l)), ?_, ?_⟩
    · rintro ⟨t, u⟩ w5 ⟨b, s1, s2, ht, h5⟩
      simp only at ht
      subst ht
      refine ldX h5 11 (x := s2) ?_
      have hl := (Sat.isLen (s := s2) (Sat.up (L := ClL b (c0 c n p (List.replicate (c.parts + 2).toNat 0) 0) (p0 c s1 s2) (Blk a0 c.cells T_api_Config :: l)) h5 2)).1
      have hl : (c.parts + 2).toNat = s2.len := by
        have e : (List.replicate (c.parts + 2).toNat (0 : Int)).length = s2.len := hl
        rwa [List.length_replicate] at e
      rw [hnil] at h5
      refine ⟨fun z w' => ∃ i : Nat, z.1 = i ∧ i ≤ (c.parts + 2).toNat ∧ Sat W w' (ClL b (c0 c n p ((List.range i).map (fun k => ((k : Nat) : Int) % c.nodes) ++ List.replicate ((c.parts + 2).toNat - i) 0) 0) (p0 c s1 s2) (Blk a0 c.cells T_api_Config :: l)), fun z _ => (c.parts + 2).toNat - z.1.toNat, ⟨0, rfl, Nat.zero_le _, h5⟩, ?_⟩
      rintro ⟨i', u⟩ w6 ⟨i, hi, hil, h6⟩
      simp only at hi ⊢
      subst hi
      refine ifB_dec (fun hlt => ?_) fun hge => ?_
      · let S : World → Prop := fun w => At W b 11 s2.v w ∧ At W a0 0 (.int .i64 c.nodes) w
        have hs : ∀ {w : World} {t : List Int}, Sat W w (ClL b (c0 c n p t 0) (p0 c s1 s2) (Blk a0 c.cells T_api_Config :: l)) → S w := fun {w} {t} h => ⟨⟨_, _, _, h, rfl⟩, ⟨_, _, _, Sat.up (L := ClL b (c0 c n p t 0) (p0 c s1 s2) (Blk a0 c.cells T_api_Config :: l)) h 13, rfl⟩⟩
        have h7 := h6.drew
        refine ⟨S, hs h7, ?_⟩
        refine hldY b 11 (k := .sl) (x := s2) (fun _ h => h.1) ?_
        refine hldY a0 0 (x := c.nodes) (fun _ h => h.2) ?_
        refine remR (by omega) ⟨hs h7, ?_⟩
        have h8 : Sat W w6.drew (SlR T_int 1 s2 (((List.range i).map (fun k => ((k : Nat) : Int) % c.nodes) ++ List.replicate ((c.parts + 2).toNat - i) 0).map vI) :: _) := Sat.up (L := ClL b (c0 c n p ((List.range i).map (fun k => ((k : Nat) : Int) % c.nodes) ++ List.replicate ((c.parts + 2).toNat - i) 0) 0) (p0 c s1 s2) (Blk a0 c.cells T_api_Config :: l)) h7 2
        obtain ⟨sa, hsa⟩ := slSome h8 (by omega)
        refine hixP et_ints hsa (by omega) (by omega) ?_
        refine stSl h8 hsa (by omega) fun w7 h9 => ?_
        have e : ((((List.range i).map (fun k => ((k : Nat) : Int) % c.nodes) ++ List.replicate ((c.parts + 2).toNat - i) 0).map vI).set (i : Int).toNat (.int .i64 ((i : Int).tmod c.nodes))) = (((List.range (i + 1)).map (fun k => ((k : Nat) : Int) % c.nodes) ++ List.replicate ((c.parts + 2).toNat - (i + 1)) 0)).map vI := by
          rw [← rng_set (f := fun k => ((k : Nat) : Int) % c.nodes) (by omega), List.map_set, Int.tmod_eq_emod_of_nonneg (by omega)]; rfl
        rw [e] at h9
        have h10 : Sat W w7 (ClL b (c0 c n p ((List.range (i + 1)).map (fun k => ((k : Nat) : Int) % c.nodes) ++ List.replicate ((c.parts + 2).toNat - (i + 1)) 0) 0) (p0 c s1 s2) (Blk a0 c.cells T_api_Config :: l)) := h9.dn 2
        rw [w_i64 (by omega) (by omega)]
        exact ⟨hs h10, ⟨i + 1, rfl, by omega, h10⟩, by omega⟩
      · have e : i = (c.parts + 2).toNat := by omega
        subst e
        rw [Nat.sub_self, List.replicate_zero, List.append_nil] at h6
        refine stX h6 81 fun w7 h7 => ?_
        have h8 : Sat W w7 (ClL b (c0 c n p ((List.range (c.parts + 2).toNat).map fun k => ((k : Nat) : Int) % c.nodes) (-1)) (p0 c s1 s2) (Blk a0 c.cells T_api_Config :: l)) := h7
        refine fresh_ok (sat_cl.2 ⟨_, h8⟩) (show 0 ≤ c.parts by omega) t4 fun w8 h9 => tupU rfl ?_
        exact hK p b w8 hb n0 hx (h9.cut 1)
    · let S : World → Prop := fun w => ∃ L, Sat W w (Blk a1 p.cells T_api_Program :: Blk a0 c.cells T_api_Config :: L)
      have sa : ∀ w, S w → ∃ L, Sat W w (Blk a1 p.cells T_api_Program :: L) := fun w ⟨L, h⟩ => ⟨_, h⟩
      have sb : ∀ w, S w → ∃ L, Sat W w (Blk a0 c.cells T_api_Config :: L) := fun w ⟨L, h⟩ => ⟨_, h.swap⟩
      have h5 : Sat W w4.drew (Blk a1 p.cells T_api_Program :: Blk a0 c.cells T_api_Config :: l) := h4.drew
      refine ⟨S, ⟨_, h5⟩, ?_⟩
      refine hldB sb (o := 0) (i := 0) (x := c.nodes) ?_
      refine hldAggB sb (by kernel_rfl) ?_
      refine hldB sa (o := 0) (i := 1) (k := .sl) (x := p.os) ?_
      refine hldB sa (o := 0) (i := 0) (x := p.group) ?_
      refine hldB sb (o := 0) (i := 1) (x := c.parts) ?_
      rw [hp2]
      have ho : ∀ {l' : List Res}, Rd W l' p.os 5 (elO.flat p.ol) → Rd W l' p.os 5 (elO.flat p.ol) := fun h => h
      have fin : ∀ (s1 s2 : Sl) w', Sat W w' (SlR T_api_Op 5 s1 (elO.flat p.ol) :: IsR s2 (List.replicate (c.parts + 2).toNat 0) :: Blk a1 p.cells T_api_Program :: Blk a0 c.cells T_api_Config :: l) →
          HRun S .val P (Instr.build T_client_Client #[(0, (.int .i64 (IntKind.i64.wrap (c.nodes + n)))), (1, (.int .i64 n)), (2, .agg c.cells.toArray), (3, s1.v), (4, (.int .i64 p.group)), (8, s2.v)]) fun (v30 : Value) =>
            RunK .addr P (Instr.box T_client_Client v30) w' fun (a31 : Addr) w32 => (S w32) ∧ ∃ b s1 s2, some a31 = some ⟨b, 0, none⟩ ∧ Sat W w32 (ClL b (c0 c n p (List.replicate (c.parts + 2).toNat 0) 0) (p0 c s1 s2) (Blk a0 c.cells T_api_Config :: l)) := by
        intro s1 s2 w' h'
        refine ⟨.agg (ccells (c0 c n p (List.replicate (c.parts + 2).toNat 0) 0) (p0 c s1 s2)).toArray, fun w _ => by kernel_rfl, ?_⟩
        refine boxB h' fun g w8 h8 => ?_
        have h8 : Sat W w8 (Blk g (ccells (c0 c n p (List.replicate (c.parts + 2).toNat 0) 0) (p0 c s1 s2)) T_client_Client :: SlR T_api_Op 5 s1 (elO.flat p.ol) :: IsR s2 (List.replicate (c.parts + 2).toNat 0) :: Blk a1 p.cells T_api_Program :: Blk a0 c.cells T_api_Config :: l) := h8
        exact ⟨⟨_, h8.sel 5 [3, 4, 0, 1, 2]⟩, g, s1, s2, rfl, new_begin (h8.cut 3)⟩
      refine ⟨?_, ?_, trivial⟩
      · refine cloneOp_ok h5 ((hr.ol p hm).cons.cons) (by omega) fun s1 w6 h6 => tyI (k := .sl) ⟨⟨_, h6.sel 3 [1, 2, 0]⟩, ?_⟩
        refine mkInts h6 (by omega) (by omega) fun s2 w7 h7 => ⟨⟨_, h7.sel 4 [2, 3, 0, 1]⟩, ?_⟩
        exact fin s1 s2 w7 h7.swap
      · refine mkInts h5 (by omega) (by omega) fun s2 w6 h6 => ⟨⟨_, h6.sel 3 [1, 2, 0]⟩, ?_⟩
        refine cloneOp_ok h6 ((hr.ol p hm).cons.cons.cons) (by omega) fun s1 w7 h7 => tyI (k := .sl) ⟨⟨_, h7.sel 4 [2, 3, 0, 1]⟩, ?_⟩
        exact fin s1 s2 w7 h7
  · refine ifB_dec (fun hlt => hbad (.inr (.inl hlt)) w2 h2.tail) fun h0 => ?_
    refine ldB h2 (o := 0) (i := 3) (k := .sl) (x := c.cs) ?_
    refine ifB_dec (fun hge => hbad (.inr (.inr (by omega))) w2 h2.tail) fun h3 => ⟨⟨by omega, by omega⟩, h2⟩
end
end Go.Proofs.Ytajhdjjmhfbhgaa
