/- Layer 19: the law's hold of a client. -/
import Derived.Test.YtajhdjjmhfbhgaaKVc
import Derived.Test.YtajhdjjmhfbhgaaFKe
import Derived.Test.YtajhdjjmhfbhgaaKI
namespace Go.Proofs.Ytajhdjjmhfbhgaa
open Go Go.Pk
/-- what a hold has kept in mind -/
structure Hs where
  last : Aq
  vs : Sl
  any : Bool
  sn : Int
  op : Int
  dn : Bool
def hcells (cf : Cf) (n : Int) (b : Nat) (h : Hs) : List Value := cf.cells ++ ([.int .i64 n, .pointer (some ⟨b, 0, none⟩)] ++ (h.last.cells h.vs ++ [.bool h.any, .int .i64 h.sn, .int .i64 h.op, .bool false, .bool h.dn]))
@[simp] theorem hcells_len {cf : Cf} {n : Int} {b : Nat} {h : Hs} : (hcells cf n b h).length = 70 := rfl
theorem hcells_ones (cf : Cf) (n : Int) (b : Nat) (h : Hs) : ∀ u ∈ hcells cf n b h, u.oneCell' = true := by
  intro u hu
  have h : (hcells cf n b h).all (fun u => u.oneCell') = true := rfl
  exact List.all_eq_true.1 h u hu
def hs0 : Hs := ⟨zAq, ⟨none, 0, 0⟩, false, 0, 0, false⟩
def elM : El (Aq × Sl) := ⟨T_api_Msg, 59, fun x => x.1.cells x.2, fun _ => Pure True, fun _ => rfl, fun x => Aq.ones x.1 x.2⟩
def fxOf (cf : Cf) (n : Int) (p : Pr) : Fx := ⟨IntKind.i64.wrap (cf.nodes + n), n, cf.nodes, cf.parts, p.group, p.ol⟩
theorem fxOf_ok {cf : Cf} {n : Int} {p : Pr} (hb : cfBad cf = false) (hp : cf.cl[n.toNat]? = some p) : (fxOf cf n p).ok := by
  unfold cfBad at hb
  rw [Bool.or_eq_false_iff] at hb
  have h1 := hb.1
  have h2 := List.any_eq_false.1 hb.2 p (List.mem_of_getElem? hp)
  have h2 : prBad cf.parts p = false := by simpa using h2
  unfold topBad at h1
  unfold prBad at h2
  simp only [Bool.or_eq_false_iff, decide_eq_false_iff_not] at h1 h2
  refine ⟨⟨by show 1 ≤ cf.parts; omega, by show cf.parts ≤ 4; omega⟩, ⟨by show 1 ≤ cf.nodes; omega, by show cf.nodes ≤ 5; omega⟩, by show p.ol.length ≤ 64; omega, fun o ho => ?_⟩
  have := List.any_eq_false.1 h2.2 o ho
  show opBad cf.parts o = false
  simpa using this
theorem newC_inv {cf : Cf} {n : Int} {p : Pr} (hf : (fxOf cf n p).ok) : Inv (fxOf cf n p) [] 0 (newC cf n p) := by
  have hp : 1 ≤ cf.parts ∧ cf.parts ≤ 4 := hf.parts
  have hn : 1 ≤ cf.nodes ∧ cf.nodes ≤ 5 := hf.nodes
  refine ⟨⟨rfl, rfl, rfl, rfl, rfl, rfl⟩, ⟨by show (List.map _ (List.range _)).length = _; rw [List.length_map, List.length_range]; rfl, ?_⟩, ⟨List.length_replicate, List.length_replicate, (fun k hk => by cases hk), Nat.zero_le _, ⟨Int.le_refl _, Int.le_refl _⟩, ⟨Int.le_refl _, Int.le_refl _⟩, Nat.zero_le _, (fun v hv => by cases hv)⟩,
    ⟨⟨Int.le_refl _, Int.natCast_nonneg _⟩, ⟨Int.le_refl _, Int.natCast_nonneg _⟩, 0, rfl, Int.le_refl _⟩, ?_, (fun h => by cases h), Nat.zero_le _, (fun t h => by cases h), Nat.le_refl _, Nat.le_refl _, [], rfl⟩
  · intro t ht
    obtain ⟨k, _, rfl⟩ := List.mem_map.1 ht
    exact ⟨Int.emod_nonneg _ (by omega), Int.emod_lt_of_pos _ (by show 0 < cf.nodes; omega)⟩
  · rintro (h | h | h | h)
    · cases h
    · cases h
    · cases h
    · cases h
section
variable {W w : World} {l : List Res} {K : Value → World → Prop} {b g : Nat} {c : Cl} {cf : Cf} {n : Int} {p : Pr} {hs : Hs}
theorem hold_build (cf : Cf) (n : Int) (b : Nat) (w : World) : (Instr.build T_penstocklaw19_hold #[(0, .agg cf.cells.toArray), (1, (.int .i64 n)), (2, (.pointer (some ⟨b, 0, none⟩)))]).run P w = .ok (.agg (hcells cf n b hs0).toArray) w := by kernel_rfl
theorem begin_ok {k : Int} (h : Sat W w l) (hr : CfRd W l cf) (hk : 0 ≤ k ∧ k < 256)
    (hno : ∀ w', Sat W w' l → cfBad cf = true ∨ cf.cl.length = 0 → K (.pointer none) w')
    (hK : ∀ p n b g w', cfBad cf = false → n = k % (cf.cl.length : Int) → cf.cl[n.toNat]? = some p → Sat W w' (Blk g (hcells cf n b hs0) T_penstocklaw19_hold :: ClM b (newC cf n p) :: l) → K (.pointer (some ⟨g, 0, none⟩)) w') : CallP P F_law19_begin [.agg cf.cells.toArray, .int .u8 k] w K := by
  apply c_law19_begin
  unfold S_law19_begin
  refine boxB h fun a w1 h1 => ?_
  have h1 : Sat W w1 (Blk a cf.cells T_api_Config :: l) := h1
  have hcs : cf.cs.len = cf.cl.length := RdC.elen (E := elP) (hr.cl w h) (by decide)
  refine ⟨fun _ w' => cfBad cf = false ∧ cf.cl.length ≠ 0 ∧ Sat W w' (Blk a cf.cells T_api_Config :: l), ?_, ?_⟩
  · rintro _ w2 ⟨hb, hc, h2⟩
    refine ldX h2 3 (k := .sl) (x := cf.cs) ?_
    have hk2 : IntKind.i64.wrap k = k := w_i64 (by omega) (by omega)
    rw [hk2, hcs]
    have hm0 : 0 ≤ k.tmod cf.cl.length := Int.tmod_nonneg _ hk.1
    have hm1 : k.tmod cf.cl.length < cf.cl.length := Int.tmod_lt_of_pos _ (by omega)
    have hm2 : k.tmod cf.cl.length < 9223372036854775808 := by
      rcases Int.lt_or_le k cf.cl.length with hh | hh
      · rw [Int.tmod_eq_emod_of_nonneg hk.1, Int.emod_eq_of_lt hk.1 hh]; omega
      · omega
    refine remR (by omega) ?_
    refine ldAggB h2 (by kernel_rfl) ?_
    refine new_ok h2 hr.cons hm2 (fun hx w3 h3 => ?_) fun p b w3 g1 g2 g3 h3 => tup2p ?_
    · exfalso
      rcases hx with hx | hx | hx
      · rw [hb] at hx; cases hx
      · omega
      · omega
    · simp only [Option.isNone_some]
      refine ⟨fun _ w' => Sat W w' (ClM b (newC cf (k.tmod cf.cl.length) p) :: Blk a cf.cells T_api_Config :: l), ?_, ?_⟩
      · rintro _ w4 h4
        refine ldAggB h4.swap (by kernel_rfl) ?_
        refine ⟨_, hold_build cf _ b w4, ?_⟩
        refine boxB h4 fun g w5 h5 => ?_
        have h5 : Sat W w5 (Blk g (hcells cf (k.tmod cf.cl.length) b hs0) T_penstocklaw19_hold :: ClM b (newC cf (k.tmod cf.cl.length) p) :: Blk a cf.cells T_api_Config :: l) := h5
        exact hK p _ b g w5 hb (Int.tmod_eq_emod_of_nonneg hk.1) g3 (h5.cut 2)
      · show ifB ((0 : Int) != 0) (K (.pointer none) w3) _
        refine ifB_bne (fun hne => absurd rfl hne) fun _ => h3
  · refine ldAggB h1 (by kernel_rfl) ?_
    refine law19_bad_ok h1 hr.cons fun w2 h2 => ?_
    have e2 : (if cfBad cf then Value.bool true else Value.bool false) = .bool (cfBad cf) := by cases cfBad cf <;> rfl
    rw [e2]
    refine tyI (k := .bool) ?_
    refine ifB_intro (fun hb => hno w2 h2.tail (.inl hb)) fun hb => ?_
    refine ldX h2 3 (k := .sl) (x := cf.cs) ?_
    rw [hcs]
    refine ifB_beq (fun e => hno w2 h2.tail (.inr (by omega))) fun e => ?_
    exact ⟨by simpa using hb, by omega, h2⟩
/-- what is sent is as it should be -/
structure Snt (f : Fx) (c : Cl) (a : Aq) : Prop where
  kind : asks a.kind
  frm : a.frm = f.id
  to : 0 ≤ a.to ∧ a.to < f.nodes
  tx : a.tx = f.number
  member : a.member = f.number
  inc : a.inc = c.inc
  group : a.group = f.group
theorem sends_none {s : Sl} (h : Sat W w (Blk g (hcells cf n b hs) T_penstocklaw19_hold :: l)) (hl : s.len = 0) (hK : K (.bool true) w) : CallP P F_law19_hold_sends [.pointer (some ⟨g, 0, none⟩), s.v] w K := by
  apply c_law19_hold_sends
  unfold S_law19_hold_sends
  refine ⟨fun _ w' => w' = w, ?_, ?_⟩
  · rintro _ w1 rfl
    refine ⟨fun z w' => z.1 = 0 ∧ w' = w1, fun _ _ => 0, ⟨rfl, rfl⟩, ?_⟩
    rintro ⟨i, u⟩ w2 ⟨hi, rfl⟩
    simp only at hi ⊢
    refine ifB_dec (fun hlt => absurd hlt (by omega)) fun _ => hK
  · refine ifB_dec (fun hlt => absurd hlt (by omega)) fun _ => ?_
    refine ldX h 69 (k := .bool) (x := hs.dn) ?_
    refine ifB_intro (fun _ => ?_) fun _ => rfl
    refine ifB_dec (fun hlt => absurd hlt (by omega)) fun _ => rfl
theorem sends_one {s vs : Sl} {a : Aq} (h : Sat W w (Blk g (hcells cf n b hs) T_penstocklaw19_hold :: SlR T_api_Msg 59 s (a.cells vs) :: ClM b c :: l)) (hr : CfRd W l cf) (hp : cf.cl[n.toNat]? = some p) (hn : 0 ≤ n ∧ n < 4) (hnd : cf.nodes ≤ 5) (hnd0 : 0 ≤ cf.nodes) (hd : hs.dn = false) (hq : Snt (fxOf cf n p) c a)
    (hK : ∀ w', Sat W w' (Blk g (hcells cf n b { hs with last := a, vs := vs, any := true }) T_penstocklaw19_hold :: SlR T_api_Msg 59 s (a.cells vs) :: ClM b c :: l) → K (.bool true) w') : CallP P F_law19_hold_sends [.pointer (some ⟨g, 0, none⟩), s.v] w K := by
  apply c_law19_hold_sends
  unfold S_law19_hold_sends
  have hsl : s.len = 1 := by
    have e : 59 = s.len * 59 := h.tail.slLen.1
    omega
  refine ⟨fun _ w' => w' = w, ?_, ?_⟩
  · rintro _ w1 rfl
    refine ⟨fun z w' => (z.1 = 0 ∧ w' = w1) ∨ (z.1 = 1 ∧ Sat W w' (Blk g (hcells cf n b { hs with last := a, vs := vs, any := true }) T_penstocklaw19_hold :: SlR T_api_Msg 59 s (a.cells vs) :: ClM b c :: l)), fun z _ => 1 - z.1.toNat, .inl ⟨rfl, rfl⟩, ?_⟩
    rintro ⟨i, u⟩ w2 (⟨hi, rfl⟩ | ⟨hi, h2⟩)
    · simp only at hi ⊢
      subst hi
      refine ifB_dec (fun _ => ?_) fun hge => absurd (by omega) hge
      have hsr : RdC w2 s 59 (elM.flat [(a, vs)]) := by rw [flat_one]; exact h.tail.rdc
      refine ixEl (E := elM) et_msgs rfl hsr (i := 0) (x := (a, vs)) (by decide) rfl (by show 0 < s.len; omega) fun A hA => ?_
      refine ldAggC (cs := a.cells vs) hA ?_
      refine newAgg (z := zAq.cells ⟨none, 0, 0⟩) h (Aq.ones a vs) fun m w3 h3 => ?_
      refine ⟨fun t w' => t.1 = true ∧ w' = w3, ?_, ?_⟩
      · rintro ⟨t, u⟩ w4 ⟨ht, rfl⟩
        simp only at ht
        subst ht
        have h3b := h3.swap
        refine ldX h3b 5 (k := .ptr) (x := some ⟨b, 0, none⟩) ?_
        have h3c : Sat W w4 (ClM b c :: Blk m (a.cells vs) T_api_Msg :: Blk g (hcells cf n b hs) T_penstocklaw19_hold :: SlR T_api_Msg 59 s (a.cells vs) :: l) := h3.sel 4 [3, 0, 1, 2]
        refine state_ok h3c fun w5 h5 => ?_
        refine ⟨(c.op, c.inc, c.done, ()), rfl, ?_⟩
        have h6 := h5.drew
        have h7 : Sat W w5.drew (Blk m (a.cells vs) T_api_Msg :: Blk g (hcells cf n b hs) T_penstocklaw19_hold :: SlR T_api_Msg 59 s (a.cells vs) :: ClM b c :: l) := h6.sel 4 [1, 2, 3, 0]
        refine ⟨fun _ w' => Sat W w' (Blk m (a.cells vs) T_api_Msg :: Blk g (hcells cf n b hs) T_penstocklaw19_hold :: SlR T_api_Msg 59 s (a.cells vs) :: ClM b c :: l), ?_, ?_⟩
        · rintro _ w6 h8
          refine ldAggB h8 (by kernel_rfl) ?_
          refine stAggX 6 h8.swap (Aq.ones a vs) (hl := by show 6 + 59 ≤ 70; decide) fun w7 h9 => ?_
          have h9 : Sat W w7 (Blk g (hcells cf n b { hs with last := a, vs := vs }) T_penstocklaw19_hold :: Blk m (a.cells vs) T_api_Msg :: SlR T_api_Msg 59 s (a.cells vs) :: ClM b c :: l) := h9
          refine stX h9 65 fun w8 h10 => ?_
          have h10 : Sat W w8 (Blk g (hcells cf n b { hs with last := a, vs := vs, any := true }) T_penstocklaw19_hold :: Blk m (a.cells vs) T_api_Msg :: SlR T_api_Msg 59 s (a.cells vs) :: ClM b c :: l) := h10
          exact ⟨.inr ⟨rfl, h10.cut 1⟩, by decide⟩
        · simp only [Bool.not_true, ifB_false]
          have h8 := h7.swap
          have e1 : IntKind.i64.wrap (cf.nodes + n) = a.frm := hq.frm.symm
          have hto : 0 ≤ a.to ∧ a.to < cf.nodes := hq.to
          refine ldX h7 1 (x := a.frm) ?_
          refine ldX h8 0 (x := cf.nodes) ?_
          refine ldX h8 4 (x := n) ?_
          refine ifB_bne (fun hne => absurd e1.symm hne) fun _ => ?_
          refine ldX h7 2 (x := a.to) ?_
          refine ifB_dec (fun hlt => absurd hlt (by omega)) fun _ => ?_
          refine ldX h7 2 (x := a.to) ?_
          refine ldX h8 0 (x := cf.nodes) ?_
          refine ifB_dec (fun hlt => absurd hlt (by omega)) fun _ => ?_
          refine ldX h7 47 (x := a.tx) ?_
          refine ldX h8 4 (x := n) ?_
          refine ifB_bne (fun hne => absurd hq.tx hne) fun _ => ?_
          refine ldX h7 54 (x := a.member) ?_
          refine ldX h8 4 (x := n) ?_
          refine ifB_bne (fun hne => absurd hq.member hne) fun _ => ?_
          refine ldX h7 48 (x := a.inc) ?_
          refine ifB_bne (fun hne => absurd hq.inc hne) fun _ => ?_
          refine ldX h7 52 (x := a.group) ?_
          refine ldX h8 3 (k := .sl) (x := cf.cs) ?_
          refine ldX h8 4 (x := n) ?_
          have hlt : n.toNat < cf.cl.length := (List.getElem?_eq_some_iff.1 hp).1
          have hrc := hr.cl w5.drew h7.tail.tail.tail.tail
          have hcs : cf.cs.len = cf.cl.length := RdC.elen (E := elP) hrc (by decide)
          refine ixEl (E := elP) et_progs rfl hrc hn.1 hp (by omega) fun A2 hA2 => ?_
          refine ldC (x := p.group) (hA2 0 _ rfl) ?_
          refine ifB_bne (fun hne => absurd hq.group hne) fun _ => h7
      · have hk := hq.kind
        have l1 : ∀ {K : Int → Prop}, K a.kind → RunQ (.int .i64) P (Instr.loadAt T_int (.pointer (some (Go.Addr.add ⟨m, 0, none⟩ 0)))) w3 K := fun {K} h => ldX h3 0 (x := a.kind) h
        refine l1 (ifB_beq (fun _ => ⟨rfl, rfl⟩) fun k1 => ?_)
        refine l1 (ifB_beq (fun _ => ⟨rfl, rfl⟩) fun k2 => ?_)
        refine l1 (ifB_beq (fun _ => ⟨rfl, rfl⟩) fun k3 => ?_)
        refine l1 (ifB_beq (fun _ => ⟨rfl, rfl⟩) fun k4 => ?_)
        refine l1 (ifB_beq (fun _ => ⟨rfl, rfl⟩) fun k5 => ?_)
        refine l1 (ifB_beq (fun _ => ⟨rfl, rfl⟩) fun k6 => ?_)
        refine l1 (ifB_beq (fun _ => ⟨rfl, rfl⟩) fun k7 => ?_)
        refine l1 (ifB_beq (fun _ => ⟨rfl, rfl⟩) fun k8 => ?_)
        refine l1 ⟨?_, rfl⟩
        have : a.kind = 13 := by unfold asks at hk; omega
        rw [this]; rfl
    · simp only at hi ⊢
      subst hi
      refine ifB_dec (fun hlt => absurd hlt (by omega)) fun _ => hK w2 h2
  · refine ifB_dec (fun hlt => absurd hlt (by omega)) fun _ => ?_
    refine ldX h 69 (k := .bool) (x := hs.dn) ?_
    rw [hd]
    exact rfl
end
end Go.Proofs.Ytajhdjjmhfbhgaa
