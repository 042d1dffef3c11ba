/- Layer 12: the law's first run; what there isn't. -/
import Derived.Test.YtfbffgcoopelfaaRfN
import Derived.Test.YtfbffgcoopelfaaFRb
import Derived.Test.YtfbffgcoopelfaaE2
namespace Go.Proofs.Ytfbffgcoopelfaa
open Go Go.Pk
def aw0 : Rs := Rs.new 0 1 ⟨0, -1, 0, 0, [], []⟩
def awT : Nat → Rs
  | 0 => aw0
  | k + 1 => (awT k).tick 0
theorem awT_small : ∀ k : Nat, k < 4 → awT k = { aw0 with ticks := k }
  | 0, _ => rfl
  | 1, _ => by kernel_rfl
  | 2, _ => by kernel_rfl
  | 3, _ => by kernel_rfl
  | k + 4, h => by omega
def aw4 : Rs := ⟨0, 1, ⟨1, 0, 0, 0, [], [(1, [])]⟩, 3, 0, 1, 0, 0, 4, none, [1], [1], true, [], false, [], []⟩
theorem awT_four : awT 4 = aw4 := by kernel_rfl
def aw5 : Rs := ⟨0, 1, ⟨1, 0, 0, 0, [], [(1, []), (1, [97])]⟩, 3, 0, 2, 0, 0, 4, none, [1], [2], true, [], false, [], []⟩
theorem aw4_propose : aw4.propose [97] = (aw5, 2, 0) := by kernel_rfl
theorem aw5_commits : (Rs.taken aw5).1.commits = [(1, []), (2, [97])] := by kernel_rfl
theorem aw5_state : ((Rs.taken aw5).2.role, (Rs.taken aw5).2.hd.term, (Rs.taken aw5).2.leader, (Rs.taken aw5).2.commit, (Rs.taken aw5).2.last) = (3, 1, 0, 2, 2) := by kernel_rfl
theorem sane_aw0 : Sane aw0 where
  base := by decide
  len := by decide
  id := by decide
  n := by decide
  commit := by decide
  told := by decide
  ticks := by decide
  limit := by decide
  term := by decide
  next := rfl
  mtch := rfl
  small := ⟨by decide, by decide, fun e he => by simp [aw0, Rs.new] at he⟩
  msgs := by decide
  commits := by decide
theorem sane_aw (k : Nat) (hk : k < 4) : Sane { aw0 with ticks := k } := { sane_aw0 with ticks := (by show (0 : Int) ≤ k ∧ (k : Int) < 1000; omega) }
theorem sane_aw4 : Sane aw4 where
  base := by decide
  len := by decide
  id := by decide
  n := by decide
  commit := by decide
  told := by decide
  ticks := by decide
  limit := by decide
  term := by decide
  next := rfl
  mtch := rfl
  small := ⟨by decide, by decide, fun e he => by simp [aw4] at he; subst he; simp⟩
  msgs := by decide
  commits := by decide
theorem takes_aw5 : Takes aw5 := ⟨.inr (by decide), ⟨by decide, by decide, fun e he => by simp [aw5] at he; rcases he with rfl | rfl <;> simp⟩, by decide⟩
section
variable {W w : World} {l : List Res} {K : Value → World → Prop}
theorem cvS {s : Sl} {b : List UInt8} {K : ByteArray → World → Prop} (h : RdC w s 1 (b.map vB)) (hK : K ⟨b.toArray⟩ w) : RunK .str P (convert T_sl_uint8 T_string s.v) w K :=
  cvStr (e := T_uint8) (by kernel_rfl) (by kernel_rfl) (by kernel_rfl) h hK
theorem awake12_ok (h : Sat W w l) (hK : ∀ w', Sat W w' l → K (.bool true) w') : CallP P F_law12_awake [] w K := by
  apply c_law12_awake
  unfold S_law12_awake
  let c : HdC := ⟨⟨0, -1, 0, 0, [], []⟩, ⟨none, 0, 0⟩, ⟨none, 0, 0⟩⟩
  have hc : HdRd W l c := ⟨Rd.nil rfl, [], rfl, Rd.nil rfl, fun e he => by simp at he⟩
  have hsm : Hd.Sm c.h := ⟨by decide, by decide, fun e he => by simp [c] at he⟩
  refine new_ok (c := c) h hc hsm (fun hb => by exact absurd hb (by decide)) fun _ b w1 h1 => ⟨(_, _, ()), rfl, ?_⟩
  have h1 : Sat W w1 (RaR b aw0 :: l) := h1
  refine ⟨fun _ w' => Sat W w' (RaR b aw0 :: l), ?_, h1⟩
  rintro _ w2 h2
  refine ⟨fun z w' => ∃ i : Nat, z.1 = i ∧ i ≤ 4 ∧ Sat W w' (RaR b (awT i) :: l), fun z _ => 4 - z.1.toNat, ⟨0, rfl, Nat.zero_le _, h2⟩, ?_⟩
  rintro ⟨i', u⟩ w3 ⟨i, hi, hil, h3⟩
  simp only at hi ⊢
  subst hi
  refine ifB_dec (fun hlt => ?_) fun hge => ?_
  · have hi4 : i < 4 := by omega
    have e := awT_small i hi4
    refine tick_ok h3 (by omega) (by rw [e]; exact sane_aw i hi4) (by rw [e]; exact ⟨by show (0 : Int) + 1 < _; decide, by show 0 + 400 < _; decide, by show 0 + 1 < _; decide⟩) (by rw [e]; intro hr; exact absurd hr (by show ¬ (0 : Int) = 3; decide)) fun w4 h4 => tupU rfl ?_
    rw [w_i64 (n := (i : Int) + 1) (by omega) (by omega)]
    exact ⟨⟨i + 1, rfl, by omega, h4⟩, by omega⟩
  · obtain rfl : i = 4 := by omega
    rw [awT_four] at h3
    refine bsMark (cs := [vB 97]) (e := T_uint8) (n := 1) (by kernel_rfl) (by kernel_rfl) h3 (fun w => run_bs1 et_bytes rfl w) fun g w4 h4 => ?_
    have hx : Rd W (Blk g [vB 97] T_uint8 :: l) ⟨some ⟨g, 0, none⟩, 1, 1⟩ 1 (([97] : List UInt8).map vB) := Rd.blk rfl
    refine propose_ok (d := [97]) h4.swap hx sane_aw4 ⟨by decide, by decide, by decide⟩ (fun _ x hx => by simp [aw4] at hx; subst hx; decide) fun w5 h5 => ?_
    rw [aw4_propose] at h5 ⊢
    have h5 : Sat W w5 (RaR b aw5 :: Blk g [vB 97] T_uint8 :: l) := h5
    refine ⟨(_, _, ()), rfl, ?_⟩
    refine take_ok h5 takes_aw5 fun ss ls ms rs cs w6 h6 => tyI (k := .val) ?_
    rw [aw5_commits] at h6
    refine newAgg (cs := rdcells aw5.save ⟨hdOf aw5, ss, ls⟩ ms aw5.restore rs cs) (z := zReady) h6 (rdcells_ones _ _ _ _ _ _) fun a w7 h7 => ?_
    refine state_ok (h7.up 1) fun w8 h8 => ⟨(_, _, _, _, _, ()), rfl, ?_⟩
    refine ifB_beq (fun _ => ?_) fun h => absurd (by kernel_rfl) h
    refine ifB_beq (fun _ => ?_) fun h => absurd (by kernel_rfl) h
    refine ifB_beq (fun _ => ?_) fun h => absurd (by kernel_rfl) h
    refine ifB_beq (fun _ => ?_) fun h => absurd (by kernel_rfl) h
    refine ifB_beq (fun _ => ?_) fun h => absurd (by kernel_rfl) h
    refine ifB_beq (fun _ => ?_) fun h => absurd (by kernel_rfl) h
    refine ifB_beq (fun _ => ?_) fun h => absurd (by kernel_rfl) h
    have h9 : Sat W w8 (Blk a (rdcells aw5.save ⟨hdOf aw5, ss, ls⟩ ms aw5.restore rs cs) T_api_Ready :: _) := h8.up 1
    refine ldX h9 0 (x := true) ?_
    rw [show (true : Kd.Ty .bool) = (true : Bool) from rfl]
    refine ifB_intro (fun _ => ?_) fun h => by cases h
    refine ldX h9 10 (x := cs) ?_
    have h10 : Sat W w8 (PrR T_api_Commit cs [(1, []), (2, [97])] :: _) := h8.up 6
    obtain ⟨ec, hec, h11⟩ := sat_pr.1 h10
    have hl := (own_len h11 (by decide : 0 < 2)).1
    have hl2 : ec.length = 2 := by have := congrArg List.length hec; simpa using this
    rw [show cs.len = 2 by omega]
    refine ifB_beq (fun _ => ?_) fun h => absurd rfl h
    refine ldX h9 10 (x := cs) ?_
    obtain ⟨x0, x1, rfl⟩ : ∃ x0 x1, ec = [x0, x1] := by
      match ec, hl2 with
      | [x0, x1], _ => exact ⟨x0, x1, rfl⟩
    simp only [List.map_cons, List.map_nil, List.cons.injEq, and_true] at hec
    have hd1 : x1.d = [97] := congrArg Prod.snd hec.2
    refine ixEl (E := elP T_api_Commit) (xs := [x0, x1]) (x := x1) et_coms rfl (Rd.ownS _ h11) (i := 1) (by decide) rfl (by show 1 < cs.len; omega) fun a1 ha1 => ?_
    refine ldC (k := .sl) (x := x1.s) (ha1 1 x1.s.v rfl) ?_
    have hr : RdC w8 x1.s 1 (x1.d.map vB) := Rd.ownE (W := W) (s := cs) (E := elP T_api_Commit) (xs := [x0, x1]) (i := 1) (x := x1) (t := x1.s) (sz := 1) (us := x1.d.map vB) rfl (fun l => Rd.own) w8 h11
    rw [hd1] at hr
    refine cvS (b := [97]) hr ?_
    rw [show (ByteArray.toList ⟨([97] : List UInt8).toArray⟩ == (ByteArray.mk #[97]).toList) = true from beq_self_eq_true _]
    exact hK w8 ((h8.cut 1).cut 1).tail.tail.tail.tail.tail.tail
theorem law_none {cs ms : List Value} {x : Sl} {d n : Int} (h : Sat W w l) (h1 : cs[1]? = some (.int .u64 d)) (h2 : cs[2]? = some (.int .i64 n)) (h3 : cs[3]? = some x.v) (h4 : (cs.drop 4).take 10 = ms) (h5 : 4 + 10 ≤ cs.length)
    (hK : ∀ w', Sat W w' l → K (.bool true) w') : CallP P F_law12_RaftNone [.agg cs.toArray] w K := by
  apply c_law12_RaftNone
  unfold S_law12_RaftNone
  refine boxB h fun a w1 g1 => ?_
  have g1 : Sat W w1 (Blk a cs T_penstocklaw12_Op :: l) := g1
  refine ldX (k := .int .u64) g1 1 (x := d) ?_ (hx := h1)
  refine none_tick (tupU rfl ?_)
  refine ldAggX 4 10 g1 ?_ (hl := h5)
  refine none_step g1 fun b w2 g2 => tupU rfl ?_
  refine none_take g2 fun c w3 g3 => tyI (k := .val) ?_
  refine newAgg (cs := zReady) (z := zReady) g3 (rdcells_ones _ _ _ _ _ _) fun e w4 g4 => ?_
  refine none_state ⟨(_, _, _, _, _, ()), rfl, ?_⟩
  refine ldX (k := .sl) (g4.up 3) 3 (x := x) ?_ (hx := h3)
  refine none_propose ⟨(_, _, ()), rfl, ?_⟩
  refine awake12_ok g4 fun w5 g5 => tyI (k := .bool) ?_
  rw [show (true : Kd.Ty .bool) = (true : Bool) from rfl]
  refine ifB_intro (fun _ => ?_) fun h => by cases h
  refine ldX g5 0 (x := false) ?_
  refine ifB_intro (fun _ => ?_) fun h => by cases h
  refine ldX g5 8 (x := false) ?_
  refine ifB_intro (fun _ => ?_) fun h => by cases h
  refine ldX (k := .sl) g5 7 (x := ⟨none, 0, 0⟩) ?_
  refine ldX (k := .sl) g5 10 (x := ⟨none, 0, 0⟩) ?_
  refine ifB_beq (fun _ => ?_) fun h => absurd (by kernel_rfl) h
  refine ifB_beq (fun _ => ?_) fun h => absurd (by kernel_rfl) h
  refine ifB_beq (fun _ => ?_) fun h => absurd (by kernel_rfl) h
  refine ifB_beq (fun _ => ?_) fun h => absurd (by kernel_rfl) h
  refine ifB_beq (fun _ => ?_) fun h => absurd (by kernel_rfl) h
  refine ifB_beq (fun _ => ?_) fun h => absurd (by kernel_rfl) h
  refine ifB_beq (fun _ => ?_) fun h => absurd (by kernel_rfl) h
  refine ifB_beq (fun _ => ?_) fun h => absurd (by kernel_rfl) h
  refine ldX (k := .int .i64) (g5.up 3) 2 (x := n) ?_ (hx := h2)
  refine ldX (k := .sl) (g5.up 3) 3 (x := x) ?_ (hx := h3)
  refine none_compact (tyI (k := .int .i64) ?_)
  exact hK w5 g5.tail.tail.tail.tail
end
end Go.Proofs.Ytfbffgcoopelfaa
