/- Layer 12: a node begins. -/
import Derived.Test.YtfbffgcoopelfaaRfC
import Derived.Laws.MakeOwn
namespace Go.Proofs.Ytfbffgcoopelfaa
open Go Go.Pk
section
variable {W w : World} {l : List Res} {K : Value → World → Prop} {b : Nat} {r : Rs}
theorem mkInts {n : Int} (h : Sat W w l) (h0 : 0 ≤ n) (h1 : n < 1099511627776) {K : Sl → World → Prop} (hK : ∀ s w', Sat W w' (IsR s (List.replicate n.toNat 0) :: l) → K s w') :
    RunK .sl P (Instr.makeSlice T_sl_int (.int .i64 n) (.int .i64 n)) w K := by
  obtain ⟨ht, i, z, hi, hz, hsz, hzs, hby, _⟩ := et_ints
  have hz' : z = .int .i64 0 := by
    have e : (P.info? T_int).map (·.zero) = some (some (.int .i64 0)) := by kernel_rfl
    rw [hi] at e
    simp only [Option.map_some, Option.some.injEq] at e
    rw [hz] at e
    exact Option.some.inj e
  subst hz'
  have hrun := run_make (P := P) w T_sl_int T_int i (.int .i64 0) ht hi hz .i64 .i64 n n h0 (Int.le_refl _) (by rw [hby]; omega) (by omega)
  refine ⟨⟨some ⟨w.heap.size, 0, none⟩, n.toNat, n.toNat⟩, _, hrun, hK _ _ ?_⟩
  have hc : (madeCells (Value.int .i64 0).cells (n.toNat * i.size)) = ((List.replicate n.toNat (0 : Int)).map vI).toArray := by
    rw [hsz, Nat.mul_one]
    apply Array.toList_inj.1
    unfold madeCells
    apply List.ext_getElem
    · simp
    · intro k h1 h2
      simp [vI, Value.cells, Nat.mod_one]
  rw [hc]
  refine (h.newBlk ((List.replicate n.toNat (0 : Int)).map vI) T_int).mkSlr rfl (Nat.le_refl _) (by show n.toNat < 2 ^ 63; omega) (by simp) ?_ (vI_all _)
  simp
abbrev r0 (id n : Int) (h : Hd) : Rs := { Rs.new id n h with restore := false, rsnap := [] }
theorem new_ok {id n : Int} {c : HdC} (h : Sat W w l) (hr : HdRd W l c) (hs : Hd.Sm c.h)
    (hK0 : Rs.badNew id n c.h = true → ∀ w', Sat W w' l → K (.tuple #[.pointer none, .int .i64 1]) w')
    (hK1 : Rs.badNew id n c.h = false → ∀ b w', Sat W w' (RaR b (Rs.new id n c.h) :: l) → K (.tuple #[.pointer (some ⟨b, 0, none⟩), .int .i64 0]) w') :
    CallP P F_raft_New [.int .i64 id, .int .i64 n, .agg c.cells.toArray] w K := by
  apply c_raft_New
  unfold S_raft_New
  refine boxB h fun a0 w1 h1 => ?_
  have h1 : Sat W w1 (Blk a0 c.cells T_api_Hard :: l) := h1
  refine ⟨fun _ w' => Rs.badNew id n c.h = false ∧ 1 ≤ n ∧ n ≤ 5 ∧ Sat W w' (Blk a0 c.cells T_api_Hard :: l), ?_, ?_⟩
  · rintro _ w2 ⟨hbad, hn1, hn5, h2⟩
    refine ⟨fun t w' => ∃ b, t = (some ⟨b, 0, none⟩, ()) ∧ Sat W w' (RaR b (r0 id n c.h) :: Blk a0 c.cells T_api_Hard :: l), ?_, ?_⟩
    · rintro _ w3 ⟨b, rfl, h3⟩
      refine ldX (h3.up 1) 2 (x := c.h.base) ?_
      refine ifB_dec (fun g => ?_) fun g => ?_
      · refine ldX (h3.up 1) 4 (x := c.ss) ?_
        refine cpBytes h3 (hr.1 w3 h3.tail.tail) hs.1 fun s w4 h4 => ?_
        obtain ⟨p, h5⟩ := sat_ra.1 (h4.up 1)
        refine stX h5 25 (hi := (by show 25 < 28; decide)) fun w5 h6 => ?_
        refine stX h6 26 (v := s.v) (hi := (by show 26 < 28; decide)) fun w6 h7 => ?_
        refine hK1 hbad b w6 (sat_ra.2 ⟨{ p with rsnap := s }, ?_⟩)
        have e : Rs.new id n c.h = { r0 id n c.h with restore := true, rsnap := c.h.snap } := by
          simp only [r0, Rs.new, g, decide_true, if_true]
        rw [e]
        have h8 := (h7.cut 7).up 8
        have h9 := h8.dn 7
        exact h9.cut 9
      · have e : Rs.new id n c.h = r0 id n c.h := by
          simp only [r0, Rs.new, g, decide_false, if_false]
        have := hK1 hbad b w3 (by rw [e]; exact h3.cut 1)
        exact this
    · let S : World → Prop := fun w => ∃ L, Sat W w (Blk a0 c.cells T_api_Hard :: L)
      have hS : ∀ w, S w → ∃ l, Sat W w (Blk a0 c.cells T_api_Hard :: l) := fun _ h => h
      have h3 := h2.drew
      refine ⟨S, ⟨_, h3⟩, ?_⟩
      refine hldAggX 0 6 hS ?_ (by show 0 + 6 ≤ 6; decide)
      refine hldX hS 2 (x := c.h.base) ?_
      refine hldX hS 2 (x := c.h.base) ?_
      have fin : ∀ {w : World} {sn sm ss ls : Sl} {J : Addr → World → Prop}, Sat W w (IsR sn (List.replicate n.toNat 0) :: IsR sm (List.replicate n.toNat 0) :: BsR ss c.h.snap :: PrR T_api_Entry ls c.h.log :: Blk a0 c.cells T_api_Hard :: l) →
          (∀ b w', Sat W w' (RaR b (r0 id n c.h) :: Blk a0 c.cells T_api_Hard :: l) → J ⟨b, 0, none⟩ w') →
          HRun S .val P (Instr.build T_raft_Raft #[(0, (.int .i64 id)), (1, (.int .i64 n)), (2, (.agg (HdC.cells ⟨c.h, ss, ls⟩).toArray)), (4, (.int .i64 (-1))), (5, (.int .i64 c.h.base)), (6, (.int .i64 c.h.base)), (8, (.int .i64 4)), (10, sn.v), (11, sm.v)]) fun v =>
            RunK .addr P (Instr.box T_raft_Raft v) w fun a w' => S w' ∧ J a w' := by
        intro w sn sm ss ls J h4 hJ
        let p : RsP := ⟨ss, ls, none, sn, sm, ⟨none, 0, 0⟩, ⟨none, 0, 0⟩, ⟨none, 0, 0⟩⟩
        refine ⟨.agg (rcells (r0 id n c.h) p).toArray, fun w _ => by kernel_rfl, ?_⟩
        refine boxB h4 fun b w5 h5 => ?_
        have h5 : Sat W w5 (Blk b (rcells (r0 id n c.h) p) T_raft_Raft :: IsR sn (List.replicate n.toNat 0) :: IsR sm (List.replicate n.toNat 0) :: BsR ss c.h.snap :: PrR T_api_Entry ls c.h.log :: Blk a0 c.cells T_api_Hard :: l) := h5
        refine ⟨⟨_, h5.up 5⟩, hJ b w5 (sat_ra.2 ⟨p, ?_⟩)⟩
        have h6 : Sat W w5 (Blk b (rcells (r0 id n c.h) p) T_raft_Raft :: BsR ss c.h.snap :: PrR T_api_Entry ls c.h.log :: IsR sn (List.replicate n.toNat 0) :: IsR sm (List.replicate n.toNat 0) :: Blk a0 c.cells T_api_Hard :: l) := ((h5.up 4).up 4).up 2
        have h7 : Sat W w5 (VtR none none :: Blk b (rcells (r0 id n c.h) p) T_raft_Raft :: BsR ss c.h.snap :: PrR T_api_Entry ls c.h.log :: IsR sn (List.replicate n.toNat 0) :: IsR sm (List.replicate n.toNat 0) :: Blk a0 c.cells T_api_Hard :: l) := sat_pure.2 ⟨trivial, h6⟩
        have h8 : Sat W w5 (Blk b (rcells (r0 id n c.h) p) T_raft_Raft :: BsR ss c.h.snap :: PrR T_api_Entry ls c.h.log :: VtR none none :: IsR sn (List.replicate n.toNat 0) :: IsR sm (List.replicate n.toNat 0) :: Blk a0 c.cells T_api_Hard :: l) := h7.dn 3
        have h9 : Sat W w5 (PrR T_api_Commit ⟨none, 0, 0⟩ [] :: _) := pr_nil h8
        have h10 : Sat W w5 (BsR ⟨none, 0, 0⟩ [] :: _) := Sat.nilSlr h9 T_uint8 1
        have h11 : Sat W w5 (MsR ⟨none, 0, 0⟩ [] :: _) := sat_ms.2 ⟨[], rfl, own_nil h10⟩
        exact ((h11.dn 8).dn 8).dn 8
      have ow : ∀ {w : World} {L : List Res} {K : Value → World → Prop}, Sat W w L → (HdRd W L c) → (∀ ss ls w', Sat W w' (BsR ss c.h.snap :: PrR T_api_Entry ls c.h.log :: L) → K (.agg (HdC.cells ⟨c.h, ss, ls⟩).toArray) w') → CallP P F_raft_own [.agg ((c.cells.drop 0).take 6).toArray] w K :=
        fun h hr hk => own_ok h hr hs hk
      have mk : ∀ {w : World} {L : List Res} {K : Sl → World → Prop}, Sat W w L → (∀ s w', Sat W w' (IsR s (List.replicate n.toNat 0) :: L) → K s w') → RunK .sl P (Instr.makeSlice T_sl_int (.int .i64 n) (.int .i64 n)) w K :=
        fun h hk => mkInts h (by omega) (by omega) hk
      have hrA : HdRd W (Blk a0 c.cells T_api_Hard :: l) c := hr.cons
      have jj : ∀ b w', Sat W w' (RaR b (r0 id n c.h) :: Blk a0 c.cells T_api_Hard :: l) → (∃ b', ((some (⟨b, 0, none⟩ : Addr), ()) : Option Addr × Unit) = (some ⟨b', 0, none⟩, ()) ∧ Sat W w' (RaR b' (r0 id n c.h) :: Blk a0 c.cells T_api_Hard :: l)) := fun b w' h => ⟨b, rfl, h⟩
      refine ⟨?_, ?_, ?_, trivial⟩
      · refine ow h3 hrA fun ss ls w4 h4 => tyI (k := .val) ⟨⟨_, h4.up 2⟩, ?_, ?_, trivial⟩
        · refine mk h4 fun s1 w5 h5 => ⟨⟨_, h5.up 3⟩, ?_⟩
          refine mk h5 fun s2 w6 h6 => ⟨⟨_, h6.up 4⟩, ?_⟩
          refine fin (h6.up 1) ?_; exact jj
        · refine mk h4 fun s1 w5 h5 => ⟨⟨_, h5.up 3⟩, ?_⟩
          refine mk h5 fun s2 w6 h6 => ⟨⟨_, h6.up 4⟩, ?_⟩
          refine fin h6 ?_; exact jj
      · refine mk h3 fun s1 w4 h4 => ⟨⟨_, h4.up 1⟩, ?_, ?_, trivial⟩
        · refine ow h4 hrA.cons fun ss ls w5 h5 => tyI (k := .val) ⟨⟨_, h5.up 3⟩, ?_⟩
          refine mk h5 fun s2 w6 h6 => ⟨⟨_, h6.up 4⟩, ?_⟩
          refine fin (h6.up 3) ?_; exact jj
        · refine mk h4 fun s2 w5 h5 => ⟨⟨_, h5.up 2⟩, ?_⟩
          refine ow h5 hrA.cons.cons fun ss ls w6 h6 => tyI (k := .val) ⟨⟨_, h6.up 4⟩, ?_⟩
          refine fin ((h6.up 2).up 3) ?_; exact jj
      · refine mk h3 fun s1 w4 h4 => ⟨⟨_, h4.up 1⟩, ?_, ?_, trivial⟩
        · refine ow h4 hrA.cons fun ss ls w5 h5 => tyI (k := .val) ⟨⟨_, h5.up 3⟩, ?_⟩
          refine mk h5 fun s2 w6 h6 => ⟨⟨_, h6.up 4⟩, ?_⟩
          refine fin ((h6.up 3).up 1) ?_; exact jj
        · refine mk h4 fun s2 w5 h5 => ⟨⟨_, h5.up 2⟩, ?_⟩
          refine ow h5 hrA.cons.cons fun ss ls w6 h6 => tyI (k := .val) ⟨⟨_, h6.up 4⟩, ?_⟩
          refine fin ((h6.up 3).up 3) ?_; exact jj
  · have rj : Rs.badNew id n c.h = true → K (.tuple #[.pointer none, .int .i64 1]) w1 := fun hb => hK0 hb w1 h1.tail
    refine ifB_dec (fun g => rj (by simp [Rs.badNew, g])) fun g1 => ?_
    refine ifB_dec (fun g => rj (by simp [Rs.badNew, g])) fun g2 => ?_
    refine ifB_dec (fun g => rj (by simp [Rs.badNew, g])) fun g3 => ?_
    refine ifB_dec (fun g => rj (by simp [Rs.badNew, g])) fun g4 => ?_
    refine ldX h1 0 (x := c.h.term) ?_
    refine ifB_dec (fun g => rj (by simp [Rs.badNew, g])) fun g5 => ?_
    refine ldX h1 2 (x := c.h.base) ?_
    refine ifB_dec (fun g => rj (by simp [Rs.badNew, g])) fun g6 => ?_
    refine ldX h1 1 (x := c.h.vote) ?_
    refine ifB_dec (fun g => rj (by simp [Rs.badNew, g])) fun g7 => ?_
    refine ldX h1 1 (x := c.h.vote) ?_
    refine ifB_dec (fun g => rj (by simp [Rs.badNew, g])) fun g8 => ⟨?_, by omega, by omega, h1⟩
    simp [Rs.badNew, g1, g2, g3, g4, g5, g6, g7, g8]
end
end Go.Proofs.Ytfbffgcoopelfaa
