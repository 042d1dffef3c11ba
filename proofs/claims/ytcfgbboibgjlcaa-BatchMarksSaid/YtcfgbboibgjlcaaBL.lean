/- Layer 7: the law of marks. -/
import Derived.Test.YtcfgbboibgjlcaaBK
namespace Go.Proofs.Ytcfgbboibgjlcaa
open Go Go.Pk
section
variable {W w : World} {l : List Res} {K : Value → World → Prop}
theorem chkE {d : Dc} (h : Sat W w l) (hv : VRd W l d) {n : Int} (hn : chk d = n) (hK : ∀ w', Sat W w' l → K (.int .i64 n) w') : CallP P F_batch_Check [.agg d.cells.toArray] w K :=
  check_ok h hv fun w' h' => by rw [hn]; exact hK w' h'
theorem law_marks {x0 x1 x2 x3 : Int} {x4 : Bool} (h : Sat W w l) (h00 : 0 ≤ x0) (h01 : x0 < 65536) (h10 : 0 ≤ x1) (h11 : x1 < 65536) (h20 : 0 ≤ x2) (hK : ∀ w', Sat W w' l → K (.bool true) w') :
    CallP P F_law07_BatchMarks [.int .u16 x0, .int .u16 x1, .int .u64 x2, .int .i64 x3, .bool x4] w K := by
  apply c_law07_BatchMarks
  unfold S_law07_BatchMarks
  rw [w_i64 (n := x0) (by omega) (by omega), w_i64 (n := x1) (by omega) (by omega)]
  let m : Dc := ⟨x0, x1, x2, x3, 0, true, true, x4, ⟨none, 0, 0⟩, [], []⟩
  let m1 : Dc := ⟨x0, x1, x2, x3, 0, false, true, x4, ⟨none, 0, 0⟩, [], []⟩
  let m3 : Dc := ⟨x0, x1, x2, x3, 1, true, true, x4, ⟨none, 0, 0⟩, [], []⟩
  have hv : ∀ {l : List Res}, VRd W l m := fun {l} => ⟨Rd.nil rfl, rfl, fun i s b h1 _ => by simp [m] at h1⟩
  have hv1 : ∀ {l : List Res}, VRd W l m1 := fun {l} => ⟨Rd.nil rfl, rfl, fun i s b h1 _ => by simp [m1] at h1⟩
  have hv3 : ∀ {l : List Res}, VRd W l m3 := fun {l} => ⟨Rd.nil rfl, rfl, fun i s b h1 _ => by simp [m3] at h1⟩
  refine newDc h m fun a0 w1 h1 => ?_
  refine ⟨fun t w' => t = ((decide (x3 ≥ 0 ∧ x3 ≤ 1000 ∧ x2 ≤ 1000)), ()) ∧ Sat W w' (Blk a0 m.cells T_api_Batch :: l), ?_, ?_⟩
  · rintro t w2 ⟨rfl, h2⟩
    refine ⟨fun _ w' => Sat W w' (Blk a0 m.cells T_api_Batch :: l), ?_, ?_⟩
    · rintro _ w3 h3
      by_cases hg : x3 ≥ 0 ∧ x3 ≤ 1000 ∧ x2 ≤ 1000
      · have nb : ¬ bad1 m := by simp [bad1, m]; omega
        simp only [hg, and_self, decide_true, Bool.not_true, ifB_false]
        refine ⟨fun t w' => ∃ a b c, t = (⟨a, 0, none⟩, ⟨b, 0, none⟩, ⟨c, 0, none⟩, ()) ∧ Sat W w' (Blk a m.cells T_api_Batch :: Blk b m.cells T_api_Batch :: Blk c m.cells T_api_Batch :: Blk a0 m.cells T_api_Batch :: l), ?_, ?_⟩
        · rintro t w4 ⟨a, b, c, rfl, h4⟩
          refine stB h4 (i := 5) (hi := (by show 5 < 9; decide)) fun w5 h5 => ?_
          have h5 : Sat W w5 (Blk a m1.cells T_api_Batch :: Blk b m.cells T_api_Batch :: Blk c m.cells T_api_Batch :: Blk a0 m.cells T_api_Batch :: l) := h5
          refine bs1_vs (s := ⟨none, 0, 0⟩) h5 fun g w6 h6 => ?_
          let m2 : Dc := ⟨x0, x1, x2, x3, 0, true, true, x4, ⟨some ⟨g, 0, none⟩, 1, 1⟩, [⟨none, 0, 0⟩], [[]]⟩
          refine stB (h6.up 2) (i := 8) (hi := (by show 8 < 9; decide)) fun w7 h7 => ?_
          have h7 : Sat W w7 (Blk b m2.cells T_api_Batch :: Blk g [Sl.v ⟨none, 0, 0⟩] T_sl_uint8 :: Blk a m1.cells T_api_Batch :: Blk c m.cells T_api_Batch :: Blk a0 m.cells T_api_Batch :: l) := h7
          refine stB (h7.up 3) (i := 4) (hi := (by show 4 < 9; decide)) fun w8 h8 => ?_
          have h8 : Sat W w8 (Blk c m3.cells T_api_Batch :: Blk b m2.cells T_api_Batch :: Blk g [Sl.v ⟨none, 0, 0⟩] T_sl_uint8 :: Blk a m1.cells T_api_Batch :: Blk a0 m.cells T_api_Batch :: l) := h8
          have hv2 : VRd W (Blk c m3.cells T_api_Batch :: Blk b m2.cells T_api_Batch :: Blk g [Sl.v ⟨none, 0, 0⟩] T_sl_uint8 :: Blk a m1.cells T_api_Batch :: Blk a0 m.cells T_api_Batch :: l) m2 := by
            refine ⟨Rd.cons (Rd.cons (Rd.blk rfl)), rfl, fun i s b' h1 h2 => ?_⟩
            match i, h1, h2 with
            | 0, h1, h2 =>
              simp only [m2, List.getElem?_cons_zero, Option.some.injEq] at h1 h2
              subst h1; subst h2
              exact Rd.nil rfl
            | i + 1, h1, _ => simp [m2] at h1
          refine ldAggB (h8.up 4) (by kernel_rfl) ?_
          refine chkE (d := m) (n := if x2 > 0 then 0 else 7) h8 hv ?_ fun w9 h9 => tyI ?_
          · by_cases h2 : x2 > 0
            · rw [if_pos h2]; exact chk_eq0 nb (by simp [bad7, m]; omega) (by simp [bad2, m])
            · rw [if_neg h2]; exact chk_eq7 nb (by simp [bad7, m]; omega)
          have e : (((if x2 > 0 then (0 : Int) else 7) == 0) == decide (x2 > 0)) = true := by
            by_cases h2 : x2 > 0 <;> simp [h2]
          rw [e, ifB_true]
          refine ldAggB (h9.up 3) (by kernel_rfl) ?_
          refine chkE (d := m1) (n := 7) h9 hv1 (chk_eq7 (by simp [bad1, m1]; omega) (by simp [bad7, m1])) fun w10 h10 => tyI ?_
          refine ifB_beq (fun _ => ?_) fun hne => absurd rfl hne
          refine ldAggB (h10.up 1) (by kernel_rfl) ?_
          refine chkE (d := m2) (n := 7) h10 hv2 (chk_eq7 (by simp [bad1, m2]; omega) (by simp [bad7, m2])) fun w11 h11 => tyI ?_
          refine ifB_beq (fun _ => ?_) fun hne => absurd rfl hne
          refine ldAggB h11 (by kernel_rfl) ?_
          refine chkE (d := m3) (n := 7) h11 hv3 (chk_eq7 (by simp [bad1, m3]; omega) (by simp [bad7, m3])) fun w12 h12 => tyI ?_
          exact hK w12 h12.tail.tail.tail.tail.tail
        · have la : ∀ w, (∃ L, Sat W w (Blk a0 m.cells T_api_Batch :: L)) → ∃ l, Sat W w (Blk a0 m.cells T_api_Batch :: l) := fun _ h => h
          refine ⟨fun w => ∃ L, Sat W w (Blk a0 m.cells T_api_Batch :: L), ⟨_, h3.drew⟩, ?_⟩
          refine hldAggB la (by kernel_rfl) ?_
          refine hldAggB la (by kernel_rfl) ?_
          refine hldAggB la (by kernel_rfl) ?_
          have al : ∀ {w : World} {L : List Res} {K : Addr → World → Prop}, Sat W w L → (∀ b w', Sat W w' (Blk b zeroDc.cells T_api_Batch :: L) → K ⟨b, 0, none⟩ w') → RunK .addr P (Instr.alloc T_api_Batch true (.tuple #[])) w K :=
            fun h hk => allocB h (z := .agg zeroDc.cells.toArray) (by kernel_rfl) hk
          have st : ∀ {w : World} {L : List Res} {b : Nat} {K : World → Prop}, Sat W w (Blk b zeroDc.cells T_api_Batch :: L) → (∀ w', Sat W w' (Blk b m.cells T_api_Batch :: L) → K w') → StoreP P T_api_Batch (.pointer (some ⟨b, 0, none⟩)) (.agg m.cells.toArray) w K :=
            fun h hk => stAggB (cs := zeroDc.cells) (cs' := m.cells) h rfl (Dc.ones _) (by kernel_rfl) hk
          have up : ∀ {w : World} {L : List Res} (i : Nat), Sat W w L → nthR L i = Blk a0 m.cells T_api_Batch → ∃ L, Sat W w (Blk a0 m.cells T_api_Batch :: L) := fun i h he => ⟨_, by have := h.up i; rw [he] at this; exact this⟩
          refine ⟨?_, ?_, ?_, trivial⟩
          all_goals
            refine al h3.drew fun b1 w4 h4 => ⟨up 1 h4 rfl, ?_⟩
            refine ⟨?_, ?_, trivial⟩
          all_goals
            refine al h4 fun b2 w5 h5 => ⟨up 2 h5 rfl, ?_⟩
            refine al h5 fun b3 w6 h6 => ⟨up 3 h6 rfl, ?_⟩
          · refine st (h6.up 2) fun w7 h7 => ⟨up 3 h7 rfl, ?_⟩
            refine st (h7.up 2) fun w8 h8 => ⟨up 3 h8 rfl, ?_⟩
            refine st (h8.up 2) fun w9 h9 => ⟨up 3 h9 rfl, ?_⟩
            exact ⟨b1, b2, b3, rfl, (h9.up 1).up 2⟩
          · refine st (h6.up 2) fun w7 h7 => ⟨up 3 h7 rfl, ?_⟩
            refine st (h7.up 1) fun w8 h8 => ⟨up 3 h8 rfl, ?_⟩
            refine st (h8.up 2) fun w9 h9 => ⟨up 3 h9 rfl, ?_⟩
            exact ⟨b1, b3, b2, rfl, (h9.up 1).up 2⟩
          · refine st (h6.up 1) fun w7 h7 => ⟨up 3 h7 rfl, ?_⟩
            refine st (h7.up 2) fun w8 h8 => ⟨up 3 h8 rfl, ?_⟩
            refine st (h8.up 2) fun w9 h9 => ⟨up 3 h9 rfl, ?_⟩
            exact ⟨b2, b1, b3, rfl, (h9.up 1).up 2⟩
          · refine st (h6.up 0) fun w7 h7 => ⟨up 3 h7 rfl, ?_⟩
            refine st (h7.up 2) fun w8 h8 => ⟨up 3 h8 rfl, ?_⟩
            refine st (h8.up 2) fun w9 h9 => ⟨up 3 h9 rfl, ?_⟩
            exact ⟨b3, b1, b2, rfl, (h9.up 1).up 2⟩
          · refine st (h6.up 1) fun w7 h7 => ⟨up 3 h7 rfl, ?_⟩
            refine st (h7.up 1) fun w8 h8 => ⟨up 3 h8 rfl, ?_⟩
            refine st (h8.up 2) fun w9 h9 => ⟨up 3 h9 rfl, ?_⟩
            exact ⟨b2, b3, b1, rfl, (h9.up 1).up 2⟩
          · refine st (h6.up 0) fun w7 h7 => ⟨up 3 h7 rfl, ?_⟩
            refine st (h7.up 1) fun w8 h8 => ⟨up 3 h8 rfl, ?_⟩
            refine st (h8.up 2) fun w9 h9 => ⟨up 3 h9 rfl, ?_⟩
            exact ⟨b3, b2, b1, rfl, (h9.up 1).up 2⟩
      · simp only [hg, decide_false, Bool.not_false, ifB_true]
        refine ldAggB h3 (by kernel_rfl) ?_
        refine chkE (d := m) (n := 1) h3 hv (chk_eq1 (by simp [bad1, m]; omega)) fun w4 h4 => tyI ?_
        exact hK w4 h4.tail
    · refine awake7_ok h2 fun w3 h3 => tyI ?_
      refine ldAggB h3 (by kernel_rfl) ?_
      refine size_ok (d := m) h3 hv fun w4 h4 => tyI ?_
      refine ifB_bne (fun hne => absurd rfl hne) fun _ => h4
  · refine ifB_dec (fun g1 => ?_) fun g1 => ⟨by simp [g1], h1⟩
    refine ifB_dec (fun g2 => ?_) fun g2 => ⟨by simp [g2], h1⟩
    exact ⟨by simp [g1, g2], h1⟩
end
end Go.Proofs.Ytcfgbboibgjlcaa
