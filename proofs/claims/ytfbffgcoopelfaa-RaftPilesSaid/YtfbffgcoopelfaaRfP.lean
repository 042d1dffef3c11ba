/- Layer 12: sameness; what is kept is begun with. -/
import Derived.Test.YtfbffgcoopelfaaRfO
namespace Go.Proofs.Ytfbffgcoopelfaa
open Go Go.Pk
section
variable {W w : World} {l : List Res} {K : Value → World → Prop}
theorem same_ok {x y : Sl} {xs ys : List UInt8} (h : Sat W w l) (hx : Rd W l x 1 (xs.map vB)) (hy : Rd W l y 1 (ys.map vB)) (hm : xs.length < 9223372036854775808)
    (hK : ∀ w', Sat W w' l → K (.bool (decide (xs = ys))) w') : CallP P F_ref03_Same [x.v, y.v] w K := by
  apply c_ref03_Same
  unfold S_ref03_Same
  have hxl := (hx w h).1
  have hyl := (hy w h).1
  simp at hxl hyl
  refine ifB_bne (fun hc => ?_) fun hc => ?_
  · have := hK w h
    rw [decide_eq_false (by rintro rfl; omega)] at this
    exact this
  · refine ⟨fun z w' => ∃ i : Nat, z.1 = i ∧ i ≤ xs.length ∧ xs.take i = ys.take i ∧ Sat W w' l, fun z _ => xs.length - z.1.toNat, ⟨0, rfl, by omega, by simp, h⟩, ?_⟩
    rintro ⟨i', u⟩ w1 ⟨i, hi, hil, heq, h1⟩
    simp only at hi ⊢
    subst hi
    refine ifB_dec (fun hlt => ?_) fun hge => ?_
    · have hi1 : i < xs.length := by omega
      have hi2 : i < ys.length := by omega
      refine ixld et_bytes (hx _ h1.drew) (by omega) (k := .int .u8) (x := (xs[i].toNat : Int)) (by simp [vB, hi1, Kd.v]) ?_
      refine ixld et_bytes (hy _ h1.drew) (by omega) (k := .int .u8) (x := (ys[i].toNat : Int)) (by simp [vB, hi2, Kd.v]) ?_
      refine ifB_bne (fun hne => ?_) fun he => ?_
      · have := hK _ h1.drew
        rw [decide_eq_false (by rintro rfl; exact hne rfl)] at this
        exact this
      · rw [w_i64 (by omega) (by omega)]
        refine ⟨⟨i + 1, rfl, by omega, ?_, h1.drew⟩, by omega⟩
        have : xs[i] = ys[i] := UInt8.toNat_inj.1 (by omega)
        rw [List.take_add_one, List.take_add_one, heq, List.getElem?_eq_getElem hi1, List.getElem?_eq_getElem hi2, this]
    · have := hK _ h1
      have hi : xs.length ≤ i := by omega
      rw [List.take_of_length_le hi, List.take_of_length_le (by omega)] at heq
      rw [decide_eq_true heq] at this
      exact this
theorem bad_chain (J9 : Bool × Unit → World → Prop) {x0 x1 : Int} {b : Nat} {c : HdC} {w7 : World} (h : Sat W w7 (Blk b c.cells T_api_Hard :: l)) (hJ : J9 (Rs.badNew x0 x1 c.h, ()) w7) :
    ifB (decide (x1 < 1))
        (J9 (true, ()) w7)
        (ifB (decide (x1 > 5))
         (J9 (true, ()) w7)
         (ifB (decide (x0 < 0))
          (J9 (true, ()) w7)
          (ifB (decide (x0 ≥ x1))
           (J9 (true, ()) w7)
           (RunQ (.int .i64) P (Instr.loadAt T_int (.pointer (some (Go.Addr.add ⟨b, 0, none⟩ 0)))) w7 fun (n12 : Int) =>
            ifB (decide (n12 < 0))
             (J9 (true, ()) w7)
             (RunQ (.int .i64) P (Instr.loadAt T_int (.pointer (some (Go.Addr.add ⟨b, 0, none⟩ 2)))) w7 fun (n13 : Int) =>
              ifB (decide (n13 < 0))
               (J9 (true, ()) w7)
               (RunQ (.int .i64) P (Instr.loadAt T_int (.pointer (some (Go.Addr.add ⟨b, 0, none⟩ 1)))) w7 fun (n14 : Int) =>
                ifB (decide (n14 < -1))
                (J9 (true, ()) w7)
                (RunQ (.int .i64) P (Instr.loadAt T_int (.pointer (some (Go.Addr.add ⟨b, 0, none⟩ 1)))) w7 fun (n15 : Int) =>
                J9 ((decide (n15 ≥ x1)), ()) w7))))))) := by
  have yes : Rs.badNew x0 x1 c.h = true → J9 (true, ()) w7 := fun e => by rw [e] at hJ; exact hJ
  refine ifB_dec (fun g1 => yes (by simp [Rs.badNew, g1])) fun g1 => ?_
  refine ifB_dec (fun g2 => yes (by simp [Rs.badNew]; omega)) fun g2 => ?_
  refine ifB_dec (fun g3 => yes (by simp [Rs.badNew, g3])) fun g3 => ?_
  refine ifB_dec (fun g4 => yes (by simp [Rs.badNew]; omega)) fun g4 => ?_
  refine ldX h 0 (x := c.h.term) ?_
  refine ifB_dec (fun g5 => yes (by simp [Rs.badNew, g5])) fun g5 => ?_
  refine ldX h 2 (x := c.h.base) ?_
  refine ifB_dec (fun g6 => yes (by simp [Rs.badNew, g6])) fun g6 => ?_
  refine ldX h 1 (x := c.h.vote) ?_
  refine ifB_dec (fun g7 => yes (by simp [Rs.badNew, g7])) fun g7 => ?_
  refine ldX h 1 (x := c.h.vote) ?_
  have e : Rs.badNew x0 x1 c.h = decide (c.h.vote ≥ x1) := by
    simp only [Rs.badNew, decide_eq_false g1, decide_eq_false g2, decide_eq_false g3, decide_eq_false g4, decide_eq_false g5, decide_eq_false g6, decide_eq_false g7, Bool.false_or]
  rw [e] at hJ
  exact hJ
theorem law_keeps {id n : Int} {c : HdC} (h : Sat W w l) (hr : HdRd W l c) (hs : Hd.Sm c.h) (hK : ∀ w', Sat W w' l → K (.bool true) w') :
    CallP P F_law12_RaftKeeps [.int .i64 id, .int .i64 n, .agg c.cells.toArray] w K := by
  apply c_law12_RaftKeeps
  unfold S_law12_RaftKeeps
  refine boxB h fun a0 w1 h1 => ?_
  have h1 : Sat W w1 (Blk a0 c.cells T_api_Hard :: l) := h1
  refine ldAggX 0 6 h1 ?_ (by show 0 + 6 ≤ 6; decide)
  refine copy_ok (c := c) h1 hr.cons hs fun ss ls w2 h2 => tyI (k := .val) ?_
  obtain ⟨es, he, h3⟩ := sat_pr.1 h2.swap
  have hrd : HdRd W (OwnS (elP T_api_Entry) ls es :: BsR ss c.h.snap :: Blk a0 c.cells T_api_Hard :: l) ⟨c.h, ss, ls⟩ := ⟨Rd.own.cons, by rw [← he]; exact EnRd.own⟩
  have hlen : c.ls.len = c.h.log.length := by
    obtain ⟨es', he', hf, _⟩ := hr.2
    have h5 := (hf w h).1
    rw [flat_length] at h5
    have h6 := congrArg List.length he'
    rw [List.length_map] at h6
    have h7 : es'.length * 2 = c.ls.len * 2 := h5
    omega
  have hsn : c.h.snap.length < 9223372036854775808 := by have := hs.1; omega
  refine new_ok (c := ⟨c.h, ss, ls⟩) h3 hrd hs (fun hb w3 h4 => ⟨(_, _, ()), rfl, ?_⟩) fun hb b w3 h4 => ⟨(_, _, ()), rfl, ?_⟩
  · refine ⟨fun t w' => t = (Rs.badNew id n c.h, ()) ∧ Sat W w' (OwnS (elP T_api_Entry) ls es :: BsR ss c.h.snap :: Blk a0 c.cells T_api_Hard :: l), ?_, ?_⟩
    rotate_left
    · have h4b : Sat W w3 (Blk a0 c.cells T_api_Hard :: _) := h4.up 2
      exact bad_chain (fun t w' => t = (Rs.badNew id n c.h, ()) ∧ Sat W w' (OwnS (elP T_api_Entry) ls es :: BsR ss c.h.snap :: Blk a0 c.cells T_api_Hard :: l)) h4b ⟨rfl, h4⟩
    rintro t w4 ⟨rfl, h5⟩
    have hb' : Rs.badNew id n c.h = true := hb
    rw [hb']
    refine ⟨fun _ w' => Sat W w' (OwnS (elP T_api_Entry) ls es :: BsR ss c.h.snap :: Blk a0 c.cells T_api_Hard :: l), ?_, ?_⟩
    · intro _ w5 h6
      exact hK w5 h6.tail.tail.tail
    · refine awake12_ok h5 fun w5 h6 => tyI (k := .bool) ?_
      exact h6
  · refine ⟨fun t w' => t = (Rs.badNew id n c.h, ()) ∧ Sat W w' (RaR b (Rs.new id n c.h) :: OwnS (elP T_api_Entry) ls es :: BsR ss c.h.snap :: Blk a0 c.cells T_api_Hard :: l), ?_, ?_⟩
    rotate_left
    · have h4b : Sat W w3 (Blk a0 c.cells T_api_Hard :: _) := h4.up 3
      exact bad_chain (fun t w' => t = (Rs.badNew id n c.h, ()) ∧ Sat W w' (RaR b (Rs.new id n c.h) :: OwnS (elP T_api_Entry) ls es :: BsR ss c.h.snap :: Blk a0 c.cells T_api_Hard :: l)) h4b ⟨rfl, h4⟩
    rintro t w4 ⟨rfl, h5⟩
    have hb' : Rs.badNew id n c.h = false := hb
    rw [hb']
    refine ⟨fun _ w' => Sat W w' (RaR b (Rs.new id n c.h) :: OwnS (elP T_api_Entry) ls es :: BsR ss c.h.snap :: Blk a0 c.cells T_api_Hard :: l), ?_, ?_⟩
    · intro _ w5 h6
      refine take_ok (r := Rs.new id n c.h) h6 ⟨.inl (Int.le_refl _), hs, by show 0 < _; decide⟩ fun s1 s2 s3 s4 s5 w6 h7 => tyI (k := .val) ?_
      have hcm : (Rs.taken (Rs.new id n c.h)).1.commits = [] := by
        show [] ++ Rs.tells _ (c.h.base - c.h.base).toNat _ = []
        rw [Int.sub_self]; rfl
      rw [hcm] at h7
      refine newAgg (cs := rdcells (Rs.new id n c.h).save ⟨hdOf (Rs.new id n c.h), s1, s2⟩ s3 (Rs.new id n c.h).restore s4 s5) (z := zReady) h7 (rdcells_ones _ _ _ _ _ _) fun e w7 h8 => ?_
      refine state_ok (h8.up 1) fun w8 h9 => ⟨(_, _, _, _, _, ()), rfl, ?_⟩
      have hh : Sat W w8 (Blk a0 c.cells T_api_Hard :: _) := h9.up 9
      refine ⟨fun _ w' => w' = w8, ?_, ?_⟩
      · intro _ w9 hw9
        rw [show w9 = w8 from hw9]
        have hx : Sat W w8 (Blk e (rdcells (Rs.new id n c.h).save ⟨hdOf (Rs.new id n c.h), s1, s2⟩ s3 (Rs.new id n c.h).restore s4 s5) T_api_Ready :: _) := h9.up 1
        refine ldX hx 0 (x := false) ?_
        refine ifB_intro (fun _ => ?_) fun h => by cases h
        refine ldX hx 8 (x := decide (c.h.base > 0)) ?_
        refine ldX hh 2 (x := c.h.base) ?_
        refine ifB_intro (fun _ => ?_) fun h => by simp at h
        have hcs : Sat W w8 (PrR T_api_Commit s5 [] :: _) := h9.up 6
        have hms : Sat W w8 (MsR s3 [] :: _) := h9.up 4
        have l5 := (Go.Proofs.Ytfbffgcoopelfaa.Sat.prLen hcs).1
        obtain ⟨ems, hem, hms2⟩ := sat_ms.1 hms
        have l3 := (own_len hms2 (by decide : 0 < 10)).1
        have l3' : ems.length = 0 := by have := congrArg List.length hem; simpa using this
        have l5' : s5.len = 0 := by simpa using l5.symm
        refine ldX (k := .sl) hx 10 (x := s5) ?_
        refine ldX (k := .sl) hx 7 (x := s3) ?_
        rw [l5', show s3.len = 0 by omega]
        refine ifB_beq (fun _ => ?_) fun h => absurd (by kernel_rfl) h
        refine ldX hx 8 (x := decide (c.h.base > 0)) ?_
        have hend : Sat W w8 l := (((h9.cut 1).cut 1).tail).tail.tail.tail.tail.tail.tail.tail
        refine ifB_intro (fun _ => hK w8 hend) fun hbase => ?_
        refine ldX (k := .sl) hx 9 (x := s4) ?_
        refine ldX (k := .sl) hh 4 (x := c.ss) ?_
        have hb0 : c.h.base > 0 := by simpa using hbase
        have hsn4 : (Rs.new id n c.h).rsnap = c.h.snap := by show (if c.h.base > 0 then c.h.snap else []) = _; rw [if_pos hb0]
        have h10 : Sat W w8 (BsR s4 c.h.snap :: l) := by
          have a : Sat W w8 (BsR s4 (Rs.new id n c.h).rsnap :: _) := h9.up 5
          rw [hsn4] at a
          exact a.sel 10 [0]
        refine same_ok h10 Rd.own hr.1.cons hsn fun w9 h11 => tyI (k := .bool) ?_
        rw [decide_eq_true rfl]
        exact hK w9 h11.tail
      · refine ifB_bne (fun h => absurd rfl h) fun _ => ?_
        refine ldX hh 0 (x := c.h.term) ?_
        refine ifB_bne (fun h => absurd rfl h) fun _ => ?_
        refine ifB_bne (fun h => absurd rfl h) fun _ => ?_
        refine ldX hh 2 (x := c.h.base) ?_
        refine ifB_bne (fun h => absurd rfl h) fun _ => ?_
        refine ldX hh 2 (x := c.h.base) ?_
        refine ldX (k := .sl) hh 5 (x := c.ls) ?_
        rw [hlen]
        exact ifB_bne (fun h => absurd rfl h) fun _ => rfl
    · refine awake12_ok h5 fun w5 h6 => tyI (k := .bool) ?_
      exact h6
end
end Go.Proofs.Ytfbffgcoopelfaa
