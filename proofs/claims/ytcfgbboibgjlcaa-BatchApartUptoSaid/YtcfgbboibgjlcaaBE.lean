/- Layer 7: two batches are held against each other. -/
import Derived.Test.YtcfgbboibgjlcaaBD
namespace Go.Proofs.Ytcfgbboibgjlcaa
open Go Go.Pk
def Dc.dat (d : Dc) : Int × Int × Int × Int × Int × Bool × Bool × Bool × List (List UInt8) := (d.ba, d.ep, d.pid, d.pe, d.sq, d.tx, d.ct, d.cm, d.bs)
noncomputable def dsame (d1 d2 : Dc) : Bool := @decide (d1.dat = d2.dat) (Classical.propDecidable _)
theorem dsame_yes {d1 d2 : Dc} (h : d1.dat = d2.dat) : dsame d1 d2 = true := by simp [dsame, h]
theorem dsame_no {d1 d2 : Dc} (h : d1.dat ≠ d2.dat) : dsame d1 d2 = false := by simp [dsame, h]
section
variable {W w : World} {l : List Res} {K : Value → World → Prop} {d d1 d2 : Dc}
theorem VRd.hld (h : VRd W l d) {S : World → Prop} (hS : ∀ w, S w → Sat W w l) (hs : Sat W w l) {i : Nat} (hi : i < d.bs.length) {K : Sl → Prop} (hK : ∀ s, Rd W l s 1 (d.bs[i].map vB) → s.len = d.bs[i].length → K s) :
    HRun S .addr P (Instr.indexAt T_sl_sl_uint8 d.vs.v (.int .i64 i)) fun a => HRun S .sl P (Instr.loadAt T_sl_uint8 (.pointer (some a))) K := by
  have hi2 : i < d.ss.length := by rw [h.2.1]; exact hi
  have hl := h.len hs
  have hr := h.2.2 i d.ss[i] d.bs[i] (List.getElem?_eq_getElem hi2) (List.getElem?_eq_getElem hi)
  have hrl := (hr w hs).1
  simp at hrl
  obtain ⟨a, ha⟩ := some_of_lt (h.1 w hs) (n := i) (by omega)
  refine ⟨_, fun w _ => run_ix et_vs ha (by omega) (by omega) w, ?_⟩
  refine Go.Pk.hld (x := d.ss[i]) (fun w hw => ?_) (hK _ hr (by omega))
  have := (h.1 w (hS w hw)).2.2.2 a ha i (d.ss[i].v) (by simp [hi2])
  simpa using this
theorem rsame_ok (h : Sat W w l) (hv1 : VRd W l d1) (hv2 : VRd W l d2) (hb : ∀ b ∈ d1.bs, b.length < 9223372036854775808) (hbl : d1.bs.length < 9223372036854775807) (hK : ∀ w', Sat W w' l → K (.bool (dsame d1 d2)) w') :
    CallP P F_ref07_Same [.agg d1.cells.toArray, .agg d2.cells.toArray] w K := by
  apply c_ref07_Same
  unfold S_ref07_Same
  refine boxB h fun a1 w1 h1 => ?_
  refine boxB h1 fun a2 w2 h2 => ?_
  have hA : Sat W w2 (Blk a2 d2.cells 66 :: Blk a1 d1.cells 66 :: l) := h2
  have hB := hA.swap
  clear h1 h2
  have hl1 := hv1.len h
  have hl2 := hv2.len h
  have no : d1.dat ≠ d2.dat → ∀ w, Sat W w (Blk a2 d2.cells 66 :: Blk a1 d1.cells 66 :: l) → K (.bool false) w := by
    intro hne w hw
    have := hK w hw.tail.tail
    rwa [dsame_no hne] at this
  have nf : ∀ {p : Prop}, (d1.dat = d2.dat → p) → ¬ p → K (.bool false) w2 := fun hp hn => no (fun he => hn (hp he)) w2 hA
  refine ⟨fun _ w' => (d1.ba = d2.ba ∧ d1.ep = d2.ep ∧ d1.pid = d2.pid ∧ d1.pe = d2.pe ∧ d1.sq = d2.sq ∧ d1.tx = d2.tx ∧ d1.ct = d2.ct ∧ d1.cm = d2.cm ∧ d1.bs.length = d2.bs.length) ∧ Sat W w' (Blk a2 d2.cells 66 :: Blk a1 d1.cells 66 :: l), ?_, ?_⟩
  · rintro _ w3 ⟨⟨g1, g2, g3, g4, g5, g6, g7, g8, g9⟩, h3⟩
    refine ⟨fun z w' => ∃ i : Nat, z.1 = i ∧ i ≤ d1.bs.length ∧ d1.bs.take i = d2.bs.take i ∧ Sat W w' (Blk a2 d2.cells 66 :: Blk a1 d1.cells 66 :: l), fun z _ => d1.bs.length - z.1.toNat, ⟨0, rfl, by omega, by simp, h3⟩, ?_⟩
    rintro ⟨i', u⟩ w4 ⟨i, hi, hil, heq, h4⟩
    simp only at hi ⊢
    subst hi
    refine ldB h4.swap (o := 0) ?_
    refine ifB_dec (fun hlt => ?_) fun hge => ?_
    · have hi1 : i < d1.bs.length := by omega
      have hi2 : i < d2.bs.length := by omega
      refine ⟨fun w => Sat W w (Blk a2 d2.cells 66 :: Blk a1 d1.cells 66 :: l), h4.drew, ?_⟩
      have s1 : ∀ w, Sat W w (Blk a2 d2.cells 66 :: Blk a1 d1.cells 66 :: l) → ∃ l', Sat W w (Blk a1 d1.cells 66 :: l') := fun w h => ⟨_, h.swap⟩
      have s2 : ∀ w, Sat W w (Blk a2 d2.cells 66 :: Blk a1 d1.cells 66 :: l) → ∃ l', Sat W w (Blk a2 d2.cells 66 :: l') := fun w h => ⟨_, h⟩
      refine hldB s1 (i := 8) (x := d1.vs) ?_
      refine (hv1.cons.cons).hld (fun w h => h) h4 hi1 fun t1 r1 _ => ?_
      refine hldB s2 (i := 8) (x := d2.vs) ?_
      refine (hv2.cons.cons).hld (fun w h => h) h4 hi2 fun t2 r2 _ => ?_
      refine same_ok h4.drew r1 r2 (hb _ (List.getElem_mem hi1)) fun w5 h5 => tyI ⟨h5, ?_⟩
      refine ifB_not ?_
      refine ifB_dec (fun he => ?_) fun hne => no (fun hh => hne ?_) w5 h5
      · rw [w_i64 (by omega) (by omega)]
        refine ⟨⟨i + 1, rfl, by omega, ?_, h5⟩, by omega⟩
        rw [List.take_add_one, List.take_add_one, heq, List.getElem?_eq_getElem hi1, List.getElem?_eq_getElem hi2, he]
      · have : d1.bs = d2.bs := by simp only [Dc.dat, Prod.mk.injEq] at hh; exact hh.2.2.2.2.2.2.2.2
        have e : ∀ (x y : List (List UInt8)) (hx : i < x.length) (hy : i < y.length), x = y → x[i] = y[i] := by intro x y hx hy hxy; subst hxy; rfl
        exact e _ _ hi1 hi2 this
    · rw [List.take_of_length_le (by omega), List.take_of_length_le (by omega)] at heq
      have := hK w4 h4.tail.tail
      rw [dsame_yes (by simp only [Dc.dat, g1, g2, g3, g4, g5, g6, g7, g8, heq])] at this
      exact this
  · simp only [Dc.dat, Prod.mk.injEq] at nf
    refine ldB hB (o := 0) ?_
    refine ldB hA (o := 0) ?_
    refine ifB_bne (fun hne => nf (fun h => h.1) hne) fun g1 => ?_
    refine ldB hB (o := 0) ?_
    refine ldB hA (o := 0) ?_
    refine ifB_bne (fun hne => nf (fun h => h.2.1) hne) fun g2 => ?_
    refine ldB hB (o := 0) ?_
    refine ldB hA (o := 0) ?_
    refine ifB_bne (fun hne => nf (fun h => h.2.2.1) hne) fun g3 => ?_
    refine ldB hB (o := 0) ?_
    refine ldB hA (o := 0) ?_
    refine ifB_bne (fun hne => nf (fun h => h.2.2.2.1) hne) fun g4 => ?_
    refine ldB hB (o := 0) ?_
    refine ldB hA (o := 0) ?_
    refine ifB_bne (fun hne => nf (fun h => h.2.2.2.2.1) hne) fun g5 => ?_
    have bb : ∀ {p q : Bool}, (!p == q) = true → ¬ p = q := by intro p q; cases p <;> cases q <;> simp
    have bc : ∀ {p q : Bool}, (!p == q) = false → p = q := by intro p q; cases p <;> cases q <;> simp
    refine ldB hB (o := 0) ?_
    refine ldB hA (o := 0) ?_
    refine ifB_intro (fun hne => nf (fun h => h.2.2.2.2.2.1) (bb hne)) fun g6 => ?_
    refine ldB hB (o := 0) ?_
    refine ldB hA (o := 0) ?_
    refine ifB_intro (fun hne => nf (fun h => h.2.2.2.2.2.2.1) (bb hne)) fun g7 => ?_
    refine ldB hB (o := 0) ?_
    refine ldB hA (o := 0) ?_
    refine ifB_intro (fun hne => nf (fun h => h.2.2.2.2.2.2.2.1) (bb hne)) fun g8 => ?_
    refine ldB hB (o := 0) ?_
    refine ldB hA (o := 0) ?_
    refine ifB_bne (fun hne => nf (p := d1.bs.length = d2.bs.length) (fun h => by rw [h.2.2.2.2.2.2.2.2]) (fun hh => hne (by show (d1.vs.len : Int) = d2.vs.len; omega))) fun g9 => ?_
    have g9' : (d1.vs.len : Int) = d2.vs.len := g9
    exact ⟨⟨g1, g2, g3, g4, g5, bc g6, bc g7, bc g8, by omega⟩, hA⟩
end
end Go.Proofs.Ytcfgbboibgjlcaa
