/- Layer 19: settings. -/
import Derived.Test.YtajhdjjmhfbhgaaKA
import Derived.Test.YtajhdjjmhfbhgaaE2
import Derived.Test.YtajhdjjmhfbhgaaFKa
import Derived.Test.YtajhdjjmhfbhgaaFKb
namespace Go.Proofs.Ytajhdjjmhfbhgaa
open Go Go.Pk
def opBad (parts : Int) (o : Oc) : Bool := decide (o.kind < 1) || decide (o.kind > 5) || decide (o.part < 0) || decide (o.part ≥ parts) || decide (o.to < 0) || decide (o.to ≥ parts) || decide (o.count < 0) || decide (o.count > 16) || decide ((o.value.size : Int) > 64)
def prBad (parts : Int) (p : Pr) : Bool := decide (p.group < 0) || decide (p.group > 7) || decide (p.ol.length > 64) || p.ol.any (opBad parts)
def topBad (c : Cf) : Bool := decide (c.nodes < 1) || decide (c.nodes > 5) || decide (c.parts < 1) || decide (c.parts > 4) || decide (c.copies < 1) || decide (c.copies > c.nodes) || decide (c.cl.length > 4)
def cfBad (c : Cf) : Bool := topBad c || c.cl.any (prBad c.parts)
structure CfRd (W : World) (l : List Res) (c : Cf) : Prop where
  cl : Rd W l c.cs 2 (elP.flat c.cl)
  ol : ∀ p ∈ c.cl, Rd W l p.os 5 (elO.flat p.ol)
section
variable {W w : World} {l : List Res} {K : Value → World → Prop} {c : Cf}
theorem CfRd.cons {R : Res} (h : CfRd W l c) : CfRd W (R :: l) c := ⟨h.cl.cons, fun p hp => (h.ol p hp).cons⟩
theorem RdC.elen {α : Type} {E : El α} {w : World} {s : Sl} {xs : List α} (h : RdC w s E.sz (E.flat xs)) (h0 : 0 < E.sz) : s.len = xs.length := by
  have := h.1
  rw [flat_length] at this
  exact (Nat.eq_of_mul_eq_mul_right h0 this).symm
theorem any_take {α : Type} {f : α → Bool} {xs : List α} {i : Nat} (hi : xs.length ≤ i) (h : ∀ x ∈ xs.take i, f x = false) : xs.any f = false := by
  rw [List.take_of_length_le hi] at h
  rw [List.any_eq_false]
  intro x hx; rw [h x hx]; decide
theorem all_take {α : Type} {f : α → Bool} {xs : List α} {i : Nat} (hi : i < xs.length) (h : ∀ x ∈ xs.take i, f x = false) (hn : f xs[i] = false) : ∀ x ∈ xs.take (i + 1), f x = false := by
  rw [List.take_add_one]
  intro x hx
  simp only [List.getElem?_eq_getElem hi, Option.toList_some, List.mem_append, List.mem_singleton] at hx
  rcases hx with hx | rfl
  · exact h x hx
  · exact hn

theorem client_Check_ok (h : Sat W w l) (hr : CfRd W l c) (hK : ∀ w', Sat W w' l → K (if cfBad c then .int .i64 1 else .int .i64 0) w') : CallP P F_client_Check [.agg c.cells.toArray] w K := by
  apply c_client_Check
  unfold S_client_Check
  have bad : cfBad c = true → ∀ w', Sat W w' l → K (.int .i64 1) w' := fun hb w' h' => by have := hK w' h'; rw [if_pos hb] at this; exact this
  have good : cfBad c = false → ∀ w', Sat W w' l → K (.int .i64 0) w' := fun hb w' h' => by have := hK w' h'; rw [hb] at this; exact this
  refine boxB h fun a0 w1 h1 => ?_
  have h1 : Sat W w1 (Blk a0 c.cells T_api_Config :: l) := h1
  have hcl : c.cs.len = c.cl.length := RdC.elen (E := elP) (hr.cl w h) (by decide)
  refine ⟨fun _ w' => topBad c = false ∧ Sat W w' (Blk a0 c.cells T_api_Config :: l), ?_, ?_⟩
  · rintro _ w2 ⟨ht, h2⟩
    have hcn : c.cl.length ≤ 4 := by simp only [topBad, Bool.or_eq_false_iff, decide_eq_false_iff_not] at ht; omega
    refine ldB h2 (o := 0) (i := 3) (k := .sl) (x := c.cs) ?_
    refine ⟨fun z w' => ∃ i : Nat, z.1 = i ∧ i ≤ c.cl.length ∧ (∀ p ∈ c.cl.take i, prBad c.parts p = false) ∧ Sat W w' (Blk a0 c.cells T_api_Config :: l), fun z _ => c.cl.length - z.1.toNat, ⟨0, rfl, Nat.zero_le _, (by intro p hp; simp at hp), h2⟩, ?_⟩
    rintro ⟨i', u⟩ w3 ⟨i, hi, hil, hp, h3⟩
    simp only at hi ⊢
    subst hi
    refine ifB_dec (fun hlt => ?_) fun hge => good (by simp [cfBad, ht, any_take (by omega) hp]) _ h3.tail
    have hi1 : i < c.cl.length := by omega
    have hx : c.cl[(i : Int).toNat]? = some c.cl[i] := by simp [hi1]
    have hm : c.cl[i] ∈ c.cl := List.getElem_mem hi1
    generalize he : c.cl[i] = p at hx hm
    refine ixEl (E := elP) et_progs rfl (hr.cl w3 h3.tail) (by omega) hx (by omega) fun a ha => ?_
    refine ldAggC (cs := p.cells) ha ?_
    refine newAgg (z := [.int .i64 0, .slice none 0 0]) h3 (Pr.ones p) fun a1 w4 h4 => ?_
    have hol : p.os.len = p.ol.length := RdC.elen (E := elO) (hr.ol p hm w h) (by decide)
    have badP : prBad c.parts p = true → ∀ w', Sat W w' l → K (.int .i64 1) w' := fun hb w' h' => bad (by
      have : c.cl.any (prBad c.parts) = true := List.any_eq_true.2 ⟨p, hm, hb⟩
      simp [cfBad, this]) w' h'
    refine ⟨fun _ w' => (decide (p.group < 0) || decide (p.group > 7) || decide (p.ol.length > 64)) = false ∧ Sat W w' (Blk a1 p.cells T_api_Program :: Blk a0 c.cells T_api_Config :: l), ?_, ?_⟩
    · rintro _ w5 ⟨hg, h5⟩
      have hon : p.ol.length ≤ 64 := by simp only [Bool.or_eq_false_iff, decide_eq_false_iff_not] at hg; omega
      refine ldB h5 (o := 0) (i := 1) (k := .sl) (x := p.os) ?_
      refine ⟨fun z w' => ∃ j : Nat, z.1 = j ∧ j ≤ p.ol.length ∧ (∀ o ∈ p.ol.take j, opBad c.parts o = false) ∧ Sat W w' (Blk a0 c.cells T_api_Config :: l), fun z _ => p.ol.length - z.1.toNat, ⟨0, rfl, Nat.zero_le _, (by intro p hp; simp at hp), h5.tail⟩, ?_⟩
      rintro ⟨j', u⟩ w6 ⟨j, hj, hjl, ho, h6⟩
      simp only at hj ⊢
      subst hj
      refine ifB_dec (fun hlt2 => ?_) fun hge2 => ?_
      · have hj1 : j < p.ol.length := by omega
        have hx2 : p.ol[(j : Int).toNat]? = some p.ol[j] := by simp [hj1]
        have hm2 : p.ol[j] ∈ p.ol := List.getElem_mem hj1
        generalize he2 : p.ol[j] = o at hx2 hm2
        have badO : opBad c.parts o = true → ∀ w', Sat W w' l → K (.int .i64 1) w' := fun hb w' h' => badP (by
          have : p.ol.any (opBad c.parts) = true := List.any_eq_true.2 ⟨o, hm2, hb⟩
          simp [prBad, this]) w' h'
        refine ixEl (E := elO) et_ops rfl (hr.ol p hm w6 h6.tail) (by omega) hx2 (by omega) fun a' ha' => ?_
        refine ldAggC (cs := o.cells) ha' ?_
        refine newAgg (z := [.int .i64 0, .int .i64 0, .int .i64 0, .int .i64 0, .string ⟨#[]⟩]) h6 (Oc.ones o) fun a2 w8 h8 => ?_
        have h8c := h8.swap
        refine ldB h8 (o := 0) (i := 0) (x := o.kind) ?_
        refine ifB_dec (fun g => badO (by simp [opBad, g]) _ h8.tail.tail) fun q0 => ?_
        refine ldB h8 (o := 0) (i := 0) (x := o.kind) ?_
        refine ifB_dec (fun g => badO (by simp [opBad, g]) _ h8.tail.tail) fun q1 => ?_
        refine ldB h8 (o := 0) (i := 1) (x := o.part) ?_
        refine ifB_dec (fun g => badO (by simp [opBad, g]) _ h8.tail.tail) fun q2 => ?_
        refine ldB h8 (o := 0) (i := 1) (x := o.part) ?_
        refine ldB h8c (o := 0) (i := 1) (x := c.parts) ?_
        refine ifB_dec (fun g => badO (by simp [opBad, g]) _ h8.tail.tail) fun q3 => ?_
        refine ldB h8 (o := 0) (i := 2) (x := o.to) ?_
        refine ifB_dec (fun g => badO (by simp [opBad, g]) _ h8.tail.tail) fun q4 => ?_
        refine ldB h8 (o := 0) (i := 2) (x := o.to) ?_
        refine ldB h8c (o := 0) (i := 1) (x := c.parts) ?_
        refine ifB_dec (fun g => badO (by simp [opBad, g]) _ h8.tail.tail) fun q5 => ?_
        refine ldB h8 (o := 0) (i := 3) (x := o.count) ?_
        refine ifB_dec (fun g => badO (by simp [opBad, g]) _ h8.tail.tail) fun q6 => ?_
        refine ldB h8 (o := 0) (i := 3) (x := o.count) ?_
        refine ifB_dec (fun g => badO (by simp [opBad, g]) _ h8.tail.tail) fun q7 => ?_
        refine ldB h8 (o := 0) (i := 4) (k := .str) (x := o.value) ?_
        refine ifB_dec (fun g => badO (by simp [opBad, g]) _ h8.tail.tail) fun q8 => ?_
        rw [w_i64 (by omega) (by omega)]
        refine ⟨⟨j + 1, rfl, by omega, all_take hj1 ho (by rw [he2]; simp only [opBad, Bool.or_eq_false_iff, decide_eq_false_iff_not]; exact ⟨⟨⟨⟨⟨⟨⟨⟨q0, q1⟩, q2⟩, q3⟩, q4⟩, q5⟩, q6⟩, q7⟩, q8⟩), h8.tail⟩, by omega⟩
      · rw [w_i64 (by omega) (by omega)]
        refine ⟨⟨i + 1, rfl, by omega, all_take hi1 hp (by rw [he]; simp only [prBad, hg, Bool.false_or]; exact any_take (by omega) ho), h6⟩, by omega⟩
    · refine ldB h4 (o := 0) (i := 0) (x := p.group) ?_
      refine ifB_dec (fun g => badP (by simp [prBad, g]) _ h4.tail.tail) fun g0 => ?_
      refine ldB h4 (o := 0) (i := 0) (x := p.group) ?_
      refine ifB_dec (fun g => badP (by have : p.group > 7 := by omega
                                        simp [prBad, this]) _ h4.tail.tail) fun g1 => ?_
      refine ldB h4 (o := 0) (i := 1) (k := .sl) (x := p.os) ?_
      refine ifB_dec (fun g => badP (by have : p.ol.length > 64 := by omega
                                        simp [prBad, this]) _ h4.tail.tail) fun g2 => ?_
      exact ⟨by simp only [Bool.or_eq_false_iff, decide_eq_false_iff_not]; omega, h4⟩
  · refine ldB h1 (o := 0) (i := 0) (x := c.nodes) ?_
    refine ifB_dec (fun g => bad (by simp [cfBad, topBad, g]) _ h1.tail) fun g0 => ?_
    refine ldB h1 (o := 0) (i := 0) (x := c.nodes) ?_
    refine ifB_dec (fun g => bad (by simp [cfBad, topBad, g]) _ h1.tail) fun g140 => ?_
    refine ldB h1 (o := 0) (i := 1) (x := c.parts) ?_
    refine ifB_dec (fun g => bad (by simp [cfBad, topBad, g]) _ h1.tail) fun g282 => ?_
    refine ldB h1 (o := 0) (i := 1) (x := c.parts) ?_
    refine ifB_dec (fun g => bad (by simp [cfBad, topBad, g]) _ h1.tail) fun g424 => ?_
    refine ldB h1 (o := 0) (i := 2) (x := c.copies) ?_
    refine ifB_dec (fun g => bad (by simp [cfBad, topBad, g]) _ h1.tail) fun g566 => ?_
    refine ldB h1 (o := 0) (i := 2) (x := c.copies) ?_
    refine ldB h1 (o := 0) (i := 0) (x := c.nodes) ?_
    refine ifB_dec (fun g => bad (by simp [cfBad, topBad, g]) _ h1.tail) fun g6 => ?_
    refine ldB h1 (o := 0) (i := 3) (k := .sl) (x := c.cs) ?_
    refine ifB_dec (fun g => bad (by have : c.cl.length > 4 := by omega
                                     simp [cfBad, topBad, this]) _ h1.tail) fun g7 => ?_
    refine ⟨?_, h1⟩
    simp only [topBad, Bool.or_eq_false_iff, decide_eq_false_iff_not]; omega

theorem law19_bad_ok (h : Sat W w l) (hr : CfRd W l c) (hK : ∀ w', Sat W w' l → K (if cfBad c then .bool true else .bool false) w') : CallP P F_law19_bad [.agg c.cells.toArray] w K := by
  apply c_law19_bad
  unfold S_law19_bad
  have bad : cfBad c = true → ∀ w', Sat W w' l → K (.bool true) w' := fun hb w' h' => by have := hK w' h'; rw [if_pos hb] at this; exact this
  have good : cfBad c = false → ∀ w', Sat W w' l → K (.bool false) w' := fun hb w' h' => by have := hK w' h'; rw [hb] at this; exact this
  refine boxB h fun a0 w1 h1 => ?_
  have h1 : Sat W w1 (Blk a0 c.cells T_api_Config :: l) := h1
  have hcl : c.cs.len = c.cl.length := RdC.elen (E := elP) (hr.cl w h) (by decide)
  refine ⟨fun _ w' => topBad c = false ∧ Sat W w' (Blk a0 c.cells T_api_Config :: l), ?_, ?_⟩
  · rintro _ w2 ⟨ht, h2⟩
    have hcn : c.cl.length ≤ 4 := by simp only [topBad, Bool.or_eq_false_iff, decide_eq_false_iff_not] at ht; omega
    refine ldB h2 (o := 0) (i := 3) (k := .sl) (x := c.cs) ?_
    refine ⟨fun z w' => ∃ i : Nat, z.1 = i ∧ i ≤ c.cl.length ∧ (∀ p ∈ c.cl.take i, prBad c.parts p = false) ∧ Sat W w' (Blk a0 c.cells T_api_Config :: l), fun z _ => c.cl.length - z.1.toNat, ⟨0, rfl, Nat.zero_le _, (by intro p hp; simp at hp), h2⟩, ?_⟩
    rintro ⟨i', u⟩ w3 ⟨i, hi, hil, hp, h3⟩
    simp only at hi ⊢
    subst hi
    refine ifB_dec (fun hlt => ?_) fun hge => good (by simp [cfBad, ht, any_take (by omega) hp]) _ h3.tail
    have hi1 : i < c.cl.length := by omega
    have hx : c.cl[(i : Int).toNat]? = some c.cl[i] := by simp [hi1]
    have hm : c.cl[i] ∈ c.cl := List.getElem_mem hi1
    generalize he : c.cl[i] = p at hx hm
    refine ixEl (E := elP) et_progs rfl (hr.cl w3 h3.tail) (by omega) hx (by omega) fun a ha => ?_
    refine ldAggC (cs := p.cells) ha ?_
    refine newAgg (z := [.int .i64 0, .slice none 0 0]) h3 (Pr.ones p) fun a1 w4 h4 => ?_
    have hol : p.os.len = p.ol.length := RdC.elen (E := elO) (hr.ol p hm w h) (by decide)
    have badP : prBad c.parts p = true → ∀ w', Sat W w' l → K (.bool true) w' := fun hb w' h' => bad (by
      have : c.cl.any (prBad c.parts) = true := List.any_eq_true.2 ⟨p, hm, hb⟩
      simp [cfBad, this]) w' h'
    refine ⟨fun _ w' => (decide (p.group < 0) || decide (p.group > 7) || decide (p.ol.length > 64)) = false ∧ Sat W w' (Blk a1 p.cells T_api_Program :: Blk a0 c.cells T_api_Config :: l), ?_, ?_⟩
    · rintro _ w5 ⟨hg, h5⟩
      have hon : p.ol.length ≤ 64 := by simp only [Bool.or_eq_false_iff, decide_eq_false_iff_not] at hg; omega
      refine ldB h5 (o := 0) (i := 1) (k := .sl) (x := p.os) ?_
      refine ⟨fun z w' => ∃ j : Nat, z.1 = j ∧ j ≤ p.ol.length ∧ (∀ o ∈ p.ol.take j, opBad c.parts o = false) ∧ Sat W w' (Blk a0 c.cells T_api_Config :: l), fun z _ => p.ol.length - z.1.toNat, ⟨0, rfl, Nat.zero_le _, (by intro p hp; simp at hp), h5.tail⟩, ?_⟩
      rintro ⟨j', u⟩ w6 ⟨j, hj, hjl, ho, h6⟩
      simp only at hj ⊢
      subst hj
      refine ifB_dec (fun hlt2 => ?_) fun hge2 => ?_
      · have hj1 : j < p.ol.length := by omega
        have hx2 : p.ol[(j : Int).toNat]? = some p.ol[j] := by simp [hj1]
        have hm2 : p.ol[j] ∈ p.ol := List.getElem_mem hj1
        generalize he2 : p.ol[j] = o at hx2 hm2
        have badO : opBad c.parts o = true → ∀ w', Sat W w' l → K (.bool true) w' := fun hb w' h' => badP (by
          have : p.ol.any (opBad c.parts) = true := List.any_eq_true.2 ⟨o, hm2, hb⟩
          simp [prBad, this]) w' h'
        refine ixEl (E := elO) et_ops rfl (hr.ol p hm w6 h6.tail) (by omega) hx2 (by omega) fun a' ha' => ?_
        refine ldAggC (cs := o.cells) ha' ?_
        refine newAgg (z := [.int .i64 0, .int .i64 0, .int .i64 0, .int .i64 0, .string ⟨#[]⟩]) h6 (Oc.ones o) fun a2 w8 h8 => ?_
        have h8c := h8.swap
        refine ldB h8 (o := 0) (i := 0) (x := o.kind) ?_
        refine ifB_dec (fun g => badO (by simp [opBad, g]) _ h8.tail.tail) fun q0 => ?_
        refine ldB h8 (o := 0) (i := 0) (x := o.kind) ?_
        refine ifB_dec (fun g => badO (by simp [opBad, g]) _ h8.tail.tail) fun q1 => ?_
        refine ldB h8 (o := 0) (i := 1) (x := o.part) ?_
        refine ifB_dec (fun g => badO (by simp [opBad, g]) _ h8.tail.tail) fun q2 => ?_
        refine ldB h8 (o := 0) (i := 1) (x := o.part) ?_
        refine ldB h8c (o := 0) (i := 1) (x := c.parts) ?_
        refine ifB_dec (fun g => badO (by simp [opBad, g]) _ h8.tail.tail) fun q3 => ?_
        refine ldB h8 (o := 0) (i := 2) (x := o.to) ?_
        refine ifB_dec (fun g => badO (by simp [opBad, g]) _ h8.tail.tail) fun q4 => ?_
        refine ldB h8 (o := 0) (i := 2) (x := o.to) ?_
        refine ldB h8c (o := 0) (i := 1) (x := c.parts) ?_
        refine ifB_dec (fun g => badO (by simp [opBad, g]) _ h8.tail.tail) fun q5 => ?_
        refine ldB h8 (o := 0) (i := 3) (x := o.count) ?_
        refine ifB_dec (fun g => badO (by simp [opBad, g]) _ h8.tail.tail) fun q6 => ?_
        refine ldB h8 (o := 0) (i := 3) (x := o.count) ?_
        refine ifB_dec (fun g => badO (by simp [opBad, g]) _ h8.tail.tail) fun q7 => ?_
        refine ldB h8 (o := 0) (i := 4) (k := .str) (x := o.value) ?_
        refine ifB_dec (fun g => badO (by simp [opBad, g]) _ h8.tail.tail) fun q8 => ?_
        rw [w_i64 (by omega) (by omega)]
        refine ⟨⟨j + 1, rfl, by omega, all_take hj1 ho (by rw [he2]; simp only [opBad, Bool.or_eq_false_iff, decide_eq_false_iff_not]; exact ⟨⟨⟨⟨⟨⟨⟨⟨q0, q1⟩, q2⟩, q3⟩, q4⟩, q5⟩, q6⟩, q7⟩, q8⟩), h8.tail⟩, by omega⟩
      · rw [w_i64 (by omega) (by omega)]
        refine ⟨⟨i + 1, rfl, by omega, all_take hi1 hp (by rw [he]; simp only [prBad, hg, Bool.false_or]; exact any_take (by omega) ho), h6⟩, by omega⟩
    · refine ldB h4 (o := 0) (i := 0) (x := p.group) ?_
      refine ifB_dec (fun g => badP (by simp [prBad, g]) _ h4.tail.tail) fun g0 => ?_
      refine ldB h4 (o := 0) (i := 0) (x := p.group) ?_
      refine ifB_dec (fun g => badP (by have : p.group > 7 := by omega
                                        simp [prBad, this]) _ h4.tail.tail) fun g1 => ?_
      refine ldB h4 (o := 0) (i := 1) (k := .sl) (x := p.os) ?_
      refine ifB_dec (fun g => badP (by have : p.ol.length > 64 := by omega
                                        simp [prBad, this]) _ h4.tail.tail) fun g2 => ?_
      exact ⟨by simp only [Bool.or_eq_false_iff, decide_eq_false_iff_not]; omega, h4⟩
  · refine ldB h1 (o := 0) (i := 0) (x := c.nodes) ?_
    refine ifB_dec (fun g => bad (by simp [cfBad, topBad, g]) _ h1.tail) fun g0 => ?_
    refine ldB h1 (o := 0) (i := 0) (x := c.nodes) ?_
    refine ifB_dec (fun g => bad (by simp [cfBad, topBad, g]) _ h1.tail) fun g140 => ?_
    refine ldB h1 (o := 0) (i := 1) (x := c.parts) ?_
    refine ifB_dec (fun g => bad (by simp [cfBad, topBad, g]) _ h1.tail) fun g282 => ?_
    refine ldB h1 (o := 0) (i := 1) (x := c.parts) ?_
    refine ifB_dec (fun g => bad (by simp [cfBad, topBad, g]) _ h1.tail) fun g424 => ?_
    refine ldB h1 (o := 0) (i := 2) (x := c.copies) ?_
    refine ifB_dec (fun g => bad (by simp [cfBad, topBad, g]) _ h1.tail) fun g566 => ?_
    refine ldB h1 (o := 0) (i := 2) (x := c.copies) ?_
    refine ldB h1 (o := 0) (i := 0) (x := c.nodes) ?_
    refine ifB_dec (fun g => bad (by simp [cfBad, topBad, g]) _ h1.tail) fun g6 => ?_
    refine ldB h1 (o := 0) (i := 3) (k := .sl) (x := c.cs) ?_
    refine ifB_dec (fun g => bad (by have : c.cl.length > 4 := by omega
                                     simp [cfBad, topBad, this]) _ h1.tail) fun g7 => ?_
    refine ⟨?_, h1⟩
    simp only [topBad, Bool.or_eq_false_iff, decide_eq_false_iff_not]; omega
end
end Go.Proofs.Ytajhdjjmhfbhgaa
