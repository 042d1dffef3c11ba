/- Layer 12: the law of piles. -/
import Derived.Test.YtfbffgcoopelfaaRgI
import Derived.Test.YtfbffgcoopelfaaRgJ
import Derived.Test.YtfbffgcoopelfaaRgK
namespace Go.Proofs.Ytfbffgcoopelfaa
open Go Go.Pk
theorem chain_ok {m : Nat} : ∀ {n j : Nat} {g : Gp}, chainB g j m n = true → ∀ i, i ≤ n → PropsC g j i ∧ (m ≤ j + i → lastB (g.props 1 j i) = true)
  | n, j, g, h, 0, _ => by
    refine ⟨trivial, fun hm => ?_⟩
    have h1 : (Nat.ble (j + 1) m || lastB g) = true := by
      cases n with
      | zero => exact h
      | succ n => simp only [chainB, Bool.and_eq_true] at h; exact h.1
    simp only [Bool.or_eq_true, Nat.ble_eq] at h1
    exact h1.resolve_left (by omega)
  | 0, _, _, _, i + 1, hi => by omega
  | n + 1, j, g, h, i + 1, hi => by
    simp only [chainB, Bool.and_eq_true, Nat.ble_eq, decide_eq_true_eq, frR_eq] at h
    obtain ⟨_, ⟨⟨⟨a1, a2⟩, a3⟩, a4⟩, a5⟩ := h
    have f := fit_of a2
    obtain ⟨b1, b2⟩ := chain_ok a5 i (by omega)
    refine ⟨⟨⟨by omega, f.sane, f.roomy, f.next, ⟨fun _ => by omega, fun _ => a4⟩, .inl a4⟩, b1⟩, fun hm => ?_⟩
    exact b2 (by omega)
theorem ends_ok : ∀ {n j : Nat} {g : Gp}, endsB g j n = true → stopB (g.props 1 j n) = true
  | 0, _, _, h => h
  | n + 1, j, g, h => by
    simp only [endsB, frR_eq] at h
    have h2 := ends_ok (n := n) (j := j + 1) h
    exact h2
theorem stop_ok {g : Gp} (h : stopB g = true) : ∀ (n k : Nat), 64 ≤ k → PropsC g k n ∧ g.props 1 k n = g
  | 0, _, _ => ⟨trivial, rfl⟩
  | n + 1, k, hk => by
    have h0 := h
    simp only [stopB, Bool.and_eq_true, Nat.ble_eq, decide_eq_true_eq] at h0
    obtain ⟨⟨⟨a1, a2⟩, a3⟩, a4⟩ := h0
    have f := fit_of a2
    have e : (g.node 1).propose [UInt8.ofNat k] = (g.node 1, 0, 3) := by
      unfold Rs.propose
      rw [if_neg (by simp [a3]), if_neg (by simp), if_pos a4]
    have eg : ({ g with nodes := g.nodes.set 1 (g.node 1) } : Gp) = g := set_same (by omega)
    obtain ⟨c, d⟩ := stop_ok h n (k + 1) (by omega)
    refine ⟨⟨⟨by omega, f.sane, f.roomy, f.next, ?_, ?_⟩, ?_⟩, ?_⟩
    · rw [e]; exact ⟨fun q => absurd q (by show ¬ (3 : Int) = 0; decide), fun q => by omega⟩
    · rw [e]; exact .inr rfl
    · rw [e, eg]; exact c
    · show ({ g with nodes := g.nodes.set 1 ((g.node 1).propose [UInt8.ofNat k]).1 } : Gp).props 1 (k + 1) n = g
      rw [e, eg]; exact d
theorem props_add : ∀ (a b j : Nat) (g : Gp), g.props 1 j (a + b) = (g.props 1 j a).props 1 (j + a) b
  | 0, b, j, g => by simp [Gp.props]
  | a + 1, b, j, g => by
    rw [show a + 1 + b = (a + b) + 1 by omega]
    show ({ g with nodes := g.nodes.set 1 ((g.node 1).propose [UInt8.ofNat j]).1 } : Gp).props 1 (j + 1) (a + b) = (({ g with nodes := g.nodes.set 1 ((g.node 1).propose [UInt8.ofNat j]).1 } : Gp).props 1 (j + 1) a).props 1 (j + (a + 1)) b
    rw [props_add a b, show j + 1 + a = j + (a + 1) by omega]
theorem propsC_add : ∀ {a b j : Nat} {g : Gp}, PropsC g j a → PropsC (g.props 1 j a) (j + a) b → PropsC g j (a + b)
  | 0, b, j, g, _, h => by simpa [Gp.props] using h
  | a + 1, b, j, g, h1, h => by
    rw [show a + 1 + b = (a + b) + 1 by omega]
    refine ⟨h1.1, propsC_add h1.2 ?_⟩
    have : PropsC (({ g with nodes := g.nodes.set 1 ((g.node 1).propose [UInt8.ofNat j]).1 } : Gp).props 1 (j + 1) a) (j + (a + 1)) b := h
    rw [show j + 1 + a = j + (a + 1) by omega]
    exact this
theorem piles_of {n : Nat} {G20 : Gp} (e20 : (Gp.begin' 2).rounds 2 0 20 = G20) (r20 : RoundsC (Gp.begin' 2) 2 0 20) (hh : headB G20 = true) (hp : PropsC { G20 with flight := [] } 0 n)
    (hl : lastB (({ G20 with flight := [] } : Gp).props 1 0 n) = true) : ∃ G20 GP GT GE, PilesC n G20 GP GT GE := by
  generalize hP : ({ G20 with flight := [] } : Gp).props 1 0 n = GP at hl
  simp only [headB, Bool.and_eq_true, Nat.beq_eq, Bool.not_eq_true', decide_eq_true_eq, decide_eq_false_iff_not] at hh
  obtain ⟨⟨⟨⟨a1, a2⟩, a3⟩, a4⟩, a5⟩ := hh
  simp only [lastB, Bool.and_eq_true] at hl
  obtain ⟨⟨b1, b2⟩, b3⟩ := hl
  generalize hT : ({ GP.take 1 with flight := [] } : Gp) = GT at b3
  obtain ⟨c1, c2⟩ := roundsC_ok b3
  generalize hE : GT.rounds 2 0 15 = GE at c2
  simp only [Bool.and_eq_true, endB, Nat.ble_eq, decide_eq_true_eq, Bool.not_eq_true'] at c2
  obtain ⟨c3, ⟨⟨⟨d1, d2⟩, d3⟩, d4⟩, d5⟩ := c2
  obtain ⟨s1, s2⟩ := still_ok c3 25 15
  have f := fit_of d2
  have hE2 : GT.rounds 2 0 40 = GE := by
    have := rounds_add (kk := 2) 15 25 0 GT
    rw [hE] at this
    rw [show (40 : Nat) = 15 + 25 by decide, this]
    exact s2
  have r40 : RoundsC GT 2 0 40 := by
    have := roundsC_add (kk := 2) (a := 15) (b := 25) (r := 0) c1 (by rw [hE]; exact s1)
    exact this
  refine ⟨G20, GP, GT, GE, e20, hP, hT, hE2, r20, a1, a2, a3, a4, a5, hp, takeOkB_ok b1, fun x hx => ?_, r40, by omega, f.sane, f.roomy, f.next, d3, d4, d5⟩
  have := List.all_eq_true.1 b2 x hx
  simpa using this
theorem part {m n : Nat} (h : allB m n = true) {i : Nat} (h1 : m ≤ i) (h2 : i ≤ n) : (∃ G20 GP GT GE, PilesC i G20 GP GT GE) ∧ PropsC { (Gp.begin' 2).rounds 2 0 20 with flight := [] } 0 i ∧ lastB (({ (Gp.begin' 2).rounds 2 0 20 with flight := [] } : Gp).props 1 0 i) = true := by
  obtain ⟨a, b⟩ := roundsC_ok (k := fun g => headB g && chainB { g with flight := [] } 0 m n) h
  simp only [Bool.and_eq_true] at b
  obtain ⟨c, d⟩ := chain_ok b.2 i h2
  have d := d (by omega)
  exact ⟨piles_of rfl a b.1 c d, c, d⟩
theorem piles {n : Nat} (hn : n < 90) : ∃ G20 GP GT GE, PilesC n G20 GP GT GE := by
  by_cases h1 : n ≤ 30
  · exact (part run_0 (Nat.zero_le _) h1).1
  by_cases h2 : n ≤ 47
  · exact (part run_31 (by omega) h2).1
  by_cases h3 : n ≤ 57
  · exact (part run_48 (by omega) h3).1
  by_cases h4 : n ≤ 64
  · exact (part run_58 (by omega) h4).1
  obtain ⟨_, p1, p2⟩ := part run_58 (i := 64) (by decide) (Nat.le_refl _)
  obtain ⟨a, b⟩ := roundsC_ok (k := fun g => headB g && endsB { g with flight := [] } 0 64) run_fin
  simp only [Bool.and_eq_true] at b
  have s := ends_ok b.2
  obtain ⟨q, rfl⟩ : ∃ q, n = 64 + q := ⟨n - 64, by omega⟩
  obtain ⟨t1, t2⟩ := stop_ok s q 64 (Nat.le_refl _)
  have e := props_add 64 q 0 ({ (Gp.begin' 2).rounds 2 0 20 with flight := [] } : Gp)
  rw [Nat.zero_add, t2] at e
  refine piles_of rfl a b.1 (propsC_add p1 (by rw [Nat.zero_add]; exact t1)) ?_
  rw [e]; exact p2
end Go.Proofs.Ytfbffgcoopelfaa
