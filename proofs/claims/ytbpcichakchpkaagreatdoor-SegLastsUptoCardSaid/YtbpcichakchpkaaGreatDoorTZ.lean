/- The rows' opener of the law's script. -/
import Derived.Test.YtbpcichakchpkaaGreatDoorTI
import Derived.Test.YtbpcichakchpkaaGreatDoorTY
namespace Go.Proofs.YtbpcichakchpkaaGreatDoor
open Go Go.Pk Go.ChangeShapes Go.WideShapes Go.ChangeAt Go.RowKit
abbrev OqS : TS := .cons (.int .i64) (.cons (.st DcS) (.cons (.int .i64) .nil))
theorem oqs_open {W : World} : ∀ (xs : List (TT.V (.st OqS))), (∀ y ∈ xs, TT.good W (.st OqS) y) → ∃ bl : List Oq, elQ.flat bl = xs.flatMap (TT.cells (.st OqS)) ∧ bl.length = xs.length ∧
    ∀ o ∈ bl, (∀ l, VRd W (l ++ [Old W]) o.d) ∧ o.d.num ∧ o.d.bs.length + 1 ≤ sumOf (xs.map (TT.bulk (.st OqS))) ∧ (∀ v ∈ o.d.bs, v.length + 1 ≤ sumOf (xs.map (TT.bulk (.st OqS)))) ∧ (-9223372036854775808 ≤ o.n ∧ o.n < 9223372036854775808)
  | [], _ => ⟨[], rfl, rfl, by simp⟩
  | y :: xs, h => by
    obtain ⟨k, x, n, ⟨⟩⟩ := y
    have hg := h (k, x, n, PUnit.unit) (by simp)
    obtain ⟨g1, g2, g3, _⟩ := hg
    have g2 : TS.good W DcS x := g2
    obtain ⟨d, h1, h2, h3, h4, h5⟩ := dc_open g2
    obtain ⟨bl, k1, k2, k3⟩ := oqs_open xs fun z hz => h z (by simp [hz])
    have hb : TT.bulk (.st OqS) (k, x, n, PUnit.unit) = 1 + (1 + ((1 + TS.bulk DcS x) + (1 + 0))) := rfl
    refine ⟨⟨k, d, n⟩ :: bl, ?_, by simp [k2], ?_⟩
    · rw [List.flatMap_cons, ← k1]
      show elQ.flat ([⟨k, d, n⟩] ++ bl) = _
      rw [flat_app, flat_one]
      show Oq.cells ⟨k, d, n⟩ ++ _ = (Value.int .i64 k :: (TS.cells DcS x ++ [Value.int .i64 n])) ++ _
      rw [h1]; rfl
    · intro o ho
      simp only [List.map_cons, sumOf, hb]
      rcases List.mem_cons.1 ho with rfl | ho
      · exact ⟨h2, h3, by show d.bs.length + 1 ≤ _; omega, fun v hv => by have := h5 v hv; omega, wf_i64 g3⟩
      · obtain ⟨q1, q2, q3, q4, q5⟩ := k3 o ho
        exact ⟨q1, q2, by omega, fun v hv => by have := q4 v hv; omega, q5⟩
theorem oqs_len (xs : List (TT.V (.st OqS))) : xs.length ≤ sumOf (xs.map (TT.bulk (.st OqS))) := by
  induction xs with
  | nil => exact Nat.le_refl _
  | cons x xs ih =>
    have : 1 ≤ TT.bulk (.st OqS) x := by show 1 ≤ 1 + _; omega
    simp only [List.map_cons, sumOf, List.length_cons]; omega
theorem ops_open {W : World} {s : Sl} {xs : List (TT.V (.st OqS))} (g : TT.good W (.sl (.st OqS)) (s, xs)) (hb : sumOf (xs.map (TT.bulk (.st OqS))) ≤ 1048575) : ∃ bl : List Oq, OpsRd W [Old W] s bl := by
  obtain ⟨g1, g2⟩ := g
  obtain ⟨bl, h1, h2, h3⟩ := oqs_open xs g2
  have hl := oqs_len xs
  refine ⟨bl, fun R => ?_, fun o ho => ?_, by omega⟩
  · have g1' : RdC W s 11 (xs.flatMap (TT.cells (.st OqS))) := g1
    rw [← h1] at g1'
    induction R with
    | nil => exact Rd.old g1'
    | cons R l ih => exact ih.cons
  · obtain ⟨q1, q2, q3, q4, q5⟩ := h3 o ho
    exact ⟨q1, q2, by omega, fun v hv => by have := q4 v hv; omega, q5⟩
end Go.Proofs.YtbpcichakchpkaaGreatDoor
