/- The rows' opener of lists of bytes. -/
import Derived.Test.YtfbffgcoopelfaaRT
namespace Go.Proofs.Ytfbffgcoopelfaa
open Go Go.Pk Go.ChangeShapes Go.WideShapes Go.ChangeAt Go.RowKit
theorem lists_of {W : World} : ∀ (xs : List (Sl × List Int)), (∀ y ∈ xs, TT.good W (.sl (.int .u8)) y) →
    ∃ bs : List (List UInt8), bs.length = xs.length ∧ ∀ (i : Nat) (s : Sl) (b : List UInt8), (xs.map (·.1))[i]? = some s → bs[i]? = some b → RdC W s 1 (b.map vB) ∧ b.length ≤ sumOf (xs.map (TT.bulk (.sl (.int .u8))))
  | [], _ => ⟨[], rfl, by simp⟩
  | (s0, x0) :: xs, h => by
    obtain ⟨t, ht, hl⟩ := good_bytes (h (s0, x0) (by simp))
    obtain ⟨bs, h1, h2⟩ := lists_of xs fun y hy => h y (by simp [hy])
    refine ⟨t :: bs, by simp [h1], fun i s b hs hb => ?_⟩
    have hb0 : TT.bulk (.sl (.int .u8)) (s0, x0) = 1 + x0.length := by
      show 1 + sumOf (x0.map (TT.bulk (.int .u8))) = _
      rw [bulk_flat]
    cases i with
    | zero =>
      simp only [List.map_cons, List.getElem?_cons_zero, Option.some.injEq] at hs hb
      subst hs; subst hb
      refine ⟨ht, ?_⟩
      simp only [List.map_cons, sumOf, hb0]; omega
    | succ i =>
      obtain ⟨k1, k2⟩ := h2 i s b (by simpa using hs) (by simpa using hb)
      refine ⟨k1, ?_⟩
      simp only [List.map_cons, sumOf]; omega
theorem cells_heads : ∀ (xs : List (Sl × List Int)), xs.flatMap (TT.cells (.sl (.int .u8))) = (xs.map (·.1)).map Sl.v
  | [] => rfl
  | x :: xs => by simp only [List.flatMap_cons, cells_heads xs, List.map_cons]; rfl
end Go.Proofs.Ytfbffgcoopelfaa
