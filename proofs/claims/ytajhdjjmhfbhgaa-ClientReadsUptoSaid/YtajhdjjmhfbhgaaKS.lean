/- The rows' opener of a list of flags. -/
import Derived.Test.YtajhdjjmhfbhgaaKR
import Derived.Test.YtajhdjjmhfbhgaaKJ
namespace Go.Proofs.Ytajhdjjmhfbhgaa
open Go Go.Pk Go.ChangeShapes Go.WideShapes Go.ChangeAt Go.RowKit
theorem bo_flat : ∀ xs : List Bool, xs.flatMap (TT.cells .bool) = xs.map vBo
  | [] => rfl
  | x :: xs => by rw [List.flatMap_cons, bo_flat xs, List.map_cons]; rfl
theorem bo_sum : ∀ xs : List Bool, sumOf (xs.map (TT.bulk .bool)) = xs.length
  | [] => rfl
  | x :: xs => by
    rw [List.map_cons, List.length_cons, ← bo_sum xs]
    show 1 + _ = _
    omega
theorem bo_open {W : World} {s : Sl} {xs : List Bool} (g : TT.good W (.sl .bool) (s, xs)) : ∀ l, Rd W (Old W :: l) s 1 (xs.map vBo) := fun l => by
  have g1 : RdC W s 1 (xs.flatMap (TT.cells .bool)) := g.1
  rw [bo_flat] at g1
  exact Rd.old g1
end Go.Proofs.Ytajhdjjmhfbhgaa
