/- The rows' opener of strings. -/
import Derived.Test.YtajhdjjmhfbhgaaRO
import Derived.Test.YtajhdjjmhfbhgaaKVp
namespace Go.Proofs.Ytajhdjjmhfbhgaa
open Go Go.Pk Go.ChangeShapes Go.WideShapes Go.ChangeAt Go.RowKit
theorem st_flat : ∀ xs : List ByteArray, xs.flatMap (TT.cells .str) = xs.map vT
  | [] => rfl
  | x :: xs => by rw [List.flatMap_cons, st_flat xs, List.map_cons]; rfl
theorem st_open {W : World} {s : Sl} {xs : List ByteArray} (g : TT.good W (.sl .str) (s, xs)) : ∀ l, Rd W (Old W :: l) s 1 (xs.map vT) := fun l => by
  have g1 : RdC W s 1 (xs.flatMap (TT.cells .str)) := g.1
  rw [st_flat] at g1
  exact Rd.old g1
end Go.Proofs.Ytajhdjjmhfbhgaa
