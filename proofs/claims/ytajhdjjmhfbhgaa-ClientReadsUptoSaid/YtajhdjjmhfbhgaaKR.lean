/- The rows' opener of settings. -/
import Derived.Test.YtajhdjjmhfbhgaaRO
import Derived.Test.YtajhdjjmhfbhgaaKI
namespace Go.Proofs.Ytajhdjjmhfbhgaa
open Go Go.Pk Go.ChangeShapes Go.WideShapes Go.ChangeAt Go.RowKit
abbrev OcS : TS := .cons (.int .i64) (.cons (.int .i64) (.cons (.int .i64) (.cons (.int .i64) (.cons .str .nil))))
abbrev PrS : TS := .cons (.int .i64) (.cons (.sl (.st OcS)) .nil)
abbrev CfS : TS := .cons (.int .i64) (.cons (.int .i64) (.cons (.int .i64) (.cons (.sl (.st PrS)) .nil)))
def ocOf (x : TS.V OcS) : Oc := ⟨x.1, x.2.1, x.2.2.1, x.2.2.2.1, x.2.2.2.2.1⟩
def prOf (x : TS.V PrS) : Pr := ⟨x.1, x.2.1.1, x.2.1.2.map ocOf⟩
def cfOf (x : TS.V CfS) : Cf := ⟨x.1, x.2.1, x.2.2.1, x.2.2.2.1.1, x.2.2.2.1.2.map prOf⟩
theorem oc_flat : ∀ xs : List (TS.V OcS), xs.flatMap (TT.cells (.st OcS)) = elO.flat (xs.map ocOf)
  | [] => rfl
  | x :: xs => by
    rw [List.flatMap_cons, oc_flat xs, List.map_cons]
    rfl
theorem pr_flat : ∀ xs : List (TS.V PrS), xs.flatMap (TT.cells (.st PrS)) = elP.flat (xs.map prOf)
  | [] => rfl
  | x :: xs => by
    rw [List.flatMap_cons, pr_flat xs, List.map_cons]
    rfl
theorem cf_open {W : World} {x : TS.V CfS} (g : TS.good W CfS x) : ∃ c : Cf, TS.cells CfS x = c.cells ∧ ∀ l, CfRd W (Old W :: l) c := by
  obtain ⟨_, _, _, ⟨g1, g2⟩, _⟩ := g
  refine ⟨cfOf x, rfl, fun l => ⟨?_, fun p hp => ?_⟩⟩
  · have g1' : RdC W x.2.2.2.1.1 2 (x.2.2.2.1.2.flatMap (TT.cells (.st PrS))) := g1
    rw [pr_flat] at g1'
    exact Rd.old g1'
  · obtain ⟨y, hy, rfl⟩ := List.mem_map.1 hp
    obtain ⟨_, ⟨k1, _⟩, _⟩ := g2 y hy
    have k1' : RdC W y.2.1.1 5 (y.2.1.2.flatMap (TT.cells (.st OcS))) := k1
    rw [oc_flat] at k1'
    exact Rd.old k1'
end Go.Proofs.Ytajhdjjmhfbhgaa
