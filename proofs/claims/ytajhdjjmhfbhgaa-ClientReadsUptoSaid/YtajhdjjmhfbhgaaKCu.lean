/- The rows' opener of logs. -/
import Derived.Test.YtajhdjjmhfbhgaaKOp
import Derived.Test.YtajhdjjmhfbhgaaE5
namespace Go.Proofs.Ytajhdjjmhfbhgaa
open Go Go.Pk Go.ChangeShapes Go.WideShapes Go.ChangeAt Go.RowKit
theorem bt_open2 {W : World} {x : TS.V DcS} (g : TS.good W DcS x) : ∃ d : Bt, TS.cells DcS x = d.cells ∧ BtOk W d ∧ 0 ≤ d.pid := by
  obtain ⟨ba, ep, pid, pe, sq, tx, ct, cm, ⟨vs, xs⟩, ⟨⟩⟩ := x
  obtain ⟨g1, g2, g3, g4, g5, _, _, _, ⟨g6, g7⟩, _⟩ := g
  obtain ⟨bs, hb1, hb2⟩ := lists_of xs g7
  refine ⟨⟨ba, ep, pid, pe, sq, tx, ct, cm, vs, xs.map (·.1), bs⟩, rfl, ⟨fun l => ⟨?_, by simp [hb1], fun i s b h1 h2 => Rd.old (hb2 i s b h1 h2).1⟩⟩, ?_⟩
  · have g6' : RdC W vs 1 (xs.flatMap (TT.cells (.sl (.int .u8)))) := g6
    rw [cells_heads] at g6'
    exact Rd.old g6'
  · exact (wf_u64 g3).1
theorem bts_open2 {W : World} : ∀ (xs : List (TT.V (.st DcS))), (∀ y ∈ xs, TT.good W (.st DcS) y) → ∃ bl : List Bt, elB.flat bl = xs.flatMap (TT.cells (.st DcS)) ∧ ∀ d ∈ bl, BtOk W d ∧ 0 ≤ d.pid
  | [], _ => ⟨[], rfl, by simp⟩
  | y :: xs, h => by
    obtain ⟨d, h1, h2, h3⟩ := bt_open2 (h y (by simp))
    obtain ⟨bl, k1, k2⟩ := bts_open2 xs fun z hz => h z (by simp [hz])
    refine ⟨d :: bl, ?_, ?_⟩
    · rw [List.flatMap_cons, ← k1]
      show elB.flat ([d] ++ bl) = _
      rw [flat_app, flat_one]
      show d.cells ++ _ = TS.cells DcS y ++ _
      rw [h1]
    · intro e he
      rcases List.mem_cons.1 he with rfl | he
      · exact ⟨h2, h3⟩
      · exact k2 e he
theorem log_open {W : World} {s : Sl} {xs : List (TT.V (.st DcS))} (g : TT.good W (.sl (.st DcS)) (s, xs)) : ∃ bl : List Bt, (∀ m, Rd W (Old W :: m) s 9 (elB.flat bl)) ∧ ∀ d ∈ bl, (∀ m, VRd W (Old W :: m) d) ∧ 0 ≤ d.pid := by
  obtain ⟨g1, g2⟩ := g
  obtain ⟨bl, k1, k2⟩ := bts_open2 xs g2
  refine ⟨bl, fun m => ?_, fun d hd => ⟨fun m => (k2 d hd).1.rd m, (k2 d hd).2⟩⟩
  have g1' : RdC W s 9 (xs.flatMap (TT.cells (.st DcS))) := g1
  rw [← k1] at g1'
  exact Rd.old g1'
end Go.Proofs.Ytajhdjjmhfbhgaa
