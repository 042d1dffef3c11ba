/- The rows' opener of what a node keeps. -/
import Derived.Test.YtfbffgcoopelfaaRT
import Derived.Test.YtfbffgcoopelfaaRfB
namespace Go.Proofs.Ytfbffgcoopelfaa
open Go Go.Pk Go.ChangeShapes Go.WideShapes Go.ChangeAt Go.RowKit
abbrev EnT : TT := .st (.cons (.int .i64) (.cons (.sl (.int .u8)) .nil))
abbrev HdS : TS := .cons (.int .i64) (.cons (.int .i64) (.cons (.int .i64) (.cons (.int .i64) (.cons (.sl (.int .u8)) (.cons (.sl EnT) .nil)))))
theorem bulk_bytes (s : Sl) (x : List Int) : TT.bulk (.sl (.int .u8)) (s, x) = 1 + x.length := by
  show 1 + sumOf (x.map (TT.bulk (.int .u8))) = _
  rw [bulk_flat]
theorem ents_of {W : World} : ∀ (xs : List (TT.V EnT)), (∀ y ∈ xs, TT.good W EnT y) →
    ∃ es : List EnC, es.length = xs.length ∧ es.flatMap EnC.cells = xs.flatMap (TT.cells EnT) ∧ (∀ e ∈ es, RdC W e.s 1 (e.d.map vB) ∧ e.d.length ≤ sumOf (xs.map (TT.bulk EnT))) ∧ xs.length ≤ sumOf (xs.map (TT.bulk EnT))
  | [], _ => ⟨[], rfl, rfl, by simp, by simp⟩
  | (n0, (s0, x0), u0) :: xs, h => by
    have g0 := h (n0, (s0, x0), u0) (by simp)
    obtain ⟨t, ht, hl⟩ := good_bytes g0.2.1
    obtain ⟨es, h1, h2, h3, h4⟩ := ents_of xs fun y hy => h y (by simp [hy])
    have hb0 : TT.bulk EnT (n0, (s0, x0), u0) = 1 + (1 + ((1 + x0.length) + 0)) := by
      show 1 + (1 + (TT.bulk (.sl (.int .u8)) (s0, x0) + 0)) = _
      rw [bulk_bytes]
    refine ⟨⟨n0, s0, t⟩ :: es, by simp [h1], ?_, fun e he => ?_, ?_⟩
    · simp only [List.flatMap_cons, h2]; rfl
    · rcases List.mem_cons.1 he with rfl | he
      · refine ⟨ht, ?_⟩
        simp only [List.map_cons, sumOf, hb0]; omega
      · obtain ⟨k1, k2⟩ := h3 e he
        refine ⟨k1, ?_⟩
        simp only [List.map_cons, sumOf]; omega
    · simp only [List.map_cons, sumOf, hb0, List.length_cons]; omega
theorem hd_open {W : World} {x : TS.V HdS} (g : TS.good W HdS x) : ∃ c : HdC, TS.cells HdS x = c.cells ∧ (∀ l, HdRd W (Old W :: l) c) ∧ (TS.bulk HdS x ≤ 2 ^ 30 → Hd.Sm c.h) := by
  obtain ⟨t, v, b, bt, ⟨ss, sx⟩, ⟨ls, lx⟩, ⟨⟩⟩ := x
  obtain ⟨g1, g2, g3, g4, g5, ⟨g6, g7⟩, _⟩ := g
  obtain ⟨sb, hb1, hb2⟩ := good_bytes g5
  obtain ⟨es, e1, e2, e3, e4⟩ := ents_of lx g7
  refine ⟨⟨⟨t, v, b, bt, sb, es.map EnC.dat⟩, ss, ls⟩, rfl, fun l => ⟨Rd.old hb1, es, rfl, ?_, fun e he => Rd.old (e3 e he).1⟩, fun hk => ?_⟩
  · refine Rd.old ?_
    have g6' : RdC W ls 2 (lx.flatMap (TT.cells EnT)) := g6
    rw [← e2] at g6'
    exact g6'
  · have hk' : 1 + (1 + (1 + (1 + (TT.bulk (.sl (.int .u8)) (ss, sx) + ((1 + sumOf (lx.map (TT.bulk EnT))) + 0))))) ≤ 2 ^ 30 := hk
    rw [bulk_bytes] at hk'
    refine ⟨by show sb.length ≤ _; omega, by show (es.map EnC.dat).length < _; rw [List.length_map]; omega, fun e he => ?_⟩
    obtain ⟨e', he', rfl⟩ := List.mem_map.1 he
    have := (e3 e' he').2
    show e'.d.length ≤ _
    omega
end Go.Proofs.Ytfbffgcoopelfaa
