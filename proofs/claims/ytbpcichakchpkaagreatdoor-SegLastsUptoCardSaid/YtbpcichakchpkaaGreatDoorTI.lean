/- The rows' opener of lists of batches. -/
import Derived.Test.YtbpcichakchpkaaGreatDoorRL
import Derived.Test.YtbpcichakchpkaaGreatDoorE11
namespace Go.Proofs.YtbpcichakchpkaaGreatDoor
open Go Go.Pk Go.ChangeShapes Go.WideShapes Go.ChangeAt Go.RowKit
section
variable {H : Type} {enc : TypeId × Value → H} {P : Program} {w : World} {base : Nat} {spare : Nat → Bool} {held : Bool}
end
abbrev DcS : TS := .cons (.int .i64) (.cons (.int .i64) (.cons (.int .u64) (.cons (.int .i64) (.cons (.int .i64) (.cons .bool (.cons .bool (.cons .bool (.cons (.sl (.sl (.int .u8))) .nil))))))))
/-- lists of bytes -/
theorem lists_of {W : World} : ∀ (xs : List (Sl × List Int)), (∀ y ∈ xs, TT.good W (.sl (.int .u8)) y) →
    ∃ bs : List (List UInt8), bs.length = xs.length ∧ ∀ (i : Nat) (s : Sl) (b : List UInt8), (xs.map (·.1))[i]? = some s → bs[i]? = some b → RdC W s 1 (b.map vB) ∧ b.length ≤ sumOf (xs.map (TT.bulk (.sl (.int .u8))))
  | [], _ => ⟨[], rfl, by simp⟩
  | (s0, x0) :: xs, h => by
    obtain ⟨t, ht, hl⟩ := good_bytes (h (s0, x0) (by simp))
    obtain ⟨bs, h1, h2⟩ := lists_of xs fun y hy => h y (by simp [hy])
    refine ⟨t :: bs, by simp [h1], fun i s b hs hb => ?_⟩
    have hb0 : TT.bulk (.sl (.int .u8)) (s0, x0) = 1 + x0.length := by
      show 1 + sumOf (x0.map (TT.bulk (.int .u8))) = _
      rw [bulk_flat]
    cases i with
    | zero =>
      simp only [List.map_cons, List.getElem?_cons_zero, Option.some.injEq] at hs hb
      subst hs; subst hb
      refine ⟨ht, ?_⟩
      simp only [List.map_cons, sumOf, hb0]; omega
    | succ i =>
      obtain ⟨k1, k2⟩ := h2 i s b (by simpa using hs) (by simpa using hb)
      refine ⟨k1, ?_⟩
      simp only [List.map_cons, sumOf]; omega
theorem cells_heads : ∀ (xs : List (Sl × List Int)), xs.flatMap (TT.cells (.sl (.int .u8))) = (xs.map (·.1)).map Sl.v
  | [] => rfl
  | x :: xs => by simp only [List.flatMap_cons, cells_heads xs, List.map_cons]; rfl
theorem sum_len (xs : List (Sl × List Int)) : xs.length ≤ sumOf (xs.map (TT.bulk (.sl (.int .u8)))) := by
  induction xs with
  | nil => exact Nat.le_refl _
  | cons x xs ih =>
    have : 1 ≤ TT.bulk (.sl (.int .u8)) x := by show 1 ≤ 1 + _; omega
    simp only [List.map_cons, sumOf, List.length_cons]; omega
/-- a batch that came in -/
theorem dc_open {W : World} {x : TS.V DcS} (g : TS.good W DcS x) : ∃ d : Dc, TS.cells DcS x = d.cells ∧ (∀ l, VRd W (l ++ [Old W]) d) ∧ d.num ∧ d.bs.length + 1 ≤ TS.bulk DcS x ∧ ∀ b ∈ d.bs, b.length ≤ TS.bulk DcS x := by
  obtain ⟨ba, ep, pid, pe, sq, tx, ct, cm, ⟨vs, xs⟩, ⟨⟩⟩ := x
  obtain ⟨g1, g2, g3, g4, g5, _, _, _, ⟨g6, g7⟩, _⟩ := g
  obtain ⟨bs, hb1, hb2⟩ := lists_of xs g7
  have hs := sum_len xs
  have hk : TS.bulk DcS (ba, ep, pid, pe, sq, tx, ct, cm, (vs, xs), PUnit.unit) = 1 + (1 + (1 + (1 + (1 + (1 + (1 + (1 + ((1 + sumOf (xs.map (TT.bulk (.sl (.int .u8))))) + 0)))))))) := rfl
  have rdl : ∀ {s : Sl} {us : List Value}, RdC W s 1 us → ∀ l, Rd W (l ++ [Old W]) s 1 us := fun h l => by
    induction l with
    | nil => exact Rd.old h
    | cons R l ih => exact ih.cons
  refine ⟨⟨ba, ep, pid, pe, sq, tx, ct, cm, vs, xs.map (·.1), bs⟩, rfl, fun l => ⟨?_, by simp [hb1], fun i s b h1 h2 => rdl (hb2 i s b h1 h2).1 l⟩, ⟨wf_i64 g1, wf_i64 g2, wf_u64 g3, wf_i64 g4, wf_i64 g5⟩, ?_, ?_⟩
  · have g6' : RdC W vs 1 (xs.flatMap (TT.cells (.sl (.int .u8)))) := g6
    rw [cells_heads] at g6'
    exact rdl g6' l
  · show bs.length + 1 ≤ _
    rw [hk]; omega
  · intro b hb
    obtain ⟨i, hi⟩ := List.getElem?_of_mem hb
    have hlt : i < bs.length := (List.getElem?_eq_some_iff.1 hi).1
    have hx : i < (xs.map (·.1)).length := by rw [List.length_map]; exact hb1 ▸ hlt
    have := (hb2 i _ b (List.getElem?_eq_getElem hx) hi).2
    rw [hk]; omega
end Go.Proofs.YtbpcichakchpkaaGreatDoor
