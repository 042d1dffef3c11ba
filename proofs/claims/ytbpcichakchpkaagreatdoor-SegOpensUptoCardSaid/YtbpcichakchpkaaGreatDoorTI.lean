/- The rows' opener of lists of batches. -/
import Derived.Test.YtbpcichakchpkaaGreatDoorRL
import Derived.Test.YtbpcichakchpkaaGreatDoorTH
namespace Go.Proofs.YtbpcichakchpkaaGreatDoor
open Go Go.Pk Go.ChangeShapes Go.WideShapes Go.ChangeAt Go.RowKit
section
variable {H : Type} {enc : TypeId × Value → H} {P : Program} {w : World} {base : Nat} {spare : Nat → Bool} {held : Bool}
theorem open_string {r : Reach} {b0 : Nat} {t : TypeId} {v : Value} {d : DataW H} {ps : List MemPlace} (ht : P.underlying t = some .string) (hval : Value.okWide P w r b0 t v) (hd : DataW.Trod enc P w base spare held t v d ps) :
    ∃ s : ByteArray, v = .string s ∧ d = .lit (.string s.data.toList) ∧ ps = [] ∧ s.size ≤ maxLen := by
  obtain ⟨s, rfl⟩ := okWide_string ht hval
  obtain ⟨fuel, hf⟩ := hd
  obtain ⟨s', h, hx, hw⟩ := DataW.trod_string ht hf
  simp [Value.cells] at h
  subst h
  simp only [Prod.mk.injEq] at hx
  exact ⟨s, rfl, hx.1, hx.2, hw⟩
theorem shut_string {t : TypeId} {s : ByteArray} (ht : P.underlying t = some .string) (hw : s.size ≤ maxLen) : DataW.Trod enc P w base spare held t (.string s) (.lit (.string s.data.toList)) [] :=
  ⟨1, by simp [DataW.trod, Value.cells, ht, hw, Lit.wf]⟩
end
abbrev DcS : TS := .cons (.int .i64) (.cons (.int .i64) (.cons (.int .u64) (.cons (.int .i64) (.cons (.int .i64) (.cons .bool (.cons .bool (.cons .bool (.cons (.sl (.sl (.int .u8))) .nil))))))))
theorem sum_app (l l2 : List Nat) : sumOf (l ++ l2) = sumOf l + sumOf l2 := by
  induction l with
  | nil => simp [sumOf]
  | cons x l ih => simp only [List.cons_append, sumOf, ih]; omega
/-- lists of bytes -/
theorem lists_of {W : World} : ∀ (xs : List (Sl × List Int)), (∀ y ∈ xs, TT.good W (.sl (.int .u8)) y) →
    ∃ bs : List (List UInt8), bs.length = xs.length ∧ ∀ (i : Nat) (s : Sl) (b : List UInt8), (xs.map (·.1))[i]? = some s → bs[i]? = some b → RdC W s 1 (b.map vB) ∧ b.length ≤ sumOf (xs.map (TT.bulk (.sl (.int .u8))))
  | [], _ => ⟨[], rfl, by simp⟩
  | (s0, x0) :: xs, h => by
    obtain ⟨t, ht, hl⟩ := good_bytes (h (s0, x0) (by simp))
    obtain ⟨bs, h1, h2⟩ := lists_of xs fun y hy => h y (by simp [hy])
    refine ⟨t :: bs, by simp [h1], fun i s b hs hb => ?_⟩
    have hb0 : TT.bulk (.sl (.int .u8)) (s0, x0) = 1 + x0.length := by
      show 1 + sumOf (x0.map (TT.bulk (.int .u8))) = _
      rw [bulk_flat]
    cases i with
    | zero =>
      simp only [List.map_cons, List.getElem?_cons_zero, Option.some.injEq] at hs hb
      subst hs; subst hb
      refine ⟨ht, ?_⟩
      simp only [List.map_cons, sumOf, hb0]; omega
    | succ i =>
      obtain ⟨k1, k2⟩ := h2 i s b (by simpa using hs) (by simpa using hb)
      refine ⟨k1, ?_⟩
      simp only [List.map_cons, sumOf]; omega
theorem cells_heads : ∀ (xs : List (Sl × List Int)), xs.flatMap (TT.cells (.sl (.int .u8))) = (xs.map (·.1)).map Sl.v
  | [] => rfl
  | x :: xs => by simp only [List.flatMap_cons, cells_heads xs, List.map_cons]; rfl
theorem sum_len (xs : List (Sl × List Int)) : xs.length ≤ sumOf (xs.map (TT.bulk (.sl (.int .u8)))) := by
  induction xs with
  | nil => exact Nat.le_refl _
  | cons x xs ih =>
    have : 1 ≤ TT.bulk (.sl (.int .u8)) x := by show 1 ≤ 1 + _; omega
    simp only [List.map_cons, sumOf, List.length_cons]; omega
/-- a batch that came in -/
theorem dc_open {W : World} {x : TS.V DcS} (g : TS.good W DcS x) : ∃ d : Dc, TS.cells DcS x = d.cells ∧ (∀ l, VRd W (l ++ [Old W]) d) ∧ d.num ∧ d.bs.length + 1 ≤ TS.bulk DcS x ∧ ∀ b ∈ d.bs, b.length ≤ TS.bulk DcS x := by
  obtain ⟨ba, ep, pid, pe, sq, tx, ct, cm, ⟨vs, xs⟩, ⟨⟩⟩ := x
  obtain ⟨g1, g2, g3, g4, g5, _, _, _, ⟨g6, g7⟩, _⟩ := g
  obtain ⟨bs, hb1, hb2⟩ := lists_of xs g7
  have hs := sum_len xs
  have hk : TS.bulk DcS (ba, ep, pid, pe, sq, tx, ct, cm, (vs, xs), PUnit.unit) = 1 + (1 + (1 + (1 + (1 + (1 + (1 + (1 + ((1 + sumOf (xs.map (TT.bulk (.sl (.int .u8))))) + 0)))))))) := rfl
  have rdl : ∀ {s : Sl} {us : List Value}, RdC W s 1 us → ∀ l, Rd W (l ++ [Old W]) s 1 us := fun h l => by
    induction l with
    | nil => exact Rd.old h
    | cons R l ih => exact ih.cons
  refine ⟨⟨ba, ep, pid, pe, sq, tx, ct, cm, vs, xs.map (·.1), bs⟩, rfl, fun l => ⟨?_, by simp [hb1], fun i s b h1 h2 => rdl (hb2 i s b h1 h2).1 l⟩, ⟨wf_i64 g1, wf_i64 g2, wf_u64 g3, wf_i64 g4, wf_i64 g5⟩, ?_, ?_⟩
  · have g6' : RdC W vs 1 (xs.flatMap (TT.cells (.sl (.int .u8)))) := g6
    rw [cells_heads] at g6'
    exact rdl g6' l
  · show bs.length + 1 ≤ _
    rw [hk]; omega
  · intro b hb
    obtain ⟨i, hi⟩ := List.getElem?_of_mem hb
    have hlt : i < bs.length := (List.getElem?_eq_some_iff.1 hi).1
    have hx : i < (xs.map (·.1)).length := by rw [List.length_map]; exact hb1 ▸ hlt
    have := (hb2 i _ b (List.getElem?_eq_getElem hx) hi).2
    rw [hk]; omega
theorem dcs_open {W : World} : ∀ (xs : List (TT.V (.st DcS))), (∀ y ∈ xs, TT.good W (.st DcS) y) → ∃ bl : List Dc, elB.flat bl = xs.flatMap (TT.cells (.st DcS)) ∧ bl.length = xs.length ∧
    ∀ d ∈ bl, (∀ l, VRd W (l ++ [Old W]) d) ∧ d.num ∧ d.bs.length + 1 ≤ sumOf (xs.map (TT.bulk (.st DcS))) ∧ ∀ v ∈ d.bs, v.length + 1 ≤ sumOf (xs.map (TT.bulk (.st DcS)))
  | [], _ => ⟨[], rfl, rfl, by simp⟩
  | y :: xs, h => by
    obtain ⟨d, h1, h2, h3, h4, h5⟩ := dc_open (h y (by simp))
    obtain ⟨bl, k1, k2, k3⟩ := dcs_open xs fun z hz => h z (by simp [hz])
    have hb : TT.bulk (.st DcS) y = 1 + TS.bulk DcS y := rfl
    refine ⟨d :: bl, ?_, by simp [k2], ?_⟩
    · rw [List.flatMap_cons, ← k1]
      show elB.flat ([d] ++ bl) = _
      rw [flat_app, flat_one]
      show d.cells ++ _ = TS.cells DcS y ++ _
      rw [h1]
    · intro e he
      simp only [List.map_cons, sumOf, hb]
      rcases List.mem_cons.1 he with rfl | he
      · exact ⟨h2, h3, by omega, fun v hv => by have := h5 v hv; omega⟩
      · obtain ⟨q1, q2, q3, q4⟩ := k3 e he
        exact ⟨q1, q2, by omega, fun v hv => by have := q4 v hv; omega⟩
theorem dcs_len (xs : List (TT.V (.st DcS))) : xs.length ≤ sumOf (xs.map (TT.bulk (.st DcS))) := by
  induction xs with
  | nil => exact Nat.le_refl _
  | cons x xs ih =>
    have : 1 ≤ TT.bulk (.st DcS) x := by show 1 ≤ 1 + _; omega
    simp only [List.map_cons, sumOf, List.length_cons]; omega
/-- a list of batches that came in -/
theorem bs_open {W : World} {s : Sl} {xs : List (TT.V (.st DcS))} (g : TT.good W (.sl (.st DcS)) (s, xs)) (hb : sumOf (xs.map (TT.bulk (.st DcS))) ≤ 1048575) : ∃ bl : List Dc, BsRd W [Old W] s bl := by
  obtain ⟨g1, g2⟩ := g
  obtain ⟨bl, h1, h2, h3⟩ := dcs_open xs g2
  have hl := dcs_len xs
  refine ⟨bl, fun R => ?_, fun d hd => ?_, by omega⟩
  · have g1' : RdC W s 9 (xs.flatMap (TT.cells (.st DcS))) := g1
    rw [← h1] at g1'
    induction R with
    | nil => exact Rd.old g1'
    | cons R l ih => exact ih.cons
  · obtain ⟨q1, q2, q3, q4⟩ := h3 d hd
    exact ⟨q1, q2, by omega, fun v hv => by have := q4 v hv; omega⟩
end Go.Proofs.YtbpcichakchpkaaGreatDoor
