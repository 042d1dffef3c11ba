/- Layer 19: the law ClientAsks. -/
import Derived.Test.YtajhdjjmhfbhgaaKVf
namespace Go.Proofs.Ytajhdjjmhfbhgaa
open Go Go.Pk
/-- an event of a script -/
structure Sc where
  k : Int
  fit : Bool
  cs : List Value
  m : Rp
  len : cs.length = 59
  one : ∀ u ∈ cs, u.oneCell' = true
def Sc.cells (x : Sc) : List Value := .int .i64 x.k :: .bool x.fit :: x.cs
def elX : El Sc := ⟨T_penstocklaw19_Op, 61, Sc.cells, fun _ => Pure True, fun x => by simp only [Sc.cells, List.length_cons, x.len], fun x u hu => by
  simp only [Sc.cells, List.mem_cons] at hu
  rcases hu with rfl | rfl | hu
  · rfl
  · rfl
  · exact x.one u hu⟩
theorem et_scs : ET P T_sl_penstocklaw19_Op T_penstocklaw19_Op 61 600 := ET.of (by kernel_rfl)
def scW (x : Sc) : Nat := vtot x.m.bl + 24
def scSum : List Sc → Nat
  | [] => 0
  | x :: xs => scW x + scSum xs
theorem scSum_snoc {xs : List Sc} {i : Nat} (hi : i < xs.length) : scSum (xs.take (i + 1)) = scSum (xs.take i) + scW xs[i] := by
  induction xs generalizing i with
  | nil => simp at hi
  | cons x xs ih =>
    cases i with
    | zero => simp [scSum]
    | succ i =>
      have := ih (i := i) (by simpa using hi)
      simp only [List.take_succ_cons, scSum, List.getElem_cons_succ] at this ⊢
      omega
theorem scSum_take : ∀ (xs : List Sc) (i : Nat), scSum (xs.take i) ≤ scSum xs
  | [], i => by simp
  | x :: xs, 0 => by simp [scSum]
  | x :: xs, i + 1 => by
    have := scSum_take xs i
    simp only [List.take_succ_cons, scSum]; omega
structure ScOk (W : World) (l : List Res) (x : Sc) : Prop where
  c : RpC x.cs x.m
  rd : RpRd W l x.m
  n : x.m.bl.length ≤ 1000000000 ∧ vtot x.m.bl ≤ 1000000000 ∧ x.m.al.length ≤ 1000000000
  v : ∀ d ∈ x.m.bl, ∀ v ∈ d.bs, v.length ≤ 140737488355328
section
variable {W w : World} {l : List Res} {K : Value → World → Prop} {cf : Cf} {k : Int} {x2 : Sl} {xs : List Sc}
theorem cf_four (h : cfBad cf = false) : cf.cl.length ≤ 4 := by
  unfold cfBad at h
  have := (Bool.or_eq_false_iff.1 h).1
  unfold topBad at this
  simp only [Bool.or_eq_false_iff, decide_eq_false_iff_not] at this
  omega
theorem law_asks (h : Sat W w l) (hr : CfRd W l cf) (hk : 0 ≤ k ∧ k < 256) (hx : Rd W l x2 61 (elX.flat xs)) (hxs : ∀ x ∈ xs, ScOk W l x) (hsum : scSum xs ≤ 1000000000000) (hlen : xs.length ≤ 1000000000000)
    (hK : ∀ w', Sat W w' l → K (.bool true) w') : CallP P F_law19_ClientAsks [.agg cf.cells.toArray, .int .u8 k, x2.v] w K := by
  apply c_law19_ClientAsks
  unfold S_law19_ClientAsks
  refine boxB h fun a w1 h1 => ?_
  have h1 : Sat W w1 (Blk a cf.cells T_api_Config :: l) := h1
  refine awake19_ok h1 fun w2 h2 => tyI (k := .bool) ?_
  simp only [Bool.not_true, ifB_false]
  refine ldAggB h2 (by kernel_rfl) ?_
  have hxl : x2.len = xs.length := RdC.elen (E := elX) (hx w h) (by decide)
  refine begin_ok h2 hr.cons hk (fun w3 h3 _ => tyI (k := .ptr) (x := none) ?_) fun p n b g w3 hb hn hp h3 => tyI (k := .ptr) (x := some ⟨g, 0, none⟩) ?_
  · exact hK w3 h3.tail
  · simp only [Option.isNone_some, ifB_false]
    have hc4 := cf_four hb
    have hl0 : 0 < cf.cl.length := by
      have := (List.getElem?_eq_some_iff.1 hp).1
      omega
    have hn4 : 0 ≤ n ∧ n < 4 := by
      have h1 : 0 ≤ n := by rw [hn]; exact Int.emod_nonneg _ (by omega)
      have h2 : n < cf.cl.length := by rw [hn]; exact Int.emod_lt_of_pos _ (by omega)
      omega
    have hf := fxOf_ok hb hp
    refine ⟨fun z w' => ∃ (i : Nat) (hs : Hs) (c : Cl), z.1 = i ∧ i ≤ xs.length ∧ Fit (fxOf cf n p) hs c ∧ Inv (fxOf cf n p) c.seen (scSum (xs.take i)) c ∧ Sat W w' (Blk g (hcells cf n b hs) T_penstocklaw19_hold :: ClM b c :: l), fun z _ => xs.length - z.1.toNat,
      ⟨0, hs0, newC cf n p, rfl, Nat.zero_le _, ⟨rfl, rfl, rfl, rfl⟩, newC_inv hf, h3.cut 2⟩, ?_⟩
    rintro ⟨i', u⟩ w4 ⟨i, hs, c, hi, hil, hq, q, h4⟩
    simp only at hi ⊢
    subst hi
    refine ifB_dec (fun hlt => ?_) fun hge => hK w4 h4.tail.tail
    have hi1 : i < xs.length := by omega
    have hrc := hx w4 h4.tail.tail
    refine ixEl (E := elX) et_scs rfl hrc (by omega) (x := xs[i]) (by rw [Int.toNat_natCast, List.getElem?_eq_getElem hi1]) (by omega) fun A hA => ?_
    refine ldAggC (cs := xs[i].cells) hA ?_ (by rw [show xs[i].cells.length = 61 from elX.len _]; kernel_rfl)
    refine newAgg (z := .int .i64 0 :: .bool false :: zAq.cells ⟨none, 0, 0⟩) h4 (elX.one xs[i]) (hl := by rw [elX.len xs[i]]; rfl) (ht := by rw [elX.len xs[i]]; kernel_rfl) fun m w5 h5 => ?_
    have h5 : Sat W w5 (Blk m xs[i].cells T_penstocklaw19_Op :: Blk g (hcells cf n b hs) T_penstocklaw19_hold :: ClM b c :: l) := h5
    refine ldAggB h5 (by rw [show xs[i].cells.length = 61 from elX.len _]; kernel_rfl) ?_
    obtain ⟨o1, o2, o3, o4⟩ := hxs xs[i] (List.getElem_mem hi1)
    have hs1 := scSum_snoc hi1
    have hs2 := scSum_take xs (i + 1)
    refine play_ok (N := scSum (xs.take i)) (h5.sel 3 [1, 2, 0]) hr.cons hp hn4 hf hq q o1 o2.cons o3 o4 (by unfold scW at hs1; omega) xs[i].one fun hs' c' w6 f6 q6 h6 => tyI (k := .bool) ?_
    simp only [Bool.not_true, ifB_false]
    rw [w_i64 (by omega) (by omega)]
    refine ⟨⟨i + 1, hs', c', rfl, by omega, f6, ?_, h6.cut 2⟩, by omega⟩
    rw [hs1]
    exact q6.mono (by unfold scW; omega)
end
end Go.Proofs.Ytajhdjjmhfbhgaa
