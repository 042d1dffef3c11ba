/- The rows' opener of answers and scripts. -/
import Derived.Test.YtajhdjjmhfbhgaaKVg
import Derived.Test.YtajhdjjmhfbhgaaKR
import Derived.Test.YtajhdjjmhfbhgaaKS
namespace Go.Proofs.Ytajhdjjmhfbhgaa
open Go Go.Pk Go.ChangeShapes Go.WideShapes Go.ChangeAt Go.RowKit
abbrev DcS : TS := .cons (.int .i64) (.cons (.int .i64) (.cons (.int .u64) (.cons (.int .i64) (.cons (.int .i64) (.cons .bool (.cons .bool (.cons .bool (.cons (.sl (.sl (.int .u8))) .nil))))))))
abbrev EnS : TS := .cons (.int .i64) (.cons (.sl (.int .u8)) .nil)
abbrev RmS : TS := .cons (.int .i64) (.cons (.int .i64) (.cons (.int .i64) (.cons (.int .i64) (.cons (.int .i64) (.cons (.int .i64) (.cons (.int .i64) (.cons .bool (.cons (.sl (.st EnS)) (.cons (.sl (.int .u8)) .nil)))))))))
abbrev FqS : TS := .cons (.int .i64) (.cons (.int .i64) (.cons (.int .i64) (.cons (.int .i64) (.cons (.int .i64) .nil))))
abbrev FdS : TS := .cons (.int .i64) (.cons (.int .i64) (.cons (.int .i64) (.cons (.int .i64) (.cons .bool (.cons (.int .i64) (.cons (.int .i64) (.cons (.int .i64) (.cons (.int .i64) (.cons (.sl (.st DcS)) .nil)))))))))
abbrev CdS : TS := .cons (.int .i64) (.cons (.int .i64) (.cons (.int .i64) (.cons (.int .i64) (.cons (.int .i64) (.cons (.sl (.int .i64)) .nil)))))
abbrev AbS : TS := .cons (.int .u64) (.cons (.int .i64) (.cons (.int .i64) .nil))
abbrev MsS : TS := .cons (.int .i64) (.cons (.int .i64) (.cons (.int .i64) (.cons (.int .i64) (.cons (.int .i64) (.cons (.st RmS) (.cons (.st FqS) (.cons (.st FdS) (.cons (.st CdS) (.cons (.st DcS)
  (.cons (.int .i64) (.cons (.int .i64) (.cons (.int .i64) (.cons (.int .i64) (.cons (.int .u64) (.cons (.int .i64) (.cons .bool (.cons (.int .i64) (.cons (.int .i64) (.cons (.int .i64) (.cons (.sl (.int .i64)) (.cons (.sl (.st DcS)) (.cons (.sl (.st AbS)) (.cons (.int .i64) .nil)))))))))))))))))))))))
abbrev SoS : TS := .cons (.int .i64) (.cons .bool (.cons (.st MsS) .nil))
theorem sum_app (l l2 : List Nat) : sumOf (l ++ l2) = sumOf l + sumOf l2 := by
  induction l with
  | nil => simp [sumOf]
  | cons x l ih => simp only [List.cons_append, sumOf, ih]; omega
/-- lists of bytes -/
theorem lists_of {W : World} : ∀ (xs : List (Sl × List Int)), (∀ y ∈ xs, TT.good W (.sl (.int .u8)) y) →
    ∃ bs : List (List UInt8), bs.length = xs.length ∧ ∀ (i : Nat) (s : Sl) (b : List UInt8), (xs.map (·.1))[i]? = some s → bs[i]? = some b → RdC W s 1 (b.map vB) ∧ b.length ≤ sumOf (xs.map (TT.bulk (.sl (.int .u8))))
  | [], _ => ⟨[], rfl, by simp⟩
  | (s0, x0) :: xs, h => by
    obtain ⟨t, ht, hl⟩ := good_bytes (h (s0, x0) (by simp))
    obtain ⟨bs, h1, h2⟩ := lists_of xs fun y hy => h y (by simp [hy])
    refine ⟨t :: bs, by simp [h1], fun i s b hs hb => ?_⟩
    have hb0 : TT.bulk (.sl (.int .u8)) (s0, x0) = 1 + x0.length := by
      show 1 + sumOf (x0.map (TT.bulk (.int .u8))) = _
      rw [bulk_flat]
    cases i with
    | zero =>
      simp only [List.map_cons, List.getElem?_cons_zero, Option.some.injEq] at hs hb
      subst hs; subst hb
      refine ⟨ht, ?_⟩
      simp only [List.map_cons, sumOf, hb0]; omega
    | succ i =>
      obtain ⟨k1, k2⟩ := h2 i s b (by simpa using hs) (by simpa using hb)
      refine ⟨k1, ?_⟩
      simp only [List.map_cons, sumOf]; omega
theorem cells_heads : ∀ (xs : List (Sl × List Int)), xs.flatMap (TT.cells (.sl (.int .u8))) = (xs.map (·.1)).map Sl.v
  | [] => rfl
  | x :: xs => by simp only [List.flatMap_cons, cells_heads xs, List.map_cons]; rfl
theorem sum_len (xs : List (Sl × List Int)) : xs.length ≤ sumOf (xs.map (TT.bulk (.sl (.int .u8)))) := by
  induction xs with
  | nil => exact Nat.le_refl _
  | cons x xs ih =>
    have : 1 ≤ TT.bulk (.sl (.int .u8)) x := by show 1 ≤ 1 + _; omega
    simp only [List.map_cons, sumOf, List.length_cons]; omega
/-- what a batch reads as -/
structure BtOk (W : World) (d : Bt) : Prop where
  rd : ∀ l, Rd W (Old W :: l) d.vs 1 (d.ss.map Sl.v) ∧ d.ss.length = d.bs.length ∧ ∀ (i : Nat) (s : Sl) (b : List UInt8), d.ss[i]? = some s → d.bs[i]? = some b → Rd W (Old W :: l) s 1 (b.map vB)
theorem bt_open {W : World} {x : TS.V DcS} (g : TS.good W DcS x) : ∃ d : Bt, TS.cells DcS x = d.cells ∧ BtOk W d ∧ d.bs.length + 1 ≤ 1 + TS.bulk DcS x ∧ ∀ b ∈ d.bs, b.length ≤ TS.bulk DcS x := by
  obtain ⟨ba, ep, pid, pe, sq, tx, ct, cm, ⟨vs, xs⟩, ⟨⟩⟩ := x
  obtain ⟨g1, g2, g3, g4, g5, _, _, _, ⟨g6, g7⟩, _⟩ := g
  obtain ⟨bs, hb1, hb2⟩ := lists_of xs g7
  have hs := sum_len xs
  have hk : TS.bulk DcS (ba, ep, pid, pe, sq, tx, ct, cm, (vs, xs), PUnit.unit) = 1 + (1 + (1 + (1 + (1 + (1 + (1 + (1 + ((1 + sumOf (xs.map (TT.bulk (.sl (.int .u8))))) + 0)))))))) := rfl
  refine ⟨⟨ba, ep, pid, pe, sq, tx, ct, cm, vs, xs.map (·.1), bs⟩, rfl, ⟨fun l => ⟨?_, by simp [hb1], fun i s b h1 h2 => Rd.old (hb2 i s b h1 h2).1⟩⟩, ?_, ?_⟩
  · have g6' : RdC W vs 1 (xs.flatMap (TT.cells (.sl (.int .u8)))) := g6
    rw [cells_heads] at g6'
    exact Rd.old g6'
  · show bs.length + 1 ≤ _
    rw [hk]; omega
  · intro b hb
    obtain ⟨i, hi⟩ := List.getElem?_of_mem hb
    have hlt : i < bs.length := (List.getElem?_eq_some_iff.1 hi).1
    have hx : i < (xs.map (·.1)).length := by rw [List.length_map]; exact hb1 ▸ hlt
    have := (hb2 i _ b (List.getElem?_eq_getElem hx) hi).2
    rw [hk]; omega
theorem bts_open {W : World} : ∀ (xs : List (TT.V (.st DcS))), (∀ y ∈ xs, TT.good W (.st DcS) y) → ∃ bl : List Bt, elB.flat bl = xs.flatMap (TT.cells (.st DcS)) ∧ (∀ d ∈ bl, BtOk W d) ∧ vtot bl + bl.length ≤ sumOf (xs.map (TT.bulk (.st DcS))) ∧ ∀ d ∈ bl, ∀ v ∈ d.bs, v.length ≤ sumOf (xs.map (TT.bulk (.st DcS)))
  | [], _ => ⟨[], rfl, by simp, Nat.le_refl _, by simp⟩
  | y :: xs, h => by
    obtain ⟨d, h1, h2, h3, h4⟩ := bt_open (h y (by simp))
    obtain ⟨bl, k1, k2, k3, k4⟩ := bts_open xs fun z hz => h z (by simp [hz])
    have hb : TT.bulk (.st DcS) y = 1 + TS.bulk DcS y := rfl
    refine ⟨d :: bl, ?_, ?_, ?_, ?_⟩
    · rw [List.flatMap_cons, ← k1]
      show elB.flat ([d] ++ bl) = _
      rw [flat_app, flat_one]
      show d.cells ++ _ = TS.cells DcS y ++ _
      rw [h1]
    · intro e he
      rcases List.mem_cons.1 he with rfl | he
      · exact h2
      · exact k2 e he
    · simp only [vtot, List.length_cons, List.map_cons, sumOf, hb]; omega
    · intro e he v hv
      simp only [List.map_cons, sumOf, hb]
      rcases List.mem_cons.1 he with rfl | he
      · have := h4 v hv; omega
      · have := k4 e he v hv; omega
theorem abs_open : ∀ (xs : List (TT.V (.st AbS))), ∃ al : List Ao, elA.flat al = xs.flatMap (TT.cells (.st AbS)) ∧ al.length ≤ sumOf (xs.map (TT.bulk (.st AbS)))
  | [] => ⟨[], rfl, Nat.le_refl _⟩
  | ⟨p, f, t, ⟨⟩⟩ :: xs => by
    obtain ⟨al, k1, k2⟩ := abs_open xs
    refine ⟨⟨p, f, t⟩ :: al, ?_, ?_⟩
    · rw [List.flatMap_cons, ← k1]
      show elA.flat ([⟨p, f, t⟩] ++ al) = _
      rw [flat_app, flat_one]; rfl
    · have : 1 ≤ TT.bulk (.st AbS) (p, f, t, PUnit.unit) := by show 1 ≤ 1 + _; omega
      simp only [List.length_cons, List.map_cons, sumOf]; omega
theorem bulk_f {t : TT} {r : TS} {x : TS.V (.cons t r)} {N : Nat} (h : TS.bulk (.cons t r) x ≤ N) : TT.bulk t x.1 ≤ N ∧ TS.bulk r x.2 ≤ N := ⟨Nat.le_trans (Nat.le_add_right _ _) h, Nat.le_trans (Nat.le_add_left _ _) h⟩
theorem bulk_s {fs : TS} {x : TS.V fs} {N : Nat} (h : TT.bulk (.st fs) x ≤ N) : TS.bulk fs x ≤ N := Nat.le_trans (Nat.le_add_left _ _) h
theorem bulk_l {e : TT} {s : Sl} {xs : List (TT.V e)} {N : Nat} (h : TT.bulk (.sl e) (s, xs) ≤ N) : sumOf (xs.map (TT.bulk e)) ≤ N := Nat.le_trans (Nat.le_add_left _ _) h
set_option maxHeartbeats 4000000 in
theorem rp_open {W : World} {x : TS.V MsS} (g : TS.good W MsS x) : ∃ m : Rp, RpC (TS.cells MsS x) m ∧ (∀ l, RpRd W (Old W :: l) m) ∧ m.bl.length ≤ TS.bulk MsS x ∧ vtot m.bl + 30 ≤ TS.bulk MsS x ∧ m.al.length ≤ TS.bulk MsS x ∧ ∀ d ∈ m.bl, ∀ v ∈ d.bs, v.length ≤ TS.bulk MsS x := by
  obtain ⟨kind, frm, to, corr, er, ⟨r1, r2, r3, r4, r5, r6, r7, r8, ⟨es, ex⟩, ⟨ss, sx⟩, ⟨⟩⟩, ⟨q1, q2, q3, q4, q5, ⟨⟩⟩, ⟨f1, f2, f3, f4, f5, f6, f7, f8, f9, ⟨fs, fx⟩, ⟨⟩⟩, ⟨c1, c2, c3, c4, c5, ⟨cs, cx⟩, ⟨⟩⟩, bt,
    part, offset, tx, inc, pid, epoch, commit, group, gen, member, ⟨ms, mx⟩, ⟨bs, bx⟩, ⟨av, ax⟩, high, ⟨⟩⟩ := x
  obtain ⟨_, _, _, _, _, _, _, _, _, _, _, _, _, _, _, _, _, _, _, _, h11, ⟨h12, h12'⟩, ⟨h13, h13'⟩, _, _⟩ := g
  obtain ⟨p1, p2⟩ := good_ints h11
  obtain ⟨bl, s1, s2, s3, s4⟩ := bts_open bx h12'
  obtain ⟨al, t1, t2⟩ := abs_open ax
  have hb : sumOf (bx.map (TT.bulk (.st DcS))) + sumOf (ax.map (TT.bulk (.st AbS))) + 30 ≤ TS.bulk MsS (kind, frm, to, corr, er, (r1, r2, r3, r4, r5, r6, r7, r8, (es, ex), (ss, sx), PUnit.unit), (q1, q2, q3, q4, q5, PUnit.unit), (f1, f2, f3, f4, f5, f6, f7, f8, f9, (fs, fx), PUnit.unit), (c1, c2, c3, c4, c5, (cs, cx), PUnit.unit), bt,
      part, offset, tx, inc, pid, epoch, commit, group, gen, member, (ms, mx), (bs, bx), (av, ax), high, PUnit.unit) := by
    simp only [TS.bulk, TT.bulk]
    omega
  refine ⟨⟨kind, corr, er, offset, inc, pid, epoch, commit, gen, ms, mx, bs, bl, av, al, high⟩, ⟨?_, rfl, rfl, rfl, rfl, rfl, rfl, rfl, rfl, rfl, rfl, rfl, rfl, rfl⟩, fun l => ⟨Rd.old p1, ?_, fun d hd => (s2 d hd).rd l, ?_⟩, ?_, ?_, ?_, ?_⟩
  · rw [TS.cells_len]; rfl
  · have h12x : RdC W bs 9 (bx.flatMap (TT.cells (.st DcS))) := h12
    rw [← s1] at h12x
    exact Rd.old h12x
  · have h13x : RdC W av 3 (ax.flatMap (TT.cells (.st AbS))) := h13
    rw [← t1] at h13x
    exact Rd.old h13x
  · show bl.length ≤ _; omega
  · show vtot bl + 30 ≤ _; omega
  · show al.length ≤ _; omega
  · intro d hd v hv
    have := s4 d hd v hv
    omega
mutual
theorem TT.cells_one : (t : TT) → (x : TT.V t) → ∀ u ∈ TT.cells t x, u.oneCell' = true
  | .int _, _, u, hu => by rw [List.mem_singleton.1 hu]; rfl
  | .bool, _, u, hu => by rw [List.mem_singleton.1 hu]; rfl
  | .str, _, u, hu => by rw [List.mem_singleton.1 hu]; rfl
  | .sl _, _, u, hu => by rw [List.mem_singleton.1 hu]; rfl
  | .st fs, x, u, hu => TS.cells_one fs x u hu
theorem TS.cells_one : (t : TS) → (x : TS.V t) → ∀ u ∈ TS.cells t x, u.oneCell' = true
  | .nil, _, u, hu => by cases hu
  | .cons t r, x, u, hu => by
    rcases List.mem_append.1 hu with h | h
    · exact TT.cells_one t x.1 u h
    · exact TS.cells_one r x.2 u h
end
theorem so_open {W : World} {x : TS.V SoS} (g : TS.good W SoS x) : ∃ a : Sc, a.cells = TS.cells SoS x ∧ (∀ l, ScOk W (Old W :: l) a → True) ∧ (TS.bulk SoS x ≤ 1048576 → ∀ l, ScOk W (Old W :: l) a) ∧ scW a ≤ TS.bulk SoS x := by
  obtain ⟨k, fit, y, ⟨⟩⟩ := x
  obtain ⟨_, _, g3, _⟩ := g
  have g3 : TS.good W MsS y := g3
  obtain ⟨m, h1, h2, h3, h4, h5, h6⟩ := rp_open g3
  have hb : TS.bulk SoS (k, fit, y, PUnit.unit) = 1 + (1 + ((1 + TS.bulk MsS y) + 0)) := rfl
  refine ⟨⟨k, fit, TS.cells MsS y, m, h1.len, TS.cells_one MsS y⟩, ?_, fun _ _ => trivial, fun hk l => ⟨h1, h2 l, ⟨?_, ?_, ?_⟩, ?_⟩, ?_⟩
  · show _ = (.int .i64 k :: (.bool fit :: (TS.cells MsS y ++ [])))
    rw [List.append_nil]; rfl
  · show m.bl.length ≤ _; omega
  · show vtot m.bl ≤ _; omega
  · show m.al.length ≤ _; omega
  · intro d hd v hv
    have := h6 d hd v hv
    omega
  · show vtot m.bl + 24 ≤ _; omega
theorem sos_open {W : World} : ∀ (xs : List (TT.V (.st SoS))), (∀ y ∈ xs, TT.good W (.st SoS) y) → sumOf (xs.map (TT.bulk (.st SoS))) ≤ 1048576 → ∃ l : List Sc, elX.flat l = xs.flatMap (TT.cells (.st SoS)) ∧ scSum l ≤ sumOf (xs.map (TT.bulk (.st SoS))) ∧ l.length = xs.length ∧ ∀ a ∈ l, ∀ l, ScOk W (Old W :: l) a
  | [], _, _ => ⟨[], rfl, Nat.le_refl _, rfl, by simp⟩
  | y :: xs, h, hb => by
    have hb0 : TT.bulk (.st SoS) y = 1 + TS.bulk SoS y := rfl
    simp only [List.map_cons, sumOf] at hb
    obtain ⟨a, h1, _, h2, h3⟩ := so_open (h y (by simp))
    obtain ⟨l, k1, k2, k3, k4⟩ := sos_open xs (fun z hz => h z (by simp [hz])) (by omega)
    refine ⟨a :: l, ?_, ?_, by simp [k3], ?_⟩
    · rw [List.flatMap_cons, ← k1]
      show elX.flat ([a] ++ l) = _
      rw [flat_app, flat_one]
      show a.cells ++ _ = TS.cells SoS y ++ _
      rw [h1]
    · simp only [scSum, List.map_cons, sumOf]; omega
    · intro b hb'
      rcases List.mem_cons.1 hb' with rfl | hb'
      · exact h2 (by omega)
      · exact k4 b hb'
theorem sos_len (xs : List (TT.V (.st SoS))) : xs.length ≤ sumOf (xs.map (TT.bulk (.st SoS))) := by
  induction xs with
  | nil => exact Nat.le_refl _
  | cons x xs ih =>
    have : 1 ≤ TT.bulk (.st SoS) x := by show 1 ≤ 1 + _; omega
    simp only [List.map_cons, sumOf, List.length_cons]; omega
theorem sc_open {W : World} {s : Sl} {xs : List (TT.V (.st SoS))} (g : TT.good W (.sl (.st SoS)) (s, xs)) (hb : sumOf (xs.map (TT.bulk (.st SoS))) ≤ 1048576) : ∃ l : List Sc, (∀ m, Rd W (Old W :: m) s 61 (elX.flat l)) ∧ scSum l ≤ 1048576 ∧ l.length ≤ 1048576 ∧ ∀ a ∈ l, ∀ l, ScOk W (Old W :: l) a := by
  obtain ⟨g1, g2⟩ := g
  obtain ⟨l, k1, k2, k3, k4⟩ := sos_open xs g2 hb
  have hl := sos_len xs
  refine ⟨l, fun m => ?_, by omega, by omega, k4⟩
  have g1' : RdC W s 61 (xs.flatMap (TT.cells (.st SoS))) := g1
  rw [← k1] at g1'
  exact Rd.old g1'
end Go.Proofs.Ytajhdjjmhfbhgaa
