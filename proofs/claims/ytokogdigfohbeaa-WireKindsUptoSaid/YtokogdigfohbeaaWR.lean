/- The rows' opener of messages. -/
import Derived.Test.YtokogdigfohbeaaRB
import Derived.Test.YtokogdigfohbeaaW1
namespace Go.Proofs.Ytokogdigfohbeaa
open Go Go.Pk Go.ChangeShapes Go.WideShapes Go.ChangeAt Go.RowKit
abbrev EnS : TS := .cons (.int .i64) (.cons (.sl (.int .u8)) .nil)
abbrev RmS : TS := .cons (.int .i64) (.cons (.int .i64) (.cons (.int .i64) (.cons (.int .i64) (.cons (.int .i64) (.cons (.int .i64) (.cons (.int .i64) (.cons .bool (.cons (.sl (.st EnS)) (.cons (.sl (.int .u8)) .nil)))))))))
abbrev FqS : TS := .cons (.int .i64) (.cons (.int .i64) (.cons (.int .i64) (.cons (.int .i64) (.cons (.int .i64) .nil))))
abbrev FdS : TS := .cons (.int .i64) (.cons (.int .i64) (.cons (.int .i64) (.cons (.int .i64) (.cons .bool (.cons (.int .i64) (.cons (.int .i64) (.cons (.int .i64) (.cons (.int .i64) (.cons (.sl (.st DcS)) .nil)))))))))
abbrev CdS : TS := .cons (.int .i64) (.cons (.int .i64) (.cons (.int .i64) (.cons (.int .i64) (.cons (.int .i64) (.cons (.sl (.int .i64)) .nil)))))
abbrev AbS : TS := .cons (.int .u64) (.cons (.int .i64) (.cons (.int .i64) .nil))
abbrev MsS : TS := .cons (.int .i64) (.cons (.int .i64) (.cons (.int .i64) (.cons (.int .i64) (.cons (.int .i64) (.cons (.st RmS) (.cons (.st FqS) (.cons (.st FdS) (.cons (.st CdS) (.cons (.st DcS)
  (.cons (.int .i64) (.cons (.int .i64) (.cons (.int .i64) (.cons (.int .i64) (.cons (.int .u64) (.cons (.int .i64) (.cons .bool (.cons (.int .i64) (.cons (.int .i64) (.cons (.int .i64) (.cons (.sl (.int .i64)) (.cons (.sl (.st DcS)) (.cons (.sl (.st AbS)) (.cons (.int .i64) .nil)))))))))))))))))))))))
theorem list_open {α : Type} {e : TT} (c : α → List Value) (g : α → Nat) (Q : α → Prop) {W : World} (hone : ∀ y : TT.V e, TT.good W e y → ∃ a, c a = TT.cells e y ∧ g a ≤ TT.bulk e y ∧ Q a) :
    ∀ xs : List (TT.V e), (∀ y ∈ xs, TT.good W e y) → ∃ l : List α, l.flatMap c = xs.flatMap (TT.cells e) ∧ wsum g l ≤ sumOf (xs.map (TT.bulk e)) ∧ ∀ a ∈ l, Q a
  | [], _ => ⟨[], rfl, Nat.le_refl _, by simp⟩
  | y :: xs, h => by
    obtain ⟨a, h1, h2, h3⟩ := hone y (h y (by simp))
    obtain ⟨l, k1, k2, k3⟩ := list_open c g Q hone xs fun z hz => h z (by simp [hz])
    refine ⟨a :: l, by simp only [List.flatMap_cons, h1, k1], by simp only [wsum, List.map_cons, sumOf]; omega, fun b hb => ?_⟩
    rcases List.mem_cons.1 hb with rfl | hb
    · exact h3
    · exact k3 b hb
theorem en_open {W : World} (x : TS.V EnS) (g : TS.good W EnS x) : ∃ a : En17, a.cells = TS.cells EnS x ∧ a.d.length + 1 ≤ 1 + TS.bulk EnS x ∧ okI a.t ∧ ∀ l, Rd W (Old W :: l) a.s 1 (a.d.map vB) := by
  obtain ⟨t, ⟨s, ns⟩, ⟨⟩⟩ := x
  obtain ⟨g1, g2, _⟩ := g
  obtain ⟨b, hb, hl⟩ := good_bytes g2
  refine ⟨⟨t, s, b⟩, rfl, ?_, wf_i64 g1, fun l => Rd.old hb⟩
  have e : TS.bulk EnS (t, (s, ns), ()) = 1 + ((1 + sumOf (ns.map (TT.bulk (.int .u8)))) + 0) := rfl
  rw [e, bulk_flat]
  show b.length + 1 ≤ _
  omega
theorem ab_open {W : World} (x : TS.V AbS) (g : TS.good W AbS x) : ∃ a : Ab, a.cells = TS.cells AbS x ∧ a.num := by
  obtain ⟨p, f, l, ⟨⟩⟩ := x
  obtain ⟨g1, g2, g3, _⟩ := g
  have h1 := wf_u64 g1
  exact ⟨⟨p, f, l, h1.1⟩, rfl, h1, wf_i64 g2, wf_i64 g3⟩
theorem ds_open {W : World} {s : Sl} {xs : List (TT.V (.st DcS))} (g : TT.good W (.sl (.st DcS)) (s, xs)) : ∃ bl : List Dc, bl.length ≤ sumOf (xs.map (TT.bulk (.st DcS))) ∧ (∀ d ∈ bl, d.num) ∧ ∀ l, DsRd W (Old W :: l) s bl := by
  obtain ⟨g1, g2⟩ := g
  obtain ⟨bl, h1, h2, h3⟩ := list_open (e := .st DcS) Dc.cells (fun _ => 1) (fun d => d.num ∧ ∀ l, VRd W (Old W :: l) d) (W := W) (fun y hy => by
    obtain ⟨d, e1, e2, e3, _⟩ := dc_open (x := y) hy
    exact ⟨d, e1.symm, by show 1 ≤ 1 + _; omega, e2, e3⟩) xs g2
  rw [wsum_one] at h2
  refine ⟨bl, h2, fun d hd => (h3 d hd).1, fun l => ⟨?_, fun d hd => (h3 d hd).2 l⟩⟩
  have g1' : RdC W s 9 (xs.flatMap (TT.cells (.st DcS))) := g1
  rw [← h1] at g1'
  exact Rd.old g1'
theorem bulk_f {t : TT} {r : TS} {x : TS.V (.cons t r)} {N : Nat} (h : TS.bulk (.cons t r) x ≤ N) : TT.bulk t x.1 ≤ N ∧ TS.bulk r x.2 ≤ N := ⟨Nat.le_trans (Nat.le_add_right _ _) h, Nat.le_trans (Nat.le_add_left _ _) h⟩
theorem bulk_s {fs : TS} {x : TS.V fs} {N : Nat} (h : TT.bulk (.st fs) x ≤ N) : TS.bulk fs x ≤ N := Nat.le_trans (Nat.le_add_left _ _) h
theorem bulk_l {e : TT} {s : Sl} {xs : List (TT.V e)} {N : Nat} (h : TT.bulk (.sl e) (s, xs) ≤ N) : sumOf (xs.map (TT.bulk e)) ≤ N := Nat.le_trans (Nat.le_add_left _ _) h
theorem ms_arith {A1 A2 A3 A4 B1 sx mx sn fl bl al : Nat} (a1 : A1 ≤ 2 ^ 30) (a2 : A2 ≤ 2 ^ 30) (a3 : A3 ≤ 2 ^ 30) (a4 : A4 ≤ 2 ^ 30) (s0 : sx ≤ 2 ^ 30) (m0 : mx ≤ 2 ^ 30) (l2 : B1 ≤ A1) (n2 : sn = sx) (m1 : fl ≤ A2) (s1 : bl ≤ A3) (t2 : al ≤ A4) :
    1000 + 20 * (B1 + sn) + 2010 * fl + 10 * mx + 2010 * bl + 30 * al ≤ 2 ^ 44 := by omega
set_option maxHeartbeats 4000000 in
theorem ms_open {W : World} {x : TS.V MsS} (g : TS.good W MsS x) : ∃ m : Ms, TS.cells MsS x = m.cells ∧ m.num ∧ (∀ l, MRd W (Old W :: l) m) ∧ (TS.bulk MsS x ≤ 2 ^ 30 → m.w ≤ 2 ^ 44) := by
  obtain ⟨kind, frm, to, corr, er, ⟨r1, r2, r3, r4, r5, r6, r7, r8, ⟨es, ex⟩, ⟨ss, sx⟩, ⟨⟩⟩, ⟨q1, q2, q3, q4, q5, ⟨⟩⟩, ⟨f1, f2, f3, f4, f5, f6, f7, f8, f9, ⟨fs, fx⟩, ⟨⟩⟩, ⟨c1, c2, c3, c4, c5, ⟨cs, cx⟩, ⟨⟩⟩, bt,
    part, offset, tx, inc, pid, epoch, commit, group, gen, member, ⟨ms, mx⟩, ⟨bs, bx⟩, ⟨av, ax⟩, high, ⟨⟩⟩ := x
  obtain ⟨g1, g2, g3, g4, g5, ⟨a1, a2, a3, a4, a5, a6, a7, _, ⟨a9, a9'⟩, a10, _⟩, ⟨b1, b2, b3, b4, b5, _⟩, ⟨d1, d2, d3, d4, _, d6, d7, d8, d9, d10, _⟩, ⟨e1, e2, e3, e4, e5, e6, _⟩, gb,
    h1, h2, h3, h4, h5, h6, _, h8, h9, h10, h11, h12, ⟨h13, h13'⟩, h14, _⟩ := g
  obtain ⟨el, l1, l2, l3⟩ := list_open (e := .st EnS) En17.cells (fun y => y.d.length + 1) (fun a => okI a.t ∧ ∀ l, Rd W (Old W :: l) a.s 1 (a.d.map vB)) (W := W) (fun y hy => en_open y hy) ex a9'
  obtain ⟨snap, n1, n2⟩ := good_bytes a10
  obtain ⟨fl, m1, m2, m3⟩ := ds_open d10
  obtain ⟨k1, k2⟩ := good_ints e6
  obtain ⟨bd, o1, o2, o3, o4⟩ := dc_open gb
  clear o4
  obtain ⟨p1, p2⟩ := good_ints h11
  obtain ⟨bl, s1, s2, s3⟩ := ds_open h12
  obtain ⟨al, t1, t2, t3⟩ := list_open (e := .st AbS) Ab.cells (fun _ => 1) Ab.num (W := W) (fun y hy => by
    obtain ⟨a, z1, z2⟩ := ab_open y hy
    exact ⟨a, z1, by show 1 ≤ 1 + _; omega, z2⟩) ax h13'
  rw [wsum_one] at t2
  have w1 := wf_i64 g1; have w2 := wf_i64 g2; have w3 := wf_i64 g3; have w4 := wf_i64 g4; have w5 := wf_i64 g5
  have v1 := wf_i64 a1; have v2 := wf_i64 a2; have v3 := wf_i64 a3; have v4 := wf_i64 a4; have v5 := wf_i64 a5; have v6 := wf_i64 a6; have v7 := wf_i64 a7
  have u1 := wf_i64 b1; have u2 := wf_i64 b2; have u3 := wf_i64 b3; have u4 := wf_i64 b4; have u5 := wf_i64 b5
  have x1 := wf_i64 d1; have x2 := wf_i64 d2; have x3 := wf_i64 d3; have x4 := wf_i64 d4; have x6 := wf_i64 d6; have x7 := wf_i64 d7; have x8 := wf_i64 d8; have x9 := wf_i64 d9
  have y1 := wf_i64 e1; have y2 := wf_i64 e2; have y3 := wf_i64 e3; have y4 := wf_i64 e4; have y5 := wf_i64 e5
  have z1 := wf_i64 h1; have z2 := wf_i64 h2; have z3 := wf_i64 h3; have z4 := wf_i64 h4; have z5 := wf_u64 h5; have z6 := wf_i64 h6; have z8 := wf_i64 h8; have z9 := wf_i64 h9; have z10 := wf_i64 h10; have z14 := wf_i64 h14
  refine ⟨⟨kind, frm, to, corr, er, ⟨r1, r2, r3, r4, r5, r6, r7, r8, es, el, ss, snap⟩, ⟨q1, q2, q3, q4, q5⟩, ⟨f1, f2, f3, f4, f5, f6, f7, f8, f9, fs, fl⟩, ⟨c1, c2, c3, c4, c5, cs, cx⟩, bd,
    part, offset, tx, inc, pid, epoch, commit, group, gen, member, ms, mx, bs, bl, av, al, high⟩, ?_, ?_, ?_, ?_⟩
  · simp only [TS.cells, TT.cells] at o1 ⊢
    rw [o1]; rfl
  · refine ⟨?_, ⟨?_, fun y hy => (l3 y hy).1⟩, ?_, ⟨?_, m2⟩, ⟨y1, y2, y3, y4, y5, k2⟩, o2, ?_, z5, p2, s2, t3⟩
    · intro i hi
      simp only [Ms.hd, List.mem_cons, List.not_mem_nil, or_false] at hi
      rcases hi with rfl | rfl | rfl | rfl | rfl <;> assumption
    · intro i hi
      simp only [Rm.ns, List.mem_cons, List.not_mem_nil, or_false] at hi
      rcases hi with rfl | rfl | rfl | rfl | rfl | rfl | rfl <;> assumption
    · intro i hi
      simp only [Fq.ns, List.mem_cons, List.not_mem_nil, or_false] at hi
      rcases hi with rfl | rfl | rfl | rfl | rfl <;> assumption
    · intro i hi
      simp only [Fd.ns, List.mem_cons, List.not_mem_nil, or_false] at hi
      rcases hi with rfl | rfl | rfl | rfl | rfl | rfl | rfl | rfl <;> assumption
    · intro i hi
      simp only [Ms.ns, List.mem_cons, List.not_mem_nil, or_false] at hi
      rcases hi with rfl | rfl | rfl | rfl | rfl | rfl | rfl | rfl | rfl <;> assumption
  · intro l
    refine ⟨⟨?_, fun y hy => (l3 y hy).2 l, Rd.old n1⟩, m3 l, Rd.old k1, o3 l, Rd.old p1, s3 l, ?_⟩
    · have a9x : RdC W es 2 (ex.flatMap (TT.cells (.st EnS))) := a9
      rw [← l1] at a9x
      exact Rd.old a9x
    · have h13x : RdC W av 3 (ax.flatMap (TT.cells (.st AbS))) := h13
      rw [← t1] at h13x
      exact Rd.old h13x
  · intro hk
    show 1000 + 20 * (wsum (fun y : En17 => y.d.length + 1) el + snap.length) + 2010 * fl.length + 10 * mx.length + 2010 * bl.length + 30 * al.length ≤ 2 ^ 44
    have j5 := (bulk_f (bulk_f (bulk_f (bulk_f (bulk_f hk).2).2).2).2).2
    have jr := bulk_s (bulk_f j5).1
    have j7 := (bulk_f (bulk_f j5).2).2
    have jf := bulk_s (bulk_f j7).1
    have j10 := (bulk_f (bulk_f (bulk_f j7).2).2).2
    have jr8 := (bulk_f (bulk_f (bulk_f (bulk_f (bulk_f (bulk_f (bulk_f (bulk_f jr).2).2).2).2).2).2).2).2
    have jex := bulk_l (bulk_f jr8).1
    have jsx := bulk_l (bulk_f (bulk_f jr8).2).1
    have jf9 := (bulk_f (bulk_f (bulk_f (bulk_f (bulk_f (bulk_f (bulk_f (bulk_f (bulk_f jf).2).2).2).2).2).2).2).2).2
    have jfx := bulk_l (bulk_f jf9).1
    have j20 := (bulk_f (bulk_f (bulk_f (bulk_f (bulk_f (bulk_f (bulk_f (bulk_f (bulk_f (bulk_f j10).2).2).2).2).2).2).2).2).2).2
    have jmx := bulk_l (bulk_f j20).1
    have jbx := bulk_l (bulk_f (bulk_f j20).2).1
    have jax := bulk_l (bulk_f (bulk_f (bulk_f j20).2).2).1
    rw [bulk_flat] at jsx jmx
    exact ms_arith jex jfx jbx jax jsx jmx l2 n2 m1 s1 t2
end Go.Proofs.Ytokogdigfohbeaa
