/- The rows' openers of operations. -/
import Derived.Test.YtcfgbboibgjlcaaRA2
import Derived.Test.YtcfgbboibgjlcaaLE
namespace Go.Proofs.Ytcfgbboibgjlcaa
open Go Go.Pk Go.ChangeShapes Go.WideShapes Go.ChangeAt Go.RowKit
section
variable {H : Type} {enc : TypeId × Value → H} {W : World} {m : Nat} {cs : List Value} {x : DataW H × List MemPlace}
theorem cells_get {a : Addr} {n : Nat} {us : List Value} {base : Nat} (h : W.cells? base a n = some us) : us.length = n ∧ ∀ j u, us[j]? = some u → W.cell? (a.add j) = some u := by
  unfold World.cells? at h
  split at h
  · have key : ∀ (l : List Nat) (r : List Value), l.mapM (fun i => W.cell? (a.add i)) = some r → r.length = l.length ∧ ∀ (j i : Nat) (u : Value), l[j]? = some i → r[j]? = some u → W.cell? (a.add i) = some u := by
      intro l
      induction l with
      | nil => intro r hr; simp at hr; subst hr; simp
      | cons i l ih =>
        intro r hr
        rw [List.mapM_cons] at hr
        simp only [Option.bind_eq_bind, Option.bind_eq_some_iff, Option.pure_def, Option.some.injEq] at hr
        obtain ⟨u, hu, us, hus, rfl⟩ := hr
        obtain ⟨h1, h2⟩ := ih us hus
        refine ⟨by simp [h1], fun j i' u' hi hu' => ?_⟩
        cases j with
        | zero => simp at hi hu'; subst hi; subst hu'; exact hu
        | succ j => exact h2 j i' u' (by simpa using hi) (by simpa using hu')
    obtain ⟨h1, h2⟩ := key _ _ h
    simp at h1
    refine ⟨h1, fun j u hu => h2 j j u ?_ hu⟩
    have hj : j < us.length := by rcases Nat.lt_or_ge j us.length with h1 | h1; exact h1; rw [List.getElem?_eq_none h1] at hu; cases hu
    rw [List.getElem?_range (by omega)]
  · cases h
theorem rowC {P : Program} {tt te : TypeId} {k : IntKind} (ht : P.underlying tt = some (.slice te)) (he : P.underlying te = some (.int k)) (hc : P.cellsOf te = 1) (h : DataW.trod enc P W 0 (fun _ => true) true m tt cs = some x) :
    ∃ (s : Sl) (zs : List Int), cs = [s.v] ∧ (∀ n ∈ zs, (Lit.int k n).wf = true) ∧ RdC W s 1 (zs.map (Value.int k)) ∧ zs.length ≤ Rows.uptoBulk x.1 := by
  have hs : ∃ s : Sl, cs = [s.v] := by
    rcases open_ints ht he hc h with ⟨hcs, hd⟩ | ⟨x, l, c, zs, hcs, _⟩
    · exact ⟨⟨none, 0, 0⟩, hcs⟩
    · exact ⟨⟨some x, l, c⟩, hcs⟩
  obtain ⟨s, rfl⟩ := hs
  obtain ⟨d, ps⟩ := x
  obtain ⟨zs, h1, h2, h3⟩ := open_row (d := d) (ps := ps) ht he hc (a := s.a) (len := s.len) (cap := s.cap) ⟨m, h⟩
  refine ⟨s, zs, rfl, h1, h2, ?_⟩
  rcases h3 with ⟨_, h0⟩ | ⟨r, rfl⟩
  · subst h0; simp
  · simp only [Rows.uptoBulk, bulk_lits]; omega
theorem opC (h : DataW.trod enc Try.prog W 0 (fun _ => true) true m 42 cs = some x) : ∃ it : It, cs = it.cells ∧ it.ok W ∧ 1 + it.wt ≤ Rows.uptoBulk x.1 := by
  obtain ⟨xs, n, _, rfl, hl, hlen, hf⟩ := DataW.trod_struct Try.underlying42 h
  have hl6 : cs.length = 6 := by rw [hl]; kernel_rfl
  match cs, hl6 with
  | [c0, c1, c2, c3, c4, c5], _ =>
  match xs, hlen with
  | [y0, y1, y2, y3, y4, y5], _ =>
  have g3 : Try.prog.cellsOf 3 = 1 := by kernel_rfl
  have g22 : Try.prog.cellsOf 22 = 1 := by kernel_rfl
  have g4 : Try.prog.cellsOf 4 = 1 := by kernel_rfl
  have g27 : Try.prog.cellsOf 27 = 1 := by kernel_rfl
  have g40 : Try.prog.cellsOf 40 = 1 := by kernel_rfl
  have g5 : Try.prog.cellsOf 5 = 1 := by kernel_rfl
  have f0 := hf 0 _ rfl
  have f1 := hf 1 _ rfl
  have f2 := hf 2 _ rfl
  have f3 := hf 3 _ rfl
  have f4 := hf 4 _ rfl
  have f5 := hf 5 _ rfl
  simp only [g3, g22, g4, g27, g40, List.drop_zero, List.drop_succ_cons, List.take_succ_cons, List.take_zero, List.getElem?_cons_zero, List.getElem?_cons_succ] at f0 f1 f2 f3 f4 f5
  obtain ⟨n0, e0, _, _⟩ := DataW.trod_int Try.underlying3 f0
  obtain ⟨n1, e1, _, w1⟩ := DataW.trod_int Try.underlying22 f1
  obtain ⟨n2, e2, _, w2⟩ := DataW.trod_int Try.underlying3 f2
  obtain ⟨b3, e3, _⟩ := DataW.trod_bool Try.underlying4 f3
  obtain ⟨s4, z4, e4, w4, r4, k4⟩ := rowC Try.underlying27 Try.underlying5 g5 f4
  obtain ⟨s5, z5, e5, w5, r5, k5⟩ := rowC Try.underlying40 Try.underlying3 g3 f5
  obtain rfl : c0 = .int .i64 n0 := by simpa [g3] using e0
  obtain rfl : c1 = .int .u64 n1 := by simpa [g22] using e1
  obtain rfl : c2 = .int .i64 n2 := by simpa [g3] using e2
  obtain rfl : c3 = .bool b3 := by simpa [g4] using e3
  obtain rfl : c4 = s4.v := by simpa [g27] using e4
  obtain rfl : c5 = s5.v := by simpa [g40] using e5
  obtain ⟨bs, rfl⟩ := ints_bytes z4 w4
  rw [List.map_map] at r4
  have u1 := wf_u64 w1
  have u2 := wf_i64 w2
  refine ⟨⟨n0, n1, n2, b3, s4, s5, bs, z5⟩, rfl, ⟨u1.1, u1.2, u2.1, u2.2, fun i hi => wf_i64 (w5 i hi), r4, r5⟩, ?_⟩
  simp only [It.wt, List.map_cons, List.map_nil, Rows.uptoBulk, Rows.uptoBulkAll, List.length_map] at k4 ⊢
  omega
theorem opsC {a : Option Addr} {len cap : Nat} {d : DataW H} {ps : List MemPlace} (h : DataW.Trod enc Try.prog W 0 (fun _ => true) true 39 (.slice a len cap) d ps) :
    ∃ its : List It, (RdC W ⟨a, len, cap⟩ 6 (its.flatMap It.cells) ∧ ∀ x ∈ its, x.ok W) ∧ itW its ≤ Rows.uptoBulk d := by
  obtain ⟨fuel, hf⟩ := h
  have g42 : Try.prog.cellsOf 42 = 6 := by kernel_rfl
  rcases DataW.trod_slice Try.underlying39 hf with ⟨h0, hd⟩ | ⟨x, l, c, elems, rest, n, _, hcs, hx, _, hlc, hcm, hel, hat, _⟩
  · simp [Value.cells] at h0
    obtain ⟨rfl, rfl, rfl⟩ := h0
    exact ⟨[], ⟨⟨by simp, Nat.le_refl _, fun _ => rfl, fun a ha => (by cases ha)⟩, by simp⟩, by simp [itW]⟩
  · simp [Value.cells] at hcs
    obtain ⟨rfl, rfl, rfl⟩ := hcs
    simp only [Prod.mk.injEq] at hx
    rw [g42] at hat
    have key : ∀ (k : Nat) (es : List (DataW H × List MemPlace)) (i : Nat), es.length = k → (∀ j, j < k → (W.cells? 0 (x.add ((i + j) * 6)) 6).bind (DataW.trod enc Try.prog W 0 (fun _ => true) true n 42) = es[j]?) →
        ∃ its : List It, its.length = k ∧ (∀ j u, (its.flatMap It.cells)[j]? = some u → W.cell? (x.add (i * 6 + j)) = some u) ∧ (∀ y ∈ its, y.ok W) ∧ itW its ≤ Rows.uptoBulkAll (es.map (·.1)) := by
      intro k
      induction k with
      | zero => intro es i hes _; exact ⟨[], rfl, by simp, by simp, by simp [itW]⟩
      | succ k ih =>
        intro es i hes hj
        match es, hes with
        | e0 :: es, hes =>
        have h0 := hj 0 (by omega)
        simp only [Nat.add_zero, List.getElem?_cons_zero, Option.bind_eq_some_iff] at h0
        obtain ⟨us, hus, h0⟩ := h0
        obtain ⟨it, rfl, hok, hwt⟩ := opC h0
        obtain ⟨_, hget⟩ := cells_get hus
        obtain ⟨its, hl, hc, ho, hw⟩ := ih es (i + 1) (by simpa using hes) fun j hj' => by
          have := hj (j + 1) (by omega)
          simpa [show i + 1 + j = i + (j + 1) by omega] using this
        refine ⟨it :: its, by simp [hl], fun j u hu => ?_, fun y hy => ?_, ?_⟩
        · simp only [List.flatMap_cons] at hu
          have h6 : it.cells.length = 6 := rfl
          rcases Nat.lt_or_ge j 6 with hlt | hge
          · rw [List.getElem?_append_left (by omega)] at hu
            have := hget j u hu
            rw [Addr_add2] at this; exact this
          · rw [List.getElem?_append_right (by omega), h6] at hu
            have := hc (j - 6) u hu
            rwa [show (i + 1) * 6 + (j - 6) = i * 6 + j by omega] at this
        · rcases List.mem_cons.1 hy with rfl | hy
          · exact hok
          · exact ho y hy
        · simp only [itW, List.map_cons, Rows.uptoBulkAll]; omega
    obtain ⟨its, hl, hc, ho, hw⟩ := key len elems 0 hel fun j hj => by simpa using hat j hj
    refine ⟨its, ⟨⟨by rw [ops_len, hl], hlc, (fun h => (by cases h)), fun a ha j u hu => ?_⟩, ho⟩, ?_⟩
    · cases ha
      simpa using hc j u hu
    · rw [hx.1]
      simp only [Rows.uptoBulk]; omega
theorem rd_app {l : List Res} {s : Sl} {sz : Nat} {us : List Value} : ∀ (l' : List Res), Rd W l s sz us → Rd W (l' ++ l) s sz us
  | [], h => h
  | _ :: l', h => Rd.cons (rd_app l' h)
theorem opV {base : Nat} {v : Value} {d : DataW H} {ps : List MemPlace} (hv : Value.okWide Try.prog W .any base 42 v) (h : DataW.Trod enc Try.prog W 0 (fun _ => true) true 42 v d ps) :
    ∃ it : It, v = .agg it.cells.toArray ∧ it.ok W ∧ 1 + it.wt ≤ Rows.uptoBulk d := by
  simp only [Value.okWide, Try.underlying42] at hv
  obtain ⟨us, rfl, _⟩ := hv
  obtain ⟨fuel, hf⟩ := h
  obtain ⟨it, hc, hok, hw⟩ := opC hf
  refine ⟨it, ?_, hok, hw⟩
  have : us.toList = it.cells := by simpa [Value.cells] using hc
  rw [← this]
end
end Go.Proofs.Ytcfgbboibgjlcaa
