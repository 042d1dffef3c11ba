/- Worlds by parts: slices; the rules of loading, storing, making, appending. -/
import Derived.Test.YtfbffgcoopelfaaPkS1
namespace Go.Pk
open Go

/-- what a slice reads as in a world: its cells, 'sz' an element -/
def RdC (w : World) (s : Sl) (sz : Nat) (xs : List Value) : Prop :=
  xs.length = s.len * sz ∧ s.len ≤ s.cap ∧ (s.a = none → s.cap = 0) ∧ ∀ a, s.a = some a → ∀ j u, xs[j]? = some u → w.cell? (a.add j) = some u
/-- a slice of one's own: its block, from the offset on -/
def SlR (T : TypeId) (sz : Nat) (s : Sl) (xs : List Value) : Res := fun h =>
  (s.a = none ∧ s.len = 0 ∧ s.cap = 0 ∧ xs = []) ∨
  ∃ g o cur, s.a = some ⟨g, o, none⟩ ∧ Blk g cur T h ∧ s.len ≤ s.cap ∧ s.cap < 2 ^ 63 ∧ o + s.cap * sz ≤ cur.length ∧ xs = (cur.drop o).take (s.len * sz) ∧ ∀ u ∈ cur, u.oneCell' = true

theorem add_add (g o i : Nat) : (⟨g, o, none⟩ : Addr).add i = ⟨g, o + i, none⟩ := by
  unfold Addr.add
  split
  · rename_i h; subst h; rfl
  · rfl
section
variable {W w : World} {l : List Res} {P : Program}

theorem Sat.slr {T : TypeId} {sz : Nat} {s : Sl} {xs : List Value} (h : Sat W w (SlR T sz s xs :: l)) :
    (s.a = none ∧ s.len = 0 ∧ s.cap = 0 ∧ xs = []) ∨ ∃ g o cur, s.a = some ⟨g, o, none⟩ ∧ Sat W w (Blk g cur T :: l) ∧ s.len ≤ s.cap ∧ s.cap < 2 ^ 63 ∧ o + s.cap * sz ≤ cur.length ∧ xs = (cur.drop o).take (s.len * sz) ∧ ∀ u ∈ cur, u.oneCell' = true := by
  obtain ⟨h1, h2, d, l1, l2, r, s'⟩ := h.star
  rcases r with r | ⟨g, o, cur, ha, hb, r⟩
  · exact .inl r
  · exact .inr ⟨g, o, cur, ha, ⟨h.os, h.tape, h.output, h.size, h1, h2, d, l1, l2, hb, s'⟩, r⟩
theorem Sat.mkSlr {T : TypeId} {sz : Nat} {s : Sl} {xs : List Value} {g o : Nat} {cur : List Value} (h : Sat W w (Blk g cur T :: l)) (ha : s.a = some ⟨g, o, none⟩)
    (h1 : s.len ≤ s.cap) (h2 : s.cap < 2 ^ 63) (h3 : o + s.cap * sz ≤ cur.length) (h4 : xs = (cur.drop o).take (s.len * sz)) (h5 : ∀ u ∈ cur, u.oneCell' = true) : Sat W w (SlR T sz s xs :: l) := by
  obtain ⟨k1, k2, d, l1, l2, r, s'⟩ := h.star
  exact ⟨h.os, h.tape, h.output, h.size, k1, k2, d, l1, l2, .inr ⟨g, o, cur, ha, r, h1, h2, h3, h4, h5⟩, s'⟩
theorem Sat.nilSlr (h : Sat W w l) (T : TypeId) (sz : Nat) : Sat W w (SlR T sz ⟨none, 0, 0⟩ [] :: l) :=
  ⟨h.os, h.tape, h.output, h.size, fun _ => none, _, fun _ => .inl rfl, (fun _ _ h => by cases h), Hp.le_refl _, .inl ⟨rfl, rfl, rfl, rfl⟩, h.star⟩
theorem Sat.slLen {T : TypeId} {sz : Nat} {s : Sl} {xs : List Value} (h : Sat W w (SlR T sz s xs :: l)) : xs.length = s.len * sz ∧ s.len ≤ s.cap ∧ s.cap < 2 ^ 63 := by
  rcases h.slr with ⟨_, h1, h2, h3⟩ | ⟨g, o, cur, _, _, h1, h2, h3, h4, _⟩
  · simp [h1, h2, h3]
  · refine ⟨?_, h1, h2⟩
    subst h4
    have : s.len * sz ≤ s.cap * sz := Nat.mul_le_mul_right _ h1
    simp; omega
theorem Sat.rdc {T : TypeId} {sz : Nat} {s : Sl} {xs : List Value} (h : Sat W w (SlR T sz s xs :: l)) : RdC w s sz xs := by
  have hl := h.slLen
  refine ⟨hl.1, hl.2.1, ?_, ?_⟩
  · rcases h.slr with ⟨h0, h1, h2, h3⟩ | ⟨g, o, cur, h0, _⟩
    · intro _; exact h2
    · intro hn; rw [h0] at hn; cases hn
  · intro a ha j u hu
    rcases h.slr with ⟨h0, h1, h2, h3⟩ | ⟨g, o, cur, h0, hb, h1, h2, h3, h4, _⟩
    · rw [h0] at ha; cases ha
    · rw [h0] at ha
      cases ha
      rw [add_add, hb.cell]
      subst h4
      rw [List.getElem?_take] at hu
      split at hu
      · rw [List.getElem?_drop] at hu; exact hu
      · cases hu
theorem Sat.slOne {T : TypeId} {sz : Nat} {s : Sl} {xs : List Value} (h : Sat W w (SlR T sz s xs :: l)) : ∀ u ∈ xs, u.oneCell' = true := by
  rcases h.slr with ⟨_, _, _, h3⟩ | ⟨g, o, cur, h0, hb, h1, h2, h3, h4, h5⟩
  · subst h3; intro u hu; cases hu
  · subst h4; intro u hu; exact h5 u (List.mem_of_mem_drop (List.mem_of_mem_take hu))

/-! ### types -/
def oneT (P : Program) (t : TypeId) : Bool := match P.info? t, P.underlying t with
  | some i, some d => (i.size == 1) && (match d with | .struct _ | .array _ _ => false | _ => true)
  | _, _ => false
theorem oneT_agg {t : TypeId} (h : oneT P t = true) (w : World) : (isAgg t).run P w = .ok false w := by
  unfold oneT at h
  split at h
  · rename_i i d hi hd
    simp only [Bool.and_eq_true] at h
    have hr : (underlying t).run P w = .ok d w := by simp [underlying, program, Sem.run, hd]
    simp only [isAgg, Sem.run_bind, hr, Result.andThen_ok]
    cases d <;> first | rfl | (simp at h)
  · cases h
theorem oneT_size {t : TypeId} (h : oneT P t = true) (w : World) : (sizeOf t).run P w = .ok 1 w := by
  unfold oneT at h
  split at h
  · rename_i i d hi hd
    simp only [Bool.and_eq_true, beq_iff_eq] at h
    simp [sizeOf, typeInfo, program, Sem.run, Sem.run_bind, hi, h.1]
  · cases h
theorem run_load1 {t : TypeId} (ht : oneT P t = true) {a : Addr} {v : Value} (h : w.cell? a = some v) : (Instr.loadAt t (.pointer (some a))).run P w = .ok v w := by
  simp [Instr.loadAt, Instr.sureAddr, loadVar, Sem.run_bind, oneT_agg ht, h]
theorem oneCell_cells {v : Value} (h : v.oneCell' = true) : v.cells = #[v] := by cases v <;> simp [Value.oneCell', Value.cells] at h ⊢
theorem run_store1 {t : TypeId} (ht : oneT P t = true) {a : Addr} {u v : Value} (hv : v.oneCell' = true) (h : w.cell? a = some u) (hf : w.frozen? a = false) :
    (Instr.storeAt t (.pointer (some a)) v).run P w = .ok () (w.setCell a v) := by
  have hst : (store a v).run P w = .ok () (w.setCell a v) := by
    rw [run_store P w a v _ hv, h]; simp [hf]
  have ha : a.add 0 = a := rfl
  simp [Instr.storeAt, Instr.sureAddr, storeVar, Sem.run_bind, oneT_size ht, oneCell_cells hv, storeCells, ha, hst]

/-! ### rules: cells of a block -/
theorem ldB {b : Nat} {cs : List Value} {T : TypeId} (h : Sat W w (Blk b cs T :: l)) {k : Kd} {t : TypeId} {o i : Nat} {x : k.Ty} {K : k.Ty → Prop} (hK : K x) (hx : cs[o + i]? = some (k.v x) := by rfl) (ht : oneT P t = true := by kernel_rfl) :
    RunQ k P (Instr.loadAt t (.pointer (some ((⟨b, o, none⟩ : Addr).add i)))) w K :=
  ⟨x, run_load1 ht (by rw [add_add, h.cell, hx]), hK⟩
theorem stB {b : Nat} {cs : List Value} {T : TypeId} (h : Sat W w (Blk b cs T :: l)) {t : TypeId} {o i : Nat} {v : Value} {K : World → Prop}
    (hK : ∀ w', Sat W w' (Blk b (cs.set (o + i) v) T :: l) → K w') (hv : v.oneCell' = true := by rfl) (hi : o + i < cs.length := by simp) (ht : oneT P t = true := by kernel_rfl) : StoreP P t (.pointer (some ((⟨b, o, none⟩ : Addr).add i))) v w K := by
  rw [add_add]
  refine ⟨_, run_store1 ht hv (u := cs[o + i]) ?_ ?_, hK _ (h.setCell _ _)⟩
  · rw [h.cell]; simp [hi]
  · exact h.free _ hi
/-- a variable of one cell -/
theorem ldV {b : Nat} {cs : List Value} {T : TypeId} (h : Sat W w (Blk b cs T :: l)) {k : Kd} {t : TypeId} {i : Nat} {x : k.Ty} {K : k.Ty → Prop} (hK : K x) (hx : cs[i]? = some (k.v x) := by rfl) (ht : oneT P t = true := by kernel_rfl) :
    RunQ k P (Instr.loadAt t (.pointer (some ⟨b, i, none⟩))) w K :=
  ⟨x, run_load1 ht (by rw [h.cell, hx]), hK⟩
theorem stV {b : Nat} {cs : List Value} {T : TypeId} (h : Sat W w (Blk b cs T :: l)) {t : TypeId} {i : Nat} {v : Value} {K : World → Prop}
    (hK : ∀ w', Sat W w' (Blk b (cs.set i v) T :: l) → K w') (hv : v.oneCell' = true := by rfl) (hi : i < cs.length := by simp) (ht : oneT P t = true := by kernel_rfl) : StoreP P t (.pointer (some ⟨b, i, none⟩)) v w K := by
  refine ⟨_, run_store1 ht hv (u := cs[i]) ?_ ?_, hK _ (h.setCell _ _)⟩
  · rw [h.cell]; simp [hi]
  · exact h.free _ hi
/-- a new variable -/
theorem boxB (h : Sat W w l) {t : TypeId} {v : Value} {K : Addr → World → Prop} (hK : ∀ b w', Sat W w' (Blk b v.cells.toList t :: l) → K ⟨b, 0, none⟩ w') : RunK .addr P (Instr.box t v) w K := by
  refine ⟨⟨w.heap.size, 0, none⟩, w.alloc (.cells v.cells t), ?_, hK _ _ ?_⟩
  · simp [Instr.box, newVar, newRow, newObj, Sem.run]
  · have := h.newBlk v.cells.toList t
    simpa using this
theorem allocB (h : Sat W w l) {t : TypeId} {z : Value} (hz : (P.info? t).map (·.zero) = some (some z)) {K : Addr → World → Prop} (hK : ∀ b w', Sat W w' (Blk b z.cells.toList t :: l) → K ⟨b, 0, none⟩ w') :
    RunK .addr P (Instr.alloc t true (.tuple #[])) w K := by
  obtain ⟨i, hi, hz'⟩ := Option.map_eq_some_iff.1 hz
  refine ⟨⟨w.heap.size, 0, none⟩, w.alloc (.cells z.cells t), ?_, hK _ _ ?_⟩
  · simp [Instr.alloc, zeroValue, typeInfo, program, newVar, newRow, newObj, Sem.run_bind, Sem.run, hi, hz']
  · have := h.newBlk z.cells.toList t
    simpa using this
/-- a slice written out -/
theorem bsB (h : Sat W w l) {t n : Nat} {ps : Array (Nat × Value)} {e : TypeId} {cs : List Value}
    (hr : ∀ w, (Instr.buildSlice t n ps).run P w = .ok (.slice (some ⟨w.heap.size, 0, none⟩) n n) (w.alloc (.cells cs.toArray e))) {K : Sl → World → Prop}
    (hK : ∀ b w', Sat W w' (Blk b cs e :: l) → K ⟨some ⟨b, 0, none⟩, n, n⟩ w') : RunK .sl P (Instr.buildSlice t n ps) w K :=
  ⟨⟨some ⟨w.heap.size, 0, none⟩, n, n⟩, _, hr w, hK _ _ (h.newBlk cs e)⟩

/-! ### rules: append -/
/-- the facts on a slice's type -/
def ET (P : Program) (t e sz bytes : Nat) : Prop := P.underlying t = some (.slice e) ∧ ∃ i z, P.info? e = some i ∧ i.zero = some z ∧ i.size = sz ∧ z.cells.size = sz ∧ i.bytes = bytes ∧ ∀ u ∈ z.cells.toList, u.oneCell' = true
def ETb (P : Program) (t e sz bytes : Nat) : Bool := match P.underlying t, P.info? e with
  | some (.slice e'), some i => Nat.beq e' e && Nat.beq i.size sz && Nat.beq i.bytes bytes && (match i.zero with | some z => Nat.beq z.cells.size sz && z.cells.toList.all (·.oneCell') | none => false)
  | _, _ => false
theorem ET.of {t e sz bytes : Nat} (h : ETb P t e sz bytes = true) : ET P t e sz bytes := by
  unfold ETb at h
  split at h
  · rename_i e' i hu hi
    simp only [Bool.and_eq_true, beq_eq, decide_eq_true_eq] at h
    obtain ⟨⟨⟨h1, h2⟩, h3⟩, h4⟩ := h
    split at h4
    · rename_i z hz
      simp only [Bool.and_eq_true, decide_eq_true_eq, List.all_eq_true] at h4
      subst h1
      exact ⟨hu, i, z, hi, hz, h2, h4.1, h3, h4.2⟩
    · cases h4
  · cases h

theorem run_storeCells_own (g o : Nat) (t : TypeId) (fr : Nat × Nat) : ∀ (vs : List Value) (i : Nat) (cur : Array Value) (w : World), w.heap[g]? = some (.cells cur t fr) → (∀ i, i < cur.size → ¬ (fr.1 ≤ i ∧ i < fr.2)) → o + i + vs.length ≤ cur.size → (∀ v ∈ vs, v.oneCell' = true) →
    (storeCells ⟨g, o, none⟩ vs i).run P w = .ok () (w.setRow g (cur.toList.take (o + i) ++ vs ++ cur.toList.drop (o + i + vs.length)).toArray)
  | [], i, cur, w, hg, _, _, _ => by
    simp only [storeCells, List.append_nil, List.length_nil, Nat.add_zero, List.take_append_drop, Array.toArray_toList]
    rw [setRow_self w g cur t fr hg]
    rfl
  | v :: rest, i, cur, w, hg, hfr, hl, h1 => by
    have hi : o + i < cur.size := by simp at hl; omega
    have hcell : w.cell? ⟨g, o + i, none⟩ = some cur[o + i] := by simp [World.cell?, hg, hi]
    have hfro : w.frozen? ⟨g, o + i, none⟩ = false := by
      have := hfr (o + i) hi
      simp only [World.frozen?, hg]; simpa using this
    have hst : (store ((⟨g, o, none⟩ : Addr).add i) v).run P w = .ok () (w.setRow g (cur.setIfInBounds (o + i) v)) := by
      rw [add_add, run_store P w _ v _ (h1 v (by simp)), hcell]
      simp [hfro, setCell_eq_setRow w g (o + i) cur t fr v hg]
    have ih := run_storeCells_own g o t fr rest (i + 1) (cur.setIfInBounds (o + i) v) (w.setRow g (cur.setIfInBounds (o + i) v)) (setRow_heap w g cur _ t _ hg) (by simpa using hfr) (by simp at hl ⊢; omega) (fun x hx => h1 x (by simp [hx]))
    simp only [storeCells, Sem.run_bind, hst, Result.andThen_ok, ih, setRow_setRow]
    congr 3
    have e := list_seg_step cur.toList (o + i) v rest (by simp at hl ⊢; omega)
    simpa [Array.toList_setIfInBounds, Nat.add_assoc] using e
theorem Sat.setRow {b : Nat} {cs : List Value} {T : TypeId} (h : Sat W w (Blk b cs T :: l)) (cs' : List Value) (hl : cs'.length = cs.length) : Sat W (w.setRow b cs'.toArray) (Blk b cs' T :: l) :=
  h.setBlk cs' hl rfl

theorem appB {t e sz bytes : Nat} (et : ET P t e sz bytes) (h0 : 0 < sz) {s x : Sl} {xs news : List Value} {ty : TypeId} (h : Sat W w (SlR e sz s xs :: l)) (hx : RdC w x sz news) (h1 : ∀ u ∈ news, u.oneCell' = true)
    (hb : (s.len + x.len) * bytes ≤ 140737488355328) (hm : s.len + x.len < 2 ^ 63) {K : Sl → World → Prop}
    (hK : ∀ s' w', Sat W w' (SlR e sz s' (xs ++ news) :: l) → s'.len = s.len + x.len → K s' w') : RunK .sl P (Builtin.append_ #[t, t] ty #[s.v, x.v]) w K := by
  obtain ⟨ht, i, z, hi, hz, hsz, hzs, hby, hzo⟩ := et
  subst hsz
  subst hby
  obtain ⟨hxl, hxc, hxn, hxr⟩ := hx
  obtain ⟨sa, sl, sc⟩ := s
  obtain ⟨xa, xl, xc⟩ := x
  simp only at *
  cases xa with
  | none =>
    have hc0 := hxn rfl
    have hl0 : xl = 0 := by omega
    subst hl0; subst hc0
    have hn : news = [] := List.eq_nil_of_length_eq_zero (by simpa using hxl)
    subst hn
    have hle := h.slLen.2.1
    simp only at hle
    refine ⟨⟨sa, sl, sc⟩, w, ?_, hK _ _ (by simpa using h) rfl⟩
    cases sa with
    | none => simp [Builtin.append_, run_underlying ht, sizeOf, typeInfo, hi, Builtin.lenOf, Builtin.firstCells, hle]
    | some a => simp [Builtin.append_, run_underlying ht, sizeOf, typeInfo, hi, Builtin.lenOf, Builtin.firstCells, hle, storeCells]
  | some ax =>
    have hnews : ∀ j u, news[j]? = some u → w.cell? (ax.add j) = some u := hxr ax rfl
    have hgrow : ∀ (a : Option Addr) (olds : List Value), sl + xl ≤ grownCap w (sl + xl) sc e → olds.length = sl * i.size → (∀ u ∈ olds, u.oneCell' = true) →
        Sat W (w.drew.alloc (.cells (olds ++ news ++ (Builtin.zeroCells z.cells (grownCap w (sl + xl) sc e - (sl + xl))).toList).toArray e)) (SlR e i.size ⟨some ⟨w.heap.size, 0, none⟩, sl + xl, grownCap w (sl + xl) sc e⟩ (olds ++ news) :: l) := by
      intro _ olds hge hol ho1
      have hzl : (Builtin.zeroCells z.cells (grownCap w (sl + xl) sc e - (sl + xl))).toList.length = (grownCap w (sl + xl) sc e - (sl + xl)) * i.size := by simp [size_zeroCells, hzs]
      refine (h.tail.drew.newBlk _ e).mkSlr rfl hge ?_ ?_ ?_ ?_
      · have := grownCap_le_maxLen w (sl + xl) sc e (by unfold maxLen; omega)
        show grownCap w (sl + xl) sc e < 2 ^ 63
        unfold maxLen at this; omega
      · simp only [List.length_append, hzl, hol, hxl, ← Nat.add_mul, Nat.zero_add]
        have : sl + xl + (grownCap w (sl + xl) sc e - (sl + xl)) = grownCap w (sl + xl) sc e := by omega
        rw [this]; omega
      · rw [List.drop_zero]
        have : (sl + xl) * i.size = (olds ++ news).length := by rw [List.length_append, hol, hxl, Nat.add_mul]
        simp only
        rw [this, List.take_left]
      · intro u hu
        rw [List.mem_append, List.mem_append] at hu
        rcases hu with (hu | hu) | hu
        · exact ho1 u hu
        · exact h1 u hu
        · simp only [Builtin.zeroCells, Array.toList_map, List.mem_map, Array.toList_range, List.mem_range] at hu
          obtain ⟨k, hk, rfl⟩ := hu
          have hkz : k % z.cells.size < z.cells.size := Nat.mod_lt _ (by omega)
          rw [getElem!_pos z.cells _ hkz]
          exact hzo _ (by simp)
    have hge := grownCap_ge w (sl + xl) sc e
    by_cases hx0 : sa = none ∧ xl = 0
    · obtain ⟨rfl, rfl⟩ := hx0
      rcases h.slr with ⟨_, hsl, hsc, hxs⟩ | ⟨g, o, cur, hsa, _⟩
      case inr => cases hsa
      simp only at hsl hsc
      subst hsl; subst hsc; subst hxs
      have hn : news = [] := List.eq_nil_of_length_eq_zero (by simpa using hxl)
      subst hn
      refine ⟨⟨none, 0, 0⟩, w, ?_, hK _ _ (by simpa using h) rfl⟩
      simp [Builtin.append_, run_underlying ht, sizeOf, typeInfo, hi, Builtin.lenOf, Builtin.firstCells, loadCells, loadCellsFrom]
    rcases h.slr with ⟨hsa, hsl, hsc, hxs⟩ | ⟨g, o, cur, hsa, hblk, hlc, hc63, hcl, hxs, hcu⟩
    · simp only at hsa hsl hsc
      subst hsa; subst hsl; subst hsc; subst hxs
      have hpos : 0 < xl := by
        rcases Nat.eq_zero_or_pos xl with h | h
        · exact absurd ⟨rfl, h⟩ hx0
        · exact h
      have hr := run_append_nil (P := P) w t ty e i z ht hi hz ax xl xc news hxl hnews hpos (by omega) (by simp only [Nat.zero_add] at hb; omega)
      have hg := hgrow none [] hge (by simp) (by simp)
      simp only [Nat.zero_add, List.nil_append] at hg hr hge
      refine ⟨⟨some ⟨w.heap.size, 0, none⟩, xl, grownCap w xl 0 e⟩, _, hr, hK _ _ ?_ (by simp)⟩
      have he : (news.toArray ++ Builtin.zeroCells z.cells (grownCap w xl 0 e - xl)) = (news ++ (Builtin.zeroCells z.cells (grownCap w xl 0 e - xl)).toList).toArray := by apply Array.ext'; simp
      rw [he]
      simpa using hg
    · simp only at hsa hlc hc63 hcl hxs
      subst hsa
      obtain ⟨fr, hbb, hfr⟩ := hblk.blk
      have hcap : sl * i.size ≤ sc * i.size := Nat.mul_le_mul_right _ hlc
      have hxsl : xs.length = sl * i.size := by rw [hxs]; simp; omega
      by_cases hroom : sl + xl ≤ sc
      · have hsum : (sl + xl) * i.size ≤ sc * i.size := Nat.mul_le_mul_right _ hroom
        rw [Nat.add_mul] at hsum
        have hfit : o + sl * i.size + news.length ≤ cur.length := by rw [hxl]; omega
        have hf := run_firstCells_some (P := P) w i.size xl ax xl xc news hxl hnews
        have hst := run_storeCells_own (P := P) g (o + sl * i.size) e fr news 0 cur.toArray w hbb (by simpa using hfr) (by simpa using hfit) h1
        simp only [Nat.add_zero] at hst
        refine ⟨⟨some ⟨g, o, none⟩, sl + xl, sc⟩, w.setRow g (cur.take (o + sl * i.size) ++ news ++ cur.drop (o + sl * i.size + news.length)).toArray, ?_, hK _ _ ?_ rfl⟩
        · simp [Builtin.append_, run_underlying ht, sizeOf, typeInfo, hi, Builtin.lenOf, hroom, hf, add_add, hst]
        · have hlen : (cur.take (o + sl * i.size) ++ news ++ cur.drop (o + sl * i.size + news.length)).length = cur.length := by simp; omega
          refine (hblk.setRow _ hlen).mkSlr rfl (by simpa using hroom) hc63 (by rw [hlen]; exact hcl) ?_ ?_
          · simp only
            have hx1 : xs = (cur.take (o + sl * i.size)).drop o := by
              rw [hxs, List.drop_take]; congr 1; omega
            have hol : o ≤ (cur.take (o + sl * i.size)).length := by simp; omega
            rw [List.append_assoc, List.drop_append_of_le_length hol, ← hx1, ← List.append_assoc]
            have : (sl + xl) * i.size = (xs ++ news).length := by rw [List.length_append, hxsl, hxl, Nat.add_mul]
            rw [this, List.take_left]
          · intro u hu
            rw [List.mem_append, List.mem_append] at hu
            rcases hu with (hu | hu) | hu
            · exact hcu u (List.mem_of_mem_take hu)
            · exact h1 u hu
            · exact hcu u (List.mem_of_mem_drop hu)
      · have holds : ∀ j u, xs[j]? = some u → w.cell? ((⟨g, o, none⟩ : Addr).add j) = some u := h.rdc.2.2.2 _ rfl
        have hr := run_append_grow (P := P) w t ty e i z ht hi hz ⟨g, o, none⟩ sl sc xs hxsl holds ax xl xc news hxl hnews (by omega) (by omega) (growslice_fits (by omega) hb)
        have hg := hgrow none xs hge hxsl h.slOne
        refine ⟨⟨some ⟨w.heap.size, 0, none⟩, sl + xl, grownCap w (sl + xl) sc e⟩, _, hr, hK _ _ ?_ rfl⟩
        have he : (xs.toArray ++ news.toArray ++ Builtin.zeroCells z.cells (grownCap w (sl + xl) sc e - (sl + xl))) = (xs ++ news ++ (Builtin.zeroCells z.cells (grownCap w (sl + xl) sc e - (sl + xl))).toList).toArray := by apply Array.ext'; simp
        rw [he]
        exact hg
end
end Go.Pk
