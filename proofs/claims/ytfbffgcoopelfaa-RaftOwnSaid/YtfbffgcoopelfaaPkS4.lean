/- Worlds by parts: elements of slices, parts of slices, what was there before. -/
import Derived.Test.YtfbffgcoopelfaaPkS3
namespace Go.Pk
open Go
theorem Addr_add2 (a : Addr) (m n : Nat) : (a.add m).add n = a.add (m + n) := by
  unfold Addr.add
  split <;> split <;> split <;> simp_all <;> omega
/-- what is read of a slice, wherever the parts 'l' hold -/
def Rd (W : World) (l : List Res) (s : Sl) (sz : Nat) (xs : List Value) : Prop := ∀ w, Sat W w l → RdC w s sz xs
/-- all that was there when the call began -/
def Old (W : World) : Res := fun h => ∀ b, b < W.heap.size → h b = W.heap[b]?
section
variable {W w : World} {l : List Res} {P : Program}
theorem Sat.old (W : World) : Sat W W [Old W] := ⟨rfl, rfl, rfl, Nat.le_refl _, hpOf W, fun _ => none, fun _ => .inr rfl, Hp.le_refl _, (fun _ _ h => by cases h), fun _ _ => rfl, trivial⟩
theorem Sat.block_old (h : Sat W w (Old W :: l)) : ∀ b, b < W.heap.size → w.heap[b]? = W.heap[b]? := by
  obtain ⟨h1, h2, d, l1, l2, r, s⟩ := h.star
  intro b hb
  have := r b hb
  cases hw : W.heap[b]? with
  | none => simp at hw; omega
  | some o => rw [hw] at this; exact l1 b o this
theorem cell_old (h : Sat W w (Old W :: l)) {a : Addr} {v : Value} (hc : W.cell? a = some v) : w.cell? a = some v := by
  rw [← hc]
  exact World.cell?_of_block (h.block_old _ (World.block_lt_of_cell? _ _ hc))
theorem rdc_old (h : Sat W w (Old W :: l)) {s : Sl} {sz : Nat} {xs : List Value} (hr : RdC W s sz xs) : RdC w s sz xs :=
  ⟨hr.1, hr.2.1, hr.2.2.1, fun a ha j u hu => cell_old h (hr.2.2.2 a ha j u hu)⟩
theorem Rd.old {s : Sl} {sz : Nat} {xs : List Value} (hr : RdC W s sz xs) : Rd W (Old W :: l) s sz xs := fun _ h => rdc_old h hr
theorem Rd.own {T : TypeId} {sz : Nat} {s : Sl} {xs : List Value} : Rd W (SlR T sz s xs :: l) s sz xs := fun _ h => h.rdc
theorem Rd.cons {R : Res} {sz : Nat} {s : Sl} {xs : List Value} (h : Rd W l s sz xs) : Rd W (R :: l) s sz xs := fun _ hs => h _ hs.tail
theorem Rd.blk {g : Nat} {cs : List Value} {T : TypeId} {n sz : Nat} (hn : cs.length = n * sz) : Rd W (Blk g cs T :: l) ⟨some ⟨g, 0, none⟩, n, n⟩ sz cs := fun _ h => rdBlk h hn
theorem Rd.nil {sz : Nat} {c : Nat} (hc : c = 0) : Rd W l ⟨none, 0, c⟩ sz [] := fun _ _ => ⟨by simp, Nat.zero_le _, fun _ => hc, fun a ha => by cases ha⟩

/-! ### elements -/
theorem run_ix {t e sz by_ : Nat} (et : ET P t e sz by_) {s : Sl} {a : Addr} {k : IntKind} {i : Int} (ha : s.a = some a) (h0 : 0 ≤ i) (h1 : i.toNat < s.len) (w : World) :
    (Instr.indexAt t s.v (.int k i)).run P w = .ok (.pointer (some (a.add (i.toNat * sz)))) w := by
  obtain ⟨ht, inf, z, hi, hz, hsz, _⟩ := et
  obtain ⟨sa, sl, sc⟩ := s
  simp only at ha h1
  subst ha
  have hlt : i < (sl : Int) := by omega
  simp [Instr.indexAt, asIntOf, run_underlying ht, Sem.run_bind, sizeOf, typeInfo, program, Sem.run, hi, hsz, h0, hlt]
theorem some_of_lt {s : Sl} {sz : Nat} {xs : List Value} (h : RdC w s sz xs) {n : Nat} (hn : n < s.len) : ∃ a, s.a = some a := by
  cases ha : s.a with
  | none => have := h.2.2.1 ha; have := h.2.1; omega
  | some a => exact ⟨a, rfl⟩
/-- an element of one cell is read -/
theorem ixld {t e by_ : Nat} (et : ET P t e 1 by_) {s : Sl} {xs : List Value} (h : RdC w s 1 xs) {ik : IntKind} {i : Int} {k : Kd} {x : k.Ty} {t' : TypeId} (h0 : 0 ≤ i) (hx : xs[i.toNat]? = some (k.v x)) {K : k.Ty → Prop} (hK : K x)
    (ht : oneT P t' = true := by kernel_rfl) :
    RunQ .addr P (Instr.indexAt t s.v (.int ik i)) w fun a => RunQ k P (Instr.loadAt t' (.pointer (some a))) w K := by
  have hlt : i.toNat < xs.length := (List.getElem?_eq_some_iff.1 hx).1
  have hl := h.1
  obtain ⟨a, ha⟩ := some_of_lt h (n := i.toNat) (by omega)
  exact ⟨_, run_ix et ha h0 (by omega) w, x, run_load1 ht (h.2.2.2 a ha _ _ (by simpa using hx)), hK⟩
/-- the address of an element -/
theorem ixA {t e sz by_ : Nat} (et : ET P t e sz by_) {s : Sl} {xs : List Value} (h : RdC w s sz xs) {ik : IntKind} {i : Int} (h0 : 0 ≤ i) (h1 : i.toNat < s.len) {K : Addr → Prop}
    (hK : ∀ a, (∀ j u, j < sz → xs[i.toNat * sz + j]? = some u → w.cell? (a.add j) = some u) → K a) :
    RunQ .addr P (Instr.indexAt t s.v (.int ik i)) w K := by
  obtain ⟨a, ha⟩ := some_of_lt h h1
  exact ⟨_, run_ix et ha h0 h1 w, hK _ fun j u _ hu => by rw [Addr_add2]; exact h.2.2.2 a ha _ _ hu⟩
theorem ldC {k : Kd} {t : TypeId} {a : Addr} {x : k.Ty} (hc : w.cell? a = some (k.v x)) {K : k.Ty → Prop} (hK : K x) (ht : oneT P t = true := by kernel_rfl) :
    RunQ k P (Instr.loadAt t (.pointer (some a))) w K := ⟨x, run_load1 ht hc, hK⟩
/-- an element of one cell is written -/
theorem ixst {t e by_ T : Nat} (et : ET P t e 1 by_) {s : Sl} {xs : List Value} (h : Sat W w (SlR T 1 s xs :: l)) {ik : IntKind} {i : Int} {t' : TypeId} {v : Value} (h0 : 0 ≤ i) (h1 : i.toNat < s.len) {K : World → Prop}
    (hK : ∀ w', Sat W w' (SlR T 1 s (xs.set i.toNat v) :: l) → K w') (hv : v.oneCell' = true := by rfl) (ht : oneT P t' = true := by kernel_rfl) :
    RunQ .addr P (Instr.indexAt t s.v (.int ik i)) w fun a => StoreP P t' (.pointer (some a)) v w K := by
  rcases h.slr with ⟨_, h2, _⟩ | ⟨g, o, cur, ha, hb, h2, h3, h4, h5, h6⟩
  · omega
  · refine ⟨_, run_ix et ha h0 h1 w, ?_⟩
    rw [add_add]
    have hlt : o + i.toNat * 1 < cur.length := by omega
    refine stV hb (fun w' h' => hK w' (h'.mkSlr ha h2 h3 (by simpa using h4) ?_ ?_)) hv hlt ht
    · subst h5
      rw [List.drop_set, if_neg (by omega), List.take_set]
      congr 1; omega
    · intro u hu
      rcases List.mem_or_eq_of_mem_set hu with hu | rfl
      · exact h6 u hu
      · exact hv

/-! ### parts of a slice -/
theorem run_slice {t e sz by_ : Nat} (et : ET P t e sz by_) {s : Sl} {lo hi : Int} (h0 : 0 ≤ lo) (h1 : lo ≤ hi) (h2 : hi ≤ s.cap) (w : World) {j k : IntKind} :
    (Instr.sliceAt t s.v (some (.int j lo)) (some (.int k hi)) none).run P w = .ok (Sl.v ⟨if s.cap = lo.toNat then s.a else s.a.map (·.add (lo.toNat * sz)), hi.toNat - lo.toNat, s.cap - lo.toNat⟩) w := by
  obtain ⟨ht, inf, z, hi', hz, hsz, _⟩ := et
  have e1 : (0 ≤ hi ∧ hi ≤ (s.cap : Int)) := ⟨by omega, h2⟩
  have e2 : (0 ≤ lo ∧ lo ≤ (hi.toNat : Int)) := ⟨h0, by omega⟩
  have e3 : ¬ (max hi 0 < lo) := by omega
  simp [Instr.sliceAt, Instr.slice, run_underlying ht, Sem.run_bind, Instr.sliceBounds, Instr.sliceBound, asIntOf, sizeOf, typeInfo, program, Sem.run, hi', hsz, e1, e2]
  intro h; exact absurd h e3
theorem run_sliceLo {t e sz by_ : Nat} (et : ET P t e sz by_) {s : Sl} {lo : Int} (h0 : 0 ≤ lo) (h1 : lo ≤ s.len) (hc : s.len ≤ s.cap) (w : World) {j : IntKind} :
    (Instr.sliceAt t s.v (some (.int j lo)) none none).run P w = .ok (Sl.v ⟨if s.cap = lo.toNat then s.a else s.a.map (·.add (lo.toNat * sz)), s.len - lo.toNat, s.cap - lo.toNat⟩) w := by
  obtain ⟨ht, inf, z, hi', hz, hsz, _⟩ := et
  have e2 : (0 ≤ lo ∧ lo ≤ (s.len : Int)) := ⟨h0, h1⟩
  simp [Instr.sliceAt, Instr.slice, run_underlying ht, Sem.run_bind, Instr.sliceBounds, Instr.sliceBound, asIntOf, sizeOf, typeInfo, program, Sem.run, hi', hsz, e2]
theorem run_sliceHi {t e sz by_ : Nat} (et : ET P t e sz by_) {s : Sl} {hi : Int} (h0 : 0 ≤ hi) (h1 : hi ≤ s.cap) (w : World) {j : IntKind} :
    (Instr.sliceAt t s.v none (some (.int j hi)) none).run P w = .ok (Sl.v ⟨s.a, hi.toNat, s.cap⟩) w := by
  obtain ⟨ht, inf, z, hi', hz, hsz, _⟩ := et
  have e2 : (0 ≤ hi ∧ hi ≤ (s.cap : Int)) := ⟨h0, h1⟩
  have e3 : (s.a.map (·.add (0 * sz))) = s.a := by cases s.a <;> simp [Addr.add]
  simp [Instr.sliceAt, Instr.slice, run_underlying ht, Sem.run_bind, Instr.sliceBounds, Instr.sliceBound, asIntOf, sizeOf, typeInfo, program, Sem.run, hi', hsz, e2]
  intro _; cases s.a <;> simp [Addr.add]
/-- what a part of a slice reads as -/
def subSl (s : Sl) (sz lo hi : Nat) : Sl := ⟨if s.cap = lo then s.a else s.a.map (·.add (lo * sz)), hi - lo, s.cap - lo⟩
theorem RdC.sub {s : Sl} {sz : Nat} {xs : List Value} (h : RdC w s sz xs) {lo hi : Nat} (h1 : lo ≤ hi) (h2 : hi ≤ s.len) : RdC w (subSl s sz lo hi) sz ((xs.drop (lo * sz)).take ((hi - lo) * sz)) := by
  obtain ⟨a1, a2, a3, a4⟩ := h
  have hm : hi * sz ≤ s.len * sz := Nat.mul_le_mul_right _ h2
  have hm2 : lo * sz ≤ hi * sz := Nat.mul_le_mul_right _ h1
  refine ⟨?_, ?_, ?_, ?_⟩
  · simp only [subSl, List.length_take, List.length_drop, a1, Nat.sub_mul]; omega
  · simp only [subSl]; omega
  · intro hn
    simp only [subSl] at hn ⊢
    split at hn
    · have := a3 hn; omega
    · have := a3 (by simpa using hn); omega
  · intro a ha j u hu
    simp only [subSl] at ha
    rw [List.getElem?_take] at hu
    split at hu
    case isFalse => cases hu
    rename_i hj
    rw [List.getElem?_drop] at hu
    split at ha
    · rename_i hc
      have : hi - lo = 0 := by omega
      rw [this] at hj; simp at hj
    · obtain ⟨a', ha', rfl⟩ := Option.map_eq_some_iff.1 ha
      rw [Addr_add2]
      exact a4 a' ha' _ _ hu
theorem Rd.sub {s : Sl} {sz : Nat} {xs : List Value} (h : Rd W l s sz xs) {lo hi : Nat} (h1 : lo ≤ hi) (h2 : hi ≤ s.len) : Rd W l (subSl s sz lo hi) sz ((xs.drop (lo * sz)).take ((hi - lo) * sz)) := fun w hw => (h w hw).sub h1 h2

/-! ### under a condition (regions that draw their order) -/
theorem hld {S : World → Prop} {k : Kd} {t : TypeId} {a : Addr} {x : k.Ty} (hS : ∀ w, S w → w.cell? a = some (k.v x)) {K : k.Ty → Prop} (hK : K x) (ht : oneT P t = true := by kernel_rfl) :
    HRun S k P (Instr.loadAt t (.pointer (some a))) K := ⟨x, fun w hw => run_load1 ht (hS w hw), hK⟩
theorem hldB {S : World → Prop} {W : World} {b : Nat} {cs : List Value} {T : TypeId} (hS : ∀ w, S w → ∃ l, Sat W w (Blk b cs T :: l)) {k : Kd} {t : TypeId} {o i : Nat} {x : k.Ty} {K : k.Ty → Prop} (hK : K x)
    (hx : cs[o + i]? = some (k.v x) := by rfl) (ht : oneT P t = true := by kernel_rfl) : HRun S k P (Instr.loadAt t (.pointer (some ((⟨b, o, none⟩ : Addr).add i)))) K :=
  ⟨x, fun w hw => by obtain ⟨l, h⟩ := hS w hw; exact run_load1 ht (by rw [add_add, h.cell, hx]), hK⟩
end
end Go.Pk
