/- Layer of separation: parts of a block; elements of several cells. -/
import Derived.Test.YtfbffgcoopelfaaPkS8
namespace Go.Pk
open Go
section
variable {W w : World} {l : List Res} {P : Program} {α : Type} {E : El α} {s : Sl} {xs : List α}
/-- one cell is read, wherever the address comes from -/
theorem ldX {b : Nat} {cs : List Value} {T : TypeId} (h : Sat W w (Blk b cs T :: l)) {k : Kd} {t : TypeId} {A : Addr} (i : Nat) {x : k.Ty} {K : k.Ty → Prop} (hK : K x) (hx : cs[i]? = some (k.v x) := by rfl) (hA : A = ⟨b, i, none⟩ := by rfl) (ht : oneT P t = true := by kernel_rfl) :
    RunQ k P (Instr.loadAt t (.pointer (some A))) w K := by
  subst hA
  exact ldV h hK hx ht
theorem stX {b : Nat} {cs : List Value} {T : TypeId} (h : Sat W w (Blk b cs T :: l)) {t : TypeId} {A : Addr} (i : Nat) {v : Value} {K : World → Prop}
    (hK : ∀ w', Sat W w' (Blk b (cs.set i v) T :: l) → K w') (hv : v.oneCell' = true := by rfl) (hA : A = ⟨b, i, none⟩ := by rfl) (hi : i < cs.length := by simp) (ht : oneT P t = true := by kernel_rfl) : StoreP P t (.pointer (some A)) v w K := by
  subst hA
  exact stV h hK hv hi ht
theorem hldX {S : World → Prop} {b : Nat} {cs : List Value} {T : TypeId} (hS : ∀ w, S w → ∃ l, Sat W w (Blk b cs T :: l)) {k : Kd} {t : TypeId} {A : Addr} (i : Nat) {x : k.Ty} {K : k.Ty → Prop} (hK : K x) (hx : cs[i]? = some (k.v x) := by rfl) (hA : A = ⟨b, i, none⟩ := by rfl) (ht : oneT P t = true := by kernel_rfl) :
    HRun S k P (Instr.loadAt t (.pointer (some A))) K := by
  subst hA
  refine ⟨x, fun w hw => ?_, hK⟩
  obtain ⟨l, h⟩ := hS w hw
  exact run_load1 ht (by rw [h.cell, hx])
/-- several cells are read out of a block -/
theorem ldAggX {t T : TypeId} {b : Nat} {cs : List Value} {A : Addr} (i n : Nat) (h : Sat W w (Blk b cs T :: l)) {K : Value → Prop} (hK : K (.agg ((cs.drop i).take n).toArray)) (hl : i + n ≤ cs.length := by simp) (hA : A = ⟨b, i, none⟩ := by rfl) (ht : aggT P t n = true := by kernel_rfl) :
    RunQ .val P (Instr.loadAt t (.pointer (some A))) w K := by
  subst hA
  refine ldAgg (cs := (cs.drop i).take n) (fun j u hu => ?_) (by rw [List.length_take, List.length_drop, Nat.min_eq_left (by omega)]; exact ht) hK
  rw [add_add, h.cell]
  rw [List.getElem?_take] at hu
  split at hu
  · rw [List.getElem?_drop] at hu; exact hu
  · cases hu
theorem hldAggX {S : World → Prop} {t T : TypeId} {b : Nat} {cs : List Value} {A : Addr} (i n : Nat) (hS : ∀ w, S w → ∃ l, Sat W w (Blk b cs T :: l)) {K : Value → Prop} (hK : K (.agg ((cs.drop i).take n).toArray)) (hl : i + n ≤ cs.length := by simp) (hA : A = ⟨b, i, none⟩ := by rfl) (ht : aggT P t n = true := by kernel_rfl) :
    HRun S .val P (Instr.loadAt t (.pointer (some A))) K :=
  ⟨_, fun w hw => by
    obtain ⟨l, h⟩ := hS w hw
    obtain ⟨x, hx, hk⟩ := ldAggX (K := fun v => v = .agg ((cs.drop i).take n).toArray) i n h rfl hl hA ht
    rw [hx]; exact congrArg (fun v => Result.ok v w) hk, hK⟩
/-- several cells are written into a block -/
theorem stAggX {t T : TypeId} {b : Nat} {cs cs' : List Value} {A : Addr} (i : Nat) (h : Sat W w (Blk b cs T :: l)) (h1 : ∀ u ∈ cs', u.oneCell' = true) {K : World → Prop}
    (hK : ∀ w', Sat W w' (Blk b (cs.take i ++ cs' ++ cs.drop (i + cs'.length)) T :: l) → K w') (hl : i + cs'.length ≤ cs.length := by simp) (hA : A = ⟨b, i, none⟩ := by rfl) (ht : aggT P t cs'.length = true := by kernel_rfl) :
    StoreP P t (.pointer (some A)) (.agg cs'.toArray) w K := by
  subst hA
  obtain ⟨fr, hb, hf⟩ := h.blk
  have hst := run_storeCells_own (P := P) b i T fr cs' 0 cs.toArray w hb (by simpa using hf) (by simpa using hl) h1
  refine ⟨_, ?_, hK _ (h.setRow _ ?_)⟩
  · have hcells : (Value.agg cs'.toArray).cells = cs'.toArray := by simp [Value.cells]
    simp only [Nat.add_zero, List.toList_toArray] at hst
    simp [Instr.storeAt, Instr.sureAddr, storeVar, Sem.run_bind, aggT_size ht, hcells]
    simpa using hst
  · simp; omega
/-- a variable for a value of several cells -/
theorem newAgg {t : TypeId} {z cs : List Value} (h : Sat W w l) (h1 : ∀ u ∈ cs, u.oneCell' = true) {K : Addr → World → Prop} (hK : ∀ b w', Sat W w' (Blk b cs t :: l) → K ⟨b, 0, none⟩ w')
    (hz : (P.info? t).map (·.zero) = some (some (.agg z.toArray)) := by kernel_rfl) (hl : cs.length = z.length := by rfl) (ht : aggT P t cs.length = true := by kernel_rfl) :
    RunK .addr P (Instr.alloc t true (.tuple #[])) w fun a w1 => StoreP P t (.pointer (some a)) (.agg cs.toArray) w1 fun w2 => K a w2 :=
  allocB h hz fun b w1 hb => by
    have hb' : Sat W w1 (Blk b z t :: l) := by simpa [Value.cells] using hb
    exact stAggB hb' hl h1 ht fun w2 h2 => hK b w2 h2
/-- an element of several cells -/
theorem ixEl {t e sz by_ : Nat} (et : ET P t e sz by_) (hsz : E.sz = sz) (h : RdC w s sz (E.flat xs)) {ik : IntKind} {i : Int} {x : α} (h0 : 0 ≤ i) (hx : xs[i.toNat]? = some x) (h1 : i.toNat < s.len) {K : Addr → Prop}
    (hK : ∀ a, (∀ j u, (E.cells x)[j]? = some u → w.cell? (a.add j) = some u) → K a) : RunQ .addr P (Instr.indexAt t s.v (.int ik i)) w K := by
  subst hsz
  refine ixA et h h0 h1 fun a ha => hK a fun j u hu => ?_
  have hj : j < E.sz := by rw [← E.len x]; exact (List.getElem?_eq_some_iff.1 hu).1
  exact ha j u hj (flat_at hx hu)
theorem hixEl {S : World → Prop} {t e sz by_ : Nat} (et : ET P t e sz by_) (hsz : E.sz = sz) (hS : ∀ w, S w → RdC w s sz (E.flat xs)) (hw : S w) {ik : IntKind} {i : Int} {x : α} (h0 : 0 ≤ i) (hx : xs[i.toNat]? = some x) (h1 : i.toNat < s.len) {K : Addr → Prop}
    (hK : ∀ a, (∀ w, S w → ∀ j u, (E.cells x)[j]? = some u → w.cell? (a.add j) = some u) → K a) : HRun S .addr P (Instr.indexAt t s.v (.int ik i)) K := by
  subst hsz
  obtain ⟨a, ha⟩ := some_of_lt (hS w hw) h1
  refine ⟨_, fun w' _ => run_ix et ha h0 h1 w', hK _ fun w' hw' j u hu => ?_⟩
  rw [Addr_add2]
  exact (hS w' hw').2.2.2 a ha _ _ (flat_at hx hu)
theorem ldAggC {t : TypeId} {a : Addr} {cs : List Value} (hc : ∀ j u, cs[j]? = some u → w.cell? (a.add j) = some u) {K : Value → Prop} (hK : K (.agg cs.toArray)) (ht : aggT P t cs.length = true := by kernel_rfl) :
    RunQ .val P (Instr.loadAt t (.pointer (some a))) w K := ldAgg hc ht hK
theorem hldAggC {S : World → Prop} {t : TypeId} {a : Addr} {cs : List Value} (hc : ∀ w, S w → ∀ j u, cs[j]? = some u → w.cell? (a.add j) = some u) {K : Value → Prop} (hK : K (.agg cs.toArray)) (ht : aggT P t cs.length = true := by kernel_rfl) :
    HRun S .val P (Instr.loadAt t (.pointer (some a))) K :=
  ⟨_, fun w hw => by
    obtain ⟨x, hx, hk⟩ := ldAgg (K := fun v => v = .agg cs.toArray) (hc w hw) ht rfl
    rw [hx]; exact congrArg (fun v => Result.ok v w) hk, hK⟩
theorem RdC.hi {w : World} {s : Sl} {sz n : Nat} {xs : List Value} (h : RdC w s sz xs) (hn : n ≤ s.len) : RdC w ⟨s.a, n, s.cap⟩ sz (xs.take (n * sz)) := by
  obtain ⟨h1, h2, h3, h4⟩ := h
  refine ⟨?_, by simp only; omega, h3, fun a ha j u hu => h4 a ha j u ?_⟩
  · rw [List.length_take, h1]
    have := Nat.mul_le_mul_right sz hn
    simp only
    omega
  · rw [List.getElem?_take] at hu
    split at hu
    · exact hu
    · cases hu
theorem Rd.hi {s : Sl} {sz n : Nat} {xs : List Value} (h : Rd W l s sz xs) (hn : n ≤ s.len) : Rd W l ⟨s.a, n, s.cap⟩ sz (xs.take (n * sz)) := fun w hw => (h w hw).hi hn
theorem tyI {k : Kd} {x : k.Ty} {K : k.Ty → Prop} (h : K x) : TyP k (k.v x) K := ⟨x, rfl, h⟩
theorem tupU {v : Value} {K : Unit → Prop} (hv : v = .tuple #[]) (h : K ()) : TupP [] v K := ⟨(), hv, h⟩
end
end Go.Pk
