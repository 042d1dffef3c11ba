/- Layer of separation: values of several cells. -/
import Derived.Test.YtfbffgcoopelfaaPkS4
namespace Go.Pk
open Go
section
variable {W w : World} {l : List Res} {P : Program}
def aggT (P : Program) (t : TypeId) (n : Nat) : Bool := match P.info? t, P.underlying t with
  | some i, some d => (i.size == n) && (match d with | .struct _ => true | _ => false)
  | _, _ => false
theorem aggT_agg {t : TypeId} {n : Nat} (h : aggT P t n = true) (w : World) : (isAgg t).run P w = .ok true w := by
  unfold aggT at h
  split at h
  · rename_i i d hi hd
    simp only [Bool.and_eq_true] at h
    have hr : (underlying t).run P w = .ok d w := by simp [underlying, program, Sem.run, hd]
    simp only [isAgg, Sem.run_bind, hr, Result.andThen_ok]
    cases d <;> first | rfl | (simp at h)
  · cases h
theorem aggT_size {t : TypeId} {n : Nat} (h : aggT P t n = true) (w : World) : (sizeOf t).run P w = .ok n w := by
  unfold aggT at h
  split at h
  · rename_i i d hi hd
    simp only [Bool.and_eq_true, beq_iff_eq] at h
    simp [sizeOf, typeInfo, program, Sem.run, Sem.run_bind, hi, h.1]
  · cases h
theorem run_loadCellsFrom {a : Addr} : ∀ (cs : List Value) (i : Nat) (acc : Array Value), (∀ j u, cs[j]? = some u → w.cell? (a.add (i + j)) = some u) →
    (loadCellsFrom a i cs.length acc).run P w = .ok (acc ++ cs.toArray) w
  | [], i, acc, _ => by simp [loadCellsFrom]
  | v :: cs, i, acc, h => by
    have h0 := h 0 v rfl
    have ih := run_loadCellsFrom cs (i + 1) (acc.push v) fun j u hu => by
      have := h (j + 1) u (by simpa using hu)
      rwa [show i + 1 + j = i + (j + 1) by omega]
    simp only [Nat.add_zero] at h0
    simp only [List.length_cons, loadCellsFrom, Sem.run_bind]
    have hl : (load (a.add i)).run P w = .ok v w := by simp [h0]
    rw [hl]
    simp only [Result.andThen_ok]
    rw [ih]
    congr 1
    apply Array.toList_inj.1
    simp
/-- a value of several cells is read -/
theorem ldAgg {t : TypeId} {a : Addr} {cs : List Value} (hc : ∀ j u, cs[j]? = some u → w.cell? (a.add j) = some u) (ht : aggT P t cs.length = true) {K : Value → Prop} (hK : K (.agg cs.toArray)) :
    RunQ .val P (Instr.loadAt t (.pointer (some a))) w K := by
  refine ⟨_, ?_, hK⟩
  have := run_loadCellsFrom (P := P) (w := w) (a := a) cs 0 #[] (by simpa using hc)
  simp [Instr.loadAt, Instr.sureAddr, loadVar, Sem.run_bind, aggT_agg ht, aggT_size ht, loadCells, this]
theorem ldAggB {t T : TypeId} {b : Nat} {cs : List Value} (h : Sat W w (Blk b cs T :: l)) (ht : aggT P t cs.length = true) {K : Value → Prop} (hK : K (.agg cs.toArray)) :
    RunQ .val P (Instr.loadAt t (.pointer (some ⟨b, 0, none⟩))) w K :=
  ldAgg (cs := cs) (fun j u hu => by rw [add_add, Nat.zero_add, h.cell]; exact hu) ht hK
/-- a value of several cells is written over a block of one's own -/
theorem stAggB {t T : TypeId} {b : Nat} {cs cs' : List Value} (h : Sat W w (Blk b cs T :: l)) (hl : cs'.length = cs.length) (h1 : ∀ u ∈ cs', u.oneCell' = true) (ht : aggT P t cs'.length = true) {K : World → Prop}
    (hK : ∀ w', Sat W w' (Blk b cs' T :: l) → K w') : StoreP P t (.pointer (some ⟨b, 0, none⟩)) (.agg cs'.toArray) w K := by
  obtain ⟨fr, hb, hf⟩ := h.blk
  have hst := run_storeCells_own (P := P) b 0 T fr cs' 0 cs.toArray w hb (by simpa using hf) (by simp; omega) h1
  refine ⟨_, ?_, hK _ (h.setRow cs' hl)⟩
  have e : (List.take (0 + 0) cs.toArray.toList ++ cs' ++ List.drop (0 + 0 + cs'.length) cs.toArray.toList) = cs' := by simp; omega
  rw [e] at hst
  have hcells : (Value.agg cs'.toArray).cells = cs'.toArray := by simp [Value.cells]
  simp [Instr.storeAt, Instr.sureAddr, storeVar, Sem.run_bind, aggT_size ht, hcells, hst]
end
end Go.Pk
