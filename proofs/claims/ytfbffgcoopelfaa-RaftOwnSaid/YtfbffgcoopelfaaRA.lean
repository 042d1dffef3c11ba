/- The rows' common facts. -/
import Derived.Test.YtfbffgcoopelfaaPkS4
import Derived.Test.YtfbffgcoopelfaaRows
import Derived.ProofKit
import Derived.OpenShut
import Derived.ShutString
import Derived.ChangeOld
import Derived.Below
import Derived.JoinedCond
namespace Go.Pk
open Go Go.RowKit Go.ChangeShapes Go.WideShapes Go.ChangeAt
/-- a slice of numbers that came in: how it reads -/
theorem open_row {H : Type} {enc : TypeId × Value → H} {P : Program} {W : World} {tt te : TypeId} {k : IntKind} {a : Option Addr} {len cap : Nat} {d : DataW H} {ps : List MemPlace}
    (ht : P.underlying tt = some (.slice te)) (he : P.underlying te = some (.int k)) (hc : P.cellsOf te = 1) (h : DataW.Trod enc P W 0 (fun _ => true) true tt (.slice a len cap) d ps) :
    ∃ zs : List Int, (∀ n ∈ zs, (Lit.int k n).wf = true) ∧ RdC W ⟨a, len, cap⟩ 1 (zs.map (Value.int k)) ∧ (d = .nil ∧ zs = [] ∨ ∃ r, d = .slice (lits k zs) r) := by
  obtain ⟨fuel, hf⟩ := h
  rcases open_ints ht he hc hf with ⟨hcs, hd⟩ | ⟨x, l, c, zs, hcs, _, hl, hm, hz, hd, hcell, hwz⟩
  · simp [Value.cells] at hcs
    obtain ⟨rfl, rfl, rfl⟩ := hcs
    simp only [Prod.mk.injEq] at hd
    exact ⟨[], by simp, ⟨by simp, Nat.le_refl _, fun _ => rfl, fun a ha => by cases ha⟩, .inl ⟨hd.1, rfl⟩⟩
  · simp [Value.cells] at hcs
    obtain ⟨rfl, rfl, rfl⟩ := hcs
    simp only [if_true] at hz
    simp only [Prod.mk.injEq] at hd
    refine ⟨zs.take len, fun n hn => hwz n (List.mem_of_mem_take hn), ⟨by simp; omega, hl, (fun h => (by cases h)), fun a ha j u hu => ?_⟩, .inr ⟨_, hd.1⟩⟩
    cases ha
    rw [List.getElem?_map, List.getElem?_take] at hu
    split at hu
    case isFalse => cases hu
    rename_i hj
    have hjz : j < zs.length := by omega
    have := hcell j hjz
    rw [List.getElem?_eq_getElem hjz] at hu
    simp only [Option.map_some, Option.some.injEq] at hu
    rw [this, ← hu]; simp [List.getD, hjz]
theorem ints_bytes (zs : List Int) (h : ∀ n ∈ zs, (Lit.int .u8 n).wf = true) : ∃ t : List UInt8, zs = t.map fun b => (b.toNat : Int) := by
  refine ⟨zs.map fun n => UInt8.ofNat n.toNat, ?_⟩
  rw [List.map_map]
  conv => lhs; rw [← List.map_id zs]
  refine List.map_congr_left fun n hn => ?_
  have := h n hn
  simp only [Lit.wf, Bool.and_eq_true, decide_eq_true_eq] at this
  have h1 : IntKind.u8.min = 0 := by decide
  have h2 : IntKind.u8.max = 255 := by decide
  simp; omega
theorem Sat.below {W w : World} {l : List Res} (h : Sat W w (Old W :: l)) : Below W.heap.size W w := ⟨h.os, h.tape, h.output, h.size, fun k hk => Sat.block_old h k hk⟩
theorem calls_true {P : Program} {f : FuncId} {args : List Value} {W : World} (h : CallP P f args W fun v w => v = .bool true ∧ Sat W w [Old W]) :
    Calls P f args.toArray W fun e w => e = .returned (.bool true) ∧ Below W.heap.size W w := by
  refine Calls.mono h fun e w' he => ?_
  obtain ⟨v, rfl, rfl, hs⟩ := he
  exact ⟨rfl, Sat.below hs⟩
theorem wf_u64 {a : Int} (h : (Lit.int .u64 a).wf = true) : 0 ≤ a ∧ a < 18446744073709551616 := by
  simp only [Lit.wf, Bool.and_eq_true, decide_eq_true_eq] at h
  have h1 : IntKind.u64.min = 0 := by decide
  have h2 : IntKind.u64.max = 18446744073709551615 := by decide
  omega
theorem wf_i64 {a : Int} (h : (Lit.int .i64 a).wf = true) : -9223372036854775808 ≤ a ∧ a < 9223372036854775808 := by
  simp only [Lit.wf, Bool.and_eq_true, decide_eq_true_eq] at h
  have h1 : IntKind.i64.min = -9223372036854775808 := by decide
  have h2 : IntKind.i64.max = 9223372036854775807 := by decide
  omega
end Go.Pk
namespace Go.Proofs.Ytfbffgcoopelfaa
open Go.ChangeShapes Go.WideShapes Go.ChangeAt Go.RowKit
theorem own : ownKnob Try.prog.godebug = none := by kernel_rfl
theorem laidOut : laidOutB Try.prog = true := by kernel_rfl
end Go.Proofs.Ytfbffgcoopelfaa
