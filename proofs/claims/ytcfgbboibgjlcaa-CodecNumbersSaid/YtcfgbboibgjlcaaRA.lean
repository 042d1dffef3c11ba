/- The rows' common facts. -/
import Derived.Test.YtcfgbboibgjlcaaPkS4
import Derived.Test.YtcfgbboibgjlcaaRows
import Derived.ProofKit
import Derived.OpenShut
import Derived.ShutString
import Derived.ChangeOld
import Derived.Below
namespace Go.Pk
open Go Go.RowKit
theorem Sat.below {W w : World} {l : List Res} (h : Sat W w (Old W :: l)) : Below W.heap.size W w := ⟨h.os, h.tape, h.output, h.size, fun k hk => Sat.block_old h k hk⟩
theorem calls_true {P : Program} {f : FuncId} {args : List Value} {W : World} (h : CallP P f args W fun v w => v = .bool true ∧ Sat W w [Old W]) :
    Calls P f args.toArray W fun e w => e = .returned (.bool true) ∧ Below W.heap.size W w := by
  refine Calls.mono h fun e w' he => ?_
  obtain ⟨v, rfl, rfl, hs⟩ := he
  exact ⟨rfl, Sat.below hs⟩
theorem wf_u64 {a : Int} (h : (Lit.int .u64 a).wf = true) : 0 ≤ a ∧ a < 18446744073709551616 := by
  simp only [Lit.wf, Bool.and_eq_true, decide_eq_true_eq] at h
  have h1 : IntKind.u64.min = 0 := by decide
  have h2 : IntKind.u64.max = 18446744073709551615 := by decide
  omega
theorem wf_i64 {a : Int} (h : (Lit.int .i64 a).wf = true) : -9223372036854775808 ≤ a ∧ a < 9223372036854775808 := by
  simp only [Lit.wf, Bool.and_eq_true, decide_eq_true_eq] at h
  have h1 : IntKind.i64.min = -9223372036854775808 := by decide
  have h2 : IntKind.i64.max = 9223372036854775807 := by decide
  omega
end Go.Pk
namespace Go.Proofs.Ytcfgbboibgjlcaa
open Go.ChangeShapes Go.WideShapes Go.ChangeAt Go.RowKit
theorem own : ownKnob Try.prog.godebug = none := by kernel_rfl
theorem laidOut : laidOutB Try.prog = true := by kernel_rfl
end Go.Proofs.Ytcfgbboibgjlcaa
