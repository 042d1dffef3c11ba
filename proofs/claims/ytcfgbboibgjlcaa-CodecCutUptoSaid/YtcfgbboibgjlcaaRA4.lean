/- The rows' opener of 16-bit numbers. -/
import Derived.Test.YtcfgbboibgjlcaaRA3
namespace Go.Pk
open Go
theorem wf_u16 {a : Int} (h : (Lit.int .u16 a).wf = true) : 0 ≤ a ∧ a < 65536 := by
  simp only [Lit.wf, Bool.and_eq_true, decide_eq_true_eq] at h
  have h1 : IntKind.u16.min = 0 := by decide
  have h2 : IntKind.u16.max = 65535 := by decide
  omega
end Go.Pk
