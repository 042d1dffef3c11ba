/- Layer 12: runs of the law of piles, computed: 58 to 64 proposals. -/
import Derived.Test.YtfbffgcoopelfaaRgH
namespace Go.Proofs.Ytfbffgcoopelfaa
open Go Go.Pk
theorem run_58 : allB 58 64 = true := by decide +kernel
end Go.Proofs.Ytfbffgcoopelfaa
