/- Layer 12: runs of the law of piles, computed: 31 to 47 proposals. -/
import Derived.Test.YtfbffgcoopelfaaRgH
namespace Go.Proofs.Ytfbffgcoopelfaa
open Go Go.Pk
theorem run_31 : allB 31 47 = true := by decide +kernel
end Go.Proofs.Ytfbffgcoopelfaa
