/- Layer 12: runs of the law of piles, computed: 48 to 57 proposals. -/
import Derived.Test.YtfbffgcoopelfaaRgH
namespace Go.Proofs.Ytfbffgcoopelfaa
open Go Go.Pk
theorem run_48 : allB 48 57 = true := by decide +kernel
end Go.Proofs.Ytfbffgcoopelfaa
