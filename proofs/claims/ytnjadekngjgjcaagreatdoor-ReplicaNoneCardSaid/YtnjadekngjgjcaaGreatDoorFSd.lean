/- The functions of the program as predicates over worlds, written by a program of mine (PkPrint); each is held against the code by the kernel. -/
import Derived.Test.YtnjadekngjgjcaaGreatDoorN
namespace Go.Proofs.YtnjadekngjgjcaaGreatDoor
open Go Go.Pk
end Go.Proofs.YtnjadekngjgjcaaGreatDoor
