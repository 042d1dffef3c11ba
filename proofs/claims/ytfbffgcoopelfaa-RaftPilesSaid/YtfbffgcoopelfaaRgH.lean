/- Layer 12: the runs of the law of piles, computed. -/
import Derived.Test.YtfbffgcoopelfaaRgG
namespace Go.Pk
open Go
def endB (g : Gp) : Bool := Nat.ble 2 g.nodes.length && fitR (g.node 1) && decide ((g.node 1).commit = (g.node 1).last) && decide (((g.node 1).propose []).2.2 = 0) && !g.wrong
def lastB (gp : Gp) : Bool := takeOkB gp 1 && (gp.take 1).flight.all (fun m => Nat.ble m.ents.length 16) && roundsC { gp.take 1 with flight := [] } 2 0 (fun g => roundS g 2 (fun g' => eqGp g' g) && endB g) 15
/-- proposals, with what the walk needs; then what follows each of so many -/
def chainB (g : Gp) (j m : Nat) : Nat → Bool
  | 0 => Nat.ble (j + 1) m || lastB g
  | n + 1 => (Nat.ble (j + 1) m || lastB g) && (Nat.ble 2 g.nodes.length && fitR (g.node 1) && Nat.ble (j + 1) 64 && decide (((g.node 1).propose [UInt8.ofNat j]).2.2 = 0) && frR ((g.node 1).propose [UInt8.ofNat j]).1 fun r => chainB { g with nodes := g.nodes.set 1 r } (j + 1) m n)
def stopB (g : Gp) : Bool := Nat.ble 2 g.nodes.length && fitR (g.node 1) && decide ((g.node 1).role = 3) && decide ((g.node 1).last - (g.node 1).commit ≥ 64)
def endsB (g : Gp) (j : Nat) : Nat → Bool
  | 0 => stopB g
  | n + 1 => frR ((g.node 1).propose [UInt8.ofNat j]).1 fun r => endsB { g with nodes := g.nodes.set 1 r } (j + 1) n
def headB (g : Gp) : Bool := Nat.beq g.nodes.length 2 && !decide ((g.node 0).role = 3) && decide ((g.node 1).role = 3) && decide ((g.node 1).last = 1) && decide ((g.node 1).commit = 1)
def allB (m n : Nat) : Bool := roundsC (Gp.begin' 2) 2 0 (fun g => headB g && chainB { g with flight := [] } 0 m n) 20
def finB : Bool := roundsC (Gp.begin' 2) 2 0 (fun g => headB g && endsB { g with flight := [] } 0 64) 20
end Go.Pk
namespace Go.Proofs.Ytfbffgcoopelfaa
open Go Go.Pk
theorem run_fin : finB = true := by decide +kernel
theorem run_0 : allB 0 30 = true := by decide +kernel
end Go.Proofs.Ytfbffgcoopelfaa
