/- Layer 12 in plain Lean: a group of nodes. -/
import Derived.Test.YtfbffgcoopelfaaQR
namespace Go.Pk
open Go
structure Gp where
  nodes : List Rs
  kept : List Hd
  flight : List Mg
  told : List En
  heads : List Int
  applied : List Int
  wrong : Bool
namespace Gp
def rd (i n : Int) : Int := (i.tmod n + n).tmod n
def rs0 : Rs := Rs.new 0 1 ⟨0, -1, 0, 0, [], []⟩
def node (g : Gp) (i : Nat) : Rs := match g.nodes[i]? with | some r => r | none => rs0
def app (g : Gp) (i : Nat) : Int := match g.applied[i]? with | some x => x | none => 0
def tell (g : Gp) (c : En) : Gp :=
  let g1 := { g with told := g.told ++ List.replicate (c.1 - g.told.length).toNat (0, []) }
  if c.1 < 1 then { g1 with wrong := true } else
  match g1.told[(c.1 - 1).toNat]? with
  | some e => if e.1 ≠ 0 ∧ e.2 ≠ c.2 then { g1 with wrong := true } else { g1 with told := g1.told.set (c.1 - 1).toNat c }
  | none => g1
def hear (i : Nat) (g : Gp) (c : En) : Gp :=
  let g1 := if c.1 ≠ g.app i + 1 then { g with wrong := true } else g
  tell { g1 with applied := g1.applied.set i c.1 } c
def head (g : Gp) (i : Nat) (t : Int) : Gp :=
  let h := g.heads ++ List.replicate (t + 1 - g.heads.length).toNat (-1)
  { g with wrong := g.wrong || (decide (Rs.at_ h t ≥ 0) && decide (Rs.at_ h t ≠ i)), heads := h.set t.toNat i }
def take0 (g : Gp) (i : Nat) : Gp :=
  let r := g.node i
  let g1 := { g with nodes := g.nodes.set i (Rs.taken r).2, kept := if r.save then g.kept.set i r.hd else g.kept }
  if r.restore then { g1 with applied := g1.applied.set i (match g1.kept[i]? with | some h => h.base | none => 0) } else g1
def sent (g : Gp) (ms : List Mg) : Gp := if g.flight.length < 400 then { g with flight := g.flight ++ ms } else g
def heads' (g : Gp) (i : Nat) : Gp :=
  let r := g.node i
  if r.role = 3 ∧ 0 ≤ r.hd.term ∧ r.hd.term < 4000 then g.head i r.hd.term else g
def take (g : Gp) (i : Nat) : Gp :=
  let r := g.node i
  ((((Rs.taken r).1.commits.foldl (hear i) (g.take0 i)).sent r.msgs).heads' i)
def tick (g : Gp) (i : Nat) (d : Int) : Gp := ({ g with nodes := g.nodes.set i ((g.node i).tick d) }).take i
/-- the first message is delivered -/
def give (g : Gp) : Gp :=
  match g.flight with
  | [] => g
  | m :: ms => let g1 := { g with flight := ms }
    if m.to < 0 ∨ m.to ≥ g.nodes.length then g1 else ({ g1 with nodes := g1.nodes.set m.to.toNat ((g1.node m.to.toNat).step m) }).take m.to.toNat
def gives (g : Gp) : Nat → Gp
  | 0 => g
  | k + 1 => g.give.gives k
def ticks (g : Gp) (r k : Nat) : Nat → Gp
  | 0 => g
  | n + 1 => (g.tick (k - (n + 1)) ((k - (n + 1) : Nat) + r : Nat)).ticks r k n
def round (g : Gp) (r k : Nat) : Gp := (g.gives g.flight.length).ticks r k k
def rounds (g : Gp) (k r : Nat) : Nat → Gp
  | 0 => g
  | n + 1 => (g.round r k).rounds k (r + 1) n
def begin' (n : Nat) : Gp := ⟨(List.range n).map fun (i : Nat) => Rs.new (i : Int) n ⟨0, -1, 0, 0, [], []⟩, List.replicate n ⟨0, -1, 0, 0, [], []⟩, [], [], [], List.replicate n 0, false⟩
def props (g : Gp) (i : Nat) (k : Nat) : Nat → Gp
  | 0 => g
  | n + 1 => ({ g with nodes := g.nodes.set i ((g.node i).propose [UInt8.ofNat k]).1 }).props i (k + 1) n
end Gp
end Go.Pk
