/-
  No cell of these rows narrows 'for every input' (looked for: loops, veiled, ifaces, maps, wideKeys, modest, calm, conditions, laid).
  DERIVED. THE GIVEN ROWS OF THIS SEAT. 5 by the template 'for every input the law returns true; each argument reads behind the call as it read before'; 0 by the template 'total and deterministic' (their statements: YtfbffgcoopelfaaTotals.lean).
  GIVEN WITH THE SEED: the statements are not yours to turn. If you find one false, say at which input.
  Laid BY PROGRAM, IN A SANDBOX (cutbox-rows.mjs): the forced cells as the released guide's own fill.sh prints them over the translation 19eae12bbcc42dbf… (all of the seat's roots in one cut). By AI agents, Wed Nov 11 2026. No macro, syntax, notation, axiom, sorry.
-/
import Derived.Test.YtfbffgcoopelfaaChecked
import GoSem.Claim
import GoSem.ClaimJoined
import GoSem.ClaimMapViews
import Derived.JoinedTies
import Derived.KernelRfl
namespace Go.Proofs.Ytfbffgcoopelfaa
/- THE CELL 'sum', in the pinned program and in every row, IS THE sha256 OF THE DUMP (.gsa) THAT YtfbffgcoopelfaaProg.lean LOADS. Nothing in Lean hashes anything: it is a label: what it is worth is what the hold of that sum in a sandbox is worth. -/
noncomputable def Try.pinned : Pinned := { name := "ytfbffgcoopelfaa", sum := "19eae12bbcc42dbfe2a2ac34ed79247b42acba1a20e94e4ebdf19040e26687ab", checked := Try.checked }
namespace Rows
def none {H : Type} : Left H := { results := [], args := [] }

/-- 'penstocklaw12.RaftKeeps': WHATEVER THE INPUT: true; the input reads as it did. -/
def raftKeepsSpec : ChangeSpec := { name := "raftKeeps", fn := fun _ => fun
  | [d1, d2, d3] => { results := [.lit (.bool true)], args := [d1, d2, d3] }
  | _ => none }
def raftKeepsRow : OpenClaim := { program := "ytfbffgcoopelfaa", sum := "19eae12bbcc42dbfe2a2ac34ed79247b42acba1a20e94e4ebdf19040e26687ab", func := "penstock/penstocklaw12.RaftKeeps", spec := "raftKeeps", recurses := true, apart := false }
def RaftKeepsSaid : Prop := raftKeepsRow.holds Try.pinned (OpenSpec.ofChange raftKeepsSpec)

/-- ITS FALSE NEIGHBOUR: 'it returns false'. Refute it at one input. -/
def raftKeepsWrong : ChangeSpec := { name := "raftKeeps", fn := fun _ => fun
  | [d1, d2, d3] => { results := [.lit (.bool false)], args := [d1, d2, d3] }
  | _ => none }
def RaftKeepsWrongFalsely : Prop := raftKeepsRow.holds Try.pinned (OpenSpec.ofChange raftKeepsWrong)

/-- 'penstocklaw12.RaftOwn': WHATEVER THE INPUT: true; the input reads as it did. -/
def raftOwnSpec : ChangeSpec := { name := "raftOwn", fn := fun _ => fun
  | [d] => { results := [.lit (.bool true)], args := [d] }
  | _ => none }
def raftOwnRow : OpenClaim := { program := "ytfbffgcoopelfaa", sum := "19eae12bbcc42dbfe2a2ac34ed79247b42acba1a20e94e4ebdf19040e26687ab", func := "penstock/penstocklaw12.RaftOwn", spec := "raftOwn", recurses := true, apart := false }
def RaftOwnSaid : Prop := raftOwnRow.holds Try.pinned (OpenSpec.ofChange raftOwnSpec)

/-- ITS FALSE NEIGHBOUR: 'it returns false'. Refute it at one input. -/
def raftOwnWrong : ChangeSpec := { name := "raftOwn", fn := fun _ => fun
  | [d] => { results := [.lit (.bool false)], args := [d] }
  | _ => none }
def RaftOwnWrongFalsely : Prop := raftOwnRow.holds Try.pinned (OpenSpec.ofChange raftOwnWrong)

/-- 'penstocklaw12.RaftGroup': WHATEVER THE INPUT: true; the input reads as it did. -/
def raftGroupSpec : ChangeSpec := { name := "raftGroup", fn := fun _ => fun
  | [d1, d2] => { results := [.lit (.bool true)], args := [d1, d2] }
  | _ => none }
def raftGroupRow : OpenClaim := { program := "ytfbffgcoopelfaa", sum := "19eae12bbcc42dbfe2a2ac34ed79247b42acba1a20e94e4ebdf19040e26687ab", func := "penstock/penstocklaw12.RaftGroup", spec := "raftGroup", recurses := true, apart := false }
def RaftGroupSaid : Prop := raftGroupRow.holds Try.pinned (OpenSpec.ofChange raftGroupSpec)

/-- ITS FALSE NEIGHBOUR: 'it returns false'. Refute it at one input. -/
def raftGroupWrong : ChangeSpec := { name := "raftGroup", fn := fun _ => fun
  | [d1, d2] => { results := [.lit (.bool false)], args := [d1, d2] }
  | _ => none }
def RaftGroupWrongFalsely : Prop := raftGroupRow.holds Try.pinned (OpenSpec.ofChange raftGroupWrong)

/-- 'penstocklaw12.RaftPiles': WHATEVER THE INPUT: true; the input reads as it did. -/
def raftPilesSpec : ChangeSpec := { name := "raftPiles", fn := fun _ => fun
  | [d] => { results := [.lit (.bool true)], args := [d] }
  | _ => none }
def raftPilesRow : OpenClaim := { program := "ytfbffgcoopelfaa", sum := "19eae12bbcc42dbfe2a2ac34ed79247b42acba1a20e94e4ebdf19040e26687ab", func := "penstock/penstocklaw12.RaftPiles", spec := "raftPiles", recurses := true, apart := false }
def RaftPilesSaid : Prop := raftPilesRow.holds Try.pinned (OpenSpec.ofChange raftPilesSpec)

/-- ITS FALSE NEIGHBOUR: 'it returns false'. Refute it at one input. -/
def raftPilesWrong : ChangeSpec := { name := "raftPiles", fn := fun _ => fun
  | [d] => { results := [.lit (.bool false)], args := [d] }
  | _ => none }
def RaftPilesWrongFalsely : Prop := raftPilesRow.holds Try.pinned (OpenSpec.ofChange raftPilesWrong)

/-- 'penstocklaw12.RaftNone': WHATEVER THE INPUT: true; the input reads as it did. -/
def raftNoneSpec : ChangeSpec := { name := "raftNone", fn := fun _ => fun
  | [d] => { results := [.lit (.bool true)], args := [d] }
  | _ => none }
def raftNoneRow : OpenClaim := { program := "ytfbffgcoopelfaa", sum := "19eae12bbcc42dbfe2a2ac34ed79247b42acba1a20e94e4ebdf19040e26687ab", func := "penstock/penstocklaw12.RaftNone", spec := "raftNone", recurses := true, apart := false }
def RaftNoneSaid : Prop := raftNoneRow.holds Try.pinned (OpenSpec.ofChange raftNoneSpec)

/-- ITS FALSE NEIGHBOUR: 'it returns false'. Refute it at one input. -/
def raftNoneWrong : ChangeSpec := { name := "raftNone", fn := fun _ => fun
  | [d] => { results := [.lit (.bool false)], args := [d] }
  | _ => none }
def RaftNoneWrongFalsely : Prop := raftNoneRow.holds Try.pinned (OpenSpec.ofChange raftNoneWrong)

/- THE SECOND FORM. 'bulk': how many values and letters a reading holds, each counted each time it is reached (what is shared counts as often as it is met; a slice's spare places count too). A statement '..UptoSaid' is the law's where the arguments, and the package variables that the reading takes, are together of bulk at most 1048576: NARROWER than '..Said'. Prove '..Said' where nothing that the law and all that it calls make is longer than what came in: it says more and counts as full. Else prove '..UptoSaid'. A law counts once. -/
mutual
def uptoBulk {H : Type} : DataW H → Nat
  | .lit (.string bytes) => bytes.length + 1
  | .lit _ => 1
  | .nil => 1
  | .ptr d => uptoBulk d + 1
  | .slice elems spare => uptoBulkAll elems + uptoBulkAll spare + 1
  | .agg parts => uptoBulkAll parts + 1
  | .iface _ d => uptoBulk d + 1
  | .map entries => uptoBulkEntries entries + 1
  | .held _ => 1
def uptoBulkAll {H : Type} : List (DataW H) → Nat
  | [] => 0
  | d :: r => uptoBulk d + uptoBulkAll r
def uptoBulkEntries {H : Type} : List (Lit × DataW H) → Nat
  | [] => 0
  | x :: r => uptoBulkEntry x + uptoBulkEntries r
def uptoBulkEntry {H : Type} : Lit × DataW H → Nat
  | (.string bytes, d) => bytes.length + uptoBulk d + 1
  | (_, d) => uptoBulk d + 1
 end
def uptoSmall : (H : Type) → List (DataW H) → Bool := fun _ ds => decide (uptoBulkAll ds ≤ 1048576)
def OpenSpec.upto (s : _root_.Go.ChangeSpec) : _root_.Go.OpenSpec := { _root_.Go.OpenSpec.ofChange s with cond := some uptoSmall }

/-- 'penstocklaw12.RaftKeeps', WHERE WHAT IT READS IS OF BULK AT MOST 1048576: true; the input reads as it did. -/
def raftKeepsUptoRow : OpenClaim := { program := "ytfbffgcoopelfaa", sum := "19eae12bbcc42dbfe2a2ac34ed79247b42acba1a20e94e4ebdf19040e26687ab", func := "penstock/penstocklaw12.RaftKeeps", spec := "raftKeeps", recurses := true, apart := false, narrowed := true }
def RaftKeepsUptoSaid : Prop := raftKeepsUptoRow.holds Try.pinned (OpenSpec.upto raftKeepsSpec)

/-- 'penstocklaw12.RaftOwn', WHERE WHAT IT READS IS OF BULK AT MOST 1048576: true; the input reads as it did. -/
def raftOwnUptoRow : OpenClaim := { program := "ytfbffgcoopelfaa", sum := "19eae12bbcc42dbfe2a2ac34ed79247b42acba1a20e94e4ebdf19040e26687ab", func := "penstock/penstocklaw12.RaftOwn", spec := "raftOwn", recurses := true, apart := false, narrowed := true }
def RaftOwnUptoSaid : Prop := raftOwnUptoRow.holds Try.pinned (OpenSpec.upto raftOwnSpec)

/-- 'penstocklaw12.RaftGroup', WHERE WHAT IT READS IS OF BULK AT MOST 1048576: true; the input reads as it did. -/
def raftGroupUptoRow : OpenClaim := { program := "ytfbffgcoopelfaa", sum := "19eae12bbcc42dbfe2a2ac34ed79247b42acba1a20e94e4ebdf19040e26687ab", func := "penstock/penstocklaw12.RaftGroup", spec := "raftGroup", recurses := true, apart := false, narrowed := true }
def RaftGroupUptoSaid : Prop := raftGroupUptoRow.holds Try.pinned (OpenSpec.upto raftGroupSpec)

/-- 'penstocklaw12.RaftPiles', WHERE WHAT IT READS IS OF BULK AT MOST 1048576: true; the input reads as it did. -/
def raftPilesUptoRow : OpenClaim := { program := "ytfbffgcoopelfaa", sum := "19eae12bbcc42dbfe2a2ac34ed79247b42acba1a20e94e4ebdf19040e26687ab", func := "penstock/penstocklaw12.RaftPiles", spec := "raftPiles", recurses := true, apart := false, narrowed := true }
def RaftPilesUptoSaid : Prop := raftPilesUptoRow.holds Try.pinned (OpenSpec.upto raftPilesSpec)

/-- 'penstocklaw12.RaftNone', WHERE WHAT IT READS IS OF BULK AT MOST 1048576: true; the input reads as it did. -/
def raftNoneUptoRow : OpenClaim := { program := "ytfbffgcoopelfaa", sum := "19eae12bbcc42dbfe2a2ac34ed79247b42acba1a20e94e4ebdf19040e26687ab", func := "penstock/penstocklaw12.RaftNone", spec := "raftNone", recurses := true, apart := false, narrowed := true }
def RaftNoneUptoSaid : Prop := raftNoneUptoRow.holds Try.pinned (OpenSpec.upto raftNoneSpec)

end Rows
end Go.Proofs.Ytfbffgcoopelfaa
