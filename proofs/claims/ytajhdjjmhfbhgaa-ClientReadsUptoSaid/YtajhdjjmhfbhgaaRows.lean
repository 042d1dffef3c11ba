/-
  No cell of these rows narrows 'for every input' (looked for: loops, veiled, ifaces, maps, wideKeys, modest, calm, conditions, laid).
  DERIVED. THE GIVEN ROWS OF THIS SEAT. 6 by the template 'for every input the law returns true; each argument reads behind the call as it read before'; 0 by the template 'total and deterministic' (their statements: YtajhdjjmhfbhgaaTotals.lean).
  GIVEN WITH THE SEED: the statements are not yours to turn. If you find one false, say at which input.
  Laid BY PROGRAM, IN A SANDBOX (cutbox-rows.mjs): the forced cells as the released guide's own fill.sh prints them over the translation ea7bdc62a9024870… (all of the seat's roots in one cut). By AI agents, Wed Nov 11 2026. No macro, syntax, notation, axiom, sorry.
-/
import Derived.Test.YtajhdjjmhfbhgaaChecked
import GoSem.Claim
import GoSem.ClaimJoined
import GoSem.ClaimMapViews
import Derived.JoinedTies
import Derived.KernelRfl
namespace Go.Proofs.Ytajhdjjmhfbhgaa
/- THE CELL 'sum', in the pinned program and in every row, IS THE sha256 OF THE DUMP (.gsa) THAT YtajhdjjmhfbhgaaProg.lean LOADS. Nothing in Lean hashes anything: it is a label: what it is worth is what the hold of that sum in a sandbox is worth. -/
noncomputable def Try.pinned : Pinned := { name := "ytajhdjjmhfbhgaa", sum := "ea7bdc62a9024870125867d80255c1cb515bcb8f98ec22688acf3847c79fc204", checked := Try.checked }
namespace Rows
def none {H : Type} : Left H := { results := [], args := [] }

/-- 'penstocklaw19.ClientChecks': WHATEVER THE INPUT: true; the input reads as it did. -/
def clientChecksSpec : ChangeSpec := { name := "clientChecks", fn := fun _ => fun
  | [d1, d2] => { results := [.lit (.bool true)], args := [d1, d2] }
  | _ => none }
def clientChecksRow : OpenClaim := { program := "ytajhdjjmhfbhgaa", sum := "ea7bdc62a9024870125867d80255c1cb515bcb8f98ec22688acf3847c79fc204", func := "penstock/penstocklaw19.ClientChecks", spec := "clientChecks", unfollowed := true, recurses := true, apart := false }
def ClientChecksSaid : Prop := clientChecksRow.holds Try.pinned (OpenSpec.ofChange clientChecksSpec)

/-- ITS FALSE NEIGHBOUR: 'it returns false'. Refute it at one input. -/
def clientChecksWrong : ChangeSpec := { name := "clientChecks", fn := fun _ => fun
  | [d1, d2] => { results := [.lit (.bool false)], args := [d1, d2] }
  | _ => none }
def ClientChecksWrongFalsely : Prop := clientChecksRow.holds Try.pinned (OpenSpec.ofChange clientChecksWrong)

/-- 'penstocklaw19.ClientEmpty': WHATEVER THE INPUT: true; the input reads as it did. -/
def clientEmptySpec : ChangeSpec := { name := "clientEmpty", fn := fun _ => fun
  | [d] => { results := [.lit (.bool true)], args := [d] }
  | _ => none }
def clientEmptyRow : OpenClaim := { program := "ytajhdjjmhfbhgaa", sum := "ea7bdc62a9024870125867d80255c1cb515bcb8f98ec22688acf3847c79fc204", func := "penstock/penstocklaw19.ClientEmpty", spec := "clientEmpty", unfollowed := true, recurses := true, apart := false }
def ClientEmptySaid : Prop := clientEmptyRow.holds Try.pinned (OpenSpec.ofChange clientEmptySpec)

/-- ITS FALSE NEIGHBOUR: 'it returns false'. Refute it at one input. -/
def clientEmptyWrong : ChangeSpec := { name := "clientEmpty", fn := fun _ => fun
  | [d] => { results := [.lit (.bool false)], args := [d] }
  | _ => none }
def ClientEmptyWrongFalsely : Prop := clientEmptyRow.holds Try.pinned (OpenSpec.ofChange clientEmptyWrong)

/-- 'penstocklaw19.ClientReads': WHATEVER THE INPUT: true; the input reads as it did. -/
def clientReadsSpec : ChangeSpec := { name := "clientReads", fn := fun _ => fun
  | [d1, d2] => { results := [.lit (.bool true)], args := [d1, d2] }
  | _ => none }
def clientReadsRow : OpenClaim := { program := "ytajhdjjmhfbhgaa", sum := "ea7bdc62a9024870125867d80255c1cb515bcb8f98ec22688acf3847c79fc204", func := "penstock/penstocklaw19.ClientReads", spec := "clientReads", unfollowed := true, recurses := true, apart := false }
def ClientReadsSaid : Prop := clientReadsRow.holds Try.pinned (OpenSpec.ofChange clientReadsSpec)

/-- ITS FALSE NEIGHBOUR: 'it returns false'. Refute it at one input. -/
def clientReadsWrong : ChangeSpec := { name := "clientReads", fn := fun _ => fun
  | [d1, d2] => { results := [.lit (.bool false)], args := [d1, d2] }
  | _ => none }
def ClientReadsWrongFalsely : Prop := clientReadsRow.holds Try.pinned (OpenSpec.ofChange clientReadsWrong)

/-- 'penstocklaw19.ClientAsks': WHATEVER THE INPUT: true; the input reads as it did. -/
def clientAsksSpec : ChangeSpec := { name := "clientAsks", fn := fun _ => fun
  | [d1, d2, d3] => { results := [.lit (.bool true)], args := [d1, d2, d3] }
  | _ => none }
def clientAsksRow : OpenClaim := { program := "ytajhdjjmhfbhgaa", sum := "ea7bdc62a9024870125867d80255c1cb515bcb8f98ec22688acf3847c79fc204", func := "penstock/penstocklaw19.ClientAsks", spec := "clientAsks", unfollowed := true, recurses := true, apart := false }
def ClientAsksSaid : Prop := clientAsksRow.holds Try.pinned (OpenSpec.ofChange clientAsksSpec)

/-- ITS FALSE NEIGHBOUR: 'it returns false'. Refute it at one input. -/
def clientAsksWrong : ChangeSpec := { name := "clientAsks", fn := fun _ => fun
  | [d1, d2, d3] => { results := [.lit (.bool false)], args := [d1, d2, d3] }
  | _ => none }
def ClientAsksWrongFalsely : Prop := clientAsksRow.holds Try.pinned (OpenSpec.ofChange clientAsksWrong)

/-- 'penstocklaw19.ClientLearns': WHATEVER THE INPUT: true; the input reads as it did. -/
def clientLearnsSpec : ChangeSpec := { name := "clientLearns", fn := fun _ => fun
  | [d1, d2, d3, d4, d5] => { results := [.lit (.bool true)], args := [d1, d2, d3, d4, d5] }
  | _ => none }
def clientLearnsRow : OpenClaim := { program := "ytajhdjjmhfbhgaa", sum := "ea7bdc62a9024870125867d80255c1cb515bcb8f98ec22688acf3847c79fc204", func := "penstock/penstocklaw19.ClientLearns", spec := "clientLearns", unfollowed := true, recurses := true, apart := false }
def ClientLearnsSaid : Prop := clientLearnsRow.holds Try.pinned (OpenSpec.ofChange clientLearnsSpec)

/-- ITS FALSE NEIGHBOUR: 'it returns false'. Refute it at one input. -/
def clientLearnsWrong : ChangeSpec := { name := "clientLearns", fn := fun _ => fun
  | [d1, d2, d3, d4, d5] => { results := [.lit (.bool false)], args := [d1, d2, d3, d4, d5] }
  | _ => none }
def ClientLearnsWrongFalsely : Prop := clientLearnsRow.holds Try.pinned (OpenSpec.ofChange clientLearnsWrong)

/-- 'penstocklaw19.ClientNone': WHATEVER THE INPUT: true; the input reads as it did. -/
def clientNoneSpec : ChangeSpec := { name := "clientNone", fn := fun _ => fun
  | [d] => { results := [.lit (.bool true)], args := [d] }
  | _ => none }
def clientNoneRow : OpenClaim := { program := "ytajhdjjmhfbhgaa", sum := "ea7bdc62a9024870125867d80255c1cb515bcb8f98ec22688acf3847c79fc204", func := "penstock/penstocklaw19.ClientNone", spec := "clientNone", unfollowed := true, recurses := true, apart := false }
def ClientNoneSaid : Prop := clientNoneRow.holds Try.pinned (OpenSpec.ofChange clientNoneSpec)

/-- ITS FALSE NEIGHBOUR: 'it returns false'. Refute it at one input. -/
def clientNoneWrong : ChangeSpec := { name := "clientNone", fn := fun _ => fun
  | [d] => { results := [.lit (.bool false)], args := [d] }
  | _ => none }
def ClientNoneWrongFalsely : Prop := clientNoneRow.holds Try.pinned (OpenSpec.ofChange clientNoneWrong)

/- THE SECOND FORM. 'bulk': how many values and letters a reading holds, each counted each time it is reached (what is shared counts as often as it is met; a slice's spare places count too). A statement '..UptoSaid' is the law's where the arguments, and the package variables that the reading takes, are together of bulk at most 1048576: NARROWER than '..Said'. Prove '..Said' where nothing that the law and all that it calls make is longer than what came in: it says more and counts as full. Else prove '..UptoSaid'. A law counts once. -/
mutual
def uptoBulk {H : Type} : DataW H → Nat
  | .lit (.string bytes) => bytes.length + 1
  | .lit _ => 1
  | .nil => 1
  | .ptr d => uptoBulk d + 1
  | .slice elems spare => uptoBulkAll elems + uptoBulkAll spare + 1
  | .agg parts => uptoBulkAll parts + 1
  | .iface _ d => uptoBulk d + 1
  | .map entries => uptoBulkEntries entries + 1
  | .held _ => 1
def uptoBulkAll {H : Type} : List (DataW H) → Nat
  | [] => 0
  | d :: r => uptoBulk d + uptoBulkAll r
def uptoBulkEntries {H : Type} : List (Lit × DataW H) → Nat
  | [] => 0
  | x :: r => uptoBulkEntry x + uptoBulkEntries r
def uptoBulkEntry {H : Type} : Lit × DataW H → Nat
  | (.string bytes, d) => bytes.length + uptoBulk d + 1
  | (_, d) => uptoBulk d + 1
 end
def uptoSmall : (H : Type) → List (DataW H) → Bool := fun _ ds => decide (uptoBulkAll ds ≤ 1048576)
def OpenSpec.upto (s : _root_.Go.ChangeSpec) : _root_.Go.OpenSpec := { _root_.Go.OpenSpec.ofChange s with cond := some uptoSmall }

/-- 'penstocklaw19.ClientChecks', WHERE WHAT IT READS IS OF BULK AT MOST 1048576: true; the input reads as it did. -/
def clientChecksUptoRow : OpenClaim := { program := "ytajhdjjmhfbhgaa", sum := "ea7bdc62a9024870125867d80255c1cb515bcb8f98ec22688acf3847c79fc204", func := "penstock/penstocklaw19.ClientChecks", spec := "clientChecks", unfollowed := true, recurses := true, apart := false, narrowed := true }
def ClientChecksUptoSaid : Prop := clientChecksUptoRow.holds Try.pinned (OpenSpec.upto clientChecksSpec)

/-- 'penstocklaw19.ClientEmpty', WHERE WHAT IT READS IS OF BULK AT MOST 1048576: true; the input reads as it did. -/
def clientEmptyUptoRow : OpenClaim := { program := "ytajhdjjmhfbhgaa", sum := "ea7bdc62a9024870125867d80255c1cb515bcb8f98ec22688acf3847c79fc204", func := "penstock/penstocklaw19.ClientEmpty", spec := "clientEmpty", unfollowed := true, recurses := true, apart := false, narrowed := true }
def ClientEmptyUptoSaid : Prop := clientEmptyUptoRow.holds Try.pinned (OpenSpec.upto clientEmptySpec)

/-- 'penstocklaw19.ClientReads', WHERE WHAT IT READS IS OF BULK AT MOST 1048576: true; the input reads as it did. -/
def clientReadsUptoRow : OpenClaim := { program := "ytajhdjjmhfbhgaa", sum := "ea7bdc62a9024870125867d80255c1cb515bcb8f98ec22688acf3847c79fc204", func := "penstock/penstocklaw19.ClientReads", spec := "clientReads", unfollowed := true, recurses := true, apart := false, narrowed := true }
def ClientReadsUptoSaid : Prop := clientReadsUptoRow.holds Try.pinned (OpenSpec.upto clientReadsSpec)

/-- 'penstocklaw19.ClientAsks', WHERE WHAT IT READS IS OF BULK AT MOST 1048576: true; the input reads as it did. -/
def clientAsksUptoRow : OpenClaim := { program := "ytajhdjjmhfbhgaa", sum := "ea7bdc62a9024870125867d80255c1cb515bcb8f98ec22688acf3847c79fc204", func := "penstock/penstocklaw19.ClientAsks", spec := "clientAsks", unfollowed := true, recurses := true, apart := false, narrowed := true }
def ClientAsksUptoSaid : Prop := clientAsksUptoRow.holds Try.pinned (OpenSpec.upto clientAsksSpec)

/-- 'penstocklaw19.ClientLearns', WHERE WHAT IT READS IS OF BULK AT MOST 1048576: true; the input reads as it did. -/
def clientLearnsUptoRow : OpenClaim := { program := "ytajhdjjmhfbhgaa", sum := "ea7bdc62a9024870125867d80255c1cb515bcb8f98ec22688acf3847c79fc204", func := "penstock/penstocklaw19.ClientLearns", spec := "clientLearns", unfollowed := true, recurses := true, apart := false, narrowed := true }
def ClientLearnsUptoSaid : Prop := clientLearnsUptoRow.holds Try.pinned (OpenSpec.upto clientLearnsSpec)

/-- 'penstocklaw19.ClientNone', WHERE WHAT IT READS IS OF BULK AT MOST 1048576: true; the input reads as it did. -/
def clientNoneUptoRow : OpenClaim := { program := "ytajhdjjmhfbhgaa", sum := "ea7bdc62a9024870125867d80255c1cb515bcb8f98ec22688acf3847c79fc204", func := "penstock/penstocklaw19.ClientNone", spec := "clientNone", unfollowed := true, recurses := true, apart := false, narrowed := true }
def ClientNoneUptoSaid : Prop := clientNoneUptoRow.holds Try.pinned (OpenSpec.upto clientNoneSpec)

end Rows
end Go.Proofs.Ytajhdjjmhfbhgaa
