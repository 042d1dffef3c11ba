/-
  No cell of these rows narrows 'for every input' (looked for: loops, veiled, ifaces, maps, wideKeys, modest, calm, conditions, laid).
  DERIVED. THE GIVEN ROWS OF THIS SEAT. 13 by the template 'for every input the law returns true; each argument reads behind the call as it read before'; 0 by the template 'total and deterministic' (their statements: YtcfgbboibgjlcaaTotals.lean).
  GIVEN WITH THE SEED: the statements are not yours to turn. If you find one false, say at which input.
  Laid BY PROGRAM, IN A SANDBOX (cutbox-rows.mjs): the forced cells as the released guide's own fill.sh prints them over the translation 5ee441b72683d819… (all of the seat's roots in one cut). By AI agents, Wed Nov 11 2026. No macro, syntax, notation, axiom, sorry.
-/
import Derived.Test.YtcfgbboibgjlcaaChecked
import GoSem.Claim
import GoSem.ClaimJoined
import GoSem.ClaimMapViews
import Derived.JoinedTies
import Derived.KernelRfl
namespace Go.Proofs.Ytcfgbboibgjlcaa
/- THE CELL 'sum', in the pinned program and in every row, IS THE sha256 OF THE DUMP (.gsa) THAT YtcfgbboibgjlcaaProg.lean LOADS. Nothing in Lean hashes anything: it is a label: what it is worth is what the hold of that sum in a sandbox is worth. -/
noncomputable def Try.pinned : Pinned := { name := "ytcfgbboibgjlcaa", sum := "5ee441b72683d8198e69fd1dabd8bb7d2c148750019196cd6f8f8d140b9ed5ef", checked := Try.checked }
namespace Rows
def none {H : Type} : Left H := { results := [], args := [] }

/-- 'penstocklaw03.CodecNumbers': WHATEVER THE INPUT: true; the input reads as it did. -/
def codecNumbersSpec : ChangeSpec := { name := "codecNumbers", fn := fun _ => fun
  | [d1, d2, d3] => { results := [.lit (.bool true)], args := [d1, d2, d3] }
  | _ => none }
def codecNumbersRow : OpenClaim := { program := "ytcfgbboibgjlcaa", sum := "5ee441b72683d8198e69fd1dabd8bb7d2c148750019196cd6f8f8d140b9ed5ef", func := "penstock/penstocklaw03.CodecNumbers", spec := "codecNumbers", apart := false }
def CodecNumbersSaid : Prop := codecNumbersRow.holds Try.pinned (OpenSpec.ofChange codecNumbersSpec)

/-- ITS FALSE NEIGHBOUR: 'it returns false'. Refute it at one input. -/
def codecNumbersWrong : ChangeSpec := { name := "codecNumbers", fn := fun _ => fun
  | [d1, d2, d3] => { results := [.lit (.bool false)], args := [d1, d2, d3] }
  | _ => none }
def CodecNumbersWrongFalsely : Prop := codecNumbersRow.holds Try.pinned (OpenSpec.ofChange codecNumbersWrong)

/-- 'penstocklaw03.CodecLays': WHATEVER THE INPUT: true; the input reads as it did. -/
def codecLaysSpec : ChangeSpec := { name := "codecLays", fn := fun _ => fun
  | [d] => { results := [.lit (.bool true)], args := [d] }
  | _ => none }
def codecLaysRow : OpenClaim := { program := "ytcfgbboibgjlcaa", sum := "5ee441b72683d8198e69fd1dabd8bb7d2c148750019196cd6f8f8d140b9ed5ef", func := "penstock/penstocklaw03.CodecLays", spec := "codecLays", apart := false }
def CodecLaysSaid : Prop := codecLaysRow.holds Try.pinned (OpenSpec.ofChange codecLaysSpec)

/-- ITS FALSE NEIGHBOUR: 'it returns false'. Refute it at one input. -/
def codecLaysWrong : ChangeSpec := { name := "codecLays", fn := fun _ => fun
  | [d] => { results := [.lit (.bool false)], args := [d] }
  | _ => none }
def CodecLaysWrongFalsely : Prop := codecLaysRow.holds Try.pinned (OpenSpec.ofChange codecLaysWrong)

/-- 'penstocklaw03.CodecOwn': WHATEVER THE INPUT: true; the input reads as it did. -/
def codecOwnSpec : ChangeSpec := { name := "codecOwn", fn := fun _ => fun
  | [d1, d2] => { results := [.lit (.bool true)], args := [d1, d2] }
  | _ => none }
def codecOwnRow : OpenClaim := { program := "ytcfgbboibgjlcaa", sum := "5ee441b72683d8198e69fd1dabd8bb7d2c148750019196cd6f8f8d140b9ed5ef", func := "penstock/penstocklaw03.CodecOwn", spec := "codecOwn", apart := false }
def CodecOwnSaid : Prop := codecOwnRow.holds Try.pinned (OpenSpec.ofChange codecOwnSpec)

/-- ITS FALSE NEIGHBOUR: 'it returns false'. Refute it at one input. -/
def codecOwnWrong : ChangeSpec := { name := "codecOwn", fn := fun _ => fun
  | [d1, d2] => { results := [.lit (.bool false)], args := [d1, d2] }
  | _ => none }
def CodecOwnWrongFalsely : Prop := codecOwnRow.holds Try.pinned (OpenSpec.ofChange codecOwnWrong)

/-- 'penstocklaw03.CodecTakes': WHATEVER THE INPUT: true; the input reads as it did. -/
def codecTakesSpec : ChangeSpec := { name := "codecTakes", fn := fun _ => fun
  | [d1, d2] => { results := [.lit (.bool true)], args := [d1, d2] }
  | _ => none }
def codecTakesRow : OpenClaim := { program := "ytcfgbboibgjlcaa", sum := "5ee441b72683d8198e69fd1dabd8bb7d2c148750019196cd6f8f8d140b9ed5ef", func := "penstock/penstocklaw03.CodecTakes", spec := "codecTakes", apart := false }
def CodecTakesSaid : Prop := codecTakesRow.holds Try.pinned (OpenSpec.ofChange codecTakesSpec)

/-- ITS FALSE NEIGHBOUR: 'it returns false'. Refute it at one input. -/
def codecTakesWrong : ChangeSpec := { name := "codecTakes", fn := fun _ => fun
  | [d1, d2] => { results := [.lit (.bool false)], args := [d1, d2] }
  | _ => none }
def CodecTakesWrongFalsely : Prop := codecTakesRow.holds Try.pinned (OpenSpec.ofChange codecTakesWrong)

/-- 'penstocklaw03.CodecBack': WHATEVER THE INPUT: true; the input reads as it did. -/
def codecBackSpec : ChangeSpec := { name := "codecBack", fn := fun _ => fun
  | [d1, d2] => { results := [.lit (.bool true)], args := [d1, d2] }
  | _ => none }
def codecBackRow : OpenClaim := { program := "ytcfgbboibgjlcaa", sum := "5ee441b72683d8198e69fd1dabd8bb7d2c148750019196cd6f8f8d140b9ed5ef", func := "penstock/penstocklaw03.CodecBack", spec := "codecBack", apart := false }
def CodecBackSaid : Prop := codecBackRow.holds Try.pinned (OpenSpec.ofChange codecBackSpec)

/-- ITS FALSE NEIGHBOUR: 'it returns false'. Refute it at one input. -/
def codecBackWrong : ChangeSpec := { name := "codecBack", fn := fun _ => fun
  | [d1, d2] => { results := [.lit (.bool false)], args := [d1, d2] }
  | _ => none }
def CodecBackWrongFalsely : Prop := codecBackRow.holds Try.pinned (OpenSpec.ofChange codecBackWrong)

/-- 'penstocklaw03.CodecCut': WHATEVER THE INPUT: true; the input reads as it did. -/
def codecCutSpec : ChangeSpec := { name := "codecCut", fn := fun _ => fun
  | [d1, d2] => { results := [.lit (.bool true)], args := [d1, d2] }
  | _ => none }
def codecCutRow : OpenClaim := { program := "ytcfgbboibgjlcaa", sum := "5ee441b72683d8198e69fd1dabd8bb7d2c148750019196cd6f8f8d140b9ed5ef", func := "penstock/penstocklaw03.CodecCut", spec := "codecCut", apart := false }
def CodecCutSaid : Prop := codecCutRow.holds Try.pinned (OpenSpec.ofChange codecCutSpec)

/-- ITS FALSE NEIGHBOUR: 'it returns false'. Refute it at one input. -/
def codecCutWrong : ChangeSpec := { name := "codecCut", fn := fun _ => fun
  | [d1, d2] => { results := [.lit (.bool false)], args := [d1, d2] }
  | _ => none }
def CodecCutWrongFalsely : Prop := codecCutRow.holds Try.pinned (OpenSpec.ofChange codecCutWrong)

/-- 'penstocklaw03.CodecNone': WHATEVER THE INPUT: true; the input reads as it did. -/
def codecNoneSpec : ChangeSpec := { name := "codecNone", fn := fun _ => fun
  | [d] => { results := [.lit (.bool true)], args := [d] }
  | _ => none }
def codecNoneRow : OpenClaim := { program := "ytcfgbboibgjlcaa", sum := "5ee441b72683d8198e69fd1dabd8bb7d2c148750019196cd6f8f8d140b9ed5ef", func := "penstock/penstocklaw03.CodecNone", spec := "codecNone", apart := false }
def CodecNoneSaid : Prop := codecNoneRow.holds Try.pinned (OpenSpec.ofChange codecNoneSpec)

/-- ITS FALSE NEIGHBOUR: 'it returns false'. Refute it at one input. -/
def codecNoneWrong : ChangeSpec := { name := "codecNone", fn := fun _ => fun
  | [d] => { results := [.lit (.bool false)], args := [d] }
  | _ => none }
def CodecNoneWrongFalsely : Prop := codecNoneRow.holds Try.pinned (OpenSpec.ofChange codecNoneWrong)

/-- 'penstocklaw07.BatchReads': WHATEVER THE INPUT: true; the input reads as it did. -/
def batchReadsSpec : ChangeSpec := { name := "batchReads", fn := fun _ => fun
  | [d] => { results := [.lit (.bool true)], args := [d] }
  | _ => none }
def batchReadsRow : OpenClaim := { program := "ytcfgbboibgjlcaa", sum := "5ee441b72683d8198e69fd1dabd8bb7d2c148750019196cd6f8f8d140b9ed5ef", func := "penstock/penstocklaw07.BatchReads", spec := "batchReads", apart := false }
def BatchReadsSaid : Prop := batchReadsRow.holds Try.pinned (OpenSpec.ofChange batchReadsSpec)

/-- ITS FALSE NEIGHBOUR: 'it returns false'. Refute it at one input. -/
def batchReadsWrong : ChangeSpec := { name := "batchReads", fn := fun _ => fun
  | [d] => { results := [.lit (.bool false)], args := [d] }
  | _ => none }
def BatchReadsWrongFalsely : Prop := batchReadsRow.holds Try.pinned (OpenSpec.ofChange batchReadsWrong)

/-- 'penstocklaw07.BatchBack': WHATEVER THE INPUT: true; the input reads as it did. -/
def batchBackSpec : ChangeSpec := { name := "batchBack", fn := fun _ => fun
  | [d1, d2] => { results := [.lit (.bool true)], args := [d1, d2] }
  | _ => none }
def batchBackRow : OpenClaim := { program := "ytcfgbboibgjlcaa", sum := "5ee441b72683d8198e69fd1dabd8bb7d2c148750019196cd6f8f8d140b9ed5ef", func := "penstock/penstocklaw07.BatchBack", spec := "batchBack", apart := false }
def BatchBackSaid : Prop := batchBackRow.holds Try.pinned (OpenSpec.ofChange batchBackSpec)

/-- ITS FALSE NEIGHBOUR: 'it returns false'. Refute it at one input. -/
def batchBackWrong : ChangeSpec := { name := "batchBack", fn := fun _ => fun
  | [d1, d2] => { results := [.lit (.bool false)], args := [d1, d2] }
  | _ => none }
def BatchBackWrongFalsely : Prop := batchBackRow.holds Try.pinned (OpenSpec.ofChange batchBackWrong)

/-- 'penstocklaw07.BatchCut': WHATEVER THE INPUT: true; the input reads as it did. -/
def batchCutSpec : ChangeSpec := { name := "batchCut", fn := fun _ => fun
  | [d1, d2, d3] => { results := [.lit (.bool true)], args := [d1, d2, d3] }
  | _ => none }
def batchCutRow : OpenClaim := { program := "ytcfgbboibgjlcaa", sum := "5ee441b72683d8198e69fd1dabd8bb7d2c148750019196cd6f8f8d140b9ed5ef", func := "penstock/penstocklaw07.BatchCut", spec := "batchCut", apart := false }
def BatchCutSaid : Prop := batchCutRow.holds Try.pinned (OpenSpec.ofChange batchCutSpec)

/-- ITS FALSE NEIGHBOUR: 'it returns false'. Refute it at one input. -/
def batchCutWrong : ChangeSpec := { name := "batchCut", fn := fun _ => fun
  | [d1, d2, d3] => { results := [.lit (.bool false)], args := [d1, d2, d3] }
  | _ => none }
def BatchCutWrongFalsely : Prop := batchCutRow.holds Try.pinned (OpenSpec.ofChange batchCutWrong)

/-- 'penstocklaw07.BatchApart': WHATEVER THE INPUT: true; the input reads as it did. -/
def batchApartSpec : ChangeSpec := { name := "batchApart", fn := fun _ => fun
  | [d1, d2] => { results := [.lit (.bool true)], args := [d1, d2] }
  | _ => none }
def batchApartRow : OpenClaim := { program := "ytcfgbboibgjlcaa", sum := "5ee441b72683d8198e69fd1dabd8bb7d2c148750019196cd6f8f8d140b9ed5ef", func := "penstock/penstocklaw07.BatchApart", spec := "batchApart", apart := false }
def BatchApartSaid : Prop := batchApartRow.holds Try.pinned (OpenSpec.ofChange batchApartSpec)

/-- ITS FALSE NEIGHBOUR: 'it returns false'. Refute it at one input. -/
def batchApartWrong : ChangeSpec := { name := "batchApart", fn := fun _ => fun
  | [d1, d2] => { results := [.lit (.bool false)], args := [d1, d2] }
  | _ => none }
def BatchApartWrongFalsely : Prop := batchApartRow.holds Try.pinned (OpenSpec.ofChange batchApartWrong)

/-- 'penstocklaw07.BatchChecks': WHATEVER THE INPUT: true; the input reads as it did. -/
def batchChecksSpec : ChangeSpec := { name := "batchChecks", fn := fun _ => fun
  | [d] => { results := [.lit (.bool true)], args := [d] }
  | _ => none }
def batchChecksRow : OpenClaim := { program := "ytcfgbboibgjlcaa", sum := "5ee441b72683d8198e69fd1dabd8bb7d2c148750019196cd6f8f8d140b9ed5ef", func := "penstock/penstocklaw07.BatchChecks", spec := "batchChecks", apart := false }
def BatchChecksSaid : Prop := batchChecksRow.holds Try.pinned (OpenSpec.ofChange batchChecksSpec)

/-- ITS FALSE NEIGHBOUR: 'it returns false'. Refute it at one input. -/
def batchChecksWrong : ChangeSpec := { name := "batchChecks", fn := fun _ => fun
  | [d] => { results := [.lit (.bool false)], args := [d] }
  | _ => none }
def BatchChecksWrongFalsely : Prop := batchChecksRow.holds Try.pinned (OpenSpec.ofChange batchChecksWrong)

/-- 'penstocklaw07.BatchMarks': WHATEVER THE INPUT: true; the input reads as it did. -/
def batchMarksSpec : ChangeSpec := { name := "batchMarks", fn := fun _ => fun
  | [d1, d2, d3, d4, d5] => { results := [.lit (.bool true)], args := [d1, d2, d3, d4, d5] }
  | _ => none }
def batchMarksRow : OpenClaim := { program := "ytcfgbboibgjlcaa", sum := "5ee441b72683d8198e69fd1dabd8bb7d2c148750019196cd6f8f8d140b9ed5ef", func := "penstock/penstocklaw07.BatchMarks", spec := "batchMarks", apart := false }
def BatchMarksSaid : Prop := batchMarksRow.holds Try.pinned (OpenSpec.ofChange batchMarksSpec)

/-- ITS FALSE NEIGHBOUR: 'it returns false'. Refute it at one input. -/
def batchMarksWrong : ChangeSpec := { name := "batchMarks", fn := fun _ => fun
  | [d1, d2, d3, d4, d5] => { results := [.lit (.bool false)], args := [d1, d2, d3, d4, d5] }
  | _ => none }
def BatchMarksWrongFalsely : Prop := batchMarksRow.holds Try.pinned (OpenSpec.ofChange batchMarksWrong)

/- THE SECOND FORM. 'bulk': how many values and letters a reading holds, each counted each time it is reached (what is shared counts as often as it is met; a slice's spare places count too). A statement '..UptoSaid' is the law's where the arguments, and the package variables that the reading takes, are together of bulk at most 1048576: NARROWER than '..Said'. Prove '..Said' where nothing that the law and all that it calls make is longer than what came in: it says more and counts as full. Else prove '..UptoSaid'. A law counts once. -/
mutual
def uptoBulk {H : Type} : DataW H → Nat
  | .lit (.string bytes) => bytes.length + 1
  | .lit _ => 1
  | .nil => 1
  | .ptr d => uptoBulk d + 1
  | .slice elems spare => uptoBulkAll elems + uptoBulkAll spare + 1
  | .agg parts => uptoBulkAll parts + 1
  | .iface _ d => uptoBulk d + 1
  | .map entries => uptoBulkEntries entries + 1
  | .held _ => 1
def uptoBulkAll {H : Type} : List (DataW H) → Nat
  | [] => 0
  | d :: r => uptoBulk d + uptoBulkAll r
def uptoBulkEntries {H : Type} : List (Lit × DataW H) → Nat
  | [] => 0
  | x :: r => uptoBulkEntry x + uptoBulkEntries r
def uptoBulkEntry {H : Type} : Lit × DataW H → Nat
  | (.string bytes, d) => bytes.length + uptoBulk d + 1
  | (_, d) => uptoBulk d + 1
 end
def uptoSmall : (H : Type) → List (DataW H) → Bool := fun _ ds => decide (uptoBulkAll ds ≤ 1048576)
def OpenSpec.upto (s : _root_.Go.ChangeSpec) : _root_.Go.OpenSpec := { _root_.Go.OpenSpec.ofChange s with cond := some uptoSmall }

/-- 'penstocklaw03.CodecNumbers', WHERE WHAT IT READS IS OF BULK AT MOST 1048576: true; the input reads as it did. -/
def codecNumbersUptoRow : OpenClaim := { program := "ytcfgbboibgjlcaa", sum := "5ee441b72683d8198e69fd1dabd8bb7d2c148750019196cd6f8f8d140b9ed5ef", func := "penstock/penstocklaw03.CodecNumbers", spec := "codecNumbers", apart := false, narrowed := true }
def CodecNumbersUptoSaid : Prop := codecNumbersUptoRow.holds Try.pinned (OpenSpec.upto codecNumbersSpec)

/-- 'penstocklaw03.CodecLays', WHERE WHAT IT READS IS OF BULK AT MOST 1048576: true; the input reads as it did. -/
def codecLaysUptoRow : OpenClaim := { program := "ytcfgbboibgjlcaa", sum := "5ee441b72683d8198e69fd1dabd8bb7d2c148750019196cd6f8f8d140b9ed5ef", func := "penstock/penstocklaw03.CodecLays", spec := "codecLays", apart := false, narrowed := true }
def CodecLaysUptoSaid : Prop := codecLaysUptoRow.holds Try.pinned (OpenSpec.upto codecLaysSpec)

/-- 'penstocklaw03.CodecOwn', WHERE WHAT IT READS IS OF BULK AT MOST 1048576: true; the input reads as it did. -/
def codecOwnUptoRow : OpenClaim := { program := "ytcfgbboibgjlcaa", sum := "5ee441b72683d8198e69fd1dabd8bb7d2c148750019196cd6f8f8d140b9ed5ef", func := "penstock/penstocklaw03.CodecOwn", spec := "codecOwn", apart := false, narrowed := true }
def CodecOwnUptoSaid : Prop := codecOwnUptoRow.holds Try.pinned (OpenSpec.upto codecOwnSpec)

/-- 'penstocklaw03.CodecTakes', WHERE WHAT IT READS IS OF BULK AT MOST 1048576: true; the input reads as it did. -/
def codecTakesUptoRow : OpenClaim := { program := "ytcfgbboibgjlcaa", sum := "5ee441b72683d8198e69fd1dabd8bb7d2c148750019196cd6f8f8d140b9ed5ef", func := "penstock/penstocklaw03.CodecTakes", spec := "codecTakes", apart := false, narrowed := true }
def CodecTakesUptoSaid : Prop := codecTakesUptoRow.holds Try.pinned (OpenSpec.upto codecTakesSpec)

/-- 'penstocklaw03.CodecBack', WHERE WHAT IT READS IS OF BULK AT MOST 1048576: true; the input reads as it did. -/
def codecBackUptoRow : OpenClaim := { program := "ytcfgbboibgjlcaa", sum := "5ee441b72683d8198e69fd1dabd8bb7d2c148750019196cd6f8f8d140b9ed5ef", func := "penstock/penstocklaw03.CodecBack", spec := "codecBack", apart := false, narrowed := true }
def CodecBackUptoSaid : Prop := codecBackUptoRow.holds Try.pinned (OpenSpec.upto codecBackSpec)

/-- 'penstocklaw03.CodecCut', WHERE WHAT IT READS IS OF BULK AT MOST 1048576: true; the input reads as it did. -/
def codecCutUptoRow : OpenClaim := { program := "ytcfgbboibgjlcaa", sum := "5ee441b72683d8198e69fd1dabd8bb7d2c148750019196cd6f8f8d140b9ed5ef", func := "penstock/penstocklaw03.CodecCut", spec := "codecCut", apart := false, narrowed := true }
def CodecCutUptoSaid : Prop := codecCutUptoRow.holds Try.pinned (OpenSpec.upto codecCutSpec)

/-- 'penstocklaw03.CodecNone', WHERE WHAT IT READS IS OF BULK AT MOST 1048576: true; the input reads as it did. -/
def codecNoneUptoRow : OpenClaim := { program := "ytcfgbboibgjlcaa", sum := "5ee441b72683d8198e69fd1dabd8bb7d2c148750019196cd6f8f8d140b9ed5ef", func := "penstock/penstocklaw03.CodecNone", spec := "codecNone", apart := false, narrowed := true }
def CodecNoneUptoSaid : Prop := codecNoneUptoRow.holds Try.pinned (OpenSpec.upto codecNoneSpec)

/-- 'penstocklaw07.BatchReads', WHERE WHAT IT READS IS OF BULK AT MOST 1048576: true; the input reads as it did. -/
def batchReadsUptoRow : OpenClaim := { program := "ytcfgbboibgjlcaa", sum := "5ee441b72683d8198e69fd1dabd8bb7d2c148750019196cd6f8f8d140b9ed5ef", func := "penstock/penstocklaw07.BatchReads", spec := "batchReads", apart := false, narrowed := true }
def BatchReadsUptoSaid : Prop := batchReadsUptoRow.holds Try.pinned (OpenSpec.upto batchReadsSpec)

/-- 'penstocklaw07.BatchBack', WHERE WHAT IT READS IS OF BULK AT MOST 1048576: true; the input reads as it did. -/
def batchBackUptoRow : OpenClaim := { program := "ytcfgbboibgjlcaa", sum := "5ee441b72683d8198e69fd1dabd8bb7d2c148750019196cd6f8f8d140b9ed5ef", func := "penstock/penstocklaw07.BatchBack", spec := "batchBack", apart := false, narrowed := true }
def BatchBackUptoSaid : Prop := batchBackUptoRow.holds Try.pinned (OpenSpec.upto batchBackSpec)

/-- 'penstocklaw07.BatchCut', WHERE WHAT IT READS IS OF BULK AT MOST 1048576: true; the input reads as it did. -/
def batchCutUptoRow : OpenClaim := { program := "ytcfgbboibgjlcaa", sum := "5ee441b72683d8198e69fd1dabd8bb7d2c148750019196cd6f8f8d140b9ed5ef", func := "penstock/penstocklaw07.BatchCut", spec := "batchCut", apart := false, narrowed := true }
def BatchCutUptoSaid : Prop := batchCutUptoRow.holds Try.pinned (OpenSpec.upto batchCutSpec)

/-- 'penstocklaw07.BatchApart', WHERE WHAT IT READS IS OF BULK AT MOST 1048576: true; the input reads as it did. -/
def batchApartUptoRow : OpenClaim := { program := "ytcfgbboibgjlcaa", sum := "5ee441b72683d8198e69fd1dabd8bb7d2c148750019196cd6f8f8d140b9ed5ef", func := "penstock/penstocklaw07.BatchApart", spec := "batchApart", apart := false, narrowed := true }
def BatchApartUptoSaid : Prop := batchApartUptoRow.holds Try.pinned (OpenSpec.upto batchApartSpec)

/-- 'penstocklaw07.BatchChecks', WHERE WHAT IT READS IS OF BULK AT MOST 1048576: true; the input reads as it did. -/
def batchChecksUptoRow : OpenClaim := { program := "ytcfgbboibgjlcaa", sum := "5ee441b72683d8198e69fd1dabd8bb7d2c148750019196cd6f8f8d140b9ed5ef", func := "penstock/penstocklaw07.BatchChecks", spec := "batchChecks", apart := false, narrowed := true }
def BatchChecksUptoSaid : Prop := batchChecksUptoRow.holds Try.pinned (OpenSpec.upto batchChecksSpec)

/-- 'penstocklaw07.BatchMarks', WHERE WHAT IT READS IS OF BULK AT MOST 1048576: true; the input reads as it did. -/
def batchMarksUptoRow : OpenClaim := { program := "ytcfgbboibgjlcaa", sum := "5ee441b72683d8198e69fd1dabd8bb7d2c148750019196cd6f8f8d140b9ed5ef", func := "penstock/penstocklaw07.BatchMarks", spec := "batchMarks", apart := false, narrowed := true }
def BatchMarksUptoSaid : Prop := batchMarksUptoRow.holds Try.pinned (OpenSpec.upto batchMarksSpec)

end Rows
end Go.Proofs.Ytcfgbboibgjlcaa
