/-
  DERIVED. GIVEN WITH THE SEED: THE CARDS: each row of YtbpcichakchpkaaGreatDoorRows.lean that lists a variable, with what it lists TIED to the program's text (the seventh form; the later family's looks); each row that meets fmt, with fmt's text TOLD by the authors' own Lean function (tested against real Go, not proved from fmt's source: count such statements apart). THE CARD IS WHAT COUNTS. Prove the row's statement (the work); the ties are given (YtbpcichakchpkaaGreatDoorTie.lean); close each card by the builder's one call (the guide's Derived/Test/ToyasCard.lean, 'card_holds'). Laid BY PROGRAM, IN A SANDBOX (cutbox-door.mjs). By AI agents, Wed Nov 11 2026. No macro, syntax, notation, axiom, sorry.
-/
import Derived.Test.YtbpcichakchpkaaGreatDoorRows
import GoSem.ClaimSeven
namespace Go.Proofs.YtbpcichakchpkaaGreatDoor
namespace Rows

/-- THE TIED CARD OF 'penstocklaw08.SegReads'. -/
def segReadsCard : Claim7 := { stood := { row := segReadsRow, standIns := [], harness := (true, "b4e62b9d369a674dff8e94767e70da9dd4007c33a2d4b554208c09df90aaf349"), looks := true }, kinds := [], alts := [], laidByText := true, laidKinds := [.data, .data, .data, .sentinel, .sentinel], laidTests := true, laidLooks := .later }
def SegReadsCardSaid : Prop := Claim7.holds Tryz.pinned (.plain (OpenSpec.ofChange segReadsSpec)) segReadsCard

/-- THE TIED CARD OF 'penstocklaw08.SegFiles'. -/
def segFilesCard : Claim7 := { stood := { row := segFilesRow, standIns := [], harness := (true, "b4e62b9d369a674dff8e94767e70da9dd4007c33a2d4b554208c09df90aaf349"), looks := true }, kinds := [], alts := [], laidByText := true, laidKinds := [.data, .data, .data, .sentinel, .sentinel], laidTests := true, laidLooks := .later }
def SegFilesCardSaid : Prop := Claim7.holds Tryz.pinned (.plain (OpenSpec.ofChange segFilesSpec)) segFilesCard

/-- THE TIED CARD OF 'penstocklaw08.SegNames'. -/
def segNamesCard : Claim7 := { stood := { row := segNamesRow, standIns := [], harness := (true, "b4e62b9d369a674dff8e94767e70da9dd4007c33a2d4b554208c09df90aaf349"), looks := true }, kinds := [], alts := [], laidByText := true, laidKinds := [.data, .data, .data, .sentinel, .sentinel], laidTests := true, laidLooks := .later }
def SegNamesCardSaid : Prop := Claim7.holds Tryz.pinned (.plain (OpenSpec.ofChange segNamesSpec)) segNamesCard

/-- THE TIED CARD OF 'penstocklaw08.SegOpens'. -/
def segOpensCard : Claim7 := { stood := { row := segOpensRow, standIns := [], harness := (true, "b4e62b9d369a674dff8e94767e70da9dd4007c33a2d4b554208c09df90aaf349"), looks := true }, kinds := [], alts := [], laidByText := true, laidKinds := [.data, .data, .data, .sentinel, .sentinel], laidTests := true, laidLooks := .later }
def SegOpensCardSaid : Prop := Claim7.holds Tryz.pinned (.plain (OpenSpec.ofChange segOpensSpec)) segOpensCard

/-- THE TIED CARD OF 'penstocklaw08.SegLasts'. -/
def segLastsCard : Claim7 := { stood := { row := segLastsRow, standIns := [], harness := (true, "b4e62b9d369a674dff8e94767e70da9dd4007c33a2d4b554208c09df90aaf349"), looks := true }, kinds := [], alts := [], laidByText := true, laidKinds := [.data, .data, .data, .sentinel, .sentinel], laidTests := true, laidLooks := .later }
def SegLastsCardSaid : Prop := Claim7.holds Tryz.pinned (.plain (OpenSpec.ofChange segLastsSpec)) segLastsCard

/-- THE TIED CARD OF 'penstocklaw08.SegNone'. -/
def segNoneCard : Claim7 := { stood := { row := segNoneRow, standIns := [], harness := (true, "b4e62b9d369a674dff8e94767e70da9dd4007c33a2d4b554208c09df90aaf349"), looks := true }, kinds := [], alts := [], laidByText := true, laidKinds := [.data, .data, .data, .sentinel, .sentinel], laidTests := true, laidLooks := .later }
def SegNoneCardSaid : Prop := Claim7.holds Tryz.pinned (.plain (OpenSpec.ofChange segNoneSpec)) segNoneCard

/-- THE SECOND FORM's CARD OF 'penstocklaw08.SegReads'. -/
def segReadsUptoCard : Claim7 := { stood := { row := segReadsUptoRow, standIns := [], harness := (true, "b4e62b9d369a674dff8e94767e70da9dd4007c33a2d4b554208c09df90aaf349"), looks := true }, kinds := [], alts := [], laidByText := true, laidKinds := [.data, .data, .data, .sentinel, .sentinel], laidTests := true, laidLooks := .later }
def SegReadsUptoCardSaid : Prop := Claim7.holds Tryz.pinned (.plain (OpenSpec.upto segReadsSpec)) segReadsUptoCard

/-- THE SECOND FORM's CARD OF 'penstocklaw08.SegFiles'. -/
def segFilesUptoCard : Claim7 := { stood := { row := segFilesUptoRow, standIns := [], harness := (true, "b4e62b9d369a674dff8e94767e70da9dd4007c33a2d4b554208c09df90aaf349"), looks := true }, kinds := [], alts := [], laidByText := true, laidKinds := [.data, .data, .data, .sentinel, .sentinel], laidTests := true, laidLooks := .later }
def SegFilesUptoCardSaid : Prop := Claim7.holds Tryz.pinned (.plain (OpenSpec.upto segFilesSpec)) segFilesUptoCard

/-- THE SECOND FORM's CARD OF 'penstocklaw08.SegNames'. -/
def segNamesUptoCard : Claim7 := { stood := { row := segNamesUptoRow, standIns := [], harness := (true, "b4e62b9d369a674dff8e94767e70da9dd4007c33a2d4b554208c09df90aaf349"), looks := true }, kinds := [], alts := [], laidByText := true, laidKinds := [.data, .data, .data, .sentinel, .sentinel], laidTests := true, laidLooks := .later }
def SegNamesUptoCardSaid : Prop := Claim7.holds Tryz.pinned (.plain (OpenSpec.upto segNamesSpec)) segNamesUptoCard

/-- THE SECOND FORM's CARD OF 'penstocklaw08.SegOpens'. -/
def segOpensUptoCard : Claim7 := { stood := { row := segOpensUptoRow, standIns := [], harness := (true, "b4e62b9d369a674dff8e94767e70da9dd4007c33a2d4b554208c09df90aaf349"), looks := true }, kinds := [], alts := [], laidByText := true, laidKinds := [.data, .data, .data, .sentinel, .sentinel], laidTests := true, laidLooks := .later }
def SegOpensUptoCardSaid : Prop := Claim7.holds Tryz.pinned (.plain (OpenSpec.upto segOpensSpec)) segOpensUptoCard

/-- THE SECOND FORM's CARD OF 'penstocklaw08.SegLasts'. -/
def segLastsUptoCard : Claim7 := { stood := { row := segLastsUptoRow, standIns := [], harness := (true, "b4e62b9d369a674dff8e94767e70da9dd4007c33a2d4b554208c09df90aaf349"), looks := true }, kinds := [], alts := [], laidByText := true, laidKinds := [.data, .data, .data, .sentinel, .sentinel], laidTests := true, laidLooks := .later }
def SegLastsUptoCardSaid : Prop := Claim7.holds Tryz.pinned (.plain (OpenSpec.upto segLastsSpec)) segLastsUptoCard

/-- THE SECOND FORM's CARD OF 'penstocklaw08.SegNone'. -/
def segNoneUptoCard : Claim7 := { stood := { row := segNoneUptoRow, standIns := [], harness := (true, "b4e62b9d369a674dff8e94767e70da9dd4007c33a2d4b554208c09df90aaf349"), looks := true }, kinds := [], alts := [], laidByText := true, laidKinds := [.data, .data, .data, .sentinel, .sentinel], laidTests := true, laidLooks := .later }
def SegNoneUptoCardSaid : Prop := Claim7.holds Tryz.pinned (.plain (OpenSpec.upto segNoneSpec)) segNoneUptoCard
end Rows
end Go.Proofs.YtbpcichakchpkaaGreatDoor
