/-
  DERIVED. GIVEN WITH THE SEED: THE CARDS: each row of YtnjadekngjgjcaaGreatDoorRows.lean that lists a variable, with what it lists TIED to the program's text (the seventh form; the later family's looks); each row that meets fmt, with fmt's text TOLD by the authors' own Lean function (tested against real Go, not proved from fmt's source: count such statements apart). THE CARD IS WHAT COUNTS. Prove the row's statement (the work); the ties are given (YtnjadekngjgjcaaGreatDoorTie.lean); close each card by the builder's one call (the guide's Derived/Test/ToyasCard.lean, 'card_holds'). Laid BY PROGRAM, IN A SANDBOX (cutbox-door.mjs). By AI agents, Wed Nov 11 2026. No macro, syntax, notation, axiom, sorry.
-/
import Derived.Test.YtnjadekngjgjcaaGreatDoorRows
import GoSem.ClaimSeven
namespace Go.Proofs.YtnjadekngjgjcaaGreatDoor
namespace Rows

/-- THE TIED CARD OF 'penstocklaw14.ReplicaReads'. -/
def replicaReadsCard : Claim7 := { stood := { row := replicaReadsRow, standIns := [], harness := (true, "db9166b0b43d8ea718f7298abfe3d4158b2cf710ab8da37a63266dc50ac3c684"), looks := true }, kinds := [], alts := [], laidByText := true, laidKinds := [.data, .data, .data, .sentinel, .sentinel], laidTests := true, laidLooks := .later }
def ReplicaReadsCardSaid : Prop := Claim7.holds Tryz.pinned (.plain (OpenSpec.ofChange replicaReadsSpec)) replicaReadsCard

/-- THE TIED CARD OF 'penstocklaw14.ReplicaOpens'. -/
def replicaOpensCard : Claim7 := { stood := { row := replicaOpensRow, standIns := [], harness := (true, "db9166b0b43d8ea718f7298abfe3d4158b2cf710ab8da37a63266dc50ac3c684"), looks := true }, kinds := [], alts := [], laidByText := true, laidKinds := [.data, .data, .data, .sentinel, .sentinel], laidTests := true, laidLooks := .later }
def ReplicaOpensCardSaid : Prop := Claim7.holds Tryz.pinned (.plain (OpenSpec.ofChange replicaOpensSpec)) replicaOpensCard

/-- THE TIED CARD OF 'penstocklaw14.ReplicaFences'. -/
def replicaFencesCard : Claim7 := { stood := { row := replicaFencesRow, standIns := [], harness := (true, "db9166b0b43d8ea718f7298abfe3d4158b2cf710ab8da37a63266dc50ac3c684"), looks := true }, kinds := [], alts := [], laidByText := true, laidKinds := [.data, .data, .data, .sentinel, .sentinel], laidTests := true, laidLooks := .later }
def ReplicaFencesCardSaid : Prop := Claim7.holds Tryz.pinned (.plain (OpenSpec.ofChange replicaFencesSpec)) replicaFencesCard

/-- THE TIED CARD OF 'penstocklaw14.ReplicaWants'. -/
def replicaWantsCard : Claim7 := { stood := { row := replicaWantsRow, standIns := [], harness := (true, "db9166b0b43d8ea718f7298abfe3d4158b2cf710ab8da37a63266dc50ac3c684"), looks := true }, kinds := [], alts := [], laidByText := true, laidKinds := [.data, .data, .data, .sentinel, .sentinel], laidTests := true, laidLooks := .later }
def ReplicaWantsCardSaid : Prop := Claim7.holds Tryz.pinned (.plain (OpenSpec.ofChange replicaWantsSpec)) replicaWantsCard

/-- THE TIED CARD OF 'penstocklaw14.ReplicaLate'. -/
def replicaLateCard : Claim7 := { stood := { row := replicaLateRow, standIns := [], harness := (true, "db9166b0b43d8ea718f7298abfe3d4158b2cf710ab8da37a63266dc50ac3c684"), looks := true }, kinds := [], alts := [], laidByText := true, laidKinds := [.data, .data, .data, .sentinel, .sentinel], laidTests := true, laidLooks := .later }
def ReplicaLateCardSaid : Prop := Claim7.holds Tryz.pinned (.plain (OpenSpec.ofChange replicaLateSpec)) replicaLateCard

/-- THE TIED CARD OF 'penstocklaw14.ReplicaKept'. -/
def replicaKeptCard : Claim7 := { stood := { row := replicaKeptRow, standIns := [], harness := (true, "db9166b0b43d8ea718f7298abfe3d4158b2cf710ab8da37a63266dc50ac3c684"), looks := true }, kinds := [], alts := [], laidByText := true, laidKinds := [.data, .data, .data, .sentinel, .sentinel], laidTests := true, laidLooks := .later }
def ReplicaKeptCardSaid : Prop := Claim7.holds Tryz.pinned (.plain (OpenSpec.ofChange replicaKeptSpec)) replicaKeptCard

/-- THE TIED CARD OF 'penstocklaw14.ReplicaComes'. -/
def replicaComesCard : Claim7 := { stood := { row := replicaComesRow, standIns := [], harness := (true, "db9166b0b43d8ea718f7298abfe3d4158b2cf710ab8da37a63266dc50ac3c684"), looks := true }, kinds := [], alts := [], laidByText := true, laidKinds := [.data, .data, .data, .sentinel, .sentinel], laidTests := true, laidLooks := .later }
def ReplicaComesCardSaid : Prop := Claim7.holds Tryz.pinned (.plain (OpenSpec.ofChange replicaComesSpec)) replicaComesCard

/-- THE TIED CARD OF 'penstocklaw14.ReplicaNone'. -/
def replicaNoneCard : Claim7 := { stood := { row := replicaNoneRow, standIns := [], harness := (true, "db9166b0b43d8ea718f7298abfe3d4158b2cf710ab8da37a63266dc50ac3c684"), looks := true }, kinds := [], alts := [], laidByText := true, laidKinds := [.data, .data, .data, .sentinel, .sentinel], laidTests := true, laidLooks := .later }
def ReplicaNoneCardSaid : Prop := Claim7.holds Tryz.pinned (.plain (OpenSpec.ofChange replicaNoneSpec)) replicaNoneCard

/-- THE SECOND FORM's CARD OF 'penstocklaw14.ReplicaReads'. -/
def replicaReadsUptoCard : Claim7 := { stood := { row := replicaReadsUptoRow, standIns := [], harness := (true, "db9166b0b43d8ea718f7298abfe3d4158b2cf710ab8da37a63266dc50ac3c684"), looks := true }, kinds := [], alts := [], laidByText := true, laidKinds := [.data, .data, .data, .sentinel, .sentinel], laidTests := true, laidLooks := .later }
def ReplicaReadsUptoCardSaid : Prop := Claim7.holds Tryz.pinned (.plain (OpenSpec.upto replicaReadsSpec)) replicaReadsUptoCard

/-- THE SECOND FORM's CARD OF 'penstocklaw14.ReplicaOpens'. -/
def replicaOpensUptoCard : Claim7 := { stood := { row := replicaOpensUptoRow, standIns := [], harness := (true, "db9166b0b43d8ea718f7298abfe3d4158b2cf710ab8da37a63266dc50ac3c684"), looks := true }, kinds := [], alts := [], laidByText := true, laidKinds := [.data, .data, .data, .sentinel, .sentinel], laidTests := true, laidLooks := .later }
def ReplicaOpensUptoCardSaid : Prop := Claim7.holds Tryz.pinned (.plain (OpenSpec.upto replicaOpensSpec)) replicaOpensUptoCard

/-- THE SECOND FORM's CARD OF 'penstocklaw14.ReplicaFences'. -/
def replicaFencesUptoCard : Claim7 := { stood := { row := replicaFencesUptoRow, standIns := [], harness := (true, "db9166b0b43d8ea718f7298abfe3d4158b2cf710ab8da37a63266dc50ac3c684"), looks := true }, kinds := [], alts := [], laidByText := true, laidKinds := [.data, .data, .data, .sentinel, .sentinel], laidTests := true, laidLooks := .later }
def ReplicaFencesUptoCardSaid : Prop := Claim7.holds Tryz.pinned (.plain (OpenSpec.upto replicaFencesSpec)) replicaFencesUptoCard

/-- THE SECOND FORM's CARD OF 'penstocklaw14.ReplicaWants'. -/
def replicaWantsUptoCard : Claim7 := { stood := { row := replicaWantsUptoRow, standIns := [], harness := (true, "db9166b0b43d8ea718f7298abfe3d4158b2cf710ab8da37a63266dc50ac3c684"), looks := true }, kinds := [], alts := [], laidByText := true, laidKinds := [.data, .data, .data, .sentinel, .sentinel], laidTests := true, laidLooks := .later }
def ReplicaWantsUptoCardSaid : Prop := Claim7.holds Tryz.pinned (.plain (OpenSpec.upto replicaWantsSpec)) replicaWantsUptoCard

/-- THE SECOND FORM's CARD OF 'penstocklaw14.ReplicaLate'. -/
def replicaLateUptoCard : Claim7 := { stood := { row := replicaLateUptoRow, standIns := [], harness := (true, "db9166b0b43d8ea718f7298abfe3d4158b2cf710ab8da37a63266dc50ac3c684"), looks := true }, kinds := [], alts := [], laidByText := true, laidKinds := [.data, .data, .data, .sentinel, .sentinel], laidTests := true, laidLooks := .later }
def ReplicaLateUptoCardSaid : Prop := Claim7.holds Tryz.pinned (.plain (OpenSpec.upto replicaLateSpec)) replicaLateUptoCard

/-- THE SECOND FORM's CARD OF 'penstocklaw14.ReplicaKept'. -/
def replicaKeptUptoCard : Claim7 := { stood := { row := replicaKeptUptoRow, standIns := [], harness := (true, "db9166b0b43d8ea718f7298abfe3d4158b2cf710ab8da37a63266dc50ac3c684"), looks := true }, kinds := [], alts := [], laidByText := true, laidKinds := [.data, .data, .data, .sentinel, .sentinel], laidTests := true, laidLooks := .later }
def ReplicaKeptUptoCardSaid : Prop := Claim7.holds Tryz.pinned (.plain (OpenSpec.upto replicaKeptSpec)) replicaKeptUptoCard

/-- THE SECOND FORM's CARD OF 'penstocklaw14.ReplicaComes'. -/
def replicaComesUptoCard : Claim7 := { stood := { row := replicaComesUptoRow, standIns := [], harness := (true, "db9166b0b43d8ea718f7298abfe3d4158b2cf710ab8da37a63266dc50ac3c684"), looks := true }, kinds := [], alts := [], laidByText := true, laidKinds := [.data, .data, .data, .sentinel, .sentinel], laidTests := true, laidLooks := .later }
def ReplicaComesUptoCardSaid : Prop := Claim7.holds Tryz.pinned (.plain (OpenSpec.upto replicaComesSpec)) replicaComesUptoCard

/-- THE SECOND FORM's CARD OF 'penstocklaw14.ReplicaNone'. -/
def replicaNoneUptoCard : Claim7 := { stood := { row := replicaNoneUptoRow, standIns := [], harness := (true, "db9166b0b43d8ea718f7298abfe3d4158b2cf710ab8da37a63266dc50ac3c684"), looks := true }, kinds := [], alts := [], laidByText := true, laidKinds := [.data, .data, .data, .sentinel, .sentinel], laidTests := true, laidLooks := .later }
def ReplicaNoneUptoCardSaid : Prop := Claim7.holds Tryz.pinned (.plain (OpenSpec.upto replicaNoneSpec)) replicaNoneUptoCard
end Rows
end Go.Proofs.YtnjadekngjgjcaaGreatDoor
