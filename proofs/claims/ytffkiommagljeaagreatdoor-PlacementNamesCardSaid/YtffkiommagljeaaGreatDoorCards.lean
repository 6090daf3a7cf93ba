/-
  DERIVED. GIVEN WITH THE SEED: THE CARDS: each row of YtffkiommagljeaaGreatDoorRows.lean that lists a variable, with what it lists TIED to the program's text (the seventh form; the later family's looks); each row that meets fmt, with fmt's text TOLD by the authors' own Lean function (tested against real Go, not proved from fmt's source: count such statements apart). THE CARD IS WHAT COUNTS. Prove the row's statement (the work); the ties are given (YtffkiommagljeaaGreatDoorTie.lean); close each card by the builder's one call (the guide's Derived/Test/ToyasCard.lean, 'card_holds'). Laid BY PROGRAM, IN A SANDBOX (cutbox-door.mjs). By AI agents, Wed Nov 11 2026. No macro, syntax, notation, axiom, sorry.
-/
import Derived.Test.YtffkiommagljeaaGreatDoorRows
import GoSem.ClaimSeven
namespace Go.Proofs.YtffkiommagljeaaGreatDoor
namespace Rows

/-- THE TIED CARD OF 'gazettelaw18.PlacementNames'. -/
def placementNamesCard : Claim7 := { stood := { row := placementNamesRow, standIns := [], harness := (true, "df0b8cdaab82cdf9d8e9088bb5a2729c31123a1cc2d6594e4dce59ae2328d9c6"), looks := true }, kinds := [], alts := [], laidByText := true, laidKinds := [.data, .handle, .pinned], laidTests := true, laidLooks := .later }
def PlacementNamesCardSaid : Prop := Claim7.holds Tryz.pinned (.plain (OpenSpec.ofChange placementNamesSpec)) placementNamesCard

/-- THE TIED CARD OF 'gazettelaw18.PlacementDoes'. -/
def placementDoesCard : Claim7 := { stood := { row := placementDoesRow, standIns := [], harness := (true, "df0b8cdaab82cdf9d8e9088bb5a2729c31123a1cc2d6594e4dce59ae2328d9c6"), looks := true }, kinds := [], alts := [], laidByText := true, laidKinds := [.data, .handle, .pinned], laidTests := true, laidLooks := .later }
def PlacementDoesCardSaid : Prop := Claim7.holds Tryz.pinned (.plain (OpenSpec.ofChange placementDoesSpec)) placementDoesCard

/-- THE TIED CARD OF 'gazettelaw18.PlacementStays'. -/
def placementStaysCard : Claim7 := { stood := { row := placementStaysRow, standIns := [], harness := (true, "df0b8cdaab82cdf9d8e9088bb5a2729c31123a1cc2d6594e4dce59ae2328d9c6"), looks := true }, kinds := [], alts := [], laidByText := true, laidKinds := [.data, .handle, .pinned], laidTests := true, laidLooks := .later }
def PlacementStaysCardSaid : Prop := Claim7.holds Tryz.pinned (.plain (OpenSpec.ofChange placementStaysSpec)) placementStaysCard

/-- THE TIED CARD OF 'gazettelaw18.PlacementNever'. -/
def placementNeverCard : Claim7 := { stood := { row := placementNeverRow, standIns := [], harness := (true, "df0b8cdaab82cdf9d8e9088bb5a2729c31123a1cc2d6594e4dce59ae2328d9c6"), looks := true }, kinds := [], alts := [], laidByText := true, laidKinds := [.data, .handle, .pinned], laidTests := true, laidLooks := .later }
def PlacementNeverCardSaid : Prop := Claim7.holds Tryz.pinned (.plain (OpenSpec.ofChange placementNeverSpec)) placementNeverCard

/-- THE TIED CARD OF 'gazettelaw18.PlacementEnds'. -/
def placementEndsCard : Claim7 := { stood := { row := placementEndsRow, standIns := [], harness := (true, "df0b8cdaab82cdf9d8e9088bb5a2729c31123a1cc2d6594e4dce59ae2328d9c6"), looks := true }, kinds := [], alts := [], laidByText := true, laidKinds := [.data, .handle, .pinned], laidTests := true, laidLooks := .later }
def PlacementEndsCardSaid : Prop := Claim7.holds Tryz.pinned (.plain (OpenSpec.ofChange placementEndsSpec)) placementEndsCard

/-- THE TIED CARD OF 'gazettelaw18.PlacementEpochs'. -/
def placementEpochsCard : Claim7 := { stood := { row := placementEpochsRow, standIns := [], harness := (true, "df0b8cdaab82cdf9d8e9088bb5a2729c31123a1cc2d6594e4dce59ae2328d9c6"), looks := true }, kinds := [], alts := [], laidByText := true, laidKinds := [.data, .handle, .pinned], laidTests := true, laidLooks := .later }
def PlacementEpochsCardSaid : Prop := Claim7.holds Tryz.pinned (.plain (OpenSpec.ofChange placementEpochsSpec)) placementEpochsCard

/-- THE TIED CARD OF 'gazettelaw18.PlacementBack'. -/
def placementBackCard : Claim7 := { stood := { row := placementBackRow, standIns := [], harness := (true, "df0b8cdaab82cdf9d8e9088bb5a2729c31123a1cc2d6594e4dce59ae2328d9c6"), looks := true }, kinds := [], alts := [], laidByText := true, laidKinds := [.data, .handle, .pinned], laidTests := true, laidLooks := .later }
def PlacementBackCardSaid : Prop := Claim7.holds Tryz.pinned (.plain (OpenSpec.ofChange placementBackSpec)) placementBackCard

/-- THE TIED CARD OF 'gazettelaw18.PlacementBytes'. -/
def placementBytesCard : Claim7 := { stood := { row := placementBytesRow, standIns := [], harness := (true, "df0b8cdaab82cdf9d8e9088bb5a2729c31123a1cc2d6594e4dce59ae2328d9c6"), looks := true }, kinds := [], alts := [], laidByText := true, laidKinds := [.data, .handle, .pinned], laidTests := true, laidLooks := .later }
def PlacementBytesCardSaid : Prop := Claim7.holds Tryz.pinned (.plain (OpenSpec.ofChange placementBytesSpec)) placementBytesCard

/-- THE SECOND FORM's CARD OF 'gazettelaw18.PlacementNames'. -/
def placementNamesUptoCard : Claim7 := { stood := { row := placementNamesUptoRow, standIns := [], harness := (true, "df0b8cdaab82cdf9d8e9088bb5a2729c31123a1cc2d6594e4dce59ae2328d9c6"), looks := true }, kinds := [], alts := [], laidByText := true, laidKinds := [.data, .handle, .pinned], laidTests := true, laidLooks := .later }
def PlacementNamesUptoCardSaid : Prop := Claim7.holds Tryz.pinned (.plain (OpenSpec.upto placementNamesSpec)) placementNamesUptoCard

/-- THE SECOND FORM's CARD OF 'gazettelaw18.PlacementDoes'. -/
def placementDoesUptoCard : Claim7 := { stood := { row := placementDoesUptoRow, standIns := [], harness := (true, "df0b8cdaab82cdf9d8e9088bb5a2729c31123a1cc2d6594e4dce59ae2328d9c6"), looks := true }, kinds := [], alts := [], laidByText := true, laidKinds := [.data, .handle, .pinned], laidTests := true, laidLooks := .later }
def PlacementDoesUptoCardSaid : Prop := Claim7.holds Tryz.pinned (.plain (OpenSpec.upto placementDoesSpec)) placementDoesUptoCard

/-- THE SECOND FORM's CARD OF 'gazettelaw18.PlacementStays'. -/
def placementStaysUptoCard : Claim7 := { stood := { row := placementStaysUptoRow, standIns := [], harness := (true, "df0b8cdaab82cdf9d8e9088bb5a2729c31123a1cc2d6594e4dce59ae2328d9c6"), looks := true }, kinds := [], alts := [], laidByText := true, laidKinds := [.data, .handle, .pinned], laidTests := true, laidLooks := .later }
def PlacementStaysUptoCardSaid : Prop := Claim7.holds Tryz.pinned (.plain (OpenSpec.upto placementStaysSpec)) placementStaysUptoCard

/-- THE SECOND FORM's CARD OF 'gazettelaw18.PlacementNever'. -/
def placementNeverUptoCard : Claim7 := { stood := { row := placementNeverUptoRow, standIns := [], harness := (true, "df0b8cdaab82cdf9d8e9088bb5a2729c31123a1cc2d6594e4dce59ae2328d9c6"), looks := true }, kinds := [], alts := [], laidByText := true, laidKinds := [.data, .handle, .pinned], laidTests := true, laidLooks := .later }
def PlacementNeverUptoCardSaid : Prop := Claim7.holds Tryz.pinned (.plain (OpenSpec.upto placementNeverSpec)) placementNeverUptoCard

/-- THE SECOND FORM's CARD OF 'gazettelaw18.PlacementEnds'. -/
def placementEndsUptoCard : Claim7 := { stood := { row := placementEndsUptoRow, standIns := [], harness := (true, "df0b8cdaab82cdf9d8e9088bb5a2729c31123a1cc2d6594e4dce59ae2328d9c6"), looks := true }, kinds := [], alts := [], laidByText := true, laidKinds := [.data, .handle, .pinned], laidTests := true, laidLooks := .later }
def PlacementEndsUptoCardSaid : Prop := Claim7.holds Tryz.pinned (.plain (OpenSpec.upto placementEndsSpec)) placementEndsUptoCard

/-- THE SECOND FORM's CARD OF 'gazettelaw18.PlacementEpochs'. -/
def placementEpochsUptoCard : Claim7 := { stood := { row := placementEpochsUptoRow, standIns := [], harness := (true, "df0b8cdaab82cdf9d8e9088bb5a2729c31123a1cc2d6594e4dce59ae2328d9c6"), looks := true }, kinds := [], alts := [], laidByText := true, laidKinds := [.data, .handle, .pinned], laidTests := true, laidLooks := .later }
def PlacementEpochsUptoCardSaid : Prop := Claim7.holds Tryz.pinned (.plain (OpenSpec.upto placementEpochsSpec)) placementEpochsUptoCard

/-- THE SECOND FORM's CARD OF 'gazettelaw18.PlacementBack'. -/
def placementBackUptoCard : Claim7 := { stood := { row := placementBackUptoRow, standIns := [], harness := (true, "df0b8cdaab82cdf9d8e9088bb5a2729c31123a1cc2d6594e4dce59ae2328d9c6"), looks := true }, kinds := [], alts := [], laidByText := true, laidKinds := [.data, .handle, .pinned], laidTests := true, laidLooks := .later }
def PlacementBackUptoCardSaid : Prop := Claim7.holds Tryz.pinned (.plain (OpenSpec.upto placementBackSpec)) placementBackUptoCard

/-- THE SECOND FORM's CARD OF 'gazettelaw18.PlacementBytes'. -/
def placementBytesUptoCard : Claim7 := { stood := { row := placementBytesUptoRow, standIns := [], harness := (true, "df0b8cdaab82cdf9d8e9088bb5a2729c31123a1cc2d6594e4dce59ae2328d9c6"), looks := true }, kinds := [], alts := [], laidByText := true, laidKinds := [.data, .handle, .pinned], laidTests := true, laidLooks := .later }
def PlacementBytesUptoCardSaid : Prop := Claim7.holds Tryz.pinned (.plain (OpenSpec.upto placementBytesSpec)) placementBytesUptoCard
end Rows
end Go.Proofs.YtffkiommagljeaaGreatDoor
