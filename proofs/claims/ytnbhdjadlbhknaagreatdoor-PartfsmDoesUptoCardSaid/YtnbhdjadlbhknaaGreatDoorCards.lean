/-
  DERIVED. GIVEN WITH THE SEED: THE CARDS: each row of YtnbhdjadlbhknaaGreatDoorRows.lean that lists a variable, with what it lists TIED to the program's text (the seventh form; the later family's looks); each row that meets fmt, with fmt's text TOLD by the authors' own Lean function (tested against real Go, not proved from fmt's source: count such statements apart). THE CARD IS WHAT COUNTS. Prove the row's statement (the work); the ties are given (YtnbhdjadlbhknaaGreatDoorTie.lean); close each card by the builder's one call (the guide's Derived/Test/ToyasCard.lean, 'card_holds'). Laid BY PROGRAM, IN A SANDBOX (cutbox-door.mjs). By AI agents, Wed Nov 11 2026. No macro, syntax, notation, axiom, sorry.
-/
import Derived.Test.YtnbhdjadlbhknaaGreatDoorRows
import GoSem.ClaimSeven
namespace Go.Proofs.YtnbhdjadlbhknaaGreatDoor
namespace Rows

/-- THE TIED CARD OF 'gazettelaw16.PartfsmNames'. -/
def partfsmNamesCard : Claim7 := { stood := { row := partfsmNamesRow, standIns := [], harness := (true, "4008c0ec14d4e8318941b98147842fa4797ed9bf7edcfa700debfb0742dcc49e"), looks := true }, kinds := [], alts := [], laidByText := true, laidKinds := [.data, .handle, .pinned], laidTests := true, laidLooks := .later }
def PartfsmNamesCardSaid : Prop := Claim7.holds Tryz.pinned (.plain (OpenSpec.ofChange partfsmNamesSpec)) partfsmNamesCard

/-- THE TIED CARD OF 'gazettelaw16.PartfsmDoes'. -/
def partfsmDoesCard : Claim7 := { stood := { row := partfsmDoesRow, standIns := [], harness := (true, "4008c0ec14d4e8318941b98147842fa4797ed9bf7edcfa700debfb0742dcc49e"), looks := true }, kinds := [], alts := [], laidByText := true, laidKinds := [.data, .handle, .pinned], laidTests := true, laidLooks := .later }
def PartfsmDoesCardSaid : Prop := Claim7.holds Tryz.pinned (.plain (OpenSpec.ofChange partfsmDoesSpec)) partfsmDoesCard

/-- THE TIED CARD OF 'gazettelaw16.PartfsmStays'. -/
def partfsmStaysCard : Claim7 := { stood := { row := partfsmStaysRow, standIns := [], harness := (true, "4008c0ec14d4e8318941b98147842fa4797ed9bf7edcfa700debfb0742dcc49e"), looks := true }, kinds := [], alts := [], laidByText := true, laidKinds := [.data, .handle, .pinned], laidTests := true, laidLooks := .later }
def PartfsmStaysCardSaid : Prop := Claim7.holds Tryz.pinned (.plain (OpenSpec.ofChange partfsmStaysSpec)) partfsmStaysCard

/-- THE TIED CARD OF 'gazettelaw16.PartfsmOnce'. -/
def partfsmOnceCard : Claim7 := { stood := { row := partfsmOnceRow, standIns := [], harness := (true, "4008c0ec14d4e8318941b98147842fa4797ed9bf7edcfa700debfb0742dcc49e"), looks := true }, kinds := [], alts := [], laidByText := true, laidKinds := [.data, .handle, .pinned], laidTests := true, laidLooks := .later }
def PartfsmOnceCardSaid : Prop := Claim7.holds Tryz.pinned (.plain (OpenSpec.ofChange partfsmOnceSpec)) partfsmOnceCard

/-- THE TIED CARD OF 'gazettelaw16.PartfsmApplies'. -/
def partfsmAppliesCard : Claim7 := { stood := { row := partfsmAppliesRow, standIns := [], harness := (true, "4008c0ec14d4e8318941b98147842fa4797ed9bf7edcfa700debfb0742dcc49e"), looks := true }, kinds := [], alts := [], laidByText := true, laidKinds := [.data, .handle, .pinned], laidTests := true, laidLooks := .later }
def PartfsmAppliesCardSaid : Prop := Claim7.holds Tryz.pinned (.plain (OpenSpec.ofChange partfsmAppliesSpec)) partfsmAppliesCard

/-- THE TIED CARD OF 'gazettelaw16.PartfsmBack'. -/
def partfsmBackCard : Claim7 := { stood := { row := partfsmBackRow, standIns := [], harness := (true, "4008c0ec14d4e8318941b98147842fa4797ed9bf7edcfa700debfb0742dcc49e"), looks := true }, kinds := [], alts := [], laidByText := true, laidKinds := [.data, .handle, .pinned], laidTests := true, laidLooks := .later }
def PartfsmBackCardSaid : Prop := Claim7.holds Tryz.pinned (.plain (OpenSpec.ofChange partfsmBackSpec)) partfsmBackCard

/-- THE TIED CARD OF 'gazettelaw16.PartfsmBytes'. -/
def partfsmBytesCard : Claim7 := { stood := { row := partfsmBytesRow, standIns := [], harness := (true, "4008c0ec14d4e8318941b98147842fa4797ed9bf7edcfa700debfb0742dcc49e"), looks := true }, kinds := [], alts := [], laidByText := true, laidKinds := [.data, .handle, .pinned], laidTests := true, laidLooks := .later }
def PartfsmBytesCardSaid : Prop := Claim7.holds Tryz.pinned (.plain (OpenSpec.ofChange partfsmBytesSpec)) partfsmBytesCard

/-- THE SECOND FORM's CARD OF 'gazettelaw16.PartfsmNames'. -/
def partfsmNamesUptoCard : Claim7 := { stood := { row := partfsmNamesUptoRow, standIns := [], harness := (true, "4008c0ec14d4e8318941b98147842fa4797ed9bf7edcfa700debfb0742dcc49e"), looks := true }, kinds := [], alts := [], laidByText := true, laidKinds := [.data, .handle, .pinned], laidTests := true, laidLooks := .later }
def PartfsmNamesUptoCardSaid : Prop := Claim7.holds Tryz.pinned (.plain (OpenSpec.upto partfsmNamesSpec)) partfsmNamesUptoCard

/-- THE SECOND FORM's CARD OF 'gazettelaw16.PartfsmDoes'. -/
def partfsmDoesUptoCard : Claim7 := { stood := { row := partfsmDoesUptoRow, standIns := [], harness := (true, "4008c0ec14d4e8318941b98147842fa4797ed9bf7edcfa700debfb0742dcc49e"), looks := true }, kinds := [], alts := [], laidByText := true, laidKinds := [.data, .handle, .pinned], laidTests := true, laidLooks := .later }
def PartfsmDoesUptoCardSaid : Prop := Claim7.holds Tryz.pinned (.plain (OpenSpec.upto partfsmDoesSpec)) partfsmDoesUptoCard

/-- THE SECOND FORM's CARD OF 'gazettelaw16.PartfsmStays'. -/
def partfsmStaysUptoCard : Claim7 := { stood := { row := partfsmStaysUptoRow, standIns := [], harness := (true, "4008c0ec14d4e8318941b98147842fa4797ed9bf7edcfa700debfb0742dcc49e"), looks := true }, kinds := [], alts := [], laidByText := true, laidKinds := [.data, .handle, .pinned], laidTests := true, laidLooks := .later }
def PartfsmStaysUptoCardSaid : Prop := Claim7.holds Tryz.pinned (.plain (OpenSpec.upto partfsmStaysSpec)) partfsmStaysUptoCard

/-- THE SECOND FORM's CARD OF 'gazettelaw16.PartfsmOnce'. -/
def partfsmOnceUptoCard : Claim7 := { stood := { row := partfsmOnceUptoRow, standIns := [], harness := (true, "4008c0ec14d4e8318941b98147842fa4797ed9bf7edcfa700debfb0742dcc49e"), looks := true }, kinds := [], alts := [], laidByText := true, laidKinds := [.data, .handle, .pinned], laidTests := true, laidLooks := .later }
def PartfsmOnceUptoCardSaid : Prop := Claim7.holds Tryz.pinned (.plain (OpenSpec.upto partfsmOnceSpec)) partfsmOnceUptoCard

/-- THE SECOND FORM's CARD OF 'gazettelaw16.PartfsmApplies'. -/
def partfsmAppliesUptoCard : Claim7 := { stood := { row := partfsmAppliesUptoRow, standIns := [], harness := (true, "4008c0ec14d4e8318941b98147842fa4797ed9bf7edcfa700debfb0742dcc49e"), looks := true }, kinds := [], alts := [], laidByText := true, laidKinds := [.data, .handle, .pinned], laidTests := true, laidLooks := .later }
def PartfsmAppliesUptoCardSaid : Prop := Claim7.holds Tryz.pinned (.plain (OpenSpec.upto partfsmAppliesSpec)) partfsmAppliesUptoCard

/-- THE SECOND FORM's CARD OF 'gazettelaw16.PartfsmBack'. -/
def partfsmBackUptoCard : Claim7 := { stood := { row := partfsmBackUptoRow, standIns := [], harness := (true, "4008c0ec14d4e8318941b98147842fa4797ed9bf7edcfa700debfb0742dcc49e"), looks := true }, kinds := [], alts := [], laidByText := true, laidKinds := [.data, .handle, .pinned], laidTests := true, laidLooks := .later }
def PartfsmBackUptoCardSaid : Prop := Claim7.holds Tryz.pinned (.plain (OpenSpec.upto partfsmBackSpec)) partfsmBackUptoCard

/-- THE SECOND FORM's CARD OF 'gazettelaw16.PartfsmBytes'. -/
def partfsmBytesUptoCard : Claim7 := { stood := { row := partfsmBytesUptoRow, standIns := [], harness := (true, "4008c0ec14d4e8318941b98147842fa4797ed9bf7edcfa700debfb0742dcc49e"), looks := true }, kinds := [], alts := [], laidByText := true, laidKinds := [.data, .handle, .pinned], laidTests := true, laidLooks := .later }
def PartfsmBytesUptoCardSaid : Prop := Claim7.holds Tryz.pinned (.plain (OpenSpec.upto partfsmBytesSpec)) partfsmBytesUptoCard
end Rows
end Go.Proofs.YtnbhdjadlbhknaaGreatDoor
