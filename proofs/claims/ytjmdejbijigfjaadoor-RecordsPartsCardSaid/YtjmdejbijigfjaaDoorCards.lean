/-
  DERIVED. GIVEN WITH THE SEED: THE CARDS: each row of YtjmdejbijigfjaaDoorRows.lean that lists a variable, with what it lists TIED to the program's text (the seventh form; the later family's looks); each row that meets fmt, with fmt's text TOLD by the authors' own Lean function (tested against real Go, not proved from fmt's source: count such statements apart). THE CARD IS WHAT COUNTS. Prove the row's statement (the work); the ties are given (YtjmdejbijigfjaaDoorTie.lean); close each card by the builder's one call (the guide's Derived/Test/ToyasCard.lean, 'card_holds'). Laid BY PROGRAM, IN A SANDBOX (cutbox-door.mjs). By AI agents, Wed Nov 11 2026. No macro, syntax, notation, axiom, sorry.
-/
import Derived.Test.YtjmdejbijigfjaaDoorRows
import GoSem.ClaimSeven
namespace Go.Proofs.YtjmdejbijigfjaaDoor
namespace Rows

/-- THE TIED CARD OF 'gazettelaw14.RecordsLogs'. -/
def recordsLogsCard : Claim7 := { stood := { row := recordsLogsRow, standIns := [], harness := (true, "c6216772fa23618345da0e61fb6b64e81834fe3c41d4c2546afdeda0683467e7"), looks := false }, kinds := [], alts := [], laidByText := true, laidKinds := [.data, .pinned], laidTests := true, laidLooks := .later }
def RecordsLogsCardSaid : Prop := Claim7.holds Tryd.pinned (.plain (OpenSpec.ofChange recordsLogsSpec)) recordsLogsCard

/-- THE TIED CARD OF 'gazettelaw14.RecordsFull'. -/
def recordsFullCard : Claim7 := { stood := { row := recordsFullRow, standIns := [], harness := (true, "c6216772fa23618345da0e61fb6b64e81834fe3c41d4c2546afdeda0683467e7"), looks := false }, kinds := [], alts := [], laidByText := true, laidKinds := [.data, .pinned], laidTests := true, laidLooks := .later }
def RecordsFullCardSaid : Prop := Claim7.holds Tryd.pinned (.plain (OpenSpec.ofChange recordsFullSpec)) recordsFullCard

/-- THE TIED CARD OF 'gazettelaw14.RecordsParts'. -/
def recordsPartsCard : Claim7 := { stood := { row := recordsPartsRow, standIns := [], harness := (true, "c6216772fa23618345da0e61fb6b64e81834fe3c41d4c2546afdeda0683467e7"), looks := false }, kinds := [], alts := [], laidByText := true, laidKinds := [.data, .pinned], laidTests := true, laidLooks := .later }
def RecordsPartsCardSaid : Prop := Claim7.holds Tryd.pinned (.plain (OpenSpec.ofChange recordsPartsSpec)) recordsPartsCard

/-- THE TIED CARD OF 'gazettelaw14.RecordsOrder'. -/
def recordsOrderCard : Claim7 := { stood := { row := recordsOrderRow, standIns := [], harness := (true, "c6216772fa23618345da0e61fb6b64e81834fe3c41d4c2546afdeda0683467e7"), looks := false }, kinds := [], alts := [], laidByText := true, laidKinds := [.data, .pinned], laidTests := true, laidLooks := .later }
def RecordsOrderCardSaid : Prop := Claim7.holds Tryd.pinned (.plain (OpenSpec.ofChange recordsOrderSpec)) recordsOrderCard

/-- THE TIED CARD OF 'gazettelaw14.RecordsWhole'. -/
def recordsWholeCard : Claim7 := { stood := { row := recordsWholeRow, standIns := [], harness := (true, "c6216772fa23618345da0e61fb6b64e81834fe3c41d4c2546afdeda0683467e7"), looks := false }, kinds := [], alts := [], laidByText := true, laidKinds := [.data, .pinned], laidTests := true, laidLooks := .later }
def RecordsWholeCardSaid : Prop := Claim7.holds Tryd.pinned (.plain (OpenSpec.ofChange recordsWholeSpec)) recordsWholeCard

/-- THE TIED CARD OF 'gazettelaw14.RecordsReaders'. -/
def recordsReadersCard : Claim7 := { stood := { row := recordsReadersRow, standIns := [], harness := (true, "c6216772fa23618345da0e61fb6b64e81834fe3c41d4c2546afdeda0683467e7"), looks := false }, kinds := [], alts := [], laidByText := true, laidKinds := [.data, .pinned], laidTests := true, laidLooks := .later }
def RecordsReadersCardSaid : Prop := Claim7.holds Tryd.pinned (.plain (OpenSpec.ofChange recordsReadersSpec)) recordsReadersCard

/-- THE TIED CARD OF 'gazettelaw14.RecordsUnread'. -/
def recordsUnreadCard : Claim7 := { stood := { row := recordsUnreadRow, standIns := [], harness := (true, "c6216772fa23618345da0e61fb6b64e81834fe3c41d4c2546afdeda0683467e7"), looks := false }, kinds := [], alts := [], laidByText := true, laidKinds := [.data, .pinned], laidTests := true, laidLooks := .later }
def RecordsUnreadCardSaid : Prop := Claim7.holds Tryd.pinned (.plain (OpenSpec.ofChange recordsUnreadSpec)) recordsUnreadCard

/-- THE TIED CARD OF 'gazettelaw14.RecordsNames'. -/
def recordsNamesCard : Claim7 := { stood := { row := recordsNamesRow, standIns := [], harness := (true, "c6216772fa23618345da0e61fb6b64e81834fe3c41d4c2546afdeda0683467e7"), looks := false }, kinds := [], alts := [], laidByText := true, laidKinds := [.data, .pinned], laidTests := true, laidLooks := .later }
def RecordsNamesCardSaid : Prop := Claim7.holds Tryd.pinned (.plain (OpenSpec.ofChange recordsNamesSpec)) recordsNamesCard

/-- THE SECOND FORM's CARD OF 'gazettelaw14.RecordsLogs'. -/
def recordsLogsUptoCard : Claim7 := { stood := { row := recordsLogsUptoRow, standIns := [], harness := (true, "c6216772fa23618345da0e61fb6b64e81834fe3c41d4c2546afdeda0683467e7"), looks := false }, kinds := [], alts := [], laidByText := true, laidKinds := [.data, .pinned], laidTests := true, laidLooks := .later }
def RecordsLogsUptoCardSaid : Prop := Claim7.holds Tryd.pinned (.plain (OpenSpec.upto recordsLogsSpec)) recordsLogsUptoCard

/-- THE SECOND FORM's CARD OF 'gazettelaw14.RecordsFull'. -/
def recordsFullUptoCard : Claim7 := { stood := { row := recordsFullUptoRow, standIns := [], harness := (true, "c6216772fa23618345da0e61fb6b64e81834fe3c41d4c2546afdeda0683467e7"), looks := false }, kinds := [], alts := [], laidByText := true, laidKinds := [.data, .pinned], laidTests := true, laidLooks := .later }
def RecordsFullUptoCardSaid : Prop := Claim7.holds Tryd.pinned (.plain (OpenSpec.upto recordsFullSpec)) recordsFullUptoCard

/-- THE SECOND FORM's CARD OF 'gazettelaw14.RecordsParts'. -/
def recordsPartsUptoCard : Claim7 := { stood := { row := recordsPartsUptoRow, standIns := [], harness := (true, "c6216772fa23618345da0e61fb6b64e81834fe3c41d4c2546afdeda0683467e7"), looks := false }, kinds := [], alts := [], laidByText := true, laidKinds := [.data, .pinned], laidTests := true, laidLooks := .later }
def RecordsPartsUptoCardSaid : Prop := Claim7.holds Tryd.pinned (.plain (OpenSpec.upto recordsPartsSpec)) recordsPartsUptoCard

/-- THE SECOND FORM's CARD OF 'gazettelaw14.RecordsOrder'. -/
def recordsOrderUptoCard : Claim7 := { stood := { row := recordsOrderUptoRow, standIns := [], harness := (true, "c6216772fa23618345da0e61fb6b64e81834fe3c41d4c2546afdeda0683467e7"), looks := false }, kinds := [], alts := [], laidByText := true, laidKinds := [.data, .pinned], laidTests := true, laidLooks := .later }
def RecordsOrderUptoCardSaid : Prop := Claim7.holds Tryd.pinned (.plain (OpenSpec.upto recordsOrderSpec)) recordsOrderUptoCard

/-- THE SECOND FORM's CARD OF 'gazettelaw14.RecordsWhole'. -/
def recordsWholeUptoCard : Claim7 := { stood := { row := recordsWholeUptoRow, standIns := [], harness := (true, "c6216772fa23618345da0e61fb6b64e81834fe3c41d4c2546afdeda0683467e7"), looks := false }, kinds := [], alts := [], laidByText := true, laidKinds := [.data, .pinned], laidTests := true, laidLooks := .later }
def RecordsWholeUptoCardSaid : Prop := Claim7.holds Tryd.pinned (.plain (OpenSpec.upto recordsWholeSpec)) recordsWholeUptoCard

/-- THE SECOND FORM's CARD OF 'gazettelaw14.RecordsReaders'. -/
def recordsReadersUptoCard : Claim7 := { stood := { row := recordsReadersUptoRow, standIns := [], harness := (true, "c6216772fa23618345da0e61fb6b64e81834fe3c41d4c2546afdeda0683467e7"), looks := false }, kinds := [], alts := [], laidByText := true, laidKinds := [.data, .pinned], laidTests := true, laidLooks := .later }
def RecordsReadersUptoCardSaid : Prop := Claim7.holds Tryd.pinned (.plain (OpenSpec.upto recordsReadersSpec)) recordsReadersUptoCard

/-- THE SECOND FORM's CARD OF 'gazettelaw14.RecordsUnread'. -/
def recordsUnreadUptoCard : Claim7 := { stood := { row := recordsUnreadUptoRow, standIns := [], harness := (true, "c6216772fa23618345da0e61fb6b64e81834fe3c41d4c2546afdeda0683467e7"), looks := false }, kinds := [], alts := [], laidByText := true, laidKinds := [.data, .pinned], laidTests := true, laidLooks := .later }
def RecordsUnreadUptoCardSaid : Prop := Claim7.holds Tryd.pinned (.plain (OpenSpec.upto recordsUnreadSpec)) recordsUnreadUptoCard

/-- THE SECOND FORM's CARD OF 'gazettelaw14.RecordsNames'. -/
def recordsNamesUptoCard : Claim7 := { stood := { row := recordsNamesUptoRow, standIns := [], harness := (true, "c6216772fa23618345da0e61fb6b64e81834fe3c41d4c2546afdeda0683467e7"), looks := false }, kinds := [], alts := [], laidByText := true, laidKinds := [.data, .pinned], laidTests := true, laidLooks := .later }
def RecordsNamesUptoCardSaid : Prop := Claim7.holds Tryd.pinned (.plain (OpenSpec.upto recordsNamesSpec)) recordsNamesUptoCard
end Rows
end Go.Proofs.YtjmdejbijigfjaaDoor
