/-
  DERIVED. GIVEN WITH THE SEED: THE CARDS: each row of YtckklclehofddaaGreatDoorRows.lean that lists a variable, with what it lists TIED to the program's text (the seventh form; the later family's looks); each row that meets fmt, with fmt's text TOLD by the authors' own Lean function (tested against real Go, not proved from fmt's source: count such statements apart). THE CARD IS WHAT COUNTS. Prove the row's statement (the work); the ties are given (YtckklclehofddaaGreatDoorTie.lean); close each card by the builder's one call (the guide's Derived/Test/ToyasCard.lean, 'card_holds'). Laid BY PROGRAM, IN A SANDBOX (cutbox-door.mjs). By AI agents, Wed Nov 11 2026. No macro, syntax, notation, axiom, sorry.
-/
import Derived.Test.YtckklclehofddaaGreatDoorRows
import GoSem.ClaimSeven
namespace Go.Proofs.YtckklclehofddaaGreatDoor
namespace Rows

/-- THE TIED CARD OF 'gazettelaw17.LineageNames'. -/
def lineageNamesCard : Claim7 := { stood := { row := lineageNamesRow, standIns := [], harness := (true, "2178a0abd1c3215b494c4ba3807e31ca51ad02823946fccec094b9321f61a96a"), looks := true }, kinds := [], alts := [], laidByText := true, laidKinds := [.data, .pinned], laidTests := true, laidLooks := .later }
def LineageNamesCardSaid : Prop := Claim7.holds Tryz.pinned (.plain (OpenSpec.ofChange lineageNamesSpec)) lineageNamesCard

/-- THE TIED CARD OF 'gazettelaw17.LineageMerges'. -/
def lineageMergesCard : Claim7 := { stood := { row := lineageMergesRow, standIns := [], harness := (true, "2178a0abd1c3215b494c4ba3807e31ca51ad02823946fccec094b9321f61a96a"), looks := true }, kinds := [], alts := [], laidByText := true, laidKinds := [.data, .pinned], laidTests := true, laidLooks := .later }
def LineageMergesCardSaid : Prop := Claim7.holds Tryz.pinned (.plain (OpenSpec.ofChange lineageMergesSpec)) lineageMergesCard

/-- THE TIED CARD OF 'gazettelaw17.LineageKeeps'. -/
def lineageKeepsCard : Claim7 := { stood := { row := lineageKeepsRow, standIns := [], harness := (true, "2178a0abd1c3215b494c4ba3807e31ca51ad02823946fccec094b9321f61a96a"), looks := true }, kinds := [], alts := [], laidByText := true, laidKinds := [.data, .pinned], laidTests := true, laidLooks := .later }
def LineageKeepsCardSaid : Prop := Claim7.holds Tryz.pinned (.plain (OpenSpec.ofChange lineageKeepsSpec)) lineageKeepsCard

/-- THE TIED CARD OF 'gazettelaw17.LineageBack'. -/
def lineageBackCard : Claim7 := { stood := { row := lineageBackRow, standIns := [], harness := (true, "2178a0abd1c3215b494c4ba3807e31ca51ad02823946fccec094b9321f61a96a"), looks := true }, kinds := [], alts := [], laidByText := true, laidKinds := [.data, .pinned], laidTests := true, laidLooks := .later }
def LineageBackCardSaid : Prop := Claim7.holds Tryz.pinned (.plain (OpenSpec.ofChange lineageBackSpec)) lineageBackCard

/-- THE TIED CARD OF 'gazettelaw17.LineageOnce'. -/
def lineageOnceCard : Claim7 := { stood := { row := lineageOnceRow, standIns := [], harness := (true, "2178a0abd1c3215b494c4ba3807e31ca51ad02823946fccec094b9321f61a96a"), looks := true }, kinds := [], alts := [], laidByText := true, laidKinds := [.data, .pinned], laidTests := true, laidLooks := .later }
def LineageOnceCardSaid : Prop := Claim7.holds Tryz.pinned (.plain (OpenSpec.ofChange lineageOnceSpec)) lineageOnceCard

/-- THE SECOND FORM's CARD OF 'gazettelaw17.LineageNames'. -/
def lineageNamesUptoCard : Claim7 := { stood := { row := lineageNamesUptoRow, standIns := [], harness := (true, "2178a0abd1c3215b494c4ba3807e31ca51ad02823946fccec094b9321f61a96a"), looks := true }, kinds := [], alts := [], laidByText := true, laidKinds := [.data, .pinned], laidTests := true, laidLooks := .later }
def LineageNamesUptoCardSaid : Prop := Claim7.holds Tryz.pinned (.plain (OpenSpec.upto lineageNamesSpec)) lineageNamesUptoCard

/-- THE SECOND FORM's CARD OF 'gazettelaw17.LineageMerges'. -/
def lineageMergesUptoCard : Claim7 := { stood := { row := lineageMergesUptoRow, standIns := [], harness := (true, "2178a0abd1c3215b494c4ba3807e31ca51ad02823946fccec094b9321f61a96a"), looks := true }, kinds := [], alts := [], laidByText := true, laidKinds := [.data, .pinned], laidTests := true, laidLooks := .later }
def LineageMergesUptoCardSaid : Prop := Claim7.holds Tryz.pinned (.plain (OpenSpec.upto lineageMergesSpec)) lineageMergesUptoCard

/-- THE SECOND FORM's CARD OF 'gazettelaw17.LineageKeeps'. -/
def lineageKeepsUptoCard : Claim7 := { stood := { row := lineageKeepsUptoRow, standIns := [], harness := (true, "2178a0abd1c3215b494c4ba3807e31ca51ad02823946fccec094b9321f61a96a"), looks := true }, kinds := [], alts := [], laidByText := true, laidKinds := [.data, .pinned], laidTests := true, laidLooks := .later }
def LineageKeepsUptoCardSaid : Prop := Claim7.holds Tryz.pinned (.plain (OpenSpec.upto lineageKeepsSpec)) lineageKeepsUptoCard

/-- THE SECOND FORM's CARD OF 'gazettelaw17.LineageBack'. -/
def lineageBackUptoCard : Claim7 := { stood := { row := lineageBackUptoRow, standIns := [], harness := (true, "2178a0abd1c3215b494c4ba3807e31ca51ad02823946fccec094b9321f61a96a"), looks := true }, kinds := [], alts := [], laidByText := true, laidKinds := [.data, .pinned], laidTests := true, laidLooks := .later }
def LineageBackUptoCardSaid : Prop := Claim7.holds Tryz.pinned (.plain (OpenSpec.upto lineageBackSpec)) lineageBackUptoCard

/-- THE SECOND FORM's CARD OF 'gazettelaw17.LineageOnce'. -/
def lineageOnceUptoCard : Claim7 := { stood := { row := lineageOnceUptoRow, standIns := [], harness := (true, "2178a0abd1c3215b494c4ba3807e31ca51ad02823946fccec094b9321f61a96a"), looks := true }, kinds := [], alts := [], laidByText := true, laidKinds := [.data, .pinned], laidTests := true, laidLooks := .later }
def LineageOnceUptoCardSaid : Prop := Claim7.holds Tryz.pinned (.plain (OpenSpec.upto lineageOnceSpec)) lineageOnceUptoCard
end Rows
end Go.Proofs.YtckklclehofddaaGreatDoor
