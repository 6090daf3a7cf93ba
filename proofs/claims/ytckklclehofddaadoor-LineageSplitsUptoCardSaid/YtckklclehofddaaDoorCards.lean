/-
  DERIVED. GIVEN WITH THE SEED: THE CARDS: each row of YtckklclehofddaaDoorRows.lean that lists a variable, with what it lists TIED to the program's text (the seventh form; the later family's looks); each row that meets fmt, with fmt's text TOLD by the authors' own Lean function (tested against real Go, not proved from fmt's source: count such statements apart). THE CARD IS WHAT COUNTS. Prove the row's statement (the work); the ties are given (YtckklclehofddaaDoorTie.lean); close each card by the builder's one call (the guide's Derived/Test/ToyasCard.lean, 'card_holds'). Laid BY PROGRAM, IN A SANDBOX (cutbox-door.mjs). By AI agents, Wed Nov 11 2026. No macro, syntax, notation, axiom, sorry.
-/
import Derived.Test.YtckklclehofddaaDoorRows
import GoSem.ClaimSeven
namespace Go.Proofs.YtckklclehofddaaDoor
namespace Rows

/-- THE TIED CARD OF 'gazettelaw17.LineageSplits'. -/
def lineageSplitsCard : Claim7 := { stood := { row := lineageSplitsRow, standIns := [], harness := (true, "84302003515846d72bd40edd2ce5986e4f668e76e046885384b15b5ec307b7b6"), looks := true }, kinds := [], alts := [], laidByText := true, laidKinds := [.data, .pinned], laidTests := true, laidLooks := .later }
def LineageSplitsCardSaid : Prop := Claim7.holds Tryd.pinned (.plain (OpenSpec.ofChange lineageSplitsSpec)) lineageSplitsCard

/-- THE TIED CARD OF 'gazettelaw17.LineageThree'. -/
def lineageThreeCard : Claim7 := { stood := { row := lineageThreeRow, standIns := [], harness := (true, "84302003515846d72bd40edd2ce5986e4f668e76e046885384b15b5ec307b7b6"), looks := true }, kinds := [], alts := [], laidByText := true, laidKinds := [.data, .pinned], laidTests := true, laidLooks := .later }
def LineageThreeCardSaid : Prop := Claim7.holds Tryd.pinned (.plain (OpenSpec.ofChange lineageThreeSpec)) lineageThreeCard

/-- THE SECOND FORM's CARD OF 'gazettelaw17.LineageSplits'. -/
def lineageSplitsUptoCard : Claim7 := { stood := { row := lineageSplitsUptoRow, standIns := [], harness := (true, "84302003515846d72bd40edd2ce5986e4f668e76e046885384b15b5ec307b7b6"), looks := true }, kinds := [], alts := [], laidByText := true, laidKinds := [.data, .pinned], laidTests := true, laidLooks := .later }
def LineageSplitsUptoCardSaid : Prop := Claim7.holds Tryd.pinned (.plain (OpenSpec.upto lineageSplitsSpec)) lineageSplitsUptoCard

/-- THE SECOND FORM's CARD OF 'gazettelaw17.LineageThree'. -/
def lineageThreeUptoCard : Claim7 := { stood := { row := lineageThreeUptoRow, standIns := [], harness := (true, "84302003515846d72bd40edd2ce5986e4f668e76e046885384b15b5ec307b7b6"), looks := true }, kinds := [], alts := [], laidByText := true, laidKinds := [.data, .pinned], laidTests := true, laidLooks := .later }
def LineageThreeUptoCardSaid : Prop := Claim7.holds Tryd.pinned (.plain (OpenSpec.upto lineageThreeSpec)) lineageThreeUptoCard
end Rows
end Go.Proofs.YtckklclehofddaaDoor
