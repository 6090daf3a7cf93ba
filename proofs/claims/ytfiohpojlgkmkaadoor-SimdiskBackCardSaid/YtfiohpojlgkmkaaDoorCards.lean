/-
  DERIVED. GIVEN WITH THE SEED: THE CARDS: each row of YtfiohpojlgkmkaaDoorRows.lean that lists a variable, with what it lists TIED to the program's text (the seventh form; the later family's looks); each row that meets fmt, with fmt's text TOLD by the authors' own Lean function (tested against real Go, not proved from fmt's source: count such statements apart). THE CARD IS WHAT COUNTS. Prove the row's statement (the work); the ties are given (YtfiohpojlgkmkaaDoorTie.lean); close each card by the builder's one call (the guide's Derived/Test/ToyasCard.lean, 'card_holds'). Laid BY PROGRAM, IN A SANDBOX (cutbox-door.mjs). By AI agents, Wed Nov 11 2026. No macro, syntax, notation, axiom, sorry.
-/
import Derived.Test.YtfiohpojlgkmkaaDoorRows
import GoSem.ClaimSeven
namespace Go.Proofs.YtfiohpojlgkmkaaDoor
namespace Rows

/-- THE TIED CARD OF 'gazettelaw02.SimdiskKeeps'. -/
def simdiskKeepsCard : Claim7 := { stood := { row := simdiskKeepsRow, standIns := [], harness := (true, "111258a9fa04bd350fa696b8a73a956b79ddd4e70140eac7e0ee6e1fd8316515"), looks := true }, kinds := [], alts := [], laidByText := true, laidKinds := [.data, .handle, .pinned], laidTests := true, laidLooks := .later }
def SimdiskKeepsCardSaid : Prop := Claim7.holds Tryd.pinned (.plain (OpenSpec.ofChange simdiskKeepsSpec)) simdiskKeepsCard

/-- THE TIED CARD OF 'gazettelaw02.SimdiskBack'. -/
def simdiskBackCard : Claim7 := { stood := { row := simdiskBackRow, standIns := [], harness := (true, "111258a9fa04bd350fa696b8a73a956b79ddd4e70140eac7e0ee6e1fd8316515"), looks := true }, kinds := [], alts := [], laidByText := true, laidKinds := [.data, .handle, .pinned], laidTests := true, laidLooks := .later }
def SimdiskBackCardSaid : Prop := Claim7.holds Tryd.pinned (.plain (OpenSpec.ofChange simdiskBackSpec)) simdiskBackCard

/-- THE SECOND FORM's CARD OF 'gazettelaw02.SimdiskKeeps'. -/
def simdiskKeepsUptoCard : Claim7 := { stood := { row := simdiskKeepsUptoRow, standIns := [], harness := (true, "111258a9fa04bd350fa696b8a73a956b79ddd4e70140eac7e0ee6e1fd8316515"), looks := true }, kinds := [], alts := [], laidByText := true, laidKinds := [.data, .handle, .pinned], laidTests := true, laidLooks := .later }
def SimdiskKeepsUptoCardSaid : Prop := Claim7.holds Tryd.pinned (.plain (OpenSpec.upto simdiskKeepsSpec)) simdiskKeepsUptoCard

/-- THE SECOND FORM's CARD OF 'gazettelaw02.SimdiskBack'. -/
def simdiskBackUptoCard : Claim7 := { stood := { row := simdiskBackUptoRow, standIns := [], harness := (true, "111258a9fa04bd350fa696b8a73a956b79ddd4e70140eac7e0ee6e1fd8316515"), looks := true }, kinds := [], alts := [], laidByText := true, laidKinds := [.data, .handle, .pinned], laidTests := true, laidLooks := .later }
def SimdiskBackUptoCardSaid : Prop := Claim7.holds Tryd.pinned (.plain (OpenSpec.upto simdiskBackSpec)) simdiskBackUptoCard
end Rows
end Go.Proofs.YtfiohpojlgkmkaaDoor
