/-
  DERIVED. GIVEN WITH THE SEED: THE CARDS: each row of YtfiohpojlgkmkaaGreatDoorRows.lean that lists a variable, with what it lists TIED to the program's text (the seventh form; the later family's looks); each row that meets fmt, with fmt's text TOLD by the authors' own Lean function (tested against real Go, not proved from fmt's source: count such statements apart). THE CARD IS WHAT COUNTS. Prove the row's statement (the work); the ties are given (YtfiohpojlgkmkaaGreatDoorTie.lean); close each card by the builder's one call (the guide's Derived/Test/ToyasCard.lean, 'card_holds'). Laid BY PROGRAM, IN A SANDBOX (cutbox-door.mjs). By AI agents, Wed Nov 11 2026. No macro, syntax, notation, axiom, sorry.
-/
import Derived.Test.YtfiohpojlgkmkaaGreatDoorRows
import GoSem.ClaimSeven
namespace Go.Proofs.YtfiohpojlgkmkaaGreatDoor
namespace Rows

/-- THE TIED CARD OF 'gazettelaw02.SimdiskRoom'. -/
def simdiskRoomCard : Claim7 := { stood := { row := simdiskRoomRow, standIns := [], harness := (true, "666f4f6281c9ba18f9364d8b6787dc43ba51d30dd35a1590df4be36d639d9552"), looks := true }, kinds := [], alts := [], laidByText := true, laidKinds := [.data, .handle, .pinned], laidTests := true, laidLooks := .later }
def SimdiskRoomCardSaid : Prop := Claim7.holds Tryz.pinned (.plain (OpenSpec.ofChange simdiskRoomSpec)) simdiskRoomCard

/-- THE TIED CARD OF 'gazettelaw02.SimdiskNames'. -/
def simdiskNamesCard : Claim7 := { stood := { row := simdiskNamesRow, standIns := [], harness := (true, "666f4f6281c9ba18f9364d8b6787dc43ba51d30dd35a1590df4be36d639d9552"), looks := true }, kinds := [], alts := [], laidByText := true, laidKinds := [.data, .handle, .pinned], laidTests := true, laidLooks := .later }
def SimdiskNamesCardSaid : Prop := Claim7.holds Tryz.pinned (.plain (OpenSpec.ofChange simdiskNamesSpec)) simdiskNamesCard

/-- THE TIED CARD OF 'gazettelaw02.SimdiskPlays'. -/
def simdiskPlaysCard : Claim7 := { stood := { row := simdiskPlaysRow, standIns := [], harness := (true, "666f4f6281c9ba18f9364d8b6787dc43ba51d30dd35a1590df4be36d639d9552"), looks := true }, kinds := [], alts := [], laidByText := true, laidKinds := [.data, .handle, .pinned], laidTests := true, laidLooks := .later }
def SimdiskPlaysCardSaid : Prop := Claim7.holds Tryz.pinned (.plain (OpenSpec.ofChange simdiskPlaysSpec)) simdiskPlaysCard

/-- THE SECOND FORM's CARD OF 'gazettelaw02.SimdiskRoom'. -/
def simdiskRoomUptoCard : Claim7 := { stood := { row := simdiskRoomUptoRow, standIns := [], harness := (true, "666f4f6281c9ba18f9364d8b6787dc43ba51d30dd35a1590df4be36d639d9552"), looks := true }, kinds := [], alts := [], laidByText := true, laidKinds := [.data, .handle, .pinned], laidTests := true, laidLooks := .later }
def SimdiskRoomUptoCardSaid : Prop := Claim7.holds Tryz.pinned (.plain (OpenSpec.upto simdiskRoomSpec)) simdiskRoomUptoCard

/-- THE SECOND FORM's CARD OF 'gazettelaw02.SimdiskNames'. -/
def simdiskNamesUptoCard : Claim7 := { stood := { row := simdiskNamesUptoRow, standIns := [], harness := (true, "666f4f6281c9ba18f9364d8b6787dc43ba51d30dd35a1590df4be36d639d9552"), looks := true }, kinds := [], alts := [], laidByText := true, laidKinds := [.data, .handle, .pinned], laidTests := true, laidLooks := .later }
def SimdiskNamesUptoCardSaid : Prop := Claim7.holds Tryz.pinned (.plain (OpenSpec.upto simdiskNamesSpec)) simdiskNamesUptoCard

/-- THE SECOND FORM's CARD OF 'gazettelaw02.SimdiskPlays'. -/
def simdiskPlaysUptoCard : Claim7 := { stood := { row := simdiskPlaysUptoRow, standIns := [], harness := (true, "666f4f6281c9ba18f9364d8b6787dc43ba51d30dd35a1590df4be36d639d9552"), looks := true }, kinds := [], alts := [], laidByText := true, laidKinds := [.data, .handle, .pinned], laidTests := true, laidLooks := .later }
def SimdiskPlaysUptoCardSaid : Prop := Claim7.holds Tryz.pinned (.plain (OpenSpec.upto simdiskPlaysSpec)) simdiskPlaysUptoCard
end Rows
end Go.Proofs.YtfiohpojlgkmkaaGreatDoor
