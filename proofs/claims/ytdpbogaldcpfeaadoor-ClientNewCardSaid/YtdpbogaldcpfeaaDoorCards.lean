/-
  DERIVED. GIVEN WITH THE SEED: THE CARDS: each row of YtdpbogaldcpfeaaDoorRows.lean that lists a variable, with what it lists TIED to the program's text (the seventh form; the later family's looks); each row that meets fmt, with fmt's text TOLD by the authors' own Lean function (tested against real Go, not proved from fmt's source: count such statements apart). THE CARD IS WHAT COUNTS. Prove the row's statement (the work); the ties are given (YtdpbogaldcpfeaaDoorTie.lean); close each card by the builder's one call (the guide's Derived/Test/ToyasCard.lean, 'card_holds'). Laid BY PROGRAM, IN A SANDBOX (cutbox-door.mjs). By AI agents, Wed Nov 11 2026. No macro, syntax, notation, axiom, sorry.
-/
import Derived.Test.YtdpbogaldcpfeaaDoorRows
import GoSem.ClaimSeven
namespace Go.Proofs.YtdpbogaldcpfeaaDoor
namespace Rows

/-- THE TIED CARD OF 'gazettelaw21.ClientNew'. -/
def clientNewCard : Claim7 := { stood := { row := clientNewRow, standIns := [], harness := (true, "d686f48c37c53b8b17edd79b07371d72aa1eab26c4c3d22259758825fe5fa4ef"), looks := false }, kinds := [], alts := [], laidByText := true, laidKinds := [.data, .pinned], laidTests := true, laidLooks := .later }
def ClientNewCardSaid : Prop := Claim7.holds Tryd.pinned (.plain (OpenSpec.ofChange clientNewSpec)) clientNewCard

/-- THE TIED CARD OF 'gazettelaw21.ClientRule'. -/
def clientRuleCard : Claim7 := { stood := { row := clientRuleRow, standIns := [], harness := (true, "d686f48c37c53b8b17edd79b07371d72aa1eab26c4c3d22259758825fe5fa4ef"), looks := false }, kinds := [], alts := [], laidByText := true, laidKinds := [.data, .pinned], laidTests := true, laidLooks := .later }
def ClientRuleCardSaid : Prop := Claim7.holds Tryd.pinned (.plain (OpenSpec.ofChange clientRuleSpec)) clientRuleCard

/-- THE TIED CARD OF 'gazettelaw21.ClientEnds'. -/
def clientEndsCard : Claim7 := { stood := { row := clientEndsRow, standIns := [], harness := (true, "d686f48c37c53b8b17edd79b07371d72aa1eab26c4c3d22259758825fe5fa4ef"), looks := false }, kinds := [], alts := [], laidByText := true, laidKinds := [.data, .pinned], laidTests := true, laidLooks := .later }
def ClientEndsCardSaid : Prop := Claim7.holds Tryd.pinned (.plain (OpenSpec.ofChange clientEndsSpec)) clientEndsCard

/-- THE TIED CARD OF 'gazettelaw21.ClientFinds'. -/
def clientFindsCard : Claim7 := { stood := { row := clientFindsRow, standIns := [], harness := (true, "d686f48c37c53b8b17edd79b07371d72aa1eab26c4c3d22259758825fe5fa4ef"), looks := false }, kinds := [], alts := [], laidByText := true, laidKinds := [.data, .pinned], laidTests := true, laidLooks := .later }
def ClientFindsCardSaid : Prop := Claim7.holds Tryd.pinned (.plain (OpenSpec.ofChange clientFindsSpec)) clientFindsCard

/-- THE TIED CARD OF 'gazettelaw21.ClientLate'. -/
def clientLateCard : Claim7 := { stood := { row := clientLateRow, standIns := [], harness := (true, "d686f48c37c53b8b17edd79b07371d72aa1eab26c4c3d22259758825fe5fa4ef"), looks := false }, kinds := [], alts := [], laidByText := true, laidKinds := [.data, .pinned], laidTests := true, laidLooks := .later }
def ClientLateCardSaid : Prop := Claim7.holds Tryd.pinned (.plain (OpenSpec.ofChange clientLateSpec)) clientLateCard

/-- THE SECOND FORM's CARD OF 'gazettelaw21.ClientNew'. -/
def clientNewUptoCard : Claim7 := { stood := { row := clientNewUptoRow, standIns := [], harness := (true, "d686f48c37c53b8b17edd79b07371d72aa1eab26c4c3d22259758825fe5fa4ef"), looks := false }, kinds := [], alts := [], laidByText := true, laidKinds := [.data, .pinned], laidTests := true, laidLooks := .later }
def ClientNewUptoCardSaid : Prop := Claim7.holds Tryd.pinned (.plain (OpenSpec.upto clientNewSpec)) clientNewUptoCard

/-- THE SECOND FORM's CARD OF 'gazettelaw21.ClientRule'. -/
def clientRuleUptoCard : Claim7 := { stood := { row := clientRuleUptoRow, standIns := [], harness := (true, "d686f48c37c53b8b17edd79b07371d72aa1eab26c4c3d22259758825fe5fa4ef"), looks := false }, kinds := [], alts := [], laidByText := true, laidKinds := [.data, .pinned], laidTests := true, laidLooks := .later }
def ClientRuleUptoCardSaid : Prop := Claim7.holds Tryd.pinned (.plain (OpenSpec.upto clientRuleSpec)) clientRuleUptoCard

/-- THE SECOND FORM's CARD OF 'gazettelaw21.ClientEnds'. -/
def clientEndsUptoCard : Claim7 := { stood := { row := clientEndsUptoRow, standIns := [], harness := (true, "d686f48c37c53b8b17edd79b07371d72aa1eab26c4c3d22259758825fe5fa4ef"), looks := false }, kinds := [], alts := [], laidByText := true, laidKinds := [.data, .pinned], laidTests := true, laidLooks := .later }
def ClientEndsUptoCardSaid : Prop := Claim7.holds Tryd.pinned (.plain (OpenSpec.upto clientEndsSpec)) clientEndsUptoCard

/-- THE SECOND FORM's CARD OF 'gazettelaw21.ClientFinds'. -/
def clientFindsUptoCard : Claim7 := { stood := { row := clientFindsUptoRow, standIns := [], harness := (true, "d686f48c37c53b8b17edd79b07371d72aa1eab26c4c3d22259758825fe5fa4ef"), looks := false }, kinds := [], alts := [], laidByText := true, laidKinds := [.data, .pinned], laidTests := true, laidLooks := .later }
def ClientFindsUptoCardSaid : Prop := Claim7.holds Tryd.pinned (.plain (OpenSpec.upto clientFindsSpec)) clientFindsUptoCard

/-- THE SECOND FORM's CARD OF 'gazettelaw21.ClientLate'. -/
def clientLateUptoCard : Claim7 := { stood := { row := clientLateUptoRow, standIns := [], harness := (true, "d686f48c37c53b8b17edd79b07371d72aa1eab26c4c3d22259758825fe5fa4ef"), looks := false }, kinds := [], alts := [], laidByText := true, laidKinds := [.data, .pinned], laidTests := true, laidLooks := .later }
def ClientLateUptoCardSaid : Prop := Claim7.holds Tryd.pinned (.plain (OpenSpec.upto clientLateSpec)) clientLateUptoCard
end Rows
end Go.Proofs.YtdpbogaldcpfeaaDoor
