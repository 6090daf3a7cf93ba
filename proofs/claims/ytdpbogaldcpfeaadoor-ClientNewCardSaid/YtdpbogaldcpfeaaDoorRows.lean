/-
  NARROWER THAN 'FOR EVERY INPUT', by the rows' own cells (each row's printed sentence says how): ClientNew: laid · ClientRule: laid · ClientEnds: laid · ClientFinds: laid · ClientLate: laid.
  DERIVED. THE GIVEN ROWS OF THIS SEAT. 5 by the template 'for every input the law returns true; each argument reads behind the call as it read before'; 0 by the template 'total and deterministic' (their statements: YtdpbogaldcpfeaaDoorTotals.lean).
  GIVEN WITH THE SEED: the statements are not yours to turn. If you find one false, say at which input.
  Laid BY PROGRAM, IN A SANDBOX (cutbox-rows.mjs): the forced cells as the released guide's own fill.sh prints them over the translation 749b712b29499b0b… (all of the seat's roots in one cut). By AI agents, Wed Nov 11 2026. No macro, syntax, notation, axiom, sorry.
-/
import Derived.Test.YtdpbogaldcpfeaaDoorChecked
import GoSem.PinnedTables
import GoSem.Claim
import GoSem.ClaimJoined
import GoSem.ClaimMapViews
import Derived.JoinedTies
import Derived.KernelRfl
namespace Go.Proofs.YtdpbogaldcpfeaaDoor
/- THE CELL 'sum', in the pinned program and in every row, IS THE sha256 OF THE DUMP (.gsa) THAT YtdpbogaldcpfeaaDoorProg.lean LOADS. Nothing in Lean hashes anything: it is a label: what it is worth is what the hold of that sum in a sandbox is worth. -/
noncomputable def Tryd.pinned : Pinned := { name := "ytdpbogaldcpfeaadoor", sum := "749b712b29499b0b7c00953cc2c2a76bf5408aad2faca0eee50119feb8f1deda", checked := Tryd.checked }
namespace Rows
def none {H : Type} : Left H := { results := [], args := [] }

/- WHAT THE LISTED PACKAGE-LEVEL VARIABLES READ AS WHEN THE CALL BEGINS. Each datum BY PROGRAM (the guide's laid-datum.mjs) off the statement by which the dump's own 'gosem.cut.vars' lays the variable. In a bare row this is a premise. The card (YtdpbogaldcpfeaaDoorCards.lean) ties it to the program's text. -/
def laid_unicode_utf8_acceptRanges {H : Type} : DataW H := .agg [.agg [.lit (.int .u8 128), .lit (.int .u8 191)], .agg [.lit (.int .u8 160), .lit (.int .u8 191)], .agg [.lit (.int .u8 128), .lit (.int .u8 159)], .agg [.lit (.int .u8 144), .lit (.int .u8 191)], .agg [.lit (.int .u8 128), .lit (.int .u8 143)], .agg [.lit (.int .u8 0), .lit (.int .u8 0)], .agg [.lit (.int .u8 0), .lit (.int .u8 0)], .agg [.lit (.int .u8 0), .lit (.int .u8 0)], .agg [.lit (.int .u8 0), .lit (.int .u8 0)], .agg [.lit (.int .u8 0), .lit (.int .u8 0)], .agg [.lit (.int .u8 0), .lit (.int .u8 0)], .agg [.lit (.int .u8 0), .lit (.int .u8 0)], .agg [.lit (.int .u8 0), .lit (.int .u8 0)], .agg [.lit (.int .u8 0), .lit (.int .u8 0)], .agg [.lit (.int .u8 0), .lit (.int .u8 0)], .agg [.lit (.int .u8 0), .lit (.int .u8 0)]]
/-- One of Go's own tables, pinned by name: the form's constant. -/
def laid_unicode_utf8_first : DataW Unit := Go.Pinned.utf8First

/-- 'gazettelaw21.ClientNew': WHATEVER THE INPUT: true; the input reads as it did. -/
def clientNewSpec : ChangeSpec := { name := "clientNew", fn := fun _ => fun
  | [d1, d2, d3] => { results := [.lit (.bool true)], args := [d1, d2, d3] }
  | _ => none }
def clientNewRow : OpenClaim := { program := "ytdpbogaldcpfeaadoor", sum := "749b712b29499b0b7c00953cc2c2a76bf5408aad2faca0eee50119feb8f1deda", func := "gazette/gazettelaw21.ClientNew", spec := "clientNew", inPlace := ["internal/bytealg.IndexByteString", "internal/bytealg.IndexString"], unfollowed := true, recurses := true, named := ["unicode/utf8.first", "unicode/utf8.acceptRanges", "internal/bytealg.MaxLen"], apart := false, laid := [("unicode/utf8.acceptRanges", laid_unicode_utf8_acceptRanges), ("unicode/utf8.first", laid_unicode_utf8_first)] }
def ClientNewSaid : Prop := clientNewRow.holds Tryd.pinned (OpenSpec.ofChange clientNewSpec)

/-- ITS FALSE NEIGHBOUR: 'it returns false'. Refute it at one input. -/
def clientNewWrong : ChangeSpec := { name := "clientNew", fn := fun _ => fun
  | [d1, d2, d3] => { results := [.lit (.bool false)], args := [d1, d2, d3] }
  | _ => none }
def ClientNewWrongFalsely : Prop := clientNewRow.holds Tryd.pinned (OpenSpec.ofChange clientNewWrong)

/-- 'gazettelaw21.ClientRule': WHATEVER THE INPUT: true; the input reads as it did. -/
def clientRuleSpec : ChangeSpec := { name := "clientRule", fn := fun _ => fun
  | [d1, d2, d3] => { results := [.lit (.bool true)], args := [d1, d2, d3] }
  | _ => none }
def clientRuleRow : OpenClaim := { program := "ytdpbogaldcpfeaadoor", sum := "749b712b29499b0b7c00953cc2c2a76bf5408aad2faca0eee50119feb8f1deda", func := "gazette/gazettelaw21.ClientRule", spec := "clientRule", inPlace := ["internal/bytealg.IndexByteString", "internal/bytealg.IndexString"], unfollowed := true, recurses := true, named := ["unicode/utf8.first", "unicode/utf8.acceptRanges", "internal/bytealg.MaxLen"], apart := false, laid := [("unicode/utf8.acceptRanges", laid_unicode_utf8_acceptRanges), ("unicode/utf8.first", laid_unicode_utf8_first)] }
def ClientRuleSaid : Prop := clientRuleRow.holds Tryd.pinned (OpenSpec.ofChange clientRuleSpec)

/-- ITS FALSE NEIGHBOUR: 'it returns false'. Refute it at one input. -/
def clientRuleWrong : ChangeSpec := { name := "clientRule", fn := fun _ => fun
  | [d1, d2, d3] => { results := [.lit (.bool false)], args := [d1, d2, d3] }
  | _ => none }
def ClientRuleWrongFalsely : Prop := clientRuleRow.holds Tryd.pinned (OpenSpec.ofChange clientRuleWrong)

/-- 'gazettelaw21.ClientEnds': WHATEVER THE INPUT: true; the input reads as it did. -/
def clientEndsSpec : ChangeSpec := { name := "clientEnds", fn := fun _ => fun
  | [d1, d2, d3, d4] => { results := [.lit (.bool true)], args := [d1, d2, d3, d4] }
  | _ => none }
def clientEndsRow : OpenClaim := { program := "ytdpbogaldcpfeaadoor", sum := "749b712b29499b0b7c00953cc2c2a76bf5408aad2faca0eee50119feb8f1deda", func := "gazette/gazettelaw21.ClientEnds", spec := "clientEnds", inPlace := ["internal/bytealg.IndexByteString", "internal/bytealg.IndexString"], unfollowed := true, recurses := true, named := ["unicode/utf8.first", "unicode/utf8.acceptRanges", "internal/bytealg.MaxLen"], apart := false, laid := [("unicode/utf8.acceptRanges", laid_unicode_utf8_acceptRanges), ("unicode/utf8.first", laid_unicode_utf8_first)] }
def ClientEndsSaid : Prop := clientEndsRow.holds Tryd.pinned (OpenSpec.ofChange clientEndsSpec)

/-- ITS FALSE NEIGHBOUR: 'it returns false'. Refute it at one input. -/
def clientEndsWrong : ChangeSpec := { name := "clientEnds", fn := fun _ => fun
  | [d1, d2, d3, d4] => { results := [.lit (.bool false)], args := [d1, d2, d3, d4] }
  | _ => none }
def ClientEndsWrongFalsely : Prop := clientEndsRow.holds Tryd.pinned (OpenSpec.ofChange clientEndsWrong)

/-- 'gazettelaw21.ClientFinds': WHATEVER THE INPUT: true; the input reads as it did. -/
def clientFindsSpec : ChangeSpec := { name := "clientFinds", fn := fun _ => fun
  | [d1, d2, d3] => { results := [.lit (.bool true)], args := [d1, d2, d3] }
  | _ => none }
def clientFindsRow : OpenClaim := { program := "ytdpbogaldcpfeaadoor", sum := "749b712b29499b0b7c00953cc2c2a76bf5408aad2faca0eee50119feb8f1deda", func := "gazette/gazettelaw21.ClientFinds", spec := "clientFinds", inPlace := ["internal/bytealg.IndexByteString", "internal/bytealg.IndexString"], unfollowed := true, recurses := true, named := ["unicode/utf8.first", "unicode/utf8.acceptRanges", "internal/bytealg.MaxLen"], apart := false, laid := [("unicode/utf8.acceptRanges", laid_unicode_utf8_acceptRanges), ("unicode/utf8.first", laid_unicode_utf8_first)] }
def ClientFindsSaid : Prop := clientFindsRow.holds Tryd.pinned (OpenSpec.ofChange clientFindsSpec)

/-- ITS FALSE NEIGHBOUR: 'it returns false'. Refute it at one input. -/
def clientFindsWrong : ChangeSpec := { name := "clientFinds", fn := fun _ => fun
  | [d1, d2, d3] => { results := [.lit (.bool false)], args := [d1, d2, d3] }
  | _ => none }
def ClientFindsWrongFalsely : Prop := clientFindsRow.holds Tryd.pinned (OpenSpec.ofChange clientFindsWrong)

/-- 'gazettelaw21.ClientLate': WHATEVER THE INPUT: true; the input reads as it did. -/
def clientLateSpec : ChangeSpec := { name := "clientLate", fn := fun _ => fun
  | [d1, d2, d3, d4] => { results := [.lit (.bool true)], args := [d1, d2, d3, d4] }
  | _ => none }
def clientLateRow : OpenClaim := { program := "ytdpbogaldcpfeaadoor", sum := "749b712b29499b0b7c00953cc2c2a76bf5408aad2faca0eee50119feb8f1deda", func := "gazette/gazettelaw21.ClientLate", spec := "clientLate", inPlace := ["internal/bytealg.IndexByteString", "internal/bytealg.IndexString"], unfollowed := true, recurses := true, named := ["unicode/utf8.first", "unicode/utf8.acceptRanges", "internal/bytealg.MaxLen"], apart := false, laid := [("unicode/utf8.acceptRanges", laid_unicode_utf8_acceptRanges), ("unicode/utf8.first", laid_unicode_utf8_first)] }
def ClientLateSaid : Prop := clientLateRow.holds Tryd.pinned (OpenSpec.ofChange clientLateSpec)

/-- ITS FALSE NEIGHBOUR: 'it returns false'. Refute it at one input. -/
def clientLateWrong : ChangeSpec := { name := "clientLate", fn := fun _ => fun
  | [d1, d2, d3, d4] => { results := [.lit (.bool false)], args := [d1, d2, d3, d4] }
  | _ => none }
def ClientLateWrongFalsely : Prop := clientLateRow.holds Tryd.pinned (OpenSpec.ofChange clientLateWrong)

/- THE SECOND FORM. 'bulk': how many values and letters a reading holds, each counted each time it is reached (what is shared counts as often as it is met; a slice's spare places count too). A statement '..UptoSaid' is the law's where the arguments, and the package variables that the reading takes, are together of bulk at most 1048576: NARROWER than '..Said'. Prove '..Said' where nothing that the law and all that it calls make is longer than what came in: it says more and counts as full. Else prove '..UptoSaid'. A law counts once. -/
mutual
def uptoBulk {H : Type} : DataW H → Nat
  | .lit (.string bytes) => bytes.length + 1
  | .lit _ => 1
  | .nil => 1
  | .ptr d => uptoBulk d + 1
  | .slice elems spare => uptoBulkAll elems + uptoBulkAll spare + 1
  | .agg parts => uptoBulkAll parts + 1
  | .iface _ d => uptoBulk d + 1
  | .map entries => uptoBulkEntries entries + 1
  | .held _ => 1
def uptoBulkAll {H : Type} : List (DataW H) → Nat
  | [] => 0
  | d :: r => uptoBulk d + uptoBulkAll r
def uptoBulkEntries {H : Type} : List (Lit × DataW H) → Nat
  | [] => 0
  | x :: r => uptoBulkEntry x + uptoBulkEntries r
def uptoBulkEntry {H : Type} : Lit × DataW H → Nat
  | (.string bytes, d) => bytes.length + uptoBulk d + 1
  | (_, d) => uptoBulk d + 1
 end
def uptoSmall : (H : Type) → List (DataW H) → Bool := fun _ ds => decide (uptoBulkAll ds ≤ 1048576)
def OpenSpec.upto (s : _root_.Go.ChangeSpec) : _root_.Go.OpenSpec := { _root_.Go.OpenSpec.ofChange s with cond := some uptoSmall }

/-- 'gazettelaw21.ClientNew', WHERE WHAT IT READS IS OF BULK AT MOST 1048576: true; the input reads as it did. -/
def clientNewUptoRow : OpenClaim := { program := "ytdpbogaldcpfeaadoor", sum := "749b712b29499b0b7c00953cc2c2a76bf5408aad2faca0eee50119feb8f1deda", func := "gazette/gazettelaw21.ClientNew", spec := "clientNew", inPlace := ["internal/bytealg.IndexByteString", "internal/bytealg.IndexString"], unfollowed := true, recurses := true, named := ["unicode/utf8.first", "unicode/utf8.acceptRanges", "internal/bytealg.MaxLen"], apart := false, laid := [("unicode/utf8.acceptRanges", laid_unicode_utf8_acceptRanges), ("unicode/utf8.first", laid_unicode_utf8_first)], narrowed := true }
def ClientNewUptoSaid : Prop := clientNewUptoRow.holds Tryd.pinned (OpenSpec.upto clientNewSpec)

/-- 'gazettelaw21.ClientRule', WHERE WHAT IT READS IS OF BULK AT MOST 1048576: true; the input reads as it did. -/
def clientRuleUptoRow : OpenClaim := { program := "ytdpbogaldcpfeaadoor", sum := "749b712b29499b0b7c00953cc2c2a76bf5408aad2faca0eee50119feb8f1deda", func := "gazette/gazettelaw21.ClientRule", spec := "clientRule", inPlace := ["internal/bytealg.IndexByteString", "internal/bytealg.IndexString"], unfollowed := true, recurses := true, named := ["unicode/utf8.first", "unicode/utf8.acceptRanges", "internal/bytealg.MaxLen"], apart := false, laid := [("unicode/utf8.acceptRanges", laid_unicode_utf8_acceptRanges), ("unicode/utf8.first", laid_unicode_utf8_first)], narrowed := true }
def ClientRuleUptoSaid : Prop := clientRuleUptoRow.holds Tryd.pinned (OpenSpec.upto clientRuleSpec)

/-- 'gazettelaw21.ClientEnds', WHERE WHAT IT READS IS OF BULK AT MOST 1048576: true; the input reads as it did. -/
def clientEndsUptoRow : OpenClaim := { program := "ytdpbogaldcpfeaadoor", sum := "749b712b29499b0b7c00953cc2c2a76bf5408aad2faca0eee50119feb8f1deda", func := "gazette/gazettelaw21.ClientEnds", spec := "clientEnds", inPlace := ["internal/bytealg.IndexByteString", "internal/bytealg.IndexString"], unfollowed := true, recurses := true, named := ["unicode/utf8.first", "unicode/utf8.acceptRanges", "internal/bytealg.MaxLen"], apart := false, laid := [("unicode/utf8.acceptRanges", laid_unicode_utf8_acceptRanges), ("unicode/utf8.first", laid_unicode_utf8_first)], narrowed := true }
def ClientEndsUptoSaid : Prop := clientEndsUptoRow.holds Tryd.pinned (OpenSpec.upto clientEndsSpec)

/-- 'gazettelaw21.ClientFinds', WHERE WHAT IT READS IS OF BULK AT MOST 1048576: true; the input reads as it did. -/
def clientFindsUptoRow : OpenClaim := { program := "ytdpbogaldcpfeaadoor", sum := "749b712b29499b0b7c00953cc2c2a76bf5408aad2faca0eee50119feb8f1deda", func := "gazette/gazettelaw21.ClientFinds", spec := "clientFinds", inPlace := ["internal/bytealg.IndexByteString", "internal/bytealg.IndexString"], unfollowed := true, recurses := true, named := ["unicode/utf8.first", "unicode/utf8.acceptRanges", "internal/bytealg.MaxLen"], apart := false, laid := [("unicode/utf8.acceptRanges", laid_unicode_utf8_acceptRanges), ("unicode/utf8.first", laid_unicode_utf8_first)], narrowed := true }
def ClientFindsUptoSaid : Prop := clientFindsUptoRow.holds Tryd.pinned (OpenSpec.upto clientFindsSpec)

/-- 'gazettelaw21.ClientLate', WHERE WHAT IT READS IS OF BULK AT MOST 1048576: true; the input reads as it did. -/
def clientLateUptoRow : OpenClaim := { program := "ytdpbogaldcpfeaadoor", sum := "749b712b29499b0b7c00953cc2c2a76bf5408aad2faca0eee50119feb8f1deda", func := "gazette/gazettelaw21.ClientLate", spec := "clientLate", inPlace := ["internal/bytealg.IndexByteString", "internal/bytealg.IndexString"], unfollowed := true, recurses := true, named := ["unicode/utf8.first", "unicode/utf8.acceptRanges", "internal/bytealg.MaxLen"], apart := false, laid := [("unicode/utf8.acceptRanges", laid_unicode_utf8_acceptRanges), ("unicode/utf8.first", laid_unicode_utf8_first)], narrowed := true }
def ClientLateUptoSaid : Prop := clientLateUptoRow.holds Tryd.pinned (OpenSpec.upto clientLateSpec)

end Rows
end Go.Proofs.YtdpbogaldcpfeaaDoor
