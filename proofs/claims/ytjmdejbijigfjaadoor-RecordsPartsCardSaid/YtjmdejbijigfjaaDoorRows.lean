/-
  NARROWER THAN 'FOR EVERY INPUT', by the rows' own cells (each row's printed sentence says how): RecordsLogs: laid · RecordsFull: laid · RecordsParts: laid · RecordsOrder: laid · RecordsWhole: laid · RecordsReaders: laid · RecordsUnread: laid · RecordsNames: laid.
  DERIVED. THE GIVEN ROWS OF THIS SEAT. 8 by the template 'for every input the law returns true; each argument reads behind the call as it read before'; 0 by the template 'total and deterministic' (their statements: YtjmdejbijigfjaaDoorTotals.lean).
  GIVEN WITH THE SEED: the statements are not yours to turn. If you find one false, say at which input.
  Laid BY PROGRAM, IN A SANDBOX (cutbox-rows.mjs): the forced cells as the released guide's own fill.sh prints them over the translation 0a45031d9bee6560… (all of the seat's roots in one cut). By AI agents, Wed Nov 11 2026. No macro, syntax, notation, axiom, sorry.
-/
import Derived.Test.YtjmdejbijigfjaaDoorChecked
import GoSem.PinnedTables
import GoSem.Claim
import GoSem.ClaimJoined
import GoSem.ClaimMapViews
import Derived.JoinedTies
import Derived.KernelRfl
namespace Go.Proofs.YtjmdejbijigfjaaDoor
/- THE CELL 'sum', in the pinned program and in every row, IS THE sha256 OF THE DUMP (.gsa) THAT YtjmdejbijigfjaaDoorProg.lean LOADS. Nothing in Lean hashes anything: it is a label: what it is worth is what the hold of that sum in a sandbox is worth. -/
noncomputable def Tryd.pinned : Pinned := { name := "ytjmdejbijigfjaadoor", sum := "0a45031d9bee65602535103d01faa5179466ed048c5a82b8278bd4ab28a0d35f", checked := Tryd.checked }
namespace Rows
def none {H : Type} : Left H := { results := [], args := [] }

/- WHAT THE LISTED PACKAGE-LEVEL VARIABLES READ AS WHEN THE CALL BEGINS. Each datum BY PROGRAM (the guide's laid-datum.mjs) off the statement by which the dump's own 'gosem.cut.vars' lays the variable. In a bare row this is a premise. The card (YtjmdejbijigfjaaDoorCards.lean) ties it to the program's text. -/
def laid_unicode_utf8_acceptRanges {H : Type} : DataW H := .agg [.agg [.lit (.int .u8 128), .lit (.int .u8 191)], .agg [.lit (.int .u8 160), .lit (.int .u8 191)], .agg [.lit (.int .u8 128), .lit (.int .u8 159)], .agg [.lit (.int .u8 144), .lit (.int .u8 191)], .agg [.lit (.int .u8 128), .lit (.int .u8 143)], .agg [.lit (.int .u8 0), .lit (.int .u8 0)], .agg [.lit (.int .u8 0), .lit (.int .u8 0)], .agg [.lit (.int .u8 0), .lit (.int .u8 0)], .agg [.lit (.int .u8 0), .lit (.int .u8 0)], .agg [.lit (.int .u8 0), .lit (.int .u8 0)], .agg [.lit (.int .u8 0), .lit (.int .u8 0)], .agg [.lit (.int .u8 0), .lit (.int .u8 0)], .agg [.lit (.int .u8 0), .lit (.int .u8 0)], .agg [.lit (.int .u8 0), .lit (.int .u8 0)], .agg [.lit (.int .u8 0), .lit (.int .u8 0)], .agg [.lit (.int .u8 0), .lit (.int .u8 0)]]
/-- One of Go's own tables, pinned by name: the form's constant. -/
def laid_unicode_utf8_first : DataW Unit := Go.Pinned.utf8First

/-- 'gazettelaw14.RecordsLogs': WHATEVER THE INPUT: true; the input reads as it did. -/
def recordsLogsSpec : ChangeSpec := { name := "recordsLogs", fn := fun _ => fun
  | [d] => { results := [.lit (.bool true)], args := [d] }
  | _ => none }
def recordsLogsRow : OpenClaim := { program := "ytjmdejbijigfjaadoor", sum := "0a45031d9bee65602535103d01faa5179466ed048c5a82b8278bd4ab28a0d35f", func := "gazette/gazettelaw14.RecordsLogs", spec := "recordsLogs", inPlace := ["internal/bytealg.IndexByteString", "internal/bytealg.IndexString"], named := ["unicode/utf8.first", "unicode/utf8.acceptRanges", "internal/bytealg.MaxLen"], apart := false, laid := [("unicode/utf8.acceptRanges", laid_unicode_utf8_acceptRanges), ("unicode/utf8.first", laid_unicode_utf8_first)] }
def RecordsLogsSaid : Prop := recordsLogsRow.holds Tryd.pinned (OpenSpec.ofChange recordsLogsSpec)

/-- ITS FALSE NEIGHBOUR: 'it returns false'. Refute it at one input. -/
def recordsLogsWrong : ChangeSpec := { name := "recordsLogs", fn := fun _ => fun
  | [d] => { results := [.lit (.bool false)], args := [d] }
  | _ => none }
def RecordsLogsWrongFalsely : Prop := recordsLogsRow.holds Tryd.pinned (OpenSpec.ofChange recordsLogsWrong)

/-- 'gazettelaw14.RecordsFull': WHATEVER THE INPUT: true; the input reads as it did. -/
def recordsFullSpec : ChangeSpec := { name := "recordsFull", fn := fun _ => fun
  | [d1, d2] => { results := [.lit (.bool true)], args := [d1, d2] }
  | _ => none }
def recordsFullRow : OpenClaim := { program := "ytjmdejbijigfjaadoor", sum := "0a45031d9bee65602535103d01faa5179466ed048c5a82b8278bd4ab28a0d35f", func := "gazette/gazettelaw14.RecordsFull", spec := "recordsFull", inPlace := ["internal/bytealg.IndexByteString", "internal/bytealg.IndexString"], unfollowed := true, recurses := true, named := ["unicode/utf8.first", "unicode/utf8.acceptRanges", "internal/bytealg.MaxLen"], apart := false, laid := [("unicode/utf8.acceptRanges", laid_unicode_utf8_acceptRanges), ("unicode/utf8.first", laid_unicode_utf8_first)] }
def RecordsFullSaid : Prop := recordsFullRow.holds Tryd.pinned (OpenSpec.ofChange recordsFullSpec)

/-- ITS FALSE NEIGHBOUR: 'it returns false'. Refute it at one input. -/
def recordsFullWrong : ChangeSpec := { name := "recordsFull", fn := fun _ => fun
  | [d1, d2] => { results := [.lit (.bool false)], args := [d1, d2] }
  | _ => none }
def RecordsFullWrongFalsely : Prop := recordsFullRow.holds Tryd.pinned (OpenSpec.ofChange recordsFullWrong)

/-- 'gazettelaw14.RecordsParts': WHATEVER THE INPUT: true; the input reads as it did. -/
def recordsPartsSpec : ChangeSpec := { name := "recordsParts", fn := fun _ => fun
  | [d1, d2, d3] => { results := [.lit (.bool true)], args := [d1, d2, d3] }
  | _ => none }
def recordsPartsRow : OpenClaim := { program := "ytjmdejbijigfjaadoor", sum := "0a45031d9bee65602535103d01faa5179466ed048c5a82b8278bd4ab28a0d35f", func := "gazette/gazettelaw14.RecordsParts", spec := "recordsParts", inPlace := ["internal/bytealg.IndexByteString", "internal/bytealg.IndexString"], unfollowed := true, recurses := true, named := ["unicode/utf8.first", "unicode/utf8.acceptRanges", "internal/bytealg.MaxLen"], apart := false, laid := [("unicode/utf8.acceptRanges", laid_unicode_utf8_acceptRanges), ("unicode/utf8.first", laid_unicode_utf8_first)] }
def RecordsPartsSaid : Prop := recordsPartsRow.holds Tryd.pinned (OpenSpec.ofChange recordsPartsSpec)

/-- ITS FALSE NEIGHBOUR: 'it returns false'. Refute it at one input. -/
def recordsPartsWrong : ChangeSpec := { name := "recordsParts", fn := fun _ => fun
  | [d1, d2, d3] => { results := [.lit (.bool false)], args := [d1, d2, d3] }
  | _ => none }
def RecordsPartsWrongFalsely : Prop := recordsPartsRow.holds Tryd.pinned (OpenSpec.ofChange recordsPartsWrong)

/-- 'gazettelaw14.RecordsOrder': WHATEVER THE INPUT: true; the input reads as it did. -/
def recordsOrderSpec : ChangeSpec := { name := "recordsOrder", fn := fun _ => fun
  | [d1, d2, d3] => { results := [.lit (.bool true)], args := [d1, d2, d3] }
  | _ => none }
def recordsOrderRow : OpenClaim := { program := "ytjmdejbijigfjaadoor", sum := "0a45031d9bee65602535103d01faa5179466ed048c5a82b8278bd4ab28a0d35f", func := "gazette/gazettelaw14.RecordsOrder", spec := "recordsOrder", inPlace := ["internal/bytealg.IndexByteString", "internal/bytealg.IndexString"], unfollowed := true, recurses := true, named := ["unicode/utf8.first", "unicode/utf8.acceptRanges", "internal/bytealg.MaxLen"], apart := false, laid := [("unicode/utf8.acceptRanges", laid_unicode_utf8_acceptRanges), ("unicode/utf8.first", laid_unicode_utf8_first)] }
def RecordsOrderSaid : Prop := recordsOrderRow.holds Tryd.pinned (OpenSpec.ofChange recordsOrderSpec)

/-- ITS FALSE NEIGHBOUR: 'it returns false'. Refute it at one input. -/
def recordsOrderWrong : ChangeSpec := { name := "recordsOrder", fn := fun _ => fun
  | [d1, d2, d3] => { results := [.lit (.bool false)], args := [d1, d2, d3] }
  | _ => none }
def RecordsOrderWrongFalsely : Prop := recordsOrderRow.holds Tryd.pinned (OpenSpec.ofChange recordsOrderWrong)

/-- 'gazettelaw14.RecordsWhole': WHATEVER THE INPUT: true; the input reads as it did. -/
def recordsWholeSpec : ChangeSpec := { name := "recordsWhole", fn := fun _ => fun
  | [d] => { results := [.lit (.bool true)], args := [d] }
  | _ => none }
def recordsWholeRow : OpenClaim := { program := "ytjmdejbijigfjaadoor", sum := "0a45031d9bee65602535103d01faa5179466ed048c5a82b8278bd4ab28a0d35f", func := "gazette/gazettelaw14.RecordsWhole", spec := "recordsWhole", inPlace := ["internal/bytealg.IndexByteString", "internal/bytealg.IndexString"], unfollowed := true, recurses := true, named := ["unicode/utf8.first", "unicode/utf8.acceptRanges", "internal/bytealg.MaxLen"], apart := false, laid := [("unicode/utf8.acceptRanges", laid_unicode_utf8_acceptRanges), ("unicode/utf8.first", laid_unicode_utf8_first)] }
def RecordsWholeSaid : Prop := recordsWholeRow.holds Tryd.pinned (OpenSpec.ofChange recordsWholeSpec)

/-- ITS FALSE NEIGHBOUR: 'it returns false'. Refute it at one input. -/
def recordsWholeWrong : ChangeSpec := { name := "recordsWhole", fn := fun _ => fun
  | [d] => { results := [.lit (.bool false)], args := [d] }
  | _ => none }
def RecordsWholeWrongFalsely : Prop := recordsWholeRow.holds Tryd.pinned (OpenSpec.ofChange recordsWholeWrong)

/-- 'gazettelaw14.RecordsReaders': WHATEVER THE INPUT: true; the input reads as it did. -/
def recordsReadersSpec : ChangeSpec := { name := "recordsReaders", fn := fun _ => fun
  | [d] => { results := [.lit (.bool true)], args := [d] }
  | _ => none }
def recordsReadersRow : OpenClaim := { program := "ytjmdejbijigfjaadoor", sum := "0a45031d9bee65602535103d01faa5179466ed048c5a82b8278bd4ab28a0d35f", func := "gazette/gazettelaw14.RecordsReaders", spec := "recordsReaders", inPlace := ["internal/bytealg.IndexByteString", "internal/bytealg.IndexString", "slices.overlaps[gazette/api.Consumer]"], unfollowed := true, recurses := true, named := ["unicode/utf8.first", "unicode/utf8.acceptRanges", "internal/bytealg.MaxLen"], apart := false, laid := [("unicode/utf8.acceptRanges", laid_unicode_utf8_acceptRanges), ("unicode/utf8.first", laid_unicode_utf8_first)] }
def RecordsReadersSaid : Prop := recordsReadersRow.holds Tryd.pinned (OpenSpec.ofChange recordsReadersSpec)

/-- ITS FALSE NEIGHBOUR: 'it returns false'. Refute it at one input. -/
def recordsReadersWrong : ChangeSpec := { name := "recordsReaders", fn := fun _ => fun
  | [d] => { results := [.lit (.bool false)], args := [d] }
  | _ => none }
def RecordsReadersWrongFalsely : Prop := recordsReadersRow.holds Tryd.pinned (OpenSpec.ofChange recordsReadersWrong)

/-- 'gazettelaw14.RecordsUnread': WHATEVER THE INPUT: true; the input reads as it did. -/
def recordsUnreadSpec : ChangeSpec := { name := "recordsUnread", fn := fun _ => fun
  | [d] => { results := [.lit (.bool true)], args := [d] }
  | _ => none }
def recordsUnreadRow : OpenClaim := { program := "ytjmdejbijigfjaadoor", sum := "0a45031d9bee65602535103d01faa5179466ed048c5a82b8278bd4ab28a0d35f", func := "gazette/gazettelaw14.RecordsUnread", spec := "recordsUnread", inPlace := ["internal/bytealg.IndexByteString", "internal/bytealg.IndexString", "slices.overlaps[gazette/api.Consumer]"], unfollowed := true, recurses := true, named := ["unicode/utf8.first", "unicode/utf8.acceptRanges", "internal/bytealg.MaxLen"], apart := false, laid := [("unicode/utf8.acceptRanges", laid_unicode_utf8_acceptRanges), ("unicode/utf8.first", laid_unicode_utf8_first)] }
def RecordsUnreadSaid : Prop := recordsUnreadRow.holds Tryd.pinned (OpenSpec.ofChange recordsUnreadSpec)

/-- ITS FALSE NEIGHBOUR: 'it returns false'. Refute it at one input. -/
def recordsUnreadWrong : ChangeSpec := { name := "recordsUnread", fn := fun _ => fun
  | [d] => { results := [.lit (.bool false)], args := [d] }
  | _ => none }
def RecordsUnreadWrongFalsely : Prop := recordsUnreadRow.holds Tryd.pinned (OpenSpec.ofChange recordsUnreadWrong)

/-- 'gazettelaw14.RecordsNames': WHATEVER THE INPUT: true; the input reads as it did. -/
def recordsNamesSpec : ChangeSpec := { name := "recordsNames", fn := fun _ => fun
  | [] => { results := [.lit (.bool true)], args := [] }
  | _ => none }
def recordsNamesRow : OpenClaim := { program := "ytjmdejbijigfjaadoor", sum := "0a45031d9bee65602535103d01faa5179466ed048c5a82b8278bd4ab28a0d35f", func := "gazette/gazettelaw14.RecordsNames", spec := "recordsNames", inPlace := ["internal/bytealg.IndexByteString", "internal/bytealg.IndexString", "slices.overlaps[gazette/api.Consumer]"], unfollowed := true, recurses := true, named := ["unicode/utf8.first", "unicode/utf8.acceptRanges", "internal/bytealg.MaxLen"], apart := false, laid := [("unicode/utf8.acceptRanges", laid_unicode_utf8_acceptRanges), ("unicode/utf8.first", laid_unicode_utf8_first)] }
def RecordsNamesSaid : Prop := recordsNamesRow.holds Tryd.pinned (OpenSpec.ofChange recordsNamesSpec)

/-- ITS FALSE NEIGHBOUR: 'it returns false'. Refute it at one input. -/
def recordsNamesWrong : ChangeSpec := { name := "recordsNames", fn := fun _ => fun
  | [] => { results := [.lit (.bool false)], args := [] }
  | _ => none }
def RecordsNamesWrongFalsely : Prop := recordsNamesRow.holds Tryd.pinned (OpenSpec.ofChange recordsNamesWrong)

/- THE SECOND FORM. 'bulk': how many values and letters a reading holds, each counted each time it is reached (what is shared counts as often as it is met; a slice's spare places count too). A statement '..UptoSaid' is the law's where the arguments, and the package variables that the reading takes, are together of bulk at most 1048576: NARROWER than '..Said'. Prove '..Said' where nothing that the law and all that it calls make is longer than what came in: it says more and counts as full. Else prove '..UptoSaid'. A law counts once. -/
mutual
def uptoBulk {H : Type} : DataW H → Nat
  | .lit (.string bytes) => bytes.length + 1
  | .lit _ => 1
  | .nil => 1
  | .ptr d => uptoBulk d + 1
  | .slice elems spare => uptoBulkAll elems + uptoBulkAll spare + 1
  | .agg parts => uptoBulkAll parts + 1
  | .iface _ d => uptoBulk d + 1
  | .map entries => uptoBulkEntries entries + 1
  | .held _ => 1
def uptoBulkAll {H : Type} : List (DataW H) → Nat
  | [] => 0
  | d :: r => uptoBulk d + uptoBulkAll r
def uptoBulkEntries {H : Type} : List (Lit × DataW H) → Nat
  | [] => 0
  | x :: r => uptoBulkEntry x + uptoBulkEntries r
def uptoBulkEntry {H : Type} : Lit × DataW H → Nat
  | (.string bytes, d) => bytes.length + uptoBulk d + 1
  | (_, d) => uptoBulk d + 1
 end
def uptoSmall : (H : Type) → List (DataW H) → Bool := fun _ ds => decide (uptoBulkAll ds ≤ 1048576)
def OpenSpec.upto (s : _root_.Go.ChangeSpec) : _root_.Go.OpenSpec := { _root_.Go.OpenSpec.ofChange s with cond := some uptoSmall }

/-- 'gazettelaw14.RecordsLogs', WHERE WHAT IT READS IS OF BULK AT MOST 1048576: true; the input reads as it did. -/
def recordsLogsUptoRow : OpenClaim := { program := "ytjmdejbijigfjaadoor", sum := "0a45031d9bee65602535103d01faa5179466ed048c5a82b8278bd4ab28a0d35f", func := "gazette/gazettelaw14.RecordsLogs", spec := "recordsLogs", inPlace := ["internal/bytealg.IndexByteString", "internal/bytealg.IndexString"], named := ["unicode/utf8.first", "unicode/utf8.acceptRanges", "internal/bytealg.MaxLen"], apart := false, laid := [("unicode/utf8.acceptRanges", laid_unicode_utf8_acceptRanges), ("unicode/utf8.first", laid_unicode_utf8_first)], narrowed := true }
def RecordsLogsUptoSaid : Prop := recordsLogsUptoRow.holds Tryd.pinned (OpenSpec.upto recordsLogsSpec)

/-- 'gazettelaw14.RecordsFull', WHERE WHAT IT READS IS OF BULK AT MOST 1048576: true; the input reads as it did. -/
def recordsFullUptoRow : OpenClaim := { program := "ytjmdejbijigfjaadoor", sum := "0a45031d9bee65602535103d01faa5179466ed048c5a82b8278bd4ab28a0d35f", func := "gazette/gazettelaw14.RecordsFull", spec := "recordsFull", inPlace := ["internal/bytealg.IndexByteString", "internal/bytealg.IndexString"], unfollowed := true, recurses := true, named := ["unicode/utf8.first", "unicode/utf8.acceptRanges", "internal/bytealg.MaxLen"], apart := false, laid := [("unicode/utf8.acceptRanges", laid_unicode_utf8_acceptRanges), ("unicode/utf8.first", laid_unicode_utf8_first)], narrowed := true }
def RecordsFullUptoSaid : Prop := recordsFullUptoRow.holds Tryd.pinned (OpenSpec.upto recordsFullSpec)

/-- 'gazettelaw14.RecordsParts', WHERE WHAT IT READS IS OF BULK AT MOST 1048576: true; the input reads as it did. -/
def recordsPartsUptoRow : OpenClaim := { program := "ytjmdejbijigfjaadoor", sum := "0a45031d9bee65602535103d01faa5179466ed048c5a82b8278bd4ab28a0d35f", func := "gazette/gazettelaw14.RecordsParts", spec := "recordsParts", inPlace := ["internal/bytealg.IndexByteString", "internal/bytealg.IndexString"], unfollowed := true, recurses := true, named := ["unicode/utf8.first", "unicode/utf8.acceptRanges", "internal/bytealg.MaxLen"], apart := false, laid := [("unicode/utf8.acceptRanges", laid_unicode_utf8_acceptRanges), ("unicode/utf8.first", laid_unicode_utf8_first)], narrowed := true }
def RecordsPartsUptoSaid : Prop := recordsPartsUptoRow.holds Tryd.pinned (OpenSpec.upto recordsPartsSpec)

/-- 'gazettelaw14.RecordsOrder', WHERE WHAT IT READS IS OF BULK AT MOST 1048576: true; the input reads as it did. -/
def recordsOrderUptoRow : OpenClaim := { program := "ytjmdejbijigfjaadoor", sum := "0a45031d9bee65602535103d01faa5179466ed048c5a82b8278bd4ab28a0d35f", func := "gazette/gazettelaw14.RecordsOrder", spec := "recordsOrder", inPlace := ["internal/bytealg.IndexByteString", "internal/bytealg.IndexString"], unfollowed := true, recurses := true, named := ["unicode/utf8.first", "unicode/utf8.acceptRanges", "internal/bytealg.MaxLen"], apart := false, laid := [("unicode/utf8.acceptRanges", laid_unicode_utf8_acceptRanges), ("unicode/utf8.first", laid_unicode_utf8_first)], narrowed := true }
def RecordsOrderUptoSaid : Prop := recordsOrderUptoRow.holds Tryd.pinned (OpenSpec.upto recordsOrderSpec)

/-- 'gazettelaw14.RecordsWhole', WHERE WHAT IT READS IS OF BULK AT MOST 1048576: true; the input reads as it did. -/
def recordsWholeUptoRow : OpenClaim := { program := "ytjmdejbijigfjaadoor", sum := "0a45031d9bee65602535103d01faa5179466ed048c5a82b8278bd4ab28a0d35f", func := "gazette/gazettelaw14.RecordsWhole", spec := "recordsWhole", inPlace := ["internal/bytealg.IndexByteString", "internal/bytealg.IndexString"], unfollowed := true, recurses := true, named := ["unicode/utf8.first", "unicode/utf8.acceptRanges", "internal/bytealg.MaxLen"], apart := false, laid := [("unicode/utf8.acceptRanges", laid_unicode_utf8_acceptRanges), ("unicode/utf8.first", laid_unicode_utf8_first)], narrowed := true }
def RecordsWholeUptoSaid : Prop := recordsWholeUptoRow.holds Tryd.pinned (OpenSpec.upto recordsWholeSpec)

/-- 'gazettelaw14.RecordsReaders', WHERE WHAT IT READS IS OF BULK AT MOST 1048576: true; the input reads as it did. -/
def recordsReadersUptoRow : OpenClaim := { program := "ytjmdejbijigfjaadoor", sum := "0a45031d9bee65602535103d01faa5179466ed048c5a82b8278bd4ab28a0d35f", func := "gazette/gazettelaw14.RecordsReaders", spec := "recordsReaders", inPlace := ["internal/bytealg.IndexByteString", "internal/bytealg.IndexString", "slices.overlaps[gazette/api.Consumer]"], unfollowed := true, recurses := true, named := ["unicode/utf8.first", "unicode/utf8.acceptRanges", "internal/bytealg.MaxLen"], apart := false, laid := [("unicode/utf8.acceptRanges", laid_unicode_utf8_acceptRanges), ("unicode/utf8.first", laid_unicode_utf8_first)], narrowed := true }
def RecordsReadersUptoSaid : Prop := recordsReadersUptoRow.holds Tryd.pinned (OpenSpec.upto recordsReadersSpec)

/-- 'gazettelaw14.RecordsUnread', WHERE WHAT IT READS IS OF BULK AT MOST 1048576: true; the input reads as it did. -/
def recordsUnreadUptoRow : OpenClaim := { program := "ytjmdejbijigfjaadoor", sum := "0a45031d9bee65602535103d01faa5179466ed048c5a82b8278bd4ab28a0d35f", func := "gazette/gazettelaw14.RecordsUnread", spec := "recordsUnread", inPlace := ["internal/bytealg.IndexByteString", "internal/bytealg.IndexString", "slices.overlaps[gazette/api.Consumer]"], unfollowed := true, recurses := true, named := ["unicode/utf8.first", "unicode/utf8.acceptRanges", "internal/bytealg.MaxLen"], apart := false, laid := [("unicode/utf8.acceptRanges", laid_unicode_utf8_acceptRanges), ("unicode/utf8.first", laid_unicode_utf8_first)], narrowed := true }
def RecordsUnreadUptoSaid : Prop := recordsUnreadUptoRow.holds Tryd.pinned (OpenSpec.upto recordsUnreadSpec)

/-- 'gazettelaw14.RecordsNames', WHERE WHAT IT READS IS OF BULK AT MOST 1048576: true; the input reads as it did. -/
def recordsNamesUptoRow : OpenClaim := { program := "ytjmdejbijigfjaadoor", sum := "0a45031d9bee65602535103d01faa5179466ed048c5a82b8278bd4ab28a0d35f", func := "gazette/gazettelaw14.RecordsNames", spec := "recordsNames", inPlace := ["internal/bytealg.IndexByteString", "internal/bytealg.IndexString", "slices.overlaps[gazette/api.Consumer]"], unfollowed := true, recurses := true, named := ["unicode/utf8.first", "unicode/utf8.acceptRanges", "internal/bytealg.MaxLen"], apart := false, laid := [("unicode/utf8.acceptRanges", laid_unicode_utf8_acceptRanges), ("unicode/utf8.first", laid_unicode_utf8_first)], narrowed := true }
def RecordsNamesUptoSaid : Prop := recordsNamesUptoRow.holds Tryd.pinned (OpenSpec.upto recordsNamesSpec)

end Rows
end Go.Proofs.YtjmdejbijigfjaaDoor
