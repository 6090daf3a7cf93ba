/-
  NARROWER THAN 'FOR EVERY INPUT', by the rows' own cells (each row's printed sentence says how): LineageNames: laid · LineageMerges: laid · LineageKeeps: laid · LineageBack: laid · LineageOnce: laid.
  DERIVED. THE GIVEN ROWS OF THIS SEAT. 5 by the template 'for every input the law returns true; each argument reads behind the call as it read before'; 0 by the template 'total and deterministic' (their statements: YtckklclehofddaaGreatDoorTotals.lean).
  GIVEN WITH THE SEED: the statements are not yours to turn. If you find one false, say at which input.
  Laid BY PROGRAM, IN A SANDBOX (cutbox-rows.mjs): the forced cells as the released guide's own fill.sh prints them over the translation 117116b921ea9530… (all of the seat's roots in one cut). By AI agents, Wed Nov 11 2026. No macro, syntax, notation, axiom, sorry.
-/
import Derived.Test.YtckklclehofddaaGreatDoorChecked
import GoSem.PinnedTables
import GoSem.Claim
import GoSem.ClaimJoined
import GoSem.ClaimMapViews
import Derived.JoinedTies
import Derived.KernelRfl
namespace Go.Proofs.YtckklclehofddaaGreatDoor
/- THE CELL 'sum', in the pinned program and in every row, IS THE sha256 OF THE DUMP (.gsa) THAT YtckklclehofddaaGreatDoorProg.lean LOADS. Nothing in Lean hashes anything: it is a label: what it is worth is what the hold of that sum in a sandbox is worth. -/
noncomputable def Tryz.pinned : Pinned := { name := "ytckklclehofddaagreatdoor", sum := "117116b921ea95301b35be7f2f67335793d25be27c3396ca514e8aab54ae86d7", checked := Tryz.checked }
namespace Rows
def none {H : Type} : Left H := { results := [], args := [] }

/- WHAT THE LISTED PACKAGE-LEVEL VARIABLES READ AS WHEN THE CALL BEGINS. Each datum BY PROGRAM (the guide's laid-datum.mjs) off the statement by which the dump's own 'gosem.cut.vars' lays the variable. In a bare row this is a premise. The card (YtckklclehofddaaGreatDoorCards.lean) ties it to the program's text. -/
def laid_unicode_utf8_acceptRanges {H : Type} : DataW H := .agg [.agg [.lit (.int .u8 128), .lit (.int .u8 191)], .agg [.lit (.int .u8 160), .lit (.int .u8 191)], .agg [.lit (.int .u8 128), .lit (.int .u8 159)], .agg [.lit (.int .u8 144), .lit (.int .u8 191)], .agg [.lit (.int .u8 128), .lit (.int .u8 143)], .agg [.lit (.int .u8 0), .lit (.int .u8 0)], .agg [.lit (.int .u8 0), .lit (.int .u8 0)], .agg [.lit (.int .u8 0), .lit (.int .u8 0)], .agg [.lit (.int .u8 0), .lit (.int .u8 0)], .agg [.lit (.int .u8 0), .lit (.int .u8 0)], .agg [.lit (.int .u8 0), .lit (.int .u8 0)], .agg [.lit (.int .u8 0), .lit (.int .u8 0)], .agg [.lit (.int .u8 0), .lit (.int .u8 0)], .agg [.lit (.int .u8 0), .lit (.int .u8 0)], .agg [.lit (.int .u8 0), .lit (.int .u8 0)], .agg [.lit (.int .u8 0), .lit (.int .u8 0)]]
/-- One of Go's own tables, pinned by name: the form's constant. -/
def laid_unicode_utf8_first : DataW Unit := Go.Pinned.utf8First

/-- 'gazettelaw17.LineageNames': WHATEVER THE INPUT: true; the input reads as it did. -/
def lineageNamesSpec : ChangeSpec := { name := "lineageNames", fn := fun _ => fun
  | [] => { results := [.lit (.bool true)], args := [] }
  | _ => none }
def lineageNamesRow : OpenClaim := { program := "ytckklclehofddaagreatdoor", sum := "117116b921ea95301b35be7f2f67335793d25be27c3396ca514e8aab54ae86d7", func := "gazette/gazettelaw17.LineageNames", spec := "lineageNames", inPlace := ["internal/bytealg.IndexByteString", "internal/bytealg.IndexString", "internal/reflectlite.TypeOf", "slices.overlaps[gazette/api.Producer]", "slices.overlaps[gazette/api.Consumer]"], unfollowed := true, recurses := true, named := ["unicode/utf8.first", "unicode/utf8.acceptRanges", "internal/bytealg.MaxLen"], apart := false, laid := [("unicode/utf8.acceptRanges", laid_unicode_utf8_acceptRanges), ("unicode/utf8.first", laid_unicode_utf8_first)] }
def LineageNamesSaid : Prop := lineageNamesRow.holds Tryz.pinned (OpenSpec.ofChange lineageNamesSpec)

/-- ITS FALSE NEIGHBOUR: 'it returns false'. Refute it at one input. -/
def lineageNamesWrong : ChangeSpec := { name := "lineageNames", fn := fun _ => fun
  | [] => { results := [.lit (.bool false)], args := [] }
  | _ => none }
def LineageNamesWrongFalsely : Prop := lineageNamesRow.holds Tryz.pinned (OpenSpec.ofChange lineageNamesWrong)

/-- 'gazettelaw17.LineageMerges': WHATEVER THE INPUT: true; the input reads as it did. -/
def lineageMergesSpec : ChangeSpec := { name := "lineageMerges", fn := fun _ => fun
  | [d1, d2] => { results := [.lit (.bool true)], args := [d1, d2] }
  | _ => none }
def lineageMergesRow : OpenClaim := { program := "ytckklclehofddaagreatdoor", sum := "117116b921ea95301b35be7f2f67335793d25be27c3396ca514e8aab54ae86d7", func := "gazette/gazettelaw17.LineageMerges", spec := "lineageMerges", inPlace := ["internal/bytealg.IndexByteString", "internal/bytealg.IndexString", "internal/reflectlite.TypeOf", "slices.overlaps[gazette/api.Producer]", "slices.overlaps[gazette/api.Consumer]"], unfollowed := true, recurses := true, named := ["unicode/utf8.first", "unicode/utf8.acceptRanges", "internal/bytealg.MaxLen"], apart := false, laid := [("unicode/utf8.acceptRanges", laid_unicode_utf8_acceptRanges), ("unicode/utf8.first", laid_unicode_utf8_first)] }
def LineageMergesSaid : Prop := lineageMergesRow.holds Tryz.pinned (OpenSpec.ofChange lineageMergesSpec)

/-- ITS FALSE NEIGHBOUR: 'it returns false'. Refute it at one input. -/
def lineageMergesWrong : ChangeSpec := { name := "lineageMerges", fn := fun _ => fun
  | [d1, d2] => { results := [.lit (.bool false)], args := [d1, d2] }
  | _ => none }
def LineageMergesWrongFalsely : Prop := lineageMergesRow.holds Tryz.pinned (OpenSpec.ofChange lineageMergesWrong)

/-- 'gazettelaw17.LineageKeeps': WHATEVER THE INPUT: true; the input reads as it did. -/
def lineageKeepsSpec : ChangeSpec := { name := "lineageKeeps", fn := fun _ => fun
  | [d1, d2, d3] => { results := [.lit (.bool true)], args := [d1, d2, d3] }
  | _ => none }
def lineageKeepsRow : OpenClaim := { program := "ytckklclehofddaagreatdoor", sum := "117116b921ea95301b35be7f2f67335793d25be27c3396ca514e8aab54ae86d7", func := "gazette/gazettelaw17.LineageKeeps", spec := "lineageKeeps", inPlace := ["internal/bytealg.IndexByteString", "internal/bytealg.IndexString", "internal/reflectlite.TypeOf", "slices.overlaps[gazette/api.Producer]", "slices.overlaps[gazette/api.Consumer]"], unfollowed := true, recurses := true, named := ["unicode/utf8.first", "unicode/utf8.acceptRanges", "internal/bytealg.MaxLen"], apart := false, laid := [("unicode/utf8.acceptRanges", laid_unicode_utf8_acceptRanges), ("unicode/utf8.first", laid_unicode_utf8_first)] }
def LineageKeepsSaid : Prop := lineageKeepsRow.holds Tryz.pinned (OpenSpec.ofChange lineageKeepsSpec)

/-- ITS FALSE NEIGHBOUR: 'it returns false'. Refute it at one input. -/
def lineageKeepsWrong : ChangeSpec := { name := "lineageKeeps", fn := fun _ => fun
  | [d1, d2, d3] => { results := [.lit (.bool false)], args := [d1, d2, d3] }
  | _ => none }
def LineageKeepsWrongFalsely : Prop := lineageKeepsRow.holds Tryz.pinned (OpenSpec.ofChange lineageKeepsWrong)

/-- 'gazettelaw17.LineageBack': WHATEVER THE INPUT: true; the input reads as it did. -/
def lineageBackSpec : ChangeSpec := { name := "lineageBack", fn := fun _ => fun
  | [d1, d2] => { results := [.lit (.bool true)], args := [d1, d2] }
  | _ => none }
def lineageBackRow : OpenClaim := { program := "ytckklclehofddaagreatdoor", sum := "117116b921ea95301b35be7f2f67335793d25be27c3396ca514e8aab54ae86d7", func := "gazette/gazettelaw17.LineageBack", spec := "lineageBack", inPlace := ["internal/bytealg.IndexByteString", "internal/bytealg.IndexString", "internal/reflectlite.TypeOf", "slices.overlaps[gazette/api.Producer]", "slices.overlaps[gazette/api.Consumer]"], unfollowed := true, recurses := true, named := ["unicode/utf8.first", "unicode/utf8.acceptRanges", "internal/bytealg.MaxLen"], apart := false, laid := [("unicode/utf8.acceptRanges", laid_unicode_utf8_acceptRanges), ("unicode/utf8.first", laid_unicode_utf8_first)] }
def LineageBackSaid : Prop := lineageBackRow.holds Tryz.pinned (OpenSpec.ofChange lineageBackSpec)

/-- ITS FALSE NEIGHBOUR: 'it returns false'. Refute it at one input. -/
def lineageBackWrong : ChangeSpec := { name := "lineageBack", fn := fun _ => fun
  | [d1, d2] => { results := [.lit (.bool false)], args := [d1, d2] }
  | _ => none }
def LineageBackWrongFalsely : Prop := lineageBackRow.holds Tryz.pinned (OpenSpec.ofChange lineageBackWrong)

/-- 'gazettelaw17.LineageOnce': WHATEVER THE INPUT: true; the input reads as it did. -/
def lineageOnceSpec : ChangeSpec := { name := "lineageOnce", fn := fun _ => fun
  | [d1, d2, d3] => { results := [.lit (.bool true)], args := [d1, d2, d3] }
  | _ => none }
def lineageOnceRow : OpenClaim := { program := "ytckklclehofddaagreatdoor", sum := "117116b921ea95301b35be7f2f67335793d25be27c3396ca514e8aab54ae86d7", func := "gazette/gazettelaw17.LineageOnce", spec := "lineageOnce", inPlace := ["internal/bytealg.IndexByteString", "internal/bytealg.IndexString", "internal/reflectlite.TypeOf", "slices.overlaps[gazette/api.Producer]", "slices.overlaps[gazette/api.Consumer]"], unfollowed := true, recurses := true, named := ["unicode/utf8.first", "unicode/utf8.acceptRanges", "internal/bytealg.MaxLen"], apart := false, laid := [("unicode/utf8.acceptRanges", laid_unicode_utf8_acceptRanges), ("unicode/utf8.first", laid_unicode_utf8_first)] }
def LineageOnceSaid : Prop := lineageOnceRow.holds Tryz.pinned (OpenSpec.ofChange lineageOnceSpec)

/-- ITS FALSE NEIGHBOUR: 'it returns false'. Refute it at one input. -/
def lineageOnceWrong : ChangeSpec := { name := "lineageOnce", fn := fun _ => fun
  | [d1, d2, d3] => { results := [.lit (.bool false)], args := [d1, d2, d3] }
  | _ => none }
def LineageOnceWrongFalsely : Prop := lineageOnceRow.holds Tryz.pinned (OpenSpec.ofChange lineageOnceWrong)

/- THE SECOND FORM. 'bulk': how many values and letters a reading holds, each counted each time it is reached (what is shared counts as often as it is met; a slice's spare places count too). A statement '..UptoSaid' is the law's where the arguments, and the package variables that the reading takes, are together of bulk at most 1048576: NARROWER than '..Said'. Prove '..Said' where nothing that the law and all that it calls make is longer than what came in: it says more and counts as full. Else prove '..UptoSaid'. A law counts once. -/
mutual
def uptoBulk {H : Type} : DataW H → Nat
  | .lit (.string bytes) => bytes.length + 1
  | .lit _ => 1
  | .nil => 1
  | .ptr d => uptoBulk d + 1
  | .slice elems spare => uptoBulkAll elems + uptoBulkAll spare + 1
  | .agg parts => uptoBulkAll parts + 1
  | .iface _ d => uptoBulk d + 1
  | .map entries => uptoBulkEntries entries + 1
  | .held _ => 1
def uptoBulkAll {H : Type} : List (DataW H) → Nat
  | [] => 0
  | d :: r => uptoBulk d + uptoBulkAll r
def uptoBulkEntries {H : Type} : List (Lit × DataW H) → Nat
  | [] => 0
  | x :: r => uptoBulkEntry x + uptoBulkEntries r
def uptoBulkEntry {H : Type} : Lit × DataW H → Nat
  | (.string bytes, d) => bytes.length + uptoBulk d + 1
  | (_, d) => uptoBulk d + 1
 end
def uptoSmall : (H : Type) → List (DataW H) → Bool := fun _ ds => decide (uptoBulkAll ds ≤ 1048576)
def OpenSpec.upto (s : _root_.Go.ChangeSpec) : _root_.Go.OpenSpec := { _root_.Go.OpenSpec.ofChange s with cond := some uptoSmall }

/-- 'gazettelaw17.LineageNames', WHERE WHAT IT READS IS OF BULK AT MOST 1048576: true; the input reads as it did. -/
def lineageNamesUptoRow : OpenClaim := { program := "ytckklclehofddaagreatdoor", sum := "117116b921ea95301b35be7f2f67335793d25be27c3396ca514e8aab54ae86d7", func := "gazette/gazettelaw17.LineageNames", spec := "lineageNames", inPlace := ["internal/bytealg.IndexByteString", "internal/bytealg.IndexString", "internal/reflectlite.TypeOf", "slices.overlaps[gazette/api.Producer]", "slices.overlaps[gazette/api.Consumer]"], unfollowed := true, recurses := true, named := ["unicode/utf8.first", "unicode/utf8.acceptRanges", "internal/bytealg.MaxLen"], apart := false, laid := [("unicode/utf8.acceptRanges", laid_unicode_utf8_acceptRanges), ("unicode/utf8.first", laid_unicode_utf8_first)], narrowed := true }
def LineageNamesUptoSaid : Prop := lineageNamesUptoRow.holds Tryz.pinned (OpenSpec.upto lineageNamesSpec)

/-- 'gazettelaw17.LineageMerges', WHERE WHAT IT READS IS OF BULK AT MOST 1048576: true; the input reads as it did. -/
def lineageMergesUptoRow : OpenClaim := { program := "ytckklclehofddaagreatdoor", sum := "117116b921ea95301b35be7f2f67335793d25be27c3396ca514e8aab54ae86d7", func := "gazette/gazettelaw17.LineageMerges", spec := "lineageMerges", inPlace := ["internal/bytealg.IndexByteString", "internal/bytealg.IndexString", "internal/reflectlite.TypeOf", "slices.overlaps[gazette/api.Producer]", "slices.overlaps[gazette/api.Consumer]"], unfollowed := true, recurses := true, named := ["unicode/utf8.first", "unicode/utf8.acceptRanges", "internal/bytealg.MaxLen"], apart := false, laid := [("unicode/utf8.acceptRanges", laid_unicode_utf8_acceptRanges), ("unicode/utf8.first", laid_unicode_utf8_first)], narrowed := true }
def LineageMergesUptoSaid : Prop := lineageMergesUptoRow.holds Tryz.pinned (OpenSpec.upto lineageMergesSpec)

/-- 'gazettelaw17.LineageKeeps', WHERE WHAT IT READS IS OF BULK AT MOST 1048576: true; the input reads as it did. -/
def lineageKeepsUptoRow : OpenClaim := { program := "ytckklclehofddaagreatdoor", sum := "117116b921ea95301b35be7f2f67335793d25be27c3396ca514e8aab54ae86d7", func := "gazette/gazettelaw17.LineageKeeps", spec := "lineageKeeps", inPlace := ["internal/bytealg.IndexByteString", "internal/bytealg.IndexString", "internal/reflectlite.TypeOf", "slices.overlaps[gazette/api.Producer]", "slices.overlaps[gazette/api.Consumer]"], unfollowed := true, recurses := true, named := ["unicode/utf8.first", "unicode/utf8.acceptRanges", "internal/bytealg.MaxLen"], apart := false, laid := [("unicode/utf8.acceptRanges", laid_unicode_utf8_acceptRanges), ("unicode/utf8.first", laid_unicode_utf8_first)], narrowed := true }
def LineageKeepsUptoSaid : Prop := lineageKeepsUptoRow.holds Tryz.pinned (OpenSpec.upto lineageKeepsSpec)

/-- 'gazettelaw17.LineageBack', WHERE WHAT IT READS IS OF BULK AT MOST 1048576: true; the input reads as it did. -/
def lineageBackUptoRow : OpenClaim := { program := "ytckklclehofddaagreatdoor", sum := "117116b921ea95301b35be7f2f67335793d25be27c3396ca514e8aab54ae86d7", func := "gazette/gazettelaw17.LineageBack", spec := "lineageBack", inPlace := ["internal/bytealg.IndexByteString", "internal/bytealg.IndexString", "internal/reflectlite.TypeOf", "slices.overlaps[gazette/api.Producer]", "slices.overlaps[gazette/api.Consumer]"], unfollowed := true, recurses := true, named := ["unicode/utf8.first", "unicode/utf8.acceptRanges", "internal/bytealg.MaxLen"], apart := false, laid := [("unicode/utf8.acceptRanges", laid_unicode_utf8_acceptRanges), ("unicode/utf8.first", laid_unicode_utf8_first)], narrowed := true }
def LineageBackUptoSaid : Prop := lineageBackUptoRow.holds Tryz.pinned (OpenSpec.upto lineageBackSpec)

/-- 'gazettelaw17.LineageOnce', WHERE WHAT IT READS IS OF BULK AT MOST 1048576: true; the input reads as it did. -/
def lineageOnceUptoRow : OpenClaim := { program := "ytckklclehofddaagreatdoor", sum := "117116b921ea95301b35be7f2f67335793d25be27c3396ca514e8aab54ae86d7", func := "gazette/gazettelaw17.LineageOnce", spec := "lineageOnce", inPlace := ["internal/bytealg.IndexByteString", "internal/bytealg.IndexString", "internal/reflectlite.TypeOf", "slices.overlaps[gazette/api.Producer]", "slices.overlaps[gazette/api.Consumer]"], unfollowed := true, recurses := true, named := ["unicode/utf8.first", "unicode/utf8.acceptRanges", "internal/bytealg.MaxLen"], apart := false, laid := [("unicode/utf8.acceptRanges", laid_unicode_utf8_acceptRanges), ("unicode/utf8.first", laid_unicode_utf8_first)], narrowed := true }
def LineageOnceUptoSaid : Prop := lineageOnceUptoRow.holds Tryz.pinned (OpenSpec.upto lineageOnceSpec)

end Rows
end Go.Proofs.YtckklclehofddaaGreatDoor
