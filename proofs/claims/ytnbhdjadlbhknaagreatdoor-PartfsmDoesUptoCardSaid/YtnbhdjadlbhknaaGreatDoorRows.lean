/-
  NARROWER THAN 'FOR EVERY INPUT', by the rows' own cells (each row's printed sentence says how): PartfsmNames: laid · PartfsmDoes: laid · PartfsmStays: laid · PartfsmOnce: laid · PartfsmApplies: laid · PartfsmBack: laid · PartfsmBytes: laid.
  DERIVED. THE GIVEN ROWS OF THIS SEAT. 7 by the template 'for every input the law returns true; each argument reads behind the call as it read before'; 0 by the template 'total and deterministic' (their statements: YtnbhdjadlbhknaaGreatDoorTotals.lean).
  GIVEN WITH THE SEED: the statements are not yours to turn. If you find one false, say at which input.
  Laid BY PROGRAM, IN A SANDBOX (cutbox-rows.mjs): the forced cells as the released guide's own fill.sh prints them over the translation 4b99e860a6ae26d4… (all of the seat's roots in one cut). By AI agents, Wed Nov 11 2026. No macro, syntax, notation, axiom, sorry.
-/
import Derived.Test.YtnbhdjadlbhknaaGreatDoorChecked
import GoSem.PinnedTables
import GoSem.Claim
import GoSem.ClaimJoined
import GoSem.ClaimMapViews
import Derived.JoinedTies
import Derived.KernelRfl
namespace Go.Proofs.YtnbhdjadlbhknaaGreatDoor
/- THE CELL 'sum', in the pinned program and in every row, IS THE sha256 OF THE DUMP (.gsa) THAT YtnbhdjadlbhknaaGreatDoorProg.lean LOADS. Nothing in Lean hashes anything: it is a label: what it is worth is what the hold of that sum in a sandbox is worth. -/
noncomputable def Tryz.pinned : Pinned := { name := "ytnbhdjadlbhknaagreatdoor", sum := "4b99e860a6ae26d4cdcf7d99c8a0f1e3f83b91d411cbaee2be9392a28af2f7b1", checked := Tryz.checked }
namespace Rows
def none {H : Type} : Left H := { results := [], args := [] }

/- WHAT THE LISTED PACKAGE-LEVEL VARIABLES READ AS WHEN THE CALL BEGINS. Each datum BY PROGRAM (the guide's laid-datum.mjs) off the statement by which the dump's own 'gosem.cut.vars' lays the variable. In a bare row this is a premise. The card (YtnbhdjadlbhknaaGreatDoorCards.lean) ties it to the program's text. -/
def laid_unicode_utf8_acceptRanges {H : Type} : DataW H := .agg [.agg [.lit (.int .u8 128), .lit (.int .u8 191)], .agg [.lit (.int .u8 160), .lit (.int .u8 191)], .agg [.lit (.int .u8 128), .lit (.int .u8 159)], .agg [.lit (.int .u8 144), .lit (.int .u8 191)], .agg [.lit (.int .u8 128), .lit (.int .u8 143)], .agg [.lit (.int .u8 0), .lit (.int .u8 0)], .agg [.lit (.int .u8 0), .lit (.int .u8 0)], .agg [.lit (.int .u8 0), .lit (.int .u8 0)], .agg [.lit (.int .u8 0), .lit (.int .u8 0)], .agg [.lit (.int .u8 0), .lit (.int .u8 0)], .agg [.lit (.int .u8 0), .lit (.int .u8 0)], .agg [.lit (.int .u8 0), .lit (.int .u8 0)], .agg [.lit (.int .u8 0), .lit (.int .u8 0)], .agg [.lit (.int .u8 0), .lit (.int .u8 0)], .agg [.lit (.int .u8 0), .lit (.int .u8 0)], .agg [.lit (.int .u8 0), .lit (.int .u8 0)]]
def laid_errors_errorType {H : Type} : DataW H := .iface "internal/reflectlite.rtype" (.agg [.ptr (.lit (.string [101, 114, 114, 111, 114]))])
/-- One of Go's own tables, pinned by name: the form's constant. -/
def laid_unicode_utf8_first : DataW Unit := Go.Pinned.utf8First

/-- 'gazettelaw16.PartfsmNames': WHATEVER THE INPUT: true; the input reads as it did. -/
def partfsmNamesSpec : ChangeSpec := { name := "partfsmNames", fn := fun _ => fun
  | [] => { results := [.lit (.bool true)], args := [] }
  | _ => none }
def partfsmNamesRow : OpenClaim := { program := "ytnbhdjadlbhknaagreatdoor", sum := "4b99e860a6ae26d4cdcf7d99c8a0f1e3f83b91d411cbaee2be9392a28af2f7b1", func := "gazette/gazettelaw16.PartfsmNames", spec := "partfsmNames", inPlace := ["internal/bytealg.IndexByteString", "internal/bytealg.IndexString", "slices.overlaps[gazette/api.Producer]", "internal/reflectlite.TypeOf", "slices.overlaps[gazette/api.Consumer]", "internal/reflectlite.ValueOf", "(internal/reflectlite.Value).Type", "(internal/reflectlite.Value).IsNil", "(internal/reflectlite.Value).Elem", "(internal/reflectlite.Value).Set"], unfollowed := true, recurses := true, named := ["unicode/utf8.first", "unicode/utf8.acceptRanges", "errors.errorType", "internal/bytealg.MaxLen"], apart := false, laid := [("unicode/utf8.acceptRanges", laid_unicode_utf8_acceptRanges), ("errors.errorType", laid_errors_errorType), ("unicode/utf8.first", laid_unicode_utf8_first)] }
def PartfsmNamesSaid : Prop := partfsmNamesRow.holds Tryz.pinned (OpenSpec.ofChange partfsmNamesSpec)

/-- ITS FALSE NEIGHBOUR: 'it returns false'. Refute it at one input. -/
def partfsmNamesWrong : ChangeSpec := { name := "partfsmNames", fn := fun _ => fun
  | [] => { results := [.lit (.bool false)], args := [] }
  | _ => none }
def PartfsmNamesWrongFalsely : Prop := partfsmNamesRow.holds Tryz.pinned (OpenSpec.ofChange partfsmNamesWrong)

/-- 'gazettelaw16.PartfsmDoes': WHATEVER THE INPUT: true; the input reads as it did. -/
def partfsmDoesSpec : ChangeSpec := { name := "partfsmDoes", fn := fun _ => fun
  | [d1, d2] => { results := [.lit (.bool true)], args := [d1, d2] }
  | _ => none }
def partfsmDoesRow : OpenClaim := { program := "ytnbhdjadlbhknaagreatdoor", sum := "4b99e860a6ae26d4cdcf7d99c8a0f1e3f83b91d411cbaee2be9392a28af2f7b1", func := "gazette/gazettelaw16.PartfsmDoes", spec := "partfsmDoes", inPlace := ["internal/bytealg.IndexByteString", "internal/bytealg.IndexString", "slices.overlaps[gazette/api.Producer]", "internal/reflectlite.TypeOf", "slices.overlaps[gazette/api.Consumer]", "internal/reflectlite.ValueOf", "(internal/reflectlite.Value).Type", "(internal/reflectlite.Value).IsNil", "(internal/reflectlite.Value).Elem", "(internal/reflectlite.Value).Set"], unfollowed := true, recurses := true, named := ["unicode/utf8.first", "unicode/utf8.acceptRanges", "errors.errorType", "internal/bytealg.MaxLen"], apart := false, laid := [("unicode/utf8.acceptRanges", laid_unicode_utf8_acceptRanges), ("errors.errorType", laid_errors_errorType), ("unicode/utf8.first", laid_unicode_utf8_first)] }
def PartfsmDoesSaid : Prop := partfsmDoesRow.holds Tryz.pinned (OpenSpec.ofChange partfsmDoesSpec)

/-- ITS FALSE NEIGHBOUR: 'it returns false'. Refute it at one input. -/
def partfsmDoesWrong : ChangeSpec := { name := "partfsmDoes", fn := fun _ => fun
  | [d1, d2] => { results := [.lit (.bool false)], args := [d1, d2] }
  | _ => none }
def PartfsmDoesWrongFalsely : Prop := partfsmDoesRow.holds Tryz.pinned (OpenSpec.ofChange partfsmDoesWrong)

/-- 'gazettelaw16.PartfsmStays': WHATEVER THE INPUT: true; the input reads as it did. -/
def partfsmStaysSpec : ChangeSpec := { name := "partfsmStays", fn := fun _ => fun
  | [d1, d2] => { results := [.lit (.bool true)], args := [d1, d2] }
  | _ => none }
def partfsmStaysRow : OpenClaim := { program := "ytnbhdjadlbhknaagreatdoor", sum := "4b99e860a6ae26d4cdcf7d99c8a0f1e3f83b91d411cbaee2be9392a28af2f7b1", func := "gazette/gazettelaw16.PartfsmStays", spec := "partfsmStays", inPlace := ["internal/bytealg.IndexByteString", "internal/bytealg.IndexString", "slices.overlaps[gazette/api.Producer]", "internal/reflectlite.TypeOf", "slices.overlaps[gazette/api.Consumer]", "internal/reflectlite.ValueOf", "(internal/reflectlite.Value).Type", "(internal/reflectlite.Value).IsNil", "(internal/reflectlite.Value).Elem", "(internal/reflectlite.Value).Set"], unfollowed := true, recurses := true, named := ["unicode/utf8.first", "unicode/utf8.acceptRanges", "errors.errorType", "internal/bytealg.MaxLen"], apart := false, laid := [("unicode/utf8.acceptRanges", laid_unicode_utf8_acceptRanges), ("errors.errorType", laid_errors_errorType), ("unicode/utf8.first", laid_unicode_utf8_first)] }
def PartfsmStaysSaid : Prop := partfsmStaysRow.holds Tryz.pinned (OpenSpec.ofChange partfsmStaysSpec)

/-- ITS FALSE NEIGHBOUR: 'it returns false'. Refute it at one input. -/
def partfsmStaysWrong : ChangeSpec := { name := "partfsmStays", fn := fun _ => fun
  | [d1, d2] => { results := [.lit (.bool false)], args := [d1, d2] }
  | _ => none }
def PartfsmStaysWrongFalsely : Prop := partfsmStaysRow.holds Tryz.pinned (OpenSpec.ofChange partfsmStaysWrong)

/-- 'gazettelaw16.PartfsmOnce': WHATEVER THE INPUT: true; the input reads as it did. -/
def partfsmOnceSpec : ChangeSpec := { name := "partfsmOnce", fn := fun _ => fun
  | [d1, d2] => { results := [.lit (.bool true)], args := [d1, d2] }
  | _ => none }
def partfsmOnceRow : OpenClaim := { program := "ytnbhdjadlbhknaagreatdoor", sum := "4b99e860a6ae26d4cdcf7d99c8a0f1e3f83b91d411cbaee2be9392a28af2f7b1", func := "gazette/gazettelaw16.PartfsmOnce", spec := "partfsmOnce", inPlace := ["internal/bytealg.IndexByteString", "internal/bytealg.IndexString", "slices.overlaps[gazette/api.Producer]", "internal/reflectlite.TypeOf", "slices.overlaps[gazette/api.Consumer]", "internal/reflectlite.ValueOf", "(internal/reflectlite.Value).Type", "(internal/reflectlite.Value).IsNil", "(internal/reflectlite.Value).Elem", "(internal/reflectlite.Value).Set"], unfollowed := true, recurses := true, named := ["unicode/utf8.first", "unicode/utf8.acceptRanges", "errors.errorType", "internal/bytealg.MaxLen"], apart := false, laid := [("unicode/utf8.acceptRanges", laid_unicode_utf8_acceptRanges), ("errors.errorType", laid_errors_errorType), ("unicode/utf8.first", laid_unicode_utf8_first)] }
def PartfsmOnceSaid : Prop := partfsmOnceRow.holds Tryz.pinned (OpenSpec.ofChange partfsmOnceSpec)

/-- ITS FALSE NEIGHBOUR: 'it returns false'. Refute it at one input. -/
def partfsmOnceWrong : ChangeSpec := { name := "partfsmOnce", fn := fun _ => fun
  | [d1, d2] => { results := [.lit (.bool false)], args := [d1, d2] }
  | _ => none }
def PartfsmOnceWrongFalsely : Prop := partfsmOnceRow.holds Tryz.pinned (OpenSpec.ofChange partfsmOnceWrong)

/-- 'gazettelaw16.PartfsmApplies': WHATEVER THE INPUT: true; the input reads as it did. -/
def partfsmAppliesSpec : ChangeSpec := { name := "partfsmApplies", fn := fun _ => fun
  | [d1, d2, d3] => { results := [.lit (.bool true)], args := [d1, d2, d3] }
  | _ => none }
def partfsmAppliesRow : OpenClaim := { program := "ytnbhdjadlbhknaagreatdoor", sum := "4b99e860a6ae26d4cdcf7d99c8a0f1e3f83b91d411cbaee2be9392a28af2f7b1", func := "gazette/gazettelaw16.PartfsmApplies", spec := "partfsmApplies", inPlace := ["internal/bytealg.IndexByteString", "internal/bytealg.IndexString", "slices.overlaps[gazette/api.Producer]", "internal/reflectlite.TypeOf", "slices.overlaps[gazette/api.Consumer]", "internal/reflectlite.ValueOf", "(internal/reflectlite.Value).Type", "(internal/reflectlite.Value).IsNil", "(internal/reflectlite.Value).Elem", "(internal/reflectlite.Value).Set"], unfollowed := true, recurses := true, named := ["unicode/utf8.first", "unicode/utf8.acceptRanges", "errors.errorType", "internal/bytealg.MaxLen"], apart := false, laid := [("unicode/utf8.acceptRanges", laid_unicode_utf8_acceptRanges), ("errors.errorType", laid_errors_errorType), ("unicode/utf8.first", laid_unicode_utf8_first)] }
def PartfsmAppliesSaid : Prop := partfsmAppliesRow.holds Tryz.pinned (OpenSpec.ofChange partfsmAppliesSpec)

/-- ITS FALSE NEIGHBOUR: 'it returns false'. Refute it at one input. -/
def partfsmAppliesWrong : ChangeSpec := { name := "partfsmApplies", fn := fun _ => fun
  | [d1, d2, d3] => { results := [.lit (.bool false)], args := [d1, d2, d3] }
  | _ => none }
def PartfsmAppliesWrongFalsely : Prop := partfsmAppliesRow.holds Tryz.pinned (OpenSpec.ofChange partfsmAppliesWrong)

/-- 'gazettelaw16.PartfsmBack': WHATEVER THE INPUT: true; the input reads as it did. -/
def partfsmBackSpec : ChangeSpec := { name := "partfsmBack", fn := fun _ => fun
  | [d1, d2, d3] => { results := [.lit (.bool true)], args := [d1, d2, d3] }
  | _ => none }
def partfsmBackRow : OpenClaim := { program := "ytnbhdjadlbhknaagreatdoor", sum := "4b99e860a6ae26d4cdcf7d99c8a0f1e3f83b91d411cbaee2be9392a28af2f7b1", func := "gazette/gazettelaw16.PartfsmBack", spec := "partfsmBack", inPlace := ["internal/bytealg.IndexByteString", "internal/bytealg.IndexString", "slices.overlaps[gazette/api.Producer]", "internal/reflectlite.TypeOf", "slices.overlaps[gazette/api.Consumer]", "internal/reflectlite.ValueOf", "(internal/reflectlite.Value).Type", "(internal/reflectlite.Value).IsNil", "(internal/reflectlite.Value).Elem", "(internal/reflectlite.Value).Set"], unfollowed := true, recurses := true, named := ["unicode/utf8.first", "unicode/utf8.acceptRanges", "errors.errorType", "internal/bytealg.MaxLen"], apart := false, laid := [("unicode/utf8.acceptRanges", laid_unicode_utf8_acceptRanges), ("errors.errorType", laid_errors_errorType), ("unicode/utf8.first", laid_unicode_utf8_first)] }
def PartfsmBackSaid : Prop := partfsmBackRow.holds Tryz.pinned (OpenSpec.ofChange partfsmBackSpec)

/-- ITS FALSE NEIGHBOUR: 'it returns false'. Refute it at one input. -/
def partfsmBackWrong : ChangeSpec := { name := "partfsmBack", fn := fun _ => fun
  | [d1, d2, d3] => { results := [.lit (.bool false)], args := [d1, d2, d3] }
  | _ => none }
def PartfsmBackWrongFalsely : Prop := partfsmBackRow.holds Tryz.pinned (OpenSpec.ofChange partfsmBackWrong)

/-- 'gazettelaw16.PartfsmBytes': WHATEVER THE INPUT: true; the input reads as it did. -/
def partfsmBytesSpec : ChangeSpec := { name := "partfsmBytes", fn := fun _ => fun
  | [d] => { results := [.lit (.bool true)], args := [d] }
  | _ => none }
def partfsmBytesRow : OpenClaim := { program := "ytnbhdjadlbhknaagreatdoor", sum := "4b99e860a6ae26d4cdcf7d99c8a0f1e3f83b91d411cbaee2be9392a28af2f7b1", func := "gazette/gazettelaw16.PartfsmBytes", spec := "partfsmBytes", inPlace := ["internal/bytealg.IndexByteString", "internal/bytealg.IndexString", "slices.overlaps[gazette/api.Producer]", "internal/reflectlite.TypeOf", "slices.overlaps[gazette/api.Consumer]", "internal/reflectlite.ValueOf", "(internal/reflectlite.Value).Type", "(internal/reflectlite.Value).IsNil", "(internal/reflectlite.Value).Elem", "(internal/reflectlite.Value).Set"], unfollowed := true, recurses := true, named := ["unicode/utf8.first", "unicode/utf8.acceptRanges", "errors.errorType", "internal/bytealg.MaxLen"], apart := false, laid := [("unicode/utf8.acceptRanges", laid_unicode_utf8_acceptRanges), ("errors.errorType", laid_errors_errorType), ("unicode/utf8.first", laid_unicode_utf8_first)] }
def PartfsmBytesSaid : Prop := partfsmBytesRow.holds Tryz.pinned (OpenSpec.ofChange partfsmBytesSpec)

/-- ITS FALSE NEIGHBOUR: 'it returns false'. Refute it at one input. -/
def partfsmBytesWrong : ChangeSpec := { name := "partfsmBytes", fn := fun _ => fun
  | [d] => { results := [.lit (.bool false)], args := [d] }
  | _ => none }
def PartfsmBytesWrongFalsely : Prop := partfsmBytesRow.holds Tryz.pinned (OpenSpec.ofChange partfsmBytesWrong)

/- THE SECOND FORM. 'bulk': how many values and letters a reading holds, each counted each time it is reached (what is shared counts as often as it is met; a slice's spare places count too). A statement '..UptoSaid' is the law's where the arguments, and the package variables that the reading takes, are together of bulk at most 1048576: NARROWER than '..Said'. Prove '..Said' where nothing that the law and all that it calls make is longer than what came in: it says more and counts as full. Else prove '..UptoSaid'. A law counts once. -/
mutual
def uptoBulk {H : Type} : DataW H → Nat
  | .lit (.string bytes) => bytes.length + 1
  | .lit _ => 1
  | .nil => 1
  | .ptr d => uptoBulk d + 1
  | .slice elems spare => uptoBulkAll elems + uptoBulkAll spare + 1
  | .agg parts => uptoBulkAll parts + 1
  | .iface _ d => uptoBulk d + 1
  | .map entries => uptoBulkEntries entries + 1
  | .held _ => 1
def uptoBulkAll {H : Type} : List (DataW H) → Nat
  | [] => 0
  | d :: r => uptoBulk d + uptoBulkAll r
def uptoBulkEntries {H : Type} : List (Lit × DataW H) → Nat
  | [] => 0
  | x :: r => uptoBulkEntry x + uptoBulkEntries r
def uptoBulkEntry {H : Type} : Lit × DataW H → Nat
  | (.string bytes, d) => bytes.length + uptoBulk d + 1
  | (_, d) => uptoBulk d + 1
 end
def uptoSmall : (H : Type) → List (DataW H) → Bool := fun _ ds => decide (uptoBulkAll ds ≤ 1048576)
def OpenSpec.upto (s : _root_.Go.ChangeSpec) : _root_.Go.OpenSpec := { _root_.Go.OpenSpec.ofChange s with cond := some uptoSmall }

/-- 'gazettelaw16.PartfsmNames', WHERE WHAT IT READS IS OF BULK AT MOST 1048576: true; the input reads as it did. -/
def partfsmNamesUptoRow : OpenClaim := { program := "ytnbhdjadlbhknaagreatdoor", sum := "4b99e860a6ae26d4cdcf7d99c8a0f1e3f83b91d411cbaee2be9392a28af2f7b1", func := "gazette/gazettelaw16.PartfsmNames", spec := "partfsmNames", inPlace := ["internal/bytealg.IndexByteString", "internal/bytealg.IndexString", "slices.overlaps[gazette/api.Producer]", "internal/reflectlite.TypeOf", "slices.overlaps[gazette/api.Consumer]", "internal/reflectlite.ValueOf", "(internal/reflectlite.Value).Type", "(internal/reflectlite.Value).IsNil", "(internal/reflectlite.Value).Elem", "(internal/reflectlite.Value).Set"], unfollowed := true, recurses := true, named := ["unicode/utf8.first", "unicode/utf8.acceptRanges", "errors.errorType", "internal/bytealg.MaxLen"], apart := false, laid := [("unicode/utf8.acceptRanges", laid_unicode_utf8_acceptRanges), ("errors.errorType", laid_errors_errorType), ("unicode/utf8.first", laid_unicode_utf8_first)], narrowed := true }
def PartfsmNamesUptoSaid : Prop := partfsmNamesUptoRow.holds Tryz.pinned (OpenSpec.upto partfsmNamesSpec)

/-- 'gazettelaw16.PartfsmDoes', WHERE WHAT IT READS IS OF BULK AT MOST 1048576: true; the input reads as it did. -/
def partfsmDoesUptoRow : OpenClaim := { program := "ytnbhdjadlbhknaagreatdoor", sum := "4b99e860a6ae26d4cdcf7d99c8a0f1e3f83b91d411cbaee2be9392a28af2f7b1", func := "gazette/gazettelaw16.PartfsmDoes", spec := "partfsmDoes", inPlace := ["internal/bytealg.IndexByteString", "internal/bytealg.IndexString", "slices.overlaps[gazette/api.Producer]", "internal/reflectlite.TypeOf", "slices.overlaps[gazette/api.Consumer]", "internal/reflectlite.ValueOf", "(internal/reflectlite.Value).Type", "(internal/reflectlite.Value).IsNil", "(internal/reflectlite.Value).Elem", "(internal/reflectlite.Value).Set"], unfollowed := true, recurses := true, named := ["unicode/utf8.first", "unicode/utf8.acceptRanges", "errors.errorType", "internal/bytealg.MaxLen"], apart := false, laid := [("unicode/utf8.acceptRanges", laid_unicode_utf8_acceptRanges), ("errors.errorType", laid_errors_errorType), ("unicode/utf8.first", laid_unicode_utf8_first)], narrowed := true }
def PartfsmDoesUptoSaid : Prop := partfsmDoesUptoRow.holds Tryz.pinned (OpenSpec.upto partfsmDoesSpec)

/-- 'gazettelaw16.PartfsmStays', WHERE WHAT IT READS IS OF BULK AT MOST 1048576: true; the input reads as it did. -/
def partfsmStaysUptoRow : OpenClaim := { program := "ytnbhdjadlbhknaagreatdoor", sum := "4b99e860a6ae26d4cdcf7d99c8a0f1e3f83b91d411cbaee2be9392a28af2f7b1", func := "gazette/gazettelaw16.PartfsmStays", spec := "partfsmStays", inPlace := ["internal/bytealg.IndexByteString", "internal/bytealg.IndexString", "slices.overlaps[gazette/api.Producer]", "internal/reflectlite.TypeOf", "slices.overlaps[gazette/api.Consumer]", "internal/reflectlite.ValueOf", "(internal/reflectlite.Value).Type", "(internal/reflectlite.Value).IsNil", "(internal/reflectlite.Value).Elem", "(internal/reflectlite.Value).Set"], unfollowed := true, recurses := true, named := ["unicode/utf8.first", "unicode/utf8.acceptRanges", "errors.errorType", "internal/bytealg.MaxLen"], apart := false, laid := [("unicode/utf8.acceptRanges", laid_unicode_utf8_acceptRanges), ("errors.errorType", laid_errors_errorType), ("unicode/utf8.first", laid_unicode_utf8_first)], narrowed := true }
def PartfsmStaysUptoSaid : Prop := partfsmStaysUptoRow.holds Tryz.pinned (OpenSpec.upto partfsmStaysSpec)

/-- 'gazettelaw16.PartfsmOnce', WHERE WHAT IT READS IS OF BULK AT MOST 1048576: true; the input reads as it did. -/
def partfsmOnceUptoRow : OpenClaim := { program := "ytnbhdjadlbhknaagreatdoor", sum := "4b99e860a6ae26d4cdcf7d99c8a0f1e3f83b91d411cbaee2be9392a28af2f7b1", func := "gazette/gazettelaw16.PartfsmOnce", spec := "partfsmOnce", inPlace := ["internal/bytealg.IndexByteString", "internal/bytealg.IndexString", "slices.overlaps[gazette/api.Producer]", "internal/reflectlite.TypeOf", "slices.overlaps[gazette/api.Consumer]", "internal/reflectlite.ValueOf", "(internal/reflectlite.Value).Type", "(internal/reflectlite.Value).IsNil", "(internal/reflectlite.Value).Elem", "(internal/reflectlite.Value).Set"], unfollowed := true, recurses := true, named := ["unicode/utf8.first", "unicode/utf8.acceptRanges", "errors.errorType", "internal/bytealg.MaxLen"], apart := false, laid := [("unicode/utf8.acceptRanges", laid_unicode_utf8_acceptRanges), ("errors.errorType", laid_errors_errorType), ("unicode/utf8.first", laid_unicode_utf8_first)], narrowed := true }
def PartfsmOnceUptoSaid : Prop := partfsmOnceUptoRow.holds Tryz.pinned (OpenSpec.upto partfsmOnceSpec)

/-- 'gazettelaw16.PartfsmApplies', WHERE WHAT IT READS IS OF BULK AT MOST 1048576: true; the input reads as it did. -/
def partfsmAppliesUptoRow : OpenClaim := { program := "ytnbhdjadlbhknaagreatdoor", sum := "4b99e860a6ae26d4cdcf7d99c8a0f1e3f83b91d411cbaee2be9392a28af2f7b1", func := "gazette/gazettelaw16.PartfsmApplies", spec := "partfsmApplies", inPlace := ["internal/bytealg.IndexByteString", "internal/bytealg.IndexString", "slices.overlaps[gazette/api.Producer]", "internal/reflectlite.TypeOf", "slices.overlaps[gazette/api.Consumer]", "internal/reflectlite.ValueOf", "(internal/reflectlite.Value).Type", "(internal/reflectlite.Value).IsNil", "(internal/reflectlite.Value).Elem", "(internal/reflectlite.Value).Set"], unfollowed := true, recurses := true, named := ["unicode/utf8.first", "unicode/utf8.acceptRanges", "errors.errorType", "internal/bytealg.MaxLen"], apart := false, laid := [("unicode/utf8.acceptRanges", laid_unicode_utf8_acceptRanges), ("errors.errorType", laid_errors_errorType), ("unicode/utf8.first", laid_unicode_utf8_first)], narrowed := true }
def PartfsmAppliesUptoSaid : Prop := partfsmAppliesUptoRow.holds Tryz.pinned (OpenSpec.upto partfsmAppliesSpec)

/-- 'gazettelaw16.PartfsmBack', WHERE WHAT IT READS IS OF BULK AT MOST 1048576: true; the input reads as it did. -/
def partfsmBackUptoRow : OpenClaim := { program := "ytnbhdjadlbhknaagreatdoor", sum := "4b99e860a6ae26d4cdcf7d99c8a0f1e3f83b91d411cbaee2be9392a28af2f7b1", func := "gazette/gazettelaw16.PartfsmBack", spec := "partfsmBack", inPlace := ["internal/bytealg.IndexByteString", "internal/bytealg.IndexString", "slices.overlaps[gazette/api.Producer]", "internal/reflectlite.TypeOf", "slices.overlaps[gazette/api.Consumer]", "internal/reflectlite.ValueOf", "(internal/reflectlite.Value).Type", "(internal/reflectlite.Value).IsNil", "(internal/reflectlite.Value).Elem", "(internal/reflectlite.Value).Set"], unfollowed := true, recurses := true, named := ["unicode/utf8.first", "unicode/utf8.acceptRanges", "errors.errorType", "internal/bytealg.MaxLen"], apart := false, laid := [("unicode/utf8.acceptRanges", laid_unicode_utf8_acceptRanges), ("errors.errorType", laid_errors_errorType), ("unicode/utf8.first", laid_unicode_utf8_first)], narrowed := true }
def PartfsmBackUptoSaid : Prop := partfsmBackUptoRow.holds Tryz.pinned (OpenSpec.upto partfsmBackSpec)

/-- 'gazettelaw16.PartfsmBytes', WHERE WHAT IT READS IS OF BULK AT MOST 1048576: true; the input reads as it did. -/
def partfsmBytesUptoRow : OpenClaim := { program := "ytnbhdjadlbhknaagreatdoor", sum := "4b99e860a6ae26d4cdcf7d99c8a0f1e3f83b91d411cbaee2be9392a28af2f7b1", func := "gazette/gazettelaw16.PartfsmBytes", spec := "partfsmBytes", inPlace := ["internal/bytealg.IndexByteString", "internal/bytealg.IndexString", "slices.overlaps[gazette/api.Producer]", "internal/reflectlite.TypeOf", "slices.overlaps[gazette/api.Consumer]", "internal/reflectlite.ValueOf", "(internal/reflectlite.Value).Type", "(internal/reflectlite.Value).IsNil", "(internal/reflectlite.Value).Elem", "(internal/reflectlite.Value).Set"], unfollowed := true, recurses := true, named := ["unicode/utf8.first", "unicode/utf8.acceptRanges", "errors.errorType", "internal/bytealg.MaxLen"], apart := false, laid := [("unicode/utf8.acceptRanges", laid_unicode_utf8_acceptRanges), ("errors.errorType", laid_errors_errorType), ("unicode/utf8.first", laid_unicode_utf8_first)], narrowed := true }
def PartfsmBytesUptoSaid : Prop := partfsmBytesUptoRow.holds Tryz.pinned (OpenSpec.upto partfsmBytesSpec)

end Rows
end Go.Proofs.YtnbhdjadlbhknaaGreatDoor
