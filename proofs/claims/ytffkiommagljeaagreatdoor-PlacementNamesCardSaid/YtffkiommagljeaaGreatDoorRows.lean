/-
  NARROWER THAN 'FOR EVERY INPUT', by the rows' own cells (each row's printed sentence says how): PlacementNames: laid · PlacementDoes: laid · PlacementStays: laid · PlacementNever: laid · PlacementEnds: laid · PlacementEpochs: laid · PlacementBack: laid · PlacementBytes: laid.
  DERIVED. THE GIVEN ROWS OF THIS SEAT. 8 by the template 'for every input the law returns true; each argument reads behind the call as it read before'; 0 by the template 'total and deterministic' (their statements: YtffkiommagljeaaGreatDoorTotals.lean).
  GIVEN WITH THE SEED: the statements are not yours to turn. If you find one false, say at which input.
  Laid BY PROGRAM, IN A SANDBOX (cutbox-rows.mjs): the forced cells as the released guide's own fill.sh prints them over the translation 8711a1bbf9a7c751… (all of the seat's roots in one cut). By AI agents, Wed Nov 11 2026. No macro, syntax, notation, axiom, sorry.
-/
import Derived.Test.YtffkiommagljeaaGreatDoorChecked
import GoSem.PinnedTables
import GoSem.Claim
import GoSem.ClaimJoined
import GoSem.ClaimMapViews
import Derived.JoinedTies
import Derived.KernelRfl
namespace Go.Proofs.YtffkiommagljeaaGreatDoor
/- THE CELL 'sum', in the pinned program and in every row, IS THE sha256 OF THE DUMP (.gsa) THAT YtffkiommagljeaaGreatDoorProg.lean LOADS. Nothing in Lean hashes anything: it is a label: what it is worth is what the hold of that sum in a sandbox is worth. -/
noncomputable def Tryz.pinned : Pinned := { name := "ytffkiommagljeaagreatdoor", sum := "8711a1bbf9a7c751662fa1e2971071b173faaa51e3be968072871fe944d85c5d", checked := Tryz.checked }
namespace Rows
def none {H : Type} : Left H := { results := [], args := [] }

/- WHAT THE LISTED PACKAGE-LEVEL VARIABLES READ AS WHEN THE CALL BEGINS. Each datum BY PROGRAM (the guide's laid-datum.mjs) off the statement by which the dump's own 'gosem.cut.vars' lays the variable. In a bare row this is a premise. The card (YtffkiommagljeaaGreatDoorCards.lean) ties it to the program's text. -/
def laid_unicode_utf8_acceptRanges {H : Type} : DataW H := .agg [.agg [.lit (.int .u8 128), .lit (.int .u8 191)], .agg [.lit (.int .u8 160), .lit (.int .u8 191)], .agg [.lit (.int .u8 128), .lit (.int .u8 159)], .agg [.lit (.int .u8 144), .lit (.int .u8 191)], .agg [.lit (.int .u8 128), .lit (.int .u8 143)], .agg [.lit (.int .u8 0), .lit (.int .u8 0)], .agg [.lit (.int .u8 0), .lit (.int .u8 0)], .agg [.lit (.int .u8 0), .lit (.int .u8 0)], .agg [.lit (.int .u8 0), .lit (.int .u8 0)], .agg [.lit (.int .u8 0), .lit (.int .u8 0)], .agg [.lit (.int .u8 0), .lit (.int .u8 0)], .agg [.lit (.int .u8 0), .lit (.int .u8 0)], .agg [.lit (.int .u8 0), .lit (.int .u8 0)], .agg [.lit (.int .u8 0), .lit (.int .u8 0)], .agg [.lit (.int .u8 0), .lit (.int .u8 0)], .agg [.lit (.int .u8 0), .lit (.int .u8 0)]]
def laid_errors_errorType {H : Type} : DataW H := .iface "internal/reflectlite.rtype" (.agg [.ptr (.lit (.string [101, 114, 114, 111, 114]))])
/-- One of Go's own tables, pinned by name: the form's constant. -/
def laid_unicode_utf8_first : DataW Unit := Go.Pinned.utf8First

/-- 'gazettelaw18.PlacementNames': WHATEVER THE INPUT: true; the input reads as it did. -/
def placementNamesSpec : ChangeSpec := { name := "placementNames", fn := fun _ => fun
  | [] => { results := [.lit (.bool true)], args := [] }
  | _ => none }
def placementNamesRow : OpenClaim := { program := "ytffkiommagljeaagreatdoor", sum := "8711a1bbf9a7c751662fa1e2971071b173faaa51e3be968072871fe944d85c5d", func := "gazette/gazettelaw18.PlacementNames", spec := "placementNames", inPlace := ["internal/bytealg.IndexByteString", "internal/bytealg.IndexString", "slices.overlaps[gazette/api.Producer]", "internal/reflectlite.ValueOf", "(internal/reflectlite.Value).Type", "(internal/reflectlite.Value).IsNil", "internal/reflectlite.TypeOf", "(internal/reflectlite.Value).Elem", "(internal/reflectlite.Value).Set", "slices.overlaps[gazette/api.Topic]", "slices.overlaps[gazette/api.Shard]"], unfollowed := true, recurses := true, named := ["unicode/utf8.first", "unicode/utf8.acceptRanges", "errors.errorType", "internal/bytealg.MaxLen"], apart := false, laid := [("unicode/utf8.acceptRanges", laid_unicode_utf8_acceptRanges), ("errors.errorType", laid_errors_errorType), ("unicode/utf8.first", laid_unicode_utf8_first)] }
def PlacementNamesSaid : Prop := placementNamesRow.holds Tryz.pinned (OpenSpec.ofChange placementNamesSpec)

/-- ITS FALSE NEIGHBOUR: 'it returns false'. Refute it at one input. -/
def placementNamesWrong : ChangeSpec := { name := "placementNames", fn := fun _ => fun
  | [] => { results := [.lit (.bool false)], args := [] }
  | _ => none }
def PlacementNamesWrongFalsely : Prop := placementNamesRow.holds Tryz.pinned (OpenSpec.ofChange placementNamesWrong)

/-- 'gazettelaw18.PlacementDoes': WHATEVER THE INPUT: true; the input reads as it did. -/
def placementDoesSpec : ChangeSpec := { name := "placementDoes", fn := fun _ => fun
  | [d1, d2, d3] => { results := [.lit (.bool true)], args := [d1, d2, d3] }
  | _ => none }
def placementDoesRow : OpenClaim := { program := "ytffkiommagljeaagreatdoor", sum := "8711a1bbf9a7c751662fa1e2971071b173faaa51e3be968072871fe944d85c5d", func := "gazette/gazettelaw18.PlacementDoes", spec := "placementDoes", inPlace := ["internal/bytealg.IndexByteString", "internal/bytealg.IndexString", "slices.overlaps[gazette/api.Producer]", "internal/reflectlite.ValueOf", "(internal/reflectlite.Value).Type", "(internal/reflectlite.Value).IsNil", "internal/reflectlite.TypeOf", "(internal/reflectlite.Value).Elem", "(internal/reflectlite.Value).Set", "slices.overlaps[gazette/api.Topic]", "slices.overlaps[gazette/api.Shard]"], unfollowed := true, recurses := true, named := ["unicode/utf8.first", "unicode/utf8.acceptRanges", "errors.errorType", "internal/bytealg.MaxLen"], apart := false, laid := [("unicode/utf8.acceptRanges", laid_unicode_utf8_acceptRanges), ("errors.errorType", laid_errors_errorType), ("unicode/utf8.first", laid_unicode_utf8_first)] }
def PlacementDoesSaid : Prop := placementDoesRow.holds Tryz.pinned (OpenSpec.ofChange placementDoesSpec)

/-- ITS FALSE NEIGHBOUR: 'it returns false'. Refute it at one input. -/
def placementDoesWrong : ChangeSpec := { name := "placementDoes", fn := fun _ => fun
  | [d1, d2, d3] => { results := [.lit (.bool false)], args := [d1, d2, d3] }
  | _ => none }
def PlacementDoesWrongFalsely : Prop := placementDoesRow.holds Tryz.pinned (OpenSpec.ofChange placementDoesWrong)

/-- 'gazettelaw18.PlacementStays': WHATEVER THE INPUT: true; the input reads as it did. -/
def placementStaysSpec : ChangeSpec := { name := "placementStays", fn := fun _ => fun
  | [d1, d2, d3] => { results := [.lit (.bool true)], args := [d1, d2, d3] }
  | _ => none }
def placementStaysRow : OpenClaim := { program := "ytffkiommagljeaagreatdoor", sum := "8711a1bbf9a7c751662fa1e2971071b173faaa51e3be968072871fe944d85c5d", func := "gazette/gazettelaw18.PlacementStays", spec := "placementStays", inPlace := ["internal/bytealg.IndexByteString", "internal/bytealg.IndexString", "slices.overlaps[gazette/api.Producer]", "internal/reflectlite.ValueOf", "(internal/reflectlite.Value).Type", "(internal/reflectlite.Value).IsNil", "internal/reflectlite.TypeOf", "(internal/reflectlite.Value).Elem", "(internal/reflectlite.Value).Set", "slices.overlaps[gazette/api.Topic]", "slices.overlaps[gazette/api.Shard]"], unfollowed := true, recurses := true, named := ["unicode/utf8.first", "unicode/utf8.acceptRanges", "errors.errorType", "internal/bytealg.MaxLen"], apart := false, laid := [("unicode/utf8.acceptRanges", laid_unicode_utf8_acceptRanges), ("errors.errorType", laid_errors_errorType), ("unicode/utf8.first", laid_unicode_utf8_first)] }
def PlacementStaysSaid : Prop := placementStaysRow.holds Tryz.pinned (OpenSpec.ofChange placementStaysSpec)

/-- ITS FALSE NEIGHBOUR: 'it returns false'. Refute it at one input. -/
def placementStaysWrong : ChangeSpec := { name := "placementStays", fn := fun _ => fun
  | [d1, d2, d3] => { results := [.lit (.bool false)], args := [d1, d2, d3] }
  | _ => none }
def PlacementStaysWrongFalsely : Prop := placementStaysRow.holds Tryz.pinned (OpenSpec.ofChange placementStaysWrong)

/-- 'gazettelaw18.PlacementNever': WHATEVER THE INPUT: true; the input reads as it did. -/
def placementNeverSpec : ChangeSpec := { name := "placementNever", fn := fun _ => fun
  | [d1, d2] => { results := [.lit (.bool true)], args := [d1, d2] }
  | _ => none }
def placementNeverRow : OpenClaim := { program := "ytffkiommagljeaagreatdoor", sum := "8711a1bbf9a7c751662fa1e2971071b173faaa51e3be968072871fe944d85c5d", func := "gazette/gazettelaw18.PlacementNever", spec := "placementNever", inPlace := ["internal/bytealg.IndexByteString", "internal/bytealg.IndexString", "slices.overlaps[gazette/api.Producer]", "internal/reflectlite.ValueOf", "(internal/reflectlite.Value).Type", "(internal/reflectlite.Value).IsNil", "internal/reflectlite.TypeOf", "(internal/reflectlite.Value).Elem", "(internal/reflectlite.Value).Set", "slices.overlaps[gazette/api.Topic]", "slices.overlaps[gazette/api.Shard]"], unfollowed := true, recurses := true, named := ["unicode/utf8.first", "unicode/utf8.acceptRanges", "errors.errorType", "internal/bytealg.MaxLen"], apart := false, laid := [("unicode/utf8.acceptRanges", laid_unicode_utf8_acceptRanges), ("errors.errorType", laid_errors_errorType), ("unicode/utf8.first", laid_unicode_utf8_first)] }
def PlacementNeverSaid : Prop := placementNeverRow.holds Tryz.pinned (OpenSpec.ofChange placementNeverSpec)

/-- ITS FALSE NEIGHBOUR: 'it returns false'. Refute it at one input. -/
def placementNeverWrong : ChangeSpec := { name := "placementNever", fn := fun _ => fun
  | [d1, d2] => { results := [.lit (.bool false)], args := [d1, d2] }
  | _ => none }
def PlacementNeverWrongFalsely : Prop := placementNeverRow.holds Tryz.pinned (OpenSpec.ofChange placementNeverWrong)

/-- 'gazettelaw18.PlacementEnds': WHATEVER THE INPUT: true; the input reads as it did. -/
def placementEndsSpec : ChangeSpec := { name := "placementEnds", fn := fun _ => fun
  | [d1, d2] => { results := [.lit (.bool true)], args := [d1, d2] }
  | _ => none }
def placementEndsRow : OpenClaim := { program := "ytffkiommagljeaagreatdoor", sum := "8711a1bbf9a7c751662fa1e2971071b173faaa51e3be968072871fe944d85c5d", func := "gazette/gazettelaw18.PlacementEnds", spec := "placementEnds", inPlace := ["internal/bytealg.IndexByteString", "internal/bytealg.IndexString", "slices.overlaps[gazette/api.Producer]", "internal/reflectlite.ValueOf", "(internal/reflectlite.Value).Type", "(internal/reflectlite.Value).IsNil", "internal/reflectlite.TypeOf", "(internal/reflectlite.Value).Elem", "(internal/reflectlite.Value).Set", "slices.overlaps[gazette/api.Topic]", "slices.overlaps[gazette/api.Shard]"], unfollowed := true, recurses := true, named := ["unicode/utf8.first", "unicode/utf8.acceptRanges", "errors.errorType", "internal/bytealg.MaxLen"], apart := false, laid := [("unicode/utf8.acceptRanges", laid_unicode_utf8_acceptRanges), ("errors.errorType", laid_errors_errorType), ("unicode/utf8.first", laid_unicode_utf8_first)] }
def PlacementEndsSaid : Prop := placementEndsRow.holds Tryz.pinned (OpenSpec.ofChange placementEndsSpec)

/-- ITS FALSE NEIGHBOUR: 'it returns false'. Refute it at one input. -/
def placementEndsWrong : ChangeSpec := { name := "placementEnds", fn := fun _ => fun
  | [d1, d2] => { results := [.lit (.bool false)], args := [d1, d2] }
  | _ => none }
def PlacementEndsWrongFalsely : Prop := placementEndsRow.holds Tryz.pinned (OpenSpec.ofChange placementEndsWrong)

/-- 'gazettelaw18.PlacementEpochs': WHATEVER THE INPUT: true; the input reads as it did. -/
def placementEpochsSpec : ChangeSpec := { name := "placementEpochs", fn := fun _ => fun
  | [d1, d2, d3] => { results := [.lit (.bool true)], args := [d1, d2, d3] }
  | _ => none }
def placementEpochsRow : OpenClaim := { program := "ytffkiommagljeaagreatdoor", sum := "8711a1bbf9a7c751662fa1e2971071b173faaa51e3be968072871fe944d85c5d", func := "gazette/gazettelaw18.PlacementEpochs", spec := "placementEpochs", inPlace := ["internal/bytealg.IndexByteString", "internal/bytealg.IndexString", "slices.overlaps[gazette/api.Producer]", "internal/reflectlite.ValueOf", "(internal/reflectlite.Value).Type", "(internal/reflectlite.Value).IsNil", "internal/reflectlite.TypeOf", "(internal/reflectlite.Value).Elem", "(internal/reflectlite.Value).Set", "slices.overlaps[gazette/api.Topic]", "slices.overlaps[gazette/api.Shard]"], unfollowed := true, recurses := true, named := ["unicode/utf8.first", "unicode/utf8.acceptRanges", "errors.errorType", "internal/bytealg.MaxLen"], apart := false, laid := [("unicode/utf8.acceptRanges", laid_unicode_utf8_acceptRanges), ("errors.errorType", laid_errors_errorType), ("unicode/utf8.first", laid_unicode_utf8_first)] }
def PlacementEpochsSaid : Prop := placementEpochsRow.holds Tryz.pinned (OpenSpec.ofChange placementEpochsSpec)

/-- ITS FALSE NEIGHBOUR: 'it returns false'. Refute it at one input. -/
def placementEpochsWrong : ChangeSpec := { name := "placementEpochs", fn := fun _ => fun
  | [d1, d2, d3] => { results := [.lit (.bool false)], args := [d1, d2, d3] }
  | _ => none }
def PlacementEpochsWrongFalsely : Prop := placementEpochsRow.holds Tryz.pinned (OpenSpec.ofChange placementEpochsWrong)

/-- 'gazettelaw18.PlacementBack': WHATEVER THE INPUT: true; the input reads as it did. -/
def placementBackSpec : ChangeSpec := { name := "placementBack", fn := fun _ => fun
  | [d] => { results := [.lit (.bool true)], args := [d] }
  | _ => none }
def placementBackRow : OpenClaim := { program := "ytffkiommagljeaagreatdoor", sum := "8711a1bbf9a7c751662fa1e2971071b173faaa51e3be968072871fe944d85c5d", func := "gazette/gazettelaw18.PlacementBack", spec := "placementBack", inPlace := ["internal/bytealg.IndexByteString", "internal/bytealg.IndexString", "slices.overlaps[gazette/api.Producer]", "internal/reflectlite.ValueOf", "(internal/reflectlite.Value).Type", "(internal/reflectlite.Value).IsNil", "internal/reflectlite.TypeOf", "(internal/reflectlite.Value).Elem", "(internal/reflectlite.Value).Set", "slices.overlaps[gazette/api.Topic]", "slices.overlaps[gazette/api.Shard]"], unfollowed := true, recurses := true, named := ["unicode/utf8.first", "unicode/utf8.acceptRanges", "errors.errorType", "internal/bytealg.MaxLen"], apart := false, laid := [("unicode/utf8.acceptRanges", laid_unicode_utf8_acceptRanges), ("errors.errorType", laid_errors_errorType), ("unicode/utf8.first", laid_unicode_utf8_first)] }
def PlacementBackSaid : Prop := placementBackRow.holds Tryz.pinned (OpenSpec.ofChange placementBackSpec)

/-- ITS FALSE NEIGHBOUR: 'it returns false'. Refute it at one input. -/
def placementBackWrong : ChangeSpec := { name := "placementBack", fn := fun _ => fun
  | [d] => { results := [.lit (.bool false)], args := [d] }
  | _ => none }
def PlacementBackWrongFalsely : Prop := placementBackRow.holds Tryz.pinned (OpenSpec.ofChange placementBackWrong)

/-- 'gazettelaw18.PlacementBytes': WHATEVER THE INPUT: true; the input reads as it did. -/
def placementBytesSpec : ChangeSpec := { name := "placementBytes", fn := fun _ => fun
  | [d] => { results := [.lit (.bool true)], args := [d] }
  | _ => none }
def placementBytesRow : OpenClaim := { program := "ytffkiommagljeaagreatdoor", sum := "8711a1bbf9a7c751662fa1e2971071b173faaa51e3be968072871fe944d85c5d", func := "gazette/gazettelaw18.PlacementBytes", spec := "placementBytes", inPlace := ["internal/bytealg.IndexByteString", "internal/bytealg.IndexString", "slices.overlaps[gazette/api.Producer]", "internal/reflectlite.ValueOf", "(internal/reflectlite.Value).Type", "(internal/reflectlite.Value).IsNil", "internal/reflectlite.TypeOf", "(internal/reflectlite.Value).Elem", "(internal/reflectlite.Value).Set", "slices.overlaps[gazette/api.Topic]", "slices.overlaps[gazette/api.Shard]"], unfollowed := true, recurses := true, named := ["unicode/utf8.first", "unicode/utf8.acceptRanges", "errors.errorType", "internal/bytealg.MaxLen"], apart := false, laid := [("unicode/utf8.acceptRanges", laid_unicode_utf8_acceptRanges), ("errors.errorType", laid_errors_errorType), ("unicode/utf8.first", laid_unicode_utf8_first)] }
def PlacementBytesSaid : Prop := placementBytesRow.holds Tryz.pinned (OpenSpec.ofChange placementBytesSpec)

/-- ITS FALSE NEIGHBOUR: 'it returns false'. Refute it at one input. -/
def placementBytesWrong : ChangeSpec := { name := "placementBytes", fn := fun _ => fun
  | [d] => { results := [.lit (.bool false)], args := [d] }
  | _ => none }
def PlacementBytesWrongFalsely : Prop := placementBytesRow.holds Tryz.pinned (OpenSpec.ofChange placementBytesWrong)

/- THE SECOND FORM. 'bulk': how many values and letters a reading holds, each counted each time it is reached (what is shared counts as often as it is met; a slice's spare places count too). A statement '..UptoSaid' is the law's where the arguments, and the package variables that the reading takes, are together of bulk at most 1048576: NARROWER than '..Said'. Prove '..Said' where nothing that the law and all that it calls make is longer than what came in: it says more and counts as full. Else prove '..UptoSaid'. A law counts once. -/
mutual
def uptoBulk {H : Type} : DataW H → Nat
  | .lit (.string bytes) => bytes.length + 1
  | .lit _ => 1
  | .nil => 1
  | .ptr d => uptoBulk d + 1
  | .slice elems spare => uptoBulkAll elems + uptoBulkAll spare + 1
  | .agg parts => uptoBulkAll parts + 1
  | .iface _ d => uptoBulk d + 1
  | .map entries => uptoBulkEntries entries + 1
  | .held _ => 1
def uptoBulkAll {H : Type} : List (DataW H) → Nat
  | [] => 0
  | d :: r => uptoBulk d + uptoBulkAll r
def uptoBulkEntries {H : Type} : List (Lit × DataW H) → Nat
  | [] => 0
  | x :: r => uptoBulkEntry x + uptoBulkEntries r
def uptoBulkEntry {H : Type} : Lit × DataW H → Nat
  | (.string bytes, d) => bytes.length + uptoBulk d + 1
  | (_, d) => uptoBulk d + 1
 end
def uptoSmall : (H : Type) → List (DataW H) → Bool := fun _ ds => decide (uptoBulkAll ds ≤ 1048576)
def OpenSpec.upto (s : _root_.Go.ChangeSpec) : _root_.Go.OpenSpec := { _root_.Go.OpenSpec.ofChange s with cond := some uptoSmall }

/-- 'gazettelaw18.PlacementNames', WHERE WHAT IT READS IS OF BULK AT MOST 1048576: true; the input reads as it did. -/
def placementNamesUptoRow : OpenClaim := { program := "ytffkiommagljeaagreatdoor", sum := "8711a1bbf9a7c751662fa1e2971071b173faaa51e3be968072871fe944d85c5d", func := "gazette/gazettelaw18.PlacementNames", spec := "placementNames", inPlace := ["internal/bytealg.IndexByteString", "internal/bytealg.IndexString", "slices.overlaps[gazette/api.Producer]", "internal/reflectlite.ValueOf", "(internal/reflectlite.Value).Type", "(internal/reflectlite.Value).IsNil", "internal/reflectlite.TypeOf", "(internal/reflectlite.Value).Elem", "(internal/reflectlite.Value).Set", "slices.overlaps[gazette/api.Topic]", "slices.overlaps[gazette/api.Shard]"], unfollowed := true, recurses := true, named := ["unicode/utf8.first", "unicode/utf8.acceptRanges", "errors.errorType", "internal/bytealg.MaxLen"], apart := false, laid := [("unicode/utf8.acceptRanges", laid_unicode_utf8_acceptRanges), ("errors.errorType", laid_errors_errorType), ("unicode/utf8.first", laid_unicode_utf8_first)], narrowed := true }
def PlacementNamesUptoSaid : Prop := placementNamesUptoRow.holds Tryz.pinned (OpenSpec.upto placementNamesSpec)

/-- 'gazettelaw18.PlacementDoes', WHERE WHAT IT READS IS OF BULK AT MOST 1048576: true; the input reads as it did. -/
def placementDoesUptoRow : OpenClaim := { program := "ytffkiommagljeaagreatdoor", sum := "8711a1bbf9a7c751662fa1e2971071b173faaa51e3be968072871fe944d85c5d", func := "gazette/gazettelaw18.PlacementDoes", spec := "placementDoes", inPlace := ["internal/bytealg.IndexByteString", "internal/bytealg.IndexString", "slices.overlaps[gazette/api.Producer]", "internal/reflectlite.ValueOf", "(internal/reflectlite.Value).Type", "(internal/reflectlite.Value).IsNil", "internal/reflectlite.TypeOf", "(internal/reflectlite.Value).Elem", "(internal/reflectlite.Value).Set", "slices.overlaps[gazette/api.Topic]", "slices.overlaps[gazette/api.Shard]"], unfollowed := true, recurses := true, named := ["unicode/utf8.first", "unicode/utf8.acceptRanges", "errors.errorType", "internal/bytealg.MaxLen"], apart := false, laid := [("unicode/utf8.acceptRanges", laid_unicode_utf8_acceptRanges), ("errors.errorType", laid_errors_errorType), ("unicode/utf8.first", laid_unicode_utf8_first)], narrowed := true }
def PlacementDoesUptoSaid : Prop := placementDoesUptoRow.holds Tryz.pinned (OpenSpec.upto placementDoesSpec)

/-- 'gazettelaw18.PlacementStays', WHERE WHAT IT READS IS OF BULK AT MOST 1048576: true; the input reads as it did. -/
def placementStaysUptoRow : OpenClaim := { program := "ytffkiommagljeaagreatdoor", sum := "8711a1bbf9a7c751662fa1e2971071b173faaa51e3be968072871fe944d85c5d", func := "gazette/gazettelaw18.PlacementStays", spec := "placementStays", inPlace := ["internal/bytealg.IndexByteString", "internal/bytealg.IndexString", "slices.overlaps[gazette/api.Producer]", "internal/reflectlite.ValueOf", "(internal/reflectlite.Value).Type", "(internal/reflectlite.Value).IsNil", "internal/reflectlite.TypeOf", "(internal/reflectlite.Value).Elem", "(internal/reflectlite.Value).Set", "slices.overlaps[gazette/api.Topic]", "slices.overlaps[gazette/api.Shard]"], unfollowed := true, recurses := true, named := ["unicode/utf8.first", "unicode/utf8.acceptRanges", "errors.errorType", "internal/bytealg.MaxLen"], apart := false, laid := [("unicode/utf8.acceptRanges", laid_unicode_utf8_acceptRanges), ("errors.errorType", laid_errors_errorType), ("unicode/utf8.first", laid_unicode_utf8_first)], narrowed := true }
def PlacementStaysUptoSaid : Prop := placementStaysUptoRow.holds Tryz.pinned (OpenSpec.upto placementStaysSpec)

/-- 'gazettelaw18.PlacementNever', WHERE WHAT IT READS IS OF BULK AT MOST 1048576: true; the input reads as it did. -/
def placementNeverUptoRow : OpenClaim := { program := "ytffkiommagljeaagreatdoor", sum := "8711a1bbf9a7c751662fa1e2971071b173faaa51e3be968072871fe944d85c5d", func := "gazette/gazettelaw18.PlacementNever", spec := "placementNever", inPlace := ["internal/bytealg.IndexByteString", "internal/bytealg.IndexString", "slices.overlaps[gazette/api.Producer]", "internal/reflectlite.ValueOf", "(internal/reflectlite.Value).Type", "(internal/reflectlite.Value).IsNil", "internal/reflectlite.TypeOf", "(internal/reflectlite.Value).Elem", "(internal/reflectlite.Value).Set", "slices.overlaps[gazette/api.Topic]", "slices.overlaps[gazette/api.Shard]"], unfollowed := true, recurses := true, named := ["unicode/utf8.first", "unicode/utf8.acceptRanges", "errors.errorType", "internal/bytealg.MaxLen"], apart := false, laid := [("unicode/utf8.acceptRanges", laid_unicode_utf8_acceptRanges), ("errors.errorType", laid_errors_errorType), ("unicode/utf8.first", laid_unicode_utf8_first)], narrowed := true }
def PlacementNeverUptoSaid : Prop := placementNeverUptoRow.holds Tryz.pinned (OpenSpec.upto placementNeverSpec)

/-- 'gazettelaw18.PlacementEnds', WHERE WHAT IT READS IS OF BULK AT MOST 1048576: true; the input reads as it did. -/
def placementEndsUptoRow : OpenClaim := { program := "ytffkiommagljeaagreatdoor", sum := "8711a1bbf9a7c751662fa1e2971071b173faaa51e3be968072871fe944d85c5d", func := "gazette/gazettelaw18.PlacementEnds", spec := "placementEnds", inPlace := ["internal/bytealg.IndexByteString", "internal/bytealg.IndexString", "slices.overlaps[gazette/api.Producer]", "internal/reflectlite.ValueOf", "(internal/reflectlite.Value).Type", "(internal/reflectlite.Value).IsNil", "internal/reflectlite.TypeOf", "(internal/reflectlite.Value).Elem", "(internal/reflectlite.Value).Set", "slices.overlaps[gazette/api.Topic]", "slices.overlaps[gazette/api.Shard]"], unfollowed := true, recurses := true, named := ["unicode/utf8.first", "unicode/utf8.acceptRanges", "errors.errorType", "internal/bytealg.MaxLen"], apart := false, laid := [("unicode/utf8.acceptRanges", laid_unicode_utf8_acceptRanges), ("errors.errorType", laid_errors_errorType), ("unicode/utf8.first", laid_unicode_utf8_first)], narrowed := true }
def PlacementEndsUptoSaid : Prop := placementEndsUptoRow.holds Tryz.pinned (OpenSpec.upto placementEndsSpec)

/-- 'gazettelaw18.PlacementEpochs', WHERE WHAT IT READS IS OF BULK AT MOST 1048576: true; the input reads as it did. -/
def placementEpochsUptoRow : OpenClaim := { program := "ytffkiommagljeaagreatdoor", sum := "8711a1bbf9a7c751662fa1e2971071b173faaa51e3be968072871fe944d85c5d", func := "gazette/gazettelaw18.PlacementEpochs", spec := "placementEpochs", inPlace := ["internal/bytealg.IndexByteString", "internal/bytealg.IndexString", "slices.overlaps[gazette/api.Producer]", "internal/reflectlite.ValueOf", "(internal/reflectlite.Value).Type", "(internal/reflectlite.Value).IsNil", "internal/reflectlite.TypeOf", "(internal/reflectlite.Value).Elem", "(internal/reflectlite.Value).Set", "slices.overlaps[gazette/api.Topic]", "slices.overlaps[gazette/api.Shard]"], unfollowed := true, recurses := true, named := ["unicode/utf8.first", "unicode/utf8.acceptRanges", "errors.errorType", "internal/bytealg.MaxLen"], apart := false, laid := [("unicode/utf8.acceptRanges", laid_unicode_utf8_acceptRanges), ("errors.errorType", laid_errors_errorType), ("unicode/utf8.first", laid_unicode_utf8_first)], narrowed := true }
def PlacementEpochsUptoSaid : Prop := placementEpochsUptoRow.holds Tryz.pinned (OpenSpec.upto placementEpochsSpec)

/-- 'gazettelaw18.PlacementBack', WHERE WHAT IT READS IS OF BULK AT MOST 1048576: true; the input reads as it did. -/
def placementBackUptoRow : OpenClaim := { program := "ytffkiommagljeaagreatdoor", sum := "8711a1bbf9a7c751662fa1e2971071b173faaa51e3be968072871fe944d85c5d", func := "gazette/gazettelaw18.PlacementBack", spec := "placementBack", inPlace := ["internal/bytealg.IndexByteString", "internal/bytealg.IndexString", "slices.overlaps[gazette/api.Producer]", "internal/reflectlite.ValueOf", "(internal/reflectlite.Value).Type", "(internal/reflectlite.Value).IsNil", "internal/reflectlite.TypeOf", "(internal/reflectlite.Value).Elem", "(internal/reflectlite.Value).Set", "slices.overlaps[gazette/api.Topic]", "slices.overlaps[gazette/api.Shard]"], unfollowed := true, recurses := true, named := ["unicode/utf8.first", "unicode/utf8.acceptRanges", "errors.errorType", "internal/bytealg.MaxLen"], apart := false, laid := [("unicode/utf8.acceptRanges", laid_unicode_utf8_acceptRanges), ("errors.errorType", laid_errors_errorType), ("unicode/utf8.first", laid_unicode_utf8_first)], narrowed := true }
def PlacementBackUptoSaid : Prop := placementBackUptoRow.holds Tryz.pinned (OpenSpec.upto placementBackSpec)

/-- 'gazettelaw18.PlacementBytes', WHERE WHAT IT READS IS OF BULK AT MOST 1048576: true; the input reads as it did. -/
def placementBytesUptoRow : OpenClaim := { program := "ytffkiommagljeaagreatdoor", sum := "8711a1bbf9a7c751662fa1e2971071b173faaa51e3be968072871fe944d85c5d", func := "gazette/gazettelaw18.PlacementBytes", spec := "placementBytes", inPlace := ["internal/bytealg.IndexByteString", "internal/bytealg.IndexString", "slices.overlaps[gazette/api.Producer]", "internal/reflectlite.ValueOf", "(internal/reflectlite.Value).Type", "(internal/reflectlite.Value).IsNil", "internal/reflectlite.TypeOf", "(internal/reflectlite.Value).Elem", "(internal/reflectlite.Value).Set", "slices.overlaps[gazette/api.Topic]", "slices.overlaps[gazette/api.Shard]"], unfollowed := true, recurses := true, named := ["unicode/utf8.first", "unicode/utf8.acceptRanges", "errors.errorType", "internal/bytealg.MaxLen"], apart := false, laid := [("unicode/utf8.acceptRanges", laid_unicode_utf8_acceptRanges), ("errors.errorType", laid_errors_errorType), ("unicode/utf8.first", laid_unicode_utf8_first)], narrowed := true }
def PlacementBytesUptoSaid : Prop := placementBytesUptoRow.holds Tryz.pinned (OpenSpec.upto placementBytesSpec)

end Rows
end Go.Proofs.YtffkiommagljeaaGreatDoor
