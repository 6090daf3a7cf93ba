/-
  No cell of these rows narrows 'for every input' (looked for: loops, veiled, ifaces, maps, wideKeys, modest, calm, conditions, laid).
  DERIVED. THE GIVEN ROWS OF THIS SEAT. 6 by the template 'for every input the law returns true; each argument reads behind the call as it read before'; 0 by the template 'total and deterministic' (their statements: YtjdnbdgekkdlgaaTotals.lean).
  GIVEN WITH THE SEED: the statements are not yours to turn. If you find one false, say at which input.
  Laid BY PROGRAM, IN A SANDBOX (cutbox-rows.mjs): the forced cells as the released guide's own fill.sh prints them over the translation 65345c52478cb898… (all of the seat's roots in one cut). By AI agents, Wed Nov 11 2026. No macro, syntax, notation, axiom, sorry.
-/
import Derived.Test.YtjdnbdgekkdlgaaChecked
import GoSem.Claim
import GoSem.ClaimJoined
import GoSem.ClaimMapViews
import Derived.JoinedTies
import Derived.KernelRfl
namespace Go.Proofs.Ytjdnbdgekkdlgaa
/- THE CELL 'sum', in the pinned program and in every row, IS THE sha256 OF THE DUMP (.gsa) THAT YtjdnbdgekkdlgaaProg.lean LOADS. Nothing in Lean hashes anything: it is a label: what it is worth is what the hold of that sum in a sandbox is worth. -/
noncomputable def Try.pinned : Pinned := { name := "ytjdnbdgekkdlgaa", sum := "65345c52478cb898bb2a741ce694ffadefd6a2b505194667b58cb5f018b5a09e", checked := Try.checked }
namespace Rows
def none {H : Type} : Left H := { results := [], args := [] }

/-- 'gazettelaw15.ProducersOnce': WHATEVER THE INPUT: true; the input reads as it did. -/
def producersOnceSpec : ChangeSpec := { name := "producersOnce", fn := fun _ => fun
  | [d] => { results := [.lit (.bool true)], args := [d] }
  | _ => none }
def producersOnceRow : OpenClaim := { program := "ytjdnbdgekkdlgaa", sum := "65345c52478cb898bb2a741ce694ffadefd6a2b505194667b58cb5f018b5a09e", func := "gazette/gazettelaw15.ProducersOnce", spec := "producersOnce", inPlace := ["slices.overlaps[gazette/api.Producer]"], unfollowed := true, recurses := true, apart := false }
def ProducersOnceSaid : Prop := producersOnceRow.holds Try.pinned (OpenSpec.ofChange producersOnceSpec)

/-- ITS FALSE NEIGHBOUR: 'it returns false'. Refute it at one input. -/
def producersOnceWrong : ChangeSpec := { name := "producersOnce", fn := fun _ => fun
  | [d] => { results := [.lit (.bool false)], args := [d] }
  | _ => none }
def ProducersOnceWrongFalsely : Prop := producersOnceRow.holds Try.pinned (OpenSpec.ofChange producersOnceWrong)

/-- 'gazettelaw15.ProducersApart': WHATEVER THE INPUT: true; the input reads as it did. -/
def producersApartSpec : ChangeSpec := { name := "producersApart", fn := fun _ => fun
  | [d1, d2] => { results := [.lit (.bool true)], args := [d1, d2] }
  | _ => none }
def producersApartRow : OpenClaim := { program := "ytjdnbdgekkdlgaa", sum := "65345c52478cb898bb2a741ce694ffadefd6a2b505194667b58cb5f018b5a09e", func := "gazette/gazettelaw15.ProducersApart", spec := "producersApart", inPlace := ["slices.overlaps[gazette/api.Producer]"], unfollowed := true, recurses := true, apart := false }
def ProducersApartSaid : Prop := producersApartRow.holds Try.pinned (OpenSpec.ofChange producersApartSpec)

/-- ITS FALSE NEIGHBOUR: 'it returns false'. Refute it at one input. -/
def producersApartWrong : ChangeSpec := { name := "producersApart", fn := fun _ => fun
  | [d1, d2] => { results := [.lit (.bool false)], args := [d1, d2] }
  | _ => none }
def ProducersApartWrongFalsely : Prop := producersApartRow.holds Try.pinned (OpenSpec.ofChange producersApartWrong)

/-- 'gazettelaw15.ProducersTables': WHATEVER THE INPUT: true; the input reads as it did. -/
def producersTablesSpec : ChangeSpec := { name := "producersTables", fn := fun _ => fun
  | [d1, d2] => { results := [.lit (.bool true)], args := [d1, d2] }
  | _ => none }
def producersTablesRow : OpenClaim := { program := "ytjdnbdgekkdlgaa", sum := "65345c52478cb898bb2a741ce694ffadefd6a2b505194667b58cb5f018b5a09e", func := "gazette/gazettelaw15.ProducersTables", spec := "producersTables", inPlace := ["slices.overlaps[gazette/api.Producer]"], unfollowed := true, recurses := true, apart := false }
def ProducersTablesSaid : Prop := producersTablesRow.holds Try.pinned (OpenSpec.ofChange producersTablesSpec)

/-- ITS FALSE NEIGHBOUR: 'it returns false'. Refute it at one input. -/
def producersTablesWrong : ChangeSpec := { name := "producersTables", fn := fun _ => fun
  | [d1, d2] => { results := [.lit (.bool false)], args := [d1, d2] }
  | _ => none }
def ProducersTablesWrongFalsely : Prop := producersTablesRow.holds Try.pinned (OpenSpec.ofChange producersTablesWrong)

/-- 'gazettelaw15.ProducersMoves': WHATEVER THE INPUT: true; the input reads as it did. -/
def producersMovesSpec : ChangeSpec := { name := "producersMoves", fn := fun _ => fun
  | [d] => { results := [.lit (.bool true)], args := [d] }
  | _ => none }
def producersMovesRow : OpenClaim := { program := "ytjdnbdgekkdlgaa", sum := "65345c52478cb898bb2a741ce694ffadefd6a2b505194667b58cb5f018b5a09e", func := "gazette/gazettelaw15.ProducersMoves", spec := "producersMoves", inPlace := ["slices.overlaps[gazette/api.Producer]"], unfollowed := true, recurses := true, apart := false }
def ProducersMovesSaid : Prop := producersMovesRow.holds Try.pinned (OpenSpec.ofChange producersMovesSpec)

/-- ITS FALSE NEIGHBOUR: 'it returns false'. Refute it at one input. -/
def producersMovesWrong : ChangeSpec := { name := "producersMoves", fn := fun _ => fun
  | [d] => { results := [.lit (.bool false)], args := [d] }
  | _ => none }
def ProducersMovesWrongFalsely : Prop := producersMovesRow.holds Try.pinned (OpenSpec.ofChange producersMovesWrong)

/-- 'gazettelaw15.ProducersKept': WHATEVER THE INPUT: true; the input reads as it did. -/
def producersKeptSpec : ChangeSpec := { name := "producersKept", fn := fun _ => fun
  | [d1, d2] => { results := [.lit (.bool true)], args := [d1, d2] }
  | _ => none }
def producersKeptRow : OpenClaim := { program := "ytjdnbdgekkdlgaa", sum := "65345c52478cb898bb2a741ce694ffadefd6a2b505194667b58cb5f018b5a09e", func := "gazette/gazettelaw15.ProducersKept", spec := "producersKept", inPlace := ["slices.overlaps[gazette/api.Producer]"], unfollowed := true, recurses := true, apart := false }
def ProducersKeptSaid : Prop := producersKeptRow.holds Try.pinned (OpenSpec.ofChange producersKeptSpec)

/-- ITS FALSE NEIGHBOUR: 'it returns false'. Refute it at one input. -/
def producersKeptWrong : ChangeSpec := { name := "producersKept", fn := fun _ => fun
  | [d1, d2] => { results := [.lit (.bool false)], args := [d1, d2] }
  | _ => none }
def ProducersKeptWrongFalsely : Prop := producersKeptRow.holds Try.pinned (OpenSpec.ofChange producersKeptWrong)

/-- 'gazettelaw15.ProducersNames': WHATEVER THE INPUT: true; the input reads as it did. -/
def producersNamesSpec : ChangeSpec := { name := "producersNames", fn := fun _ => fun
  | [] => { results := [.lit (.bool true)], args := [] }
  | _ => none }
def producersNamesRow : OpenClaim := { program := "ytjdnbdgekkdlgaa", sum := "65345c52478cb898bb2a741ce694ffadefd6a2b505194667b58cb5f018b5a09e", func := "gazette/gazettelaw15.ProducersNames", spec := "producersNames", inPlace := ["slices.overlaps[gazette/api.Producer]"], unfollowed := true, recurses := true, apart := false }
def ProducersNamesSaid : Prop := producersNamesRow.holds Try.pinned (OpenSpec.ofChange producersNamesSpec)

/-- ITS FALSE NEIGHBOUR: 'it returns false'. Refute it at one input. -/
def producersNamesWrong : ChangeSpec := { name := "producersNames", fn := fun _ => fun
  | [] => { results := [.lit (.bool false)], args := [] }
  | _ => none }
def ProducersNamesWrongFalsely : Prop := producersNamesRow.holds Try.pinned (OpenSpec.ofChange producersNamesWrong)

/- THE SECOND FORM. 'bulk': how many values and letters a reading holds, each counted each time it is reached (what is shared counts as often as it is met; a slice's spare places count too). A statement '..UptoSaid' is the law's where the arguments, and the package variables that the reading takes, are together of bulk at most 1048576: NARROWER than '..Said'. Prove '..Said' where nothing that the law and all that it calls make is longer than what came in: it says more and counts as full. Else prove '..UptoSaid'. A law counts once. -/
mutual
def uptoBulk {H : Type} : DataW H → Nat
  | .lit (.string bytes) => bytes.length + 1
  | .lit _ => 1
  | .nil => 1
  | .ptr d => uptoBulk d + 1
  | .slice elems spare => uptoBulkAll elems + uptoBulkAll spare + 1
  | .agg parts => uptoBulkAll parts + 1
  | .iface _ d => uptoBulk d + 1
  | .map entries => uptoBulkEntries entries + 1
  | .held _ => 1
def uptoBulkAll {H : Type} : List (DataW H) → Nat
  | [] => 0
  | d :: r => uptoBulk d + uptoBulkAll r
def uptoBulkEntries {H : Type} : List (Lit × DataW H) → Nat
  | [] => 0
  | x :: r => uptoBulkEntry x + uptoBulkEntries r
def uptoBulkEntry {H : Type} : Lit × DataW H → Nat
  | (.string bytes, d) => bytes.length + uptoBulk d + 1
  | (_, d) => uptoBulk d + 1
 end
def uptoSmall : (H : Type) → List (DataW H) → Bool := fun _ ds => decide (uptoBulkAll ds ≤ 1048576)
def OpenSpec.upto (s : _root_.Go.ChangeSpec) : _root_.Go.OpenSpec := { _root_.Go.OpenSpec.ofChange s with cond := some uptoSmall }

/-- 'gazettelaw15.ProducersOnce', WHERE WHAT IT READS IS OF BULK AT MOST 1048576: true; the input reads as it did. -/
def producersOnceUptoRow : OpenClaim := { program := "ytjdnbdgekkdlgaa", sum := "65345c52478cb898bb2a741ce694ffadefd6a2b505194667b58cb5f018b5a09e", func := "gazette/gazettelaw15.ProducersOnce", spec := "producersOnce", inPlace := ["slices.overlaps[gazette/api.Producer]"], unfollowed := true, recurses := true, apart := false, narrowed := true }
def ProducersOnceUptoSaid : Prop := producersOnceUptoRow.holds Try.pinned (OpenSpec.upto producersOnceSpec)

/-- 'gazettelaw15.ProducersApart', WHERE WHAT IT READS IS OF BULK AT MOST 1048576: true; the input reads as it did. -/
def producersApartUptoRow : OpenClaim := { program := "ytjdnbdgekkdlgaa", sum := "65345c52478cb898bb2a741ce694ffadefd6a2b505194667b58cb5f018b5a09e", func := "gazette/gazettelaw15.ProducersApart", spec := "producersApart", inPlace := ["slices.overlaps[gazette/api.Producer]"], unfollowed := true, recurses := true, apart := false, narrowed := true }
def ProducersApartUptoSaid : Prop := producersApartUptoRow.holds Try.pinned (OpenSpec.upto producersApartSpec)

/-- 'gazettelaw15.ProducersTables', WHERE WHAT IT READS IS OF BULK AT MOST 1048576: true; the input reads as it did. -/
def producersTablesUptoRow : OpenClaim := { program := "ytjdnbdgekkdlgaa", sum := "65345c52478cb898bb2a741ce694ffadefd6a2b505194667b58cb5f018b5a09e", func := "gazette/gazettelaw15.ProducersTables", spec := "producersTables", inPlace := ["slices.overlaps[gazette/api.Producer]"], unfollowed := true, recurses := true, apart := false, narrowed := true }
def ProducersTablesUptoSaid : Prop := producersTablesUptoRow.holds Try.pinned (OpenSpec.upto producersTablesSpec)

/-- 'gazettelaw15.ProducersMoves', WHERE WHAT IT READS IS OF BULK AT MOST 1048576: true; the input reads as it did. -/
def producersMovesUptoRow : OpenClaim := { program := "ytjdnbdgekkdlgaa", sum := "65345c52478cb898bb2a741ce694ffadefd6a2b505194667b58cb5f018b5a09e", func := "gazette/gazettelaw15.ProducersMoves", spec := "producersMoves", inPlace := ["slices.overlaps[gazette/api.Producer]"], unfollowed := true, recurses := true, apart := false, narrowed := true }
def ProducersMovesUptoSaid : Prop := producersMovesUptoRow.holds Try.pinned (OpenSpec.upto producersMovesSpec)

/-- 'gazettelaw15.ProducersKept', WHERE WHAT IT READS IS OF BULK AT MOST 1048576: true; the input reads as it did. -/
def producersKeptUptoRow : OpenClaim := { program := "ytjdnbdgekkdlgaa", sum := "65345c52478cb898bb2a741ce694ffadefd6a2b505194667b58cb5f018b5a09e", func := "gazette/gazettelaw15.ProducersKept", spec := "producersKept", inPlace := ["slices.overlaps[gazette/api.Producer]"], unfollowed := true, recurses := true, apart := false, narrowed := true }
def ProducersKeptUptoSaid : Prop := producersKeptUptoRow.holds Try.pinned (OpenSpec.upto producersKeptSpec)

/-- 'gazettelaw15.ProducersNames', WHERE WHAT IT READS IS OF BULK AT MOST 1048576: true; the input reads as it did. -/
def producersNamesUptoRow : OpenClaim := { program := "ytjdnbdgekkdlgaa", sum := "65345c52478cb898bb2a741ce694ffadefd6a2b505194667b58cb5f018b5a09e", func := "gazette/gazettelaw15.ProducersNames", spec := "producersNames", inPlace := ["slices.overlaps[gazette/api.Producer]"], unfollowed := true, recurses := true, apart := false, narrowed := true }
def ProducersNamesUptoSaid : Prop := producersNamesUptoRow.holds Try.pinned (OpenSpec.upto producersNamesSpec)

end Rows
end Go.Proofs.Ytjdnbdgekkdlgaa
