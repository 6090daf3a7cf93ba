/-
  No cell of these rows narrows 'for every input' (looked for: loops, veiled, ifaces, maps, wideKeys, modest, calm, conditions, laid).
  DERIVED. THE GIVEN ROWS OF THIS SEAT. 4 by the template 'for every input the law returns true; each argument reads behind the call as it read before'; 0 by the template 'total and deterministic' (their statements: YtccfojpdkbaekaaTotals.lean).
  GIVEN WITH THE SEED: the statements are not yours to turn. If you find one false, say at which input.
  Laid BY PROGRAM, IN A SANDBOX (cutbox-rows.mjs): the forced cells as the released guide's own fill.sh prints them over the translation 29ffb877e266bac9… (all of the seat's roots in one cut). By AI agents, Wed Nov 11 2026. No macro, syntax, notation, axiom, sorry.
-/
import Derived.Test.YtccfojpdkbaekaaChecked
import GoSem.Claim
import GoSem.ClaimJoined
import GoSem.ClaimMapViews
import Derived.JoinedTies
import Derived.KernelRfl
namespace Go.Proofs.Ytccfojpdkbaekaa
/- THE CELL 'sum', in the pinned program and in every row, IS THE sha256 OF THE DUMP (.gsa) THAT YtccfojpdkbaekaaProg.lean LOADS. Nothing in Lean hashes anything: it is a label: what it is worth is what the hold of that sum in a sandbox is worth. -/
noncomputable def Try.pinned : Pinned := { name := "ytccfojpdkbaekaa", sum := "29ffb877e266bac9e10c0f337819c11ce3c20ddd13407ee197f8d2beac7e5193", checked := Try.checked }
namespace Rows
def none {H : Type} : Left H := { results := [], args := [] }

/-- 'gazettelaw05.WalindexOrder': WHATEVER THE INPUT: true; the input reads as it did. -/
def walindexOrderSpec : ChangeSpec := { name := "walindexOrder", fn := fun _ => fun
  | [d] => { results := [.lit (.bool true)], args := [d] }
  | _ => none }
def walindexOrderRow : OpenClaim := { program := "ytccfojpdkbaekaa", sum := "29ffb877e266bac9e10c0f337819c11ce3c20ddd13407ee197f8d2beac7e5193", func := "gazette/gazettelaw05.WalindexOrder", spec := "walindexOrder", inPlace := ["internal/reflectlite.TypeOf"], unfollowed := true, recurses := true, apart := false }
def WalindexOrderSaid : Prop := walindexOrderRow.holds Try.pinned (OpenSpec.ofChange walindexOrderSpec)

/-- ITS FALSE NEIGHBOUR: 'it returns false'. Refute it at one input. -/
def walindexOrderWrong : ChangeSpec := { name := "walindexOrder", fn := fun _ => fun
  | [d] => { results := [.lit (.bool false)], args := [d] }
  | _ => none }
def WalindexOrderWrongFalsely : Prop := walindexOrderRow.holds Try.pinned (OpenSpec.ofChange walindexOrderWrong)

/-- 'gazettelaw05.WalindexNames': WHATEVER THE INPUT: true; the input reads as it did. -/
def walindexNamesSpec : ChangeSpec := { name := "walindexNames", fn := fun _ => fun
  | [] => { results := [.lit (.bool true)], args := [] }
  | _ => none }
def walindexNamesRow : OpenClaim := { program := "ytccfojpdkbaekaa", sum := "29ffb877e266bac9e10c0f337819c11ce3c20ddd13407ee197f8d2beac7e5193", func := "gazette/gazettelaw05.WalindexNames", spec := "walindexNames", inPlace := ["internal/reflectlite.TypeOf"], unfollowed := true, recurses := true, apart := false }
def WalindexNamesSaid : Prop := walindexNamesRow.holds Try.pinned (OpenSpec.ofChange walindexNamesSpec)

/-- ITS FALSE NEIGHBOUR: 'it returns false'. Refute it at one input. -/
def walindexNamesWrong : ChangeSpec := { name := "walindexNames", fn := fun _ => fun
  | [] => { results := [.lit (.bool false)], args := [] }
  | _ => none }
def WalindexNamesWrongFalsely : Prop := walindexNamesRow.holds Try.pinned (OpenSpec.ofChange walindexNamesWrong)

/-- 'gazettelaw05.WalindexTakes': WHATEVER THE INPUT: true; the input reads as it did. -/
def walindexTakesSpec : ChangeSpec := { name := "walindexTakes", fn := fun _ => fun
  | [d1, d2, d3] => { results := [.lit (.bool true)], args := [d1, d2, d3] }
  | _ => none }
def walindexTakesRow : OpenClaim := { program := "ytccfojpdkbaekaa", sum := "29ffb877e266bac9e10c0f337819c11ce3c20ddd13407ee197f8d2beac7e5193", func := "gazette/gazettelaw05.WalindexTakes", spec := "walindexTakes", inPlace := ["internal/reflectlite.TypeOf"], unfollowed := true, recurses := true, apart := false }
def WalindexTakesSaid : Prop := walindexTakesRow.holds Try.pinned (OpenSpec.ofChange walindexTakesSpec)

/-- ITS FALSE NEIGHBOUR: 'it returns false'. Refute it at one input. -/
def walindexTakesWrong : ChangeSpec := { name := "walindexTakes", fn := fun _ => fun
  | [d1, d2, d3] => { results := [.lit (.bool false)], args := [d1, d2, d3] }
  | _ => none }
def WalindexTakesWrongFalsely : Prop := walindexTakesRow.holds Try.pinned (OpenSpec.ofChange walindexTakesWrong)

/-- 'gazettelaw05.WalindexCarries': WHATEVER THE INPUT: true; the input reads as it did. -/
def walindexCarriesSpec : ChangeSpec := { name := "walindexCarries", fn := fun _ => fun
  | [d1, d2, d3] => { results := [.lit (.bool true)], args := [d1, d2, d3] }
  | _ => none }
def walindexCarriesRow : OpenClaim := { program := "ytccfojpdkbaekaa", sum := "29ffb877e266bac9e10c0f337819c11ce3c20ddd13407ee197f8d2beac7e5193", func := "gazette/gazettelaw05.WalindexCarries", spec := "walindexCarries", inPlace := ["internal/reflectlite.TypeOf"], unfollowed := true, recurses := true, apart := false }
def WalindexCarriesSaid : Prop := walindexCarriesRow.holds Try.pinned (OpenSpec.ofChange walindexCarriesSpec)

/-- ITS FALSE NEIGHBOUR: 'it returns false'. Refute it at one input. -/
def walindexCarriesWrong : ChangeSpec := { name := "walindexCarries", fn := fun _ => fun
  | [d1, d2, d3] => { results := [.lit (.bool false)], args := [d1, d2, d3] }
  | _ => none }
def WalindexCarriesWrongFalsely : Prop := walindexCarriesRow.holds Try.pinned (OpenSpec.ofChange walindexCarriesWrong)

/- THE SECOND FORM. 'bulk': how many values and letters a reading holds, each counted each time it is reached (what is shared counts as often as it is met; a slice's spare places count too). A statement '..UptoSaid' is the law's where the arguments, and the package variables that the reading takes, are together of bulk at most 1048576: NARROWER than '..Said'. Prove '..Said' where nothing that the law and all that it calls make is longer than what came in: it says more and counts as full. Else prove '..UptoSaid'. A law counts once. -/
mutual
def uptoBulk {H : Type} : DataW H → Nat
  | .lit (.string bytes) => bytes.length + 1
  | .lit _ => 1
  | .nil => 1
  | .ptr d => uptoBulk d + 1
  | .slice elems spare => uptoBulkAll elems + uptoBulkAll spare + 1
  | .agg parts => uptoBulkAll parts + 1
  | .iface _ d => uptoBulk d + 1
  | .map entries => uptoBulkEntries entries + 1
  | .held _ => 1
def uptoBulkAll {H : Type} : List (DataW H) → Nat
  | [] => 0
  | d :: r => uptoBulk d + uptoBulkAll r
def uptoBulkEntries {H : Type} : List (Lit × DataW H) → Nat
  | [] => 0
  | x :: r => uptoBulkEntry x + uptoBulkEntries r
def uptoBulkEntry {H : Type} : Lit × DataW H → Nat
  | (.string bytes, d) => bytes.length + uptoBulk d + 1
  | (_, d) => uptoBulk d + 1
 end
def uptoSmall : (H : Type) → List (DataW H) → Bool := fun _ ds => decide (uptoBulkAll ds ≤ 1048576)
def OpenSpec.upto (s : _root_.Go.ChangeSpec) : _root_.Go.OpenSpec := { _root_.Go.OpenSpec.ofChange s with cond := some uptoSmall }

/-- 'gazettelaw05.WalindexOrder', WHERE WHAT IT READS IS OF BULK AT MOST 1048576: true; the input reads as it did. -/
def walindexOrderUptoRow : OpenClaim := { program := "ytccfojpdkbaekaa", sum := "29ffb877e266bac9e10c0f337819c11ce3c20ddd13407ee197f8d2beac7e5193", func := "gazette/gazettelaw05.WalindexOrder", spec := "walindexOrder", inPlace := ["internal/reflectlite.TypeOf"], unfollowed := true, recurses := true, apart := false, narrowed := true }
def WalindexOrderUptoSaid : Prop := walindexOrderUptoRow.holds Try.pinned (OpenSpec.upto walindexOrderSpec)

/-- 'gazettelaw05.WalindexNames', WHERE WHAT IT READS IS OF BULK AT MOST 1048576: true; the input reads as it did. -/
def walindexNamesUptoRow : OpenClaim := { program := "ytccfojpdkbaekaa", sum := "29ffb877e266bac9e10c0f337819c11ce3c20ddd13407ee197f8d2beac7e5193", func := "gazette/gazettelaw05.WalindexNames", spec := "walindexNames", inPlace := ["internal/reflectlite.TypeOf"], unfollowed := true, recurses := true, apart := false, narrowed := true }
def WalindexNamesUptoSaid : Prop := walindexNamesUptoRow.holds Try.pinned (OpenSpec.upto walindexNamesSpec)

/-- 'gazettelaw05.WalindexTakes', WHERE WHAT IT READS IS OF BULK AT MOST 1048576: true; the input reads as it did. -/
def walindexTakesUptoRow : OpenClaim := { program := "ytccfojpdkbaekaa", sum := "29ffb877e266bac9e10c0f337819c11ce3c20ddd13407ee197f8d2beac7e5193", func := "gazette/gazettelaw05.WalindexTakes", spec := "walindexTakes", inPlace := ["internal/reflectlite.TypeOf"], unfollowed := true, recurses := true, apart := false, narrowed := true }
def WalindexTakesUptoSaid : Prop := walindexTakesUptoRow.holds Try.pinned (OpenSpec.upto walindexTakesSpec)

/-- 'gazettelaw05.WalindexCarries', WHERE WHAT IT READS IS OF BULK AT MOST 1048576: true; the input reads as it did. -/
def walindexCarriesUptoRow : OpenClaim := { program := "ytccfojpdkbaekaa", sum := "29ffb877e266bac9e10c0f337819c11ce3c20ddd13407ee197f8d2beac7e5193", func := "gazette/gazettelaw05.WalindexCarries", spec := "walindexCarries", inPlace := ["internal/reflectlite.TypeOf"], unfollowed := true, recurses := true, apart := false, narrowed := true }
def WalindexCarriesUptoSaid : Prop := walindexCarriesUptoRow.holds Try.pinned (OpenSpec.upto walindexCarriesSpec)

end Rows
end Go.Proofs.Ytccfojpdkbaekaa
