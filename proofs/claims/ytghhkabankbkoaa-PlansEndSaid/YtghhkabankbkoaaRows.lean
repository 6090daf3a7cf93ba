/-
  No cell of these rows narrows 'for every input' (looked for: loops, veiled, ifaces, maps, wideKeys, modest, calm, conditions, laid).
  DERIVED. THE GIVEN ROWS OF THIS SEAT. 5 by the template 'for every input the law returns true; each argument reads behind the call as it read before'; 0 by the template 'total and deterministic' (their statements: YtghhkabankbkoaaTotals.lean).
  GIVEN WITH THE SEED: the statements are not yours to turn. If you find one false, say at which input.
  Laid BY PROGRAM, IN A SANDBOX (cutbox-rows.mjs): the forced cells as the released guide's own fill.sh prints them over the translation 0b031f14abec852a… (all of the seat's roots in one cut). By AI agents, Wed Nov 11 2026. No macro, syntax, notation, axiom, sorry.
-/
import Derived.Test.YtghhkabankbkoaaChecked
import GoSem.Claim
import GoSem.ClaimJoined
import GoSem.ClaimMapViews
import Derived.JoinedTies
import Derived.KernelRfl
namespace Go.Proofs.Ytghhkabankbkoaa
/- THE CELL 'sum', in the pinned program and in every row, IS THE sha256 OF THE DUMP (.gsa) THAT YtghhkabankbkoaaProg.lean LOADS. Nothing in Lean hashes anything: it is a label: what it is worth is what the hold of that sum in a sandbox is worth. -/
noncomputable def Try.pinned : Pinned := { name := "ytghhkabankbkoaa", sum := "0b031f14abec852afd3129bbeddf2dc49bae614bddeda6cb3d1d133036aac7f1", checked := Try.checked }
namespace Rows
def none {H : Type} : Left H := { results := [], args := [] }

/-- 'gazettelaw19.PlansNames': WHATEVER THE INPUT: true; the input reads as it did. -/
def plansNamesSpec : ChangeSpec := { name := "plansNames", fn := fun _ => fun
  | [] => { results := [.lit (.bool true)], args := [] }
  | _ => none }
def plansNamesRow : OpenClaim := { program := "ytghhkabankbkoaa", sum := "0b031f14abec852afd3129bbeddf2dc49bae614bddeda6cb3d1d133036aac7f1", func := "gazette/gazettelaw19.PlansNames", spec := "plansNames", inPlace := ["slices.overlaps[gazette/api.Action]"], unfollowed := true, recurses := true, apart := false }
def PlansNamesSaid : Prop := plansNamesRow.holds Try.pinned (OpenSpec.ofChange plansNamesSpec)

/-- ITS FALSE NEIGHBOUR: 'it returns false'. Refute it at one input. -/
def plansNamesWrong : ChangeSpec := { name := "plansNames", fn := fun _ => fun
  | [] => { results := [.lit (.bool false)], args := [] }
  | _ => none }
def PlansNamesWrongFalsely : Prop := plansNamesRow.holds Try.pinned (OpenSpec.ofChange plansNamesWrong)

/-- 'gazettelaw19.PlansNext': WHATEVER THE INPUT: true; the input reads as it did. -/
def plansNextSpec : ChangeSpec := { name := "plansNext", fn := fun _ => fun
  | [d1, d2, d3] => { results := [.lit (.bool true)], args := [d1, d2, d3] }
  | _ => none }
def plansNextRow : OpenClaim := { program := "ytghhkabankbkoaa", sum := "0b031f14abec852afd3129bbeddf2dc49bae614bddeda6cb3d1d133036aac7f1", func := "gazette/gazettelaw19.PlansNext", spec := "plansNext", inPlace := ["slices.overlaps[gazette/api.Action]"], unfollowed := true, recurses := true, apart := false }
def PlansNextSaid : Prop := plansNextRow.holds Try.pinned (OpenSpec.ofChange plansNextSpec)

/-- ITS FALSE NEIGHBOUR: 'it returns false'. Refute it at one input. -/
def plansNextWrong : ChangeSpec := { name := "plansNext", fn := fun _ => fun
  | [d1, d2, d3] => { results := [.lit (.bool false)], args := [d1, d2, d3] }
  | _ => none }
def PlansNextWrongFalsely : Prop := plansNextRow.holds Try.pinned (OpenSpec.ofChange plansNextWrong)

/-- 'gazettelaw19.PlansEnd': WHATEVER THE INPUT: true; the input reads as it did. -/
def plansEndSpec : ChangeSpec := { name := "plansEnd", fn := fun _ => fun
  | [d1, d2] => { results := [.lit (.bool true)], args := [d1, d2] }
  | _ => none }
def plansEndRow : OpenClaim := { program := "ytghhkabankbkoaa", sum := "0b031f14abec852afd3129bbeddf2dc49bae614bddeda6cb3d1d133036aac7f1", func := "gazette/gazettelaw19.PlansEnd", spec := "plansEnd", inPlace := ["slices.overlaps[gazette/api.Action]"], unfollowed := true, recurses := true, apart := false }
def PlansEndSaid : Prop := plansEndRow.holds Try.pinned (OpenSpec.ofChange plansEndSpec)

/-- ITS FALSE NEIGHBOUR: 'it returns false'. Refute it at one input. -/
def plansEndWrong : ChangeSpec := { name := "plansEnd", fn := fun _ => fun
  | [d1, d2] => { results := [.lit (.bool false)], args := [d1, d2] }
  | _ => none }
def PlansEndWrongFalsely : Prop := plansEndRow.holds Try.pinned (OpenSpec.ofChange plansEndWrong)

/-- 'gazettelaw19.PlansMore': WHATEVER THE INPUT: true; the input reads as it did. -/
def plansMoreSpec : ChangeSpec := { name := "plansMore", fn := fun _ => fun
  | [d1, d2, d3] => { results := [.lit (.bool true)], args := [d1, d2, d3] }
  | _ => none }
def plansMoreRow : OpenClaim := { program := "ytghhkabankbkoaa", sum := "0b031f14abec852afd3129bbeddf2dc49bae614bddeda6cb3d1d133036aac7f1", func := "gazette/gazettelaw19.PlansMore", spec := "plansMore", inPlace := ["slices.overlaps[gazette/api.Action]"], unfollowed := true, recurses := true, apart := false }
def PlansMoreSaid : Prop := plansMoreRow.holds Try.pinned (OpenSpec.ofChange plansMoreSpec)

/-- ITS FALSE NEIGHBOUR: 'it returns false'. Refute it at one input. -/
def plansMoreWrong : ChangeSpec := { name := "plansMore", fn := fun _ => fun
  | [d1, d2, d3] => { results := [.lit (.bool false)], args := [d1, d2, d3] }
  | _ => none }
def PlansMoreWrongFalsely : Prop := plansMoreRow.holds Try.pinned (OpenSpec.ofChange plansMoreWrong)

/-- 'gazettelaw19.PlansNamed': WHATEVER THE INPUT: true; the input reads as it did. -/
def plansNamedSpec : ChangeSpec := { name := "plansNamed", fn := fun _ => fun
  | [d1, d2, d3] => { results := [.lit (.bool true)], args := [d1, d2, d3] }
  | _ => none }
def plansNamedRow : OpenClaim := { program := "ytghhkabankbkoaa", sum := "0b031f14abec852afd3129bbeddf2dc49bae614bddeda6cb3d1d133036aac7f1", func := "gazette/gazettelaw19.PlansNamed", spec := "plansNamed", inPlace := ["slices.overlaps[gazette/api.Action]"], unfollowed := true, recurses := true, apart := false }
def PlansNamedSaid : Prop := plansNamedRow.holds Try.pinned (OpenSpec.ofChange plansNamedSpec)

/-- ITS FALSE NEIGHBOUR: 'it returns false'. Refute it at one input. -/
def plansNamedWrong : ChangeSpec := { name := "plansNamed", fn := fun _ => fun
  | [d1, d2, d3] => { results := [.lit (.bool false)], args := [d1, d2, d3] }
  | _ => none }
def PlansNamedWrongFalsely : Prop := plansNamedRow.holds Try.pinned (OpenSpec.ofChange plansNamedWrong)

/- THE SECOND FORM. 'bulk': how many values and letters a reading holds, each counted each time it is reached (what is shared counts as often as it is met; a slice's spare places count too). A statement '..UptoSaid' is the law's where the arguments, and the package variables that the reading takes, are together of bulk at most 1048576: NARROWER than '..Said'. Prove '..Said' where nothing that the law and all that it calls make is longer than what came in: it says more and counts as full. Else prove '..UptoSaid'. A law counts once. -/
mutual
def uptoBulk {H : Type} : DataW H → Nat
  | .lit (.string bytes) => bytes.length + 1
  | .lit _ => 1
  | .nil => 1
  | .ptr d => uptoBulk d + 1
  | .slice elems spare => uptoBulkAll elems + uptoBulkAll spare + 1
  | .agg parts => uptoBulkAll parts + 1
  | .iface _ d => uptoBulk d + 1
  | .map entries => uptoBulkEntries entries + 1
  | .held _ => 1
def uptoBulkAll {H : Type} : List (DataW H) → Nat
  | [] => 0
  | d :: r => uptoBulk d + uptoBulkAll r
def uptoBulkEntries {H : Type} : List (Lit × DataW H) → Nat
  | [] => 0
  | x :: r => uptoBulkEntry x + uptoBulkEntries r
def uptoBulkEntry {H : Type} : Lit × DataW H → Nat
  | (.string bytes, d) => bytes.length + uptoBulk d + 1
  | (_, d) => uptoBulk d + 1
 end
def uptoSmall : (H : Type) → List (DataW H) → Bool := fun _ ds => decide (uptoBulkAll ds ≤ 1048576)
def OpenSpec.upto (s : _root_.Go.ChangeSpec) : _root_.Go.OpenSpec := { _root_.Go.OpenSpec.ofChange s with cond := some uptoSmall }

/-- 'gazettelaw19.PlansNames', WHERE WHAT IT READS IS OF BULK AT MOST 1048576: true; the input reads as it did. -/
def plansNamesUptoRow : OpenClaim := { program := "ytghhkabankbkoaa", sum := "0b031f14abec852afd3129bbeddf2dc49bae614bddeda6cb3d1d133036aac7f1", func := "gazette/gazettelaw19.PlansNames", spec := "plansNames", inPlace := ["slices.overlaps[gazette/api.Action]"], unfollowed := true, recurses := true, apart := false, narrowed := true }
def PlansNamesUptoSaid : Prop := plansNamesUptoRow.holds Try.pinned (OpenSpec.upto plansNamesSpec)

/-- 'gazettelaw19.PlansNext', WHERE WHAT IT READS IS OF BULK AT MOST 1048576: true; the input reads as it did. -/
def plansNextUptoRow : OpenClaim := { program := "ytghhkabankbkoaa", sum := "0b031f14abec852afd3129bbeddf2dc49bae614bddeda6cb3d1d133036aac7f1", func := "gazette/gazettelaw19.PlansNext", spec := "plansNext", inPlace := ["slices.overlaps[gazette/api.Action]"], unfollowed := true, recurses := true, apart := false, narrowed := true }
def PlansNextUptoSaid : Prop := plansNextUptoRow.holds Try.pinned (OpenSpec.upto plansNextSpec)

/-- 'gazettelaw19.PlansEnd', WHERE WHAT IT READS IS OF BULK AT MOST 1048576: true; the input reads as it did. -/
def plansEndUptoRow : OpenClaim := { program := "ytghhkabankbkoaa", sum := "0b031f14abec852afd3129bbeddf2dc49bae614bddeda6cb3d1d133036aac7f1", func := "gazette/gazettelaw19.PlansEnd", spec := "plansEnd", inPlace := ["slices.overlaps[gazette/api.Action]"], unfollowed := true, recurses := true, apart := false, narrowed := true }
def PlansEndUptoSaid : Prop := plansEndUptoRow.holds Try.pinned (OpenSpec.upto plansEndSpec)

/-- 'gazettelaw19.PlansMore', WHERE WHAT IT READS IS OF BULK AT MOST 1048576: true; the input reads as it did. -/
def plansMoreUptoRow : OpenClaim := { program := "ytghhkabankbkoaa", sum := "0b031f14abec852afd3129bbeddf2dc49bae614bddeda6cb3d1d133036aac7f1", func := "gazette/gazettelaw19.PlansMore", spec := "plansMore", inPlace := ["slices.overlaps[gazette/api.Action]"], unfollowed := true, recurses := true, apart := false, narrowed := true }
def PlansMoreUptoSaid : Prop := plansMoreUptoRow.holds Try.pinned (OpenSpec.upto plansMoreSpec)

/-- 'gazettelaw19.PlansNamed', WHERE WHAT IT READS IS OF BULK AT MOST 1048576: true; the input reads as it did. -/
def plansNamedUptoRow : OpenClaim := { program := "ytghhkabankbkoaa", sum := "0b031f14abec852afd3129bbeddf2dc49bae614bddeda6cb3d1d133036aac7f1", func := "gazette/gazettelaw19.PlansNamed", spec := "plansNamed", inPlace := ["slices.overlaps[gazette/api.Action]"], unfollowed := true, recurses := true, apart := false, narrowed := true }
def PlansNamedUptoSaid : Prop := plansNamedUptoRow.holds Try.pinned (OpenSpec.upto plansNamedSpec)

end Rows
end Go.Proofs.Ytghhkabankbkoaa
