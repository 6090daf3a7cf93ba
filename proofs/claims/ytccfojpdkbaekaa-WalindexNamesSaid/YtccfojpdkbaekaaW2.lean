/- PROVED: the law WalindexNames of package gazettelaw05 returns true; it has no argument and no condition. -/
import Derived.Test.YtccfojpdkbaekaaRows
import Derived.Test.YtccfojpdkbaekaaChecked
import Derived.ProofKit
import Derived.Test.YtccfojpdkbaekaaE9
import Derived.Test.YtccfojpdkbaekaaW1
set_option linter.unusedVariables false
set_option linter.unusedSimpArgs false
/-! Walindex: from the statement to WalindexNames. -/
namespace Go.Proofs.Ytccfojpdkbaekaa
open Go.Ax Go.Shelf Go.RowKit Go.ChangeShapes Go.WideShapes Go.ChangeAt
set_option maxRecDepth 1000000
theorem Try.own : ownKnob Try.prog.godebug = Option.none := by kernel_rfl
theorem names_lifted (os : Os) (started : os.Started) (H : Type) (enc : TypeId × Value → H) :
    ReturnsInHanded {} Try.checked os 4 .any (Rows.walindexNamesSpec.pre6 enc Try.prog Try.f4 Rows.walindexNamesRow.domain false) (Rows.walindexNamesSpec.post enc Try.prog Try.f4 false true false false) := by
  refine returnsInHanded_of_change (C := Try.checked) Try.own started (by kernel_rfl) Try.func4
    (ChangeSpec.witness6 (enc := enc) (C := Try.checked) false ⟨#[], #[], []⟩ 8 (by kernel_rfl) (by kernel_rfl) (by kernel_rfl) (by kernel_rfl)) ?_
  intro W base args ds gs before hval0 hW hcnd _
  exact Go.Ax.closed_calls k83 (by kernel_rfl) (t := 4) (by kernel_rfl) (by kernel_rfl) rfl rfl hW
theorem walindexNames_said : Rows.WalindexNamesSaid :=
  OpenClaim.holds_of_wide 4 Try.f4 rfl rfl rfl rfl rfl rfl rfl ⟨rfl, rfl, rfl, rfl, rfl⟩ rfl rfl rfl rfl rfl (by kernel_rfl) Try.func4 (by kernel_rfl)
    (of_decide_eq_true (by kernel_rfl)) (by unfold Func.isWrapper; first | (rw [if_pos (by decide +kernel)]; kernel_rfl) | (rw [if_neg (by decide +kernel)]; exact ⟨rfl, rfl⟩))
    (fun os started H enc _ => names_lifted os started H enc)
end Go.Proofs.Ytccfojpdkbaekaa
