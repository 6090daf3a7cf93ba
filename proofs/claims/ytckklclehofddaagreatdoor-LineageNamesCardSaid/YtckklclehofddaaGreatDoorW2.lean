/- PROVED: the law LineageNames of package gazettelaw17 returns true; it has no argument and no condition. -/
import Derived.Test.YtckklclehofddaaGreatDoorRows
import Derived.Test.YtckklclehofddaaGreatDoorTie
import Derived.Test.YtckklclehofddaaGreatDoorCards
import Derived.OpenShut
import Derived.Lay
import Derived.Handed
import Derived.SevenTiedAt
import Derived.Test.YtckklclehofddaaGreatDoorE9
import Derived.Test.YtckklclehofddaaGreatDoorW1
set_option linter.unusedVariables false
set_option linter.unusedSimpArgs false
/-! Lineage: from the statement to LineageNames. -/
namespace Go.Proofs.YtckklclehofddaaGreatDoor
open Go.Ax Go.Shelf Go.RowKit Go.ChangeShapes Go.WideShapes Go.ChangeAt
set_option maxRecDepth 1000000
def laidL : List (String × DataW Unit) := Rows.lineageNamesRow.laid
noncomputable def layW (os : Os) : World := World.laidAll Tryz.prog os laidL
theorem lay_met (os : Os) (args : Array Value) : laidMetH Tryz.prog laidL ((layW os).forCall (fun _ _ => 0) ⟨#[], args, []⟩).memory := by
  have e : ∀ w, laidMetH Tryz.prog laidL w = laidMet Tryz.prog laidL w := fun w => by kernel_rfl
  rw [e]
  exact laidMet_laidAll args (by kernel_rfl) (by kernel_rfl)
theorem Tryz.own : ownKnob Tryz.prog.godebug = Option.none := by kernel_rfl
theorem names_lifted (os : Os) (started : os.Started) (K : Type) (enc : TypeId × Value → K) :
    ReturnsInHanded {} Tryz.checked os 3 .any (fun w args => (Rows.lineageNamesSpec.pre enc Tryz.prog Tryz.f3 [] false w args ∧ laidMetH Tryz.prog laidL w) ∧ sizedMet enc Tryz.prog Tryz.f3 (OpenSpec.ofChange Rows.lineageNamesSpec) false w args)
      (Rows.lineageNamesSpec.post enc Tryz.prog Tryz.f3 false true false false) := by
  refine returnsInHanded_of_change_and (C := Tryz.checked) (X := fun w _ => laidMetH Tryz.prog laidL w) (fun _ _ _ hh h => h.of_heap hh) Tryz.own started (by kernel_rfl) Tryz.func3
    (ChangeSpec.witness_at (enc := enc) (C := Tryz.checked) (os := os) (X := fun w _ => laidMetH Tryz.prog laidL w) false (layW os) #[] 8 rfl (by kernel_rfl) (by kernel_rfl) (by kernel_rfl) (by kernel_rfl) (by kernel_rfl) (lay_met os _)) ?_
  intro W base args ds gs before hval0 hW hcnd hsz _ _
  exact Go.Ax.closed_calls k82 (by kernel_rfl) (t := 4) (by kernel_rfl) (by kernel_rfl) rfl rfl hW
theorem names_holds : Rows.LineageNamesSaid :=
  OpenClaim.holds_of_wide 3 Tryz.f3 rfl rfl rfl rfl rfl rfl rfl ⟨rfl, rfl, rfl, rfl, rfl⟩ rfl rfl rfl rfl rfl (by kernel_rfl) Tryz.func3 (by kernel_rfl)
    (of_decide_eq_true (by kernel_rfl)) (by unfold Func.isWrapper; first | (rw [if_pos (by decide +kernel)]; kernel_rfl) | (rw [if_neg (by decide +kernel)]; exact ⟨rfl, rfl⟩))
    (fun os started H enc _ => names_lifted os started H enc)
theorem lineageNames_said : Rows.LineageNamesCardSaid :=
  Claim7.holds_tied_plain_at .later [] [.data, .pinned] true (true, "2178a0abd1c3215b494c4ba3807e31ca51ad02823946fccec094b9321f61a96a") true
    names_holds (fun _ h => by cases h) (by kernel_rfl) (fun _ h => by cases h) lineageNames_row_tie rfl ⟨rfl, rfl⟩ (by kernel_rfl) rfl
    (fun f fn hf hfn => by
      obtain rfl : f = 3 := Option.some.inj ((show Tryz.prog.funcNamed "gazette/gazettelaw17.LineageNames" = some 3 by kernel_rfl).symm.trans hf) |>.symm
      obtain rfl : fn = Tryz.f3 := (Option.some.inj (Tryz.func3.symm.trans hfn)).symm
      exact ⟨by kernel_rfl, fun j t ht => by
        rw [show Tryz.f3.params = #[] by kernel_rfl] at ht
        simp at ht⟩)
    (by kernel_rfl)
end Go.Proofs.YtckklclehofddaaGreatDoor
