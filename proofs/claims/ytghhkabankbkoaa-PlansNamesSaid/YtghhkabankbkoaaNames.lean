import Derived.Test.YtghhkabankbkoaaRows
import Derived.Test.YtghhkabankbkoaaAxV
import Derived.Test.YtghhkabankbkoaaAxZ
import Derived.KernelRfl
import Derived.ProofKit
namespace Go.Proofs.Ytghhkabankbkoaa
open Go.Ax Go.Shelf Go.RowKit Go.ChangeShapes Go.WideShapes Go.ChangeAt
def rho : Ren := ⟨fun f => match f with | 22 => 45 | 29 => 49 | 30 => 50 | x => x, fun t => match t with | 24 => 23 | 9 => 47 | x => x, fun x => x⟩
set_option maxRecDepth 100000 in
theorem lay : InsLay Try.prog rho 6 48 ((Try.prog.info? 47).bind (·.zero) |>.getD undef) "slices.Insert[[]gazette/api.Action,gazette/api.Action]" where
  mixed := by kernel_rfl
  f22 := by kernel_rfl
  ov := fun w args => by
    rw [show rho.f 29 = 49 from rfl, run_callFunc_extern (P := Try.prog) (f := 49) (fn := Try.f49) Try.func49 (by kernel_rfl) (by kernel_rfl) (by kernel_rfl) (e := Extern.SlicesOverlaps.overlaps #[23, 23] #[4]) (by kernel_rfl)]
    rfl
  t0 := by kernel_rfl
  a0 := fun w => by kernel_rfl
  z0 := fun w => by kernel_rfl
  v0 := fun w => by kernel_rfl
  t3 := by kernel_rfl
  a3 := fun w => by kernel_rfl
  z3 := fun w => by kernel_rfl
  v3 := fun w => by kernel_rfl
  t4 := by kernel_rfl
  a4 := fun w => by kernel_rfl
  z4 := fun w => by kernel_rfl
  v4 := fun w => by kernel_rfl
  t24 := by kernel_rfl
  a24 := fun w => by kernel_rfl
  z24 := fun w => by kernel_rfl
  v24 := fun w => by kernel_rfl
  z9 := fun w => by kernel_rfl
  i9s := by kernel_rfl
  i9 := by kernel_rfl
  pos := by decide
  zc := by kernel_rfl

def hts : Hints := ⟨fun _ _ _ => Option.none, fun _ _ => Option.none, fun g => Nat.beq g 45, fun g args M => match Nat.beq g 45 with | true => insCt 47 6 48 args M | false => Option.none⟩
theorem hts_ok : hts.Ok Try.prog := by
  intro g args M r M' mv ob h _
  simp only [hts] at h
  split at h
  · rename_i hg
    have hg := Nat.eq_of_beq_eq_true hg
    subst hg
    exact insCt_ok lay h
  · cases h
set_option maxRecDepth 1000000 in
theorem names_call : ∃ M mv, ACall Try.prog 3 [] [] (.s (.bool true)) M mv := closed_of (by kernel_rfl) hts_ok 300 (by kernel_rfl)
theorem Try.own : ownKnob Try.prog.godebug = Option.none := by kernel_rfl
theorem Try.laidOut : laidOutB Try.prog = true := by kernel_rfl
set_option maxRecDepth 100000 in
theorem names_lifted {M : List Go.Ax.Blk} {mv : List Nat} (h : Go.Ax.ACall Try.prog 3 [] [] (.s (.bool true)) M mv) (os : Os) (started : os.Started) (H : Type) (enc : TypeId × Value → H) :
    ReturnsInHanded {} Try.checked os 3 .any (Rows.plansNamesSpec.pre6 enc Try.prog Try.f3 Rows.plansNamesRow.domain false) (Rows.plansNamesSpec.post enc Try.prog Try.f3 false true false false) := by
  refine returnsInHanded_of_change (C := Try.checked) Try.own started (by kernel_rfl) Try.func3
    (ChangeSpec.witness6 (enc := enc) (C := Try.checked) false ⟨#[], #[], []⟩ 8 (by kernel_rfl) (by kernel_rfl) (by kernel_rfl) (by kernel_rfl)) ?_
  intro W base args ds gs before hval0 hW hcnd _
  exact Go.Ax.closed_calls h (by kernel_rfl) (t := 4) (by kernel_rfl) (by kernel_rfl) rfl rfl hW
theorem names_holds {M : List Go.Ax.Blk} {mv : List Nat} (h : Go.Ax.ACall Try.prog 3 [] [] (.s (.bool true)) M mv) : Rows.PlansNamesSaid :=
  OpenClaim.holds_of_wide 3 Try.f3 rfl rfl rfl rfl rfl rfl rfl ⟨rfl, rfl, rfl, rfl, rfl⟩ rfl rfl rfl rfl rfl (by kernel_rfl) Try.func3 (by kernel_rfl)
    (of_decide_eq_true (by kernel_rfl)) (by unfold Func.isWrapper; first | (rw [if_pos (by decide +kernel)]; kernel_rfl) | (rw [if_neg (by decide +kernel)]; exact ⟨rfl, rfl⟩))
    (fun os started H enc _ => names_lifted h os started H enc)


theorem plansNames_said : Rows.PlansNamesSaid := by
  obtain ⟨M, mv, h⟩ := names_call
  exact names_holds h
end Go.Proofs.Ytghhkabankbkoaa
