/- PROVED: for any plan, anything seen and any other plan, the law PlansNamed answers true: what a plan asks for hangs on its kind, step, groups and nodes alone. -/
import Derived.Test.YtghhkabankbkoaaQq
import Derived.Test.YtghhkabankbkoaaQt
set_option linter.unusedVariables false
set_option linter.unusedSimpArgs false
/-! Plans: from the statement to PlansNamed. -/
namespace Go.Proofs.Ytghhkabankbkoaa
open Go.Ax Go.Shelf Go.RowKit Go.ChangeShapes Go.WideShapes Go.ChangeAt
set_option maxRecDepth 1000000
theorem named_lifted (os : Os) (started : os.Started) (K : Type) (enc : TypeId × Value → K) :
    ReturnsInHanded {} Try.checked os 7 .any (Rows.plansNamedSpec.pre6 enc Try.prog Try.f7 Rows.plansNamedRow.domain false) (Rows.plansNamedSpec.post enc Try.prog Try.f7 false true false false) := by
  refine returnsInHanded_of_change_sized (C := Try.checked) Try.own started (by kernel_rfl) Try.func7
    (ChangeSpec.witness6 (enc := enc) (C := Try.checked) false ⟨#[], #[.agg #[.int .u64 0, .int .i64 0, .string ⟨#[]⟩, .int .u64 0, .int .u64 0, .string ⟨#[]⟩, .slice Option.none 0 0, .slice Option.none 0 0, .int .i64 0, .int .i64 0, .int .i64 0], .agg #[.slice Option.none 0 0, .slice Option.none 0 0, .slice Option.none 0 0, .slice Option.none 0 0, .slice Option.none 0 0, .int .i64 0, .bool false], .agg #[.int .u64 0, .int .i64 0, .string ⟨#[]⟩, .int .u64 0, .int .u64 0, .string ⟨#[]⟩, .slice Option.none 0 0, .slice Option.none 0 0, .int .i64 0, .int .i64 0, .int .i64 0]], []⟩ 8 (by kernel_rfl) (by kernel_rfl) (by kernel_rfl) (by kernel_rfl)) ?_
  intro W base args ds gs before hval0 hW hcnd hsz _
  have hps : Try.f7.params.toList = [32, 38, 32] := by kernel_rfl
  obtain ⟨p, q, hA, hV, hbef, hfz, hnd⟩ := id hW
  rw [hps] at hA hsz
  have ⟨hr, hwf⟩ := lift_all [shPlan, shSeen, shPlan] (by kernel_rfl) hA
  obtain ⟨v, v2, v3, d, d2, d3, _, _, _, e1, rfl, _, hd, hd2, hd3⟩ := trodAll_three hA
  obtain ⟨_, _, e2, hw1, _, _, e3, hw2, _, _, e4, hw3, _⟩ := hwf
  obtain ⟨rfl, e5⟩ := List.cons.inj e2
  subst e5
  obtain ⟨rfl, e6⟩ := List.cons.inj e3
  subst e6
  obtain ⟨rfl, _⟩ := List.cons.inj e4
  subst e1
  have hwt := weights_cons (P := Try.prog) (t := 32) (d := d) (ds := d2 :: d3 :: gs) hsz
  have hwt2 := weights_cons (P := Try.prog) (t := 38) (d := d2) (ds := d3 :: gs) hwt.2
  have k1 := plan_sized hw1 hwt.1
  have k2 := seen_sized hw2 hwt2.1
  obtain ⟨fs, hf, _⟩ := undPl
  obtain ⟨fs2, hf2, _⟩ := undSe
  have r1 := relA hf (hval0 0 _ _ (by kernel_rfl) rfl) (relPlan hw1 hr.1)
  have r2 := relA hf2 (hval0 1 _ _ (by kernel_rfl) rfl) (relSeen hw2 hr.2.1)
  have r3 := relA hf (hval0 2 _ _ (by kernel_rfl) rfl) (relPlan hw3 hr.2.2.1)
  refine open_calls (call_of (named_c (toPlan d) (toPlan d3) (toSeen d2) k1.ok k2.ok k2.frozen k2.made k2.gone)) (t := 4) (ds := [d, d2, d3]) ⟨_, _, rfl, r1, _, _, rfl, r2, _, _, rfl, r3, rfl⟩ (by kernel_rfl) underBool rfl rfl Try.laidOut Try.mapsRowed Try.slicesOk (by rw [hps]; intro t ht; simp at ht; rcases ht with rfl | rfl | rfl <;> exact of_decide_eq_true (by kernel_rfl)) hW
theorem named_said : Rows.PlansNamedSaid :=
  OpenClaim.holds_of_wide 7 Try.f7 rfl rfl rfl rfl rfl rfl rfl ⟨rfl, rfl, rfl, rfl, rfl⟩ rfl rfl rfl rfl rfl (by kernel_rfl) Try.func7 (by kernel_rfl)
    (of_decide_eq_true (by kernel_rfl)) (by unfold Func.isWrapper; first | (rw [if_pos (by decide +kernel)]; kernel_rfl) | (rw [if_neg (by decide +kernel)]; exact ⟨rfl, rfl⟩))
    (fun os started H enc _ => named_lifted os started H enc)
end Go.Proofs.Ytghhkabankbkoaa
#print axioms Go.Proofs.Ytghhkabankbkoaa.named_said
