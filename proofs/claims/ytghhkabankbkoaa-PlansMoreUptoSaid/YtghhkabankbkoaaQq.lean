import Derived.Test.YtghhkabankbkoaaQp
set_option linter.unusedVariables false
set_option linter.unusedSimpArgs false
/-! Plans: from the statement to PlansNext. -/
namespace Go.Proofs.Ytghhkabankbkoaa
open Go.Ax Go.Shelf Go.RowKit Go.ChangeShapes Go.WideShapes Go.ChangeAt
set_option maxRecDepth 1000000
theorem relA {P : Program} {W : World} {r : Reach} {base : Nat} {t : TypeId} {v : Value} {fs : Array Field} {l : List AV} {H : HH} {E : Env} (hu : P.underlying t = some (.struct fs)) (hv : Value.okWide P W r base t v) (h : RelL l H E v.cells.toList) : Rel (.agg l) H E v := by
  obtain ⟨cs, rfl, _⟩ := okWide_struct hu hv
  exact ⟨cs, rfl, h⟩
theorem next_lifted (os : Os) (started : os.Started) (K : Type) (enc : TypeId × Value → K) :
    ReturnsInHanded {} Try.checked os 4 .any (Rows.plansNextSpec.pre6 enc Try.prog Try.f4 Rows.plansNextRow.domain false) (Rows.plansNextSpec.post enc Try.prog Try.f4 false true false false) := by
  refine returnsInHanded_of_change_sized (C := Try.checked) Try.own started (by kernel_rfl) Try.func4
    (ChangeSpec.witness6 (enc := enc) (C := Try.checked) false ⟨#[], #[.agg #[.int .u64 0, .int .i64 0, .string ⟨#[]⟩, .int .u64 0, .int .u64 0, .string ⟨#[]⟩, .slice Option.none 0 0, .slice Option.none 0 0, .int .i64 0, .int .i64 0, .int .i64 0], .agg #[.slice Option.none 0 0, .slice Option.none 0 0, .slice Option.none 0 0, .slice Option.none 0 0, .slice Option.none 0 0, .int .i64 0, .bool false], .int .i64 0], []⟩ 8 (by kernel_rfl) (by kernel_rfl) (by kernel_rfl) (by kernel_rfl)) ?_
  intro W base args ds gs before hval0 hW hcnd hsz _
  have hps : Try.f4.params.toList = [32, 38, 28] := by kernel_rfl
  obtain ⟨p, q, hA, hV, hbef, hfz, hnd⟩ := id hW
  rw [hps] at hA hsz
  have ⟨hr, hwf⟩ := lift_all [shPlan, shSeen, .int .i64] (by kernel_rfl) hA
  obtain ⟨v, v2, v3, d, d2, d3, _, _, _, e1, rfl, _, hd, hd2, hd3⟩ := trodAll_three hA
  obtain ⟨_, _, e2, hw1, _, _, e3, hw2, _, _, e4, hw3, _⟩ := hwf
  obtain ⟨rfl, e5⟩ := List.cons.inj e2
  subst e5
  obtain ⟨rfl, e6⟩ := List.cons.inj e3
  subst e6
  obtain ⟨rfl, _⟩ := List.cons.inj e4
  subst e1
  have hwt := weights_cons (P := Try.prog) (t := 32) (d := d) (ds := d2 :: d3 :: gs) hsz
  have hwt2 := weights_cons (P := Try.prog) (t := 38) (d := d2) (ds := d3 :: gs) hwt.2
  have k1 := plan_sized hw1 hwt.1
  have k2 := seen_sized hw2 hwt2.1
  obtain ⟨fs, hf, _⟩ := undPl
  obtain ⟨fs2, hf2, _⟩ := undSe
  have r1 := relA hf (hval0 0 _ _ (by kernel_rfl) rfl) (relPlan hw1 hr.1)
  have r2 := relA hf2 (hval0 1 _ _ (by kernel_rfl) rfl) (relSeen hw2 hr.2.1)
  have r3 := hr.2.2.1
  rw [encI_ok hw3] at r3
  have u3 : Try.prog.underlying 28 = some (.int .i64) := by kernel_rfl
  obtain ⟨n3, rfl⟩ := okWide_int u3 (hval0 2 _ _ (by kernel_rfl) rfl)
  obtain ⟨_, _, er, r3, _⟩ := r3
  cases er
  refine open_calls (call_of (pnext_c (toPlan d) (toSeen d2) (toI d3) k1.ok k2.ok k1.into k1.nodes)) (t := 4) (ds := [d, d2, d3]) ⟨_, _, rfl, r1, _, _, rfl, r2, _, _, rfl, r3, rfl⟩ (by kernel_rfl) underBool rfl rfl Try.laidOut Try.mapsRowed Try.slicesOk (by rw [hps]; intro t ht; simp at ht; rcases ht with rfl | rfl | rfl <;> exact of_decide_eq_true (by kernel_rfl)) hW
theorem next_said : Rows.PlansNextSaid :=
  OpenClaim.holds_of_wide 4 Try.f4 rfl rfl rfl rfl rfl rfl rfl ⟨rfl, rfl, rfl, rfl, rfl⟩ rfl rfl rfl rfl rfl (by kernel_rfl) Try.func4 (by kernel_rfl)
    (of_decide_eq_true (by kernel_rfl)) (by unfold Func.isWrapper; first | (rw [if_pos (by decide +kernel)]; kernel_rfl) | (rw [if_neg (by decide +kernel)]; exact ⟨rfl, rfl⟩))
    (fun os started H enc _ => next_lifted os started H enc)
end Go.Proofs.Ytghhkabankbkoaa
#print axioms Go.Proofs.Ytghhkabankbkoaa.next_said
