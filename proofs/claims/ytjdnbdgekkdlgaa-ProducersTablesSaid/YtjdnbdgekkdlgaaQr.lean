/- PROVED: the law gazettelaw15.ProducersTables returns true for every input, and its arguments read as before. Conditions: none but those of the given statement. -/
import Derived.Test.YtjdnbdgekkdlgaaQp
import Derived.Test.YtjdnbdgekkdlgaaQq
/-! Producers: from the statement to ProducersTables. -/
namespace Go.Proofs.Ytjdnbdgekkdlgaa
open Go.Ax Go.Shelf Go.RowKit Go.ChangeShapes Go.WideShapes Go.ChangeAt
set_option maxRecDepth 1000000
theorem tables_lifted (os : Os) (started : os.Started) (K : Type) (enc : TypeId × Value → K) :
    ReturnsInHanded {} Try.checked os 5 .any (Rows.producersTablesSpec.pre6 enc Try.prog Try.f5 Rows.producersTablesRow.domain false) (Rows.producersTablesSpec.post enc Try.prog Try.f5 false true false false) := by
  refine returnsInHanded_of_change_sized (C := Try.checked) Try.own started (by kernel_rfl) Try.func5
    (ChangeSpec.witness6 (enc := enc) (C := Try.checked) false ⟨#[], #[.slice Option.none 0 0, .slice Option.none 0 0], []⟩ 8 (by kernel_rfl) (by kernel_rfl) (by kernel_rfl) (by kernel_rfl)) ?_
  intro W base args ds gs before hval0 hW hcnd hsz _
  have hps : Try.f5.params.toList = [24, 22] := by kernel_rfl
  obtain ⟨p, q, hA, hV, hbef, hfz, hnd⟩ := id hW
  rw [hps] at hA hsz
  have ⟨hr, hwf⟩ := lift_all [.sl shP, .sl shN] (by kernel_rfl) hA
  obtain ⟨v, v2, d, d2, _, _, e1, rfl, _, hd, hd2⟩ := trodAll_two hA
  obtain ⟨_, _, e2, hw1, _, _, e3, hw2, _⟩ := hwf
  obtain ⟨rfl, e4⟩ := List.cons.inj e2
  subst e4
  obtain ⟨rfl, _⟩ := List.cons.inj e3
  subst e1
  have hwt := weights_cons (P := Try.prog) (t := 24) (d := d) (ds := d2 :: gs) hsz
  have hwt2 := weights_cons (P := Try.prog) (t := 22) (d := d2) (ds := gs) hwt.2
  have hlen := len_ok hwt2.1
  have hl := weights_slice toP undPs hwt.1
  rw [bytesP] at hl
  have hp := relPs hw1 (sl_cells (w := W) undPs (hval0 0 _ _ (by kernel_rfl) rfl) hr.1)
  have hn := relNs hw2 (sl_cells (w := W) undNs (hval0 1 _ _ (by kernel_rfl) rfl) hr.2.1)
  refine open_calls (call_of (tables_c (listOf toP d) (listOf toN d2) (by omega) (by omega))) (t := 4) (ds := [d, d2]) ⟨_, _, rfl, hp, _, _, rfl, hn, rfl⟩ (by kernel_rfl) underBool rfl rfl Try.laidOut Try.mapsRowed Try.slicesOk (by rw [hps]; intro t ht; simp at ht; rcases ht with rfl | rfl <;> exact of_decide_eq_true (by kernel_rfl)) hW
theorem tables_said : Rows.ProducersTablesSaid :=
  OpenClaim.holds_of_wide 5 Try.f5 rfl rfl rfl rfl rfl rfl rfl ⟨rfl, rfl, rfl, rfl, rfl⟩ rfl rfl rfl rfl rfl (by kernel_rfl) Try.func5 (by kernel_rfl)
    (of_decide_eq_true (by kernel_rfl)) (by unfold Func.isWrapper; first | (rw [if_pos (by decide +kernel)]; kernel_rfl) | (rw [if_neg (by decide +kernel)]; exact ⟨rfl, rfl⟩))
    (fun os started H enc _ => tables_lifted os started H enc)
end Go.Proofs.Ytjdnbdgekkdlgaa
#print axioms Go.Proofs.Ytjdnbdgekkdlgaa.tables_said
