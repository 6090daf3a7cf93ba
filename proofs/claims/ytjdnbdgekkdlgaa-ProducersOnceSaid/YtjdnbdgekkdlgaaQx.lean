/- PROVED: for any list of numbers, the law ProducersOnce answers true: each number is accepted at most once. -/
import Derived.Test.YtjdnbdgekkdlgaaQw
/-! Producers: the law ProducersOnce. -/
namespace Go.Proofs.Ytjdnbdgekkdlgaa
open Go.Ax Go.Shelf Go.RowKit Go.ChangeShapes Go.WideShapes Go.ChangeAt
set_option maxRecDepth 1000000
theorem oi_loop (s : Two2) (n : List Num) (k : Nat) (y : Num) (hk : k < n.length) (hy : n.getD k default = y) (hd : s.d.length ≤ 9223372036854775806) (j : Nat) : LoopOk Try.prog 3 12 (loopAt Try.prog 3 12) ⟨oiT s n k y j, oiM s y j, []⟩ (T.map (lout [4, 5, 6, 7, 8] (oiS s n k y)) (.ret ())) := by
  refine loop_vcH (o := fun _ => .ret ()) Try.mixed (fun _ => rfl) (fun j => (vcOi_eq s n k y j).mpr ?_) j
  unfold vcOi
  have hy' : n[k]?.getD default = y := by rw [← hy]; simp
  simp [hy']
  refine ⟨fun hj => ⟨hj, hk, ?_, ?_⟩, fun hj => by rw [List.take_of_length_le hj]; exact ⟨rfl, rfl, rfl, rfl⟩⟩
  · intro he
    refine ⟨fun ha => ⟨hk, hj, j + 1, by omega, ⟨?_, by rw [wrap_i64 (by omega) (by omega)]; omega⟩, ?_⟩, fun ha => ⟨hj, j + 1, by omega, ⟨?_, by rw [wrap_i64 (by omega) (by omega)]; omega⟩, ?_⟩⟩
    · rw [abv_step hj, ha]; simp [he]
    · rw [last_step hj, if_pos he]; exact ⟨rfl, rfl, rfl⟩
    · rw [abv_step hj, ha]; rfl
    · rw [last_step hj, if_pos he]; exact ⟨rfl, rfl, rfl⟩
  · intro he
    refine ⟨j + 1, by omega, ⟨?_, by rw [wrap_i64 (by omega) (by omega)]; omega⟩, ?_⟩
    · rw [abv_step hj]; simp [he]
    · rw [last_step hj, if_neg he]; exact ⟨rfl, rfl, rfl⟩
theorem oj_loop (s : Two2) (n : List Num) (k : Nat) (y : Num) (e : Int) (hk : k < n.length) (hy : n.getD k default = y) (hd : s.d.length ≤ 9223372036854775806) (j : Nat) : LoopOk Try.prog 3 12 (loopAt Try.prog 3 12) ⟨ojT s n k y e j, ojM s y j, []⟩ (T.map (lout [3, 4, 5, 6, 7] (ojS s n k y e)) (.ret ())) := by
  refine loop_vcH (o := fun _ => .ret ()) Try.mixed (fun _ => rfl) (fun j => (vcOj_eq s n k y e j).mpr ?_) j
  unfold vcOj
  have hy' : n[k]?.getD default = y := by rw [← hy]; simp
  simp [hy']
  refine ⟨fun hj => ⟨hj, hk, ?_, ?_⟩, fun hj => by rw [List.take_of_length_le hj]; exact ⟨rfl, rfl, rfl, rfl⟩⟩
  · intro he
    refine ⟨fun ha => ⟨hk, hj, j + 1, by omega, ⟨?_, by rw [wrap_i64 (by omega) (by omega)]; omega⟩, ?_⟩, fun ha => ⟨hj, j + 1, by omega, ⟨?_, by rw [wrap_i64 (by omega) (by omega)]; omega⟩, ?_⟩⟩
    · rw [abv_step hj, ha]; simp [he]
    · rw [last_step hj, if_pos he]; exact ⟨rfl, rfl, rfl⟩
    · rw [abv_step hj, ha]; rfl
    · rw [last_step hj, if_pos he]; exact ⟨rfl, rfl, rfl⟩
  · intro he
    refine ⟨j + 1, by omega, ⟨?_, by rw [wrap_i64 (by omega) (by omega)]; omega⟩, ?_⟩
    · rw [abv_step hj]; simp [he]
    · rw [last_step hj, if_neg he]; exact ⟨rfl, rfl, rfl⟩
theorem on_loop (n : List Num) (hn : n.length * 24 ≤ 140737488351232) (k : Nat) : LoopOk Try.prog 3 5 (loopAt Try.prog 3 5) ⟨onT n k, onM (onRun n k), []⟩ (T.map (lout [0, 1, 2, 3, 4, 5, 6, 7, 8, 9] onS) (.ret ())) := by
  refine loop_vcH (ht := fun k => onH (takeE (onRun n k).l (acX (n.getD k default)) == 0) (onRun n k) n k (n.getD k default)) (stT := onT n) (stM := fun k => onM (onRun n k)) (S := onS) (o := fun _ => .ret ()) (μ := fun k => n.length - k) Try.mixed (fun _ => rfl) (fun k => ?_) k
  cases hc : (takeE (onRun n k).l (acX (n.getD k default)) == 0)
  · refine (vcOn2_eq n k).mpr ?_
    unfold vcOn2
    have hc' : ¬ takeE (onRun n k).l (acX (n.getD k default)) = 0 := beq_eq_false_iff_ne.1 hc
    have hs := onOk n k
    have hl := on_len n k
    have ⟨g1, g2⟩ := on_not hs hc'
    have hj : k < n.length → ∃ j : Nat, j = k + 1 ∧ n.length - j < n.length - k ∧ IntKind.i64.wrap ((k : Int) + 1) = (j : Int) := fun hk => ⟨k + 1, rfl, by omega, by rw [wrap_i64 (by omega) (by omega)]; omega⟩
    have hr := on_no hc'
    simp
    intro hk
    obtain ⟨j, rfl, j1, j2⟩ := hj hk
    have hil := oj_loop (onRun n k) n k (n.getD k default) (takeE (onRun n k).l (acX (n.getD k default))) hk rfl (by omega) 0
    simp only [List.getD_eq_getElem?_getD] at hc' g1 g2 hil
    generalize hy : n[k]?.getD default = y at *
    have E : ∃ j, n.length - j < n.length - k ∧ ((onRun n k).l.length = (onRun n j).l.length ∧ (onRun n k).d.length = (onRun n j).d.length ∧ IntKind.i64.wrap ((k : Int) + 1) = (j : Int)) ∧ ((onRun n k).l.length = (onRun n j).l.length ∧ contLe (onRun n k).l.length 4 (cellsOf' encP (onRun n k).l) (cellsOf' encP (onRun n j).l)) ∧ (onRun n k).d.length = (onRun n j).d.length ∧ contLe (onRun n k).d.length 3 (cellsOf' encN (onRun n k).d) (cellsOf' encN (onRun n j).d) := by
      refine ⟨k + 1, j1, ⟨?_, ?_, j2⟩, ?_, ?_⟩
      · rw [hr]
      · rw [hr]
      · rw [hr]; exact ⟨rfl, contLe_refl _ _ _⟩
      · rw [hr]; exact ⟨rfl, contLe_refl _ _ _⟩
    refine ⟨hk, by omega, hk, ⟨by omega, hc'⟩, rfl, hil, fun _ => ⟨fun h1 => ⟨?_, fun _ => ⟨fun h2 => ?_, fun _ => E⟩⟩, fun h1 => ⟨fun h2 => ⟨hk, (g2 h2).1, fun _ => ⟨(g2 h2).2, fun _ => E⟩⟩, fun _ => E⟩⟩, hc'⟩
    · have : ¬ (onRun n k).l.length < 256 := fun h => g1 ⟨h1, h⟩
      omega
    · rw [h1] at h2; cases h2
  · refine (vcOn_eq n k).mpr ?_
    unfold vcOn
    have hc' : takeE (onRun n k).l (acX (n.getD k default)) = 0 := eq_of_beq hc
    have hs := onOk n k
    have hl := on_len n k
    have ⟨g1, g2, g3⟩ := on_taken hs hc'
    have hj : k < n.length → ∃ j : Nat, j = k + 1 ∧ n.length - j < n.length - k ∧ IntKind.i64.wrap ((k : Int) + 1) = (j : Int) := fun hk => ⟨k + 1, rfl, by omega, by rw [wrap_i64 (by omega) (by omega)]; omega⟩
    have hr := fun hk : k < n.length => on_ok hk hc'
    simp
    intro hk
    obtain ⟨j, rfl, j1, j2⟩ := hj hk
    have hr := hr hk
    have hil := oi_loop (onRun n k) n k (n.getD k default) hk rfl (by omega) 0
    simp only [List.getD_eq_getElem?_getD] at hc' g1 g2 g3 hil hr
    generalize hy : n[k]?.getD default = y at *
    have hp := ((table_iff _).1 g3).2.2
    refine ⟨hk, by omega, hk, ⟨by omega, hc'⟩, fun k _ j hj => tag_encP _ k j hj, ⟨rfl, contLe_refl _ _ _⟩, hil, g1, fun _ => ⟨g2, fun _ => ⟨by omega, g3, fun _ => ⟨hk, ⟨by omega, by omega⟩, k + 1, j1, ⟨?_, ?_, j2⟩, ?_, ?_⟩⟩⟩⟩
    · rw [hr]
    · rw [hr]; simp
    · rw [hr]; exact ⟨rfl, contLe_refl _ _ _⟩
    · rw [hr]
      refine ⟨by simp, ?_⟩
      exact app1_le rfl (fun j hj => by match j, hj with | 0, _ => simp [encN] | 1, _ => simp [encN] | 2, _ => simp [encN])
theorem once_c (n : List Num) (hn : n.length * 24 ≤ 140737488351232) : (boolR true).Sat (ACall' Try.prog 3 [encNs n] []) := by
  refine ctr_vc (ht := onfH n) Try.mixed rfl ?_
  rw [vcOnF_eq n]
  unfold vcOnF
  simp
  exact on_loop n hn 0
theorem once_lifted (os : Os) (started : os.Started) (K : Type) (enc : TypeId × Value → K) :
    ReturnsInHanded {} Try.checked os 3 .any (Rows.producersOnceSpec.pre6 enc Try.prog Try.f3 Rows.producersOnceRow.domain false) (Rows.producersOnceSpec.post enc Try.prog Try.f3 false true false false) := by
  refine returnsInHanded_of_change_sized (C := Try.checked) Try.own started (by kernel_rfl) Try.func3
    (ChangeSpec.witness6 (enc := enc) (C := Try.checked) false ⟨#[], #[.slice Option.none 0 0], []⟩ 8 (by kernel_rfl) (by kernel_rfl) (by kernel_rfl) (by kernel_rfl)) ?_
  intro W base args ds gs before hval0 hW hcnd hsz _
  have hps : Try.f3.params.toList = [22] := by kernel_rfl
  obtain ⟨p, q, hA, hV, hbef, hfz, hnd⟩ := id hW
  rw [hps] at hA hsz
  have ⟨hr, hwf⟩ := lift_all [.sl shN] (by kernel_rfl) hA
  obtain ⟨v, d, e1, rfl, hd⟩ := trodAll_one hA
  subst e1
  obtain ⟨_, _, e2, hw1, _⟩ := hwf
  obtain ⟨rfl, _⟩ := List.cons.inj e2
  have hwt := weights_cons (P := Try.prog) (t := 22) (d := d) (ds := gs) hsz
  have hl := weights_slice toN undNs hwt.1
  rw [bytesN] at hl
  have hp := relNs hw1 (sl_cells (w := W) undNs (hval0 0 _ _ (by kernel_rfl) rfl) hr.1)
  refine open_calls (call_of (once_c (listOf toN d) (by omega))) (t := 4) (ds := [d]) ⟨_, _, rfl, hp, rfl⟩ (by kernel_rfl) underBool rfl rfl Try.laidOut Try.mapsRowed Try.slicesOk (by rw [hps]; intro t ht; simp at ht; subst ht; exact of_decide_eq_true (by kernel_rfl)) hW
theorem once_said : Rows.ProducersOnceSaid :=
  OpenClaim.holds_of_wide 3 Try.f3 rfl rfl rfl rfl rfl rfl rfl ⟨rfl, rfl, rfl, rfl, rfl⟩ rfl rfl rfl rfl rfl (by kernel_rfl) Try.func3 (by kernel_rfl)
    (of_decide_eq_true (by kernel_rfl)) (by unfold Func.isWrapper; first | (rw [if_pos (by decide +kernel)]; kernel_rfl) | (rw [if_neg (by decide +kernel)]; exact ⟨rfl, rfl⟩))
    (fun os started H enc _ => once_lifted os started H enc)
end Go.Proofs.Ytjdnbdgekkdlgaa
#print axioms Go.Proofs.Ytjdnbdgekkdlgaa.once_said
