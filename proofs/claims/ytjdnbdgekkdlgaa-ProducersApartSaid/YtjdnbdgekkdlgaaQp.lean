import Derived.Test.YtjdnbdgekkdlgaaQm
import Derived.Test.YtjdnbdgekkdlgaaQo
/-! Producers: from the statement to ProducersKept. -/
namespace Go.Proofs.Ytjdnbdgekkdlgaa
open Go.Ax Go.Shelf Go.RowKit Go.ChangeShapes Go.WideShapes Go.ChangeAt
set_option maxRecDepth 1000000
def shN : Sh := .st [.int .u64, .int .u64, .int .u64]
def toN {K : Type} : DataW K → Num
  | .agg [.lit (.int _ a), .lit (.int _ b), .lit (.int _ c)] => ⟨a, b, c⟩
  | _ => default
theorem toN_ok {K : Type} {d : DataW K} (h : shN.wf d) : shN.enc d = encN (toN d) ∧ 0 ≤ (toN d).offset ∧ (toN d).offset < 18446744073709551616 := by
  obtain ⟨ds, rfl, d1, r1, rfl, ⟨k1, n1, rfl, w1⟩, d2, r2, rfl, ⟨k2, n2, rfl, w2⟩, d3, r3, rfl, ⟨k3, n3, rfl, w3⟩, rfl⟩ := h
  refine ⟨rfl, ?_⟩
  have := bounds_u64 w3
  show 0 ≤ n3 ∧ n3 < _
  omega
theorem relNs {K : Type} {d : DataW K} (hd : (Sh.sl shN).wf d) {H : HH} {E : Env} {v : Value} (h : Rel (slAV shN d) H E v) : Rel (encNs (listOf toN d)) H E v := conv_sl (fun x hx => (toN_ok hx).1) hd h
theorem undNs : Try.prog.underlying 22 = some (.slice 30) := by kernel_rfl
theorem bytesN : Try.prog.bytesOf 30 = 24 := by kernel_rfl
theorem len_ok {K : Type} {d : DataW K} (hw : (d.weights Try.prog 22).all (· ≤ reachBytes) = true) : (listOf toN d).length * 24 ≤ 140737488351232 := by
  have := weights_slice toN undNs hw
  rw [bytesN] at this
  exact this
theorem sl_cells {K : Type} {P : Program} {w W : World} {r : Reach} {base : Nat} {t u : TypeId} {v : Value} {e : Sh} {d : DataW K} {H : HH} {E : Env} (hu : P.underlying t = some (.slice u)) (hv : Value.okWide P W r base t v) (h : RelL ((Sh.sl e).enc d) H E v.cells.toList) : Rel (slAV e d) H E v := by
  obtain ⟨a, len, cap, rfl⟩ := okWide_slice hu hv
  rw [slAV_eq] at h
  obtain ⟨x, r, h1, h2, _⟩ := h
  cases h1
  exact h2
theorem kept_lifted (os : Os) (started : os.Started) (K : Type) (enc : TypeId × Value → K) :
    ReturnsInHanded {} Try.checked os 7 .any (Rows.producersKeptSpec.pre6 enc Try.prog Try.f7 Rows.producersKeptRow.domain false) (Rows.producersKeptSpec.post enc Try.prog Try.f7 false true false false) := by
  refine returnsInHanded_of_change_sized (C := Try.checked) Try.own started (by kernel_rfl) Try.func7
    (ChangeSpec.witness6 (enc := enc) (C := Try.checked) false ⟨#[], #[.agg #[.slice Option.none 0 0, .slice Option.none 0 0, .slice Option.none 0 0, .slice Option.none 0 0], .slice Option.none 0 0], []⟩ 8 (by kernel_rfl) (by kernel_rfl) (by kernel_rfl) (by kernel_rfl)) ?_
  intro W base args ds gs before hval0 hW hcnd hsz _
  have hps : Try.f7.params.toList = [44, 22] := by kernel_rfl
  obtain ⟨p, q, hA, hV, hbef, hfz, hnd⟩ := id hW
  rw [hps] at hA hsz
  have ⟨hr, hwf⟩ := lift_all [shTwo, .sl shN] (by kernel_rfl) hA
  obtain ⟨v, v2, d, d2, _, _, e1, rfl, _, hd, hd2⟩ := trodAll_two hA
  obtain ⟨_, _, e2, hw1, _, _, e3, hw2, _⟩ := hwf
  obtain ⟨rfl, e4⟩ := List.cons.inj e2
  subst e4
  obtain ⟨rfl, _⟩ := List.cons.inj e3
  subst e1
  obtain ⟨fs, hf, _⟩ := und44
  obtain ⟨cs, rfl, _⟩ := okWide_struct hf (hval0 0 _ _ (by kernel_rfl) rfl)
  have hwt := weights_cons (P := Try.prog) (t := 44) (d := d) (ds := d2 :: gs) hsz
  have hwt2 := weights_cons (P := Try.prog) (t := 22) (d := d2) (ds := gs) hwt.2
  have hlen := len_ok hwt2.1
  have hn := relNs hw2 (sl_cells (w := W) undNs (hval0 1 _ _ (by kernel_rfl) rfl) hr.2.1)
  refine open_calls (call_of (kept_c (toTwo d) (two_ok hw1 hwt.1) (listOf toN d2) (by omega))) (t := 4) (ds := [d, d2]) ⟨_, _, rfl, ⟨cs, rfl, relTwo hw1 hr.1⟩, _, _, rfl, hn, rfl⟩ (by kernel_rfl) underBool rfl rfl Try.laidOut Try.mapsRowed Try.slicesOk (by rw [hps]; intro t ht; simp at ht; rcases ht with rfl | rfl <;> exact of_decide_eq_true (by kernel_rfl)) hW
theorem kept_said : Rows.ProducersKeptSaid :=
  OpenClaim.holds_of_wide 7 Try.f7 rfl rfl rfl rfl rfl rfl rfl ⟨rfl, rfl, rfl, rfl, rfl⟩ rfl rfl rfl rfl rfl (by kernel_rfl) Try.func7 (by kernel_rfl)
    (of_decide_eq_true (by kernel_rfl)) (by unfold Func.isWrapper; first | (rw [if_pos (by decide +kernel)]; kernel_rfl) | (rw [if_neg (by decide +kernel)]; exact ⟨rfl, rfl⟩))
    (fun os started H enc _ => kept_lifted os started H enc)
end Go.Proofs.Ytjdnbdgekkdlgaa
#print axioms Go.Proofs.Ytjdnbdgekkdlgaa.kept_said
