/- PROVED: for any two lists of numbers, the law ProducersApart answers true: the numbers of two producers do not see each other. -/
import Derived.Test.YtjdnbdgekkdlgaaQp
import Derived.Test.YtjdnbdgekkdlgaaQt
/-! Producers: the law ProducersApart. -/
namespace Go.Proofs.Ytjdnbdgekkdlgaa
open Go.Ax Go.Shelf Go.RowKit Go.ChangeShapes Go.WideShapes Go.ChangeAt
set_option maxRecDepth 1000000
theorem runA_ok {a b : List Num} {k : Nat} (h : k < a.length + b.length) (e : takeE (runA a b k) (acX (nthA a b k)) = 0) : runA a b (k + 1) = putL (runA a b k) (acX (nthA a b k)) := by
  rw [runA, if_pos h, takeS, if_pos e]
theorem runA_no {a b : List Num} {k : Nat} (e : ¬ takeE (runA a b k) (acX (nthA a b k)) = 0) : runA a b (k + 1) = runA a b k := by
  rw [runA]; split
  · rw [takeS, if_neg e]
  · rfl
theorem runB_ok {a b : List Num} {k : Nat} (h : k < a.length + b.length) (e : takeE (runB a b k) (acX (nthB a b k)) = 0) : runB a b (k + 1) = putL (runB a b k) (acX (nthB a b k)) := by
  rw [runB, if_pos h, takeS, if_pos e]
theorem runB_no {a b : List Num} {k : Nat} (e : ¬ takeE (runB a b k) (acX (nthB a b k)) = 0) : runB a b (k + 1) = runB a b k := by
  rw [runB]; split
  · rw [takeS, if_neg e]
  · rfl
theorem nthA_lt {a b : List Num} {k : Nat} (h : k < a.length) : nthA a b k = named 5 (a[k]?.getD default) := by simp [nthA, h]
theorem nthA_ge {a b : List Num} {k : Nat} (h : ¬ k < a.length) : nthA a b k = named 9 (b[k - a.length]?.getD default) := by simp [nthA, h]
theorem nthB_lt {a b : List Num} {k : Nat} (h : k < b.length) : nthB a b k = named 9 (b[k]?.getD default) := by simp [nthB, h]
theorem nthB_ge {a b : List Num} {k : Nat} (h : ¬ k < b.length) : nthB a b k = named 5 (a[k - b.length]?.getD default) := by simp [nthB, h]
theorem sub_w {k n : Nat} (h : ¬ k < n) (h2 : k ≤ 9223372036854775806) : IntKind.i64.wrap ((k : Int) - (n : Int)) = ((k - n : Nat) : Int) := by rw [wrap_i64 (by omega) (by omega)]; omega
theorem ap_w (a b : List Num) (k : Nat) (hw : IntKind.i64.wrap ((a.length : Int) + (b.length : Int)) = ((a.length + b.length : Nat) : Int)) (hl : a.length + b.length ≤ 9223372036854775806) (lA : (runA a b k).length ≤ 9223372036854775806) (lB : (runB a b k).length ≤ 9223372036854775806) (h1 : takeE (runA a b k) (acX (nthA a b k)) = 0) (h2 : takeE (runB a b k) (acX (nthB a b k)) = 0) : vcAp a b k := by
  have tg : ∀ l : List Producer, ∀ k_1, k_1 < l.length → ∀ j, j < 4 → tagT (cellsOf' encP l k_1 j) = true := fun l k _ j hj => tag_encP _ k j hj
  have hcl : ∀ l : List Producer, contLe l.length 4 (cellsOf' encP l) (cellsOf' encP l) := fun l => contLe_refl _ _ _
  have gA : (hk : k < a.length + b.length) → runA a b (k + 1) = putL (runA a b k) (mkP (nthA a b k).id (nthA a b k).seq true (nthA a b k).offset) := fun hk => runA_ok hk h1
  have gB : (hk : k < a.length + b.length) → runB a b (k + 1) = putL (runB a b k) (mkP (nthB a b k).id (nthB a b k).seq true (nthB a b k).offset) := fun hk => runB_ok hk h2
  unfold vcAp
  simp [hw]
  refine ⟨?_, fun hk => ?_⟩
  · intro hk
    have hk' : k < a.length + b.length := by omega
    have gA := gA hk'
    have gB := gB hk'
    repeat' first
      | exact tg _
      | (with_reducible intro _)
      | (refine Exists.intro (k + 1) ?_)
      | (with_reducible apply And.intro)
    all_goals first
      | with_reducible assumption
      | exact h1
      | exact h2
      | omega
      | (rw [wrap_i64 (by omega) (by omega)]; omega)
      | (rw [gA]; done)
      | (rw [gA]; exact hcl _)
      | (rw [gB]; done)
      | (rw [gB]; exact hcl _)
      | (rw [nthA_lt (by assumption)]; rfl)
      | (rw [nthB_lt (by assumption)]; rfl)
      | (rw [nthA_ge (by omega)]; rfl)
      | (rw [nthB_ge (by omega)]; rfl)
      | (rw [nthA_ge (by omega), sub_w (by omega) (by omega)]; rfl)
      | (rw [nthB_ge (by omega), sub_w (by omega) (by omega)]; rfl)
      | trace_state
  · have h3 := runA_stop a b k (by omega)
    have h4 := runB_stop a b k (by omega)
    rw [h3, h4]
    exact ⟨⟨rfl, rfl⟩, ⟨rfl, hcl _⟩, rfl, hcl _⟩
theorem ap_w2 (a b : List Num) (k : Nat) (hw : IntKind.i64.wrap ((a.length : Int) + (b.length : Int)) = ((a.length + b.length : Nat) : Int)) (hl : a.length + b.length ≤ 9223372036854775806) (lA : (runA a b k).length ≤ 9223372036854775806) (lB : (runB a b k).length ≤ 9223372036854775806) (h1 : takeE (runA a b k) (acX (nthA a b k)) = 0) (h2 : ¬ takeE (runB a b k) (acX (nthB a b k)) = 0) : vcAp2 a b k := by
  have tg : ∀ l : List Producer, ∀ k_1, k_1 < l.length → ∀ j, j < 4 → tagT (cellsOf' encP l k_1 j) = true := fun l k _ j hj => tag_encP _ k j hj
  have hcl : ∀ l : List Producer, contLe l.length 4 (cellsOf' encP l) (cellsOf' encP l) := fun l => contLe_refl _ _ _
  have gA : (hk : k < a.length + b.length) → runA a b (k + 1) = putL (runA a b k) (mkP (nthA a b k).id (nthA a b k).seq true (nthA a b k).offset) := fun hk => runA_ok hk h1
  have gB : k < a.length + b.length → runB a b (k + 1) = runB a b k := fun _ => runB_no h2
  unfold vcAp2
  simp [hw]
  refine ⟨?_, fun hk => ?_⟩
  · intro hk
    have hk' : k < a.length + b.length := by omega
    have gA := gA hk'
    have gB := gB hk'
    repeat' first
      | exact tg _
      | (with_reducible intro _)
      | (refine Exists.intro (k + 1) ?_)
      | (with_reducible apply And.intro)
    all_goals first
      | with_reducible assumption
      | exact h1
      | exact h2
      | omega
      | (rw [wrap_i64 (by omega) (by omega)]; omega)
      | (rw [gA]; done)
      | (rw [gA]; exact hcl _)
      | (rw [gB]; done)
      | (rw [gB]; exact hcl _)
      | (rw [nthA_lt (by assumption)]; rfl)
      | (rw [nthB_lt (by assumption)]; rfl)
      | (rw [nthA_ge (by omega)]; rfl)
      | (rw [nthB_ge (by omega)]; rfl)
      | (rw [nthA_ge (by omega), sub_w (by omega) (by omega)]; rfl)
      | (rw [nthB_ge (by omega), sub_w (by omega) (by omega)]; rfl)
      | trace_state
  · have h3 := runA_stop a b k (by omega)
    have h4 := runB_stop a b k (by omega)
    rw [h3, h4]
    exact ⟨⟨rfl, rfl⟩, ⟨rfl, hcl _⟩, rfl, hcl _⟩
theorem ap_w3 (a b : List Num) (k : Nat) (hw : IntKind.i64.wrap ((a.length : Int) + (b.length : Int)) = ((a.length + b.length : Nat) : Int)) (hl : a.length + b.length ≤ 9223372036854775806) (lA : (runA a b k).length ≤ 9223372036854775806) (lB : (runB a b k).length ≤ 9223372036854775806) (h1 : ¬ takeE (runA a b k) (acX (nthA a b k)) = 0) (h2 : takeE (runB a b k) (acX (nthB a b k)) = 0) : vcAp3 a b k := by
  have tg : ∀ l : List Producer, ∀ k_1, k_1 < l.length → ∀ j, j < 4 → tagT (cellsOf' encP l k_1 j) = true := fun l k _ j hj => tag_encP _ k j hj
  have hcl : ∀ l : List Producer, contLe l.length 4 (cellsOf' encP l) (cellsOf' encP l) := fun l => contLe_refl _ _ _
  have gA : k < a.length + b.length → runA a b (k + 1) = runA a b k := fun _ => runA_no h1
  have gB : (hk : k < a.length + b.length) → runB a b (k + 1) = putL (runB a b k) (mkP (nthB a b k).id (nthB a b k).seq true (nthB a b k).offset) := fun hk => runB_ok hk h2
  unfold vcAp3
  simp [hw]
  refine ⟨?_, fun hk => ?_⟩
  · intro hk
    have hk' : k < a.length + b.length := by omega
    have gA := gA hk'
    have gB := gB hk'
    repeat' first
      | exact tg _
      | (with_reducible intro _)
      | (refine Exists.intro (k + 1) ?_)
      | (with_reducible apply And.intro)
    all_goals first
      | with_reducible assumption
      | exact h1
      | exact h2
      | omega
      | (rw [wrap_i64 (by omega) (by omega)]; omega)
      | (rw [gA]; done)
      | (rw [gA]; exact hcl _)
      | (rw [gB]; done)
      | (rw [gB]; exact hcl _)
      | (rw [nthA_lt (by assumption)]; rfl)
      | (rw [nthB_lt (by assumption)]; rfl)
      | (rw [nthA_ge (by omega)]; rfl)
      | (rw [nthB_ge (by omega)]; rfl)
      | (rw [nthA_ge (by omega), sub_w (by omega) (by omega)]; rfl)
      | (rw [nthB_ge (by omega), sub_w (by omega) (by omega)]; rfl)
      | trace_state
  · have h3 := runA_stop a b k (by omega)
    have h4 := runB_stop a b k (by omega)
    rw [h3, h4]
    exact ⟨⟨rfl, rfl⟩, ⟨rfl, hcl _⟩, rfl, hcl _⟩
theorem ap_w4 (a b : List Num) (k : Nat) (hw : IntKind.i64.wrap ((a.length : Int) + (b.length : Int)) = ((a.length + b.length : Nat) : Int)) (hl : a.length + b.length ≤ 9223372036854775806) (lA : (runA a b k).length ≤ 9223372036854775806) (lB : (runB a b k).length ≤ 9223372036854775806) (h1 : ¬ takeE (runA a b k) (acX (nthA a b k)) = 0) (h2 : ¬ takeE (runB a b k) (acX (nthB a b k)) = 0) : vcAp4 a b k := by
  have tg : ∀ l : List Producer, ∀ k_1, k_1 < l.length → ∀ j, j < 4 → tagT (cellsOf' encP l k_1 j) = true := fun l k _ j hj => tag_encP _ k j hj
  have hcl : ∀ l : List Producer, contLe l.length 4 (cellsOf' encP l) (cellsOf' encP l) := fun l => contLe_refl _ _ _
  have gA : k < a.length + b.length → runA a b (k + 1) = runA a b k := fun _ => runA_no h1
  have gB : k < a.length + b.length → runB a b (k + 1) = runB a b k := fun _ => runB_no h2
  unfold vcAp4
  simp [hw]
  refine ⟨?_, fun hk => ?_⟩
  · intro hk
    have hk' : k < a.length + b.length := by omega
    have gA := gA hk'
    have gB := gB hk'
    repeat' first
      | exact tg _
      | (with_reducible intro _)
      | (refine Exists.intro (k + 1) ?_)
      | (with_reducible apply And.intro)
    all_goals first
      | with_reducible assumption
      | exact h1
      | exact h2
      | omega
      | (rw [wrap_i64 (by omega) (by omega)]; omega)
      | (rw [gA]; done)
      | (rw [gA]; exact hcl _)
      | (rw [gB]; done)
      | (rw [gB]; exact hcl _)
      | (rw [nthA_lt (by assumption)]; rfl)
      | (rw [nthB_lt (by assumption)]; rfl)
      | (rw [nthA_ge (by omega)]; rfl)
      | (rw [nthB_ge (by omega)]; rfl)
      | (rw [nthA_ge (by omega), sub_w (by omega) (by omega)]; rfl)
      | (rw [nthB_ge (by omega), sub_w (by omega) (by omega)]; rfl)
      | trace_state
  · have h3 := runA_stop a b k (by omega)
    have h4 := runB_stop a b k (by omega)
    rw [h3, h4]
    exact ⟨⟨rfl, rfl⟩, ⟨rfl, hcl _⟩, rfl, hcl _⟩
theorem ap_loop (a b : List Num) (ha : a.length * 24 ≤ 140737488351232) (hb : b.length * 24 ≤ 140737488351232) (k : Nat) : LoopOk Try.prog 4 5 (loopAt Try.prog 4 5) ⟨apT a b k, apM a b k, []⟩ (T.map (lout [0, 1, 2, 3, 4, 5, 6, 7, 8, 9] (apS a b)) (.ret ())) := by
  refine loop_vcH (ht := fun k => apH (takeE (runA a b k) (acX (nthA a b k)) == 0) (takeE (runB a b k) (acX (nthB a b k)) == 0) a b k) (stT := apT a b) (stM := apM a b) (S := apS a b) (o := fun _ => .ret ()) (μ := fun k => a.length + b.length - k) Try.mixed (fun _ => rfl) (fun k => ?_) k
  have hw : IntKind.i64.wrap ((a.length : Int) + (b.length : Int)) = ((a.length + b.length : Nat) : Int) := by rw [wrap_i64 (by omega) (by omega)]; omega
  have lA : (runA a b k).length ≤ 9223372036854775806 := Nat.le_trans (runA_len a b k) (by decide)
  have lB : (runB a b k).length ≤ 9223372036854775806 := Nat.le_trans (runB_len a b k) (by decide)
  have hl : a.length + b.length ≤ 9223372036854775806 := by omega
  cases h1 : (takeE (runA a b k) (acX (nthA a b k)) == 0) <;> cases h2 : (takeE (runB a b k) (acX (nthB a b k)) == 0)
  · refine (vcAp4_eq a b k).mpr ?_
    exact ap_w4 a b k hw hl lA lB (beq_eq_false_iff_ne.1 h1) (beq_eq_false_iff_ne.1 h2)
  · refine (vcAp3_eq a b k).mpr ?_
    exact ap_w3 a b k hw hl lA lB (beq_eq_false_iff_ne.1 h1) (eq_of_beq h2)
  · refine (vcAp2_eq a b k).mpr ?_
    exact ap_w2 a b k hw hl lA lB (eq_of_beq h1) (beq_eq_false_iff_ne.1 h2)
  · refine (vcAp_eq a b k).mpr ?_
    exact ap_w a b k hw hl lA lB (eq_of_beq h1) (eq_of_beq h2)
theorem apart_c (a b : List Num) (ha : a.length * 24 ≤ 140737488351232) (hb : b.length * 24 ≤ 140737488351232) : (boolR true).Sat (ACall' Try.prog 4 [encNs a, encNs b] []) := by
  refine ctr_vc (ht := apfH a b) Try.mixed rfl ?_
  rw [vcApF_eq a b]
  unfold vcApF
  have s1 : runE a b = runF a b := runs_same a b
  simp
  have hE : (runE a b).length ≤ 2 := runA_len a b _
  exact ⟨ap_loop a b ha hb 0, ⟨⟨rfl, contLe_refl _ _ _⟩, rfl, contLe_refl _ _ _⟩, by omega, fun _ => Int.ofNat_le.2 hE, sameP_iff.2 s1⟩
theorem apart_lifted (os : Os) (started : os.Started) (K : Type) (enc : TypeId × Value → K) :
    ReturnsInHanded {} Try.checked os 4 .any (Rows.producersApartSpec.pre6 enc Try.prog Try.f4 Rows.producersApartRow.domain false) (Rows.producersApartSpec.post enc Try.prog Try.f4 false true false false) := by
  refine returnsInHanded_of_change_sized (C := Try.checked) Try.own started (by kernel_rfl) Try.func4
    (ChangeSpec.witness6 (enc := enc) (C := Try.checked) false ⟨#[], #[.slice Option.none 0 0, .slice Option.none 0 0], []⟩ 8 (by kernel_rfl) (by kernel_rfl) (by kernel_rfl) (by kernel_rfl)) ?_
  intro W base args ds gs before hval0 hW hcnd hsz _
  have hps : Try.f4.params.toList = [22, 22] := by kernel_rfl
  obtain ⟨p, q, hA, hV, hbef, hfz, hnd⟩ := id hW
  rw [hps] at hA hsz
  have ⟨hr, hwf⟩ := lift_all [.sl shN, .sl shN] (by kernel_rfl) hA
  obtain ⟨v, v2, d, d2, _, _, e1, rfl, _, hd, hd2⟩ := trodAll_two hA
  obtain ⟨_, _, e2, hw1, _, _, e3, hw2, _⟩ := hwf
  obtain ⟨rfl, e4⟩ := List.cons.inj e2
  subst e4
  obtain ⟨rfl, _⟩ := List.cons.inj e3
  subst e1
  have hwt := weights_cons (P := Try.prog) (t := 22) (d := d) (ds := d2 :: gs) hsz
  have hwt2 := weights_cons (P := Try.prog) (t := 22) (d := d2) (ds := gs) hwt.2
  have hl := weights_slice toN undNs hwt.1
  have hl2 := weights_slice toN undNs hwt2.1
  rw [bytesN] at hl hl2
  have hp := relNs hw1 (sl_cells (w := W) undNs (hval0 0 _ _ (by kernel_rfl) rfl) hr.1)
  have hn := relNs hw2 (sl_cells (w := W) undNs (hval0 1 _ _ (by kernel_rfl) rfl) hr.2.1)
  refine open_calls (call_of (apart_c (listOf toN d) (listOf toN d2) (by omega) (by omega))) (t := 4) (ds := [d, d2]) ⟨_, _, rfl, hp, _, _, rfl, hn, rfl⟩ (by kernel_rfl) underBool rfl rfl Try.laidOut Try.mapsRowed Try.slicesOk (by rw [hps]; intro t ht; simp at ht; subst ht; exact of_decide_eq_true (by kernel_rfl)) hW
theorem apart_said : Rows.ProducersApartSaid :=
  OpenClaim.holds_of_wide 4 Try.f4 rfl rfl rfl rfl rfl rfl rfl ⟨rfl, rfl, rfl, rfl, rfl⟩ rfl rfl rfl rfl rfl (by kernel_rfl) Try.func4 (by kernel_rfl)
    (of_decide_eq_true (by kernel_rfl)) (by unfold Func.isWrapper; first | (rw [if_pos (by decide +kernel)]; kernel_rfl) | (rw [if_neg (by decide +kernel)]; exact ⟨rfl, rfl⟩))
    (fun os started H enc _ => apart_lifted os started H enc)
end Go.Proofs.Ytjdnbdgekkdlgaa
#print axioms Go.Proofs.Ytjdnbdgekkdlgaa.apart_said
