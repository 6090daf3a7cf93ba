/- PROVED: for any plan and anything seen, more or less, together of bulk at most 1048576, the law PlansMore answers true: a step's end stays it when more is seen. -/
import Derived.Test.YtghhkabankbkoaaQq
import Derived.Test.YtghhkabankbkoaaQu
import Derived.JoinedCond
set_option linter.unusedVariables false
set_option linter.unusedSimpArgs false
/-! Plans: from the statement of the second form to PlansMore. -/
namespace Go.Proofs.Ytghhkabankbkoaa
open Go.Ax Go.Shelf Go.RowKit Go.ChangeShapes Go.WideShapes Go.ChangeAt
set_option maxRecDepth 1000000
theorem bulk_one {H : Type} (d : DataW H) : 1 ≤ Rows.uptoBulk d := by
  cases d with
  | lit l => cases l <;> simp [Rows.uptoBulk]
  | nil => simp [Rows.uptoBulk]
  | ptr d => simp [Rows.uptoBulk]
  | slice elems spare => simp [Rows.uptoBulk]
  | agg parts => simp [Rows.uptoBulk]
  | iface t d => simp [Rows.uptoBulk]
  | map entries => simp [Rows.uptoBulk]
  | held h => simp [Rows.uptoBulk]
theorem bulk_part {H : Type} {d : DataW H} {l : List (DataW H)} (h : d ∈ l) : Rows.uptoBulk d ≤ Rows.uptoBulkAll l := by
  induction l with
  | nil => cases h
  | cons x r ih =>
    simp only [Rows.uptoBulkAll]
    cases List.mem_cons.1 h with
    | inl e => subst e; omega
    | inr e => have := ih e; omega
theorem bulk_len {H : Type} (l : List (DataW H)) : l.length ≤ Rows.uptoBulkAll l := by
  induction l with
  | nil => simp [Rows.uptoBulkAll]
  | cons x r ih => have := bulk_one x; simp only [Rows.uptoBulkAll, List.length_cons]; omega
theorem bulk_list {K α : Type} (to : DataW K → α) (d : DataW K) : (listOf to d).length ≤ Rows.uptoBulk d := by
  cases d with
  | slice elems spare =>
    have := bulk_len elems
    simp only [Rows.uptoBulk, listOf, List.length_map]
    omega
  | _ => simp [listOf]
theorem bulk_agg {H : Type} {d : DataW H} {l : List (DataW H)} (h : d ∈ l) : Rows.uptoBulk d ≤ Rows.uptoBulk (DataW.agg l) := by
  have := bulk_part h
  simp only [Rows.uptoBulk]
  omega
structure Seen.Small (s : Seen) : Prop where
  frozen : s.frozen.length ≤ 1048576
  made : s.made.length ≤ 1048576
  gone : s.gone.length ≤ 1048576
  voters : s.voters.length ≤ 1048576
  learners : s.learners.length ≤ 1048576
theorem seen_small {K : Type} {d : DataW K} (hd : shSeen.wf d) (hb : Rows.uptoBulk d ≤ 1048576) : (toSeen d).Small := by
  obtain ⟨ds, rfl, d1, r1, rfl, w1, d2, r2, rfl, w2, d3, r3, rfl, w3, d4, r4, rfl, ⟨cs, rfl, c1, q1, rfl, u1, c2, q2, rfl, u2, rfl⟩, d5, r5, rfl, w5, d6, r6, rfl, w6, rfl⟩ := hd
  have b1 := Nat.le_trans (Nat.le_trans (bulk_list toI d1) (bulk_agg (l := [d1, d2, d3, DataW.agg [c1, c2], d5, d6]) (by simp))) hb
  have b2 := Nat.le_trans (Nat.le_trans (bulk_list toSite d2) (bulk_agg (l := [d1, d2, d3, DataW.agg [c1, c2], d5, d6]) (by simp))) hb
  have b3 := Nat.le_trans (Nat.le_trans (bulk_list toSite d3) (bulk_agg (l := [d1, d2, d3, DataW.agg [c1, c2], d5, d6]) (by simp))) hb
  have b4 := Nat.le_trans (Nat.le_trans (Nat.le_trans (bulk_list toI c1) (bulk_agg (l := [c1, c2]) (by simp))) (bulk_agg (l := [d1, d2, d3, DataW.agg [c1, c2], d5, d6]) (by simp))) hb
  have b5 := Nat.le_trans (Nat.le_trans (Nat.le_trans (bulk_list toI c2) (bulk_agg (l := [c1, c2]) (by simp))) (bulk_agg (l := [d1, d2, d3, DataW.agg [c1, c2], d5, d6]) (by simp))) hb
  exact ⟨b1, b2, b3, b4, b5⟩
theorem plan_small {K : Type} {d : DataW K} (hd : shPlan.wf d) (hb : Rows.uptoBulk d ≤ 1048576) : (toPlan d).Ok := by
  obtain ⟨ds, rfl, d1, r1, rfl, w1, d2, r2, rfl, w2, d3, r3, rfl, w3, d4, r4, rfl, w4, d5, r5, rfl, w5, d6, r6, rfl, w6, d7, r7, rfl, w7, d8, r8, rfl, w8, d9, r9, rfl, w9, d10, r10, rfl, w10, d11, r11, rfl, w11, rfl⟩ := hd
  have b1 := Nat.le_trans (Nat.le_trans (bulk_list toI d7) (bulk_agg (l := [d1, d2, d3, d4, d5, d6, d7, d8, d9, d10, d11]) (by simp))) hb
  have b2 := Nat.le_trans (Nat.le_trans (bulk_list toI d8) (bulk_agg (l := [d1, d2, d3, d4, d5, d6, d7, d8, d9, d10, d11]) (by simp))) hb
  exact ⟨by show (listOf toI d7).length ≤ _; omega, by show (listOf toI d8).length ≤ _; omega⟩
theorem small_ok {s : Seen} (h : s.Small) : s.Ok := ⟨by have := h.frozen; omega, by have := h.made; omega, by have := h.gone; omega, by have := h.voters; omega, by have := h.learners; omega⟩
theorem small_bound {H : Type} {l : List (DataW H)} (hk : Rows.uptoSmall H l = true) : ∀ d ∈ l, Rows.uptoBulk d ≤ 1048576 := by
  have : Rows.uptoBulkAll l ≤ 1048576 := of_decide_eq_true hk
  intro d hd
  exact Nat.le_trans (bulk_part hd) this
theorem more_lifted (os : Os) (started : os.Started) (K : Type) (enc : TypeId × Value → K) (F : Stop.Interp) :
    ReturnsInHanded {} Try.checked os 6 .any ((Rows.OpenSpec.upto Rows.plansMoreSpec).pre6 enc Try.prog Try.f6 Rows.plansMoreUptoRow.domain false) (((Rows.OpenSpec.upto Rows.plansMoreSpec).at F).post enc Try.prog Try.f6 false true false false) := by
  refine returnsInHanded_of_cond (C := Try.checked) (s := Rows.OpenSpec.upto Rows.plansMoreSpec) (k := Rows.uptoSmall) rfl Try.own started (by kernel_rfl) Try.func6
    (OpenSpec.witness (enc := enc) (C := Try.checked) (s := Rows.OpenSpec.upto Rows.plansMoreSpec) (k := Rows.uptoSmall) rfl false ⟨#[], #[.agg #[.int .u64 0, .int .i64 0, .string ⟨#[]⟩, .int .u64 0, .int .u64 0, .string ⟨#[]⟩, .slice Option.none 0 0, .slice Option.none 0 0, .int .i64 0, .int .i64 0, .int .i64 0], .agg #[.slice Option.none 0 0, .slice Option.none 0 0, .slice Option.none 0 0, .slice Option.none 0 0, .slice Option.none 0 0, .int .i64 0, .bool false], .agg #[.slice Option.none 0 0, .slice Option.none 0 0, .slice Option.none 0 0, .slice Option.none 0 0, .slice Option.none 0 0, .int .i64 0, .bool false]], []⟩ 8 (by kernel_rfl) (by kernel_rfl) (by kernel_rfl)
      (x := ([.agg [.lit (.int .u64 0), .lit (.int .i64 0), .lit (.string []), .lit (.int .u64 0), .lit (.int .u64 0), .lit (.string []), .nil, .nil, .lit (.int .i64 0), .lit (.int .i64 0), .lit (.int .i64 0)], .agg [.nil, .nil, .nil, .agg [.nil, .nil], .lit (.int .i64 0), .lit (.bool false)], .agg [.nil, .nil, .nil, .agg [.nil, .nil], .lit (.int .i64 0), .lit (.bool false)]], [], [])) (by kernel_rfl) rfl (by kernel_rfl)) ?_
  intro W base args ds gs before hval0 hW _ hk _
  have hps : Try.f6.params.toList = [32, 38, 38] := by kernel_rfl
  obtain ⟨p, q, hA, hV, hbef, hfz, hnd⟩ := id hW
  have hA : DataW.TrodAll enc Try.prog W 0 (fun _ => true) true Try.f6.params.toList args.toList ds p := hA
  rw [hps] at hA
  have ⟨hr, hwf⟩ := lift_all [shPlan, shSeen, shSeen] (by kernel_rfl) hA
  obtain ⟨v, v2, v3, d, d2, d3, _, _, _, e1, rfl, _, hd, hd2, hd3⟩ := trodAll_three hA
  obtain ⟨_, _, e2, hw1, _, _, e3, hw2, _, _, e4, hw3, _⟩ := hwf
  obtain ⟨rfl, e5⟩ := List.cons.inj e2
  subst e5
  obtain ⟨rfl, e6⟩ := List.cons.inj e3
  subst e6
  obtain ⟨rfl, _⟩ := List.cons.inj e4
  subst e1
  have hb := small_bound hk
  have k1 := plan_small hw1 (hb d (by simp))
  have k2 := seen_small hw2 (hb d2 (by simp))
  have k3 := seen_small hw3 (hb d3 (by simp))
  obtain ⟨fs, hf, _⟩ := undPl
  obtain ⟨fs2, hf2, _⟩ := undSe
  have r1 := relA hf (hval0 0 _ _ (by kernel_rfl) rfl) (relPlan hw1 hr.1)
  have r2 := relA hf2 (hval0 1 _ _ (by kernel_rfl) rfl) (relSeen hw2 hr.2.1)
  have r3 := relA hf2 (hval0 2 _ _ (by kernel_rfl) rfl) (relSeen hw3 hr.2.2.1)
  have f1 := k2.frozen
  have f2 := k2.made
  have f3 := k2.gone
  have g1 := k3.frozen
  have g2 := k3.made
  have g3 := k3.gone
  exact open_calls (s := Rows.plansMoreSpec) (call_of (more_c (toPlan d) (toSeen d2) (toSeen d3) k1 (small_ok k2) (by omega) (by omega) (by omega))) (t := 4) (ds := [d, d2, d3]) ⟨_, _, rfl, r1, _, _, rfl, r2, _, _, rfl, r3, rfl⟩ (by kernel_rfl) underBool rfl rfl Try.laidOut Try.mapsRowed Try.slicesOk (by rw [hps]; intro t ht; simp at ht; rcases ht with rfl | rfl <;> exact of_decide_eq_true (by kernel_rfl)) hW
theorem more_said : Rows.PlansMoreUptoSaid :=
  OpenClaim.holds_of_cond 6 Try.f6 rfl rfl rfl rfl rfl rfl rfl ⟨rfl, rfl, rfl, rfl, rfl⟩ rfl rfl rfl rfl rfl (by kernel_rfl) Try.func6 (by kernel_rfl)
    (of_decide_eq_true (by kernel_rfl)) (by unfold Func.isWrapper; first | (rw [if_pos (by decide +kernel)]; kernel_rfl) | (rw [if_neg (by decide +kernel)]; exact ⟨rfl, rfl⟩))
    (fun os started H enc _ F => more_lifted os started H enc F)
end Go.Proofs.Ytghhkabankbkoaa
#print axioms Go.Proofs.Ytghhkabankbkoaa.more_said
