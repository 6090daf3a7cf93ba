import Derived.Test.YtccfojpdkbaekaaW1
set_option linter.unusedVariables false
set_option linter.unusedSimpArgs false
set_option linter.unusedSectionVars false
namespace Go.Proofs.Ytccfojpdkbaekaa.W
open Go.Ax
set_option maxRecDepth 1000000
structure ItmOk (i : Itm) : Prop where
  e : EntOk i.ent
  s : SnpOk i.snap
theorem wrap_u64 {n : Int} (h1 : 0 ≤ n) (h2 : n ≤ 18446744073709551615) : IntKind.u64.wrap n = n := IntWalk.u64_in _ ⟨h1, h2⟩
theorem u64_rng (n : Int) : 0 ≤ IntKind.u64.wrap n ∧ IntKind.u64.wrap n ≤ 18446744073709551615 := by
  simp [IntKind.wrap, IntKind.bits, IntKind.signed]; omega
theorem plc_rng (b x : Int) : 0 ≤ plc b x ∧ plc b x ≤ 18446744073709551615 := u64_rng _
theorem drop_le {l : List Ent} {n p : Nat} : contLe n 6 (Ax.rowAt p (cellsOf' encE l)) (cellsOf' encE (l.drop p)) := by
  intro k _ j _
  rw [rowAt_eq]
  unfold cellsOf'
  simp [List.getD_eq_getElem?_getD, List.getElem?_drop]
theorem take_le {l : List Ent} {n p : Nat} (h : n ≤ p) : contLe n 6 (cellsOf' encE l) (cellsOf' encE (l.take p)) := by
  intro k hk j _
  unfold cellsOf'
  have : k < p := by omega
  simp [List.getD_eq_getElem?_getD, List.getElem?_take, this]
theorem tag_E (l : List Ent) (k j : Nat) (hj : j < 6) : tagT (cellsOf' encE l k j) = true := by
  unfold cellsOf'
  match j, hj with
  | 0, _ | 1, _ | 2, _ | 3, _ | 4, _ | 5, _ => rfl
theorem tk_c (g : Grp) (i : Itm) (hg : GrpOk g) (hi : ItmOk i) (hn : (g.ents.length + 1) * 96 ≤ 140737488355328) : (tkR g i).Sat (ACall' Try.prog 46 [.ptr 5 0 0 0, .agg (encIt i)] (grM g)) := by
  refine ctr_vc (ht := tkH g i) Try.mixed rfl ?_
  rw [vcTk_eq g i]
  unfold vcTk vcTk_q27 vcTk_q26 vcTk_q17 vcTk_q16 vcTk_q15 vcTk_q10 vcTk_q3 vcTk_q1 vcTk_q19 vcTk_q2 vcTk_q8 vcTk_q9 vcTk_q25 vcTk_q5 vcTk_q24 vcTk_q7 vcTk_q29 vcTk_q4 vcTk_q28 vcTk_q12 vcTk_q14 vcTk_q13 vcTk_q6 vcTk_q18 vcTk_q30 vcTk_q20 vcTk_q22 vcTk_q21 vcTk_q11 vcTk_q23
  have hw : IntKind.u64.wrap (g.ents.length : Int) = g.ents.length := wrap_u64 (by omega) (by omega)
  refine ⟨fun h2 => ?_, fun h2 => ⟨fun h4 => ?_, fun h4 => ⟨fun h1 => ?_, fun h1 => ⟨fun h3 => ?_, fun h3 => ?_⟩⟩⟩⟩
  · simp only [beq_iff_eq, beq_eq_false_iff_ne, ne_eq, decide_eq_true_eq, decide_eq_false_iff_not] at *
    refine ⟨fun h => ?_, fun h => ?_⟩
    · have e : tkE g i = 52 := by simp [tkE, h2, h]
      simp [e]
    · have e : tkE g i = 0 := by simp [tkE, h2, h]
      simp [e, tkG, h2]
  · simp only [beq_iff_eq, beq_eq_false_iff_ne, ne_eq, decide_eq_true_eq, decide_eq_false_iff_not] at *
    refine ⟨fun h => ?_, fun h => ?_⟩
    · have e : tkE g i = 1 := by simp [tkE, h4, h]
      simp [e]
    · have e : tkE g i = 0 := by simp [tkE, h4, h]
      simp [e, tkG, h4, hi.s, hw]
      have hp : IntKind.u64.wrap (IntKind.u64.wrap (i.snap.idx - g.base.idx) - 1) = plc g.base.idx i.snap.idx := rfl
      have hr := plc_rng g.base.idx i.snap.idx
      rw [hp]
      generalize plc g.base.idx i.snap.idx = p at hr
      obtain ⟨q, rfl⟩ : ∃ q : Nat, p = q := ⟨p.toNat, by omega⟩
      simp only [Int.toNat_natCast]
      refine ⟨fun hq => ⟨⟨by omega, hq⟩, by omega, fun ht => ?_, fun ht => ?_⟩, fun hq => ?_⟩
      · have e1 : IntKind.u64.wrap ((q : Int) + 1) = ((q + 1 : Nat) : Int) := wrap_u64 (by omega) (by omega)
        rw [e1]
        have hq' : q < g.ents.length := by omega
        simp only [Int.toNat_natCast, if_pos (show (q : Int) < (g.ents.length : Int) ∧ (g.ents[q]?.getD default).term = i.snap.term from ⟨hq, ht⟩), List.length_drop, contLe_refl, and_true]
        exact ⟨⟨by omega, by omega⟩, ⟨trivial, drop_le⟩, by omega, fun k _ j hj => tag_E _ k j hj⟩
      · rw [if_neg (by simp [ht])]; rfl
      · rw [if_neg (by omega)]; rfl
  · simp only [beq_iff_eq, beq_eq_false_iff_ne, ne_eq, decide_eq_true_eq, decide_eq_false_iff_not] at *
    refine ⟨trivial, trivial, fun h0 => ?_, fun h0 => ⟨fun hb => ?_, fun hb => ⟨fun hp => ?_, fun hp => ?_⟩⟩⟩
    · have e : tkE g i = 54 := by simp [tkE, h1, h0]
      simp [e]
    · have e : tkE g i = 1 := by simp [tkE, h1, h0, hb]
      simp [e]
    · have e : tkE g i = 51 := by rw [hw] at hp; simp [tkE, h1, h0, hb, plc, hp]
      simp [e]
    · have hat : i.at' = i.ent.idx := by simp [Itm.at', h1]
      have e1 : IntKind.u64.wrap (IntKind.u64.wrap (i.ent.idx - g.base.idx) - 1) = plc g.base.idx i.ent.idx := rfl
      have hr := plc_rng g.base.idx i.ent.idx
      have te : tkE g i = if i.ent.term < ahd g i.ent.idx then 52 else 0 := by
        rw [hw, e1] at hp
        simp [tkE, h1, h0, hb, hp]
      have tg : tkG g i = { g with ents := g.ents.take (plc g.base.idx i.ent.idx).toNat ++ [i.ent] } := by simp [tkG, h1]
      rw [tg]
      simp only [hat, e1, hw] at hp ⊢
      unfold ahd at te
      generalize plc g.base.idx i.ent.idx = p at *
      obtain ⟨q, rfl⟩ : ∃ q : Nat, p = q := ⟨p.toNat, by omega⟩
      have hmin : min q g.ents.length = q := by omega
      simp [hmin, h1, hi.e] at hp te ⊢
      have hb' : g.base.idx < i.ent.idx := by omega
      have hap : contLe (q + 1) 6 (appRow q (cellsOf' encE (g.ents.take q)) fun k j => Ax.get (encE i.ent) (k * 6 + j)) (cellsOf' encE (g.ents.take q ++ [i.ent])) := encE_app (by simp [hmin])
      have e2 : 0 < q → IntKind.u64.wrap ((q : Int) - 1) = ((q - 1 : Nat) : Int) := fun h => by rw [wrap_u64 (by omega) (by omega)]; omega
      have hap3 : g.ents.length ≤ q → contLe (g.ents.length + 1) 6 (appRow g.ents.length (cellsOf' encE g.ents) fun k j => Ax.get (encE i.ent) (k * 6 + j)) (cellsOf' encE (g.ents.take q ++ [i.ent])) := fun e => by
        rw [List.take_of_length_le e]
        exact encE_app rfl
      refine ⟨fun hq0 => ⟨?_, fun ht => ?_, fun ht => ⟨fun hx => absurd hx hb, fun _ => ?_⟩⟩, fun hq0 => ⟨fun ht => ?_, fun ht => ⟨fun hx => absurd hx hb, fun _ => ?_⟩⟩⟩
      · rw [e2 hq0]; omega
      · have t0 : tkE g i = 52 := by rw [te, if_pos hq0, if_pos ht]
        simp [t0]
      · have t0 : tkE g i = 0 := by rw [te]; simp [hq0]; omega
        exact ⟨fun hq => ⟨hp, take_le (Nat.le_refl _), by omega, fun k _ j hj => tag_E _ k j hj, ⟨by omega, by omega⟩, fun _ => hap, t0⟩, fun hq => ⟨⟨by omega, by omega⟩, fun _ => ⟨⟨by omega, hap3 hq⟩, by omega⟩, t0⟩⟩
      · have t0 : tkE g i = 52 := by rw [te]; simp [hq0, ht]
        simp [t0]
      · have t0 : tkE g i = 0 := by rw [te]; simp [hq0]; omega
        exact ⟨fun hq => ⟨hp, take_le (Nat.le_refl _), by omega, fun k _ j hj => tag_E _ k j hj, ⟨by omega, by omega⟩, fun _ => hap, t0⟩, fun hq => ⟨⟨by omega, by omega⟩, fun _ => ⟨⟨by omega, hap3 hq⟩, by omega⟩, t0⟩⟩
  · simp only [beq_iff_eq, beq_eq_false_iff_ne, ne_eq, decide_eq_true_eq, decide_eq_false_iff_not] at *
    refine ⟨fun h => ?_, fun h => ?_⟩
    · have e : tkE g i = 51 := by simp [tkE, h3, h]
      simp [e]
    · have e : tkE g i = 0 := by simp [tkE, h3, h]
      simp [e, tkG, h3, hw, Itm.at']
      have e1 : IntKind.u64.wrap (IntKind.u64.wrap (i.index - g.base.idx) - 1) = plc g.base.idx i.index := rfl
      have hr := plc_rng g.base.idx i.index
      rw [e1]
      generalize plc g.base.idx i.index = p at *
      obtain ⟨q, rfl⟩ : ∃ q : Nat, p = q := ⟨p.toNat, by omega⟩
      simp only [Int.toNat_natCast]
      refine ⟨fun hq => ⟨⟨by omega, by omega⟩, ⟨by omega, take_le (Nat.le_refl _)⟩, by omega, fun k _ j hj => tag_E _ k j hj⟩, fun hq => ⟨⟨by omega, take_le (by omega)⟩, by omega⟩⟩
  · simp only [beq_iff_eq, beq_eq_false_iff_ne, ne_eq, decide_eq_true_eq, decide_eq_false_iff_not] at *
    have e : tkE g i = 0 := by simp [tkE, h1, h2, h3, h4]
    simp [e, tkG, h1, h2, h3, h4]
noncomputable def tkC (g : Grp) (i : Itm) : Ctr Try.prog := ⟨46, [.ptr 5 0 0 0, .agg (encIt i)], grM g, .need (GrpOk g) (.need (ItmOk i) (.need ((g.ents.length + 1) * 96 ≤ 140737488355328) (tkR g i))), T.Sat.need fun h1 => T.Sat.need fun h2 => T.Sat.need fun h3 => tk_c g i h1 h2 h3⟩
end Go.Proofs.Ytccfojpdkbaekaa.W
