/- PROVED: RecordsParts, as the card states it: what is kept of a log, and what two logs are joined to, with the offsets there, is the document's, whatever the owner of an answer writes over it; no condition. -/
import Derived.Test.YtjmdejbijigfjaaDoorW4
set_option linter.unusedVariables false
set_option linter.unusedSimpArgs false
set_option linter.unusedSectionVars false
namespace Go.Proofs.YtjmdejbijigfjaaDoor
open Go.Ax Go.Shelf Go.RowKit Go.ChangeShapes Go.WideShapes Go.ChangeAt Go.Proofs.YtjmdejbijigfjaaDoor.H
set_option maxRecDepth 1000000
def shRng : Sh := .st [.str, .str]
def toG {K : Type} : DataW K → Rng
  | .agg [a, b] => ⟨toS a, toS b⟩
  | _ => default
theorem toG_ok {K : Type} {d : DataW K} (h : shRng.wf d) : shRng.enc d = encG (toG d) := by
  obtain ⟨ds, rfl, d1, r1, rfl, w1, d2, r2, rfl, w2, rfl⟩ := h
  simp only [shRng, enc_st, enc_cons, enc_nil, encS_ok w1, encS_ok w2]
  rfl
theorem relRng {K : Type} {d : DataW K} (hd : shRng.wf d) {H : HH} {E : Env} {vs : List Value} (h : RelL (shRng.enc d) H E vs) : RelL (encG (toG d)) H E vs := by
  rwa [toG_ok hd] at h
theorem undRng : ∃ fs, Tryd.prog.underlying 47 = some (.struct fs) ∧ fs.toList.map (·.type) = [9, 9] := structTypes_ok (by kernel_rfl)
def recordsParts_laidL : List (String × DataW Unit) := Rows.recordsPartsRow.laid
noncomputable def recordsParts_layW (os : Os) : World := World.laidAll Tryd.prog os recordsParts_laidL
theorem recordsParts_lay_met (os : Os) (args : Array Value) : laidMetH Tryd.prog recordsParts_laidL ((recordsParts_layW os).forCall (fun _ _ => 0) ⟨#[], args, []⟩).memory := by
  have e : ∀ w, laidMetH Tryd.prog recordsParts_laidL w = laidMet Tryd.prog recordsParts_laidL w := fun w => by kernel_rfl
  rw [e]
  exact laidMet_laidAll args (by kernel_rfl) (by kernel_rfl)
theorem recordsParts_lifted (os : Os) (started : os.Started) (K : Type) (enc : TypeId × Value → K) :
    ReturnsInHanded {} Tryd.checked os 5 .any (fun w args => (Rows.recordsPartsSpec.pre enc Tryd.prog Tryd.f5 [] false w args ∧ laidMetH Tryd.prog recordsParts_laidL w) ∧ sizedMet enc Tryd.prog Tryd.f5 (OpenSpec.ofChange Rows.recordsPartsSpec) false w args)
      (Rows.recordsPartsSpec.post enc Tryd.prog Tryd.f5 false true false false) := by
  refine returnsInHanded_of_change_and (C := Tryd.checked) (X := fun w _ => laidMetH Tryd.prog recordsParts_laidL w) (fun _ _ _ hh h => h.of_heap hh) Tryd.own started (by kernel_rfl) Tryd.func5
    (ChangeSpec.witness_at (enc := enc) (C := Tryd.checked) (os := os) (X := fun w _ => laidMetH Tryd.prog recordsParts_laidL w) false (recordsParts_layW os) #[.slice Option.none 0 0, .slice Option.none 0 0, .agg #[.string ⟨#[]⟩, .string ⟨#[]⟩]] 8 rfl (by kernel_rfl) (by kernel_rfl) (by kernel_rfl) (by kernel_rfl) (by kernel_rfl) (recordsParts_lay_met os _)) ?_
  intro W base args ds gs before hval0 hW hcnd hsz hL _
  have hps : Tryd.f5.params.toList = [22, 22, 47] := by kernel_rfl
  obtain ⟨p, q, hA, hV, hbef, hfz, hnd⟩ := id hW
  rw [hps] at hA hsz
  have ⟨hr, hwf⟩ := lift_all [.sl shRec, .sl shRec, shRng] (by kernel_rfl) hA
  obtain ⟨v1, v2, v3, d1, d2, d3, _, _, _, e1, rfl, _, _, _, _⟩ := trodAll_three hA
  obtain ⟨_, _, g1, w1, _, _, g2, w2, _, _, g3, w3, _⟩ := hwf
  obtain ⟨rfl, q1⟩ := List.cons.inj g1
  subst q1
  obtain ⟨rfl, q2⟩ := List.cons.inj g2
  subst q2
  obtain ⟨rfl, _⟩ := List.cons.inj g3
  subst e1
  obtain ⟨h1, hs1⟩ := weights_cons (P := Tryd.prog) (t := 22) (d := d1) hsz
  obtain ⟨h2, hs2⟩ := weights_cons (P := Tryd.prog) (t := 22) (d := d2) hs1
  obtain ⟨h3, hs3⟩ := weights_cons (P := Tryd.prog) (t := 47) (d := d3) hs2
  have r1 := hr.1
  rw [slAV_eq] at r1
  obtain ⟨s1, n1, c1, rfl⟩ := okWide_slice undRs (hval0 0 _ _ (by kernel_rfl) rfl)
  obtain ⟨_, _, er, r1, _⟩ := r1
  cases er
  have r1 := relRs w1 r1
  have r2 := hr.2.1
  rw [slAV_eq] at r2
  obtain ⟨s2, n2, c2, rfl⟩ := okWide_slice undRs (hval0 1 _ _ (by kernel_rfl) rfl)
  obtain ⟨_, _, er, r2, _⟩ := r2
  cases er
  have r2 := relRs w2 r2
  have r3 := hr.2.2.1
  obtain ⟨fs3, hf3, _⟩ := undRng
  have r3 := relA hf3 (hval0 2 _ _ (by kernel_rfl) rfl) (relRng w3 r3)
  refine open_calls (call_of (pa_c _ _ _ (recs_sized w1 h1) (recs_sized w2 h2))) (t := 4) (ds := [d1, d2, d3]) ⟨_, _, rfl, r1, _, _, rfl, r2, _, _, rfl, r3, rfl⟩ (by kernel_rfl) underBool rfl rfl Tryd.laidOut Tryd.mapsRowed Tryd.slicesOk (by rw [hps]; intro t ht; simp only [List.mem_cons, List.not_mem_nil, or_false] at ht; rcases ht with rfl | rfl | rfl <;> exact of_decide_eq_true (by kernel_rfl)) hW
theorem recordsParts_holds : Rows.RecordsPartsSaid :=
  OpenClaim.holds_of_wide 5 Tryd.f5 rfl rfl rfl rfl rfl rfl rfl ⟨rfl, rfl, rfl, rfl, rfl⟩ rfl rfl rfl rfl rfl (by kernel_rfl) Tryd.func5 (by kernel_rfl)
    (of_decide_eq_true (by kernel_rfl)) (by unfold Func.isWrapper; first | (rw [if_pos (by decide +kernel)]; kernel_rfl) | (rw [if_neg (by decide +kernel)]; exact ⟨rfl, rfl⟩))
    (fun os started H enc _ => recordsParts_lifted os started H enc)
theorem parts_said : Rows.RecordsPartsCardSaid :=
  Claim7.holds_tied_plain_at .later [] [.data, .pinned] true (true, "c6216772fa23618345da0e61fb6b64e81834fe3c41d4c2546afdeda0683467e7") false
    recordsParts_holds (fun _ h => by cases h) (by kernel_rfl) (fun _ h => by cases h) recordsParts_row_tie rfl ⟨rfl, rfl⟩ (by kernel_rfl) rfl
    (fun f fn hf hfn => by
      obtain rfl : f = 5 := Option.some.inj ((show Tryd.prog.funcNamed "gazette/gazettelaw14.RecordsParts" = some 5 by kernel_rfl).symm.trans hf) |>.symm
      obtain rfl : fn = Tryd.f5 := (Option.some.inj (Tryd.func5.symm.trans hfn)).symm
      exact ⟨by kernel_rfl, fun j t ht => by
        rw [show Tryd.f5.params = #[22, 22, 47] by kernel_rfl] at ht
        have h3 : t = 22 ∨ t = 22 ∨ t = 47 := by
          rcases j with _ | _ | _ | j
          · exact Or.inl (by simpa using ht.symm)
          · exact Or.inr (Or.inl (by simpa using ht.symm))
          · exact Or.inr (Or.inr ((by simpa using ht.symm)))
          · simp at ht
        rcases h3 with rfl | rfl | rfl
        · exact (show Tryd.prog.wantsStandIn 22 = false by kernel_rfl)
        · exact (show Tryd.prog.wantsStandIn 22 = false by kernel_rfl)
        · exact (show Tryd.prog.wantsStandIn 47 = false by kernel_rfl)⟩)
    (by kernel_rfl)
end Go.Proofs.YtjmdejbijigfjaaDoor
