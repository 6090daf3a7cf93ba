/- PROVED: a file that is given the other name and its own again, grows and is cut to what it was, is as it was; the disk keeps its names. The disk is a map from names to files; each operation's contract is told as a step of a plain model, an invariant ties sizes and room. -/
import Derived.Test.YtfiohpojlgkmkaaDoorW2
set_option linter.unusedVariables false
set_option linter.unusedSimpArgs false
set_option linter.unusedSectionVars false
namespace Go.Proofs.YtfiohpojlgkmkaaDoor.O
open Go.Ax Go.Shelf Go.RowKit Go.ChangeShapes Go.WideShapes Go.ChangeAt
set_option maxRecDepth 1000000
def simdiskBack_laidL : List (String × DataW Unit) := Rows.simdiskBackRow.laid
noncomputable def simdiskBack_layW (os : Os) : World := World.layVars Tryd.prog (hdWorld os) (simdiskBack_laidL.filter fun x => x.2.handleName?.isNone)
theorem simdiskBack_lay_met (os : Os) (args : Array Value) : laidMetH Tryd.prog simdiskBack_laidL ((simdiskBack_layW os).forCall (fun _ _ => 0) ⟨#[], args, []⟩).memory :=
  laidMetH_of_parts (laidMet_lay args (by kernel_rfl) (by kernel_rfl)) (by kernel_rfl)
theorem simdiskBack_lifted (os : Os) (started : os.Started) (K : Type) (enc : TypeId × Value → K) :
    ReturnsInHanded {} Tryd.checked os 4 .any (fun w args => (Rows.simdiskBackSpec.pre enc Tryd.prog Tryd.f4 [] false w args ∧ laidMetH Tryd.prog simdiskBack_laidL w) ∧ sizedMet enc Tryd.prog Tryd.f4 (OpenSpec.ofChange Rows.simdiskBackSpec) false w args)
      (Rows.simdiskBackSpec.post enc Tryd.prog Tryd.f4 false true false false) := by
  refine returnsInHanded_of_change_and (C := Tryd.checked) (X := fun w _ => laidMetH Tryd.prog simdiskBack_laidL w) (fun _ _ _ hh h => h.of_heap hh) Tryd.own started (by kernel_rfl) Tryd.func4
    (ChangeSpec.witness_at (enc := enc) (C := Tryd.checked) (os := os) (X := fun w _ => laidMetH Tryd.prog simdiskBack_laidL w) false (simdiskBack_layW os) #[.slice Option.none 0 0, .slice Option.none 0 0] 8 rfl (by kernel_rfl) (by kernel_rfl) (by kernel_rfl) (by kernel_rfl) (by kernel_rfl) (simdiskBack_lay_met os _)) ?_
  intro W base args ds gs before hval0 hW hcnd hsz hL _
  have hps : Tryd.f4.params.toList = [22, 32] := by kernel_rfl
  obtain ⟨p, q, hA, hV, hbef, hfz, hnd⟩ := id hW
  rw [hps] at hA hsz
  have ⟨hr, hwf⟩ := lift_all [.sl shWr, .sl (.int .u8)] (by kernel_rfl) hA
  obtain ⟨v1, v2, d1, d2, _, _, e1, rfl, _, _, _⟩ := trodAll_two hA
  obtain ⟨_, _, g1, w1, _, _, g2, w2, _⟩ := hwf
  obtain ⟨rfl, q1⟩ := List.cons.inj g1
  subst q1
  obtain ⟨rfl, _⟩ := List.cons.inj g2
  subst e1
  obtain ⟨h1, hs1⟩ := weights_cons (P := Tryd.prog) (t := 22) (d := d1) hsz
  obtain ⟨h2, hs2⟩ := weights_cons (P := Tryd.prog) (t := 32) (d := d2) hs1
  have r1 := hr.1
  rw [slAV_eq] at r1
  obtain ⟨s1, n1, c1, rfl⟩ := okWide_slice undWrs (hval0 0 _ _ (by kernel_rfl) rfl)
  obtain ⟨_, _, er, r1, _⟩ := r1
  cases er
  have r1 := relWrs w1 r1
  have r2 := hr.2.1
  rw [slAV_eq] at r2
  obtain ⟨s2, n2, c2, rfl⟩ := okWide_slice undBs (hval0 1 _ _ (by kernel_rfl) rfl)
  obtain ⟨_, _, er, r2, _⟩ := r2
  cases er
  have r2 := relB w2 r2
  refine open_calls (call_of (back_c _ _ _ _ (wrs_ok w1 h1))) (t := 4) (ds := [d1, d2]) ⟨_, _, rfl, r1, _, _, rfl, r2, rfl⟩ (by kernel_rfl) underBool rfl rfl Tryd.laidOut Tryd.mapsRowed Tryd.slicesOk (by rw [hps]; intro t ht; simp only [List.mem_cons, List.not_mem_nil, or_false] at ht; rcases ht with rfl | rfl <;> exact of_decide_eq_true (by kernel_rfl)) hW (gl_of (by kernel_rfl) hL)
theorem simdiskBack_holds : Rows.SimdiskBackSaid :=
  OpenClaim.holds_of_wide 4 Tryd.f4 rfl rfl rfl rfl rfl rfl rfl ⟨rfl, rfl, rfl, rfl, rfl⟩ rfl rfl rfl rfl rfl (by kernel_rfl) Tryd.func4 (by kernel_rfl)
    (of_decide_eq_true (by kernel_rfl)) (by unfold Func.isWrapper; first | (rw [if_pos (by decide +kernel)]; kernel_rfl) | (rw [if_neg (by decide +kernel)]; exact ⟨rfl, rfl⟩))
    (fun os started H enc _ => simdiskBack_lifted os started H enc)
theorem simdiskBack_said : Rows.SimdiskBackCardSaid :=
  Claim7.holds_tied_plain_at .later [] [.data, .handle, .pinned] true (true, "111258a9fa04bd350fa696b8a73a956b79ddd4e70140eac7e0ee6e1fd8316515") true
    simdiskBack_holds (fun _ h => by cases h) (by kernel_rfl) (fun _ h => by cases h) simdiskBack_row_tie rfl ⟨rfl, rfl⟩ (by kernel_rfl) rfl
    (fun f fn hf hfn => by
      obtain rfl : f = 4 := Option.some.inj ((show Tryd.prog.funcNamed "gazette/gazettelaw02.SimdiskBack" = some 4 by kernel_rfl).symm.trans hf) |>.symm
      obtain rfl : fn = Tryd.f4 := (Option.some.inj (Tryd.func4.symm.trans hfn)).symm
      exact ⟨by kernel_rfl, fun j t ht => by
        rw [show Tryd.f4.params = #[22, 32] by kernel_rfl] at ht
        have h3 : t = 22 ∨ t = 32 := by
          rcases j with _ | _ | j
          · exact Or.inl (by simpa using ht.symm)
          · exact Or.inr ((by simpa using ht.symm))
          · simp at ht
        rcases h3 with rfl | rfl
        · exact (show Tryd.prog.wantsStandIn 22 = false by kernel_rfl)
        · exact (show Tryd.prog.wantsStandIn 32 = false by kernel_rfl)⟩)
    (by kernel_rfl)
end Go.Proofs.YtfiohpojlgkmkaaDoor.O
namespace Go.Proofs.YtfiohpojlgkmkaaDoor
theorem back_said : Rows.SimdiskBackCardSaid := O.simdiskBack_said
end Go.Proofs.YtfiohpojlgkmkaaDoor
