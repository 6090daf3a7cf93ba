/- PROVED: the law ProducersNames of package gazettelaw15 returns true; it has no argument and no condition. -/
import Derived.Test.YtjdnbdgekkdlgaaProg
import Derived.KernelRfl
import Derived.Test.YtjdnbdgekkdlgaaRows
import Derived.Test.YtjdnbdgekkdlgaaChecked
import Derived.ProofKit
import Derived.Test.YtjdnbdgekkdlgaaE9
set_option linter.unusedVariables false
set_option linter.unusedSimpArgs false
/-! ProducersNames: the calls that the law makes, each reckoned by itself. -/
namespace Go.Proofs.Ytjdnbdgekkdlgaa
open Go.Ax
set_option maxRecDepth 1000000
theorem Try.mixed : Try.prog.follows .mixedOrders = true := by kernel_rfl
def rho0 : Go.Shelf.Ren := ⟨fun f => match f with | 22 => 40 | 29 => 43 | 30 => 44 | x => x, fun t => match t with | 24 => 24 | 9 => 39 | x => x, fun x => x⟩
theorem lay0 : InsLay Try.prog rho0 4 32 ((Try.prog.info? 39).bind (·.zero) |>.getD undef) "slices.Insert[[]gazette/api.Producer,gazette/api.Producer]" where
  mixed := by kernel_rfl
  f22 := by kernel_rfl
  ov := fun w args => by
    rw [show rho0.f 29 = 43 from rfl, run_callFunc_extern (P := Try.prog) (f := 43) (fn := Try.f43) Try.func43 (by kernel_rfl) (by kernel_rfl) (by kernel_rfl) (e := Extern.SlicesOverlaps.overlaps #[24, 24] #[4]) (by kernel_rfl)]
    rfl
  t0 := by kernel_rfl
  a0 := fun w => by kernel_rfl
  z0 := fun w => by kernel_rfl
  v0 := fun w => by kernel_rfl
  t3 := by kernel_rfl
  a3 := fun w => by kernel_rfl
  z3 := fun w => by kernel_rfl
  v3 := fun w => by kernel_rfl
  t4 := by kernel_rfl
  a4 := fun w => by kernel_rfl
  z4 := fun w => by kernel_rfl
  v4 := fun w => by kernel_rfl
  t24 := by kernel_rfl
  a24 := fun w => by kernel_rfl
  z24 := fun w => by kernel_rfl
  v24 := fun w => by kernel_rfl
  z9 := fun w => by kernel_rfl
  i9s := by kernel_rfl
  i9 := by kernel_rfl
  pos := by decide
  zc := by kernel_rfl
noncomputable def cloH : HintsT Try.prog := withInsC (closedH Try.prog (sh1 30 1 4 1 noSh)) lay0
-- gazette/gazettelaw15.lives, cost 8341
theorem k0 : ACall Try.prog 9 [] [] (.s (.bool true)) [] [] := memo_of Try.mixed (ht := withMemo cloH []) 300 (by kernel_rfl)
noncomputable def e0 : Memo Try.prog := ⟨_, _, _, _, _, _, k0⟩
-- slices.BinarySearchFunc[[]gazette/api.Producer,gazette/api.Producer,gazette/api.Producer], cost 5969
theorem k1 : ACall Try.prog 37 [.own 4 4 0 1, .agg [.s (.int .u64 5), .s (.int .u64 1), .s (.bool true), .s (.int .u64 2)], .fn (.func 38) [] []] [.dead, .dead, .dead, .dead, .lst 39 4 1 none [.s (.int .u64 7), .s (.int .u64 3), .s (.bool true), .s (.int .u64 9)]] (.tup [.s (.int .i64 0), .s (.bool false)]) [.dead, .dead, .dead, .dead, .lst 39 4 1 none [.s (.int .u64 7), .s (.int .u64 3), .s (.bool true), .s (.int .u64 9)]] [] := memo_of Try.mixed (ht := withMemo cloH []) 300 (by kernel_rfl)
noncomputable def e1 : Memo Try.prog := ⟨_, _, _, _, _, _, k1⟩
-- gazette/producers.take, cost 15588
theorem k2 : ACall Try.prog 26 [.own 0 4 0 1, .agg [.s (.int .u64 5), .s (.int .u64 1), .s (.bool true), .s (.int .u64 2)]] [.lst 39 4 1 (some 1) [.s (.int .u64 7), .s (.int .u64 3), .s (.bool true), .s (.int .u64 9)]] (.tup [.own 1 4 0 2, .s (.int .i64 0)]) [.lst 39 4 1 (some 1) [.s (.int .u64 7), .s (.int .u64 3), .s (.bool true), .s (.int .u64 9)], .lst 39 4 2 none [.s (.int .u64 5), .s (.int .u64 1), .s (.bool true), .s (.int .u64 2), .s (.int .u64 7), .s (.int .u64 3), .s (.bool true), .s (.int .u64 9)]] [] := memo_of Try.mixed (ht := withMemo cloH [e1]) 300 (by kernel_rfl)
noncomputable def e2 : Memo Try.prog := ⟨_, _, _, _, _, _, k2⟩
-- gazette/producers.Move, cost 10752
theorem k3 : ACall Try.prog 19 [.own 2 4 0 2, .own 3 1 0 4] [.dead, .dead, .lst 39 4 2 (some 2) [.s (.int .u64 5), .s (.int .u64 1), .s (.bool true), .s (.int .u64 2), .s (.int .u64 7), .s (.int .u64 3), .s (.bool true), .s (.int .u64 0)], .lst 26 1 4 (some 4) [.s (.int .u64 0), .s (.int .u64 1), .s (.int .u64 1), .s (.int .u64 1)]] (.own 4 4 0 2) [.dead, .dead, .lst 39 4 2 (some 2) [.s (.int .u64 5), .s (.int .u64 1), .s (.bool true), .s (.int .u64 2), .s (.int .u64 7), .s (.int .u64 3), .s (.bool true), .s (.int .u64 0)], .lst 26 1 4 (some 4) [.s (.int .u64 0), .s (.int .u64 1), .s (.int .u64 1), .s (.int .u64 1)], .lst 39 4 2 none [.s (.int .u64 5), .s (.int .u64 1), .s (.bool false), .s (.int .u64 0), .s (.int .u64 7), .s (.int .u64 3), .s (.bool true), .s (.int .u64 0)]] [7] := memo_of Try.mixed (ht := withMemo cloH []) 300 (by kernel_rfl)
noncomputable def e3 : Memo Try.prog := ⟨_, _, _, _, _, _, k3⟩
-- gazette/producers.Move, cost 6353
theorem k4 : ACall Try.prog 19 [.own 5 4 0 1, .own 7 1 0 2] [.dead, .dead, .dead, .dead, .dead, .lst 39 4 1 (some 1) [.s (.int .u64 5), .s (.int .u64 1), .s (.bool true), .s (.int .u64 0)], .dead, .lst 26 1 2 (some 2) [.s (.int .u64 0), .s (.int .u64 2)], .dead] (.own 9 4 0 1) [.dead, .dead, .dead, .dead, .dead, .lst 39 4 1 (some 1) [.s (.int .u64 5), .s (.int .u64 1), .s (.bool true), .s (.int .u64 0)], .dead, .lst 26 1 2 (some 2) [.s (.int .u64 0), .s (.int .u64 2)], .dead, .lst 39 4 1 none [.s (.int .u64 5), .s (.int .u64 1), .s (.bool true), .s (.int .u64 0)]] [] := memo_of Try.mixed (ht := withMemo cloH []) 300 (by kernel_rfl)
noncomputable def e4 : Memo Try.prog := ⟨_, _, _, _, _, _, k4⟩
-- gazette/producers.Move, cost 6420
theorem k5 : ACall Try.prog 19 [.own 6 4 0 1, .own 8 1 0 2] [.dead, .dead, .dead, .dead, .dead, .dead, .lst 39 4 1 (some 1) [.s (.int .u64 5), .s (.int .u64 2), .s (.bool true), .s (.int .u64 0)], .dead, .lst 26 1 2 (some 2) [.s (.int .u64 1), .s (.int .u64 2)], .dead] (.own 10 4 0 1) [.dead, .dead, .dead, .dead, .dead, .dead, .lst 39 4 1 (some 1) [.s (.int .u64 5), .s (.int .u64 2), .s (.bool true), .s (.int .u64 0)], .dead, .lst 26 1 2 (some 2) [.s (.int .u64 1), .s (.int .u64 2)], .dead, .lst 39 4 1 none [.s (.int .u64 5), .s (.int .u64 2), .s (.bool true), .s (.int .u64 1)]] [] := memo_of Try.mixed (ht := withMemo cloH []) 300 (by kernel_rfl)
noncomputable def e5 : Memo Try.prog := ⟨_, _, _, _, _, _, k5⟩
-- gazette/producers.put, cost 6830
theorem k6 : ACall Try.prog 30 [.own 9 4 0 1, .agg [.s (.int .u64 5), .s (.int .u64 2), .s (.bool true), .s (.int .u64 1)]] [.dead, .dead, .dead, .dead, .dead, .dead, .dead, .dead, .dead, .lst 39 4 1 none [.s (.int .u64 5), .s (.int .u64 1), .s (.bool true), .s (.int .u64 0)], .dead, .dead, .dead] (.own 13 4 0 1) [.dead, .dead, .dead, .dead, .dead, .dead, .dead, .dead, .dead, .lst 39 4 1 none [.s (.int .u64 5), .s (.int .u64 1), .s (.bool true), .s (.int .u64 0)], .dead, .dead, .dead, .lst 39 4 1 none [.s (.int .u64 5), .s (.int .u64 2), .s (.bool true), .s (.int .u64 1)]] [14, 14] := memo_of Try.mixed (ht := withMemo cloH []) 300 (by kernel_rfl)
noncomputable def e6 : Memo Try.prog := ⟨_, _, _, _, _, _, k6⟩
-- gazette/producers.Both, cost 16539
theorem k7 : ACall Try.prog 20 [.own 5 4 0 1, .own 6 4 0 1, .own 7 1 0 2, .own 8 1 0 2] [.dead, .dead, .dead, .dead, .dead, .lst 39 4 1 (some 1) [.s (.int .u64 5), .s (.int .u64 1), .s (.bool true), .s (.int .u64 0)], .lst 39 4 1 (some 1) [.s (.int .u64 5), .s (.int .u64 2), .s (.bool true), .s (.int .u64 0)], .lst 26 1 2 (some 2) [.s (.int .u64 0), .s (.int .u64 2)], .lst 26 1 2 (some 2) [.s (.int .u64 1), .s (.int .u64 2)]] (.tup [.own 9 4 0 1, .s (.int .i64 0)]) [.dead, .dead, .dead, .dead, .dead, .lst 39 4 1 (some 1) [.s (.int .u64 5), .s (.int .u64 1), .s (.bool true), .s (.int .u64 0)], .lst 39 4 1 (some 1) [.s (.int .u64 5), .s (.int .u64 2), .s (.bool true), .s (.int .u64 0)], .lst 26 1 2 (some 2) [.s (.int .u64 0), .s (.int .u64 2)], .lst 26 1 2 (some 2) [.s (.int .u64 1), .s (.int .u64 2)], .lst 39 4 1 none [.s (.int .u64 5), .s (.int .u64 2), .s (.bool true), .s (.int .u64 1)]] [] := memo_of Try.mixed (ht := withMemo cloH [e4, e5, e6]) 300 (by kernel_rfl)
noncomputable def e7 : Memo Try.prog := ⟨_, _, _, _, _, _, k7⟩
-- gazette/producers.take, cost 9816
theorem k8 : ACall Try.prog 26 [.own 0 4 0 1, .agg [.s (.int .u64 0), .s (.int .u64 1), .s (.bool true), .s (.int .u64 0)]] [.lst 39 4 1 (some 1) [.s (.int .u64 7), .s (.int .u64 3), .s (.bool true), .s (.int .u64 9)], .dead, .dead, .dead, .dead, .dead, .dead, .dead, .dead, .dead] (.tup [.s (.slice none 0 0), .s (.int .i64 151)]) [.lst 39 4 1 (some 1) [.s (.int .u64 7), .s (.int .u64 3), .s (.bool true), .s (.int .u64 9)], .dead, .dead, .dead, .dead, .dead, .dead, .dead, .dead, .dead] [] := memo_of Try.mixed (ht := withMemo cloH []) 300 (by kernel_rfl)
noncomputable def e8 : Memo Try.prog := ⟨_, _, _, _, _, _, k8⟩
-- gazette/producers.take, cost 13920
theorem k9 : ACall Try.prog 26 [.own 0 4 0 1, .agg [.s (.int .u64 7), .s (.int .u64 3), .s (.bool true), .s (.int .u64 0)]] [.lst 39 4 1 (some 1) [.s (.int .u64 7), .s (.int .u64 3), .s (.bool true), .s (.int .u64 9)], .dead, .dead, .dead, .dead, .dead, .dead, .dead, .dead, .dead] (.tup [.s (.slice none 0 0), .s (.int .i64 152)]) [.lst 39 4 1 (some 1) [.s (.int .u64 7), .s (.int .u64 3), .s (.bool true), .s (.int .u64 9)], .dead, .dead, .dead, .dead, .dead, .dead, .dead, .dead, .dead] [] := memo_of Try.mixed (ht := withMemo cloH []) 300 (by kernel_rfl)
noncomputable def e9 : Memo Try.prog := ⟨_, _, _, _, _, _, k9⟩
-- gazette/producers.take, cost 12749
theorem k10 : ACall Try.prog 26 [.own 10 4 0 1, .agg [.s (.int .u64 7), .s (.int .u64 3), .s (.bool true), .s (.int .u64 0)]] [.dead, .dead, .dead, .dead, .dead, .dead, .dead, .dead, .dead, .dead, .lst 39 4 1 (some 1) [.s (.int .u64 1), .s (.int .u64 0), .s (.bool false), .s (.int .u64 0)]] (.tup [.s (.slice none 0 0), .s (.int .i64 1)]) [.dead, .dead, .dead, .dead, .dead, .dead, .dead, .dead, .dead, .dead, .lst 39 4 1 (some 1) [.s (.int .u64 1), .s (.int .u64 0), .s (.bool false), .s (.int .u64 0)]] [] := memo_of Try.mixed (ht := withMemo cloH []) 300 (by kernel_rfl)
noncomputable def e10 : Memo Try.prog := ⟨_, _, _, _, _, _, k10⟩
-- gazette/gazettelaw15.ProducersNames, cost 45154
theorem k11 : ACall Try.prog 8 [] [] (.s (.bool true)) [] [] := memo_of Try.mixed (ht := withMemo cloH [e0, e2, e3, e7, e8, e9, e10]) 300 (by kernel_rfl)
noncomputable def e11 : Memo Try.prog := ⟨_, _, _, _, _, _, k11⟩
end Go.Proofs.Ytjdnbdgekkdlgaa

/-! Producers: from the statement to ProducersNames. -/
namespace Go.Proofs.Ytjdnbdgekkdlgaa
open Go.Ax Go.Shelf Go.RowKit Go.ChangeShapes Go.WideShapes Go.ChangeAt
set_option maxRecDepth 1000000
theorem Try.own : ownKnob Try.prog.godebug = Option.none := by kernel_rfl
theorem names_lifted (os : Os) (started : os.Started) (H : Type) (enc : TypeId × Value → H) :
    ReturnsInHanded {} Try.checked os 8 .any (Rows.producersNamesSpec.pre6 enc Try.prog Try.f8 Rows.producersNamesRow.domain false) (Rows.producersNamesSpec.post enc Try.prog Try.f8 false true false false) := by
  refine returnsInHanded_of_change (C := Try.checked) Try.own started (by kernel_rfl) Try.func8
    (ChangeSpec.witness6 (enc := enc) (C := Try.checked) false ⟨#[], #[], []⟩ 8 (by kernel_rfl) (by kernel_rfl) (by kernel_rfl) (by kernel_rfl)) ?_
  intro W base args ds gs before hval0 hW hcnd _
  exact Go.Ax.closed_calls k11 (by kernel_rfl) (t := 4) (by kernel_rfl) (by kernel_rfl) rfl rfl hW
theorem producersNames_said : Rows.ProducersNamesSaid :=
  OpenClaim.holds_of_wide 8 Try.f8 rfl rfl rfl rfl rfl rfl rfl ⟨rfl, rfl, rfl, rfl, rfl⟩ rfl rfl rfl rfl rfl (by kernel_rfl) Try.func8 (by kernel_rfl)
    (of_decide_eq_true (by kernel_rfl)) (by unfold Func.isWrapper; first | (rw [if_pos (by decide +kernel)]; kernel_rfl) | (rw [if_neg (by decide +kernel)]; exact ⟨rfl, rfl⟩))
    (fun os started H enc _ => names_lifted os started H enc)
end Go.Proofs.Ytjdnbdgekkdlgaa
