import Derived.Test.YtckklclehofddaaDoorRows
import Derived.Test.YtckklclehofddaaDoorTie
import Derived.Test.YtckklclehofddaaDoorCards
import Derived.OpenShut
import Derived.Lay
import Derived.Handed
import Derived.SevenTiedAt
import Derived.Test.YtckklclehofddaaDoorE13
import Derived.Test.YtckklclehofddaaDoorW3
import Derived.Test.YtckklclehofddaaDoorW6
set_option linter.unusedVariables false
set_option linter.unusedSimpArgs false
set_option linter.unusedSectionVars false
namespace Go.Proofs.YtckklclehofddaaDoor.Q
open Go.Ax Go.Proofs.YtckklclehofddaaDoor Go.Proofs.YtckklclehofddaaDoor.H Go.Proofs.YtckklclehofddaaDoor.D
set_option maxRecDepth 1000000
def ptO (p : Part) : List Blk := [rowR p.recs, rowPr p.prods, rowC p.cons]
def partO (p : Part) : T An := .ret (.agg (ptW p 0 1 2), ptO p, [])
theorem kr1_c (b : Bool) (r : Rng) (l : List Rec) (h1 : isLog l = true) (h2 : chkK r = 0) : (keR (ke r l).end).Sat (ACall' Tryd.prog 43 [encRs b l, .agg (encG r)] []) := by
  have hl := log_len h1
  have := keepr_c b r l (by omega)
  unfold keT at this
  rw [h1, h2] at this
  intro Q hq
  exact this Q ⟨fun _ => hq, fun e => by simp at e⟩
noncomputable def kr1C (b : Bool) (r : Rng) (l : List Rec) : Ctr Tryd.prog := ⟨43, [encRs b l, .agg (encG r)], [], .need (isLog l = true ∧ chkK r = 0) (keR (ke r l).end), T.Sat.need fun h => kr1_c b r l h.1 h.2⟩
noncomputable def qpH (p : Part) (r : Rng) : HintsT Tryd.prog := withSh (hh _ noLp (cs1 25 1 3 (kr1C true r p.recs) (cs1 25 2 8 (P.rmoveN true false p.prods (toOf r p.recs)) (cs1 25 2 12 (mrC true false p.cons (toOf r p.recs)) noCs))) noOp) noSh
def vcQp (p : Part) (r : Rng) : Prop :=
  ((true = true ∧ List.length p.recs = List.length p.recs ∧ contLe (List.length p.recs) (5 : Nat) (cellsOf' encR p.recs) (cellsOf' encR p.recs)) ∧ (r.lo = r.lo ∧ r.hi = r.hi ∧ True) ∧ True) ∧ True ∧ (isLog p.recs = true ∧ chkK r = (0 : Int)) ∧ ((true = true ∧ List.length p.prods = List.length p.prods ∧ contLe (List.length p.prods) (4 : Nat) (cellsOf' P.encP p.prods) (cellsOf' P.encP p.prods)) ∧ (false = false ∧ List.length ((ke r p.recs).to ++ [IntKind.wrap IntKind.u64 (↑(List.length (ke r p.recs).out) : Int)]) = List.length (toOf r p.recs) ∧ contLe (List.length ((ke r p.recs).to ++ [IntKind.wrap IntKind.u64 (↑(List.length (ke r p.recs).out) : Int)])) (1 : Nat) (Ax.rowAt (0 : Nat) (cellsOf' encU ((ke r p.recs).to ++ [IntKind.wrap IntKind.u64 (↑(List.length (ke r p.recs).out) : Int)]))) (cellsOf' P.encI (toOf r p.recs))) ∧ True) ∧ True ∧ (List.length p.prods * (32 : Nat) ≤ (140737488355200 : Nat) ∧ List.length (toOf r p.recs) ≤ (9223372036854775806 : Nat) ∧ ∀ (x : P.Producer), x ∈ p.prods → (0 : Int) ≤ x.offset ∧ x.offset < (18446744073709551616 : Int)) ∧ true = true ∧ ((∀ (k : Nat), k < List.length (P.moveL p.prods (toOf r p.recs)) → ∀ (j : Nat), j < (4 : Nat) → tagT (cellsOf' P.encP (P.moveL p.prods (toOf r p.recs)) k j) = true) ∧ True) ∧ ((true = true ∧ List.length p.cons = List.length p.cons ∧ contLe (List.length p.cons) (2 : Nat) (cellsOf' encC p.cons) (cellsOf' encC p.cons)) ∧ (false = false ∧ List.length ((ke r p.recs).to ++ [IntKind.wrap IntKind.u64 (↑(List.length (ke r p.recs).out) : Int)]) = List.length (toOf r p.recs) ∧ contLe (List.length ((ke r p.recs).to ++ [IntKind.wrap IntKind.u64 (↑(List.length (ke r p.recs).out) : Int)])) (1 : Nat) (Ax.rowAt (0 : Nat) (cellsOf' encU ((ke r p.recs).to ++ [IntKind.wrap IntKind.u64 (↑(List.length (ke r p.recs).out) : Int)]))) (cellsOf' encU (toOf r p.recs))) ∧ True) ∧ True ∧ (List.length (toOf r p.recs) ≤ (9223372036854775806 : Nat) ∧ List.length p.cons * (24 : Nat) ≤ (140737488355200 : Nat) ∧ ∀ (x : Con), x ∈ p.cons → (0 : Int) ≤ x.off ∧ x.off < (18446744073709551616 : Int)) ∧ true = true ∧ ((∀ (k : Nat), k < List.length (mapU p.cons (toOf r p.recs) (List.length p.cons)) → ∀ (j : Nat), j < (2 : Nat) → tagT (cellsOf' encC (mapU p.cons (toOf r p.recs) (List.length p.cons)) k j) = true) ∧ True) ∧ (r.lo = r.lo ∧ r.hi = r.hi ∧ IntKind.wrap IntKind.u64 (p.epoch + (1 : Int)) = IntKind.wrap IntKind.u64 (p.epoch + (1 : Int)) ∧ (0 : Int) = (0 : Int) ∧ ((0 : Nat) = (0 : Nat) ∧ List.length (ke r p.recs).out = List.length (outOf r p.recs)) ∧ ((0 : Nat) = (0 : Nat) ∧ List.length (P.moveL p.prods (toOf r p.recs)) = List.length (P.moveL p.prods (toOf r p.recs))) ∧ ((0 : Nat) = (0 : Nat) ∧ List.length (mapU p.cons (toOf r p.recs) (List.length p.cons)) = List.length (mapU p.cons (toOf r p.recs) (List.length p.cons))) ∧ True) ∧ (List.length (ke r p.recs).out = List.length (outOf r p.recs) ∧ contLe (List.length (ke r p.recs).out) (5 : Nat) (cellsOf' encR (ke r p.recs).out) (cellsOf' encR (outOf r p.recs))) ∧ (List.length (P.moveL p.prods (toOf r p.recs)) = List.length (P.moveL p.prods (toOf r p.recs)) ∧ contLe (List.length (P.moveL p.prods (toOf r p.recs))) (4 : Nat) (cellsOf' P.encP (P.moveL p.prods (toOf r p.recs))) (cellsOf' P.encP (P.moveL p.prods (toOf r p.recs)))) ∧ (List.length (mapU p.cons (toOf r p.recs) (List.length p.cons)) = List.length (mapU p.cons (toOf r p.recs) (List.length p.cons)) ∧ contLe (List.length (mapU p.cons (toOf r p.recs) (List.length p.cons))) (2 : Nat) (cellsOf' encC (mapU p.cons (toOf r p.recs) (List.length p.cons))) (cellsOf' encC (mapU p.cons (toOf r p.recs) (List.length p.cons)))) ∧ True
theorem vcQp_eq (p : Part) (r : Rng) : (ctrVC Tryd.prog (qpH p r) 25 [.agg (encPt true p), .agg (encG r)] [] (partO (partOf p r))) = vcQp p r := by kernel_rfl
theorem qp_c (p : Part) (r : Rng) (h : PartTy p) (h1 : isLog p.recs = true) (h2 : P.isTable p.prods = true) (h3 : isCons p.cons = true) (h4 : chkK r = 0) : (partO (partOf p r)).Sat (ACall' Tryd.prog 25 [.agg (encPt true p), .agg (encG r)] []) := by
  refine ctr_vc (ht := qpH p r) Tryd.mixed rfl ?_
  rw [vcQp_eq p r]
  unfold vcQp
  have q1 := log_len h1
  have q2 : p.prods.length ≤ 256 := by simp [P.isTable] at h2; exact h2.2
  have q3 : p.cons.length ≤ 64 := by simp [isCons] at h3; exact h3.2
  obtain ⟨q4, q5⟩ := ke_len' r p.recs
  have e1 : (ke r p.recs).to ++ [IntKind.u64.wrap ((ke r p.recs).out.length : Nat)] = toOf r p.recs := rfl
  have e2 : (ke r p.recs).out = outOf r p.recs := rfl
  have e3 : (toOf r p.recs).length = p.recs.length + 1 := by rw [← e1]; simp [q4]
  have e4 : cellsOf' P.encI (toOf r p.recs) = cellsOf' encU (toOf r p.recs) := rfl
  have e5 : (P.moveL p.prods (toOf r p.recs)).length = p.prods.length := by simp [P.moveL]
  rw [e1]
  simp only [h1, h4, e2, e4, rowAt_zero]
  have t2 : ∀ (k : Nat), k < (P.moveL p.prods (toOf r p.recs)).length → ∀ (j : Nat), j < 4 → tagT (cellsOf' P.encP (P.moveL p.prods (toOf r p.recs)) k j) = true := fun k _ j hj => tagP _ j hj
  have t3 : ∀ (k : Nat), k < (mapU p.cons (toOf r p.recs) p.cons.length).length → ∀ (j : Nat), j < 2 → tagT (cellsOf' encC (mapU p.cons (toOf r p.recs) p.cons.length) k j) = true := fun k _ j hj => Go.Proofs.YtckklclehofddaaDoor.D.tagC _ j hj
  have t1 : ∀ (k : Nat), k < (outOf r p.recs).length → ∀ (j : Nat), j < 5 → tagT (cellsOf' encR (outOf r p.recs) k j) = true := fun k _ j hj => tagR _ j hj
  have g1 : p.prods.length * 32 ≤ 140737488355200 := by omega
  have g2 : (toOf r p.recs).length ≤ 9223372036854775806 := by omega
  have g3 : p.cons.length * 24 ≤ 140737488355200 := by omega
  have g4 := h.po
  have g5 : wfC p.cons := h.co
  simp only [contLe_refl, partOf, and_true, true_and]
  repeat' with_reducible apply And.intro
  all_goals first
    | rfl
    | trivial
    | assumption
    | (intro k _ q _ j hj; exact (by (obtain rfl : j = 0 := by omega); rfl))
    | (intro k _; simp; done)
noncomputable def qpC (p : Part) (r : Rng) : Ctr Tryd.prog := ⟨25, [.agg (encPt true p), .agg (encG r)], [], .need (PartTy p ∧ isLog p.recs = true ∧ P.isTable p.prods = true ∧ isCons p.cons = true ∧ chkK r = 0) (partO (partOf p r)), T.Sat.need fun h => qp_c p r h.1 h.2.1 h.2.2.1 h.2.2.2.1 h.2.2.2.2⟩
def okO2 (A B : Part) : T An := .ret (.tup [.agg (ptW A 0 1 2), .agg (ptW B 3 4 5), .s (.int .i64 0)], ptO A ++ ptO B, [])
def splitO (p : Part) (k : ByteArray) : T An := .ite (splitE p k == 0) (okO2 (partOf p (rLow p.rng k)) (partOf p (rHigh p.rng k)))
  (.ret (.tup [.agg (encPt true default), .agg (encPt true default), .y (.int .i64 (splitE p k))], [], []))
noncomputable def sroH (p : Part) (k : ByteArray) : HintsT Tryd.prog := withSh (hh _ noLp (cs1 8 1 1 (ckC true p) (cs1 8 5 3 (ds2C p.rng k) (cs1 8 8 2 (qpC p (rLow p.rng k)) (cs1 8 8 5 (qpC p (rHigh p.rng k)) noCs)))) noOp) noSh
def vcSro (p : Part) (k : ByteArray) : Prop :=
  ((p.rng.lo = p.rng.lo ∧ p.rng.hi = p.rng.hi ∧ p.epoch = p.epoch ∧ p.frozen = p.frozen ∧ (true = true ∧ List.length p.recs = List.length p.recs ∧ contLe (List.length p.recs) (5 : Nat) (cellsOf' encR p.recs) (cellsOf' encR p.recs)) ∧ (true = true ∧ List.length p.prods = List.length p.prods ∧ contLe (List.length p.prods) (4 : Nat) (cellsOf' P.encP p.prods) (cellsOf' P.encP p.prods)) ∧ (true = true ∧ List.length p.cons = List.length p.cons ∧ contLe (List.length p.cons) (2 : Nat) (cellsOf' encC p.cons) (cellsOf' encC p.cons)) ∧ True) ∧ True) ∧ True ∧ CkOk p ∧ (partOk p = true → ((IntKind.wrap IntKind.u64 (p.epoch + (1 : Int)) == (0 : Int)) = true → ((D.splitE p k == (0 : Int)) = true → (({ data := #[] : ByteArray } = p.rng.lo ∧ { data := #[] : ByteArray } = k ∧ (0 : Int) = IntKind.wrap IntKind.u64 (p.epoch + (1 : Int)) ∧ (0 : Int) = (0 : Int) ∧ False ∧ False ∧ False ∧ True) ∧ ({ data := #[] : ByteArray } = k ∧ { data := #[] : ByteArray } = p.rng.hi ∧ (0 : Int) = IntKind.wrap IntKind.u64 (p.epoch + (1 : Int)) ∧ (0 : Int) = (0 : Int) ∧ False ∧ False ∧ False ∧ True) ∧ (172 : Int) = (0 : Int) ∧ True) ∧ False) ∧ ((D.splitE p k == (0 : Int)) = false → (({ data := #[] : ByteArray } = ByteArray.empty ∧ { data := #[] : ByteArray } = ByteArray.empty ∧ (0 : Int) = (0 : Int) ∧ (0 : Int) = (0 : Int) ∧ (0 : Nat) = (0 : Nat) ∧ (0 : Nat) = (0 : Nat) ∧ (0 : Nat) = (0 : Nat) ∧ True) ∧ ({ data := #[] : ByteArray } = ByteArray.empty ∧ { data := #[] : ByteArray } = ByteArray.empty ∧ (0 : Int) = (0 : Int) ∧ (0 : Int) = (0 : Int) ∧ (0 : Nat) = (0 : Nat) ∧ (0 : Nat) = (0 : Nat) ∧ (0 : Nat) = (0 : Nat) ∧ True) ∧ (172 : Int) = D.splitE p k ∧ True) ∧ True)) ∧ ((IntKind.wrap IntKind.u64 (p.epoch + (1 : Int)) == (0 : Int)) = false → ((p.frozen == (0 : Int)) = true → ((D.splitE p k == (0 : Int)) = true → (({ data := #[] : ByteArray } = p.rng.lo ∧ { data := #[] : ByteArray } = k ∧ (0 : Int) = IntKind.wrap IntKind.u64 (p.epoch + (1 : Int)) ∧ (0 : Int) = (0 : Int) ∧ False ∧ False ∧ False ∧ True) ∧ ({ data := #[] : ByteArray } = k ∧ { data := #[] : ByteArray } = p.rng.hi ∧ (0 : Int) = IntKind.wrap IntKind.u64 (p.epoch + (1 : Int)) ∧ (0 : Int) = (0 : Int) ∧ False ∧ False ∧ False ∧ True) ∧ (171 : Int) = (0 : Int) ∧ True) ∧ False) ∧ ((D.splitE p k == (0 : Int)) = false → (({ data := #[] : ByteArray } = ByteArray.empty ∧ { data := #[] : ByteArray } = ByteArray.empty ∧ (0 : Int) = (0 : Int) ∧ (0 : Int) = (0 : Int) ∧ (0 : Nat) = (0 : Nat) ∧ (0 : Nat) = (0 : Nat) ∧ (0 : Nat) = (0 : Nat) ∧ True) ∧ ({ data := #[] : ByteArray } = ByteArray.empty ∧ { data := #[] : ByteArray } = ByteArray.empty ∧ (0 : Int) = (0 : Int) ∧ (0 : Int) = (0 : Int) ∧ (0 : Nat) = (0 : Nat) ∧ (0 : Nat) = (0 : Nat) ∧ (0 : Nat) = (0 : Nat) ∧ True) ∧ (171 : Int) = D.splitE p k ∧ True) ∧ True)) ∧ ((p.frozen == (0 : Int)) = false → ((p.rng.lo = p.rng.lo ∧ p.rng.hi = p.rng.hi ∧ True) ∧ k = k ∧ True) ∧ True ∧ ByteArray.size k ≤ (9223372036854775807 : Nat) ∧ ((splE p.rng k == (0 : Int)) = true → ((p.rng.lo = p.rng.lo ∧ p.rng.hi = p.rng.hi ∧ p.epoch = p.epoch ∧ p.frozen = p.frozen ∧ (true = true ∧ List.length p.recs = List.length p.recs ∧ contLe (List.length p.recs) (5 : Nat) (cellsOf' encR p.recs) (cellsOf' encR p.recs)) ∧ (true = true ∧ List.length p.prods = List.length p.prods ∧ contLe (List.length p.prods) (4 : Nat) (cellsOf' P.encP p.prods) (cellsOf' P.encP p.prods)) ∧ (true = true ∧ List.length p.cons = List.length p.cons ∧ contLe (List.length p.cons) (2 : Nat) (cellsOf' encC p.cons) (cellsOf' encC p.cons)) ∧ True) ∧ (p.rng.lo = p.rng.lo ∧ k = k ∧ True) ∧ True) ∧ True ∧ (PartTy p ∧ isLog p.recs = true ∧ P.isTable p.prods = true ∧ isCons p.cons = true ∧ chkK (rLow p.rng k) = (0 : Int)) ∧ ((p.rng.lo = p.rng.lo ∧ p.rng.hi = p.rng.hi ∧ p.epoch = p.epoch ∧ p.frozen = p.frozen ∧ (true = true ∧ List.length p.recs = List.length p.recs ∧ contLe (List.length p.recs) (5 : Nat) (cellsOf' encR p.recs) (cellsOf' encR p.recs)) ∧ (true = true ∧ List.length p.prods = List.length p.prods ∧ contLe (List.length p.prods) (4 : Nat) (cellsOf' P.encP p.prods) (cellsOf' P.encP p.prods)) ∧ (true = true ∧ List.length p.cons = List.length p.cons ∧ contLe (List.length p.cons) (2 : Nat) (cellsOf' encC p.cons) (cellsOf' encC p.cons)) ∧ True) ∧ (k = k ∧ p.rng.hi = p.rng.hi ∧ True) ∧ True) ∧ True ∧ (PartTy p ∧ isLog p.recs = true ∧ P.isTable p.prods = true ∧ isCons p.cons = true ∧ chkK (rHigh p.rng k) = (0 : Int)) ∧ ((D.splitE p k == (0 : Int)) = true → ((p.rng.lo = p.rng.lo ∧ k = k ∧ IntKind.wrap IntKind.u64 (p.epoch + (1 : Int)) = IntKind.wrap IntKind.u64 (p.epoch + (1 : Int)) ∧ (0 : Int) = (0 : Int) ∧ ((0 : Nat) = (0 : Nat) ∧ List.length (outOf (rLow p.rng k) p.recs) = List.length (outOf (rLow p.rng k) p.recs)) ∧ ((0 : Nat) = (0 : Nat) ∧ List.length (P.moveL p.prods (toOf (rLow p.rng k) p.recs)) = List.length (P.moveL p.prods (toOf (rLow p.rng k) p.recs))) ∧ ((0 : Nat) = (0 : Nat) ∧ List.length (mapU p.cons (toOf (rLow p.rng k) p.recs) (List.length p.cons)) = List.length (mapU p.cons (toOf (rLow p.rng k) p.recs) (List.length p.cons))) ∧ True) ∧ (k = k ∧ p.rng.hi = p.rng.hi ∧ IntKind.wrap IntKind.u64 (p.epoch + (1 : Int)) = IntKind.wrap IntKind.u64 (p.epoch + (1 : Int)) ∧ (0 : Int) = (0 : Int) ∧ ((0 : Nat) = (0 : Nat) ∧ List.length (outOf (rHigh p.rng k) p.recs) = List.length (outOf (rHigh p.rng k) p.recs)) ∧ ((0 : Nat) = (0 : Nat) ∧ List.length (P.moveL p.prods (toOf (rHigh p.rng k) p.recs)) = List.length (P.moveL p.prods (toOf (rHigh p.rng k) p.recs))) ∧ ((0 : Nat) = (0 : Nat) ∧ List.length (mapU p.cons (toOf (rHigh p.rng k) p.recs) (List.length p.cons)) = List.length (mapU p.cons (toOf (rHigh p.rng k) p.recs) (List.length p.cons))) ∧ True) ∧ (0 : Int) = (0 : Int) ∧ True) ∧ (List.length (outOf (rLow p.rng k) p.recs) = List.length (outOf (rLow p.rng k) p.recs) ∧ contLe (List.length (outOf (rLow p.rng k) p.recs)) (5 : Nat) (cellsOf' encR (outOf (rLow p.rng k) p.recs)) (cellsOf' encR (outOf (rLow p.rng k) p.recs))) ∧ (List.length (P.moveL p.prods (toOf (rLow p.rng k) p.recs)) = List.length (P.moveL p.prods (toOf (rLow p.rng k) p.recs)) ∧ contLe (List.length (P.moveL p.prods (toOf (rLow p.rng k) p.recs))) (4 : Nat) (cellsOf' P.encP (P.moveL p.prods (toOf (rLow p.rng k) p.recs))) (cellsOf' P.encP (P.moveL p.prods (toOf (rLow p.rng k) p.recs)))) ∧ (List.length (mapU p.cons (toOf (rLow p.rng k) p.recs) (List.length p.cons)) = List.length (mapU p.cons (toOf (rLow p.rng k) p.recs) (List.length p.cons)) ∧ contLe (List.length (mapU p.cons (toOf (rLow p.rng k) p.recs) (List.length p.cons))) (2 : Nat) (cellsOf' encC (mapU p.cons (toOf (rLow p.rng k) p.recs) (List.length p.cons))) (cellsOf' encC (mapU p.cons (toOf (rLow p.rng k) p.recs) (List.length p.cons)))) ∧ (List.length (outOf (rHigh p.rng k) p.recs) = List.length (outOf (rHigh p.rng k) p.recs) ∧ contLe (List.length (outOf (rHigh p.rng k) p.recs)) (5 : Nat) (cellsOf' encR (outOf (rHigh p.rng k) p.recs)) (cellsOf' encR (outOf (rHigh p.rng k) p.recs))) ∧ (List.length (P.moveL p.prods (toOf (rHigh p.rng k) p.recs)) = List.length (P.moveL p.prods (toOf (rHigh p.rng k) p.recs)) ∧ contLe (List.length (P.moveL p.prods (toOf (rHigh p.rng k) p.recs))) (4 : Nat) (cellsOf' P.encP (P.moveL p.prods (toOf (rHigh p.rng k) p.recs))) (cellsOf' P.encP (P.moveL p.prods (toOf (rHigh p.rng k) p.recs)))) ∧ (List.length (mapU p.cons (toOf (rHigh p.rng k) p.recs) (List.length p.cons)) = List.length (mapU p.cons (toOf (rHigh p.rng k) p.recs) (List.length p.cons)) ∧ contLe (List.length (mapU p.cons (toOf (rHigh p.rng k) p.recs) (List.length p.cons))) (2 : Nat) (cellsOf' encC (mapU p.cons (toOf (rHigh p.rng k) p.recs) (List.length p.cons))) (cellsOf' encC (mapU p.cons (toOf (rHigh p.rng k) p.recs) (List.length p.cons)))) ∧ True) ∧ ((D.splitE p k == (0 : Int)) = false → False)) ∧ ((splE p.rng k == (0 : Int)) = false → ((splE p.rng k != (0 : Int)) = true → ((D.splitE p k == (0 : Int)) = true → (({ data := #[] : ByteArray } = p.rng.lo ∧ { data := #[] : ByteArray } = k ∧ (0 : Int) = IntKind.wrap IntKind.u64 (p.epoch + (1 : Int)) ∧ (0 : Int) = (0 : Int) ∧ False ∧ False ∧ False ∧ True) ∧ ({ data := #[] : ByteArray } = k ∧ { data := #[] : ByteArray } = p.rng.hi ∧ (0 : Int) = IntKind.wrap IntKind.u64 (p.epoch + (1 : Int)) ∧ (0 : Int) = (0 : Int) ∧ False ∧ False ∧ False ∧ True) ∧ splE p.rng k = (0 : Int) ∧ True) ∧ False) ∧ ((D.splitE p k == (0 : Int)) = false → (({ data := #[] : ByteArray } = ByteArray.empty ∧ { data := #[] : ByteArray } = ByteArray.empty ∧ (0 : Int) = (0 : Int) ∧ (0 : Int) = (0 : Int) ∧ (0 : Nat) = (0 : Nat) ∧ (0 : Nat) = (0 : Nat) ∧ (0 : Nat) = (0 : Nat) ∧ True) ∧ ({ data := #[] : ByteArray } = ByteArray.empty ∧ { data := #[] : ByteArray } = ByteArray.empty ∧ (0 : Int) = (0 : Int) ∧ (0 : Int) = (0 : Int) ∧ (0 : Nat) = (0 : Nat) ∧ (0 : Nat) = (0 : Nat) ∧ (0 : Nat) = (0 : Nat) ∧ True) ∧ splE p.rng k = D.splitE p k ∧ True) ∧ True)) ∧ ((splE p.rng k != (0 : Int)) = false → ((p.rng.lo = p.rng.lo ∧ p.rng.hi = p.rng.hi ∧ p.epoch = p.epoch ∧ p.frozen = p.frozen ∧ (true = true ∧ List.length p.recs = List.length p.recs ∧ contLe (List.length p.recs) (5 : Nat) (cellsOf' encR p.recs) (cellsOf' encR p.recs)) ∧ (true = true ∧ List.length p.prods = List.length p.prods ∧ contLe (List.length p.prods) (4 : Nat) (cellsOf' P.encP p.prods) (cellsOf' P.encP p.prods)) ∧ (true = true ∧ List.length p.cons = List.length p.cons ∧ contLe (List.length p.cons) (2 : Nat) (cellsOf' encC p.cons) (cellsOf' encC p.cons)) ∧ True) ∧ (ByteArray.empty = p.rng.lo ∧ ByteArray.empty = k ∧ True) ∧ True) ∧ True ∧ (PartTy p ∧ isLog p.recs = true ∧ P.isTable p.prods = true ∧ isCons p.cons = true ∧ chkK (rLow p.rng k) = (0 : Int)) ∧ ((p.rng.lo = p.rng.lo ∧ p.rng.hi = p.rng.hi ∧ p.epoch = p.epoch ∧ p.frozen = p.frozen ∧ (true = true ∧ List.length p.recs = List.length p.recs ∧ contLe (List.length p.recs) (5 : Nat) (cellsOf' encR p.recs) (cellsOf' encR p.recs)) ∧ (true = true ∧ List.length p.prods = List.length p.prods ∧ contLe (List.length p.prods) (4 : Nat) (cellsOf' P.encP p.prods) (cellsOf' P.encP p.prods)) ∧ (true = true ∧ List.length p.cons = List.length p.cons ∧ contLe (List.length p.cons) (2 : Nat) (cellsOf' encC p.cons) (cellsOf' encC p.cons)) ∧ True) ∧ (ByteArray.empty = k ∧ ByteArray.empty = p.rng.hi ∧ True) ∧ True) ∧ True ∧ (PartTy p ∧ isLog p.recs = true ∧ P.isTable p.prods = true ∧ isCons p.cons = true ∧ chkK (rHigh p.rng k) = (0 : Int)) ∧ ((D.splitE p k == (0 : Int)) = true → ((p.rng.lo = p.rng.lo ∧ k = k ∧ IntKind.wrap IntKind.u64 (p.epoch + (1 : Int)) = IntKind.wrap IntKind.u64 (p.epoch + (1 : Int)) ∧ (0 : Int) = (0 : Int) ∧ ((0 : Nat) = (0 : Nat) ∧ List.length (outOf (rLow p.rng k) p.recs) = List.length (outOf (rLow p.rng k) p.recs)) ∧ ((0 : Nat) = (0 : Nat) ∧ List.length (P.moveL p.prods (toOf (rLow p.rng k) p.recs)) = List.length (P.moveL p.prods (toOf (rLow p.rng k) p.recs))) ∧ ((0 : Nat) = (0 : Nat) ∧ List.length (mapU p.cons (toOf (rLow p.rng k) p.recs) (List.length p.cons)) = List.length (mapU p.cons (toOf (rLow p.rng k) p.recs) (List.length p.cons))) ∧ True) ∧ (k = k ∧ p.rng.hi = p.rng.hi ∧ IntKind.wrap IntKind.u64 (p.epoch + (1 : Int)) = IntKind.wrap IntKind.u64 (p.epoch + (1 : Int)) ∧ (0 : Int) = (0 : Int) ∧ ((0 : Nat) = (0 : Nat) ∧ List.length (outOf (rHigh p.rng k) p.recs) = List.length (outOf (rHigh p.rng k) p.recs)) ∧ ((0 : Nat) = (0 : Nat) ∧ List.length (P.moveL p.prods (toOf (rHigh p.rng k) p.recs)) = List.length (P.moveL p.prods (toOf (rHigh p.rng k) p.recs))) ∧ ((0 : Nat) = (0 : Nat) ∧ List.length (mapU p.cons (toOf (rHigh p.rng k) p.recs) (List.length p.cons)) = List.length (mapU p.cons (toOf (rHigh p.rng k) p.recs) (List.length p.cons))) ∧ True) ∧ (0 : Int) = (0 : Int) ∧ True) ∧ (List.length (outOf (rLow p.rng k) p.recs) = List.length (outOf (rLow p.rng k) p.recs) ∧ contLe (List.length (outOf (rLow p.rng k) p.recs)) (5 : Nat) (cellsOf' encR (outOf (rLow p.rng k) p.recs)) (cellsOf' encR (outOf (rLow p.rng k) p.recs))) ∧ (List.length (P.moveL p.prods (toOf (rLow p.rng k) p.recs)) = List.length (P.moveL p.prods (toOf (rLow p.rng k) p.recs)) ∧ contLe (List.length (P.moveL p.prods (toOf (rLow p.rng k) p.recs))) (4 : Nat) (cellsOf' P.encP (P.moveL p.prods (toOf (rLow p.rng k) p.recs))) (cellsOf' P.encP (P.moveL p.prods (toOf (rLow p.rng k) p.recs)))) ∧ (List.length (mapU p.cons (toOf (rLow p.rng k) p.recs) (List.length p.cons)) = List.length (mapU p.cons (toOf (rLow p.rng k) p.recs) (List.length p.cons)) ∧ contLe (List.length (mapU p.cons (toOf (rLow p.rng k) p.recs) (List.length p.cons))) (2 : Nat) (cellsOf' encC (mapU p.cons (toOf (rLow p.rng k) p.recs) (List.length p.cons))) (cellsOf' encC (mapU p.cons (toOf (rLow p.rng k) p.recs) (List.length p.cons)))) ∧ (List.length (outOf (rHigh p.rng k) p.recs) = List.length (outOf (rHigh p.rng k) p.recs) ∧ contLe (List.length (outOf (rHigh p.rng k) p.recs)) (5 : Nat) (cellsOf' encR (outOf (rHigh p.rng k) p.recs)) (cellsOf' encR (outOf (rHigh p.rng k) p.recs))) ∧ (List.length (P.moveL p.prods (toOf (rHigh p.rng k) p.recs)) = List.length (P.moveL p.prods (toOf (rHigh p.rng k) p.recs)) ∧ contLe (List.length (P.moveL p.prods (toOf (rHigh p.rng k) p.recs))) (4 : Nat) (cellsOf' P.encP (P.moveL p.prods (toOf (rHigh p.rng k) p.recs))) (cellsOf' P.encP (P.moveL p.prods (toOf (rHigh p.rng k) p.recs)))) ∧ (List.length (mapU p.cons (toOf (rHigh p.rng k) p.recs) (List.length p.cons)) = List.length (mapU p.cons (toOf (rHigh p.rng k) p.recs) (List.length p.cons)) ∧ contLe (List.length (mapU p.cons (toOf (rHigh p.rng k) p.recs) (List.length p.cons))) (2 : Nat) (cellsOf' encC (mapU p.cons (toOf (rHigh p.rng k) p.recs) (List.length p.cons))) (cellsOf' encC (mapU p.cons (toOf (rHigh p.rng k) p.recs) (List.length p.cons)))) ∧ True) ∧ ((D.splitE p k == (0 : Int)) = false → False)))))) ∧ (partOk p = false → ((D.splitE p k == (0 : Int)) = true → (({ data := #[] : ByteArray } = p.rng.lo ∧ { data := #[] : ByteArray } = k ∧ (0 : Int) = IntKind.wrap IntKind.u64 (p.epoch + (1 : Int)) ∧ (0 : Int) = (0 : Int) ∧ False ∧ False ∧ False ∧ True) ∧ ({ data := #[] : ByteArray } = k ∧ { data := #[] : ByteArray } = p.rng.hi ∧ (0 : Int) = IntKind.wrap IntKind.u64 (p.epoch + (1 : Int)) ∧ (0 : Int) = (0 : Int) ∧ False ∧ False ∧ False ∧ True) ∧ (172 : Int) = (0 : Int) ∧ True) ∧ False) ∧ ((D.splitE p k == (0 : Int)) = false → (({ data := #[] : ByteArray } = ByteArray.empty ∧ { data := #[] : ByteArray } = ByteArray.empty ∧ (0 : Int) = (0 : Int) ∧ (0 : Int) = (0 : Int) ∧ (0 : Nat) = (0 : Nat) ∧ (0 : Nat) = (0 : Nat) ∧ (0 : Nat) = (0 : Nat) ∧ True) ∧ ({ data := #[] : ByteArray } = ByteArray.empty ∧ { data := #[] : ByteArray } = ByteArray.empty ∧ (0 : Int) = (0 : Int) ∧ (0 : Int) = (0 : Int) ∧ (0 : Nat) = (0 : Nat) ∧ (0 : Nat) = (0 : Nat) ∧ (0 : Nat) = (0 : Nat) ∧ True) ∧ (172 : Int) = D.splitE p k ∧ True) ∧ True))
theorem vcSro_eq (p : Part) (k : ByteArray) : (ctrVC Tryd.prog (sroH p k) 8 [.agg (encPt true p), .y (.string k)] [] (splitO p k)) = vcSro p k := by kernel_rfl
theorem sro_c (p : Part) (k : ByteArray) (hp : CkOk p) (hk : k.size ≤ 9223372036854775807) : (splitO p k).Sat (ACall' Tryd.prog 8 [.agg (encPt true p), .y (.string k)] []) := by
  refine ctr_vc (ht := sroH p k) Tryd.mixed rfl ?_
  rw [vcSro_eq p k]
  unfold vcSro
  have eb : ({ data := #[] } : ByteArray) = ByteArray.empty := rfl
  have ht := hp.ty
  rw [eb]
  cases h1 : partOk p
  · have e1 : splitE p k = 172 := by simp [Go.Proofs.YtckklclehofddaaDoor.D.splitE, bad, h1]
    simp [e1, hp]
  · by_cases h2 : IntKind.u64.wrap (p.epoch + 1) = 0
    · have e1 : splitE p k = 172 := by simp [Go.Proofs.YtckklclehofddaaDoor.D.splitE, bad, h1, h2]
      simp [e1, hp, h2]
    · by_cases h3 : p.frozen = 0
      · have e1 : splitE p k = 171 := by simp [Go.Proofs.YtckklclehofddaaDoor.D.splitE, bad, h1, h2, h3]
        simp [e1, hp, h2, h3]
      · have e1 : splitE p k = splE p.rng k := by simp [Go.Proofs.YtckklclehofddaaDoor.D.splitE, bad, h1, h2, h3]
        obtain ⟨o1, o2, o3, o4, o5, _⟩ := ok_parts h1
        by_cases h4 : splE p.rng k = 0
        · have c1 := low_chk h4
          have c2 := high_chk h4
          have c1' : chkK ⟨p.rng.lo, k⟩ = 0 := c1
          have c2' : chkK ⟨k, p.rng.hi⟩ = 0 := c2
          simp [e1, hp, h2, h3, h4, hk, c1, c2, c1', c2', ht, o3, o4, o5, partOf, rLow, rHigh]
        · simp [e1, hp, h2, h3, h4, hk]
structure SwOk (p : Part) (k : ByteArray) (A B : Part) : Prop where
  ty : CkOk p
  sz : k.size ≤ 9223372036854775807
  v : splitE p k = 0
  a : A = partOf p (rLow p.rng k)
  b : B = partOf p (rHigh p.rng k)
structure SwEr (p : Part) (k : ByteArray) (e : Int) : Prop where
  ty : CkOk p
  sz : k.size ≤ 9223372036854775807
  v : splitE p k = e
  n : e ≠ 0
noncomputable def okwC (p : Part) (k : ByteArray) (A B : Part) : Ctr Tryd.prog := ⟨7, [.agg (encPt true p), .y (.string k)], [], .need (SwOk p k A B) (okW A B), T.Sat.need fun h => by
  have := spw_c p k h.ty.ty h.sz
  unfold splitW at this
  rw [h.v] at this
  intro Q hq
  rw [h.a, h.b] at hq
  exact this Q ⟨fun _ => hq, fun e => by simp at e⟩⟩
noncomputable def okoC (p : Part) (k : ByteArray) (A B : Part) : Ctr Tryd.prog := ⟨8, [.agg (encPt true p), .y (.string k)], [], .need (SwOk p k A B) (okO2 A B), T.Sat.need fun h => by
  have := sro_c p k h.ty h.sz
  unfold splitO at this
  rw [h.v] at this
  intro Q hq
  rw [h.a, h.b] at hq
  exact this Q ⟨fun _ => hq, fun e => by simp at e⟩⟩
noncomputable def erwC (p : Part) (k : ByteArray) (e : Int) : Ctr Tryd.prog := ⟨7, [.agg (encPt true p), .y (.string k)], [], .need (SwEr p k e) (erT e), T.Sat.need fun h => by
  have := spw_c p k h.ty.ty h.sz
  unfold splitW at this
  rw [h.v] at this
  intro Q hq
  exact this Q ⟨fun e => by simp at e; exact absurd e h.n, fun _ => hq⟩⟩
noncomputable def eroC (p : Part) (k : ByteArray) (e : Int) : Ctr Tryd.prog := ⟨8, [.agg (encPt true p), .y (.string k)], [], .need (SwEr p k e) (erT e), T.Sat.need fun h => by
  have := sro_c p k h.ty h.sz
  unfold splitO at this
  rw [h.v] at this
  intro Q hq
  exact this Q ⟨fun e => by simp at e; exact absurd e h.n, fun _ => hq⟩⟩
noncomputable def safH (p : Part) : HintsT Tryd.prog := hh _ noLp (cs1 9 1 4 (sfC false false p.recs p.recs) (cs1 9 2 4 (psC false false p.prods) (cs1 9 3 4 (scC false false p.cons p.cons) noCs))) noOp
def vcSaf (p : Part) : Prop :=
  ((false = false ∧ List.length p.recs = List.length p.recs ∧ contLe (List.length p.recs) (5 : Nat) (cellsOf' encF p.recs) (cellsOf' encF p.recs)) ∧ (false = false ∧ List.length p.recs = List.length p.recs ∧ contLe (List.length p.recs) (5 : Nat) (cellsOf' encR p.recs) (cellsOf' encR p.recs)) ∧ True) ∧ True ∧ (List.length p.recs ≤ (9223372036854775806 : Nat) ∧ p.recs = p.recs) ∧ ((false = false ∧ List.length p.prods = List.length p.prods ∧ contLe (List.length p.prods) (4 : Nat) (cellsOf' P.encP p.prods) (cellsOf' P.encP p.prods)) ∧ (false = false ∧ List.length p.prods = List.length p.prods ∧ contLe (List.length p.prods) (4 : Nat) (cellsOf' P.encP p.prods) (cellsOf' P.encP p.prods)) ∧ True) ∧ True ∧ List.length p.prods ≤ (9223372036854775806 : Nat) ∧ ((false = false ∧ List.length p.cons = List.length p.cons ∧ contLe (List.length p.cons) (2 : Nat) (cellsOf' encC p.cons) (cellsOf' encC p.cons)) ∧ (false = false ∧ List.length p.cons = List.length p.cons ∧ contLe (List.length p.cons) (2 : Nat) (cellsOf' encC p.cons) (cellsOf' encC p.cons)) ∧ True) ∧ True ∧ (List.length p.cons ≤ (9223372036854775806 : Nat) ∧ p.cons = p.cons) ∧ (true = true → (P.sameP p.prods p.prods = true → (true = true → ((p.rng.lo.data.toList == p.rng.lo.data.toList && (p.rng.hi.data.toList == p.rng.hi.data.toList && true)) = true → ((p.epoch == p.epoch) = true → (p.frozen == p.frozen) = true ∧ True) ∧ ((p.epoch == p.epoch) = false → false = true ∧ True)) ∧ ((p.rng.lo.data.toList == p.rng.lo.data.toList && (p.rng.hi.data.toList == p.rng.hi.data.toList && true)) = false → false = true ∧ True)) ∧ (true = false → false = true ∧ True)) ∧ (P.sameP p.prods p.prods = false → false = true ∧ True)) ∧ (true = false → false = true ∧ True)
theorem vcSaf_eq (p : Part) : (ctrVC Tryd.prog (safH p) 9 [.agg (ptF p), .agg (encPt false p)] [] (boolR true)) = vcSaf p := by kernel_rfl
structure LenOk (p : Part) : Prop where
  rl : p.recs.length ≤ 4611686018427387903
  pl : p.prods.length ≤ 4611686018427387903
  cl : p.cons.length ≤ 4611686018427387903
theorem saf_c (p : Part) (hp : LenOk p) : (boolR true).Sat (ACall' Tryd.prog 9 [.agg (ptF p), .agg (encPt false p)] []) := by
  refine ctr_vc (ht := safH p) Tryd.mixed rfl ?_
  rw [vcSaf_eq p]
  unfold vcSaf
  obtain ⟨h1, h2, h3⟩ := hp
  have g1 : p.recs.length ≤ 9223372036854775806 := by omega
  have g2 : p.prods.length ≤ 9223372036854775806 := by omega
  have g3 : p.cons.length ≤ 9223372036854775806 := by omega
  simp [g1, g2, g3, sameP_refl]
noncomputable def safC (p : Part) : Ctr Tryd.prog := ⟨9, [.agg (ptF p), .agg (encPt false p)], [], .need (LenOk p) (boolR true), T.Sat.need fun h => saf_c p h⟩
end Go.Proofs.YtckklclehofddaaDoor.Q

namespace Go.Proofs.YtckklclehofddaaDoor.Q
open Go.Ax Go.Proofs.YtckklclehofddaaDoor Go.Proofs.YtckklclehofddaaDoor.H Go.Proofs.YtckklclehofddaaDoor.D Go.Proofs.YtckklclehofddaaDoor.J
set_option maxRecDepth 1000000
def sB (p : Part) : ByteArray := strN (partB p).length (cellsOf' encB (partB p))
def towG (q : Nat) (f : Nat → Rec) : Blk := .trow 38 5 q none (fun k => trRec (f k)) [] zR
def lsM (p A : Part) (f : Nat → Rec) : List Blk := [.box 29 (encPt true p), .dead, towG A.recs.length f, rowPr A.prods, rowC A.cons, .dead, .dead, .dead, .box 29 (ptW A 2 3 4)]
def lsX : List Nat := [0, 1, 2, 3, 4, 5, 6, 7, 8, 9, 10, 11, 12, 13, 14, 15, 16, 17]
def lgB (p : Part) : List (Nat × AV) := [(2, .ptr 0 0 0 0), (5, .y (.bool true)), (6, .y (.string (sB p))), (9, .s (.int .i64 0)), (12, .s (.int .i64 0)), (13, .y (.bool true)), (14, .y (.bool true))]
def liT (p : Part) (i k : Nat) : List AV := mkT 89 (lgB p ++ [(7, .ptr 8 0 0 0), (15, .y (.int .i64 i)), (16, .y (.int .i64 k))])
def liS (p A : Part) (i : Nat) (f : Nat → Rec) (_ : Unit) : Exit × List AV × List Blk := (.exit 2, mkT 89 (lgB p ++ [(7, .ptr 8 0 0 0), (15, .y (.int .i64 i))]), lsM p A (incF f i (f i).val.length))
noncomputable def liHt : HintsT Tryd.prog := withSh (hh _ noLp noCs noOp) (sh1 3 11 4 786 noSh)
def vcLi (p : Part) (A : Part) (i : Nat) (f : Nat → Rec) (k : { k : Nat // k ≤ (f i).val.length }) : Prop :=
  (0 : Int) ≤ (↑i : Int) ∧ (↑i : Int) < (↑(List.length A.recs) : Int) ∧ decide (Int.toNat (↑i : Int) = Int.toNat (↑i : Int)) = true ∧ (decide ((↑k.val : Int) < (↑(List.length (incF f i k.val (Int.toNat (↑i : Int))).val) : Int)) = true → (true && decide ((↑i : Int) < (↑(List.length A.recs) : Int))) = true ∧ decide ((0 : Nat) + Int.toNat (↑i : Int) = Int.toNat (↑i : Int)) = true ∧ (true && decide ((↑k.val : Int) < (↑(List.length (incF f i k.val (Int.toNat (↑i : Int))).val) : Int))) = true ∧ decide ((0 : Nat) + Int.toNat (↑k.val : Int) < List.length (incF f i k.val (Int.toNat (↑i : Int))).val) = true ∧ (true && decide ((↑k.val : Int) < (↑(List.length (incF f i k.val (Int.toNat (↑i : Int))).val) : Int))) = true ∧ decide ((0 : Nat) + Int.toNat (↑k.val : Int) < List.length (incF f i k.val (Int.toNat (↑i : Int))).val) = true ∧ ∃ (j : { k : Nat // k ≤ List.length (f i).val }), List.length (f i).val - j.val < List.length (f i).val - k.val ∧ ((((0 : Nat) = (0 : Nat) ∧ (0 : Nat) = (0 : Nat)) ∧ true = true ∧ sB p = sB p ∧ ((0 : Nat) = (0 : Nat) ∧ (0 : Nat) = (0 : Nat)) ∧ (0 : Int) = (0 : Int) ∧ (0 : Int) = (0 : Int) ∧ true = true ∧ true = true ∧ (↑i : Int) = (↑i : Int) ∧ IntKind.wrap IntKind.i64 ((↑k.val : Int) + (1 : Int)) = (↑j.val : Int) ∧ True) ∧ (((p.rng.lo = p.rng.lo ∧ p.rng.hi = p.rng.hi ∧ p.epoch = p.epoch ∧ p.frozen = p.frozen ∧ (true = true ∧ List.length p.recs = List.length p.recs ∧ contLe (List.length p.recs) (5 : Nat) (cellsOf' encR p.recs) (cellsOf' encR p.recs)) ∧ (true = true ∧ List.length p.prods = List.length p.prods ∧ contLe (List.length p.prods) (4 : Nat) (cellsOf' P.encP p.prods) (cellsOf' P.encP p.prods)) ∧ (true = true ∧ List.length p.cons = List.length p.cons ∧ contLe (List.length p.cons) (2 : Nat) (cellsOf' encC p.cons) (cellsOf' encC p.cons)) ∧ True) ∧ (List.length A.recs = List.length A.recs ∧ (((true = true ∧ (incF f i k.val (Int.toNat (↑i : Int))).off = (incF f i j.val (Int.toNat (↑i : Int))).off) ∧ (true = true ∧ (incF f i k.val (Int.toNat (↑i : Int))).key = (incF f i j.val (Int.toNat (↑i : Int))).key) ∧ (List.length (incF f i j.val (Int.toNat (↑i : Int))).val = List.length (incF f i k.val (Int.toNat (↑i : Int))).val ∧ contLe (List.length (incF f i j.val (Int.toNat (↑i : Int))).val) (1 : Nat) (wrRow (cellsOf' encB (incF f i k.val (Int.toNat (↑i : Int))).val) ((0 : Nat) + Int.toNat (↑k.val : Int)) (0 : Nat) [AV.y (Value.int IntKind.u8 (IntKind.wrap IntKind.u8 (List.getD (incF f i k.val (Int.toNat (↑i : Int))).val ((0 : Nat) + Int.toNat (↑k.val : Int)) (0 : Int) + (1 : Int))))]) (cellsOf' encB (incF f i j.val (Int.toNat (↑i : Int))).val)) ∧ (true = true ∧ (incF f i k.val (Int.toNat (↑i : Int))).prod = (incF f i j.val (Int.toNat (↑i : Int))).prod) ∧ (true = true ∧ (incF f i k.val (Int.toNat (↑i : Int))).seq = (incF f i j.val (Int.toNat (↑i : Int))).seq) ∧ True) ∧ True) ∧ ∀ (k_1 : Nat), k_1 < List.length A.recs → ¬k_1 = Int.toNat (↑i : Int) → (incF f i k.val k_1).off = (incF f i j.val k_1).off ∧ (incF f i k.val k_1).key = (incF f i j.val k_1).key ∧ (List.length (incF f i k.val k_1).val = List.length (incF f i j.val k_1).val ∧ contLe (List.length (incF f i k.val k_1).val) (1 : Nat) (cellsOf' encB (incF f i k.val k_1).val) (cellsOf' encB (incF f i j.val k_1).val)) ∧ (incF f i k.val k_1).prod = (incF f i j.val k_1).prod ∧ (incF f i k.val k_1).seq = (incF f i j.val k_1).seq ∧ True) ∧ (List.length A.prods = List.length A.prods ∧ contLe (List.length A.prods) (4 : Nat) (cellsOf' P.encP A.prods) (cellsOf' P.encP A.prods)) ∧ (List.length A.cons = List.length A.cons ∧ contLe (List.length A.cons) (2 : Nat) (cellsOf' encC A.cons) (cellsOf' encC A.cons)) ∧ (A.rng.lo = A.rng.lo ∧ A.rng.hi = A.rng.hi ∧ A.epoch = A.epoch ∧ A.frozen = A.frozen ∧ ((0 : Nat) = (0 : Nat) ∧ List.length A.recs = List.length A.recs) ∧ ((0 : Nat) = (0 : Nat) ∧ List.length A.prods = List.length A.prods) ∧ ((0 : Nat) = (0 : Nat) ∧ List.length A.cons = List.length A.cons) ∧ True) ∧ True) ∧ True) ∧ true = true) ∧ true = true ∧ () = ()) ∧ (decide ((↑k.val : Int) < (↑(List.length (incF f i k.val (Int.toNat (↑i : Int))).val) : Int)) = false → (((0 : Nat) = (0 : Nat) ∧ (0 : Nat) = (0 : Nat)) ∧ true = true ∧ sB p = sB p ∧ ((0 : Nat) = (0 : Nat) ∧ (0 : Nat) = (0 : Nat)) ∧ (0 : Int) = (0 : Int) ∧ (0 : Int) = (0 : Int) ∧ true = true ∧ true = true ∧ (↑i : Int) = (↑i : Int) ∧ True) ∧ (((p.rng.lo = p.rng.lo ∧ p.rng.hi = p.rng.hi ∧ p.epoch = p.epoch ∧ p.frozen = p.frozen ∧ (true = true ∧ List.length p.recs = List.length p.recs ∧ contLe (List.length p.recs) (5 : Nat) (cellsOf' encR p.recs) (cellsOf' encR p.recs)) ∧ (true = true ∧ List.length p.prods = List.length p.prods ∧ contLe (List.length p.prods) (4 : Nat) (cellsOf' P.encP p.prods) (cellsOf' P.encP p.prods)) ∧ (true = true ∧ List.length p.cons = List.length p.cons ∧ contLe (List.length p.cons) (2 : Nat) (cellsOf' encC p.cons) (cellsOf' encC p.cons)) ∧ True) ∧ (List.length A.recs = List.length A.recs ∧ (((true = true ∧ (incF f i k.val (Int.toNat (↑i : Int))).off = (incF f i (List.length (f i).val) (Int.toNat (↑i : Int))).off) ∧ (true = true ∧ (incF f i k.val (Int.toNat (↑i : Int))).key = (incF f i (List.length (f i).val) (Int.toNat (↑i : Int))).key) ∧ (List.length (incF f i (List.length (f i).val) (Int.toNat (↑i : Int))).val = List.length (incF f i k.val (Int.toNat (↑i : Int))).val ∧ contLe (List.length (incF f i (List.length (f i).val) (Int.toNat (↑i : Int))).val) (1 : Nat) (cellsOf' encB (incF f i k.val (Int.toNat (↑i : Int))).val) (cellsOf' encB (incF f i (List.length (f i).val) (Int.toNat (↑i : Int))).val)) ∧ (true = true ∧ (incF f i k.val (Int.toNat (↑i : Int))).prod = (incF f i (List.length (f i).val) (Int.toNat (↑i : Int))).prod) ∧ (true = true ∧ (incF f i k.val (Int.toNat (↑i : Int))).seq = (incF f i (List.length (f i).val) (Int.toNat (↑i : Int))).seq) ∧ True) ∧ True) ∧ ∀ (k_1 : Nat), k_1 < List.length A.recs → ¬k_1 = Int.toNat (↑i : Int) → (incF f i k.val k_1).off = (incF f i (List.length (f i).val) k_1).off ∧ (incF f i k.val k_1).key = (incF f i (List.length (f i).val) k_1).key ∧ (List.length (incF f i k.val k_1).val = List.length (incF f i (List.length (f i).val) k_1).val ∧ contLe (List.length (incF f i k.val k_1).val) (1 : Nat) (cellsOf' encB (incF f i k.val k_1).val) (cellsOf' encB (incF f i (List.length (f i).val) k_1).val)) ∧ (incF f i k.val k_1).prod = (incF f i (List.length (f i).val) k_1).prod ∧ (incF f i k.val k_1).seq = (incF f i (List.length (f i).val) k_1).seq ∧ True) ∧ (List.length A.prods = List.length A.prods ∧ contLe (List.length A.prods) (4 : Nat) (cellsOf' P.encP A.prods) (cellsOf' P.encP A.prods)) ∧ (List.length A.cons = List.length A.cons ∧ contLe (List.length A.cons) (2 : Nat) (cellsOf' encC A.cons) (cellsOf' encC A.cons)) ∧ (A.rng.lo = A.rng.lo ∧ A.rng.hi = A.rng.hi ∧ A.epoch = A.epoch ∧ A.frozen = A.frozen ∧ ((0 : Nat) = (0 : Nat) ∧ List.length A.recs = List.length A.recs) ∧ ((0 : Nat) = (0 : Nat) ∧ List.length A.prods = List.length A.prods) ∧ ((0 : Nat) = (0 : Nat) ∧ List.length A.cons = List.length A.cons) ∧ True) ∧ True) ∧ True) ∧ true = true)
theorem vcLi_eq (p : Part) (A : Part) (i : Nat) (f : Nat → Rec) (k : { k : Nat // k ≤ (f i).val.length }) : (loopVC Tryd.prog liHt 3 11 (fun (k : { k : Nat // k ≤ (f i).val.length }) => (f i).val.length - k.1) (fun k => liT p i k.1) (fun k => lsM p A (incF f i k.1)) lsX (fun _ => .ret ()) (liS p A i f) k) = vcLi p A i f k := by kernel_rfl
def grF (g : Nat → Rec) (i : Nat) : Nat → Rec := fun q => if q < i then incR (g q) (g q).val.length else g q
def gA (A : Part) : Nat → Rec := fun q => A.recs.getD q default
def ljT (p : Part) (i : Nat) : List AV := mkT 89 (lgB p ++ [(7, .ptr 8 0 0 0), (15, .y (.int .i64 i))])
def ljS (p : Part) (_ : Unit) : Exit × List AV × List Blk := (.exit 0, mkT 89 (lgB p), [.box 29 (encPt true p)])
noncomputable def ljHt (p A : Part) (i : Nat) : HintsT Tryd.prog := hh _ (lp1 3 11 (jobOf (fun (k : { k : Nat // k ≤ (grF (gA A) i i).val.length }) => liT p i k.1) (fun k => lsM p A (incF (grF (gA A) i) i k.1)) lsX (fun _ => .ret ()) (liS p A i (grF (gA A) i)) ⟨0, Nat.zero_le _⟩) noLp) noCs noOp
def vcLj (p : Part) (A : Part) (i : { i : Nat // i ≤ A.recs.length }) : Prop :=
  (decide ((↑i.val : Int) < (↑(List.length A.recs) : Int)) = true → ((((0 : Nat) = (0 : Nat) ∧ (0 : Nat) = (0 : Nat)) ∧ true = true ∧ sB p = sB p ∧ ((0 : Nat) = (0 : Nat) ∧ (0 : Nat) = (0 : Nat)) ∧ (0 : Int) = (0 : Int) ∧ (0 : Int) = (0 : Int) ∧ true = true ∧ true = true ∧ (↑i.val : Int) = (↑i.val : Int) ∧ (0 : Int) = (0 : Int) ∧ True) ∧ ((p.rng.lo = p.rng.lo ∧ p.rng.hi = p.rng.hi ∧ p.epoch = p.epoch ∧ p.frozen = p.frozen ∧ (true = true ∧ List.length p.recs = List.length p.recs ∧ contLe (List.length p.recs) (5 : Nat) (cellsOf' encR p.recs) (cellsOf' encR p.recs)) ∧ (true = true ∧ List.length p.prods = List.length p.prods ∧ contLe (List.length p.prods) (4 : Nat) (cellsOf' P.encP p.prods) (cellsOf' P.encP p.prods)) ∧ (true = true ∧ List.length p.cons = List.length p.cons ∧ contLe (List.length p.cons) (2 : Nat) (cellsOf' encC p.cons) (cellsOf' encC p.cons)) ∧ True) ∧ (List.length A.recs = List.length A.recs ∧ ∀ (k : Nat), k < List.length A.recs → (grF (gA A) i.val k).off = (incF (grF (gA A) i.val) i.val (0 : Nat) k).off ∧ (grF (gA A) i.val k).key = (incF (grF (gA A) i.val) i.val (0 : Nat) k).key ∧ (List.length (grF (gA A) i.val k).val = List.length (incF (grF (gA A) i.val) i.val (0 : Nat) k).val ∧ contLe (List.length (grF (gA A) i.val k).val) (1 : Nat) (cellsOf' encB (grF (gA A) i.val k).val) (cellsOf' encB (incF (grF (gA A) i.val) i.val (0 : Nat) k).val)) ∧ (grF (gA A) i.val k).prod = (incF (grF (gA A) i.val) i.val (0 : Nat) k).prod ∧ (grF (gA A) i.val k).seq = (incF (grF (gA A) i.val) i.val (0 : Nat) k).seq ∧ True) ∧ (List.length A.prods = List.length A.prods ∧ contLe (List.length A.prods) (4 : Nat) (cellsOf' P.encP A.prods) (cellsOf' P.encP A.prods)) ∧ (List.length A.cons = List.length A.cons ∧ contLe (List.length A.cons) (2 : Nat) (cellsOf' encC A.cons) (cellsOf' encC A.cons)) ∧ (A.rng.lo = A.rng.lo ∧ A.rng.hi = A.rng.hi ∧ A.epoch = A.epoch ∧ A.frozen = A.frozen ∧ ((0 : Nat) = (0 : Nat) ∧ List.length A.recs = List.length A.recs) ∧ ((0 : Nat) = (0 : Nat) ∧ List.length A.prods = List.length A.prods) ∧ ((0 : Nat) = (0 : Nat) ∧ List.length A.cons = List.length A.cons) ∧ True) ∧ True) ∧ true = true) ∧ LoopOk Tryd.prog (3 : Nat) (11 : Nat) (loopAt Tryd.prog (3 : Nat) (11 : Nat)) { t := liT p i.val (⟨(0 : Nat), ljHt._proof_1 A i.val⟩ : { k : Nat // k ≤ List.length (grF (gA A) i.val i.val).val }).val, m := lsM p A (incF (grF (gA A) i.val) i.val (⟨(0 : Nat), ljHt._proof_1 A i.val⟩ : { k : Nat // k ≤ List.length (grF (gA A) i.val i.val).val }).val), mv := [] : St } (T.map (lout lsX (liS p A i.val (grF (gA A) i.val))) ((fun (x : { k : Nat // k ≤ List.length (grF (gA A) i.val i.val).val }) => T.ret ()) (⟨(0 : Nat), ljHt._proof_1 A i.val⟩ : { k : Nat // k ≤ List.length (grF (gA A) i.val i.val).val }))) ∧ ∃ (j : { i : Nat // i ≤ List.length A.recs }), List.length A.recs - j.val < List.length A.recs - i.val ∧ ((((0 : Nat) = (0 : Nat) ∧ (0 : Nat) = (0 : Nat)) ∧ true = true ∧ sB p = sB p ∧ ((0 : Nat) = (0 : Nat) ∧ (0 : Nat) = (0 : Nat)) ∧ (0 : Int) = (0 : Int) ∧ (0 : Int) = (0 : Int) ∧ true = true ∧ true = true ∧ IntKind.wrap IntKind.i64 ((↑i.val : Int) + (1 : Int)) = (↑j.val : Int) ∧ True) ∧ ((p.rng.lo = p.rng.lo ∧ p.rng.hi = p.rng.hi ∧ p.epoch = p.epoch ∧ p.frozen = p.frozen ∧ (true = true ∧ List.length p.recs = List.length p.recs ∧ contLe (List.length p.recs) (5 : Nat) (cellsOf' encR p.recs) (cellsOf' encR p.recs)) ∧ (true = true ∧ List.length p.prods = List.length p.prods ∧ contLe (List.length p.prods) (4 : Nat) (cellsOf' P.encP p.prods) (cellsOf' P.encP p.prods)) ∧ (true = true ∧ List.length p.cons = List.length p.cons ∧ contLe (List.length p.cons) (2 : Nat) (cellsOf' encC p.cons) (cellsOf' encC p.cons)) ∧ True) ∧ (List.length A.recs = List.length A.recs ∧ ∀ (k : Nat), k < List.length A.recs → (incF (grF (gA A) i.val) i.val (List.length (grF (gA A) i.val i.val).val) k).off = (grF (gA A) j.val k).off ∧ (incF (grF (gA A) i.val) i.val (List.length (grF (gA A) i.val i.val).val) k).key = (grF (gA A) j.val k).key ∧ (List.length (incF (grF (gA A) i.val) i.val (List.length (grF (gA A) i.val i.val).val) k).val = List.length (grF (gA A) j.val k).val ∧ contLe (List.length (incF (grF (gA A) i.val) i.val (List.length (grF (gA A) i.val i.val).val) k).val) (1 : Nat) (cellsOf' encB (incF (grF (gA A) i.val) i.val (List.length (grF (gA A) i.val i.val).val) k).val) (cellsOf' encB (grF (gA A) j.val k).val)) ∧ (incF (grF (gA A) i.val) i.val (List.length (grF (gA A) i.val i.val).val) k).prod = (grF (gA A) j.val k).prod ∧ (incF (grF (gA A) i.val) i.val (List.length (grF (gA A) i.val i.val).val) k).seq = (grF (gA A) j.val k).seq ∧ True) ∧ (List.length A.prods = List.length A.prods ∧ contLe (List.length A.prods) (4 : Nat) (cellsOf' P.encP A.prods) (cellsOf' P.encP A.prods)) ∧ (List.length A.cons = List.length A.cons ∧ contLe (List.length A.cons) (2 : Nat) (cellsOf' encC A.cons) (cellsOf' encC A.cons)) ∧ (A.rng.lo = A.rng.lo ∧ A.rng.hi = A.rng.hi ∧ A.epoch = A.epoch ∧ A.frozen = A.frozen ∧ ((0 : Nat) = (0 : Nat) ∧ List.length A.recs = List.length A.recs) ∧ ((0 : Nat) = (0 : Nat) ∧ List.length A.prods = List.length A.prods) ∧ ((0 : Nat) = (0 : Nat) ∧ List.length A.cons = List.length A.cons) ∧ True) ∧ True) ∧ true = true) ∧ true = true ∧ () = ()) ∧ (decide ((↑i.val : Int) < (↑(List.length A.recs) : Int)) = false → (((0 : Nat) = (0 : Nat) ∧ (0 : Nat) = (0 : Nat)) ∧ true = true ∧ sB p = sB p ∧ (0 : Int) = (0 : Int) ∧ (0 : Int) = (0 : Int) ∧ true = true ∧ true = true ∧ True) ∧ ((p.rng.lo = p.rng.lo ∧ p.rng.hi = p.rng.hi ∧ p.epoch = p.epoch ∧ p.frozen = p.frozen ∧ (true = true ∧ List.length p.recs = List.length p.recs ∧ contLe (List.length p.recs) (5 : Nat) (cellsOf' encR p.recs) (cellsOf' encR p.recs)) ∧ (true = true ∧ List.length p.prods = List.length p.prods ∧ contLe (List.length p.prods) (4 : Nat) (cellsOf' P.encP p.prods) (cellsOf' P.encP p.prods)) ∧ (true = true ∧ List.length p.cons = List.length p.cons ∧ contLe (List.length p.cons) (2 : Nat) (cellsOf' encC p.cons) (cellsOf' encC p.cons)) ∧ True) ∧ True) ∧ true = true)
theorem vcLj_eq (p : Part) (A : Part) (i : { i : Nat // i ≤ A.recs.length }) : (loopVC Tryd.prog (ljHt p A i.1) 3 8 (fun (i : { i : Nat // i ≤ A.recs.length }) => A.recs.length - i.1) (fun i => ljT p i.1) (fun i => lsM p A (grF (gA A) i.1)) lsX (fun _ => .ret ()) (ljS p) i) = vcLj p A i := by kernel_rfl
noncomputable def lawH (p : Part) (k : ByteArray) (A B : Part) : HintsT Tryd.prog := hh _ (lp1 3 8 (jobOf (fun (i : { i : Nat // i ≤ A.recs.length }) => ljT p i.1) (fun i => lsM p A (grF (gA A) i.1)) lsX (fun _ => .ret ()) (ljS p) ⟨0, Nat.zero_le _⟩) noLp)
  (cs1 3 1 0 livC (cs1 3 2 1 (byC true p) (cs1 3 3 2 (okwC p k A B) (cs1 3 4 2 (okoC p k A B) (cs1 3 5 2 (safC A) (cs1 3 6 2 (safC B) (cs1 3 14 14 (byC true p) noCs))))))) noOp
def vcLaw (p : Part) (k : ByteArray) (A : Part) (B : Part) : Prop :=
  True ∧ True ∧ ((p.rng.lo = p.rng.lo ∧ p.rng.hi = p.rng.hi ∧ p.epoch = p.epoch ∧ p.frozen = p.frozen ∧ (true = true ∧ List.length p.recs = List.length p.recs ∧ contLe (List.length p.recs) (5 : Nat) (cellsOf' encR p.recs) (cellsOf' encR p.recs)) ∧ (true = true ∧ List.length p.prods = List.length p.prods ∧ contLe (List.length p.prods) (4 : Nat) (cellsOf' P.encP p.prods) (cellsOf' P.encP p.prods)) ∧ (true = true ∧ List.length p.cons = List.length p.cons ∧ contLe (List.length p.cons) (2 : Nat) (cellsOf' encC p.cons) (cellsOf' encC p.cons)) ∧ True) ∧ True) ∧ True ∧ ByOk p ∧ (∀ (k : Nat), k < List.length (partB p) → true = true) ∧ ((p.rng.lo = p.rng.lo ∧ p.rng.hi = p.rng.hi ∧ p.epoch = p.epoch ∧ p.frozen = p.frozen ∧ (true = true ∧ List.length p.recs = List.length p.recs ∧ contLe (List.length p.recs) (5 : Nat) (cellsOf' encR p.recs) (cellsOf' encR p.recs)) ∧ (true = true ∧ List.length p.prods = List.length p.prods ∧ contLe (List.length p.prods) (4 : Nat) (cellsOf' P.encP p.prods) (cellsOf' P.encP p.prods)) ∧ (true = true ∧ List.length p.cons = List.length p.cons ∧ contLe (List.length p.cons) (2 : Nat) (cellsOf' encC p.cons) (cellsOf' encC p.cons)) ∧ True) ∧ k = k ∧ True) ∧ True ∧ SwOk p k A B ∧ ((p.rng.lo = p.rng.lo ∧ p.rng.hi = p.rng.hi ∧ p.epoch = p.epoch ∧ p.frozen = p.frozen ∧ (true = true ∧ List.length p.recs = List.length p.recs ∧ contLe (List.length p.recs) (5 : Nat) (cellsOf' encR p.recs) (cellsOf' encR p.recs)) ∧ (true = true ∧ List.length p.prods = List.length p.prods ∧ contLe (List.length p.prods) (4 : Nat) (cellsOf' P.encP p.prods) (cellsOf' P.encP p.prods)) ∧ (true = true ∧ List.length p.cons = List.length p.cons ∧ contLe (List.length p.cons) (2 : Nat) (cellsOf' encC p.cons) (cellsOf' encC p.cons)) ∧ True) ∧ k = k ∧ True) ∧ True ∧ SwOk p k A B ∧ ((A.rng.lo = A.rng.lo ∧ A.rng.hi = A.rng.hi ∧ A.epoch = A.epoch ∧ A.frozen = A.frozen ∧ (false = false ∧ List.length A.recs = List.length A.recs ∧ contLe (List.length A.recs) (5 : Nat) (Ax.rowAt (0 : Nat) fun (k j : Nat) => trV (trRs A.recs k j)) (cellsOf' encF A.recs)) ∧ (false = false ∧ List.length A.prods = List.length A.prods ∧ contLe (List.length A.prods) (4 : Nat) (Ax.rowAt (0 : Nat) (cellsOf' P.encP A.prods)) (cellsOf' P.encP A.prods)) ∧ (false = false ∧ List.length A.cons = List.length A.cons ∧ contLe (List.length A.cons) (2 : Nat) (Ax.rowAt (0 : Nat) (cellsOf' encC A.cons)) (cellsOf' encC A.cons)) ∧ True) ∧ (A.rng.lo = A.rng.lo ∧ A.rng.hi = A.rng.hi ∧ A.epoch = A.epoch ∧ A.frozen = A.frozen ∧ (false = false ∧ List.length A.recs = List.length A.recs ∧ contLe (List.length A.recs) (5 : Nat) (Ax.rowAt (0 : Nat) (cellsOf' encR A.recs)) (cellsOf' encR A.recs)) ∧ (false = false ∧ List.length A.prods = List.length A.prods ∧ contLe (List.length A.prods) (4 : Nat) (Ax.rowAt (0 : Nat) (cellsOf' P.encP A.prods)) (cellsOf' P.encP A.prods)) ∧ (false = false ∧ List.length A.cons = List.length A.cons ∧ contLe (List.length A.cons) (2 : Nat) (Ax.rowAt (0 : Nat) (cellsOf' encC A.cons)) (cellsOf' encC A.cons)) ∧ True) ∧ True) ∧ True ∧ LenOk A ∧ true = true ∧ True ∧ ((B.rng.lo = B.rng.lo ∧ B.rng.hi = B.rng.hi ∧ B.epoch = B.epoch ∧ B.frozen = B.frozen ∧ (false = false ∧ List.length B.recs = List.length B.recs ∧ contLe (List.length B.recs) (5 : Nat) (Ax.rowAt (0 : Nat) fun (k j : Nat) => trV (trRs B.recs k j)) (cellsOf' encF B.recs)) ∧ (false = false ∧ List.length B.prods = List.length B.prods ∧ contLe (List.length B.prods) (4 : Nat) (Ax.rowAt (0 : Nat) (cellsOf' P.encP B.prods)) (cellsOf' P.encP B.prods)) ∧ (false = false ∧ List.length B.cons = List.length B.cons ∧ contLe (List.length B.cons) (2 : Nat) (Ax.rowAt (0 : Nat) (cellsOf' encC B.cons)) (cellsOf' encC B.cons)) ∧ True) ∧ (B.rng.lo = B.rng.lo ∧ B.rng.hi = B.rng.hi ∧ B.epoch = B.epoch ∧ B.frozen = B.frozen ∧ (false = false ∧ List.length B.recs = List.length B.recs ∧ contLe (List.length B.recs) (5 : Nat) (Ax.rowAt (0 : Nat) (cellsOf' encR B.recs)) (cellsOf' encR B.recs)) ∧ (false = false ∧ List.length B.prods = List.length B.prods ∧ contLe (List.length B.prods) (4 : Nat) (Ax.rowAt (0 : Nat) (cellsOf' P.encP B.prods)) (cellsOf' P.encP B.prods)) ∧ (false = false ∧ List.length B.cons = List.length B.cons ∧ contLe (List.length B.cons) (2 : Nat) (Ax.rowAt (0 : Nat) (cellsOf' encC B.cons)) (cellsOf' encC B.cons)) ∧ True) ∧ True) ∧ True ∧ LenOk B ∧ true = true ∧ True ∧ ((((0 : Nat) = (0 : Nat) ∧ (0 : Nat) = (0 : Nat)) ∧ true = true ∧ (strN (List.length (partB p)) fun (k : Nat) => cellsOf' encB (partB p) ((0 : Nat) + k)) = sB p ∧ ((0 : Nat) = (0 : Nat) ∧ (0 : Nat) = (0 : Nat)) ∧ (0 : Int) = (0 : Int) ∧ (0 : Int) = (0 : Int) ∧ true = true ∧ true = true ∧ (0 : Int) = (0 : Int) ∧ True) ∧ ((p.rng.lo = p.rng.lo ∧ p.rng.hi = p.rng.hi ∧ p.epoch = p.epoch ∧ p.frozen = p.frozen ∧ (true = true ∧ List.length p.recs = List.length p.recs ∧ contLe (List.length p.recs) (5 : Nat) (cellsOf' encR p.recs) (cellsOf' encR p.recs)) ∧ (true = true ∧ List.length p.prods = List.length p.prods ∧ contLe (List.length p.prods) (4 : Nat) (cellsOf' P.encP p.prods) (cellsOf' P.encP p.prods)) ∧ (true = true ∧ List.length p.cons = List.length p.cons ∧ contLe (List.length p.cons) (2 : Nat) (cellsOf' encC p.cons) (cellsOf' encC p.cons)) ∧ True) ∧ (List.length A.recs = List.length A.recs ∧ ∀ (k : Nat), k < List.length A.recs → (List.getD A.recs k (@default Rec instInhabitedRec)).off = (grF (gA A) (0 : Nat) k).off ∧ (List.getD A.recs k (@default Rec instInhabitedRec)).key = (grF (gA A) (0 : Nat) k).key ∧ (List.length (List.getD A.recs k (@default Rec instInhabitedRec)).val = List.length (grF (gA A) (0 : Nat) k).val ∧ contLe (List.length (List.getD A.recs k (@default Rec instInhabitedRec)).val) (1 : Nat) (cellsOf' encB (List.getD A.recs k (@default Rec instInhabitedRec)).val) (cellsOf' encB (grF (gA A) (0 : Nat) k).val)) ∧ (List.getD A.recs k (@default Rec instInhabitedRec)).prod = (grF (gA A) (0 : Nat) k).prod ∧ (List.getD A.recs k (@default Rec instInhabitedRec)).seq = (grF (gA A) (0 : Nat) k).seq ∧ True) ∧ (List.length A.prods = List.length A.prods ∧ contLe (List.length A.prods) (4 : Nat) (cellsOf' P.encP A.prods) (cellsOf' P.encP A.prods)) ∧ (List.length A.cons = List.length A.cons ∧ contLe (List.length A.cons) (2 : Nat) (cellsOf' encC A.cons) (cellsOf' encC A.cons)) ∧ (A.rng.lo = A.rng.lo ∧ A.rng.hi = A.rng.hi ∧ A.epoch = A.epoch ∧ A.frozen = A.frozen ∧ ((0 : Nat) = (0 : Nat) ∧ List.length A.recs = List.length A.recs) ∧ ((0 : Nat) = (0 : Nat) ∧ List.length A.prods = List.length A.prods) ∧ ((0 : Nat) = (0 : Nat) ∧ List.length A.cons = List.length A.cons) ∧ True) ∧ True) ∧ true = true) ∧ LoopOk Tryd.prog (3 : Nat) (8 : Nat) (loopAt Tryd.prog (3 : Nat) (8 : Nat)) { t := ljT p (⟨(0 : Nat), lawH._proof_1 A⟩ : { i : Nat // i ≤ List.length A.recs }).val, m := lsM p A (grF (gA A) (⟨(0 : Nat), lawH._proof_1 A⟩ : { i : Nat // i ≤ List.length A.recs }).val), mv := [] : St } (T.map (lout lsX (ljS p)) ((fun (x : { i : Nat // i ≤ List.length A.recs }) => T.ret ()) (⟨(0 : Nat), lawH._proof_1 A⟩ : { i : Nat // i ≤ List.length A.recs }))) ∧ (true = true → (true = true → (true = true → ((p.rng.lo = p.rng.lo ∧ p.rng.hi = p.rng.hi ∧ p.epoch = p.epoch ∧ p.frozen = p.frozen ∧ (true = true ∧ List.length p.recs = List.length p.recs ∧ contLe (List.length p.recs) (5 : Nat) (cellsOf' encR p.recs) (cellsOf' encR p.recs)) ∧ (true = true ∧ List.length p.prods = List.length p.prods ∧ contLe (List.length p.prods) (4 : Nat) (cellsOf' P.encP p.prods) (cellsOf' P.encP p.prods)) ∧ (true = true ∧ List.length p.cons = List.length p.cons ∧ contLe (List.length p.cons) (2 : Nat) (cellsOf' encC p.cons) (cellsOf' encC p.cons)) ∧ True) ∧ True) ∧ True ∧ ByOk p ∧ (∀ (k : Nat), k < List.length (partB p) → true = true) ∧ (List.map (fun (a : AV) => match match a with | AV.s (Value.int IntKind.u8 n) => some n | AV.y (Value.int IntKind.u8 n) => some n | x => none with | some n => UInt8.ofNat (Int.toNat n) | none => (0 : UInt8)) (List.map (fun (k : Nat) => AV.y (Value.int IntKind.u8 (List.getD (partB p) ((0 : Nat) + k) (0 : Int)))) (List.range (List.length (partB p)))) == List.map (fun (a : AV) => match match a with | AV.s (Value.int IntKind.u8 n) => some n | AV.y (Value.int IntKind.u8 n) => some n | x => none with | some n => UInt8.ofNat (Int.toNat n) | none => (0 : UInt8)) (List.map (fun (k : Nat) => AV.y (Value.int IntKind.u8 (List.getD (partB p) k (0 : Int)))) (List.range (List.length (partB p))))) = true ∧ True) ∧ (true = false → false = true ∧ True)) ∧ (true = false → false = true ∧ True)) ∧ (true = false → false = true ∧ True)
theorem vcLaw_eq (p : Part) (k : ByteArray) (A : Part) (B : Part) : (ctrVC Tryd.prog (lawH p k A B) 3 [.agg (encPt true p), .y (.string k)] [] (boolR true)) = vcLaw p k A B := by kernel_rfl
def leT (p : Part) (e : Int) (i : Nat) : List AV := mkT 89 [(2, .ptr 0 0 0 0), (5, .y (.bool true)), (6, .y (.string (sB p))), (9, .y (.int .i64 e)), (12, .y (.int .i64 e)), (13, .y (.bool true)), (14, .y (.bool true)), (7, .ptr 2 0 0 0), (15, .y (.int .i64 i))]
def leM (p : Part) (_ : Nat) : List Blk := [.box 29 (encPt true p), .dead, .box 29 (encPt true default)]
def leS (p : Part) (e : Int) (_ : Unit) : Exit × List AV × List Blk := (.exit 0, mkT 89 [(2, .ptr 0 0 0 0), (5, .y (.bool true)), (6, .y (.string (sB p))), (9, .y (.int .i64 e)), (12, .y (.int .i64 e)), (13, .y (.bool true)), (14, .y (.bool true))], [.box 29 (encPt true p)])
def vcLe (p : Part) (e : Int) (i : { i : Nat // i ≤ 0 }) : Prop :=
  (false = true → false = true ∧ (false = true → false = true ∧ false = true ∧ false = true ∧ False) ∧ (false = false → ∃ (j : { i : Nat // i ≤ (0 : Nat) }), (0 : Nat) - j.val < (0 : Nat) - i.val ∧ ((((0 : Nat) = (0 : Nat) ∧ (0 : Nat) = (0 : Nat)) ∧ true = true ∧ sB p = sB p ∧ ((0 : Nat) = (0 : Nat) ∧ (0 : Nat) = (0 : Nat)) ∧ e = e ∧ e = e ∧ true = true ∧ true = true ∧ IntKind.wrap IntKind.i64 ((↑i.val : Int) + (1 : Int)) = (↑j.val : Int) ∧ True) ∧ ((p.rng.lo = p.rng.lo ∧ p.rng.hi = p.rng.hi ∧ p.epoch = p.epoch ∧ p.frozen = p.frozen ∧ (true = true ∧ List.length p.recs = List.length p.recs ∧ contLe (List.length p.recs) (5 : Nat) (cellsOf' encR p.recs) (cellsOf' encR p.recs)) ∧ (true = true ∧ List.length p.prods = List.length p.prods ∧ contLe (List.length p.prods) (4 : Nat) (cellsOf' P.encP p.prods) (cellsOf' P.encP p.prods)) ∧ (true = true ∧ List.length p.cons = List.length p.cons ∧ contLe (List.length p.cons) (2 : Nat) (cellsOf' encC p.cons) (cellsOf' encC p.cons)) ∧ True) ∧ (ByteArray.empty = ByteArray.empty ∧ ByteArray.empty = ByteArray.empty ∧ (0 : Int) = (0 : Int) ∧ (0 : Int) = (0 : Int) ∧ (true = true ∧ (0 : Nat) = (0 : Nat) ∧ contLe (0 : Nat) (5 : Nat) (cellsOf' encR []) (cellsOf' encR [])) ∧ (true = true ∧ (0 : Nat) = (0 : Nat) ∧ contLe (0 : Nat) (4 : Nat) (cellsOf' P.encP []) (cellsOf' P.encP [])) ∧ (true = true ∧ (0 : Nat) = (0 : Nat) ∧ contLe (0 : Nat) (2 : Nat) (cellsOf' encC []) (cellsOf' encC [])) ∧ True) ∧ True) ∧ true = true) ∧ true = true ∧ () = ())) ∧ (false = false → (((0 : Nat) = (0 : Nat) ∧ (0 : Nat) = (0 : Nat)) ∧ true = true ∧ sB p = sB p ∧ e = e ∧ e = e ∧ true = true ∧ true = true ∧ True) ∧ ((p.rng.lo = p.rng.lo ∧ p.rng.hi = p.rng.hi ∧ p.epoch = p.epoch ∧ p.frozen = p.frozen ∧ (true = true ∧ List.length p.recs = List.length p.recs ∧ contLe (List.length p.recs) (5 : Nat) (cellsOf' encR p.recs) (cellsOf' encR p.recs)) ∧ (true = true ∧ List.length p.prods = List.length p.prods ∧ contLe (List.length p.prods) (4 : Nat) (cellsOf' P.encP p.prods) (cellsOf' P.encP p.prods)) ∧ (true = true ∧ List.length p.cons = List.length p.cons ∧ contLe (List.length p.cons) (2 : Nat) (cellsOf' encC p.cons) (cellsOf' encC p.cons)) ∧ True) ∧ True) ∧ true = true)
theorem vcLe_eq (p : Part) (e : Int) (i : { i : Nat // i ≤ 0 }) : (loopVC Tryd.prog (hT _) 3 8 (fun (i : { i : Nat // i ≤ 0 }) => 0 - i.1) (fun i => leT p e i.1) (fun i => leM p i.1) [0, 1, 2, 3, 4, 5] (fun _ => .ret ()) (leS p e) i) = vcLe p e i := by kernel_rfl
noncomputable def laeH (p : Part) (k : ByteArray) (e : Int) : HintsT Tryd.prog := hh _ (lp1 3 8 (jobOf (fun (i : { i : Nat // i ≤ 0 }) => leT p e i.1) (fun i => leM p i.1) [0, 1, 2, 3, 4, 5] (fun _ => .ret ()) (leS p e) ⟨0, Nat.zero_le _⟩) noLp)
  (cs1 3 1 0 livC (cs1 3 2 1 (byC true p) (cs1 3 3 2 (erwC p k e) (cs1 3 4 2 (eroC p k e) (cs1 3 5 2 (samC default default) (cs1 3 6 2 (samC default default) (cs1 3 14 14 (byC true p) noCs))))))) noOp
def vcLae (p : Part) (k : ByteArray) (e : Int) : Prop :=
  True ∧ True ∧ ((p.rng.lo = p.rng.lo ∧ p.rng.hi = p.rng.hi ∧ p.epoch = p.epoch ∧ p.frozen = p.frozen ∧ (true = true ∧ List.length p.recs = List.length p.recs ∧ contLe (List.length p.recs) (5 : Nat) (cellsOf' encR p.recs) (cellsOf' encR p.recs)) ∧ (true = true ∧ List.length p.prods = List.length p.prods ∧ contLe (List.length p.prods) (4 : Nat) (cellsOf' P.encP p.prods) (cellsOf' P.encP p.prods)) ∧ (true = true ∧ List.length p.cons = List.length p.cons ∧ contLe (List.length p.cons) (2 : Nat) (cellsOf' encC p.cons) (cellsOf' encC p.cons)) ∧ True) ∧ True) ∧ True ∧ ByOk p ∧ (∀ (k : Nat), k < List.length (partB p) → true = true) ∧ ((p.rng.lo = p.rng.lo ∧ p.rng.hi = p.rng.hi ∧ p.epoch = p.epoch ∧ p.frozen = p.frozen ∧ (true = true ∧ List.length p.recs = List.length p.recs ∧ contLe (List.length p.recs) (5 : Nat) (cellsOf' encR p.recs) (cellsOf' encR p.recs)) ∧ (true = true ∧ List.length p.prods = List.length p.prods ∧ contLe (List.length p.prods) (4 : Nat) (cellsOf' P.encP p.prods) (cellsOf' P.encP p.prods)) ∧ (true = true ∧ List.length p.cons = List.length p.cons ∧ contLe (List.length p.cons) (2 : Nat) (cellsOf' encC p.cons) (cellsOf' encC p.cons)) ∧ True) ∧ k = k ∧ True) ∧ True ∧ SwEr p k e ∧ ((p.rng.lo = p.rng.lo ∧ p.rng.hi = p.rng.hi ∧ p.epoch = p.epoch ∧ p.frozen = p.frozen ∧ (true = true ∧ List.length p.recs = List.length p.recs ∧ contLe (List.length p.recs) (5 : Nat) (cellsOf' encR p.recs) (cellsOf' encR p.recs)) ∧ (true = true ∧ List.length p.prods = List.length p.prods ∧ contLe (List.length p.prods) (4 : Nat) (cellsOf' P.encP p.prods) (cellsOf' P.encP p.prods)) ∧ (true = true ∧ List.length p.cons = List.length p.cons ∧ contLe (List.length p.cons) (2 : Nat) (cellsOf' encC p.cons) (cellsOf' encC p.cons)) ∧ True) ∧ k = k ∧ True) ∧ True ∧ SwEr p k e ∧ ((ByteArray.empty = ByteArray.empty ∧ ByteArray.empty = ByteArray.empty ∧ (0 : Int) = (0 : Int) ∧ (0 : Int) = (0 : Int) ∧ (true = true ∧ (0 : Nat) = (0 : Nat) ∧ contLe (0 : Nat) (5 : Nat) (cellsOf' encR []) (cellsOf' encR [])) ∧ (true = true ∧ (0 : Nat) = (0 : Nat) ∧ contLe (0 : Nat) (4 : Nat) (cellsOf' P.encP []) (cellsOf' P.encP [])) ∧ (true = true ∧ (0 : Nat) = (0 : Nat) ∧ contLe (0 : Nat) (2 : Nat) (cellsOf' encC []) (cellsOf' encC [])) ∧ True) ∧ (ByteArray.empty = ByteArray.empty ∧ ByteArray.empty = ByteArray.empty ∧ (0 : Int) = (0 : Int) ∧ (0 : Int) = (0 : Int) ∧ (true = true ∧ (0 : Nat) = (0 : Nat) ∧ contLe (0 : Nat) (5 : Nat) (cellsOf' encR []) (cellsOf' encR [])) ∧ (true = true ∧ (0 : Nat) = (0 : Nat) ∧ contLe (0 : Nat) (4 : Nat) (cellsOf' P.encP []) (cellsOf' P.encP [])) ∧ (true = true ∧ (0 : Nat) = (0 : Nat) ∧ contLe (0 : Nat) (2 : Nat) (cellsOf' encC []) (cellsOf' encC [])) ∧ True) ∧ True) ∧ True ∧ (PartTy (@default Part instInhabitedPart) ∧ @default Part instInhabitedPart = @default Part instInhabitedPart) ∧ ((ByteArray.empty = ByteArray.empty ∧ ByteArray.empty = ByteArray.empty ∧ (0 : Int) = (0 : Int) ∧ (0 : Int) = (0 : Int) ∧ (true = true ∧ (0 : Nat) = (0 : Nat) ∧ contLe (0 : Nat) (5 : Nat) (cellsOf' encR []) (cellsOf' encR [])) ∧ (true = true ∧ (0 : Nat) = (0 : Nat) ∧ contLe (0 : Nat) (4 : Nat) (cellsOf' P.encP []) (cellsOf' P.encP [])) ∧ (true = true ∧ (0 : Nat) = (0 : Nat) ∧ contLe (0 : Nat) (2 : Nat) (cellsOf' encC []) (cellsOf' encC [])) ∧ True) ∧ (ByteArray.empty = ByteArray.empty ∧ ByteArray.empty = ByteArray.empty ∧ (0 : Int) = (0 : Int) ∧ (0 : Int) = (0 : Int) ∧ (true = true ∧ (0 : Nat) = (0 : Nat) ∧ contLe (0 : Nat) (5 : Nat) (cellsOf' encR []) (cellsOf' encR [])) ∧ (true = true ∧ (0 : Nat) = (0 : Nat) ∧ contLe (0 : Nat) (4 : Nat) (cellsOf' P.encP []) (cellsOf' P.encP [])) ∧ (true = true ∧ (0 : Nat) = (0 : Nat) ∧ contLe (0 : Nat) (2 : Nat) (cellsOf' encC []) (cellsOf' encC [])) ∧ True) ∧ True) ∧ True ∧ (PartTy (@default Part instInhabitedPart) ∧ @default Part instInhabitedPart = @default Part instInhabitedPart) ∧ ((((0 : Nat) = (0 : Nat) ∧ (0 : Nat) = (0 : Nat)) ∧ true = true ∧ (strN (List.length (partB p)) fun (k : Nat) => cellsOf' encB (partB p) ((0 : Nat) + k)) = sB p ∧ ((0 : Nat) = (0 : Nat) ∧ (0 : Nat) = (0 : Nat)) ∧ e = e ∧ e = e ∧ true = true ∧ true = true ∧ (0 : Int) = (0 : Int) ∧ True) ∧ ((p.rng.lo = p.rng.lo ∧ p.rng.hi = p.rng.hi ∧ p.epoch = p.epoch ∧ p.frozen = p.frozen ∧ (true = true ∧ List.length p.recs = List.length p.recs ∧ contLe (List.length p.recs) (5 : Nat) (cellsOf' encR p.recs) (cellsOf' encR p.recs)) ∧ (true = true ∧ List.length p.prods = List.length p.prods ∧ contLe (List.length p.prods) (4 : Nat) (cellsOf' P.encP p.prods) (cellsOf' P.encP p.prods)) ∧ (true = true ∧ List.length p.cons = List.length p.cons ∧ contLe (List.length p.cons) (2 : Nat) (cellsOf' encC p.cons) (cellsOf' encC p.cons)) ∧ True) ∧ (ByteArray.empty = ByteArray.empty ∧ ByteArray.empty = ByteArray.empty ∧ (0 : Int) = (0 : Int) ∧ (0 : Int) = (0 : Int) ∧ (true = true ∧ (0 : Nat) = (0 : Nat) ∧ contLe (0 : Nat) (5 : Nat) (cellsOf' encR []) (cellsOf' encR [])) ∧ (true = true ∧ (0 : Nat) = (0 : Nat) ∧ contLe (0 : Nat) (4 : Nat) (cellsOf' P.encP []) (cellsOf' P.encP [])) ∧ (true = true ∧ (0 : Nat) = (0 : Nat) ∧ contLe (0 : Nat) (2 : Nat) (cellsOf' encC []) (cellsOf' encC [])) ∧ True) ∧ True) ∧ true = true) ∧ LoopOk Tryd.prog (3 : Nat) (8 : Nat) (loopAt Tryd.prog (3 : Nat) (8 : Nat)) { t := leT p e (⟨(0 : Nat), laeH._proof_1⟩ : { i : Nat // i ≤ (0 : Nat) }).val, m := leM p (⟨(0 : Nat), laeH._proof_1⟩ : { i : Nat // i ≤ (0 : Nat) }).val, mv := [] : St } (T.map (lout [(0 : Nat), (1 : Nat), (2 : Nat), (3 : Nat), (4 : Nat), (5 : Nat)] (leS p e)) ((fun (x : { i : Nat // i ≤ (0 : Nat) }) => T.ret ()) (⟨(0 : Nat), laeH._proof_1⟩ : { i : Nat // i ≤ (0 : Nat) }))) ∧ (true = true → (true = true → (true = true → ((e == e) = true → ((p.rng.lo = p.rng.lo ∧ p.rng.hi = p.rng.hi ∧ p.epoch = p.epoch ∧ p.frozen = p.frozen ∧ (true = true ∧ List.length p.recs = List.length p.recs ∧ contLe (List.length p.recs) (5 : Nat) (cellsOf' encR p.recs) (cellsOf' encR p.recs)) ∧ (true = true ∧ List.length p.prods = List.length p.prods ∧ contLe (List.length p.prods) (4 : Nat) (cellsOf' P.encP p.prods) (cellsOf' P.encP p.prods)) ∧ (true = true ∧ List.length p.cons = List.length p.cons ∧ contLe (List.length p.cons) (2 : Nat) (cellsOf' encC p.cons) (cellsOf' encC p.cons)) ∧ True) ∧ True) ∧ True ∧ ByOk p ∧ (∀ (k : Nat), k < List.length (partB p) → true = true) ∧ (List.map (fun (a : AV) => match match a with | AV.s (Value.int IntKind.u8 n) => some n | AV.y (Value.int IntKind.u8 n) => some n | x => none with | some n => UInt8.ofNat (Int.toNat n) | none => (0 : UInt8)) (List.map (fun (k : Nat) => AV.y (Value.int IntKind.u8 (List.getD (partB p) ((0 : Nat) + k) (0 : Int)))) (List.range (List.length (partB p)))) == List.map (fun (a : AV) => match match a with | AV.s (Value.int IntKind.u8 n) => some n | AV.y (Value.int IntKind.u8 n) => some n | x => none with | some n => UInt8.ofNat (Int.toNat n) | none => (0 : UInt8)) (List.map (fun (k : Nat) => AV.y (Value.int IntKind.u8 (List.getD (partB p) k (0 : Int)))) (List.range (List.length (partB p))))) = true ∧ True) ∧ ((e == e) = false → false = true ∧ True)) ∧ (true = false → false = true ∧ True)) ∧ (true = false → false = true ∧ True)) ∧ (true = false → false = true ∧ True)
theorem vcLae_eq (p : Part) (k : ByteArray) (e : Int) : (ctrVC Tryd.prog (laeH p k e) 3 [.agg (encPt true p), .y (.string k)] [] (boolR true)) = vcLae p k e := by kernel_rfl
theorem li_loop (p A : Part) (i : Nat) (f : Nat → Rec) (hi : i < A.recs.length) (hl : (f i).val.length ≤ 140737488355328) (k : { k : Nat // k ≤ (f i).val.length }) : LoopOk Tryd.prog 3 11 (loopAt Tryd.prog 3 11) ⟨liT p i k.1, lsM p A (incF f i k.1), []⟩ (T.map (lout lsX (liS p A i f)) (.ret ())) := by
  refine loop_vcH (o := fun _ => .ret ()) (stT := fun (k : { k : Nat // k ≤ (f i).val.length }) => liT p i k.1) (stM := fun k => lsM p A (incF f i k.1)) Tryd.mixed (fun _ => rfl) (fun k => (vcLi_eq p A i f k).mpr ?_) k
  unfold vcLi
  obtain ⟨k, hk⟩ := k
  simp only [Int.toNat_natCast, Nat.zero_add, incF_at, incR_len]
  refine ⟨by omega, by omega, by simp, fun h1 => ?_, fun h1 => ?_⟩
  · have hkl : k < (f i).val.length := by simpa using h1
    have hex : ∀ p : { k : Nat // k ≤ (f i).val.length } → Prop, p ⟨k + 1, hkl⟩ → ∃ j, p j := fun p hp => ⟨_, hp⟩
    have hw : IntKind.i64.wrap ((k : Int) + 1) = ((k + 1 : Nat) : Int) := by rw [wrap_i64 (by omega) (by omega)]; omega
    have hwr := wr_le (enc := encB) (l := (incR (f i) k).val) (i := k) (sz := 1) (n := (f i).val.length) (cs := [AV.y (Value.int IntKind.u8 (IntKind.wrap IntKind.u8 (List.getD (incR (f i) k).val k (0 : Int) + (1 : Int))))]) (x := IntKind.wrap IntKind.u8 (List.getD (incR (f i) k).val k (0 : Int) + (1 : Int))) (by rw [incR_len]) (by rw [incR_len]; exact hkl) rfl (fun j hj => by (obtain rfl : j = 0 := by omega); exact le0_refl _)
    rw [← incR_set (f i) hkl] at hwr
    refine ⟨by simp; omega, by simp, by simpa using hkl, by simpa using hkl, by simpa using hkl, by simpa using hkl, hex _ ?_⟩
    have hne : ∀ p, ¬ p = i → incF f i k p = incF f i (k + 1) p := fun p h => by rw [incF_ne _ h, incF_ne _ h]
    repeat' with_reducible apply And.intro
    all_goals first
      | with_reducible rfl
      | exact trivial
      | exact hw
      | exact hwr
      | (show _ - (k + 1) < _ - k; omega)
      | exact contLe_refl _ _ _
      | (intro p hp hq; rw [hne p hq]; simp; done)
      | exact rfl
  · have hkl : k = (f i).val.length := by simp at h1; omega
    subst hkl
    simp
theorem grF_lt (g : Nat → Rec) {i q : Nat} (h : q < i) : grF g i q = incR (g q) (g q).val.length := if_pos h
theorem grF_ge (g : Nat → Rec) {i q : Nat} (h : ¬ q < i) : grF g i q = g q := if_neg h
theorem lj_loop (p A : Part) (hq : A.recs.length ≤ 9223372036854775806) (hg : ∀ q, q < A.recs.length → (gA A q).val.length ≤ 140737488355328) (i : { i : Nat // i ≤ A.recs.length }) : LoopOk Tryd.prog 3 8 (loopAt Tryd.prog 3 8) ⟨ljT p i.1, lsM p A (grF (gA A) i.1), []⟩ (T.map (lout lsX (ljS p)) (.ret ())) := by
  refine loop_vcH (o := fun _ => .ret ()) (stT := fun (i : { i : Nat // i ≤ A.recs.length }) => ljT p i.1) (stM := fun i => lsM p A (grF (gA A) i.1)) Tryd.mixed (fun _ => rfl) (fun i => (vcLj_eq p A i).mpr ?_) i
  unfold vcLj
  obtain ⟨i, hi⟩ := i
  refine ⟨fun h1 => ?_, fun h1 => by simp⟩
  have hlt : i < A.recs.length := by simpa using h1
  have hex : ∀ p : { i : Nat // i ≤ A.recs.length } → Prop, p ⟨i + 1, hlt⟩ → ∃ j, p j := fun p hp => ⟨_, hp⟩
  have hw : IntKind.i64.wrap ((i : Int) + 1) = ((i + 1 : Nat) : Int) := by rw [wrap_i64 (by omega) (by omega)]; omega
  have e0 : ∀ q, incF (grF (gA A) i) i 0 q = grF (gA A) i q := fun p => by
    by_cases h : p = i
    · subst h; rw [incF_at]; simp [incR]
    · rw [incF_ne _ h]
  have e1 : grF (gA A) i i = gA A i := grF_ge _ (by omega)
  have e2 : ∀ q, incF (grF (gA A) i) i (grF (gA A) i i).val.length q = grF (gA A) (i + 1) q := fun q => by
    by_cases h : q = i
    · subst h
      rw [incF_at, e1, grF_lt _ (by omega)]
    · rw [incF_ne _ h]
      by_cases h2 : q < i
      · rw [grF_lt _ h2, grF_lt _ (by omega)]
      · rw [grF_ge _ h2, grF_ge _ (by omega)]
  have hl : (grF (gA A) i i).val.length ≤ 140737488355328 := by rw [e1]; exact hg i hlt
  have lp := li_loop p A i (grF (gA A) i) hlt hl ⟨0, Nat.zero_le _⟩
  refine ⟨?_, lp, hex _ ?_⟩
  · simp only [e0]
    simp
  · simp only [e2]
    simp only [hw]
    refine ⟨by show _ - (i + 1) < _ - i; omega, ?_⟩
    simp
theorem trV_at (x : Rec) (j : Nat) (hj : j < 5) : trV (trRec x j) = Ax.get (encF x) j := by
  match j, hj with
  | 0, _ => rfl
  | 1, _ => rfl
  | 2, _ => rfl
  | 3, _ => rfl
  | 4, _ => rfl
theorem trV_le (l : List Rec) (n : Nat) : contLe n 5 (fun k j => trV (trRs l k j)) (cellsOf' encF l) := by
  intro k _ j hj
  show le0 (trV (trRec (l.getD k default) j)) (Ax.get (encF (l.getD k default)) j)
  rw [trV_at _ j hj]
  exact le0_refl _
theorem law_c (p : Part) (k : ByteArray) (A B : Part) (h1 : ByOk p) (h2 : SwOk p k A B) (h3 : LenOk A) (h4 : LenOk B) (hg : ∀ q, q < A.recs.length → (gA A q).val.length ≤ 140737488355328) : (boolR true).Sat (ACall' Tryd.prog 3 [.agg (encPt true p), .y (.string k)] []) := by
  refine ctr_vc (ht := lawH p k A B) Tryd.mixed rfl ?_
  rw [vcLaw_eq p k A B]
  unfold vcLaw
  have hl : A.recs.length ≤ 9223372036854775806 := by have := h3.rl; omega
  have lp := lj_loop p A hl hg ⟨0, Nat.zero_le _⟩
  have e : ∀ q, grF (gA A) 0 q = A.recs.getD q default := fun q => grF_ge _ (by omega)
  have es : strN (partB p).length (fun k => cellsOf' encB (partB p) k) = sB p := rfl
  have ta := trV_le A.recs A.recs.length
  have tb := trV_le B.recs B.recs.length
  simp only [Nat.zero_add, es, e, rowAt_zero, h1, h2, h3, h4, ta, tb, lp, contLe_refl, and_self, implies_true, true_and, and_true]
  simp [lp]
theorem le_loop (p : Part) (e : Int) (i : { i : Nat // i ≤ 0 }) : LoopOk Tryd.prog 3 8 (loopAt Tryd.prog 3 8) ⟨leT p e i.1, leM p i.1, []⟩ (T.map (lout [0, 1, 2, 3, 4, 5] (leS p e)) (.ret ())) := by
  refine loop_vcH (o := fun _ => .ret ()) (stT := fun (i : { i : Nat // i ≤ 0 }) => leT p e i.1) (stM := fun i => leM p i.1) Tryd.mixed (fun _ => rfl) (fun i => (vcLe_eq p e i).mpr ?_) i
  unfold vcLe
  refine ⟨fun h => by simp at h, fun _ => ?_⟩
  simp
theorem lae_c (p : Part) (k : ByteArray) (e : Int) (h1 : ByOk p) (h2 : SwEr p k e) : (boolR true).Sat (ACall' Tryd.prog 3 [.agg (encPt true p), .y (.string k)] []) := by
  refine ctr_vc (ht := laeH p k e) Tryd.mixed rfl ?_
  rw [vcLae_eq p k e]
  unfold vcLae
  have lp := le_loop p e ⟨0, Nat.zero_le _⟩
  have es : strN (partB p).length (fun k => cellsOf' encB (partB p) k) = sB p := rfl
  have hd : PartTy default := ⟨by decide, by decide, by decide, fun x hx => (by cases hx), fun x hx => (by cases hx)⟩
  simp only [Nat.zero_add, es, h1, h2, lp, hd, contLe_refl, and_self, implies_true, true_and, and_true]
  simp [lp]
end Go.Proofs.YtckklclehofddaaDoor.Q

namespace Go.Proofs.YtckklclehofddaaDoor
open Go.Ax Go.Shelf Go.RowKit Go.ChangeShapes Go.WideShapes Go.ChangeAt
set_option maxRecDepth 1000000
def toI {K : Type} : DataW K → Int
  | .lit (.int _ a) => a
  | _ => 0
def toS {K : Type} : DataW K → ByteArray
  | .lit (.string l) => ⟨l.toArray⟩
  | _ => ByteArray.empty
def toB {K : Type} : DataW K → Bool
  | .lit (.bool b) => b
  | _ => false
theorem encI_ok {K : Type} {k : IntKind} {d : DataW K} (h : (Sh.int k).wf d) : (Sh.int k).enc d = [.y (.int k (toI d))] := by
  obtain ⟨k', n, rfl, _⟩ := h
  rfl
theorem encS_ok {K : Type} {d : DataW K} (h : Sh.str.wf d) : Sh.str.enc d = [.y (.string (toS d))] := by
  obtain ⟨l, rfl, _⟩ := h
  rfl
theorem encO_ok {K : Type} {d : DataW K} (h : Sh.bool.wf d) : Sh.bool.enc d = [.y (.bool (toB d))] := by
  obtain ⟨l, rfl⟩ := h
  rfl
theorem enc_st {K : Type} (fs : List Sh) (ds : List (DataW K)) : (Sh.st fs).enc (.agg ds) = Sh.encL fs ds := by simp only [Sh.enc]
theorem enc_cons {K : Type} (s : Sh) (r : List Sh) (d : DataW K) (ds : List (DataW K)) : Sh.encL (s :: r) (d :: ds) = s.enc d ++ Sh.encL r ds := by simp only [Sh.encL]
theorem enc_nil {K : Type} (l : List (DataW K)) : Sh.encL [] l = [] := by simp only [Sh.encL]
theorem relA {P : Program} {W : World} {r : Reach} {base : Nat} {t : TypeId} {v : Value} {fs : Array Field} {l : List AV} {H : HH} {E : Env} (hu : P.underlying t = some (.struct fs)) (hv : Value.okWide P W r base t v) (h : RelL l H E v.cells.toList) : Rel (.agg l) H E v := by
  obtain ⟨cs, rfl, _⟩ := okWide_struct hu hv
  exact ⟨cs, rfl, h⟩
theorem str_size {K : Type} {d : DataW K} (h : Sh.str.wf d) : (toS d).size ≤ 9223372036854775807 := by
  obtain ⟨l, rfl, hl⟩ := h
  show l.toArray.size ≤ _
  rw [List.size_toArray]
  exact hl
theorem Tryd.own : ownKnob Tryd.prog.godebug = Option.none := by kernel_rfl
theorem Tryd.laidOut : laidOutB Tryd.prog = true := by kernel_rfl
theorem Tryd.mapsRowed : mapsRowed Tryd.prog = true := by kernel_rfl
theorem Tryd.slicesOk : slicesOk Tryd.prog = true := by kernel_rfl
theorem underBool : Tryd.prog.underlying 4 = some .bool := by kernel_rfl
def structTypes (P : Program) (t : TypeId) : Option (List TypeId) := match P.underlying t with | some (.struct fs) => some (fs.toList.map (·.type)) | _ => Option.none
theorem structTypes_ok {P : Program} {t : TypeId} {l : List TypeId} (h : structTypes P t = some l) : ∃ fs, P.underlying t = some (.struct fs) ∧ fs.toList.map (·.type) = l := by
  unfold structTypes at h
  split at h
  · rename_i fs hu
    exact ⟨fs, hu, Option.some.inj h⟩
  · cases h
end Go.Proofs.YtckklclehofddaaDoor

namespace Go.Proofs.YtckklclehofddaaDoor
open Go.Ax Go.Shelf Go.RowKit Go.ChangeShapes Go.WideShapes Go.ChangeAt
set_option maxRecDepth 1000000
def shRec : Sh := .st [.int .u64, .str, .sl (.int .u8), .int .u64, .int .u64]
def toRec {K : Type} : DataW K → Rec
  | .agg [a, b, c, d, e] => ⟨toI a, toS b, listOf toI c, toI d, toI e⟩
  | _ => default
theorem relB {K : Type} {d : DataW K} (hd : (Sh.sl (.int .u8)).wf d) {H : HH} {E : Env} {v : Value} (h : Rel (slAV (.int .u8) d) H E v) : Rel (encBs true (listOf toI d)) H E v := conv_sl (encA := encB) (fun x hx => encI_ok hx) hd h
theorem rec_enc {K : Type} {d : DataW K} (hd : shRec.wf d) : ∃ a b c e f, d = .agg [a, b, c, e, f] ∧ (Sh.sl (.int .u8)).wf c ∧ shRec.enc d = [.y (.int .u64 (toI a)), .y (.string (toS b)), slAV (.int .u8) c, .y (.int .u64 (toI e)), .y (.int .u64 (toI f))] := by
  obtain ⟨ds, rfl, d1, r1, rfl, w1, d2, r2, rfl, w2, d3, r3, rfl, w3, d4, r4, rfl, w4, d5, r5, rfl, w5, rfl⟩ := hd
  refine ⟨d1, d2, d3, d4, d5, rfl, w3, ?_⟩
  simp only [shRec, enc_st, enc_cons, enc_nil, encI_ok w1, encS_ok w2, slAV_eq, encI_ok w4, encI_ok w5]
  rfl
theorem rec_conv {K : Type} {d : DataW K} (hd : shRec.wf d) (j : Nat) (hj : j < 5) (H : HH) (E : Env) (v : Value) (h : Rel (Ax.get (shRec.enc d) j) H E v) : Rel (Ax.get (encR (toRec d)) j) H E v := by
  obtain ⟨a, b, c, e, f, rfl, wc, he⟩ := rec_enc hd
  rw [he] at h
  match j, hj with
  | 0, _ => exact h
  | 1, _ => exact h
  | 2, _ => exact relB wc h
  | 3, _ => exact h
  | 4, _ => exact h
theorem relRs {K : Type} {d : DataW K} (hd : (Sh.sl shRec).wf d) {H : HH} {E : Env} {v : Value} (h : Rel (slAV shRec d) H E v) : Rel (encRs true (listOf toRec d)) H E v :=
  conv_slR (encA := encR) (fun x hx j hj H E v => rec_conv hx j hj H E v) hd h
theorem undRs : Tryd.prog.underlying 25 = some (.slice 38) := by kernel_rfl
theorem bytesR : Tryd.prog.bytesOf 38 = 64 := by kernel_rfl
theorem rs_sized {K : Type} {d : DataW K} (hw : (d.weights Tryd.prog 25).all (· ≤ reachBytes) = true) : (listOf toRec d).length * 64 ≤ 140737488351232 := by
  have := weights_slice toRec undRs hw
  rwa [bytesR] at this
def shCon : Sh := .st [.str, .int .u64]
def toC {K : Type} : DataW K → Con
  | .agg [a, b] => ⟨toS a, toI b⟩
  | _ => default
theorem off_of {K : Type} {d : DataW K} (h : (Sh.int .u64).wf d) : offOk (toI d) := by
  obtain ⟨k, n, rfl, w⟩ := h
  have := bounds_u64 w
  exact ⟨by show 0 ≤ n; omega, by show n < _; omega⟩
theorem toC_ok {K : Type} {d : DataW K} (h : shCon.wf d) : shCon.enc d = encC (toC d) ∧ offOk (toC d).off := by
  obtain ⟨ds, rfl, d1, r1, rfl, w1, d2, r2, rfl, w2, rfl⟩ := h
  refine ⟨?_, off_of w2⟩
  simp only [shCon, enc_st, enc_cons, enc_nil, encS_ok w1, encI_ok w2]
  rfl
theorem wf_cons {K : Type} {d : DataW K} (h : (Sh.sl shCon).wf d) : wfC (listOf toC d) := by
  rcases h with rfl | ⟨xs, r, rfl, hx⟩
  · intro y hy; cases hy
  · intro y hy
    obtain ⟨x, hx', rfl⟩ := List.mem_map.1 hy
    exact (toC_ok (hx x hx')).2
theorem relCs {K : Type} {d : DataW K} (hd : (Sh.sl shCon).wf d) {H : HH} {E : Env} {v : Value} (h : Rel (slAV shCon d) H E v) : Rel (encCs true (listOf toC d)) H E v := conv_sl (fun x hx => (toC_ok hx).1) hd h
theorem undCs : Tryd.prog.underlying 27 = some (.slice 50) := by kernel_rfl
theorem bytesC : Tryd.prog.bytesOf 50 = 24 := by kernel_rfl
def shPro : Sh := .st [.int .u64, .int .u64, .bool, .int .u64]
def toPro {K : Type} : DataW K → P.Producer
  | .agg [a, b, c, e] => ⟨toI a, toI b, toB c, toI e⟩
  | _ => default
theorem toPro_ok {K : Type} {d : DataW K} (h : shPro.wf d) : shPro.enc d = P.encP (toPro d) ∧ offOk (toPro d).offset := by
  obtain ⟨ds, rfl, d1, r1, rfl, w1, d2, r2, rfl, w2, d3, r3, rfl, w3, d4, r4, rfl, w4, rfl⟩ := h
  refine ⟨?_, off_of w4⟩
  simp only [shPro, enc_st, enc_cons, enc_nil, encI_ok w1, encI_ok w2, encO_ok w3, encI_ok w4]
  rfl
theorem wf_prods {K : Type} {d : DataW K} (h : (Sh.sl shPro).wf d) : ∀ x ∈ listOf toPro d, 0 ≤ x.offset ∧ x.offset < 18446744073709551616 := by
  rcases h with rfl | ⟨xs, r, rfl, hx⟩
  · intro y hy; cases hy
  · intro y hy
    obtain ⟨x, hx', rfl⟩ := List.mem_map.1 hy
    exact (toPro_ok (hx x hx')).2
theorem relPs {K : Type} {d : DataW K} (hd : (Sh.sl shPro).wf d) {H : HH} {E : Env} {v : Value} (h : Rel (slAV shPro d) H E v) : Rel (P.encPs true (listOf toPro d)) H E v := conv_sl (fun x hx => (toPro_ok hx).1) hd h
theorem undPs : Tryd.prog.underlying 26 = some (.slice 46) := by kernel_rfl
theorem bytesP : Tryd.prog.bytesOf 46 = 32 := by kernel_rfl
def shRng : Sh := .st [.str, .str]
def toRng {K : Type} : DataW K → Rng
  | .agg [a, b] => ⟨toS a, toS b⟩
  | _ => default
theorem toRng_ok {K : Type} {d : DataW K} (h : shRng.wf d) : shRng.enc d = encG (toRng d) := by
  obtain ⟨ds, rfl, d1, r1, rfl, w1, d2, r2, rfl, w2, rfl⟩ := h
  simp only [shRng, enc_st, enc_cons, enc_nil, encS_ok w1, encS_ok w2]
  rfl
def shPart : Sh := .st [shRng, .int .u64, .int .u64, .sl shRec, .sl shPro, .sl shCon]
def toPart {K : Type} : DataW K → Part
  | .agg [a, b, c, e, f, g] => ⟨toRng a, toI b, toI c, listOf toRec e, listOf toPro f, listOf toC g⟩
  | _ => default
theorem relPart {K : Type} {d : DataW K} (hd : shPart.wf d) {H : HH} {E : Env} {vs : List Value} (h : RelL (shPart.enc d) H E vs) : RelL (encPt true (toPart d)) H E vs := by
  obtain ⟨ds, rfl, d1, r1, rfl, w1, d2, r2, rfl, w2, d3, r3, rfl, w3, d4, r4, rfl, w4, d5, r5, rfl, w5, d6, r6, rfl, w6, rfl⟩ := hd
  have e : shPart.enc (DataW.agg [d1, d2, d3, d4, d5, d6]) = [.y (.string (toRng d1).lo), .y (.string (toRng d1).hi), .y (.int .u64 (toI d2)), .y (.int .u64 (toI d3)), slAV shRec d4, slAV shPro d5, slAV shCon d6] := by
    simp only [shPart, enc_st, enc_cons, enc_nil, slAV_eq, toRng_ok w1, encI_ok w2, encI_ok w3]
    rfl
  rw [e] at h
  obtain ⟨v1, x1, rfl, h1, v2, x2, rfl, h2, v3, x3, rfl, h3, v4, x4, rfl, h4, v5, x5, rfl, h5, v6, x6, rfl, h6, v7, x7, rfl, h7, rfl⟩ := h
  exact ⟨_, _, rfl, h1, _, _, rfl, h2, _, _, rfl, h3, _, _, rfl, h4, _, _, rfl, relRs w4 h5, _, _, rfl, relPs w5 h6, _, _, rfl, relCs w6 h7, rfl⟩
theorem undPart : ∃ fs, Tryd.prog.underlying 29 = some (.struct fs) ∧ fs.toList.map (·.type) = [23, 24, 24, 25, 26, 27] := structTypes_ok (by kernel_rfl)
structure PartSz (p : Part) : Prop where
  rl : p.recs.length * 64 ≤ 140737488351232
  pl : p.prods.length * 32 ≤ 140737488351232
  cl : p.cons.length * 24 ≤ 140737488351232
  po : ∀ x ∈ p.prods, 0 ≤ x.offset ∧ x.offset < 18446744073709551616
  co : wfC p.cons
theorem part_sz {K : Type} {d : DataW K} (hd : shPart.wf d) (hw : (d.weights Tryd.prog 29).all (· ≤ reachBytes) = true) : PartSz (toPart d) := by
  obtain ⟨ds, rfl, d1, r1, rfl, w1, d2, r2, rfl, w2, d3, r3, rfl, w3, d4, r4, rfl, w4, d5, r5, rfl, w5, d6, r6, rfl, w6, rfl⟩ := hd
  obtain ⟨fs, hf, ht⟩ := undPart
  have h := weights_struct hf hw
  rw [ht] at h
  obtain ⟨h1, h⟩ := weights_cons h
  obtain ⟨h2, h⟩ := weights_cons h
  obtain ⟨h3, h⟩ := weights_cons h
  obtain ⟨h4, h⟩ := weights_cons h
  obtain ⟨h5, h⟩ := weights_cons h
  obtain ⟨h6, h⟩ := weights_cons h
  have k5 := weights_slice toPro undPs h5
  have k6 := weights_slice toC undCs h6
  rw [bytesP] at k5
  rw [bytesC] at k6
  exact ⟨rs_sized h4, k5, k6, wf_prods w5, wf_cons w6⟩
end Go.Proofs.YtckklclehofddaaDoor
