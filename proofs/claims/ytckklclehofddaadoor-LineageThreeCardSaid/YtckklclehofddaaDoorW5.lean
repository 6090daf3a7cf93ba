import Derived.Test.YtckklclehofddaaDoorW4
set_option linter.unusedVariables false
set_option linter.unusedSimpArgs false
set_option linter.unusedSectionVars false
/-! Lineage: the contract of Split. -/
namespace Go.Proofs.YtckklclehofddaaDoor.D
open Go.Ax
set_option maxRecDepth 1000000
def bad (p : Part) : Bool := !partOk p || IntKind.u64.wrap (p.epoch + 1) == 0
def splitE (p : Part) (k : ByteArray) : Int := if bad p = true then 172 else if p.frozen = 0 then 171 else splE p.rng k
def splitT (p : Part) (k : ByteArray) : T An := .ite (splitE p k == 0)
  (.ret (.tup [.agg (encPt true (partOf p (rLow p.rng k))), .agg (encPt true (partOf p (rHigh p.rng k))), .s (.int .i64 0)], [], []))
  (.ret (.tup [.agg (encPt true default), .agg (encPt true default), .y (.int .i64 (splitE p k))], [], []))
noncomputable def dofC (p : Part) (r : Rng) : Ctr Tryd.prog := ⟨19, [.agg (encG r), .ip false 7 (get (encPt true p))], [], .need (PartTy p ∧ isLog p.recs = true ∧ P.isTable p.prods = true ∧ isCons p.cons = true ∧ chkK r = 0) (partR (partOf p r)), T.Sat.need fun h => dof_c p r h.1 h.2.1 h.2.2.1 h.2.2.2.1 h.2.2.2.2⟩
noncomputable def splH (p : Part) (k : ByteArray) : HintsT Tryd.prog := hh _ noLp (cs1 16 5 1 (pcC true p) (cs1 7 4 3 (ksC p.rng k) (cs1 7 8 2 (dofC p (rLow p.rng k)) (cs1 7 8 5 (dofC p (rHigh p.rng k)) noCs)))) noOp
def vcSplit (p : Part) (k : ByteArray) : Prop :=
  ((p.rng.lo = p.rng.lo ∧ p.rng.hi = p.rng.hi ∧ p.epoch = p.epoch ∧ p.frozen = p.frozen ∧ (true = true ∧ List.length p.recs = List.length p.recs ∧ contLe (List.length p.recs) (5 : Nat) (cellsOf' encR p.recs) (cellsOf' encR p.recs)) ∧ (true = true ∧ List.length p.prods = List.length p.prods ∧ contLe (List.length p.prods) (4 : Nat) (cellsOf' P.encP p.prods) (cellsOf' P.encP p.prods)) ∧ (true = true ∧ List.length p.cons = List.length p.cons ∧ contLe (List.length p.cons) (2 : Nat) (cellsOf' encC p.cons) (cellsOf' encC p.cons)) ∧ True) ∧ True) ∧ True ∧ PartIn p ∧ (partOk p = true → ((IntKind.wrap IntKind.u64 (p.epoch + (1 : Int)) == (0 : Int)) = true → true = true ∧ True ∧ ((splitE p k == (0 : Int)) = true → (({ data := #[] : ByteArray } = p.rng.lo ∧ { data := #[] : ByteArray } = k ∧ (0 : Int) = IntKind.wrap IntKind.u64 (p.epoch + (1 : Int)) ∧ (0 : Int) = (0 : Int) ∧ List.length (outOf (rLow p.rng k) p.recs) = (0 : Nat) ∧ List.length (P.moveL p.prods (toOf (rLow p.rng k) p.recs)) = (0 : Nat) ∧ List.length (mapU p.cons (toOf (rLow p.rng k) p.recs) (List.length p.cons)) = (0 : Nat) ∧ True) ∧ ({ data := #[] : ByteArray } = k ∧ { data := #[] : ByteArray } = p.rng.hi ∧ (0 : Int) = IntKind.wrap IntKind.u64 (p.epoch + (1 : Int)) ∧ (0 : Int) = (0 : Int) ∧ List.length (outOf (rHigh p.rng k) p.recs) = (0 : Nat) ∧ List.length (P.moveL p.prods (toOf (rHigh p.rng k) p.recs)) = (0 : Nat) ∧ List.length (mapU p.cons (toOf (rHigh p.rng k) p.recs) (List.length p.cons)) = (0 : Nat) ∧ True) ∧ (172 : Int) = (0 : Int) ∧ True) ∧ True) ∧ ((splitE p k == (0 : Int)) = false → (({ data := #[] : ByteArray } = ByteArray.empty ∧ { data := #[] : ByteArray } = ByteArray.empty ∧ (0 : Int) = (0 : Int) ∧ (0 : Int) = (0 : Int) ∧ (0 : Nat) = (0 : Nat) ∧ (0 : Nat) = (0 : Nat) ∧ (0 : Nat) = (0 : Nat) ∧ True) ∧ ({ data := #[] : ByteArray } = ByteArray.empty ∧ { data := #[] : ByteArray } = ByteArray.empty ∧ (0 : Int) = (0 : Int) ∧ (0 : Int) = (0 : Int) ∧ (0 : Nat) = (0 : Nat) ∧ (0 : Nat) = (0 : Nat) ∧ (0 : Nat) = (0 : Nat) ∧ True) ∧ (172 : Int) = splitE p k ∧ True) ∧ True)) ∧ ((IntKind.wrap IntKind.u64 (p.epoch + (1 : Int)) == (0 : Int)) = false → ((p.frozen == (0 : Int)) = true → true = true ∧ True ∧ ((splitE p k == (0 : Int)) = true → (({ data := #[] : ByteArray } = p.rng.lo ∧ { data := #[] : ByteArray } = k ∧ (0 : Int) = IntKind.wrap IntKind.u64 (p.epoch + (1 : Int)) ∧ (0 : Int) = (0 : Int) ∧ List.length (outOf (rLow p.rng k) p.recs) = (0 : Nat) ∧ List.length (P.moveL p.prods (toOf (rLow p.rng k) p.recs)) = (0 : Nat) ∧ List.length (mapU p.cons (toOf (rLow p.rng k) p.recs) (List.length p.cons)) = (0 : Nat) ∧ True) ∧ ({ data := #[] : ByteArray } = k ∧ { data := #[] : ByteArray } = p.rng.hi ∧ (0 : Int) = IntKind.wrap IntKind.u64 (p.epoch + (1 : Int)) ∧ (0 : Int) = (0 : Int) ∧ List.length (outOf (rHigh p.rng k) p.recs) = (0 : Nat) ∧ List.length (P.moveL p.prods (toOf (rHigh p.rng k) p.recs)) = (0 : Nat) ∧ List.length (mapU p.cons (toOf (rHigh p.rng k) p.recs) (List.length p.cons)) = (0 : Nat) ∧ True) ∧ (171 : Int) = (0 : Int) ∧ True) ∧ True) ∧ ((splitE p k == (0 : Int)) = false → (({ data := #[] : ByteArray } = ByteArray.empty ∧ { data := #[] : ByteArray } = ByteArray.empty ∧ (0 : Int) = (0 : Int) ∧ (0 : Int) = (0 : Int) ∧ (0 : Nat) = (0 : Nat) ∧ (0 : Nat) = (0 : Nat) ∧ (0 : Nat) = (0 : Nat) ∧ True) ∧ ({ data := #[] : ByteArray } = ByteArray.empty ∧ { data := #[] : ByteArray } = ByteArray.empty ∧ (0 : Int) = (0 : Int) ∧ (0 : Int) = (0 : Int) ∧ (0 : Nat) = (0 : Nat) ∧ (0 : Nat) = (0 : Nat) ∧ (0 : Nat) = (0 : Nat) ∧ True) ∧ (171 : Int) = splitE p k ∧ True) ∧ True)) ∧ ((p.frozen == (0 : Int)) = false → true = true ∧ True ∧ ((p.rng.lo = p.rng.lo ∧ p.rng.hi = p.rng.hi ∧ True) ∧ k = k ∧ True) ∧ True ∧ ByteArray.size k ≤ (9223372036854775807 : Nat) ∧ ((splE p.rng k == (0 : Int)) = true → ((p.rng.lo = p.rng.lo ∧ k = k ∧ True) ∧ (false = false ∧ (7 : Nat) ≤ (7 : Nat) ∧ cellLe (7 : Nat) (fun (j : Nat) => Ax.get [AV.y (Value.string p.rng.lo), AV.y (Value.string p.rng.hi), AV.y (Value.int IntKind.u64 p.epoch), AV.y (Value.int IntKind.u64 p.frozen), AV.ys true (5 : Nat) (List.length p.recs) (cellsOf' encR p.recs), AV.ys true (4 : Nat) (List.length p.prods) (cellsOf' P.encP p.prods), AV.ys true (2 : Nat) (List.length p.cons) (cellsOf' encC p.cons)] ((0 : Nat) + j)) (Ax.get [AV.y (Value.string p.rng.lo), AV.y (Value.string p.rng.hi), AV.y (Value.int IntKind.u64 p.epoch), AV.y (Value.int IntKind.u64 p.frozen), AV.ys true (5 : Nat) (List.length p.recs) (cellsOf' encR p.recs), AV.ys true (4 : Nat) (List.length p.prods) (cellsOf' P.encP p.prods), AV.ys true (2 : Nat) (List.length p.cons) (cellsOf' encC p.cons)])) ∧ True) ∧ True ∧ (PartTy p ∧ isLog p.recs = true ∧ P.isTable p.prods = true ∧ isCons p.cons = true ∧ chkK (rLow p.rng k) = (0 : Int)) ∧ true = true ∧ True ∧ ((k = k ∧ p.rng.hi = p.rng.hi ∧ True) ∧ (false = false ∧ (7 : Nat) ≤ (7 : Nat) ∧ cellLe (7 : Nat) (fun (j : Nat) => Ax.get [AV.y (Value.string p.rng.lo), AV.y (Value.string p.rng.hi), AV.y (Value.int IntKind.u64 p.epoch), AV.y (Value.int IntKind.u64 p.frozen), AV.ys true (5 : Nat) (List.length p.recs) (cellsOf' encR p.recs), AV.ys true (4 : Nat) (List.length p.prods) (cellsOf' P.encP p.prods), AV.ys true (2 : Nat) (List.length p.cons) (cellsOf' encC p.cons)] ((0 : Nat) + j)) (Ax.get [AV.y (Value.string p.rng.lo), AV.y (Value.string p.rng.hi), AV.y (Value.int IntKind.u64 p.epoch), AV.y (Value.int IntKind.u64 p.frozen), AV.ys true (5 : Nat) (List.length p.recs) (cellsOf' encR p.recs), AV.ys true (4 : Nat) (List.length p.prods) (cellsOf' P.encP p.prods), AV.ys true (2 : Nat) (List.length p.cons) (cellsOf' encC p.cons)])) ∧ True) ∧ True ∧ (PartTy p ∧ isLog p.recs = true ∧ P.isTable p.prods = true ∧ isCons p.cons = true ∧ chkK (rHigh p.rng k) = (0 : Int)) ∧ true = true ∧ True ∧ ((splitE p k == (0 : Int)) = true → ((p.rng.lo = p.rng.lo ∧ k = k ∧ IntKind.wrap IntKind.u64 (p.epoch + (1 : Int)) = IntKind.wrap IntKind.u64 (p.epoch + (1 : Int)) ∧ (0 : Int) = (0 : Int) ∧ (true = true ∧ List.length (outOf (rLow p.rng k) p.recs) = List.length (outOf (rLow p.rng k) p.recs) ∧ contLe (List.length (outOf (rLow p.rng k) p.recs)) (5 : Nat) (cellsOf' encR (outOf (rLow p.rng k) p.recs)) (cellsOf' encR (outOf (rLow p.rng k) p.recs))) ∧ (true = true ∧ List.length (P.moveL p.prods (toOf (rLow p.rng k) p.recs)) = List.length (P.moveL p.prods (toOf (rLow p.rng k) p.recs)) ∧ contLe (List.length (P.moveL p.prods (toOf (rLow p.rng k) p.recs))) (4 : Nat) (cellsOf' P.encP (P.moveL p.prods (toOf (rLow p.rng k) p.recs))) (cellsOf' P.encP (P.moveL p.prods (toOf (rLow p.rng k) p.recs)))) ∧ (true = true ∧ List.length (mapU p.cons (toOf (rLow p.rng k) p.recs) (List.length p.cons)) = List.length (mapU p.cons (toOf (rLow p.rng k) p.recs) (List.length p.cons)) ∧ contLe (List.length (mapU p.cons (toOf (rLow p.rng k) p.recs) (List.length p.cons))) (2 : Nat) (cellsOf' encC (mapU p.cons (toOf (rLow p.rng k) p.recs) (List.length p.cons))) (cellsOf' encC (mapU p.cons (toOf (rLow p.rng k) p.recs) (List.length p.cons)))) ∧ True) ∧ (k = k ∧ p.rng.hi = p.rng.hi ∧ IntKind.wrap IntKind.u64 (p.epoch + (1 : Int)) = IntKind.wrap IntKind.u64 (p.epoch + (1 : Int)) ∧ (0 : Int) = (0 : Int) ∧ (true = true ∧ List.length (outOf (rHigh p.rng k) p.recs) = List.length (outOf (rHigh p.rng k) p.recs) ∧ contLe (List.length (outOf (rHigh p.rng k) p.recs)) (5 : Nat) (cellsOf' encR (outOf (rHigh p.rng k) p.recs)) (cellsOf' encR (outOf (rHigh p.rng k) p.recs))) ∧ (true = true ∧ List.length (P.moveL p.prods (toOf (rHigh p.rng k) p.recs)) = List.length (P.moveL p.prods (toOf (rHigh p.rng k) p.recs)) ∧ contLe (List.length (P.moveL p.prods (toOf (rHigh p.rng k) p.recs))) (4 : Nat) (cellsOf' P.encP (P.moveL p.prods (toOf (rHigh p.rng k) p.recs))) (cellsOf' P.encP (P.moveL p.prods (toOf (rHigh p.rng k) p.recs)))) ∧ (true = true ∧ List.length (mapU p.cons (toOf (rHigh p.rng k) p.recs) (List.length p.cons)) = List.length (mapU p.cons (toOf (rHigh p.rng k) p.recs) (List.length p.cons)) ∧ contLe (List.length (mapU p.cons (toOf (rHigh p.rng k) p.recs) (List.length p.cons))) (2 : Nat) (cellsOf' encC (mapU p.cons (toOf (rHigh p.rng k) p.recs) (List.length p.cons))) (cellsOf' encC (mapU p.cons (toOf (rHigh p.rng k) p.recs) (List.length p.cons)))) ∧ True) ∧ (0 : Int) = (0 : Int) ∧ True) ∧ True) ∧ ((splitE p k == (0 : Int)) = false → ((p.rng.lo = ByteArray.empty ∧ k = ByteArray.empty ∧ IntKind.wrap IntKind.u64 (p.epoch + (1 : Int)) = (0 : Int) ∧ (0 : Int) = (0 : Int) ∧ (true = true ∧ List.length (outOf (rLow p.rng k) p.recs) = (0 : Nat) ∧ contLe (List.length (outOf (rLow p.rng k) p.recs)) (5 : Nat) (cellsOf' encR (outOf (rLow p.rng k) p.recs)) (cellsOf' encR [])) ∧ (true = true ∧ List.length (P.moveL p.prods (toOf (rLow p.rng k) p.recs)) = (0 : Nat) ∧ contLe (List.length (P.moveL p.prods (toOf (rLow p.rng k) p.recs))) (4 : Nat) (cellsOf' P.encP (P.moveL p.prods (toOf (rLow p.rng k) p.recs))) (cellsOf' P.encP [])) ∧ (true = true ∧ List.length (mapU p.cons (toOf (rLow p.rng k) p.recs) (List.length p.cons)) = (0 : Nat) ∧ contLe (List.length (mapU p.cons (toOf (rLow p.rng k) p.recs) (List.length p.cons))) (2 : Nat) (cellsOf' encC (mapU p.cons (toOf (rLow p.rng k) p.recs) (List.length p.cons))) (cellsOf' encC [])) ∧ True) ∧ (k = ByteArray.empty ∧ p.rng.hi = ByteArray.empty ∧ IntKind.wrap IntKind.u64 (p.epoch + (1 : Int)) = (0 : Int) ∧ (0 : Int) = (0 : Int) ∧ (true = true ∧ List.length (outOf (rHigh p.rng k) p.recs) = (0 : Nat) ∧ contLe (List.length (outOf (rHigh p.rng k) p.recs)) (5 : Nat) (cellsOf' encR (outOf (rHigh p.rng k) p.recs)) (cellsOf' encR [])) ∧ (true = true ∧ List.length (P.moveL p.prods (toOf (rHigh p.rng k) p.recs)) = (0 : Nat) ∧ contLe (List.length (P.moveL p.prods (toOf (rHigh p.rng k) p.recs))) (4 : Nat) (cellsOf' P.encP (P.moveL p.prods (toOf (rHigh p.rng k) p.recs))) (cellsOf' P.encP [])) ∧ (true = true ∧ List.length (mapU p.cons (toOf (rHigh p.rng k) p.recs) (List.length p.cons)) = (0 : Nat) ∧ contLe (List.length (mapU p.cons (toOf (rHigh p.rng k) p.recs) (List.length p.cons))) (2 : Nat) (cellsOf' encC (mapU p.cons (toOf (rHigh p.rng k) p.recs) (List.length p.cons))) (cellsOf' encC [])) ∧ True) ∧ (0 : Int) = splitE p k ∧ True) ∧ True)) ∧ ((splE p.rng k == (0 : Int)) = false → ((splE p.rng k != (0 : Int)) = true → ((splitE p k == (0 : Int)) = true → (({ data := #[] : ByteArray } = p.rng.lo ∧ { data := #[] : ByteArray } = k ∧ (0 : Int) = IntKind.wrap IntKind.u64 (p.epoch + (1 : Int)) ∧ (0 : Int) = (0 : Int) ∧ List.length (outOf (rLow p.rng k) p.recs) = (0 : Nat) ∧ List.length (P.moveL p.prods (toOf (rLow p.rng k) p.recs)) = (0 : Nat) ∧ List.length (mapU p.cons (toOf (rLow p.rng k) p.recs) (List.length p.cons)) = (0 : Nat) ∧ True) ∧ ({ data := #[] : ByteArray } = k ∧ { data := #[] : ByteArray } = p.rng.hi ∧ (0 : Int) = IntKind.wrap IntKind.u64 (p.epoch + (1 : Int)) ∧ (0 : Int) = (0 : Int) ∧ List.length (outOf (rHigh p.rng k) p.recs) = (0 : Nat) ∧ List.length (P.moveL p.prods (toOf (rHigh p.rng k) p.recs)) = (0 : Nat) ∧ List.length (mapU p.cons (toOf (rHigh p.rng k) p.recs) (List.length p.cons)) = (0 : Nat) ∧ True) ∧ splE p.rng k = (0 : Int) ∧ True) ∧ True) ∧ ((splitE p k == (0 : Int)) = false → (({ data := #[] : ByteArray } = ByteArray.empty ∧ { data := #[] : ByteArray } = ByteArray.empty ∧ (0 : Int) = (0 : Int) ∧ (0 : Int) = (0 : Int) ∧ (0 : Nat) = (0 : Nat) ∧ (0 : Nat) = (0 : Nat) ∧ (0 : Nat) = (0 : Nat) ∧ True) ∧ ({ data := #[] : ByteArray } = ByteArray.empty ∧ { data := #[] : ByteArray } = ByteArray.empty ∧ (0 : Int) = (0 : Int) ∧ (0 : Int) = (0 : Int) ∧ (0 : Nat) = (0 : Nat) ∧ (0 : Nat) = (0 : Nat) ∧ (0 : Nat) = (0 : Nat) ∧ True) ∧ splE p.rng k = splitE p k ∧ True) ∧ True)) ∧ ((splE p.rng k != (0 : Int)) = false → ((ByteArray.empty = p.rng.lo ∧ ByteArray.empty = k ∧ True) ∧ (false = false ∧ (7 : Nat) ≤ (7 : Nat) ∧ cellLe (7 : Nat) (fun (j : Nat) => Ax.get [AV.y (Value.string p.rng.lo), AV.y (Value.string p.rng.hi), AV.y (Value.int IntKind.u64 p.epoch), AV.y (Value.int IntKind.u64 p.frozen), AV.ys true (5 : Nat) (List.length p.recs) (cellsOf' encR p.recs), AV.ys true (4 : Nat) (List.length p.prods) (cellsOf' P.encP p.prods), AV.ys true (2 : Nat) (List.length p.cons) (cellsOf' encC p.cons)] ((0 : Nat) + j)) (Ax.get [AV.y (Value.string p.rng.lo), AV.y (Value.string p.rng.hi), AV.y (Value.int IntKind.u64 p.epoch), AV.y (Value.int IntKind.u64 p.frozen), AV.ys true (5 : Nat) (List.length p.recs) (cellsOf' encR p.recs), AV.ys true (4 : Nat) (List.length p.prods) (cellsOf' P.encP p.prods), AV.ys true (2 : Nat) (List.length p.cons) (cellsOf' encC p.cons)])) ∧ True) ∧ True ∧ (PartTy p ∧ isLog p.recs = true ∧ P.isTable p.prods = true ∧ isCons p.cons = true ∧ chkK (rLow p.rng k) = (0 : Int)) ∧ true = true ∧ True ∧ ((ByteArray.empty = k ∧ ByteArray.empty = p.rng.hi ∧ True) ∧ (false = false ∧ (7 : Nat) ≤ (7 : Nat) ∧ cellLe (7 : Nat) (fun (j : Nat) => Ax.get [AV.y (Value.string p.rng.lo), AV.y (Value.string p.rng.hi), AV.y (Value.int IntKind.u64 p.epoch), AV.y (Value.int IntKind.u64 p.frozen), AV.ys true (5 : Nat) (List.length p.recs) (cellsOf' encR p.recs), AV.ys true (4 : Nat) (List.length p.prods) (cellsOf' P.encP p.prods), AV.ys true (2 : Nat) (List.length p.cons) (cellsOf' encC p.cons)] ((0 : Nat) + j)) (Ax.get [AV.y (Value.string p.rng.lo), AV.y (Value.string p.rng.hi), AV.y (Value.int IntKind.u64 p.epoch), AV.y (Value.int IntKind.u64 p.frozen), AV.ys true (5 : Nat) (List.length p.recs) (cellsOf' encR p.recs), AV.ys true (4 : Nat) (List.length p.prods) (cellsOf' P.encP p.prods), AV.ys true (2 : Nat) (List.length p.cons) (cellsOf' encC p.cons)])) ∧ True) ∧ True ∧ (PartTy p ∧ isLog p.recs = true ∧ P.isTable p.prods = true ∧ isCons p.cons = true ∧ chkK (rHigh p.rng k) = (0 : Int)) ∧ true = true ∧ True ∧ ((splitE p k == (0 : Int)) = true → ((p.rng.lo = p.rng.lo ∧ k = k ∧ IntKind.wrap IntKind.u64 (p.epoch + (1 : Int)) = IntKind.wrap IntKind.u64 (p.epoch + (1 : Int)) ∧ (0 : Int) = (0 : Int) ∧ (true = true ∧ List.length (outOf (rLow p.rng k) p.recs) = List.length (outOf (rLow p.rng k) p.recs) ∧ contLe (List.length (outOf (rLow p.rng k) p.recs)) (5 : Nat) (cellsOf' encR (outOf (rLow p.rng k) p.recs)) (cellsOf' encR (outOf (rLow p.rng k) p.recs))) ∧ (true = true ∧ List.length (P.moveL p.prods (toOf (rLow p.rng k) p.recs)) = List.length (P.moveL p.prods (toOf (rLow p.rng k) p.recs)) ∧ contLe (List.length (P.moveL p.prods (toOf (rLow p.rng k) p.recs))) (4 : Nat) (cellsOf' P.encP (P.moveL p.prods (toOf (rLow p.rng k) p.recs))) (cellsOf' P.encP (P.moveL p.prods (toOf (rLow p.rng k) p.recs)))) ∧ (true = true ∧ List.length (mapU p.cons (toOf (rLow p.rng k) p.recs) (List.length p.cons)) = List.length (mapU p.cons (toOf (rLow p.rng k) p.recs) (List.length p.cons)) ∧ contLe (List.length (mapU p.cons (toOf (rLow p.rng k) p.recs) (List.length p.cons))) (2 : Nat) (cellsOf' encC (mapU p.cons (toOf (rLow p.rng k) p.recs) (List.length p.cons))) (cellsOf' encC (mapU p.cons (toOf (rLow p.rng k) p.recs) (List.length p.cons)))) ∧ True) ∧ (k = k ∧ p.rng.hi = p.rng.hi ∧ IntKind.wrap IntKind.u64 (p.epoch + (1 : Int)) = IntKind.wrap IntKind.u64 (p.epoch + (1 : Int)) ∧ (0 : Int) = (0 : Int) ∧ (true = true ∧ List.length (outOf (rHigh p.rng k) p.recs) = List.length (outOf (rHigh p.rng k) p.recs) ∧ contLe (List.length (outOf (rHigh p.rng k) p.recs)) (5 : Nat) (cellsOf' encR (outOf (rHigh p.rng k) p.recs)) (cellsOf' encR (outOf (rHigh p.rng k) p.recs))) ∧ (true = true ∧ List.length (P.moveL p.prods (toOf (rHigh p.rng k) p.recs)) = List.length (P.moveL p.prods (toOf (rHigh p.rng k) p.recs)) ∧ contLe (List.length (P.moveL p.prods (toOf (rHigh p.rng k) p.recs))) (4 : Nat) (cellsOf' P.encP (P.moveL p.prods (toOf (rHigh p.rng k) p.recs))) (cellsOf' P.encP (P.moveL p.prods (toOf (rHigh p.rng k) p.recs)))) ∧ (true = true ∧ List.length (mapU p.cons (toOf (rHigh p.rng k) p.recs) (List.length p.cons)) = List.length (mapU p.cons (toOf (rHigh p.rng k) p.recs) (List.length p.cons)) ∧ contLe (List.length (mapU p.cons (toOf (rHigh p.rng k) p.recs) (List.length p.cons))) (2 : Nat) (cellsOf' encC (mapU p.cons (toOf (rHigh p.rng k) p.recs) (List.length p.cons))) (cellsOf' encC (mapU p.cons (toOf (rHigh p.rng k) p.recs) (List.length p.cons)))) ∧ True) ∧ (0 : Int) = (0 : Int) ∧ True) ∧ True) ∧ ((splitE p k == (0 : Int)) = false → ((p.rng.lo = ByteArray.empty ∧ k = ByteArray.empty ∧ IntKind.wrap IntKind.u64 (p.epoch + (1 : Int)) = (0 : Int) ∧ (0 : Int) = (0 : Int) ∧ (true = true ∧ List.length (outOf (rLow p.rng k) p.recs) = (0 : Nat) ∧ contLe (List.length (outOf (rLow p.rng k) p.recs)) (5 : Nat) (cellsOf' encR (outOf (rLow p.rng k) p.recs)) (cellsOf' encR [])) ∧ (true = true ∧ List.length (P.moveL p.prods (toOf (rLow p.rng k) p.recs)) = (0 : Nat) ∧ contLe (List.length (P.moveL p.prods (toOf (rLow p.rng k) p.recs))) (4 : Nat) (cellsOf' P.encP (P.moveL p.prods (toOf (rLow p.rng k) p.recs))) (cellsOf' P.encP [])) ∧ (true = true ∧ List.length (mapU p.cons (toOf (rLow p.rng k) p.recs) (List.length p.cons)) = (0 : Nat) ∧ contLe (List.length (mapU p.cons (toOf (rLow p.rng k) p.recs) (List.length p.cons))) (2 : Nat) (cellsOf' encC (mapU p.cons (toOf (rLow p.rng k) p.recs) (List.length p.cons))) (cellsOf' encC [])) ∧ True) ∧ (k = ByteArray.empty ∧ p.rng.hi = ByteArray.empty ∧ IntKind.wrap IntKind.u64 (p.epoch + (1 : Int)) = (0 : Int) ∧ (0 : Int) = (0 : Int) ∧ (true = true ∧ List.length (outOf (rHigh p.rng k) p.recs) = (0 : Nat) ∧ contLe (List.length (outOf (rHigh p.rng k) p.recs)) (5 : Nat) (cellsOf' encR (outOf (rHigh p.rng k) p.recs)) (cellsOf' encR [])) ∧ (true = true ∧ List.length (P.moveL p.prods (toOf (rHigh p.rng k) p.recs)) = (0 : Nat) ∧ contLe (List.length (P.moveL p.prods (toOf (rHigh p.rng k) p.recs))) (4 : Nat) (cellsOf' P.encP (P.moveL p.prods (toOf (rHigh p.rng k) p.recs))) (cellsOf' P.encP [])) ∧ (true = true ∧ List.length (mapU p.cons (toOf (rHigh p.rng k) p.recs) (List.length p.cons)) = (0 : Nat) ∧ contLe (List.length (mapU p.cons (toOf (rHigh p.rng k) p.recs) (List.length p.cons))) (2 : Nat) (cellsOf' encC (mapU p.cons (toOf (rHigh p.rng k) p.recs) (List.length p.cons))) (cellsOf' encC [])) ∧ True) ∧ (0 : Int) = splitE p k ∧ True) ∧ True)))))) ∧ (partOk p = false → true = true ∧ True ∧ ((splitE p k == (0 : Int)) = true → (({ data := #[] : ByteArray } = p.rng.lo ∧ { data := #[] : ByteArray } = k ∧ (0 : Int) = IntKind.wrap IntKind.u64 (p.epoch + (1 : Int)) ∧ (0 : Int) = (0 : Int) ∧ List.length (outOf (rLow p.rng k) p.recs) = (0 : Nat) ∧ List.length (P.moveL p.prods (toOf (rLow p.rng k) p.recs)) = (0 : Nat) ∧ List.length (mapU p.cons (toOf (rLow p.rng k) p.recs) (List.length p.cons)) = (0 : Nat) ∧ True) ∧ ({ data := #[] : ByteArray } = k ∧ { data := #[] : ByteArray } = p.rng.hi ∧ (0 : Int) = IntKind.wrap IntKind.u64 (p.epoch + (1 : Int)) ∧ (0 : Int) = (0 : Int) ∧ List.length (outOf (rHigh p.rng k) p.recs) = (0 : Nat) ∧ List.length (P.moveL p.prods (toOf (rHigh p.rng k) p.recs)) = (0 : Nat) ∧ List.length (mapU p.cons (toOf (rHigh p.rng k) p.recs) (List.length p.cons)) = (0 : Nat) ∧ True) ∧ (172 : Int) = (0 : Int) ∧ True) ∧ True) ∧ ((splitE p k == (0 : Int)) = false → (({ data := #[] : ByteArray } = ByteArray.empty ∧ { data := #[] : ByteArray } = ByteArray.empty ∧ (0 : Int) = (0 : Int) ∧ (0 : Int) = (0 : Int) ∧ (0 : Nat) = (0 : Nat) ∧ (0 : Nat) = (0 : Nat) ∧ (0 : Nat) = (0 : Nat) ∧ True) ∧ ({ data := #[] : ByteArray } = ByteArray.empty ∧ { data := #[] : ByteArray } = ByteArray.empty ∧ (0 : Int) = (0 : Int) ∧ (0 : Int) = (0 : Int) ∧ (0 : Nat) = (0 : Nat) ∧ (0 : Nat) = (0 : Nat) ∧ (0 : Nat) = (0 : Nat) ∧ True) ∧ (172 : Int) = splitE p k ∧ True) ∧ True))
set_option maxRecDepth 1000000 in
theorem vcSplit_eq (p : Part) (k : ByteArray) : (ctrVC Tryd.prog (splH p k) 7 [.agg (encPt true p), .y (.string k)] [] (splitT p k)) = vcSplit p k := by kernel_rfl
theorem less_irr : ∀ l : List UInt8, Op.bytesLess l l = false
  | [] => rfl
  | a :: l => by simp [Op.bytesLess, less_irr l]
theorem lt_irr (a : ByteArray) : lt a a = false := less_irr _
theorem beqB_iff {a b : ByteArray} : beqB a b = true ↔ a = b := by
  obtain ⟨⟨a⟩⟩ := a
  obtain ⟨⟨b⟩⟩ := b
  simp [beqB]
theorem lst_iff {a b : ByteArray} : (a.data.toList == b.data.toList) = true ↔ a = b := beqB_iff
theorem spl_ok {r : Rng} {k : ByteArray} (h : splE r k = 0) : chkK r = 0 ∧ k.size ≤ 32 ∧ k ≠ r.lo ∧ hasK r k = true := by
  unfold splE at h
  split at h
  · rename_i h1; simp at h1; exact absurd h h1
  · split at h
    · cases h
    · split at h
      · cases h
      · rename_i h1 h2 h3
        simp at h1 h3
        refine ⟨h1, by omega, fun e => ?_, h3.2⟩
        rw [beqB_iff.2 e] at h3
        simp at h3
theorem chk_iff {r : Rng} : chkK r = 0 ↔ r.lo.size ≤ 32 ∧ r.hi.size ≤ 32 ∧ (r.hi.data.toList = [] ∨ (lt r.hi r.lo = false ∧ r.hi ≠ r.lo)) := by
  unfold chkK
  by_cases h1 : 32 < r.lo.size ∨ 32 < r.hi.size
  · rw [if_pos h1]
    constructor
    · intro h; cases h
    · rintro ⟨a, b, _⟩; omega
  · rw [if_neg h1]
    have h2 : r.lo.size ≤ 32 ∧ r.hi.size ≤ 32 := by omega
    have h3 : (r.hi.data.toList == r.lo.data.toList) = decide (r.hi = r.lo) := by
      rw [Bool.eq_iff_iff, lst_iff, decide_eq_true_iff]
    rw [h3]
    clear h3
    generalize r.hi.data.toList = L
    by_cases h4 : L = []
    · simp [h4, h2]
    · by_cases h5 : lt r.hi r.lo = true
      · simp [h4, h5]
      · by_cases h6 : r.hi = r.lo
        · simp [h4, h6]
        · simp [h4, h5, h6, h2]
theorem has_iff {r : Rng} {k : ByteArray} : hasK r k = true ↔ chkK r = 0 ∧ k.size ≤ 32 ∧ (lt r.lo k = true ∨ r.lo = k) ∧ (r.hi.data.toList = [] ∨ lt k r.hi = true) := by
  unfold hasK
  have h3 : (r.lo.data.toList == k.data.toList) = decide (r.lo = k) := by
    rw [Bool.eq_iff_iff, lst_iff, decide_eq_true_iff]
  rw [h3]
  simp only [Bool.and_eq_true, Bool.or_eq_true, beq_iff_eq, decide_eq_true_iff]
  constructor
  · rintro ⟨a, b, c, d⟩; exact ⟨a, by omega, c, d⟩
  · rintro ⟨a, b, c, d⟩; exact ⟨a, by omega, c, d⟩
theorem low_chk {r : Rng} {k : ByteArray} (h : splE r k = 0) : chkK (rLow r k) = 0 := by
  obtain ⟨h1, h2, h3, h4⟩ := spl_ok h
  obtain ⟨c1, c2, c3⟩ := chk_iff.1 h1
  obtain ⟨_, _, h5, h6⟩ := has_iff.1 h4
  refine chk_iff.2 ⟨c1, h2, .inr ?_⟩
  have h5 : lt r.lo k = true := h5.resolve_right fun e => h3 e.symm
  refine ⟨?_, h3⟩
  show lt k r.lo = false
  cases hh : lt k r.lo
  · rfl
  · have := lt_trans' h5 hh
    rw [lt_irr] at this; cases this
theorem high_chk {r : Rng} {k : ByteArray} (h : splE r k = 0) : chkK (rHigh r k) = 0 := by
  obtain ⟨h1, h2, h3, h4⟩ := spl_ok h
  obtain ⟨c1, c2, c3⟩ := chk_iff.1 h1
  obtain ⟨_, _, h5, h6⟩ := has_iff.1 h4
  refine chk_iff.2 ⟨h2, c2, ?_⟩
  rcases h6 with h6 | h6
  · exact .inl h6
  · refine .inr ⟨?_, ?_⟩
    · show lt r.hi k = false
      cases hh : lt r.hi k
      · rfl
      · have := lt_trans' h6 hh
        rw [lt_irr] at this; cases this
    · intro e
      have e : r.hi = k := e
      rw [e, lt_irr] at h6; cases h6
theorem ok_parts {p : Part} (h : partOk p = true) : chkK p.rng = 0 ∧ p.epoch ≠ 0 ∧ isLog p.recs = true ∧ P.isTable p.prods = true ∧ isCons p.cons = true ∧ orFrom p 0 = true ∧ p.prods.any (lostB p) = false ∧ p.cons.any (aheadB p.recs.length) = false := by
  simp only [partOk, Bool.and_eq_true, Bool.not_eq_true', beq_iff_eq] at h
  obtain ⟨a, b, c, d, e, f, g, i⟩ := h
  exact ⟨a, by simpa using b, c, d, e, f, g, i⟩
theorem split_c (p : Part) (k : ByteArray) (hp : PartTy p) (hk : k.size ≤ 9223372036854775807) : (splitT p k).Sat (ACall' Tryd.prog 7 [.agg (encPt true p), .y (.string k)] []) := by
  refine ctr_vc (ht := splH p k) Tryd.mixed rfl ?_
  rw [vcSplit_eq p k]
  unfold vcSplit
  have eb : ({ data := #[] } : ByteArray) = ByteArray.empty := rfl
  have hi := hp.isIn
  rw [eb]
  cases h1 : partOk p
  · have e1 : splitE p k = 172 := by simp [splitE, bad, h1]
    simp [e1, hi]
  · by_cases h2 : IntKind.u64.wrap (p.epoch + 1) = 0
    · have e1 : splitE p k = 172 := by simp [splitE, bad, h1, h2]
      simp [e1, hi, h2]
    · by_cases h3 : p.frozen = 0
      · have e1 : splitE p k = 171 := by simp [splitE, bad, h1, h2, h3]
        simp [e1, hi, h2, h3]
      · have e1 : splitE p k = splE p.rng k := by simp [splitE, bad, h1, h2, h3]
        obtain ⟨o1, o2, o3, o4, o5, _⟩ := ok_parts h1
        by_cases h4 : splE p.rng k = 0
        · have c1 := low_chk h4
          have c2 := high_chk h4
          simp [e1, hi, h2, h3, h4, hk, c1, c2, hp, o3, o4, o5, partOf, rLow, rHigh]
          exact ⟨c1, c2⟩
        · simp [e1, hi, h2, h3, h4, hk]
noncomputable def splC (p : Part) (k : ByteArray) : Ctr Tryd.prog := ⟨7, [.agg (encPt true p), .y (.string k)], [], .need (PartTy p ∧ k.size ≤ 9223372036854775807) (splitT p k), T.Sat.need fun h => split_c p k h.1 h.2⟩
end Go.Proofs.YtckklclehofddaaDoor.D

/-! Lineage, plain: what a state is; what is kept of one may be. -/
namespace Go.Proofs.YtckklclehofddaaDoor.D
open Go.Ax
set_option maxRecDepth 1000000
theorem snoc_ind {α : Type} {P : List α → Prop} (h0 : P []) (h1 : ∀ l x, P l → P (l ++ [x])) (l : List α) : P l := by
  rw [← List.reverse_reverse l]
  induction l.reverse with
  | nil => exact h0
  | cons x r ih => rw [List.reverse_cons]; exact h1 _ _ ih
theorem sel_put (s : Kn) (a b x : Int) : Kn.sel (Kn.put s a b) x = if a = x then b else Kn.sel s x := by
  unfold Kn.sel Kn.put updHas updC selI
  by_cases h : a = x
  · simp [h]
  · simp [h]
theorem sel_0 (x : Int) : Kn.sel kn0 x = 0 := rfl
theorem knR_nil : knR [] = kn0 := rfl
theorem knR_app (l : List Rec) (x : Rec) : knR (l ++ [x]) = (knR l).put x.prod x.seq := by simp [knR]
/-- a number that is last, or none -/
theorem knR_sel (l : List Rec) (a : Int) : (Kn.sel (knR l) a = 0 ∧ ∀ x ∈ l, x.prod ≠ a) ∨ ∃ x ∈ l, x.prod = a ∧ Kn.sel (knR l) a = x.seq := by
  refine snoc_ind (P := fun l => (Kn.sel (knR l) a = 0 ∧ ∀ x ∈ l, x.prod ≠ a) ∨ ∃ x ∈ l, x.prod = a ∧ Kn.sel (knR l) a = x.seq) ?_ ?_ l
  · exact .inl ⟨rfl, fun x hx => by cases hx⟩
  · intro l x ih
    rw [knR_app, sel_put]
    by_cases h : x.prod = a
    · rw [if_pos h]; exact .inr ⟨x, by simp, h, rfl⟩
    · rw [if_neg h]
      rcases ih with ⟨h1, h2⟩ | ⟨y, h1, h2, h3⟩
      · refine .inl ⟨h1, fun y hy => ?_⟩
        rcases List.mem_append.1 hy with hy | hy
        · exact h2 y hy
        · simp at hy; subst hy; exact h
      · exact .inr ⟨y, by simp [h1], h2, h3⟩
def up1 (x y : Rec) : Prop := x.prod = y.prod → x.seq < y.seq
def recOk (g : Rng) (K : Kn) (x : Rec) : Prop := hasK g x.key = true ∧ 0 < x.seq ∧ x.seq ≤ Kn.sel K x.prod
def ordL (g : Rng) (K : Kn) (l : List Rec) : Prop := (∀ x ∈ l, recOk g K x) ∧ l.Pairwise up1
theorem orFrom_all (p : Part) : ∀ n k, p.recs.length - k = n → (orFrom p k = true ↔ ∀ j, k ≤ j → j < p.recs.length → okO p j = true) := by
  intro n
  induction n with
  | zero =>
    intro k hk
    rw [orFrom_end (by omega)]
    exact ⟨fun _ j h1 h2 => by omega, fun _ => rfl⟩
  | succ n ih =>
    intro k hk
    rw [orFrom_step (by omega), Bool.and_eq_true, ih (k + 1) (by omega)]
    constructor
    · rintro ⟨h1, h2⟩ j h3 h4
      rcases Nat.eq_or_lt_of_le h3 with rfl | h5
      · exact h1
      · exact h2 j h5 h4
    · intro h
      exact ⟨h k (Nat.le_refl _) (by omega), fun j h1 h2 => h j (by omega) h2⟩
theorem okO_iff {p : Part} {k : Nat} (h : k < p.recs.length) : okO p k = true ↔ hasK p.rng p.recs[k].key = true ∧ Kn.sel (knR (p.recs.take k)) p.recs[k].prod < p.recs[k].seq ∧ p.recs[k].seq ≤ Kn.sel (knP p.prods) p.recs[k].prod := by
  unfold okO
  simp [List.getElem?_eq_getElem h]
theorem knR_le {g : Rng} {K : Kn} : ∀ {l : List Rec}, ordL g K l → ∀ x ∈ l, x.seq ≤ Kn.sel (knR l) x.prod := by
  intro l
  refine snoc_ind (P := fun l => ordL g K l → ∀ x ∈ l, x.seq ≤ Kn.sel (knR l) x.prod) ?_ ?_ l
  · intro _ x hx; cases hx
  · intro l y ih h x hx
    rw [knR_app, sel_put]
    have h2 : ordL g K l := ⟨fun z hz => h.1 z (by simp [hz]), (List.pairwise_append.1 h.2).1⟩
    have h3 := (List.pairwise_append.1 h.2).2.2
    rcases List.mem_append.1 hx with hx | hx
    · by_cases e : y.prod = x.prod
      · rw [if_pos e]
        have := h3 x hx y (by simp) e.symm
        omega
      · rw [if_neg e]; exact ih h2 x hx
    · simp at hx; subst hx; rw [if_pos rfl]; exact Int.le_refl _
theorem ord_take {p : Part} (h : ∀ j, j < p.recs.length → okO p j = true) : ∀ k, k ≤ p.recs.length → ordL p.rng (knP p.prods) (p.recs.take k) := by
  intro k
  induction k with
  | zero => intro _; exact ⟨fun x hx => by simp at hx, by simp⟩
  | succ k ih =>
    intro hk
    have ih := ih (by omega)
    obtain ⟨o1, o2, o3⟩ := (okO_iff (by omega)).1 (h k (by omega))
    rw [List.take_add_one, List.getElem?_eq_getElem (by omega)]
    have hs : ∀ x ∈ p.recs.take k, x.prod = p.recs[k].prod → x.seq < p.recs[k].seq := fun x hx e => by
      have := knR_le ih x hx
      rw [e] at this
      omega
    have h0 : 0 < p.recs[k].seq := by
      rcases knR_sel (p.recs.take k) p.recs[k].prod with ⟨q, _⟩ | ⟨x, hx, hx2, q⟩
      · omega
      · have := (ih.1 x hx).2.1
        omega
    refine ⟨fun x hx => ?_, ?_⟩
    · rcases List.mem_append.1 hx with hx | hx
      · exact ih.1 x hx
      · simp at hx; subst hx; exact ⟨o1, h0, o3⟩
    · refine List.pairwise_append.2 ⟨ih.2, by simp, fun x hx y hy => ?_⟩
      simp at hy; subst hy
      exact hs x hx
theorem or_iff (p : Part) : orFrom p 0 = true ↔ ordL p.rng (knP p.prods) p.recs := by
  rw [orFrom_all p _ 0 rfl]
  constructor
  · intro h
    have := ord_take (fun j hj => h j (Nat.zero_le _) hj) p.recs.length (Nat.le_refl _)
    rwa [List.take_length] at this
  · intro h j _ hj
    have hx := h.1 p.recs[j] (List.getElem_mem hj)
    refine (okO_iff hj).2 ⟨hx.1, ?_, hx.2.2⟩
    rcases knR_sel (p.recs.take j) p.recs[j].prod with ⟨q, _⟩ | ⟨x, h1, h2, q⟩
    · have := hx.2.1; omega
    · rw [q]
      have hp := h.2
      rw [← List.take_append_drop j p.recs] at hp
      refine (List.pairwise_append.1 hp).2.2 x h1 _ ?_ h2
      rw [List.mem_iff_getElem]
      exact ⟨0, by simp; omega, by simp⟩
/-! what is kept -/
def hasR (r : Rng) (x : Rec) : Bool := hasK r x.key
def selR (r : Rng) (l : List Rec) : List Rec := l.filter (hasR r)
def renum (l : List Rec) : List Rec := l.mapIdx fun i x => x.to (IntKind.u64.wrap i)
theorem ren_len (l : List Rec) : (renum l).length = l.length := by simp [renum]
theorem ren_at (l : List Rec) (i : Nat) (h : i < l.length) : (renum l)[i]'(by simpa [ren_len] using h) = (l[i]).to (IntKind.u64.wrap i) := by simp [renum]
theorem ren_app (l : List Rec) (x : Rec) : renum (l ++ [x]) = renum l ++ [x.to (IntKind.u64.wrap l.length)] := by simp [renum]
def cntR (r : Rng) (l : List Rec) (i : Nat) : Nat := (selR r (l.take i)).length
theorem ke_eq (r : Rng) (l : List Rec) : ∀ k, k ≤ l.length → ke r (l.take k) = ⟨renum (selR r (l.take k)), (List.range k).map fun i => IntKind.u64.wrap (cntR r l i)⟩ := by
  intro k
  induction k with
  | zero => intro _; simp [ke, renum, selR]
  | succ k ih =>
    intro hk
    have ih := ih (by omega)
    rw [ke_step (by omega), ih, take_one (by omega), List.range_succ]
    unfold Ke.step selR
    rw [List.filter_append]
    have h1 : l.getD k default = l[k] := by simp [List.getElem?_eq_getElem (show k < l.length by omega)]
    rw [h1]
    simp only [Ke.mk.injEq]
    refine ⟨?_, ?_⟩
    · by_cases h2 : hasK r l[k].key = true
      · have h3 : List.filter (hasR r) [l[k]] = [l[k]] := by simp [hasR, h2]
        rw [h3, ren_app, if_pos h2, ren_len]
      · have h3 : List.filter (hasR r) [l[k]] = [] := by simp [hasR, h2]
        rw [h3, List.append_nil, if_neg h2]
    · rw [List.map_append, List.map_singleton, ren_len]
      rfl
theorem ke_full (r : Rng) (l : List Rec) : ke r l = ⟨renum (selR r l), (List.range l.length).map fun i => IntKind.u64.wrap (cntR r l i)⟩ := by
  have := ke_eq r l l.length (Nat.le_refl _)
  rwa [List.take_length] at this
theorem out_eq (r : Rng) (l : List Rec) : outOf r l = renum (selR r l) := by
  show (ke r l).out = _
  rw [ke_full]
theorem to_eq (r : Rng) (l : List Rec) : toOf r l = (List.range (l.length + 1)).map fun i => IntKind.u64.wrap (cntR r l i) := by
  show (ke r l).to ++ [IntKind.u64.wrap ((ke r l).out.length : Nat)] = _
  rw [ke_full, List.range_succ, List.map_append, ren_len]
  simp [cntR]
theorem toOf_len (r : Rng) (l : List Rec) : (toOf r l).length = l.length + 1 := by rw [to_eq]; simp
theorem cnt_le (r : Rng) (l : List Rec) (i : Nat) : cntR r l i ≤ i := by
  unfold cntR selR
  have := List.length_filter_le (hasR r) (l.take i)
  simp at this; omega
theorem cnt_len (r : Rng) (l : List Rec) (i : Nat) : cntR r l i ≤ (selR r l).length := by
  unfold cntR selR
  exact ((List.take_sublist i l).filter _).length_le
theorem cnt_succ {r : Rng} {l : List Rec} {i : Nat} (h : i < l.length) : cntR r l (i + 1) = cntR r l i + if hasR r l[i] then 1 else 0 := by
  unfold cntR selR
  rw [List.take_add_one, List.getElem?_eq_getElem h, List.filter_append, List.length_append]
  by_cases h1 : hasR r l[i] <;> simp [h1]
theorem toOf_at {r : Rng} {l : List Rec} {i : Nat} (hl : l.length ≤ 4096) (h : i ≤ l.length) : (toOf r l).getD i default = (cntR r l i : Int) := by
  rw [to_eq]
  have hc := cnt_le r l i
  have : i < l.length + 1 := by omega
  simp [List.getElem?_eq_getElem, this]
  exact wrap_u64 (by omega) (by omega)
theorem toOf_at0 {r : Rng} {l : List Rec} {i : Nat} (hl : l.length ≤ 4096) (h : i ≤ l.length) : (toOf r l).getD i 0 = (cntR r l i : Int) := toOf_at hl h
theorem sel_at {r : Rng} {l : List Rec} {i : Nat} (h : i < l.length) (hs : hasR r l[i] = true) : (selR r l)[cntR r l i]? = some l[i] := by
  have e : l = l.take i ++ l[i] :: l.drop (i + 1) := by
    have := List.take_append_drop i l
    rw [List.drop_eq_getElem_cons h] at this
    exact this.symm
  unfold cntR selR
  conv => lhs; rw [e]
  rw [List.filter_append, List.filter_cons, if_pos (by exact hs)]
  have h2 : (l.take i ++ l[i] :: l.drop (i + 1)).take i = l.take i := by rw [← e]
  rw [h2]
  simp
end Go.Proofs.YtckklclehofddaaDoor.D

/-! Lineage, plain: what is kept of a state may be a state. -/
namespace Go.Proofs.YtckklclehofddaaDoor.D
open Go.Ax
set_option maxRecDepth 1000000
theorem logFrom_all (l : List Rec) : logFrom l 0 = true ↔ ∀ k, k < l.length → okR (l.getD k default) k = true := by
  unfold logFrom
  rw [List.all_eq_true]
  constructor
  · intro h k hk; exact h k (by simp; omega)
  · intro h k hk
    simp at hk
    exact h k (by omega)
theorem ren_log {l : List Rec} (h1 : l.length ≤ 4096) (h2 : ∀ x ∈ l, x.key.size ≤ 32 ∧ x.val.length ≤ 256) : isLog (renum l) = true := by
  simp only [isLog, Bool.and_eq_true, decide_eq_true_eq, ren_len, h1, and_true]
  rw [logFrom_all]
  intro k hk
  rw [ren_len] at hk
  have h3 := h2 l[k] (List.getElem_mem hk)
  have : (renum l).getD k default = (l[k]).to (IntKind.u64.wrap k) := by
    rw [← ren_at l k hk]; simp [ren_len, hk]
  rw [this]
  simp [okR, Rec.to, h3]
theorem log_mem {l : List Rec} (h : isLog l = true) : ∀ x ∈ l, x.key.size ≤ 32 ∧ x.val.length ≤ 256 := by
  intro x hx
  obtain ⟨k, hk, rfl⟩ := List.mem_iff_getElem.1 hx
  simp only [isLog, Bool.and_eq_true] at h
  have := (logFrom_all l).1 h.1 k hk
  simp [okR, hk] at this
  exact ⟨by omega, by omega⟩
theorem mem_sel {r : Rng} {l : List Rec} {x : Rec} : x ∈ selR r l ↔ x ∈ l ∧ hasK r x.key = true := by simp [selR, hasR]
theorem sel_len (r : Rng) (l : List Rec) : (selR r l).length ≤ l.length := List.length_filter_le _ _
theorem out_log {r : Rng} {l : List Rec} (h : isLog l = true) : isLog (outOf r l) = true := by
  rw [out_eq]
  have h1 := log_len h
  have h2 := sel_len r l
  exact ren_log (by omega) fun x hx => log_mem h x (mem_sel.1 hx).1
/-! the table -/
theorem okFrom_iff (l : List P.Producer) : P.okFrom l 0 = true ↔ ∀ k, k < l.length → P.okP l k = true := by
  unfold P.okFrom
  rw [List.all_eq_true]
  constructor
  · intro h k hk; exact h k (by simp; omega)
  · intro h k hk
    simp at hk
    exact h k (by omega)
theorem mv_id (to : List Int) (x : P.Producer) : (P.mvP to x).id = x.id ∧ (P.mvP to x).seq = x.seq := by
  unfold P.mvP
  split <;> exact ⟨rfl, rfl⟩
theorem mv_here {to : List Int} {x : P.Producer} (h : (P.mvP to x).here = false) : (P.mvP to x).offset = 0 := by
  unfold P.mvP at *
  split
  · rename_i h1; rw [if_pos h1] at h; cases h
  · rfl
theorem move_at (l : List P.Producer) (to : List Int) {k : Nat} (h : k < l.length) : (P.moveL l to).getD k default = P.mvP to (l.getD k default) := by
  simp [P.moveL, h]
theorem okP_iff {l : List P.Producer} {k : Nat} : P.okP l k = true ↔ (l.getD k default).id ≠ 0 ∧ (1 ≤ (l.getD k default).seq ∧ (l.getD k default).seq ≤ 9223372036854775807) ∧ ((l.getD k default).here = false → (l.getD k default).offset = 0) ∧ (0 < k → (l.getD (k - 1) default).id < (l.getD k default).id) := by
  unfold P.okP
  generalize l.getD k default = x
  generalize l.getD (k - 1) default = y
  cases hh : x.here <;> by_cases h1 : x.id = 0 <;> by_cases h2 : 0 < k <;> by_cases h3 : x.id ≤ y.id <;> by_cases h4 : x.offset = 0 <;> by_cases h5 : 1 ≤ x.seq <;> by_cases h6 : x.seq ≤ 9223372036854775807 <;> simp [hh, h1, h2, h3, h4, h5, h6] <;> omega
theorem move_table {l : List P.Producer} (to : List Int) (h : P.isTable l = true) : P.isTable (P.moveL l to) = true := by
  simp only [P.isTable, Bool.and_eq_true, decide_eq_true_eq] at h ⊢
  have hl : (P.moveL l to).length = l.length := by simp [P.moveL]
  refine ⟨(okFrom_iff _).2 fun k hk => ?_, by rw [hl]; exact h.2⟩
  rw [hl] at hk
  obtain ⟨a, b, c, d⟩ := okP_iff.1 ((okFrom_iff _).1 h.1 k hk)
  rw [okP_iff, move_at l to hk]
  obtain ⟨e1, e2⟩ := mv_id to (l.getD k default)
  refine ⟨by rw [e1]; exact a, by rw [e2]; exact b, mv_here, fun h0 => ?_⟩
  rw [move_at l to (show k - 1 < l.length by omega), e1, (mv_id to _).1]
  exact d h0
theorem knP_move (l : List P.Producer) (to : List Int) : knP (P.moveL l to) = knP l := by
  have key : ∀ (l : List P.Producer) (s : Kn), (P.moveL l to).foldl (fun s x => Kn.put s x.id x.seq) s = l.foldl (fun s x => Kn.put s x.id x.seq) s := by
    intro l
    induction l with
    | nil => intro s; rfl
    | cons x r ih =>
      intro s
      show (P.moveL r to).foldl _ (Kn.put s (P.mvP to x).id (P.mvP to x).seq) = _
      rw [(mv_id to x).1, (mv_id to x).2]
      exact ih _
  exact key l kn0
/-! consumers -/
theorem map_len (l : List Con) (to : List Int) (h : to.length ≠ 0) : (mapU l to l.length).length = l.length := by
  simp [mapU, h]
theorem map_at {l : List Con} {to : List Int} (h : to.length ≠ 0) {k : Nat} (hk : k < l.length) : (mapU l to l.length).getD k default = movC to (l.getD k default) := by
  simp [mapU, h, hk]
theorem cons_iff (l : List Con) : coFrom l 0 = true ↔ ∀ k, k < l.length → coOk l k = true := by
  unfold coFrom
  rw [List.all_eq_true]
  constructor
  · intro h k hk; exact h k (by simp; omega)
  · intro h k hk
    simp at hk
    exact h k (by omega)
theorem map_cons {l : List Con} {to : List Int} (ht : to.length ≠ 0) (h : isCons l = true) : isCons (mapU l to l.length) = true := by
  simp only [isCons, Bool.and_eq_true, decide_eq_true_eq] at h ⊢
  rw [map_len l to ht]
  refine ⟨(cons_iff _).2 fun k hk => ?_, h.2⟩
  rw [map_len l to ht] at hk
  have h1 := (cons_iff _).1 h.1 k hk
  unfold coOk at *
  rw [map_at ht hk]
  by_cases h0 : 0 < k
  · rw [map_at ht (show k - 1 < l.length by omega)]
    exact h1
  · simp only [h0, decide_false, Bool.false_and] at h1 ⊢
    exact h1
theorem out_len (r : Rng) (l : List Rec) : (outOf r l).length = (selR r l).length := by rw [out_eq, ren_len]
/-- where a record that is kept came to -/
theorem out_at {r : Rng} {l : List Rec} {i : Nat} (h : i < l.length) (hs : hasR r l[i] = true) : (outOf r l).getD (cntR r l i) default = (l[i]).to (IntKind.u64.wrap (cntR r l i)) := by
  have h1 := sel_at h hs
  have h2 := (List.getElem?_eq_some_iff.1 h1).1
  rw [out_eq]
  have := ren_at (selR r l) (cntR r l i) h2
  rw [List.getElem?_eq_getElem h2] at h1
  rw [Option.some.inj h1] at this
  rw [← this]
  simp [ren_len, h2]
theorem lost_iff {p : Part} {x : P.Producer} : lostB p x = false ↔ (x.here = true → x.offset < p.recs.length ∧ (p.recs.getD x.offset.toNat default).prod = x.id ∧ (p.recs.getD x.offset.toNat default).seq = x.seq) := by
  unfold lostB
  generalize p.recs.getD x.offset.toNat default = y
  cases hh : x.here
  · simp
  · simp only [Bool.true_and, Bool.or_eq_false_iff, decide_eq_false_iff_not, bne_eq_false_iff_eq, forall_const]
    constructor
    · rintro ⟨a, b, c⟩; exact ⟨by omega, b, c⟩
    · rintro ⟨a, b, c⟩; exact ⟨by omega, b, c⟩
theorem lost_all {p : Part} : p.prods.any (lostB p) = false ↔ ∀ x ∈ p.prods, lostB p x = false := by
  rw [List.any_eq_false]
  constructor
  · intro h x hx; simpa using h x hx
  · intro h x hx; simp [h x hx]
/-- when a moved producer's record is here -/
theorem mv_here_at {r : Rng} {l : List Rec} {x : P.Producer} (hl : l.length ≤ 4096) (ho : 0 ≤ x.offset) (h : (P.mvP (toOf r l) x).here = true) :
    ∃ (o : Nat) (h1 : o < l.length), x.here = true ∧ x.offset = (o : Int) ∧ hasR r l[o] = true ∧ (P.mvP (toOf r l) x).offset = (cntR r l o : Int) := by
  unfold P.mvP at h ⊢
  split at h
  case isFalse => cases h
  rename_i hk
  rw [if_pos hk]
  simp only [P.mvOk, Bool.and_eq_true, decide_eq_true_eq, toOf_len] at hk
  obtain ⟨h1, h2, h3, h4⟩ := hk
  obtain ⟨o, e⟩ : ∃ o : Nat, x.offset = o := ⟨x.offset.toNat, by omega⟩
  rw [e] at h3 h4 ⊢
  have ho : o < l.length := by omega
  have e2 : ((o : Int) + 1).toNat = o + 1 := by omega
  simp only [Int.toNat_natCast] at h4 ⊢
  rw [toOf_at hl (by omega)] at h4 ⊢
  refine ⟨o, ho, h1, rfl, ?_, rfl⟩
  have h5 : (toOf r l).getD (o + 1) default = (cntR r l (o + 1) : Int) := toOf_at hl (by omega)
  cases hs : hasR r l[o]
  · have := cnt_succ (r := r) ho
    rw [hs] at this
    simp at this
    rw [h5] at h4
    omega
  · rfl
theorem part_ok {p : Part} {r : Rng} (hp : PartTy p) (h : partOk p = true) (hr : chkK r = 0) (he : IntKind.u64.wrap (p.epoch + 1) ≠ 0) : partOk (partOf p r) = true := by
  obtain ⟨a, b, c, d, e, f, g, i⟩ := ok_parts h
  have hl := log_len c
  have ht : (toOf r p.recs).length ≠ 0 := by rw [toOf_len]; omega
  have hf := (or_iff p).1 f
  have key : orFrom (partOf p r) 0 = true := by
    rw [or_iff]
    show ordL r (knP (P.moveL p.prods (toOf r p.recs))) (outOf r p.recs)
    rw [knP_move, out_eq]
    have hs : ∀ x ∈ selR r p.recs, recOk r (knP p.prods) x := fun x hx => by
      obtain ⟨m1, m2⟩ := mem_sel.1 hx
      exact ⟨m2, (hf.1 x m1).2⟩
    have hq : (selR r p.recs).Pairwise up1 := hf.2.sublist List.filter_sublist
    constructor
    · intro x hx
      obtain ⟨j, hj, rfl⟩ := List.mem_iff_getElem.1 hx
      have hj2 : j < (selR r p.recs).length := by simpa [ren_len] using hj
      rw [ren_at _ _ hj2]
      exact (hs ((selR r p.recs)[j]) (List.getElem_mem hj2) :)
    · rw [List.pairwise_iff_getElem] at hq ⊢
      intro i j hi hj hij
      rw [ren_at _ _ (by simpa [ren_len] using hi), ren_at _ _ (by simpa [ren_len] using hj)]
      exact hq i j _ _ hij
  have kl : (partOf p r).prods.any (lostB (partOf p r)) = false := by
    rw [lost_all]
    intro y hy
    obtain ⟨x, hx, rfl⟩ := List.mem_map.1 (show y ∈ p.prods.map (P.mvP (toOf r p.recs)) from hy)
    rw [lost_iff]
    intro hh
    obtain ⟨o, h1, h2, h3, h4, h5⟩ := mv_here_at hl (hp.po x hx).1 hh
    have h6 := lost_iff.1 (lost_all.1 g x hx) h2
    rw [h5]
    have h7 : (outOf r p.recs).getD (cntR r p.recs o) default = _ := out_at h1 h4
    obtain ⟨m1, m2⟩ := mv_id (toOf r p.recs) x
    refine ⟨?_, ?_⟩
    · show (cntR r p.recs o : Int) < ((outOf r p.recs).length : Nat)
      rw [out_len]
      have := (List.getElem?_eq_some_iff.1 (sel_at h1 h4)).1
      omega
    · show ((outOf r p.recs).getD (Int.toNat (cntR r p.recs o : Int)) default).prod = _ ∧ ((outOf r p.recs).getD (Int.toNat (cntR r p.recs o : Int)) default).seq = _
      rw [Int.toNat_natCast, h7, m1, m2]
      rw [h3] at h6
      simp [List.getElem?_eq_getElem h1] at h6
      exact h6.2
  have ka : (partOf p r).cons.any (aheadB (partOf p r).recs.length) = false := by
    rw [List.any_eq_false]
    intro y hy
    have hy : y ∈ mapU p.cons (toOf r p.recs) p.cons.length := hy
    simp only [mapU, if_neg ht, List.take_length] at hy
    obtain ⟨x, hx, rfl⟩ := List.mem_map.1 hy
    have hx0 := hp.co x hx
    have : (movC (toOf r p.recs) x).off ≤ ((selR r p.recs).length : Int) := by
      unfold movC elemO
      rw [toOf_len]
      obtain ⟨q1, q2⟩ := hx0
      have hm : ∃ m : Nat, (min x.off (((p.recs.length + 1 : Nat) : Int) - 1)).toNat = m ∧ m ≤ p.recs.length := ⟨_, rfl, by omega⟩
      obtain ⟨m, hm1, hm2⟩ := hm
      rw [hm1]
      show (toOf r p.recs).getD m 0 ≤ _
      rw [toOf_at0 hl hm2]
      have := cnt_len r p.recs m
      omega
    show ¬ aheadB (outOf r p.recs).length _ = true
    rw [out_len]
    simp [aheadB]
    exact this
  have e1 : chkK (partOf p r).rng = 0 := hr
  have e2 : (partOf p r).epoch ≠ 0 := he
  simp only [partOk, key, kl, ka, e1]
  have c' : isLog (partOf p r).recs = true := out_log c
  have d' : P.isTable (partOf p r).prods = true := move_table _ d
  have i' : isCons (partOf p r).cons = true := map_cons ht e
  simp [c', d', i', e2]
end Go.Proofs.YtckklclehofddaaDoor.D

/-! Lineage, plain: what is kept of what was kept. -/
namespace Go.Proofs.YtckklclehofddaaDoor.D
open Go.Ax
set_option maxRecDepth 1000000
def strip (x : Rec) : Rec := x.to 0
theorem ren_strip (l : List Rec) : (renum l).map strip = l.map strip := by
  unfold renum
  apply List.ext_getElem
  · simp
  · intro i h1 h2; simp [strip, Rec.to]
theorem ren_of (l : List Rec) : renum (l.map strip) = renum l := by
  unfold renum
  apply List.ext_getElem
  · simp
  · intro i h1 h2; simp [strip, Rec.to]
theorem sel_strip (r : Rng) (l : List Rec) : (selR r l).map strip = selR r (l.map strip) := by
  unfold selR
  rw [List.filter_map]
  rfl
theorem ren_sel (r : Rng) (l : List Rec) : renum (selR r (renum l)) = renum (selR r l) := by
  rw [← ren_of, sel_strip, ren_strip, ← sel_strip, ren_of]
def inside (r2 r1 : Rng) : Prop := ∀ k, hasK r2 k = true → hasK r1 k = true
theorem sel_sel {r1 r2 : Rng} (h : inside r2 r1) (l : List Rec) : selR r2 (selR r1 l) = selR r2 l := by
  unfold selR
  rw [List.filter_filter]
  congr 1
  funext x
  unfold hasR
  cases h2 : hasK r2 x.key
  · rfl
  · rw [h _ h2]; rfl
theorem out_out {r1 r2 : Rng} (h : inside r2 r1) (l : List Rec) : outOf r2 (outOf r1 l) = outOf r2 l := by
  rw [out_eq, out_eq, out_eq, ren_sel, sel_sel h]
theorem sel_take (r : Rng) (l : List Rec) (i : Nat) : (selR r l).take (cntR r l i) = selR r (l.take i) := by
  have e : selR r l = selR r (l.take i) ++ selR r (l.drop i) := by
    unfold selR
    rw [← List.filter_append, List.take_append_drop]
  unfold cntR
  rw [e, List.take_left']
  rfl
theorem cnt_strip (r : Rng) (l : List Rec) (i : Nat) : cntR r (l.map strip) i = cntR r l i := by
  unfold cntR
  rw [← List.map_take, ← sel_strip, List.length_map]
theorem cnt_cnt {r1 r2 : Rng} (h : inside r2 r1) (l : List Rec) (i : Nat) : cntR r2 (outOf r1 l) (cntR r1 l i) = cntR r2 l i := by
  rw [out_eq, ← cnt_strip, ren_strip, cnt_strip]
  conv => lhs; unfold cntR
  rw [show (selR r1 l).take (selR r1 (l.take i)).length = selR r1 (l.take i) from sel_take r1 l i, sel_sel h]
  rfl
theorem mv_eq {r : Rng} {l : List Rec} {x : P.Producer} (hl : l.length ≤ 4096) (ho : 0 ≤ x.offset) :
    P.mvP (toOf r l) x = if x.here = true ∧ x.offset < l.length ∧ hasR r (l.getD x.offset.toNat default) = true then ⟨x.id, x.seq, true, (cntR r l x.offset.toNat : Int)⟩ else ⟨x.id, x.seq, false, 0⟩ := by
  obtain ⟨o, e⟩ : ∃ o : Nat, x.offset = o := ⟨x.offset.toNat, by omega⟩
  have e2 : ((o : Int) + 1).toNat = o + 1 := by omega
  unfold P.mvP P.mvOk
  rw [toOf_len, e, Int.toNat_natCast]
  have hm : (if (x.here && (decide (1 < l.length + 1) && (decide ((o : Int) ≤ ((l.length + 1 : Nat) : Int) - 2) && decide ((toOf r l).getD o default < (toOf r l).getD (o + 1) default)))) = true then (⟨x.id, x.seq, true, (toOf r l).getD o default⟩ : P.Producer) else ⟨x.id, x.seq, false, 0⟩) =
      if x.here = true ∧ (o : Int) < l.length ∧ hasR r (l.getD o default) = true then ⟨x.id, x.seq, true, (cntR r l o : Int)⟩ else ⟨x.id, x.seq, false, 0⟩ := by
    by_cases h1 : x.here = true
    · by_cases h2 : o < l.length
      · have h3 : (toOf r l).getD o default = (cntR r l o : Int) := toOf_at hl (by omega)
        have h4 : (toOf r l).getD (o + 1) default = (cntR r l (o + 1) : Int) := toOf_at hl (by omega)
        have h5 := cnt_succ (r := r) h2
        have h6 : l.getD o default = l[o] := by simp [h2]
        rw [h3, h4, h6]
        have h7 : (o : Int) ≤ ((l.length + 1 : Nat) : Int) - 2 := by omega
        have h8 : 1 < l.length + 1 := by omega
        have h9 : (o : Int) < l.length := by omega
        cases hs : hasR r l[o]
        · rw [hs] at h5
          have : ¬ ((cntR r l o : Int) < (cntR r l (o + 1) : Int)) := by simp at h5; omega
          simp [this]
        · rw [hs] at h5
          have : ((cntR r l o : Int) < (cntR r l (o + 1) : Int)) := by simp at h5; omega
          simp only [h1, h7, h8, h9, this, decide_true, Bool.and_true, if_true, and_true]
      · have h7 : ¬ ((o : Int) ≤ ((l.length + 1 : Nat) : Int) - 2) := by omega
        have h9 : ¬ ((o : Int) < l.length) := by omega
        simp only [h1, h7, h9, decide_false, Bool.false_and, Bool.and_false, false_and, and_false, if_false]
        rfl
    · have h1 : x.here = false := by simpa using h1
      simp [h1]
  exact hm
theorem mv_mv {r1 r2 : Rng} {l : List Rec} {x : P.Producer} (h : inside r2 r1) (hl : l.length ≤ 4096) (ho : 0 ≤ x.offset) : P.mvP (toOf r2 (outOf r1 l)) (P.mvP (toOf r1 l) x) = P.mvP (toOf r2 l) x := by
  have hl2 : (outOf r1 l).length ≤ 4096 := by
    have := sel_len r1 l
    rw [out_len]; omega
  rw [mv_eq (r := r2) hl ho, mv_eq (r := r1) hl ho]
  by_cases h1 : x.here = true ∧ x.offset < l.length ∧ hasR r1 (l.getD x.offset.toNat default) = true
  · rw [if_pos h1]
    rw [mv_eq (r := r2) hl2 (by show (0 : Int) ≤ (cntR r1 l x.offset.toNat : Int); omega)]
    obtain ⟨a, b, c⟩ := h1
    obtain ⟨o, e⟩ : ∃ o : Nat, x.offset = o := ⟨x.offset.toNat, by omega⟩
    rw [e] at b c ⊢
    simp only [Int.toNat_natCast] at c ⊢
    have b : o < l.length := by omega
    have c2 : hasK r1 l[o].key = true := by simpa [hasR, b] using c
    have d := out_at b c2
    have q := (List.getElem?_eq_some_iff.1 (sel_at b c2)).1
    rw [d, out_len, cnt_cnt h]
    have e6 : l.getD o default = l[o] := by simp [b]
    rw [e6]
    have e7 : hasR r2 (l[o].to (IntKind.u64.wrap (cntR r1 l o))) = hasR r2 l[o] := rfl
    rw [e7]
    have q2 : (cntR r1 l o : Int) < ((selR r1 l).length : Nat) := by omega
    have b2 : (o : Int) < (l.length : Nat) := by omega
    simp [q2, b2, a]
  · rw [if_neg h1, if_neg]
    · rw [mv_eq (r := r2) hl2 (by show (0 : Int) ≤ 0; omega)]
      simp
    · rintro ⟨a, b, c⟩
      exact h1 ⟨a, b, h _ c⟩
theorem el_eq {r : Rng} {l : List Rec} {o : Int} (hl : l.length ≤ 4096) (ho : 0 ≤ o) : elemO (toOf r l) o = (cntR r l (min o l.length).toNat : Int) := by
  unfold elemO
  rw [toOf_len]
  have : (min o (((l.length + 1 : Nat) : Int) - 1)).toNat = (min o l.length).toNat := by congr 1; omega
  rw [this]
  exact toOf_at0 hl (by omega)
theorem mov_mov {r1 r2 : Rng} {l : List Rec} {x : Con} (h : inside r2 r1) (hl : l.length ≤ 4096) (ho : 0 ≤ x.off) : movC (toOf r2 (outOf r1 l)) (movC (toOf r1 l) x) = movC (toOf r2 l) x := by
  have hl2 : (outOf r1 l).length ≤ 4096 := by
    have := sel_len r1 l
    rw [out_len]; omega
  unfold movC
  simp only [Con.mk.injEq, true_and]
  rw [el_eq hl ho, el_eq hl ho, el_eq hl2 (by omega)]
  have q := cnt_len r1 l (min x.off l.length).toNat
  have : (min ((cntR r1 l (min x.off l.length).toNat : Nat) : Int) ((outOf r1 l).length : Nat)).toNat = cntR r1 l (min x.off l.length).toNat := by rw [out_len]; omega
  rw [this, cnt_cnt h]
def frz (p : Part) (f : Int) : Part := ⟨p.rng, p.epoch, f, p.recs, p.prods, p.cons⟩
def part2 (p : Part) (r : Rng) : Part := ⟨r, IntKind.u64.wrap (IntKind.u64.wrap (p.epoch + 1) + 1), 0, outOf r p.recs, P.moveL p.prods (toOf r p.recs), mapU p.cons (toOf r p.recs) p.cons.length⟩
theorem of_of {p : Part} {r1 r2 : Rng} (h : inside r2 r1) (hp : PartTy p) (hl : p.recs.length ≤ 4096) (f : Int) : partOf (frz (partOf p r1) f) r2 = part2 p r2 := by
  unfold partOf part2 frz
  simp only [Part.mk.injEq, true_and]
  refine ⟨out_out h _, ?_, ?_⟩
  · unfold P.moveL
    rw [List.map_map]
    exact List.map_congr_left fun x hx => mv_mv h hl (hp.po x hx).1
  · have t1 : (toOf r1 p.recs).length ≠ 0 := by rw [toOf_len]; omega
    have t2 : (toOf r2 (outOf r1 p.recs)).length ≠ 0 := by rw [toOf_len]; omega
    have t3 : (toOf r2 p.recs).length ≠ 0 := by rw [toOf_len]; omega
    simp only [mapU, if_neg t1, if_neg t2, if_neg t3, List.take_length]
    rw [List.map_map]
    exact List.map_congr_left fun x hx => mov_mov h hl (hp.co x hx).1
end Go.Proofs.YtckklclehofddaaDoor.D

/-! Lineage: the law Three: the conditions. -/
namespace Go.Proofs.YtckklclehofddaaDoor.D
open Go.Ax
set_option maxRecDepth 1000000
/-! alike, of one -/
noncomputable def psC (b1 b2 : Bool) (a : List P.Producer) : Ctr Tryd.prog := ⟨27, [P.encPs b1 a, P.encPs b2 a], [], .need (a.length ≤ 9223372036854775806) (P.smR a a), T.Sat.need fun h => P.same_c b1 b2 a a h⟩
noncomputable def samH (p : Part) : HintsT Tryd.prog := hh _ noLp (cs1 9 1 4 (sameC true true p.recs p.recs) (cs1 9 2 4 (psC true true p.prods) (cs1 9 3 4 (scC true true p.cons p.cons) noCs))) noOp
def vcSam (p : Part) : Prop :=
  ((true = true ∧ List.length p.recs = List.length p.recs ∧ contLe (List.length p.recs) (5 : Nat) (cellsOf' encR p.recs) (cellsOf' encR p.recs)) ∧ (true = true ∧ List.length p.recs = List.length p.recs ∧ contLe (List.length p.recs) (5 : Nat) (cellsOf' encR p.recs) (cellsOf' encR p.recs)) ∧ True) ∧ True ∧ (List.length p.recs ≤ (9223372036854775806 : Nat) ∧ p.recs = p.recs) ∧ ((true = true ∧ List.length p.prods = List.length p.prods ∧ contLe (List.length p.prods) (4 : Nat) (cellsOf' P.encP p.prods) (cellsOf' P.encP p.prods)) ∧ (true = true ∧ List.length p.prods = List.length p.prods ∧ contLe (List.length p.prods) (4 : Nat) (cellsOf' P.encP p.prods) (cellsOf' P.encP p.prods)) ∧ True) ∧ True ∧ List.length p.prods ≤ (9223372036854775806 : Nat) ∧ ((true = true ∧ List.length p.cons = List.length p.cons ∧ contLe (List.length p.cons) (2 : Nat) (cellsOf' encC p.cons) (cellsOf' encC p.cons)) ∧ (true = true ∧ List.length p.cons = List.length p.cons ∧ contLe (List.length p.cons) (2 : Nat) (cellsOf' encC p.cons) (cellsOf' encC p.cons)) ∧ True) ∧ True ∧ (List.length p.cons ≤ (9223372036854775806 : Nat) ∧ p.cons = p.cons) ∧ (true = true → (P.sameP p.prods p.prods = true → (true = true → ((p.rng.lo.data.toList == p.rng.lo.data.toList && (p.rng.hi.data.toList == p.rng.hi.data.toList && true)) = true → ((p.epoch == p.epoch) = true → (p.frozen == p.frozen) = true ∧ True) ∧ ((p.epoch == p.epoch) = false → false = true ∧ True)) ∧ ((p.rng.lo.data.toList == p.rng.lo.data.toList && (p.rng.hi.data.toList == p.rng.hi.data.toList && true)) = false → false = true ∧ True)) ∧ (true = false → false = true ∧ True)) ∧ (P.sameP p.prods p.prods = false → false = true ∧ True)) ∧ (true = false → false = true ∧ True)
set_option maxRecDepth 1000000 in
theorem vcSam_eq (p : Part) : (ctrVC Tryd.prog (samH p) 9 [.agg (encPt true p), .agg (encPt true p)] [] (boolR true)) = vcSam p := by kernel_rfl
theorem sameP_refl (a : List P.Producer) : P.sameP a a = true := by
  unfold P.sameP P.sameFrom
  simp [P.eqP]
theorem sam_c (p : Part) (hp : PartTy p) : (boolR true).Sat (ACall' Tryd.prog 9 [.agg (encPt true p), .agg (encPt true p)] []) := by
  refine ctr_vc (ht := samH p) Tryd.mixed rfl ?_
  rw [vcSam_eq p]
  unfold vcSam
  obtain ⟨h1, h2, h3, _, _⟩ := hp
  have g1 : p.recs.length ≤ 9223372036854775806 := by omega
  have g2 : p.prods.length ≤ 9223372036854775806 := by omega
  have g3 : p.cons.length ≤ 9223372036854775806 := by omega
  simp [g1, g2, g3, sameP_refl]
noncomputable def samC (p q : Part) : Ctr Tryd.prog := ⟨9, [.agg (encPt true p), .agg (encPt true q)], [], .need (PartTy p ∧ p = q) (boolR true), T.Sat.need fun h => by obtain ⟨h1, rfl⟩ := h; exact sam_c p h1⟩
/-! Split by the case -/
def okT (A B : Part) : T An := .ret (.tup [.agg (encPt true A), .agg (encPt true B), .s (.int .i64 0)], [], [])
def erT (e : Int) : T An := .ret (.tup [.agg (encPt true default), .agg (encPt true default), .y (.int .i64 e)], [], [])
structure SplOk (p : Part) (k : ByteArray) (A B : Part) : Prop where
  ty : PartTy p
  sz : k.size ≤ 9223372036854775807
  v : splitE p k = 0
  a : A = partOf p (rLow p.rng k)
  b : B = partOf p (rHigh p.rng k)
structure SplEr (p : Part) (k : ByteArray) (e : Int) : Prop where
  ty : PartTy p
  sz : k.size ≤ 9223372036854775807
  v : splitE p k = e
  n : e ≠ 0
noncomputable def okC (p : Part) (k : ByteArray) (A B : Part) : Ctr Tryd.prog := ⟨7, [.agg (encPt true p), .y (.string k)], [], .need (SplOk p k A B) (okT A B), T.Sat.need fun h => by
  have := split_c p k h.ty h.sz
  unfold splitT at this
  rw [h.v] at this
  intro Q hq
  rw [h.a, h.b] at hq
  exact this Q ⟨fun _ => hq, fun e => by simp at e⟩⟩
noncomputable def erC (p : Part) (k : ByteArray) (e : Int) : Ctr Tryd.prog := ⟨7, [.agg (encPt true p), .y (.string k)], [], .need (SplEr p k e) (erT e), T.Sat.need fun h => by
  have := split_c p k h.ty h.sz
  unfold splitT at this
  rw [h.v] at this
  intro Q hq
  exact this Q ⟨fun e => by simp at e; exact absurd e h.n, fun _ => hq⟩⟩
/-! lives -/
def kc : ByteArray := ⟨#[99]⟩
def someP : Part := ⟨⟨ByteArray.empty, ByteArray.empty⟩, 3, 1, [⟨0, ⟨#[97]⟩, [], 7, 1⟩, ⟨1, ⟨#[109]⟩, [], 7, 2⟩, ⟨2, ⟨#[98]⟩, [], 8, 1⟩], [⟨7, 2, true, 1⟩, ⟨8, 1, true, 2⟩], [⟨⟨#[99]⟩, 2⟩]⟩
noncomputable def livH : HintsT Tryd.prog := withSh (hh _ noLp (cs1 5 1 1 (okC someP kc (partOf someP (rLow someP.rng kc)) (partOf someP (rHigh someP.rng kc))) noCs) noOp) (sh1 10 1 9 779 noSh)
def vcLiv (u : Unit) : Prop :=
  (({ data := #[] : ByteArray } = ByteArray.empty ∧ { data := #[] : ByteArray } = ByteArray.empty ∧ (3 : Int) = (3 : Int) ∧ (1 : Int) = (1 : Int) ∧ (true = true ∧ (3 : Nat) = (3 : Nat) ∧ contLe (3 : Nat) (5 : Nat) (Ax.rowAt (0 : Nat) fun (k j : Nat) => Ax.get [AV.s (Value.int IntKind.u64 (0 : Int)), AV.s (Value.string { data := #[(97 : UInt8)] : ByteArray }), AV.s (Value.slice none (0 : Nat) (0 : Nat)), AV.s (Value.int IntKind.u64 (7 : Int)), AV.s (Value.int IntKind.u64 (1 : Int)), AV.s (Value.int IntKind.u64 (1 : Int)), AV.s (Value.string { data := #[(109 : UInt8)] : ByteArray }), AV.s (Value.slice none (0 : Nat) (0 : Nat)), AV.s (Value.int IntKind.u64 (7 : Int)), AV.s (Value.int IntKind.u64 (2 : Int)), AV.s (Value.int IntKind.u64 (2 : Int)), AV.s (Value.string { data := #[(98 : UInt8)] : ByteArray }), AV.s (Value.slice none (0 : Nat) (0 : Nat)), AV.s (Value.int IntKind.u64 (8 : Int)), AV.s (Value.int IntKind.u64 (1 : Int))] (k * (5 : Nat) + j)) (cellsOf' encR [{ off := (0 : Int), key := { data := #[(97 : UInt8)] : ByteArray }, val := [], prod := (7 : Int), seq := (1 : Int) : Rec }, { off := (1 : Int), key := { data := #[(109 : UInt8)] : ByteArray }, val := [], prod := (7 : Int), seq := (2 : Int) : Rec }, { off := (2 : Int), key := { data := #[(98 : UInt8)] : ByteArray }, val := [], prod := (8 : Int), seq := (1 : Int) : Rec }])) ∧ (true = true ∧ (2 : Nat) = (2 : Nat) ∧ contLe (2 : Nat) (4 : Nat) (Ax.rowAt (0 : Nat) fun (k j : Nat) => Ax.get [AV.s (Value.int IntKind.u64 (7 : Int)), AV.s (Value.int IntKind.u64 (2 : Int)), AV.s (Value.bool true), AV.s (Value.int IntKind.u64 (1 : Int)), AV.s (Value.int IntKind.u64 (8 : Int)), AV.s (Value.int IntKind.u64 (1 : Int)), AV.s (Value.bool true), AV.s (Value.int IntKind.u64 (2 : Int))] (k * (4 : Nat) + j)) (cellsOf' P.encP [{ id := (7 : Int), seq := (2 : Int), here := true, offset := (1 : Int) : P.Producer }, { id := (8 : Int), seq := (1 : Int), here := true, offset := (2 : Int) : P.Producer }])) ∧ (true = true ∧ (1 : Nat) = (1 : Nat) ∧ contLe (1 : Nat) (2 : Nat) (Ax.rowAt (0 : Nat) fun (k j : Nat) => Ax.get [AV.s (Value.string { data := #[(99 : UInt8)] : ByteArray }), AV.s (Value.int IntKind.u64 (2 : Int))] (k * (2 : Nat) + j)) (cellsOf' encC [{ name := { data := #[(99 : UInt8)] : ByteArray }, off := (2 : Int) : Con }])) ∧ True) ∧ { data := #[(99 : UInt8)] : ByteArray } = kc ∧ True) ∧ True ∧ SplOk someP kc (partOf someP (rLow { lo := ByteArray.empty, hi := ByteArray.empty : Rng } kc)) (partOf someP (rHigh { lo := ByteArray.empty, hi := ByteArray.empty : Rng } kc)) ∧ (true = true → (true = true → true = true ∧ True) ∧ (true = false → false = true ∧ True)) ∧ (true = false → false = true ∧ True)
set_option maxRecDepth 1000000 in
theorem vcLiv_eq (u : Unit) : (ctrVC Tryd.prog livH 5 [] [] (boolR true)) = vcLiv u := by kernel_rfl
theorem liv_c : (boolR true).Sat (ACall' Tryd.prog 5 [] []) := by
  refine ctr_vc (ht := livH) Tryd.mixed rfl ?_
  rw [vcLiv_eq ()]
  unfold vcLiv
  have h1 : PartTy someP := by
    refine ⟨by decide, by decide, by decide, ?_, ?_⟩
    · intro x hx
      simp [someP] at hx
      rcases hx with rfl | rfl <;> decide
    · intro x hx
      simp [someP] at hx
      subst hx
      exact ⟨by decide, by decide⟩
  have two : ∀ {a b : Nat} {c c' : Nat → Nat → AV}, (∀ k, k < a → ∀ j, j < b → le0 (c k j) (c' k j)) → contLe a b c c' := fun h => h
  refine ⟨⟨⟨rfl, rfl, rfl, rfl, ⟨rfl, rfl, ?_⟩, ⟨rfl, rfl, ?_⟩, ⟨rfl, rfl, ?_⟩, trivial⟩, rfl, trivial⟩, trivial, ⟨h1, by decide, rfl, rfl, rfl⟩, fun _ => ⟨fun _ => ⟨rfl, trivial⟩, fun e => by cases e⟩, fun e => by cases e⟩
  · intro k hk j hj
    match k, hk, j, hj with
    | 0, _, 0, _ | 0, _, 1, _ | 0, _, 3, _ | 0, _, 4, _ | 1, _, 0, _ | 1, _, 1, _ | 1, _, 3, _ | 1, _, 4, _ | 2, _, 0, _ | 2, _, 1, _ | 2, _, 3, _ | 2, _, 4, _ => rfl
    | 0, _, 2, _ | 1, _, 2, _ | 2, _, 2, _ => rfl
  · intro k hk j hj
    match k, hk, j, hj with
    | 0, _, 0, _ | 0, _, 1, _ | 0, _, 2, _ | 0, _, 3, _ | 1, _, 0, _ | 1, _, 1, _ | 1, _, 2, _ | 1, _, 3, _ => rfl
  · intro k hk j hj
    match k, hk, j, hj with
    | 0, _, 0, _ | 0, _, 1, _ => rfl
noncomputable def livC : Ctr Tryd.prog := ⟨5, [], [], boolR true, liv_c⟩
/-! the law -/
def minB (a b : ByteArray) : ByteArray := if (Op.bytesLess a.data.toList b.data.toList || a.data.toList == b.data.toList) = true then a else b
def maxB (a b : ByteArray) : ByteArray := if (!Op.bytesLess a.data.toList b.data.toList) = true then a else b
structure Thr where
  p : Part
  a : ByteArray
  b : ByteArray
  lo : ByteArray
  hi : ByteArray
  A : Part
  B : Part
  C : Part
  D : Part
  e : Int
  f : Int
  A1 : Part
  B1 : Part
  C1 : Part
  D1 : Part
  g : Int
  h : Int
noncomputable def th1H (x : Thr) : HintsT Tryd.prog := hh _ noLp (cs1 4 1 0 livC (cs1 4 4 2 (erC x.p x.lo x.e) (cs1 4 5 2 (okC x.p x.hi x.C x.D) (cs1 4 10 2 (erC (frz x.B 1) x.hi x.g) (cs1 4 11 2 (erC (frz x.C 1) x.lo x.h) (cs1 4 12 9 (samC default default) noCs)))))) noOp
def vcTh1 (x : Thr) : Prop :=
  True ∧ True ∧ ((x.p.rng.lo = x.p.rng.lo ∧ x.p.rng.hi = x.p.rng.hi ∧ x.p.epoch = x.p.epoch ∧ x.p.frozen = x.p.frozen ∧ (true = true ∧ List.length x.p.recs = List.length x.p.recs ∧ contLe (List.length x.p.recs) (5 : Nat) (cellsOf' encR x.p.recs) (cellsOf' encR x.p.recs)) ∧ (true = true ∧ List.length x.p.prods = List.length x.p.prods ∧ contLe (List.length x.p.prods) (4 : Nat) (cellsOf' P.encP x.p.prods) (cellsOf' P.encP x.p.prods)) ∧ (true = true ∧ List.length x.p.cons = List.length x.p.cons ∧ contLe (List.length x.p.cons) (2 : Nat) (cellsOf' encC x.p.cons) (cellsOf' encC x.p.cons)) ∧ True) ∧ (if (Op.bytesLess x.a.data.toList x.b.data.toList || x.a.data.toList == x.b.data.toList) = true then x.a else x.b) = x.lo ∧ True) ∧ True ∧ SplEr x.p x.lo x.e ∧ ((x.p.rng.lo = x.p.rng.lo ∧ x.p.rng.hi = x.p.rng.hi ∧ x.p.epoch = x.p.epoch ∧ x.p.frozen = x.p.frozen ∧ (true = true ∧ List.length x.p.recs = List.length x.p.recs ∧ contLe (List.length x.p.recs) (5 : Nat) (cellsOf' encR x.p.recs) (cellsOf' encR x.p.recs)) ∧ (true = true ∧ List.length x.p.prods = List.length x.p.prods ∧ contLe (List.length x.p.prods) (4 : Nat) (cellsOf' P.encP x.p.prods) (cellsOf' P.encP x.p.prods)) ∧ (true = true ∧ List.length x.p.cons = List.length x.p.cons ∧ contLe (List.length x.p.cons) (2 : Nat) (cellsOf' encC x.p.cons) (cellsOf' encC x.p.cons)) ∧ True) ∧ (if (!Op.bytesLess x.a.data.toList x.b.data.toList) = true then x.a else x.b) = x.hi ∧ True) ∧ True ∧ SplOk x.p x.hi x.C x.D ∧ ((x.e != (0 : Int)) = true → true = true ∧ True) ∧ ((x.e != (0 : Int)) = false → ((ByteArray.empty = x.B.rng.lo ∧ ByteArray.empty = x.B.rng.hi ∧ (0 : Int) = x.B.epoch ∧ (1 : Int) = (1 : Int) ∧ (true = true ∧ (0 : Nat) = List.length x.B.recs ∧ contLe (0 : Nat) (5 : Nat) (cellsOf' encR []) (cellsOf' encR x.B.recs)) ∧ (true = true ∧ (0 : Nat) = List.length x.B.prods ∧ contLe (0 : Nat) (4 : Nat) (cellsOf' P.encP []) (cellsOf' P.encP x.B.prods)) ∧ (true = true ∧ (0 : Nat) = List.length x.B.cons ∧ contLe (0 : Nat) (2 : Nat) (cellsOf' encC []) (cellsOf' encC x.B.cons)) ∧ True) ∧ (if (!Op.bytesLess x.a.data.toList x.b.data.toList) = true then x.a else x.b) = x.hi ∧ True) ∧ True ∧ SplEr (frz x.B (1 : Int)) x.hi x.g ∧ ((x.C.rng.lo = x.C.rng.lo ∧ x.C.rng.hi = x.C.rng.hi ∧ x.C.epoch = x.C.epoch ∧ (1 : Int) = (1 : Int) ∧ (true = true ∧ List.length x.C.recs = List.length x.C.recs ∧ contLe (List.length x.C.recs) (5 : Nat) (cellsOf' encR x.C.recs) (cellsOf' encR x.C.recs)) ∧ (true = true ∧ List.length x.C.prods = List.length x.C.prods ∧ contLe (List.length x.C.prods) (4 : Nat) (cellsOf' P.encP x.C.prods) (cellsOf' P.encP x.C.prods)) ∧ (true = true ∧ List.length x.C.cons = List.length x.C.cons ∧ contLe (List.length x.C.cons) (2 : Nat) (cellsOf' encC x.C.cons) (cellsOf' encC x.C.cons)) ∧ True) ∧ (if (Op.bytesLess x.a.data.toList x.b.data.toList || x.a.data.toList == x.b.data.toList) = true then x.a else x.b) = x.lo ∧ True) ∧ True ∧ SplEr (frz x.C (1 : Int)) x.lo x.h ∧ (true = true → ((x.g == x.h) = true → ((ByteArray.empty = ByteArray.empty ∧ ByteArray.empty = ByteArray.empty ∧ (0 : Int) = (0 : Int) ∧ (0 : Int) = (0 : Int) ∧ (true = true ∧ (0 : Nat) = (0 : Nat) ∧ contLe (0 : Nat) (5 : Nat) (cellsOf' encR []) (cellsOf' encR [])) ∧ (true = true ∧ (0 : Nat) = (0 : Nat) ∧ contLe (0 : Nat) (4 : Nat) (cellsOf' P.encP []) (cellsOf' P.encP [])) ∧ (true = true ∧ (0 : Nat) = (0 : Nat) ∧ contLe (0 : Nat) (2 : Nat) (cellsOf' encC []) (cellsOf' encC [])) ∧ True) ∧ (ByteArray.empty = ByteArray.empty ∧ ByteArray.empty = ByteArray.empty ∧ (0 : Int) = (0 : Int) ∧ (0 : Int) = (0 : Int) ∧ (true = true ∧ (0 : Nat) = (0 : Nat) ∧ contLe (0 : Nat) (5 : Nat) (cellsOf' encR []) (cellsOf' encR [])) ∧ (true = true ∧ (0 : Nat) = (0 : Nat) ∧ contLe (0 : Nat) (4 : Nat) (cellsOf' P.encP []) (cellsOf' P.encP [])) ∧ (true = true ∧ (0 : Nat) = (0 : Nat) ∧ contLe (0 : Nat) (2 : Nat) (cellsOf' encC []) (cellsOf' encC [])) ∧ True) ∧ True) ∧ True ∧ (PartTy (@default Part instInhabitedPart) ∧ @default Part instInhabitedPart = @default Part instInhabitedPart) ∧ (true = true → ((x.g == (0 : Int)) = true → true = true ∧ True) ∧ ((x.g == (0 : Int)) = false → (((if (Op.bytesLess x.a.data.toList x.b.data.toList || x.a.data.toList == x.b.data.toList) = true then x.a else x.b).data.toList == (if (!Op.bytesLess x.a.data.toList x.b.data.toList) = true then x.a else x.b).data.toList) = true → true = true ∧ True) ∧ (((if (Op.bytesLess x.a.data.toList x.b.data.toList || x.a.data.toList == x.b.data.toList) = true then x.a else x.b).data.toList == (if (!Op.bytesLess x.a.data.toList x.b.data.toList) = true then x.a else x.b).data.toList) = false → (IntKind.wrap IntKind.u64 (x.p.epoch + (2 : Int)) == (0 : Int)) = true ∧ True))) ∧ (true = false → false = true ∧ True)) ∧ ((x.g == x.h) = false → false = true ∧ True)) ∧ (true = false → false = true ∧ True))
set_option maxRecDepth 1000000 in
theorem vcTh1_eq (x : Thr) : (ctrVC Tryd.prog (th1H x) 4 [.agg (encPt true x.p), .y (.string x.a), .y (.string x.b)] [] (boolR true)) = vcTh1 x := by kernel_rfl
noncomputable def th2H (x : Thr) : HintsT Tryd.prog := hh _ noLp (cs1 4 1 0 livC (cs1 4 4 2 (erC x.p x.lo x.e) (cs1 4 5 2 (erC x.p x.hi x.f) (cs1 4 10 2 (erC (frz x.B 1) x.hi x.g) (cs1 4 11 2 (erC (frz x.C 1) x.lo x.h) (cs1 4 12 9 (samC default default) noCs)))))) noOp
def vcTh2 (x : Thr) : Prop :=
  True ∧ True ∧ ((x.p.rng.lo = x.p.rng.lo ∧ x.p.rng.hi = x.p.rng.hi ∧ x.p.epoch = x.p.epoch ∧ x.p.frozen = x.p.frozen ∧ (true = true ∧ List.length x.p.recs = List.length x.p.recs ∧ contLe (List.length x.p.recs) (5 : Nat) (cellsOf' encR x.p.recs) (cellsOf' encR x.p.recs)) ∧ (true = true ∧ List.length x.p.prods = List.length x.p.prods ∧ contLe (List.length x.p.prods) (4 : Nat) (cellsOf' P.encP x.p.prods) (cellsOf' P.encP x.p.prods)) ∧ (true = true ∧ List.length x.p.cons = List.length x.p.cons ∧ contLe (List.length x.p.cons) (2 : Nat) (cellsOf' encC x.p.cons) (cellsOf' encC x.p.cons)) ∧ True) ∧ (if (Op.bytesLess x.a.data.toList x.b.data.toList || x.a.data.toList == x.b.data.toList) = true then x.a else x.b) = x.lo ∧ True) ∧ True ∧ SplEr x.p x.lo x.e ∧ ((x.p.rng.lo = x.p.rng.lo ∧ x.p.rng.hi = x.p.rng.hi ∧ x.p.epoch = x.p.epoch ∧ x.p.frozen = x.p.frozen ∧ (true = true ∧ List.length x.p.recs = List.length x.p.recs ∧ contLe (List.length x.p.recs) (5 : Nat) (cellsOf' encR x.p.recs) (cellsOf' encR x.p.recs)) ∧ (true = true ∧ List.length x.p.prods = List.length x.p.prods ∧ contLe (List.length x.p.prods) (4 : Nat) (cellsOf' P.encP x.p.prods) (cellsOf' P.encP x.p.prods)) ∧ (true = true ∧ List.length x.p.cons = List.length x.p.cons ∧ contLe (List.length x.p.cons) (2 : Nat) (cellsOf' encC x.p.cons) (cellsOf' encC x.p.cons)) ∧ True) ∧ (if (!Op.bytesLess x.a.data.toList x.b.data.toList) = true then x.a else x.b) = x.hi ∧ True) ∧ True ∧ SplEr x.p x.hi x.f ∧ ((x.e != (0 : Int)) = true → true = true ∧ True) ∧ ((x.e != (0 : Int)) = false → ((x.f != (0 : Int)) = true → true = true ∧ True) ∧ ((x.f != (0 : Int)) = false → ((ByteArray.empty = x.B.rng.lo ∧ ByteArray.empty = x.B.rng.hi ∧ (0 : Int) = x.B.epoch ∧ (1 : Int) = (1 : Int) ∧ (true = true ∧ (0 : Nat) = List.length x.B.recs ∧ contLe (0 : Nat) (5 : Nat) (cellsOf' encR []) (cellsOf' encR x.B.recs)) ∧ (true = true ∧ (0 : Nat) = List.length x.B.prods ∧ contLe (0 : Nat) (4 : Nat) (cellsOf' P.encP []) (cellsOf' P.encP x.B.prods)) ∧ (true = true ∧ (0 : Nat) = List.length x.B.cons ∧ contLe (0 : Nat) (2 : Nat) (cellsOf' encC []) (cellsOf' encC x.B.cons)) ∧ True) ∧ (if (!Op.bytesLess x.a.data.toList x.b.data.toList) = true then x.a else x.b) = x.hi ∧ True) ∧ True ∧ SplEr (frz x.B (1 : Int)) x.hi x.g ∧ ((ByteArray.empty = x.C.rng.lo ∧ ByteArray.empty = x.C.rng.hi ∧ (0 : Int) = x.C.epoch ∧ (1 : Int) = (1 : Int) ∧ (true = true ∧ (0 : Nat) = List.length x.C.recs ∧ contLe (0 : Nat) (5 : Nat) (cellsOf' encR []) (cellsOf' encR x.C.recs)) ∧ (true = true ∧ (0 : Nat) = List.length x.C.prods ∧ contLe (0 : Nat) (4 : Nat) (cellsOf' P.encP []) (cellsOf' P.encP x.C.prods)) ∧ (true = true ∧ (0 : Nat) = List.length x.C.cons ∧ contLe (0 : Nat) (2 : Nat) (cellsOf' encC []) (cellsOf' encC x.C.cons)) ∧ True) ∧ (if (Op.bytesLess x.a.data.toList x.b.data.toList || x.a.data.toList == x.b.data.toList) = true then x.a else x.b) = x.lo ∧ True) ∧ True ∧ SplEr (frz x.C (1 : Int)) x.lo x.h ∧ (true = true → ((x.g == x.h) = true → ((ByteArray.empty = ByteArray.empty ∧ ByteArray.empty = ByteArray.empty ∧ (0 : Int) = (0 : Int) ∧ (0 : Int) = (0 : Int) ∧ (true = true ∧ (0 : Nat) = (0 : Nat) ∧ contLe (0 : Nat) (5 : Nat) (cellsOf' encR []) (cellsOf' encR [])) ∧ (true = true ∧ (0 : Nat) = (0 : Nat) ∧ contLe (0 : Nat) (4 : Nat) (cellsOf' P.encP []) (cellsOf' P.encP [])) ∧ (true = true ∧ (0 : Nat) = (0 : Nat) ∧ contLe (0 : Nat) (2 : Nat) (cellsOf' encC []) (cellsOf' encC [])) ∧ True) ∧ (ByteArray.empty = ByteArray.empty ∧ ByteArray.empty = ByteArray.empty ∧ (0 : Int) = (0 : Int) ∧ (0 : Int) = (0 : Int) ∧ (true = true ∧ (0 : Nat) = (0 : Nat) ∧ contLe (0 : Nat) (5 : Nat) (cellsOf' encR []) (cellsOf' encR [])) ∧ (true = true ∧ (0 : Nat) = (0 : Nat) ∧ contLe (0 : Nat) (4 : Nat) (cellsOf' P.encP []) (cellsOf' P.encP [])) ∧ (true = true ∧ (0 : Nat) = (0 : Nat) ∧ contLe (0 : Nat) (2 : Nat) (cellsOf' encC []) (cellsOf' encC [])) ∧ True) ∧ True) ∧ True ∧ (PartTy (@default Part instInhabitedPart) ∧ @default Part instInhabitedPart = @default Part instInhabitedPart) ∧ (true = true → ((x.g == (0 : Int)) = true → true = true ∧ True) ∧ ((x.g == (0 : Int)) = false → (((if (Op.bytesLess x.a.data.toList x.b.data.toList || x.a.data.toList == x.b.data.toList) = true then x.a else x.b).data.toList == (if (!Op.bytesLess x.a.data.toList x.b.data.toList) = true then x.a else x.b).data.toList) = true → true = true ∧ True) ∧ (((if (Op.bytesLess x.a.data.toList x.b.data.toList || x.a.data.toList == x.b.data.toList) = true then x.a else x.b).data.toList == (if (!Op.bytesLess x.a.data.toList x.b.data.toList) = true then x.a else x.b).data.toList) = false → (IntKind.wrap IntKind.u64 (x.p.epoch + (2 : Int)) == (0 : Int)) = true ∧ True))) ∧ (true = false → false = true ∧ True)) ∧ ((x.g == x.h) = false → false = true ∧ True)) ∧ (true = false → false = true ∧ True)))
set_option maxRecDepth 1000000 in
theorem vcTh2_eq (x : Thr) : (ctrVC Tryd.prog (th2H x) 4 [.agg (encPt true x.p), .y (.string x.a), .y (.string x.b)] [] (boolR true)) = vcTh2 x := by kernel_rfl
noncomputable def th3H (x : Thr) : HintsT Tryd.prog := hh _ noLp (cs1 4 1 0 livC (cs1 4 4 2 (okC x.p x.lo x.A x.B) (cs1 4 5 2 (erC x.p x.hi x.f) (cs1 4 10 2 (erC (frz x.B 1) x.hi x.g) (cs1 4 11 2 (erC (frz x.C 1) x.lo x.h) (cs1 4 12 9 (samC default default) noCs)))))) noOp
def vcTh3 (x : Thr) : Prop :=
  True ∧ True ∧ ((x.p.rng.lo = x.p.rng.lo ∧ x.p.rng.hi = x.p.rng.hi ∧ x.p.epoch = x.p.epoch ∧ x.p.frozen = x.p.frozen ∧ (true = true ∧ List.length x.p.recs = List.length x.p.recs ∧ contLe (List.length x.p.recs) (5 : Nat) (cellsOf' encR x.p.recs) (cellsOf' encR x.p.recs)) ∧ (true = true ∧ List.length x.p.prods = List.length x.p.prods ∧ contLe (List.length x.p.prods) (4 : Nat) (cellsOf' P.encP x.p.prods) (cellsOf' P.encP x.p.prods)) ∧ (true = true ∧ List.length x.p.cons = List.length x.p.cons ∧ contLe (List.length x.p.cons) (2 : Nat) (cellsOf' encC x.p.cons) (cellsOf' encC x.p.cons)) ∧ True) ∧ (if (Op.bytesLess x.a.data.toList x.b.data.toList || x.a.data.toList == x.b.data.toList) = true then x.a else x.b) = x.lo ∧ True) ∧ True ∧ SplOk x.p x.lo x.A x.B ∧ ((x.p.rng.lo = x.p.rng.lo ∧ x.p.rng.hi = x.p.rng.hi ∧ x.p.epoch = x.p.epoch ∧ x.p.frozen = x.p.frozen ∧ (true = true ∧ List.length x.p.recs = List.length x.p.recs ∧ contLe (List.length x.p.recs) (5 : Nat) (cellsOf' encR x.p.recs) (cellsOf' encR x.p.recs)) ∧ (true = true ∧ List.length x.p.prods = List.length x.p.prods ∧ contLe (List.length x.p.prods) (4 : Nat) (cellsOf' P.encP x.p.prods) (cellsOf' P.encP x.p.prods)) ∧ (true = true ∧ List.length x.p.cons = List.length x.p.cons ∧ contLe (List.length x.p.cons) (2 : Nat) (cellsOf' encC x.p.cons) (cellsOf' encC x.p.cons)) ∧ True) ∧ (if (!Op.bytesLess x.a.data.toList x.b.data.toList) = true then x.a else x.b) = x.hi ∧ True) ∧ True ∧ SplEr x.p x.hi x.f ∧ ((x.f != (0 : Int)) = true → true = true ∧ True) ∧ ((x.f != (0 : Int)) = false → ((x.B.rng.lo = x.B.rng.lo ∧ x.B.rng.hi = x.B.rng.hi ∧ x.B.epoch = x.B.epoch ∧ (1 : Int) = (1 : Int) ∧ (true = true ∧ List.length x.B.recs = List.length x.B.recs ∧ contLe (List.length x.B.recs) (5 : Nat) (cellsOf' encR x.B.recs) (cellsOf' encR x.B.recs)) ∧ (true = true ∧ List.length x.B.prods = List.length x.B.prods ∧ contLe (List.length x.B.prods) (4 : Nat) (cellsOf' P.encP x.B.prods) (cellsOf' P.encP x.B.prods)) ∧ (true = true ∧ List.length x.B.cons = List.length x.B.cons ∧ contLe (List.length x.B.cons) (2 : Nat) (cellsOf' encC x.B.cons) (cellsOf' encC x.B.cons)) ∧ True) ∧ (if (!Op.bytesLess x.a.data.toList x.b.data.toList) = true then x.a else x.b) = x.hi ∧ True) ∧ True ∧ SplEr (frz x.B (1 : Int)) x.hi x.g ∧ ((ByteArray.empty = x.C.rng.lo ∧ ByteArray.empty = x.C.rng.hi ∧ (0 : Int) = x.C.epoch ∧ (1 : Int) = (1 : Int) ∧ (true = true ∧ (0 : Nat) = List.length x.C.recs ∧ contLe (0 : Nat) (5 : Nat) (cellsOf' encR []) (cellsOf' encR x.C.recs)) ∧ (true = true ∧ (0 : Nat) = List.length x.C.prods ∧ contLe (0 : Nat) (4 : Nat) (cellsOf' P.encP []) (cellsOf' P.encP x.C.prods)) ∧ (true = true ∧ (0 : Nat) = List.length x.C.cons ∧ contLe (0 : Nat) (2 : Nat) (cellsOf' encC []) (cellsOf' encC x.C.cons)) ∧ True) ∧ (if (Op.bytesLess x.a.data.toList x.b.data.toList || x.a.data.toList == x.b.data.toList) = true then x.a else x.b) = x.lo ∧ True) ∧ True ∧ SplEr (frz x.C (1 : Int)) x.lo x.h ∧ (true = true → ((x.g == x.h) = true → ((ByteArray.empty = ByteArray.empty ∧ ByteArray.empty = ByteArray.empty ∧ (0 : Int) = (0 : Int) ∧ (0 : Int) = (0 : Int) ∧ (true = true ∧ (0 : Nat) = (0 : Nat) ∧ contLe (0 : Nat) (5 : Nat) (cellsOf' encR []) (cellsOf' encR [])) ∧ (true = true ∧ (0 : Nat) = (0 : Nat) ∧ contLe (0 : Nat) (4 : Nat) (cellsOf' P.encP []) (cellsOf' P.encP [])) ∧ (true = true ∧ (0 : Nat) = (0 : Nat) ∧ contLe (0 : Nat) (2 : Nat) (cellsOf' encC []) (cellsOf' encC [])) ∧ True) ∧ (ByteArray.empty = ByteArray.empty ∧ ByteArray.empty = ByteArray.empty ∧ (0 : Int) = (0 : Int) ∧ (0 : Int) = (0 : Int) ∧ (true = true ∧ (0 : Nat) = (0 : Nat) ∧ contLe (0 : Nat) (5 : Nat) (cellsOf' encR []) (cellsOf' encR [])) ∧ (true = true ∧ (0 : Nat) = (0 : Nat) ∧ contLe (0 : Nat) (4 : Nat) (cellsOf' P.encP []) (cellsOf' P.encP [])) ∧ (true = true ∧ (0 : Nat) = (0 : Nat) ∧ contLe (0 : Nat) (2 : Nat) (cellsOf' encC []) (cellsOf' encC [])) ∧ True) ∧ True) ∧ True ∧ (PartTy (@default Part instInhabitedPart) ∧ @default Part instInhabitedPart = @default Part instInhabitedPart) ∧ (true = true → ((x.g == (0 : Int)) = true → true = true ∧ True) ∧ ((x.g == (0 : Int)) = false → (((if (Op.bytesLess x.a.data.toList x.b.data.toList || x.a.data.toList == x.b.data.toList) = true then x.a else x.b).data.toList == (if (!Op.bytesLess x.a.data.toList x.b.data.toList) = true then x.a else x.b).data.toList) = true → true = true ∧ True) ∧ (((if (Op.bytesLess x.a.data.toList x.b.data.toList || x.a.data.toList == x.b.data.toList) = true then x.a else x.b).data.toList == (if (!Op.bytesLess x.a.data.toList x.b.data.toList) = true then x.a else x.b).data.toList) = false → (IntKind.wrap IntKind.u64 (x.p.epoch + (2 : Int)) == (0 : Int)) = true ∧ True))) ∧ (true = false → false = true ∧ True)) ∧ ((x.g == x.h) = false → false = true ∧ True)) ∧ (true = false → false = true ∧ True))
set_option maxRecDepth 1000000 in
theorem vcTh3_eq (x : Thr) : (ctrVC Tryd.prog (th3H x) 4 [.agg (encPt true x.p), .y (.string x.a), .y (.string x.b)] [] (boolR true)) = vcTh3 x := by kernel_rfl
noncomputable def th4H (x : Thr) : HintsT Tryd.prog := hh _ noLp (cs1 4 1 0 livC (cs1 4 4 2 (okC x.p x.lo x.A x.B) (cs1 4 5 2 (okC x.p x.hi x.C x.D)
  (cs1 4 10 2 (okC (frz x.B 1) x.hi x.A1 x.B1) (cs1 4 11 2 (okC (frz x.C 1) x.lo x.C1 x.D1) (cs1 4 12 9 (samC x.A1 x.D1) noCs)))))) noOp
def vcTh4 (x : Thr) : Prop :=
  True ∧ True ∧ ((x.p.rng.lo = x.p.rng.lo ∧ x.p.rng.hi = x.p.rng.hi ∧ x.p.epoch = x.p.epoch ∧ x.p.frozen = x.p.frozen ∧ (true = true ∧ List.length x.p.recs = List.length x.p.recs ∧ contLe (List.length x.p.recs) (5 : Nat) (cellsOf' encR x.p.recs) (cellsOf' encR x.p.recs)) ∧ (true = true ∧ List.length x.p.prods = List.length x.p.prods ∧ contLe (List.length x.p.prods) (4 : Nat) (cellsOf' P.encP x.p.prods) (cellsOf' P.encP x.p.prods)) ∧ (true = true ∧ List.length x.p.cons = List.length x.p.cons ∧ contLe (List.length x.p.cons) (2 : Nat) (cellsOf' encC x.p.cons) (cellsOf' encC x.p.cons)) ∧ True) ∧ (if (Op.bytesLess x.a.data.toList x.b.data.toList || x.a.data.toList == x.b.data.toList) = true then x.a else x.b) = x.lo ∧ True) ∧ True ∧ SplOk x.p x.lo x.A x.B ∧ ((x.p.rng.lo = x.p.rng.lo ∧ x.p.rng.hi = x.p.rng.hi ∧ x.p.epoch = x.p.epoch ∧ x.p.frozen = x.p.frozen ∧ (true = true ∧ List.length x.p.recs = List.length x.p.recs ∧ contLe (List.length x.p.recs) (5 : Nat) (cellsOf' encR x.p.recs) (cellsOf' encR x.p.recs)) ∧ (true = true ∧ List.length x.p.prods = List.length x.p.prods ∧ contLe (List.length x.p.prods) (4 : Nat) (cellsOf' P.encP x.p.prods) (cellsOf' P.encP x.p.prods)) ∧ (true = true ∧ List.length x.p.cons = List.length x.p.cons ∧ contLe (List.length x.p.cons) (2 : Nat) (cellsOf' encC x.p.cons) (cellsOf' encC x.p.cons)) ∧ True) ∧ (if (!Op.bytesLess x.a.data.toList x.b.data.toList) = true then x.a else x.b) = x.hi ∧ True) ∧ True ∧ SplOk x.p x.hi x.C x.D ∧ ((x.B.rng.lo = x.B.rng.lo ∧ x.B.rng.hi = x.B.rng.hi ∧ x.B.epoch = x.B.epoch ∧ (1 : Int) = (1 : Int) ∧ (true = true ∧ List.length x.B.recs = List.length x.B.recs ∧ contLe (List.length x.B.recs) (5 : Nat) (cellsOf' encR x.B.recs) (cellsOf' encR x.B.recs)) ∧ (true = true ∧ List.length x.B.prods = List.length x.B.prods ∧ contLe (List.length x.B.prods) (4 : Nat) (cellsOf' P.encP x.B.prods) (cellsOf' P.encP x.B.prods)) ∧ (true = true ∧ List.length x.B.cons = List.length x.B.cons ∧ contLe (List.length x.B.cons) (2 : Nat) (cellsOf' encC x.B.cons) (cellsOf' encC x.B.cons)) ∧ True) ∧ (if (!Op.bytesLess x.a.data.toList x.b.data.toList) = true then x.a else x.b) = x.hi ∧ True) ∧ True ∧ SplOk (frz x.B (1 : Int)) x.hi x.A1 x.B1 ∧ ((x.C.rng.lo = x.C.rng.lo ∧ x.C.rng.hi = x.C.rng.hi ∧ x.C.epoch = x.C.epoch ∧ (1 : Int) = (1 : Int) ∧ (true = true ∧ List.length x.C.recs = List.length x.C.recs ∧ contLe (List.length x.C.recs) (5 : Nat) (cellsOf' encR x.C.recs) (cellsOf' encR x.C.recs)) ∧ (true = true ∧ List.length x.C.prods = List.length x.C.prods ∧ contLe (List.length x.C.prods) (4 : Nat) (cellsOf' P.encP x.C.prods) (cellsOf' P.encP x.C.prods)) ∧ (true = true ∧ List.length x.C.cons = List.length x.C.cons ∧ contLe (List.length x.C.cons) (2 : Nat) (cellsOf' encC x.C.cons) (cellsOf' encC x.C.cons)) ∧ True) ∧ (if (Op.bytesLess x.a.data.toList x.b.data.toList || x.a.data.toList == x.b.data.toList) = true then x.a else x.b) = x.lo ∧ True) ∧ True ∧ SplOk (frz x.C (1 : Int)) x.lo x.C1 x.D1 ∧ (true = true → ((x.A1.rng.lo = x.A1.rng.lo ∧ x.A1.rng.hi = x.A1.rng.hi ∧ x.A1.epoch = x.A1.epoch ∧ x.A1.frozen = x.A1.frozen ∧ (true = true ∧ List.length x.A1.recs = List.length x.A1.recs ∧ contLe (List.length x.A1.recs) (5 : Nat) (cellsOf' encR x.A1.recs) (cellsOf' encR x.A1.recs)) ∧ (true = true ∧ List.length x.A1.prods = List.length x.A1.prods ∧ contLe (List.length x.A1.prods) (4 : Nat) (cellsOf' P.encP x.A1.prods) (cellsOf' P.encP x.A1.prods)) ∧ (true = true ∧ List.length x.A1.cons = List.length x.A1.cons ∧ contLe (List.length x.A1.cons) (2 : Nat) (cellsOf' encC x.A1.cons) (cellsOf' encC x.A1.cons)) ∧ True) ∧ (x.D1.rng.lo = x.D1.rng.lo ∧ x.D1.rng.hi = x.D1.rng.hi ∧ x.D1.epoch = x.D1.epoch ∧ x.D1.frozen = x.D1.frozen ∧ (true = true ∧ List.length x.D1.recs = List.length x.D1.recs ∧ contLe (List.length x.D1.recs) (5 : Nat) (cellsOf' encR x.D1.recs) (cellsOf' encR x.D1.recs)) ∧ (true = true ∧ List.length x.D1.prods = List.length x.D1.prods ∧ contLe (List.length x.D1.prods) (4 : Nat) (cellsOf' P.encP x.D1.prods) (cellsOf' P.encP x.D1.prods)) ∧ (true = true ∧ List.length x.D1.cons = List.length x.D1.cons ∧ contLe (List.length x.D1.cons) (2 : Nat) (cellsOf' encC x.D1.cons) (cellsOf' encC x.D1.cons)) ∧ True) ∧ True) ∧ True ∧ (PartTy x.A1 ∧ x.A1 = x.D1) ∧ (true = true → true = true ∧ True) ∧ (true = false → false = true ∧ True)) ∧ (true = false → false = true ∧ True)
set_option maxRecDepth 1000000 in
theorem vcTh4_eq (x : Thr) : (ctrVC Tryd.prog (th4H x) 4 [.agg (encPt true x.p), .y (.string x.a), .y (.string x.b)] [] (boolR true)) = vcTh4 x := by kernel_rfl
noncomputable def th5H (x : Thr) : HintsT Tryd.prog := hh _ noLp (cs1 4 1 0 livC (cs1 4 4 2 (okC x.p x.lo x.A x.B) (cs1 4 5 2 (okC x.p x.hi x.C x.D)
  (cs1 4 10 2 (erC (frz x.B 1) x.hi x.g) (cs1 4 11 2 (erC (frz x.C 1) x.lo x.h) (cs1 4 12 9 (samC default default) noCs)))))) noOp
def vcTh5 (x : Thr) : Prop :=
  True ∧ True ∧ ((x.p.rng.lo = x.p.rng.lo ∧ x.p.rng.hi = x.p.rng.hi ∧ x.p.epoch = x.p.epoch ∧ x.p.frozen = x.p.frozen ∧ (true = true ∧ List.length x.p.recs = List.length x.p.recs ∧ contLe (List.length x.p.recs) (5 : Nat) (cellsOf' encR x.p.recs) (cellsOf' encR x.p.recs)) ∧ (true = true ∧ List.length x.p.prods = List.length x.p.prods ∧ contLe (List.length x.p.prods) (4 : Nat) (cellsOf' P.encP x.p.prods) (cellsOf' P.encP x.p.prods)) ∧ (true = true ∧ List.length x.p.cons = List.length x.p.cons ∧ contLe (List.length x.p.cons) (2 : Nat) (cellsOf' encC x.p.cons) (cellsOf' encC x.p.cons)) ∧ True) ∧ (if (Op.bytesLess x.a.data.toList x.b.data.toList || x.a.data.toList == x.b.data.toList) = true then x.a else x.b) = x.lo ∧ True) ∧ True ∧ SplOk x.p x.lo x.A x.B ∧ ((x.p.rng.lo = x.p.rng.lo ∧ x.p.rng.hi = x.p.rng.hi ∧ x.p.epoch = x.p.epoch ∧ x.p.frozen = x.p.frozen ∧ (true = true ∧ List.length x.p.recs = List.length x.p.recs ∧ contLe (List.length x.p.recs) (5 : Nat) (cellsOf' encR x.p.recs) (cellsOf' encR x.p.recs)) ∧ (true = true ∧ List.length x.p.prods = List.length x.p.prods ∧ contLe (List.length x.p.prods) (4 : Nat) (cellsOf' P.encP x.p.prods) (cellsOf' P.encP x.p.prods)) ∧ (true = true ∧ List.length x.p.cons = List.length x.p.cons ∧ contLe (List.length x.p.cons) (2 : Nat) (cellsOf' encC x.p.cons) (cellsOf' encC x.p.cons)) ∧ True) ∧ (if (!Op.bytesLess x.a.data.toList x.b.data.toList) = true then x.a else x.b) = x.hi ∧ True) ∧ True ∧ SplOk x.p x.hi x.C x.D ∧ ((x.B.rng.lo = x.B.rng.lo ∧ x.B.rng.hi = x.B.rng.hi ∧ x.B.epoch = x.B.epoch ∧ (1 : Int) = (1 : Int) ∧ (true = true ∧ List.length x.B.recs = List.length x.B.recs ∧ contLe (List.length x.B.recs) (5 : Nat) (cellsOf' encR x.B.recs) (cellsOf' encR x.B.recs)) ∧ (true = true ∧ List.length x.B.prods = List.length x.B.prods ∧ contLe (List.length x.B.prods) (4 : Nat) (cellsOf' P.encP x.B.prods) (cellsOf' P.encP x.B.prods)) ∧ (true = true ∧ List.length x.B.cons = List.length x.B.cons ∧ contLe (List.length x.B.cons) (2 : Nat) (cellsOf' encC x.B.cons) (cellsOf' encC x.B.cons)) ∧ True) ∧ (if (!Op.bytesLess x.a.data.toList x.b.data.toList) = true then x.a else x.b) = x.hi ∧ True) ∧ True ∧ SplEr (frz x.B (1 : Int)) x.hi x.g ∧ ((x.C.rng.lo = x.C.rng.lo ∧ x.C.rng.hi = x.C.rng.hi ∧ x.C.epoch = x.C.epoch ∧ (1 : Int) = (1 : Int) ∧ (true = true ∧ List.length x.C.recs = List.length x.C.recs ∧ contLe (List.length x.C.recs) (5 : Nat) (cellsOf' encR x.C.recs) (cellsOf' encR x.C.recs)) ∧ (true = true ∧ List.length x.C.prods = List.length x.C.prods ∧ contLe (List.length x.C.prods) (4 : Nat) (cellsOf' P.encP x.C.prods) (cellsOf' P.encP x.C.prods)) ∧ (true = true ∧ List.length x.C.cons = List.length x.C.cons ∧ contLe (List.length x.C.cons) (2 : Nat) (cellsOf' encC x.C.cons) (cellsOf' encC x.C.cons)) ∧ True) ∧ (if (Op.bytesLess x.a.data.toList x.b.data.toList || x.a.data.toList == x.b.data.toList) = true then x.a else x.b) = x.lo ∧ True) ∧ True ∧ SplEr (frz x.C (1 : Int)) x.lo x.h ∧ (true = true → ((x.g == x.h) = true → ((ByteArray.empty = ByteArray.empty ∧ ByteArray.empty = ByteArray.empty ∧ (0 : Int) = (0 : Int) ∧ (0 : Int) = (0 : Int) ∧ (true = true ∧ (0 : Nat) = (0 : Nat) ∧ contLe (0 : Nat) (5 : Nat) (cellsOf' encR []) (cellsOf' encR [])) ∧ (true = true ∧ (0 : Nat) = (0 : Nat) ∧ contLe (0 : Nat) (4 : Nat) (cellsOf' P.encP []) (cellsOf' P.encP [])) ∧ (true = true ∧ (0 : Nat) = (0 : Nat) ∧ contLe (0 : Nat) (2 : Nat) (cellsOf' encC []) (cellsOf' encC [])) ∧ True) ∧ (ByteArray.empty = ByteArray.empty ∧ ByteArray.empty = ByteArray.empty ∧ (0 : Int) = (0 : Int) ∧ (0 : Int) = (0 : Int) ∧ (true = true ∧ (0 : Nat) = (0 : Nat) ∧ contLe (0 : Nat) (5 : Nat) (cellsOf' encR []) (cellsOf' encR [])) ∧ (true = true ∧ (0 : Nat) = (0 : Nat) ∧ contLe (0 : Nat) (4 : Nat) (cellsOf' P.encP []) (cellsOf' P.encP [])) ∧ (true = true ∧ (0 : Nat) = (0 : Nat) ∧ contLe (0 : Nat) (2 : Nat) (cellsOf' encC []) (cellsOf' encC [])) ∧ True) ∧ True) ∧ True ∧ (PartTy (@default Part instInhabitedPart) ∧ @default Part instInhabitedPart = @default Part instInhabitedPart) ∧ (true = true → ((x.g == (0 : Int)) = true → true = true ∧ True) ∧ ((x.g == (0 : Int)) = false → (((if (Op.bytesLess x.a.data.toList x.b.data.toList || x.a.data.toList == x.b.data.toList) = true then x.a else x.b).data.toList == (if (!Op.bytesLess x.a.data.toList x.b.data.toList) = true then x.a else x.b).data.toList) = true → true = true ∧ True) ∧ (((if (Op.bytesLess x.a.data.toList x.b.data.toList || x.a.data.toList == x.b.data.toList) = true then x.a else x.b).data.toList == (if (!Op.bytesLess x.a.data.toList x.b.data.toList) = true then x.a else x.b).data.toList) = false → (IntKind.wrap IntKind.u64 (x.p.epoch + (2 : Int)) == (0 : Int)) = true ∧ True))) ∧ (true = false → false = true ∧ True)) ∧ ((x.g == x.h) = false → false = true ∧ True)) ∧ (true = false → false = true ∧ True)
set_option maxRecDepth 1000000 in
theorem vcTh5_eq (x : Thr) : (ctrVC Tryd.prog (th5H x) 4 [.agg (encPt true x.p), .y (.string x.a), .y (.string x.b)] [] (boolR true)) = vcTh5 x := by kernel_rfl
end Go.Proofs.YtckklclehofddaaDoor.D
