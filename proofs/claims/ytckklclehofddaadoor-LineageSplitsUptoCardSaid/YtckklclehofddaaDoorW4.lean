import Derived.Test.YtckklclehofddaaDoorW1
import Derived.Test.YtckklclehofddaaDoorW2
import Derived.Test.YtckklclehofddaaDoorW3
set_option linter.unusedVariables false
set_option linter.unusedSimpArgs false
set_option linter.unusedSectionVars false
namespace Go.Proofs.YtckklclehofddaaDoor.D
open Go.Ax
set_option maxRecDepth 1000000
def bad (p : Part) : Bool := !partOk p || IntKind.u64.wrap (p.epoch + 1) == 0
def splitE (p : Part) (k : ByteArray) : Int := if bad p = true then 172 else if p.frozen = 0 then 171 else splE p.rng k
def splitT (p : Part) (k : ByteArray) : T An := .ite (splitE p k == 0)
  (.ret (.tup [.agg (encPt true (partOf p (rLow p.rng k))), .agg (encPt true (partOf p (rHigh p.rng k))), .s (.int .i64 0)], [], []))
  (.ret (.tup [.agg (encPt true default), .agg (encPt true default), .y (.int .i64 (splitE p k))], [], []))
noncomputable def dofC (p : Part) (r : Rng) : Ctr Tryd.prog := ⟨19, [.agg (encG r), .ip false 7 (get (encPt true p))], [], .need (PartTy p ∧ isLog p.recs = true ∧ P.isTable p.prods = true ∧ isCons p.cons = true ∧ chkK r = 0) (partR (partOf p r)), T.Sat.need fun h => dof_c p r h.1 h.2.1 h.2.2.1 h.2.2.2.1 h.2.2.2.2⟩
noncomputable def splH (p : Part) (k : ByteArray) : HintsT Tryd.prog := hh _ noLp (cs1 16 5 1 (pcC true p) (cs1 7 4 3 (ksC p.rng k) (cs1 7 8 2 (dofC p (rLow p.rng k)) (cs1 7 8 5 (dofC p (rHigh p.rng k)) noCs)))) noOp
def vcSplit (p : Part) (k : ByteArray) : Prop :=
  ((p.rng.lo = p.rng.lo ∧ p.rng.hi = p.rng.hi ∧ p.epoch = p.epoch ∧ p.frozen = p.frozen ∧ (true = true ∧ List.length p.recs = List.length p.recs ∧ contLe (List.length p.recs) (5 : Nat) (cellsOf' encR p.recs) (cellsOf' encR p.recs)) ∧ (true = true ∧ List.length p.prods = List.length p.prods ∧ contLe (List.length p.prods) (4 : Nat) (cellsOf' P.encP p.prods) (cellsOf' P.encP p.prods)) ∧ (true = true ∧ List.length p.cons = List.length p.cons ∧ contLe (List.length p.cons) (2 : Nat) (cellsOf' encC p.cons) (cellsOf' encC p.cons)) ∧ True) ∧ True) ∧ True ∧ PartIn p ∧ (partOk p = true → ((IntKind.wrap IntKind.u64 (p.epoch + (1 : Int)) == (0 : Int)) = true → true = true ∧ True ∧ ((splitE p k == (0 : Int)) = true → (({ data := #[] : ByteArray } = p.rng.lo ∧ { data := #[] : ByteArray } = k ∧ (0 : Int) = IntKind.wrap IntKind.u64 (p.epoch + (1 : Int)) ∧ (0 : Int) = (0 : Int) ∧ List.length (outOf (rLow p.rng k) p.recs) = (0 : Nat) ∧ List.length (P.moveL p.prods (toOf (rLow p.rng k) p.recs)) = (0 : Nat) ∧ List.length (mapU p.cons (toOf (rLow p.rng k) p.recs) (List.length p.cons)) = (0 : Nat) ∧ True) ∧ ({ data := #[] : ByteArray } = k ∧ { data := #[] : ByteArray } = p.rng.hi ∧ (0 : Int) = IntKind.wrap IntKind.u64 (p.epoch + (1 : Int)) ∧ (0 : Int) = (0 : Int) ∧ List.length (outOf (rHigh p.rng k) p.recs) = (0 : Nat) ∧ List.length (P.moveL p.prods (toOf (rHigh p.rng k) p.recs)) = (0 : Nat) ∧ List.length (mapU p.cons (toOf (rHigh p.rng k) p.recs) (List.length p.cons)) = (0 : Nat) ∧ True) ∧ (172 : Int) = (0 : Int) ∧ True) ∧ True) ∧ ((splitE p k == (0 : Int)) = false → (({ data := #[] : ByteArray } = ByteArray.empty ∧ { data := #[] : ByteArray } = ByteArray.empty ∧ (0 : Int) = (0 : Int) ∧ (0 : Int) = (0 : Int) ∧ (0 : Nat) = (0 : Nat) ∧ (0 : Nat) = (0 : Nat) ∧ (0 : Nat) = (0 : Nat) ∧ True) ∧ ({ data := #[] : ByteArray } = ByteArray.empty ∧ { data := #[] : ByteArray } = ByteArray.empty ∧ (0 : Int) = (0 : Int) ∧ (0 : Int) = (0 : Int) ∧ (0 : Nat) = (0 : Nat) ∧ (0 : Nat) = (0 : Nat) ∧ (0 : Nat) = (0 : Nat) ∧ True) ∧ (172 : Int) = splitE p k ∧ True) ∧ True)) ∧ ((IntKind.wrap IntKind.u64 (p.epoch + (1 : Int)) == (0 : Int)) = false → ((p.frozen == (0 : Int)) = true → true = true ∧ True ∧ ((splitE p k == (0 : Int)) = true → (({ data := #[] : ByteArray } = p.rng.lo ∧ { data := #[] : ByteArray } = k ∧ (0 : Int) = IntKind.wrap IntKind.u64 (p.epoch + (1 : Int)) ∧ (0 : Int) = (0 : Int) ∧ List.length (outOf (rLow p.rng k) p.recs) = (0 : Nat) ∧ List.length (P.moveL p.prods (toOf (rLow p.rng k) p.recs)) = (0 : Nat) ∧ List.length (mapU p.cons (toOf (rLow p.rng k) p.recs) (List.length p.cons)) = (0 : Nat) ∧ True) ∧ ({ data := #[] : ByteArray } = k ∧ { data := #[] : ByteArray } = p.rng.hi ∧ (0 : Int) = IntKind.wrap IntKind.u64 (p.epoch + (1 : Int)) ∧ (0 : Int) = (0 : Int) ∧ List.length (outOf (rHigh p.rng k) p.recs) = (0 : Nat) ∧ List.length (P.moveL p.prods (toOf (rHigh p.rng k) p.recs)) = (0 : Nat) ∧ List.length (mapU p.cons (toOf (rHigh p.rng k) p.recs) (List.length p.cons)) = (0 : Nat) ∧ True) ∧ (171 : Int) = (0 : Int) ∧ True) ∧ True) ∧ ((splitE p k == (0 : Int)) = false → (({ data := #[] : ByteArray } = ByteArray.empty ∧ { data := #[] : ByteArray } = ByteArray.empty ∧ (0 : Int) = (0 : Int) ∧ (0 : Int) = (0 : Int) ∧ (0 : Nat) = (0 : Nat) ∧ (0 : Nat) = (0 : Nat) ∧ (0 : Nat) = (0 : Nat) ∧ True) ∧ ({ data := #[] : ByteArray } = ByteArray.empty ∧ { data := #[] : ByteArray } = ByteArray.empty ∧ (0 : Int) = (0 : Int) ∧ (0 : Int) = (0 : Int) ∧ (0 : Nat) = (0 : Nat) ∧ (0 : Nat) = (0 : Nat) ∧ (0 : Nat) = (0 : Nat) ∧ True) ∧ (171 : Int) = splitE p k ∧ True) ∧ True)) ∧ ((p.frozen == (0 : Int)) = false → true = true ∧ True ∧ ((p.rng.lo = p.rng.lo ∧ p.rng.hi = p.rng.hi ∧ True) ∧ k = k ∧ True) ∧ True ∧ ByteArray.size k ≤ (9223372036854775807 : Nat) ∧ ((splE p.rng k == (0 : Int)) = true → ((p.rng.lo = p.rng.lo ∧ k = k ∧ True) ∧ (false = false ∧ (7 : Nat) ≤ (7 : Nat) ∧ cellLe (7 : Nat) (fun (j : Nat) => Ax.get [AV.y (Value.string p.rng.lo), AV.y (Value.string p.rng.hi), AV.y (Value.int IntKind.u64 p.epoch), AV.y (Value.int IntKind.u64 p.frozen), AV.ys true (5 : Nat) (List.length p.recs) (cellsOf' encR p.recs), AV.ys true (4 : Nat) (List.length p.prods) (cellsOf' P.encP p.prods), AV.ys true (2 : Nat) (List.length p.cons) (cellsOf' encC p.cons)] ((0 : Nat) + j)) (Ax.get [AV.y (Value.string p.rng.lo), AV.y (Value.string p.rng.hi), AV.y (Value.int IntKind.u64 p.epoch), AV.y (Value.int IntKind.u64 p.frozen), AV.ys true (5 : Nat) (List.length p.recs) (cellsOf' encR p.recs), AV.ys true (4 : Nat) (List.length p.prods) (cellsOf' P.encP p.prods), AV.ys true (2 : Nat) (List.length p.cons) (cellsOf' encC p.cons)])) ∧ True) ∧ True ∧ (PartTy p ∧ isLog p.recs = true ∧ P.isTable p.prods = true ∧ isCons p.cons = true ∧ chkK (rLow p.rng k) = (0 : Int)) ∧ true = true ∧ True ∧ ((k = k ∧ p.rng.hi = p.rng.hi ∧ True) ∧ (false = false ∧ (7 : Nat) ≤ (7 : Nat) ∧ cellLe (7 : Nat) (fun (j : Nat) => Ax.get [AV.y (Value.string p.rng.lo), AV.y (Value.string p.rng.hi), AV.y (Value.int IntKind.u64 p.epoch), AV.y (Value.int IntKind.u64 p.frozen), AV.ys true (5 : Nat) (List.length p.recs) (cellsOf' encR p.recs), AV.ys true (4 : Nat) (List.length p.prods) (cellsOf' P.encP p.prods), AV.ys true (2 : Nat) (List.length p.cons) (cellsOf' encC p.cons)] ((0 : Nat) + j)) (Ax.get [AV.y (Value.string p.rng.lo), AV.y (Value.string p.rng.hi), AV.y (Value.int IntKind.u64 p.epoch), AV.y (Value.int IntKind.u64 p.frozen), AV.ys true (5 : Nat) (List.length p.recs) (cellsOf' encR p.recs), AV.ys true (4 : Nat) (List.length p.prods) (cellsOf' P.encP p.prods), AV.ys true (2 : Nat) (List.length p.cons) (cellsOf' encC p.cons)])) ∧ True) ∧ True ∧ (PartTy p ∧ isLog p.recs = true ∧ P.isTable p.prods = true ∧ isCons p.cons = true ∧ chkK (rHigh p.rng k) = (0 : Int)) ∧ true = true ∧ True ∧ ((splitE p k == (0 : Int)) = true → ((p.rng.lo = p.rng.lo ∧ k = k ∧ IntKind.wrap IntKind.u64 (p.epoch + (1 : Int)) = IntKind.wrap IntKind.u64 (p.epoch + (1 : Int)) ∧ (0 : Int) = (0 : Int) ∧ (true = true ∧ List.length (outOf (rLow p.rng k) p.recs) = List.length (outOf (rLow p.rng k) p.recs) ∧ contLe (List.length (outOf (rLow p.rng k) p.recs)) (5 : Nat) (cellsOf' encR (outOf (rLow p.rng k) p.recs)) (cellsOf' encR (outOf (rLow p.rng k) p.recs))) ∧ (true = true ∧ List.length (P.moveL p.prods (toOf (rLow p.rng k) p.recs)) = List.length (P.moveL p.prods (toOf (rLow p.rng k) p.recs)) ∧ contLe (List.length (P.moveL p.prods (toOf (rLow p.rng k) p.recs))) (4 : Nat) (cellsOf' P.encP (P.moveL p.prods (toOf (rLow p.rng k) p.recs))) (cellsOf' P.encP (P.moveL p.prods (toOf (rLow p.rng k) p.recs)))) ∧ (true = true ∧ List.length (mapU p.cons (toOf (rLow p.rng k) p.recs) (List.length p.cons)) = List.length (mapU p.cons (toOf (rLow p.rng k) p.recs) (List.length p.cons)) ∧ contLe (List.length (mapU p.cons (toOf (rLow p.rng k) p.recs) (List.length p.cons))) (2 : Nat) (cellsOf' encC (mapU p.cons (toOf (rLow p.rng k) p.recs) (List.length p.cons))) (cellsOf' encC (mapU p.cons (toOf (rLow p.rng k) p.recs) (List.length p.cons)))) ∧ True) ∧ (k = k ∧ p.rng.hi = p.rng.hi ∧ IntKind.wrap IntKind.u64 (p.epoch + (1 : Int)) = IntKind.wrap IntKind.u64 (p.epoch + (1 : Int)) ∧ (0 : Int) = (0 : Int) ∧ (true = true ∧ List.length (outOf (rHigh p.rng k) p.recs) = List.length (outOf (rHigh p.rng k) p.recs) ∧ contLe (List.length (outOf (rHigh p.rng k) p.recs)) (5 : Nat) (cellsOf' encR (outOf (rHigh p.rng k) p.recs)) (cellsOf' encR (outOf (rHigh p.rng k) p.recs))) ∧ (true = true ∧ List.length (P.moveL p.prods (toOf (rHigh p.rng k) p.recs)) = List.length (P.moveL p.prods (toOf (rHigh p.rng k) p.recs)) ∧ contLe (List.length (P.moveL p.prods (toOf (rHigh p.rng k) p.recs))) (4 : Nat) (cellsOf' P.encP (P.moveL p.prods (toOf (rHigh p.rng k) p.recs))) (cellsOf' P.encP (P.moveL p.prods (toOf (rHigh p.rng k) p.recs)))) ∧ (true = true ∧ List.length (mapU p.cons (toOf (rHigh p.rng k) p.recs) (List.length p.cons)) = List.length (mapU p.cons (toOf (rHigh p.rng k) p.recs) (List.length p.cons)) ∧ contLe (List.length (mapU p.cons (toOf (rHigh p.rng k) p.recs) (List.length p.cons))) (2 : Nat) (cellsOf' encC (mapU p.cons (toOf (rHigh p.rng k) p.recs) (List.length p.cons))) (cellsOf' encC (mapU p.cons (toOf (rHigh p.rng k) p.recs) (List.length p.cons)))) ∧ True) ∧ (0 : Int) = (0 : Int) ∧ True) ∧ True) ∧ ((splitE p k == (0 : Int)) = false → ((p.rng.lo = ByteArray.empty ∧ k = ByteArray.empty ∧ IntKind.wrap IntKind.u64 (p.epoch + (1 : Int)) = (0 : Int) ∧ (0 : Int) = (0 : Int) ∧ (true = true ∧ List.length (outOf (rLow p.rng k) p.recs) = (0 : Nat) ∧ contLe (List.length (outOf (rLow p.rng k) p.recs)) (5 : Nat) (cellsOf' encR (outOf (rLow p.rng k) p.recs)) (cellsOf' encR [])) ∧ (true = true ∧ List.length (P.moveL p.prods (toOf (rLow p.rng k) p.recs)) = (0 : Nat) ∧ contLe (List.length (P.moveL p.prods (toOf (rLow p.rng k) p.recs))) (4 : Nat) (cellsOf' P.encP (P.moveL p.prods (toOf (rLow p.rng k) p.recs))) (cellsOf' P.encP [])) ∧ (true = true ∧ List.length (mapU p.cons (toOf (rLow p.rng k) p.recs) (List.length p.cons)) = (0 : Nat) ∧ contLe (List.length (mapU p.cons (toOf (rLow p.rng k) p.recs) (List.length p.cons))) (2 : Nat) (cellsOf' encC (mapU p.cons (toOf (rLow p.rng k) p.recs) (List.length p.cons))) (cellsOf' encC [])) ∧ True) ∧ (k = ByteArray.empty ∧ p.rng.hi = ByteArray.empty ∧ IntKind.wrap IntKind.u64 (p.epoch + (1 : Int)) = (0 : Int) ∧ (0 : Int) = (0 : Int) ∧ (true = true ∧ List.length (outOf (rHigh p.rng k) p.recs) = (0 : Nat) ∧ contLe (List.length (outOf (rHigh p.rng k) p.recs)) (5 : Nat) (cellsOf' encR (outOf (rHigh p.rng k) p.recs)) (cellsOf' encR [])) ∧ (true = true ∧ List.length (P.moveL p.prods (toOf (rHigh p.rng k) p.recs)) = (0 : Nat) ∧ contLe (List.length (P.moveL p.prods (toOf (rHigh p.rng k) p.recs))) (4 : Nat) (cellsOf' P.encP (P.moveL p.prods (toOf (rHigh p.rng k) p.recs))) (cellsOf' P.encP [])) ∧ (true = true ∧ List.length (mapU p.cons (toOf (rHigh p.rng k) p.recs) (List.length p.cons)) = (0 : Nat) ∧ contLe (List.length (mapU p.cons (toOf (rHigh p.rng k) p.recs) (List.length p.cons))) (2 : Nat) (cellsOf' encC (mapU p.cons (toOf (rHigh p.rng k) p.recs) (List.length p.cons))) (cellsOf' encC [])) ∧ True) ∧ (0 : Int) = splitE p k ∧ True) ∧ True)) ∧ ((splE p.rng k == (0 : Int)) = false → ((splE p.rng k != (0 : Int)) = true → ((splitE p k == (0 : Int)) = true → (({ data := #[] : ByteArray } = p.rng.lo ∧ { data := #[] : ByteArray } = k ∧ (0 : Int) = IntKind.wrap IntKind.u64 (p.epoch + (1 : Int)) ∧ (0 : Int) = (0 : Int) ∧ List.length (outOf (rLow p.rng k) p.recs) = (0 : Nat) ∧ List.length (P.moveL p.prods (toOf (rLow p.rng k) p.recs)) = (0 : Nat) ∧ List.length (mapU p.cons (toOf (rLow p.rng k) p.recs) (List.length p.cons)) = (0 : Nat) ∧ True) ∧ ({ data := #[] : ByteArray } = k ∧ { data := #[] : ByteArray } = p.rng.hi ∧ (0 : Int) = IntKind.wrap IntKind.u64 (p.epoch + (1 : Int)) ∧ (0 : Int) = (0 : Int) ∧ List.length (outOf (rHigh p.rng k) p.recs) = (0 : Nat) ∧ List.length (P.moveL p.prods (toOf (rHigh p.rng k) p.recs)) = (0 : Nat) ∧ List.length (mapU p.cons (toOf (rHigh p.rng k) p.recs) (List.length p.cons)) = (0 : Nat) ∧ True) ∧ splE p.rng k = (0 : Int) ∧ True) ∧ True) ∧ ((splitE p k == (0 : Int)) = false → (({ data := #[] : ByteArray } = ByteArray.empty ∧ { data := #[] : ByteArray } = ByteArray.empty ∧ (0 : Int) = (0 : Int) ∧ (0 : Int) = (0 : Int) ∧ (0 : Nat) = (0 : Nat) ∧ (0 : Nat) = (0 : Nat) ∧ (0 : Nat) = (0 : Nat) ∧ True) ∧ ({ data := #[] : ByteArray } = ByteArray.empty ∧ { data := #[] : ByteArray } = ByteArray.empty ∧ (0 : Int) = (0 : Int) ∧ (0 : Int) = (0 : Int) ∧ (0 : Nat) = (0 : Nat) ∧ (0 : Nat) = (0 : Nat) ∧ (0 : Nat) = (0 : Nat) ∧ True) ∧ splE p.rng k = splitE p k ∧ True) ∧ True)) ∧ ((splE p.rng k != (0 : Int)) = false → ((ByteArray.empty = p.rng.lo ∧ ByteArray.empty = k ∧ True) ∧ (false = false ∧ (7 : Nat) ≤ (7 : Nat) ∧ cellLe (7 : Nat) (fun (j : Nat) => Ax.get [AV.y (Value.string p.rng.lo), AV.y (Value.string p.rng.hi), AV.y (Value.int IntKind.u64 p.epoch), AV.y (Value.int IntKind.u64 p.frozen), AV.ys true (5 : Nat) (List.length p.recs) (cellsOf' encR p.recs), AV.ys true (4 : Nat) (List.length p.prods) (cellsOf' P.encP p.prods), AV.ys true (2 : Nat) (List.length p.cons) (cellsOf' encC p.cons)] ((0 : Nat) + j)) (Ax.get [AV.y (Value.string p.rng.lo), AV.y (Value.string p.rng.hi), AV.y (Value.int IntKind.u64 p.epoch), AV.y (Value.int IntKind.u64 p.frozen), AV.ys true (5 : Nat) (List.length p.recs) (cellsOf' encR p.recs), AV.ys true (4 : Nat) (List.length p.prods) (cellsOf' P.encP p.prods), AV.ys true (2 : Nat) (List.length p.cons) (cellsOf' encC p.cons)])) ∧ True) ∧ True ∧ (PartTy p ∧ isLog p.recs = true ∧ P.isTable p.prods = true ∧ isCons p.cons = true ∧ chkK (rLow p.rng k) = (0 : Int)) ∧ true = true ∧ True ∧ ((ByteArray.empty = k ∧ ByteArray.empty = p.rng.hi ∧ True) ∧ (false = false ∧ (7 : Nat) ≤ (7 : Nat) ∧ cellLe (7 : Nat) (fun (j : Nat) => Ax.get [AV.y (Value.string p.rng.lo), AV.y (Value.string p.rng.hi), AV.y (Value.int IntKind.u64 p.epoch), AV.y (Value.int IntKind.u64 p.frozen), AV.ys true (5 : Nat) (List.length p.recs) (cellsOf' encR p.recs), AV.ys true (4 : Nat) (List.length p.prods) (cellsOf' P.encP p.prods), AV.ys true (2 : Nat) (List.length p.cons) (cellsOf' encC p.cons)] ((0 : Nat) + j)) (Ax.get [AV.y (Value.string p.rng.lo), AV.y (Value.string p.rng.hi), AV.y (Value.int IntKind.u64 p.epoch), AV.y (Value.int IntKind.u64 p.frozen), AV.ys true (5 : Nat) (List.length p.recs) (cellsOf' encR p.recs), AV.ys true (4 : Nat) (List.length p.prods) (cellsOf' P.encP p.prods), AV.ys true (2 : Nat) (List.length p.cons) (cellsOf' encC p.cons)])) ∧ True) ∧ True ∧ (PartTy p ∧ isLog p.recs = true ∧ P.isTable p.prods = true ∧ isCons p.cons = true ∧ chkK (rHigh p.rng k) = (0 : Int)) ∧ true = true ∧ True ∧ ((splitE p k == (0 : Int)) = true → ((p.rng.lo = p.rng.lo ∧ k = k ∧ IntKind.wrap IntKind.u64 (p.epoch + (1 : Int)) = IntKind.wrap IntKind.u64 (p.epoch + (1 : Int)) ∧ (0 : Int) = (0 : Int) ∧ (true = true ∧ List.length (outOf (rLow p.rng k) p.recs) = List.length (outOf (rLow p.rng k) p.recs) ∧ contLe (List.length (outOf (rLow p.rng k) p.recs)) (5 : Nat) (cellsOf' encR (outOf (rLow p.rng k) p.recs)) (cellsOf' encR (outOf (rLow p.rng k) p.recs))) ∧ (true = true ∧ List.length (P.moveL p.prods (toOf (rLow p.rng k) p.recs)) = List.length (P.moveL p.prods (toOf (rLow p.rng k) p.recs)) ∧ contLe (List.length (P.moveL p.prods (toOf (rLow p.rng k) p.recs))) (4 : Nat) (cellsOf' P.encP (P.moveL p.prods (toOf (rLow p.rng k) p.recs))) (cellsOf' P.encP (P.moveL p.prods (toOf (rLow p.rng k) p.recs)))) ∧ (true = true ∧ List.length (mapU p.cons (toOf (rLow p.rng k) p.recs) (List.length p.cons)) = List.length (mapU p.cons (toOf (rLow p.rng k) p.recs) (List.length p.cons)) ∧ contLe (List.length (mapU p.cons (toOf (rLow p.rng k) p.recs) (List.length p.cons))) (2 : Nat) (cellsOf' encC (mapU p.cons (toOf (rLow p.rng k) p.recs) (List.length p.cons))) (cellsOf' encC (mapU p.cons (toOf (rLow p.rng k) p.recs) (List.length p.cons)))) ∧ True) ∧ (k = k ∧ p.rng.hi = p.rng.hi ∧ IntKind.wrap IntKind.u64 (p.epoch + (1 : Int)) = IntKind.wrap IntKind.u64 (p.epoch + (1 : Int)) ∧ (0 : Int) = (0 : Int) ∧ (true = true ∧ List.length (outOf (rHigh p.rng k) p.recs) = List.length (outOf (rHigh p.rng k) p.recs) ∧ contLe (List.length (outOf (rHigh p.rng k) p.recs)) (5 : Nat) (cellsOf' encR (outOf (rHigh p.rng k) p.recs)) (cellsOf' encR (outOf (rHigh p.rng k) p.recs))) ∧ (true = true ∧ List.length (P.moveL p.prods (toOf (rHigh p.rng k) p.recs)) = List.length (P.moveL p.prods (toOf (rHigh p.rng k) p.recs)) ∧ contLe (List.length (P.moveL p.prods (toOf (rHigh p.rng k) p.recs))) (4 : Nat) (cellsOf' P.encP (P.moveL p.prods (toOf (rHigh p.rng k) p.recs))) (cellsOf' P.encP (P.moveL p.prods (toOf (rHigh p.rng k) p.recs)))) ∧ (true = true ∧ List.length (mapU p.cons (toOf (rHigh p.rng k) p.recs) (List.length p.cons)) = List.length (mapU p.cons (toOf (rHigh p.rng k) p.recs) (List.length p.cons)) ∧ contLe (List.length (mapU p.cons (toOf (rHigh p.rng k) p.recs) (List.length p.cons))) (2 : Nat) (cellsOf' encC (mapU p.cons (toOf (rHigh p.rng k) p.recs) (List.length p.cons))) (cellsOf' encC (mapU p.cons (toOf (rHigh p.rng k) p.recs) (List.length p.cons)))) ∧ True) ∧ (0 : Int) = (0 : Int) ∧ True) ∧ True) ∧ ((splitE p k == (0 : Int)) = false → ((p.rng.lo = ByteArray.empty ∧ k = ByteArray.empty ∧ IntKind.wrap IntKind.u64 (p.epoch + (1 : Int)) = (0 : Int) ∧ (0 : Int) = (0 : Int) ∧ (true = true ∧ List.length (outOf (rLow p.rng k) p.recs) = (0 : Nat) ∧ contLe (List.length (outOf (rLow p.rng k) p.recs)) (5 : Nat) (cellsOf' encR (outOf (rLow p.rng k) p.recs)) (cellsOf' encR [])) ∧ (true = true ∧ List.length (P.moveL p.prods (toOf (rLow p.rng k) p.recs)) = (0 : Nat) ∧ contLe (List.length (P.moveL p.prods (toOf (rLow p.rng k) p.recs))) (4 : Nat) (cellsOf' P.encP (P.moveL p.prods (toOf (rLow p.rng k) p.recs))) (cellsOf' P.encP [])) ∧ (true = true ∧ List.length (mapU p.cons (toOf (rLow p.rng k) p.recs) (List.length p.cons)) = (0 : Nat) ∧ contLe (List.length (mapU p.cons (toOf (rLow p.rng k) p.recs) (List.length p.cons))) (2 : Nat) (cellsOf' encC (mapU p.cons (toOf (rLow p.rng k) p.recs) (List.length p.cons))) (cellsOf' encC [])) ∧ True) ∧ (k = ByteArray.empty ∧ p.rng.hi = ByteArray.empty ∧ IntKind.wrap IntKind.u64 (p.epoch + (1 : Int)) = (0 : Int) ∧ (0 : Int) = (0 : Int) ∧ (true = true ∧ List.length (outOf (rHigh p.rng k) p.recs) = (0 : Nat) ∧ contLe (List.length (outOf (rHigh p.rng k) p.recs)) (5 : Nat) (cellsOf' encR (outOf (rHigh p.rng k) p.recs)) (cellsOf' encR [])) ∧ (true = true ∧ List.length (P.moveL p.prods (toOf (rHigh p.rng k) p.recs)) = (0 : Nat) ∧ contLe (List.length (P.moveL p.prods (toOf (rHigh p.rng k) p.recs))) (4 : Nat) (cellsOf' P.encP (P.moveL p.prods (toOf (rHigh p.rng k) p.recs))) (cellsOf' P.encP [])) ∧ (true = true ∧ List.length (mapU p.cons (toOf (rHigh p.rng k) p.recs) (List.length p.cons)) = (0 : Nat) ∧ contLe (List.length (mapU p.cons (toOf (rHigh p.rng k) p.recs) (List.length p.cons))) (2 : Nat) (cellsOf' encC (mapU p.cons (toOf (rHigh p.rng k) p.recs) (List.length p.cons))) (cellsOf' encC [])) ∧ True) ∧ (0 : Int) = splitE p k ∧ True) ∧ True)))))) ∧ (partOk p = false → true = true ∧ True ∧ ((splitE p k == (0 : Int)) = true → (({ data := #[] : ByteArray } = p.rng.lo ∧ { data := #[] : ByteArray } = k ∧ (0 : Int) = IntKind.wrap IntKind.u64 (p.epoch + (1 : Int)) ∧ (0 : Int) = (0 : Int) ∧ List.length (outOf (rLow p.rng k) p.recs) = (0 : Nat) ∧ List.length (P.moveL p.prods (toOf (rLow p.rng k) p.recs)) = (0 : Nat) ∧ List.length (mapU p.cons (toOf (rLow p.rng k) p.recs) (List.length p.cons)) = (0 : Nat) ∧ True) ∧ ({ data := #[] : ByteArray } = k ∧ { data := #[] : ByteArray } = p.rng.hi ∧ (0 : Int) = IntKind.wrap IntKind.u64 (p.epoch + (1 : Int)) ∧ (0 : Int) = (0 : Int) ∧ List.length (outOf (rHigh p.rng k) p.recs) = (0 : Nat) ∧ List.length (P.moveL p.prods (toOf (rHigh p.rng k) p.recs)) = (0 : Nat) ∧ List.length (mapU p.cons (toOf (rHigh p.rng k) p.recs) (List.length p.cons)) = (0 : Nat) ∧ True) ∧ (172 : Int) = (0 : Int) ∧ True) ∧ True) ∧ ((splitE p k == (0 : Int)) = false → (({ data := #[] : ByteArray } = ByteArray.empty ∧ { data := #[] : ByteArray } = ByteArray.empty ∧ (0 : Int) = (0 : Int) ∧ (0 : Int) = (0 : Int) ∧ (0 : Nat) = (0 : Nat) ∧ (0 : Nat) = (0 : Nat) ∧ (0 : Nat) = (0 : Nat) ∧ True) ∧ ({ data := #[] : ByteArray } = ByteArray.empty ∧ { data := #[] : ByteArray } = ByteArray.empty ∧ (0 : Int) = (0 : Int) ∧ (0 : Int) = (0 : Int) ∧ (0 : Nat) = (0 : Nat) ∧ (0 : Nat) = (0 : Nat) ∧ (0 : Nat) = (0 : Nat) ∧ True) ∧ (172 : Int) = splitE p k ∧ True) ∧ True))
theorem vcSplit_eq (p : Part) (k : ByteArray) : (ctrVC Tryd.prog (splH p k) 7 [.agg (encPt true p), .y (.string k)] [] (splitT p k)) = vcSplit p k := by kernel_rfl
theorem less_irr : ∀ l : List UInt8, Op.bytesLess l l = false
  | [] => rfl
  | a :: l => by simp [Op.bytesLess, less_irr l]
theorem lt_irr (a : ByteArray) : lt a a = false := less_irr _
theorem beqB_iff {a b : ByteArray} : beqB a b = true ↔ a = b := by
  obtain ⟨⟨a⟩⟩ := a
  obtain ⟨⟨b⟩⟩ := b
  simp [beqB]
theorem lst_iff {a b : ByteArray} : (a.data.toList == b.data.toList) = true ↔ a = b := beqB_iff
theorem spl_ok {r : Rng} {k : ByteArray} (h : splE r k = 0) : chkK r = 0 ∧ k.size ≤ 32 ∧ k ≠ r.lo ∧ hasK r k = true := by
  unfold splE at h
  split at h
  · rename_i h1; simp at h1; exact absurd h h1
  · split at h
    · cases h
    · split at h
      · cases h
      · rename_i h1 h2 h3
        simp at h1 h3
        refine ⟨h1, by omega, fun e => ?_, h3.2⟩
        rw [beqB_iff.2 e] at h3
        simp at h3
theorem chk_iff {r : Rng} : chkK r = 0 ↔ r.lo.size ≤ 32 ∧ r.hi.size ≤ 32 ∧ (r.hi.data.toList = [] ∨ (lt r.hi r.lo = false ∧ r.hi ≠ r.lo)) := by
  unfold chkK
  by_cases h1 : 32 < r.lo.size ∨ 32 < r.hi.size
  · rw [if_pos h1]
    constructor
    · intro h; cases h
    · rintro ⟨a, b, _⟩; omega
  · rw [if_neg h1]
    have h2 : r.lo.size ≤ 32 ∧ r.hi.size ≤ 32 := by omega
    have h3 : (r.hi.data.toList == r.lo.data.toList) = decide (r.hi = r.lo) := by
      rw [Bool.eq_iff_iff, lst_iff, decide_eq_true_iff]
    rw [h3]
    clear h3
    generalize r.hi.data.toList = L
    by_cases h4 : L = []
    · simp [h4, h2]
    · by_cases h5 : lt r.hi r.lo = true
      · simp [h4, h5]
      · by_cases h6 : r.hi = r.lo
        · simp [h4, h6]
        · simp [h4, h5, h6, h2]
theorem has_iff {r : Rng} {k : ByteArray} : hasK r k = true ↔ chkK r = 0 ∧ k.size ≤ 32 ∧ (lt r.lo k = true ∨ r.lo = k) ∧ (r.hi.data.toList = [] ∨ lt k r.hi = true) := by
  unfold hasK
  have h3 : (r.lo.data.toList == k.data.toList) = decide (r.lo = k) := by
    rw [Bool.eq_iff_iff, lst_iff, decide_eq_true_iff]
  rw [h3]
  simp only [Bool.and_eq_true, Bool.or_eq_true, beq_iff_eq, decide_eq_true_iff]
  constructor
  · rintro ⟨a, b, c, d⟩; exact ⟨a, by omega, c, d⟩
  · rintro ⟨a, b, c, d⟩; exact ⟨a, by omega, c, d⟩
theorem low_chk {r : Rng} {k : ByteArray} (h : splE r k = 0) : chkK (rLow r k) = 0 := by
  obtain ⟨h1, h2, h3, h4⟩ := spl_ok h
  obtain ⟨c1, c2, c3⟩ := chk_iff.1 h1
  obtain ⟨_, _, h5, h6⟩ := has_iff.1 h4
  refine chk_iff.2 ⟨c1, h2, .inr ?_⟩
  have h5 : lt r.lo k = true := h5.resolve_right fun e => h3 e.symm
  refine ⟨?_, h3⟩
  show lt k r.lo = false
  cases hh : lt k r.lo
  · rfl
  · have := lt_trans' h5 hh
    rw [lt_irr] at this; cases this
theorem high_chk {r : Rng} {k : ByteArray} (h : splE r k = 0) : chkK (rHigh r k) = 0 := by
  obtain ⟨h1, h2, h3, h4⟩ := spl_ok h
  obtain ⟨c1, c2, c3⟩ := chk_iff.1 h1
  obtain ⟨_, _, h5, h6⟩ := has_iff.1 h4
  refine chk_iff.2 ⟨h2, c2, ?_⟩
  rcases h6 with h6 | h6
  · exact .inl h6
  · refine .inr ⟨?_, ?_⟩
    · show lt r.hi k = false
      cases hh : lt r.hi k
      · rfl
      · have := lt_trans' h6 hh
        rw [lt_irr] at this; cases this
    · intro e
      have e : r.hi = k := e
      rw [e, lt_irr] at h6; cases h6
theorem ok_parts {p : Part} (h : partOk p = true) : chkK p.rng = 0 ∧ p.epoch ≠ 0 ∧ isLog p.recs = true ∧ P.isTable p.prods = true ∧ isCons p.cons = true ∧ orFrom p 0 = true ∧ p.prods.any (lostB p) = false ∧ p.cons.any (aheadB p.recs.length) = false := by
  simp only [partOk, Bool.and_eq_true, Bool.not_eq_true', beq_iff_eq] at h
  obtain ⟨a, b, c, d, e, f, g, i⟩ := h
  exact ⟨a, by simpa using b, c, d, e, f, g, i⟩
theorem split_c (p : Part) (k : ByteArray) (hp : PartTy p) (hk : k.size ≤ 9223372036854775807) : (splitT p k).Sat (ACall' Tryd.prog 7 [.agg (encPt true p), .y (.string k)] []) := by
  refine ctr_vc (ht := splH p k) Tryd.mixed rfl ?_
  rw [vcSplit_eq p k]
  unfold vcSplit
  have eb : ({ data := #[] } : ByteArray) = ByteArray.empty := rfl
  have hi := hp.isIn
  rw [eb]
  cases h1 : partOk p
  · have e1 : splitE p k = 172 := by simp [splitE, bad, h1]
    simp [e1, hi]
  · by_cases h2 : IntKind.u64.wrap (p.epoch + 1) = 0
    · have e1 : splitE p k = 172 := by simp [splitE, bad, h1, h2]
      simp [e1, hi, h2]
    · by_cases h3 : p.frozen = 0
      · have e1 : splitE p k = 171 := by simp [splitE, bad, h1, h2, h3]
        simp [e1, hi, h2, h3]
      · have e1 : splitE p k = splE p.rng k := by simp [splitE, bad, h1, h2, h3]
        obtain ⟨o1, o2, o3, o4, o5, _⟩ := ok_parts h1
        by_cases h4 : splE p.rng k = 0
        · have c1 := low_chk h4
          have c2 := high_chk h4
          simp [e1, hi, h2, h3, h4, hk, c1, c2, hp, o3, o4, o5, partOf, rLow, rHigh]
          exact ⟨c1, c2⟩
        · simp [e1, hi, h2, h3, h4, hk]
end Go.Proofs.YtckklclehofddaaDoor.D

namespace Go.Proofs.YtckklclehofddaaDoor.H
open Go.Ax Go.Proofs.YtckklclehofddaaDoor
set_option maxRecDepth 1000000
def trRec (x : Rec) (j : Nat) : Tr := match j with
  | 0 => .av (.y (.int .u64 x.off))
  | 1 => .av (.y (.string x.key))
  | 2 => .frow 5 1 x.val.length (cellsOf' encB x.val)
  | 3 => .av (.y (.int .u64 x.prod))
  | 4 => .av (.y (.int .u64 x.seq))
  | _ => .av .junk
def trRs (l : List Rec) (k : Nat) : Nat → Tr := trRec (l.getD k default)
def zR : List Value := [.int .u64 0, .string ⟨#[]⟩, .slice none 0 0, .int .u64 0, .int .u64 0]
def towN (l : List Rec) (k : Nat) : Blk := .trow 38 5 k none (trRs l) [] zR
def towR (l : List Rec) : Blk := towN l l.length
def recW (x : Rec) : T An := .ret (.agg [.y (.int .u64 x.off), .y (.string x.key), .own 0 1 0 x.val.length, .y (.int .u64 x.prod), .y (.int .u64 x.seq)], [.row 5 1 x.val.length none (cellsOf' encB x.val)], [])
noncomputable def owwH (b : Bool) (x : Rec) : HintsT Tryd.prog := withSh (hh _ noLp (cs1 35 1 4 (clnC true x.val.length (cellsOf' encB x.val)) noCs) noOp) noSh
def vcOww (x : Rec) (o : Int) : Prop :=
  ((true = true ∧ List.length x.val = List.length x.val ∧ contLe (List.length x.val) (1 : Nat) (cellsOf' encB x.val) (cellsOf' encB x.val)) ∧ True) ∧ True ∧ List.length x.val ≤ (140737488355328 : Nat) ∧ (IntKind.wrap IntKind.u64 o = IntKind.wrap IntKind.u64 o ∧ x.key = x.key ∧ ((0 : Nat) = (0 : Nat) ∧ List.length x.val = List.length x.val) ∧ x.prod = x.prod ∧ x.seq = x.seq ∧ True) ∧ (List.length x.val = List.length x.val ∧ contLe (List.length x.val) (1 : Nat) (cellsOf' encB x.val) (cellsOf' encB x.val)) ∧ True
theorem vcOww_eq (x : Rec) (o : Int) : (ctrVC Tryd.prog (owwH true x) 35 [.agg (encR x), .y (.int .i64 o)] [] (recW (x.to (IntKind.u64.wrap o)))) = vcOww x o := by kernel_rfl
theorem oww_c (x : Rec) (o : Int) (h : x.val.length ≤ 140737488355328) : (recW (x.to (IntKind.u64.wrap o))).Sat (ACall' Tryd.prog 35 [.agg (encR x), .y (.int .i64 o)] []) := by
  refine ctr_vc (ht := owwH true x) Tryd.mixed rfl ?_
  rw [vcOww_eq x o]
  unfold vcOww
  simp [h, Rec.to]
noncomputable def owwC (x : Rec) (o : Int) : Ctr Tryd.prog := ⟨35, [.agg (encR x), .y (.int .i64 o)], [], .need (x.val.length ≤ 140737488355328) (recW (x.to (IntKind.u64.wrap o))), T.Sat.need fun h => oww_c x o h⟩
end Go.Proofs.YtckklclehofddaaDoor.H

namespace Go.Proofs.YtckklclehofddaaDoor.H
open Go.Ax Go.Proofs.YtckklclehofddaaDoor
set_option maxRecDepth 1000000
end Go.Proofs.YtckklclehofddaaDoor.H

namespace Go.Proofs.YtckklclehofddaaDoor.H
open Go.Ax Go.Proofs.YtckklclehofddaaDoor
set_option maxRecDepth 1000000
def encF (x : Rec) : List AV := [.y (.int .u64 x.off), .y (.string x.key), encBs false x.val, .y (.int .u64 x.prod), .y (.int .u64 x.seq)]
def encFs (b : Bool) (l : List Rec) : AV := .ys b 5 l.length (cellsOf' encF l)
def sfT (b1 b2 : Bool) (a : List Rec) (k : Nat) : List AV := mkT 82 [(0, encFs b1 a), (1, encRs b2 a), (5, .y (.int .i64 k))]
def sfS (_ : Unit) : Exit × List AV × List Blk := (.exit 0, mkT 82 [], [])
def vcSfL (b1 : Bool) (b2 : Bool) (a : List Rec) (k : Nat) : Prop :=
  (decide ((↑k : Int) < (↑(List.length a) : Int)) = true → (true && decide ((↑k : Int) < (↑(List.length a) : Int))) = true ∧ (true && decide ((↑k : Int) < (↑(List.length a) : Int))) = true ∧ (((List.getD a (Int.toNat (↑k : Int)) (@default Rec instInhabitedRec)).off != (List.getD a (Int.toNat (↑k : Int)) (@default Rec instInhabitedRec)).off) = true → False) ∧ (((List.getD a (Int.toNat (↑k : Int)) (@default Rec instInhabitedRec)).off != (List.getD a (Int.toNat (↑k : Int)) (@default Rec instInhabitedRec)).off) = false → (true && decide ((↑k : Int) < (↑(List.length a) : Int))) = true ∧ (true && decide ((↑k : Int) < (↑(List.length a) : Int))) = true ∧ ((!(List.getD a (Int.toNat (↑k : Int)) (@default Rec instInhabitedRec)).key.data.toList == (List.getD a (Int.toNat (↑k : Int)) (@default Rec instInhabitedRec)).key.data.toList) = true → False) ∧ ((!(List.getD a (Int.toNat (↑k : Int)) (@default Rec instInhabitedRec)).key.data.toList == (List.getD a (Int.toNat (↑k : Int)) (@default Rec instInhabitedRec)).key.data.toList) = false → (true && decide ((↑k : Int) < (↑(List.length a) : Int))) = true ∧ (∀ (k_1 : Nat), k_1 < List.length (List.getD a (Int.toNat (↑k : Int)) (@default Rec instInhabitedRec)).val → true = true) ∧ (true && decide ((↑k : Int) < (↑(List.length a) : Int))) = true ∧ (∀ (k_1 : Nat), k_1 < List.length (List.getD a (Int.toNat (↑k : Int)) (@default Rec instInhabitedRec)).val → true = true) ∧ ((!List.map (fun (a : AV) => match match a with | AV.s (Value.int IntKind.u8 n) => some n | AV.y (Value.int IntKind.u8 n) => some n | x => none with | some n => UInt8.ofNat (Int.toNat n) | none => (0 : UInt8)) (List.map (fun (k_1 : Nat) => AV.y (Value.int IntKind.u8 (List.getD (List.getD a (Int.toNat (↑k : Int)) (@default Rec instInhabitedRec)).val k_1 (0 : Int)))) (List.range (List.length (List.getD a (Int.toNat (↑k : Int)) (@default Rec instInhabitedRec)).val))) == List.map (fun (a : AV) => match match a with | AV.s (Value.int IntKind.u8 n) => some n | AV.y (Value.int IntKind.u8 n) => some n | x => none with | some n => UInt8.ofNat (Int.toNat n) | none => (0 : UInt8)) (List.map (fun (k_1 : Nat) => AV.y (Value.int IntKind.u8 (List.getD (List.getD a (Int.toNat (↑k : Int)) (@default Rec instInhabitedRec)).val k_1 (0 : Int)))) (List.range (List.length (List.getD a (Int.toNat (↑k : Int)) (@default Rec instInhabitedRec)).val)))) = true → False) ∧ ((!List.map (fun (a : AV) => match match a with | AV.s (Value.int IntKind.u8 n) => some n | AV.y (Value.int IntKind.u8 n) => some n | x => none with | some n => UInt8.ofNat (Int.toNat n) | none => (0 : UInt8)) (List.map (fun (k_1 : Nat) => AV.y (Value.int IntKind.u8 (List.getD (List.getD a (Int.toNat (↑k : Int)) (@default Rec instInhabitedRec)).val k_1 (0 : Int)))) (List.range (List.length (List.getD a (Int.toNat (↑k : Int)) (@default Rec instInhabitedRec)).val))) == List.map (fun (a : AV) => match match a with | AV.s (Value.int IntKind.u8 n) => some n | AV.y (Value.int IntKind.u8 n) => some n | x => none with | some n => UInt8.ofNat (Int.toNat n) | none => (0 : UInt8)) (List.map (fun (k_1 : Nat) => AV.y (Value.int IntKind.u8 (List.getD (List.getD a (Int.toNat (↑k : Int)) (@default Rec instInhabitedRec)).val k_1 (0 : Int)))) (List.range (List.length (List.getD a (Int.toNat (↑k : Int)) (@default Rec instInhabitedRec)).val)))) = false → (true && decide ((↑k : Int) < (↑(List.length a) : Int))) = true ∧ (true && decide ((↑k : Int) < (↑(List.length a) : Int))) = true ∧ (((List.getD a (Int.toNat (↑k : Int)) (@default Rec instInhabitedRec)).prod != (List.getD a (Int.toNat (↑k : Int)) (@default Rec instInhabitedRec)).prod) = true → False) ∧ (((List.getD a (Int.toNat (↑k : Int)) (@default Rec instInhabitedRec)).prod != (List.getD a (Int.toNat (↑k : Int)) (@default Rec instInhabitedRec)).prod) = false → (true && decide ((↑k : Int) < (↑(List.length a) : Int))) = true ∧ (true && decide ((↑k : Int) < (↑(List.length a) : Int))) = true ∧ (((List.getD a (Int.toNat (↑k : Int)) (@default Rec instInhabitedRec)).seq != (List.getD a (Int.toNat (↑k : Int)) (@default Rec instInhabitedRec)).seq) = true → False) ∧ (((List.getD a (Int.toNat (↑k : Int)) (@default Rec instInhabitedRec)).seq != (List.getD a (Int.toNat (↑k : Int)) (@default Rec instInhabitedRec)).seq) = false → ∃ (j : Nat), List.length a - j < List.length a - k ∧ (((b1 = b1 ∧ List.length a = List.length a ∧ contLe (List.length a) (5 : Nat) (cellsOf' encF a) (cellsOf' encF a)) ∧ (b2 = b2 ∧ List.length a = List.length a ∧ contLe (List.length a) (5 : Nat) (cellsOf' encR a) (cellsOf' encR a)) ∧ IntKind.wrap IntKind.i64 ((↑k : Int) + (1 : Int)) = (↑j : Int) ∧ True) ∧ True ∧ true = true) ∧ true = true ∧ () = ())))))) ∧ (decide ((↑k : Int) < (↑(List.length a) : Int)) = false → True ∧ True ∧ true = true)
theorem vcSfL_eq (b1 : Bool) (b2 : Bool) (a : List Rec) (k : Nat) : (loopVC Tryd.prog (hT _) 26 4 (fun k => a.length - k) (sfT b1 b2 a) (fun _ => []) [0] (fun _ => .ret ()) sfS k) = vcSfL b1 b2 a k := by kernel_rfl
noncomputable def sfH (b1 b2 : Bool) (a : List Rec) : HintsT Tryd.prog := hh _ (lp1 26 4 (jobOf (sfT b1 b2 a) (fun _ => []) [0] (fun _ => .ret ()) sfS 0) noLp) noCs noOp
def vcSf (b1 : Bool) (b2 : Bool) (a : List Rec) : Prop :=
  (((↑(List.length a) : Int) != (↑(List.length a) : Int)) = true → false = true ∧ True) ∧ (((↑(List.length a) : Int) != (↑(List.length a) : Int)) = false → (((b1 = b1 ∧ List.length a = List.length a ∧ contLe (List.length a) (5 : Nat) (cellsOf' encF a) (cellsOf' encF a)) ∧ (b2 = b2 ∧ List.length a = List.length a ∧ contLe (List.length a) (5 : Nat) (cellsOf' encR a) (cellsOf' encR a)) ∧ (0 : Int) = (0 : Int) ∧ True) ∧ True ∧ true = true) ∧ LoopOk Tryd.prog (26 : Nat) (4 : Nat) (loopAt Tryd.prog (26 : Nat) (4 : Nat)) { t := sfT b1 b2 a (0 : Nat), m := [], mv := [] : St } (T.map (lout [(0 : Nat)] sfS) ((fun (x : Nat) => T.ret ()) (0 : Nat))) ∧ true = true ∧ True)
theorem vcSf_eq (b1 : Bool) (b2 : Bool) (a : List Rec) : (ctrVC Tryd.prog (sfH b1 b2 a) 26 [encFs b1 a, encRs b2 a] [] (boolR true)) = vcSf b1 b2 a := by kernel_rfl
theorem sf_loop (b1 b2 : Bool) (a : List Rec) (hl : a.length ≤ 9223372036854775806) (k : Nat) : LoopOk Tryd.prog 26 4 (loopAt Tryd.prog 26 4) ⟨sfT b1 b2 a k, [], []⟩ (T.map (lout [0] sfS) (.ret ())) := by
  refine loop_vc (o := fun _ => .ret ()) Tryd.mixed (fun _ => rfl) (fun k => (vcSfL_eq b1 b2 a k).mpr ?_) k
  unfold vcSfL
  simp
  intro h
  have hb : ∀ q : Nat, isU8 (cellsOf' encB (a[k]?.getD default).val q 0) = true := fun _ => rfl
  simp [h, hb]
  exact ⟨k + 1, by omega, by rw [wrap_i64 (by omega) (by omega)]; omega⟩
theorem sf_c (b1 b2 : Bool) (a : List Rec) (hl : a.length ≤ 9223372036854775806) : (boolR true).Sat (ACall' Tryd.prog 26 [encFs b1 a, encRs b2 a] []) := by
  refine ctr_vc (ht := sfH b1 b2 a) Tryd.mixed rfl ?_
  rw [vcSf_eq b1 b2 a]
  unfold vcSf
  simp [sf_loop b1 b2 a hl 0]
noncomputable def sfC (b1 b2 : Bool) (a b : List Rec) : Ctr Tryd.prog := ⟨26, [encFs b1 a, encRs b2 b], [], .need (a.length ≤ 9223372036854775806 ∧ a = b) (boolR true), T.Sat.need fun h => by obtain ⟨h1, rfl⟩ := h; exact sf_c b1 b2 a h1⟩
def loT (b : Bool) (l : List Rec) (k : Nat) : List AV := mkT 30 [(0, encRs b l), (3, .own 0 5 0 k), (4, .y (.int .i64 k))]
def loS (l : List Rec) (_ : Unit) : Exit × List AV × List Blk := (.exit 0, mkT 30 [(3, .own 0 5 0 l.length)], [rowR l])
def incR (x : Rec) (k : Nat) : Rec := ⟨x.off, x.key, (x.val.take k).map (fun v => IntKind.u8.wrap (v + 1)) ++ x.val.drop k, x.prod, x.seq⟩
def incF (f : Nat → Rec) (i k : Nat) : Nat → Rec := fun p => if p = i then incR (f i) k else f p
end Go.Proofs.YtckklclehofddaaDoor.H

namespace Go.Proofs.YtckklclehofddaaDoor.H
open Go.Ax Go.Proofs.YtckklclehofddaaDoor
set_option maxRecDepth 1000000
theorem incR_len (x : Rec) (k : Nat) : (incR x k).val.length = x.val.length := by simp [incR]; omega
theorem incR_set (x : Rec) {k : Nat} (h : k < x.val.length) : (incR x (k + 1)).val = (incR x k).val.set k (IntKind.u8.wrap ((incR x k).val.getD k 0 + 1)) := by
  refine List.ext_getElem? fun q => ?_
  simp only [incR, List.getElem?_set, List.getElem?_append, List.length_map, List.length_take, List.length_append, List.length_drop, List.getElem?_map, List.getElem?_take, List.getElem?_drop, List.getD_eq_getElem?_getD]
  have hm : min k x.val.length = k := by omega
  have hm1 : min (k + 1) x.val.length = k + 1 := by omega
  rw [hm, hm1]
  by_cases h1 : q < k
  · have : q ≠ k := by omega
    have h2 : q < k + 1 := by omega
    simp [h1, h2, Ne.symm this]
  · by_cases h2 : q = k
    · subst h2
      have h3 : q < q + (x.val.length - q) := by omega
      simp [h, h3]
    · have h3 : ¬ q < k + 1 := by omega
      simp [h1, h3, Ne.symm h2]
      congr 1
      omega
theorem incF_at (f : Nat → Rec) (i k : Nat) : incF f i k i = incR (f i) k := if_pos rfl
theorem incF_ne (f : Nat → Rec) {i k p : Nat} (h : ¬ p = i) : incF f i k p = f p := if_neg h
structure SpOk (l : List Rec) : Prop where
  v : ∀ k, k < l.length → (l.getD k default).val.length ≤ 140737488355328
end Go.Proofs.YtckklclehofddaaDoor.H

namespace Go.Proofs.YtckklclehofddaaDoor.H
open Go.Ax Go.Proofs.YtckklclehofddaaDoor
set_option maxRecDepth 1000000
def kqM (r : Rng) (s : Ke) : List Blk := [.box 23 (encG r), towR s.out, rowU s.to]
def kqS (r : Rng) (s : Ke) (_ : Unit) : Exit × List AV × List Blk := (.exit 0, mkT 53 [(6, .own 1 5 0 s.out.length), (7, .own 2 1 0 s.to.length)], kqM r s)
noncomputable def kqH (r : Rng) (l : List Rec) (k : Nat) : HintsT Tryd.prog := withSh (hh _ noLp (cs1 20 9 3 (hasC r (l.getD k default).key) (cs1 20 10 4 (owwC (l.getD k default) (ke r (l.take k)).out.length) noCs)) noOp) noSh
def vcKqL (b : Bool) (r : Rng) (l : List Rec) (k : Nat) : Prop :=
  (decide ((↑k : Int) < (↑(List.length l) : Int)) = true → (true && decide ((↑k : Int) < (↑(List.length l) : Int))) = true ∧ (decide (List.length (ke r (List.take k l)).to = List.length (ke r (List.take k l)).to) && decide (List.length (ke r (List.take k l)).to + (1 : Nat) ≤ (9223372036854775807 : Nat)) && decide ((List.length (ke r (List.take k l)).to + (1 : Nat)) * (8 : Nat) ≤ (140737488355328 : Nat))) = true ∧ ((r.lo = r.lo ∧ r.hi = r.hi ∧ True) ∧ (List.getD l (Int.toNat (↑k : Int)) (@default Rec instInhabitedRec)).key = (List.getD l k (@default Rec instInhabitedRec)).key ∧ True) ∧ True ∧ (hasK r (List.getD l k (@default Rec instInhabitedRec)).key = true → (((List.getD l (Int.toNat (↑k : Int)) (@default Rec instInhabitedRec)).off = (List.getD l k (@default Rec instInhabitedRec)).off ∧ (List.getD l (Int.toNat (↑k : Int)) (@default Rec instInhabitedRec)).key = (List.getD l k (@default Rec instInhabitedRec)).key ∧ (true = true ∧ List.length (List.getD l (Int.toNat (↑k : Int)) (@default Rec instInhabitedRec)).val = List.length (List.getD l k (@default Rec instInhabitedRec)).val ∧ contLe (List.length (List.getD l (Int.toNat (↑k : Int)) (@default Rec instInhabitedRec)).val) (1 : Nat) (cellsOf' encB (List.getD l (Int.toNat (↑k : Int)) (@default Rec instInhabitedRec)).val) (cellsOf' encB (List.getD l k (@default Rec instInhabitedRec)).val)) ∧ (List.getD l (Int.toNat (↑k : Int)) (@default Rec instInhabitedRec)).prod = (List.getD l k (@default Rec instInhabitedRec)).prod ∧ (List.getD l (Int.toNat (↑k : Int)) (@default Rec instInhabitedRec)).seq = (List.getD l k (@default Rec instInhabitedRec)).seq ∧ True) ∧ (↑(List.length (ke r (List.take k l)).out) : Int) = (↑(List.length (ke r (List.take k l)).out) : Int) ∧ True) ∧ True ∧ List.length (List.getD l k (@default Rec instInhabitedRec)).val ≤ (140737488355328 : Nat) ∧ List.length (ke r (List.take k l)).out = List.length (ke r (List.take k l)).out ∧ List.length (ke r (List.take k l)).out + (1 : Nat) ≤ (9223372036854775807 : Nat) ∧ (List.length (ke r (List.take k l)).out + (1 : Nat)) * (64 : Nat) ≤ (140737488355328 : Nat) ∧ ∃ (j : Nat), List.length l - j < List.length l - k ∧ ((((0 : Nat) = (0 : Nat) ∧ (0 : Nat) = (0 : Nat)) ∧ ((0 : Nat) = (0 : Nat) ∧ List.length (ke r (List.take k l)).out + (1 : Nat) = List.length (ke r (List.take j l)).out) ∧ ((0 : Nat) = (0 : Nat) ∧ List.length (ke r (List.take k l)).to + (1 : Nat) = List.length (ke r (List.take j l)).to) ∧ (b = b ∧ List.length l = List.length l ∧ contLe (List.length l) (5 : Nat) (cellsOf' encR l) (cellsOf' encR l)) ∧ (↑(List.length l) : Int) = (↑(List.length l) : Int) ∧ IntKind.wrap IntKind.i64 ((↑k : Int) + (1 : Int)) = (↑j : Int) ∧ True) ∧ (((r.lo = r.lo ∧ r.hi = r.hi ∧ True) ∧ (List.length (ke r (List.take k l)).out + (1 : Nat) = List.length (ke r (List.take j l)).out ∧ (((true = true ∧ IntKind.wrap IntKind.u64 (↑(List.length (ke r (List.take k l)).out) : Int) = (List.getD (ke r (List.take j l)).out (List.length (ke r (List.take k l)).out) (@default Rec instInhabitedRec)).off) ∧ (true = true ∧ (List.getD l k (@default Rec instInhabitedRec)).key = (List.getD (ke r (List.take j l)).out (List.length (ke r (List.take k l)).out) (@default Rec instInhabitedRec)).key) ∧ (List.length (List.getD (ke r (List.take j l)).out (List.length (ke r (List.take k l)).out) (@default Rec instInhabitedRec)).val = List.length (List.getD l k (@default Rec instInhabitedRec)).val ∧ contLe (List.length (List.getD (ke r (List.take j l)).out (List.length (ke r (List.take k l)).out) (@default Rec instInhabitedRec)).val) (1 : Nat) (cellsOf' encB (List.getD l k (@default Rec instInhabitedRec)).val) (cellsOf' encB (List.getD (ke r (List.take j l)).out (List.length (ke r (List.take k l)).out) (@default Rec instInhabitedRec)).val)) ∧ (true = true ∧ (List.getD l k (@default Rec instInhabitedRec)).prod = (List.getD (ke r (List.take j l)).out (List.length (ke r (List.take k l)).out) (@default Rec instInhabitedRec)).prod) ∧ (true = true ∧ (List.getD l k (@default Rec instInhabitedRec)).seq = (List.getD (ke r (List.take j l)).out (List.length (ke r (List.take k l)).out) (@default Rec instInhabitedRec)).seq) ∧ True) ∧ True) ∧ ∀ (k_1 : Nat), k_1 < List.length (ke r (List.take k l)).out + (1 : Nat) → ¬k_1 = List.length (ke r (List.take k l)).out → (List.getD (ke r (List.take k l)).out k_1 (@default Rec instInhabitedRec)).off = (List.getD (ke r (List.take j l)).out k_1 (@default Rec instInhabitedRec)).off ∧ (List.getD (ke r (List.take k l)).out k_1 (@default Rec instInhabitedRec)).key = (List.getD (ke r (List.take j l)).out k_1 (@default Rec instInhabitedRec)).key ∧ (List.length (List.getD (ke r (List.take k l)).out k_1 (@default Rec instInhabitedRec)).val = List.length (List.getD (ke r (List.take j l)).out k_1 (@default Rec instInhabitedRec)).val ∧ contLe (List.length (List.getD (ke r (List.take k l)).out k_1 (@default Rec instInhabitedRec)).val) (1 : Nat) (cellsOf' encB (List.getD (ke r (List.take k l)).out k_1 (@default Rec instInhabitedRec)).val) (cellsOf' encB (List.getD (ke r (List.take j l)).out k_1 (@default Rec instInhabitedRec)).val)) ∧ (List.getD (ke r (List.take k l)).out k_1 (@default Rec instInhabitedRec)).prod = (List.getD (ke r (List.take j l)).out k_1 (@default Rec instInhabitedRec)).prod ∧ (List.getD (ke r (List.take k l)).out k_1 (@default Rec instInhabitedRec)).seq = (List.getD (ke r (List.take j l)).out k_1 (@default Rec instInhabitedRec)).seq ∧ True) ∧ (List.length (ke r (List.take k l)).to + (1 : Nat) = List.length (ke r (List.take j l)).to ∧ contLe (List.length (ke r (List.take k l)).to + (1 : Nat)) (1 : Nat) (appRow (List.length (ke r (List.take k l)).to) (cellsOf' encU (ke r (List.take k l)).to) fun (k_1 j : Nat) => Ax.get [AV.y (Value.int IntKind.u64 (IntKind.wrap IntKind.u64 (↑(List.length (ke r (List.take k l)).out) : Int)))] (k_1 * (1 : Nat) + j)) (cellsOf' encU (ke r (List.take j l)).to)) ∧ True) ∧ True) ∧ true = true) ∧ true = true ∧ () = ()) ∧ (hasK r (List.getD l k (@default Rec instInhabitedRec)).key = false → ∃ (j : Nat), List.length l - j < List.length l - k ∧ ((((0 : Nat) = (0 : Nat) ∧ (0 : Nat) = (0 : Nat)) ∧ ((0 : Nat) = (0 : Nat) ∧ List.length (ke r (List.take k l)).out = List.length (ke r (List.take j l)).out) ∧ ((0 : Nat) = (0 : Nat) ∧ List.length (ke r (List.take k l)).to + (1 : Nat) = List.length (ke r (List.take j l)).to) ∧ (b = b ∧ List.length l = List.length l ∧ contLe (List.length l) (5 : Nat) (cellsOf' encR l) (cellsOf' encR l)) ∧ (↑(List.length l) : Int) = (↑(List.length l) : Int) ∧ IntKind.wrap IntKind.i64 ((↑k : Int) + (1 : Int)) = (↑j : Int) ∧ True) ∧ ((r.lo = r.lo ∧ r.hi = r.hi ∧ True) ∧ (List.length (ke r (List.take k l)).out = List.length (ke r (List.take j l)).out ∧ ∀ (k_1 : Nat), k_1 < List.length (ke r (List.take k l)).out → (List.getD (ke r (List.take k l)).out k_1 (@default Rec instInhabitedRec)).off = (List.getD (ke r (List.take j l)).out k_1 (@default Rec instInhabitedRec)).off ∧ (List.getD (ke r (List.take k l)).out k_1 (@default Rec instInhabitedRec)).key = (List.getD (ke r (List.take j l)).out k_1 (@default Rec instInhabitedRec)).key ∧ (List.length (List.getD (ke r (List.take k l)).out k_1 (@default Rec instInhabitedRec)).val = List.length (List.getD (ke r (List.take j l)).out k_1 (@default Rec instInhabitedRec)).val ∧ contLe (List.length (List.getD (ke r (List.take k l)).out k_1 (@default Rec instInhabitedRec)).val) (1 : Nat) (cellsOf' encB (List.getD (ke r (List.take k l)).out k_1 (@default Rec instInhabitedRec)).val) (cellsOf' encB (List.getD (ke r (List.take j l)).out k_1 (@default Rec instInhabitedRec)).val)) ∧ (List.getD (ke r (List.take k l)).out k_1 (@default Rec instInhabitedRec)).prod = (List.getD (ke r (List.take j l)).out k_1 (@default Rec instInhabitedRec)).prod ∧ (List.getD (ke r (List.take k l)).out k_1 (@default Rec instInhabitedRec)).seq = (List.getD (ke r (List.take j l)).out k_1 (@default Rec instInhabitedRec)).seq ∧ True) ∧ (List.length (ke r (List.take k l)).to + (1 : Nat) = List.length (ke r (List.take j l)).to ∧ contLe (List.length (ke r (List.take k l)).to + (1 : Nat)) (1 : Nat) (appRow (List.length (ke r (List.take k l)).to) (cellsOf' encU (ke r (List.take k l)).to) fun (k_1 j : Nat) => Ax.get [AV.y (Value.int IntKind.u64 (IntKind.wrap IntKind.u64 (↑(List.length (ke r (List.take k l)).out) : Int)))] (k_1 * (1 : Nat) + j)) (cellsOf' encU (ke r (List.take j l)).to)) ∧ True) ∧ true = true) ∧ true = true ∧ () = ())) ∧ (decide ((↑k : Int) < (↑(List.length l) : Int)) = false → (((0 : Nat) = (0 : Nat) ∧ List.length (ke r (List.take k l)).out = List.length (ke r l).out) ∧ ((0 : Nat) = (0 : Nat) ∧ List.length (ke r (List.take k l)).to = List.length (ke r l).to) ∧ True) ∧ ((r.lo = r.lo ∧ r.hi = r.hi ∧ True) ∧ (List.length (ke r (List.take k l)).out = List.length (ke r l).out ∧ ∀ (k_1 : Nat), k_1 < List.length (ke r (List.take k l)).out → (List.getD (ke r (List.take k l)).out k_1 (@default Rec instInhabitedRec)).off = (List.getD (ke r l).out k_1 (@default Rec instInhabitedRec)).off ∧ (List.getD (ke r (List.take k l)).out k_1 (@default Rec instInhabitedRec)).key = (List.getD (ke r l).out k_1 (@default Rec instInhabitedRec)).key ∧ (List.length (List.getD (ke r (List.take k l)).out k_1 (@default Rec instInhabitedRec)).val = List.length (List.getD (ke r l).out k_1 (@default Rec instInhabitedRec)).val ∧ contLe (List.length (List.getD (ke r (List.take k l)).out k_1 (@default Rec instInhabitedRec)).val) (1 : Nat) (cellsOf' encB (List.getD (ke r (List.take k l)).out k_1 (@default Rec instInhabitedRec)).val) (cellsOf' encB (List.getD (ke r l).out k_1 (@default Rec instInhabitedRec)).val)) ∧ (List.getD (ke r (List.take k l)).out k_1 (@default Rec instInhabitedRec)).prod = (List.getD (ke r l).out k_1 (@default Rec instInhabitedRec)).prod ∧ (List.getD (ke r (List.take k l)).out k_1 (@default Rec instInhabitedRec)).seq = (List.getD (ke r l).out k_1 (@default Rec instInhabitedRec)).seq ∧ True) ∧ (List.length (ke r (List.take k l)).to = List.length (ke r l).to ∧ contLe (List.length (ke r (List.take k l)).to) (1 : Nat) (cellsOf' encU (ke r (List.take k l)).to) (cellsOf' encU (ke r l).to)) ∧ True) ∧ true = true)
theorem vcKqL_eq (b : Bool) (r : Rng) (l : List Rec) (k : Nat) : (loopVC Tryd.prog (kqH r l k) 20 6 (fun k => l.length - k) (fun k => kpT b l (ke r (l.take k)) k) (fun k => kqM r (ke r (l.take k))) jX (fun _ => .ret ()) (kqS r (ke r l)) k) = vcKqL b r l k := by kernel_rfl
def kqR (s : Ke) : T An := .ret (.tup [.own 0 5 0 s.out.length, .own 1 1 0 s.to.length], [towR s.out, rowU s.to], [])
noncomputable def kqFH (b : Bool) (r : Rng) (l : List Rec) : HintsT Tryd.prog := withSh (hh _ (lp1 20 6 (jobOf (fun k => kpT b l (ke r (l.take k)) k) (fun k => kqM r (ke r (l.take k))) jX (fun _ => .ret ()) (kqS r (ke r l)) 0) noLp) (cs1 20 1 1 (lgC b l) (cs1 20 1 5 (chkC r) noCs)) noOp) (sh1 20 3 0 (1000000 + 38) noSh)
def kqT (r : Rng) (l : List Rec) : T An := .ite (isLog l && chkK r == 0) (kqR (ke r l).end) (.ret (.tup [.s (.slice none 0 0), .s (.slice none 0 0)], [], []))
def vcKq (b : Bool) (r : Rng) (l : List Rec) : Prop :=
  ((b = b ∧ List.length l = List.length l ∧ contLe (List.length l) (5 : Nat) (cellsOf' encR l) (cellsOf' encR l)) ∧ True) ∧ True ∧ List.length l ≤ (9223372036854775806 : Nat) ∧ ((!isLog l) = true → ((isLog l && chkK r == (0 : Int)) = true → (False ∧ False ∧ True) ∧ False) ∧ ((isLog l && chkK r == (0 : Int)) = false → (True ∧ True ∧ True) ∧ True)) ∧ ((!isLog l) = false → ((r.lo = r.lo ∧ r.hi = r.hi ∧ True) ∧ True) ∧ True ∧ ((chkK r != (0 : Int)) = true → ((isLog l && chkK r == (0 : Int)) = true → (False ∧ False ∧ True) ∧ False) ∧ ((isLog l && chkK r == (0 : Int)) = false → (True ∧ True ∧ True) ∧ True)) ∧ ((chkK r != (0 : Int)) = false → (0 : Int) ≤ (0 : Int) ∧ (0 : Int) ≤ IntKind.wrap IntKind.i64 ((↑(List.length l) : Int) + (1 : Int)) ∧ (8 : Int) * IntKind.wrap IntKind.i64 ((↑(List.length l) : Int) + (1 : Int)) ≤ (281474976710656 : Int) ∧ IntKind.wrap IntKind.i64 ((↑(List.length l) : Int) + (1 : Int)) ≤ (9223372036854775807 : Int) ∧ ((((0 : Nat) = (0 : Nat) ∧ (0 : Nat) = (0 : Nat)) ∧ ((0 : Nat) = (0 : Nat) ∧ (0 : Nat) = (0 : Nat)) ∧ ((0 : Nat) = (0 : Nat) ∧ (0 : Nat) = (0 : Nat)) ∧ (b = b ∧ List.length l = List.length l ∧ contLe (List.length l) (5 : Nat) (cellsOf' encR l) (cellsOf' encR l)) ∧ (↑(List.length l) : Int) = (↑(List.length l) : Int) ∧ (0 : Int) = (0 : Int) ∧ True) ∧ ((r.lo = r.lo ∧ r.hi = r.hi ∧ True) ∧ ((0 : Nat) = (0 : Nat) ∧ ∀ (k : Nat), k < (0 : Nat) → False ∧ False ∧ False ∧ False ∧ False ∧ True) ∧ ((0 : Nat) = (0 : Nat) ∧ contLe (0 : Nat) (1 : Nat) (fun (x j : Nat) => Ax.get [AV.s (Value.int IntKind.u64 (0 : Int))] j) (cellsOf' encU [])) ∧ True) ∧ true = true) ∧ LoopOk Tryd.prog (20 : Nat) (6 : Nat) (loopAt Tryd.prog (20 : Nat) (6 : Nat)) { t := kpT b l (ke r (List.take (0 : Nat) l)) (0 : Nat), m := kqM r (ke r (List.take (0 : Nat) l)), mv := [] : St } (T.map (lout jX (kqS r (ke r l))) ((fun (x : Nat) => T.ret ()) (0 : Nat))) ∧ (decide (List.length (ke r l).to = List.length (ke r l).to) && decide (List.length (ke r l).to + (1 : Nat) ≤ (9223372036854775807 : Nat)) && decide ((List.length (ke r l).to + (1 : Nat)) * (8 : Nat) ≤ (140737488355328 : Nat))) = true ∧ ((isLog l && chkK r == (0 : Int)) = true → (((0 : Nat) = (0 : Nat) ∧ List.length (ke r l).out = List.length (ke r l).out) ∧ ((0 : Nat) = (0 : Nat) ∧ List.length (ke r l).to + (1 : Nat) = List.length ((ke r l).to ++ [IntKind.wrap IntKind.u64 (↑(List.length (ke r l).out) : Int)])) ∧ True) ∧ (List.length (ke r l).out = List.length (ke r l).out ∧ ∀ (k : Nat), k < List.length (ke r l).out → (List.getD (ke r l).out k (@default Rec instInhabitedRec)).off = (List.getD (ke r l).out k (@default Rec instInhabitedRec)).off ∧ (List.getD (ke r l).out k (@default Rec instInhabitedRec)).key = (List.getD (ke r l).out k (@default Rec instInhabitedRec)).key ∧ (List.length (List.getD (ke r l).out k (@default Rec instInhabitedRec)).val = List.length (List.getD (ke r l).out k (@default Rec instInhabitedRec)).val ∧ contLe (List.length (List.getD (ke r l).out k (@default Rec instInhabitedRec)).val) (1 : Nat) (cellsOf' encB (List.getD (ke r l).out k (@default Rec instInhabitedRec)).val) (cellsOf' encB (List.getD (ke r l).out k (@default Rec instInhabitedRec)).val)) ∧ (List.getD (ke r l).out k (@default Rec instInhabitedRec)).prod = (List.getD (ke r l).out k (@default Rec instInhabitedRec)).prod ∧ (List.getD (ke r l).out k (@default Rec instInhabitedRec)).seq = (List.getD (ke r l).out k (@default Rec instInhabitedRec)).seq ∧ True) ∧ (List.length (ke r l).to + (1 : Nat) = List.length ((ke r l).to ++ [IntKind.wrap IntKind.u64 (↑(List.length (ke r l).out) : Int)]) ∧ contLe (List.length (ke r l).to + (1 : Nat)) (1 : Nat) (appRow (List.length (ke r l).to) (cellsOf' encU (ke r l).to) fun (k j : Nat) => Ax.get [AV.y (Value.int IntKind.u64 (IntKind.wrap IntKind.u64 (↑(List.length (ke r l).out) : Int)))] (k * (1 : Nat) + j)) (cellsOf' encU ((ke r l).to ++ [IntKind.wrap IntKind.u64 (↑(List.length (ke r l).out) : Int)]))) ∧ True) ∧ ((isLog l && chkK r == (0 : Int)) = false → False)))
theorem vcKq_eq (b : Bool) (r : Rng) (l : List Rec) : (ctrVC Tryd.prog (kqFH b r l) 20 [encRs b l, .agg (encG r)] [] (kqT r l)) = vcKq b r l := by kernel_rfl
end Go.Proofs.YtckklclehofddaaDoor.H

namespace Go.Proofs.YtckklclehofddaaDoor.H
open Go.Ax Go.Proofs.YtckklclehofddaaDoor
set_option maxRecDepth 1000000
theorem ap_q {α : Type} (l : List α) (x : α) {k : Nat} (hk : k < l.length + 1) (hne : ¬ k = l.length) : (l ++ [x])[k]? = l[k]? := List.getElem?_append_left (by omega)
theorem kq_loop (b : Bool) (r : Rng) (l : List Rec) (hl : isLog l = true) (k : Nat) : LoopOk Tryd.prog 20 6 (loopAt Tryd.prog 20 6) ⟨kpT b l (ke r (l.take k)) k, kqM r (ke r (l.take k)), []⟩ (T.map (lout jX (kqS r (ke r l))) (.ret ())) := by
  refine loop_vcH (o := fun _ => .ret ()) (stT := fun k => kpT b l (ke r (l.take k)) k) (stM := fun k => kqM r (ke r (l.take k))) Tryd.mixed (fun _ => rfl) (fun k => (vcKqL_eq b r l k).mpr ?_) k
  unfold vcKqL
  have hn := log_len hl
  by_cases h : k < l.length
  · obtain ⟨h1, h2⟩ := ke_len r l k (by omega)
    have hz : decide ((k : Int) < l.length) = true := by simp; omega
    have hv := log_val hl h
    have hs := ke_step (r := r) h
    have hw : IntKind.i64.wrap ((k : Int) + 1) = ((k + 1 : Nat) : Int) := by rw [wrap_i64 (by omega) (by omega)]; omega
    simp only [hz, Int.toNat_natCast]
    generalize l.getD k default = x at *
    generalize ke r (l.take k) = s at *
    have a1 : contLe (s.to.length + 1) 1 (appRow s.to.length (cellsOf' encU s.to) fun k j => Ax.get [AV.y (Value.int IntKind.u64 (IntKind.u64.wrap ↑s.out.length))] (k + j)) (cellsOf' encU (s.to ++ [IntKind.u64.wrap ↑s.out.length])) := app1_le1 (le0_refl _)
    cases hh : hasK r x.key
    · simp
      repeat' with_reducible apply And.intro
      all_goals first
        | omega
        | (refine Exists.intro (k + 1) ?_
           rw [hs]
           simp [Ke.step, hh]
           refine ⟨by omega, hw, a1⟩)
    · simp
      repeat' with_reducible apply And.intro
      all_goals first
        | omega
        | (refine Exists.intro (k + 1) ?_
           rw [hs]
           simp [Ke.step, hh, Rec.to]
           repeat' with_reducible apply And.intro
           all_goals first
             | omega
             | exact hw
             | exact a1
             | (intro p hp hne; rw [ap_q _ _ hp hne]; simp))
  · have hz : decide ((k : Int) < l.length) = false := by simp; omega
    rw [List.take_of_length_le (by omega)]
    simp [hz]
    exact fun e => absurd e h
theorem kq_c (b : Bool) (r : Rng) (l : List Rec) (h1 : l.length ≤ 4611686018427387903) : (kqT r l).Sat (ACall' Tryd.prog 20 [encRs b l, .agg (encG r)] []) := by
  refine ctr_vc (ht := kqFH b r l) Tryd.mixed rfl ?_
  rw [vcKq_eq b r l]
  unfold vcKq
  cases hl : isLog l
  · simp; omega
  · have hn := log_len hl
    have lp := kq_loop b r l hl 0
    rw [List.take_zero] at lp
    obtain ⟨q1, q2⟩ := ke_len' r l
    have hw : IntKind.i64.wrap ((l.length : Int) + 1) = (l.length : Int) + 1 := wrap_i64 (by omega) (by omega)
    have a1 : contLe ((ke r l).to.length + 1) 1 (appRow (ke r l).to.length (cellsOf' encU (ke r l).to) fun k j => Ax.get [AV.y (Value.int IntKind.u64 (IntKind.u64.wrap ↑(ke r l).out.length))] (k + j)) (cellsOf' encU ((ke r l).to ++ [IntKind.u64.wrap ↑(ke r l).out.length])) := app1_le1 (le0_refl _)
    simp only [hw]
    by_cases hc : chkK r = 0
    · simp [hc, lp, Ke.end, a1]
      omega
    · simp [hc]; omega
end Go.Proofs.YtckklclehofddaaDoor.H
