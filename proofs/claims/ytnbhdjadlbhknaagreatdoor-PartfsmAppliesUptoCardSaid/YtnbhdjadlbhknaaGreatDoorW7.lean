import Derived.Test.YtnbhdjadlbhknaaGreatDoorW3
import Derived.Test.YtnbhdjadlbhknaaGreatDoorW6
set_option linter.unusedVariables false
set_option linter.unusedSimpArgs false
set_option linter.unusedSectionVars false
namespace Go.Proofs.YtnbhdjadlbhknaaGreatDoor.R
open Go.Ax
set_option maxRecDepth 1000000
noncomputable def accN (b : Bool) (l : List P.Producer) (id seq o : Int) : Ctr Tryz.prog := ⟨135, [P.encPs b l, .y (.int .u64 id), .y (.int .u64 seq), .y (.int .u64 o)], [], .need (l.length ≤ 9223372036854775806) (P.takeR l (P.mkP id seq true o)), T.Sat.need fun h => P.acc_c b l id seq o h⟩
noncomputable def passN (b : Bool) (l : List P.Producer) (id seq : Int) : Ctr Tryz.prog := ⟨139, [P.encPs b l, .y (.int .u64 id), .y (.int .u64 seq)], [], .need (l.length ≤ 9223372036854775806) (P.takeR l (P.mkP id seq false 0)), T.Sat.need fun h => P.pass_c b l id seq h⟩
def newR (c : Cmd) : Rec := ⟨0, c.key, c.val, c.prod, c.seq⟩
def accP (p : Part) (c : Cmd) : P.Producer := P.mkP c.prod c.seq true p.recs.length
def pasP (c : Cmd) : P.Producer := P.mkP c.prod c.seq false 0
def comE' (p : Part) (c : Cmd) : Int := comE p.cons ⟨c.name, c.off⟩ (IntKind.u64.wrap (p.recs.length : Nat))
def refV : AV := .ifc 184 (.ptr 0 0 0 0)
def refM (c : Cmd) (e : Int) : List Blk := [.box 186 [.y (.int .i64 c.kind), .ifc 31 (.y (.int .i64 e))]]
def agM (c : Cmd) : List Blk := [.box 186 [.y (.int .i64 c.kind), .ifc 141 (.agg [])]]
def prE (p : Part) (c : Cmd) : Int := if hasK p.rng c.key = false then 163 else if P.judgeV p.prods c.prod c.seq = 2 then 999 else if P.judgeV p.prods c.prod c.seq = 3 then 152 else if p.frozen ≠ 0 then 164 else if appE p.recs (newR c) ≠ 0 then appE p.recs (newR c) else P.takeE p.prods (accP p c)
def prQ (p : Part) (c : Cmd) : Part := ⟨p.rng, p.epoch, p.frozen, appL p.recs (newR c), P.putL p.prods (accP p c), p.cons⟩
def prT (p : Part) (c : Cmd) : T An := .ite (prE p c == 0) (.ret (.tup [.agg (encPt true (prQ p c)), .y (.int .u64 p.recs.length), .s .nilIface], [], []))
  (.ite (prE p c == 999) (.ret (.tup [.agg (encPt true p), .y (.int .u64 (P.judgeO p.prods c.prod c.seq)), refV], agM c, []))
    (.ret (.tup [.agg (encPt true p), .y (.int .u64 0), refV], refM c (prE p c), [])))
noncomputable def prH (p : Part) (c : Cmd) : HintsT Tryz.prog := withSh (hh _ noLp (cs1 103 1 4 (hasC p.rng c.key) (cs1 103 3 6 (juC true p.prods c.prod c.seq) (cs1 103 10 11 (apC p.recs (newR c) true) (cs1 103 13 7 (accN true p.prods c.prod c.seq p.recs.length) noCs)))) noOp) (sh1 103 17 0 779 noSh)
def vcPr_q2 (p : Part) : Prop := (true = true ∧ List.length p.cons = List.length p.cons ∧ contLe (List.length p.cons) (2 : Nat) (cellsOf' encC p.cons) (cellsOf' encC p.cons))
def vcPr_q6 (p : Part) (c : Cmd) : Prop := ((prE p c == (0 : Int)) = true → ((p.rng.lo = p.rng.lo ∧ p.rng.hi = p.rng.hi ∧ p.epoch = p.epoch ∧ p.frozen = p.frozen ∧ (true = true ∧ List.length p.recs = List.length (appL p.recs (newR c)) ∧ contLe (List.length p.recs) (5 : Nat) (cellsOf' encR p.recs) (cellsOf' encR (appL p.recs (newR c)))) ∧ (true = true ∧ List.length p.prods = List.length (P.putL p.prods (accP p c)) ∧ contLe (List.length p.prods) (4 : Nat) (cellsOf' P.encP p.prods) (cellsOf' P.encP (P.putL p.prods (accP p c)))) ∧ (vcPr_q2 p) ∧ True) ∧ (0 : Int) = (↑(List.length p.recs) : Int) ∧ True ∧ True) ∧ True)
def vcPr_q4 (p : Part) (c : Cmd) : Prop := ((prE p c == (999 : Int)) = true → ((ptLe true true p p) ∧ (0 : Int) = P.judgeO p.prods c.prod c.seq ∧ ((0 : Nat) = (0 : Nat) ∧ (0 : Nat) = (0 : Nat)) ∧ True) ∧ (c.kind = c.kind ∧ False ∧ True) ∧ True)
def vcPr_q8 (p : Part) : Prop := ((ptLe true true p p) ∧ (0 : Int) = (0 : Int) ∧ ((0 : Nat) = (0 : Nat) ∧ (0 : Nat) = (0 : Nat)) ∧ True)
def vcPr_q1 (p : Part) (c : Cmd) : Prop := ((P.takeE p.prods (P.mkP c.prod c.seq true (↑(List.length p.recs) : Int)) != (0 : Int)) = true → ((P.takeE p.prods (P.mkP c.prod c.seq true (↑(List.length p.recs) : Int)) == (0 : Int)) = true → (vcPr_q6 p c) ∧ ((prE p c == (0 : Int)) = false → ((prE p c == (999 : Int)) = true → ((ptLe true true p p) ∧ (0 : Int) = P.judgeO p.prods c.prod c.seq ∧ False ∧ True) ∧ False) ∧ ((prE p c == (999 : Int)) = false → ((ptLe true true p p) ∧ (0 : Int) = (0 : Int) ∧ False ∧ True) ∧ False))) ∧ ((P.takeE p.prods (P.mkP c.prod c.seq true (↑(List.length p.recs) : Int)) == (0 : Int)) = false → ((prE p c == (0 : Int)) = true → False) ∧ ((prE p c == (0 : Int)) = false → (vcPr_q4 p c) ∧ ((prE p c == (999 : Int)) = false → (vcPr_q8 p) ∧ (c.kind = c.kind ∧ P.takeE p.prods (P.mkP c.prod c.seq true (↑(List.length p.recs) : Int)) = prE p c ∧ True) ∧ True))))
def vcPr_q3 (p : Part) (c : Cmd) : Prop := (true = true ∧ List.length (P.putL p.prods (P.mkP c.prod c.seq true (↑(List.length p.recs) : Int))) = List.length p.prods ∧ contLe (List.length (P.putL p.prods (P.mkP c.prod c.seq true (↑(List.length p.recs) : Int)))) (4 : Nat) (Ax.rowAt (0 : Nat) (cellsOf' P.encP (P.putL p.prods (P.mkP c.prod c.seq true (↑(List.length p.recs) : Int))))) (cellsOf' P.encP p.prods))
def vcPr_q5 (p : Part) (c : Cmd) : Prop := (true = true ∧ List.length (appL p.recs (newR c)) = List.length p.recs ∧ contLe (List.length (appL p.recs (newR c))) (5 : Nat) (Ax.rowAt (0 : Nat) (cellsOf' encR (appL p.recs (newR c)))) (cellsOf' encR p.recs))
def vcPr_q7 (p : Part) (c : Cmd) : Prop := (true = true ∧ List.length (P.putL p.prods (P.mkP c.prod c.seq true (↑(List.length p.recs) : Int))) = List.length (P.putL p.prods (accP p c)) ∧ contLe (List.length (P.putL p.prods (P.mkP c.prod c.seq true (↑(List.length p.recs) : Int)))) (4 : Nat) (Ax.rowAt (0 : Nat) (cellsOf' P.encP (P.putL p.prods (P.mkP c.prod c.seq true (↑(List.length p.recs) : Int))))) (cellsOf' P.encP (P.putL p.prods (accP p c))))
def vcPr (p : Part) (c : Cmd) : Prop :=
  ((p.rng.lo = p.rng.lo ∧ p.rng.hi = p.rng.hi ∧ True) ∧ c.key = c.key ∧ True) ∧ True ∧ ((!hasK p.rng c.key) = true → ((prE p c == (0 : Int)) = true → False) ∧ ((prE p c == (0 : Int)) = false → (vcPr_q4 p c) ∧ ((prE p c == (999 : Int)) = false → (vcPr_q8 p) ∧ (c.kind = c.kind ∧ (163 : Int) = prE p c ∧ True) ∧ True))) ∧ ((!hasK p.rng c.key) = false → ((true = true ∧ List.length p.prods = List.length p.prods ∧ contLe (List.length p.prods) (4 : Nat) (cellsOf' P.encP p.prods) (cellsOf' P.encP p.prods)) ∧ c.prod = c.prod ∧ c.seq = c.seq ∧ True) ∧ True ∧ List.length p.prods ≤ (9223372036854775806 : Nat) ∧ ((P.judgeV p.prods c.prod c.seq == (2 : Int)) = true → ((prE p c == (0 : Int)) = true → False) ∧ ((prE p c == (0 : Int)) = false → ((prE p c == (999 : Int)) = true → ((ptLe true true p p) ∧ P.judgeO p.prods c.prod c.seq = P.judgeO p.prods c.prod c.seq ∧ ((0 : Nat) = (0 : Nat) ∧ (0 : Nat) = (0 : Nat)) ∧ True) ∧ (c.kind = c.kind ∧ True ∧ True) ∧ True) ∧ ((prE p c == (999 : Int)) = false → ((ptLe true true p p) ∧ P.judgeO p.prods c.prod c.seq = (0 : Int) ∧ ((0 : Nat) = (0 : Nat) ∧ (0 : Nat) = (0 : Nat)) ∧ True) ∧ (c.kind = c.kind ∧ False ∧ True) ∧ True))) ∧ ((P.judgeV p.prods c.prod c.seq == (2 : Int)) = false → ((P.judgeV p.prods c.prod c.seq == (3 : Int)) = true → ((prE p c == (0 : Int)) = true → False) ∧ ((prE p c == (0 : Int)) = false → (vcPr_q4 p c) ∧ ((prE p c == (999 : Int)) = false → (vcPr_q8 p) ∧ (c.kind = c.kind ∧ (152 : Int) = prE p c ∧ True) ∧ True))) ∧ ((P.judgeV p.prods c.prod c.seq == (3 : Int)) = false → ((p.frozen != (0 : Int)) = true → ((prE p c == (0 : Int)) = true → False) ∧ ((prE p c == (0 : Int)) = false → (vcPr_q4 p c) ∧ ((prE p c == (999 : Int)) = false → (vcPr_q8 p) ∧ (c.kind = c.kind ∧ (164 : Int) = prE p c ∧ True) ∧ True))) ∧ ((p.frozen != (0 : Int)) = false → ((true = true ∧ List.length p.recs = List.length p.recs ∧ contLe (List.length p.recs) (5 : Nat) (cellsOf' encR p.recs) (cellsOf' encR p.recs)) ∧ ((0 : Int) = (0 : Int) ∧ c.key = c.key ∧ (bsLe c.val c.val) ∧ c.prod = c.prod ∧ c.seq = c.seq ∧ True) ∧ True) ∧ True ∧ List.length p.recs ≤ (9223372036854775806 : Nat) ∧ ((appE p.recs (newR c) == (0 : Int)) = true → ((true = true ∧ List.length p.prods = List.length p.prods ∧ contLe (List.length p.prods) (4 : Nat) (cellsOf' P.encP p.prods) (cellsOf' P.encP p.prods)) ∧ c.prod = c.prod ∧ c.seq = c.seq ∧ (↑(List.length p.recs) : Int) = (↑(List.length p.recs) : Int) ∧ True) ∧ True ∧ List.length p.prods ≤ (9223372036854775806 : Nat) ∧ ((P.takeE p.prods (P.mkP c.prod c.seq true (↑(List.length p.recs) : Int)) == (0 : Int)) = true → (∀ (k : Nat), k < List.length (appL p.recs (newR c)) → ∀ (j : Nat), j < (5 : Nat) → tagT (cellsOf' encR (appL p.recs (newR c)) k j) = true) ∧ (∀ (k : Nat), k < List.length (P.putL p.prods (P.mkP c.prod c.seq true (↑(List.length p.recs) : Int))) → ∀ (j : Nat), j < (4 : Nat) → tagT (cellsOf' P.encP (P.putL p.prods (P.mkP c.prod c.seq true (↑(List.length p.recs) : Int))) k j) = true) ∧ ((prE p c == (0 : Int)) = true → ((p.rng.lo = p.rng.lo ∧ p.rng.hi = p.rng.hi ∧ p.epoch = p.epoch ∧ p.frozen = p.frozen ∧ (true = true ∧ List.length (appL p.recs (newR c)) = List.length (appL p.recs (newR c)) ∧ contLe (List.length (appL p.recs (newR c))) (5 : Nat) (Ax.rowAt (0 : Nat) (cellsOf' encR (appL p.recs (newR c)))) (cellsOf' encR (appL p.recs (newR c)))) ∧ (vcPr_q7 p c) ∧ (vcPr_q2 p) ∧ True) ∧ (↑(List.length p.recs) : Int) = (↑(List.length p.recs) : Int) ∧ True ∧ True) ∧ True) ∧ ((prE p c == (0 : Int)) = false → ((prE p c == (999 : Int)) = true → ((p.rng.lo = p.rng.lo ∧ p.rng.hi = p.rng.hi ∧ p.epoch = p.epoch ∧ p.frozen = p.frozen ∧ (vcPr_q5 p c) ∧ (vcPr_q3 p c) ∧ (vcPr_q2 p) ∧ True) ∧ (↑(List.length p.recs) : Int) = P.judgeO p.prods c.prod c.seq ∧ False ∧ True) ∧ False) ∧ ((prE p c == (999 : Int)) = false → ((p.rng.lo = p.rng.lo ∧ p.rng.hi = p.rng.hi ∧ p.epoch = p.epoch ∧ p.frozen = p.frozen ∧ (vcPr_q5 p c) ∧ (vcPr_q3 p c) ∧ (vcPr_q2 p) ∧ True) ∧ (↑(List.length p.recs) : Int) = (0 : Int) ∧ False ∧ True) ∧ False))) ∧ ((P.takeE p.prods (P.mkP c.prod c.seq true (↑(List.length p.recs) : Int)) == (0 : Int)) = false → (vcPr_q1 p c) ∧ ((P.takeE p.prods (P.mkP c.prod c.seq true (↑(List.length p.recs) : Int)) != (0 : Int)) = false → (∀ (k : Nat), k < List.length (appL p.recs (newR c)) → ∀ (j : Nat), j < (5 : Nat) → tagT (cellsOf' encR (appL p.recs (newR c)) k j) = true) ∧ ((prE p c == (0 : Int)) = true → ((p.rng.lo = p.rng.lo ∧ p.rng.hi = p.rng.hi ∧ p.epoch = p.epoch ∧ p.frozen = p.frozen ∧ (true = true ∧ List.length (appL p.recs (newR c)) = List.length (appL p.recs (newR c)) ∧ contLe (List.length (appL p.recs (newR c))) (5 : Nat) (Ax.rowAt (0 : Nat) (cellsOf' encR (appL p.recs (newR c)))) (cellsOf' encR (appL p.recs (newR c)))) ∧ List.length (P.putL p.prods (accP p c)) = (0 : Nat) ∧ (vcPr_q2 p) ∧ True) ∧ (↑(List.length p.recs) : Int) = (↑(List.length p.recs) : Int) ∧ True ∧ True) ∧ True) ∧ ((prE p c == (0 : Int)) = false → ((prE p c == (999 : Int)) = true → ((p.rng.lo = p.rng.lo ∧ p.rng.hi = p.rng.hi ∧ p.epoch = p.epoch ∧ p.frozen = p.frozen ∧ (vcPr_q5 p c) ∧ List.length p.prods = (0 : Nat) ∧ (vcPr_q2 p) ∧ True) ∧ (↑(List.length p.recs) : Int) = P.judgeO p.prods c.prod c.seq ∧ False ∧ True) ∧ False) ∧ ((prE p c == (999 : Int)) = false → ((p.rng.lo = p.rng.lo ∧ p.rng.hi = p.rng.hi ∧ p.epoch = p.epoch ∧ p.frozen = p.frozen ∧ (vcPr_q5 p c) ∧ List.length p.prods = (0 : Nat) ∧ (vcPr_q2 p) ∧ True) ∧ (↑(List.length p.recs) : Int) = (0 : Int) ∧ False ∧ True) ∧ False))))) ∧ ((appE p.recs (newR c) == (0 : Int)) = false → ((appE p.recs (newR c) != (0 : Int)) = true → ((appE p.recs (newR c) == (0 : Int)) = true → (vcPr_q6 p c) ∧ ((prE p c == (0 : Int)) = false → ((prE p c == (999 : Int)) = true → ((ptLe true true p p) ∧ (0 : Int) = P.judgeO p.prods c.prod c.seq ∧ False ∧ True) ∧ False) ∧ ((prE p c == (999 : Int)) = false → ((ptLe true true p p) ∧ (0 : Int) = (0 : Int) ∧ False ∧ True) ∧ False))) ∧ ((appE p.recs (newR c) == (0 : Int)) = false → ((prE p c == (0 : Int)) = true → False) ∧ ((prE p c == (0 : Int)) = false → (vcPr_q4 p c) ∧ ((prE p c == (999 : Int)) = false → (vcPr_q8 p) ∧ (c.kind = c.kind ∧ appE p.recs (newR c) = prE p c ∧ True) ∧ True)))) ∧ ((appE p.recs (newR c) != (0 : Int)) = false → ((true = true ∧ List.length p.prods = List.length p.prods ∧ contLe (List.length p.prods) (4 : Nat) (cellsOf' P.encP p.prods) (cellsOf' P.encP p.prods)) ∧ c.prod = c.prod ∧ c.seq = c.seq ∧ (0 : Int) = (↑(List.length p.recs) : Int) ∧ True) ∧ True ∧ List.length p.prods ≤ (9223372036854775806 : Nat) ∧ ((P.takeE p.prods (P.mkP c.prod c.seq true (↑(List.length p.recs) : Int)) == (0 : Int)) = true → (∀ (k : Nat), k < List.length (P.putL p.prods (P.mkP c.prod c.seq true (↑(List.length p.recs) : Int))) → ∀ (j : Nat), j < (4 : Nat) → tagT (cellsOf' P.encP (P.putL p.prods (P.mkP c.prod c.seq true (↑(List.length p.recs) : Int))) k j) = true) ∧ ((prE p c == (0 : Int)) = true → ((p.rng.lo = p.rng.lo ∧ p.rng.hi = p.rng.hi ∧ p.epoch = p.epoch ∧ p.frozen = p.frozen ∧ List.length (appL p.recs (newR c)) = (0 : Nat) ∧ (vcPr_q7 p c) ∧ (vcPr_q2 p) ∧ True) ∧ (0 : Int) = (↑(List.length p.recs) : Int) ∧ True ∧ True) ∧ True) ∧ ((prE p c == (0 : Int)) = false → ((prE p c == (999 : Int)) = true → ((p.rng.lo = p.rng.lo ∧ p.rng.hi = p.rng.hi ∧ p.epoch = p.epoch ∧ p.frozen = p.frozen ∧ List.length p.recs = (0 : Nat) ∧ (vcPr_q3 p c) ∧ (vcPr_q2 p) ∧ True) ∧ (0 : Int) = P.judgeO p.prods c.prod c.seq ∧ False ∧ True) ∧ False) ∧ ((prE p c == (999 : Int)) = false → ((p.rng.lo = p.rng.lo ∧ p.rng.hi = p.rng.hi ∧ p.epoch = p.epoch ∧ p.frozen = p.frozen ∧ List.length p.recs = (0 : Nat) ∧ (vcPr_q3 p c) ∧ (vcPr_q2 p) ∧ True) ∧ (0 : Int) = (0 : Int) ∧ False ∧ True) ∧ False))) ∧ ((P.takeE p.prods (P.mkP c.prod c.seq true (↑(List.length p.recs) : Int)) == (0 : Int)) = false → (vcPr_q1 p c) ∧ ((P.takeE p.prods (P.mkP c.prod c.seq true (↑(List.length p.recs) : Int)) != (0 : Int)) = false → ((prE p c == (0 : Int)) = true → ((p.rng.lo = p.rng.lo ∧ p.rng.hi = p.rng.hi ∧ p.epoch = p.epoch ∧ p.frozen = p.frozen ∧ List.length (appL p.recs (newR c)) = (0 : Nat) ∧ List.length (P.putL p.prods (accP p c)) = (0 : Nat) ∧ (vcPr_q2 p) ∧ True) ∧ (0 : Int) = (↑(List.length p.recs) : Int) ∧ True ∧ True) ∧ True) ∧ ((prE p c == (0 : Int)) = false → ((prE p c == (999 : Int)) = true → ((p.rng.lo = p.rng.lo ∧ p.rng.hi = p.rng.hi ∧ p.epoch = p.epoch ∧ p.frozen = p.frozen ∧ List.length p.recs = (0 : Nat) ∧ List.length p.prods = (0 : Nat) ∧ (vcPr_q2 p) ∧ True) ∧ (0 : Int) = P.judgeO p.prods c.prod c.seq ∧ False ∧ True) ∧ False) ∧ ((prE p c == (999 : Int)) = false → ((p.rng.lo = p.rng.lo ∧ p.rng.hi = p.rng.hi ∧ p.epoch = p.epoch ∧ p.frozen = p.frozen ∧ List.length p.recs = (0 : Nat) ∧ List.length p.prods = (0 : Nat) ∧ (vcPr_q2 p) ∧ True) ∧ (0 : Int) = (0 : Int) ∧ False ∧ True) ∧ False))))))))))
theorem vcPr_eq (p : Part) (c : Cmd) : (ctrVC Tryz.prog (prH p c) 103 [.agg (encPt true p), .agg (encCm c)] [] (prT p c)) = vcPr p c := by kernel_rfl
def cmE (p : Part) (c : Cmd) : Int := if P.judgeV p.prods c.prod c.seq ≠ 1 then 999 else if p.frozen ≠ 0 then 164 else if comE' p c ≠ 0 then comE' p c else P.takeE p.prods (pasP c)
def cmQ (p : Part) (c : Cmd) : Part := ⟨p.rng, p.epoch, p.frozen, p.recs, P.putL p.prods (pasP c), putL p.cons ⟨c.name, c.off⟩⟩
def cmT (p : Part) (c : Cmd) : T An := .ite (cmE p c == 0) (.ret (.tup [.agg (encPt true (cmQ p c)), .s .nilIface], [], []))
  (.ite (cmE p c == 999) (.ret (.tup [.agg (encPt true p), refV], agM c, []))
    (.ret (.tup [.agg (encPt true p), refV], refM c (cmE p c), [])))
noncomputable def cmH (p : Part) (c : Cmd) : HintsT Tryz.prog := withSh (hh _ noLp (cs1 105 1 6 (juC true p.prods c.prod c.seq) (cs1 105 6 11 (cmC true p.cons ⟨c.name, c.off⟩ (IntKind.u64.wrap (p.recs.length : Nat))) (cs1 105 9 6 (passN true p.prods c.prod c.seq) noCs))) noOp) (sh1 105 13 0 779 noSh)
def vcCo_q1 (p : Part) : Prop := (true = true ∧ List.length p.recs = List.length p.recs ∧ contLe (List.length p.recs) (5 : Nat) (cellsOf' encR p.recs) (cellsOf' encR p.recs))
def vcCo_q5 (p : Part) (c : Cmd) : Prop := ((cmE p c == (0 : Int)) = true → ((p.rng.lo = p.rng.lo ∧ p.rng.hi = p.rng.hi ∧ p.epoch = p.epoch ∧ p.frozen = p.frozen ∧ (vcCo_q1 p) ∧ (true = true ∧ List.length p.prods = List.length (P.putL p.prods (pasP c)) ∧ contLe (List.length p.prods) (4 : Nat) (cellsOf' P.encP p.prods) (cellsOf' P.encP (P.putL p.prods (pasP c)))) ∧ (true = true ∧ List.length p.cons = List.length (putL p.cons { name := c.name, off := c.off : Con }) ∧ contLe (List.length p.cons) (2 : Nat) (cellsOf' encC p.cons) (cellsOf' encC (putL p.cons { name := c.name, off := c.off : Con }))) ∧ True) ∧ True ∧ True) ∧ True)
def vcCo_q6 (p : Part) : Prop := ((ptLe true true p p) ∧ ((0 : Nat) = (0 : Nat) ∧ (0 : Nat) = (0 : Nat)) ∧ True)
def vcCo_q2 (p : Part) (c : Cmd) : Prop := ((P.takeE p.prods (P.mkP c.prod c.seq false (0 : Int)) != (0 : Int)) = true → ((P.takeE p.prods (P.mkP c.prod c.seq false (0 : Int)) == (0 : Int)) = true → (vcCo_q5 p c) ∧ ((cmE p c == (0 : Int)) = false → ((cmE p c == (999 : Int)) = true → ((ptLe true true p p) ∧ False ∧ True) ∧ False) ∧ ((cmE p c == (999 : Int)) = false → ((ptLe true true p p) ∧ False ∧ True) ∧ False))) ∧ ((P.takeE p.prods (P.mkP c.prod c.seq false (0 : Int)) == (0 : Int)) = false → ((cmE p c == (0 : Int)) = true → False) ∧ ((cmE p c == (0 : Int)) = false → ((cmE p c == (999 : Int)) = true → (vcCo_q6 p) ∧ (c.kind = c.kind ∧ False ∧ True) ∧ True) ∧ ((cmE p c == (999 : Int)) = false → (vcCo_q6 p) ∧ (c.kind = c.kind ∧ P.takeE p.prods (P.mkP c.prod c.seq false (0 : Int)) = cmE p c ∧ True) ∧ True))))
def vcCo_q3 (p : Part) (c : Cmd) : Prop := (true = true ∧ List.length (P.putL p.prods (P.mkP c.prod c.seq false (0 : Int))) = List.length p.prods ∧ contLe (List.length (P.putL p.prods (P.mkP c.prod c.seq false (0 : Int)))) (4 : Nat) (Ax.rowAt (0 : Nat) (cellsOf' P.encP (P.putL p.prods (P.mkP c.prod c.seq false (0 : Int))))) (cellsOf' P.encP p.prods))
def vcCo_q4 (p : Part) (c : Cmd) : Prop := (true = true ∧ List.length (putL p.cons { name := c.name, off := c.off : Con }) = List.length p.cons ∧ contLe (List.length (putL p.cons { name := c.name, off := c.off : Con })) (2 : Nat) (Ax.rowAt (0 : Nat) (cellsOf' encC (putL p.cons { name := c.name, off := c.off : Con }))) (cellsOf' encC p.cons))
def vcCo_q7 (p : Part) (c : Cmd) : Prop := (true = true ∧ List.length (putL p.cons { name := c.name, off := c.off : Con }) = List.length (putL p.cons { name := c.name, off := c.off : Con }) ∧ contLe (List.length (putL p.cons { name := c.name, off := c.off : Con })) (2 : Nat) (Ax.rowAt (0 : Nat) (cellsOf' encC (putL p.cons { name := c.name, off := c.off : Con }))) (cellsOf' encC (putL p.cons { name := c.name, off := c.off : Con })))
def vcCo_q8 (p : Part) (c : Cmd) : Prop := ((true = true ∧ List.length p.prods = List.length p.prods ∧ contLe (List.length p.prods) (4 : Nat) (cellsOf' P.encP p.prods) (cellsOf' P.encP p.prods)) ∧ c.prod = c.prod ∧ c.seq = c.seq ∧ True)
def vcCo_q9 (p : Part) (c : Cmd) : Prop := (true = true ∧ List.length (P.putL p.prods (P.mkP c.prod c.seq false (0 : Int))) = List.length (P.putL p.prods (pasP c)) ∧ contLe (List.length (P.putL p.prods (P.mkP c.prod c.seq false (0 : Int)))) (4 : Nat) (Ax.rowAt (0 : Nat) (cellsOf' P.encP (P.putL p.prods (P.mkP c.prod c.seq false (0 : Int))))) (cellsOf' P.encP (P.putL p.prods (pasP c))))
def vcCo (p : Part) (c : Cmd) : Prop :=
  (vcCo_q8 p c) ∧ True ∧ List.length p.prods ≤ (9223372036854775806 : Nat) ∧ ((P.judgeV p.prods c.prod c.seq != (1 : Int)) = true → ((cmE p c == (0 : Int)) = true → False) ∧ ((cmE p c == (0 : Int)) = false → ((cmE p c == (999 : Int)) = true → (vcCo_q6 p) ∧ (c.kind = c.kind ∧ True ∧ True) ∧ True) ∧ ((cmE p c == (999 : Int)) = false → (vcCo_q6 p) ∧ (c.kind = c.kind ∧ False ∧ True) ∧ True))) ∧ ((P.judgeV p.prods c.prod c.seq != (1 : Int)) = false → ((p.frozen != (0 : Int)) = true → ((cmE p c == (0 : Int)) = true → False) ∧ ((cmE p c == (0 : Int)) = false → ((cmE p c == (999 : Int)) = true → (vcCo_q6 p) ∧ (c.kind = c.kind ∧ False ∧ True) ∧ True) ∧ ((cmE p c == (999 : Int)) = false → (vcCo_q6 p) ∧ (c.kind = c.kind ∧ (164 : Int) = cmE p c ∧ True) ∧ True))) ∧ ((p.frozen != (0 : Int)) = false → ((true = true ∧ List.length p.cons = List.length p.cons ∧ contLe (List.length p.cons) (2 : Nat) (cellsOf' encC p.cons) (cellsOf' encC p.cons)) ∧ (c.name = c.name ∧ c.off = c.off ∧ True) ∧ IntKind.wrap IntKind.u64 (↑(List.length p.recs) : Int) = IntKind.wrap IntKind.u64 (↑(List.length p.recs) : Int) ∧ True) ∧ True ∧ List.length p.cons ≤ (9223372036854775806 : Nat) ∧ ((comE p.cons { name := c.name, off := c.off : Con } (IntKind.wrap IntKind.u64 (↑(List.length p.recs) : Int)) == (0 : Int)) = true → (vcCo_q8 p c) ∧ True ∧ List.length p.prods ≤ (9223372036854775806 : Nat) ∧ ((P.takeE p.prods (P.mkP c.prod c.seq false (0 : Int)) == (0 : Int)) = true → (∀ (k : Nat), k < List.length (P.putL p.prods (P.mkP c.prod c.seq false (0 : Int))) → ∀ (j : Nat), j < (4 : Nat) → tagT (cellsOf' P.encP (P.putL p.prods (P.mkP c.prod c.seq false (0 : Int))) k j) = true) ∧ (∀ (k : Nat), k < List.length (putL p.cons { name := c.name, off := c.off : Con }) → ∀ (j : Nat), j < (2 : Nat) → tagT (cellsOf' encC (putL p.cons { name := c.name, off := c.off : Con }) k j) = true) ∧ ((cmE p c == (0 : Int)) = true → ((p.rng.lo = p.rng.lo ∧ p.rng.hi = p.rng.hi ∧ p.epoch = p.epoch ∧ p.frozen = p.frozen ∧ (vcCo_q1 p) ∧ (vcCo_q9 p c) ∧ (vcCo_q7 p c) ∧ True) ∧ True ∧ True) ∧ True) ∧ ((cmE p c == (0 : Int)) = false → ((cmE p c == (999 : Int)) = true → ((p.rng.lo = p.rng.lo ∧ p.rng.hi = p.rng.hi ∧ p.epoch = p.epoch ∧ p.frozen = p.frozen ∧ (vcCo_q1 p) ∧ (vcCo_q3 p c) ∧ (vcCo_q4 p c) ∧ True) ∧ False ∧ True) ∧ False) ∧ ((cmE p c == (999 : Int)) = false → ((p.rng.lo = p.rng.lo ∧ p.rng.hi = p.rng.hi ∧ p.epoch = p.epoch ∧ p.frozen = p.frozen ∧ (vcCo_q1 p) ∧ (vcCo_q3 p c) ∧ (vcCo_q4 p c) ∧ True) ∧ False ∧ True) ∧ False))) ∧ ((P.takeE p.prods (P.mkP c.prod c.seq false (0 : Int)) == (0 : Int)) = false → (vcCo_q2 p c) ∧ ((P.takeE p.prods (P.mkP c.prod c.seq false (0 : Int)) != (0 : Int)) = false → (∀ (k : Nat), k < List.length (putL p.cons { name := c.name, off := c.off : Con }) → ∀ (j : Nat), j < (2 : Nat) → tagT (cellsOf' encC (putL p.cons { name := c.name, off := c.off : Con }) k j) = true) ∧ ((cmE p c == (0 : Int)) = true → ((p.rng.lo = p.rng.lo ∧ p.rng.hi = p.rng.hi ∧ p.epoch = p.epoch ∧ p.frozen = p.frozen ∧ (vcCo_q1 p) ∧ List.length (P.putL p.prods (pasP c)) = (0 : Nat) ∧ (vcCo_q7 p c) ∧ True) ∧ True ∧ True) ∧ True) ∧ ((cmE p c == (0 : Int)) = false → ((cmE p c == (999 : Int)) = true → ((p.rng.lo = p.rng.lo ∧ p.rng.hi = p.rng.hi ∧ p.epoch = p.epoch ∧ p.frozen = p.frozen ∧ (vcCo_q1 p) ∧ List.length p.prods = (0 : Nat) ∧ (vcCo_q4 p c) ∧ True) ∧ False ∧ True) ∧ False) ∧ ((cmE p c == (999 : Int)) = false → ((p.rng.lo = p.rng.lo ∧ p.rng.hi = p.rng.hi ∧ p.epoch = p.epoch ∧ p.frozen = p.frozen ∧ (vcCo_q1 p) ∧ List.length p.prods = (0 : Nat) ∧ (vcCo_q4 p c) ∧ True) ∧ False ∧ True) ∧ False))))) ∧ ((comE p.cons { name := c.name, off := c.off : Con } (IntKind.wrap IntKind.u64 (↑(List.length p.recs) : Int)) == (0 : Int)) = false → ((comE p.cons { name := c.name, off := c.off : Con } (IntKind.wrap IntKind.u64 (↑(List.length p.recs) : Int)) != (0 : Int)) = true → ((comE p.cons { name := c.name, off := c.off : Con } (IntKind.wrap IntKind.u64 (↑(List.length p.recs) : Int)) == (0 : Int)) = true → (vcCo_q5 p c) ∧ ((cmE p c == (0 : Int)) = false → ((cmE p c == (999 : Int)) = true → ((ptLe true true p p) ∧ False ∧ True) ∧ False) ∧ ((cmE p c == (999 : Int)) = false → ((ptLe true true p p) ∧ False ∧ True) ∧ False))) ∧ ((comE p.cons { name := c.name, off := c.off : Con } (IntKind.wrap IntKind.u64 (↑(List.length p.recs) : Int)) == (0 : Int)) = false → ((cmE p c == (0 : Int)) = true → False) ∧ ((cmE p c == (0 : Int)) = false → ((cmE p c == (999 : Int)) = true → (vcCo_q6 p) ∧ (c.kind = c.kind ∧ False ∧ True) ∧ True) ∧ ((cmE p c == (999 : Int)) = false → (vcCo_q6 p) ∧ (c.kind = c.kind ∧ comE p.cons { name := c.name, off := c.off : Con } (IntKind.wrap IntKind.u64 (↑(List.length p.recs) : Int)) = cmE p c ∧ True) ∧ True)))) ∧ ((comE p.cons { name := c.name, off := c.off : Con } (IntKind.wrap IntKind.u64 (↑(List.length p.recs) : Int)) != (0 : Int)) = false → (vcCo_q8 p c) ∧ True ∧ List.length p.prods ≤ (9223372036854775806 : Nat) ∧ ((P.takeE p.prods (P.mkP c.prod c.seq false (0 : Int)) == (0 : Int)) = true → (∀ (k : Nat), k < List.length (P.putL p.prods (P.mkP c.prod c.seq false (0 : Int))) → ∀ (j : Nat), j < (4 : Nat) → tagT (cellsOf' P.encP (P.putL p.prods (P.mkP c.prod c.seq false (0 : Int))) k j) = true) ∧ ((cmE p c == (0 : Int)) = true → ((p.rng.lo = p.rng.lo ∧ p.rng.hi = p.rng.hi ∧ p.epoch = p.epoch ∧ p.frozen = p.frozen ∧ (vcCo_q1 p) ∧ (vcCo_q9 p c) ∧ List.length (putL p.cons { name := c.name, off := c.off : Con }) = (0 : Nat) ∧ True) ∧ True ∧ True) ∧ True) ∧ ((cmE p c == (0 : Int)) = false → ((cmE p c == (999 : Int)) = true → ((p.rng.lo = p.rng.lo ∧ p.rng.hi = p.rng.hi ∧ p.epoch = p.epoch ∧ p.frozen = p.frozen ∧ (vcCo_q1 p) ∧ (vcCo_q3 p c) ∧ List.length p.cons = (0 : Nat) ∧ True) ∧ False ∧ True) ∧ False) ∧ ((cmE p c == (999 : Int)) = false → ((p.rng.lo = p.rng.lo ∧ p.rng.hi = p.rng.hi ∧ p.epoch = p.epoch ∧ p.frozen = p.frozen ∧ (vcCo_q1 p) ∧ (vcCo_q3 p c) ∧ List.length p.cons = (0 : Nat) ∧ True) ∧ False ∧ True) ∧ False))) ∧ ((P.takeE p.prods (P.mkP c.prod c.seq false (0 : Int)) == (0 : Int)) = false → (vcCo_q2 p c) ∧ ((P.takeE p.prods (P.mkP c.prod c.seq false (0 : Int)) != (0 : Int)) = false → ((cmE p c == (0 : Int)) = true → ((p.rng.lo = p.rng.lo ∧ p.rng.hi = p.rng.hi ∧ p.epoch = p.epoch ∧ p.frozen = p.frozen ∧ (vcCo_q1 p) ∧ List.length (P.putL p.prods (pasP c)) = (0 : Nat) ∧ List.length (putL p.cons { name := c.name, off := c.off : Con }) = (0 : Nat) ∧ True) ∧ True ∧ True) ∧ True) ∧ ((cmE p c == (0 : Int)) = false → ((cmE p c == (999 : Int)) = true → ((p.rng.lo = p.rng.lo ∧ p.rng.hi = p.rng.hi ∧ p.epoch = p.epoch ∧ p.frozen = p.frozen ∧ (vcCo_q1 p) ∧ List.length p.prods = (0 : Nat) ∧ List.length p.cons = (0 : Nat) ∧ True) ∧ False ∧ True) ∧ False) ∧ ((cmE p c == (999 : Int)) = false → ((p.rng.lo = p.rng.lo ∧ p.rng.hi = p.rng.hi ∧ p.epoch = p.epoch ∧ p.frozen = p.frozen ∧ (vcCo_q1 p) ∧ List.length p.prods = (0 : Nat) ∧ List.length p.cons = (0 : Nat) ∧ True) ∧ False ∧ True) ∧ False))))))))
theorem vcCo_eq (p : Part) (c : Cmd) : (ctrVC Tryz.prog (cmH p c) 105 [.agg (encPt true p), .agg (encCm c)] [] (cmT p c)) = vcCo p c := by kernel_rfl
def frB (p : Part) (c : Cmd) : Bool := !(p.frozen == 0) && !(p.frozen == c.plan)
def frQ (p : Part) (by' : Int) : Part := ⟨p.rng, p.epoch, by', p.recs, p.prods, p.cons⟩
def frT (p : Part) (c : Cmd) (by' : Int) : T An := .ite (frB p c) (.ret (.tup [.agg (encPt true p), .s (.bool false), refV], refM c 164, [])) (.ret (.tup [.agg (encPt true (frQ p by')), .y (.bool (p.frozen == by')), .s .nilIface], [], []))
def vcFr (p : Part) (c : Cmd) (by' : Int) : Prop :=
  ((p.frozen != (0 : Int)) = true → ((p.frozen != c.plan) = true → (frB p c = true → ((ptLe true true p p) ∧ false = false ∧ ((0 : Nat) = (0 : Nat) ∧ (0 : Nat) = (0 : Nat)) ∧ True) ∧ (c.kind = c.kind ∧ (164 : Int) = (164 : Int) ∧ True) ∧ True) ∧ (frB p c = false → False)) ∧ ((p.frozen != c.plan) = false → (frB p c = true → ((p.rng.lo = p.rng.lo ∧ p.rng.hi = p.rng.hi ∧ p.epoch = p.epoch ∧ by' = p.frozen ∧ (true = true ∧ List.length p.recs = List.length p.recs ∧ contLe (List.length p.recs) (5 : Nat) (cellsOf' encR p.recs) (cellsOf' encR p.recs)) ∧ (true = true ∧ List.length p.prods = List.length p.prods ∧ contLe (List.length p.prods) (4 : Nat) (cellsOf' P.encP p.prods) (cellsOf' P.encP p.prods)) ∧ (true = true ∧ List.length p.cons = List.length p.cons ∧ contLe (List.length p.cons) (2 : Nat) (cellsOf' encC p.cons) (cellsOf' encC p.cons)) ∧ True) ∧ (p.frozen == by') = false ∧ False ∧ True) ∧ False) ∧ (frB p c = false → ((p.rng.lo = p.rng.lo ∧ p.rng.hi = p.rng.hi ∧ p.epoch = p.epoch ∧ by' = by' ∧ (true = true ∧ List.length p.recs = List.length p.recs ∧ contLe (List.length p.recs) (5 : Nat) (cellsOf' encR p.recs) (cellsOf' encR p.recs)) ∧ (true = true ∧ List.length p.prods = List.length p.prods ∧ contLe (List.length p.prods) (4 : Nat) (cellsOf' P.encP p.prods) (cellsOf' P.encP p.prods)) ∧ (true = true ∧ List.length p.cons = List.length p.cons ∧ contLe (List.length p.cons) (2 : Nat) (cellsOf' encC p.cons) (cellsOf' encC p.cons)) ∧ True) ∧ (p.frozen == by') = (p.frozen == by') ∧ True ∧ True) ∧ True))) ∧ ((p.frozen != (0 : Int)) = false → (frB p c = true → ((p.rng.lo = p.rng.lo ∧ p.rng.hi = p.rng.hi ∧ p.epoch = p.epoch ∧ by' = p.frozen ∧ (true = true ∧ List.length p.recs = List.length p.recs ∧ contLe (List.length p.recs) (5 : Nat) (cellsOf' encR p.recs) (cellsOf' encR p.recs)) ∧ (true = true ∧ List.length p.prods = List.length p.prods ∧ contLe (List.length p.prods) (4 : Nat) (cellsOf' P.encP p.prods) (cellsOf' P.encP p.prods)) ∧ (true = true ∧ List.length p.cons = List.length p.cons ∧ contLe (List.length p.cons) (2 : Nat) (cellsOf' encC p.cons) (cellsOf' encC p.cons)) ∧ True) ∧ (p.frozen == by') = false ∧ False ∧ True) ∧ False) ∧ (frB p c = false → ((p.rng.lo = p.rng.lo ∧ p.rng.hi = p.rng.hi ∧ p.epoch = p.epoch ∧ by' = by' ∧ (true = true ∧ List.length p.recs = List.length p.recs ∧ contLe (List.length p.recs) (5 : Nat) (cellsOf' encR p.recs) (cellsOf' encR p.recs)) ∧ (true = true ∧ List.length p.prods = List.length p.prods ∧ contLe (List.length p.prods) (4 : Nat) (cellsOf' P.encP p.prods) (cellsOf' P.encP p.prods)) ∧ (true = true ∧ List.length p.cons = List.length p.cons ∧ contLe (List.length p.cons) (2 : Nat) (cellsOf' encC p.cons) (cellsOf' encC p.cons)) ∧ True) ∧ (p.frozen == by') = (p.frozen == by') ∧ True ∧ True) ∧ True))
theorem vcFr_eq (p : Part) (c : Cmd) (by' : Int) : (ctrVC Tryz.prog (hT _) 106 [.agg (encPt true p), .agg (encCm c), .y (.int .u64 by')] [] (frT p c by')) = vcFr p c by' := by kernel_rfl
end Go.Proofs.YtnbhdjadlbhknaaGreatDoor.R

namespace Go.Proofs.YtnbhdjadlbhknaaGreatDoor.R
open Go.Ax
set_option maxRecDepth 1000000
theorem tRs (l : List Rec) : ∀ (k : Nat), k < l.length → ∀ (j : Nat), j < 5 → tagT (cellsOf' encR l k j) = true := fun k _ j hj => tagR _ j hj
theorem tPs (l : List P.Producer) : ∀ (k : Nat), k < l.length → ∀ (j : Nat), j < 4 → tagT (cellsOf' P.encP l k j) = true := fun k _ j hj => D.tagP _ j hj
theorem tCs (l : List Con) : ∀ (k : Nat), k < l.length → ∀ (j : Nat), j < 2 → tagT (cellsOf' encC l k j) = true := fun k _ j hj => D.tagC _ j hj
theorem take_999 (l : List P.Producer) (x : P.Producer) : P.takeE l x ≠ 999 := by
  unfold P.takeE
  repeat' split
  all_goals decide
theorem app_999 (l : List Rec) (x : Rec) : appE l x ≠ 999 := by
  unfold appE
  repeat' split
  all_goals decide
theorem com_999 (l : List Con) (x : Con) (e : Int) : comE l x e ≠ 999 := by
  unfold comE
  repeat' split
  all_goals decide
theorem pr_c (p : Part) (c : Cmd) (h : PartIn p) : (prT p c).Sat (ACall' Tryz.prog 103 [.agg (encPt true p), .agg (encCm c)] []) := by
  refine ctr_vc (ht := prH p c) Tryz.mixed rfl ?_
  rw [vcPr_eq p c]
  unfold vcPr vcPr_q7 vcPr_q5 vcPr_q3 vcPr_q1 vcPr_q8 vcPr_q4 vcPr_q6 vcPr_q2
  have h1 := h.rl
  have h2 := h.pl
  have t1 := tRs (appL p.recs (newR c))
  have t2 := tPs (P.putL p.prods (accP p c))
  have t3 := tCs p.cons
  have e1 : P.takeE p.prods (P.mkP c.prod c.seq true p.recs.length) = P.takeE p.prods (accP p c) := rfl
  have e2 : P.putL p.prods (P.mkP c.prod c.seq true p.recs.length) = P.putL p.prods (accP p c) := rfl
  rw [e1, e2]
  have q1 : p.prods.length ≤ 9223372036854775806 := by omega
  have q2 : p.recs.length ≤ 9223372036854775806 := by omega
  unfold prE
  cases c1 : hasK p.rng c.key
  · simp
  · by_cases c2 : P.judgeV p.prods c.prod c.seq = 2
    · simp [c2, q1]
    · by_cases c3 : P.judgeV p.prods c.prod c.seq = 3
      · simp [c3, q1]
      · by_cases c4 : p.frozen = 0
        · by_cases c5 : appE p.recs (newR c) = 0
          · by_cases c6 : P.takeE p.prods (accP p c) = 0
            · simp [c2, c3, c4, c5, c6, q1, q2]
              exact ⟨t1, t2⟩
            · by_cases c7 : P.takeE p.prods (accP p c) = 999
              · exact absurd c7 (take_999 _ _)
              · simp [c2, c3, c4, c5, c6, c7, q1, q2]
          · by_cases c7 : appE p.recs (newR c) = 999
            · exact absurd c7 (app_999 _ _)
            · simp [c2, c3, c4, c5, c7, q1, q2]
        · simp [c2, c3, c4, q1]
theorem co_c (p : Part) (c : Cmd) (h : PartIn p) : (cmT p c).Sat (ACall' Tryz.prog 105 [.agg (encPt true p), .agg (encCm c)] []) := by
  refine ctr_vc (ht := cmH p c) Tryz.mixed rfl ?_
  rw [vcCo_eq p c]
  unfold vcCo vcCo_q9 vcCo_q8 vcCo_q7 vcCo_q4 vcCo_q3 vcCo_q2 vcCo_q6 vcCo_q5 vcCo_q1
  have h1 := h.rl
  have h2 := h.pl
  have h3 := h.cl
  have t1 := tRs p.recs
  have t2 := tPs (P.putL p.prods (pasP c))
  have t3 := tCs (putL p.cons ⟨c.name, c.off⟩)
  have e1 : P.takeE p.prods (P.mkP c.prod c.seq false 0) = P.takeE p.prods (pasP c) := rfl
  have e2 : P.putL p.prods (P.mkP c.prod c.seq false 0) = P.putL p.prods (pasP c) := rfl
  have e3 : comE p.cons ⟨c.name, c.off⟩ (IntKind.u64.wrap (p.recs.length : Nat)) = comE' p c := rfl
  rw [e1, e2, e3]
  have q1 : p.prods.length ≤ 9223372036854775806 := by omega
  have q2 : p.recs.length ≤ 9223372036854775806 := by omega
  have q3 : p.cons.length ≤ 9223372036854775806 := by omega
  unfold cmE
  by_cases c2 : P.judgeV p.prods c.prod c.seq = 1
  · by_cases c4 : p.frozen = 0
    · by_cases c5 : comE' p c = 0
      · by_cases c6 : P.takeE p.prods (pasP c) = 0
        · simp [c2, c4, c5, c6, q1, q3]
          exact ⟨t2, t3⟩
        · by_cases c7 : P.takeE p.prods (pasP c) = 999
          · exact absurd c7 (take_999 _ _)
          · simp [c2, c4, c5, c6, c7, q1, q3]
      · by_cases c7 : comE' p c = 999
        · exact absurd c7 (com_999 _ _ _)
        · simp [c2, c4, c5, c7, q1, q3]
    · simp [c2, c4, q1]
  · simp [c2, q1]
theorem fr_c (p : Part) (c : Cmd) (by' : Int) : (frT p c by').Sat (ACall' Tryz.prog 106 [.agg (encPt true p), .agg (encCm c), .y (.int .u64 by')] []) := by
  refine ctr_vc (ht := hT _) Tryz.mixed rfl ?_
  rw [vcFr_eq p c by']
  unfold vcFr frB
  by_cases c1 : p.frozen = 0
  · simp [c1]
  · by_cases c2 : p.frozen = c.plan
    · simp [c1, c2]
    · simp [c1, c2]
noncomputable def prC (p : Part) (c : Cmd) : Ctr Tryz.prog := ⟨103, [.agg (encPt true p), .agg (encCm c)], [], .need (PartIn p) (prT p c), T.Sat.need fun h => pr_c p c h⟩
noncomputable def coC (p : Part) (c : Cmd) : Ctr Tryz.prog := ⟨105, [.agg (encPt true p), .agg (encCm c)], [], .need (PartIn p) (cmT p c), T.Sat.need fun h => co_c p c h⟩
noncomputable def frC (p : Part) (c : Cmd) (by' : Int) : Ctr Tryz.prog := ⟨106, [.agg (encPt true p), .agg (encCm c), .y (.int .u64 by')], [], frT p c by', fr_c p c by'⟩
end Go.Proofs.YtnbhdjadlbhknaaGreatDoor.R

namespace Go.Proofs.YtnbhdjadlbhknaaGreatDoor.R
open Go.Ax
set_option maxRecDepth 1000000
def un9 (e : Int) : Int := if e = 999 then 0 else e
def actE (p : Part) (c : Cmd) : Int := if c.kind = 1 then un9 (prE p c) else if c.kind = 3 then un9 (cmE p c) else if c.kind = 5 ∨ c.kind = 6 then (if frB p c = true then 164 else 0) else if p.frozen ≠ 0 then 164 else if c.kind = 2 then feE p.recs c.off else 0
def byOf (c : Cmd) : Int := if c.kind = 5 then c.plan else 0
def actQ (p : Part) (c : Cmd) : Part := if c.kind = 1 then (if prE p c = 0 then prQ p c else p) else if c.kind = 3 then (if cmE p c = 0 then cmQ p c else p) else if c.kind = 5 ∨ c.kind = 6 then (if frB p c = true then p else frQ p (byOf c)) else p
def actX (p : Part) (c : Cmd) : Res :=
  if c.kind = 1 then (if prE p c = 0 then ⟨0, p.recs.length, false, []⟩ else if prE p c = 999 then ⟨0, P.judgeO p.prods c.prod c.seq, true, []⟩ else ⟨0, 0, false, []⟩)
  else if c.kind = 3 then (if cmE p c = 999 then ⟨0, 0, true, []⟩ else ⟨0, c.off, false, []⟩)
  else if c.kind = 5 ∨ c.kind = 6 then ⟨0, 0, !frB p c && p.frozen == byOf c, []⟩
  else if p.frozen ≠ 0 then ⟨0, 0, false, []⟩
  else if c.kind = 4 then ⟨0, readO p.cons c.name, inC p.cons c.name, []⟩
  else if c.kind = 2 then (if feE p.recs c.off = 0 then ⟨0, IntKind.u64.wrap (c.off + IntKind.u64.wrap (fetL p.recs c.off c.most).length), false, fetL p.recs c.off c.most⟩ else ⟨0, c.off, false, []⟩)
  else ⟨0, 0, false, []⟩
def actT (q : Part) (x : Res) (c : Cmd) (e : Int) : T An := .ite (e == 0) (.ret (.tup [.agg (encPt true q), .agg (encX x), .s .nilIface], [], [])) (.ret (.tup [.agg (encPt true q), .agg (encX x), refV], refM c e, []))
structure Act where
  q : Part
  x : Res
  e : Int
noncomputable def acH (p : Part) (c : Cmd) : HintsT Tryz.prog := withSh (hh _ noLp (cs1 40 6 2 (prC p c) (cs1 40 11 2 (coC p c) (cs1 40 16 4 (frC p c c.plan) (cs1 40 19 2 (frC p c 0) (cs1 40 25 4 (rdC true p.cons c.name) (cs1 40 27 6 (feC true p.recs c.off c.most) noCs)))))) noOp) (sh1 40 27 8 779 noSh)
def vcAc_q1 (p : Part) (c : Cmd) (y : Act) : Prop := (p.rng.lo = y.q.rng.lo ∧ p.rng.hi = y.q.rng.hi ∧ p.epoch = y.q.epoch ∧ p.frozen = y.q.frozen ∧ (true = true ∧ List.length p.recs = List.length y.q.recs ∧ contLe (List.length p.recs) (5 : Nat) (cellsOf' encR p.recs) (cellsOf' encR y.q.recs)) ∧ (true = true ∧ List.length (P.putL p.prods (pasP c)) = List.length y.q.prods ∧ contLe (List.length (P.putL p.prods (pasP c))) (4 : Nat) (cellsOf' P.encP (P.putL p.prods (pasP c))) (cellsOf' P.encP y.q.prods)) ∧ (true = true ∧ List.length (putL p.cons { name := c.name, off := c.off : Con }) = List.length y.q.cons ∧ contLe (List.length (putL p.cons { name := c.name, off := c.off : Con })) (2 : Nat) (cellsOf' encC (putL p.cons { name := c.name, off := c.off : Con })) (cellsOf' encC y.q.cons)) ∧ True)
def vcAc_q2 (p : Part) (c : Cmd) (y : Act) : Prop := (p.rng.lo = y.q.rng.lo ∧ p.rng.hi = y.q.rng.hi ∧ p.epoch = y.q.epoch ∧ p.frozen = y.q.frozen ∧ (true = true ∧ List.length (appL p.recs (newR c)) = List.length y.q.recs ∧ contLe (List.length (appL p.recs (newR c))) (5 : Nat) (cellsOf' encR (appL p.recs (newR c))) (cellsOf' encR y.q.recs)) ∧ (true = true ∧ List.length (P.putL p.prods (accP p c)) = List.length y.q.prods ∧ contLe (List.length (P.putL p.prods (accP p c))) (4 : Nat) (cellsOf' P.encP (P.putL p.prods (accP p c))) (cellsOf' P.encP y.q.prods)) ∧ (true = true ∧ List.length p.cons = List.length y.q.cons ∧ contLe (List.length p.cons) (2 : Nat) (cellsOf' encC p.cons) (cellsOf' encC y.q.cons)) ∧ True)
def vcAc_q3 (p : Part) (y : Act) : Prop := (p.rng.lo = y.q.rng.lo ∧ p.rng.hi = y.q.rng.hi ∧ p.epoch = y.q.epoch ∧ (0 : Int) = y.q.frozen ∧ (true = true ∧ List.length p.recs = List.length y.q.recs ∧ contLe (List.length p.recs) (5 : Nat) (cellsOf' encR p.recs) (cellsOf' encR y.q.recs)) ∧ (true = true ∧ List.length p.prods = List.length y.q.prods ∧ contLe (List.length p.prods) (4 : Nat) (cellsOf' P.encP p.prods) (cellsOf' P.encP y.q.prods)) ∧ (true = true ∧ List.length p.cons = List.length y.q.cons ∧ contLe (List.length p.cons) (2 : Nat) (cellsOf' encC p.cons) (cellsOf' encC y.q.cons)) ∧ True)
def vcAc_q4 (p : Part) (c : Cmd) (y : Act) : Prop := (p.rng.lo = y.q.rng.lo ∧ p.rng.hi = y.q.rng.hi ∧ p.epoch = y.q.epoch ∧ c.plan = y.q.frozen ∧ (true = true ∧ List.length p.recs = List.length y.q.recs ∧ contLe (List.length p.recs) (5 : Nat) (cellsOf' encR p.recs) (cellsOf' encR y.q.recs)) ∧ (true = true ∧ List.length p.prods = List.length y.q.prods ∧ contLe (List.length p.prods) (4 : Nat) (cellsOf' P.encP p.prods) (cellsOf' P.encP y.q.prods)) ∧ (true = true ∧ List.length p.cons = List.length y.q.cons ∧ contLe (List.length p.cons) (2 : Nat) (cellsOf' encC p.cons) (cellsOf' encC y.q.cons)) ∧ True)
def vcAc_q5 (p : Part) (c : Cmd) (y : Act) : Prop := ((y.e == (0 : Int)) = false → ((ptLe true true p y.q) ∧ ((0 : Int) = y.x.err ∧ (0 : Int) = y.x.off ∧ false = y.x.old ∧ List.length y.x.recs = (0 : Nat) ∧ True) ∧ ((0 : Nat) = (0 : Nat) ∧ (0 : Nat) = (0 : Nat)) ∧ True) ∧ (c.kind = c.kind ∧ (164 : Int) = y.e ∧ True) ∧ True)
def vcAc_q6 (p : Part) (c : Cmd) (y : Act) : Prop := ((0 : Int) = y.x.err ∧ IntKind.wrap IntKind.u64 (c.off + IntKind.wrap IntKind.u64 (↑(List.length (fetL p.recs c.off c.most)) : Int)) = y.x.off ∧ false = y.x.old ∧ (true = true ∧ List.length (fetL p.recs c.off c.most) = List.length y.x.recs ∧ contLe (List.length (fetL p.recs c.off c.most)) (5 : Nat) (Ax.rowAt (0 : Nat) (cellsOf' encR (fetL p.recs c.off c.most))) (cellsOf' encR y.x.recs)) ∧ True)
def vcAc (p : Part) (c : Cmd) (y : Act) : Prop :=
  ((c.kind == (1 : Int)) = true → ((ptLe true true p p) ∧ (R.cmLe c c) ∧ True) ∧ True ∧ PartIn p ∧ ((prE p c == (0 : Int)) = true → ((y.e == (0 : Int)) = true → ((vcAc_q2 p c y) ∧ ((0 : Int) = y.x.err ∧ (↑(List.length p.recs) : Int) = y.x.off ∧ false = y.x.old ∧ List.length y.x.recs = (0 : Nat) ∧ True) ∧ True ∧ True) ∧ True) ∧ ((y.e == (0 : Int)) = false → ((vcAc_q2 p c y) ∧ ((0 : Int) = y.x.err ∧ (↑(List.length p.recs) : Int) = y.x.off ∧ false = y.x.old ∧ List.length y.x.recs = (0 : Nat) ∧ True) ∧ False ∧ True) ∧ False)) ∧ ((prE p c == (0 : Int)) = false → ((prE p c == (999 : Int)) = true → true = true ∧ True ∧ ((y.e == (0 : Int)) = true → ((ptLe true true p y.q) ∧ ((0 : Int) = y.x.err ∧ P.judgeO p.prods c.prod c.seq = y.x.off ∧ true = y.x.old ∧ List.length y.x.recs = (0 : Nat) ∧ True) ∧ True ∧ True) ∧ True) ∧ ((y.e == (0 : Int)) = false → ((ptLe true true p y.q) ∧ ((0 : Int) = y.x.err ∧ P.judgeO p.prods c.prod c.seq = y.x.off ∧ true = y.x.old ∧ List.length y.x.recs = (0 : Nat) ∧ True) ∧ False ∧ True) ∧ False)) ∧ ((prE p c == (999 : Int)) = false → true = true ∧ True ∧ ((y.e == (0 : Int)) = true → False) ∧ ((y.e == (0 : Int)) = false → ((ptLe true true p y.q) ∧ ((0 : Int) = y.x.err ∧ (0 : Int) = y.x.off ∧ false = y.x.old ∧ List.length y.x.recs = (0 : Nat) ∧ True) ∧ ((0 : Nat) = (0 : Nat) ∧ (0 : Nat) = (0 : Nat)) ∧ True) ∧ (c.kind = c.kind ∧ prE p c = y.e ∧ True) ∧ True)))) ∧ ((c.kind == (1 : Int)) = false → ((c.kind == (3 : Int)) = true → ((ptLe true true p p) ∧ (R.cmLe c c) ∧ True) ∧ True ∧ PartIn p ∧ ((cmE p c == (0 : Int)) = true → ((y.e == (0 : Int)) = true → ((vcAc_q1 p c y) ∧ ((0 : Int) = y.x.err ∧ c.off = y.x.off ∧ false = y.x.old ∧ List.length y.x.recs = (0 : Nat) ∧ True) ∧ True ∧ True) ∧ True) ∧ ((y.e == (0 : Int)) = false → ((vcAc_q1 p c y) ∧ ((0 : Int) = y.x.err ∧ c.off = y.x.off ∧ false = y.x.old ∧ List.length y.x.recs = (0 : Nat) ∧ True) ∧ False ∧ True) ∧ False)) ∧ ((cmE p c == (0 : Int)) = false → ((cmE p c == (999 : Int)) = true → true = true ∧ True ∧ ((y.e == (0 : Int)) = true → ((ptLe true true p y.q) ∧ ((0 : Int) = y.x.err ∧ (0 : Int) = y.x.off ∧ true = y.x.old ∧ List.length y.x.recs = (0 : Nat) ∧ True) ∧ True ∧ True) ∧ True) ∧ ((y.e == (0 : Int)) = false → ((ptLe true true p y.q) ∧ ((0 : Int) = y.x.err ∧ (0 : Int) = y.x.off ∧ true = y.x.old ∧ List.length y.x.recs = (0 : Nat) ∧ True) ∧ False ∧ True) ∧ False)) ∧ ((cmE p c == (999 : Int)) = false → true = true ∧ True ∧ ((y.e == (0 : Int)) = true → False) ∧ ((y.e == (0 : Int)) = false → ((ptLe true true p y.q) ∧ ((0 : Int) = y.x.err ∧ c.off = y.x.off ∧ false = y.x.old ∧ List.length y.x.recs = (0 : Nat) ∧ True) ∧ ((0 : Nat) = (0 : Nat) ∧ (0 : Nat) = (0 : Nat)) ∧ True) ∧ (c.kind = c.kind ∧ cmE p c = y.e ∧ True) ∧ True)))) ∧ ((c.kind == (3 : Int)) = false → ((c.kind == (5 : Int)) = true → ((ptLe true true p p) ∧ (R.cmLe c c) ∧ c.plan = c.plan ∧ True) ∧ True ∧ (frB p c = true → ((y.e == (0 : Int)) = true → False) ∧ (vcAc_q5 p c y)) ∧ (frB p c = false → ((y.e == (0 : Int)) = true → ((vcAc_q4 p c y) ∧ ((0 : Int) = y.x.err ∧ (0 : Int) = y.x.off ∧ (p.frozen == c.plan) = y.x.old ∧ List.length y.x.recs = (0 : Nat) ∧ True) ∧ True ∧ True) ∧ True) ∧ ((y.e == (0 : Int)) = false → ((vcAc_q4 p c y) ∧ ((0 : Int) = y.x.err ∧ (0 : Int) = y.x.off ∧ (p.frozen == c.plan) = y.x.old ∧ List.length y.x.recs = (0 : Nat) ∧ True) ∧ False ∧ True) ∧ False))) ∧ ((c.kind == (5 : Int)) = false → ((c.kind == (6 : Int)) = true → ((ptLe true true p p) ∧ (R.cmLe c c) ∧ (0 : Int) = (0 : Int) ∧ True) ∧ True ∧ (frB p c = true → ((y.e == (0 : Int)) = true → False) ∧ (vcAc_q5 p c y)) ∧ (frB p c = false → ((y.e == (0 : Int)) = true → ((vcAc_q3 p y) ∧ ((0 : Int) = y.x.err ∧ (0 : Int) = y.x.off ∧ (p.frozen == (0 : Int)) = y.x.old ∧ List.length y.x.recs = (0 : Nat) ∧ True) ∧ True ∧ True) ∧ True) ∧ ((y.e == (0 : Int)) = false → ((vcAc_q3 p y) ∧ ((0 : Int) = y.x.err ∧ (0 : Int) = y.x.off ∧ (p.frozen == (0 : Int)) = y.x.old ∧ List.length y.x.recs = (0 : Nat) ∧ True) ∧ False ∧ True) ∧ False))) ∧ ((c.kind == (6 : Int)) = false → ((p.frozen != (0 : Int)) = true → ((y.e == (0 : Int)) = true → False) ∧ (vcAc_q5 p c y)) ∧ ((p.frozen != (0 : Int)) = false → ((c.kind == (4 : Int)) = true → ((true = true ∧ List.length p.cons = List.length p.cons ∧ contLe (List.length p.cons) (2 : Nat) (cellsOf' encC p.cons) (cellsOf' encC p.cons)) ∧ c.name = c.name ∧ True) ∧ True ∧ List.length p.cons ≤ (9223372036854775806 : Nat) ∧ ((y.e == (0 : Int)) = true → ((ptLe true true p y.q) ∧ ((0 : Int) = y.x.err ∧ readO p.cons c.name = y.x.off ∧ inC p.cons c.name = y.x.old ∧ List.length y.x.recs = (0 : Nat) ∧ True) ∧ True ∧ True) ∧ True) ∧ ((y.e == (0 : Int)) = false → ((ptLe true true p y.q) ∧ ((0 : Int) = y.x.err ∧ readO p.cons c.name = y.x.off ∧ inC p.cons c.name = y.x.old ∧ List.length y.x.recs = (0 : Nat) ∧ True) ∧ False ∧ True) ∧ False)) ∧ ((c.kind == (4 : Int)) = false → ((c.kind == (2 : Int)) = true → ((true = true ∧ List.length p.recs = List.length p.recs ∧ contLe (List.length p.recs) (5 : Nat) (cellsOf' encR p.recs) (cellsOf' encR p.recs)) ∧ c.off = c.off ∧ c.most = c.most ∧ True) ∧ True ∧ (List.length p.recs ≤ (9223372036854775806 : Nat) ∧ (0 : Int) ≤ c.off) ∧ ((feE p.recs c.off == (0 : Int)) = true → (∀ (k : Nat), k < List.length (fetL p.recs c.off c.most) → ∀ (j : Nat), j < (5 : Nat) → tagT (cellsOf' encR (fetL p.recs c.off c.most) k j) = true) ∧ ((y.e == (0 : Int)) = true → ((ptLe true true p y.q) ∧ (vcAc_q6 p c y) ∧ True ∧ True) ∧ True) ∧ ((y.e == (0 : Int)) = false → ((ptLe true true p y.q) ∧ (vcAc_q6 p c y) ∧ False ∧ True) ∧ False)) ∧ ((feE p.recs c.off == (0 : Int)) = false → ((feE p.recs c.off == (0 : Int)) = true → ((y.e == (0 : Int)) = true → ((ptLe true true p y.q) ∧ ((0 : Int) = y.x.err ∧ IntKind.wrap IntKind.u64 (c.off + (0 : Int)) = y.x.off ∧ false = y.x.old ∧ List.length y.x.recs = (0 : Nat) ∧ True) ∧ True ∧ True) ∧ True) ∧ ((y.e == (0 : Int)) = false → ((ptLe true true p y.q) ∧ ((0 : Int) = y.x.err ∧ IntKind.wrap IntKind.u64 (c.off + (0 : Int)) = y.x.off ∧ false = y.x.old ∧ List.length y.x.recs = (0 : Nat) ∧ True) ∧ False ∧ True) ∧ False)) ∧ ((feE p.recs c.off == (0 : Int)) = false → ((y.e == (0 : Int)) = true → False) ∧ ((y.e == (0 : Int)) = false → ((ptLe true true p y.q) ∧ ((0 : Int) = y.x.err ∧ IntKind.wrap IntKind.u64 (c.off + (0 : Int)) = y.x.off ∧ false = y.x.old ∧ List.length y.x.recs = (0 : Nat) ∧ True) ∧ ((0 : Nat) = (0 : Nat) ∧ (0 : Nat) = (0 : Nat)) ∧ True) ∧ (c.kind = c.kind ∧ feE p.recs c.off = y.e ∧ True) ∧ True)))) ∧ ((c.kind == (2 : Int)) = false → ((y.e == (0 : Int)) = true → ((ptLe true true p y.q) ∧ ((0 : Int) = y.x.err ∧ (0 : Int) = y.x.off ∧ false = y.x.old ∧ List.length y.x.recs = (0 : Nat) ∧ True) ∧ True ∧ True) ∧ True) ∧ ((y.e == (0 : Int)) = false → ((ptLe true true p y.q) ∧ ((0 : Int) = y.x.err ∧ (0 : Int) = y.x.off ∧ false = y.x.old ∧ List.length y.x.recs = (0 : Nat) ∧ True) ∧ False ∧ True) ∧ False))))))))
theorem vcAc_eq (p : Part) (c : Cmd) (y : Act) : (ctrVC Tryz.prog (acH p c) 40 [.agg (encPt true p), .agg (encCm c)] [] (actT y.q y.x c y.e)) = vcAc p c y := by kernel_rfl
end Go.Proofs.YtnbhdjadlbhknaaGreatDoor.R

namespace Go.Proofs.YtnbhdjadlbhknaaGreatDoor.R
open Go.Ax
set_option maxRecDepth 1000000
theorem ac_c (p : Part) (c : Cmd) (h : PartIn p) (ho : 0 ≤ c.off ∧ c.off < 18446744073709551616) : (actT (actQ p c) (actX p c) c (actE p c)).Sat (ACall' Tryz.prog 40 [.agg (encPt true p), .agg (encCm c)] []) := by
  refine ctr_vc (ht := acH p c) Tryz.mixed rfl ?_
  rw [vcAc_eq p c ⟨actQ p c, actX p c, actE p c⟩]
  unfold vcAc vcAc_q6 vcAc_q5 vcAc_q4 vcAc_q3 vcAc_q2 vcAc_q1
  dsimp only
  have h1 := h.rl
  have h3 := h.cl
  have hw : IntKind.u64.wrap c.off = c.off := wrap_u64 ho.1 (by omega)
  have q2 : p.recs.length ≤ 9223372036854775806 := by omega
  have q3 : p.cons.length ≤ 9223372036854775806 := by omega
  unfold actQ actX actE un9 byOf
  by_cases k1 : c.kind = 1
  · by_cases e0 : prE p c = 0
    · simp [k1, e0, h, prQ]
    · by_cases e9 : prE p c = 999
      · simp [k1, e9, h]
      · simp [k1, e0, e9, h]
  · by_cases k3 : c.kind = 3
    · by_cases e0 : cmE p c = 0
      · simp [k3, e0, h, cmQ]
      · by_cases e9 : cmE p c = 999
        · simp [k3, e9, h]
        · simp [k3, e0, e9, h]
    · by_cases k5 : c.kind = 5
      · cases f : frB p c <;> simp [k5, f, frQ]
      · by_cases k6 : c.kind = 6
        · cases f : frB p c <;> simp [k6, f, frQ]
        · by_cases fz : p.frozen = 0
          · by_cases k4 : c.kind = 4
            · simp [k4, fz, q3]
            · by_cases k2 : c.kind = 2
              · by_cases e0 : feE p.recs c.off = 0
                · have t := tRs (fetL p.recs c.off c.most)
                  simp [k2, fz, e0, q2, ho, hw]
                  exact t
                · simp [k2, fz, e0, q2, ho, hw]
              · simp [k1, k2, k3, k4, k5, k6, fz]
          · simp [k1, k3, k5, k6, fz]
structure ActR (p : Part) (c : Cmd) (q : Part) (x : Res) (e : Int) : Prop where
  s : (actT q x c e).Sat (ACall' Tryz.prog 40 [.agg (encPt true p), .agg (encCm c)] [])
noncomputable def arC (p : Part) (c : Cmd) (q : Part) (x : Res) (e : Int) : Ctr Tryz.prog := ⟨40, [.agg (encPt true p), .agg (encCm c)], [], .need (ActR p c q x e) (actT q x c e), T.Sat.need fun h => h.s⟩
def doQ (p : Part) (c : Cmd) (q : Part) (e : Int) : Part := if partOk p = false then default else if wellB c = false ∨ c.epoch ≠ p.epoch ∨ e ≠ 0 then p else q
def doX (p : Part) (c : Cmd) (x : Res) (e : Int) : Res := if partOk p = false then ⟨165, 0, false, []⟩ else if wellB c = false then ⟨161, 0, false, []⟩ else if c.epoch ≠ p.epoch then ⟨162, 0, false, []⟩ else if e ≠ 0 then ⟨e, 0, false, []⟩ else x
def doT (q : Part) (x : Res) : T An := .ret (.tup [.agg (encPt true q), .agg (encX x)], [], [])
noncomputable def doH (b : Bool) (p : Part) (c : Cmd) (y : Act) : HintsT Tryz.prog := withSub (hh _ noLp (cs1 13 1 1 (pcC b p) (cs1 13 3 1 (weC c) (cs1 13 4 1 (pownC b p) (cs1 13 6 1 (pownC b p) (cs1 13 7 1 (pownC b p) (cs1 13 7 3 (arC p c y.q y.x y.e) (cs1 13 10 1 (pownC b p) noCs))))))) noOp) [41, 113]
def vcDo (b : Bool) (p : Part) (c : Cmd) (y : Act) (z : Act) : Prop :=
  ((ptLe b b p p) ∧ True) ∧ True ∧ PartIn p ∧ (partOk p = true → ((R.cmLe c c) ∧ True) ∧ True ∧ ((!wellB c) = true → ((ptLe b b p p) ∧ True) ∧ True ∧ PoOk p ∧ ((ptLe true true p z.q) ∧ ((161 : Int) = z.x.err ∧ (0 : Int) = z.x.off ∧ false = z.x.old ∧ List.length z.x.recs = (0 : Nat) ∧ True) ∧ True) ∧ True) ∧ ((!wellB c) = false → ((c.epoch != p.epoch) = true → ((ptLe b b p p) ∧ True) ∧ True ∧ PoOk p ∧ ((ptLe true true p z.q) ∧ ((162 : Int) = z.x.err ∧ (0 : Int) = z.x.off ∧ false = z.x.old ∧ List.length z.x.recs = (0 : Nat) ∧ True) ∧ True) ∧ True) ∧ ((c.epoch != p.epoch) = false → ((ptLe b b p p) ∧ True) ∧ True ∧ PoOk p ∧ ((ptLe true true p p) ∧ (R.cmLe c c) ∧ True) ∧ True ∧ ActR p c y.q y.x y.e ∧ ((y.e == (0 : Int)) = true → ((ptLe true true y.q z.q) ∧ (y.x.err = z.x.err ∧ y.x.off = z.x.off ∧ y.x.old = z.x.old ∧ (true = true ∧ List.length y.x.recs = List.length z.x.recs ∧ contLe (List.length y.x.recs) (5 : Nat) (cellsOf' encR y.x.recs) (cellsOf' encR z.x.recs)) ∧ True) ∧ True) ∧ True) ∧ ((y.e == (0 : Int)) = false → true = true ∧ True ∧ ((ptLe b b p p) ∧ True) ∧ True ∧ PoOk p ∧ ((ptLe true true p z.q) ∧ (y.e = z.x.err ∧ (0 : Int) = z.x.off ∧ false = z.x.old ∧ List.length z.x.recs = (0 : Nat) ∧ True) ∧ True) ∧ True)))) ∧ (partOk p = false → (({ data := #[] : ByteArray } = z.q.rng.lo ∧ { data := #[] : ByteArray } = z.q.rng.hi ∧ (0 : Int) = z.q.epoch ∧ (0 : Int) = z.q.frozen ∧ List.length z.q.recs = (0 : Nat) ∧ List.length z.q.prods = (0 : Nat) ∧ List.length z.q.cons = (0 : Nat) ∧ True) ∧ ((165 : Int) = z.x.err ∧ (0 : Int) = z.x.off ∧ false = z.x.old ∧ List.length z.x.recs = (0 : Nat) ∧ True) ∧ True) ∧ True)
theorem vcDo_eq (b : Bool) (p : Part) (c : Cmd) (y : Act) (z : Act) : (ctrVC Tryz.prog (doH b p c y) 13 [.agg (encPt b p), .agg (encCm c)] [] (doT z.q z.x)) = vcDo b p c y z := by kernel_rfl
end Go.Proofs.YtnbhdjadlbhknaaGreatDoor.R

namespace Go.Proofs.YtnbhdjadlbhknaaGreatDoor.R
open Go.Ax
set_option maxRecDepth 1000000
theorem ok_len {p : Part} (h : partOk p = true) : p.recs.length ≤ 4096 ∧ p.prods.length ≤ 256 ∧ p.cons.length ≤ 64 := by
  obtain ⟨_, _, a, b, c, _⟩ := D.ok_parts h
  have h1 := log_len a
  simp [P.isTable] at b
  simp [isCons] at c
  exact ⟨h1, b.2, c.2⟩
theorem ok_po {p : Part} (h : partOk p = true) : PoOk p := by
  obtain ⟨h1, h2, h3⟩ := ok_len h
  have h4 := log_ow (D.ok_parts h).2.2.1
  exact ⟨h1, h4.v, by omega, by omega⟩
def dQ (p : Part) (c : Cmd) : Part := doQ p c (actQ p c) (actE p c)
def dX (p : Part) (c : Cmd) : Res := doX p c (actX p c) (actE p c)
theorem do_c (b : Bool) (p : Part) (c : Cmd) (h : PartIn p) (ho : 0 ≤ c.off ∧ c.off < 18446744073709551616) : (doT (dQ p c) (dX p c)).Sat (ACall' Tryz.prog 13 [.agg (encPt b p), .agg (encCm c)] []) := by
  have ha := ac_c p c h ho
  unfold dQ dX
  generalize actQ p c = q at *
  generalize actX p c = x at *
  generalize actE p c = e at *
  refine ctr_vc (ht := doH b p c ⟨q, x, e⟩) Tryz.mixed rfl ?_
  rw [vcDo_eq b p c ⟨q, x, e⟩ ⟨doQ p c q e, doX p c x e, 0⟩]
  unfold vcDo
  dsimp only
  have hr : ActR p c q x e := ⟨ha⟩
  have eb : ({ data := #[] } : ByteArray) = ByteArray.empty := rfl
  rw [eb]
  unfold doQ doX
  cases k0 : partOk p
  · simp [h]
    exact ⟨rfl, rfl, rfl, rfl, rfl, rfl, rfl⟩
  · have hp := ok_po k0
    cases k1 : wellB c
    · simp [h, hp]
    · by_cases k2 : c.epoch = p.epoch
      · by_cases k3 : e = 0
        · simp [h, hp, k2, k3, k3 ▸ hr]
        · simp [h, hp, k2, k3, hr]
      · simp [h, hp, k2]
structure DoR (p : Part) (c : Cmd) (q : Part) (x : Res) : Prop where
  q : q = dQ p c
  x : x = dX p c
  i : PartIn p
  o : 0 ≤ c.off ∧ c.off < 18446744073709551616
noncomputable def doC (b : Bool) (p : Part) (c : Cmd) (q : Part) (x : Res) : Ctr Tryz.prog := ⟨13, [.agg (encPt b p), .agg (encCm c)], [], .need (DoR p c q x) (doT q x), T.Sat.need fun h => by
  obtain ⟨rfl, rfl, h1, h2⟩ := h
  exact do_c b p c h1 h2⟩
end Go.Proofs.YtnbhdjadlbhknaaGreatDoor.R

namespace Go.Proofs.YtnbhdjadlbhknaaGreatDoor.R
open Go.Ax
set_option maxRecDepth 1000000
def byL (l : List Int) : List UInt8 := (List.range l.length).map fun k => UInt8.ofNat (l.getD k 0).toNat
def eqRc (x y : Rec) : Bool := x.off == y.off && (x.key.data.toList == y.key.data.toList && (byL x.val == byL y.val && (x.prod == y.prod && x.seq == y.seq)))
def sameF (a b : List Rec) (k : Nat) : Bool := (List.range' k (a.length - k)).all fun j => eqRc (a.getD j default) (b.getD j default)
def smT (b1 b2 : Bool) (a b : List Rec) (k : Nat) : List AV := mkT 82 [(0, encRs b1 a), (1, encRs b2 b), (4, .s (.bool false)), (5, .y (.int .i64 k))]
def smS (r : Bool) : Exit × List AV × List Blk := match r with
  | true => (.exit 0, mkT 82 [], [])
  | false => (.ret, mkT 82 [(4, .s (.bool false))], [])
def smO (a b : List Rec) (k : Nat) : T Bool := .ite (sameF a b k) (.ret true) (.ret false)
def vcSmL (b1 : Bool) (b2 : Bool) (a : List Rec) (b : List Rec) (k : Nat) : Prop :=
  (decide ((↑k : Int) < (↑(List.length a) : Int)) = true → (true && decide ((↑k : Int) < (↑(List.length a) : Int))) = true ∧ (true && decide ((↑k : Int) < (↑(List.length b) : Int))) = true ∧ (((List.getD a (Int.toNat (↑k : Int)) (@default Rec instInhabitedRec)).off != (List.getD b (Int.toNat (↑k : Int)) (@default Rec instInhabitedRec)).off) = true → (sameF a b k = true → False) ∧ (sameF a b k = false → (false = false ∧ True) ∧ True ∧ true = true)) ∧ (((List.getD a (Int.toNat (↑k : Int)) (@default Rec instInhabitedRec)).off != (List.getD b (Int.toNat (↑k : Int)) (@default Rec instInhabitedRec)).off) = false → (true && decide ((↑k : Int) < (↑(List.length a) : Int))) = true ∧ (true && decide ((↑k : Int) < (↑(List.length b) : Int))) = true ∧ ((!(List.getD a (Int.toNat (↑k : Int)) (@default Rec instInhabitedRec)).key.data.toList == (List.getD b (Int.toNat (↑k : Int)) (@default Rec instInhabitedRec)).key.data.toList) = true → (sameF a b k = true → False) ∧ (sameF a b k = false → (false = false ∧ True) ∧ True ∧ true = true)) ∧ ((!(List.getD a (Int.toNat (↑k : Int)) (@default Rec instInhabitedRec)).key.data.toList == (List.getD b (Int.toNat (↑k : Int)) (@default Rec instInhabitedRec)).key.data.toList) = false → (true && decide ((↑k : Int) < (↑(List.length a) : Int))) = true ∧ (∀ (k_1 : Nat), k_1 < List.length (List.getD a (Int.toNat (↑k : Int)) (@default Rec instInhabitedRec)).val → true = true) ∧ (true && decide ((↑k : Int) < (↑(List.length b) : Int))) = true ∧ (∀ (k_1 : Nat), k_1 < List.length (List.getD b (Int.toNat (↑k : Int)) (@default Rec instInhabitedRec)).val → true = true) ∧ ((!List.map (fun (a : AV) => match match a with | AV.s (Value.int IntKind.u8 n) => some n | AV.y (Value.int IntKind.u8 n) => some n | x => none with | some n => UInt8.ofNat (Int.toNat n) | none => (0 : UInt8)) (List.map (fun (k_1 : Nat) => AV.y (Value.int IntKind.u8 (List.getD (List.getD a (Int.toNat (↑k : Int)) (@default Rec instInhabitedRec)).val k_1 (0 : Int)))) (List.range (List.length (List.getD a (Int.toNat (↑k : Int)) (@default Rec instInhabitedRec)).val))) == List.map (fun (a : AV) => match match a with | AV.s (Value.int IntKind.u8 n) => some n | AV.y (Value.int IntKind.u8 n) => some n | x => none with | some n => UInt8.ofNat (Int.toNat n) | none => (0 : UInt8)) (List.map (fun (k_1 : Nat) => AV.y (Value.int IntKind.u8 (List.getD (List.getD b (Int.toNat (↑k : Int)) (@default Rec instInhabitedRec)).val k_1 (0 : Int)))) (List.range (List.length (List.getD b (Int.toNat (↑k : Int)) (@default Rec instInhabitedRec)).val)))) = true → (sameF a b k = true → False) ∧ (sameF a b k = false → (false = false ∧ True) ∧ True ∧ true = true)) ∧ ((!List.map (fun (a : AV) => match match a with | AV.s (Value.int IntKind.u8 n) => some n | AV.y (Value.int IntKind.u8 n) => some n | x => none with | some n => UInt8.ofNat (Int.toNat n) | none => (0 : UInt8)) (List.map (fun (k_1 : Nat) => AV.y (Value.int IntKind.u8 (List.getD (List.getD a (Int.toNat (↑k : Int)) (@default Rec instInhabitedRec)).val k_1 (0 : Int)))) (List.range (List.length (List.getD a (Int.toNat (↑k : Int)) (@default Rec instInhabitedRec)).val))) == List.map (fun (a : AV) => match match a with | AV.s (Value.int IntKind.u8 n) => some n | AV.y (Value.int IntKind.u8 n) => some n | x => none with | some n => UInt8.ofNat (Int.toNat n) | none => (0 : UInt8)) (List.map (fun (k_1 : Nat) => AV.y (Value.int IntKind.u8 (List.getD (List.getD b (Int.toNat (↑k : Int)) (@default Rec instInhabitedRec)).val k_1 (0 : Int)))) (List.range (List.length (List.getD b (Int.toNat (↑k : Int)) (@default Rec instInhabitedRec)).val)))) = false → (true && decide ((↑k : Int) < (↑(List.length a) : Int))) = true ∧ (true && decide ((↑k : Int) < (↑(List.length b) : Int))) = true ∧ (((List.getD a (Int.toNat (↑k : Int)) (@default Rec instInhabitedRec)).prod != (List.getD b (Int.toNat (↑k : Int)) (@default Rec instInhabitedRec)).prod) = true → (sameF a b k = true → False) ∧ (sameF a b k = false → (false = false ∧ True) ∧ True ∧ true = true)) ∧ (((List.getD a (Int.toNat (↑k : Int)) (@default Rec instInhabitedRec)).prod != (List.getD b (Int.toNat (↑k : Int)) (@default Rec instInhabitedRec)).prod) = false → (true && decide ((↑k : Int) < (↑(List.length a) : Int))) = true ∧ (true && decide ((↑k : Int) < (↑(List.length b) : Int))) = true ∧ (((List.getD a (Int.toNat (↑k : Int)) (@default Rec instInhabitedRec)).seq != (List.getD b (Int.toNat (↑k : Int)) (@default Rec instInhabitedRec)).seq) = true → (sameF a b k = true → False) ∧ (sameF a b k = false → (false = false ∧ True) ∧ True ∧ true = true)) ∧ (((List.getD a (Int.toNat (↑k : Int)) (@default Rec instInhabitedRec)).seq != (List.getD b (Int.toNat (↑k : Int)) (@default Rec instInhabitedRec)).seq) = false → ∃ (j : Nat), List.length a - j < List.length a - k ∧ (((b1 = b1 ∧ List.length a = List.length a ∧ contLe (List.length a) (5 : Nat) (cellsOf' encR a) (cellsOf' encR a)) ∧ (b2 = b2 ∧ List.length b = List.length b ∧ contLe (List.length b) (5 : Nat) (cellsOf' encR b) (cellsOf' encR b)) ∧ false = false ∧ IntKind.wrap IntKind.i64 ((↑k : Int) + (1 : Int)) = (↑j : Int) ∧ True) ∧ True ∧ true = true) ∧ true = true ∧ (sameF a b j = true → (sameF a b k = true → true = true) ∧ (sameF a b k = false → true = false)) ∧ (sameF a b j = false → (sameF a b k = true → false = true) ∧ (sameF a b k = false → false = false)))))))) ∧ (decide ((↑k : Int) < (↑(List.length a) : Int)) = false → (sameF a b k = true → True ∧ True ∧ true = true) ∧ (sameF a b k = false → False))
theorem vcSmL_eq (b1 : Bool) (b2 : Bool) (a : List Rec) (b : List Rec) (k : Nat) : (loopVC Tryz.prog (hT _) 73 4 (fun k => a.length - k) (smT b1 b2 a b) (fun _ => []) [0, 1] (smO a b) smS k) = vcSmL b1 b2 a b k := by kernel_rfl
def eqCc (x y : Con) : Bool := x.name.data.toList == y.name.data.toList && x.off == y.off
def sameG (a b : List Con) (k : Nat) : Bool := (List.range' k (a.length - k)).all fun j => eqCc (a.getD j default) (b.getD j default)
def scT (b1 b2 : Bool) (a b : List Con) (k : Nat) : List AV := mkT 26 [(0, encCs b1 a), (1, encCs b2 b), (4, .s (.bool false)), (5, .y (.int .i64 k))]
def scS (r : Bool) : Exit × List AV × List Blk := match r with
  | true => (.exit 0, mkT 26 [], [])
  | false => (.ret, mkT 26 [(4, .s (.bool false))], [])
def scO (a b : List Con) (k : Nat) : T Bool := .ite (sameG a b k) (.ret true) (.ret false)
def vcScL (b1 : Bool) (b2 : Bool) (a : List Con) (b : List Con) (k : Nat) : Prop :=
  (decide ((↑k : Int) < (↑(List.length a) : Int)) = true → (true && decide ((↑k : Int) < (↑(List.length a) : Int))) = true ∧ (true && decide ((↑k : Int) < (↑(List.length b) : Int))) = true ∧ ((!((List.getD a (Int.toNat (↑k : Int)) (@default Con instInhabitedCon)).name.data.toList == (List.getD b (Int.toNat (↑k : Int)) (@default Con instInhabitedCon)).name.data.toList && ((List.getD a (Int.toNat (↑k : Int)) (@default Con instInhabitedCon)).off == (List.getD b (Int.toNat (↑k : Int)) (@default Con instInhabitedCon)).off && true))) = true → (sameG a b k = true → False) ∧ (sameG a b k = false → (false = false ∧ True) ∧ True ∧ true = true)) ∧ ((!((List.getD a (Int.toNat (↑k : Int)) (@default Con instInhabitedCon)).name.data.toList == (List.getD b (Int.toNat (↑k : Int)) (@default Con instInhabitedCon)).name.data.toList && ((List.getD a (Int.toNat (↑k : Int)) (@default Con instInhabitedCon)).off == (List.getD b (Int.toNat (↑k : Int)) (@default Con instInhabitedCon)).off && true))) = false → ∃ (j : Nat), List.length a - j < List.length a - k ∧ (((b1 = b1 ∧ List.length a = List.length a ∧ contLe (List.length a) (2 : Nat) (cellsOf' encC a) (cellsOf' encC a)) ∧ (b2 = b2 ∧ List.length b = List.length b ∧ contLe (List.length b) (2 : Nat) (cellsOf' encC b) (cellsOf' encC b)) ∧ false = false ∧ IntKind.wrap IntKind.i64 ((↑k : Int) + (1 : Int)) = (↑j : Int) ∧ True) ∧ True ∧ true = true) ∧ true = true ∧ (sameG a b j = true → (sameG a b k = true → true = true) ∧ (sameG a b k = false → true = false)) ∧ (sameG a b j = false → (sameG a b k = true → false = true) ∧ (sameG a b k = false → false = false)))) ∧ (decide ((↑k : Int) < (↑(List.length a) : Int)) = false → (sameG a b k = true → True ∧ True ∧ true = true) ∧ (sameG a b k = false → False))
theorem vcScL_eq (b1 : Bool) (b2 : Bool) (a : List Con) (b : List Con) (k : Nat) : (loopVC Tryz.prog (hT _) 75 4 (fun k => a.length - k) (scT b1 b2 a b) (fun _ => []) [0, 1] (scO a b) scS k) = vcScL b1 b2 a b k := by kernel_rfl
end Go.Proofs.YtnbhdjadlbhknaaGreatDoor.R

namespace Go.Proofs.YtnbhdjadlbhknaaGreatDoor.R
open Go.Ax
set_option maxRecDepth 1000000
theorem sameG_end {a b : List Con} {k : Nat} (h : a.length ≤ k) : sameG a b k = true := by
  unfold sameG
  rw [show a.length - k = 0 by omega]; rfl
theorem sameG_step {a b : List Con} {k : Nat} (h : k < a.length) : sameG a b k = (eqCc (a.getD k default) (b.getD k default) && sameG a b (k + 1)) := by
  unfold sameG
  rw [show a.length - k = (a.length - (k + 1)) + 1 by omega, List.range'_succ]; rfl
theorem sameF_end {a b : List Rec} {k : Nat} (h : a.length ≤ k) : sameF a b k = true := by
  unfold sameF
  rw [show a.length - k = 0 by omega]; rfl
theorem sameF_step {a b : List Rec} {k : Nat} (h : k < a.length) : sameF a b k = (eqRc (a.getD k default) (b.getD k default) && sameF a b (k + 1)) := by
  unfold sameF
  rw [show a.length - k = (a.length - (k + 1)) + 1 by omega, List.range'_succ]; rfl
theorem sc_loop (b1 b2 : Bool) (a b : List Con) (hl : a.length ≤ 9223372036854775806) (he : a.length = b.length) (k : Nat) : LoopOk Tryz.prog 75 4 (loopAt Tryz.prog 75 4) ⟨scT b1 b2 a b k, [], []⟩ ((scO a b k).map (lout [0, 1] scS)) := by
  refine loop_vc Tryz.mixed (fun _ => rfl) (fun k => (vcScL_eq b1 b2 a b k).mpr ?_) k
  unfold vcScL
  by_cases h : k < a.length
  · have hz : decide ((k : Int) < a.length) = true := by simp; omega
    have hz2 : decide ((k : Int) < b.length) = true := by simp; omega
    have hw : IntKind.i64.wrap ((k : Int) + 1) = ((k + 1 : Nat) : Int) := by rw [wrap_i64 (by omega) (by omega)]; omega
    rw [sameG_step h, Int.toNat_natCast]
    simp only [hz, hz2, hw]
    unfold eqCc
    generalize ((a.getD k default).name.data.toList == (b.getD k default).name.data.toList) = q1
    generalize ((a.getD k default).off == (b.getD k default).off) = q2
    cases q1 <;> cases q2 <;> simp
    exact ⟨k + 1, by omega, by omega, by simp⟩
  · have hz : decide ((k : Int) < a.length) = false := by simp; omega
    simp only [hz, sameG_end (b := b) (Nat.le_of_not_lt h)]
    simp
theorem sm_loop (b1 b2 : Bool) (a b : List Rec) (hl : a.length ≤ 9223372036854775806) (he : a.length = b.length) (k : Nat) : LoopOk Tryz.prog 73 4 (loopAt Tryz.prog 73 4) ⟨smT b1 b2 a b k, [], []⟩ ((smO a b k).map (lout [0, 1] smS)) := by
  refine loop_vc Tryz.mixed (fun _ => rfl) (fun k => (vcSmL_eq b1 b2 a b k).mpr ?_) k
  unfold vcSmL
  by_cases h : k < a.length
  · have hz : decide ((k : Int) < a.length) = true := by simp; omega
    have hz2 : decide ((k : Int) < b.length) = true := by simp; omega
    have hw : IntKind.i64.wrap ((k : Int) + 1) = ((k + 1 : Nat) : Int) := by rw [wrap_i64 (by omega) (by omega)]; omega
    rw [sameF_step h, Int.toNat_natCast]
    simp only [hz, hz2, hw, List.map_map, Function.comp_def]
    unfold eqRc byL
    generalize ((a.getD k default).key.data.toList == (b.getD k default).key.data.toList) = q1
    generalize (List.map (fun (i : Nat) => UInt8.ofNat (Int.toNat (List.getD (a.getD k default).val i 0))) (List.range (a.getD k default).val.length) == List.map (fun (i : Nat) => UInt8.ofNat (Int.toNat (List.getD (b.getD k default).val i 0))) (List.range (b.getD k default).val.length)) = q2
    have n1 : ((a.getD k default).off != (b.getD k default).off) = !((a.getD k default).off == (b.getD k default).off) := rfl
    have n2 : ((a.getD k default).prod != (b.getD k default).prod) = !((a.getD k default).prod == (b.getD k default).prod) := rfl
    have n3 : ((a.getD k default).seq != (b.getD k default).seq) = !((a.getD k default).seq == (b.getD k default).seq) := rfl
    rw [n1, n2, n3]
    generalize ((a.getD k default).off == (b.getD k default).off) = q3
    generalize ((a.getD k default).prod == (b.getD k default).prod) = q4
    generalize ((a.getD k default).seq == (b.getD k default).seq) = q5
    cases q1 <;> cases q2 <;> cases q3 <;> cases q4 <;> cases q5 <;> simp
    exact ⟨k + 1, by omega, by omega, by simp⟩
  · have hz : decide ((k : Int) < a.length) = false := by simp; omega
    simp only [hz, sameF_end (b := b) (Nat.le_of_not_lt h)]
    simp
end Go.Proofs.YtnbhdjadlbhknaaGreatDoor.R

namespace Go.Proofs.YtnbhdjadlbhknaaGreatDoor.P
open Go.Ax
set_option maxRecDepth 1000000
noncomputable def sameN (b1 b2 : Bool) (a b : List Producer) : Ctr Tryz.prog := ⟨74, [encPs b1 a, encPs b2 b], [], .need (a.length ≤ 9223372036854775806) (smR a b), T.Sat.need fun h => same_c b1 b2 a b h⟩
structure Two where
  a : List Producer
  b : List Producer
  ta : List Int
  tb : List Int
structure Two.Ok (x : Two) : Prop where
  a : x.a.length * 32 ≤ 140737488355200
  b : x.b.length * 32 ≤ 140737488355200
  ta : x.ta.length ≤ 9223372036854775806
  tb : x.tb.length ≤ 9223372036854775806
  oa : ∀ y ∈ x.a, 0 ≤ y.offset ∧ y.offset < 18446744073709551616
  ob : ∀ y ∈ x.b, 0 ≤ y.offset ∧ y.offset < 18446744073709551616
end Go.Proofs.YtnbhdjadlbhknaaGreatDoor.P

namespace Go.Proofs.YtnbhdjadlbhknaaGreatDoor.R
open Go.Ax
set_option maxRecDepth 1000000
def sameRs (a b : List Rec) : Bool := (a.length == b.length) && sameF a b 0
def sameCs (a b : List Con) : Bool := (a.length == b.length) && sameG a b 0
noncomputable def smH (b1 b2 : Bool) (a b : List Rec) : HintsT Tryz.prog := hh _ (lp1 73 4 (jobOf (smT b1 b2 a b) (fun _ => []) [0, 1] (smO a b) smS 0) noLp) noCs noOp
def vcSm (b1 : Bool) (b2 : Bool) (a : List Rec) (b : List Rec) : Prop :=
  (((↑(List.length a) : Int) != (↑(List.length b) : Int)) = true → false = sameRs a b ∧ True) ∧ (((↑(List.length a) : Int) != (↑(List.length b) : Int)) = false → (((b1 = b1 ∧ List.length a = List.length a ∧ contLe (List.length a) (5 : Nat) (cellsOf' encR a) (cellsOf' encR a)) ∧ (b2 = b2 ∧ List.length b = List.length b ∧ contLe (List.length b) (5 : Nat) (cellsOf' encR b) (cellsOf' encR b)) ∧ false = false ∧ (0 : Int) = (0 : Int) ∧ True) ∧ True ∧ true = true) ∧ LoopOk Tryz.prog (73 : Nat) (4 : Nat) (loopAt Tryz.prog (73 : Nat) (4 : Nat)) { t := smT b1 b2 a b (0 : Nat), m := [], mv := [] : St } (T.map (lout [(0 : Nat), (1 : Nat)] smS) (smO a b (0 : Nat))) ∧ (sameF a b (0 : Nat) = true → true = sameRs a b ∧ True) ∧ (sameF a b (0 : Nat) = false → false = sameRs a b ∧ True))
theorem vcSm_eq (b1 : Bool) (b2 : Bool) (a : List Rec) (b : List Rec) : (ctrVC Tryz.prog (smH b1 b2 a b) 73 [encRs b1 a, encRs b2 b] [] (boolR (sameRs a b))) = vcSm b1 b2 a b := by kernel_rfl
noncomputable def scH (b1 b2 : Bool) (a b : List Con) : HintsT Tryz.prog := hh _ (lp1 75 4 (jobOf (scT b1 b2 a b) (fun _ => []) [0, 1] (scO a b) scS 0) noLp) noCs noOp
def vcSc (b1 : Bool) (b2 : Bool) (a : List Con) (b : List Con) : Prop :=
  (((↑(List.length a) : Int) != (↑(List.length b) : Int)) = true → false = sameCs a b ∧ True) ∧ (((↑(List.length a) : Int) != (↑(List.length b) : Int)) = false → (((b1 = b1 ∧ List.length a = List.length a ∧ contLe (List.length a) (2 : Nat) (cellsOf' encC a) (cellsOf' encC a)) ∧ (b2 = b2 ∧ List.length b = List.length b ∧ contLe (List.length b) (2 : Nat) (cellsOf' encC b) (cellsOf' encC b)) ∧ false = false ∧ (0 : Int) = (0 : Int) ∧ True) ∧ True ∧ true = true) ∧ LoopOk Tryz.prog (75 : Nat) (4 : Nat) (loopAt Tryz.prog (75 : Nat) (4 : Nat)) { t := scT b1 b2 a b (0 : Nat), m := [], mv := [] : St } (T.map (lout [(0 : Nat), (1 : Nat)] scS) (scO a b (0 : Nat))) ∧ (sameG a b (0 : Nat) = true → true = sameCs a b ∧ True) ∧ (sameG a b (0 : Nat) = false → false = sameCs a b ∧ True))
theorem vcSc_eq (b1 : Bool) (b2 : Bool) (a : List Con) (b : List Con) : (ctrVC Tryz.prog (scH b1 b2 a b) 75 [encCs b1 a, encCs b2 b] [] (boolR (sameCs a b))) = vcSc b1 b2 a b := by kernel_rfl
theorem sm_c (b1 b2 : Bool) (a b : List Rec) (hl : a.length ≤ 9223372036854775806) : (boolR (sameRs a b)).Sat (ACall' Tryz.prog 73 [encRs b1 a, encRs b2 b] []) := by
  refine ctr_vc (ht := smH b1 b2 a b) Tryz.mixed rfl ?_
  rw [vcSm_eq b1 b2 a b]
  unfold vcSm
  by_cases he : a.length = b.length
  · have := sm_loop b1 b2 a b hl he 0
    simp [sameRs, he, this]
  · have he' : ¬ ((a.length : Int) = b.length) := by omega
    simp [sameRs, he, he']
theorem sc_c (b1 b2 : Bool) (a b : List Con) (hl : a.length ≤ 9223372036854775806) : (boolR (sameCs a b)).Sat (ACall' Tryz.prog 75 [encCs b1 a, encCs b2 b] []) := by
  refine ctr_vc (ht := scH b1 b2 a b) Tryz.mixed rfl ?_
  rw [vcSc_eq b1 b2 a b]
  unfold vcSc
  by_cases he : a.length = b.length
  · have := sc_loop b1 b2 a b hl he 0
    simp [sameCs, he, this]
  · have he' : ¬ ((a.length : Int) = b.length) := by omega
    simp [sameCs, he, he']
end Go.Proofs.YtnbhdjadlbhknaaGreatDoor.R

namespace Go.Proofs.YtnbhdjadlbhknaaGreatDoor.R
open Go.Ax
set_option maxRecDepth 1000000
noncomputable def smC (b1 b2 : Bool) (a b : List Rec) : Ctr Tryz.prog := ⟨73, [encRs b1 a, encRs b2 b], [], .need (a.length ≤ 9223372036854775806) (boolR (sameRs a b)), T.Sat.need fun h => sm_c b1 b2 a b h⟩
noncomputable def scC' (b1 b2 : Bool) (a b : List Con) : Ctr Tryz.prog := ⟨75, [encCs b1 a, encCs b2 b], [], .need (a.length ≤ 9223372036854775806) (boolR (sameCs a b)), T.Sat.need fun h => sc_c b1 b2 a b h⟩
def samePt (p q : Part) : Bool := sameRs p.recs q.recs && (P.sameP p.prods q.prods && (sameCs p.cons q.cons && ((p.rng.lo.data.toList == q.rng.lo.data.toList && p.rng.hi.data.toList == q.rng.hi.data.toList) && (p.epoch == q.epoch && p.frozen == q.frozen))))
noncomputable def sptH (b1 b2 : Bool) (p q : Part) : HintsT Tryz.prog := hh _ noLp (cs1 19 1 4 (smC b1 b2 p.recs q.recs) (cs1 19 2 4 (P.sameN b1 b2 p.prods q.prods) (cs1 19 3 4 (scC' b1 b2 p.cons q.cons) noCs))) noOp
def vcSpt (b1 : Bool) (b2 : Bool) (p : Part) (q : Part) : Prop :=
  ((b1 = b1 ∧ List.length p.recs = List.length p.recs ∧ contLe (List.length p.recs) (5 : Nat) (cellsOf' encR p.recs) (cellsOf' encR p.recs)) ∧ (b2 = b2 ∧ List.length q.recs = List.length q.recs ∧ contLe (List.length q.recs) (5 : Nat) (cellsOf' encR q.recs) (cellsOf' encR q.recs)) ∧ True) ∧ True ∧ List.length p.recs ≤ (9223372036854775806 : Nat) ∧ ((b1 = b1 ∧ List.length p.prods = List.length p.prods ∧ contLe (List.length p.prods) (4 : Nat) (cellsOf' P.encP p.prods) (cellsOf' P.encP p.prods)) ∧ (b2 = b2 ∧ List.length q.prods = List.length q.prods ∧ contLe (List.length q.prods) (4 : Nat) (cellsOf' P.encP q.prods) (cellsOf' P.encP q.prods)) ∧ True) ∧ True ∧ List.length p.prods ≤ (9223372036854775806 : Nat) ∧ ((b1 = b1 ∧ List.length p.cons = List.length p.cons ∧ contLe (List.length p.cons) (2 : Nat) (cellsOf' encC p.cons) (cellsOf' encC p.cons)) ∧ (b2 = b2 ∧ List.length q.cons = List.length q.cons ∧ contLe (List.length q.cons) (2 : Nat) (cellsOf' encC q.cons) (cellsOf' encC q.cons)) ∧ True) ∧ True ∧ List.length p.cons ≤ (9223372036854775806 : Nat) ∧ (sameRs p.recs q.recs = true → (P.sameP p.prods q.prods = true → (sameCs p.cons q.cons = true → ((p.rng.lo.data.toList == q.rng.lo.data.toList && (p.rng.hi.data.toList == q.rng.hi.data.toList && true)) = true → ((p.epoch == q.epoch) = true → (p.frozen == q.frozen) = samePt p q ∧ True) ∧ ((p.epoch == q.epoch) = false → false = samePt p q ∧ True)) ∧ ((p.rng.lo.data.toList == q.rng.lo.data.toList && (p.rng.hi.data.toList == q.rng.hi.data.toList && true)) = false → false = samePt p q ∧ True)) ∧ (sameCs p.cons q.cons = false → false = samePt p q ∧ True)) ∧ (P.sameP p.prods q.prods = false → false = samePt p q ∧ True)) ∧ (sameRs p.recs q.recs = false → false = samePt p q ∧ True)
theorem vcSpt_eq (b1 : Bool) (b2 : Bool) (p : Part) (q : Part) : (ctrVC Tryz.prog (sptH b1 b2 p q) 19 [.agg (encPt b1 p), .agg (encPt b2 q)] [] (boolR (samePt p q))) = vcSpt b1 b2 p q := by kernel_rfl
theorem spt_c (b1 b2 : Bool) (p q : Part) (h : PartIn p) : (boolR (samePt p q)).Sat (ACall' Tryz.prog 19 [.agg (encPt b1 p), .agg (encPt b2 q)] []) := by
  refine ctr_vc (ht := sptH b1 b2 p q) Tryz.mixed rfl ?_
  rw [vcSpt_eq b1 b2 p q]
  unfold vcSpt samePt
  have h1 := h.rl
  have h2 := h.pl
  have h3 := h.cl
  have g1 : p.recs.length ≤ 9223372036854775806 := by omega
  have g2 : p.prods.length ≤ 9223372036854775806 := by omega
  have g3 : p.cons.length ≤ 9223372036854775806 := by omega
  generalize sameRs p.recs q.recs = q1
  generalize P.sameP p.prods q.prods = q2
  generalize sameCs p.cons q.cons = q3
  generalize (p.rng.lo.data.toList == q.rng.lo.data.toList) = q4
  generalize (p.rng.hi.data.toList == q.rng.hi.data.toList) = q5
  generalize (p.epoch == q.epoch) = q6
  generalize (p.frozen == q.frozen) = q7
  cases q1 <;> cases q2 <;> cases q3 <;> cases q4 <;> cases q5 <;> cases q6 <;> simp [g1, g2, g3]
end Go.Proofs.YtnbhdjadlbhknaaGreatDoor.R

namespace Go.Proofs.YtnbhdjadlbhknaaGreatDoor.R
open Go.Ax
set_option maxRecDepth 1000000
def kS : ByteArray := ⟨#[107]⟩
def prC1 (s : Int) (k : ByteArray) : Cmd := ⟨1, 1, 7, s, k, [118], 0, 0, ByteArray.empty, 0⟩
def cmdR (c : Cmd) : T An := .ret (.agg (encCm c), [], [])
def vcPro (s : Int) (k : ByteArray) : Prop :=
  ((1 : Int) = (1 : Int) ∧ (1 : Int) = (1 : Int) ∧ (7 : Int) = (7 : Int) ∧ s = s ∧ k = k ∧ (true = true ∧ (1 : Nat) = (1 : Nat) ∧ contLe (1 : Nat) (1 : Nat) (Ax.rowAt (0 : Nat) fun (k j : Nat) => Ax.get [AV.s (Value.int IntKind.u8 (118 : Int))] (k * (1 : Nat) + j)) (cellsOf' encB [(118 : Int)])) ∧ (0 : Int) = (0 : Int) ∧ (0 : Int) = (0 : Int) ∧ { data := #[] : ByteArray } = ByteArray.empty ∧ (0 : Int) = (0 : Int) ∧ True) ∧ True
theorem vcPro_eq (s : Int) (k : ByteArray) : (ctrVC Tryz.prog (hT _) 12 [.y (.int .u64 s), .y (.string k)] [] (cmdR (prC1 s k))) = vcPro s k := by kernel_rfl
theorem pro_c (s : Int) (k : ByteArray) : (cmdR (prC1 s k)).Sat (ACall' Tryz.prog 12 [.y (.int .u64 s), .y (.string k)] []) := by
  refine ctr_vc (ht := hT _) Tryz.mixed rfl ?_
  rw [vcPro_eq s k]
  unfold vcPro
  have eb : ({ data := #[] } : ByteArray) = ByteArray.empty := rfl
  simp [eb]
  intro i hi j hj
  obtain rfl : i = 0 := by omega
  obtain rfl : j = 0 := by omega
  exact rfl
noncomputable def proC (s : Int) (k : ByteArray) : Ctr Tryz.prog := ⟨12, [.y (.int .u64 s), .y (.string k)], [], cmdR (prC1 s k), pro_c s k⟩
def p0 : Part := ⟨⟨ByteArray.empty, ByteArray.empty⟩, 1, 0, [], [], []⟩
def q0 : Part := ⟨⟨ByteArray.empty, ByteArray.empty⟩, 1, 0, [⟨0, kS, [118], 7, 1⟩], [⟨7, 1, true, 0⟩], []⟩
noncomputable def lvH : HintsT Tryz.prog := hh _ noLp (cs1 10 2 1 (proC 1 kS) (cs1 10 2 2 (doC true p0 (prC1 1 kS) q0 ⟨0, 0, false, []⟩) (cs1 10 3 1 (proC 1 kS) (cs1 10 3 2 (doC true q0 (prC1 1 kS) q0 ⟨0, 0, true, []⟩) noCs)))) noOp
def vcLv (u : Unit) : Prop :=
  ((1 : Int) = (1 : Int) ∧ { data := #[(107 : UInt8)] : ByteArray } = kS ∧ True) ∧ True ∧ (({ data := #[] : ByteArray } = ByteArray.empty ∧ { data := #[] : ByteArray } = ByteArray.empty ∧ (1 : Int) = (1 : Int) ∧ (0 : Int) = (0 : Int) ∧ (0 : Nat) = (0 : Nat) ∧ (0 : Nat) = (0 : Nat) ∧ (0 : Nat) = (0 : Nat) ∧ True) ∧ ((1 : Int) = (1 : Int) ∧ (1 : Int) = (1 : Int) ∧ (7 : Int) = (7 : Int) ∧ (1 : Int) = (1 : Int) ∧ kS = kS ∧ (true = true ∧ (1 : Nat) = (1 : Nat) ∧ contLe (1 : Nat) (1 : Nat) (cellsOf' encB [(118 : Int)]) (cellsOf' encB [(118 : Int)])) ∧ (0 : Int) = (0 : Int) ∧ (0 : Int) = (0 : Int) ∧ ByteArray.empty = ByteArray.empty ∧ (0 : Int) = (0 : Int) ∧ True) ∧ True) ∧ True ∧ DoR p0 (prC1 (1 : Int) kS) q0 { err := (0 : Int), off := (0 : Int), old := false, recs := [] : Res } ∧ ((1 : Int) = (1 : Int) ∧ { data := #[(107 : UInt8)] : ByteArray } = kS ∧ True) ∧ True ∧ ((ByteArray.empty = ByteArray.empty ∧ ByteArray.empty = ByteArray.empty ∧ (1 : Int) = (1 : Int) ∧ (0 : Int) = (0 : Int) ∧ (true = true ∧ (1 : Nat) = (1 : Nat) ∧ contLe (1 : Nat) (5 : Nat) (cellsOf' encR [{ off := (0 : Int), key := kS, val := [(118 : Int)], prod := (7 : Int), seq := (1 : Int) : Rec }]) (cellsOf' encR [{ off := (0 : Int), key := kS, val := [(118 : Int)], prod := (7 : Int), seq := (1 : Int) : Rec }])) ∧ (true = true ∧ (1 : Nat) = (1 : Nat) ∧ contLe (1 : Nat) (4 : Nat) (cellsOf' P.encP [{ id := (7 : Int), seq := (1 : Int), here := true, offset := (0 : Int) : P.Producer }]) (cellsOf' P.encP [{ id := (7 : Int), seq := (1 : Int), here := true, offset := (0 : Int) : P.Producer }])) ∧ (true = true ∧ (0 : Nat) = (0 : Nat) ∧ contLe (0 : Nat) (2 : Nat) (cellsOf' encC []) (cellsOf' encC [])) ∧ True) ∧ ((1 : Int) = (1 : Int) ∧ (1 : Int) = (1 : Int) ∧ (7 : Int) = (7 : Int) ∧ (1 : Int) = (1 : Int) ∧ kS = kS ∧ (true = true ∧ (1 : Nat) = (1 : Nat) ∧ contLe (1 : Nat) (1 : Nat) (cellsOf' encB [(118 : Int)]) (cellsOf' encB [(118 : Int)])) ∧ (0 : Int) = (0 : Int) ∧ (0 : Int) = (0 : Int) ∧ ByteArray.empty = ByteArray.empty ∧ (0 : Int) = (0 : Int) ∧ True) ∧ True) ∧ True ∧ DoR q0 (prC1 (1 : Int) kS) q0 { err := (0 : Int), off := (0 : Int), old := true, recs := [] : Res } ∧ (true = true → (true = true → (true = true → true = true ∧ True) ∧ (true = false → false = true ∧ True)) ∧ (true = false → false = true ∧ True)) ∧ (true = false → false = true ∧ True)
theorem vcLv_eq (u : Unit) : (ctrVC Tryz.prog lvH 10 [] [] (boolR true)) = vcLv u := by kernel_rfl
theorem in_p0 : PartIn p0 := ⟨by decide, by decide, by decide, fun k hk => by cases hk⟩
theorem in_q0 : PartIn q0 := ⟨by decide, by decide, by decide, fun k hk => by
  have hk : k < 1 := hk
  obtain rfl : k = 0 := by omega
  decide⟩
theorem do_p0 : DoR p0 (prC1 1 kS) q0 ⟨0, 0, false, []⟩ := ⟨by kernel_rfl, by kernel_rfl, in_p0, by decide⟩
theorem do_q0 : DoR q0 (prC1 1 kS) q0 ⟨0, 0, true, []⟩ := ⟨by kernel_rfl, by kernel_rfl, in_q0, by decide⟩
theorem lv_c : (boolR true).Sat (ACall' Tryz.prog 10 [] []) := by
  refine ctr_vc (ht := lvH) Tryz.mixed rfl ?_
  rw [vcLv_eq ()]
  unfold vcLv
  have eb : ({ data := #[] } : ByteArray) = ByteArray.empty := rfl
  have ek : ({ data := #[107] } : ByteArray) = kS := rfl
  have h1 := do_p0
  have h2 := do_q0
  simp [eb, ek, h1, h2]
noncomputable def livC : Ctr Tryz.prog := ⟨10, [], [], boolR true, lv_c⟩
end Go.Proofs.YtnbhdjadlbhknaaGreatDoor.R

namespace Go.Proofs.YtnbhdjadlbhknaaGreatDoor.P
open Go.Ax
set_option maxRecDepth 1000000
theorem judge_new (l : List Producer) (id seq : Int) : judgeV l id seq = 1 ↔ badN id seq = false ∧ (findI l id = false ∨ (findD l id).seq < seq) := by
  unfold judgeV
  cases hb : badN id seq
  · cases hf : findI l id
    · simp
    · by_cases h : (findD l id).seq < seq
      · simp [h]
      · simp [h]
        split <;> decide
  · simp
theorem mem_oth {l : List Producer} {x z : Producer} : z ∈ oth l x ↔ z ∈ l ∧ ¬ z.id = x.id := by
  unfold oth
  rw [List.mem_filter]
  simp [keep]
theorem mem_putL' {l : List Producer} {x z : Producer} : z ∈ putL l x ↔ z = x ∨ (z ∈ l ∧ ¬ z.id = x.id) := by
  rw [← mem_oth]
  unfold putL
  rw [List.mem_append, List.mem_cons]
  constructor
  · rintro (h | h | h)
    · exact Or.inr (List.mem_of_mem_take h)
    · exact Or.inl h
    · exact Or.inr (List.mem_of_mem_drop h)
  · rintro (h | h)
    · exact Or.inr (Or.inl h)
    · rw [← List.take_append_drop (below (oth l x) x.id) (oth l x), List.mem_append] at h
      rcases h with h | h
      · exact Or.inl h
      · exact Or.inr (Or.inr h)
theorem find_of {l : List Producer} {id : Int} (h : findI l id = true) : findD l id ∈ l ∧ (findD l id).id = id := by
  unfold findI at h
  unfold findD
  cases hf : l.find? (has id) with
  | none => rw [hf] at h; cases h
  | some x =>
    have h1 := List.find?_some hf
    have h2 := List.mem_of_find?_eq_some hf
    exact ⟨h2, by simpa [has] using h1⟩
theorem find_none {l : List Producer} {id : Int} (h : findI l id = false) : ∀ x ∈ l, ¬ x.id = id := by
  intro x hx hid
  unfold findI at h
  have : (l.find? (has id)).isSome = true := by
    rw [List.find?_isSome]
    exact ⟨x, hx, by simp [has, hid]⟩
  rw [h] at this; cases this
theorem pw_unique {l : List Producer} (h : l.Pairwise (fun a b => a.id < b.id)) : ∀ {x y : Producer}, x ∈ l → y ∈ l → x.id = y.id → x = y := by
  induction h with
  | nil => intro x y hx; cases hx
  | cons h1 _ ih =>
    intro x y hx hy e
    rcases List.mem_cons.1 hx with e1 | hx' <;> rcases List.mem_cons.1 hy with e2 | hy'
    · rw [e1, e2]
    · have := h1 _ hy'; rw [← e1] at this; omega
    · have := h1 _ hx'; rw [← e2] at this; omega
    · exact ih hx' hy' e
def fresh (l : List Producer) (id seq : Int) : Prop := ∀ x ∈ l, x.id = id → x.seq < seq
theorem judge_fresh {l : List Producer} (h : rising l) (id seq : Int) : judgeV l id seq = 1 ↔ badN id seq = false ∧ fresh l id seq := by
  rw [judge_new]
  refine and_congr Iff.rfl ?_
  cases hf : findI l id
  · exact ⟨fun _ x hx e => absurd e (find_none hf x hx), fun _ => Or.inl rfl⟩
  · have ⟨h1, h2⟩ := find_of hf
    constructor
    · rintro (h3 | h3)
      · cases h3
      · intro x hx e
        rw [pw_unique ((rising_pw l).1 h) hx h1 (by omega)]; exact h3
    · intro h3
      exact Or.inr (h3 _ h1 h2)
def good (x : Producer) : Prop := ¬ x.id = 0 ∧ 1 ≤ x.seq ∧ x.seq ≤ 9223372036854775807 ∧ (x.here = true ∨ x.offset = 0)
theorem table_iff (l : List Producer) : isTable l = true ↔ (∀ x ∈ l, good x) ∧ rising l ∧ l.length ≤ 256 := by
  constructor
  · intro h
    have hr := table_rising h
    unfold isTable at h
    rw [Bool.and_eq_true, decide_eq_true_eq] at h
    refine ⟨fun x hx => ?_, hr, h.2⟩
    obtain ⟨i, hi, rfl⟩ := List.mem_iff_getElem.1 hx
    have := okFrom_all _ 0 rfl h.1 i (Nat.zero_le _) hi
    simp [okP, hi] at this
    unfold good
    grind
  · rintro ⟨h1, h2, h3⟩
    unfold isTable
    rw [Bool.and_eq_true, decide_eq_true_eq]
    refine ⟨?_, h3⟩
    unfold okFrom
    rw [List.all_eq_true]
    intro j hj
    have hj' : j < l.length := by
      simp at hj; exact hj
    have hg := h1 l[j] (List.getElem_mem hj')
    unfold good at hg
    simp [okP, hj']
    have hr : 0 < j → (l[j - 1]?.getD default).id < l[j].id := fun h => by
      have := h2 (j - 1) j (by omega) hj'
      simpa [hj'] using this
    grind
end Go.Proofs.YtnbhdjadlbhknaaGreatDoor.P
