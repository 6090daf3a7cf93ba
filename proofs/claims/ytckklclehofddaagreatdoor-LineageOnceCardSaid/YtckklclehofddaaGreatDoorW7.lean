import Derived.Test.YtckklclehofddaaGreatDoorRows
import Derived.Test.YtckklclehofddaaGreatDoorTie
import Derived.Test.YtckklclehofddaaGreatDoorCards
import Derived.OpenShut
import Derived.Lay
import Derived.Handed
import Derived.SevenTiedAt
import Derived.Test.YtckklclehofddaaGreatDoorE10
import Derived.Test.YtckklclehofddaaGreatDoorW4
import Derived.Test.YtckklclehofddaaGreatDoorW5
import Derived.Test.YtckklclehofddaaGreatDoorW6
set_option linter.unusedVariables false
set_option linter.unusedSimpArgs false
set_option linter.unusedSectionVars false
/-! Lineage: the law Once: the conditions. -/
namespace Go.Proofs.YtckklclehofddaaGreatDoor.D
open Go.Ax
set_option maxRecDepth 1000000
structure Onc where
  p : Part
  k : ByteArray
  q : Part
  A : Part
  B : Part
  M : Part
  e : Int
  f : Int
structure SplR (p : Part) (k : ByteArray) (A B : Part) (e : Int) : Prop where
  c : (T.ret (.tup [.agg (encPt true A), .agg (encPt true B), .y (.int .i64 e)], [], []) : T An).Sat (ACall' Tryz.prog 9 [.agg (encPt true p), .y (.string k)] [])
noncomputable def srC (p : Part) (k : ByteArray) (A B : Part) (e : Int) : Ctr Tryz.prog := ⟨9, [.agg (encPt true p), .y (.string k)], [], .need (SplR p k A B e) (.ret (.tup [.agg (encPt true A), .agg (encPt true B), .y (.int .i64 e)], [], [])), T.Sat.need fun h => h.c⟩
structure MrgR (p q M : Part) (f : Int) : Prop where
  c : (T.ret (.tup [.agg (encPt true M), .y (.int .i64 f)], [], []) : T An).Sat (ACall' Tryz.prog 12 [.agg (encPt true p), .agg (encPt true q)] [])
noncomputable def mrC (p q M : Part) (f : Int) : Ctr Tryz.prog := ⟨12, [.agg (encPt true p), .agg (encPt true q)], [], .need (MrgR p q M f) (.ret (.tup [.agg (encPt true M), .y (.int .i64 f)], [], [])), T.Sat.need fun h => h.c⟩
noncomputable def juC (b : Bool) (l : List P.Producer) (id s : Int) : Ctr Tryz.prog := ⟨17, [P.encPs b l, .y (.int .u64 id), .y (.int .u64 s)], [], .need (l.length ≤ 9223372036854775806) (P.judgeR l id s), T.Sat.need fun h => P.judge_c b l id s h⟩
def xAt (x : Onc) (i : Nat) : P.Producer := if i < x.p.prods.length then x.p.prods.getD i default else x.q.prods.getD (i - x.p.prods.length) default
def s0 (y : P.Producer) : Int := (if 2 > y.seq then 2 else y.seq) - 2
def onB (x : Onc) (r : List (Nat × AV)) : List AV := mkT 142 ([(3, .ptr 0 0 0 0), (5, .ptr 1 0 0 0), (7, .y (.bool true)), (8, .ptr 2 0 0 0), (9, .ptr 3 0 0 0), (10, .y (.int .i64 x.e)), (11, .ptr 4 0 0 0), (12, .y (.int .i64 x.f))] ++ r)
def onT (x : Onc) (i : Nat) : List AV := onB x [(13, .y (.int .i64 i))]
def onM (x : Onc) : List Blk := [.box 30 (encPt true x.p), .box 30 (encPt true x.q), .box 30 (encPt true x.A), .box 30 (encPt true x.B), .box 30 (encPt true x.M)]
def oiT (x : Onc) (i : Nat) (s : Int) : List AV := onB x [(13, .y (.int .i64 i)), (14, .ptr 5 0 0 0), (15, .y (.int .u64 s))]
def oiM (x : Onc) (y : P.Producer) : List Blk := onM x ++ [.box 39 (P.encP y)]
def oiS (x : Onc) (i : Nat) (_ : Unit) : Exit × List AV × List Blk := (.exit 2, onB x [(13, .y (.int .i64 i))], onM x)
def onX : List Nat := [0, 1, 2, 3, 4, 5, 6, 7, 8, 9, 10]
noncomputable def oiH (x : Onc) (y : P.Producer) (s : Int) : HintsT Tryz.prog := hh _ noLp (cs1 7 14 5 (juC true x.A.prods y.id s) (cs1 7 15 5 (juC true x.B.prods y.id s) (cs1 7 16 5 (juC true x.M.prods y.id s) noCs))) noOp
def vcOi (x : Onc) (i : Nat) (y : P.Producer) (s : Int) : Prop :=
  (decide (s ≤ y.seq) = true → (decide (s ≤ (9223372036854775807 : Int)) = true → ((true = true ∧ List.length x.A.prods = List.length x.A.prods ∧ contLe (List.length x.A.prods) (4 : Nat) (cellsOf' P.encP x.A.prods) (cellsOf' P.encP x.A.prods)) ∧ y.id = y.id ∧ s = s ∧ True) ∧ True ∧ List.length x.A.prods ≤ (9223372036854775806 : Nat) ∧ ((true = true ∧ List.length x.B.prods = List.length x.B.prods ∧ contLe (List.length x.B.prods) (4 : Nat) (cellsOf' P.encP x.B.prods) (cellsOf' P.encP x.B.prods)) ∧ y.id = y.id ∧ s = s ∧ True) ∧ True ∧ List.length x.B.prods ≤ (9223372036854775806 : Nat) ∧ ((true = true ∧ List.length x.M.prods = List.length x.M.prods ∧ contLe (List.length x.M.prods) (4 : Nat) (cellsOf' P.encP x.M.prods) (cellsOf' P.encP x.M.prods)) ∧ y.id = y.id ∧ s = s ∧ True) ∧ True ∧ List.length x.M.prods ≤ (9223372036854775806 : Nat) ∧ ((x.e == (0 : Int)) = true → (decide ((↑i : Int) < (↑(List.length x.p.prods) : Int)) = true → ((P.judgeV x.A.prods y.id s == (1 : Int)) = true → False) ∧ ((P.judgeV x.A.prods y.id s == (1 : Int)) = false → ((P.judgeV x.B.prods y.id s == (1 : Int)) = true → False) ∧ ((P.judgeV x.B.prods y.id s == (1 : Int)) = false → ((P.judgeV x.A.prods y.id s == (2 : Int)) = true → ((P.judgeV x.B.prods y.id s == (2 : Int)) = true → False) ∧ ((P.judgeV x.B.prods y.id s == (2 : Int)) = false → ((x.f == (0 : Int)) = true → ((P.judgeV x.M.prods y.id s == (1 : Int)) = true → False) ∧ ((P.judgeV x.M.prods y.id s == (1 : Int)) = false → ∃ (j : Int), Int.toNat (y.seq + (1 : Int) - j) < Int.toNat (y.seq + (1 : Int) - s) ∧ ((((0 : Nat) = (0 : Nat) ∧ (0 : Nat) = (0 : Nat)) ∧ ((0 : Nat) = (0 : Nat) ∧ (0 : Nat) = (0 : Nat)) ∧ true = true ∧ ((0 : Nat) = (0 : Nat) ∧ (0 : Nat) = (0 : Nat)) ∧ ((0 : Nat) = (0 : Nat) ∧ (0 : Nat) = (0 : Nat)) ∧ x.e = x.e ∧ ((0 : Nat) = (0 : Nat) ∧ (0 : Nat) = (0 : Nat)) ∧ x.f = x.f ∧ (↑i : Int) = (↑i : Int) ∧ ((0 : Nat) = (0 : Nat) ∧ (0 : Nat) = (0 : Nat)) ∧ IntKind.wrap IntKind.u64 (s + (1 : Int)) = j ∧ True) ∧ ((x.p.rng.lo = x.p.rng.lo ∧ x.p.rng.hi = x.p.rng.hi ∧ x.p.epoch = x.p.epoch ∧ x.p.frozen = x.p.frozen ∧ (true = true ∧ List.length x.p.recs = List.length x.p.recs ∧ contLe (List.length x.p.recs) (5 : Nat) (cellsOf' encR x.p.recs) (cellsOf' encR x.p.recs)) ∧ (true = true ∧ List.length x.p.prods = List.length x.p.prods ∧ contLe (List.length x.p.prods) (4 : Nat) (cellsOf' P.encP x.p.prods) (cellsOf' P.encP x.p.prods)) ∧ (true = true ∧ List.length x.p.cons = List.length x.p.cons ∧ contLe (List.length x.p.cons) (2 : Nat) (cellsOf' encC x.p.cons) (cellsOf' encC x.p.cons)) ∧ True) ∧ (x.q.rng.lo = x.q.rng.lo ∧ x.q.rng.hi = x.q.rng.hi ∧ x.q.epoch = x.q.epoch ∧ x.q.frozen = x.q.frozen ∧ (true = true ∧ List.length x.q.recs = List.length x.q.recs ∧ contLe (List.length x.q.recs) (5 : Nat) (cellsOf' encR x.q.recs) (cellsOf' encR x.q.recs)) ∧ (true = true ∧ List.length x.q.prods = List.length x.q.prods ∧ contLe (List.length x.q.prods) (4 : Nat) (cellsOf' P.encP x.q.prods) (cellsOf' P.encP x.q.prods)) ∧ (true = true ∧ List.length x.q.cons = List.length x.q.cons ∧ contLe (List.length x.q.cons) (2 : Nat) (cellsOf' encC x.q.cons) (cellsOf' encC x.q.cons)) ∧ True) ∧ (x.A.rng.lo = x.A.rng.lo ∧ x.A.rng.hi = x.A.rng.hi ∧ x.A.epoch = x.A.epoch ∧ x.A.frozen = x.A.frozen ∧ (true = true ∧ List.length x.A.recs = List.length x.A.recs ∧ contLe (List.length x.A.recs) (5 : Nat) (cellsOf' encR x.A.recs) (cellsOf' encR x.A.recs)) ∧ (true = true ∧ List.length x.A.prods = List.length x.A.prods ∧ contLe (List.length x.A.prods) (4 : Nat) (cellsOf' P.encP x.A.prods) (cellsOf' P.encP x.A.prods)) ∧ (true = true ∧ List.length x.A.cons = List.length x.A.cons ∧ contLe (List.length x.A.cons) (2 : Nat) (cellsOf' encC x.A.cons) (cellsOf' encC x.A.cons)) ∧ True) ∧ (x.B.rng.lo = x.B.rng.lo ∧ x.B.rng.hi = x.B.rng.hi ∧ x.B.epoch = x.B.epoch ∧ x.B.frozen = x.B.frozen ∧ (true = true ∧ List.length x.B.recs = List.length x.B.recs ∧ contLe (List.length x.B.recs) (5 : Nat) (cellsOf' encR x.B.recs) (cellsOf' encR x.B.recs)) ∧ (true = true ∧ List.length x.B.prods = List.length x.B.prods ∧ contLe (List.length x.B.prods) (4 : Nat) (cellsOf' P.encP x.B.prods) (cellsOf' P.encP x.B.prods)) ∧ (true = true ∧ List.length x.B.cons = List.length x.B.cons ∧ contLe (List.length x.B.cons) (2 : Nat) (cellsOf' encC x.B.cons) (cellsOf' encC x.B.cons)) ∧ True) ∧ (x.M.rng.lo = x.M.rng.lo ∧ x.M.rng.hi = x.M.rng.hi ∧ x.M.epoch = x.M.epoch ∧ x.M.frozen = x.M.frozen ∧ (true = true ∧ List.length x.M.recs = List.length x.M.recs ∧ contLe (List.length x.M.recs) (5 : Nat) (cellsOf' encR x.M.recs) (cellsOf' encR x.M.recs)) ∧ (true = true ∧ List.length x.M.prods = List.length x.M.prods ∧ contLe (List.length x.M.prods) (4 : Nat) (cellsOf' P.encP x.M.prods) (cellsOf' P.encP x.M.prods)) ∧ (true = true ∧ List.length x.M.cons = List.length x.M.cons ∧ contLe (List.length x.M.cons) (2 : Nat) (cellsOf' encC x.M.cons) (cellsOf' encC x.M.cons)) ∧ True) ∧ (y.id = y.id ∧ y.seq = y.seq ∧ y.here = y.here ∧ y.offset = y.offset ∧ True) ∧ True) ∧ true = true) ∧ true = true ∧ () = ())) ∧ ((x.f == (0 : Int)) = false → ∃ (j : Int), Int.toNat (y.seq + (1 : Int) - j) < Int.toNat (y.seq + (1 : Int) - s) ∧ ((((0 : Nat) = (0 : Nat) ∧ (0 : Nat) = (0 : Nat)) ∧ ((0 : Nat) = (0 : Nat) ∧ (0 : Nat) = (0 : Nat)) ∧ true = true ∧ ((0 : Nat) = (0 : Nat) ∧ (0 : Nat) = (0 : Nat)) ∧ ((0 : Nat) = (0 : Nat) ∧ (0 : Nat) = (0 : Nat)) ∧ x.e = x.e ∧ ((0 : Nat) = (0 : Nat) ∧ (0 : Nat) = (0 : Nat)) ∧ x.f = x.f ∧ (↑i : Int) = (↑i : Int) ∧ ((0 : Nat) = (0 : Nat) ∧ (0 : Nat) = (0 : Nat)) ∧ IntKind.wrap IntKind.u64 (s + (1 : Int)) = j ∧ True) ∧ ((x.p.rng.lo = x.p.rng.lo ∧ x.p.rng.hi = x.p.rng.hi ∧ x.p.epoch = x.p.epoch ∧ x.p.frozen = x.p.frozen ∧ (true = true ∧ List.length x.p.recs = List.length x.p.recs ∧ contLe (List.length x.p.recs) (5 : Nat) (cellsOf' encR x.p.recs) (cellsOf' encR x.p.recs)) ∧ (true = true ∧ List.length x.p.prods = List.length x.p.prods ∧ contLe (List.length x.p.prods) (4 : Nat) (cellsOf' P.encP x.p.prods) (cellsOf' P.encP x.p.prods)) ∧ (true = true ∧ List.length x.p.cons = List.length x.p.cons ∧ contLe (List.length x.p.cons) (2 : Nat) (cellsOf' encC x.p.cons) (cellsOf' encC x.p.cons)) ∧ True) ∧ (x.q.rng.lo = x.q.rng.lo ∧ x.q.rng.hi = x.q.rng.hi ∧ x.q.epoch = x.q.epoch ∧ x.q.frozen = x.q.frozen ∧ (true = true ∧ List.length x.q.recs = List.length x.q.recs ∧ contLe (List.length x.q.recs) (5 : Nat) (cellsOf' encR x.q.recs) (cellsOf' encR x.q.recs)) ∧ (true = true ∧ List.length x.q.prods = List.length x.q.prods ∧ contLe (List.length x.q.prods) (4 : Nat) (cellsOf' P.encP x.q.prods) (cellsOf' P.encP x.q.prods)) ∧ (true = true ∧ List.length x.q.cons = List.length x.q.cons ∧ contLe (List.length x.q.cons) (2 : Nat) (cellsOf' encC x.q.cons) (cellsOf' encC x.q.cons)) ∧ True) ∧ (x.A.rng.lo = x.A.rng.lo ∧ x.A.rng.hi = x.A.rng.hi ∧ x.A.epoch = x.A.epoch ∧ x.A.frozen = x.A.frozen ∧ (true = true ∧ List.length x.A.recs = List.length x.A.recs ∧ contLe (List.length x.A.recs) (5 : Nat) (cellsOf' encR x.A.recs) (cellsOf' encR x.A.recs)) ∧ (true = true ∧ List.length x.A.prods = List.length x.A.prods ∧ contLe (List.length x.A.prods) (4 : Nat) (cellsOf' P.encP x.A.prods) (cellsOf' P.encP x.A.prods)) ∧ (true = true ∧ List.length x.A.cons = List.length x.A.cons ∧ contLe (List.length x.A.cons) (2 : Nat) (cellsOf' encC x.A.cons) (cellsOf' encC x.A.cons)) ∧ True) ∧ (x.B.rng.lo = x.B.rng.lo ∧ x.B.rng.hi = x.B.rng.hi ∧ x.B.epoch = x.B.epoch ∧ x.B.frozen = x.B.frozen ∧ (true = true ∧ List.length x.B.recs = List.length x.B.recs ∧ contLe (List.length x.B.recs) (5 : Nat) (cellsOf' encR x.B.recs) (cellsOf' encR x.B.recs)) ∧ (true = true ∧ List.length x.B.prods = List.length x.B.prods ∧ contLe (List.length x.B.prods) (4 : Nat) (cellsOf' P.encP x.B.prods) (cellsOf' P.encP x.B.prods)) ∧ (true = true ∧ List.length x.B.cons = List.length x.B.cons ∧ contLe (List.length x.B.cons) (2 : Nat) (cellsOf' encC x.B.cons) (cellsOf' encC x.B.cons)) ∧ True) ∧ (x.M.rng.lo = x.M.rng.lo ∧ x.M.rng.hi = x.M.rng.hi ∧ x.M.epoch = x.M.epoch ∧ x.M.frozen = x.M.frozen ∧ (true = true ∧ List.length x.M.recs = List.length x.M.recs ∧ contLe (List.length x.M.recs) (5 : Nat) (cellsOf' encR x.M.recs) (cellsOf' encR x.M.recs)) ∧ (true = true ∧ List.length x.M.prods = List.length x.M.prods ∧ contLe (List.length x.M.prods) (4 : Nat) (cellsOf' P.encP x.M.prods) (cellsOf' P.encP x.M.prods)) ∧ (true = true ∧ List.length x.M.cons = List.length x.M.cons ∧ contLe (List.length x.M.cons) (2 : Nat) (cellsOf' encC x.M.cons) (cellsOf' encC x.M.cons)) ∧ True) ∧ (y.id = y.id ∧ y.seq = y.seq ∧ y.here = y.here ∧ y.offset = y.offset ∧ True) ∧ True) ∧ true = true) ∧ true = true ∧ () = ()))) ∧ ((P.judgeV x.A.prods y.id s == (2 : Int)) = false → ((x.f == (0 : Int)) = true → ((P.judgeV x.M.prods y.id s == (1 : Int)) = true → False) ∧ ((P.judgeV x.M.prods y.id s == (1 : Int)) = false → ∃ (j : Int), Int.toNat (y.seq + (1 : Int) - j) < Int.toNat (y.seq + (1 : Int) - s) ∧ ((((0 : Nat) = (0 : Nat) ∧ (0 : Nat) = (0 : Nat)) ∧ ((0 : Nat) = (0 : Nat) ∧ (0 : Nat) = (0 : Nat)) ∧ true = true ∧ ((0 : Nat) = (0 : Nat) ∧ (0 : Nat) = (0 : Nat)) ∧ ((0 : Nat) = (0 : Nat) ∧ (0 : Nat) = (0 : Nat)) ∧ x.e = x.e ∧ ((0 : Nat) = (0 : Nat) ∧ (0 : Nat) = (0 : Nat)) ∧ x.f = x.f ∧ (↑i : Int) = (↑i : Int) ∧ ((0 : Nat) = (0 : Nat) ∧ (0 : Nat) = (0 : Nat)) ∧ IntKind.wrap IntKind.u64 (s + (1 : Int)) = j ∧ True) ∧ ((x.p.rng.lo = x.p.rng.lo ∧ x.p.rng.hi = x.p.rng.hi ∧ x.p.epoch = x.p.epoch ∧ x.p.frozen = x.p.frozen ∧ (true = true ∧ List.length x.p.recs = List.length x.p.recs ∧ contLe (List.length x.p.recs) (5 : Nat) (cellsOf' encR x.p.recs) (cellsOf' encR x.p.recs)) ∧ (true = true ∧ List.length x.p.prods = List.length x.p.prods ∧ contLe (List.length x.p.prods) (4 : Nat) (cellsOf' P.encP x.p.prods) (cellsOf' P.encP x.p.prods)) ∧ (true = true ∧ List.length x.p.cons = List.length x.p.cons ∧ contLe (List.length x.p.cons) (2 : Nat) (cellsOf' encC x.p.cons) (cellsOf' encC x.p.cons)) ∧ True) ∧ (x.q.rng.lo = x.q.rng.lo ∧ x.q.rng.hi = x.q.rng.hi ∧ x.q.epoch = x.q.epoch ∧ x.q.frozen = x.q.frozen ∧ (true = true ∧ List.length x.q.recs = List.length x.q.recs ∧ contLe (List.length x.q.recs) (5 : Nat) (cellsOf' encR x.q.recs) (cellsOf' encR x.q.recs)) ∧ (true = true ∧ List.length x.q.prods = List.length x.q.prods ∧ contLe (List.length x.q.prods) (4 : Nat) (cellsOf' P.encP x.q.prods) (cellsOf' P.encP x.q.prods)) ∧ (true = true ∧ List.length x.q.cons = List.length x.q.cons ∧ contLe (List.length x.q.cons) (2 : Nat) (cellsOf' encC x.q.cons) (cellsOf' encC x.q.cons)) ∧ True) ∧ (x.A.rng.lo = x.A.rng.lo ∧ x.A.rng.hi = x.A.rng.hi ∧ x.A.epoch = x.A.epoch ∧ x.A.frozen = x.A.frozen ∧ (true = true ∧ List.length x.A.recs = List.length x.A.recs ∧ contLe (List.length x.A.recs) (5 : Nat) (cellsOf' encR x.A.recs) (cellsOf' encR x.A.recs)) ∧ (true = true ∧ List.length x.A.prods = List.length x.A.prods ∧ contLe (List.length x.A.prods) (4 : Nat) (cellsOf' P.encP x.A.prods) (cellsOf' P.encP x.A.prods)) ∧ (true = true ∧ List.length x.A.cons = List.length x.A.cons ∧ contLe (List.length x.A.cons) (2 : Nat) (cellsOf' encC x.A.cons) (cellsOf' encC x.A.cons)) ∧ True) ∧ (x.B.rng.lo = x.B.rng.lo ∧ x.B.rng.hi = x.B.rng.hi ∧ x.B.epoch = x.B.epoch ∧ x.B.frozen = x.B.frozen ∧ (true = true ∧ List.length x.B.recs = List.length x.B.recs ∧ contLe (List.length x.B.recs) (5 : Nat) (cellsOf' encR x.B.recs) (cellsOf' encR x.B.recs)) ∧ (true = true ∧ List.length x.B.prods = List.length x.B.prods ∧ contLe (List.length x.B.prods) (4 : Nat) (cellsOf' P.encP x.B.prods) (cellsOf' P.encP x.B.prods)) ∧ (true = true ∧ List.length x.B.cons = List.length x.B.cons ∧ contLe (List.length x.B.cons) (2 : Nat) (cellsOf' encC x.B.cons) (cellsOf' encC x.B.cons)) ∧ True) ∧ (x.M.rng.lo = x.M.rng.lo ∧ x.M.rng.hi = x.M.rng.hi ∧ x.M.epoch = x.M.epoch ∧ x.M.frozen = x.M.frozen ∧ (true = true ∧ List.length x.M.recs = List.length x.M.recs ∧ contLe (List.length x.M.recs) (5 : Nat) (cellsOf' encR x.M.recs) (cellsOf' encR x.M.recs)) ∧ (true = true ∧ List.length x.M.prods = List.length x.M.prods ∧ contLe (List.length x.M.prods) (4 : Nat) (cellsOf' P.encP x.M.prods) (cellsOf' P.encP x.M.prods)) ∧ (true = true ∧ List.length x.M.cons = List.length x.M.cons ∧ contLe (List.length x.M.cons) (2 : Nat) (cellsOf' encC x.M.cons) (cellsOf' encC x.M.cons)) ∧ True) ∧ (y.id = y.id ∧ y.seq = y.seq ∧ y.here = y.here ∧ y.offset = y.offset ∧ True) ∧ True) ∧ true = true) ∧ true = true ∧ () = ())) ∧ ((x.f == (0 : Int)) = false → ∃ (j : Int), Int.toNat (y.seq + (1 : Int) - j) < Int.toNat (y.seq + (1 : Int) - s) ∧ ((((0 : Nat) = (0 : Nat) ∧ (0 : Nat) = (0 : Nat)) ∧ ((0 : Nat) = (0 : Nat) ∧ (0 : Nat) = (0 : Nat)) ∧ true = true ∧ ((0 : Nat) = (0 : Nat) ∧ (0 : Nat) = (0 : Nat)) ∧ ((0 : Nat) = (0 : Nat) ∧ (0 : Nat) = (0 : Nat)) ∧ x.e = x.e ∧ ((0 : Nat) = (0 : Nat) ∧ (0 : Nat) = (0 : Nat)) ∧ x.f = x.f ∧ (↑i : Int) = (↑i : Int) ∧ ((0 : Nat) = (0 : Nat) ∧ (0 : Nat) = (0 : Nat)) ∧ IntKind.wrap IntKind.u64 (s + (1 : Int)) = j ∧ True) ∧ ((x.p.rng.lo = x.p.rng.lo ∧ x.p.rng.hi = x.p.rng.hi ∧ x.p.epoch = x.p.epoch ∧ x.p.frozen = x.p.frozen ∧ (true = true ∧ List.length x.p.recs = List.length x.p.recs ∧ contLe (List.length x.p.recs) (5 : Nat) (cellsOf' encR x.p.recs) (cellsOf' encR x.p.recs)) ∧ (true = true ∧ List.length x.p.prods = List.length x.p.prods ∧ contLe (List.length x.p.prods) (4 : Nat) (cellsOf' P.encP x.p.prods) (cellsOf' P.encP x.p.prods)) ∧ (true = true ∧ List.length x.p.cons = List.length x.p.cons ∧ contLe (List.length x.p.cons) (2 : Nat) (cellsOf' encC x.p.cons) (cellsOf' encC x.p.cons)) ∧ True) ∧ (x.q.rng.lo = x.q.rng.lo ∧ x.q.rng.hi = x.q.rng.hi ∧ x.q.epoch = x.q.epoch ∧ x.q.frozen = x.q.frozen ∧ (true = true ∧ List.length x.q.recs = List.length x.q.recs ∧ contLe (List.length x.q.recs) (5 : Nat) (cellsOf' encR x.q.recs) (cellsOf' encR x.q.recs)) ∧ (true = true ∧ List.length x.q.prods = List.length x.q.prods ∧ contLe (List.length x.q.prods) (4 : Nat) (cellsOf' P.encP x.q.prods) (cellsOf' P.encP x.q.prods)) ∧ (true = true ∧ List.length x.q.cons = List.length x.q.cons ∧ contLe (List.length x.q.cons) (2 : Nat) (cellsOf' encC x.q.cons) (cellsOf' encC x.q.cons)) ∧ True) ∧ (x.A.rng.lo = x.A.rng.lo ∧ x.A.rng.hi = x.A.rng.hi ∧ x.A.epoch = x.A.epoch ∧ x.A.frozen = x.A.frozen ∧ (true = true ∧ List.length x.A.recs = List.length x.A.recs ∧ contLe (List.length x.A.recs) (5 : Nat) (cellsOf' encR x.A.recs) (cellsOf' encR x.A.recs)) ∧ (true = true ∧ List.length x.A.prods = List.length x.A.prods ∧ contLe (List.length x.A.prods) (4 : Nat) (cellsOf' P.encP x.A.prods) (cellsOf' P.encP x.A.prods)) ∧ (true = true ∧ List.length x.A.cons = List.length x.A.cons ∧ contLe (List.length x.A.cons) (2 : Nat) (cellsOf' encC x.A.cons) (cellsOf' encC x.A.cons)) ∧ True) ∧ (x.B.rng.lo = x.B.rng.lo ∧ x.B.rng.hi = x.B.rng.hi ∧ x.B.epoch = x.B.epoch ∧ x.B.frozen = x.B.frozen ∧ (true = true ∧ List.length x.B.recs = List.length x.B.recs ∧ contLe (List.length x.B.recs) (5 : Nat) (cellsOf' encR x.B.recs) (cellsOf' encR x.B.recs)) ∧ (true = true ∧ List.length x.B.prods = List.length x.B.prods ∧ contLe (List.length x.B.prods) (4 : Nat) (cellsOf' P.encP x.B.prods) (cellsOf' P.encP x.B.prods)) ∧ (true = true ∧ List.length x.B.cons = List.length x.B.cons ∧ contLe (List.length x.B.cons) (2 : Nat) (cellsOf' encC x.B.cons) (cellsOf' encC x.B.cons)) ∧ True) ∧ (x.M.rng.lo = x.M.rng.lo ∧ x.M.rng.hi = x.M.rng.hi ∧ x.M.epoch = x.M.epoch ∧ x.M.frozen = x.M.frozen ∧ (true = true ∧ List.length x.M.recs = List.length x.M.recs ∧ contLe (List.length x.M.recs) (5 : Nat) (cellsOf' encR x.M.recs) (cellsOf' encR x.M.recs)) ∧ (true = true ∧ List.length x.M.prods = List.length x.M.prods ∧ contLe (List.length x.M.prods) (4 : Nat) (cellsOf' P.encP x.M.prods) (cellsOf' P.encP x.M.prods)) ∧ (true = true ∧ List.length x.M.cons = List.length x.M.cons ∧ contLe (List.length x.M.cons) (2 : Nat) (cellsOf' encC x.M.cons) (cellsOf' encC x.M.cons)) ∧ True) ∧ (y.id = y.id ∧ y.seq = y.seq ∧ y.here = y.here ∧ y.offset = y.offset ∧ True) ∧ True) ∧ true = true) ∧ true = true ∧ () = ()))))) ∧ (decide ((↑i : Int) < (↑(List.length x.p.prods) : Int)) = false → ((x.f == (0 : Int)) = true → ((P.judgeV x.M.prods y.id s == (1 : Int)) = true → False) ∧ ((P.judgeV x.M.prods y.id s == (1 : Int)) = false → ∃ (j : Int), Int.toNat (y.seq + (1 : Int) - j) < Int.toNat (y.seq + (1 : Int) - s) ∧ ((((0 : Nat) = (0 : Nat) ∧ (0 : Nat) = (0 : Nat)) ∧ ((0 : Nat) = (0 : Nat) ∧ (0 : Nat) = (0 : Nat)) ∧ true = true ∧ ((0 : Nat) = (0 : Nat) ∧ (0 : Nat) = (0 : Nat)) ∧ ((0 : Nat) = (0 : Nat) ∧ (0 : Nat) = (0 : Nat)) ∧ x.e = x.e ∧ ((0 : Nat) = (0 : Nat) ∧ (0 : Nat) = (0 : Nat)) ∧ x.f = x.f ∧ (↑i : Int) = (↑i : Int) ∧ ((0 : Nat) = (0 : Nat) ∧ (0 : Nat) = (0 : Nat)) ∧ IntKind.wrap IntKind.u64 (s + (1 : Int)) = j ∧ True) ∧ ((x.p.rng.lo = x.p.rng.lo ∧ x.p.rng.hi = x.p.rng.hi ∧ x.p.epoch = x.p.epoch ∧ x.p.frozen = x.p.frozen ∧ (true = true ∧ List.length x.p.recs = List.length x.p.recs ∧ contLe (List.length x.p.recs) (5 : Nat) (cellsOf' encR x.p.recs) (cellsOf' encR x.p.recs)) ∧ (true = true ∧ List.length x.p.prods = List.length x.p.prods ∧ contLe (List.length x.p.prods) (4 : Nat) (cellsOf' P.encP x.p.prods) (cellsOf' P.encP x.p.prods)) ∧ (true = true ∧ List.length x.p.cons = List.length x.p.cons ∧ contLe (List.length x.p.cons) (2 : Nat) (cellsOf' encC x.p.cons) (cellsOf' encC x.p.cons)) ∧ True) ∧ (x.q.rng.lo = x.q.rng.lo ∧ x.q.rng.hi = x.q.rng.hi ∧ x.q.epoch = x.q.epoch ∧ x.q.frozen = x.q.frozen ∧ (true = true ∧ List.length x.q.recs = List.length x.q.recs ∧ contLe (List.length x.q.recs) (5 : Nat) (cellsOf' encR x.q.recs) (cellsOf' encR x.q.recs)) ∧ (true = true ∧ List.length x.q.prods = List.length x.q.prods ∧ contLe (List.length x.q.prods) (4 : Nat) (cellsOf' P.encP x.q.prods) (cellsOf' P.encP x.q.prods)) ∧ (true = true ∧ List.length x.q.cons = List.length x.q.cons ∧ contLe (List.length x.q.cons) (2 : Nat) (cellsOf' encC x.q.cons) (cellsOf' encC x.q.cons)) ∧ True) ∧ (x.A.rng.lo = x.A.rng.lo ∧ x.A.rng.hi = x.A.rng.hi ∧ x.A.epoch = x.A.epoch ∧ x.A.frozen = x.A.frozen ∧ (true = true ∧ List.length x.A.recs = List.length x.A.recs ∧ contLe (List.length x.A.recs) (5 : Nat) (cellsOf' encR x.A.recs) (cellsOf' encR x.A.recs)) ∧ (true = true ∧ List.length x.A.prods = List.length x.A.prods ∧ contLe (List.length x.A.prods) (4 : Nat) (cellsOf' P.encP x.A.prods) (cellsOf' P.encP x.A.prods)) ∧ (true = true ∧ List.length x.A.cons = List.length x.A.cons ∧ contLe (List.length x.A.cons) (2 : Nat) (cellsOf' encC x.A.cons) (cellsOf' encC x.A.cons)) ∧ True) ∧ (x.B.rng.lo = x.B.rng.lo ∧ x.B.rng.hi = x.B.rng.hi ∧ x.B.epoch = x.B.epoch ∧ x.B.frozen = x.B.frozen ∧ (true = true ∧ List.length x.B.recs = List.length x.B.recs ∧ contLe (List.length x.B.recs) (5 : Nat) (cellsOf' encR x.B.recs) (cellsOf' encR x.B.recs)) ∧ (true = true ∧ List.length x.B.prods = List.length x.B.prods ∧ contLe (List.length x.B.prods) (4 : Nat) (cellsOf' P.encP x.B.prods) (cellsOf' P.encP x.B.prods)) ∧ (true = true ∧ List.length x.B.cons = List.length x.B.cons ∧ contLe (List.length x.B.cons) (2 : Nat) (cellsOf' encC x.B.cons) (cellsOf' encC x.B.cons)) ∧ True) ∧ (x.M.rng.lo = x.M.rng.lo ∧ x.M.rng.hi = x.M.rng.hi ∧ x.M.epoch = x.M.epoch ∧ x.M.frozen = x.M.frozen ∧ (true = true ∧ List.length x.M.recs = List.length x.M.recs ∧ contLe (List.length x.M.recs) (5 : Nat) (cellsOf' encR x.M.recs) (cellsOf' encR x.M.recs)) ∧ (true = true ∧ List.length x.M.prods = List.length x.M.prods ∧ contLe (List.length x.M.prods) (4 : Nat) (cellsOf' P.encP x.M.prods) (cellsOf' P.encP x.M.prods)) ∧ (true = true ∧ List.length x.M.cons = List.length x.M.cons ∧ contLe (List.length x.M.cons) (2 : Nat) (cellsOf' encC x.M.cons) (cellsOf' encC x.M.cons)) ∧ True) ∧ (y.id = y.id ∧ y.seq = y.seq ∧ y.here = y.here ∧ y.offset = y.offset ∧ True) ∧ True) ∧ true = true) ∧ true = true ∧ () = ())) ∧ ((x.f == (0 : Int)) = false → ∃ (j : Int), Int.toNat (y.seq + (1 : Int) - j) < Int.toNat (y.seq + (1 : Int) - s) ∧ ((((0 : Nat) = (0 : Nat) ∧ (0 : Nat) = (0 : Nat)) ∧ ((0 : Nat) = (0 : Nat) ∧ (0 : Nat) = (0 : Nat)) ∧ true = true ∧ ((0 : Nat) = (0 : Nat) ∧ (0 : Nat) = (0 : Nat)) ∧ ((0 : Nat) = (0 : Nat) ∧ (0 : Nat) = (0 : Nat)) ∧ x.e = x.e ∧ ((0 : Nat) = (0 : Nat) ∧ (0 : Nat) = (0 : Nat)) ∧ x.f = x.f ∧ (↑i : Int) = (↑i : Int) ∧ ((0 : Nat) = (0 : Nat) ∧ (0 : Nat) = (0 : Nat)) ∧ IntKind.wrap IntKind.u64 (s + (1 : Int)) = j ∧ True) ∧ ((x.p.rng.lo = x.p.rng.lo ∧ x.p.rng.hi = x.p.rng.hi ∧ x.p.epoch = x.p.epoch ∧ x.p.frozen = x.p.frozen ∧ (true = true ∧ List.length x.p.recs = List.length x.p.recs ∧ contLe (List.length x.p.recs) (5 : Nat) (cellsOf' encR x.p.recs) (cellsOf' encR x.p.recs)) ∧ (true = true ∧ List.length x.p.prods = List.length x.p.prods ∧ contLe (List.length x.p.prods) (4 : Nat) (cellsOf' P.encP x.p.prods) (cellsOf' P.encP x.p.prods)) ∧ (true = true ∧ List.length x.p.cons = List.length x.p.cons ∧ contLe (List.length x.p.cons) (2 : Nat) (cellsOf' encC x.p.cons) (cellsOf' encC x.p.cons)) ∧ True) ∧ (x.q.rng.lo = x.q.rng.lo ∧ x.q.rng.hi = x.q.rng.hi ∧ x.q.epoch = x.q.epoch ∧ x.q.frozen = x.q.frozen ∧ (true = true ∧ List.length x.q.recs = List.length x.q.recs ∧ contLe (List.length x.q.recs) (5 : Nat) (cellsOf' encR x.q.recs) (cellsOf' encR x.q.recs)) ∧ (true = true ∧ List.length x.q.prods = List.length x.q.prods ∧ contLe (List.length x.q.prods) (4 : Nat) (cellsOf' P.encP x.q.prods) (cellsOf' P.encP x.q.prods)) ∧ (true = true ∧ List.length x.q.cons = List.length x.q.cons ∧ contLe (List.length x.q.cons) (2 : Nat) (cellsOf' encC x.q.cons) (cellsOf' encC x.q.cons)) ∧ True) ∧ (x.A.rng.lo = x.A.rng.lo ∧ x.A.rng.hi = x.A.rng.hi ∧ x.A.epoch = x.A.epoch ∧ x.A.frozen = x.A.frozen ∧ (true = true ∧ List.length x.A.recs = List.length x.A.recs ∧ contLe (List.length x.A.recs) (5 : Nat) (cellsOf' encR x.A.recs) (cellsOf' encR x.A.recs)) ∧ (true = true ∧ List.length x.A.prods = List.length x.A.prods ∧ contLe (List.length x.A.prods) (4 : Nat) (cellsOf' P.encP x.A.prods) (cellsOf' P.encP x.A.prods)) ∧ (true = true ∧ List.length x.A.cons = List.length x.A.cons ∧ contLe (List.length x.A.cons) (2 : Nat) (cellsOf' encC x.A.cons) (cellsOf' encC x.A.cons)) ∧ True) ∧ (x.B.rng.lo = x.B.rng.lo ∧ x.B.rng.hi = x.B.rng.hi ∧ x.B.epoch = x.B.epoch ∧ x.B.frozen = x.B.frozen ∧ (true = true ∧ List.length x.B.recs = List.length x.B.recs ∧ contLe (List.length x.B.recs) (5 : Nat) (cellsOf' encR x.B.recs) (cellsOf' encR x.B.recs)) ∧ (true = true ∧ List.length x.B.prods = List.length x.B.prods ∧ contLe (List.length x.B.prods) (4 : Nat) (cellsOf' P.encP x.B.prods) (cellsOf' P.encP x.B.prods)) ∧ (true = true ∧ List.length x.B.cons = List.length x.B.cons ∧ contLe (List.length x.B.cons) (2 : Nat) (cellsOf' encC x.B.cons) (cellsOf' encC x.B.cons)) ∧ True) ∧ (x.M.rng.lo = x.M.rng.lo ∧ x.M.rng.hi = x.M.rng.hi ∧ x.M.epoch = x.M.epoch ∧ x.M.frozen = x.M.frozen ∧ (true = true ∧ List.length x.M.recs = List.length x.M.recs ∧ contLe (List.length x.M.recs) (5 : Nat) (cellsOf' encR x.M.recs) (cellsOf' encR x.M.recs)) ∧ (true = true ∧ List.length x.M.prods = List.length x.M.prods ∧ contLe (List.length x.M.prods) (4 : Nat) (cellsOf' P.encP x.M.prods) (cellsOf' P.encP x.M.prods)) ∧ (true = true ∧ List.length x.M.cons = List.length x.M.cons ∧ contLe (List.length x.M.cons) (2 : Nat) (cellsOf' encC x.M.cons) (cellsOf' encC x.M.cons)) ∧ True) ∧ (y.id = y.id ∧ y.seq = y.seq ∧ y.here = y.here ∧ y.offset = y.offset ∧ True) ∧ True) ∧ true = true) ∧ true = true ∧ () = ()))) ∧ ((x.e == (0 : Int)) = false → ((x.f == (0 : Int)) = true → ((P.judgeV x.M.prods y.id s == (1 : Int)) = true → False) ∧ ((P.judgeV x.M.prods y.id s == (1 : Int)) = false → ∃ (j : Int), Int.toNat (y.seq + (1 : Int) - j) < Int.toNat (y.seq + (1 : Int) - s) ∧ ((((0 : Nat) = (0 : Nat) ∧ (0 : Nat) = (0 : Nat)) ∧ ((0 : Nat) = (0 : Nat) ∧ (0 : Nat) = (0 : Nat)) ∧ true = true ∧ ((0 : Nat) = (0 : Nat) ∧ (0 : Nat) = (0 : Nat)) ∧ ((0 : Nat) = (0 : Nat) ∧ (0 : Nat) = (0 : Nat)) ∧ x.e = x.e ∧ ((0 : Nat) = (0 : Nat) ∧ (0 : Nat) = (0 : Nat)) ∧ x.f = x.f ∧ (↑i : Int) = (↑i : Int) ∧ ((0 : Nat) = (0 : Nat) ∧ (0 : Nat) = (0 : Nat)) ∧ IntKind.wrap IntKind.u64 (s + (1 : Int)) = j ∧ True) ∧ ((x.p.rng.lo = x.p.rng.lo ∧ x.p.rng.hi = x.p.rng.hi ∧ x.p.epoch = x.p.epoch ∧ x.p.frozen = x.p.frozen ∧ (true = true ∧ List.length x.p.recs = List.length x.p.recs ∧ contLe (List.length x.p.recs) (5 : Nat) (cellsOf' encR x.p.recs) (cellsOf' encR x.p.recs)) ∧ (true = true ∧ List.length x.p.prods = List.length x.p.prods ∧ contLe (List.length x.p.prods) (4 : Nat) (cellsOf' P.encP x.p.prods) (cellsOf' P.encP x.p.prods)) ∧ (true = true ∧ List.length x.p.cons = List.length x.p.cons ∧ contLe (List.length x.p.cons) (2 : Nat) (cellsOf' encC x.p.cons) (cellsOf' encC x.p.cons)) ∧ True) ∧ (x.q.rng.lo = x.q.rng.lo ∧ x.q.rng.hi = x.q.rng.hi ∧ x.q.epoch = x.q.epoch ∧ x.q.frozen = x.q.frozen ∧ (true = true ∧ List.length x.q.recs = List.length x.q.recs ∧ contLe (List.length x.q.recs) (5 : Nat) (cellsOf' encR x.q.recs) (cellsOf' encR x.q.recs)) ∧ (true = true ∧ List.length x.q.prods = List.length x.q.prods ∧ contLe (List.length x.q.prods) (4 : Nat) (cellsOf' P.encP x.q.prods) (cellsOf' P.encP x.q.prods)) ∧ (true = true ∧ List.length x.q.cons = List.length x.q.cons ∧ contLe (List.length x.q.cons) (2 : Nat) (cellsOf' encC x.q.cons) (cellsOf' encC x.q.cons)) ∧ True) ∧ (x.A.rng.lo = x.A.rng.lo ∧ x.A.rng.hi = x.A.rng.hi ∧ x.A.epoch = x.A.epoch ∧ x.A.frozen = x.A.frozen ∧ (true = true ∧ List.length x.A.recs = List.length x.A.recs ∧ contLe (List.length x.A.recs) (5 : Nat) (cellsOf' encR x.A.recs) (cellsOf' encR x.A.recs)) ∧ (true = true ∧ List.length x.A.prods = List.length x.A.prods ∧ contLe (List.length x.A.prods) (4 : Nat) (cellsOf' P.encP x.A.prods) (cellsOf' P.encP x.A.prods)) ∧ (true = true ∧ List.length x.A.cons = List.length x.A.cons ∧ contLe (List.length x.A.cons) (2 : Nat) (cellsOf' encC x.A.cons) (cellsOf' encC x.A.cons)) ∧ True) ∧ (x.B.rng.lo = x.B.rng.lo ∧ x.B.rng.hi = x.B.rng.hi ∧ x.B.epoch = x.B.epoch ∧ x.B.frozen = x.B.frozen ∧ (true = true ∧ List.length x.B.recs = List.length x.B.recs ∧ contLe (List.length x.B.recs) (5 : Nat) (cellsOf' encR x.B.recs) (cellsOf' encR x.B.recs)) ∧ (true = true ∧ List.length x.B.prods = List.length x.B.prods ∧ contLe (List.length x.B.prods) (4 : Nat) (cellsOf' P.encP x.B.prods) (cellsOf' P.encP x.B.prods)) ∧ (true = true ∧ List.length x.B.cons = List.length x.B.cons ∧ contLe (List.length x.B.cons) (2 : Nat) (cellsOf' encC x.B.cons) (cellsOf' encC x.B.cons)) ∧ True) ∧ (x.M.rng.lo = x.M.rng.lo ∧ x.M.rng.hi = x.M.rng.hi ∧ x.M.epoch = x.M.epoch ∧ x.M.frozen = x.M.frozen ∧ (true = true ∧ List.length x.M.recs = List.length x.M.recs ∧ contLe (List.length x.M.recs) (5 : Nat) (cellsOf' encR x.M.recs) (cellsOf' encR x.M.recs)) ∧ (true = true ∧ List.length x.M.prods = List.length x.M.prods ∧ contLe (List.length x.M.prods) (4 : Nat) (cellsOf' P.encP x.M.prods) (cellsOf' P.encP x.M.prods)) ∧ (true = true ∧ List.length x.M.cons = List.length x.M.cons ∧ contLe (List.length x.M.cons) (2 : Nat) (cellsOf' encC x.M.cons) (cellsOf' encC x.M.cons)) ∧ True) ∧ (y.id = y.id ∧ y.seq = y.seq ∧ y.here = y.here ∧ y.offset = y.offset ∧ True) ∧ True) ∧ true = true) ∧ true = true ∧ () = ())) ∧ ((x.f == (0 : Int)) = false → ∃ (j : Int), Int.toNat (y.seq + (1 : Int) - j) < Int.toNat (y.seq + (1 : Int) - s) ∧ ((((0 : Nat) = (0 : Nat) ∧ (0 : Nat) = (0 : Nat)) ∧ ((0 : Nat) = (0 : Nat) ∧ (0 : Nat) = (0 : Nat)) ∧ true = true ∧ ((0 : Nat) = (0 : Nat) ∧ (0 : Nat) = (0 : Nat)) ∧ ((0 : Nat) = (0 : Nat) ∧ (0 : Nat) = (0 : Nat)) ∧ x.e = x.e ∧ ((0 : Nat) = (0 : Nat) ∧ (0 : Nat) = (0 : Nat)) ∧ x.f = x.f ∧ (↑i : Int) = (↑i : Int) ∧ ((0 : Nat) = (0 : Nat) ∧ (0 : Nat) = (0 : Nat)) ∧ IntKind.wrap IntKind.u64 (s + (1 : Int)) = j ∧ True) ∧ ((x.p.rng.lo = x.p.rng.lo ∧ x.p.rng.hi = x.p.rng.hi ∧ x.p.epoch = x.p.epoch ∧ x.p.frozen = x.p.frozen ∧ (true = true ∧ List.length x.p.recs = List.length x.p.recs ∧ contLe (List.length x.p.recs) (5 : Nat) (cellsOf' encR x.p.recs) (cellsOf' encR x.p.recs)) ∧ (true = true ∧ List.length x.p.prods = List.length x.p.prods ∧ contLe (List.length x.p.prods) (4 : Nat) (cellsOf' P.encP x.p.prods) (cellsOf' P.encP x.p.prods)) ∧ (true = true ∧ List.length x.p.cons = List.length x.p.cons ∧ contLe (List.length x.p.cons) (2 : Nat) (cellsOf' encC x.p.cons) (cellsOf' encC x.p.cons)) ∧ True) ∧ (x.q.rng.lo = x.q.rng.lo ∧ x.q.rng.hi = x.q.rng.hi ∧ x.q.epoch = x.q.epoch ∧ x.q.frozen = x.q.frozen ∧ (true = true ∧ List.length x.q.recs = List.length x.q.recs ∧ contLe (List.length x.q.recs) (5 : Nat) (cellsOf' encR x.q.recs) (cellsOf' encR x.q.recs)) ∧ (true = true ∧ List.length x.q.prods = List.length x.q.prods ∧ contLe (List.length x.q.prods) (4 : Nat) (cellsOf' P.encP x.q.prods) (cellsOf' P.encP x.q.prods)) ∧ (true = true ∧ List.length x.q.cons = List.length x.q.cons ∧ contLe (List.length x.q.cons) (2 : Nat) (cellsOf' encC x.q.cons) (cellsOf' encC x.q.cons)) ∧ True) ∧ (x.A.rng.lo = x.A.rng.lo ∧ x.A.rng.hi = x.A.rng.hi ∧ x.A.epoch = x.A.epoch ∧ x.A.frozen = x.A.frozen ∧ (true = true ∧ List.length x.A.recs = List.length x.A.recs ∧ contLe (List.length x.A.recs) (5 : Nat) (cellsOf' encR x.A.recs) (cellsOf' encR x.A.recs)) ∧ (true = true ∧ List.length x.A.prods = List.length x.A.prods ∧ contLe (List.length x.A.prods) (4 : Nat) (cellsOf' P.encP x.A.prods) (cellsOf' P.encP x.A.prods)) ∧ (true = true ∧ List.length x.A.cons = List.length x.A.cons ∧ contLe (List.length x.A.cons) (2 : Nat) (cellsOf' encC x.A.cons) (cellsOf' encC x.A.cons)) ∧ True) ∧ (x.B.rng.lo = x.B.rng.lo ∧ x.B.rng.hi = x.B.rng.hi ∧ x.B.epoch = x.B.epoch ∧ x.B.frozen = x.B.frozen ∧ (true = true ∧ List.length x.B.recs = List.length x.B.recs ∧ contLe (List.length x.B.recs) (5 : Nat) (cellsOf' encR x.B.recs) (cellsOf' encR x.B.recs)) ∧ (true = true ∧ List.length x.B.prods = List.length x.B.prods ∧ contLe (List.length x.B.prods) (4 : Nat) (cellsOf' P.encP x.B.prods) (cellsOf' P.encP x.B.prods)) ∧ (true = true ∧ List.length x.B.cons = List.length x.B.cons ∧ contLe (List.length x.B.cons) (2 : Nat) (cellsOf' encC x.B.cons) (cellsOf' encC x.B.cons)) ∧ True) ∧ (x.M.rng.lo = x.M.rng.lo ∧ x.M.rng.hi = x.M.rng.hi ∧ x.M.epoch = x.M.epoch ∧ x.M.frozen = x.M.frozen ∧ (true = true ∧ List.length x.M.recs = List.length x.M.recs ∧ contLe (List.length x.M.recs) (5 : Nat) (cellsOf' encR x.M.recs) (cellsOf' encR x.M.recs)) ∧ (true = true ∧ List.length x.M.prods = List.length x.M.prods ∧ contLe (List.length x.M.prods) (4 : Nat) (cellsOf' P.encP x.M.prods) (cellsOf' P.encP x.M.prods)) ∧ (true = true ∧ List.length x.M.cons = List.length x.M.cons ∧ contLe (List.length x.M.cons) (2 : Nat) (cellsOf' encC x.M.cons) (cellsOf' encC x.M.cons)) ∧ True) ∧ (y.id = y.id ∧ y.seq = y.seq ∧ y.here = y.here ∧ y.offset = y.offset ∧ True) ∧ True) ∧ true = true) ∧ true = true ∧ () = ()))) ∧ (decide (s ≤ (9223372036854775807 : Int)) = false → (((0 : Nat) = (0 : Nat) ∧ (0 : Nat) = (0 : Nat)) ∧ ((0 : Nat) = (0 : Nat) ∧ (0 : Nat) = (0 : Nat)) ∧ true = true ∧ ((0 : Nat) = (0 : Nat) ∧ (0 : Nat) = (0 : Nat)) ∧ ((0 : Nat) = (0 : Nat) ∧ (0 : Nat) = (0 : Nat)) ∧ x.e = x.e ∧ ((0 : Nat) = (0 : Nat) ∧ (0 : Nat) = (0 : Nat)) ∧ x.f = x.f ∧ (↑i : Int) = (↑i : Int) ∧ True) ∧ ((x.p.rng.lo = x.p.rng.lo ∧ x.p.rng.hi = x.p.rng.hi ∧ x.p.epoch = x.p.epoch ∧ x.p.frozen = x.p.frozen ∧ (true = true ∧ List.length x.p.recs = List.length x.p.recs ∧ contLe (List.length x.p.recs) (5 : Nat) (cellsOf' encR x.p.recs) (cellsOf' encR x.p.recs)) ∧ (true = true ∧ List.length x.p.prods = List.length x.p.prods ∧ contLe (List.length x.p.prods) (4 : Nat) (cellsOf' P.encP x.p.prods) (cellsOf' P.encP x.p.prods)) ∧ (true = true ∧ List.length x.p.cons = List.length x.p.cons ∧ contLe (List.length x.p.cons) (2 : Nat) (cellsOf' encC x.p.cons) (cellsOf' encC x.p.cons)) ∧ True) ∧ (x.q.rng.lo = x.q.rng.lo ∧ x.q.rng.hi = x.q.rng.hi ∧ x.q.epoch = x.q.epoch ∧ x.q.frozen = x.q.frozen ∧ (true = true ∧ List.length x.q.recs = List.length x.q.recs ∧ contLe (List.length x.q.recs) (5 : Nat) (cellsOf' encR x.q.recs) (cellsOf' encR x.q.recs)) ∧ (true = true ∧ List.length x.q.prods = List.length x.q.prods ∧ contLe (List.length x.q.prods) (4 : Nat) (cellsOf' P.encP x.q.prods) (cellsOf' P.encP x.q.prods)) ∧ (true = true ∧ List.length x.q.cons = List.length x.q.cons ∧ contLe (List.length x.q.cons) (2 : Nat) (cellsOf' encC x.q.cons) (cellsOf' encC x.q.cons)) ∧ True) ∧ (x.A.rng.lo = x.A.rng.lo ∧ x.A.rng.hi = x.A.rng.hi ∧ x.A.epoch = x.A.epoch ∧ x.A.frozen = x.A.frozen ∧ (true = true ∧ List.length x.A.recs = List.length x.A.recs ∧ contLe (List.length x.A.recs) (5 : Nat) (cellsOf' encR x.A.recs) (cellsOf' encR x.A.recs)) ∧ (true = true ∧ List.length x.A.prods = List.length x.A.prods ∧ contLe (List.length x.A.prods) (4 : Nat) (cellsOf' P.encP x.A.prods) (cellsOf' P.encP x.A.prods)) ∧ (true = true ∧ List.length x.A.cons = List.length x.A.cons ∧ contLe (List.length x.A.cons) (2 : Nat) (cellsOf' encC x.A.cons) (cellsOf' encC x.A.cons)) ∧ True) ∧ (x.B.rng.lo = x.B.rng.lo ∧ x.B.rng.hi = x.B.rng.hi ∧ x.B.epoch = x.B.epoch ∧ x.B.frozen = x.B.frozen ∧ (true = true ∧ List.length x.B.recs = List.length x.B.recs ∧ contLe (List.length x.B.recs) (5 : Nat) (cellsOf' encR x.B.recs) (cellsOf' encR x.B.recs)) ∧ (true = true ∧ List.length x.B.prods = List.length x.B.prods ∧ contLe (List.length x.B.prods) (4 : Nat) (cellsOf' P.encP x.B.prods) (cellsOf' P.encP x.B.prods)) ∧ (true = true ∧ List.length x.B.cons = List.length x.B.cons ∧ contLe (List.length x.B.cons) (2 : Nat) (cellsOf' encC x.B.cons) (cellsOf' encC x.B.cons)) ∧ True) ∧ (x.M.rng.lo = x.M.rng.lo ∧ x.M.rng.hi = x.M.rng.hi ∧ x.M.epoch = x.M.epoch ∧ x.M.frozen = x.M.frozen ∧ (true = true ∧ List.length x.M.recs = List.length x.M.recs ∧ contLe (List.length x.M.recs) (5 : Nat) (cellsOf' encR x.M.recs) (cellsOf' encR x.M.recs)) ∧ (true = true ∧ List.length x.M.prods = List.length x.M.prods ∧ contLe (List.length x.M.prods) (4 : Nat) (cellsOf' P.encP x.M.prods) (cellsOf' P.encP x.M.prods)) ∧ (true = true ∧ List.length x.M.cons = List.length x.M.cons ∧ contLe (List.length x.M.cons) (2 : Nat) (cellsOf' encC x.M.cons) (cellsOf' encC x.M.cons)) ∧ True) ∧ True) ∧ true = true)) ∧ (decide (s ≤ y.seq) = false → (((0 : Nat) = (0 : Nat) ∧ (0 : Nat) = (0 : Nat)) ∧ ((0 : Nat) = (0 : Nat) ∧ (0 : Nat) = (0 : Nat)) ∧ true = true ∧ ((0 : Nat) = (0 : Nat) ∧ (0 : Nat) = (0 : Nat)) ∧ ((0 : Nat) = (0 : Nat) ∧ (0 : Nat) = (0 : Nat)) ∧ x.e = x.e ∧ ((0 : Nat) = (0 : Nat) ∧ (0 : Nat) = (0 : Nat)) ∧ x.f = x.f ∧ (↑i : Int) = (↑i : Int) ∧ True) ∧ ((x.p.rng.lo = x.p.rng.lo ∧ x.p.rng.hi = x.p.rng.hi ∧ x.p.epoch = x.p.epoch ∧ x.p.frozen = x.p.frozen ∧ (true = true ∧ List.length x.p.recs = List.length x.p.recs ∧ contLe (List.length x.p.recs) (5 : Nat) (cellsOf' encR x.p.recs) (cellsOf' encR x.p.recs)) ∧ (true = true ∧ List.length x.p.prods = List.length x.p.prods ∧ contLe (List.length x.p.prods) (4 : Nat) (cellsOf' P.encP x.p.prods) (cellsOf' P.encP x.p.prods)) ∧ (true = true ∧ List.length x.p.cons = List.length x.p.cons ∧ contLe (List.length x.p.cons) (2 : Nat) (cellsOf' encC x.p.cons) (cellsOf' encC x.p.cons)) ∧ True) ∧ (x.q.rng.lo = x.q.rng.lo ∧ x.q.rng.hi = x.q.rng.hi ∧ x.q.epoch = x.q.epoch ∧ x.q.frozen = x.q.frozen ∧ (true = true ∧ List.length x.q.recs = List.length x.q.recs ∧ contLe (List.length x.q.recs) (5 : Nat) (cellsOf' encR x.q.recs) (cellsOf' encR x.q.recs)) ∧ (true = true ∧ List.length x.q.prods = List.length x.q.prods ∧ contLe (List.length x.q.prods) (4 : Nat) (cellsOf' P.encP x.q.prods) (cellsOf' P.encP x.q.prods)) ∧ (true = true ∧ List.length x.q.cons = List.length x.q.cons ∧ contLe (List.length x.q.cons) (2 : Nat) (cellsOf' encC x.q.cons) (cellsOf' encC x.q.cons)) ∧ True) ∧ (x.A.rng.lo = x.A.rng.lo ∧ x.A.rng.hi = x.A.rng.hi ∧ x.A.epoch = x.A.epoch ∧ x.A.frozen = x.A.frozen ∧ (true = true ∧ List.length x.A.recs = List.length x.A.recs ∧ contLe (List.length x.A.recs) (5 : Nat) (cellsOf' encR x.A.recs) (cellsOf' encR x.A.recs)) ∧ (true = true ∧ List.length x.A.prods = List.length x.A.prods ∧ contLe (List.length x.A.prods) (4 : Nat) (cellsOf' P.encP x.A.prods) (cellsOf' P.encP x.A.prods)) ∧ (true = true ∧ List.length x.A.cons = List.length x.A.cons ∧ contLe (List.length x.A.cons) (2 : Nat) (cellsOf' encC x.A.cons) (cellsOf' encC x.A.cons)) ∧ True) ∧ (x.B.rng.lo = x.B.rng.lo ∧ x.B.rng.hi = x.B.rng.hi ∧ x.B.epoch = x.B.epoch ∧ x.B.frozen = x.B.frozen ∧ (true = true ∧ List.length x.B.recs = List.length x.B.recs ∧ contLe (List.length x.B.recs) (5 : Nat) (cellsOf' encR x.B.recs) (cellsOf' encR x.B.recs)) ∧ (true = true ∧ List.length x.B.prods = List.length x.B.prods ∧ contLe (List.length x.B.prods) (4 : Nat) (cellsOf' P.encP x.B.prods) (cellsOf' P.encP x.B.prods)) ∧ (true = true ∧ List.length x.B.cons = List.length x.B.cons ∧ contLe (List.length x.B.cons) (2 : Nat) (cellsOf' encC x.B.cons) (cellsOf' encC x.B.cons)) ∧ True) ∧ (x.M.rng.lo = x.M.rng.lo ∧ x.M.rng.hi = x.M.rng.hi ∧ x.M.epoch = x.M.epoch ∧ x.M.frozen = x.M.frozen ∧ (true = true ∧ List.length x.M.recs = List.length x.M.recs ∧ contLe (List.length x.M.recs) (5 : Nat) (cellsOf' encR x.M.recs) (cellsOf' encR x.M.recs)) ∧ (true = true ∧ List.length x.M.prods = List.length x.M.prods ∧ contLe (List.length x.M.prods) (4 : Nat) (cellsOf' P.encP x.M.prods) (cellsOf' P.encP x.M.prods)) ∧ (true = true ∧ List.length x.M.cons = List.length x.M.cons ∧ contLe (List.length x.M.cons) (2 : Nat) (cellsOf' encC x.M.cons) (cellsOf' encC x.M.cons)) ∧ True) ∧ True) ∧ true = true)
set_option maxRecDepth 1000000 in
theorem vcOi_eq (x : Onc) (i : Nat) (y : P.Producer) (s : Int) : (loopVC Tryz.prog (oiH x y s) 7 12 (fun s => (y.seq + 1 - s).toNat) (oiT x i) (fun _ => oiM x y) onX (fun _ => .ret ()) (oiS x i) s) = vcOi x i y s := by kernel_rfl
noncomputable def onH (x : Onc) (i : Nat) : HintsT Tryz.prog := hh _ (lp1 7 12 (jobOf (oiT x i) (fun _ => oiM x (xAt x i)) onX (fun _ => .ret ()) (oiS x i) (s0 (xAt x i))) noLp) noCs noOp
def onS (x : Onc) (_ : Unit) : Exit × List AV × List Blk := (.exit 0, onB x [], onM x)
def vcOn (x : Onc) (i : Nat) : Prop :=
  (decide ((↑i : Int) < IntKind.wrap IntKind.i64 ((↑(List.length x.p.prods) : Int) + (↑(List.length x.q.prods) : Int))) = true → (decide ((↑i : Int) < (↑(List.length x.p.prods) : Int)) = true → (true && decide ((↑i : Int) < (↑(List.length x.p.prods) : Int))) = true ∧ ((((0 : Nat) = (0 : Nat) ∧ (0 : Nat) = (0 : Nat)) ∧ ((0 : Nat) = (0 : Nat) ∧ (0 : Nat) = (0 : Nat)) ∧ true = true ∧ ((0 : Nat) = (0 : Nat) ∧ (0 : Nat) = (0 : Nat)) ∧ ((0 : Nat) = (0 : Nat) ∧ (0 : Nat) = (0 : Nat)) ∧ x.e = x.e ∧ ((0 : Nat) = (0 : Nat) ∧ (0 : Nat) = (0 : Nat)) ∧ x.f = x.f ∧ (↑i : Int) = (↑i : Int) ∧ ((0 : Nat) = (0 : Nat) ∧ (0 : Nat) = (0 : Nat)) ∧ IntKind.wrap IntKind.u64 ((if (2 : Int) > (List.getD x.p.prods (Int.toNat (↑i : Int)) (@default P.Producer P.instInhabitedProducer)).seq then (2 : Int) else (List.getD x.p.prods (Int.toNat (↑i : Int)) (@default P.Producer P.instInhabitedProducer)).seq) - (2 : Int)) = s0 (xAt x i) ∧ True) ∧ ((x.p.rng.lo = x.p.rng.lo ∧ x.p.rng.hi = x.p.rng.hi ∧ x.p.epoch = x.p.epoch ∧ x.p.frozen = x.p.frozen ∧ (true = true ∧ List.length x.p.recs = List.length x.p.recs ∧ contLe (List.length x.p.recs) (5 : Nat) (cellsOf' encR x.p.recs) (cellsOf' encR x.p.recs)) ∧ (true = true ∧ List.length x.p.prods = List.length x.p.prods ∧ contLe (List.length x.p.prods) (4 : Nat) (cellsOf' P.encP x.p.prods) (cellsOf' P.encP x.p.prods)) ∧ (true = true ∧ List.length x.p.cons = List.length x.p.cons ∧ contLe (List.length x.p.cons) (2 : Nat) (cellsOf' encC x.p.cons) (cellsOf' encC x.p.cons)) ∧ True) ∧ (x.q.rng.lo = x.q.rng.lo ∧ x.q.rng.hi = x.q.rng.hi ∧ x.q.epoch = x.q.epoch ∧ x.q.frozen = x.q.frozen ∧ (true = true ∧ List.length x.q.recs = List.length x.q.recs ∧ contLe (List.length x.q.recs) (5 : Nat) (cellsOf' encR x.q.recs) (cellsOf' encR x.q.recs)) ∧ (true = true ∧ List.length x.q.prods = List.length x.q.prods ∧ contLe (List.length x.q.prods) (4 : Nat) (cellsOf' P.encP x.q.prods) (cellsOf' P.encP x.q.prods)) ∧ (true = true ∧ List.length x.q.cons = List.length x.q.cons ∧ contLe (List.length x.q.cons) (2 : Nat) (cellsOf' encC x.q.cons) (cellsOf' encC x.q.cons)) ∧ True) ∧ (x.A.rng.lo = x.A.rng.lo ∧ x.A.rng.hi = x.A.rng.hi ∧ x.A.epoch = x.A.epoch ∧ x.A.frozen = x.A.frozen ∧ (true = true ∧ List.length x.A.recs = List.length x.A.recs ∧ contLe (List.length x.A.recs) (5 : Nat) (cellsOf' encR x.A.recs) (cellsOf' encR x.A.recs)) ∧ (true = true ∧ List.length x.A.prods = List.length x.A.prods ∧ contLe (List.length x.A.prods) (4 : Nat) (cellsOf' P.encP x.A.prods) (cellsOf' P.encP x.A.prods)) ∧ (true = true ∧ List.length x.A.cons = List.length x.A.cons ∧ contLe (List.length x.A.cons) (2 : Nat) (cellsOf' encC x.A.cons) (cellsOf' encC x.A.cons)) ∧ True) ∧ (x.B.rng.lo = x.B.rng.lo ∧ x.B.rng.hi = x.B.rng.hi ∧ x.B.epoch = x.B.epoch ∧ x.B.frozen = x.B.frozen ∧ (true = true ∧ List.length x.B.recs = List.length x.B.recs ∧ contLe (List.length x.B.recs) (5 : Nat) (cellsOf' encR x.B.recs) (cellsOf' encR x.B.recs)) ∧ (true = true ∧ List.length x.B.prods = List.length x.B.prods ∧ contLe (List.length x.B.prods) (4 : Nat) (cellsOf' P.encP x.B.prods) (cellsOf' P.encP x.B.prods)) ∧ (true = true ∧ List.length x.B.cons = List.length x.B.cons ∧ contLe (List.length x.B.cons) (2 : Nat) (cellsOf' encC x.B.cons) (cellsOf' encC x.B.cons)) ∧ True) ∧ (x.M.rng.lo = x.M.rng.lo ∧ x.M.rng.hi = x.M.rng.hi ∧ x.M.epoch = x.M.epoch ∧ x.M.frozen = x.M.frozen ∧ (true = true ∧ List.length x.M.recs = List.length x.M.recs ∧ contLe (List.length x.M.recs) (5 : Nat) (cellsOf' encR x.M.recs) (cellsOf' encR x.M.recs)) ∧ (true = true ∧ List.length x.M.prods = List.length x.M.prods ∧ contLe (List.length x.M.prods) (4 : Nat) (cellsOf' P.encP x.M.prods) (cellsOf' P.encP x.M.prods)) ∧ (true = true ∧ List.length x.M.cons = List.length x.M.cons ∧ contLe (List.length x.M.cons) (2 : Nat) (cellsOf' encC x.M.cons) (cellsOf' encC x.M.cons)) ∧ True) ∧ ((List.getD x.p.prods (Int.toNat (↑i : Int)) (@default P.Producer P.instInhabitedProducer)).id = (xAt x i).id ∧ (List.getD x.p.prods (Int.toNat (↑i : Int)) (@default P.Producer P.instInhabitedProducer)).seq = (xAt x i).seq ∧ (List.getD x.p.prods (Int.toNat (↑i : Int)) (@default P.Producer P.instInhabitedProducer)).here = (xAt x i).here ∧ (List.getD x.p.prods (Int.toNat (↑i : Int)) (@default P.Producer P.instInhabitedProducer)).offset = (xAt x i).offset ∧ True) ∧ True) ∧ true = true) ∧ LoopOk Tryz.prog (7 : Nat) (12 : Nat) (loopAt Tryz.prog (7 : Nat) (12 : Nat)) { t := oiT x i (s0 (xAt x i)), m := oiM x (xAt x i), mv := [] : St } (T.map (lout onX (oiS x i)) ((fun (x : Int) => T.ret ()) (s0 (xAt x i)))) ∧ ∃ (j : Nat), List.length x.p.prods + List.length x.q.prods - j < List.length x.p.prods + List.length x.q.prods - i ∧ ((((0 : Nat) = (0 : Nat) ∧ (0 : Nat) = (0 : Nat)) ∧ ((0 : Nat) = (0 : Nat) ∧ (0 : Nat) = (0 : Nat)) ∧ true = true ∧ ((0 : Nat) = (0 : Nat) ∧ (0 : Nat) = (0 : Nat)) ∧ ((0 : Nat) = (0 : Nat) ∧ (0 : Nat) = (0 : Nat)) ∧ x.e = x.e ∧ ((0 : Nat) = (0 : Nat) ∧ (0 : Nat) = (0 : Nat)) ∧ x.f = x.f ∧ IntKind.wrap IntKind.i64 ((↑i : Int) + (1 : Int)) = (↑j : Int) ∧ True) ∧ ((x.p.rng.lo = x.p.rng.lo ∧ x.p.rng.hi = x.p.rng.hi ∧ x.p.epoch = x.p.epoch ∧ x.p.frozen = x.p.frozen ∧ (true = true ∧ List.length x.p.recs = List.length x.p.recs ∧ contLe (List.length x.p.recs) (5 : Nat) (cellsOf' encR x.p.recs) (cellsOf' encR x.p.recs)) ∧ (true = true ∧ List.length x.p.prods = List.length x.p.prods ∧ contLe (List.length x.p.prods) (4 : Nat) (cellsOf' P.encP x.p.prods) (cellsOf' P.encP x.p.prods)) ∧ (true = true ∧ List.length x.p.cons = List.length x.p.cons ∧ contLe (List.length x.p.cons) (2 : Nat) (cellsOf' encC x.p.cons) (cellsOf' encC x.p.cons)) ∧ True) ∧ (x.q.rng.lo = x.q.rng.lo ∧ x.q.rng.hi = x.q.rng.hi ∧ x.q.epoch = x.q.epoch ∧ x.q.frozen = x.q.frozen ∧ (true = true ∧ List.length x.q.recs = List.length x.q.recs ∧ contLe (List.length x.q.recs) (5 : Nat) (cellsOf' encR x.q.recs) (cellsOf' encR x.q.recs)) ∧ (true = true ∧ List.length x.q.prods = List.length x.q.prods ∧ contLe (List.length x.q.prods) (4 : Nat) (cellsOf' P.encP x.q.prods) (cellsOf' P.encP x.q.prods)) ∧ (true = true ∧ List.length x.q.cons = List.length x.q.cons ∧ contLe (List.length x.q.cons) (2 : Nat) (cellsOf' encC x.q.cons) (cellsOf' encC x.q.cons)) ∧ True) ∧ (x.A.rng.lo = x.A.rng.lo ∧ x.A.rng.hi = x.A.rng.hi ∧ x.A.epoch = x.A.epoch ∧ x.A.frozen = x.A.frozen ∧ (true = true ∧ List.length x.A.recs = List.length x.A.recs ∧ contLe (List.length x.A.recs) (5 : Nat) (cellsOf' encR x.A.recs) (cellsOf' encR x.A.recs)) ∧ (true = true ∧ List.length x.A.prods = List.length x.A.prods ∧ contLe (List.length x.A.prods) (4 : Nat) (cellsOf' P.encP x.A.prods) (cellsOf' P.encP x.A.prods)) ∧ (true = true ∧ List.length x.A.cons = List.length x.A.cons ∧ contLe (List.length x.A.cons) (2 : Nat) (cellsOf' encC x.A.cons) (cellsOf' encC x.A.cons)) ∧ True) ∧ (x.B.rng.lo = x.B.rng.lo ∧ x.B.rng.hi = x.B.rng.hi ∧ x.B.epoch = x.B.epoch ∧ x.B.frozen = x.B.frozen ∧ (true = true ∧ List.length x.B.recs = List.length x.B.recs ∧ contLe (List.length x.B.recs) (5 : Nat) (cellsOf' encR x.B.recs) (cellsOf' encR x.B.recs)) ∧ (true = true ∧ List.length x.B.prods = List.length x.B.prods ∧ contLe (List.length x.B.prods) (4 : Nat) (cellsOf' P.encP x.B.prods) (cellsOf' P.encP x.B.prods)) ∧ (true = true ∧ List.length x.B.cons = List.length x.B.cons ∧ contLe (List.length x.B.cons) (2 : Nat) (cellsOf' encC x.B.cons) (cellsOf' encC x.B.cons)) ∧ True) ∧ (x.M.rng.lo = x.M.rng.lo ∧ x.M.rng.hi = x.M.rng.hi ∧ x.M.epoch = x.M.epoch ∧ x.M.frozen = x.M.frozen ∧ (true = true ∧ List.length x.M.recs = List.length x.M.recs ∧ contLe (List.length x.M.recs) (5 : Nat) (cellsOf' encR x.M.recs) (cellsOf' encR x.M.recs)) ∧ (true = true ∧ List.length x.M.prods = List.length x.M.prods ∧ contLe (List.length x.M.prods) (4 : Nat) (cellsOf' P.encP x.M.prods) (cellsOf' P.encP x.M.prods)) ∧ (true = true ∧ List.length x.M.cons = List.length x.M.cons ∧ contLe (List.length x.M.cons) (2 : Nat) (cellsOf' encC x.M.cons) (cellsOf' encC x.M.cons)) ∧ True) ∧ True) ∧ true = true) ∧ true = true ∧ () = ()) ∧ (decide ((↑i : Int) < (↑(List.length x.p.prods) : Int)) = false → (decide ((0 : Int) ≤ IntKind.wrap IntKind.i64 ((↑i : Int) - (↑(List.length x.p.prods) : Int))) && decide (IntKind.wrap IntKind.i64 ((↑i : Int) - (↑(List.length x.p.prods) : Int)) < (↑(List.length x.q.prods) : Int))) = true ∧ ((((0 : Nat) = (0 : Nat) ∧ (0 : Nat) = (0 : Nat)) ∧ ((0 : Nat) = (0 : Nat) ∧ (0 : Nat) = (0 : Nat)) ∧ true = true ∧ ((0 : Nat) = (0 : Nat) ∧ (0 : Nat) = (0 : Nat)) ∧ ((0 : Nat) = (0 : Nat) ∧ (0 : Nat) = (0 : Nat)) ∧ x.e = x.e ∧ ((0 : Nat) = (0 : Nat) ∧ (0 : Nat) = (0 : Nat)) ∧ x.f = x.f ∧ (↑i : Int) = (↑i : Int) ∧ ((0 : Nat) = (0 : Nat) ∧ (0 : Nat) = (0 : Nat)) ∧ IntKind.wrap IntKind.u64 ((if (2 : Int) > (List.getD x.q.prods (Int.toNat (IntKind.wrap IntKind.i64 ((↑i : Int) - (↑(List.length x.p.prods) : Int)))) (@default P.Producer P.instInhabitedProducer)).seq then (2 : Int) else (List.getD x.q.prods (Int.toNat (IntKind.wrap IntKind.i64 ((↑i : Int) - (↑(List.length x.p.prods) : Int)))) (@default P.Producer P.instInhabitedProducer)).seq) - (2 : Int)) = s0 (xAt x i) ∧ True) ∧ ((x.p.rng.lo = x.p.rng.lo ∧ x.p.rng.hi = x.p.rng.hi ∧ x.p.epoch = x.p.epoch ∧ x.p.frozen = x.p.frozen ∧ (true = true ∧ List.length x.p.recs = List.length x.p.recs ∧ contLe (List.length x.p.recs) (5 : Nat) (cellsOf' encR x.p.recs) (cellsOf' encR x.p.recs)) ∧ (true = true ∧ List.length x.p.prods = List.length x.p.prods ∧ contLe (List.length x.p.prods) (4 : Nat) (cellsOf' P.encP x.p.prods) (cellsOf' P.encP x.p.prods)) ∧ (true = true ∧ List.length x.p.cons = List.length x.p.cons ∧ contLe (List.length x.p.cons) (2 : Nat) (cellsOf' encC x.p.cons) (cellsOf' encC x.p.cons)) ∧ True) ∧ (x.q.rng.lo = x.q.rng.lo ∧ x.q.rng.hi = x.q.rng.hi ∧ x.q.epoch = x.q.epoch ∧ x.q.frozen = x.q.frozen ∧ (true = true ∧ List.length x.q.recs = List.length x.q.recs ∧ contLe (List.length x.q.recs) (5 : Nat) (cellsOf' encR x.q.recs) (cellsOf' encR x.q.recs)) ∧ (true = true ∧ List.length x.q.prods = List.length x.q.prods ∧ contLe (List.length x.q.prods) (4 : Nat) (cellsOf' P.encP x.q.prods) (cellsOf' P.encP x.q.prods)) ∧ (true = true ∧ List.length x.q.cons = List.length x.q.cons ∧ contLe (List.length x.q.cons) (2 : Nat) (cellsOf' encC x.q.cons) (cellsOf' encC x.q.cons)) ∧ True) ∧ (x.A.rng.lo = x.A.rng.lo ∧ x.A.rng.hi = x.A.rng.hi ∧ x.A.epoch = x.A.epoch ∧ x.A.frozen = x.A.frozen ∧ (true = true ∧ List.length x.A.recs = List.length x.A.recs ∧ contLe (List.length x.A.recs) (5 : Nat) (cellsOf' encR x.A.recs) (cellsOf' encR x.A.recs)) ∧ (true = true ∧ List.length x.A.prods = List.length x.A.prods ∧ contLe (List.length x.A.prods) (4 : Nat) (cellsOf' P.encP x.A.prods) (cellsOf' P.encP x.A.prods)) ∧ (true = true ∧ List.length x.A.cons = List.length x.A.cons ∧ contLe (List.length x.A.cons) (2 : Nat) (cellsOf' encC x.A.cons) (cellsOf' encC x.A.cons)) ∧ True) ∧ (x.B.rng.lo = x.B.rng.lo ∧ x.B.rng.hi = x.B.rng.hi ∧ x.B.epoch = x.B.epoch ∧ x.B.frozen = x.B.frozen ∧ (true = true ∧ List.length x.B.recs = List.length x.B.recs ∧ contLe (List.length x.B.recs) (5 : Nat) (cellsOf' encR x.B.recs) (cellsOf' encR x.B.recs)) ∧ (true = true ∧ List.length x.B.prods = List.length x.B.prods ∧ contLe (List.length x.B.prods) (4 : Nat) (cellsOf' P.encP x.B.prods) (cellsOf' P.encP x.B.prods)) ∧ (true = true ∧ List.length x.B.cons = List.length x.B.cons ∧ contLe (List.length x.B.cons) (2 : Nat) (cellsOf' encC x.B.cons) (cellsOf' encC x.B.cons)) ∧ True) ∧ (x.M.rng.lo = x.M.rng.lo ∧ x.M.rng.hi = x.M.rng.hi ∧ x.M.epoch = x.M.epoch ∧ x.M.frozen = x.M.frozen ∧ (true = true ∧ List.length x.M.recs = List.length x.M.recs ∧ contLe (List.length x.M.recs) (5 : Nat) (cellsOf' encR x.M.recs) (cellsOf' encR x.M.recs)) ∧ (true = true ∧ List.length x.M.prods = List.length x.M.prods ∧ contLe (List.length x.M.prods) (4 : Nat) (cellsOf' P.encP x.M.prods) (cellsOf' P.encP x.M.prods)) ∧ (true = true ∧ List.length x.M.cons = List.length x.M.cons ∧ contLe (List.length x.M.cons) (2 : Nat) (cellsOf' encC x.M.cons) (cellsOf' encC x.M.cons)) ∧ True) ∧ ((List.getD x.q.prods (Int.toNat (IntKind.wrap IntKind.i64 ((↑i : Int) - (↑(List.length x.p.prods) : Int)))) (@default P.Producer P.instInhabitedProducer)).id = (xAt x i).id ∧ (List.getD x.q.prods (Int.toNat (IntKind.wrap IntKind.i64 ((↑i : Int) - (↑(List.length x.p.prods) : Int)))) (@default P.Producer P.instInhabitedProducer)).seq = (xAt x i).seq ∧ (List.getD x.q.prods (Int.toNat (IntKind.wrap IntKind.i64 ((↑i : Int) - (↑(List.length x.p.prods) : Int)))) (@default P.Producer P.instInhabitedProducer)).here = (xAt x i).here ∧ (List.getD x.q.prods (Int.toNat (IntKind.wrap IntKind.i64 ((↑i : Int) - (↑(List.length x.p.prods) : Int)))) (@default P.Producer P.instInhabitedProducer)).offset = (xAt x i).offset ∧ True) ∧ True) ∧ true = true) ∧ LoopOk Tryz.prog (7 : Nat) (12 : Nat) (loopAt Tryz.prog (7 : Nat) (12 : Nat)) { t := oiT x i (s0 (xAt x i)), m := oiM x (xAt x i), mv := [] : St } (T.map (lout onX (oiS x i)) ((fun (x : Int) => T.ret ()) (s0 (xAt x i)))) ∧ ∃ (j : Nat), List.length x.p.prods + List.length x.q.prods - j < List.length x.p.prods + List.length x.q.prods - i ∧ ((((0 : Nat) = (0 : Nat) ∧ (0 : Nat) = (0 : Nat)) ∧ ((0 : Nat) = (0 : Nat) ∧ (0 : Nat) = (0 : Nat)) ∧ true = true ∧ ((0 : Nat) = (0 : Nat) ∧ (0 : Nat) = (0 : Nat)) ∧ ((0 : Nat) = (0 : Nat) ∧ (0 : Nat) = (0 : Nat)) ∧ x.e = x.e ∧ ((0 : Nat) = (0 : Nat) ∧ (0 : Nat) = (0 : Nat)) ∧ x.f = x.f ∧ IntKind.wrap IntKind.i64 ((↑i : Int) + (1 : Int)) = (↑j : Int) ∧ True) ∧ ((x.p.rng.lo = x.p.rng.lo ∧ x.p.rng.hi = x.p.rng.hi ∧ x.p.epoch = x.p.epoch ∧ x.p.frozen = x.p.frozen ∧ (true = true ∧ List.length x.p.recs = List.length x.p.recs ∧ contLe (List.length x.p.recs) (5 : Nat) (cellsOf' encR x.p.recs) (cellsOf' encR x.p.recs)) ∧ (true = true ∧ List.length x.p.prods = List.length x.p.prods ∧ contLe (List.length x.p.prods) (4 : Nat) (cellsOf' P.encP x.p.prods) (cellsOf' P.encP x.p.prods)) ∧ (true = true ∧ List.length x.p.cons = List.length x.p.cons ∧ contLe (List.length x.p.cons) (2 : Nat) (cellsOf' encC x.p.cons) (cellsOf' encC x.p.cons)) ∧ True) ∧ (x.q.rng.lo = x.q.rng.lo ∧ x.q.rng.hi = x.q.rng.hi ∧ x.q.epoch = x.q.epoch ∧ x.q.frozen = x.q.frozen ∧ (true = true ∧ List.length x.q.recs = List.length x.q.recs ∧ contLe (List.length x.q.recs) (5 : Nat) (cellsOf' encR x.q.recs) (cellsOf' encR x.q.recs)) ∧ (true = true ∧ List.length x.q.prods = List.length x.q.prods ∧ contLe (List.length x.q.prods) (4 : Nat) (cellsOf' P.encP x.q.prods) (cellsOf' P.encP x.q.prods)) ∧ (true = true ∧ List.length x.q.cons = List.length x.q.cons ∧ contLe (List.length x.q.cons) (2 : Nat) (cellsOf' encC x.q.cons) (cellsOf' encC x.q.cons)) ∧ True) ∧ (x.A.rng.lo = x.A.rng.lo ∧ x.A.rng.hi = x.A.rng.hi ∧ x.A.epoch = x.A.epoch ∧ x.A.frozen = x.A.frozen ∧ (true = true ∧ List.length x.A.recs = List.length x.A.recs ∧ contLe (List.length x.A.recs) (5 : Nat) (cellsOf' encR x.A.recs) (cellsOf' encR x.A.recs)) ∧ (true = true ∧ List.length x.A.prods = List.length x.A.prods ∧ contLe (List.length x.A.prods) (4 : Nat) (cellsOf' P.encP x.A.prods) (cellsOf' P.encP x.A.prods)) ∧ (true = true ∧ List.length x.A.cons = List.length x.A.cons ∧ contLe (List.length x.A.cons) (2 : Nat) (cellsOf' encC x.A.cons) (cellsOf' encC x.A.cons)) ∧ True) ∧ (x.B.rng.lo = x.B.rng.lo ∧ x.B.rng.hi = x.B.rng.hi ∧ x.B.epoch = x.B.epoch ∧ x.B.frozen = x.B.frozen ∧ (true = true ∧ List.length x.B.recs = List.length x.B.recs ∧ contLe (List.length x.B.recs) (5 : Nat) (cellsOf' encR x.B.recs) (cellsOf' encR x.B.recs)) ∧ (true = true ∧ List.length x.B.prods = List.length x.B.prods ∧ contLe (List.length x.B.prods) (4 : Nat) (cellsOf' P.encP x.B.prods) (cellsOf' P.encP x.B.prods)) ∧ (true = true ∧ List.length x.B.cons = List.length x.B.cons ∧ contLe (List.length x.B.cons) (2 : Nat) (cellsOf' encC x.B.cons) (cellsOf' encC x.B.cons)) ∧ True) ∧ (x.M.rng.lo = x.M.rng.lo ∧ x.M.rng.hi = x.M.rng.hi ∧ x.M.epoch = x.M.epoch ∧ x.M.frozen = x.M.frozen ∧ (true = true ∧ List.length x.M.recs = List.length x.M.recs ∧ contLe (List.length x.M.recs) (5 : Nat) (cellsOf' encR x.M.recs) (cellsOf' encR x.M.recs)) ∧ (true = true ∧ List.length x.M.prods = List.length x.M.prods ∧ contLe (List.length x.M.prods) (4 : Nat) (cellsOf' P.encP x.M.prods) (cellsOf' P.encP x.M.prods)) ∧ (true = true ∧ List.length x.M.cons = List.length x.M.cons ∧ contLe (List.length x.M.cons) (2 : Nat) (cellsOf' encC x.M.cons) (cellsOf' encC x.M.cons)) ∧ True) ∧ True) ∧ true = true) ∧ true = true ∧ () = ())) ∧ (decide ((↑i : Int) < IntKind.wrap IntKind.i64 ((↑(List.length x.p.prods) : Int) + (↑(List.length x.q.prods) : Int))) = false → (((0 : Nat) = (0 : Nat) ∧ (0 : Nat) = (0 : Nat)) ∧ ((0 : Nat) = (0 : Nat) ∧ (0 : Nat) = (0 : Nat)) ∧ true = true ∧ ((0 : Nat) = (0 : Nat) ∧ (0 : Nat) = (0 : Nat)) ∧ ((0 : Nat) = (0 : Nat) ∧ (0 : Nat) = (0 : Nat)) ∧ x.e = x.e ∧ ((0 : Nat) = (0 : Nat) ∧ (0 : Nat) = (0 : Nat)) ∧ x.f = x.f ∧ True) ∧ ((x.p.rng.lo = x.p.rng.lo ∧ x.p.rng.hi = x.p.rng.hi ∧ x.p.epoch = x.p.epoch ∧ x.p.frozen = x.p.frozen ∧ (true = true ∧ List.length x.p.recs = List.length x.p.recs ∧ contLe (List.length x.p.recs) (5 : Nat) (cellsOf' encR x.p.recs) (cellsOf' encR x.p.recs)) ∧ (true = true ∧ List.length x.p.prods = List.length x.p.prods ∧ contLe (List.length x.p.prods) (4 : Nat) (cellsOf' P.encP x.p.prods) (cellsOf' P.encP x.p.prods)) ∧ (true = true ∧ List.length x.p.cons = List.length x.p.cons ∧ contLe (List.length x.p.cons) (2 : Nat) (cellsOf' encC x.p.cons) (cellsOf' encC x.p.cons)) ∧ True) ∧ (x.q.rng.lo = x.q.rng.lo ∧ x.q.rng.hi = x.q.rng.hi ∧ x.q.epoch = x.q.epoch ∧ x.q.frozen = x.q.frozen ∧ (true = true ∧ List.length x.q.recs = List.length x.q.recs ∧ contLe (List.length x.q.recs) (5 : Nat) (cellsOf' encR x.q.recs) (cellsOf' encR x.q.recs)) ∧ (true = true ∧ List.length x.q.prods = List.length x.q.prods ∧ contLe (List.length x.q.prods) (4 : Nat) (cellsOf' P.encP x.q.prods) (cellsOf' P.encP x.q.prods)) ∧ (true = true ∧ List.length x.q.cons = List.length x.q.cons ∧ contLe (List.length x.q.cons) (2 : Nat) (cellsOf' encC x.q.cons) (cellsOf' encC x.q.cons)) ∧ True) ∧ (x.A.rng.lo = x.A.rng.lo ∧ x.A.rng.hi = x.A.rng.hi ∧ x.A.epoch = x.A.epoch ∧ x.A.frozen = x.A.frozen ∧ (true = true ∧ List.length x.A.recs = List.length x.A.recs ∧ contLe (List.length x.A.recs) (5 : Nat) (cellsOf' encR x.A.recs) (cellsOf' encR x.A.recs)) ∧ (true = true ∧ List.length x.A.prods = List.length x.A.prods ∧ contLe (List.length x.A.prods) (4 : Nat) (cellsOf' P.encP x.A.prods) (cellsOf' P.encP x.A.prods)) ∧ (true = true ∧ List.length x.A.cons = List.length x.A.cons ∧ contLe (List.length x.A.cons) (2 : Nat) (cellsOf' encC x.A.cons) (cellsOf' encC x.A.cons)) ∧ True) ∧ (x.B.rng.lo = x.B.rng.lo ∧ x.B.rng.hi = x.B.rng.hi ∧ x.B.epoch = x.B.epoch ∧ x.B.frozen = x.B.frozen ∧ (true = true ∧ List.length x.B.recs = List.length x.B.recs ∧ contLe (List.length x.B.recs) (5 : Nat) (cellsOf' encR x.B.recs) (cellsOf' encR x.B.recs)) ∧ (true = true ∧ List.length x.B.prods = List.length x.B.prods ∧ contLe (List.length x.B.prods) (4 : Nat) (cellsOf' P.encP x.B.prods) (cellsOf' P.encP x.B.prods)) ∧ (true = true ∧ List.length x.B.cons = List.length x.B.cons ∧ contLe (List.length x.B.cons) (2 : Nat) (cellsOf' encC x.B.cons) (cellsOf' encC x.B.cons)) ∧ True) ∧ (x.M.rng.lo = x.M.rng.lo ∧ x.M.rng.hi = x.M.rng.hi ∧ x.M.epoch = x.M.epoch ∧ x.M.frozen = x.M.frozen ∧ (true = true ∧ List.length x.M.recs = List.length x.M.recs ∧ contLe (List.length x.M.recs) (5 : Nat) (cellsOf' encR x.M.recs) (cellsOf' encR x.M.recs)) ∧ (true = true ∧ List.length x.M.prods = List.length x.M.prods ∧ contLe (List.length x.M.prods) (4 : Nat) (cellsOf' P.encP x.M.prods) (cellsOf' P.encP x.M.prods)) ∧ (true = true ∧ List.length x.M.cons = List.length x.M.cons ∧ contLe (List.length x.M.cons) (2 : Nat) (cellsOf' encC x.M.cons) (cellsOf' encC x.M.cons)) ∧ True) ∧ True) ∧ true = true)
set_option maxRecDepth 1000000 in
theorem vcOn_eq (x : Onc) (i : Nat) : (loopVC Tryz.prog (onH x i) 7 5 (fun i => x.p.prods.length + x.q.prods.length - i) (onT x) (fun _ => onM x) onX (fun _ => .ret ()) (onS x) i) = vcOn x i := by kernel_rfl
noncomputable def ocH (x : Onc) : HintsT Tryz.prog := hh _ (lp1 7 5 (jobOf (onT x) (fun _ => onM x) onX (fun _ => .ret ()) (onS x) 0) noLp) (cs1 7 1 0 livC (cs1 7 2 2 (srC x.p x.k x.A x.B x.e) (cs1 7 3 2 (mrC x.p x.q x.M x.f) noCs))) noOp
def vcOc (x : Onc) : Prop :=
  True ∧ True ∧ ((x.p.rng.lo = x.p.rng.lo ∧ x.p.rng.hi = x.p.rng.hi ∧ x.p.epoch = x.p.epoch ∧ x.p.frozen = x.p.frozen ∧ (true = true ∧ List.length x.p.recs = List.length x.p.recs ∧ contLe (List.length x.p.recs) (5 : Nat) (cellsOf' encR x.p.recs) (cellsOf' encR x.p.recs)) ∧ (true = true ∧ List.length x.p.prods = List.length x.p.prods ∧ contLe (List.length x.p.prods) (4 : Nat) (cellsOf' P.encP x.p.prods) (cellsOf' P.encP x.p.prods)) ∧ (true = true ∧ List.length x.p.cons = List.length x.p.cons ∧ contLe (List.length x.p.cons) (2 : Nat) (cellsOf' encC x.p.cons) (cellsOf' encC x.p.cons)) ∧ True) ∧ x.k = x.k ∧ True) ∧ True ∧ SplR x.p x.k x.A x.B x.e ∧ ((x.p.rng.lo = x.p.rng.lo ∧ x.p.rng.hi = x.p.rng.hi ∧ x.p.epoch = x.p.epoch ∧ x.p.frozen = x.p.frozen ∧ (true = true ∧ List.length x.p.recs = List.length x.p.recs ∧ contLe (List.length x.p.recs) (5 : Nat) (cellsOf' encR x.p.recs) (cellsOf' encR x.p.recs)) ∧ (true = true ∧ List.length x.p.prods = List.length x.p.prods ∧ contLe (List.length x.p.prods) (4 : Nat) (cellsOf' P.encP x.p.prods) (cellsOf' P.encP x.p.prods)) ∧ (true = true ∧ List.length x.p.cons = List.length x.p.cons ∧ contLe (List.length x.p.cons) (2 : Nat) (cellsOf' encC x.p.cons) (cellsOf' encC x.p.cons)) ∧ True) ∧ (x.q.rng.lo = x.q.rng.lo ∧ x.q.rng.hi = x.q.rng.hi ∧ x.q.epoch = x.q.epoch ∧ x.q.frozen = x.q.frozen ∧ (true = true ∧ List.length x.q.recs = List.length x.q.recs ∧ contLe (List.length x.q.recs) (5 : Nat) (cellsOf' encR x.q.recs) (cellsOf' encR x.q.recs)) ∧ (true = true ∧ List.length x.q.prods = List.length x.q.prods ∧ contLe (List.length x.q.prods) (4 : Nat) (cellsOf' P.encP x.q.prods) (cellsOf' P.encP x.q.prods)) ∧ (true = true ∧ List.length x.q.cons = List.length x.q.cons ∧ contLe (List.length x.q.cons) (2 : Nat) (cellsOf' encC x.q.cons) (cellsOf' encC x.q.cons)) ∧ True) ∧ True) ∧ True ∧ MrgR x.p x.q x.M x.f ∧ ((((0 : Nat) = (0 : Nat) ∧ (0 : Nat) = (0 : Nat)) ∧ ((0 : Nat) = (0 : Nat) ∧ (0 : Nat) = (0 : Nat)) ∧ true = true ∧ ((0 : Nat) = (0 : Nat) ∧ (0 : Nat) = (0 : Nat)) ∧ ((0 : Nat) = (0 : Nat) ∧ (0 : Nat) = (0 : Nat)) ∧ x.e = x.e ∧ ((0 : Nat) = (0 : Nat) ∧ (0 : Nat) = (0 : Nat)) ∧ x.f = x.f ∧ (0 : Int) = (0 : Int) ∧ True) ∧ ((x.p.rng.lo = x.p.rng.lo ∧ x.p.rng.hi = x.p.rng.hi ∧ x.p.epoch = x.p.epoch ∧ x.p.frozen = x.p.frozen ∧ (true = true ∧ List.length x.p.recs = List.length x.p.recs ∧ contLe (List.length x.p.recs) (5 : Nat) (cellsOf' encR x.p.recs) (cellsOf' encR x.p.recs)) ∧ (true = true ∧ List.length x.p.prods = List.length x.p.prods ∧ contLe (List.length x.p.prods) (4 : Nat) (cellsOf' P.encP x.p.prods) (cellsOf' P.encP x.p.prods)) ∧ (true = true ∧ List.length x.p.cons = List.length x.p.cons ∧ contLe (List.length x.p.cons) (2 : Nat) (cellsOf' encC x.p.cons) (cellsOf' encC x.p.cons)) ∧ True) ∧ (x.q.rng.lo = x.q.rng.lo ∧ x.q.rng.hi = x.q.rng.hi ∧ x.q.epoch = x.q.epoch ∧ x.q.frozen = x.q.frozen ∧ (true = true ∧ List.length x.q.recs = List.length x.q.recs ∧ contLe (List.length x.q.recs) (5 : Nat) (cellsOf' encR x.q.recs) (cellsOf' encR x.q.recs)) ∧ (true = true ∧ List.length x.q.prods = List.length x.q.prods ∧ contLe (List.length x.q.prods) (4 : Nat) (cellsOf' P.encP x.q.prods) (cellsOf' P.encP x.q.prods)) ∧ (true = true ∧ List.length x.q.cons = List.length x.q.cons ∧ contLe (List.length x.q.cons) (2 : Nat) (cellsOf' encC x.q.cons) (cellsOf' encC x.q.cons)) ∧ True) ∧ (x.A.rng.lo = x.A.rng.lo ∧ x.A.rng.hi = x.A.rng.hi ∧ x.A.epoch = x.A.epoch ∧ x.A.frozen = x.A.frozen ∧ (true = true ∧ List.length x.A.recs = List.length x.A.recs ∧ contLe (List.length x.A.recs) (5 : Nat) (cellsOf' encR x.A.recs) (cellsOf' encR x.A.recs)) ∧ (true = true ∧ List.length x.A.prods = List.length x.A.prods ∧ contLe (List.length x.A.prods) (4 : Nat) (cellsOf' P.encP x.A.prods) (cellsOf' P.encP x.A.prods)) ∧ (true = true ∧ List.length x.A.cons = List.length x.A.cons ∧ contLe (List.length x.A.cons) (2 : Nat) (cellsOf' encC x.A.cons) (cellsOf' encC x.A.cons)) ∧ True) ∧ (x.B.rng.lo = x.B.rng.lo ∧ x.B.rng.hi = x.B.rng.hi ∧ x.B.epoch = x.B.epoch ∧ x.B.frozen = x.B.frozen ∧ (true = true ∧ List.length x.B.recs = List.length x.B.recs ∧ contLe (List.length x.B.recs) (5 : Nat) (cellsOf' encR x.B.recs) (cellsOf' encR x.B.recs)) ∧ (true = true ∧ List.length x.B.prods = List.length x.B.prods ∧ contLe (List.length x.B.prods) (4 : Nat) (cellsOf' P.encP x.B.prods) (cellsOf' P.encP x.B.prods)) ∧ (true = true ∧ List.length x.B.cons = List.length x.B.cons ∧ contLe (List.length x.B.cons) (2 : Nat) (cellsOf' encC x.B.cons) (cellsOf' encC x.B.cons)) ∧ True) ∧ (x.M.rng.lo = x.M.rng.lo ∧ x.M.rng.hi = x.M.rng.hi ∧ x.M.epoch = x.M.epoch ∧ x.M.frozen = x.M.frozen ∧ (true = true ∧ List.length x.M.recs = List.length x.M.recs ∧ contLe (List.length x.M.recs) (5 : Nat) (cellsOf' encR x.M.recs) (cellsOf' encR x.M.recs)) ∧ (true = true ∧ List.length x.M.prods = List.length x.M.prods ∧ contLe (List.length x.M.prods) (4 : Nat) (cellsOf' P.encP x.M.prods) (cellsOf' P.encP x.M.prods)) ∧ (true = true ∧ List.length x.M.cons = List.length x.M.cons ∧ contLe (List.length x.M.cons) (2 : Nat) (cellsOf' encC x.M.cons) (cellsOf' encC x.M.cons)) ∧ True) ∧ True) ∧ true = true) ∧ LoopOk Tryz.prog (7 : Nat) (5 : Nat) (loopAt Tryz.prog (7 : Nat) (5 : Nat)) { t := onT x (0 : Nat), m := onM x, mv := [] : St } (T.map (lout onX (onS x)) ((fun (x : Nat) => T.ret ()) (0 : Nat))) ∧ true = true ∧ True
set_option maxRecDepth 1000000 in
theorem vcOc_eq (x : Onc) : (ctrVC Tryz.prog (ocH x) 7 [.agg (encPt true x.p), .y (.string x.k), .agg (encPt true x.q)] [] (boolR true)) = vcOc x := by kernel_rfl
end Go.Proofs.YtckklclehofddaaGreatDoor.D

/-! Lineage: the law Once: the loops. -/
namespace Go.Proofs.YtckklclehofddaaGreatDoor.D
open Go.Ax
set_option maxRecDepth 1000000
structure OncOk (x : Onc) : Prop where
  lp : x.p.prods.length ≤ 4611686018427387903
  lq : x.q.prods.length ≤ 4611686018427387903
  lA : x.A.prods.length ≤ 9223372036854775806
  lB : x.B.prods.length ≤ 9223372036854775806
  lM : x.M.prods.length ≤ 9223372036854775806
  sq : ∀ i, i < x.p.prods.length + x.q.prods.length → 0 ≤ (xAt x i).seq ∧ (xAt x i).seq < 18446744073709551616
  f1 : x.e = 0 → ∀ i, i < x.p.prods.length → ∀ s, s ≤ (xAt x i).seq → P.judgeV x.A.prods (xAt x i).id s ≠ 1 ∧ P.judgeV x.B.prods (xAt x i).id s ≠ 1 ∧ (P.judgeV x.A.prods (xAt x i).id s = 2 → P.judgeV x.B.prods (xAt x i).id s ≠ 2)
  f2 : x.f = 0 → ∀ i, i < x.p.prods.length + x.q.prods.length → ∀ s, s ≤ (xAt x i).seq → P.judgeV x.M.prods (xAt x i).id s ≠ 1
theorem up_wrap {s : Int} (h : s ≤ 9223372036854775807) : s < IntKind.u64.wrap (s + 1) := by
  have e : IntKind.u64.wrap (s + 1) = (s + 1) % 18446744073709551616 := by simp [IntKind.wrap, IntKind.bits, IntKind.signed]
  rw [e]; omega
theorem oi_loop (x : Onc) (h : OncOk x) (i : Nat) (hi : i < x.p.prods.length + x.q.prods.length) (s : Int) : LoopOk Tryz.prog 7 12 (loopAt Tryz.prog 7 12) ⟨oiT x i s, oiM x (xAt x i), []⟩ (T.map (lout onX (oiS x i)) ((fun (x : Int) => T.ret ()) s)) := by
  refine loop_vcH (o := fun _ => .ret ()) (ht := fun s => oiH x (xAt x i) s) (stT := oiT x i) (stM := fun _ => oiM x (xAt x i)) Tryz.mixed (fun _ => rfl) (fun s => (vcOi_eq x i (xAt x i) s).mpr ?_) s
  unfold vcOi
  have lA := h.lA
  have lB := h.lB
  have lM := h.lM
  by_cases h1 : s ≤ (xAt x i).seq
  · by_cases h2 : s ≤ 9223372036854775807
    · have hj := up_wrap h2
      have hm : max ((xAt x i).seq + 1 - IntKind.u64.wrap (s + 1)) 0 < (xAt x i).seq + 1 - s := by omega
      have F2 : x.f = 0 → P.judgeV x.M.prods (xAt x i).id s ≠ 1 := fun e => h.f2 e i hi s h1
      have F1 : x.e = 0 → i < x.p.prods.length → P.judgeV x.A.prods (xAt x i).id s ≠ 1 ∧ P.judgeV x.B.prods (xAt x i).id s ≠ 1 ∧ (P.judgeV x.A.prods (xAt x i).id s = 2 → P.judgeV x.B.prods (xAt x i).id s ≠ 2) := fun e hp => h.f1 e i hp s h1
      have hz : decide ((i : Int) < x.p.prods.length) = decide (i < x.p.prods.length) := by simp
      simp only [hz, h1, h2, lA, lB, lM]
      generalize P.judgeV x.A.prods (xAt x i).id s = a at *
      generalize P.judgeV x.B.prods (xAt x i).id s = b at *
      generalize P.judgeV x.M.prods (xAt x i).id s = m at *
      by_cases e0 : x.e = 0
      · by_cases ip : i < x.p.prods.length
        · obtain ⟨q1, q2, q3⟩ := F1 e0 ip
          by_cases f0 : x.f = 0
          · have q4 := F2 f0
            by_cases q5 : a = 2
            · have q6 := q3 q5
              simp [e0, ip, q2, f0, q4, q5, q6]
              exact hm
            · simp [e0, ip, q1, q2, f0, q4, q5]
              exact hm
          · by_cases q5 : a = 2
            · have q6 := q3 q5
              simp [e0, ip, q2, f0, q5, q6]
              exact hm
            · simp [e0, ip, q1, q2, f0, q5]
              exact hm
        · by_cases f0 : x.f = 0
          · have q4 := F2 f0
            simp [e0, ip, f0, q4]
            exact hm
          · simp [e0, ip, f0]
            exact hm
      · by_cases f0 : x.f = 0
        · have q4 := F2 f0
          simp [e0, f0, q4]
          exact hm
        · simp [e0, f0]
          exact hm
    · simp [h1, h2]
  · simp [h1]
theorem on_loop (x : Onc) (h : OncOk x) (i : Nat) : LoopOk Tryz.prog 7 5 (loopAt Tryz.prog 7 5) ⟨onT x i, onM x, []⟩ (T.map (lout onX (onS x)) (.ret ())) := by
  refine loop_vcH (o := fun _ => .ret ()) (stT := onT x) (stM := fun _ => onM x) Tryz.mixed (fun _ => rfl) (fun i => (vcOn_eq x i).mpr ?_) i
  unfold vcOn
  have lp := h.lp
  have lq := h.lq
  have hw0 : IntKind.i64.wrap ((x.p.prods.length : Int) + x.q.prods.length) = ((x.p.prods.length + x.q.prods.length : Nat) : Int) := by rw [wrap_i64 (by omega) (by omega)]; omega
  by_cases hi : i < x.p.prods.length + x.q.prods.length
  · have hw : IntKind.i64.wrap ((i : Int) + 1) = ((i + 1 : Nat) : Int) := by rw [wrap_i64 (by omega) (by omega)]; omega
    obtain ⟨s1, s2⟩ := h.sq i hi
    have ws : IntKind.u64.wrap ((if 2 > (xAt x i).seq then 2 else (xAt x i).seq) - 2) = s0 (xAt x i) := by
      unfold s0
      split
      · rw [wrap_u64 (by omega) (by omega)]
      · rw [wrap_u64 (by omega) (by omega)]
    have lp1 := oi_loop x h i hi (s0 (xAt x i))
    have hz0 : decide ((i : Int) < ((x.p.prods.length + x.q.prods.length : Nat) : Int)) = true := by simp; omega
    rw [hw0]
    simp only [hz0, hw]
    by_cases ip : i < x.p.prods.length
    · have e : xAt x i = x.p.prods.getD i default := by unfold xAt; rw [if_pos ip]
      have hz : decide ((i : Int) < x.p.prods.length) = true := by simp; omega
      simp only [hz]
      rw [Int.toNat_natCast, ← e]
      simp [ws, lp1]
      exact ⟨i + 1, by omega, by omega⟩
    · have e : xAt x i = x.q.prods.getD (i - x.p.prods.length) default := by unfold xAt; rw [if_neg ip]
      have hz : decide ((i : Int) < x.p.prods.length) = false := by simp; omega
      have hs : IntKind.i64.wrap ((i : Int) - x.p.prods.length) = ((i - x.p.prods.length : Nat) : Int) := by rw [wrap_i64 (by omega) (by omega)]; omega
      simp only [hz, hs]
      rw [Int.toNat_natCast, Int.toNat_natCast, ← e]
      simp [ws, lp1]
      refine ⟨by omega, i + 1, by omega, by omega⟩
  · have hz0 : decide ((i : Int) < ((x.p.prods.length + x.q.prods.length : Nat) : Int)) = false := by simp; omega
    rw [hw0]
    simp only [hz0]
    simp
theorem oc_c (x : Onc) (h : OncOk x) (h1 : SplR x.p x.k x.A x.B x.e) (h2 : MrgR x.p x.q x.M x.f) : (boolR true).Sat (ACall' Tryz.prog 7 [.agg (encPt true x.p), .y (.string x.k), .agg (encPt true x.q)] []) := by
  refine ctr_vc (ht := ocH x) Tryz.mixed rfl ?_
  rw [vcOc_eq x]
  unfold vcOc
  have lp := on_loop x h 0
  simp [h1, h2, lp]
end Go.Proofs.YtckklclehofddaaGreatDoor.D

/-! Lineage: the law Keeps. -/
namespace Go.Proofs.YtckklclehofddaaGreatDoor.D
open Go.Ax
set_option maxRecDepth 1000000
theorem side_has {p : Rng} {k x : ByteArray} (hs : splE p k = 0) (h : hasK p x = true) : hasK (rHigh p k) x = !hasK (rLow p k) x := by
  have c1 := low_chk hs
  have c2 := high_chk hs
  obtain ⟨_, s2, s3, s4⟩ := spl_ok hs
  obtain ⟨_, h2, h3, h4⟩ := has_iff.1 h
  have hne : k.data.toList ≠ [] := by
    obtain ⟨_, _, m1, _⟩ := has_iff.1 s4
    rcases m1 with m1 | m1
    · exact lt_nil m1
    · exact absurd m1.symm s3
  cases hl : hasK (rLow p k) x
  · have h5 : lt x k = false := by
      cases h6 : lt x k
      · rfl
      · rw [has_iff.2 ⟨c1, h2, h3, .inr h6⟩] at hl; cases hl
    refine has_iff.2 ⟨c2, h2, ?_, h4⟩
    show lt k x = true ∨ k = x
    cases h6 : lt k x
    · exact .inr (lt_tri h6 h5)
    · exact .inl rfl
  · obtain ⟨_, _, _, h5⟩ := has_iff.1 hl
    have h5 : lt x k = true := h5.resolve_left hne
    cases h6 : hasK (rHigh p k) x
    · rfl
    · obtain ⟨_, _, h7, _⟩ := has_iff.1 h6
      have h7 : lt k x = true ∨ k = x := h7
      rcases h7 with h7 | rfl
      · have := lt_trans' h5 h7
        rw [lt_irr] at this; cases this
      · rw [lt_irr] at h5; cases h5
end Go.Proofs.YtckklclehofddaaGreatDoor.D

/-! Producers: lives; the law ProducersMoves. -/
namespace Go.Proofs.YtckklclehofddaaGreatDoor.P
open Go.Ax
set_option maxRecDepth 1000000
structure Two where
  a : List Producer
  b : List Producer
  ta : List Int
  tb : List Int
structure Two.Ok (x : Two) : Prop where
  a : x.a.length * 32 ≤ 140737488355200
  b : x.b.length * 32 ≤ 140737488355200
  ta : x.ta.length ≤ 9223372036854775806
  tb : x.tb.length ≤ 9223372036854775806
  oa : ∀ y ∈ x.a, 0 ≤ y.offset ∧ y.offset < 18446744073709551616
  ob : ∀ y ∈ x.b, 0 ≤ y.offset ∧ y.offset < 18446744073709551616
end Go.Proofs.YtckklclehofddaaGreatDoor.P

/-! Producers: what is new stays new: the plain law of Kept. -/
namespace Go.Proofs.YtckklclehofddaaGreatDoor.P
open Go.Ax
set_option maxRecDepth 1000000
theorem mv_id (to : List Int) (x : Producer) : (mvP to x).id = x.id := by unfold mvP; split <;> rfl
theorem mv_seq (to : List Int) (x : Producer) : (mvP to x).seq = x.seq := by unfold mvP; split <;> rfl
theorem find_move (l : List Producer) (to : List Int) (id : Int) : (moveL l to).find? (has id) = (l.find? (has id)).map (mvP to) := by
  unfold moveL
  rw [List.find?_map]
  have : (has id ∘ mvP to) = has id := by
    funext x
    simp [has, mv_id]
  rw [this]
theorem findI_move (l : List Producer) (to : List Int) (id : Int) : findI (moveL l to) id = findI l id := by
  unfold findI
  rw [find_move]
  cases l.find? (has id) <;> rfl
theorem findD_move {l : List Producer} {to : List Int} {id : Int} (h : findI l id = true) : (findD (moveL l to) id).seq = (findD l id).seq := by
  unfold findI at h
  unfold findD
  rw [find_move]
  cases hf : l.find? (has id) with
  | none => rw [hf] at h; cases h
  | some x => simp [mv_seq]
theorem judge_new (l : List Producer) (id seq : Int) : judgeV l id seq = 1 ↔ badN id seq = false ∧ (findI l id = false ∨ (findD l id).seq < seq) := by
  unfold judgeV
  cases hb : badN id seq
  · cases hf : findI l id
    · simp
    · by_cases h : (findD l id).seq < seq
      · simp [h]
      · simp [h]
        split <;> decide
  · simp
theorem judge_move (l : List Producer) (to : List Int) (id seq : Int) : judgeV (moveL l to) id seq = 1 ↔ judgeV l id seq = 1 := by
  rw [judge_new, judge_new, findI_move]
  cases hf : findI l id
  · simp
  · rw [findD_move hf]
theorem mem_oth {l : List Producer} {x z : Producer} : z ∈ oth l x ↔ z ∈ l ∧ ¬ z.id = x.id := by
  unfold oth
  rw [List.mem_filter]
  simp [keep]
theorem mem_putL' {l : List Producer} {x z : Producer} : z ∈ putL l x ↔ z = x ∨ (z ∈ l ∧ ¬ z.id = x.id) := by
  rw [← mem_oth]
  unfold putL
  rw [List.mem_append, List.mem_cons]
  constructor
  · rintro (h | h | h)
    · exact Or.inr (List.mem_of_mem_take h)
    · exact Or.inl h
    · exact Or.inr (List.mem_of_mem_drop h)
  · rintro (h | h)
    · exact Or.inr (Or.inl h)
    · rw [← List.take_append_drop (below (oth l x) x.id) (oth l x), List.mem_append] at h
      rcases h with h | h
      · exact Or.inl h
      · exact Or.inr (Or.inr h)
theorem find_of {l : List Producer} {id : Int} (h : findI l id = true) : findD l id ∈ l ∧ (findD l id).id = id := by
  unfold findI at h
  unfold findD
  cases hf : l.find? (has id) with
  | none => rw [hf] at h; cases h
  | some x =>
    have h1 := List.find?_some hf
    have h2 := List.mem_of_find?_eq_some hf
    exact ⟨h2, by simpa [has] using h1⟩
theorem find_none {l : List Producer} {id : Int} (h : findI l id = false) : ∀ x ∈ l, ¬ x.id = id := by
  intro x hx hid
  unfold findI at h
  have : (l.find? (has id)).isSome = true := by
    rw [List.find?_isSome]
    exact ⟨x, hx, by simp [has, hid]⟩
  rw [h] at this; cases this
theorem pw_unique {l : List Producer} (h : l.Pairwise (fun a b => a.id < b.id)) : ∀ {x y : Producer}, x ∈ l → y ∈ l → x.id = y.id → x = y := by
  induction h with
  | nil => intro x y hx; cases hx
  | cons h1 _ ih =>
    intro x y hx hy e
    rcases List.mem_cons.1 hx with e1 | hx' <;> rcases List.mem_cons.1 hy with e2 | hy'
    · rw [e1, e2]
    · have := h1 _ hy'; rw [← e1] at this; omega
    · have := h1 _ hx'; rw [← e2] at this; omega
    · exact ih hx' hy' e
/-- no one of that name came so far -/
def fresh (l : List Producer) (id seq : Int) : Prop := ∀ x ∈ l, x.id = id → x.seq < seq
theorem judge_fresh {l : List Producer} (h : rising l) (id seq : Int) : judgeV l id seq = 1 ↔ badN id seq = false ∧ fresh l id seq := by
  rw [judge_new]
  refine and_congr Iff.rfl ?_
  cases hf : findI l id
  · exact ⟨fun _ x hx e => absurd e (find_none hf x hx), fun _ => Or.inl rfl⟩
  · have ⟨h1, h2⟩ := find_of hf
    constructor
    · rintro (h3 | h3)
      · cases h3
      · intro x hx e
        rw [pw_unique ((rising_pw l).1 h) hx h1 (by omega)]; exact h3
    · intro h3
      exact Or.inr (h3 _ h1 h2)
theorem fresh_bst {s : List Producer} (hs : rising s) (x : Producer) (id seq : Int) : fresh (bst s x) id seq ↔ fresh s id seq ∧ (x.id = id → x.seq < seq) := by
  unfold bst
  cases hf : findI s x.id
  · simp only [Bool.not_false, Bool.true_or, if_true]
    have hn := find_none hf
    constructor
    · intro h
      exact ⟨fun z hz e => h z (mem_putL'.2 (Or.inr ⟨hz, hn z hz⟩)) e, fun e => h x (mem_putL'.2 (Or.inl rfl)) e⟩
    · rintro ⟨h1, h2⟩ z hz e
      rcases mem_putL'.1 hz with rfl | ⟨hz, _⟩
      · exact h2 e
      · exact h1 z hz e
  · have ⟨h1, h2⟩ := find_of hf
    by_cases hl : lat x (findD s x.id) = true
    · simp only [hl, Bool.or_true, if_true]
      have hle : (findD s x.id).seq ≤ x.seq := by
        simp [lat] at hl
        rcases hl with h | h
        · omega
        · omega
      constructor
      · intro h
        refine ⟨fun z hz e => ?_, fun e => h x (mem_putL'.2 (Or.inl rfl)) e⟩
        by_cases hzx : z.id = x.id
        · have := h x (mem_putL'.2 (Or.inl rfl)) (by omega)
          rw [pw_unique ((rising_pw s).1 hs) hz h1 (by omega)]
          omega
        · exact h z (mem_putL'.2 (Or.inr ⟨hz, hzx⟩)) e
      · rintro ⟨h3, h4⟩ z hz e
        rcases mem_putL'.1 hz with rfl | ⟨hz, _⟩
        · exact h4 e
        · exact h3 z hz e
    · simp only [hl, Bool.not_true, Bool.or_self, Bool.false_eq_true, if_false]
      have hle : x.seq ≤ (findD s x.id).seq := by
        simp [lat] at hl
        omega
      constructor
      · intro h
        refine ⟨h, fun e => ?_⟩
        have := h _ h1 (by omega)
        omega
      · exact fun h => h.1
theorem fresh_both {s : List Producer} (hs : rising s) (m : List Producer) (id seq : Int) : ∀ k, k ≤ m.length → (fresh (both s m k) id seq ↔ fresh s id seq ∧ fresh (m.take k) id seq) := by
  intro k
  induction k with
  | zero => intro _; simp [both, fresh]
  | succ k ih =>
    intro hk
    rw [both_step (by omega), fresh_bst (both_inv hs k).1, ih (by omega), take_snoc m k (by omega)]
    generalize m[k]?.getD default = x
    unfold fresh
    constructor
    · rintro ⟨⟨h1, h2⟩, h3⟩
      refine ⟨h1, fun z hz e => ?_⟩
      rcases List.mem_append.1 hz with hz | hz
      · exact h2 z hz e
      · rw [List.mem_singleton] at hz
        subst hz; exact h3 e
    · rintro ⟨h1, h2⟩
      exact ⟨⟨h1, fun z hz e => h2 z (List.mem_append_left _ hz) e⟩, fun e => h2 x (List.mem_append_right _ (List.mem_singleton.2 rfl)) e⟩
theorem judge_both {a b : List Producer} {ta tb : List Int} (ha : isTable a = true) (hb : isTable b = true) (id seq : Int) : judgeV (bothL a b ta tb) id seq = 1 ↔ judgeV a id seq = 1 ∧ judgeV b id seq = 1 := by
  have h1 := move_rising (to := ta) (table_rising ha)
  have h2 := move_rising (to := tb) (table_rising hb)
  rw [← judge_move a ta, ← judge_move b tb, judge_fresh h1, judge_fresh h2, bothL, judge_fresh (both_inv h1 _).1, fresh_both h1 _ _ _ _ (Nat.le_refl _), List.take_length]
  constructor
  · rintro ⟨h, h3, h4⟩; exact ⟨⟨h, h3⟩, h, h4⟩
  · rintro ⟨⟨h, h3⟩, _, h4⟩; exact ⟨h, h3, h4⟩
/-- a table, element by element -/
def good (x : Producer) : Prop := ¬ x.id = 0 ∧ 1 ≤ x.seq ∧ x.seq ≤ 9223372036854775807 ∧ (x.here = true ∨ x.offset = 0)
theorem table_iff (l : List Producer) : isTable l = true ↔ (∀ x ∈ l, good x) ∧ rising l ∧ l.length ≤ 256 := by
  constructor
  · intro h
    have hr := table_rising h
    unfold isTable at h
    rw [Bool.and_eq_true, decide_eq_true_eq] at h
    refine ⟨fun x hx => ?_, hr, h.2⟩
    obtain ⟨i, hi, rfl⟩ := List.mem_iff_getElem.1 hx
    have := okFrom_all _ 0 rfl h.1 i (Nat.zero_le _) hi
    simp [okP, hi] at this
    unfold good
    grind
  · rintro ⟨h1, h2, h3⟩
    unfold isTable
    rw [Bool.and_eq_true, decide_eq_true_eq]
    refine ⟨?_, h3⟩
    unfold okFrom
    rw [List.all_eq_true]
    intro j hj
    have hj' : j < l.length := by
      simp at hj; exact hj
    have hg := h1 l[j] (List.getElem_mem hj')
    unfold good at hg
    simp [okP, hj']
    have hr : 0 < j → (l[j - 1]?.getD default).id < l[j].id := fun h => by
      have := h2 (j - 1) j (by omega) hj'
      simpa [hj'] using this
    grind
end Go.Proofs.YtckklclehofddaaGreatDoor.P

/-! From the statements to the laws: the data. -/
namespace Go.Proofs.YtckklclehofddaaGreatDoor
open Go.Ax Go.Shelf Go.RowKit Go.ChangeShapes Go.WideShapes Go.ChangeAt
set_option maxRecDepth 1000000
def toI {K : Type} : DataW K → Int
  | .lit (.int _ a) => a
  | _ => 0
def toS {K : Type} : DataW K → ByteArray
  | .lit (.string l) => ⟨l.toArray⟩
  | _ => ByteArray.empty
def toB {K : Type} : DataW K → Bool
  | .lit (.bool b) => b
  | _ => false
theorem encI_ok {K : Type} {k : IntKind} {d : DataW K} (h : (Sh.int k).wf d) : (Sh.int k).enc d = [.y (.int k (toI d))] := by
  obtain ⟨k', n, rfl, _⟩ := h
  rfl
theorem encS_ok {K : Type} {d : DataW K} (h : Sh.str.wf d) : Sh.str.enc d = [.y (.string (toS d))] := by
  obtain ⟨l, rfl, _⟩ := h
  rfl
theorem encO_ok {K : Type} {d : DataW K} (h : Sh.bool.wf d) : Sh.bool.enc d = [.y (.bool (toB d))] := by
  obtain ⟨l, rfl⟩ := h
  rfl
theorem enc_st {K : Type} (fs : List Sh) (ds : List (DataW K)) : (Sh.st fs).enc (.agg ds) = Sh.encL fs ds := by simp only [Sh.enc]
theorem enc_cons {K : Type} (s : Sh) (r : List Sh) (d : DataW K) (ds : List (DataW K)) : Sh.encL (s :: r) (d :: ds) = s.enc d ++ Sh.encL r ds := by simp only [Sh.encL]
theorem enc_nil {K : Type} (l : List (DataW K)) : Sh.encL [] l = [] := by simp only [Sh.encL]
theorem relA {P : Program} {W : World} {r : Reach} {base : Nat} {t : TypeId} {v : Value} {fs : Array Field} {l : List AV} {H : HH} {E : Env} (hu : P.underlying t = some (.struct fs)) (hv : Value.okWide P W r base t v) (h : RelL l H E v.cells.toList) : Rel (.agg l) H E v := by
  obtain ⟨cs, rfl, _⟩ := okWide_struct hu hv
  exact ⟨cs, rfl, h⟩
theorem str_size {K : Type} {d : DataW K} (h : Sh.str.wf d) : (toS d).size ≤ 9223372036854775807 := by
  obtain ⟨l, rfl, hl⟩ := h
  show l.toArray.size ≤ _
  rw [List.size_toArray]
  exact hl
theorem Tryz.own : ownKnob Tryz.prog.godebug = Option.none := by kernel_rfl
theorem Tryz.laidOut : laidOutB Tryz.prog = true := by kernel_rfl
theorem Tryz.mapsRowed : mapsRowed Tryz.prog = true := by kernel_rfl
theorem Tryz.slicesOk : slicesOk Tryz.prog = true := by kernel_rfl
theorem underBool : Tryz.prog.underlying 4 = some .bool := by kernel_rfl
def structTypes (P : Program) (t : TypeId) : Option (List TypeId) := match P.underlying t with | some (.struct fs) => some (fs.toList.map (·.type)) | _ => Option.none
theorem structTypes_ok {P : Program} {t : TypeId} {l : List TypeId} (h : structTypes P t = some l) : ∃ fs, P.underlying t = some (.struct fs) ∧ fs.toList.map (·.type) = l := by
  unfold structTypes at h
  split at h
  · rename_i fs hu
    exact ⟨fs, hu, Option.some.inj h⟩
  · cases h
end Go.Proofs.YtckklclehofddaaGreatDoor
