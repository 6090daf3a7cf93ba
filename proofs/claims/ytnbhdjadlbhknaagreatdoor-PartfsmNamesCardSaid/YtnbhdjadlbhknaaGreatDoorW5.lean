import Derived.Test.YtnbhdjadlbhknaaGreatDoorW3
import Derived.Test.YtnbhdjadlbhknaaGreatDoorW4
set_option linter.unusedVariables false
set_option linter.unusedSimpArgs false
set_option linter.unusedSectionVars false
/-! Shards' states: act: the conditions. -/
namespace Go.Proofs.YtnbhdjadlbhknaaGreatDoor.R
open Go.Ax
set_option maxRecDepth 1000000
def un9 (e : Int) : Int := if e = 999 then 0 else e
def actE (p : Part) (c : Cmd) : Int := if c.kind = 1 then un9 (prE p c) else if c.kind = 3 then un9 (cmE p c) else if c.kind = 5 ∨ c.kind = 6 then (if frB p c = true then 164 else 0) else if p.frozen ≠ 0 then 164 else if c.kind = 2 then feE p.recs c.off else 0
def byOf (c : Cmd) : Int := if c.kind = 5 then c.plan else 0
def actQ (p : Part) (c : Cmd) : Part := if c.kind = 1 then (if prE p c = 0 then prQ p c else p) else if c.kind = 3 then (if cmE p c = 0 then cmQ p c else p) else if c.kind = 5 ∨ c.kind = 6 then (if frB p c = true then p else frQ p (byOf c)) else p
def actX (p : Part) (c : Cmd) : Res :=
  if c.kind = 1 then (if prE p c = 0 then ⟨0, p.recs.length, false, []⟩ else if prE p c = 999 then ⟨0, P.judgeO p.prods c.prod c.seq, true, []⟩ else ⟨0, 0, false, []⟩)
  else if c.kind = 3 then (if cmE p c = 999 then ⟨0, 0, true, []⟩ else ⟨0, c.off, false, []⟩)
  else if c.kind = 5 ∨ c.kind = 6 then ⟨0, 0, !frB p c && p.frozen == byOf c, []⟩
  else if p.frozen ≠ 0 then ⟨0, 0, false, []⟩
  else if c.kind = 4 then ⟨0, readO p.cons c.name, inC p.cons c.name, []⟩
  else if c.kind = 2 then (if feE p.recs c.off = 0 then ⟨0, IntKind.u64.wrap (c.off + IntKind.u64.wrap (fetL p.recs c.off c.most).length), false, fetL p.recs c.off c.most⟩ else ⟨0, c.off, false, []⟩)
  else ⟨0, 0, false, []⟩
def actT (q : Part) (x : Res) (c : Cmd) (e : Int) : T An := .ite (e == 0) (.ret (.tup [.agg (encPt true q), .agg (encX x), .s .nilIface], [], [])) (.ret (.tup [.agg (encPt true q), .agg (encX x), refV], refM c e, []))
structure Act where
  q : Part
  x : Res
  e : Int
noncomputable def acH (p : Part) (c : Cmd) : HintsT Tryz.prog := withSh (hh _ noLp (cs1 40 6 2 (prC p c) (cs1 40 11 2 (coC p c) (cs1 40 16 4 (frC p c c.plan) (cs1 40 19 2 (frC p c 0) (cs1 40 25 4 (rdC true p.cons c.name) (cs1 40 27 6 (feC true p.recs c.off c.most) noCs)))))) noOp) (sh1 40 27 8 779 noSh)
def vcAc (p : Part) (c : Cmd) (y : Act) : Prop :=
  ((c.kind == (1 : Int)) = true → ((p.rng.lo = p.rng.lo ∧ p.rng.hi = p.rng.hi ∧ p.epoch = p.epoch ∧ p.frozen = p.frozen ∧ (true = true ∧ List.length p.recs = List.length p.recs ∧ contLe (List.length p.recs) (5 : Nat) (cellsOf' encR p.recs) (cellsOf' encR p.recs)) ∧ (true = true ∧ List.length p.prods = List.length p.prods ∧ contLe (List.length p.prods) (4 : Nat) (cellsOf' P.encP p.prods) (cellsOf' P.encP p.prods)) ∧ (true = true ∧ List.length p.cons = List.length p.cons ∧ contLe (List.length p.cons) (2 : Nat) (cellsOf' encC p.cons) (cellsOf' encC p.cons)) ∧ True) ∧ (c.kind = c.kind ∧ c.epoch = c.epoch ∧ c.prod = c.prod ∧ c.seq = c.seq ∧ c.key = c.key ∧ (true = true ∧ List.length c.val = List.length c.val ∧ contLe (List.length c.val) (1 : Nat) (cellsOf' encB c.val) (cellsOf' encB c.val)) ∧ c.off = c.off ∧ c.most = c.most ∧ c.name = c.name ∧ c.plan = c.plan ∧ True) ∧ True) ∧ True ∧ PartIn p ∧ ((prE p c == (0 : Int)) = true → ((y.e == (0 : Int)) = true → ((p.rng.lo = y.q.rng.lo ∧ p.rng.hi = y.q.rng.hi ∧ p.epoch = y.q.epoch ∧ p.frozen = y.q.frozen ∧ (true = true ∧ List.length (appL p.recs (newR c)) = List.length y.q.recs ∧ contLe (List.length (appL p.recs (newR c))) (5 : Nat) (cellsOf' encR (appL p.recs (newR c))) (cellsOf' encR y.q.recs)) ∧ (true = true ∧ List.length (P.putL p.prods (accP p c)) = List.length y.q.prods ∧ contLe (List.length (P.putL p.prods (accP p c))) (4 : Nat) (cellsOf' P.encP (P.putL p.prods (accP p c))) (cellsOf' P.encP y.q.prods)) ∧ (true = true ∧ List.length p.cons = List.length y.q.cons ∧ contLe (List.length p.cons) (2 : Nat) (cellsOf' encC p.cons) (cellsOf' encC y.q.cons)) ∧ True) ∧ ((0 : Int) = y.x.err ∧ (↑(List.length p.recs) : Int) = y.x.off ∧ false = y.x.old ∧ List.length y.x.recs = (0 : Nat) ∧ True) ∧ True ∧ True) ∧ True) ∧ ((y.e == (0 : Int)) = false → ((p.rng.lo = y.q.rng.lo ∧ p.rng.hi = y.q.rng.hi ∧ p.epoch = y.q.epoch ∧ p.frozen = y.q.frozen ∧ (true = true ∧ List.length (appL p.recs (newR c)) = List.length y.q.recs ∧ contLe (List.length (appL p.recs (newR c))) (5 : Nat) (cellsOf' encR (appL p.recs (newR c))) (cellsOf' encR y.q.recs)) ∧ (true = true ∧ List.length (P.putL p.prods (accP p c)) = List.length y.q.prods ∧ contLe (List.length (P.putL p.prods (accP p c))) (4 : Nat) (cellsOf' P.encP (P.putL p.prods (accP p c))) (cellsOf' P.encP y.q.prods)) ∧ (true = true ∧ List.length p.cons = List.length y.q.cons ∧ contLe (List.length p.cons) (2 : Nat) (cellsOf' encC p.cons) (cellsOf' encC y.q.cons)) ∧ True) ∧ ((0 : Int) = y.x.err ∧ (↑(List.length p.recs) : Int) = y.x.off ∧ false = y.x.old ∧ List.length y.x.recs = (0 : Nat) ∧ True) ∧ False ∧ True) ∧ False)) ∧ ((prE p c == (0 : Int)) = false → ((prE p c == (999 : Int)) = true → true = true ∧ True ∧ ((y.e == (0 : Int)) = true → ((p.rng.lo = y.q.rng.lo ∧ p.rng.hi = y.q.rng.hi ∧ p.epoch = y.q.epoch ∧ p.frozen = y.q.frozen ∧ (true = true ∧ List.length p.recs = List.length y.q.recs ∧ contLe (List.length p.recs) (5 : Nat) (cellsOf' encR p.recs) (cellsOf' encR y.q.recs)) ∧ (true = true ∧ List.length p.prods = List.length y.q.prods ∧ contLe (List.length p.prods) (4 : Nat) (cellsOf' P.encP p.prods) (cellsOf' P.encP y.q.prods)) ∧ (true = true ∧ List.length p.cons = List.length y.q.cons ∧ contLe (List.length p.cons) (2 : Nat) (cellsOf' encC p.cons) (cellsOf' encC y.q.cons)) ∧ True) ∧ ((0 : Int) = y.x.err ∧ P.judgeO p.prods c.prod c.seq = y.x.off ∧ true = y.x.old ∧ List.length y.x.recs = (0 : Nat) ∧ True) ∧ True ∧ True) ∧ True) ∧ ((y.e == (0 : Int)) = false → ((p.rng.lo = y.q.rng.lo ∧ p.rng.hi = y.q.rng.hi ∧ p.epoch = y.q.epoch ∧ p.frozen = y.q.frozen ∧ (true = true ∧ List.length p.recs = List.length y.q.recs ∧ contLe (List.length p.recs) (5 : Nat) (cellsOf' encR p.recs) (cellsOf' encR y.q.recs)) ∧ (true = true ∧ List.length p.prods = List.length y.q.prods ∧ contLe (List.length p.prods) (4 : Nat) (cellsOf' P.encP p.prods) (cellsOf' P.encP y.q.prods)) ∧ (true = true ∧ List.length p.cons = List.length y.q.cons ∧ contLe (List.length p.cons) (2 : Nat) (cellsOf' encC p.cons) (cellsOf' encC y.q.cons)) ∧ True) ∧ ((0 : Int) = y.x.err ∧ P.judgeO p.prods c.prod c.seq = y.x.off ∧ true = y.x.old ∧ List.length y.x.recs = (0 : Nat) ∧ True) ∧ False ∧ True) ∧ False)) ∧ ((prE p c == (999 : Int)) = false → true = true ∧ True ∧ ((y.e == (0 : Int)) = true → False) ∧ ((y.e == (0 : Int)) = false → ((p.rng.lo = y.q.rng.lo ∧ p.rng.hi = y.q.rng.hi ∧ p.epoch = y.q.epoch ∧ p.frozen = y.q.frozen ∧ (true = true ∧ List.length p.recs = List.length y.q.recs ∧ contLe (List.length p.recs) (5 : Nat) (cellsOf' encR p.recs) (cellsOf' encR y.q.recs)) ∧ (true = true ∧ List.length p.prods = List.length y.q.prods ∧ contLe (List.length p.prods) (4 : Nat) (cellsOf' P.encP p.prods) (cellsOf' P.encP y.q.prods)) ∧ (true = true ∧ List.length p.cons = List.length y.q.cons ∧ contLe (List.length p.cons) (2 : Nat) (cellsOf' encC p.cons) (cellsOf' encC y.q.cons)) ∧ True) ∧ ((0 : Int) = y.x.err ∧ (0 : Int) = y.x.off ∧ false = y.x.old ∧ List.length y.x.recs = (0 : Nat) ∧ True) ∧ ((0 : Nat) = (0 : Nat) ∧ (0 : Nat) = (0 : Nat)) ∧ True) ∧ (c.kind = c.kind ∧ prE p c = y.e ∧ True) ∧ True)))) ∧ ((c.kind == (1 : Int)) = false → ((c.kind == (3 : Int)) = true → ((p.rng.lo = p.rng.lo ∧ p.rng.hi = p.rng.hi ∧ p.epoch = p.epoch ∧ p.frozen = p.frozen ∧ (true = true ∧ List.length p.recs = List.length p.recs ∧ contLe (List.length p.recs) (5 : Nat) (cellsOf' encR p.recs) (cellsOf' encR p.recs)) ∧ (true = true ∧ List.length p.prods = List.length p.prods ∧ contLe (List.length p.prods) (4 : Nat) (cellsOf' P.encP p.prods) (cellsOf' P.encP p.prods)) ∧ (true = true ∧ List.length p.cons = List.length p.cons ∧ contLe (List.length p.cons) (2 : Nat) (cellsOf' encC p.cons) (cellsOf' encC p.cons)) ∧ True) ∧ (c.kind = c.kind ∧ c.epoch = c.epoch ∧ c.prod = c.prod ∧ c.seq = c.seq ∧ c.key = c.key ∧ (true = true ∧ List.length c.val = List.length c.val ∧ contLe (List.length c.val) (1 : Nat) (cellsOf' encB c.val) (cellsOf' encB c.val)) ∧ c.off = c.off ∧ c.most = c.most ∧ c.name = c.name ∧ c.plan = c.plan ∧ True) ∧ True) ∧ True ∧ PartIn p ∧ ((cmE p c == (0 : Int)) = true → ((y.e == (0 : Int)) = true → ((p.rng.lo = y.q.rng.lo ∧ p.rng.hi = y.q.rng.hi ∧ p.epoch = y.q.epoch ∧ p.frozen = y.q.frozen ∧ (true = true ∧ List.length p.recs = List.length y.q.recs ∧ contLe (List.length p.recs) (5 : Nat) (cellsOf' encR p.recs) (cellsOf' encR y.q.recs)) ∧ (true = true ∧ List.length (P.putL p.prods (pasP c)) = List.length y.q.prods ∧ contLe (List.length (P.putL p.prods (pasP c))) (4 : Nat) (cellsOf' P.encP (P.putL p.prods (pasP c))) (cellsOf' P.encP y.q.prods)) ∧ (true = true ∧ List.length (putL p.cons { name := c.name, off := c.off : Con }) = List.length y.q.cons ∧ contLe (List.length (putL p.cons { name := c.name, off := c.off : Con })) (2 : Nat) (cellsOf' encC (putL p.cons { name := c.name, off := c.off : Con })) (cellsOf' encC y.q.cons)) ∧ True) ∧ ((0 : Int) = y.x.err ∧ c.off = y.x.off ∧ false = y.x.old ∧ List.length y.x.recs = (0 : Nat) ∧ True) ∧ True ∧ True) ∧ True) ∧ ((y.e == (0 : Int)) = false → ((p.rng.lo = y.q.rng.lo ∧ p.rng.hi = y.q.rng.hi ∧ p.epoch = y.q.epoch ∧ p.frozen = y.q.frozen ∧ (true = true ∧ List.length p.recs = List.length y.q.recs ∧ contLe (List.length p.recs) (5 : Nat) (cellsOf' encR p.recs) (cellsOf' encR y.q.recs)) ∧ (true = true ∧ List.length (P.putL p.prods (pasP c)) = List.length y.q.prods ∧ contLe (List.length (P.putL p.prods (pasP c))) (4 : Nat) (cellsOf' P.encP (P.putL p.prods (pasP c))) (cellsOf' P.encP y.q.prods)) ∧ (true = true ∧ List.length (putL p.cons { name := c.name, off := c.off : Con }) = List.length y.q.cons ∧ contLe (List.length (putL p.cons { name := c.name, off := c.off : Con })) (2 : Nat) (cellsOf' encC (putL p.cons { name := c.name, off := c.off : Con })) (cellsOf' encC y.q.cons)) ∧ True) ∧ ((0 : Int) = y.x.err ∧ c.off = y.x.off ∧ false = y.x.old ∧ List.length y.x.recs = (0 : Nat) ∧ True) ∧ False ∧ True) ∧ False)) ∧ ((cmE p c == (0 : Int)) = false → ((cmE p c == (999 : Int)) = true → true = true ∧ True ∧ ((y.e == (0 : Int)) = true → ((p.rng.lo = y.q.rng.lo ∧ p.rng.hi = y.q.rng.hi ∧ p.epoch = y.q.epoch ∧ p.frozen = y.q.frozen ∧ (true = true ∧ List.length p.recs = List.length y.q.recs ∧ contLe (List.length p.recs) (5 : Nat) (cellsOf' encR p.recs) (cellsOf' encR y.q.recs)) ∧ (true = true ∧ List.length p.prods = List.length y.q.prods ∧ contLe (List.length p.prods) (4 : Nat) (cellsOf' P.encP p.prods) (cellsOf' P.encP y.q.prods)) ∧ (true = true ∧ List.length p.cons = List.length y.q.cons ∧ contLe (List.length p.cons) (2 : Nat) (cellsOf' encC p.cons) (cellsOf' encC y.q.cons)) ∧ True) ∧ ((0 : Int) = y.x.err ∧ (0 : Int) = y.x.off ∧ true = y.x.old ∧ List.length y.x.recs = (0 : Nat) ∧ True) ∧ True ∧ True) ∧ True) ∧ ((y.e == (0 : Int)) = false → ((p.rng.lo = y.q.rng.lo ∧ p.rng.hi = y.q.rng.hi ∧ p.epoch = y.q.epoch ∧ p.frozen = y.q.frozen ∧ (true = true ∧ List.length p.recs = List.length y.q.recs ∧ contLe (List.length p.recs) (5 : Nat) (cellsOf' encR p.recs) (cellsOf' encR y.q.recs)) ∧ (true = true ∧ List.length p.prods = List.length y.q.prods ∧ contLe (List.length p.prods) (4 : Nat) (cellsOf' P.encP p.prods) (cellsOf' P.encP y.q.prods)) ∧ (true = true ∧ List.length p.cons = List.length y.q.cons ∧ contLe (List.length p.cons) (2 : Nat) (cellsOf' encC p.cons) (cellsOf' encC y.q.cons)) ∧ True) ∧ ((0 : Int) = y.x.err ∧ (0 : Int) = y.x.off ∧ true = y.x.old ∧ List.length y.x.recs = (0 : Nat) ∧ True) ∧ False ∧ True) ∧ False)) ∧ ((cmE p c == (999 : Int)) = false → true = true ∧ True ∧ ((y.e == (0 : Int)) = true → False) ∧ ((y.e == (0 : Int)) = false → ((p.rng.lo = y.q.rng.lo ∧ p.rng.hi = y.q.rng.hi ∧ p.epoch = y.q.epoch ∧ p.frozen = y.q.frozen ∧ (true = true ∧ List.length p.recs = List.length y.q.recs ∧ contLe (List.length p.recs) (5 : Nat) (cellsOf' encR p.recs) (cellsOf' encR y.q.recs)) ∧ (true = true ∧ List.length p.prods = List.length y.q.prods ∧ contLe (List.length p.prods) (4 : Nat) (cellsOf' P.encP p.prods) (cellsOf' P.encP y.q.prods)) ∧ (true = true ∧ List.length p.cons = List.length y.q.cons ∧ contLe (List.length p.cons) (2 : Nat) (cellsOf' encC p.cons) (cellsOf' encC y.q.cons)) ∧ True) ∧ ((0 : Int) = y.x.err ∧ c.off = y.x.off ∧ false = y.x.old ∧ List.length y.x.recs = (0 : Nat) ∧ True) ∧ ((0 : Nat) = (0 : Nat) ∧ (0 : Nat) = (0 : Nat)) ∧ True) ∧ (c.kind = c.kind ∧ cmE p c = y.e ∧ True) ∧ True)))) ∧ ((c.kind == (3 : Int)) = false → ((c.kind == (5 : Int)) = true → ((p.rng.lo = p.rng.lo ∧ p.rng.hi = p.rng.hi ∧ p.epoch = p.epoch ∧ p.frozen = p.frozen ∧ (true = true ∧ List.length p.recs = List.length p.recs ∧ contLe (List.length p.recs) (5 : Nat) (cellsOf' encR p.recs) (cellsOf' encR p.recs)) ∧ (true = true ∧ List.length p.prods = List.length p.prods ∧ contLe (List.length p.prods) (4 : Nat) (cellsOf' P.encP p.prods) (cellsOf' P.encP p.prods)) ∧ (true = true ∧ List.length p.cons = List.length p.cons ∧ contLe (List.length p.cons) (2 : Nat) (cellsOf' encC p.cons) (cellsOf' encC p.cons)) ∧ True) ∧ (c.kind = c.kind ∧ c.epoch = c.epoch ∧ c.prod = c.prod ∧ c.seq = c.seq ∧ c.key = c.key ∧ (true = true ∧ List.length c.val = List.length c.val ∧ contLe (List.length c.val) (1 : Nat) (cellsOf' encB c.val) (cellsOf' encB c.val)) ∧ c.off = c.off ∧ c.most = c.most ∧ c.name = c.name ∧ c.plan = c.plan ∧ True) ∧ c.plan = c.plan ∧ True) ∧ True ∧ (frB p c = true → ((y.e == (0 : Int)) = true → False) ∧ ((y.e == (0 : Int)) = false → ((p.rng.lo = y.q.rng.lo ∧ p.rng.hi = y.q.rng.hi ∧ p.epoch = y.q.epoch ∧ p.frozen = y.q.frozen ∧ (true = true ∧ List.length p.recs = List.length y.q.recs ∧ contLe (List.length p.recs) (5 : Nat) (cellsOf' encR p.recs) (cellsOf' encR y.q.recs)) ∧ (true = true ∧ List.length p.prods = List.length y.q.prods ∧ contLe (List.length p.prods) (4 : Nat) (cellsOf' P.encP p.prods) (cellsOf' P.encP y.q.prods)) ∧ (true = true ∧ List.length p.cons = List.length y.q.cons ∧ contLe (List.length p.cons) (2 : Nat) (cellsOf' encC p.cons) (cellsOf' encC y.q.cons)) ∧ True) ∧ ((0 : Int) = y.x.err ∧ (0 : Int) = y.x.off ∧ false = y.x.old ∧ List.length y.x.recs = (0 : Nat) ∧ True) ∧ ((0 : Nat) = (0 : Nat) ∧ (0 : Nat) = (0 : Nat)) ∧ True) ∧ (c.kind = c.kind ∧ (164 : Int) = y.e ∧ True) ∧ True)) ∧ (frB p c = false → ((y.e == (0 : Int)) = true → ((p.rng.lo = y.q.rng.lo ∧ p.rng.hi = y.q.rng.hi ∧ p.epoch = y.q.epoch ∧ c.plan = y.q.frozen ∧ (true = true ∧ List.length p.recs = List.length y.q.recs ∧ contLe (List.length p.recs) (5 : Nat) (cellsOf' encR p.recs) (cellsOf' encR y.q.recs)) ∧ (true = true ∧ List.length p.prods = List.length y.q.prods ∧ contLe (List.length p.prods) (4 : Nat) (cellsOf' P.encP p.prods) (cellsOf' P.encP y.q.prods)) ∧ (true = true ∧ List.length p.cons = List.length y.q.cons ∧ contLe (List.length p.cons) (2 : Nat) (cellsOf' encC p.cons) (cellsOf' encC y.q.cons)) ∧ True) ∧ ((0 : Int) = y.x.err ∧ (0 : Int) = y.x.off ∧ (p.frozen == c.plan) = y.x.old ∧ List.length y.x.recs = (0 : Nat) ∧ True) ∧ True ∧ True) ∧ True) ∧ ((y.e == (0 : Int)) = false → ((p.rng.lo = y.q.rng.lo ∧ p.rng.hi = y.q.rng.hi ∧ p.epoch = y.q.epoch ∧ c.plan = y.q.frozen ∧ (true = true ∧ List.length p.recs = List.length y.q.recs ∧ contLe (List.length p.recs) (5 : Nat) (cellsOf' encR p.recs) (cellsOf' encR y.q.recs)) ∧ (true = true ∧ List.length p.prods = List.length y.q.prods ∧ contLe (List.length p.prods) (4 : Nat) (cellsOf' P.encP p.prods) (cellsOf' P.encP y.q.prods)) ∧ (true = true ∧ List.length p.cons = List.length y.q.cons ∧ contLe (List.length p.cons) (2 : Nat) (cellsOf' encC p.cons) (cellsOf' encC y.q.cons)) ∧ True) ∧ ((0 : Int) = y.x.err ∧ (0 : Int) = y.x.off ∧ (p.frozen == c.plan) = y.x.old ∧ List.length y.x.recs = (0 : Nat) ∧ True) ∧ False ∧ True) ∧ False))) ∧ ((c.kind == (5 : Int)) = false → ((c.kind == (6 : Int)) = true → ((p.rng.lo = p.rng.lo ∧ p.rng.hi = p.rng.hi ∧ p.epoch = p.epoch ∧ p.frozen = p.frozen ∧ (true = true ∧ List.length p.recs = List.length p.recs ∧ contLe (List.length p.recs) (5 : Nat) (cellsOf' encR p.recs) (cellsOf' encR p.recs)) ∧ (true = true ∧ List.length p.prods = List.length p.prods ∧ contLe (List.length p.prods) (4 : Nat) (cellsOf' P.encP p.prods) (cellsOf' P.encP p.prods)) ∧ (true = true ∧ List.length p.cons = List.length p.cons ∧ contLe (List.length p.cons) (2 : Nat) (cellsOf' encC p.cons) (cellsOf' encC p.cons)) ∧ True) ∧ (c.kind = c.kind ∧ c.epoch = c.epoch ∧ c.prod = c.prod ∧ c.seq = c.seq ∧ c.key = c.key ∧ (true = true ∧ List.length c.val = List.length c.val ∧ contLe (List.length c.val) (1 : Nat) (cellsOf' encB c.val) (cellsOf' encB c.val)) ∧ c.off = c.off ∧ c.most = c.most ∧ c.name = c.name ∧ c.plan = c.plan ∧ True) ∧ (0 : Int) = (0 : Int) ∧ True) ∧ True ∧ (frB p c = true → ((y.e == (0 : Int)) = true → False) ∧ ((y.e == (0 : Int)) = false → ((p.rng.lo = y.q.rng.lo ∧ p.rng.hi = y.q.rng.hi ∧ p.epoch = y.q.epoch ∧ p.frozen = y.q.frozen ∧ (true = true ∧ List.length p.recs = List.length y.q.recs ∧ contLe (List.length p.recs) (5 : Nat) (cellsOf' encR p.recs) (cellsOf' encR y.q.recs)) ∧ (true = true ∧ List.length p.prods = List.length y.q.prods ∧ contLe (List.length p.prods) (4 : Nat) (cellsOf' P.encP p.prods) (cellsOf' P.encP y.q.prods)) ∧ (true = true ∧ List.length p.cons = List.length y.q.cons ∧ contLe (List.length p.cons) (2 : Nat) (cellsOf' encC p.cons) (cellsOf' encC y.q.cons)) ∧ True) ∧ ((0 : Int) = y.x.err ∧ (0 : Int) = y.x.off ∧ false = y.x.old ∧ List.length y.x.recs = (0 : Nat) ∧ True) ∧ ((0 : Nat) = (0 : Nat) ∧ (0 : Nat) = (0 : Nat)) ∧ True) ∧ (c.kind = c.kind ∧ (164 : Int) = y.e ∧ True) ∧ True)) ∧ (frB p c = false → ((y.e == (0 : Int)) = true → ((p.rng.lo = y.q.rng.lo ∧ p.rng.hi = y.q.rng.hi ∧ p.epoch = y.q.epoch ∧ (0 : Int) = y.q.frozen ∧ (true = true ∧ List.length p.recs = List.length y.q.recs ∧ contLe (List.length p.recs) (5 : Nat) (cellsOf' encR p.recs) (cellsOf' encR y.q.recs)) ∧ (true = true ∧ List.length p.prods = List.length y.q.prods ∧ contLe (List.length p.prods) (4 : Nat) (cellsOf' P.encP p.prods) (cellsOf' P.encP y.q.prods)) ∧ (true = true ∧ List.length p.cons = List.length y.q.cons ∧ contLe (List.length p.cons) (2 : Nat) (cellsOf' encC p.cons) (cellsOf' encC y.q.cons)) ∧ True) ∧ ((0 : Int) = y.x.err ∧ (0 : Int) = y.x.off ∧ (p.frozen == (0 : Int)) = y.x.old ∧ List.length y.x.recs = (0 : Nat) ∧ True) ∧ True ∧ True) ∧ True) ∧ ((y.e == (0 : Int)) = false → ((p.rng.lo = y.q.rng.lo ∧ p.rng.hi = y.q.rng.hi ∧ p.epoch = y.q.epoch ∧ (0 : Int) = y.q.frozen ∧ (true = true ∧ List.length p.recs = List.length y.q.recs ∧ contLe (List.length p.recs) (5 : Nat) (cellsOf' encR p.recs) (cellsOf' encR y.q.recs)) ∧ (true = true ∧ List.length p.prods = List.length y.q.prods ∧ contLe (List.length p.prods) (4 : Nat) (cellsOf' P.encP p.prods) (cellsOf' P.encP y.q.prods)) ∧ (true = true ∧ List.length p.cons = List.length y.q.cons ∧ contLe (List.length p.cons) (2 : Nat) (cellsOf' encC p.cons) (cellsOf' encC y.q.cons)) ∧ True) ∧ ((0 : Int) = y.x.err ∧ (0 : Int) = y.x.off ∧ (p.frozen == (0 : Int)) = y.x.old ∧ List.length y.x.recs = (0 : Nat) ∧ True) ∧ False ∧ True) ∧ False))) ∧ ((c.kind == (6 : Int)) = false → ((p.frozen != (0 : Int)) = true → ((y.e == (0 : Int)) = true → False) ∧ ((y.e == (0 : Int)) = false → ((p.rng.lo = y.q.rng.lo ∧ p.rng.hi = y.q.rng.hi ∧ p.epoch = y.q.epoch ∧ p.frozen = y.q.frozen ∧ (true = true ∧ List.length p.recs = List.length y.q.recs ∧ contLe (List.length p.recs) (5 : Nat) (cellsOf' encR p.recs) (cellsOf' encR y.q.recs)) ∧ (true = true ∧ List.length p.prods = List.length y.q.prods ∧ contLe (List.length p.prods) (4 : Nat) (cellsOf' P.encP p.prods) (cellsOf' P.encP y.q.prods)) ∧ (true = true ∧ List.length p.cons = List.length y.q.cons ∧ contLe (List.length p.cons) (2 : Nat) (cellsOf' encC p.cons) (cellsOf' encC y.q.cons)) ∧ True) ∧ ((0 : Int) = y.x.err ∧ (0 : Int) = y.x.off ∧ false = y.x.old ∧ List.length y.x.recs = (0 : Nat) ∧ True) ∧ ((0 : Nat) = (0 : Nat) ∧ (0 : Nat) = (0 : Nat)) ∧ True) ∧ (c.kind = c.kind ∧ (164 : Int) = y.e ∧ True) ∧ True)) ∧ ((p.frozen != (0 : Int)) = false → ((c.kind == (4 : Int)) = true → ((true = true ∧ List.length p.cons = List.length p.cons ∧ contLe (List.length p.cons) (2 : Nat) (cellsOf' encC p.cons) (cellsOf' encC p.cons)) ∧ c.name = c.name ∧ True) ∧ True ∧ List.length p.cons ≤ (9223372036854775806 : Nat) ∧ ((y.e == (0 : Int)) = true → ((p.rng.lo = y.q.rng.lo ∧ p.rng.hi = y.q.rng.hi ∧ p.epoch = y.q.epoch ∧ p.frozen = y.q.frozen ∧ (true = true ∧ List.length p.recs = List.length y.q.recs ∧ contLe (List.length p.recs) (5 : Nat) (cellsOf' encR p.recs) (cellsOf' encR y.q.recs)) ∧ (true = true ∧ List.length p.prods = List.length y.q.prods ∧ contLe (List.length p.prods) (4 : Nat) (cellsOf' P.encP p.prods) (cellsOf' P.encP y.q.prods)) ∧ (true = true ∧ List.length p.cons = List.length y.q.cons ∧ contLe (List.length p.cons) (2 : Nat) (cellsOf' encC p.cons) (cellsOf' encC y.q.cons)) ∧ True) ∧ ((0 : Int) = y.x.err ∧ readO p.cons c.name = y.x.off ∧ inC p.cons c.name = y.x.old ∧ List.length y.x.recs = (0 : Nat) ∧ True) ∧ True ∧ True) ∧ True) ∧ ((y.e == (0 : Int)) = false → ((p.rng.lo = y.q.rng.lo ∧ p.rng.hi = y.q.rng.hi ∧ p.epoch = y.q.epoch ∧ p.frozen = y.q.frozen ∧ (true = true ∧ List.length p.recs = List.length y.q.recs ∧ contLe (List.length p.recs) (5 : Nat) (cellsOf' encR p.recs) (cellsOf' encR y.q.recs)) ∧ (true = true ∧ List.length p.prods = List.length y.q.prods ∧ contLe (List.length p.prods) (4 : Nat) (cellsOf' P.encP p.prods) (cellsOf' P.encP y.q.prods)) ∧ (true = true ∧ List.length p.cons = List.length y.q.cons ∧ contLe (List.length p.cons) (2 : Nat) (cellsOf' encC p.cons) (cellsOf' encC y.q.cons)) ∧ True) ∧ ((0 : Int) = y.x.err ∧ readO p.cons c.name = y.x.off ∧ inC p.cons c.name = y.x.old ∧ List.length y.x.recs = (0 : Nat) ∧ True) ∧ False ∧ True) ∧ False)) ∧ ((c.kind == (4 : Int)) = false → ((c.kind == (2 : Int)) = true → ((true = true ∧ List.length p.recs = List.length p.recs ∧ contLe (List.length p.recs) (5 : Nat) (cellsOf' encR p.recs) (cellsOf' encR p.recs)) ∧ c.off = c.off ∧ c.most = c.most ∧ True) ∧ True ∧ (List.length p.recs ≤ (9223372036854775806 : Nat) ∧ (0 : Int) ≤ c.off) ∧ ((feE p.recs c.off == (0 : Int)) = true → (∀ (k : Nat), k < List.length (fetL p.recs c.off c.most) → ∀ (j : Nat), j < (5 : Nat) → tagT (cellsOf' encR (fetL p.recs c.off c.most) k j) = true) ∧ ((y.e == (0 : Int)) = true → ((p.rng.lo = y.q.rng.lo ∧ p.rng.hi = y.q.rng.hi ∧ p.epoch = y.q.epoch ∧ p.frozen = y.q.frozen ∧ (true = true ∧ List.length p.recs = List.length y.q.recs ∧ contLe (List.length p.recs) (5 : Nat) (cellsOf' encR p.recs) (cellsOf' encR y.q.recs)) ∧ (true = true ∧ List.length p.prods = List.length y.q.prods ∧ contLe (List.length p.prods) (4 : Nat) (cellsOf' P.encP p.prods) (cellsOf' P.encP y.q.prods)) ∧ (true = true ∧ List.length p.cons = List.length y.q.cons ∧ contLe (List.length p.cons) (2 : Nat) (cellsOf' encC p.cons) (cellsOf' encC y.q.cons)) ∧ True) ∧ ((0 : Int) = y.x.err ∧ IntKind.wrap IntKind.u64 (c.off + IntKind.wrap IntKind.u64 (↑(List.length (fetL p.recs c.off c.most)) : Int)) = y.x.off ∧ false = y.x.old ∧ (true = true ∧ List.length (fetL p.recs c.off c.most) = List.length y.x.recs ∧ contLe (List.length (fetL p.recs c.off c.most)) (5 : Nat) (Ax.rowAt (0 : Nat) (cellsOf' encR (fetL p.recs c.off c.most))) (cellsOf' encR y.x.recs)) ∧ True) ∧ True ∧ True) ∧ True) ∧ ((y.e == (0 : Int)) = false → ((p.rng.lo = y.q.rng.lo ∧ p.rng.hi = y.q.rng.hi ∧ p.epoch = y.q.epoch ∧ p.frozen = y.q.frozen ∧ (true = true ∧ List.length p.recs = List.length y.q.recs ∧ contLe (List.length p.recs) (5 : Nat) (cellsOf' encR p.recs) (cellsOf' encR y.q.recs)) ∧ (true = true ∧ List.length p.prods = List.length y.q.prods ∧ contLe (List.length p.prods) (4 : Nat) (cellsOf' P.encP p.prods) (cellsOf' P.encP y.q.prods)) ∧ (true = true ∧ List.length p.cons = List.length y.q.cons ∧ contLe (List.length p.cons) (2 : Nat) (cellsOf' encC p.cons) (cellsOf' encC y.q.cons)) ∧ True) ∧ ((0 : Int) = y.x.err ∧ IntKind.wrap IntKind.u64 (c.off + IntKind.wrap IntKind.u64 (↑(List.length (fetL p.recs c.off c.most)) : Int)) = y.x.off ∧ false = y.x.old ∧ (true = true ∧ List.length (fetL p.recs c.off c.most) = List.length y.x.recs ∧ contLe (List.length (fetL p.recs c.off c.most)) (5 : Nat) (Ax.rowAt (0 : Nat) (cellsOf' encR (fetL p.recs c.off c.most))) (cellsOf' encR y.x.recs)) ∧ True) ∧ False ∧ True) ∧ False)) ∧ ((feE p.recs c.off == (0 : Int)) = false → ((feE p.recs c.off == (0 : Int)) = true → ((y.e == (0 : Int)) = true → ((p.rng.lo = y.q.rng.lo ∧ p.rng.hi = y.q.rng.hi ∧ p.epoch = y.q.epoch ∧ p.frozen = y.q.frozen ∧ (true = true ∧ List.length p.recs = List.length y.q.recs ∧ contLe (List.length p.recs) (5 : Nat) (cellsOf' encR p.recs) (cellsOf' encR y.q.recs)) ∧ (true = true ∧ List.length p.prods = List.length y.q.prods ∧ contLe (List.length p.prods) (4 : Nat) (cellsOf' P.encP p.prods) (cellsOf' P.encP y.q.prods)) ∧ (true = true ∧ List.length p.cons = List.length y.q.cons ∧ contLe (List.length p.cons) (2 : Nat) (cellsOf' encC p.cons) (cellsOf' encC y.q.cons)) ∧ True) ∧ ((0 : Int) = y.x.err ∧ IntKind.wrap IntKind.u64 (c.off + (0 : Int)) = y.x.off ∧ false = y.x.old ∧ List.length y.x.recs = (0 : Nat) ∧ True) ∧ True ∧ True) ∧ True) ∧ ((y.e == (0 : Int)) = false → ((p.rng.lo = y.q.rng.lo ∧ p.rng.hi = y.q.rng.hi ∧ p.epoch = y.q.epoch ∧ p.frozen = y.q.frozen ∧ (true = true ∧ List.length p.recs = List.length y.q.recs ∧ contLe (List.length p.recs) (5 : Nat) (cellsOf' encR p.recs) (cellsOf' encR y.q.recs)) ∧ (true = true ∧ List.length p.prods = List.length y.q.prods ∧ contLe (List.length p.prods) (4 : Nat) (cellsOf' P.encP p.prods) (cellsOf' P.encP y.q.prods)) ∧ (true = true ∧ List.length p.cons = List.length y.q.cons ∧ contLe (List.length p.cons) (2 : Nat) (cellsOf' encC p.cons) (cellsOf' encC y.q.cons)) ∧ True) ∧ ((0 : Int) = y.x.err ∧ IntKind.wrap IntKind.u64 (c.off + (0 : Int)) = y.x.off ∧ false = y.x.old ∧ List.length y.x.recs = (0 : Nat) ∧ True) ∧ False ∧ True) ∧ False)) ∧ ((feE p.recs c.off == (0 : Int)) = false → ((y.e == (0 : Int)) = true → False) ∧ ((y.e == (0 : Int)) = false → ((p.rng.lo = y.q.rng.lo ∧ p.rng.hi = y.q.rng.hi ∧ p.epoch = y.q.epoch ∧ p.frozen = y.q.frozen ∧ (true = true ∧ List.length p.recs = List.length y.q.recs ∧ contLe (List.length p.recs) (5 : Nat) (cellsOf' encR p.recs) (cellsOf' encR y.q.recs)) ∧ (true = true ∧ List.length p.prods = List.length y.q.prods ∧ contLe (List.length p.prods) (4 : Nat) (cellsOf' P.encP p.prods) (cellsOf' P.encP y.q.prods)) ∧ (true = true ∧ List.length p.cons = List.length y.q.cons ∧ contLe (List.length p.cons) (2 : Nat) (cellsOf' encC p.cons) (cellsOf' encC y.q.cons)) ∧ True) ∧ ((0 : Int) = y.x.err ∧ IntKind.wrap IntKind.u64 (c.off + (0 : Int)) = y.x.off ∧ false = y.x.old ∧ List.length y.x.recs = (0 : Nat) ∧ True) ∧ ((0 : Nat) = (0 : Nat) ∧ (0 : Nat) = (0 : Nat)) ∧ True) ∧ (c.kind = c.kind ∧ feE p.recs c.off = y.e ∧ True) ∧ True)))) ∧ ((c.kind == (2 : Int)) = false → ((y.e == (0 : Int)) = true → ((p.rng.lo = y.q.rng.lo ∧ p.rng.hi = y.q.rng.hi ∧ p.epoch = y.q.epoch ∧ p.frozen = y.q.frozen ∧ (true = true ∧ List.length p.recs = List.length y.q.recs ∧ contLe (List.length p.recs) (5 : Nat) (cellsOf' encR p.recs) (cellsOf' encR y.q.recs)) ∧ (true = true ∧ List.length p.prods = List.length y.q.prods ∧ contLe (List.length p.prods) (4 : Nat) (cellsOf' P.encP p.prods) (cellsOf' P.encP y.q.prods)) ∧ (true = true ∧ List.length p.cons = List.length y.q.cons ∧ contLe (List.length p.cons) (2 : Nat) (cellsOf' encC p.cons) (cellsOf' encC y.q.cons)) ∧ True) ∧ ((0 : Int) = y.x.err ∧ (0 : Int) = y.x.off ∧ false = y.x.old ∧ List.length y.x.recs = (0 : Nat) ∧ True) ∧ True ∧ True) ∧ True) ∧ ((y.e == (0 : Int)) = false → ((p.rng.lo = y.q.rng.lo ∧ p.rng.hi = y.q.rng.hi ∧ p.epoch = y.q.epoch ∧ p.frozen = y.q.frozen ∧ (true = true ∧ List.length p.recs = List.length y.q.recs ∧ contLe (List.length p.recs) (5 : Nat) (cellsOf' encR p.recs) (cellsOf' encR y.q.recs)) ∧ (true = true ∧ List.length p.prods = List.length y.q.prods ∧ contLe (List.length p.prods) (4 : Nat) (cellsOf' P.encP p.prods) (cellsOf' P.encP y.q.prods)) ∧ (true = true ∧ List.length p.cons = List.length y.q.cons ∧ contLe (List.length p.cons) (2 : Nat) (cellsOf' encC p.cons) (cellsOf' encC y.q.cons)) ∧ True) ∧ ((0 : Int) = y.x.err ∧ (0 : Int) = y.x.off ∧ false = y.x.old ∧ List.length y.x.recs = (0 : Nat) ∧ True) ∧ False ∧ True) ∧ False))))))))
set_option maxRecDepth 1000000 in
theorem vcAc_eq (p : Part) (c : Cmd) (y : Act) : (ctrVC Tryz.prog (acH p c) 40 [.agg (encPt true p), .agg (encCm c)] [] (actT y.q y.x c y.e)) = vcAc p c y := by kernel_rfl
end Go.Proofs.YtnbhdjadlbhknaaGreatDoor.R

/-! Shards' states: act. -/
namespace Go.Proofs.YtnbhdjadlbhknaaGreatDoor.R
open Go.Ax
set_option maxRecDepth 1000000
theorem ac_c (p : Part) (c : Cmd) (h : PartIn p) (ho : 0 ≤ c.off ∧ c.off < 18446744073709551616) : (actT (actQ p c) (actX p c) c (actE p c)).Sat (ACall' Tryz.prog 40 [.agg (encPt true p), .agg (encCm c)] []) := by
  refine ctr_vc (ht := acH p c) Tryz.mixed rfl ?_
  rw [vcAc_eq p c ⟨actQ p c, actX p c, actE p c⟩]
  unfold vcAc
  dsimp only
  have h1 := h.rl
  have h3 := h.cl
  have hw : IntKind.u64.wrap c.off = c.off := wrap_u64 ho.1 (by omega)
  have q2 : p.recs.length ≤ 9223372036854775806 := by omega
  have q3 : p.cons.length ≤ 9223372036854775806 := by omega
  unfold actQ actX actE un9 byOf
  by_cases k1 : c.kind = 1
  · by_cases e0 : prE p c = 0
    · simp [k1, e0, h, prQ]
    · by_cases e9 : prE p c = 999
      · simp [k1, e9, h]
      · simp [k1, e0, e9, h]
  · by_cases k3 : c.kind = 3
    · by_cases e0 : cmE p c = 0
      · simp [k3, e0, h, cmQ]
      · by_cases e9 : cmE p c = 999
        · simp [k3, e9, h]
        · simp [k3, e0, e9, h]
    · by_cases k5 : c.kind = 5
      · cases f : frB p c <;> simp [k5, f, frQ]
      · by_cases k6 : c.kind = 6
        · cases f : frB p c <;> simp [k6, f, frQ]
        · by_cases fz : p.frozen = 0
          · by_cases k4 : c.kind = 4
            · simp [k4, fz, q3]
            · by_cases k2 : c.kind = 2
              · by_cases e0 : feE p.recs c.off = 0
                · have t := tRs (fetL p.recs c.off c.most)
                  simp [k2, fz, e0, q2, ho, hw]
                  exact t
                · simp [k2, fz, e0, q2, ho, hw]
              · simp [k1, k2, k3, k4, k5, k6, fz]
          · simp [k1, k3, k5, k6, fz]
/-- by the answer -/
structure ActR (p : Part) (c : Cmd) (q : Part) (x : Res) (e : Int) : Prop where
  s : (actT q x c e).Sat (ACall' Tryz.prog 40 [.agg (encPt true p), .agg (encCm c)] [])
noncomputable def arC (p : Part) (c : Cmd) (q : Part) (x : Res) (e : Int) : Ctr Tryz.prog := ⟨40, [.agg (encPt true p), .agg (encCm c)], [], .need (ActR p c q x e) (actT q x c e), T.Sat.need fun h => h.s⟩
/-! Do -/
def doQ (p : Part) (c : Cmd) (q : Part) (e : Int) : Part := if partOk p = false then default else if wellB c = false ∨ c.epoch ≠ p.epoch ∨ e ≠ 0 then p else q
def doX (p : Part) (c : Cmd) (x : Res) (e : Int) : Res := if partOk p = false then ⟨165, 0, false, []⟩ else if wellB c = false then ⟨161, 0, false, []⟩ else if c.epoch ≠ p.epoch then ⟨162, 0, false, []⟩ else if e ≠ 0 then ⟨e, 0, false, []⟩ else x
def doT (q : Part) (x : Res) : T An := .ret (.tup [.agg (encPt true q), .agg (encX x)], [], [])
noncomputable def doH (b : Bool) (p : Part) (c : Cmd) (y : Act) : HintsT Tryz.prog := withSub (hh _ noLp (cs1 13 1 1 (pcC b p) (cs1 13 3 1 (weC c) (cs1 13 4 1 (pownC b p) (cs1 13 6 1 (pownC b p) (cs1 13 7 1 (pownC b p) (cs1 13 7 3 (arC p c y.q y.x y.e) (cs1 13 10 1 (pownC b p) noCs))))))) noOp) [41, 113]
def vcDo (b : Bool) (p : Part) (c : Cmd) (y : Act) (z : Act) : Prop :=
  ((p.rng.lo = p.rng.lo ∧ p.rng.hi = p.rng.hi ∧ p.epoch = p.epoch ∧ p.frozen = p.frozen ∧ (b = b ∧ List.length p.recs = List.length p.recs ∧ contLe (List.length p.recs) (5 : Nat) (cellsOf' encR p.recs) (cellsOf' encR p.recs)) ∧ (b = b ∧ List.length p.prods = List.length p.prods ∧ contLe (List.length p.prods) (4 : Nat) (cellsOf' P.encP p.prods) (cellsOf' P.encP p.prods)) ∧ (b = b ∧ List.length p.cons = List.length p.cons ∧ contLe (List.length p.cons) (2 : Nat) (cellsOf' encC p.cons) (cellsOf' encC p.cons)) ∧ True) ∧ True) ∧ True ∧ PartIn p ∧ (partOk p = true → ((c.kind = c.kind ∧ c.epoch = c.epoch ∧ c.prod = c.prod ∧ c.seq = c.seq ∧ c.key = c.key ∧ (true = true ∧ List.length c.val = List.length c.val ∧ contLe (List.length c.val) (1 : Nat) (cellsOf' encB c.val) (cellsOf' encB c.val)) ∧ c.off = c.off ∧ c.most = c.most ∧ c.name = c.name ∧ c.plan = c.plan ∧ True) ∧ True) ∧ True ∧ ((!wellB c) = true → ((p.rng.lo = p.rng.lo ∧ p.rng.hi = p.rng.hi ∧ p.epoch = p.epoch ∧ p.frozen = p.frozen ∧ (b = b ∧ List.length p.recs = List.length p.recs ∧ contLe (List.length p.recs) (5 : Nat) (cellsOf' encR p.recs) (cellsOf' encR p.recs)) ∧ (b = b ∧ List.length p.prods = List.length p.prods ∧ contLe (List.length p.prods) (4 : Nat) (cellsOf' P.encP p.prods) (cellsOf' P.encP p.prods)) ∧ (b = b ∧ List.length p.cons = List.length p.cons ∧ contLe (List.length p.cons) (2 : Nat) (cellsOf' encC p.cons) (cellsOf' encC p.cons)) ∧ True) ∧ True) ∧ True ∧ PoOk p ∧ ((p.rng.lo = z.q.rng.lo ∧ p.rng.hi = z.q.rng.hi ∧ p.epoch = z.q.epoch ∧ p.frozen = z.q.frozen ∧ (true = true ∧ List.length p.recs = List.length z.q.recs ∧ contLe (List.length p.recs) (5 : Nat) (cellsOf' encR p.recs) (cellsOf' encR z.q.recs)) ∧ (true = true ∧ List.length p.prods = List.length z.q.prods ∧ contLe (List.length p.prods) (4 : Nat) (cellsOf' P.encP p.prods) (cellsOf' P.encP z.q.prods)) ∧ (true = true ∧ List.length p.cons = List.length z.q.cons ∧ contLe (List.length p.cons) (2 : Nat) (cellsOf' encC p.cons) (cellsOf' encC z.q.cons)) ∧ True) ∧ ((161 : Int) = z.x.err ∧ (0 : Int) = z.x.off ∧ false = z.x.old ∧ List.length z.x.recs = (0 : Nat) ∧ True) ∧ True) ∧ True) ∧ ((!wellB c) = false → ((c.epoch != p.epoch) = true → ((p.rng.lo = p.rng.lo ∧ p.rng.hi = p.rng.hi ∧ p.epoch = p.epoch ∧ p.frozen = p.frozen ∧ (b = b ∧ List.length p.recs = List.length p.recs ∧ contLe (List.length p.recs) (5 : Nat) (cellsOf' encR p.recs) (cellsOf' encR p.recs)) ∧ (b = b ∧ List.length p.prods = List.length p.prods ∧ contLe (List.length p.prods) (4 : Nat) (cellsOf' P.encP p.prods) (cellsOf' P.encP p.prods)) ∧ (b = b ∧ List.length p.cons = List.length p.cons ∧ contLe (List.length p.cons) (2 : Nat) (cellsOf' encC p.cons) (cellsOf' encC p.cons)) ∧ True) ∧ True) ∧ True ∧ PoOk p ∧ ((p.rng.lo = z.q.rng.lo ∧ p.rng.hi = z.q.rng.hi ∧ p.epoch = z.q.epoch ∧ p.frozen = z.q.frozen ∧ (true = true ∧ List.length p.recs = List.length z.q.recs ∧ contLe (List.length p.recs) (5 : Nat) (cellsOf' encR p.recs) (cellsOf' encR z.q.recs)) ∧ (true = true ∧ List.length p.prods = List.length z.q.prods ∧ contLe (List.length p.prods) (4 : Nat) (cellsOf' P.encP p.prods) (cellsOf' P.encP z.q.prods)) ∧ (true = true ∧ List.length p.cons = List.length z.q.cons ∧ contLe (List.length p.cons) (2 : Nat) (cellsOf' encC p.cons) (cellsOf' encC z.q.cons)) ∧ True) ∧ ((162 : Int) = z.x.err ∧ (0 : Int) = z.x.off ∧ false = z.x.old ∧ List.length z.x.recs = (0 : Nat) ∧ True) ∧ True) ∧ True) ∧ ((c.epoch != p.epoch) = false → ((p.rng.lo = p.rng.lo ∧ p.rng.hi = p.rng.hi ∧ p.epoch = p.epoch ∧ p.frozen = p.frozen ∧ (b = b ∧ List.length p.recs = List.length p.recs ∧ contLe (List.length p.recs) (5 : Nat) (cellsOf' encR p.recs) (cellsOf' encR p.recs)) ∧ (b = b ∧ List.length p.prods = List.length p.prods ∧ contLe (List.length p.prods) (4 : Nat) (cellsOf' P.encP p.prods) (cellsOf' P.encP p.prods)) ∧ (b = b ∧ List.length p.cons = List.length p.cons ∧ contLe (List.length p.cons) (2 : Nat) (cellsOf' encC p.cons) (cellsOf' encC p.cons)) ∧ True) ∧ True) ∧ True ∧ PoOk p ∧ ((p.rng.lo = p.rng.lo ∧ p.rng.hi = p.rng.hi ∧ p.epoch = p.epoch ∧ p.frozen = p.frozen ∧ (true = true ∧ List.length p.recs = List.length p.recs ∧ contLe (List.length p.recs) (5 : Nat) (cellsOf' encR p.recs) (cellsOf' encR p.recs)) ∧ (true = true ∧ List.length p.prods = List.length p.prods ∧ contLe (List.length p.prods) (4 : Nat) (cellsOf' P.encP p.prods) (cellsOf' P.encP p.prods)) ∧ (true = true ∧ List.length p.cons = List.length p.cons ∧ contLe (List.length p.cons) (2 : Nat) (cellsOf' encC p.cons) (cellsOf' encC p.cons)) ∧ True) ∧ (c.kind = c.kind ∧ c.epoch = c.epoch ∧ c.prod = c.prod ∧ c.seq = c.seq ∧ c.key = c.key ∧ (true = true ∧ List.length c.val = List.length c.val ∧ contLe (List.length c.val) (1 : Nat) (cellsOf' encB c.val) (cellsOf' encB c.val)) ∧ c.off = c.off ∧ c.most = c.most ∧ c.name = c.name ∧ c.plan = c.plan ∧ True) ∧ True) ∧ True ∧ ActR p c y.q y.x y.e ∧ ((y.e == (0 : Int)) = true → ((y.q.rng.lo = z.q.rng.lo ∧ y.q.rng.hi = z.q.rng.hi ∧ y.q.epoch = z.q.epoch ∧ y.q.frozen = z.q.frozen ∧ (true = true ∧ List.length y.q.recs = List.length z.q.recs ∧ contLe (List.length y.q.recs) (5 : Nat) (cellsOf' encR y.q.recs) (cellsOf' encR z.q.recs)) ∧ (true = true ∧ List.length y.q.prods = List.length z.q.prods ∧ contLe (List.length y.q.prods) (4 : Nat) (cellsOf' P.encP y.q.prods) (cellsOf' P.encP z.q.prods)) ∧ (true = true ∧ List.length y.q.cons = List.length z.q.cons ∧ contLe (List.length y.q.cons) (2 : Nat) (cellsOf' encC y.q.cons) (cellsOf' encC z.q.cons)) ∧ True) ∧ (y.x.err = z.x.err ∧ y.x.off = z.x.off ∧ y.x.old = z.x.old ∧ (true = true ∧ List.length y.x.recs = List.length z.x.recs ∧ contLe (List.length y.x.recs) (5 : Nat) (cellsOf' encR y.x.recs) (cellsOf' encR z.x.recs)) ∧ True) ∧ True) ∧ True) ∧ ((y.e == (0 : Int)) = false → true = true ∧ True ∧ ((p.rng.lo = p.rng.lo ∧ p.rng.hi = p.rng.hi ∧ p.epoch = p.epoch ∧ p.frozen = p.frozen ∧ (b = b ∧ List.length p.recs = List.length p.recs ∧ contLe (List.length p.recs) (5 : Nat) (cellsOf' encR p.recs) (cellsOf' encR p.recs)) ∧ (b = b ∧ List.length p.prods = List.length p.prods ∧ contLe (List.length p.prods) (4 : Nat) (cellsOf' P.encP p.prods) (cellsOf' P.encP p.prods)) ∧ (b = b ∧ List.length p.cons = List.length p.cons ∧ contLe (List.length p.cons) (2 : Nat) (cellsOf' encC p.cons) (cellsOf' encC p.cons)) ∧ True) ∧ True) ∧ True ∧ PoOk p ∧ ((p.rng.lo = z.q.rng.lo ∧ p.rng.hi = z.q.rng.hi ∧ p.epoch = z.q.epoch ∧ p.frozen = z.q.frozen ∧ (true = true ∧ List.length p.recs = List.length z.q.recs ∧ contLe (List.length p.recs) (5 : Nat) (cellsOf' encR p.recs) (cellsOf' encR z.q.recs)) ∧ (true = true ∧ List.length p.prods = List.length z.q.prods ∧ contLe (List.length p.prods) (4 : Nat) (cellsOf' P.encP p.prods) (cellsOf' P.encP z.q.prods)) ∧ (true = true ∧ List.length p.cons = List.length z.q.cons ∧ contLe (List.length p.cons) (2 : Nat) (cellsOf' encC p.cons) (cellsOf' encC z.q.cons)) ∧ True) ∧ (y.e = z.x.err ∧ (0 : Int) = z.x.off ∧ false = z.x.old ∧ List.length z.x.recs = (0 : Nat) ∧ True) ∧ True) ∧ True)))) ∧ (partOk p = false → (({ data := #[] : ByteArray } = z.q.rng.lo ∧ { data := #[] : ByteArray } = z.q.rng.hi ∧ (0 : Int) = z.q.epoch ∧ (0 : Int) = z.q.frozen ∧ List.length z.q.recs = (0 : Nat) ∧ List.length z.q.prods = (0 : Nat) ∧ List.length z.q.cons = (0 : Nat) ∧ True) ∧ ((165 : Int) = z.x.err ∧ (0 : Int) = z.x.off ∧ false = z.x.old ∧ List.length z.x.recs = (0 : Nat) ∧ True) ∧ True) ∧ True)
set_option maxRecDepth 1000000 in
theorem vcDo_eq (b : Bool) (p : Part) (c : Cmd) (y : Act) (z : Act) : (ctrVC Tryz.prog (doH b p c y) 13 [.agg (encPt b p), .agg (encCm c)] [] (doT z.q z.x)) = vcDo b p c y z := by kernel_rfl
end Go.Proofs.YtnbhdjadlbhknaaGreatDoor.R

/-! Shards' states: Do. -/
namespace Go.Proofs.YtnbhdjadlbhknaaGreatDoor.R
open Go.Ax
set_option maxRecDepth 1000000
theorem ok_len {p : Part} (h : partOk p = true) : p.recs.length ≤ 4096 ∧ p.prods.length ≤ 256 ∧ p.cons.length ≤ 64 := by
  obtain ⟨_, _, a, b, c, _⟩ := D.ok_parts h
  have h1 := log_len a
  simp [P.isTable] at b
  simp [isCons] at c
  exact ⟨h1, b.2, c.2⟩
theorem ok_po {p : Part} (h : partOk p = true) : PoOk p := by
  obtain ⟨h1, h2, h3⟩ := ok_len h
  have h4 := log_ow (D.ok_parts h).2.2.1
  exact ⟨h1, h4.v, by omega, by omega⟩
/-- what Do does -/
def dQ (p : Part) (c : Cmd) : Part := doQ p c (actQ p c) (actE p c)
def dX (p : Part) (c : Cmd) : Res := doX p c (actX p c) (actE p c)
theorem do_c (b : Bool) (p : Part) (c : Cmd) (h : PartIn p) (ho : 0 ≤ c.off ∧ c.off < 18446744073709551616) : (doT (dQ p c) (dX p c)).Sat (ACall' Tryz.prog 13 [.agg (encPt b p), .agg (encCm c)] []) := by
  have ha := ac_c p c h ho
  unfold dQ dX
  generalize actQ p c = q at *
  generalize actX p c = x at *
  generalize actE p c = e at *
  refine ctr_vc (ht := doH b p c ⟨q, x, e⟩) Tryz.mixed rfl ?_
  rw [vcDo_eq b p c ⟨q, x, e⟩ ⟨doQ p c q e, doX p c x e, 0⟩]
  unfold vcDo
  dsimp only
  have hr : ActR p c q x e := ⟨ha⟩
  have eb : ({ data := #[] } : ByteArray) = ByteArray.empty := rfl
  rw [eb]
  unfold doQ doX
  cases k0 : partOk p
  · simp [h]
    exact ⟨rfl, rfl, rfl, rfl, rfl, rfl, rfl⟩
  · have hp := ok_po k0
    cases k1 : wellB c
    · simp [h, hp]
    · by_cases k2 : c.epoch = p.epoch
      · by_cases k3 : e = 0
        · simp [h, hp, k2, k3, k3 ▸ hr]
        · simp [h, hp, k2, k3, hr]
      · simp [h, hp, k2]
structure DoR (p : Part) (c : Cmd) (q : Part) (x : Res) : Prop where
  q : q = dQ p c
  x : x = dX p c
  i : PartIn p
  o : 0 ≤ c.off ∧ c.off < 18446744073709551616
noncomputable def doC (b : Bool) (p : Part) (c : Cmd) (q : Part) (x : Res) : Ctr Tryz.prog := ⟨13, [.agg (encPt b p), .agg (encCm c)], [], .need (DoR p c q x) (doT q x), T.Sat.need fun h => by
  obtain ⟨rfl, rfl, h1, h2⟩ := h
  exact do_c b p c h1 h2⟩
end Go.Proofs.YtnbhdjadlbhknaaGreatDoor.R

/-! Shards' states: alike: the conditions. -/
namespace Go.Proofs.YtnbhdjadlbhknaaGreatDoor.R
open Go.Ax
set_option maxRecDepth 1000000
/-- the bytes of a value, as the model compares them -/
def byL (l : List Int) : List UInt8 := (List.range l.length).map fun k => UInt8.ofNat (l.getD k 0).toNat
def eqRc (x y : Rec) : Bool := x.off == y.off && (x.key.data.toList == y.key.data.toList && (byL x.val == byL y.val && (x.prod == y.prod && x.seq == y.seq)))
def sameF (a b : List Rec) (k : Nat) : Bool := (List.range' k (a.length - k)).all fun j => eqRc (a.getD j default) (b.getD j default)
def smT (b1 b2 : Bool) (a b : List Rec) (k : Nat) : List AV := mkT 82 [(0, encRs b1 a), (1, encRs b2 b), (4, .s (.bool false)), (5, .y (.int .i64 k))]
def smS (r : Bool) : Exit × List AV × List Blk := match r with
  | true => (.exit 0, mkT 82 [], [])
  | false => (.ret, mkT 82 [(4, .s (.bool false))], [])
def smO (a b : List Rec) (k : Nat) : T Bool := .ite (sameF a b k) (.ret true) (.ret false)
end Go.Proofs.YtnbhdjadlbhknaaGreatDoor.R

/-! Shards' states: alike. -/
namespace Go.Proofs.YtnbhdjadlbhknaaGreatDoor.R
open Go.Ax
set_option maxRecDepth 1000000
end Go.Proofs.YtnbhdjadlbhknaaGreatDoor.R

/-! Producers: lives; the law ProducersMoves. -/
namespace Go.Proofs.YtnbhdjadlbhknaaGreatDoor.P
open Go.Ax
set_option maxRecDepth 1000000
structure Two where
  a : List Producer
  b : List Producer
  ta : List Int
  tb : List Int
structure Two.Ok (x : Two) : Prop where
  a : x.a.length * 32 ≤ 140737488355200
  b : x.b.length * 32 ≤ 140737488355200
  ta : x.ta.length ≤ 9223372036854775806
  tb : x.tb.length ≤ 9223372036854775806
  oa : ∀ y ∈ x.a, 0 ≤ y.offset ∧ y.offset < 18446744073709551616
  ob : ∀ y ∈ x.b, 0 ≤ y.offset ∧ y.offset < 18446744073709551616
end Go.Proofs.YtnbhdjadlbhknaaGreatDoor.P

/-! Shards' states: alike: states, results: the conditions. -/
namespace Go.Proofs.YtnbhdjadlbhknaaGreatDoor.R
open Go.Ax
set_option maxRecDepth 1000000
noncomputable def smH (b1 b2 : Bool) (a b : List Rec) : HintsT Tryz.prog := hh _ (lp1 73 4 (jobOf (smT b1 b2 a b) (fun _ => []) [0, 1] (smO a b) smS 0) noLp) noCs noOp
end Go.Proofs.YtnbhdjadlbhknaaGreatDoor.R

/-! Shards' states: alike: states, results; lives: the conditions. -/
namespace Go.Proofs.YtnbhdjadlbhknaaGreatDoor.R
open Go.Ax
set_option maxRecDepth 1000000
end Go.Proofs.YtnbhdjadlbhknaaGreatDoor.R

/-! Shards' states: lives. -/
namespace Go.Proofs.YtnbhdjadlbhknaaGreatDoor.R
open Go.Ax
set_option maxRecDepth 1000000
def kS : ByteArray := ⟨#[107]⟩
def prC1 (s : Int) (k : ByteArray) : Cmd := ⟨1, 1, 7, s, k, [118], 0, 0, ByteArray.empty, 0⟩
def cmdR (c : Cmd) : T An := .ret (.agg (encCm c), [], [])
def vcPro (s : Int) (k : ByteArray) : Prop :=
  ((1 : Int) = (1 : Int) ∧ (1 : Int) = (1 : Int) ∧ (7 : Int) = (7 : Int) ∧ s = s ∧ k = k ∧ (true = true ∧ (1 : Nat) = (1 : Nat) ∧ contLe (1 : Nat) (1 : Nat) (Ax.rowAt (0 : Nat) fun (k j : Nat) => Ax.get [AV.s (Value.int IntKind.u8 (118 : Int))] (k * (1 : Nat) + j)) (cellsOf' encB [(118 : Int)])) ∧ (0 : Int) = (0 : Int) ∧ (0 : Int) = (0 : Int) ∧ { data := #[] : ByteArray } = ByteArray.empty ∧ (0 : Int) = (0 : Int) ∧ True) ∧ True
set_option maxRecDepth 1000000 in
theorem vcPro_eq (s : Int) (k : ByteArray) : (ctrVC Tryz.prog (hT _) 12 [.y (.int .u64 s), .y (.string k)] [] (cmdR (prC1 s k))) = vcPro s k := by kernel_rfl
theorem pro_c (s : Int) (k : ByteArray) : (cmdR (prC1 s k)).Sat (ACall' Tryz.prog 12 [.y (.int .u64 s), .y (.string k)] []) := by
  refine ctr_vc (ht := hT _) Tryz.mixed rfl ?_
  rw [vcPro_eq s k]
  unfold vcPro
  have eb : ({ data := #[] } : ByteArray) = ByteArray.empty := rfl
  simp [eb]
  intro i hi j hj
  obtain rfl : i = 0 := by omega
  obtain rfl : j = 0 := by omega
  exact rfl
noncomputable def proC (s : Int) (k : ByteArray) : Ctr Tryz.prog := ⟨12, [.y (.int .u64 s), .y (.string k)], [], cmdR (prC1 s k), pro_c s k⟩
def p0 : Part := ⟨⟨ByteArray.empty, ByteArray.empty⟩, 1, 0, [], [], []⟩
def q0 : Part := ⟨⟨ByteArray.empty, ByteArray.empty⟩, 1, 0, [⟨0, kS, [118], 7, 1⟩], [⟨7, 1, true, 0⟩], []⟩
noncomputable def lvH : HintsT Tryz.prog := hh _ noLp (cs1 10 2 1 (proC 1 kS) (cs1 10 2 2 (doC true p0 (prC1 1 kS) q0 ⟨0, 0, false, []⟩) (cs1 10 3 1 (proC 1 kS) (cs1 10 3 2 (doC true q0 (prC1 1 kS) q0 ⟨0, 0, true, []⟩) noCs)))) noOp
def vcLv (u : Unit) : Prop :=
  ((1 : Int) = (1 : Int) ∧ { data := #[(107 : UInt8)] : ByteArray } = kS ∧ True) ∧ True ∧ (({ data := #[] : ByteArray } = ByteArray.empty ∧ { data := #[] : ByteArray } = ByteArray.empty ∧ (1 : Int) = (1 : Int) ∧ (0 : Int) = (0 : Int) ∧ (0 : Nat) = (0 : Nat) ∧ (0 : Nat) = (0 : Nat) ∧ (0 : Nat) = (0 : Nat) ∧ True) ∧ ((1 : Int) = (1 : Int) ∧ (1 : Int) = (1 : Int) ∧ (7 : Int) = (7 : Int) ∧ (1 : Int) = (1 : Int) ∧ kS = kS ∧ (true = true ∧ (1 : Nat) = (1 : Nat) ∧ contLe (1 : Nat) (1 : Nat) (cellsOf' encB [(118 : Int)]) (cellsOf' encB [(118 : Int)])) ∧ (0 : Int) = (0 : Int) ∧ (0 : Int) = (0 : Int) ∧ ByteArray.empty = ByteArray.empty ∧ (0 : Int) = (0 : Int) ∧ True) ∧ True) ∧ True ∧ DoR p0 (prC1 (1 : Int) kS) q0 { err := (0 : Int), off := (0 : Int), old := false, recs := [] : Res } ∧ ((1 : Int) = (1 : Int) ∧ { data := #[(107 : UInt8)] : ByteArray } = kS ∧ True) ∧ True ∧ ((ByteArray.empty = ByteArray.empty ∧ ByteArray.empty = ByteArray.empty ∧ (1 : Int) = (1 : Int) ∧ (0 : Int) = (0 : Int) ∧ (true = true ∧ (1 : Nat) = (1 : Nat) ∧ contLe (1 : Nat) (5 : Nat) (cellsOf' encR [{ off := (0 : Int), key := kS, val := [(118 : Int)], prod := (7 : Int), seq := (1 : Int) : Rec }]) (cellsOf' encR [{ off := (0 : Int), key := kS, val := [(118 : Int)], prod := (7 : Int), seq := (1 : Int) : Rec }])) ∧ (true = true ∧ (1 : Nat) = (1 : Nat) ∧ contLe (1 : Nat) (4 : Nat) (cellsOf' P.encP [{ id := (7 : Int), seq := (1 : Int), here := true, offset := (0 : Int) : P.Producer }]) (cellsOf' P.encP [{ id := (7 : Int), seq := (1 : Int), here := true, offset := (0 : Int) : P.Producer }])) ∧ (true = true ∧ (0 : Nat) = (0 : Nat) ∧ contLe (0 : Nat) (2 : Nat) (cellsOf' encC []) (cellsOf' encC [])) ∧ True) ∧ ((1 : Int) = (1 : Int) ∧ (1 : Int) = (1 : Int) ∧ (7 : Int) = (7 : Int) ∧ (1 : Int) = (1 : Int) ∧ kS = kS ∧ (true = true ∧ (1 : Nat) = (1 : Nat) ∧ contLe (1 : Nat) (1 : Nat) (cellsOf' encB [(118 : Int)]) (cellsOf' encB [(118 : Int)])) ∧ (0 : Int) = (0 : Int) ∧ (0 : Int) = (0 : Int) ∧ ByteArray.empty = ByteArray.empty ∧ (0 : Int) = (0 : Int) ∧ True) ∧ True) ∧ True ∧ DoR q0 (prC1 (1 : Int) kS) q0 { err := (0 : Int), off := (0 : Int), old := true, recs := [] : Res } ∧ (true = true → (true = true → (true = true → true = true ∧ True) ∧ (true = false → false = true ∧ True)) ∧ (true = false → false = true ∧ True)) ∧ (true = false → false = true ∧ True)
set_option maxRecDepth 1000000 in
theorem vcLv_eq (u : Unit) : (ctrVC Tryz.prog lvH 10 [] [] (boolR true)) = vcLv u := by kernel_rfl
theorem in_p0 : PartIn p0 := ⟨by decide, by decide, by decide, fun k hk => by cases hk⟩
theorem in_q0 : PartIn q0 := ⟨by decide, by decide, by decide, fun k hk => by
  have hk : k < 1 := hk
  obtain rfl : k = 0 := by omega
  decide⟩
theorem do_p0 : DoR p0 (prC1 1 kS) q0 ⟨0, 0, false, []⟩ := ⟨by kernel_rfl, by kernel_rfl, in_p0, by decide⟩
theorem do_q0 : DoR q0 (prC1 1 kS) q0 ⟨0, 0, true, []⟩ := ⟨by kernel_rfl, by kernel_rfl, in_q0, by decide⟩
theorem lv_c : (boolR true).Sat (ACall' Tryz.prog 10 [] []) := by
  refine ctr_vc (ht := lvH) Tryz.mixed rfl ?_
  rw [vcLv_eq ()]
  unfold vcLv
  have eb : ({ data := #[] } : ByteArray) = ByteArray.empty := rfl
  have ek : ({ data := #[107] } : ByteArray) = kS := rfl
  have h1 := do_p0
  have h2 := do_q0
  simp [eb, ek, h1, h2]
noncomputable def livC : Ctr Tryz.prog := ⟨10, [], [], boolR true, lv_c⟩
end Go.Proofs.YtnbhdjadlbhknaaGreatDoor.R

/-! Shards' states: a state that may be stays one: the conditions. -/
namespace Go.Proofs.YtnbhdjadlbhknaaGreatDoor.R
open Go.Ax
set_option maxRecDepth 1000000
def encCms (b : Bool) (l : List Cmd) : AV := .ys b 10 l.length (cellsOf' encCm l)
/-- the states one behind the other -/
def runP (p : Part) (l : List Cmd) (i : Nat) : Part := (l.take i).foldl dQ p
def stT (l : List Cmd) (i : Nat) : List AV := mkT 63 [(1, encCms true l), (2, .ptr 0 0 0 0), (5, .y (.bool true)), (6, .y (.int .i64 i))]
def stM (f : Nat → Part) (i : Nat) : List Blk := [.box 30 (encPt true (f i))]
end Go.Proofs.YtnbhdjadlbhknaaGreatDoor.R

/-! Shards' states: the examples: the conditions. -/
namespace Go.Proofs.YtnbhdjadlbhknaaGreatDoor.R
open Go.Ax
set_option maxRecDepth 1000000
def jS : ByteArray := ⟨#[106]⟩
def cS : ByteArray := ⟨#[99]⟩
def dS : ByteArray := ⟨#[100]⟩
def bS : ByteArray := ⟨#[98]⟩
def nB : Part := ⟨⟨ByteArray.empty, bS⟩, 1, 0, [], [], []⟩
def nC : Cmd := ⟨1, 1, 7, 1, kS, [118], 0, 0, ByteArray.empty, 0⟩
def nL : List Cmd := [⟨1, 1, 7, 1, kS, [118], 0, 0, ByteArray.empty, 0⟩, ⟨1, 1, 7, 1, kS, [118], 0, 0, ByteArray.empty, 0⟩, ⟨1, 2, 7, 1, kS, [118], 0, 0, ByteArray.empty, 0⟩, ⟨1, 1, 7, 3, jS, [118], 0, 0, ByteArray.empty, 0⟩, ⟨1, 1, 7, 2, jS, [118], 0, 0, ByteArray.empty, 0⟩, ⟨2, 1, 0, 0, ByteArray.empty, [], 0, 9, ByteArray.empty, 0⟩, ⟨2, 1, 0, 0, ByteArray.empty, [], 3, 1, ByteArray.empty, 0⟩, ⟨3, 1, 9, 1, ByteArray.empty, [], 2, 0, cS, 0⟩, ⟨3, 1, 9, 1, ByteArray.empty, [], 0, 0, cS, 0⟩, ⟨4, 1, 0, 0, ByteArray.empty, [], 0, 0, cS, 0⟩, ⟨4, 1, 0, 0, ByteArray.empty, [], 0, 0, dS, 0⟩, ⟨5, 1, 0, 0, ByteArray.empty, [], 0, 0, ByteArray.empty, 5⟩, ⟨5, 1, 0, 0, ByteArray.empty, [], 0, 0, ByteArray.empty, 5⟩, ⟨5, 1, 0, 0, ByteArray.empty, [], 0, 0, ByteArray.empty, 6⟩, ⟨2, 1, 0, 0, ByteArray.empty, [], 0, 1, ByteArray.empty, 0⟩, ⟨1, 1, 7, 3, jS, [118], 0, 0, ByteArray.empty, 0⟩, ⟨6, 1, 0, 0, ByteArray.empty, [], 0, 0, ByteArray.empty, 6⟩, ⟨6, 1, 0, 0, ByteArray.empty, [], 0, 0, ByteArray.empty, 5⟩, ⟨6, 1, 0, 0, ByteArray.empty, [], 0, 0, ByteArray.empty, 5⟩, ⟨7, 1, 0, 0, ByteArray.empty, [], 0, 0, ByteArray.empty, 0⟩]
def nE : List Int := [0, 0, 162, 0, 152, 0, 141, 0, 0, 0, 0, 0, 0, 164, 164, 0, 164, 0, 0, 161]
def nO : List Int := [0, 0, 0, 1, 0, 2, 0, 2, 0, 2, 0, 0, 0, 0, 0, 1, 0, 0, 0, 0]
def nD : List Bool := [false, true, false, false, false, false, false, false, true, true, false, false, true, false, false, true, false, false, true, false]
def encE1 (e : Int) : List AV := [.y (.int .i64 e)]
def encD1 (e : Bool) : List AV := [.y (.bool e)]
def naT (l : List Cmd) (e o : List Int) (d : List Bool) (k : Nat) : List AV := mkT 152 [(1, .y (.bool true)), (2, .ptr 0 0 0 0), (5, .ys true 10 20 (cellsOf' encCm l)), (6, .ys true 1 20 (cellsOf' encE1 e)), (7, .ys true 1 20 (cellsOf' encU o)), (8, .ys true 1 20 (cellsOf' encD1 d)), (9, .y (.int .i64 k))]
def naM (f : Nat → Part) (k : Nat) : List Blk := [.box 30 (encPt true (f k))]
def naX : List Nat := [0, 1, 2, 3, 4, 5, 6, 7, 8, 9]
def naS (l : List Cmd) (_ : Unit) : Exit × List AV × List Blk := (.exit 0, mkT 152 [(1, .y (.bool true)), (5, .ys true 10 20 (cellsOf' encCm l))], [])
noncomputable def naR (l : List Cmd) (f : Nat → Part) (x : Nat → Res) (k : Nat) : HintsT Tryz.prog := hh _ noLp (cs1 3 12 5 (doC true (f k) (l.getD k default) (f (k + 1)) (x k)) noCs) noOp
def vcNaL (l : List Cmd) (e : List Int) (o : List Int) (d : List Bool) (f : Nat → Part) (x : Nat → Res) (k : Nat) : Prop :=
  (decide ((↑k : Int) < (20 : Int)) = true → (true && decide ((↑k : Int) < (20 : Int))) = true ∧ (((f k).rng.lo = (f k).rng.lo ∧ (f k).rng.hi = (f k).rng.hi ∧ (f k).epoch = (f k).epoch ∧ (f k).frozen = (f k).frozen ∧ (true = true ∧ List.length (f k).recs = List.length (f k).recs ∧ contLe (List.length (f k).recs) (5 : Nat) (cellsOf' encR (f k).recs) (cellsOf' encR (f k).recs)) ∧ (true = true ∧ List.length (f k).prods = List.length (f k).prods ∧ contLe (List.length (f k).prods) (4 : Nat) (cellsOf' P.encP (f k).prods) (cellsOf' P.encP (f k).prods)) ∧ (true = true ∧ List.length (f k).cons = List.length (f k).cons ∧ contLe (List.length (f k).cons) (2 : Nat) (cellsOf' encC (f k).cons) (cellsOf' encC (f k).cons)) ∧ True) ∧ ((List.getD l (Int.toNat (↑k : Int)) (@default Cmd instInhabitedCmd)).kind = (List.getD l k (@default Cmd instInhabitedCmd)).kind ∧ (List.getD l (Int.toNat (↑k : Int)) (@default Cmd instInhabitedCmd)).epoch = (List.getD l k (@default Cmd instInhabitedCmd)).epoch ∧ (List.getD l (Int.toNat (↑k : Int)) (@default Cmd instInhabitedCmd)).prod = (List.getD l k (@default Cmd instInhabitedCmd)).prod ∧ (List.getD l (Int.toNat (↑k : Int)) (@default Cmd instInhabitedCmd)).seq = (List.getD l k (@default Cmd instInhabitedCmd)).seq ∧ (List.getD l (Int.toNat (↑k : Int)) (@default Cmd instInhabitedCmd)).key = (List.getD l k (@default Cmd instInhabitedCmd)).key ∧ (true = true ∧ List.length (List.getD l (Int.toNat (↑k : Int)) (@default Cmd instInhabitedCmd)).val = List.length (List.getD l k (@default Cmd instInhabitedCmd)).val ∧ contLe (List.length (List.getD l (Int.toNat (↑k : Int)) (@default Cmd instInhabitedCmd)).val) (1 : Nat) (cellsOf' encB (List.getD l (Int.toNat (↑k : Int)) (@default Cmd instInhabitedCmd)).val) (cellsOf' encB (List.getD l k (@default Cmd instInhabitedCmd)).val)) ∧ (List.getD l (Int.toNat (↑k : Int)) (@default Cmd instInhabitedCmd)).off = (List.getD l k (@default Cmd instInhabitedCmd)).off ∧ (List.getD l (Int.toNat (↑k : Int)) (@default Cmd instInhabitedCmd)).most = (List.getD l k (@default Cmd instInhabitedCmd)).most ∧ (List.getD l (Int.toNat (↑k : Int)) (@default Cmd instInhabitedCmd)).name = (List.getD l k (@default Cmd instInhabitedCmd)).name ∧ (List.getD l (Int.toNat (↑k : Int)) (@default Cmd instInhabitedCmd)).plan = (List.getD l k (@default Cmd instInhabitedCmd)).plan ∧ True) ∧ True) ∧ True ∧ DoR (f k) (List.getD l k (@default Cmd instInhabitedCmd)) (f (k + (1 : Nat))) (x k) ∧ (true && decide ((↑k : Int) < (20 : Int))) = true ∧ (((x k).err != List.getD e (Int.toNat (↑k : Int)) (0 : Int)) = true → False) ∧ (((x k).err != List.getD e (Int.toNat (↑k : Int)) (0 : Int)) = false → (true && decide ((↑k : Int) < (20 : Int))) = true ∧ (((x k).off != List.getD o (Int.toNat (↑k : Int)) (0 : Int)) = true → False) ∧ (((x k).off != List.getD o (Int.toNat (↑k : Int)) (0 : Int)) = false → (true && decide ((↑k : Int) < (20 : Int))) = true ∧ ((!(x k).old == List.getD d (Int.toNat (↑k : Int)) false) = true → False) ∧ ((!(x k).old == List.getD d (Int.toNat (↑k : Int)) false) = false → (((↑(List.length (x k).recs) : Int) != (0 : Int)) = true → (((↑k : Int) != (5 : Int)) = true → False) ∧ (((↑k : Int) != (5 : Int)) = false → (((↑k : Int) == (5 : Int)) = true → (((↑(List.length (x k).recs) : Int) != (2 : Int)) = true → False) ∧ (((↑(List.length (x k).recs) : Int) != (2 : Int)) = false → ∃ (j : Nat), (20 : Nat) - j < (20 : Nat) - k ∧ ((true = true ∧ ((0 : Nat) = (0 : Nat) ∧ (0 : Nat) = (0 : Nat)) ∧ (true = true ∧ (20 : Nat) = (20 : Nat) ∧ contLe (20 : Nat) (10 : Nat) (cellsOf' encCm l) (cellsOf' encCm l)) ∧ (true = true ∧ (20 : Nat) = (20 : Nat) ∧ contLe (20 : Nat) (1 : Nat) (cellsOf' encE1 e) (cellsOf' encE1 e)) ∧ (true = true ∧ (20 : Nat) = (20 : Nat) ∧ contLe (20 : Nat) (1 : Nat) (cellsOf' encU o) (cellsOf' encU o)) ∧ (true = true ∧ (20 : Nat) = (20 : Nat) ∧ contLe (20 : Nat) (1 : Nat) (cellsOf' encD1 d) (cellsOf' encD1 d)) ∧ IntKind.wrap IntKind.i64 ((↑k : Int) + (1 : Int)) = (↑j : Int) ∧ True) ∧ (((f (k + (1 : Nat))).rng.lo = (f j).rng.lo ∧ (f (k + (1 : Nat))).rng.hi = (f j).rng.hi ∧ (f (k + (1 : Nat))).epoch = (f j).epoch ∧ (f (k + (1 : Nat))).frozen = (f j).frozen ∧ (true = true ∧ List.length (f (k + (1 : Nat))).recs = List.length (f j).recs ∧ contLe (List.length (f (k + (1 : Nat))).recs) (5 : Nat) (cellsOf' encR (f (k + (1 : Nat))).recs) (cellsOf' encR (f j).recs)) ∧ (true = true ∧ List.length (f (k + (1 : Nat))).prods = List.length (f j).prods ∧ contLe (List.length (f (k + (1 : Nat))).prods) (4 : Nat) (cellsOf' P.encP (f (k + (1 : Nat))).prods) (cellsOf' P.encP (f j).prods)) ∧ (true = true ∧ List.length (f (k + (1 : Nat))).cons = List.length (f j).cons ∧ contLe (List.length (f (k + (1 : Nat))).cons) (2 : Nat) (cellsOf' encC (f (k + (1 : Nat))).cons) (cellsOf' encC (f j).cons)) ∧ True) ∧ True) ∧ true = true) ∧ true = true ∧ () = ())) ∧ (((↑k : Int) == (5 : Int)) = false → ∃ (j : Nat), (20 : Nat) - j < (20 : Nat) - k ∧ ((true = true ∧ ((0 : Nat) = (0 : Nat) ∧ (0 : Nat) = (0 : Nat)) ∧ (true = true ∧ (20 : Nat) = (20 : Nat) ∧ contLe (20 : Nat) (10 : Nat) (cellsOf' encCm l) (cellsOf' encCm l)) ∧ (true = true ∧ (20 : Nat) = (20 : Nat) ∧ contLe (20 : Nat) (1 : Nat) (cellsOf' encE1 e) (cellsOf' encE1 e)) ∧ (true = true ∧ (20 : Nat) = (20 : Nat) ∧ contLe (20 : Nat) (1 : Nat) (cellsOf' encU o) (cellsOf' encU o)) ∧ (true = true ∧ (20 : Nat) = (20 : Nat) ∧ contLe (20 : Nat) (1 : Nat) (cellsOf' encD1 d) (cellsOf' encD1 d)) ∧ IntKind.wrap IntKind.i64 ((↑k : Int) + (1 : Int)) = (↑j : Int) ∧ True) ∧ (((f (k + (1 : Nat))).rng.lo = (f j).rng.lo ∧ (f (k + (1 : Nat))).rng.hi = (f j).rng.hi ∧ (f (k + (1 : Nat))).epoch = (f j).epoch ∧ (f (k + (1 : Nat))).frozen = (f j).frozen ∧ (true = true ∧ List.length (f (k + (1 : Nat))).recs = List.length (f j).recs ∧ contLe (List.length (f (k + (1 : Nat))).recs) (5 : Nat) (cellsOf' encR (f (k + (1 : Nat))).recs) (cellsOf' encR (f j).recs)) ∧ (true = true ∧ List.length (f (k + (1 : Nat))).prods = List.length (f j).prods ∧ contLe (List.length (f (k + (1 : Nat))).prods) (4 : Nat) (cellsOf' P.encP (f (k + (1 : Nat))).prods) (cellsOf' P.encP (f j).prods)) ∧ (true = true ∧ List.length (f (k + (1 : Nat))).cons = List.length (f j).cons ∧ contLe (List.length (f (k + (1 : Nat))).cons) (2 : Nat) (cellsOf' encC (f (k + (1 : Nat))).cons) (cellsOf' encC (f j).cons)) ∧ True) ∧ True) ∧ true = true) ∧ true = true ∧ () = ()))) ∧ (((↑(List.length (x k).recs) : Int) != (0 : Int)) = false → (((↑k : Int) == (5 : Int)) = true → (((↑(List.length (x k).recs) : Int) != (2 : Int)) = true → False) ∧ (((↑(List.length (x k).recs) : Int) != (2 : Int)) = false → ∃ (j : Nat), (20 : Nat) - j < (20 : Nat) - k ∧ ((true = true ∧ ((0 : Nat) = (0 : Nat) ∧ (0 : Nat) = (0 : Nat)) ∧ (true = true ∧ (20 : Nat) = (20 : Nat) ∧ contLe (20 : Nat) (10 : Nat) (cellsOf' encCm l) (cellsOf' encCm l)) ∧ (true = true ∧ (20 : Nat) = (20 : Nat) ∧ contLe (20 : Nat) (1 : Nat) (cellsOf' encE1 e) (cellsOf' encE1 e)) ∧ (true = true ∧ (20 : Nat) = (20 : Nat) ∧ contLe (20 : Nat) (1 : Nat) (cellsOf' encU o) (cellsOf' encU o)) ∧ (true = true ∧ (20 : Nat) = (20 : Nat) ∧ contLe (20 : Nat) (1 : Nat) (cellsOf' encD1 d) (cellsOf' encD1 d)) ∧ IntKind.wrap IntKind.i64 ((↑k : Int) + (1 : Int)) = (↑j : Int) ∧ True) ∧ (((f (k + (1 : Nat))).rng.lo = (f j).rng.lo ∧ (f (k + (1 : Nat))).rng.hi = (f j).rng.hi ∧ (f (k + (1 : Nat))).epoch = (f j).epoch ∧ (f (k + (1 : Nat))).frozen = (f j).frozen ∧ (true = true ∧ List.length (f (k + (1 : Nat))).recs = List.length (f j).recs ∧ contLe (List.length (f (k + (1 : Nat))).recs) (5 : Nat) (cellsOf' encR (f (k + (1 : Nat))).recs) (cellsOf' encR (f j).recs)) ∧ (true = true ∧ List.length (f (k + (1 : Nat))).prods = List.length (f j).prods ∧ contLe (List.length (f (k + (1 : Nat))).prods) (4 : Nat) (cellsOf' P.encP (f (k + (1 : Nat))).prods) (cellsOf' P.encP (f j).prods)) ∧ (true = true ∧ List.length (f (k + (1 : Nat))).cons = List.length (f j).cons ∧ contLe (List.length (f (k + (1 : Nat))).cons) (2 : Nat) (cellsOf' encC (f (k + (1 : Nat))).cons) (cellsOf' encC (f j).cons)) ∧ True) ∧ True) ∧ true = true) ∧ true = true ∧ () = ())) ∧ (((↑k : Int) == (5 : Int)) = false → ∃ (j : Nat), (20 : Nat) - j < (20 : Nat) - k ∧ ((true = true ∧ ((0 : Nat) = (0 : Nat) ∧ (0 : Nat) = (0 : Nat)) ∧ (true = true ∧ (20 : Nat) = (20 : Nat) ∧ contLe (20 : Nat) (10 : Nat) (cellsOf' encCm l) (cellsOf' encCm l)) ∧ (true = true ∧ (20 : Nat) = (20 : Nat) ∧ contLe (20 : Nat) (1 : Nat) (cellsOf' encE1 e) (cellsOf' encE1 e)) ∧ (true = true ∧ (20 : Nat) = (20 : Nat) ∧ contLe (20 : Nat) (1 : Nat) (cellsOf' encU o) (cellsOf' encU o)) ∧ (true = true ∧ (20 : Nat) = (20 : Nat) ∧ contLe (20 : Nat) (1 : Nat) (cellsOf' encD1 d) (cellsOf' encD1 d)) ∧ IntKind.wrap IntKind.i64 ((↑k : Int) + (1 : Int)) = (↑j : Int) ∧ True) ∧ (((f (k + (1 : Nat))).rng.lo = (f j).rng.lo ∧ (f (k + (1 : Nat))).rng.hi = (f j).rng.hi ∧ (f (k + (1 : Nat))).epoch = (f j).epoch ∧ (f (k + (1 : Nat))).frozen = (f j).frozen ∧ (true = true ∧ List.length (f (k + (1 : Nat))).recs = List.length (f j).recs ∧ contLe (List.length (f (k + (1 : Nat))).recs) (5 : Nat) (cellsOf' encR (f (k + (1 : Nat))).recs) (cellsOf' encR (f j).recs)) ∧ (true = true ∧ List.length (f (k + (1 : Nat))).prods = List.length (f j).prods ∧ contLe (List.length (f (k + (1 : Nat))).prods) (4 : Nat) (cellsOf' P.encP (f (k + (1 : Nat))).prods) (cellsOf' P.encP (f j).prods)) ∧ (true = true ∧ List.length (f (k + (1 : Nat))).cons = List.length (f j).cons ∧ contLe (List.length (f (k + (1 : Nat))).cons) (2 : Nat) (cellsOf' encC (f (k + (1 : Nat))).cons) (cellsOf' encC (f j).cons)) ∧ True) ∧ True) ∧ true = true) ∧ true = true ∧ () = ())))))) ∧ (decide ((↑k : Int) < (20 : Int)) = false → (true = true ∧ (true = true ∧ (20 : Nat) = (20 : Nat) ∧ contLe (20 : Nat) (10 : Nat) (cellsOf' encCm l) (cellsOf' encCm l)) ∧ True) ∧ True ∧ true = true)
set_option maxRecDepth 1000000 in
theorem vcNaL_eq (l : List Cmd) (e : List Int) (o : List Int) (d : List Bool) (f : Nat → Part) (x : Nat → Res) (k : Nat) : (loopVC Tryz.prog (naR l f x k) 3 10 (fun k => 20 - k) (naT l e o d) (naM f) naX (fun _ => .ret ()) (naS l) k) = vcNaL l e o d f x k := by kernel_rfl
noncomputable def naH (l : List Cmd) (e o : List Int) (d : List Bool) (f : Nat → Part) : HintsT Tryz.prog := withSh (hh _ (lp1 3 10 (jobOf (naT l e o d) (naM f) naX (fun _ => .ret ()) (naS l) 0) noLp) (cs1 3 1 0 livC (cs1 3 3 0 (proC 1 kS) (cs1 3 5 0 (proC 1 kS) (cs1 3 5 1 (proC 1 kS) (cs1 3 5 3 (proC 3 jS) (cs1 3 5 4 (proC 2 jS) (cs1 3 5 15 (proC 3 jS) (cs1 3 16 4 (doC true default (l.getD 0 default) default ⟨165, 0, false, []⟩) (cs1 3 19 1 (proC 1 kS) (cs1 3 19 2 (doC true nB nC nB ⟨163, 0, false, []⟩) noCs)))))))))) noOp) (sh1 3 5 21 779 (sh1 3 6 1 779 (sh1 3 7 1 779 (sh1 3 8 1 779 noSh))))
def vcNa (l : List Cmd) (e : List Int) (o : List Int) (d : List Bool) (f : Nat → Part) : Prop :=
  True ∧ True ∧ ((1 : Int) = (1 : Int) ∧ { data := #[(107 : UInt8)] : ByteArray } = kS ∧ True) ∧ True ∧ ((1 : Int) = (1 : Int) ∧ { data := #[(107 : UInt8)] : ByteArray } = kS ∧ True) ∧ True ∧ ((1 : Int) = (1 : Int) ∧ { data := #[(107 : UInt8)] : ByteArray } = kS ∧ True) ∧ True ∧ ((3 : Int) = (3 : Int) ∧ { data := #[(106 : UInt8)] : ByteArray } = jS ∧ True) ∧ True ∧ ((2 : Int) = (2 : Int) ∧ { data := #[(106 : UInt8)] : ByteArray } = jS ∧ True) ∧ True ∧ ((3 : Int) = (3 : Int) ∧ { data := #[(106 : UInt8)] : ByteArray } = jS ∧ True) ∧ True ∧ ((true = true ∧ ((0 : Nat) = (0 : Nat) ∧ (0 : Nat) = (0 : Nat)) ∧ (true = true ∧ (20 : Nat) = (20 : Nat) ∧ contLe (20 : Nat) (10 : Nat) (Ax.rowAt (0 : Nat) fun (k j : Nat) => Ax.get [AV.y (Value.int IntKind.i64 (1 : Int)), AV.y (Value.int IntKind.u64 (1 : Int)), AV.y (Value.int IntKind.u64 (7 : Int)), AV.y (Value.int IntKind.u64 (1 : Int)), AV.y (Value.string kS), AV.ys true (1 : Nat) (1 : Nat) (cellsOf' encB [(118 : Int)]), AV.y (Value.int IntKind.u64 (0 : Int)), AV.y (Value.int IntKind.i64 (0 : Int)), AV.y (Value.string ByteArray.empty), AV.y (Value.int IntKind.u64 (0 : Int)), AV.y (Value.int IntKind.i64 (1 : Int)), AV.y (Value.int IntKind.u64 (1 : Int)), AV.y (Value.int IntKind.u64 (7 : Int)), AV.y (Value.int IntKind.u64 (1 : Int)), AV.y (Value.string kS), AV.ys true (1 : Nat) (1 : Nat) (cellsOf' encB [(118 : Int)]), AV.y (Value.int IntKind.u64 (0 : Int)), AV.y (Value.int IntKind.i64 (0 : Int)), AV.y (Value.string ByteArray.empty), AV.y (Value.int IntKind.u64 (0 : Int)), AV.y (Value.int IntKind.i64 (1 : Int)), AV.s (Value.int IntKind.u64 (2 : Int)), AV.y (Value.int IntKind.u64 (7 : Int)), AV.y (Value.int IntKind.u64 (1 : Int)), AV.y (Value.string kS), AV.ys true (1 : Nat) (1 : Nat) (cellsOf' encB [(118 : Int)]), AV.y (Value.int IntKind.u64 (0 : Int)), AV.y (Value.int IntKind.i64 (0 : Int)), AV.y (Value.string ByteArray.empty), AV.y (Value.int IntKind.u64 (0 : Int)), AV.y (Value.int IntKind.i64 (1 : Int)), AV.y (Value.int IntKind.u64 (1 : Int)), AV.y (Value.int IntKind.u64 (7 : Int)), AV.y (Value.int IntKind.u64 (3 : Int)), AV.y (Value.string jS), AV.ys true (1 : Nat) (1 : Nat) (cellsOf' encB [(118 : Int)]), AV.y (Value.int IntKind.u64 (0 : Int)), AV.y (Value.int IntKind.i64 (0 : Int)), AV.y (Value.string ByteArray.empty), AV.y (Value.int IntKind.u64 (0 : Int)), AV.y (Value.int IntKind.i64 (1 : Int)), AV.y (Value.int IntKind.u64 (1 : Int)), AV.y (Value.int IntKind.u64 (7 : Int)), AV.y (Value.int IntKind.u64 (2 : Int)), AV.y (Value.string jS), AV.ys true (1 : Nat) (1 : Nat) (cellsOf' encB [(118 : Int)]), AV.y (Value.int IntKind.u64 (0 : Int)), AV.y (Value.int IntKind.i64 (0 : Int)), AV.y (Value.string ByteArray.empty), AV.y (Value.int IntKind.u64 (0 : Int)), AV.s (Value.int IntKind.i64 (2 : Int)), AV.s (Value.int IntKind.u64 (1 : Int)), AV.s (Value.int IntKind.u64 (0 : Int)), AV.s (Value.int IntKind.u64 (0 : Int)), AV.s (Value.string { data := #[] : ByteArray }), AV.s (Value.slice none (0 : Nat) (0 : Nat)), AV.s (Value.int IntKind.u64 (0 : Int)), AV.s (Value.int IntKind.i64 (9 : Int)), AV.s (Value.string { data := #[] : ByteArray }), AV.s (Value.int IntKind.u64 (0 : Int)), AV.s (Value.int IntKind.i64 (2 : Int)), AV.s (Value.int IntKind.u64 (1 : Int)), AV.s (Value.int IntKind.u64 (0 : Int)), AV.s (Value.int IntKind.u64 (0 : Int)), AV.s (Value.string { data := #[] : ByteArray }), AV.s (Value.slice none (0 : Nat) (0 : Nat)), AV.s (Value.int IntKind.u64 (3 : Int)), AV.s (Value.int IntKind.i64 (1 : Int)), AV.s (Value.string { data := #[] : ByteArray }), AV.s (Value.int IntKind.u64 (0 : Int)), AV.s (Value.int IntKind.i64 (3 : Int)), AV.s (Value.int IntKind.u64 (1 : Int)), AV.s (Value.int IntKind.u64 (9 : Int)), AV.s (Value.int IntKind.u64 (1 : Int)), AV.s (Value.string { data := #[] : ByteArray }), AV.s (Value.slice none (0 : Nat) (0 : Nat)), AV.s (Value.int IntKind.u64 (2 : Int)), AV.s (Value.int IntKind.i64 (0 : Int)), AV.s (Value.string { data := #[(99 : UInt8)] : ByteArray }), AV.s (Value.int IntKind.u64 (0 : Int)), AV.s (Value.int IntKind.i64 (3 : Int)), AV.s (Value.int IntKind.u64 (1 : Int)), AV.s (Value.int IntKind.u64 (9 : Int)), AV.s (Value.int IntKind.u64 (1 : Int)), AV.s (Value.string { data := #[] : ByteArray }), AV.s (Value.slice none (0 : Nat) (0 : Nat)), AV.s (Value.int IntKind.u64 (0 : Int)), AV.s (Value.int IntKind.i64 (0 : Int)), AV.s (Value.string { data := #[(99 : UInt8)] : ByteArray }), AV.s (Value.int IntKind.u64 (0 : Int)), AV.s (Value.int IntKind.i64 (4 : Int)), AV.s (Value.int IntKind.u64 (1 : Int)), AV.s (Value.int IntKind.u64 (0 : Int)), AV.s (Value.int IntKind.u64 (0 : Int)), AV.s (Value.string { data := #[] : ByteArray }), AV.s (Value.slice none (0 : Nat) (0 : Nat)), AV.s (Value.int IntKind.u64 (0 : Int)), AV.s (Value.int IntKind.i64 (0 : Int)), AV.s (Value.string { data := #[(99 : UInt8)] : ByteArray }), AV.s (Value.int IntKind.u64 (0 : Int)), AV.s (Value.int IntKind.i64 (4 : Int)), AV.s (Value.int IntKind.u64 (1 : Int)), AV.s (Value.int IntKind.u64 (0 : Int)), AV.s (Value.int IntKind.u64 (0 : Int)), AV.s (Value.string { data := #[] : ByteArray }), AV.s (Value.slice none (0 : Nat) (0 : Nat)), AV.s (Value.int IntKind.u64 (0 : Int)), AV.s (Value.int IntKind.i64 (0 : Int)), AV.s (Value.string { data := #[(100 : UInt8)] : ByteArray }), AV.s (Value.int IntKind.u64 (0 : Int)), AV.s (Value.int IntKind.i64 (5 : Int)), AV.s (Value.int IntKind.u64 (1 : Int)), AV.s (Value.int IntKind.u64 (0 : Int)), AV.s (Value.int IntKind.u64 (0 : Int)), AV.s (Value.string { data := #[] : ByteArray }), AV.s (Value.slice none (0 : Nat) (0 : Nat)), AV.s (Value.int IntKind.u64 (0 : Int)), AV.s (Value.int IntKind.i64 (0 : Int)), AV.s (Value.string { data := #[] : ByteArray }), AV.s (Value.int IntKind.u64 (5 : Int)), AV.s (Value.int IntKind.i64 (5 : Int)), AV.s (Value.int IntKind.u64 (1 : Int)), AV.s (Value.int IntKind.u64 (0 : Int)), AV.s (Value.int IntKind.u64 (0 : Int)), AV.s (Value.string { data := #[] : ByteArray }), AV.s (Value.slice none (0 : Nat) (0 : Nat)), AV.s (Value.int IntKind.u64 (0 : Int)), AV.s (Value.int IntKind.i64 (0 : Int)), AV.s (Value.string { data := #[] : ByteArray }), AV.s (Value.int IntKind.u64 (5 : Int)), AV.s (Value.int IntKind.i64 (5 : Int)), AV.s (Value.int IntKind.u64 (1 : Int)), AV.s (Value.int IntKind.u64 (0 : Int)), AV.s (Value.int IntKind.u64 (0 : Int)), AV.s (Value.string { data := #[] : ByteArray }), AV.s (Value.slice none (0 : Nat) (0 : Nat)), AV.s (Value.int IntKind.u64 (0 : Int)), AV.s (Value.int IntKind.i64 (0 : Int)), AV.s (Value.string { data := #[] : ByteArray }), AV.s (Value.int IntKind.u64 (6 : Int)), AV.s (Value.int IntKind.i64 (2 : Int)), AV.s (Value.int IntKind.u64 (1 : Int)), AV.s (Value.int IntKind.u64 (0 : Int)), AV.s (Value.int IntKind.u64 (0 : Int)), AV.s (Value.string { data := #[] : ByteArray }), AV.s (Value.slice none (0 : Nat) (0 : Nat)), AV.s (Value.int IntKind.u64 (0 : Int)), AV.s (Value.int IntKind.i64 (1 : Int)), AV.s (Value.string { data := #[] : ByteArray }), AV.s (Value.int IntKind.u64 (0 : Int)), AV.y (Value.int IntKind.i64 (1 : Int)), AV.y (Value.int IntKind.u64 (1 : Int)), AV.y (Value.int IntKind.u64 (7 : Int)), AV.y (Value.int IntKind.u64 (3 : Int)), AV.y (Value.string jS), AV.ys true (1 : Nat) (1 : Nat) (cellsOf' encB [(118 : Int)]), AV.y (Value.int IntKind.u64 (0 : Int)), AV.y (Value.int IntKind.i64 (0 : Int)), AV.y (Value.string ByteArray.empty), AV.y (Value.int IntKind.u64 (0 : Int)), AV.s (Value.int IntKind.i64 (6 : Int)), AV.s (Value.int IntKind.u64 (1 : Int)), AV.s (Value.int IntKind.u64 (0 : Int)), AV.s (Value.int IntKind.u64 (0 : Int)), AV.s (Value.string { data := #[] : ByteArray }), AV.s (Value.slice none (0 : Nat) (0 : Nat)), AV.s (Value.int IntKind.u64 (0 : Int)), AV.s (Value.int IntKind.i64 (0 : Int)), AV.s (Value.string { data := #[] : ByteArray }), AV.s (Value.int IntKind.u64 (6 : Int)), AV.s (Value.int IntKind.i64 (6 : Int)), AV.s (Value.int IntKind.u64 (1 : Int)), AV.s (Value.int IntKind.u64 (0 : Int)), AV.s (Value.int IntKind.u64 (0 : Int)), AV.s (Value.string { data := #[] : ByteArray }), AV.s (Value.slice none (0 : Nat) (0 : Nat)), AV.s (Value.int IntKind.u64 (0 : Int)), AV.s (Value.int IntKind.i64 (0 : Int)), AV.s (Value.string { data := #[] : ByteArray }), AV.s (Value.int IntKind.u64 (5 : Int)), AV.s (Value.int IntKind.i64 (6 : Int)), AV.s (Value.int IntKind.u64 (1 : Int)), AV.s (Value.int IntKind.u64 (0 : Int)), AV.s (Value.int IntKind.u64 (0 : Int)), AV.s (Value.string { data := #[] : ByteArray }), AV.s (Value.slice none (0 : Nat) (0 : Nat)), AV.s (Value.int IntKind.u64 (0 : Int)), AV.s (Value.int IntKind.i64 (0 : Int)), AV.s (Value.string { data := #[] : ByteArray }), AV.s (Value.int IntKind.u64 (5 : Int)), AV.s (Value.int IntKind.i64 (7 : Int)), AV.s (Value.int IntKind.u64 (1 : Int)), AV.s (Value.int IntKind.u64 (0 : Int)), AV.s (Value.int IntKind.u64 (0 : Int)), AV.s (Value.string { data := #[] : ByteArray }), AV.s (Value.slice none (0 : Nat) (0 : Nat)), AV.s (Value.int IntKind.u64 (0 : Int)), AV.s (Value.int IntKind.i64 (0 : Int)), AV.s (Value.string { data := #[] : ByteArray }), AV.s (Value.int IntKind.u64 (0 : Int))] (k * (10 : Nat) + j)) (cellsOf' encCm l)) ∧ (true = true ∧ (20 : Nat) = (20 : Nat) ∧ contLe (20 : Nat) (1 : Nat) (Ax.rowAt (0 : Nat) fun (k j : Nat) => Ax.get [AV.s (Value.int IntKind.i64 (0 : Int)), AV.s (Value.int IntKind.i64 (0 : Int)), AV.s (Value.int IntKind.i64 (162 : Int)), AV.s (Value.int IntKind.i64 (0 : Int)), AV.s (Value.int IntKind.i64 (152 : Int)), AV.s (Value.int IntKind.i64 (0 : Int)), AV.s (Value.int IntKind.i64 (141 : Int)), AV.s (Value.int IntKind.i64 (0 : Int)), AV.s (Value.int IntKind.i64 (0 : Int)), AV.s (Value.int IntKind.i64 (0 : Int)), AV.s (Value.int IntKind.i64 (0 : Int)), AV.s (Value.int IntKind.i64 (0 : Int)), AV.s (Value.int IntKind.i64 (0 : Int)), AV.s (Value.int IntKind.i64 (164 : Int)), AV.s (Value.int IntKind.i64 (164 : Int)), AV.s (Value.int IntKind.i64 (0 : Int)), AV.s (Value.int IntKind.i64 (164 : Int)), AV.s (Value.int IntKind.i64 (0 : Int)), AV.s (Value.int IntKind.i64 (0 : Int)), AV.s (Value.int IntKind.i64 (161 : Int))] (k * (1 : Nat) + j)) (cellsOf' encE1 e)) ∧ (true = true ∧ (20 : Nat) = (20 : Nat) ∧ contLe (20 : Nat) (1 : Nat) (Ax.rowAt (0 : Nat) fun (k j : Nat) => Ax.get [AV.s (Value.int IntKind.u64 (0 : Int)), AV.s (Value.int IntKind.u64 (0 : Int)), AV.s (Value.int IntKind.u64 (0 : Int)), AV.s (Value.int IntKind.u64 (1 : Int)), AV.s (Value.int IntKind.u64 (0 : Int)), AV.s (Value.int IntKind.u64 (2 : Int)), AV.s (Value.int IntKind.u64 (0 : Int)), AV.s (Value.int IntKind.u64 (2 : Int)), AV.s (Value.int IntKind.u64 (0 : Int)), AV.s (Value.int IntKind.u64 (2 : Int)), AV.s (Value.int IntKind.u64 (0 : Int)), AV.s (Value.int IntKind.u64 (0 : Int)), AV.s (Value.int IntKind.u64 (0 : Int)), AV.s (Value.int IntKind.u64 (0 : Int)), AV.s (Value.int IntKind.u64 (0 : Int)), AV.s (Value.int IntKind.u64 (1 : Int)), AV.s (Value.int IntKind.u64 (0 : Int)), AV.s (Value.int IntKind.u64 (0 : Int)), AV.s (Value.int IntKind.u64 (0 : Int)), AV.s (Value.int IntKind.u64 (0 : Int))] (k * (1 : Nat) + j)) (cellsOf' encU o)) ∧ (true = true ∧ (20 : Nat) = (20 : Nat) ∧ contLe (20 : Nat) (1 : Nat) (Ax.rowAt (0 : Nat) fun (k j : Nat) => Ax.get [AV.s (Value.bool false), AV.s (Value.bool true), AV.s (Value.bool false), AV.s (Value.bool false), AV.s (Value.bool false), AV.s (Value.bool false), AV.s (Value.bool false), AV.s (Value.bool false), AV.s (Value.bool true), AV.s (Value.bool true), AV.s (Value.bool false), AV.s (Value.bool false), AV.s (Value.bool true), AV.s (Value.bool false), AV.s (Value.bool false), AV.s (Value.bool true), AV.s (Value.bool false), AV.s (Value.bool false), AV.s (Value.bool true), AV.s (Value.bool false)] (k * (1 : Nat) + j)) (cellsOf' encD1 d)) ∧ (0 : Int) = (0 : Int) ∧ True) ∧ (({ data := #[] : ByteArray } = (f (0 : Nat)).rng.lo ∧ { data := #[] : ByteArray } = (f (0 : Nat)).rng.hi ∧ (1 : Int) = (f (0 : Nat)).epoch ∧ (0 : Int) = (f (0 : Nat)).frozen ∧ List.length (f (0 : Nat)).recs = (0 : Nat) ∧ List.length (f (0 : Nat)).prods = (0 : Nat) ∧ List.length (f (0 : Nat)).cons = (0 : Nat) ∧ True) ∧ True) ∧ true = true) ∧ LoopOk Tryz.prog (3 : Nat) (10 : Nat) (loopAt Tryz.prog (3 : Nat) (10 : Nat)) { t := naT l e o d (0 : Nat), m := naM f (0 : Nat), mv := [] : St } (T.map (lout naX (naS l)) ((fun (x : Nat) => T.ret ()) (0 : Nat))) ∧ true = true ∧ (({ data := #[] : ByteArray } = ByteArray.empty ∧ { data := #[] : ByteArray } = ByteArray.empty ∧ (0 : Int) = (0 : Int) ∧ (0 : Int) = (0 : Int) ∧ (0 : Nat) = (0 : Nat) ∧ (0 : Nat) = (0 : Nat) ∧ (0 : Nat) = (0 : Nat) ∧ True) ∧ ((List.getD l (0 : Nat) (@default Cmd instInhabitedCmd)).kind = (List.getD l (0 : Nat) (@default Cmd instInhabitedCmd)).kind ∧ (List.getD l (0 : Nat) (@default Cmd instInhabitedCmd)).epoch = (List.getD l (0 : Nat) (@default Cmd instInhabitedCmd)).epoch ∧ (List.getD l (0 : Nat) (@default Cmd instInhabitedCmd)).prod = (List.getD l (0 : Nat) (@default Cmd instInhabitedCmd)).prod ∧ (List.getD l (0 : Nat) (@default Cmd instInhabitedCmd)).seq = (List.getD l (0 : Nat) (@default Cmd instInhabitedCmd)).seq ∧ (List.getD l (0 : Nat) (@default Cmd instInhabitedCmd)).key = (List.getD l (0 : Nat) (@default Cmd instInhabitedCmd)).key ∧ (true = true ∧ List.length (List.getD l (0 : Nat) (@default Cmd instInhabitedCmd)).val = List.length (List.getD l (0 : Nat) (@default Cmd instInhabitedCmd)).val ∧ contLe (List.length (List.getD l (0 : Nat) (@default Cmd instInhabitedCmd)).val) (1 : Nat) (cellsOf' encB (List.getD l (0 : Nat) (@default Cmd instInhabitedCmd)).val) (cellsOf' encB (List.getD l (0 : Nat) (@default Cmd instInhabitedCmd)).val)) ∧ (List.getD l (0 : Nat) (@default Cmd instInhabitedCmd)).off = (List.getD l (0 : Nat) (@default Cmd instInhabitedCmd)).off ∧ (List.getD l (0 : Nat) (@default Cmd instInhabitedCmd)).most = (List.getD l (0 : Nat) (@default Cmd instInhabitedCmd)).most ∧ (List.getD l (0 : Nat) (@default Cmd instInhabitedCmd)).name = (List.getD l (0 : Nat) (@default Cmd instInhabitedCmd)).name ∧ (List.getD l (0 : Nat) (@default Cmd instInhabitedCmd)).plan = (List.getD l (0 : Nat) (@default Cmd instInhabitedCmd)).plan ∧ True) ∧ True) ∧ True ∧ DoR (@default Part instInhabitedPart) (List.getD l (0 : Nat) (@default Cmd instInhabitedCmd)) (@default Part instInhabitedPart) { err := (165 : Int), off := (0 : Int), old := false, recs := [] : Res } ∧ ((1 : Int) = (1 : Int) ∧ { data := #[(107 : UInt8)] : ByteArray } = kS ∧ True) ∧ True ∧ (({ data := #[] : ByteArray } = ByteArray.empty ∧ { data := #[(98 : UInt8)] : ByteArray } = bS ∧ (1 : Int) = (1 : Int) ∧ (0 : Int) = (0 : Int) ∧ (0 : Nat) = (0 : Nat) ∧ (0 : Nat) = (0 : Nat) ∧ (0 : Nat) = (0 : Nat) ∧ True) ∧ ((1 : Int) = (1 : Int) ∧ (1 : Int) = (1 : Int) ∧ (7 : Int) = (7 : Int) ∧ (1 : Int) = (1 : Int) ∧ kS = kS ∧ (true = true ∧ (1 : Nat) = (1 : Nat) ∧ contLe (1 : Nat) (1 : Nat) (cellsOf' encB [(118 : Int)]) (cellsOf' encB [(118 : Int)])) ∧ (0 : Int) = (0 : Int) ∧ (0 : Int) = (0 : Int) ∧ ByteArray.empty = ByteArray.empty ∧ (0 : Int) = (0 : Int) ∧ True) ∧ True) ∧ True ∧ DoR nB nC nB { err := (163 : Int), off := (0 : Int), old := false, recs := [] : Res } ∧ (true = true → (true = true → true = true ∧ True) ∧ (true = false → false = true ∧ True)) ∧ (true = false → false = true ∧ True)
set_option maxRecDepth 1000000 in
theorem vcNa_eq (l : List Cmd) (e : List Int) (o : List Int) (d : List Bool) (f : Nat → Part) : (ctrVC Tryz.prog (naH l e o d f) 3 [] [] (boolR true)) = vcNa l e o d f := by kernel_rfl
end Go.Proofs.YtnbhdjadlbhknaaGreatDoor.R

/-! Producers: what is new stays new: the plain law of Kept. -/
namespace Go.Proofs.YtnbhdjadlbhknaaGreatDoor.P
open Go.Ax
set_option maxRecDepth 1000000
theorem judge_new (l : List Producer) (id seq : Int) : judgeV l id seq = 1 ↔ badN id seq = false ∧ (findI l id = false ∨ (findD l id).seq < seq) := by
  unfold judgeV
  cases hb : badN id seq
  · cases hf : findI l id
    · simp
    · by_cases h : (findD l id).seq < seq
      · simp [h]
      · simp [h]
        split <;> decide
  · simp
theorem mem_oth {l : List Producer} {x z : Producer} : z ∈ oth l x ↔ z ∈ l ∧ ¬ z.id = x.id := by
  unfold oth
  rw [List.mem_filter]
  simp [keep]
theorem mem_putL' {l : List Producer} {x z : Producer} : z ∈ putL l x ↔ z = x ∨ (z ∈ l ∧ ¬ z.id = x.id) := by
  rw [← mem_oth]
  unfold putL
  rw [List.mem_append, List.mem_cons]
  constructor
  · rintro (h | h | h)
    · exact Or.inr (List.mem_of_mem_take h)
    · exact Or.inl h
    · exact Or.inr (List.mem_of_mem_drop h)
  · rintro (h | h)
    · exact Or.inr (Or.inl h)
    · rw [← List.take_append_drop (below (oth l x) x.id) (oth l x), List.mem_append] at h
      rcases h with h | h
      · exact Or.inl h
      · exact Or.inr (Or.inr h)
theorem find_of {l : List Producer} {id : Int} (h : findI l id = true) : findD l id ∈ l ∧ (findD l id).id = id := by
  unfold findI at h
  unfold findD
  cases hf : l.find? (has id) with
  | none => rw [hf] at h; cases h
  | some x =>
    have h1 := List.find?_some hf
    have h2 := List.mem_of_find?_eq_some hf
    exact ⟨h2, by simpa [has] using h1⟩
theorem find_none {l : List Producer} {id : Int} (h : findI l id = false) : ∀ x ∈ l, ¬ x.id = id := by
  intro x hx hid
  unfold findI at h
  have : (l.find? (has id)).isSome = true := by
    rw [List.find?_isSome]
    exact ⟨x, hx, by simp [has, hid]⟩
  rw [h] at this; cases this
theorem pw_unique {l : List Producer} (h : l.Pairwise (fun a b => a.id < b.id)) : ∀ {x y : Producer}, x ∈ l → y ∈ l → x.id = y.id → x = y := by
  induction h with
  | nil => intro x y hx; cases hx
  | cons h1 _ ih =>
    intro x y hx hy e
    rcases List.mem_cons.1 hx with e1 | hx' <;> rcases List.mem_cons.1 hy with e2 | hy'
    · rw [e1, e2]
    · have := h1 _ hy'; rw [← e1] at this; omega
    · have := h1 _ hx'; rw [← e2] at this; omega
    · exact ih hx' hy' e
/-- no one of that name came so far -/
def fresh (l : List Producer) (id seq : Int) : Prop := ∀ x ∈ l, x.id = id → x.seq < seq
theorem judge_fresh {l : List Producer} (h : rising l) (id seq : Int) : judgeV l id seq = 1 ↔ badN id seq = false ∧ fresh l id seq := by
  rw [judge_new]
  refine and_congr Iff.rfl ?_
  cases hf : findI l id
  · exact ⟨fun _ x hx e => absurd e (find_none hf x hx), fun _ => Or.inl rfl⟩
  · have ⟨h1, h2⟩ := find_of hf
    constructor
    · rintro (h3 | h3)
      · cases h3
      · intro x hx e
        rw [pw_unique ((rising_pw l).1 h) hx h1 (by omega)]; exact h3
    · intro h3
      exact Or.inr (h3 _ h1 h2)
/-- a table, element by element -/
def good (x : Producer) : Prop := ¬ x.id = 0 ∧ 1 ≤ x.seq ∧ x.seq ≤ 9223372036854775807 ∧ (x.here = true ∨ x.offset = 0)
theorem table_iff (l : List Producer) : isTable l = true ↔ (∀ x ∈ l, good x) ∧ rising l ∧ l.length ≤ 256 := by
  constructor
  · intro h
    have hr := table_rising h
    unfold isTable at h
    rw [Bool.and_eq_true, decide_eq_true_eq] at h
    refine ⟨fun x hx => ?_, hr, h.2⟩
    obtain ⟨i, hi, rfl⟩ := List.mem_iff_getElem.1 hx
    have := okFrom_all _ 0 rfl h.1 i (Nat.zero_le _) hi
    simp [okP, hi] at this
    unfold good
    grind
  · rintro ⟨h1, h2, h3⟩
    unfold isTable
    rw [Bool.and_eq_true, decide_eq_true_eq]
    refine ⟨?_, h3⟩
    unfold okFrom
    rw [List.all_eq_true]
    intro j hj
    have hj' : j < l.length := by
      simp at hj; exact hj
    have hg := h1 l[j] (List.getElem_mem hj')
    unfold good at hg
    simp [okP, hj']
    have hr : 0 < j → (l[j - 1]?.getD default).id < l[j].id := fun h => by
      have := h2 (j - 1) j (by omega) hj'
      simpa [hj'] using this
    grind
end Go.Proofs.YtnbhdjadlbhknaaGreatDoor.P

/-! Lineage, plain: what a state is; what is kept of one may be. -/
namespace Go.Proofs.YtnbhdjadlbhknaaGreatDoor.D
open Go.Ax
set_option maxRecDepth 1000000
theorem snoc_ind {α : Type} {P : List α → Prop} (h0 : P []) (h1 : ∀ l x, P l → P (l ++ [x])) (l : List α) : P l := by
  rw [← List.reverse_reverse l]
  induction l.reverse with
  | nil => exact h0
  | cons x r ih => rw [List.reverse_cons]; exact h1 _ _ ih
theorem sel_put (s : Kn) (a b x : Int) : Kn.sel (Kn.put s a b) x = if a = x then b else Kn.sel s x := by
  unfold Kn.sel Kn.put updHas updC selI
  by_cases h : a = x
  · simp [h]
  · simp [h]
theorem knR_app (l : List Rec) (x : Rec) : knR (l ++ [x]) = (knR l).put x.prod x.seq := by simp [knR]
/-- a number that is last, or none -/
theorem knR_sel (l : List Rec) (a : Int) : (Kn.sel (knR l) a = 0 ∧ ∀ x ∈ l, x.prod ≠ a) ∨ ∃ x ∈ l, x.prod = a ∧ Kn.sel (knR l) a = x.seq := by
  refine snoc_ind (P := fun l => (Kn.sel (knR l) a = 0 ∧ ∀ x ∈ l, x.prod ≠ a) ∨ ∃ x ∈ l, x.prod = a ∧ Kn.sel (knR l) a = x.seq) ?_ ?_ l
  · exact .inl ⟨rfl, fun x hx => by cases hx⟩
  · intro l x ih
    rw [knR_app, sel_put]
    by_cases h : x.prod = a
    · rw [if_pos h]; exact .inr ⟨x, by simp, h, rfl⟩
    · rw [if_neg h]
      rcases ih with ⟨h1, h2⟩ | ⟨y, h1, h2, h3⟩
      · refine .inl ⟨h1, fun y hy => ?_⟩
        rcases List.mem_append.1 hy with hy | hy
        · exact h2 y hy
        · simp at hy; subst hy; exact h
      · exact .inr ⟨y, by simp [h1], h2, h3⟩
def up1 (x y : Rec) : Prop := x.prod = y.prod → x.seq < y.seq
def recOk (g : Rng) (K : Kn) (x : Rec) : Prop := hasK g x.key = true ∧ 0 < x.seq ∧ x.seq ≤ Kn.sel K x.prod
def ordL (g : Rng) (K : Kn) (l : List Rec) : Prop := (∀ x ∈ l, recOk g K x) ∧ l.Pairwise up1
theorem orFrom_all (p : Part) : ∀ n k, p.recs.length - k = n → (orFrom p k = true ↔ ∀ j, k ≤ j → j < p.recs.length → okO p j = true) := by
  intro n
  induction n with
  | zero =>
    intro k hk
    rw [orFrom_end (by omega)]
    exact ⟨fun _ j h1 h2 => by omega, fun _ => rfl⟩
  | succ n ih =>
    intro k hk
    rw [orFrom_step (by omega), Bool.and_eq_true, ih (k + 1) (by omega)]
    constructor
    · rintro ⟨h1, h2⟩ j h3 h4
      rcases Nat.eq_or_lt_of_le h3 with rfl | h5
      · exact h1
      · exact h2 j h5 h4
    · intro h
      exact ⟨h k (Nat.le_refl _) (by omega), fun j h1 h2 => h j (by omega) h2⟩
theorem okO_iff {p : Part} {k : Nat} (h : k < p.recs.length) : okO p k = true ↔ hasK p.rng p.recs[k].key = true ∧ Kn.sel (knR (p.recs.take k)) p.recs[k].prod < p.recs[k].seq ∧ p.recs[k].seq ≤ Kn.sel (knP p.prods) p.recs[k].prod := by
  unfold okO
  simp [List.getElem?_eq_getElem h]
theorem knR_le {g : Rng} {K : Kn} : ∀ {l : List Rec}, ordL g K l → ∀ x ∈ l, x.seq ≤ Kn.sel (knR l) x.prod := by
  intro l
  refine snoc_ind (P := fun l => ordL g K l → ∀ x ∈ l, x.seq ≤ Kn.sel (knR l) x.prod) ?_ ?_ l
  · intro _ x hx; cases hx
  · intro l y ih h x hx
    rw [knR_app, sel_put]
    have h2 : ordL g K l := ⟨fun z hz => h.1 z (by simp [hz]), (List.pairwise_append.1 h.2).1⟩
    have h3 := (List.pairwise_append.1 h.2).2.2
    rcases List.mem_append.1 hx with hx | hx
    · by_cases e : y.prod = x.prod
      · rw [if_pos e]
        have := h3 x hx y (by simp) e.symm
        omega
      · rw [if_neg e]; exact ih h2 x hx
    · simp at hx; subst hx; rw [if_pos rfl]; exact Int.le_refl _
theorem ord_take {p : Part} (h : ∀ j, j < p.recs.length → okO p j = true) : ∀ k, k ≤ p.recs.length → ordL p.rng (knP p.prods) (p.recs.take k) := by
  intro k
  induction k with
  | zero => intro _; exact ⟨fun x hx => by simp at hx, by simp⟩
  | succ k ih =>
    intro hk
    have ih := ih (by omega)
    obtain ⟨o1, o2, o3⟩ := (okO_iff (by omega)).1 (h k (by omega))
    rw [List.take_add_one, List.getElem?_eq_getElem (by omega)]
    have hs : ∀ x ∈ p.recs.take k, x.prod = p.recs[k].prod → x.seq < p.recs[k].seq := fun x hx e => by
      have := knR_le ih x hx
      rw [e] at this
      omega
    have h0 : 0 < p.recs[k].seq := by
      rcases knR_sel (p.recs.take k) p.recs[k].prod with ⟨q, _⟩ | ⟨x, hx, hx2, q⟩
      · omega
      · have := (ih.1 x hx).2.1
        omega
    refine ⟨fun x hx => ?_, ?_⟩
    · rcases List.mem_append.1 hx with hx | hx
      · exact ih.1 x hx
      · simp at hx; subst hx; exact ⟨o1, h0, o3⟩
    · refine List.pairwise_append.2 ⟨ih.2, by simp, fun x hx y hy => ?_⟩
      simp at hy; subst hy
      exact hs x hx
theorem or_iff (p : Part) : orFrom p 0 = true ↔ ordL p.rng (knP p.prods) p.recs := by
  rw [orFrom_all p _ 0 rfl]
  constructor
  · intro h
    have := ord_take (fun j hj => h j (Nat.zero_le _) hj) p.recs.length (Nat.le_refl _)
    rwa [List.take_length] at this
  · intro h j _ hj
    have hx := h.1 p.recs[j] (List.getElem_mem hj)
    refine (okO_iff hj).2 ⟨hx.1, ?_, hx.2.2⟩
    rcases knR_sel (p.recs.take j) p.recs[j].prod with ⟨q, _⟩ | ⟨x, h1, h2, q⟩
    · have := hx.2.1; omega
    · rw [q]
      have hp := h.2
      rw [← List.take_append_drop j p.recs] at hp
      refine (List.pairwise_append.1 hp).2.2 x h1 _ ?_ h2
      rw [List.mem_iff_getElem]
      exact ⟨0, by simp; omega, by simp⟩
/-! what is kept -/
end Go.Proofs.YtnbhdjadlbhknaaGreatDoor.D
