import Derived.Test.YtnbhdjadlbhknaaGreatDoorW3
import Derived.Test.YtnbhdjadlbhknaaGreatDoorW4
set_option linter.unusedVariables false
set_option linter.unusedSimpArgs false
set_option linter.unusedSectionVars false
/-! Shards' states: act: the conditions. -/
namespace Go.Proofs.YtnbhdjadlbhknaaGreatDoor.R
open Go.Ax
set_option maxRecDepth 1000000
def un9 (e : Int) : Int := if e = 999 then 0 else e
def actE (p : Part) (c : Cmd) : Int := if c.kind = 1 then un9 (prE p c) else if c.kind = 3 then un9 (cmE p c) else if c.kind = 5 ∨ c.kind = 6 then (if frB p c = true then 164 else 0) else if p.frozen ≠ 0 then 164 else if c.kind = 2 then feE p.recs c.off else 0
def byOf (c : Cmd) : Int := if c.kind = 5 then c.plan else 0
def actQ (p : Part) (c : Cmd) : Part := if c.kind = 1 then (if prE p c = 0 then prQ p c else p) else if c.kind = 3 then (if cmE p c = 0 then cmQ p c else p) else if c.kind = 5 ∨ c.kind = 6 then (if frB p c = true then p else frQ p (byOf c)) else p
def actX (p : Part) (c : Cmd) : Res :=
  if c.kind = 1 then (if prE p c = 0 then ⟨0, p.recs.length, false, []⟩ else if prE p c = 999 then ⟨0, P.judgeO p.prods c.prod c.seq, true, []⟩ else ⟨0, 0, false, []⟩)
  else if c.kind = 3 then (if cmE p c = 999 then ⟨0, 0, true, []⟩ else ⟨0, c.off, false, []⟩)
  else if c.kind = 5 ∨ c.kind = 6 then ⟨0, 0, !frB p c && p.frozen == byOf c, []⟩
  else if p.frozen ≠ 0 then ⟨0, 0, false, []⟩
  else if c.kind = 4 then ⟨0, readO p.cons c.name, inC p.cons c.name, []⟩
  else if c.kind = 2 then (if feE p.recs c.off = 0 then ⟨0, IntKind.u64.wrap (c.off + IntKind.u64.wrap (fetL p.recs c.off c.most).length), false, fetL p.recs c.off c.most⟩ else ⟨0, c.off, false, []⟩)
  else ⟨0, 0, false, []⟩
def actT (q : Part) (x : Res) (c : Cmd) (e : Int) : T An := .ite (e == 0) (.ret (.tup [.agg (encPt true q), .agg (encX x), .s .nilIface], [], [])) (.ret (.tup [.agg (encPt true q), .agg (encX x), refV], refM c e, []))
structure Act where
  q : Part
  x : Res
  e : Int
noncomputable def acH (p : Part) (c : Cmd) : HintsT Tryz.prog := withSh (hh _ noLp (cs1 40 6 2 (prC p c) (cs1 40 11 2 (coC p c) (cs1 40 16 4 (frC p c c.plan) (cs1 40 19 2 (frC p c 0) (cs1 40 25 4 (rdC true p.cons c.name) (cs1 40 27 6 (feC true p.recs c.off c.most) noCs)))))) noOp) (sh1 40 27 8 779 noSh)
def vcAc (p : Part) (c : Cmd) (y : Act) : Prop :=
  ((c.kind == (1 : Int)) = true → ((p.rng.lo = p.rng.lo ∧ p.rng.hi = p.rng.hi ∧ p.epoch = p.epoch ∧ p.frozen = p.frozen ∧ (true = true ∧ List.length p.recs = List.length p.recs ∧ contLe (List.length p.recs) (5 : Nat) (cellsOf' encR p.recs) (cellsOf' encR p.recs)) ∧ (true = true ∧ List.length p.prods = List.length p.prods ∧ contLe (List.length p.prods) (4 : Nat) (cellsOf' P.encP p.prods) (cellsOf' P.encP p.prods)) ∧ (true = true ∧ List.length p.cons = List.length p.cons ∧ contLe (List.length p.cons) (2 : Nat) (cellsOf' encC p.cons) (cellsOf' encC p.cons)) ∧ True) ∧ (c.kind = c.kind ∧ c.epoch = c.epoch ∧ c.prod = c.prod ∧ c.seq = c.seq ∧ c.key = c.key ∧ (true = true ∧ List.length c.val = List.length c.val ∧ contLe (List.length c.val) (1 : Nat) (cellsOf' encB c.val) (cellsOf' encB c.val)) ∧ c.off = c.off ∧ c.most = c.most ∧ c.name = c.name ∧ c.plan = c.plan ∧ True) ∧ True) ∧ True ∧ PartIn p ∧ ((prE p c == (0 : Int)) = true → ((y.e == (0 : Int)) = true → ((p.rng.lo = y.q.rng.lo ∧ p.rng.hi = y.q.rng.hi ∧ p.epoch = y.q.epoch ∧ p.frozen = y.q.frozen ∧ (true = true ∧ List.length (appL p.recs (newR c)) = List.length y.q.recs ∧ contLe (List.length (appL p.recs (newR c))) (5 : Nat) (cellsOf' encR (appL p.recs (newR c))) (cellsOf' encR y.q.recs)) ∧ (true = true ∧ List.length (P.putL p.prods (accP p c)) = List.length y.q.prods ∧ contLe (List.length (P.putL p.prods (accP p c))) (4 : Nat) (cellsOf' P.encP (P.putL p.prods (accP p c))) (cellsOf' P.encP y.q.prods)) ∧ (true = true ∧ List.length p.cons = List.length y.q.cons ∧ contLe (List.length p.cons) (2 : Nat) (cellsOf' encC p.cons) (cellsOf' encC y.q.cons)) ∧ True) ∧ ((0 : Int) = y.x.err ∧ (↑(List.length p.recs) : Int) = y.x.off ∧ false = y.x.old ∧ List.length y.x.recs = (0 : Nat) ∧ True) ∧ True ∧ True) ∧ True) ∧ ((y.e == (0 : Int)) = false → ((p.rng.lo = y.q.rng.lo ∧ p.rng.hi = y.q.rng.hi ∧ p.epoch = y.q.epoch ∧ p.frozen = y.q.frozen ∧ (true = true ∧ List.length (appL p.recs (newR c)) = List.length y.q.recs ∧ contLe (List.length (appL p.recs (newR c))) (5 : Nat) (cellsOf' encR (appL p.recs (newR c))) (cellsOf' encR y.q.recs)) ∧ (true = true ∧ List.length (P.putL p.prods (accP p c)) = List.length y.q.prods ∧ contLe (List.length (P.putL p.prods (accP p c))) (4 : Nat) (cellsOf' P.encP (P.putL p.prods (accP p c))) (cellsOf' P.encP y.q.prods)) ∧ (true = true ∧ List.length p.cons = List.length y.q.cons ∧ contLe (List.length p.cons) (2 : Nat) (cellsOf' encC p.cons) (cellsOf' encC y.q.cons)) ∧ True) ∧ ((0 : Int) = y.x.err ∧ (↑(List.length p.recs) : Int) = y.x.off ∧ false = y.x.old ∧ List.length y.x.recs = (0 : Nat) ∧ True) ∧ False ∧ True) ∧ False)) ∧ ((prE p c == (0 : Int)) = false → ((prE p c == (999 : Int)) = true → true = true ∧ True ∧ ((y.e == (0 : Int)) = true → ((p.rng.lo = y.q.rng.lo ∧ p.rng.hi = y.q.rng.hi ∧ p.epoch = y.q.epoch ∧ p.frozen = y.q.frozen ∧ (true = true ∧ List.length p.recs = List.length y.q.recs ∧ contLe (List.length p.recs) (5 : Nat) (cellsOf' encR p.recs) (cellsOf' encR y.q.recs)) ∧ (true = true ∧ List.length p.prods = List.length y.q.prods ∧ contLe (List.length p.prods) (4 : Nat) (cellsOf' P.encP p.prods) (cellsOf' P.encP y.q.prods)) ∧ (true = true ∧ List.length p.cons = List.length y.q.cons ∧ contLe (List.length p.cons) (2 : Nat) (cellsOf' encC p.cons) (cellsOf' encC y.q.cons)) ∧ True) ∧ ((0 : Int) = y.x.err ∧ P.judgeO p.prods c.prod c.seq = y.x.off ∧ true = y.x.old ∧ List.length y.x.recs = (0 : Nat) ∧ True) ∧ True ∧ True) ∧ True) ∧ ((y.e == (0 : Int)) = false → ((p.rng.lo = y.q.rng.lo ∧ p.rng.hi = y.q.rng.hi ∧ p.epoch = y.q.epoch ∧ p.frozen = y.q.frozen ∧ (true = true ∧ List.length p.recs = List.length y.q.recs ∧ contLe (List.length p.recs) (5 : Nat) (cellsOf' encR p.recs) (cellsOf' encR y.q.recs)) ∧ (true = true ∧ List.length p.prods = List.length y.q.prods ∧ contLe (List.length p.prods) (4 : Nat) (cellsOf' P.encP p.prods) (cellsOf' P.encP y.q.prods)) ∧ (true = true ∧ List.length p.cons = List.length y.q.cons ∧ contLe (List.length p.cons) (2 : Nat) (cellsOf' encC p.cons) (cellsOf' encC y.q.cons)) ∧ True) ∧ ((0 : Int) = y.x.err ∧ P.judgeO p.prods c.prod c.seq = y.x.off ∧ true = y.x.old ∧ List.length y.x.recs = (0 : Nat) ∧ True) ∧ False ∧ True) ∧ False)) ∧ ((prE p c == (999 : Int)) = false → true = true ∧ True ∧ ((y.e == (0 : Int)) = true → False) ∧ ((y.e == (0 : Int)) = false → ((p.rng.lo = y.q.rng.lo ∧ p.rng.hi = y.q.rng.hi ∧ p.epoch = y.q.epoch ∧ p.frozen = y.q.frozen ∧ (true = true ∧ List.length p.recs = List.length y.q.recs ∧ contLe (List.length p.recs) (5 : Nat) (cellsOf' encR p.recs) (cellsOf' encR y.q.recs)) ∧ (true = true ∧ List.length p.prods = List.length y.q.prods ∧ contLe (List.length p.prods) (4 : Nat) (cellsOf' P.encP p.prods) (cellsOf' P.encP y.q.prods)) ∧ (true = true ∧ List.length p.cons = List.length y.q.cons ∧ contLe (List.length p.cons) (2 : Nat) (cellsOf' encC p.cons) (cellsOf' encC y.q.cons)) ∧ True) ∧ ((0 : Int) = y.x.err ∧ (0 : Int) = y.x.off ∧ false = y.x.old ∧ List.length y.x.recs = (0 : Nat) ∧ True) ∧ ((0 : Nat) = (0 : Nat) ∧ (0 : Nat) = (0 : Nat)) ∧ True) ∧ (c.kind = c.kind ∧ prE p c = y.e ∧ True) ∧ True)))) ∧ ((c.kind == (1 : Int)) = false → ((c.kind == (3 : Int)) = true → ((p.rng.lo = p.rng.lo ∧ p.rng.hi = p.rng.hi ∧ p.epoch = p.epoch ∧ p.frozen = p.frozen ∧ (true = true ∧ List.length p.recs = List.length p.recs ∧ contLe (List.length p.recs) (5 : Nat) (cellsOf' encR p.recs) (cellsOf' encR p.recs)) ∧ (true = true ∧ List.length p.prods = List.length p.prods ∧ contLe (List.length p.prods) (4 : Nat) (cellsOf' P.encP p.prods) (cellsOf' P.encP p.prods)) ∧ (true = true ∧ List.length p.cons = List.length p.cons ∧ contLe (List.length p.cons) (2 : Nat) (cellsOf' encC p.cons) (cellsOf' encC p.cons)) ∧ True) ∧ (c.kind = c.kind ∧ c.epoch = c.epoch ∧ c.prod = c.prod ∧ c.seq = c.seq ∧ c.key = c.key ∧ (true = true ∧ List.length c.val = List.length c.val ∧ contLe (List.length c.val) (1 : Nat) (cellsOf' encB c.val) (cellsOf' encB c.val)) ∧ c.off = c.off ∧ c.most = c.most ∧ c.name = c.name ∧ c.plan = c.plan ∧ True) ∧ True) ∧ True ∧ PartIn p ∧ ((cmE p c == (0 : Int)) = true → ((y.e == (0 : Int)) = true → ((p.rng.lo = y.q.rng.lo ∧ p.rng.hi = y.q.rng.hi ∧ p.epoch = y.q.epoch ∧ p.frozen = y.q.frozen ∧ (true = true ∧ List.length p.recs = List.length y.q.recs ∧ contLe (List.length p.recs) (5 : Nat) (cellsOf' encR p.recs) (cellsOf' encR y.q.recs)) ∧ (true = true ∧ List.length (P.putL p.prods (pasP c)) = List.length y.q.prods ∧ contLe (List.length (P.putL p.prods (pasP c))) (4 : Nat) (cellsOf' P.encP (P.putL p.prods (pasP c))) (cellsOf' P.encP y.q.prods)) ∧ (true = true ∧ List.length (putL p.cons { name := c.name, off := c.off : Con }) = List.length y.q.cons ∧ contLe (List.length (putL p.cons { name := c.name, off := c.off : Con })) (2 : Nat) (cellsOf' encC (putL p.cons { name := c.name, off := c.off : Con })) (cellsOf' encC y.q.cons)) ∧ True) ∧ ((0 : Int) = y.x.err ∧ c.off = y.x.off ∧ false = y.x.old ∧ List.length y.x.recs = (0 : Nat) ∧ True) ∧ True ∧ True) ∧ True) ∧ ((y.e == (0 : Int)) = false → ((p.rng.lo = y.q.rng.lo ∧ p.rng.hi = y.q.rng.hi ∧ p.epoch = y.q.epoch ∧ p.frozen = y.q.frozen ∧ (true = true ∧ List.length p.recs = List.length y.q.recs ∧ contLe (List.length p.recs) (5 : Nat) (cellsOf' encR p.recs) (cellsOf' encR y.q.recs)) ∧ (true = true ∧ List.length (P.putL p.prods (pasP c)) = List.length y.q.prods ∧ contLe (List.length (P.putL p.prods (pasP c))) (4 : Nat) (cellsOf' P.encP (P.putL p.prods (pasP c))) (cellsOf' P.encP y.q.prods)) ∧ (true = true ∧ List.length (putL p.cons { name := c.name, off := c.off : Con }) = List.length y.q.cons ∧ contLe (List.length (putL p.cons { name := c.name, off := c.off : Con })) (2 : Nat) (cellsOf' encC (putL p.cons { name := c.name, off := c.off : Con })) (cellsOf' encC y.q.cons)) ∧ True) ∧ ((0 : Int) = y.x.err ∧ c.off = y.x.off ∧ false = y.x.old ∧ List.length y.x.recs = (0 : Nat) ∧ True) ∧ False ∧ True) ∧ False)) ∧ ((cmE p c == (0 : Int)) = false → ((cmE p c == (999 : Int)) = true → true = true ∧ True ∧ ((y.e == (0 : Int)) = true → ((p.rng.lo = y.q.rng.lo ∧ p.rng.hi = y.q.rng.hi ∧ p.epoch = y.q.epoch ∧ p.frozen = y.q.frozen ∧ (true = true ∧ List.length p.recs = List.length y.q.recs ∧ contLe (List.length p.recs) (5 : Nat) (cellsOf' encR p.recs) (cellsOf' encR y.q.recs)) ∧ (true = true ∧ List.length p.prods = List.length y.q.prods ∧ contLe (List.length p.prods) (4 : Nat) (cellsOf' P.encP p.prods) (cellsOf' P.encP y.q.prods)) ∧ (true = true ∧ List.length p.cons = List.length y.q.cons ∧ contLe (List.length p.cons) (2 : Nat) (cellsOf' encC p.cons) (cellsOf' encC y.q.cons)) ∧ True) ∧ ((0 : Int) = y.x.err ∧ (0 : Int) = y.x.off ∧ true = y.x.old ∧ List.length y.x.recs = (0 : Nat) ∧ True) ∧ True ∧ True) ∧ True) ∧ ((y.e == (0 : Int)) = false → ((p.rng.lo = y.q.rng.lo ∧ p.rng.hi = y.q.rng.hi ∧ p.epoch = y.q.epoch ∧ p.frozen = y.q.frozen ∧ (true = true ∧ List.length p.recs = List.length y.q.recs ∧ contLe (List.length p.recs) (5 : Nat) (cellsOf' encR p.recs) (cellsOf' encR y.q.recs)) ∧ (true = true ∧ List.length p.prods = List.length y.q.prods ∧ contLe (List.length p.prods) (4 : Nat) (cellsOf' P.encP p.prods) (cellsOf' P.encP y.q.prods)) ∧ (true = true ∧ List.length p.cons = List.length y.q.cons ∧ contLe (List.length p.cons) (2 : Nat) (cellsOf' encC p.cons) (cellsOf' encC y.q.cons)) ∧ True) ∧ ((0 : Int) = y.x.err ∧ (0 : Int) = y.x.off ∧ true = y.x.old ∧ List.length y.x.recs = (0 : Nat) ∧ True) ∧ False ∧ True) ∧ False)) ∧ ((cmE p c == (999 : Int)) = false → true = true ∧ True ∧ ((y.e == (0 : Int)) = true → False) ∧ ((y.e == (0 : Int)) = false → ((p.rng.lo = y.q.rng.lo ∧ p.rng.hi = y.q.rng.hi ∧ p.epoch = y.q.epoch ∧ p.frozen = y.q.frozen ∧ (true = true ∧ List.length p.recs = List.length y.q.recs ∧ contLe (List.length p.recs) (5 : Nat) (cellsOf' encR p.recs) (cellsOf' encR y.q.recs)) ∧ (true = true ∧ List.length p.prods = List.length y.q.prods ∧ contLe (List.length p.prods) (4 : Nat) (cellsOf' P.encP p.prods) (cellsOf' P.encP y.q.prods)) ∧ (true = true ∧ List.length p.cons = List.length y.q.cons ∧ contLe (List.length p.cons) (2 : Nat) (cellsOf' encC p.cons) (cellsOf' encC y.q.cons)) ∧ True) ∧ ((0 : Int) = y.x.err ∧ c.off = y.x.off ∧ false = y.x.old ∧ List.length y.x.recs = (0 : Nat) ∧ True) ∧ ((0 : Nat) = (0 : Nat) ∧ (0 : Nat) = (0 : Nat)) ∧ True) ∧ (c.kind = c.kind ∧ cmE p c = y.e ∧ True) ∧ True)))) ∧ ((c.kind == (3 : Int)) = false → ((c.kind == (5 : Int)) = true → ((p.rng.lo = p.rng.lo ∧ p.rng.hi = p.rng.hi ∧ p.epoch = p.epoch ∧ p.frozen = p.frozen ∧ (true = true ∧ List.length p.recs = List.length p.recs ∧ contLe (List.length p.recs) (5 : Nat) (cellsOf' encR p.recs) (cellsOf' encR p.recs)) ∧ (true = true ∧ List.length p.prods = List.length p.prods ∧ contLe (List.length p.prods) (4 : Nat) (cellsOf' P.encP p.prods) (cellsOf' P.encP p.prods)) ∧ (true = true ∧ List.length p.cons = List.length p.cons ∧ contLe (List.length p.cons) (2 : Nat) (cellsOf' encC p.cons) (cellsOf' encC p.cons)) ∧ True) ∧ (c.kind = c.kind ∧ c.epoch = c.epoch ∧ c.prod = c.prod ∧ c.seq = c.seq ∧ c.key = c.key ∧ (true = true ∧ List.length c.val = List.length c.val ∧ contLe (List.length c.val) (1 : Nat) (cellsOf' encB c.val) (cellsOf' encB c.val)) ∧ c.off = c.off ∧ c.most = c.most ∧ c.name = c.name ∧ c.plan = c.plan ∧ True) ∧ c.plan = c.plan ∧ True) ∧ True ∧ (frB p c = true → ((y.e == (0 : Int)) = true → False) ∧ ((y.e == (0 : Int)) = false → ((p.rng.lo = y.q.rng.lo ∧ p.rng.hi = y.q.rng.hi ∧ p.epoch = y.q.epoch ∧ p.frozen = y.q.frozen ∧ (true = true ∧ List.length p.recs = List.length y.q.recs ∧ contLe (List.length p.recs) (5 : Nat) (cellsOf' encR p.recs) (cellsOf' encR y.q.recs)) ∧ (true = true ∧ List.length p.prods = List.length y.q.prods ∧ contLe (List.length p.prods) (4 : Nat) (cellsOf' P.encP p.prods) (cellsOf' P.encP y.q.prods)) ∧ (true = true ∧ List.length p.cons = List.length y.q.cons ∧ contLe (List.length p.cons) (2 : Nat) (cellsOf' encC p.cons) (cellsOf' encC y.q.cons)) ∧ True) ∧ ((0 : Int) = y.x.err ∧ (0 : Int) = y.x.off ∧ false = y.x.old ∧ List.length y.x.recs = (0 : Nat) ∧ True) ∧ ((0 : Nat) = (0 : Nat) ∧ (0 : Nat) = (0 : Nat)) ∧ True) ∧ (c.kind = c.kind ∧ (164 : Int) = y.e ∧ True) ∧ True)) ∧ (frB p c = false → ((y.e == (0 : Int)) = true → ((p.rng.lo = y.q.rng.lo ∧ p.rng.hi = y.q.rng.hi ∧ p.epoch = y.q.epoch ∧ c.plan = y.q.frozen ∧ (true = true ∧ List.length p.recs = List.length y.q.recs ∧ contLe (List.length p.recs) (5 : Nat) (cellsOf' encR p.recs) (cellsOf' encR y.q.recs)) ∧ (true = true ∧ List.length p.prods = List.length y.q.prods ∧ contLe (List.length p.prods) (4 : Nat) (cellsOf' P.encP p.prods) (cellsOf' P.encP y.q.prods)) ∧ (true = true ∧ List.length p.cons = List.length y.q.cons ∧ contLe (List.length p.cons) (2 : Nat) (cellsOf' encC p.cons) (cellsOf' encC y.q.cons)) ∧ True) ∧ ((0 : Int) = y.x.err ∧ (0 : Int) = y.x.off ∧ (p.frozen == c.plan) = y.x.old ∧ List.length y.x.recs = (0 : Nat) ∧ True) ∧ True ∧ True) ∧ True) ∧ ((y.e == (0 : Int)) = false → ((p.rng.lo = y.q.rng.lo ∧ p.rng.hi = y.q.rng.hi ∧ p.epoch = y.q.epoch ∧ c.plan = y.q.frozen ∧ (true = true ∧ List.length p.recs = List.length y.q.recs ∧ contLe (List.length p.recs) (5 : Nat) (cellsOf' encR p.recs) (cellsOf' encR y.q.recs)) ∧ (true = true ∧ List.length p.prods = List.length y.q.prods ∧ contLe (List.length p.prods) (4 : Nat) (cellsOf' P.encP p.prods) (cellsOf' P.encP y.q.prods)) ∧ (true = true ∧ List.length p.cons = List.length y.q.cons ∧ contLe (List.length p.cons) (2 : Nat) (cellsOf' encC p.cons) (cellsOf' encC y.q.cons)) ∧ True) ∧ ((0 : Int) = y.x.err ∧ (0 : Int) = y.x.off ∧ (p.frozen == c.plan) = y.x.old ∧ List.length y.x.recs = (0 : Nat) ∧ True) ∧ False ∧ True) ∧ False))) ∧ ((c.kind == (5 : Int)) = false → ((c.kind == (6 : Int)) = true → ((p.rng.lo = p.rng.lo ∧ p.rng.hi = p.rng.hi ∧ p.epoch = p.epoch ∧ p.frozen = p.frozen ∧ (true = true ∧ List.length p.recs = List.length p.recs ∧ contLe (List.length p.recs) (5 : Nat) (cellsOf' encR p.recs) (cellsOf' encR p.recs)) ∧ (true = true ∧ List.length p.prods = List.length p.prods ∧ contLe (List.length p.prods) (4 : Nat) (cellsOf' P.encP p.prods) (cellsOf' P.encP p.prods)) ∧ (true = true ∧ List.length p.cons = List.length p.cons ∧ contLe (List.length p.cons) (2 : Nat) (cellsOf' encC p.cons) (cellsOf' encC p.cons)) ∧ True) ∧ (c.kind = c.kind ∧ c.epoch = c.epoch ∧ c.prod = c.prod ∧ c.seq = c.seq ∧ c.key = c.key ∧ (true = true ∧ List.length c.val = List.length c.val ∧ contLe (List.length c.val) (1 : Nat) (cellsOf' encB c.val) (cellsOf' encB c.val)) ∧ c.off = c.off ∧ c.most = c.most ∧ c.name = c.name ∧ c.plan = c.plan ∧ True) ∧ (0 : Int) = (0 : Int) ∧ True) ∧ True ∧ (frB p c = true → ((y.e == (0 : Int)) = true → False) ∧ ((y.e == (0 : Int)) = false → ((p.rng.lo = y.q.rng.lo ∧ p.rng.hi = y.q.rng.hi ∧ p.epoch = y.q.epoch ∧ p.frozen = y.q.frozen ∧ (true = true ∧ List.length p.recs = List.length y.q.recs ∧ contLe (List.length p.recs) (5 : Nat) (cellsOf' encR p.recs) (cellsOf' encR y.q.recs)) ∧ (true = true ∧ List.length p.prods = List.length y.q.prods ∧ contLe (List.length p.prods) (4 : Nat) (cellsOf' P.encP p.prods) (cellsOf' P.encP y.q.prods)) ∧ (true = true ∧ List.length p.cons = List.length y.q.cons ∧ contLe (List.length p.cons) (2 : Nat) (cellsOf' encC p.cons) (cellsOf' encC y.q.cons)) ∧ True) ∧ ((0 : Int) = y.x.err ∧ (0 : Int) = y.x.off ∧ false = y.x.old ∧ List.length y.x.recs = (0 : Nat) ∧ True) ∧ ((0 : Nat) = (0 : Nat) ∧ (0 : Nat) = (0 : Nat)) ∧ True) ∧ (c.kind = c.kind ∧ (164 : Int) = y.e ∧ True) ∧ True)) ∧ (frB p c = false → ((y.e == (0 : Int)) = true → ((p.rng.lo = y.q.rng.lo ∧ p.rng.hi = y.q.rng.hi ∧ p.epoch = y.q.epoch ∧ (0 : Int) = y.q.frozen ∧ (true = true ∧ List.length p.recs = List.length y.q.recs ∧ contLe (List.length p.recs) (5 : Nat) (cellsOf' encR p.recs) (cellsOf' encR y.q.recs)) ∧ (true = true ∧ List.length p.prods = List.length y.q.prods ∧ contLe (List.length p.prods) (4 : Nat) (cellsOf' P.encP p.prods) (cellsOf' P.encP y.q.prods)) ∧ (true = true ∧ List.length p.cons = List.length y.q.cons ∧ contLe (List.length p.cons) (2 : Nat) (cellsOf' encC p.cons) (cellsOf' encC y.q.cons)) ∧ True) ∧ ((0 : Int) = y.x.err ∧ (0 : Int) = y.x.off ∧ (p.frozen == (0 : Int)) = y.x.old ∧ List.length y.x.recs = (0 : Nat) ∧ True) ∧ True ∧ True) ∧ True) ∧ ((y.e == (0 : Int)) = false → ((p.rng.lo = y.q.rng.lo ∧ p.rng.hi = y.q.rng.hi ∧ p.epoch = y.q.epoch ∧ (0 : Int) = y.q.frozen ∧ (true = true ∧ List.length p.recs = List.length y.q.recs ∧ contLe (List.length p.recs) (5 : Nat) (cellsOf' encR p.recs) (cellsOf' encR y.q.recs)) ∧ (true = true ∧ List.length p.prods = List.length y.q.prods ∧ contLe (List.length p.prods) (4 : Nat) (cellsOf' P.encP p.prods) (cellsOf' P.encP y.q.prods)) ∧ (true = true ∧ List.length p.cons = List.length y.q.cons ∧ contLe (List.length p.cons) (2 : Nat) (cellsOf' encC p.cons) (cellsOf' encC y.q.cons)) ∧ True) ∧ ((0 : Int) = y.x.err ∧ (0 : Int) = y.x.off ∧ (p.frozen == (0 : Int)) = y.x.old ∧ List.length y.x.recs = (0 : Nat) ∧ True) ∧ False ∧ True) ∧ False))) ∧ ((c.kind == (6 : Int)) = false → ((p.frozen != (0 : Int)) = true → ((y.e == (0 : Int)) = true → False) ∧ ((y.e == (0 : Int)) = false → ((p.rng.lo = y.q.rng.lo ∧ p.rng.hi = y.q.rng.hi ∧ p.epoch = y.q.epoch ∧ p.frozen = y.q.frozen ∧ (true = true ∧ List.length p.recs = List.length y.q.recs ∧ contLe (List.length p.recs) (5 : Nat) (cellsOf' encR p.recs) (cellsOf' encR y.q.recs)) ∧ (true = true ∧ List.length p.prods = List.length y.q.prods ∧ contLe (List.length p.prods) (4 : Nat) (cellsOf' P.encP p.prods) (cellsOf' P.encP y.q.prods)) ∧ (true = true ∧ List.length p.cons = List.length y.q.cons ∧ contLe (List.length p.cons) (2 : Nat) (cellsOf' encC p.cons) (cellsOf' encC y.q.cons)) ∧ True) ∧ ((0 : Int) = y.x.err ∧ (0 : Int) = y.x.off ∧ false = y.x.old ∧ List.length y.x.recs = (0 : Nat) ∧ True) ∧ ((0 : Nat) = (0 : Nat) ∧ (0 : Nat) = (0 : Nat)) ∧ True) ∧ (c.kind = c.kind ∧ (164 : Int) = y.e ∧ True) ∧ True)) ∧ ((p.frozen != (0 : Int)) = false → ((c.kind == (4 : Int)) = true → ((true = true ∧ List.length p.cons = List.length p.cons ∧ contLe (List.length p.cons) (2 : Nat) (cellsOf' encC p.cons) (cellsOf' encC p.cons)) ∧ c.name = c.name ∧ True) ∧ True ∧ List.length p.cons ≤ (9223372036854775806 : Nat) ∧ ((y.e == (0 : Int)) = true → ((p.rng.lo = y.q.rng.lo ∧ p.rng.hi = y.q.rng.hi ∧ p.epoch = y.q.epoch ∧ p.frozen = y.q.frozen ∧ (true = true ∧ List.length p.recs = List.length y.q.recs ∧ contLe (List.length p.recs) (5 : Nat) (cellsOf' encR p.recs) (cellsOf' encR y.q.recs)) ∧ (true = true ∧ List.length p.prods = List.length y.q.prods ∧ contLe (List.length p.prods) (4 : Nat) (cellsOf' P.encP p.prods) (cellsOf' P.encP y.q.prods)) ∧ (true = true ∧ List.length p.cons = List.length y.q.cons ∧ contLe (List.length p.cons) (2 : Nat) (cellsOf' encC p.cons) (cellsOf' encC y.q.cons)) ∧ True) ∧ ((0 : Int) = y.x.err ∧ readO p.cons c.name = y.x.off ∧ inC p.cons c.name = y.x.old ∧ List.length y.x.recs = (0 : Nat) ∧ True) ∧ True ∧ True) ∧ True) ∧ ((y.e == (0 : Int)) = false → ((p.rng.lo = y.q.rng.lo ∧ p.rng.hi = y.q.rng.hi ∧ p.epoch = y.q.epoch ∧ p.frozen = y.q.frozen ∧ (true = true ∧ List.length p.recs = List.length y.q.recs ∧ contLe (List.length p.recs) (5 : Nat) (cellsOf' encR p.recs) (cellsOf' encR y.q.recs)) ∧ (true = true ∧ List.length p.prods = List.length y.q.prods ∧ contLe (List.length p.prods) (4 : Nat) (cellsOf' P.encP p.prods) (cellsOf' P.encP y.q.prods)) ∧ (true = true ∧ List.length p.cons = List.length y.q.cons ∧ contLe (List.length p.cons) (2 : Nat) (cellsOf' encC p.cons) (cellsOf' encC y.q.cons)) ∧ True) ∧ ((0 : Int) = y.x.err ∧ readO p.cons c.name = y.x.off ∧ inC p.cons c.name = y.x.old ∧ List.length y.x.recs = (0 : Nat) ∧ True) ∧ False ∧ True) ∧ False)) ∧ ((c.kind == (4 : Int)) = false → ((c.kind == (2 : Int)) = true → ((true = true ∧ List.length p.recs = List.length p.recs ∧ contLe (List.length p.recs) (5 : Nat) (cellsOf' encR p.recs) (cellsOf' encR p.recs)) ∧ c.off = c.off ∧ c.most = c.most ∧ True) ∧ True ∧ (List.length p.recs ≤ (9223372036854775806 : Nat) ∧ (0 : Int) ≤ c.off) ∧ ((feE p.recs c.off == (0 : Int)) = true → (∀ (k : Nat), k < List.length (fetL p.recs c.off c.most) → ∀ (j : Nat), j < (5 : Nat) → tagT (cellsOf' encR (fetL p.recs c.off c.most) k j) = true) ∧ ((y.e == (0 : Int)) = true → ((p.rng.lo = y.q.rng.lo ∧ p.rng.hi = y.q.rng.hi ∧ p.epoch = y.q.epoch ∧ p.frozen = y.q.frozen ∧ (true = true ∧ List.length p.recs = List.length y.q.recs ∧ contLe (List.length p.recs) (5 : Nat) (cellsOf' encR p.recs) (cellsOf' encR y.q.recs)) ∧ (true = true ∧ List.length p.prods = List.length y.q.prods ∧ contLe (List.length p.prods) (4 : Nat) (cellsOf' P.encP p.prods) (cellsOf' P.encP y.q.prods)) ∧ (true = true ∧ List.length p.cons = List.length y.q.cons ∧ contLe (List.length p.cons) (2 : Nat) (cellsOf' encC p.cons) (cellsOf' encC y.q.cons)) ∧ True) ∧ ((0 : Int) = y.x.err ∧ IntKind.wrap IntKind.u64 (c.off + IntKind.wrap IntKind.u64 (↑(List.length (fetL p.recs c.off c.most)) : Int)) = y.x.off ∧ false = y.x.old ∧ (true = true ∧ List.length (fetL p.recs c.off c.most) = List.length y.x.recs ∧ contLe (List.length (fetL p.recs c.off c.most)) (5 : Nat) (Ax.rowAt (0 : Nat) (cellsOf' encR (fetL p.recs c.off c.most))) (cellsOf' encR y.x.recs)) ∧ True) ∧ True ∧ True) ∧ True) ∧ ((y.e == (0 : Int)) = false → ((p.rng.lo = y.q.rng.lo ∧ p.rng.hi = y.q.rng.hi ∧ p.epoch = y.q.epoch ∧ p.frozen = y.q.frozen ∧ (true = true ∧ List.length p.recs = List.length y.q.recs ∧ contLe (List.length p.recs) (5 : Nat) (cellsOf' encR p.recs) (cellsOf' encR y.q.recs)) ∧ (true = true ∧ List.length p.prods = List.length y.q.prods ∧ contLe (List.length p.prods) (4 : Nat) (cellsOf' P.encP p.prods) (cellsOf' P.encP y.q.prods)) ∧ (true = true ∧ List.length p.cons = List.length y.q.cons ∧ contLe (List.length p.cons) (2 : Nat) (cellsOf' encC p.cons) (cellsOf' encC y.q.cons)) ∧ True) ∧ ((0 : Int) = y.x.err ∧ IntKind.wrap IntKind.u64 (c.off + IntKind.wrap IntKind.u64 (↑(List.length (fetL p.recs c.off c.most)) : Int)) = y.x.off ∧ false = y.x.old ∧ (true = true ∧ List.length (fetL p.recs c.off c.most) = List.length y.x.recs ∧ contLe (List.length (fetL p.recs c.off c.most)) (5 : Nat) (Ax.rowAt (0 : Nat) (cellsOf' encR (fetL p.recs c.off c.most))) (cellsOf' encR y.x.recs)) ∧ True) ∧ False ∧ True) ∧ False)) ∧ ((feE p.recs c.off == (0 : Int)) = false → ((feE p.recs c.off == (0 : Int)) = true → ((y.e == (0 : Int)) = true → ((p.rng.lo = y.q.rng.lo ∧ p.rng.hi = y.q.rng.hi ∧ p.epoch = y.q.epoch ∧ p.frozen = y.q.frozen ∧ (true = true ∧ List.length p.recs = List.length y.q.recs ∧ contLe (List.length p.recs) (5 : Nat) (cellsOf' encR p.recs) (cellsOf' encR y.q.recs)) ∧ (true = true ∧ List.length p.prods = List.length y.q.prods ∧ contLe (List.length p.prods) (4 : Nat) (cellsOf' P.encP p.prods) (cellsOf' P.encP y.q.prods)) ∧ (true = true ∧ List.length p.cons = List.length y.q.cons ∧ contLe (List.length p.cons) (2 : Nat) (cellsOf' encC p.cons) (cellsOf' encC y.q.cons)) ∧ True) ∧ ((0 : Int) = y.x.err ∧ IntKind.wrap IntKind.u64 (c.off + (0 : Int)) = y.x.off ∧ false = y.x.old ∧ List.length y.x.recs = (0 : Nat) ∧ True) ∧ True ∧ True) ∧ True) ∧ ((y.e == (0 : Int)) = false → ((p.rng.lo = y.q.rng.lo ∧ p.rng.hi = y.q.rng.hi ∧ p.epoch = y.q.epoch ∧ p.frozen = y.q.frozen ∧ (true = true ∧ List.length p.recs = List.length y.q.recs ∧ contLe (List.length p.recs) (5 : Nat) (cellsOf' encR p.recs) (cellsOf' encR y.q.recs)) ∧ (true = true ∧ List.length p.prods = List.length y.q.prods ∧ contLe (List.length p.prods) (4 : Nat) (cellsOf' P.encP p.prods) (cellsOf' P.encP y.q.prods)) ∧ (true = true ∧ List.length p.cons = List.length y.q.cons ∧ contLe (List.length p.cons) (2 : Nat) (cellsOf' encC p.cons) (cellsOf' encC y.q.cons)) ∧ True) ∧ ((0 : Int) = y.x.err ∧ IntKind.wrap IntKind.u64 (c.off + (0 : Int)) = y.x.off ∧ false = y.x.old ∧ List.length y.x.recs = (0 : Nat) ∧ True) ∧ False ∧ True) ∧ False)) ∧ ((feE p.recs c.off == (0 : Int)) = false → ((y.e == (0 : Int)) = true → False) ∧ ((y.e == (0 : Int)) = false → ((p.rng.lo = y.q.rng.lo ∧ p.rng.hi = y.q.rng.hi ∧ p.epoch = y.q.epoch ∧ p.frozen = y.q.frozen ∧ (true = true ∧ List.length p.recs = List.length y.q.recs ∧ contLe (List.length p.recs) (5 : Nat) (cellsOf' encR p.recs) (cellsOf' encR y.q.recs)) ∧ (true = true ∧ List.length p.prods = List.length y.q.prods ∧ contLe (List.length p.prods) (4 : Nat) (cellsOf' P.encP p.prods) (cellsOf' P.encP y.q.prods)) ∧ (true = true ∧ List.length p.cons = List.length y.q.cons ∧ contLe (List.length p.cons) (2 : Nat) (cellsOf' encC p.cons) (cellsOf' encC y.q.cons)) ∧ True) ∧ ((0 : Int) = y.x.err ∧ IntKind.wrap IntKind.u64 (c.off + (0 : Int)) = y.x.off ∧ false = y.x.old ∧ List.length y.x.recs = (0 : Nat) ∧ True) ∧ ((0 : Nat) = (0 : Nat) ∧ (0 : Nat) = (0 : Nat)) ∧ True) ∧ (c.kind = c.kind ∧ feE p.recs c.off = y.e ∧ True) ∧ True)))) ∧ ((c.kind == (2 : Int)) = false → ((y.e == (0 : Int)) = true → ((p.rng.lo = y.q.rng.lo ∧ p.rng.hi = y.q.rng.hi ∧ p.epoch = y.q.epoch ∧ p.frozen = y.q.frozen ∧ (true = true ∧ List.length p.recs = List.length y.q.recs ∧ contLe (List.length p.recs) (5 : Nat) (cellsOf' encR p.recs) (cellsOf' encR y.q.recs)) ∧ (true = true ∧ List.length p.prods = List.length y.q.prods ∧ contLe (List.length p.prods) (4 : Nat) (cellsOf' P.encP p.prods) (cellsOf' P.encP y.q.prods)) ∧ (true = true ∧ List.length p.cons = List.length y.q.cons ∧ contLe (List.length p.cons) (2 : Nat) (cellsOf' encC p.cons) (cellsOf' encC y.q.cons)) ∧ True) ∧ ((0 : Int) = y.x.err ∧ (0 : Int) = y.x.off ∧ false = y.x.old ∧ List.length y.x.recs = (0 : Nat) ∧ True) ∧ True ∧ True) ∧ True) ∧ ((y.e == (0 : Int)) = false → ((p.rng.lo = y.q.rng.lo ∧ p.rng.hi = y.q.rng.hi ∧ p.epoch = y.q.epoch ∧ p.frozen = y.q.frozen ∧ (true = true ∧ List.length p.recs = List.length y.q.recs ∧ contLe (List.length p.recs) (5 : Nat) (cellsOf' encR p.recs) (cellsOf' encR y.q.recs)) ∧ (true = true ∧ List.length p.prods = List.length y.q.prods ∧ contLe (List.length p.prods) (4 : Nat) (cellsOf' P.encP p.prods) (cellsOf' P.encP y.q.prods)) ∧ (true = true ∧ List.length p.cons = List.length y.q.cons ∧ contLe (List.length p.cons) (2 : Nat) (cellsOf' encC p.cons) (cellsOf' encC y.q.cons)) ∧ True) ∧ ((0 : Int) = y.x.err ∧ (0 : Int) = y.x.off ∧ false = y.x.old ∧ List.length y.x.recs = (0 : Nat) ∧ True) ∧ False ∧ True) ∧ False))))))))
set_option maxRecDepth 1000000 in
theorem vcAc_eq (p : Part) (c : Cmd) (y : Act) : (ctrVC Tryz.prog (acH p c) 40 [.agg (encPt true p), .agg (encCm c)] [] (actT y.q y.x c y.e)) = vcAc p c y := by kernel_rfl
end Go.Proofs.YtnbhdjadlbhknaaGreatDoor.R

/-! Shards' states: act. -/
namespace Go.Proofs.YtnbhdjadlbhknaaGreatDoor.R
open Go.Ax
set_option maxRecDepth 1000000
theorem ac_c (p : Part) (c : Cmd) (h : PartIn p) (ho : 0 ≤ c.off ∧ c.off < 18446744073709551616) : (actT (actQ p c) (actX p c) c (actE p c)).Sat (ACall' Tryz.prog 40 [.agg (encPt true p), .agg (encCm c)] []) := by
  refine ctr_vc (ht := acH p c) Tryz.mixed rfl ?_
  rw [vcAc_eq p c ⟨actQ p c, actX p c, actE p c⟩]
  unfold vcAc
  dsimp only
  have h1 := h.rl
  have h3 := h.cl
  have hw : IntKind.u64.wrap c.off = c.off := wrap_u64 ho.1 (by omega)
  have q2 : p.recs.length ≤ 9223372036854775806 := by omega
  have q3 : p.cons.length ≤ 9223372036854775806 := by omega
  unfold actQ actX actE un9 byOf
  by_cases k1 : c.kind = 1
  · by_cases e0 : prE p c = 0
    · simp [k1, e0, h, prQ]
    · by_cases e9 : prE p c = 999
      · simp [k1, e9, h]
      · simp [k1, e0, e9, h]
  · by_cases k3 : c.kind = 3
    · by_cases e0 : cmE p c = 0
      · simp [k3, e0, h, cmQ]
      · by_cases e9 : cmE p c = 999
        · simp [k3, e9, h]
        · simp [k3, e0, e9, h]
    · by_cases k5 : c.kind = 5
      · cases f : frB p c <;> simp [k5, f, frQ]
      · by_cases k6 : c.kind = 6
        · cases f : frB p c <;> simp [k6, f, frQ]
        · by_cases fz : p.frozen = 0
          · by_cases k4 : c.kind = 4
            · simp [k4, fz, q3]
            · by_cases k2 : c.kind = 2
              · by_cases e0 : feE p.recs c.off = 0
                · have t := tRs (fetL p.recs c.off c.most)
                  simp [k2, fz, e0, q2, ho, hw]
                  exact t
                · simp [k2, fz, e0, q2, ho, hw]
              · simp [k1, k2, k3, k4, k5, k6, fz]
          · simp [k1, k3, k5, k6, fz]
/-- by the answer -/
structure ActR (p : Part) (c : Cmd) (q : Part) (x : Res) (e : Int) : Prop where
  s : (actT q x c e).Sat (ACall' Tryz.prog 40 [.agg (encPt true p), .agg (encCm c)] [])
noncomputable def arC (p : Part) (c : Cmd) (q : Part) (x : Res) (e : Int) : Ctr Tryz.prog := ⟨40, [.agg (encPt true p), .agg (encCm c)], [], .need (ActR p c q x e) (actT q x c e), T.Sat.need fun h => h.s⟩
/-! Do -/
def doQ (p : Part) (c : Cmd) (q : Part) (e : Int) : Part := if partOk p = false then default else if wellB c = false ∨ c.epoch ≠ p.epoch ∨ e ≠ 0 then p else q
def doX (p : Part) (c : Cmd) (x : Res) (e : Int) : Res := if partOk p = false then ⟨165, 0, false, []⟩ else if wellB c = false then ⟨161, 0, false, []⟩ else if c.epoch ≠ p.epoch then ⟨162, 0, false, []⟩ else if e ≠ 0 then ⟨e, 0, false, []⟩ else x
def doT (q : Part) (x : Res) : T An := .ret (.tup [.agg (encPt true q), .agg (encX x)], [], [])
noncomputable def doH (b : Bool) (p : Part) (c : Cmd) (y : Act) : HintsT Tryz.prog := withSub (hh _ noLp (cs1 13 1 1 (pcC b p) (cs1 13 3 1 (weC c) (cs1 13 4 1 (pownC b p) (cs1 13 6 1 (pownC b p) (cs1 13 7 1 (pownC b p) (cs1 13 7 3 (arC p c y.q y.x y.e) (cs1 13 10 1 (pownC b p) noCs))))))) noOp) [41, 113]
def vcDo (b : Bool) (p : Part) (c : Cmd) (y : Act) (z : Act) : Prop :=
  ((p.rng.lo = p.rng.lo ∧ p.rng.hi = p.rng.hi ∧ p.epoch = p.epoch ∧ p.frozen = p.frozen ∧ (b = b ∧ List.length p.recs = List.length p.recs ∧ contLe (List.length p.recs) (5 : Nat) (cellsOf' encR p.recs) (cellsOf' encR p.recs)) ∧ (b = b ∧ List.length p.prods = List.length p.prods ∧ contLe (List.length p.prods) (4 : Nat) (cellsOf' P.encP p.prods) (cellsOf' P.encP p.prods)) ∧ (b = b ∧ List.length p.cons = List.length p.cons ∧ contLe (List.length p.cons) (2 : Nat) (cellsOf' encC p.cons) (cellsOf' encC p.cons)) ∧ True) ∧ True) ∧ True ∧ PartIn p ∧ (partOk p = true → ((c.kind = c.kind ∧ c.epoch = c.epoch ∧ c.prod = c.prod ∧ c.seq = c.seq ∧ c.key = c.key ∧ (true = true ∧ List.length c.val = List.length c.val ∧ contLe (List.length c.val) (1 : Nat) (cellsOf' encB c.val) (cellsOf' encB c.val)) ∧ c.off = c.off ∧ c.most = c.most ∧ c.name = c.name ∧ c.plan = c.plan ∧ True) ∧ True) ∧ True ∧ ((!wellB c) = true → ((p.rng.lo = p.rng.lo ∧ p.rng.hi = p.rng.hi ∧ p.epoch = p.epoch ∧ p.frozen = p.frozen ∧ (b = b ∧ List.length p.recs = List.length p.recs ∧ contLe (List.length p.recs) (5 : Nat) (cellsOf' encR p.recs) (cellsOf' encR p.recs)) ∧ (b = b ∧ List.length p.prods = List.length p.prods ∧ contLe (List.length p.prods) (4 : Nat) (cellsOf' P.encP p.prods) (cellsOf' P.encP p.prods)) ∧ (b = b ∧ List.length p.cons = List.length p.cons ∧ contLe (List.length p.cons) (2 : Nat) (cellsOf' encC p.cons) (cellsOf' encC p.cons)) ∧ True) ∧ True) ∧ True ∧ PoOk p ∧ ((p.rng.lo = z.q.rng.lo ∧ p.rng.hi = z.q.rng.hi ∧ p.epoch = z.q.epoch ∧ p.frozen = z.q.frozen ∧ (true = true ∧ List.length p.recs = List.length z.q.recs ∧ contLe (List.length p.recs) (5 : Nat) (cellsOf' encR p.recs) (cellsOf' encR z.q.recs)) ∧ (true = true ∧ List.length p.prods = List.length z.q.prods ∧ contLe (List.length p.prods) (4 : Nat) (cellsOf' P.encP p.prods) (cellsOf' P.encP z.q.prods)) ∧ (true = true ∧ List.length p.cons = List.length z.q.cons ∧ contLe (List.length p.cons) (2 : Nat) (cellsOf' encC p.cons) (cellsOf' encC z.q.cons)) ∧ True) ∧ ((161 : Int) = z.x.err ∧ (0 : Int) = z.x.off ∧ false = z.x.old ∧ List.length z.x.recs = (0 : Nat) ∧ True) ∧ True) ∧ True) ∧ ((!wellB c) = false → ((c.epoch != p.epoch) = true → ((p.rng.lo = p.rng.lo ∧ p.rng.hi = p.rng.hi ∧ p.epoch = p.epoch ∧ p.frozen = p.frozen ∧ (b = b ∧ List.length p.recs = List.length p.recs ∧ contLe (List.length p.recs) (5 : Nat) (cellsOf' encR p.recs) (cellsOf' encR p.recs)) ∧ (b = b ∧ List.length p.prods = List.length p.prods ∧ contLe (List.length p.prods) (4 : Nat) (cellsOf' P.encP p.prods) (cellsOf' P.encP p.prods)) ∧ (b = b ∧ List.length p.cons = List.length p.cons ∧ contLe (List.length p.cons) (2 : Nat) (cellsOf' encC p.cons) (cellsOf' encC p.cons)) ∧ True) ∧ True) ∧ True ∧ PoOk p ∧ ((p.rng.lo = z.q.rng.lo ∧ p.rng.hi = z.q.rng.hi ∧ p.epoch = z.q.epoch ∧ p.frozen = z.q.frozen ∧ (true = true ∧ List.length p.recs = List.length z.q.recs ∧ contLe (List.length p.recs) (5 : Nat) (cellsOf' encR p.recs) (cellsOf' encR z.q.recs)) ∧ (true = true ∧ List.length p.prods = List.length z.q.prods ∧ contLe (List.length p.prods) (4 : Nat) (cellsOf' P.encP p.prods) (cellsOf' P.encP z.q.prods)) ∧ (true = true ∧ List.length p.cons = List.length z.q.cons ∧ contLe (List.length p.cons) (2 : Nat) (cellsOf' encC p.cons) (cellsOf' encC z.q.cons)) ∧ True) ∧ ((162 : Int) = z.x.err ∧ (0 : Int) = z.x.off ∧ false = z.x.old ∧ List.length z.x.recs = (0 : Nat) ∧ True) ∧ True) ∧ True) ∧ ((c.epoch != p.epoch) = false → ((p.rng.lo = p.rng.lo ∧ p.rng.hi = p.rng.hi ∧ p.epoch = p.epoch ∧ p.frozen = p.frozen ∧ (b = b ∧ List.length p.recs = List.length p.recs ∧ contLe (List.length p.recs) (5 : Nat) (cellsOf' encR p.recs) (cellsOf' encR p.recs)) ∧ (b = b ∧ List.length p.prods = List.length p.prods ∧ contLe (List.length p.prods) (4 : Nat) (cellsOf' P.encP p.prods) (cellsOf' P.encP p.prods)) ∧ (b = b ∧ List.length p.cons = List.length p.cons ∧ contLe (List.length p.cons) (2 : Nat) (cellsOf' encC p.cons) (cellsOf' encC p.cons)) ∧ True) ∧ True) ∧ True ∧ PoOk p ∧ ((p.rng.lo = p.rng.lo ∧ p.rng.hi = p.rng.hi ∧ p.epoch = p.epoch ∧ p.frozen = p.frozen ∧ (true = true ∧ List.length p.recs = List.length p.recs ∧ contLe (List.length p.recs) (5 : Nat) (cellsOf' encR p.recs) (cellsOf' encR p.recs)) ∧ (true = true ∧ List.length p.prods = List.length p.prods ∧ contLe (List.length p.prods) (4 : Nat) (cellsOf' P.encP p.prods) (cellsOf' P.encP p.prods)) ∧ (true = true ∧ List.length p.cons = List.length p.cons ∧ contLe (List.length p.cons) (2 : Nat) (cellsOf' encC p.cons) (cellsOf' encC p.cons)) ∧ True) ∧ (c.kind = c.kind ∧ c.epoch = c.epoch ∧ c.prod = c.prod ∧ c.seq = c.seq ∧ c.key = c.key ∧ (true = true ∧ List.length c.val = List.length c.val ∧ contLe (List.length c.val) (1 : Nat) (cellsOf' encB c.val) (cellsOf' encB c.val)) ∧ c.off = c.off ∧ c.most = c.most ∧ c.name = c.name ∧ c.plan = c.plan ∧ True) ∧ True) ∧ True ∧ ActR p c y.q y.x y.e ∧ ((y.e == (0 : Int)) = true → ((y.q.rng.lo = z.q.rng.lo ∧ y.q.rng.hi = z.q.rng.hi ∧ y.q.epoch = z.q.epoch ∧ y.q.frozen = z.q.frozen ∧ (true = true ∧ List.length y.q.recs = List.length z.q.recs ∧ contLe (List.length y.q.recs) (5 : Nat) (cellsOf' encR y.q.recs) (cellsOf' encR z.q.recs)) ∧ (true = true ∧ List.length y.q.prods = List.length z.q.prods ∧ contLe (List.length y.q.prods) (4 : Nat) (cellsOf' P.encP y.q.prods) (cellsOf' P.encP z.q.prods)) ∧ (true = true ∧ List.length y.q.cons = List.length z.q.cons ∧ contLe (List.length y.q.cons) (2 : Nat) (cellsOf' encC y.q.cons) (cellsOf' encC z.q.cons)) ∧ True) ∧ (y.x.err = z.x.err ∧ y.x.off = z.x.off ∧ y.x.old = z.x.old ∧ (true = true ∧ List.length y.x.recs = List.length z.x.recs ∧ contLe (List.length y.x.recs) (5 : Nat) (cellsOf' encR y.x.recs) (cellsOf' encR z.x.recs)) ∧ True) ∧ True) ∧ True) ∧ ((y.e == (0 : Int)) = false → true = true ∧ True ∧ ((p.rng.lo = p.rng.lo ∧ p.rng.hi = p.rng.hi ∧ p.epoch = p.epoch ∧ p.frozen = p.frozen ∧ (b = b ∧ List.length p.recs = List.length p.recs ∧ contLe (List.length p.recs) (5 : Nat) (cellsOf' encR p.recs) (cellsOf' encR p.recs)) ∧ (b = b ∧ List.length p.prods = List.length p.prods ∧ contLe (List.length p.prods) (4 : Nat) (cellsOf' P.encP p.prods) (cellsOf' P.encP p.prods)) ∧ (b = b ∧ List.length p.cons = List.length p.cons ∧ contLe (List.length p.cons) (2 : Nat) (cellsOf' encC p.cons) (cellsOf' encC p.cons)) ∧ True) ∧ True) ∧ True ∧ PoOk p ∧ ((p.rng.lo = z.q.rng.lo ∧ p.rng.hi = z.q.rng.hi ∧ p.epoch = z.q.epoch ∧ p.frozen = z.q.frozen ∧ (true = true ∧ List.length p.recs = List.length z.q.recs ∧ contLe (List.length p.recs) (5 : Nat) (cellsOf' encR p.recs) (cellsOf' encR z.q.recs)) ∧ (true = true ∧ List.length p.prods = List.length z.q.prods ∧ contLe (List.length p.prods) (4 : Nat) (cellsOf' P.encP p.prods) (cellsOf' P.encP z.q.prods)) ∧ (true = true ∧ List.length p.cons = List.length z.q.cons ∧ contLe (List.length p.cons) (2 : Nat) (cellsOf' encC p.cons) (cellsOf' encC z.q.cons)) ∧ True) ∧ (y.e = z.x.err ∧ (0 : Int) = z.x.off ∧ false = z.x.old ∧ List.length z.x.recs = (0 : Nat) ∧ True) ∧ True) ∧ True)))) ∧ (partOk p = false → (({ data := #[] : ByteArray } = z.q.rng.lo ∧ { data := #[] : ByteArray } = z.q.rng.hi ∧ (0 : Int) = z.q.epoch ∧ (0 : Int) = z.q.frozen ∧ List.length z.q.recs = (0 : Nat) ∧ List.length z.q.prods = (0 : Nat) ∧ List.length z.q.cons = (0 : Nat) ∧ True) ∧ ((165 : Int) = z.x.err ∧ (0 : Int) = z.x.off ∧ false = z.x.old ∧ List.length z.x.recs = (0 : Nat) ∧ True) ∧ True) ∧ True)
set_option maxRecDepth 1000000 in
theorem vcDo_eq (b : Bool) (p : Part) (c : Cmd) (y : Act) (z : Act) : (ctrVC Tryz.prog (doH b p c y) 13 [.agg (encPt b p), .agg (encCm c)] [] (doT z.q z.x)) = vcDo b p c y z := by kernel_rfl
end Go.Proofs.YtnbhdjadlbhknaaGreatDoor.R

/-! Shards' states: Do. -/
namespace Go.Proofs.YtnbhdjadlbhknaaGreatDoor.R
open Go.Ax
set_option maxRecDepth 1000000
theorem ok_len {p : Part} (h : partOk p = true) : p.recs.length ≤ 4096 ∧ p.prods.length ≤ 256 ∧ p.cons.length ≤ 64 := by
  obtain ⟨_, _, a, b, c, _⟩ := D.ok_parts h
  have h1 := log_len a
  simp [P.isTable] at b
  simp [isCons] at c
  exact ⟨h1, b.2, c.2⟩
theorem ok_po {p : Part} (h : partOk p = true) : PoOk p := by
  obtain ⟨h1, h2, h3⟩ := ok_len h
  have h4 := log_ow (D.ok_parts h).2.2.1
  exact ⟨h1, h4.v, by omega, by omega⟩
/-- what Do does -/
def dQ (p : Part) (c : Cmd) : Part := doQ p c (actQ p c) (actE p c)
def dX (p : Part) (c : Cmd) : Res := doX p c (actX p c) (actE p c)
theorem do_c (b : Bool) (p : Part) (c : Cmd) (h : PartIn p) (ho : 0 ≤ c.off ∧ c.off < 18446744073709551616) : (doT (dQ p c) (dX p c)).Sat (ACall' Tryz.prog 13 [.agg (encPt b p), .agg (encCm c)] []) := by
  have ha := ac_c p c h ho
  unfold dQ dX
  generalize actQ p c = q at *
  generalize actX p c = x at *
  generalize actE p c = e at *
  refine ctr_vc (ht := doH b p c ⟨q, x, e⟩) Tryz.mixed rfl ?_
  rw [vcDo_eq b p c ⟨q, x, e⟩ ⟨doQ p c q e, doX p c x e, 0⟩]
  unfold vcDo
  dsimp only
  have hr : ActR p c q x e := ⟨ha⟩
  have eb : ({ data := #[] } : ByteArray) = ByteArray.empty := rfl
  rw [eb]
  unfold doQ doX
  cases k0 : partOk p
  · simp [h]
    exact ⟨rfl, rfl, rfl, rfl, rfl, rfl, rfl⟩
  · have hp := ok_po k0
    cases k1 : wellB c
    · simp [h, hp]
    · by_cases k2 : c.epoch = p.epoch
      · by_cases k3 : e = 0
        · simp [h, hp, k2, k3, k3 ▸ hr]
        · simp [h, hp, k2, k3, hr]
      · simp [h, hp, k2]
structure DoR (p : Part) (c : Cmd) (q : Part) (x : Res) : Prop where
  q : q = dQ p c
  x : x = dX p c
  i : PartIn p
  o : 0 ≤ c.off ∧ c.off < 18446744073709551616
noncomputable def doC (b : Bool) (p : Part) (c : Cmd) (q : Part) (x : Res) : Ctr Tryz.prog := ⟨13, [.agg (encPt b p), .agg (encCm c)], [], .need (DoR p c q x) (doT q x), T.Sat.need fun h => by
  obtain ⟨rfl, rfl, h1, h2⟩ := h
  exact do_c b p c h1 h2⟩
end Go.Proofs.YtnbhdjadlbhknaaGreatDoor.R

/-! Shards' states: alike: the conditions. -/
namespace Go.Proofs.YtnbhdjadlbhknaaGreatDoor.R
open Go.Ax
set_option maxRecDepth 1000000
/-- the bytes of a value, as the model compares them -/
def byL (l : List Int) : List UInt8 := (List.range l.length).map fun k => UInt8.ofNat (l.getD k 0).toNat
def eqRc (x y : Rec) : Bool := x.off == y.off && (x.key.data.toList == y.key.data.toList && (byL x.val == byL y.val && (x.prod == y.prod && x.seq == y.seq)))
def sameF (a b : List Rec) (k : Nat) : Bool := (List.range' k (a.length - k)).all fun j => eqRc (a.getD j default) (b.getD j default)
def smT (b1 b2 : Bool) (a b : List Rec) (k : Nat) : List AV := mkT 82 [(0, encRs b1 a), (1, encRs b2 b), (4, .s (.bool false)), (5, .y (.int .i64 k))]
def smS (r : Bool) : Exit × List AV × List Blk := match r with
  | true => (.exit 0, mkT 82 [], [])
  | false => (.ret, mkT 82 [(4, .s (.bool false))], [])
def smO (a b : List Rec) (k : Nat) : T Bool := .ite (sameF a b k) (.ret true) (.ret false)
def vcSmL (b1 : Bool) (b2 : Bool) (a : List Rec) (b : List Rec) (k : Nat) : Prop :=
  (decide ((↑k : Int) < (↑(List.length a) : Int)) = true →
      (true && decide ((↑k : Int) < (↑(List.length a) : Int))) = true ∧
        (true && decide ((↑k : Int) < (↑(List.length b) : Int))) = true ∧
          (((List.getD a (Int.toNat (↑k : Int)) (@default Rec instInhabitedRec)).off != (List.getD b (Int.toNat (↑k : Int)) (@default Rec instInhabitedRec)).off) = true → (sameF a b k = true → False) ∧ (sameF a b k = false → (false = false ∧ True) ∧ True ∧ true = true)) ∧
            (((List.getD a (Int.toNat (↑k : Int)) (@default Rec instInhabitedRec)).off != (List.getD b (Int.toNat (↑k : Int)) (@default Rec instInhabitedRec)).off) = false →
              (true && decide ((↑k : Int) < (↑(List.length a) : Int))) = true ∧
                (true && decide ((↑k : Int) < (↑(List.length b) : Int))) = true ∧
                  ((!(List.getD a (Int.toNat (↑k : Int)) (@default Rec instInhabitedRec)).key.data.toList == (List.getD b (Int.toNat (↑k : Int)) (@default Rec instInhabitedRec)).key.data.toList) = true → (sameF a b k = true → False) ∧ (sameF a b k = false → (false = false ∧ True) ∧ True ∧ true = true)) ∧
                    ((!(List.getD a (Int.toNat (↑k : Int)) (@default Rec instInhabitedRec)).key.data.toList == (List.getD b (Int.toNat (↑k : Int)) (@default Rec instInhabitedRec)).key.data.toList) = false →
                      (true && decide ((↑k : Int) < (↑(List.length a) : Int))) = true ∧
                        (∀ (k_1 : Nat), k_1 < List.length (List.getD a (Int.toNat (↑k : Int)) (@default Rec instInhabitedRec)).val → true = true) ∧
                          (true && decide ((↑k : Int) < (↑(List.length b) : Int))) = true ∧
                            (∀ (k_1 : Nat), k_1 < List.length (List.getD b (Int.toNat (↑k : Int)) (@default Rec instInhabitedRec)).val → true = true) ∧
                              ((!List.map
                                          (fun (a : AV) =>
                                            match
                                              match a with
                                              | AV.s (Value.int IntKind.u8 n) => some n
                                              | AV.y (Value.int IntKind.u8 n) => some n
                                              | x => none with
                                            | some n => UInt8.ofNat (Int.toNat n)
                                            | none => (0 : UInt8))
                                          (List.map (fun (k_1 : Nat) => AV.y (Value.int IntKind.u8 (List.getD (List.getD a (Int.toNat (↑k : Int)) (@default Rec instInhabitedRec)).val k_1 (0 : Int)))) (List.range (List.length (List.getD a (Int.toNat (↑k : Int)) (@default Rec instInhabitedRec)).val))) ==
                                        List.map
                                          (fun (a : AV) =>
                                            match
                                              match a with
                                              | AV.s (Value.int IntKind.u8 n) => some n
                                              | AV.y (Value.int IntKind.u8 n) => some n
                                              | x => none with
                                            | some n => UInt8.ofNat (Int.toNat n)
                                            | none => (0 : UInt8))
                                          (List.map (fun (k_1 : Nat) => AV.y (Value.int IntKind.u8 (List.getD (List.getD b (Int.toNat (↑k : Int)) (@default Rec instInhabitedRec)).val k_1 (0 : Int)))) (List.range (List.length (List.getD b (Int.toNat (↑k : Int)) (@default Rec instInhabitedRec)).val)))) =
                                    true →
                                  (sameF a b k = true → False) ∧ (sameF a b k = false → (false = false ∧ True) ∧ True ∧ true = true)) ∧
                                ((!List.map
                                          (fun (a : AV) =>
                                            match
                                              match a with
                                              | AV.s (Value.int IntKind.u8 n) => some n
                                              | AV.y (Value.int IntKind.u8 n) => some n
                                              | x => none with
                                            | some n => UInt8.ofNat (Int.toNat n)
                                            | none => (0 : UInt8))
                                          (List.map (fun (k_1 : Nat) => AV.y (Value.int IntKind.u8 (List.getD (List.getD a (Int.toNat (↑k : Int)) (@default Rec instInhabitedRec)).val k_1 (0 : Int)))) (List.range (List.length (List.getD a (Int.toNat (↑k : Int)) (@default Rec instInhabitedRec)).val))) ==
                                        List.map
                                          (fun (a : AV) =>
                                            match
                                              match a with
                                              | AV.s (Value.int IntKind.u8 n) => some n
                                              | AV.y (Value.int IntKind.u8 n) => some n
                                              | x => none with
                                            | some n => UInt8.ofNat (Int.toNat n)
                                            | none => (0 : UInt8))
                                          (List.map (fun (k_1 : Nat) => AV.y (Value.int IntKind.u8 (List.getD (List.getD b (Int.toNat (↑k : Int)) (@default Rec instInhabitedRec)).val k_1 (0 : Int)))) (List.range (List.length (List.getD b (Int.toNat (↑k : Int)) (@default Rec instInhabitedRec)).val)))) =
                                    false →
                                  (true && decide ((↑k : Int) < (↑(List.length a) : Int))) = true ∧ (true && decide ((↑k : Int) < (↑(List.length b) : Int))) = true ∧ (((List.getD a (Int.toNat (↑k : Int)) (@default Rec instInhabitedRec)).prod != (List.getD b (Int.toNat (↑k : Int)) (@default Rec instInhabitedRec)).prod) = true → (sameF a b k = true → False) ∧ (sameF a b k = false → (false = false ∧ True) ∧ True ∧ true = true)) ∧ (((List.getD a (Int.toNat (↑k : Int)) (@default Rec instInhabitedRec)).prod != (List.getD b (Int.toNat (↑k : Int)) (@default Rec instInhabitedRec)).prod) = false → (true && decide ((↑k : Int) < (↑(List.length a) : Int))) = true ∧ (true && decide ((↑k : Int) < (↑(List.length b) : Int))) = true ∧ (((List.getD a (Int.toNat (↑k : Int)) (@default Rec instInhabitedRec)).seq != (List.getD b (Int.toNat (↑k : Int)) (@default Rec instInhabitedRec)).seq) = true → (sameF a b k = true → False) ∧ (sameF a b k = false → (false = false ∧ True) ∧ True ∧ true = true)) ∧ (((List.getD a (Int.toNat (↑k : Int)) (@default Rec instInhabitedRec)).seq != (List.getD b (Int.toNat (↑k : Int)) (@default Rec instInhabitedRec)).seq) = false → ∃ (j : Nat), List.length a - j < List.length a - k ∧ (((b1 = b1 ∧ List.length a = List.length a ∧ contLe (List.length a) (5 : Nat) (cellsOf' encR a) (cellsOf' encR a)) ∧ (b2 = b2 ∧ List.length b = List.length b ∧ contLe (List.length b) (5 : Nat) (cellsOf' encR b) (cellsOf' encR b)) ∧ false = false ∧ IntKind.wrap IntKind.i64 ((↑k : Int) + (1 : Int)) = (↑j : Int) ∧ True) ∧ True ∧ true = true) ∧ true = true ∧ (sameF a b j = true → (sameF a b k = true → true = true) ∧ (sameF a b k = false → true = false)) ∧ (sameF a b j = false → (sameF a b k = true → false = true) ∧ (sameF a b k = false → false = false)))))))) ∧
    (decide ((↑k : Int) < (↑(List.length a) : Int)) = false → (sameF a b k = true → True ∧ True ∧ true = true) ∧ (sameF a b k = false → False))
set_option maxRecDepth 1000000 in
theorem vcSmL_eq (b1 : Bool) (b2 : Bool) (a : List Rec) (b : List Rec) (k : Nat) : (loopVC Tryz.prog (hT _) 73 4 (fun k => a.length - k) (smT b1 b2 a b) (fun _ => []) [0, 1] (smO a b) smS k) = vcSmL b1 b2 a b k := by kernel_rfl
def eqCc (x y : Con) : Bool := x.name.data.toList == y.name.data.toList && x.off == y.off
def sameG (a b : List Con) (k : Nat) : Bool := (List.range' k (a.length - k)).all fun j => eqCc (a.getD j default) (b.getD j default)
def scT (b1 b2 : Bool) (a b : List Con) (k : Nat) : List AV := mkT 26 [(0, encCs b1 a), (1, encCs b2 b), (4, .s (.bool false)), (5, .y (.int .i64 k))]
def scS (r : Bool) : Exit × List AV × List Blk := match r with
  | true => (.exit 0, mkT 26 [], [])
  | false => (.ret, mkT 26 [(4, .s (.bool false))], [])
def scO (a b : List Con) (k : Nat) : T Bool := .ite (sameG a b k) (.ret true) (.ret false)
def vcScL (b1 : Bool) (b2 : Bool) (a : List Con) (b : List Con) (k : Nat) : Prop :=
  (decide ((↑k : Int) < (↑(List.length a) : Int)) = true → (true && decide ((↑k : Int) < (↑(List.length a) : Int))) = true ∧ (true && decide ((↑k : Int) < (↑(List.length b) : Int))) = true ∧ ((!((List.getD a (Int.toNat (↑k : Int)) (@default Con instInhabitedCon)).name.data.toList == (List.getD b (Int.toNat (↑k : Int)) (@default Con instInhabitedCon)).name.data.toList && ((List.getD a (Int.toNat (↑k : Int)) (@default Con instInhabitedCon)).off == (List.getD b (Int.toNat (↑k : Int)) (@default Con instInhabitedCon)).off && true))) = true → (sameG a b k = true → False) ∧ (sameG a b k = false → (false = false ∧ True) ∧ True ∧ true = true)) ∧ ((!((List.getD a (Int.toNat (↑k : Int)) (@default Con instInhabitedCon)).name.data.toList == (List.getD b (Int.toNat (↑k : Int)) (@default Con instInhabitedCon)).name.data.toList && ((List.getD a (Int.toNat (↑k : Int)) (@default Con instInhabitedCon)).off == (List.getD b (Int.toNat (↑k : Int)) (@default Con instInhabitedCon)).off && true))) = false → ∃ (j : Nat), List.length a - j < List.length a - k ∧ (((b1 = b1 ∧ List.length a = List.length a ∧ contLe (List.length a) (2 : Nat) (cellsOf' encC a) (cellsOf' encC a)) ∧ (b2 = b2 ∧ List.length b = List.length b ∧ contLe (List.length b) (2 : Nat) (cellsOf' encC b) (cellsOf' encC b)) ∧ false = false ∧ IntKind.wrap IntKind.i64 ((↑k : Int) + (1 : Int)) = (↑j : Int) ∧ True) ∧ True ∧ true = true) ∧ true = true ∧ (sameG a b j = true → (sameG a b k = true → true = true) ∧ (sameG a b k = false → true = false)) ∧ (sameG a b j = false → (sameG a b k = true → false = true) ∧ (sameG a b k = false → false = false)))) ∧ (decide ((↑k : Int) < (↑(List.length a) : Int)) = false → (sameG a b k = true → True ∧ True ∧ true = true) ∧ (sameG a b k = false → False))
set_option maxRecDepth 1000000 in
theorem vcScL_eq (b1 : Bool) (b2 : Bool) (a : List Con) (b : List Con) (k : Nat) : (loopVC Tryz.prog (hT _) 75 4 (fun k => a.length - k) (scT b1 b2 a b) (fun _ => []) [0, 1] (scO a b) scS k) = vcScL b1 b2 a b k := by kernel_rfl
end Go.Proofs.YtnbhdjadlbhknaaGreatDoor.R

/-! Shards' states: alike. -/
namespace Go.Proofs.YtnbhdjadlbhknaaGreatDoor.R
open Go.Ax
set_option maxRecDepth 1000000
theorem sameG_end {a b : List Con} {k : Nat} (h : a.length ≤ k) : sameG a b k = true := by
  unfold sameG
  rw [show a.length - k = 0 by omega]; rfl
theorem sameG_step {a b : List Con} {k : Nat} (h : k < a.length) : sameG a b k = (eqCc (a.getD k default) (b.getD k default) && sameG a b (k + 1)) := by
  unfold sameG
  rw [show a.length - k = (a.length - (k + 1)) + 1 by omega, List.range'_succ]; rfl
theorem sameF_end {a b : List Rec} {k : Nat} (h : a.length ≤ k) : sameF a b k = true := by
  unfold sameF
  rw [show a.length - k = 0 by omega]; rfl
theorem sameF_step {a b : List Rec} {k : Nat} (h : k < a.length) : sameF a b k = (eqRc (a.getD k default) (b.getD k default) && sameF a b (k + 1)) := by
  unfold sameF
  rw [show a.length - k = (a.length - (k + 1)) + 1 by omega, List.range'_succ]; rfl
theorem sc_loop (b1 b2 : Bool) (a b : List Con) (hl : a.length ≤ 9223372036854775806) (he : a.length = b.length) (k : Nat) : LoopOk Tryz.prog 75 4 (loopAt Tryz.prog 75 4) ⟨scT b1 b2 a b k, [], []⟩ ((scO a b k).map (lout [0, 1] scS)) := by
  refine loop_vc Tryz.mixed (fun _ => rfl) (fun k => (vcScL_eq b1 b2 a b k).mpr ?_) k
  unfold vcScL
  by_cases h : k < a.length
  · have hz : decide ((k : Int) < a.length) = true := by simp; omega
    have hz2 : decide ((k : Int) < b.length) = true := by simp; omega
    have hw : IntKind.i64.wrap ((k : Int) + 1) = ((k + 1 : Nat) : Int) := by rw [wrap_i64 (by omega) (by omega)]; omega
    rw [sameG_step h, Int.toNat_natCast]
    simp only [hz, hz2, hw]
    unfold eqCc
    generalize ((a.getD k default).name.data.toList == (b.getD k default).name.data.toList) = q1
    generalize ((a.getD k default).off == (b.getD k default).off) = q2
    cases q1 <;> cases q2 <;> simp
    exact ⟨k + 1, by omega, by omega, by simp⟩
  · have hz : decide ((k : Int) < a.length) = false := by simp; omega
    simp only [hz, sameG_end (b := b) (Nat.le_of_not_lt h)]
    simp
theorem sm_loop (b1 b2 : Bool) (a b : List Rec) (hl : a.length ≤ 9223372036854775806) (he : a.length = b.length) (k : Nat) : LoopOk Tryz.prog 73 4 (loopAt Tryz.prog 73 4) ⟨smT b1 b2 a b k, [], []⟩ ((smO a b k).map (lout [0, 1] smS)) := by
  refine loop_vc Tryz.mixed (fun _ => rfl) (fun k => (vcSmL_eq b1 b2 a b k).mpr ?_) k
  unfold vcSmL
  by_cases h : k < a.length
  · have hz : decide ((k : Int) < a.length) = true := by simp; omega
    have hz2 : decide ((k : Int) < b.length) = true := by simp; omega
    have hw : IntKind.i64.wrap ((k : Int) + 1) = ((k + 1 : Nat) : Int) := by rw [wrap_i64 (by omega) (by omega)]; omega
    rw [sameF_step h, Int.toNat_natCast]
    simp only [hz, hz2, hw, List.map_map, Function.comp_def]
    unfold eqRc byL
    generalize ((a.getD k default).key.data.toList == (b.getD k default).key.data.toList) = q1
    generalize (List.map (fun (i : Nat) => UInt8.ofNat (Int.toNat (List.getD (a.getD k default).val i 0))) (List.range (a.getD k default).val.length) == List.map (fun (i : Nat) => UInt8.ofNat (Int.toNat (List.getD (b.getD k default).val i 0))) (List.range (b.getD k default).val.length)) = q2
    have n1 : ((a.getD k default).off != (b.getD k default).off) = !((a.getD k default).off == (b.getD k default).off) := rfl
    have n2 : ((a.getD k default).prod != (b.getD k default).prod) = !((a.getD k default).prod == (b.getD k default).prod) := rfl
    have n3 : ((a.getD k default).seq != (b.getD k default).seq) = !((a.getD k default).seq == (b.getD k default).seq) := rfl
    rw [n1, n2, n3]
    generalize ((a.getD k default).off == (b.getD k default).off) = q3
    generalize ((a.getD k default).prod == (b.getD k default).prod) = q4
    generalize ((a.getD k default).seq == (b.getD k default).seq) = q5
    cases q1 <;> cases q2 <;> cases q3 <;> cases q4 <;> cases q5 <;> simp
    exact ⟨k + 1, by omega, by omega, by simp⟩
  · have hz : decide ((k : Int) < a.length) = false := by simp; omega
    simp only [hz, sameF_end (b := b) (Nat.le_of_not_lt h)]
    simp
end Go.Proofs.YtnbhdjadlbhknaaGreatDoor.R

/-! Producers: lives; the law ProducersMoves. -/
namespace Go.Proofs.YtnbhdjadlbhknaaGreatDoor.P
open Go.Ax
set_option maxRecDepth 1000000
noncomputable def sameN (b1 b2 : Bool) (a b : List Producer) : Ctr Tryz.prog := ⟨74, [encPs b1 a, encPs b2 b], [], .need (a.length ≤ 9223372036854775806) (smR a b), T.Sat.need fun h => same_c b1 b2 a b h⟩
structure Two where
  a : List Producer
  b : List Producer
  ta : List Int
  tb : List Int
structure Two.Ok (x : Two) : Prop where
  a : x.a.length * 32 ≤ 140737488355200
  b : x.b.length * 32 ≤ 140737488355200
  ta : x.ta.length ≤ 9223372036854775806
  tb : x.tb.length ≤ 9223372036854775806
  oa : ∀ y ∈ x.a, 0 ≤ y.offset ∧ y.offset < 18446744073709551616
  ob : ∀ y ∈ x.b, 0 ≤ y.offset ∧ y.offset < 18446744073709551616
end Go.Proofs.YtnbhdjadlbhknaaGreatDoor.P

/-! Shards' states: alike: states, results: the conditions. -/
namespace Go.Proofs.YtnbhdjadlbhknaaGreatDoor.R
open Go.Ax
set_option maxRecDepth 1000000
def sameRs (a b : List Rec) : Bool := (a.length == b.length) && sameF a b 0
def sameCs (a b : List Con) : Bool := (a.length == b.length) && sameG a b 0
noncomputable def smH (b1 b2 : Bool) (a b : List Rec) : HintsT Tryz.prog := hh _ (lp1 73 4 (jobOf (smT b1 b2 a b) (fun _ => []) [0, 1] (smO a b) smS 0) noLp) noCs noOp
def vcSm (b1 : Bool) (b2 : Bool) (a : List Rec) (b : List Rec) : Prop :=
  (((↑(List.length a) : Int) != (↑(List.length b) : Int)) = true → false = sameRs a b ∧ True) ∧ (((↑(List.length a) : Int) != (↑(List.length b) : Int)) = false → (((b1 = b1 ∧ List.length a = List.length a ∧ contLe (List.length a) (5 : Nat) (cellsOf' encR a) (cellsOf' encR a)) ∧ (b2 = b2 ∧ List.length b = List.length b ∧ contLe (List.length b) (5 : Nat) (cellsOf' encR b) (cellsOf' encR b)) ∧ false = false ∧ (0 : Int) = (0 : Int) ∧ True) ∧ True ∧ true = true) ∧ LoopOk Tryz.prog (73 : Nat) (4 : Nat) (loopAt Tryz.prog (73 : Nat) (4 : Nat)) { t := smT b1 b2 a b (0 : Nat), m := [], mv := [] : St } (T.map (lout [(0 : Nat), (1 : Nat)] smS) (smO a b (0 : Nat))) ∧ (sameF a b (0 : Nat) = true → true = sameRs a b ∧ True) ∧ (sameF a b (0 : Nat) = false → false = sameRs a b ∧ True))
set_option maxRecDepth 1000000 in
theorem vcSm_eq (b1 : Bool) (b2 : Bool) (a : List Rec) (b : List Rec) : (ctrVC Tryz.prog (smH b1 b2 a b) 73 [encRs b1 a, encRs b2 b] [] (boolR (sameRs a b))) = vcSm b1 b2 a b := by kernel_rfl
noncomputable def scH (b1 b2 : Bool) (a b : List Con) : HintsT Tryz.prog := hh _ (lp1 75 4 (jobOf (scT b1 b2 a b) (fun _ => []) [0, 1] (scO a b) scS 0) noLp) noCs noOp
def vcSc (b1 : Bool) (b2 : Bool) (a : List Con) (b : List Con) : Prop :=
  (((↑(List.length a) : Int) != (↑(List.length b) : Int)) = true → false = sameCs a b ∧ True) ∧ (((↑(List.length a) : Int) != (↑(List.length b) : Int)) = false → (((b1 = b1 ∧ List.length a = List.length a ∧ contLe (List.length a) (2 : Nat) (cellsOf' encC a) (cellsOf' encC a)) ∧ (b2 = b2 ∧ List.length b = List.length b ∧ contLe (List.length b) (2 : Nat) (cellsOf' encC b) (cellsOf' encC b)) ∧ false = false ∧ (0 : Int) = (0 : Int) ∧ True) ∧ True ∧ true = true) ∧ LoopOk Tryz.prog (75 : Nat) (4 : Nat) (loopAt Tryz.prog (75 : Nat) (4 : Nat)) { t := scT b1 b2 a b (0 : Nat), m := [], mv := [] : St } (T.map (lout [(0 : Nat), (1 : Nat)] scS) (scO a b (0 : Nat))) ∧ (sameG a b (0 : Nat) = true → true = sameCs a b ∧ True) ∧ (sameG a b (0 : Nat) = false → false = sameCs a b ∧ True))
set_option maxRecDepth 1000000 in
theorem vcSc_eq (b1 : Bool) (b2 : Bool) (a : List Con) (b : List Con) : (ctrVC Tryz.prog (scH b1 b2 a b) 75 [encCs b1 a, encCs b2 b] [] (boolR (sameCs a b))) = vcSc b1 b2 a b := by kernel_rfl
theorem sm_c (b1 b2 : Bool) (a b : List Rec) (hl : a.length ≤ 9223372036854775806) : (boolR (sameRs a b)).Sat (ACall' Tryz.prog 73 [encRs b1 a, encRs b2 b] []) := by
  refine ctr_vc (ht := smH b1 b2 a b) Tryz.mixed rfl ?_
  rw [vcSm_eq b1 b2 a b]
  unfold vcSm
  by_cases he : a.length = b.length
  · have := sm_loop b1 b2 a b hl he 0
    simp [sameRs, he, this]
  · have he' : ¬ ((a.length : Int) = b.length) := by omega
    simp [sameRs, he, he']
theorem sc_c (b1 b2 : Bool) (a b : List Con) (hl : a.length ≤ 9223372036854775806) : (boolR (sameCs a b)).Sat (ACall' Tryz.prog 75 [encCs b1 a, encCs b2 b] []) := by
  refine ctr_vc (ht := scH b1 b2 a b) Tryz.mixed rfl ?_
  rw [vcSc_eq b1 b2 a b]
  unfold vcSc
  by_cases he : a.length = b.length
  · have := sc_loop b1 b2 a b hl he 0
    simp [sameCs, he, this]
  · have he' : ¬ ((a.length : Int) = b.length) := by omega
    simp [sameCs, he, he']
end Go.Proofs.YtnbhdjadlbhknaaGreatDoor.R

/-! Shards' states: alike: states, results; lives: the conditions. -/
namespace Go.Proofs.YtnbhdjadlbhknaaGreatDoor.R
open Go.Ax
set_option maxRecDepth 1000000
noncomputable def smC (b1 b2 : Bool) (a b : List Rec) : Ctr Tryz.prog := ⟨73, [encRs b1 a, encRs b2 b], [], .need (a.length ≤ 9223372036854775806) (boolR (sameRs a b)), T.Sat.need fun h => sm_c b1 b2 a b h⟩
noncomputable def scC' (b1 b2 : Bool) (a b : List Con) : Ctr Tryz.prog := ⟨75, [encCs b1 a, encCs b2 b], [], .need (a.length ≤ 9223372036854775806) (boolR (sameCs a b)), T.Sat.need fun h => sc_c b1 b2 a b h⟩
def samePt (p q : Part) : Bool := sameRs p.recs q.recs && (P.sameP p.prods q.prods && (sameCs p.cons q.cons && ((p.rng.lo.data.toList == q.rng.lo.data.toList && p.rng.hi.data.toList == q.rng.hi.data.toList) && (p.epoch == q.epoch && p.frozen == q.frozen))))
noncomputable def sptH (b1 b2 : Bool) (p q : Part) : HintsT Tryz.prog := hh _ noLp (cs1 19 1 4 (smC b1 b2 p.recs q.recs) (cs1 19 2 4 (P.sameN b1 b2 p.prods q.prods) (cs1 19 3 4 (scC' b1 b2 p.cons q.cons) noCs))) noOp
def vcSpt (b1 : Bool) (b2 : Bool) (p : Part) (q : Part) : Prop :=
  ((b1 = b1 ∧ List.length p.recs = List.length p.recs ∧ contLe (List.length p.recs) (5 : Nat) (cellsOf' encR p.recs) (cellsOf' encR p.recs)) ∧ (b2 = b2 ∧ List.length q.recs = List.length q.recs ∧ contLe (List.length q.recs) (5 : Nat) (cellsOf' encR q.recs) (cellsOf' encR q.recs)) ∧ True) ∧ True ∧ List.length p.recs ≤ (9223372036854775806 : Nat) ∧ ((b1 = b1 ∧ List.length p.prods = List.length p.prods ∧ contLe (List.length p.prods) (4 : Nat) (cellsOf' P.encP p.prods) (cellsOf' P.encP p.prods)) ∧ (b2 = b2 ∧ List.length q.prods = List.length q.prods ∧ contLe (List.length q.prods) (4 : Nat) (cellsOf' P.encP q.prods) (cellsOf' P.encP q.prods)) ∧ True) ∧ True ∧ List.length p.prods ≤ (9223372036854775806 : Nat) ∧ ((b1 = b1 ∧ List.length p.cons = List.length p.cons ∧ contLe (List.length p.cons) (2 : Nat) (cellsOf' encC p.cons) (cellsOf' encC p.cons)) ∧ (b2 = b2 ∧ List.length q.cons = List.length q.cons ∧ contLe (List.length q.cons) (2 : Nat) (cellsOf' encC q.cons) (cellsOf' encC q.cons)) ∧ True) ∧ True ∧ List.length p.cons ≤ (9223372036854775806 : Nat) ∧ (sameRs p.recs q.recs = true → (P.sameP p.prods q.prods = true → (sameCs p.cons q.cons = true → ((p.rng.lo.data.toList == q.rng.lo.data.toList && (p.rng.hi.data.toList == q.rng.hi.data.toList && true)) = true → ((p.epoch == q.epoch) = true → (p.frozen == q.frozen) = samePt p q ∧ True) ∧ ((p.epoch == q.epoch) = false → false = samePt p q ∧ True)) ∧ ((p.rng.lo.data.toList == q.rng.lo.data.toList && (p.rng.hi.data.toList == q.rng.hi.data.toList && true)) = false → false = samePt p q ∧ True)) ∧ (sameCs p.cons q.cons = false → false = samePt p q ∧ True)) ∧ (P.sameP p.prods q.prods = false → false = samePt p q ∧ True)) ∧ (sameRs p.recs q.recs = false → false = samePt p q ∧ True)
set_option maxRecDepth 1000000 in
theorem vcSpt_eq (b1 : Bool) (b2 : Bool) (p : Part) (q : Part) : (ctrVC Tryz.prog (sptH b1 b2 p q) 19 [.agg (encPt b1 p), .agg (encPt b2 q)] [] (boolR (samePt p q))) = vcSpt b1 b2 p q := by kernel_rfl
theorem spt_c (b1 b2 : Bool) (p q : Part) (h : PartIn p) : (boolR (samePt p q)).Sat (ACall' Tryz.prog 19 [.agg (encPt b1 p), .agg (encPt b2 q)] []) := by
  refine ctr_vc (ht := sptH b1 b2 p q) Tryz.mixed rfl ?_
  rw [vcSpt_eq b1 b2 p q]
  unfold vcSpt samePt
  have h1 := h.rl
  have h2 := h.pl
  have h3 := h.cl
  have g1 : p.recs.length ≤ 9223372036854775806 := by omega
  have g2 : p.prods.length ≤ 9223372036854775806 := by omega
  have g3 : p.cons.length ≤ 9223372036854775806 := by omega
  generalize sameRs p.recs q.recs = q1
  generalize P.sameP p.prods q.prods = q2
  generalize sameCs p.cons q.cons = q3
  generalize (p.rng.lo.data.toList == q.rng.lo.data.toList) = q4
  generalize (p.rng.hi.data.toList == q.rng.hi.data.toList) = q5
  generalize (p.epoch == q.epoch) = q6
  generalize (p.frozen == q.frozen) = q7
  cases q1 <;> cases q2 <;> cases q3 <;> cases q4 <;> cases q5 <;> cases q6 <;> simp [g1, g2, g3]
end Go.Proofs.YtnbhdjadlbhknaaGreatDoor.R

/-! Shards' states: lives. -/
namespace Go.Proofs.YtnbhdjadlbhknaaGreatDoor.R
open Go.Ax
set_option maxRecDepth 1000000
def kS : ByteArray := ⟨#[107]⟩
def prC1 (s : Int) (k : ByteArray) : Cmd := ⟨1, 1, 7, s, k, [118], 0, 0, ByteArray.empty, 0⟩
def cmdR (c : Cmd) : T An := .ret (.agg (encCm c), [], [])
def vcPro (s : Int) (k : ByteArray) : Prop :=
  ((1 : Int) = (1 : Int) ∧ (1 : Int) = (1 : Int) ∧ (7 : Int) = (7 : Int) ∧ s = s ∧ k = k ∧ (true = true ∧ (1 : Nat) = (1 : Nat) ∧ contLe (1 : Nat) (1 : Nat) (Ax.rowAt (0 : Nat) fun (k j : Nat) => Ax.get [AV.s (Value.int IntKind.u8 (118 : Int))] (k * (1 : Nat) + j)) (cellsOf' encB [(118 : Int)])) ∧ (0 : Int) = (0 : Int) ∧ (0 : Int) = (0 : Int) ∧ { data := #[] : ByteArray } = ByteArray.empty ∧ (0 : Int) = (0 : Int) ∧ True) ∧ True
set_option maxRecDepth 1000000 in
theorem vcPro_eq (s : Int) (k : ByteArray) : (ctrVC Tryz.prog (hT _) 12 [.y (.int .u64 s), .y (.string k)] [] (cmdR (prC1 s k))) = vcPro s k := by kernel_rfl
theorem pro_c (s : Int) (k : ByteArray) : (cmdR (prC1 s k)).Sat (ACall' Tryz.prog 12 [.y (.int .u64 s), .y (.string k)] []) := by
  refine ctr_vc (ht := hT _) Tryz.mixed rfl ?_
  rw [vcPro_eq s k]
  unfold vcPro
  have eb : ({ data := #[] } : ByteArray) = ByteArray.empty := rfl
  simp [eb]
  intro i hi j hj
  obtain rfl : i = 0 := by omega
  obtain rfl : j = 0 := by omega
  exact rfl
noncomputable def proC (s : Int) (k : ByteArray) : Ctr Tryz.prog := ⟨12, [.y (.int .u64 s), .y (.string k)], [], cmdR (prC1 s k), pro_c s k⟩
def p0 : Part := ⟨⟨ByteArray.empty, ByteArray.empty⟩, 1, 0, [], [], []⟩
def q0 : Part := ⟨⟨ByteArray.empty, ByteArray.empty⟩, 1, 0, [⟨0, kS, [118], 7, 1⟩], [⟨7, 1, true, 0⟩], []⟩
noncomputable def lvH : HintsT Tryz.prog := hh _ noLp (cs1 10 2 1 (proC 1 kS) (cs1 10 2 2 (doC true p0 (prC1 1 kS) q0 ⟨0, 0, false, []⟩) (cs1 10 3 1 (proC 1 kS) (cs1 10 3 2 (doC true q0 (prC1 1 kS) q0 ⟨0, 0, true, []⟩) noCs)))) noOp
def vcLv (u : Unit) : Prop :=
  ((1 : Int) = (1 : Int) ∧ { data := #[(107 : UInt8)] : ByteArray } = kS ∧ True) ∧ True ∧ (({ data := #[] : ByteArray } = ByteArray.empty ∧ { data := #[] : ByteArray } = ByteArray.empty ∧ (1 : Int) = (1 : Int) ∧ (0 : Int) = (0 : Int) ∧ (0 : Nat) = (0 : Nat) ∧ (0 : Nat) = (0 : Nat) ∧ (0 : Nat) = (0 : Nat) ∧ True) ∧ ((1 : Int) = (1 : Int) ∧ (1 : Int) = (1 : Int) ∧ (7 : Int) = (7 : Int) ∧ (1 : Int) = (1 : Int) ∧ kS = kS ∧ (true = true ∧ (1 : Nat) = (1 : Nat) ∧ contLe (1 : Nat) (1 : Nat) (cellsOf' encB [(118 : Int)]) (cellsOf' encB [(118 : Int)])) ∧ (0 : Int) = (0 : Int) ∧ (0 : Int) = (0 : Int) ∧ ByteArray.empty = ByteArray.empty ∧ (0 : Int) = (0 : Int) ∧ True) ∧ True) ∧ True ∧ DoR p0 (prC1 (1 : Int) kS) q0 { err := (0 : Int), off := (0 : Int), old := false, recs := [] : Res } ∧ ((1 : Int) = (1 : Int) ∧ { data := #[(107 : UInt8)] : ByteArray } = kS ∧ True) ∧ True ∧ ((ByteArray.empty = ByteArray.empty ∧ ByteArray.empty = ByteArray.empty ∧ (1 : Int) = (1 : Int) ∧ (0 : Int) = (0 : Int) ∧ (true = true ∧ (1 : Nat) = (1 : Nat) ∧ contLe (1 : Nat) (5 : Nat) (cellsOf' encR [{ off := (0 : Int), key := kS, val := [(118 : Int)], prod := (7 : Int), seq := (1 : Int) : Rec }]) (cellsOf' encR [{ off := (0 : Int), key := kS, val := [(118 : Int)], prod := (7 : Int), seq := (1 : Int) : Rec }])) ∧ (true = true ∧ (1 : Nat) = (1 : Nat) ∧ contLe (1 : Nat) (4 : Nat) (cellsOf' P.encP [{ id := (7 : Int), seq := (1 : Int), here := true, offset := (0 : Int) : P.Producer }]) (cellsOf' P.encP [{ id := (7 : Int), seq := (1 : Int), here := true, offset := (0 : Int) : P.Producer }])) ∧ (true = true ∧ (0 : Nat) = (0 : Nat) ∧ contLe (0 : Nat) (2 : Nat) (cellsOf' encC []) (cellsOf' encC [])) ∧ True) ∧ ((1 : Int) = (1 : Int) ∧ (1 : Int) = (1 : Int) ∧ (7 : Int) = (7 : Int) ∧ (1 : Int) = (1 : Int) ∧ kS = kS ∧ (true = true ∧ (1 : Nat) = (1 : Nat) ∧ contLe (1 : Nat) (1 : Nat) (cellsOf' encB [(118 : Int)]) (cellsOf' encB [(118 : Int)])) ∧ (0 : Int) = (0 : Int) ∧ (0 : Int) = (0 : Int) ∧ ByteArray.empty = ByteArray.empty ∧ (0 : Int) = (0 : Int) ∧ True) ∧ True) ∧ True ∧ DoR q0 (prC1 (1 : Int) kS) q0 { err := (0 : Int), off := (0 : Int), old := true, recs := [] : Res } ∧ (true = true → (true = true → (true = true → true = true ∧ True) ∧ (true = false → false = true ∧ True)) ∧ (true = false → false = true ∧ True)) ∧ (true = false → false = true ∧ True)
set_option maxRecDepth 1000000 in
theorem vcLv_eq (u : Unit) : (ctrVC Tryz.prog lvH 10 [] [] (boolR true)) = vcLv u := by kernel_rfl
theorem in_p0 : PartIn p0 := ⟨by decide, by decide, by decide, fun k hk => by cases hk⟩
theorem in_q0 : PartIn q0 := ⟨by decide, by decide, by decide, fun k hk => by
  have hk : k < 1 := hk
  obtain rfl : k = 0 := by omega
  decide⟩
theorem do_p0 : DoR p0 (prC1 1 kS) q0 ⟨0, 0, false, []⟩ := ⟨by kernel_rfl, by kernel_rfl, in_p0, by decide⟩
theorem do_q0 : DoR q0 (prC1 1 kS) q0 ⟨0, 0, true, []⟩ := ⟨by kernel_rfl, by kernel_rfl, in_q0, by decide⟩
theorem lv_c : (boolR true).Sat (ACall' Tryz.prog 10 [] []) := by
  refine ctr_vc (ht := lvH) Tryz.mixed rfl ?_
  rw [vcLv_eq ()]
  unfold vcLv
  have eb : ({ data := #[] } : ByteArray) = ByteArray.empty := rfl
  have ek : ({ data := #[107] } : ByteArray) = kS := rfl
  have h1 := do_p0
  have h2 := do_q0
  simp [eb, ek, h1, h2]
noncomputable def livC : Ctr Tryz.prog := ⟨10, [], [], boolR true, lv_c⟩
end Go.Proofs.YtnbhdjadlbhknaaGreatDoor.R

/-! Shards' states: a state that may be stays one: the conditions. -/
namespace Go.Proofs.YtnbhdjadlbhknaaGreatDoor.R
open Go.Ax
set_option maxRecDepth 1000000
def encCms (b : Bool) (l : List Cmd) : AV := .ys b 10 l.length (cellsOf' encCm l)
/-- the states one behind the other -/
def runP (p : Part) (l : List Cmd) (i : Nat) : Part := (l.take i).foldl dQ p
noncomputable def sptC (b1 b2 : Bool) (p q : Part) : Ctr Tryz.prog := ⟨19, [.agg (encPt b1 p), .agg (encPt b2 q)], [], .need (PartIn p) (boolR (samePt p q)), T.Sat.need fun h => spt_c b1 b2 p q h⟩
def stT (l : List Cmd) (i : Nat) : List AV := mkT 63 [(1, encCms true l), (2, .ptr 0 0 0 0), (5, .y (.bool true)), (6, .y (.int .i64 i))]
def stM (f : Nat → Part) (i : Nat) : List Blk := [.box 30 (encPt true (f i))]
def stX : List Nat := [0, 1, 2, 3, 4, 5, 6]
def stS (_ : Unit) : Exit × List AV × List Blk := (.exit 0, mkT 63 [(5, .y (.bool true))], [])
noncomputable def stH (l : List Cmd) (f : Nat → Part) (x : Nat → Res) (i : Nat) : HintsT Tryz.prog := hh _ noLp (cs1 5 7 5 (doC true (f i) (l.getD i default) (f (i + 1)) (x i)) (cs1 5 8 2 (sptC true true (f i) (f (i + 1))) (cs1 5 9 1 (pcC true (f (i + 1))) noCs))) noOp
def vcStL (l : List Cmd) (f : Nat → Part) (x : Nat → Res) (i : Nat) : Prop :=
  (decide ((↑i : Int) < (↑(List.length l) : Int)) = true → (true && decide ((↑i : Int) < (↑(List.length l) : Int))) = true ∧ (((f i).rng.lo = (f i).rng.lo ∧ (f i).rng.hi = (f i).rng.hi ∧ (f i).epoch = (f i).epoch ∧ (f i).frozen = (f i).frozen ∧ (true = true ∧ List.length (f i).recs = List.length (f i).recs ∧ contLe (List.length (f i).recs) (5 : Nat) (cellsOf' encR (f i).recs) (cellsOf' encR (f i).recs)) ∧ (true = true ∧ List.length (f i).prods = List.length (f i).prods ∧ contLe (List.length (f i).prods) (4 : Nat) (cellsOf' P.encP (f i).prods) (cellsOf' P.encP (f i).prods)) ∧ (true = true ∧ List.length (f i).cons = List.length (f i).cons ∧ contLe (List.length (f i).cons) (2 : Nat) (cellsOf' encC (f i).cons) (cellsOf' encC (f i).cons)) ∧ True) ∧ ((List.getD l (Int.toNat (↑i : Int)) (@default Cmd instInhabitedCmd)).kind = (List.getD l i (@default Cmd instInhabitedCmd)).kind ∧ (List.getD l (Int.toNat (↑i : Int)) (@default Cmd instInhabitedCmd)).epoch = (List.getD l i (@default Cmd instInhabitedCmd)).epoch ∧ (List.getD l (Int.toNat (↑i : Int)) (@default Cmd instInhabitedCmd)).prod = (List.getD l i (@default Cmd instInhabitedCmd)).prod ∧ (List.getD l (Int.toNat (↑i : Int)) (@default Cmd instInhabitedCmd)).seq = (List.getD l i (@default Cmd instInhabitedCmd)).seq ∧ (List.getD l (Int.toNat (↑i : Int)) (@default Cmd instInhabitedCmd)).key = (List.getD l i (@default Cmd instInhabitedCmd)).key ∧ (true = true ∧ List.length (List.getD l (Int.toNat (↑i : Int)) (@default Cmd instInhabitedCmd)).val = List.length (List.getD l i (@default Cmd instInhabitedCmd)).val ∧ contLe (List.length (List.getD l (Int.toNat (↑i : Int)) (@default Cmd instInhabitedCmd)).val) (1 : Nat) (cellsOf' encB (List.getD l (Int.toNat (↑i : Int)) (@default Cmd instInhabitedCmd)).val) (cellsOf' encB (List.getD l i (@default Cmd instInhabitedCmd)).val)) ∧ (List.getD l (Int.toNat (↑i : Int)) (@default Cmd instInhabitedCmd)).off = (List.getD l i (@default Cmd instInhabitedCmd)).off ∧ (List.getD l (Int.toNat (↑i : Int)) (@default Cmd instInhabitedCmd)).most = (List.getD l i (@default Cmd instInhabitedCmd)).most ∧ (List.getD l (Int.toNat (↑i : Int)) (@default Cmd instInhabitedCmd)).name = (List.getD l i (@default Cmd instInhabitedCmd)).name ∧ (List.getD l (Int.toNat (↑i : Int)) (@default Cmd instInhabitedCmd)).plan = (List.getD l i (@default Cmd instInhabitedCmd)).plan ∧ True) ∧ True) ∧ True ∧ DoR (f i) (List.getD l i (@default Cmd instInhabitedCmd)) (f (i + (1 : Nat))) (x i) ∧ (((f i).rng.lo = (f i).rng.lo ∧ (f i).rng.hi = (f i).rng.hi ∧ (f i).epoch = (f i).epoch ∧ (f i).frozen = (f i).frozen ∧ (true = true ∧ List.length (f i).recs = List.length (f i).recs ∧ contLe (List.length (f i).recs) (5 : Nat) (cellsOf' encR (f i).recs) (cellsOf' encR (f i).recs)) ∧ (true = true ∧ List.length (f i).prods = List.length (f i).prods ∧ contLe (List.length (f i).prods) (4 : Nat) (cellsOf' P.encP (f i).prods) (cellsOf' P.encP (f i).prods)) ∧ (true = true ∧ List.length (f i).cons = List.length (f i).cons ∧ contLe (List.length (f i).cons) (2 : Nat) (cellsOf' encC (f i).cons) (cellsOf' encC (f i).cons)) ∧ True) ∧ ((f (i + (1 : Nat))).rng.lo = (f (i + (1 : Nat))).rng.lo ∧ (f (i + (1 : Nat))).rng.hi = (f (i + (1 : Nat))).rng.hi ∧ (f (i + (1 : Nat))).epoch = (f (i + (1 : Nat))).epoch ∧ (f (i + (1 : Nat))).frozen = (f (i + (1 : Nat))).frozen ∧ (true = true ∧ List.length (f (i + (1 : Nat))).recs = List.length (f (i + (1 : Nat))).recs ∧ contLe (List.length (f (i + (1 : Nat))).recs) (5 : Nat) (cellsOf' encR (f (i + (1 : Nat))).recs) (cellsOf' encR (f (i + (1 : Nat))).recs)) ∧ (true = true ∧ List.length (f (i + (1 : Nat))).prods = List.length (f (i + (1 : Nat))).prods ∧ contLe (List.length (f (i + (1 : Nat))).prods) (4 : Nat) (cellsOf' P.encP (f (i + (1 : Nat))).prods) (cellsOf' P.encP (f (i + (1 : Nat))).prods)) ∧ (true = true ∧ List.length (f (i + (1 : Nat))).cons = List.length (f (i + (1 : Nat))).cons ∧ contLe (List.length (f (i + (1 : Nat))).cons) (2 : Nat) (cellsOf' encC (f (i + (1 : Nat))).cons) (cellsOf' encC (f (i + (1 : Nat))).cons)) ∧ True) ∧ True) ∧ True ∧ PartIn (f i) ∧ (((f (i + (1 : Nat))).rng.lo = (f (i + (1 : Nat))).rng.lo ∧ (f (i + (1 : Nat))).rng.hi = (f (i + (1 : Nat))).rng.hi ∧ (f (i + (1 : Nat))).epoch = (f (i + (1 : Nat))).epoch ∧ (f (i + (1 : Nat))).frozen = (f (i + (1 : Nat))).frozen ∧ (true = true ∧ List.length (f (i + (1 : Nat))).recs = List.length (f (i + (1 : Nat))).recs ∧ contLe (List.length (f (i + (1 : Nat))).recs) (5 : Nat) (cellsOf' encR (f (i + (1 : Nat))).recs) (cellsOf' encR (f (i + (1 : Nat))).recs)) ∧ (true = true ∧ List.length (f (i + (1 : Nat))).prods = List.length (f (i + (1 : Nat))).prods ∧ contLe (List.length (f (i + (1 : Nat))).prods) (4 : Nat) (cellsOf' P.encP (f (i + (1 : Nat))).prods) (cellsOf' P.encP (f (i + (1 : Nat))).prods)) ∧ (true = true ∧ List.length (f (i + (1 : Nat))).cons = List.length (f (i + (1 : Nat))).cons ∧ contLe (List.length (f (i + (1 : Nat))).cons) (2 : Nat) (cellsOf' encC (f (i + (1 : Nat))).cons) (cellsOf' encC (f (i + (1 : Nat))).cons)) ∧ True) ∧ True) ∧ True ∧ PartIn (f (i + (1 : Nat))) ∧ (partOk (f (i + (1 : Nat))) = true → ((!samePt (f i) (f (i + (1 : Nat)))) = true → (((x i).err != (0 : Int)) = true → False) ∧ (((x i).err != (0 : Int)) = false → (true && decide ((↑i : Int) < (↑(List.length l) : Int))) = true ∧ (((List.getD l (Int.toNat (↑i : Int)) (@default Cmd instInhabitedCmd)).kind == (2 : Int)) = true → False) ∧ (((List.getD l (Int.toNat (↑i : Int)) (@default Cmd instInhabitedCmd)).kind == (2 : Int)) = false → (true && decide ((↑i : Int) < (↑(List.length l) : Int))) = true ∧ (((List.getD l (Int.toNat (↑i : Int)) (@default Cmd instInhabitedCmd)).kind == (4 : Int)) = true → False) ∧ (((List.getD l (Int.toNat (↑i : Int)) (@default Cmd instInhabitedCmd)).kind == (4 : Int)) = false → ∃ (j : Nat), List.length l - j < List.length l - i ∧ (((true = true ∧ List.length l = List.length l ∧ contLe (List.length l) (10 : Nat) (cellsOf' encCm l) (cellsOf' encCm l)) ∧ ((0 : Nat) = (0 : Nat) ∧ (0 : Nat) = (0 : Nat)) ∧ true = true ∧ IntKind.wrap IntKind.i64 ((↑i : Int) + (1 : Int)) = (↑j : Int) ∧ True) ∧ (((f (i + (1 : Nat))).rng.lo = (f j).rng.lo ∧ (f (i + (1 : Nat))).rng.hi = (f j).rng.hi ∧ (f (i + (1 : Nat))).epoch = (f j).epoch ∧ (f (i + (1 : Nat))).frozen = (f j).frozen ∧ (true = true ∧ List.length (f (i + (1 : Nat))).recs = List.length (f j).recs ∧ contLe (List.length (f (i + (1 : Nat))).recs) (5 : Nat) (cellsOf' encR (f (i + (1 : Nat))).recs) (cellsOf' encR (f j).recs)) ∧ (true = true ∧ List.length (f (i + (1 : Nat))).prods = List.length (f j).prods ∧ contLe (List.length (f (i + (1 : Nat))).prods) (4 : Nat) (cellsOf' P.encP (f (i + (1 : Nat))).prods) (cellsOf' P.encP (f j).prods)) ∧ (true = true ∧ List.length (f (i + (1 : Nat))).cons = List.length (f j).cons ∧ contLe (List.length (f (i + (1 : Nat))).cons) (2 : Nat) (cellsOf' encC (f (i + (1 : Nat))).cons) (cellsOf' encC (f j).cons)) ∧ True) ∧ True) ∧ true = true) ∧ true = true ∧ () = ())))) ∧ ((!samePt (f i) (f (i + (1 : Nat)))) = false → ∃ (j : Nat), List.length l - j < List.length l - i ∧ (((true = true ∧ List.length l = List.length l ∧ contLe (List.length l) (10 : Nat) (cellsOf' encCm l) (cellsOf' encCm l)) ∧ ((0 : Nat) = (0 : Nat) ∧ (0 : Nat) = (0 : Nat)) ∧ true = true ∧ IntKind.wrap IntKind.i64 ((↑i : Int) + (1 : Int)) = (↑j : Int) ∧ True) ∧ (((f (i + (1 : Nat))).rng.lo = (f j).rng.lo ∧ (f (i + (1 : Nat))).rng.hi = (f j).rng.hi ∧ (f (i + (1 : Nat))).epoch = (f j).epoch ∧ (f (i + (1 : Nat))).frozen = (f j).frozen ∧ (true = true ∧ List.length (f (i + (1 : Nat))).recs = List.length (f j).recs ∧ contLe (List.length (f (i + (1 : Nat))).recs) (5 : Nat) (cellsOf' encR (f (i + (1 : Nat))).recs) (cellsOf' encR (f j).recs)) ∧ (true = true ∧ List.length (f (i + (1 : Nat))).prods = List.length (f j).prods ∧ contLe (List.length (f (i + (1 : Nat))).prods) (4 : Nat) (cellsOf' P.encP (f (i + (1 : Nat))).prods) (cellsOf' P.encP (f j).prods)) ∧ (true = true ∧ List.length (f (i + (1 : Nat))).cons = List.length (f j).cons ∧ contLe (List.length (f (i + (1 : Nat))).cons) (2 : Nat) (cellsOf' encC (f (i + (1 : Nat))).cons) (cellsOf' encC (f j).cons)) ∧ True) ∧ True) ∧ true = true) ∧ true = true ∧ () = ())) ∧ (partOk (f (i + (1 : Nat))) = false → False)) ∧ (decide ((↑i : Int) < (↑(List.length l) : Int)) = false → (true = true ∧ True) ∧ True ∧ true = true)
set_option maxRecDepth 1000000 in
theorem vcStL_eq (l : List Cmd) (f : Nat → Part) (x : Nat → Res) (i : Nat) : (loopVC Tryz.prog (stH l f x i) 5 5 (fun i => l.length - i) (stT l) (stM f) stX (fun _ => .ret ()) stS i) = vcStL l f x i := by kernel_rfl
noncomputable def stHd (p : Part) (l : List Cmd) (f : Nat → Part) : HintsT Tryz.prog := hh _ (lp1 5 5 (jobOf (stT l) (stM f) stX (fun _ => .ret ()) stS 0) noLp) (cs1 5 1 0 livC (cs1 5 2 1 (pcC true p) noCs)) noOp
def vcSt (p : Part) (l : List Cmd) (f : Nat → Part) : Prop :=
  True ∧ True ∧ ((p.rng.lo = p.rng.lo ∧ p.rng.hi = p.rng.hi ∧ p.epoch = p.epoch ∧ p.frozen = p.frozen ∧ (true = true ∧ List.length p.recs = List.length p.recs ∧ contLe (List.length p.recs) (5 : Nat) (cellsOf' encR p.recs) (cellsOf' encR p.recs)) ∧ (true = true ∧ List.length p.prods = List.length p.prods ∧ contLe (List.length p.prods) (4 : Nat) (cellsOf' P.encP p.prods) (cellsOf' P.encP p.prods)) ∧ (true = true ∧ List.length p.cons = List.length p.cons ∧ contLe (List.length p.cons) (2 : Nat) (cellsOf' encC p.cons) (cellsOf' encC p.cons)) ∧ True) ∧ True) ∧ True ∧ PartIn p ∧ (partOk p = true → (((true = true ∧ List.length l = List.length l ∧ contLe (List.length l) (10 : Nat) (cellsOf' encCm l) (cellsOf' encCm l)) ∧ ((0 : Nat) = (0 : Nat) ∧ (0 : Nat) = (0 : Nat)) ∧ true = true ∧ (0 : Int) = (0 : Int) ∧ True) ∧ ((p.rng.lo = (f (0 : Nat)).rng.lo ∧ p.rng.hi = (f (0 : Nat)).rng.hi ∧ p.epoch = (f (0 : Nat)).epoch ∧ p.frozen = (f (0 : Nat)).frozen ∧ (true = true ∧ List.length p.recs = List.length (f (0 : Nat)).recs ∧ contLe (List.length p.recs) (5 : Nat) (cellsOf' encR p.recs) (cellsOf' encR (f (0 : Nat)).recs)) ∧ (true = true ∧ List.length p.prods = List.length (f (0 : Nat)).prods ∧ contLe (List.length p.prods) (4 : Nat) (cellsOf' P.encP p.prods) (cellsOf' P.encP (f (0 : Nat)).prods)) ∧ (true = true ∧ List.length p.cons = List.length (f (0 : Nat)).cons ∧ contLe (List.length p.cons) (2 : Nat) (cellsOf' encC p.cons) (cellsOf' encC (f (0 : Nat)).cons)) ∧ True) ∧ True) ∧ true = true) ∧ LoopOk Tryz.prog (5 : Nat) (5 : Nat) (loopAt Tryz.prog (5 : Nat) (5 : Nat)) { t := stT l (0 : Nat), m := stM f (0 : Nat), mv := [] : St } (T.map (lout stX stS) ((fun (x : Nat) => T.ret ()) (0 : Nat))) ∧ true = true ∧ True) ∧ (partOk p = false → true = true ∧ True)
set_option maxRecDepth 1000000 in
theorem vcSt_eq (p : Part) (l : List Cmd) (f : Nat → Part) : (ctrVC Tryz.prog (stHd p l f) 5 [.agg (encPt true p), encCms true l] [] (boolR true)) = vcSt p l f := by kernel_rfl
end Go.Proofs.YtnbhdjadlbhknaaGreatDoor.R

/-! Producers: what is new stays new: the plain law of Kept. -/
namespace Go.Proofs.YtnbhdjadlbhknaaGreatDoor.P
open Go.Ax
set_option maxRecDepth 1000000
theorem judge_new (l : List Producer) (id seq : Int) : judgeV l id seq = 1 ↔ badN id seq = false ∧ (findI l id = false ∨ (findD l id).seq < seq) := by
  unfold judgeV
  cases hb : badN id seq
  · cases hf : findI l id
    · simp
    · by_cases h : (findD l id).seq < seq
      · simp [h]
      · simp [h]
        split <;> decide
  · simp
theorem mem_oth {l : List Producer} {x z : Producer} : z ∈ oth l x ↔ z ∈ l ∧ ¬ z.id = x.id := by
  unfold oth
  rw [List.mem_filter]
  simp [keep]
theorem mem_putL' {l : List Producer} {x z : Producer} : z ∈ putL l x ↔ z = x ∨ (z ∈ l ∧ ¬ z.id = x.id) := by
  rw [← mem_oth]
  unfold putL
  rw [List.mem_append, List.mem_cons]
  constructor
  · rintro (h | h | h)
    · exact Or.inr (List.mem_of_mem_take h)
    · exact Or.inl h
    · exact Or.inr (List.mem_of_mem_drop h)
  · rintro (h | h)
    · exact Or.inr (Or.inl h)
    · rw [← List.take_append_drop (below (oth l x) x.id) (oth l x), List.mem_append] at h
      rcases h with h | h
      · exact Or.inl h
      · exact Or.inr (Or.inr h)
theorem find_of {l : List Producer} {id : Int} (h : findI l id = true) : findD l id ∈ l ∧ (findD l id).id = id := by
  unfold findI at h
  unfold findD
  cases hf : l.find? (has id) with
  | none => rw [hf] at h; cases h
  | some x =>
    have h1 := List.find?_some hf
    have h2 := List.mem_of_find?_eq_some hf
    exact ⟨h2, by simpa [has] using h1⟩
theorem find_none {l : List Producer} {id : Int} (h : findI l id = false) : ∀ x ∈ l, ¬ x.id = id := by
  intro x hx hid
  unfold findI at h
  have : (l.find? (has id)).isSome = true := by
    rw [List.find?_isSome]
    exact ⟨x, hx, by simp [has, hid]⟩
  rw [h] at this; cases this
theorem pw_unique {l : List Producer} (h : l.Pairwise (fun a b => a.id < b.id)) : ∀ {x y : Producer}, x ∈ l → y ∈ l → x.id = y.id → x = y := by
  induction h with
  | nil => intro x y hx; cases hx
  | cons h1 _ ih =>
    intro x y hx hy e
    rcases List.mem_cons.1 hx with e1 | hx' <;> rcases List.mem_cons.1 hy with e2 | hy'
    · rw [e1, e2]
    · have := h1 _ hy'; rw [← e1] at this; omega
    · have := h1 _ hx'; rw [← e2] at this; omega
    · exact ih hx' hy' e
/-- no one of that name came so far -/
def fresh (l : List Producer) (id seq : Int) : Prop := ∀ x ∈ l, x.id = id → x.seq < seq
theorem judge_fresh {l : List Producer} (h : rising l) (id seq : Int) : judgeV l id seq = 1 ↔ badN id seq = false ∧ fresh l id seq := by
  rw [judge_new]
  refine and_congr Iff.rfl ?_
  cases hf : findI l id
  · exact ⟨fun _ x hx e => absurd e (find_none hf x hx), fun _ => Or.inl rfl⟩
  · have ⟨h1, h2⟩ := find_of hf
    constructor
    · rintro (h3 | h3)
      · cases h3
      · intro x hx e
        rw [pw_unique ((rising_pw l).1 h) hx h1 (by omega)]; exact h3
    · intro h3
      exact Or.inr (h3 _ h1 h2)
/-- a table, element by element -/
def good (x : Producer) : Prop := ¬ x.id = 0 ∧ 1 ≤ x.seq ∧ x.seq ≤ 9223372036854775807 ∧ (x.here = true ∨ x.offset = 0)
theorem table_iff (l : List Producer) : isTable l = true ↔ (∀ x ∈ l, good x) ∧ rising l ∧ l.length ≤ 256 := by
  constructor
  · intro h
    have hr := table_rising h
    unfold isTable at h
    rw [Bool.and_eq_true, decide_eq_true_eq] at h
    refine ⟨fun x hx => ?_, hr, h.2⟩
    obtain ⟨i, hi, rfl⟩ := List.mem_iff_getElem.1 hx
    have := okFrom_all _ 0 rfl h.1 i (Nat.zero_le _) hi
    simp [okP, hi] at this
    unfold good
    grind
  · rintro ⟨h1, h2, h3⟩
    unfold isTable
    rw [Bool.and_eq_true, decide_eq_true_eq]
    refine ⟨?_, h3⟩
    unfold okFrom
    rw [List.all_eq_true]
    intro j hj
    have hj' : j < l.length := by
      simp at hj; exact hj
    have hg := h1 l[j] (List.getElem_mem hj')
    unfold good at hg
    simp [okP, hj']
    have hr : 0 < j → (l[j - 1]?.getD default).id < l[j].id := fun h => by
      have := h2 (j - 1) j (by omega) hj'
      simpa [hj'] using this
    grind
end Go.Proofs.YtnbhdjadlbhknaaGreatDoor.P
