import Derived.Test.YtckklclehofddaaGreatDoorW2
import Derived.Test.YtckklclehofddaaGreatDoorW3
import Derived.Test.YtckklclehofddaaGreatDoorW5
set_option linter.unusedVariables false
set_option linter.unusedSimpArgs false
set_option linter.unusedSectionVars false
/-! Lineage: two states joined: the conditions, case by case. -/
namespace Go.Proofs.YtckklclehofddaaGreatDoor.D
open Go.Ax
set_option maxRecDepth 1000000
structure JoinOk (a b out : List Rec) (ta tb : List Int) : Prop where
  la : isLog a = true
  lb : isLog b = true
  n : a.length + b.length ≤ 4096
  r : ∃ s, (jo0 a b).run = some s ∧ out = s.end.out ∧ ta = s.end.ta ∧ tb = s.end.tb
def joT0 (out : List Rec) (ta tb : List Int) : T An := .ret (.tup [.own 0 5 0 out.length, .own 1 1 0 ta.length, .own 2 1 0 tb.length, .s (.int .i64 0)], [rowR out, rowU ta, rowU tb], [])
noncomputable def joC0 (b1 b2 : Bool) (a b out : List Rec) (ta tb : List Int) : Ctr Tryz.prog := ⟨57, [encRs b1 a, encRs b2 b], [], .need (JoinOk a b out ta tb) (joT0 out ta tb), T.Sat.need fun h => by
  obtain ⟨s, hs, rfl, rfl, rfl⟩ := h.r
  have l1 := log_len h.la
  have l2 := log_len h.lb
  have := join_c b1 b2 a b (by omega) (by omega)
  unfold joinT at this
  rw [h.la, h.lb, hs] at this
  intro Q hq
  exact this Q ⟨fun _ => ⟨fun _ => ⟨fun _ => hq, fun e => by simp at e⟩, fun e => by simp at e; have := h.n; omega⟩, fun e => by simp at e⟩⟩
noncomputable def joC1 (e : Int) (b1 b2 : Bool) (a b : List Rec) : Ctr Tryz.prog := ⟨57, [encRs b1 a, encRs b2 b], [], .need (isLog a = true ∧ isLog b = true ∧ ((4096 < a.length + b.length ∧ e = 143) ∨ (a.length + b.length ≤ 4096 ∧ (jo0 a b).run = none ∧ e = 145))) (joE e), T.Sat.need fun h => by
  obtain ⟨h1, h2, h3⟩ := h
  have l1 := log_len h1
  have l2 := log_len h2
  have := join_c b1 b2 a b (by omega) (by omega)
  unfold joinT at this
  rw [h1, h2] at this
  intro Q hq
  rcases h3 with ⟨h3, rfl⟩ | ⟨h3, h4, rfl⟩
  · exact this Q ⟨fun _ => ⟨fun e => by simp at e; omega, fun _ => hq⟩, fun e => by simp at e⟩
  · rw [h4] at this
    exact this Q ⟨fun _ => ⟨fun _ => ⟨fun e => by simp at e, fun _ => hq⟩, fun e => by simp at e; omega⟩, fun e => by simp at e⟩⟩
structure PbIn (a b : List P.Producer) (ta tb : List Int) : Prop where
  na : a.length * 32 ≤ 140737488355200
  nb : b.length * 32 ≤ 140737488355200
  nta : ta.length ≤ 9223372036854775806
  ntb : tb.length ≤ 9223372036854775806
  oa : ∀ x ∈ a, 0 ≤ x.offset ∧ x.offset < 18446744073709551616
  ob : ∀ x ∈ b, 0 ≤ x.offset ∧ x.offset < 18446744073709551616
def pbT0 (ps : List P.Producer) : T An := .ret (.tup [.own 0 4 0 ps.length, .s (.int .i64 0)], [.row 39 4 ps.length none (cellsOf' P.encP ps)], [])
noncomputable def pbC0 (b1 b2 b3 b4 : Bool) (a b : List P.Producer) (ta tb : List Int) (ps : List P.Producer) : Ctr Tryz.prog := ⟨59, [P.encPs b1 a, P.encPs b2 b, encUs b3 ta, encUs b4 tb], [], .need (PbIn a b ta tb ∧ P.bothE a b ta tb = 0 ∧ ps = P.bothL a b ta tb) (pbT0 ps), T.Sat.need fun h => by
  obtain ⟨⟨h1, h2, h3, h4, h5, h6⟩, h7, rfl⟩ := h
  have := P.both_c b1 b2 b3 b4 a b ta tb h1 h2 h3 h4 h5 h6
  unfold P.rowE at this
  rw [h7] at this
  intro Q hq
  exact this Q ⟨fun _ => hq, fun e => by simp at e⟩⟩
noncomputable def pbC1 (b1 b2 b3 b4 : Bool) (a b : List P.Producer) (ta tb : List Int) : Ctr Tryz.prog := ⟨59, [P.encPs b1 a, P.encPs b2 b, encUs b3 ta, encUs b4 tb], [], .need (PbIn a b ta tb ∧ P.bothE a b ta tb = 153) (.ret (.tup [.s (.slice none 0 0), .s (.int .i64 153)], [], [])), T.Sat.need fun h => by
  obtain ⟨⟨h1, h2, h3, h4, h5, h6⟩, h7⟩ := h
  have := P.both_c b1 b2 b3 b4 a b ta tb h1 h2 h3 h4 h5 h6
  unfold P.rowE at this
  rw [h7] at this
  refine ret_as (r := .tup [.s (.slice none 0 0), .y (.int .i64 153)]) (fun _ _ _ h => h) fun Q hq => ?_
  exact this Q ⟨fun e => by simp at e, fun _ => hq⟩⟩
structure CbIn (a b : List Con) (ta tb : List Int) : Prop where
  na : a.length ≤ 9223372036854775806
  nb : b.length ≤ 9223372036854775806
  wa : wfC a
  wb : wfC b
  nta : ta.length ≤ 9223372036854775806
  ntb : tb.length ≤ 9223372036854775806
def cbT0 (cs : List Con) : T An := .ret (.tup [.own 0 2 0 cs.length, .s (.int .i64 0)], [rowC cs], [])
def conB (a b : List Con) (ta tb : List Int) : List Con := boU a b ta tb (a ++ b).length
noncomputable def cbC0 (b1 b2 b3 b4 : Bool) (a b : List Con) (ta tb : List Int) (cs : List Con) : Ctr Tryz.prog := ⟨61, [encCs b1 a, encCs b2 b, encUs b3 ta, encUs b4 tb], [], .need (CbIn a b ta tb ∧ bothE a b ta tb = 0 ∧ cs = conB a b ta tb) (cbT0 cs), T.Sat.need fun h => by
  obtain ⟨⟨h1, h2, h3, h4, h5, h6⟩, h7, rfl⟩ := h
  have := both_c b1 b2 b3 b4 a b ta tb h1 h2 h3 h4 h5 h6
  unfold rowE at this
  rw [h7] at this
  intro Q hq
  exact this Q ⟨fun _ => hq, fun e => by simp at e⟩⟩
noncomputable def cbC1 (b1 b2 b3 b4 : Bool) (a b : List Con) (ta tb : List Int) : Ctr Tryz.prog := ⟨61, [encCs b1 a, encCs b2 b, encUs b3 ta, encUs b4 tb], [], .need (CbIn a b ta tb ∧ bothE a b ta tb = 143) (.ret (.tup [.s (.slice none 0 0), .s (.int .i64 143)], [], [])), T.Sat.need fun h => by
  obtain ⟨⟨h1, h2, h3, h4, h5, h6⟩, h7⟩ := h
  have := both_c b1 b2 b3 b4 a b ta tb h1 h2 h3 h4 h5 h6
  unfold rowE at this
  rw [h7] at this
  refine ret_as (r := .tup [.s (.slice none 0 0), .y (.int .i64 143)]) (fun _ _ _ h => h) fun Q hq => ?_
  exact this Q ⟨fun e => by simp at e, fun _ => hq⟩⟩
noncomputable def pkC (i : Int) (b : Bool) (p : Part) : Ctr Tryz.prog := ⟨15, [.agg (encPt b p)], [], .need (PartIn p ∧ ((partOk p = true ∧ i = 0) ∨ (partOk p = false ∧ i = 165))) (.ret (.s (.int .i64 i), [], [])), T.Sat.need fun h => by
  obtain ⟨h1, h2⟩ := h
  have := pc_c b p h1
  unfold errR at this
  intro Q hq
  rcases h2 with ⟨h2, rfl⟩ | ⟨h2, rfl⟩
  · rw [h2] at this; exact this Q ⟨fun _ => hq, fun e => by simp at e⟩
  · rw [h2] at this; exact this Q ⟨fun e => by simp at e, fun _ => hq⟩⟩
structure Mrg where
  a : Part
  b : Part
  out : List Rec
  ta : List Int
  tb : List Int
  ps : List P.Producer
  cs : List Con
def Mrg.ep (x : Mrg) : Int := IntKind.u64.wrap ((if x.b.epoch > x.a.epoch then x.b.epoch else x.a.epoch) + 1)
def Mrg.m (x : Mrg) : Part := ⟨⟨x.a.rng.lo, x.b.rng.hi⟩, x.ep, 0, x.out, x.ps, x.cs⟩
def mrO (x : Mrg) : T An := .ret (.tup [.agg (encPt true x.m), .s (.int .i64 0)], [], [])
def mrE (e : Int) : T An := .ret (.tup [.agg (encPt true default), .s (.int .i64 e)], [], [])
def mSub : List Nat := [54, 56, 58, 60]
noncomputable def mrK (ur um uj up uc uk : Ctr Tryz.prog) : HintsT Tryz.prog := withSh (withSub (hh _ noLp (cs1 28 1 3 ur (cs1 54 1 4 um (cs1 56 1 4 uj (cs1 58 1 6 up (cs1 60 1 6 uc (cs1 28 14 1 uk noCs)))))) noOp) mSub) (sh1 12 4 0 779 noSh)
noncomputable def mr9H (x : Mrg) : HintsT Tryz.prog := mrK (usC0 x.a x.b) (kmC0 x.a.rng x.b.rng) (joC0 true true x.a.recs x.b.recs x.out x.ta x.tb) (pbC0 true true false false x.a.prods x.b.prods x.ta x.tb x.ps) (cbC0 true true false false x.a.cons x.b.cons x.ta x.tb x.cs) (pkC 0 false x.m)
def vcM9 (x : Mrg) : Prop :=
  ((false = false ∧ (2 : Nat) = (2 : Nat) ∧ contLe (2 : Nat) (7 : Nat) (fun (k j : Nat) => Ax.get [AV.y (Value.string x.a.rng.lo), AV.y (Value.string x.a.rng.hi), AV.y (Value.int IntKind.u64 x.a.epoch), AV.y (Value.int IntKind.u64 x.a.frozen), AV.ys true (5 : Nat) (List.length x.a.recs) (cellsOf' encR x.a.recs), AV.ys true (4 : Nat) (List.length x.a.prods) (cellsOf' P.encP x.a.prods), AV.ys true (2 : Nat) (List.length x.a.cons) (cellsOf' encC x.a.cons), AV.y (Value.string x.b.rng.lo), AV.y (Value.string x.b.rng.hi), AV.y (Value.int IntKind.u64 x.b.epoch), AV.y (Value.int IntKind.u64 x.b.frozen), AV.ys true (5 : Nat) (List.length x.b.recs) (cellsOf' encR x.b.recs), AV.ys true (4 : Nat) (List.length x.b.prods) (cellsOf' P.encP x.b.prods), AV.ys true (2 : Nat) (List.length x.b.cons) (cellsOf' encC x.b.cons)] (((0 : Nat) + k) * (7 : Nat) + j)) fun (k j : Nat) => Ax.get [AV.y (Value.string x.a.rng.lo), AV.y (Value.string x.a.rng.hi), AV.y (Value.int IntKind.u64 x.a.epoch), AV.y (Value.int IntKind.u64 x.a.frozen), AV.ys true (5 : Nat) (List.length x.a.recs) (cellsOf' encR x.a.recs), AV.ys true (4 : Nat) (List.length x.a.prods) (cellsOf' P.encP x.a.prods), AV.ys true (2 : Nat) (List.length x.a.cons) (cellsOf' encC x.a.cons), AV.y (Value.string x.b.rng.lo), AV.y (Value.string x.b.rng.hi), AV.y (Value.int IntKind.u64 x.b.epoch), AV.y (Value.int IntKind.u64 x.b.frozen), AV.ys true (5 : Nat) (List.length x.b.recs) (cellsOf' encR x.b.recs), AV.ys true (4 : Nat) (List.length x.b.prods) (cellsOf' P.encP x.b.prods), AV.ys true (2 : Nat) (List.length x.b.cons) (cellsOf' encC x.b.cons)] (k * (7 : Nat) + j)) ∧ True) ∧ True ∧ (PartTy x.a ∧ PartTy x.b ∧ bad x.a = false ∧ bad x.b = false ∧ live2 x.a x.b = false) ∧ true = true ∧ True ∧ ((x.a.rng.lo = x.a.rng.lo ∧ x.a.rng.hi = x.a.rng.hi ∧ True) ∧ (x.b.rng.lo = x.b.rng.lo ∧ x.b.rng.hi = x.b.rng.hi ∧ True) ∧ True) ∧ True ∧ kmE x.a.rng x.b.rng = (0 : Int) ∧ ((true = true ∧ List.length x.a.recs = List.length x.a.recs ∧ contLe (List.length x.a.recs) (5 : Nat) (cellsOf' encR x.a.recs) (cellsOf' encR x.a.recs)) ∧ (true = true ∧ List.length x.b.recs = List.length x.b.recs ∧ contLe (List.length x.b.recs) (5 : Nat) (cellsOf' encR x.b.recs) (cellsOf' encR x.b.recs)) ∧ True) ∧ True ∧ JoinOk x.a.recs x.b.recs x.out x.ta x.tb ∧ ((true = true ∧ List.length x.a.prods = List.length x.a.prods ∧ contLe (List.length x.a.prods) (4 : Nat) (cellsOf' P.encP x.a.prods) (cellsOf' P.encP x.a.prods)) ∧ (true = true ∧ List.length x.b.prods = List.length x.b.prods ∧ contLe (List.length x.b.prods) (4 : Nat) (cellsOf' P.encP x.b.prods) (cellsOf' P.encP x.b.prods)) ∧ (false = false ∧ List.length x.ta = List.length x.ta ∧ contLe (List.length x.ta) (1 : Nat) (Ax.rowAt (0 : Nat) (cellsOf' encU x.ta)) (cellsOf' encU x.ta)) ∧ (false = false ∧ List.length x.tb = List.length x.tb ∧ contLe (List.length x.tb) (1 : Nat) (Ax.rowAt (0 : Nat) (cellsOf' encU x.tb)) (cellsOf' encU x.tb)) ∧ True) ∧ True ∧ (PbIn x.a.prods x.b.prods x.ta x.tb ∧ P.bothE x.a.prods x.b.prods x.ta x.tb = (0 : Int) ∧ x.ps = P.bothL x.a.prods x.b.prods x.ta x.tb) ∧ true = true ∧ ((∀ (k : Nat), k < List.length x.ps → ∀ (j : Nat), j < (4 : Nat) → tagT (cellsOf' P.encP x.ps k j) = true) ∧ True) ∧ ((true = true ∧ List.length x.a.cons = List.length x.a.cons ∧ contLe (List.length x.a.cons) (2 : Nat) (cellsOf' encC x.a.cons) (cellsOf' encC x.a.cons)) ∧ (true = true ∧ List.length x.b.cons = List.length x.b.cons ∧ contLe (List.length x.b.cons) (2 : Nat) (cellsOf' encC x.b.cons) (cellsOf' encC x.b.cons)) ∧ (false = false ∧ List.length x.ta = List.length x.ta ∧ contLe (List.length x.ta) (1 : Nat) (Ax.rowAt (0 : Nat) (cellsOf' encU x.ta)) (cellsOf' encU x.ta)) ∧ (false = false ∧ List.length x.tb = List.length x.tb ∧ contLe (List.length x.tb) (1 : Nat) (Ax.rowAt (0 : Nat) (cellsOf' encU x.tb)) (cellsOf' encU x.tb)) ∧ True) ∧ True ∧ (CbIn x.a.cons x.b.cons x.ta x.tb ∧ bothE x.a.cons x.b.cons x.ta x.tb = (0 : Int) ∧ x.cs = conB x.a.cons x.b.cons x.ta x.tb) ∧ true = true ∧ ((∀ (k : Nat), k < List.length x.cs → ∀ (j : Nat), j < (2 : Nat) → tagT (cellsOf' encC x.cs k j) = true) ∧ True) ∧ ((x.a.rng.lo = x.a.rng.lo ∧ x.b.rng.hi = x.b.rng.hi ∧ IntKind.wrap IntKind.u64 ((if x.b.epoch > x.a.epoch then x.b.epoch else x.a.epoch) + (1 : Int)) = Mrg.ep x ∧ (0 : Int) = (0 : Int) ∧ (false = false ∧ List.length x.out = List.length x.out ∧ contLe (List.length x.out) (5 : Nat) (Ax.rowAt (0 : Nat) (cellsOf' encR x.out)) (cellsOf' encR x.out)) ∧ (false = false ∧ List.length x.ps = List.length x.ps ∧ contLe (List.length x.ps) (4 : Nat) (Ax.rowAt (0 : Nat) (cellsOf' P.encP x.ps)) (cellsOf' P.encP x.ps)) ∧ (false = false ∧ List.length x.cs = List.length x.cs ∧ contLe (List.length x.cs) (2 : Nat) (Ax.rowAt (0 : Nat) (cellsOf' encC x.cs)) (cellsOf' encC x.cs)) ∧ True) ∧ True) ∧ True ∧ (PartIn (Mrg.m x) ∧ (partOk (Mrg.m x) = true ∧ (0 : Int) = (0 : Int) ∨ partOk (Mrg.m x) = false ∧ (0 : Int) = (165 : Int))) ∧ true = true ∧ True ∧ (∀ (k : Nat), k < List.length x.out → ∀ (j : Nat), j < (5 : Nat) → tagT (cellsOf' encR x.out k j) = true) ∧ (∀ (k : Nat), k < List.length x.ps → ∀ (j : Nat), j < (4 : Nat) → tagT (cellsOf' P.encP x.ps k j) = true) ∧ (∀ (k : Nat), k < List.length x.cs → ∀ (j : Nat), j < (2 : Nat) → tagT (cellsOf' encC x.cs k j) = true) ∧ ((x.a.rng.lo = x.a.rng.lo ∧ x.b.rng.hi = x.b.rng.hi ∧ IntKind.wrap IntKind.u64 ((if x.b.epoch > x.a.epoch then x.b.epoch else x.a.epoch) + (1 : Int)) = Mrg.ep x ∧ (0 : Int) = (0 : Int) ∧ (true = true ∧ List.length x.out = List.length x.out ∧ contLe (List.length x.out) (5 : Nat) (Ax.rowAt (0 : Nat) (cellsOf' encR x.out)) (cellsOf' encR x.out)) ∧ (true = true ∧ List.length x.ps = List.length x.ps ∧ contLe (List.length x.ps) (4 : Nat) (Ax.rowAt (0 : Nat) (cellsOf' P.encP x.ps)) (cellsOf' P.encP x.ps)) ∧ (true = true ∧ List.length x.cs = List.length x.cs ∧ contLe (List.length x.cs) (2 : Nat) (Ax.rowAt (0 : Nat) (cellsOf' encC x.cs)) (cellsOf' encC x.cs)) ∧ True) ∧ (0 : Int) = (0 : Int) ∧ True) ∧ True
set_option maxRecDepth 1000000 in
theorem vcM9_eq (x : Mrg) : (ctrVC Tryz.prog (mr9H x) 12 [.agg (encPt true x.a), .agg (encPt true x.b)] [] (mrO x)) = vcM9 x := by kernel_rfl
noncomputable def mr1H (x : Mrg) : HintsT Tryz.prog := mrK (usC172 x.a x.b) (kmC0 x.a.rng x.b.rng) (joC0 true true x.a.recs x.b.recs x.out x.ta x.tb) (pbC0 true true false false x.a.prods x.b.prods x.ta x.tb x.ps) (cbC0 true true false false x.a.cons x.b.cons x.ta x.tb x.cs) (pkC 0 false x.m)
def vcM1 (x : Mrg) : Prop :=
  ((false = false ∧ (2 : Nat) = (2 : Nat) ∧ contLe (2 : Nat) (7 : Nat) (fun (k j : Nat) => Ax.get [AV.y (Value.string x.a.rng.lo), AV.y (Value.string x.a.rng.hi), AV.y (Value.int IntKind.u64 x.a.epoch), AV.y (Value.int IntKind.u64 x.a.frozen), AV.ys true (5 : Nat) (List.length x.a.recs) (cellsOf' encR x.a.recs), AV.ys true (4 : Nat) (List.length x.a.prods) (cellsOf' P.encP x.a.prods), AV.ys true (2 : Nat) (List.length x.a.cons) (cellsOf' encC x.a.cons), AV.y (Value.string x.b.rng.lo), AV.y (Value.string x.b.rng.hi), AV.y (Value.int IntKind.u64 x.b.epoch), AV.y (Value.int IntKind.u64 x.b.frozen), AV.ys true (5 : Nat) (List.length x.b.recs) (cellsOf' encR x.b.recs), AV.ys true (4 : Nat) (List.length x.b.prods) (cellsOf' P.encP x.b.prods), AV.ys true (2 : Nat) (List.length x.b.cons) (cellsOf' encC x.b.cons)] (((0 : Nat) + k) * (7 : Nat) + j)) fun (k j : Nat) => Ax.get [AV.y (Value.string x.a.rng.lo), AV.y (Value.string x.a.rng.hi), AV.y (Value.int IntKind.u64 x.a.epoch), AV.y (Value.int IntKind.u64 x.a.frozen), AV.ys true (5 : Nat) (List.length x.a.recs) (cellsOf' encR x.a.recs), AV.ys true (4 : Nat) (List.length x.a.prods) (cellsOf' P.encP x.a.prods), AV.ys true (2 : Nat) (List.length x.a.cons) (cellsOf' encC x.a.cons), AV.y (Value.string x.b.rng.lo), AV.y (Value.string x.b.rng.hi), AV.y (Value.int IntKind.u64 x.b.epoch), AV.y (Value.int IntKind.u64 x.b.frozen), AV.ys true (5 : Nat) (List.length x.b.recs) (cellsOf' encR x.b.recs), AV.ys true (4 : Nat) (List.length x.b.prods) (cellsOf' P.encP x.b.prods), AV.ys true (2 : Nat) (List.length x.b.cons) (cellsOf' encC x.b.cons)] (k * (7 : Nat) + j)) ∧ True) ∧ True ∧ (PartTy x.a ∧ PartTy x.b ∧ (bad x.a || bad x.b) = true) ∧ true = true ∧ True ∧ (({ data := #[] : ByteArray } = ByteArray.empty ∧ { data := #[] : ByteArray } = ByteArray.empty ∧ (0 : Int) = (0 : Int) ∧ (0 : Int) = (0 : Int) ∧ (0 : Nat) = (0 : Nat) ∧ (0 : Nat) = (0 : Nat) ∧ (0 : Nat) = (0 : Nat) ∧ True) ∧ (172 : Int) = (172 : Int) ∧ True) ∧ True
set_option maxRecDepth 1000000 in
theorem vcM1_eq (x : Mrg) : (ctrVC Tryz.prog (mr1H x) 12 [.agg (encPt true x.a), .agg (encPt true x.b)] [] (mrE 172)) = vcM1 x := by kernel_rfl
noncomputable def mr2H (x : Mrg) : HintsT Tryz.prog := mrK (usC171 x.a x.b) (kmC0 x.a.rng x.b.rng) (joC0 true true x.a.recs x.b.recs x.out x.ta x.tb) (pbC0 true true false false x.a.prods x.b.prods x.ta x.tb x.ps) (cbC0 true true false false x.a.cons x.b.cons x.ta x.tb x.cs) (pkC 0 false x.m)
def vcM2 (x : Mrg) : Prop :=
  ((false = false ∧ (2 : Nat) = (2 : Nat) ∧ contLe (2 : Nat) (7 : Nat) (fun (k j : Nat) => Ax.get [AV.y (Value.string x.a.rng.lo), AV.y (Value.string x.a.rng.hi), AV.y (Value.int IntKind.u64 x.a.epoch), AV.y (Value.int IntKind.u64 x.a.frozen), AV.ys true (5 : Nat) (List.length x.a.recs) (cellsOf' encR x.a.recs), AV.ys true (4 : Nat) (List.length x.a.prods) (cellsOf' P.encP x.a.prods), AV.ys true (2 : Nat) (List.length x.a.cons) (cellsOf' encC x.a.cons), AV.y (Value.string x.b.rng.lo), AV.y (Value.string x.b.rng.hi), AV.y (Value.int IntKind.u64 x.b.epoch), AV.y (Value.int IntKind.u64 x.b.frozen), AV.ys true (5 : Nat) (List.length x.b.recs) (cellsOf' encR x.b.recs), AV.ys true (4 : Nat) (List.length x.b.prods) (cellsOf' P.encP x.b.prods), AV.ys true (2 : Nat) (List.length x.b.cons) (cellsOf' encC x.b.cons)] (((0 : Nat) + k) * (7 : Nat) + j)) fun (k j : Nat) => Ax.get [AV.y (Value.string x.a.rng.lo), AV.y (Value.string x.a.rng.hi), AV.y (Value.int IntKind.u64 x.a.epoch), AV.y (Value.int IntKind.u64 x.a.frozen), AV.ys true (5 : Nat) (List.length x.a.recs) (cellsOf' encR x.a.recs), AV.ys true (4 : Nat) (List.length x.a.prods) (cellsOf' P.encP x.a.prods), AV.ys true (2 : Nat) (List.length x.a.cons) (cellsOf' encC x.a.cons), AV.y (Value.string x.b.rng.lo), AV.y (Value.string x.b.rng.hi), AV.y (Value.int IntKind.u64 x.b.epoch), AV.y (Value.int IntKind.u64 x.b.frozen), AV.ys true (5 : Nat) (List.length x.b.recs) (cellsOf' encR x.b.recs), AV.ys true (4 : Nat) (List.length x.b.prods) (cellsOf' P.encP x.b.prods), AV.ys true (2 : Nat) (List.length x.b.cons) (cellsOf' encC x.b.cons)] (k * (7 : Nat) + j)) ∧ True) ∧ True ∧ (PartTy x.a ∧ PartTy x.b ∧ bad x.a = false ∧ bad x.b = false ∧ live2 x.a x.b = true) ∧ true = true ∧ True ∧ (({ data := #[] : ByteArray } = ByteArray.empty ∧ { data := #[] : ByteArray } = ByteArray.empty ∧ (0 : Int) = (0 : Int) ∧ (0 : Int) = (0 : Int) ∧ (0 : Nat) = (0 : Nat) ∧ (0 : Nat) = (0 : Nat) ∧ (0 : Nat) = (0 : Nat) ∧ True) ∧ (171 : Int) = (171 : Int) ∧ True) ∧ True
set_option maxRecDepth 1000000 in
theorem vcM2_eq (x : Mrg) : (ctrVC Tryz.prog (mr2H x) 12 [.agg (encPt true x.a), .agg (encPt true x.b)] [] (mrE 171)) = vcM2 x := by kernel_rfl
noncomputable def mr3H (x : Mrg) : HintsT Tryz.prog := mrK (usC0 x.a x.b) (kmC1 x.a.rng x.b.rng) (joC0 true true x.a.recs x.b.recs x.out x.ta x.tb) (pbC0 true true false false x.a.prods x.b.prods x.ta x.tb x.ps) (cbC0 true true false false x.a.cons x.b.cons x.ta x.tb x.cs) (pkC 0 false x.m)
def vcM3 (x : Mrg) : Prop :=
  ((false = false ∧ (2 : Nat) = (2 : Nat) ∧ contLe (2 : Nat) (7 : Nat) (fun (k j : Nat) => Ax.get [AV.y (Value.string x.a.rng.lo), AV.y (Value.string x.a.rng.hi), AV.y (Value.int IntKind.u64 x.a.epoch), AV.y (Value.int IntKind.u64 x.a.frozen), AV.ys true (5 : Nat) (List.length x.a.recs) (cellsOf' encR x.a.recs), AV.ys true (4 : Nat) (List.length x.a.prods) (cellsOf' P.encP x.a.prods), AV.ys true (2 : Nat) (List.length x.a.cons) (cellsOf' encC x.a.cons), AV.y (Value.string x.b.rng.lo), AV.y (Value.string x.b.rng.hi), AV.y (Value.int IntKind.u64 x.b.epoch), AV.y (Value.int IntKind.u64 x.b.frozen), AV.ys true (5 : Nat) (List.length x.b.recs) (cellsOf' encR x.b.recs), AV.ys true (4 : Nat) (List.length x.b.prods) (cellsOf' P.encP x.b.prods), AV.ys true (2 : Nat) (List.length x.b.cons) (cellsOf' encC x.b.cons)] (((0 : Nat) + k) * (7 : Nat) + j)) fun (k j : Nat) => Ax.get [AV.y (Value.string x.a.rng.lo), AV.y (Value.string x.a.rng.hi), AV.y (Value.int IntKind.u64 x.a.epoch), AV.y (Value.int IntKind.u64 x.a.frozen), AV.ys true (5 : Nat) (List.length x.a.recs) (cellsOf' encR x.a.recs), AV.ys true (4 : Nat) (List.length x.a.prods) (cellsOf' P.encP x.a.prods), AV.ys true (2 : Nat) (List.length x.a.cons) (cellsOf' encC x.a.cons), AV.y (Value.string x.b.rng.lo), AV.y (Value.string x.b.rng.hi), AV.y (Value.int IntKind.u64 x.b.epoch), AV.y (Value.int IntKind.u64 x.b.frozen), AV.ys true (5 : Nat) (List.length x.b.recs) (cellsOf' encR x.b.recs), AV.ys true (4 : Nat) (List.length x.b.prods) (cellsOf' P.encP x.b.prods), AV.ys true (2 : Nat) (List.length x.b.cons) (cellsOf' encC x.b.cons)] (k * (7 : Nat) + j)) ∧ True) ∧ True ∧ (PartTy x.a ∧ PartTy x.b ∧ bad x.a = false ∧ bad x.b = false ∧ live2 x.a x.b = false) ∧ true = true ∧ True ∧ ((x.a.rng.lo = x.a.rng.lo ∧ x.a.rng.hi = x.a.rng.hi ∧ True) ∧ (x.b.rng.lo = x.b.rng.lo ∧ x.b.rng.hi = x.b.rng.hi ∧ True) ∧ True) ∧ True ∧ kmE x.a.rng x.b.rng = (133 : Int) ∧ (({ data := #[] : ByteArray } = ByteArray.empty ∧ { data := #[] : ByteArray } = ByteArray.empty ∧ (0 : Int) = (0 : Int) ∧ (0 : Int) = (0 : Int) ∧ (0 : Nat) = (0 : Nat) ∧ (0 : Nat) = (0 : Nat) ∧ (0 : Nat) = (0 : Nat) ∧ True) ∧ (133 : Int) = (133 : Int) ∧ True) ∧ True
set_option maxRecDepth 1000000 in
theorem vcM3_eq (x : Mrg) : (ctrVC Tryz.prog (mr3H x) 12 [.agg (encPt true x.a), .agg (encPt true x.b)] [] (mrE 133)) = vcM3 x := by kernel_rfl
noncomputable def mr4H (x : Mrg) : HintsT Tryz.prog := mrK (usC0 x.a x.b) (kmC0 x.a.rng x.b.rng) (joC1 143 true true x.a.recs x.b.recs) (pbC0 true true false false x.a.prods x.b.prods x.ta x.tb x.ps) (cbC0 true true false false x.a.cons x.b.cons x.ta x.tb x.cs) (pkC 0 false x.m)
def vcM4 (x : Mrg) : Prop :=
  ((false = false ∧ (2 : Nat) = (2 : Nat) ∧ contLe (2 : Nat) (7 : Nat) (fun (k j : Nat) => Ax.get [AV.y (Value.string x.a.rng.lo), AV.y (Value.string x.a.rng.hi), AV.y (Value.int IntKind.u64 x.a.epoch), AV.y (Value.int IntKind.u64 x.a.frozen), AV.ys true (5 : Nat) (List.length x.a.recs) (cellsOf' encR x.a.recs), AV.ys true (4 : Nat) (List.length x.a.prods) (cellsOf' P.encP x.a.prods), AV.ys true (2 : Nat) (List.length x.a.cons) (cellsOf' encC x.a.cons), AV.y (Value.string x.b.rng.lo), AV.y (Value.string x.b.rng.hi), AV.y (Value.int IntKind.u64 x.b.epoch), AV.y (Value.int IntKind.u64 x.b.frozen), AV.ys true (5 : Nat) (List.length x.b.recs) (cellsOf' encR x.b.recs), AV.ys true (4 : Nat) (List.length x.b.prods) (cellsOf' P.encP x.b.prods), AV.ys true (2 : Nat) (List.length x.b.cons) (cellsOf' encC x.b.cons)] (((0 : Nat) + k) * (7 : Nat) + j)) fun (k j : Nat) => Ax.get [AV.y (Value.string x.a.rng.lo), AV.y (Value.string x.a.rng.hi), AV.y (Value.int IntKind.u64 x.a.epoch), AV.y (Value.int IntKind.u64 x.a.frozen), AV.ys true (5 : Nat) (List.length x.a.recs) (cellsOf' encR x.a.recs), AV.ys true (4 : Nat) (List.length x.a.prods) (cellsOf' P.encP x.a.prods), AV.ys true (2 : Nat) (List.length x.a.cons) (cellsOf' encC x.a.cons), AV.y (Value.string x.b.rng.lo), AV.y (Value.string x.b.rng.hi), AV.y (Value.int IntKind.u64 x.b.epoch), AV.y (Value.int IntKind.u64 x.b.frozen), AV.ys true (5 : Nat) (List.length x.b.recs) (cellsOf' encR x.b.recs), AV.ys true (4 : Nat) (List.length x.b.prods) (cellsOf' P.encP x.b.prods), AV.ys true (2 : Nat) (List.length x.b.cons) (cellsOf' encC x.b.cons)] (k * (7 : Nat) + j)) ∧ True) ∧ True ∧ (PartTy x.a ∧ PartTy x.b ∧ bad x.a = false ∧ bad x.b = false ∧ live2 x.a x.b = false) ∧ true = true ∧ True ∧ ((x.a.rng.lo = x.a.rng.lo ∧ x.a.rng.hi = x.a.rng.hi ∧ True) ∧ (x.b.rng.lo = x.b.rng.lo ∧ x.b.rng.hi = x.b.rng.hi ∧ True) ∧ True) ∧ True ∧ kmE x.a.rng x.b.rng = (0 : Int) ∧ ((true = true ∧ List.length x.a.recs = List.length x.a.recs ∧ contLe (List.length x.a.recs) (5 : Nat) (cellsOf' encR x.a.recs) (cellsOf' encR x.a.recs)) ∧ (true = true ∧ List.length x.b.recs = List.length x.b.recs ∧ contLe (List.length x.b.recs) (5 : Nat) (cellsOf' encR x.b.recs) (cellsOf' encR x.b.recs)) ∧ True) ∧ True ∧ (isLog x.a.recs = true ∧ isLog x.b.recs = true ∧ ((4096 : Nat) < List.length x.a.recs + List.length x.b.recs ∧ (143 : Int) = (143 : Int) ∨ List.length x.a.recs + List.length x.b.recs ≤ (4096 : Nat) ∧ Jo.run (jo0 x.a.recs x.b.recs) = none ∧ (143 : Int) = (145 : Int))) ∧ (({ data := #[] : ByteArray } = ByteArray.empty ∧ { data := #[] : ByteArray } = ByteArray.empty ∧ (0 : Int) = (0 : Int) ∧ (0 : Int) = (0 : Int) ∧ (0 : Nat) = (0 : Nat) ∧ (0 : Nat) = (0 : Nat) ∧ (0 : Nat) = (0 : Nat) ∧ True) ∧ (143 : Int) = (143 : Int) ∧ True) ∧ True
set_option maxRecDepth 1000000 in
theorem vcM4_eq (x : Mrg) : (ctrVC Tryz.prog (mr4H x) 12 [.agg (encPt true x.a), .agg (encPt true x.b)] [] (mrE 143)) = vcM4 x := by kernel_rfl
noncomputable def mr5H (x : Mrg) : HintsT Tryz.prog := mrK (usC0 x.a x.b) (kmC0 x.a.rng x.b.rng) (joC1 145 true true x.a.recs x.b.recs) (pbC0 true true false false x.a.prods x.b.prods x.ta x.tb x.ps) (cbC0 true true false false x.a.cons x.b.cons x.ta x.tb x.cs) (pkC 0 false x.m)
def vcM5 (x : Mrg) : Prop :=
  ((false = false ∧ (2 : Nat) = (2 : Nat) ∧ contLe (2 : Nat) (7 : Nat) (fun (k j : Nat) => Ax.get [AV.y (Value.string x.a.rng.lo), AV.y (Value.string x.a.rng.hi), AV.y (Value.int IntKind.u64 x.a.epoch), AV.y (Value.int IntKind.u64 x.a.frozen), AV.ys true (5 : Nat) (List.length x.a.recs) (cellsOf' encR x.a.recs), AV.ys true (4 : Nat) (List.length x.a.prods) (cellsOf' P.encP x.a.prods), AV.ys true (2 : Nat) (List.length x.a.cons) (cellsOf' encC x.a.cons), AV.y (Value.string x.b.rng.lo), AV.y (Value.string x.b.rng.hi), AV.y (Value.int IntKind.u64 x.b.epoch), AV.y (Value.int IntKind.u64 x.b.frozen), AV.ys true (5 : Nat) (List.length x.b.recs) (cellsOf' encR x.b.recs), AV.ys true (4 : Nat) (List.length x.b.prods) (cellsOf' P.encP x.b.prods), AV.ys true (2 : Nat) (List.length x.b.cons) (cellsOf' encC x.b.cons)] (((0 : Nat) + k) * (7 : Nat) + j)) fun (k j : Nat) => Ax.get [AV.y (Value.string x.a.rng.lo), AV.y (Value.string x.a.rng.hi), AV.y (Value.int IntKind.u64 x.a.epoch), AV.y (Value.int IntKind.u64 x.a.frozen), AV.ys true (5 : Nat) (List.length x.a.recs) (cellsOf' encR x.a.recs), AV.ys true (4 : Nat) (List.length x.a.prods) (cellsOf' P.encP x.a.prods), AV.ys true (2 : Nat) (List.length x.a.cons) (cellsOf' encC x.a.cons), AV.y (Value.string x.b.rng.lo), AV.y (Value.string x.b.rng.hi), AV.y (Value.int IntKind.u64 x.b.epoch), AV.y (Value.int IntKind.u64 x.b.frozen), AV.ys true (5 : Nat) (List.length x.b.recs) (cellsOf' encR x.b.recs), AV.ys true (4 : Nat) (List.length x.b.prods) (cellsOf' P.encP x.b.prods), AV.ys true (2 : Nat) (List.length x.b.cons) (cellsOf' encC x.b.cons)] (k * (7 : Nat) + j)) ∧ True) ∧ True ∧ (PartTy x.a ∧ PartTy x.b ∧ bad x.a = false ∧ bad x.b = false ∧ live2 x.a x.b = false) ∧ true = true ∧ True ∧ ((x.a.rng.lo = x.a.rng.lo ∧ x.a.rng.hi = x.a.rng.hi ∧ True) ∧ (x.b.rng.lo = x.b.rng.lo ∧ x.b.rng.hi = x.b.rng.hi ∧ True) ∧ True) ∧ True ∧ kmE x.a.rng x.b.rng = (0 : Int) ∧ ((true = true ∧ List.length x.a.recs = List.length x.a.recs ∧ contLe (List.length x.a.recs) (5 : Nat) (cellsOf' encR x.a.recs) (cellsOf' encR x.a.recs)) ∧ (true = true ∧ List.length x.b.recs = List.length x.b.recs ∧ contLe (List.length x.b.recs) (5 : Nat) (cellsOf' encR x.b.recs) (cellsOf' encR x.b.recs)) ∧ True) ∧ True ∧ (isLog x.a.recs = true ∧ isLog x.b.recs = true ∧ ((4096 : Nat) < List.length x.a.recs + List.length x.b.recs ∧ (145 : Int) = (143 : Int) ∨ List.length x.a.recs + List.length x.b.recs ≤ (4096 : Nat) ∧ Jo.run (jo0 x.a.recs x.b.recs) = none ∧ (145 : Int) = (145 : Int))) ∧ (({ data := #[] : ByteArray } = ByteArray.empty ∧ { data := #[] : ByteArray } = ByteArray.empty ∧ (0 : Int) = (0 : Int) ∧ (0 : Int) = (0 : Int) ∧ (0 : Nat) = (0 : Nat) ∧ (0 : Nat) = (0 : Nat) ∧ (0 : Nat) = (0 : Nat) ∧ True) ∧ (145 : Int) = (145 : Int) ∧ True) ∧ True
set_option maxRecDepth 1000000 in
theorem vcM5_eq (x : Mrg) : (ctrVC Tryz.prog (mr5H x) 12 [.agg (encPt true x.a), .agg (encPt true x.b)] [] (mrE 145)) = vcM5 x := by kernel_rfl
noncomputable def mr6H (x : Mrg) : HintsT Tryz.prog := mrK (usC0 x.a x.b) (kmC0 x.a.rng x.b.rng) (joC0 true true x.a.recs x.b.recs x.out x.ta x.tb) (pbC1 true true false false x.a.prods x.b.prods x.ta x.tb) (cbC0 true true false false x.a.cons x.b.cons x.ta x.tb x.cs) (pkC 0 false x.m)
def vcM6 (x : Mrg) : Prop :=
  ((false = false ∧ (2 : Nat) = (2 : Nat) ∧ contLe (2 : Nat) (7 : Nat) (fun (k j : Nat) => Ax.get [AV.y (Value.string x.a.rng.lo), AV.y (Value.string x.a.rng.hi), AV.y (Value.int IntKind.u64 x.a.epoch), AV.y (Value.int IntKind.u64 x.a.frozen), AV.ys true (5 : Nat) (List.length x.a.recs) (cellsOf' encR x.a.recs), AV.ys true (4 : Nat) (List.length x.a.prods) (cellsOf' P.encP x.a.prods), AV.ys true (2 : Nat) (List.length x.a.cons) (cellsOf' encC x.a.cons), AV.y (Value.string x.b.rng.lo), AV.y (Value.string x.b.rng.hi), AV.y (Value.int IntKind.u64 x.b.epoch), AV.y (Value.int IntKind.u64 x.b.frozen), AV.ys true (5 : Nat) (List.length x.b.recs) (cellsOf' encR x.b.recs), AV.ys true (4 : Nat) (List.length x.b.prods) (cellsOf' P.encP x.b.prods), AV.ys true (2 : Nat) (List.length x.b.cons) (cellsOf' encC x.b.cons)] (((0 : Nat) + k) * (7 : Nat) + j)) fun (k j : Nat) => Ax.get [AV.y (Value.string x.a.rng.lo), AV.y (Value.string x.a.rng.hi), AV.y (Value.int IntKind.u64 x.a.epoch), AV.y (Value.int IntKind.u64 x.a.frozen), AV.ys true (5 : Nat) (List.length x.a.recs) (cellsOf' encR x.a.recs), AV.ys true (4 : Nat) (List.length x.a.prods) (cellsOf' P.encP x.a.prods), AV.ys true (2 : Nat) (List.length x.a.cons) (cellsOf' encC x.a.cons), AV.y (Value.string x.b.rng.lo), AV.y (Value.string x.b.rng.hi), AV.y (Value.int IntKind.u64 x.b.epoch), AV.y (Value.int IntKind.u64 x.b.frozen), AV.ys true (5 : Nat) (List.length x.b.recs) (cellsOf' encR x.b.recs), AV.ys true (4 : Nat) (List.length x.b.prods) (cellsOf' P.encP x.b.prods), AV.ys true (2 : Nat) (List.length x.b.cons) (cellsOf' encC x.b.cons)] (k * (7 : Nat) + j)) ∧ True) ∧ True ∧ (PartTy x.a ∧ PartTy x.b ∧ bad x.a = false ∧ bad x.b = false ∧ live2 x.a x.b = false) ∧ true = true ∧ True ∧ ((x.a.rng.lo = x.a.rng.lo ∧ x.a.rng.hi = x.a.rng.hi ∧ True) ∧ (x.b.rng.lo = x.b.rng.lo ∧ x.b.rng.hi = x.b.rng.hi ∧ True) ∧ True) ∧ True ∧ kmE x.a.rng x.b.rng = (0 : Int) ∧ ((true = true ∧ List.length x.a.recs = List.length x.a.recs ∧ contLe (List.length x.a.recs) (5 : Nat) (cellsOf' encR x.a.recs) (cellsOf' encR x.a.recs)) ∧ (true = true ∧ List.length x.b.recs = List.length x.b.recs ∧ contLe (List.length x.b.recs) (5 : Nat) (cellsOf' encR x.b.recs) (cellsOf' encR x.b.recs)) ∧ True) ∧ True ∧ JoinOk x.a.recs x.b.recs x.out x.ta x.tb ∧ ((true = true ∧ List.length x.a.prods = List.length x.a.prods ∧ contLe (List.length x.a.prods) (4 : Nat) (cellsOf' P.encP x.a.prods) (cellsOf' P.encP x.a.prods)) ∧ (true = true ∧ List.length x.b.prods = List.length x.b.prods ∧ contLe (List.length x.b.prods) (4 : Nat) (cellsOf' P.encP x.b.prods) (cellsOf' P.encP x.b.prods)) ∧ (false = false ∧ List.length x.ta = List.length x.ta ∧ contLe (List.length x.ta) (1 : Nat) (Ax.rowAt (0 : Nat) (cellsOf' encU x.ta)) (cellsOf' encU x.ta)) ∧ (false = false ∧ List.length x.tb = List.length x.tb ∧ contLe (List.length x.tb) (1 : Nat) (Ax.rowAt (0 : Nat) (cellsOf' encU x.tb)) (cellsOf' encU x.tb)) ∧ True) ∧ True ∧ (PbIn x.a.prods x.b.prods x.ta x.tb ∧ P.bothE x.a.prods x.b.prods x.ta x.tb = (153 : Int)) ∧ true = true ∧ True ∧ (({ data := #[] : ByteArray } = ByteArray.empty ∧ { data := #[] : ByteArray } = ByteArray.empty ∧ (0 : Int) = (0 : Int) ∧ (0 : Int) = (0 : Int) ∧ (0 : Nat) = (0 : Nat) ∧ (0 : Nat) = (0 : Nat) ∧ (0 : Nat) = (0 : Nat) ∧ True) ∧ (153 : Int) = (153 : Int) ∧ True) ∧ True
set_option maxRecDepth 1000000 in
theorem vcM6_eq (x : Mrg) : (ctrVC Tryz.prog (mr6H x) 12 [.agg (encPt true x.a), .agg (encPt true x.b)] [] (mrE 153)) = vcM6 x := by kernel_rfl
noncomputable def mr7H (x : Mrg) : HintsT Tryz.prog := mrK (usC0 x.a x.b) (kmC0 x.a.rng x.b.rng) (joC0 true true x.a.recs x.b.recs x.out x.ta x.tb) (pbC0 true true false false x.a.prods x.b.prods x.ta x.tb x.ps) (cbC1 true true false false x.a.cons x.b.cons x.ta x.tb) (pkC 0 false x.m)
def vcM7 (x : Mrg) : Prop :=
  ((false = false ∧ (2 : Nat) = (2 : Nat) ∧ contLe (2 : Nat) (7 : Nat) (fun (k j : Nat) => Ax.get [AV.y (Value.string x.a.rng.lo), AV.y (Value.string x.a.rng.hi), AV.y (Value.int IntKind.u64 x.a.epoch), AV.y (Value.int IntKind.u64 x.a.frozen), AV.ys true (5 : Nat) (List.length x.a.recs) (cellsOf' encR x.a.recs), AV.ys true (4 : Nat) (List.length x.a.prods) (cellsOf' P.encP x.a.prods), AV.ys true (2 : Nat) (List.length x.a.cons) (cellsOf' encC x.a.cons), AV.y (Value.string x.b.rng.lo), AV.y (Value.string x.b.rng.hi), AV.y (Value.int IntKind.u64 x.b.epoch), AV.y (Value.int IntKind.u64 x.b.frozen), AV.ys true (5 : Nat) (List.length x.b.recs) (cellsOf' encR x.b.recs), AV.ys true (4 : Nat) (List.length x.b.prods) (cellsOf' P.encP x.b.prods), AV.ys true (2 : Nat) (List.length x.b.cons) (cellsOf' encC x.b.cons)] (((0 : Nat) + k) * (7 : Nat) + j)) fun (k j : Nat) => Ax.get [AV.y (Value.string x.a.rng.lo), AV.y (Value.string x.a.rng.hi), AV.y (Value.int IntKind.u64 x.a.epoch), AV.y (Value.int IntKind.u64 x.a.frozen), AV.ys true (5 : Nat) (List.length x.a.recs) (cellsOf' encR x.a.recs), AV.ys true (4 : Nat) (List.length x.a.prods) (cellsOf' P.encP x.a.prods), AV.ys true (2 : Nat) (List.length x.a.cons) (cellsOf' encC x.a.cons), AV.y (Value.string x.b.rng.lo), AV.y (Value.string x.b.rng.hi), AV.y (Value.int IntKind.u64 x.b.epoch), AV.y (Value.int IntKind.u64 x.b.frozen), AV.ys true (5 : Nat) (List.length x.b.recs) (cellsOf' encR x.b.recs), AV.ys true (4 : Nat) (List.length x.b.prods) (cellsOf' P.encP x.b.prods), AV.ys true (2 : Nat) (List.length x.b.cons) (cellsOf' encC x.b.cons)] (k * (7 : Nat) + j)) ∧ True) ∧ True ∧ (PartTy x.a ∧ PartTy x.b ∧ bad x.a = false ∧ bad x.b = false ∧ live2 x.a x.b = false) ∧ true = true ∧ True ∧ ((x.a.rng.lo = x.a.rng.lo ∧ x.a.rng.hi = x.a.rng.hi ∧ True) ∧ (x.b.rng.lo = x.b.rng.lo ∧ x.b.rng.hi = x.b.rng.hi ∧ True) ∧ True) ∧ True ∧ kmE x.a.rng x.b.rng = (0 : Int) ∧ ((true = true ∧ List.length x.a.recs = List.length x.a.recs ∧ contLe (List.length x.a.recs) (5 : Nat) (cellsOf' encR x.a.recs) (cellsOf' encR x.a.recs)) ∧ (true = true ∧ List.length x.b.recs = List.length x.b.recs ∧ contLe (List.length x.b.recs) (5 : Nat) (cellsOf' encR x.b.recs) (cellsOf' encR x.b.recs)) ∧ True) ∧ True ∧ JoinOk x.a.recs x.b.recs x.out x.ta x.tb ∧ ((true = true ∧ List.length x.a.prods = List.length x.a.prods ∧ contLe (List.length x.a.prods) (4 : Nat) (cellsOf' P.encP x.a.prods) (cellsOf' P.encP x.a.prods)) ∧ (true = true ∧ List.length x.b.prods = List.length x.b.prods ∧ contLe (List.length x.b.prods) (4 : Nat) (cellsOf' P.encP x.b.prods) (cellsOf' P.encP x.b.prods)) ∧ (false = false ∧ List.length x.ta = List.length x.ta ∧ contLe (List.length x.ta) (1 : Nat) (Ax.rowAt (0 : Nat) (cellsOf' encU x.ta)) (cellsOf' encU x.ta)) ∧ (false = false ∧ List.length x.tb = List.length x.tb ∧ contLe (List.length x.tb) (1 : Nat) (Ax.rowAt (0 : Nat) (cellsOf' encU x.tb)) (cellsOf' encU x.tb)) ∧ True) ∧ True ∧ (PbIn x.a.prods x.b.prods x.ta x.tb ∧ P.bothE x.a.prods x.b.prods x.ta x.tb = (0 : Int) ∧ x.ps = P.bothL x.a.prods x.b.prods x.ta x.tb) ∧ true = true ∧ ((∀ (k : Nat), k < List.length x.ps → ∀ (j : Nat), j < (4 : Nat) → tagT (cellsOf' P.encP x.ps k j) = true) ∧ True) ∧ ((true = true ∧ List.length x.a.cons = List.length x.a.cons ∧ contLe (List.length x.a.cons) (2 : Nat) (cellsOf' encC x.a.cons) (cellsOf' encC x.a.cons)) ∧ (true = true ∧ List.length x.b.cons = List.length x.b.cons ∧ contLe (List.length x.b.cons) (2 : Nat) (cellsOf' encC x.b.cons) (cellsOf' encC x.b.cons)) ∧ (false = false ∧ List.length x.ta = List.length x.ta ∧ contLe (List.length x.ta) (1 : Nat) (Ax.rowAt (0 : Nat) (cellsOf' encU x.ta)) (cellsOf' encU x.ta)) ∧ (false = false ∧ List.length x.tb = List.length x.tb ∧ contLe (List.length x.tb) (1 : Nat) (Ax.rowAt (0 : Nat) (cellsOf' encU x.tb)) (cellsOf' encU x.tb)) ∧ True) ∧ True ∧ (CbIn x.a.cons x.b.cons x.ta x.tb ∧ bothE x.a.cons x.b.cons x.ta x.tb = (143 : Int)) ∧ true = true ∧ True ∧ (({ data := #[] : ByteArray } = ByteArray.empty ∧ { data := #[] : ByteArray } = ByteArray.empty ∧ (0 : Int) = (0 : Int) ∧ (0 : Int) = (0 : Int) ∧ (0 : Nat) = (0 : Nat) ∧ (0 : Nat) = (0 : Nat) ∧ (0 : Nat) = (0 : Nat) ∧ True) ∧ (143 : Int) = (143 : Int) ∧ True) ∧ True
set_option maxRecDepth 1000000 in
theorem vcM7_eq (x : Mrg) : (ctrVC Tryz.prog (mr7H x) 12 [.agg (encPt true x.a), .agg (encPt true x.b)] [] (mrE 143)) = vcM7 x := by kernel_rfl
noncomputable def mr8H (x : Mrg) : HintsT Tryz.prog := mrK (usC0 x.a x.b) (kmC0 x.a.rng x.b.rng) (joC0 true true x.a.recs x.b.recs x.out x.ta x.tb) (pbC0 true true false false x.a.prods x.b.prods x.ta x.tb x.ps) (cbC0 true true false false x.a.cons x.b.cons x.ta x.tb x.cs) (pkC 165 false x.m)
def vcM8 (x : Mrg) : Prop :=
  ((false = false ∧ (2 : Nat) = (2 : Nat) ∧ contLe (2 : Nat) (7 : Nat) (fun (k j : Nat) => Ax.get [AV.y (Value.string x.a.rng.lo), AV.y (Value.string x.a.rng.hi), AV.y (Value.int IntKind.u64 x.a.epoch), AV.y (Value.int IntKind.u64 x.a.frozen), AV.ys true (5 : Nat) (List.length x.a.recs) (cellsOf' encR x.a.recs), AV.ys true (4 : Nat) (List.length x.a.prods) (cellsOf' P.encP x.a.prods), AV.ys true (2 : Nat) (List.length x.a.cons) (cellsOf' encC x.a.cons), AV.y (Value.string x.b.rng.lo), AV.y (Value.string x.b.rng.hi), AV.y (Value.int IntKind.u64 x.b.epoch), AV.y (Value.int IntKind.u64 x.b.frozen), AV.ys true (5 : Nat) (List.length x.b.recs) (cellsOf' encR x.b.recs), AV.ys true (4 : Nat) (List.length x.b.prods) (cellsOf' P.encP x.b.prods), AV.ys true (2 : Nat) (List.length x.b.cons) (cellsOf' encC x.b.cons)] (((0 : Nat) + k) * (7 : Nat) + j)) fun (k j : Nat) => Ax.get [AV.y (Value.string x.a.rng.lo), AV.y (Value.string x.a.rng.hi), AV.y (Value.int IntKind.u64 x.a.epoch), AV.y (Value.int IntKind.u64 x.a.frozen), AV.ys true (5 : Nat) (List.length x.a.recs) (cellsOf' encR x.a.recs), AV.ys true (4 : Nat) (List.length x.a.prods) (cellsOf' P.encP x.a.prods), AV.ys true (2 : Nat) (List.length x.a.cons) (cellsOf' encC x.a.cons), AV.y (Value.string x.b.rng.lo), AV.y (Value.string x.b.rng.hi), AV.y (Value.int IntKind.u64 x.b.epoch), AV.y (Value.int IntKind.u64 x.b.frozen), AV.ys true (5 : Nat) (List.length x.b.recs) (cellsOf' encR x.b.recs), AV.ys true (4 : Nat) (List.length x.b.prods) (cellsOf' P.encP x.b.prods), AV.ys true (2 : Nat) (List.length x.b.cons) (cellsOf' encC x.b.cons)] (k * (7 : Nat) + j)) ∧ True) ∧ True ∧ (PartTy x.a ∧ PartTy x.b ∧ bad x.a = false ∧ bad x.b = false ∧ live2 x.a x.b = false) ∧ true = true ∧ True ∧ ((x.a.rng.lo = x.a.rng.lo ∧ x.a.rng.hi = x.a.rng.hi ∧ True) ∧ (x.b.rng.lo = x.b.rng.lo ∧ x.b.rng.hi = x.b.rng.hi ∧ True) ∧ True) ∧ True ∧ kmE x.a.rng x.b.rng = (0 : Int) ∧ ((true = true ∧ List.length x.a.recs = List.length x.a.recs ∧ contLe (List.length x.a.recs) (5 : Nat) (cellsOf' encR x.a.recs) (cellsOf' encR x.a.recs)) ∧ (true = true ∧ List.length x.b.recs = List.length x.b.recs ∧ contLe (List.length x.b.recs) (5 : Nat) (cellsOf' encR x.b.recs) (cellsOf' encR x.b.recs)) ∧ True) ∧ True ∧ JoinOk x.a.recs x.b.recs x.out x.ta x.tb ∧ ((true = true ∧ List.length x.a.prods = List.length x.a.prods ∧ contLe (List.length x.a.prods) (4 : Nat) (cellsOf' P.encP x.a.prods) (cellsOf' P.encP x.a.prods)) ∧ (true = true ∧ List.length x.b.prods = List.length x.b.prods ∧ contLe (List.length x.b.prods) (4 : Nat) (cellsOf' P.encP x.b.prods) (cellsOf' P.encP x.b.prods)) ∧ (false = false ∧ List.length x.ta = List.length x.ta ∧ contLe (List.length x.ta) (1 : Nat) (Ax.rowAt (0 : Nat) (cellsOf' encU x.ta)) (cellsOf' encU x.ta)) ∧ (false = false ∧ List.length x.tb = List.length x.tb ∧ contLe (List.length x.tb) (1 : Nat) (Ax.rowAt (0 : Nat) (cellsOf' encU x.tb)) (cellsOf' encU x.tb)) ∧ True) ∧ True ∧ (PbIn x.a.prods x.b.prods x.ta x.tb ∧ P.bothE x.a.prods x.b.prods x.ta x.tb = (0 : Int) ∧ x.ps = P.bothL x.a.prods x.b.prods x.ta x.tb) ∧ true = true ∧ ((∀ (k : Nat), k < List.length x.ps → ∀ (j : Nat), j < (4 : Nat) → tagT (cellsOf' P.encP x.ps k j) = true) ∧ True) ∧ ((true = true ∧ List.length x.a.cons = List.length x.a.cons ∧ contLe (List.length x.a.cons) (2 : Nat) (cellsOf' encC x.a.cons) (cellsOf' encC x.a.cons)) ∧ (true = true ∧ List.length x.b.cons = List.length x.b.cons ∧ contLe (List.length x.b.cons) (2 : Nat) (cellsOf' encC x.b.cons) (cellsOf' encC x.b.cons)) ∧ (false = false ∧ List.length x.ta = List.length x.ta ∧ contLe (List.length x.ta) (1 : Nat) (Ax.rowAt (0 : Nat) (cellsOf' encU x.ta)) (cellsOf' encU x.ta)) ∧ (false = false ∧ List.length x.tb = List.length x.tb ∧ contLe (List.length x.tb) (1 : Nat) (Ax.rowAt (0 : Nat) (cellsOf' encU x.tb)) (cellsOf' encU x.tb)) ∧ True) ∧ True ∧ (CbIn x.a.cons x.b.cons x.ta x.tb ∧ bothE x.a.cons x.b.cons x.ta x.tb = (0 : Int) ∧ x.cs = conB x.a.cons x.b.cons x.ta x.tb) ∧ true = true ∧ ((∀ (k : Nat), k < List.length x.cs → ∀ (j : Nat), j < (2 : Nat) → tagT (cellsOf' encC x.cs k j) = true) ∧ True) ∧ ((x.a.rng.lo = x.a.rng.lo ∧ x.b.rng.hi = x.b.rng.hi ∧ IntKind.wrap IntKind.u64 ((if x.b.epoch > x.a.epoch then x.b.epoch else x.a.epoch) + (1 : Int)) = Mrg.ep x ∧ (0 : Int) = (0 : Int) ∧ (false = false ∧ List.length x.out = List.length x.out ∧ contLe (List.length x.out) (5 : Nat) (Ax.rowAt (0 : Nat) (cellsOf' encR x.out)) (cellsOf' encR x.out)) ∧ (false = false ∧ List.length x.ps = List.length x.ps ∧ contLe (List.length x.ps) (4 : Nat) (Ax.rowAt (0 : Nat) (cellsOf' P.encP x.ps)) (cellsOf' P.encP x.ps)) ∧ (false = false ∧ List.length x.cs = List.length x.cs ∧ contLe (List.length x.cs) (2 : Nat) (Ax.rowAt (0 : Nat) (cellsOf' encC x.cs)) (cellsOf' encC x.cs)) ∧ True) ∧ True) ∧ True ∧ (PartIn (Mrg.m x) ∧ (partOk (Mrg.m x) = true ∧ (165 : Int) = (0 : Int) ∨ partOk (Mrg.m x) = false ∧ (165 : Int) = (165 : Int))) ∧ true = true ∧ True ∧ (({ data := #[] : ByteArray } = ByteArray.empty ∧ { data := #[] : ByteArray } = ByteArray.empty ∧ (0 : Int) = (0 : Int) ∧ (0 : Int) = (0 : Int) ∧ (0 : Nat) = (0 : Nat) ∧ (0 : Nat) = (0 : Nat) ∧ (0 : Nat) = (0 : Nat) ∧ True) ∧ (172 : Int) = (172 : Int) ∧ True) ∧ True
set_option maxRecDepth 1000000 in
theorem vcM8_eq (x : Mrg) : (ctrVC Tryz.prog (mr8H x) 12 [.agg (encPt true x.a), .agg (encPt true x.b)] [] (mrE 172)) = vcM8 x := by kernel_rfl
structure MrgIn (x : Mrg) : Prop where
  ta : PartTy x.a
  tb : PartTy x.b
  ba : bad x.a = false
  bb : bad x.b = false
  lv : live2 x.a x.b = false
structure MrgOk (x : Mrg) : Prop where
  i : MrgIn x
  km : kmE x.a.rng x.b.rng = 0
  jo : JoinOk x.a.recs x.b.recs x.out x.ta x.tb
  pi : PbIn x.a.prods x.b.prods x.ta x.tb
  pe : P.bothE x.a.prods x.b.prods x.ta x.tb = 0
  ps : x.ps = P.bothL x.a.prods x.b.prods x.ta x.tb
  ci : CbIn x.a.cons x.b.cons x.ta x.tb
  ce : bothE x.a.cons x.b.cons x.ta x.tb = 0
  cs : x.cs = conB x.a.cons x.b.cons x.ta x.tb
  oi : PartIn x.m
  ok : partOk x.m = true
end Go.Proofs.YtckklclehofddaaGreatDoor.D

/-! Lineage: the contract of Merge. -/
namespace Go.Proofs.YtckklclehofddaaGreatDoor.D
open Go.Ax
set_option maxRecDepth 1000000
theorem tRs (l : List Rec) : ∀ (k : Nat), k < l.length → ∀ (j : Nat), j < 5 → tagT (cellsOf' encR l k j) = true := fun k _ j hj => tagR _ j hj
theorem tPs (l : List P.Producer) : ∀ (k : Nat), k < l.length → ∀ (j : Nat), j < 4 → tagT (cellsOf' P.encP l k j) = true := fun k _ j hj => tagP _ j hj
theorem tCs (l : List Con) : ∀ (k : Nat), k < l.length → ∀ (j : Nat), j < 2 → tagT (cellsOf' encC l k j) = true := fun k _ j hj => tagC _ j hj
theorem ep_eq (x : Mrg) : IntKind.u64.wrap ((if x.b.epoch > x.a.epoch then x.b.epoch else x.a.epoch) + 1) = x.ep := rfl
theorem m9_c (x : Mrg) (h : MrgOk x) : (mrO x).Sat (ACall' Tryz.prog 12 [.agg (encPt true x.a), .agg (encPt true x.b)] []) := by
  refine ctr_vc (ht := mr9H x) Tryz.mixed rfl ?_
  rw [vcM9_eq x]
  unfold vcM9
  obtain ⟨⟨h1, h2, h3, h4, h5⟩, h6, h7, h8, h9, h10, h11, h12, h13, h14, h15⟩ := h
  simp only [rowAt_zero, Nat.zero_add]
  have t1 := tRs x.out
  have t2 := tPs x.ps
  have t3 := tCs x.cs
  simp only [h1, h2, h3, h4, h5, h6, h7, h8, h9, h11, h12, h14, h15, ep_eq, contLe_refl, sameC_refl, and_true, true_and, true_or]
  repeat' with_reducible apply And.intro
  all_goals first | rfl | assumption | skip
theorem m1_c (x : Mrg) (h1 : PartTy x.a) (h2 : PartTy x.b) (h3 : (bad x.a || bad x.b) = true) : (mrE 172).Sat (ACall' Tryz.prog 12 [.agg (encPt true x.a), .agg (encPt true x.b)] []) := by
  refine ctr_vc (ht := mr1H x) Tryz.mixed rfl ?_
  rw [vcM1_eq x]
  unfold vcM1
  have t1 := tRs x.out
  have t2 := tPs x.ps
  have t3 := tCs x.cs
  have eb : ({ data := #[] } : ByteArray) = ByteArray.empty := rfl
  simp only [h1, h2, h3, ep_eq, contLe_refl, sameC_refl, and_true, true_and, true_or, or_true, rowAt_zero, Nat.zero_add]
  repeat' with_reducible apply And.intro
  all_goals first | rfl | assumption | skip
theorem m2_c (x : Mrg) (h1 : PartTy x.a) (h2 : PartTy x.b) (h3 : bad x.a = false) (h4 : bad x.b = false) (h5 : live2 x.a x.b = true) : (mrE 171).Sat (ACall' Tryz.prog 12 [.agg (encPt true x.a), .agg (encPt true x.b)] []) := by
  refine ctr_vc (ht := mr2H x) Tryz.mixed rfl ?_
  rw [vcM2_eq x]
  unfold vcM2
  have t1 := tRs x.out
  have t2 := tPs x.ps
  have t3 := tCs x.cs
  have eb : ({ data := #[] } : ByteArray) = ByteArray.empty := rfl
  simp only [h1, h2, h3, h4, h5, ep_eq, contLe_refl, sameC_refl, and_true, true_and, true_or, or_true, rowAt_zero, Nat.zero_add]
  repeat' with_reducible apply And.intro
  all_goals first | rfl | assumption | skip
theorem m3_c (x : Mrg) (h : MrgIn x) (h6 : kmE x.a.rng x.b.rng = 133) : (mrE 133).Sat (ACall' Tryz.prog 12 [.agg (encPt true x.a), .agg (encPt true x.b)] []) := by
  refine ctr_vc (ht := mr3H x) Tryz.mixed rfl ?_
  rw [vcM3_eq x]
  unfold vcM3
  obtain ⟨h1, h2, h3, h4, h5⟩ := h
  have t1 := tRs x.out
  have t2 := tPs x.ps
  have t3 := tCs x.cs
  have eb : ({ data := #[] } : ByteArray) = ByteArray.empty := rfl
  simp only [h1, h2, h3, h4, h5, h6, ep_eq, contLe_refl, sameC_refl, and_true, true_and, true_or, or_true, rowAt_zero, Nat.zero_add]
  repeat' with_reducible apply And.intro
  all_goals first | rfl | assumption | skip
theorem m4_c (x : Mrg) (h : MrgIn x) (h6 : kmE x.a.rng x.b.rng = 0) (l1 : isLog x.a.recs = true) (l2 : isLog x.b.recs = true) (h7 : 4096 < x.a.recs.length + x.b.recs.length) : (mrE 143).Sat (ACall' Tryz.prog 12 [.agg (encPt true x.a), .agg (encPt true x.b)] []) := by
  refine ctr_vc (ht := mr4H x) Tryz.mixed rfl ?_
  rw [vcM4_eq x]
  unfold vcM4
  obtain ⟨h1, h2, h3, h4, h5⟩ := h
  have t1 := tRs x.out
  have t2 := tPs x.ps
  have t3 := tCs x.cs
  have eb : ({ data := #[] } : ByteArray) = ByteArray.empty := rfl
  simp only [h1, h2, h3, h4, h5, h6, l1, l2, h7, ep_eq, contLe_refl, sameC_refl, and_true, true_and, true_or, or_true, rowAt_zero, Nat.zero_add]
  repeat' with_reducible apply And.intro
  all_goals first | rfl | assumption | skip
theorem m5_c (x : Mrg) (h : MrgIn x) (h6 : kmE x.a.rng x.b.rng = 0) (l1 : isLog x.a.recs = true) (l2 : isLog x.b.recs = true) (h7 : x.a.recs.length + x.b.recs.length ≤ 4096) (h8 : (jo0 x.a.recs x.b.recs).run = none) : (mrE 145).Sat (ACall' Tryz.prog 12 [.agg (encPt true x.a), .agg (encPt true x.b)] []) := by
  refine ctr_vc (ht := mr5H x) Tryz.mixed rfl ?_
  rw [vcM5_eq x]
  unfold vcM5
  obtain ⟨h1, h2, h3, h4, h5⟩ := h
  have t1 := tRs x.out
  have t2 := tPs x.ps
  have t3 := tCs x.cs
  have eb : ({ data := #[] } : ByteArray) = ByteArray.empty := rfl
  simp only [h1, h2, h3, h4, h5, h6, l1, l2, h7, h8, ep_eq, contLe_refl, sameC_refl, and_true, true_and, true_or, or_true, rowAt_zero, Nat.zero_add]
  repeat' with_reducible apply And.intro
  all_goals first | rfl | assumption | skip
theorem m6_c (x : Mrg) (h : MrgIn x) (h6 : kmE x.a.rng x.b.rng = 0) (h7 : JoinOk x.a.recs x.b.recs x.out x.ta x.tb) (h8 : PbIn x.a.prods x.b.prods x.ta x.tb) (h9 : P.bothE x.a.prods x.b.prods x.ta x.tb = 153) : (mrE 153).Sat (ACall' Tryz.prog 12 [.agg (encPt true x.a), .agg (encPt true x.b)] []) := by
  refine ctr_vc (ht := mr6H x) Tryz.mixed rfl ?_
  rw [vcM6_eq x]
  unfold vcM6
  obtain ⟨h1, h2, h3, h4, h5⟩ := h
  have t1 := tRs x.out
  have t2 := tPs x.ps
  have t3 := tCs x.cs
  have eb : ({ data := #[] } : ByteArray) = ByteArray.empty := rfl
  simp only [h1, h2, h3, h4, h5, h6, h7, h8, h9, ep_eq, contLe_refl, sameC_refl, and_true, true_and, true_or, or_true, rowAt_zero, Nat.zero_add]
  repeat' with_reducible apply And.intro
  all_goals first | rfl | assumption | skip
theorem m7_c (x : Mrg) (h : MrgIn x) (h6 : kmE x.a.rng x.b.rng = 0) (h7 : JoinOk x.a.recs x.b.recs x.out x.ta x.tb) (h8 : PbIn x.a.prods x.b.prods x.ta x.tb) (h9 : P.bothE x.a.prods x.b.prods x.ta x.tb = 0) (h10 : x.ps = P.bothL x.a.prods x.b.prods x.ta x.tb) (h11 : CbIn x.a.cons x.b.cons x.ta x.tb) (h12 : bothE x.a.cons x.b.cons x.ta x.tb = 143) : (mrE 143).Sat (ACall' Tryz.prog 12 [.agg (encPt true x.a), .agg (encPt true x.b)] []) := by
  refine ctr_vc (ht := mr7H x) Tryz.mixed rfl ?_
  rw [vcM7_eq x]
  unfold vcM7
  obtain ⟨h1, h2, h3, h4, h5⟩ := h
  have t1 := tRs x.out
  have t2 := tPs x.ps
  have t3 := tCs x.cs
  have eb : ({ data := #[] } : ByteArray) = ByteArray.empty := rfl
  simp only [h1, h2, h3, h4, h5, h6, h7, h8, h9, h11, h12, ep_eq, contLe_refl, sameC_refl, and_true, true_and, true_or, or_true, rowAt_zero, Nat.zero_add]
  repeat' with_reducible apply And.intro
  all_goals first | rfl | assumption | skip
theorem m8_c (x : Mrg) (h : MrgIn x) (h6 : kmE x.a.rng x.b.rng = 0) (h7 : JoinOk x.a.recs x.b.recs x.out x.ta x.tb) (h8 : PbIn x.a.prods x.b.prods x.ta x.tb) (h9 : P.bothE x.a.prods x.b.prods x.ta x.tb = 0) (h10 : x.ps = P.bothL x.a.prods x.b.prods x.ta x.tb) (h11 : CbIn x.a.cons x.b.cons x.ta x.tb) (h12 : bothE x.a.cons x.b.cons x.ta x.tb = 0) (h13 : x.cs = conB x.a.cons x.b.cons x.ta x.tb) (h14 : PartIn x.m) (h15 : partOk x.m = false) : (mrE 172).Sat (ACall' Tryz.prog 12 [.agg (encPt true x.a), .agg (encPt true x.b)] []) := by
  refine ctr_vc (ht := mr8H x) Tryz.mixed rfl ?_
  rw [vcM8_eq x]
  unfold vcM8
  obtain ⟨h1, h2, h3, h4, h5⟩ := h
  have t1 := tRs x.out
  have t2 := tPs x.ps
  have t3 := tCs x.cs
  have eb : ({ data := #[] } : ByteArray) = ByteArray.empty := rfl
  simp only [h1, h2, h3, h4, h5, h6, h7, h8, h9, h11, h12, h14, h15, ep_eq, contLe_refl, sameC_refl, and_true, true_and, true_or, or_true, rowAt_zero, Nat.zero_add]
  repeat' with_reducible apply And.intro
  all_goals first | rfl | assumption | skip
end Go.Proofs.YtckklclehofddaaGreatDoor.D

/-! Lineage: the law Three: the conditions. -/
namespace Go.Proofs.YtckklclehofddaaGreatDoor.D
open Go.Ax
set_option maxRecDepth 1000000
/-! alike, of one -/
/-! Split by the case -/
def okT (A B : Part) : T An := .ret (.tup [.agg (encPt true A), .agg (encPt true B), .s (.int .i64 0)], [], [])
structure SplOk (p : Part) (k : ByteArray) (A B : Part) : Prop where
  ty : PartTy p
  sz : k.size ≤ 9223372036854775807
  v : splitE p k = 0
  a : A = partOf p (rLow p.rng k)
  b : B = partOf p (rHigh p.rng k)
noncomputable def okC (p : Part) (k : ByteArray) (A B : Part) : Ctr Tryz.prog := ⟨9, [.agg (encPt true p), .y (.string k)], [], .need (SplOk p k A B) (okT A B), T.Sat.need fun h => by
  have := split_c p k h.ty h.sz
  unfold splitT at this
  rw [h.v] at this
  intro Q hq
  rw [h.a, h.b] at hq
  exact this Q ⟨fun _ => hq, fun e => by simp at e⟩⟩
/-! lives -/
def kc : ByteArray := ⟨#[99]⟩
def someP : Part := ⟨⟨ByteArray.empty, ByteArray.empty⟩, 3, 1, [⟨0, ⟨#[97]⟩, [], 7, 1⟩, ⟨1, ⟨#[109]⟩, [], 7, 2⟩, ⟨2, ⟨#[98]⟩, [], 8, 1⟩], [⟨7, 2, true, 1⟩, ⟨8, 1, true, 2⟩], [⟨⟨#[99]⟩, 2⟩]⟩
noncomputable def livH : HintsT Tryz.prog := withSh (hh _ noLp (cs1 8 1 1 (okC someP kc (partOf someP (rLow someP.rng kc)) (partOf someP (rHigh someP.rng kc))) noCs) noOp) (sh1 10 1 9 779 noSh)
def vcLiv (u : Unit) : Prop :=
  (({ data := #[] : ByteArray } = ByteArray.empty ∧ { data := #[] : ByteArray } = ByteArray.empty ∧ (3 : Int) = (3 : Int) ∧ (1 : Int) = (1 : Int) ∧ (true = true ∧ (3 : Nat) = (3 : Nat) ∧ contLe (3 : Nat) (5 : Nat) (Ax.rowAt (0 : Nat) fun (k j : Nat) => Ax.get [AV.s (Value.int IntKind.u64 (0 : Int)), AV.s (Value.string { data := #[(97 : UInt8)] : ByteArray }), AV.s (Value.slice none (0 : Nat) (0 : Nat)), AV.s (Value.int IntKind.u64 (7 : Int)), AV.s (Value.int IntKind.u64 (1 : Int)), AV.s (Value.int IntKind.u64 (1 : Int)), AV.s (Value.string { data := #[(109 : UInt8)] : ByteArray }), AV.s (Value.slice none (0 : Nat) (0 : Nat)), AV.s (Value.int IntKind.u64 (7 : Int)), AV.s (Value.int IntKind.u64 (2 : Int)), AV.s (Value.int IntKind.u64 (2 : Int)), AV.s (Value.string { data := #[(98 : UInt8)] : ByteArray }), AV.s (Value.slice none (0 : Nat) (0 : Nat)), AV.s (Value.int IntKind.u64 (8 : Int)), AV.s (Value.int IntKind.u64 (1 : Int))] (k * (5 : Nat) + j)) (cellsOf' encR [{ off := (0 : Int), key := { data := #[(97 : UInt8)] : ByteArray }, val := [], prod := (7 : Int), seq := (1 : Int) : Rec }, { off := (1 : Int), key := { data := #[(109 : UInt8)] : ByteArray }, val := [], prod := (7 : Int), seq := (2 : Int) : Rec }, { off := (2 : Int), key := { data := #[(98 : UInt8)] : ByteArray }, val := [], prod := (8 : Int), seq := (1 : Int) : Rec }])) ∧ (true = true ∧ (2 : Nat) = (2 : Nat) ∧ contLe (2 : Nat) (4 : Nat) (Ax.rowAt (0 : Nat) fun (k j : Nat) => Ax.get [AV.s (Value.int IntKind.u64 (7 : Int)), AV.s (Value.int IntKind.u64 (2 : Int)), AV.s (Value.bool true), AV.s (Value.int IntKind.u64 (1 : Int)), AV.s (Value.int IntKind.u64 (8 : Int)), AV.s (Value.int IntKind.u64 (1 : Int)), AV.s (Value.bool true), AV.s (Value.int IntKind.u64 (2 : Int))] (k * (4 : Nat) + j)) (cellsOf' P.encP [{ id := (7 : Int), seq := (2 : Int), here := true, offset := (1 : Int) : P.Producer }, { id := (8 : Int), seq := (1 : Int), here := true, offset := (2 : Int) : P.Producer }])) ∧ (true = true ∧ (1 : Nat) = (1 : Nat) ∧ contLe (1 : Nat) (2 : Nat) (Ax.rowAt (0 : Nat) fun (k j : Nat) => Ax.get [AV.s (Value.string { data := #[(99 : UInt8)] : ByteArray }), AV.s (Value.int IntKind.u64 (2 : Int))] (k * (2 : Nat) + j)) (cellsOf' encC [{ name := { data := #[(99 : UInt8)] : ByteArray }, off := (2 : Int) : Con }])) ∧ True) ∧ { data := #[(99 : UInt8)] : ByteArray } = kc ∧ True) ∧ True ∧ SplOk someP kc (partOf someP (rLow { lo := ByteArray.empty, hi := ByteArray.empty : Rng } kc)) (partOf someP (rHigh { lo := ByteArray.empty, hi := ByteArray.empty : Rng } kc)) ∧ (true = true → (true = true → true = true ∧ True) ∧ (true = false → false = true ∧ True)) ∧ (true = false → false = true ∧ True)
set_option maxRecDepth 1000000 in
theorem vcLiv_eq (u : Unit) : (ctrVC Tryz.prog livH 8 [] [] (boolR true)) = vcLiv u := by kernel_rfl
theorem liv_c : (boolR true).Sat (ACall' Tryz.prog 8 [] []) := by
  refine ctr_vc (ht := livH) Tryz.mixed rfl ?_
  rw [vcLiv_eq ()]
  unfold vcLiv
  have h1 : PartTy someP := by
    refine ⟨by decide, by decide, by decide, ?_, ?_⟩
    · intro x hx
      simp [someP] at hx
      rcases hx with rfl | rfl <;> decide
    · intro x hx
      simp [someP] at hx
      subst hx
      exact ⟨by decide, by decide⟩
  have two : ∀ {a b : Nat} {c c' : Nat → Nat → AV}, (∀ k, k < a → ∀ j, j < b → le0 (c k j) (c' k j)) → contLe a b c c' := fun h => h
  refine ⟨⟨⟨rfl, rfl, rfl, rfl, ⟨rfl, rfl, ?_⟩, ⟨rfl, rfl, ?_⟩, ⟨rfl, rfl, ?_⟩, trivial⟩, rfl, trivial⟩, trivial, ⟨h1, by decide, rfl, rfl, rfl⟩, fun _ => ⟨fun _ => ⟨rfl, trivial⟩, fun e => by cases e⟩, fun e => by cases e⟩
  · intro k hk j hj
    match k, hk, j, hj with
    | 0, _, 0, _ | 0, _, 1, _ | 0, _, 3, _ | 0, _, 4, _ | 1, _, 0, _ | 1, _, 1, _ | 1, _, 3, _ | 1, _, 4, _ | 2, _, 0, _ | 2, _, 1, _ | 2, _, 3, _ | 2, _, 4, _ => rfl
    | 0, _, 2, _ | 1, _, 2, _ | 2, _, 2, _ => rfl
  · intro k hk j hj
    match k, hk, j, hj with
    | 0, _, 0, _ | 0, _, 1, _ | 0, _, 2, _ | 0, _, 3, _ | 1, _, 0, _ | 1, _, 1, _ | 1, _, 2, _ | 1, _, 3, _ => rfl
  · intro k hk j hj
    match k, hk, j, hj with
    | 0, _, 0, _ | 0, _, 1, _ => rfl
noncomputable def livC : Ctr Tryz.prog := ⟨8, [], [], boolR true, liv_c⟩
/-! the law -/
end Go.Proofs.YtckklclehofddaaGreatDoor.D

/-! Lineage: the law Three. -/
namespace Go.Proofs.YtckklclehofddaaGreatDoor.D
open Go.Ax
set_option maxRecDepth 1000000
theorem less_tri : ∀ a b : List UInt8, Op.bytesLess a b = false → Op.bytesLess b a = false → a = b
  | [], [], _, _ => rfl
  | [], _ :: _, h, _ => by simp [Op.bytesLess] at h
  | _ :: _, [], _, h => by simp [Op.bytesLess] at h
  | a :: l, b :: m, h1, h2 => by
    simp only [Op.bytesLess, Bool.or_eq_false_iff, Bool.and_eq_false_iff, decide_eq_false_iff_not] at h1 h2
    have e : a = b := by
      have h3 := UInt8.not_lt.1 h1.1
      have h4 := UInt8.not_lt.1 h2.1
      exact UInt8.le_antisymm h4 h3
    subst e
    have h3 := h1.2.resolve_left (by simp)
    have h4 := h2.2.resolve_left (by simp)
    rw [less_tri l m h3 h4]
theorem lt_tri {a b : ByteArray} (h1 : lt a b = false) (h2 : lt b a = false) : a = b := by
  have := less_tri _ _ h1 h2
  obtain ⟨⟨a⟩⟩ := a
  obtain ⟨⟨b⟩⟩ := b
  simpa using this
theorem lt_nil {a b : ByteArray} (h : lt a b = true) : b.data.toList ≠ [] := fun e => by
  unfold lt at h
  rw [e] at h
  cases h2 : a.data.toList <;> rw [h2] at h <;> simp [Op.bytesLess] at h
/-- what Split says yes to -/
theorem split_ok {p : Part} {k : ByteArray} : splitE p k = 0 ↔ partOk p = true ∧ IntKind.u64.wrap (p.epoch + 1) ≠ 0 ∧ p.frozen ≠ 0 ∧ splE p.rng k = 0 := by
  unfold splitE bad
  cases h1 : partOk p
  · simp
  · by_cases h2 : IntKind.u64.wrap (p.epoch + 1) = 0
    · simp [h2]
    · by_cases h3 : p.frozen = 0
      · simp [h2, h3]
      · simp [h2, h3]
end Go.Proofs.YtckklclehofddaaGreatDoor.D

/-! Records: the law RecordsReaders. -/
namespace Go.Proofs.YtckklclehofddaaGreatDoor
open Go.Ax
set_option maxRecDepth 1000000
end Go.Proofs.YtckklclehofddaaGreatDoor

/-! Records: the law RecordsReaders: the proof. -/
namespace Go.Proofs.YtckklclehofddaaGreatDoor
open Go.Ax
set_option maxRecDepth 1000000
end Go.Proofs.YtckklclehofddaaGreatDoor

/-! Records: the law RecordsUnread: the conditions. -/
namespace Go.Proofs.YtckklclehofddaaGreatDoor
open Go.Ax
set_option maxRecDepth 1000000
def joOk (a b : List Rec) : Bool := (isLog a && isLog b) && (decide (a.length + b.length ≤ 4096) && (jo0 a b).run.isSome)
def dead (d : Nat) : List Blk := List.replicate d .dead
end Go.Proofs.YtckklclehofddaaGreatDoor

/-! Records: the law RecordsUnread: the plain laws. -/
namespace Go.Proofs.YtckklclehofddaaGreatDoor
open Go.Ax
set_option maxRecDepth 1000000
/-! what is kept -/
/-! two logs as one: the offsets do not go down -/
def nd (t : List Int) : Prop := ∀ i j, i ≤ j → j < t.length → t.getD i 0 ≤ t.getD j 0
def bd (t : List Int) (n : Int) : Prop := ∀ i, i < t.length → 0 ≤ t.getD i 0 ∧ t.getD i 0 ≤ n
theorem snoc_at (t : List Int) (n : Int) (i : Nat) (h : i < (t ++ [n]).length) : (t ++ [n]).getD i 0 = if i < t.length then t.getD i 0 else n := by
  rw [List.length_append, List.length_singleton] at h
  split
  · rename_i h1
    rw [List.getD_eq_getElem?_getD, List.getElem?_append_left h1, List.getD_eq_getElem?_getD]
  · rename_i h1
    obtain rfl : i = t.length := by omega
    rw [List.getD_eq_getElem?_getD, List.getElem?_append_right (Nat.le_refl _)]
    simp
theorem bd_snoc {t : List Int} {n m : Int} (h : bd t n) (h0 : 0 ≤ n) (hm : n ≤ m) : bd (t ++ [n]) m := by
  intro i hi
  rw [snoc_at t n i hi]
  split
  · rename_i h1
    have := h i h1; omega
  · omega
theorem bd_up {t : List Int} {n m : Int} (h : bd t n) (hm : n ≤ m) : bd t m := fun i hi => by
  have := h i hi; omega
theorem nd_snoc {t : List Int} {n : Int} (h : nd t) (hb : bd t n) : nd (t ++ [n]) := by
  intro i j hij hj
  have hi : i < (t ++ [n]).length := by omega
  rw [snoc_at t n i hi, snoc_at t n j hj]
  by_cases h1 : j < t.length
  · rw [if_pos h1, if_pos (show i < t.length by omega)]
    exact h i j hij h1
  · rw [if_neg h1]
    split
    · rename_i h2
      exact (hb i h2).2
    · exact Int.le_refl _
structure JI (A B : Nat) (s : Jo) : Prop where
  la : s.ta.length + s.a.length = A
  lb : s.tb.length + s.b.length = B
  n : s.out.length = s.ta.length + s.tb.length
  na : nd s.ta
  ba : bd s.ta (s.out.length : Nat)
  nb : nd s.tb
  bb : bd s.tb (s.out.length : Nat)
theorem at_eq {A B : Nat} {s : Jo} (h : JI A B s) (hn : A + B ≤ 4096) : s.at = (s.out.length : Nat) := by
  have h1 := h.la
  have h2 := h.lb
  have h3 := h.n
  unfold Jo.at
  rw [wrap_u64 (by omega) (by omega)]
theorem goA_ok {A B : Nat} {s : Jo} (h : JI A B s) (hn : A + B ≤ 4096) (ht : 0 < s.a.length) : JI A B s.goA := by
  have e := at_eq h hn
  have h1 := h.la
  have h3 := h.n
  have hb := h.ba
  have hl : (s.out ++ [(hd s.a).to s.at]).length = s.out.length + 1 := by simp
  refine ⟨?_, h.lb, ?_, ?_, ?_, h.nb, ?_⟩ <;> unfold Jo.goA <;> dsimp only
  · simp; omega
  · rw [hl]; simp; omega
  · rw [e]; exact nd_snoc h.na hb
  · rw [hl, e]; exact bd_snoc hb (by omega) (by omega)
  · rw [hl]; exact bd_up h.bb (by omega)
theorem goB_ok {A B : Nat} {s : Jo} (h : JI A B s) (hn : A + B ≤ 4096) (ht : 0 < s.b.length) : JI A B s.goB := by
  have e := at_eq h hn
  have h1 := h.lb
  have h3 := h.n
  have hb := h.bb
  have hl : (s.out ++ [(hd s.b).to s.at]).length = s.out.length + 1 := by simp
  refine ⟨h.la, ?_, ?_, h.na, ?_, ?_, ?_⟩ <;> unfold Jo.goB <;> dsimp only
  · simp; omega
  · rw [hl]; simp; omega
  · rw [hl]; exact bd_up h.ba (by omega)
  · rw [e]; exact nd_snoc h.nb hb
  · rw [hl, e]; exact bd_snoc hb (by omega) (by omega)
theorem pos_of_ne {l : List Rec} (h : (!l.isEmpty) = true) : 0 < l.length := by
  cases l
  · simp at h
  · simp
theorem joinN_ok {A B : Nat} (hn : A + B ≤ 4096) : ∀ (n : Nat) (s s' : Jo), n = s.a.length + s.b.length → JI A B s → joinN n s = some s' → JI A B s' ∧ s'.a = [] ∧ s'.b = []
  | 0, s, s', e, h, hj => by
    rw [joinN] at hj
    cases hj
    exact ⟨h, List.eq_nil_of_length_eq_zero (by omega), List.eq_nil_of_length_eq_zero (by omega)⟩
  | n + 1, s, s', e, h, hj => by
    rw [joinN] at hj
    by_cases hA : s.tA = true
    · rw [if_pos hA] at hj
      have hp : 0 < s.a.length := pos_of_ne (by unfold Jo.tA at hA; rw [Bool.and_eq_true] at hA; exact hA.1)
      exact joinN_ok hn n s.goA s' (by unfold Jo.goA; dsimp only; rw [List.length_tail]; omega) (goA_ok h hn hp) hj
    · rw [if_neg hA] at hj
      by_cases hB : s.tB = true
      · rw [if_pos hB] at hj
        have hp : 0 < s.b.length := pos_of_ne (by unfold Jo.tB at hB; rw [Bool.and_eq_true] at hB; exact hB.1)
        exact joinN_ok hn n s.goB s' (by unfold Jo.goB; dsimp only; rw [List.length_tail]; omega) (goB_ok h hn hp) hj
      · rw [if_neg hB] at hj
        cases hj
structure JE (A B : Nat) (s : Jo) : Prop where
  la : s.ta.length = A + 1
  lb : s.tb.length = B + 1
  n : s.out.length = A + B
  na : nd s.ta
  ba : bd s.ta (s.out.length : Nat)
  nb : nd s.tb
  bb : bd s.tb (s.out.length : Nat)
theorem run_je {a b : List Rec} (h : joOk a b = true) : JE a.length b.length ((jo0 a b).run.getD (jo0 a b)).end := by
  unfold joOk at h
  obtain ⟨_, h2⟩ := (Bool.and_eq_true _ _).mp h
  obtain ⟨h2, h3⟩ := (Bool.and_eq_true _ _).mp h2
  have hn := of_decide_eq_true h2
  obtain ⟨s, hs⟩ := Option.isSome_iff_exists.1 h3
  rw [hs, Option.getD_some]
  have h0 : JI a.length b.length (jo0 a b) := ⟨by simp [jo0], by simp [jo0], by simp [jo0], by intro i j _ hj; simp [jo0] at hj, by intro i hi; simp [jo0] at hi, by intro i j _ hj; simp [jo0] at hj, by intro i hi; simp [jo0] at hi⟩
  obtain ⟨g, ea, eb⟩ := joinN_ok hn _ (jo0 a b) s rfl h0 hs
  have e := at_eq g hn
  have g1 := g.la
  have g2 := g.lb
  have g3 := g.n
  rw [ea] at g1
  rw [eb] at g2
  simp at g1 g2
  refine ⟨?_, ?_, ?_, ?_, ?_, ?_, ?_⟩ <;> unfold Jo.end <;> dsimp only
  · simp; omega
  · simp; omega
  · omega
  · rw [e]; exact nd_snoc g.na g.ba
  · rw [e]; exact bd_snoc g.ba (by omega) (by omega)
  · rw [e]; exact nd_snoc g.nb g.bb
  · rw [e]; exact bd_snoc g.bb (by omega) (by omega)
end Go.Proofs.YtckklclehofddaaGreatDoor

/-! Records: among, stands, rises: the conditions. -/
namespace Go.Proofs.YtckklclehofddaaGreatDoor
open Go.Ax
set_option maxRecDepth 1000000
end Go.Proofs.YtckklclehofddaaGreatDoor

/-! Records: the law RecordsOrder: the conditions. -/
namespace Go.Proofs.YtckklclehofddaaGreatDoor
open Go.Ax
set_option maxRecDepth 1000000
structure Stn (j a : List Rec) (to : List Int) : Prop where
  n : to.length = a.length + 1
  up : ∀ k, k < a.length → to.getD k 0 < to.getD (k + 1) 0
  lo : ∀ k, k < a.length → 0 ≤ to.getD k 0
  hi : ∀ k, k < a.length → to.getD k 0 < j.length
  eq : ∀ k, k < a.length → j.getD (to.getD k 0).toNat default = (a.getD k default).to (to.getD k 0)
  jl : j.length ≤ 4096
structure Ord where
  a : List Rec
  b : List Rec
  r : Rng
  K : Ke
  J : Jo
instance : Inhabited Ord := ⟨⟨[], [], default, ⟨[], []⟩, ⟨[], [], [], [], []⟩⟩⟩
def orT (o : Ord) (k : Nat) : List AV := mkT 203 [(0, encRs true o.a), (1, encRs true o.b), (5, .ptr 0 0 0 0), (7, .y (.bool true)), (8, .own 1 5 0 o.K.out.length), (9, .own 2 1 0 o.K.to.length), (10, .y (.int .i64 k))]
end Go.Proofs.YtckklclehofddaaGreatDoor

/-! Records: the law RecordsOrder: the plain laws. -/
namespace Go.Proofs.YtckklclehofddaaGreatDoor
open Go.Ax
set_option maxRecDepth 1000000
theorem snocR (t : List Rec) (n : Rec) (i : Nat) : (t ++ [n]).getD i default = if i < t.length then t.getD i default else if i = t.length then n else default := by
  split
  · rename_i h1
    rw [List.getD_eq_getElem?_getD, List.getElem?_append_left h1, List.getD_eq_getElem?_getD]
  · rename_i h1
    rw [List.getD_eq_getElem?_getD, List.getElem?_append_right (by omega)]
    split
    · rename_i h2
      rw [h2, Nat.sub_self]; rfl
    · rename_i h2
      rw [List.getElem?_eq_none (by simp; omega)]; rfl
/-! what is kept -/
/-! two logs as one -/
structure Sd (x0 x : List Rec) (t : List Int) (out : List Rec) : Prop where
  dr : x = x0.drop t.length
  le : t.length ≤ x0.length
  up : ∀ k, k + 1 < t.length → t.getD k 0 < t.getD (k + 1) 0
  lo : ∀ k, k < t.length → 0 ≤ t.getD k 0 ∧ t.getD k 0 < out.length
  eq : ∀ k, k < t.length → out.getD (t.getD k 0).toNat default = (x0.getD k default).to (t.getD k 0)
theorem Sd.other {x0 x : List Rec} {t : List Int} {out : List Rec} (h : Sd x0 x t out) (z : Rec) : Sd x0 x t (out ++ [z]) where
  dr := h.dr
  le := h.le
  up := h.up
  lo := fun k hk => by
    have := h.lo k hk
    have hn : (out ++ [z]).length = out.length + 1 := by simp
    rw [hn]; omega
  eq := fun k hk => by
    have := h.lo k hk
    rw [snocR, if_pos (by omega)]
    exact h.eq k hk
theorem Sd.push {x0 x : List Rec} {t : List Int} {out : List Rec} (h : Sd x0 x t out) (hp : 0 < x.length) : Sd x0 x.tail (t ++ [(out.length : Int)]) (out ++ [(hd x).to (out.length : Int)]) where
  dr := by rw [h.dr]; simp
  le := by
    have := h.dr; rw [this] at hp; simp at hp ⊢; omega
  up := fun k hk => by
    simp at hk
    rw [snoc_at t _ k (by simp; omega), snoc_at t _ (k + 1) (by simp; omega), if_pos (by omega)]
    split
    · rename_i h1; exact h.up k h1
    · exact (h.lo k (by omega)).2
  lo := fun k hk => by
    simp at hk
    rw [snoc_at t _ k (by simp; omega)]
    split
    · rename_i h1
      have := h.lo k h1
      have hn : (out ++ [(hd x).to (out.length : Int)]).length = out.length + 1 := by simp
      rw [hn]; omega
    · have hn : (out ++ [(hd x).to (out.length : Int)]).length = out.length + 1 := by simp
      rw [hn]; omega
  eq := fun k hk => by
    simp at hk
    rw [snoc_at t _ k (by simp; omega)]
    split
    · rename_i h1
      have := h.lo k h1
      rw [snocR, if_pos (by omega)]
      exact h.eq k h1
    · obtain rfl : k = t.length := by omega
      rw [Int.toNat_natCast, snocR, if_neg (by omega), if_pos rfl]
      congr 1
      unfold hd
      rw [h.dr]
      simp
theorem Sd.fin {x0 : List Rec} {t : List Int} {out : List Rec} (h : Sd x0 [] t out) (hl : out.length ≤ 4096) : Stn out x0 (t ++ [(out.length : Int)]) := by
  have hn : t.length = x0.length := by
    have h1 := congrArg List.length h.dr
    have h2 := h.le
    simp at h1; omega
  refine ⟨by simp [hn], fun k hk => ?_, fun k hk => ?_, fun k hk => ?_, fun k hk => ?_, hl⟩
  · rw [snoc_at t _ k (by simp; omega), snoc_at t _ (k + 1) (by simp; omega), if_pos (by omega)]
    split
    · rename_i h1; exact h.up k h1
    · exact (h.lo k (by omega)).2
  · rw [snoc_at t _ k (by simp; omega), if_pos (by omega)]
    exact (h.lo k (by omega)).1
  · rw [snoc_at t _ k (by simp; omega), if_pos (by omega)]
    exact (h.lo k (by omega)).2
  · rw [snoc_at t _ k (by simp; omega), if_pos (by omega)]
    exact h.eq k (by omega)
def rP (x y : Rec) : Prop := x.prod = y.prod → x.seq ≤ y.seq
structure JR2 (a0 b0 : List Rec) (s : Jo) : Prop where
  sa : Sd a0 s.a s.ta s.out
  sb : Sd b0 s.b s.tb s.out
  lg : ∀ k, k < s.out.length → okR (s.out.getD k default) k = true
  ra : a0.Pairwise rP → b0.Pairwise rP → (s.out ++ s.a).Pairwise rP ∧ (s.out ++ s.b).Pairwise rP
theorem log_okj {l : List Rec} (h : isLog l = true) {k : Nat} (hk : k < l.length) : okR (l.getD k default) k = true := by
  unfold isLog at h
  have h1 := ((Bool.and_eq_true _ _).mp h).1
  unfold logFrom at h1
  rw [List.all_eq_true] at h1
  exact h1 k (by simp; omega)
theorem log_of {l : List Rec} (h : ∀ k, k < l.length → okR (l.getD k default) k = true) (hl : l.length ≤ 4096) : isLog l = true := by
  unfold isLog logFrom
  rw [decide_eq_true hl, Bool.and_true, List.all_eq_true]
  intro k hk
  simp at hk
  exact h k hk
theorem okR_to {x : Rec} {k n : Nat} (h : okR x k = true) (hn : n ≤ 4096) : okR (x.to (n : Int)) n = true := by
  unfold okR at h ⊢
  have h2 := ((Bool.and_eq_true _ _).mp h).2
  have e : IntKind.u64.wrap (n : Int) = n := wrap_u64 (by omega) (by omega)
  have e3 : (decide (x.key.size ≤ 32) && decide (x.val.length ≤ 256)) = true := h2
  show (!((n : Int) != IntKind.u64.wrap (n : Int)) && (decide (x.key.size ≤ 32) && decide (x.val.length ≤ 256))) = true
  rw [e, e3]
  simp
theorem low_of {x : Rec} {l : List Rec} (h : lowR l x = false) : ∀ y ∈ l, rP x y := by
  intro y hy hp
  unfold lowR at h
  rw [List.any_eq_false] at h
  have := h y hy
  unfold below at this
  rw [Bool.not_eq_true, Bool.and_eq_false_iff] at this
  rcases this with h1 | h1
  · simp at h1; exact absurd hp.symm h1
  · simp at h1; exact h1
theorem pw_push {out x y : List Rec} {o : Int} (hx : 0 < x.length) (h1 : (out ++ x).Pairwise rP) (h2 : (out ++ y).Pairwise rP) (h3 : ∀ z ∈ y, rP (hd x) z) :
    (out ++ [(hd x).to o] ++ x.tail).Pairwise rP ∧ (out ++ [(hd x).to o] ++ y).Pairwise rP := by
  obtain ⟨u, v, rfl⟩ : ∃ u v, x = u :: v := by
    cases x
    · simp at hx
    · exact ⟨_, _, rfl⟩
  have hu : hd (u :: v) = u := rfl
  rw [hu] at h3 ⊢
  rw [List.pairwise_append, List.pairwise_cons] at h1
  rw [List.pairwise_append] at h2
  obtain ⟨a1, ⟨a2, a3⟩, a4⟩ := h1
  obtain ⟨b1, b2, b3⟩ := h2
  have c : (out ++ [u.to o]).Pairwise rP := by
    rw [List.pairwise_append]
    refine ⟨a1, List.pairwise_singleton _ _, fun p hp q hq => ?_⟩
    obtain rfl := List.mem_singleton.1 hq
    exact a4 p hp u List.mem_cons_self
  refine ⟨?_, ?_⟩
  · rw [List.pairwise_append]
    refine ⟨c, a3, fun p hp q hq => ?_⟩
    rcases List.mem_append.1 hp with hp | hp
    · exact a4 p hp q (List.mem_cons_of_mem _ hq)
    · obtain rfl := List.mem_singleton.1 hp
      exact a2 q hq
  · rw [List.pairwise_append]
    refine ⟨c, b2, fun p hp q hq => ?_⟩
    rcases List.mem_append.1 hp with hp | hp
    · exact b3 p hp q hq
    · obtain rfl := List.mem_singleton.1 hp
      exact h3 q hq
theorem okx {a0 x : List Rec} {t : List Int} {out : List Rec} (h : Sd a0 x t out) (hl : isLog a0 = true) (hx : 0 < x.length) (hn : out.length ≤ 4096) : okR ((hd x).to (out.length : Int)) out.length = true := by
  have hd' : hd x = a0.getD t.length default := by
    unfold hd; rw [h.dr]; simp
  have hlt : t.length < a0.length := by
    have := h.dr; rw [this] at hx; simp at hx; omega
  rw [hd']
  exact okR_to (log_okj hl hlt) hn
theorem lg_push {out : List Rec} {z : Rec} (h : ∀ k, k < out.length → okR (out.getD k default) k = true) (hz : okR z out.length = true) : ∀ k, k < (out ++ [z]).length → okR ((out ++ [z]).getD k default) k = true := by
  intro k hk
  rw [snocR]
  split
  · rename_i h1; exact h k h1
  · obtain rfl : k = out.length := by simp at hk; omega
    rw [if_pos rfl]; exact hz
theorem joinN_jr {a0 b0 : List Rec} (la : isLog a0 = true) (lb : isLog b0 = true) : ∀ (n : Nat) (s s' : Jo), n = s.a.length + s.b.length → n + s.out.length ≤ 4096 → JR2 a0 b0 s → joinN n s = some s' → JR2 a0 b0 s' ∧ s'.a = [] ∧ s'.b = [] ∧ s'.out.length = n + s.out.length
  | 0, s, s', e, _, h, hj => by
    rw [joinN] at hj
    cases hj
    exact ⟨h, List.eq_nil_of_length_eq_zero (by omega), List.eq_nil_of_length_eq_zero (by omega), by omega⟩
  | n + 1, s, s', e, hl, h, hj => by
    have hat : s.at = (s.out.length : Int) := by unfold Jo.at; rw [wrap_u64 (by omega) (by omega)]
    rw [joinN] at hj
    by_cases hA : s.tA = true
    · rw [if_pos hA] at hj
      unfold Jo.tA at hA
      obtain ⟨hA1, hA2⟩ := (Bool.and_eq_true _ _).mp hA
      have hp : 0 < s.a.length := pos_of_ne hA1
      have hlow : lowR s.b (hd s.a) = false := by simpa using hA2
      have g : JR2 a0 b0 s.goA := by
        unfold Jo.goA
        rw [hat]
        refine ⟨h.sa.push hp, h.sb.other _, lg_push h.lg (okx h.sa la hp (by omega)), fun r1 r2 => ?_⟩
        obtain ⟨c1, c2⟩ := h.ra r1 r2
        exact pw_push hp c1 c2 (low_of hlow)
      obtain ⟨d1, d2, d3, d4⟩ := joinN_jr la lb n s.goA s' (by unfold Jo.goA; dsimp only; rw [List.length_tail]; omega) (by unfold Jo.goA; dsimp only; simp; omega) g hj
      refine ⟨d1, d2, d3, ?_⟩
      rw [d4]; unfold Jo.goA; simp; omega
    · rw [if_neg hA] at hj
      by_cases hB : s.tB = true
      · rw [if_pos hB] at hj
        unfold Jo.tB at hB
        obtain ⟨hB1, hB2⟩ := (Bool.and_eq_true _ _).mp hB
        have hp : 0 < s.b.length := pos_of_ne hB1
        have hlow : lowR s.a (hd s.b) = false := by simpa using hB2
        have g : JR2 a0 b0 s.goB := by
          unfold Jo.goB
          rw [hat]
          refine ⟨h.sa.other _, h.sb.push hp, lg_push h.lg (okx h.sb lb hp (by omega)), fun r1 r2 => ?_⟩
          obtain ⟨c1, c2⟩ := h.ra r1 r2
          exact (pw_push hp c2 c1 (low_of hlow)).symm
        obtain ⟨d1, d2, d3, d4⟩ := joinN_jr la lb n s.goB s' (by unfold Jo.goB; dsimp only; rw [List.length_tail]; omega) (by unfold Jo.goB; dsimp only; simp; omega) g hj
        refine ⟨d1, d2, d3, ?_⟩
        rw [d4]; unfold Jo.goB; simp; omega
      · rw [if_neg hB] at hj
        cases hj
structure JF (a b : List Rec) (J : Jo) : Prop where
  sa : Stn J.out a J.ta
  sb : Stn J.out b J.tb
  n : J.out.length = a.length + b.length
  lg : isLog J.out = true
  ra : a.Pairwise rP → b.Pairwise rP → J.out.Pairwise rP
theorem jf_of {a b : List Rec} (h : joOk a b = true) : JF a b ((jo0 a b).run.getD (jo0 a b)).end := by
  unfold joOk at h
  obtain ⟨h1, h2⟩ := (Bool.and_eq_true _ _).mp h
  obtain ⟨la, lb⟩ := (Bool.and_eq_true _ _).mp h1
  obtain ⟨h2, h3⟩ := (Bool.and_eq_true _ _).mp h2
  have hn := of_decide_eq_true h2
  obtain ⟨s, hs⟩ := Option.isSome_iff_exists.1 h3
  rw [hs, Option.getD_some]
  have h0 : JR2 a b (jo0 a b) := by
    refine ⟨⟨by simp [jo0], by simp [jo0], fun k hk => by simp [jo0] at hk, fun k hk => by simp [jo0] at hk, fun k hk => by simp [jo0] at hk⟩, ⟨by simp [jo0], by simp [jo0], fun k hk => by simp [jo0] at hk, fun k hk => by simp [jo0] at hk, fun k hk => by simp [jo0] at hk⟩, fun k hk => by simp [jo0] at hk, fun r1 r2 => ⟨by simpa [jo0] using r1, by simpa [jo0] using r2⟩⟩
  obtain ⟨g, ea, eb, en⟩ := joinN_jr la lb _ (jo0 a b) s rfl (by simp [jo0]; omega) h0 hs
  have en' : s.out.length = a.length + b.length := by rw [en]; simp [jo0]
  have hat : s.at = (s.out.length : Int) := by unfold Jo.at; rw [wrap_u64 (by omega) (by omega)]
  have ga := g.sa
  have gb := g.sb
  rw [ea] at ga
  rw [eb] at gb
  unfold Jo.end
  rw [hat]
  refine ⟨ga.fin (by omega), gb.fin (by omega), en', log_of g.lg (show s.out.length ≤ 4096 by omega), fun r1 r2 => ?_⟩
  have := (g.ra r1 r2).1
  rw [ea, List.append_nil] at this
  exact this
end Go.Proofs.YtckklclehofddaaGreatDoor

/-! Lineage: two states joined: there is what comes of it, or an error. -/
namespace Go.Proofs.YtckklclehofddaaGreatDoor.D
open Go.Ax
set_option maxRecDepth 1000000
theorem not_bad {p : Part} (h : bad p = false) : partOk p = true ∧ IntKind.u64.wrap (p.epoch + 1) ≠ 0 := by
  unfold bad at h
  simp at h
  exact h
theorem mem_both {s m : List P.Producer} {z : P.Producer} : ∀ k, k ≤ m.length → z ∈ P.both s m k → z ∈ s ∨ z ∈ m := by
  intro k
  induction k with
  | zero => intro _ h; exact .inl h
  | succ k ih =>
    intro hk h
    rw [P.both_step (by omega)] at h
    unfold P.bst at h
    split at h
    · rcases P.mem_putL h with rfl | h
      · exact .inr (by simp [List.getElem?_eq_getElem (show k < m.length by omega)])
      · exact ih (by omega) h
    · exact ih (by omega) h
theorem mv_off {to : List Int} {n : Int} (hb : bd to n) (h0 : 0 ≤ n) (x : P.Producer) (hx : 0 ≤ x.offset) : 0 ≤ (P.mvP to x).offset ∧ (P.mvP to x).offset ≤ n := by
  unfold P.mvP
  split
  · rename_i h
    simp only [P.mvOk, Bool.and_eq_true, decide_eq_true_eq] at h
    obtain ⟨_, h1, h2, _⟩ := h
    have := hb x.offset.toNat (by omega)
    show 0 ≤ to.getD x.offset.toNat default ∧ _
    exact this
  · exact ⟨Int.le_refl _, h0⟩
theorem both_off {a b : List P.Producer} {ta tb : List Int} {n : Int} (h1 : bd ta n) (h2 : bd tb n) (h0 : 0 ≤ n) (oa : ∀ x ∈ a, 0 ≤ x.offset) (ob : ∀ x ∈ b, 0 ≤ x.offset) : ∀ x ∈ P.bothL a b ta tb, 0 ≤ x.offset ∧ x.offset ≤ n := by
  intro x hx
  rcases mem_both _ (Nat.le_refl _) hx with h | h
  · obtain ⟨y, hy, rfl⟩ := List.mem_map.1 h
    exact mv_off h1 h0 y (oa y hy)
  · obtain ⟨y, hy, rfl⟩ := List.mem_map.1 h
    exact mv_off h2 h0 y (ob y hy)
structure JoAll (a b out : List Rec) (ta tb : List Int) : Prop where
  jf : JF a b ⟨[], [], out, ta, tb⟩
  ba : bd ta out.length
  bb : bd tb out.length
  na : ta.length = a.length + 1
  nb : tb.length = b.length + 1
  n : out.length = a.length + b.length
theorem jo_all {a b out : List Rec} {ta tb : List Int} (h : JoinOk a b out ta tb) : JoAll a b out ta tb := by
  obtain ⟨la, lb, hn, s, hs, rfl, rfl, rfl⟩ := h
  have hj : joOk a b = true := by simp [joOk, la, lb, hn, hs]
  have h1 := jf_of hj
  have h2 := run_je hj
  rw [hs, Option.getD_some] at h1 h2
  refine ⟨⟨h1.sa, h1.sb, h1.n, h1.lg, h1.ra⟩, ?_, ?_, h1.sa.n, h1.sb.n, h1.n⟩
  · exact h2.ba
  · exact h2.bb
theorem km_ok {a b : Part} (ha : partOk a = true) (hb : partOk b = true) : kmE a.rng b.rng = 0 ∨ kmE a.rng b.rng = 133 := by
  have h1 := (ok_parts ha).1
  have h2 := (ok_parts hb).1
  unfold kmE
  rw [if_neg (by simp [h1]), if_neg (by simp [h2])]
  split
  · exact .inr rfl
  · exact .inl rfl
theorem tab_len {l : List P.Producer} (h : P.isTable l = true) : l.length ≤ 256 := by simp [P.isTable] at h; exact h.2
theorem con_len {l : List Con} (h : isCons l = true) : l.length ≤ 64 := by simp [isCons] at h; exact h.2
theorem merge_or (a b : Part) (ha : PartTy a) (hb : PartTy b) : (∃ x : Mrg, x.a = a ∧ x.b = b ∧ MrgOk x) ∨ ∃ e : Int, e ≠ 0 ∧ (mrE e).Sat (ACall' Tryz.prog 12 [.agg (encPt true a), .agg (encPt true b)] []) := by
  by_cases c1 : (bad a || bad b) = true
  · exact .inr ⟨172, by decide, m1_c ⟨a, b, [], [], [], [], []⟩ ha hb c1⟩
  have c1 : (bad a || bad b) = false := by simpa using c1
  obtain ⟨b1, b2⟩ := Bool.or_eq_false_iff.1 c1
  by_cases c2 : live2 a b = true
  · exact .inr ⟨171, by decide, m2_c ⟨a, b, [], [], [], [], []⟩ ha hb b1 b2 c2⟩
  have c2 : live2 a b = false := by simpa using c2
  obtain ⟨oa, ea⟩ := not_bad b1
  obtain ⟨ob, eb⟩ := not_bad b2
  obtain ⟨_, _, la, pa, ca, _⟩ := ok_parts oa
  obtain ⟨_, _, lb, pb, cb, _⟩ := ok_parts ob
  have i0 : ∀ out ta tb ps cs, MrgIn ⟨a, b, out, ta, tb, ps, cs⟩ := fun _ _ _ _ _ => ⟨ha, hb, b1, b2, c2⟩
  rcases km_ok oa ob with c3 | c3
  rotate_left
  · exact .inr ⟨133, by decide, m3_c ⟨a, b, [], [], [], [], []⟩ (i0 _ _ _ _ _) c3⟩
  by_cases c4 : 4096 < a.recs.length + b.recs.length
  · exact .inr ⟨143, by decide, m4_c ⟨a, b, [], [], [], [], []⟩ (i0 _ _ _ _ _) c3 la lb c4⟩
  cases c5 : (jo0 a.recs b.recs).run with
  | none => exact .inr ⟨145, by decide, m5_c ⟨a, b, [], [], [], [], []⟩ (i0 _ _ _ _ _) c3 la lb (by show a.recs.length + b.recs.length ≤ 4096; omega) c5⟩
  | some s =>
    have jo : JoinOk a.recs b.recs s.end.out s.end.ta s.end.tb := ⟨la, lb, by omega, s, c5, rfl, rfl, rfl⟩
    obtain ⟨jf, ja, jb, na, nb, nn⟩ := jo_all jo
    generalize s.end.out = out at *
    generalize s.end.ta = ta at *
    generalize s.end.tb = tb at *
    have l1 := tab_len pa
    have l2 := tab_len pb
    have l3 := con_len ca
    have l4 := con_len cb
    have pi : PbIn a.prods b.prods ta tb := ⟨by omega, by omega, by omega, by omega, ha.po, hb.po⟩
    have ci : CbIn a.cons b.cons ta tb := ⟨by omega, by omega, ha.co, hb.co, by omega, by omega⟩
    by_cases c6 : P.bothE a.prods b.prods ta tb = 0
    rotate_left
    · have c6 : P.bothE a.prods b.prods ta tb = 153 := by
        unfold P.bothE at c6 ⊢
        rw [pa, pb] at c6 ⊢
        simp only [Bool.and_self, Bool.not_true, Bool.false_eq_true, if_false] at c6 ⊢
        split at c6
        · rw [if_pos (by assumption)]
        · exact absurd rfl c6
      exact .inr ⟨153, by decide, m6_c ⟨a, b, out, ta, tb, [], []⟩ (i0 _ _ _ _ _) c3 jo pi c6⟩
    by_cases c7 : bothE a.cons b.cons ta tb = 0
    rotate_left
    · have c7 : bothE a.cons b.cons ta tb = 143 := by
        have q1 : ¬ ta.length = 0 := by omega
        have q2 : ¬ tb.length = 0 := by omega
        unfold bothE at c7 ⊢
        rw [ca, cb] at c7 ⊢
        simp only [q1, q2, decide_false, Bool.or_false, Bool.not_true, Bool.false_eq_true, if_false] at c7 ⊢
        split at c7
        · rw [if_pos (by assumption)]
        · exact absurd rfl c7
      exact .inr ⟨143, by decide, m7_c ⟨a, b, out, ta, tb, P.bothL a.prods b.prods ta tb, []⟩ (i0 _ _ _ _ _) c3 jo pi c6 rfl ci c7⟩
    have lp : (P.bothL a.prods b.prods ta tb).length ≤ 256 := by
      unfold P.bothE at c6
      rw [pa, pb] at c6
      simp only [Bool.and_self, Bool.not_true, Bool.false_eq_true, if_false] at c6
      split at c6
      · cases c6
      · rename_i h; simp at h; omega
    have lc : (conB a.cons b.cons ta tb).length ≤ 64 := by
      have q1 : ¬ ta.length = 0 := by omega
      have q2 : ¬ tb.length = 0 := by omega
      unfold bothE at c7
      rw [ca, cb] at c7
      simp only [q1, q2, decide_false, Bool.or_false, Bool.not_true, Bool.false_eq_true, if_false] at c7
      split at c7
      · cases c7
      · rename_i h
        simp only [decide_eq_true_eq] at h
        show (boU a.cons b.cons ta tb (a.cons ++ b.cons).length).length ≤ 64
        omega
    have po := both_off (n := (out.length : Nat)) ja jb (by omega) (fun x hx => (ha.po x hx).1) (fun x hx => (hb.po x hx).1)
    let x : Mrg := ⟨a, b, out, ta, tb, P.bothL a.prods b.prods ta tb, conB a.cons b.cons ta tb⟩
    have oi : PartIn x.m := ⟨by show out.length ≤ _; omega, by show (P.bothL a.prods b.prods ta tb).length ≤ _; omega, by show (conB a.cons b.cons ta tb).length ≤ _; omega, fun k hk => (po _ (by have hk : k < (P.bothL a.prods b.prods ta tb).length := hk; show (P.bothL a.prods b.prods ta tb).getD k default ∈ _; simp [hk])).1⟩
    by_cases c8 : partOk x.m = true
    · exact .inl ⟨x, rfl, rfl, ⟨i0 _ _ _ _ _, c3, jo, pi, c6, rfl, ci, c7, rfl, oi, c8⟩⟩
    · exact .inr ⟨172, by decide, m8_c x (i0 _ _ _ _ _) c3 jo pi c6 rfl ci c7 rfl oi (by simpa using c8)⟩
end Go.Proofs.YtckklclehofddaaGreatDoor.D

/-! Lineage: the law Keeps: the conditions. -/
namespace Go.Proofs.YtckklclehofddaaGreatDoor.D
open Go.Ax
set_option maxRecDepth 1000000
end Go.Proofs.YtckklclehofddaaGreatDoor.D
