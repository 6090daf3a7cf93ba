import Derived.Test.YtckklclehofddaaDoorE13
import Derived.Test.YtckklclehofddaaDoorW1
import Derived.Test.YtckklclehofddaaDoorW3
import Derived.Test.YtckklclehofddaaDoorW4
set_option linter.unusedVariables false
set_option linter.unusedSimpArgs false
set_option linter.unusedSectionVars false
namespace Go.Proofs.YtckklclehofddaaDoor.Q
open Go.Ax Go.Proofs.YtckklclehofddaaDoor Go.Proofs.YtckklclehofddaaDoor.H Go.Proofs.YtckklclehofddaaDoor.D
set_option maxRecDepth 1000000
def rowPr (l : List P.Producer) : Blk := .row 46 4 l.length none (cellsOf' P.encP l)
def ptW (p : Part) (i j k : Nat) : List AV := [.y (.string p.rng.lo), .y (.string p.rng.hi), .y (.int .u64 p.epoch), .y (.int .u64 p.frozen), .own i 5 0 p.recs.length, .own j 4 0 p.prods.length, .own k 2 0 p.cons.length]
def ptM (p : Part) : List Blk := [towR p.recs, rowPr p.prods, rowC p.cons]
def ptF (p : Part) : List AV := [.y (.string p.rng.lo), .y (.string p.rng.hi), .y (.int .u64 p.epoch), .y (.int .u64 p.frozen), encFs false p.recs, P.encPs false p.prods, encCs false p.cons]
def partW (p : Part) : T An := .ret (.agg (ptW p 0 1 2), ptM p, [])
theorem kq1_c (b : Bool) (r : Rng) (l : List Rec) (h1 : isLog l = true) (h2 : chkK r = 0) : (kqR (ke r l).end).Sat (ACall' Tryd.prog 20 [encRs b l, .agg (encG r)] []) := by
  have hl := log_len h1
  have := kq_c b r l (by omega)
  unfold kqT at this
  rw [h1, h2] at this
  intro Q hq
  exact this Q ⟨fun _ => hq, fun e => by simp at e⟩
noncomputable def kq1C (b : Bool) (r : Rng) (l : List Rec) : Ctr Tryd.prog := ⟨20, [encRs b l, .agg (encG r)], [], .need (isLog l = true ∧ chkK r = 0) (kqR (ke r l).end), T.Sat.need fun h => kq1_c b r l h.1 h.2⟩
noncomputable def dowH (p : Part) (r : Rng) : HintsT Tryd.prog := withSh (hh _ noLp (cs1 19 1 3 (kq1C true r p.recs) (cs1 19 2 8 (P.moveN true false p.prods (toOf r p.recs)) (cs1 19 2 12 (mpC true false p.cons (toOf r p.recs)) noCs))) noOp) noSh
def vcDow (p : Part) (r : Rng) : Prop :=
  ((true = true ∧ List.length p.recs = List.length p.recs ∧ contLe (List.length p.recs) (5 : Nat) (cellsOf' encR p.recs) (cellsOf' encR p.recs)) ∧ (r.lo = r.lo ∧ r.hi = r.hi ∧ True) ∧ True) ∧ True ∧ (isLog p.recs = true ∧ chkK r = (0 : Int)) ∧ ((true = true ∧ List.length p.prods = List.length p.prods ∧ contLe (List.length p.prods) (4 : Nat) (cellsOf' P.encP p.prods) (cellsOf' P.encP p.prods)) ∧ (false = false ∧ List.length ((ke r p.recs).to ++ [IntKind.wrap IntKind.u64 (↑(List.length (ke r p.recs).out) : Int)]) = List.length (toOf r p.recs) ∧ contLe (List.length ((ke r p.recs).to ++ [IntKind.wrap IntKind.u64 (↑(List.length (ke r p.recs).out) : Int)])) (1 : Nat) (Ax.rowAt (0 : Nat) (cellsOf' encU ((ke r p.recs).to ++ [IntKind.wrap IntKind.u64 (↑(List.length (ke r p.recs).out) : Int)]))) (cellsOf' P.encI (toOf r p.recs))) ∧ True) ∧ True ∧ (List.length p.prods * (32 : Nat) ≤ (140737488355200 : Nat) ∧ List.length (toOf r p.recs) ≤ (9223372036854775806 : Nat) ∧ ∀ (x : P.Producer), x ∈ p.prods → (0 : Int) ≤ x.offset ∧ x.offset < (18446744073709551616 : Int)) ∧ true = true ∧ ((∀ (k : Nat), k < List.length (P.moveL p.prods (toOf r p.recs)) → ∀ (j : Nat), j < (4 : Nat) → tagT (cellsOf' P.encP (P.moveL p.prods (toOf r p.recs)) k j) = true) ∧ True) ∧ ((true = true ∧ List.length p.cons = List.length p.cons ∧ contLe (List.length p.cons) (2 : Nat) (cellsOf' encC p.cons) (cellsOf' encC p.cons)) ∧ (false = false ∧ List.length ((ke r p.recs).to ++ [IntKind.wrap IntKind.u64 (↑(List.length (ke r p.recs).out) : Int)]) = List.length (toOf r p.recs) ∧ contLe (List.length ((ke r p.recs).to ++ [IntKind.wrap IntKind.u64 (↑(List.length (ke r p.recs).out) : Int)])) (1 : Nat) (Ax.rowAt (0 : Nat) (cellsOf' encU ((ke r p.recs).to ++ [IntKind.wrap IntKind.u64 (↑(List.length (ke r p.recs).out) : Int)]))) (cellsOf' encU (toOf r p.recs))) ∧ True) ∧ True ∧ (List.length (toOf r p.recs) ≤ (9223372036854775806 : Nat) ∧ List.length p.cons * (24 : Nat) ≤ (140737488355200 : Nat) ∧ ∀ (x : Con), x ∈ p.cons → (0 : Int) ≤ x.off ∧ x.off < (18446744073709551616 : Int)) ∧ true = true ∧ ((∀ (k : Nat), k < List.length (mapU p.cons (toOf r p.recs) (List.length p.cons)) → ∀ (j : Nat), j < (2 : Nat) → tagT (cellsOf' encC (mapU p.cons (toOf r p.recs) (List.length p.cons)) k j) = true) ∧ True) ∧ (r.lo = r.lo ∧ r.hi = r.hi ∧ IntKind.wrap IntKind.u64 (p.epoch + (1 : Int)) = IntKind.wrap IntKind.u64 (p.epoch + (1 : Int)) ∧ (0 : Int) = (0 : Int) ∧ ((0 : Nat) = (0 : Nat) ∧ List.length (ke r p.recs).out = List.length (outOf r p.recs)) ∧ ((0 : Nat) = (0 : Nat) ∧ List.length (P.moveL p.prods (toOf r p.recs)) = List.length (P.moveL p.prods (toOf r p.recs))) ∧ ((0 : Nat) = (0 : Nat) ∧ List.length (mapU p.cons (toOf r p.recs) (List.length p.cons)) = List.length (mapU p.cons (toOf r p.recs) (List.length p.cons))) ∧ True) ∧ (List.length (ke r p.recs).out = List.length (outOf r p.recs) ∧ ∀ (k : Nat), k < List.length (ke r p.recs).out → (List.getD (ke r p.recs).out k (@default Rec instInhabitedRec)).off = (List.getD (outOf r p.recs) k (@default Rec instInhabitedRec)).off ∧ (List.getD (ke r p.recs).out k (@default Rec instInhabitedRec)).key = (List.getD (outOf r p.recs) k (@default Rec instInhabitedRec)).key ∧ (List.length (List.getD (ke r p.recs).out k (@default Rec instInhabitedRec)).val = List.length (List.getD (outOf r p.recs) k (@default Rec instInhabitedRec)).val ∧ contLe (List.length (List.getD (ke r p.recs).out k (@default Rec instInhabitedRec)).val) (1 : Nat) (cellsOf' encB (List.getD (ke r p.recs).out k (@default Rec instInhabitedRec)).val) (cellsOf' encB (List.getD (outOf r p.recs) k (@default Rec instInhabitedRec)).val)) ∧ (List.getD (ke r p.recs).out k (@default Rec instInhabitedRec)).prod = (List.getD (outOf r p.recs) k (@default Rec instInhabitedRec)).prod ∧ (List.getD (ke r p.recs).out k (@default Rec instInhabitedRec)).seq = (List.getD (outOf r p.recs) k (@default Rec instInhabitedRec)).seq ∧ True) ∧ (List.length (P.moveL p.prods (toOf r p.recs)) = List.length (P.moveL p.prods (toOf r p.recs)) ∧ contLe (List.length (P.moveL p.prods (toOf r p.recs))) (4 : Nat) (cellsOf' P.encP (P.moveL p.prods (toOf r p.recs))) (cellsOf' P.encP (P.moveL p.prods (toOf r p.recs)))) ∧ (List.length (mapU p.cons (toOf r p.recs) (List.length p.cons)) = List.length (mapU p.cons (toOf r p.recs) (List.length p.cons)) ∧ contLe (List.length (mapU p.cons (toOf r p.recs) (List.length p.cons))) (2 : Nat) (cellsOf' encC (mapU p.cons (toOf r p.recs) (List.length p.cons))) (cellsOf' encC (mapU p.cons (toOf r p.recs) (List.length p.cons)))) ∧ True
theorem vcDow_eq (p : Part) (r : Rng) : (ctrVC Tryd.prog (dowH p r) 19 [.agg (encG r), .ip false 7 (get (encPt true p))] [] (partW (partOf p r))) = vcDow p r := by kernel_rfl
theorem dow_c (p : Part) (r : Rng) (h : PartTy p) (h1 : isLog p.recs = true) (h2 : P.isTable p.prods = true) (h3 : isCons p.cons = true) (h4 : chkK r = 0) : (partW (partOf p r)).Sat (ACall' Tryd.prog 19 [.agg (encG r), .ip false 7 (get (encPt true p))] []) := by
  refine ctr_vc (ht := dowH p r) Tryd.mixed rfl ?_
  rw [vcDow_eq p r]
  unfold vcDow
  have q1 := log_len h1
  have q2 : p.prods.length ≤ 256 := by simp [P.isTable] at h2; exact h2.2
  have q3 : p.cons.length ≤ 64 := by simp [isCons] at h3; exact h3.2
  obtain ⟨q4, q5⟩ := ke_len' r p.recs
  have e1 : (ke r p.recs).to ++ [IntKind.u64.wrap ((ke r p.recs).out.length : Nat)] = toOf r p.recs := rfl
  have e2 : (ke r p.recs).out = outOf r p.recs := rfl
  have e3 : (toOf r p.recs).length = p.recs.length + 1 := by rw [← e1]; simp [q4]
  have e4 : cellsOf' P.encI (toOf r p.recs) = cellsOf' encU (toOf r p.recs) := rfl
  have e5 : (P.moveL p.prods (toOf r p.recs)).length = p.prods.length := by simp [P.moveL]
  rw [e1]
  simp only [h1, h4, e2, e4, rowAt_zero]
  have t1 : ∀ (k : Nat), k < (outOf r p.recs).length → ∀ (j : Nat), j < 5 → tagT (cellsOf' encR (outOf r p.recs) k j) = true := fun k _ j hj => tagR _ j hj
  have t2 : ∀ (k : Nat), k < (P.moveL p.prods (toOf r p.recs)).length → ∀ (j : Nat), j < 4 → tagT (cellsOf' P.encP (P.moveL p.prods (toOf r p.recs)) k j) = true := fun k _ j hj => tagP _ j hj
  have t3 : ∀ (k : Nat), k < (mapU p.cons (toOf r p.recs) p.cons.length).length → ∀ (j : Nat), j < 2 → tagT (cellsOf' encC (mapU p.cons (toOf r p.recs) p.cons.length) k j) = true := fun k _ j hj => Go.Proofs.YtckklclehofddaaDoor.D.tagC _ j hj
  have g1 : p.prods.length * 32 ≤ 140737488355200 := by omega
  have g2 : (toOf r p.recs).length ≤ 9223372036854775806 := by omega
  have g3 : p.cons.length * 24 ≤ 140737488355200 := by omega
  have g4 := h.po
  have g5 : ∀ (x : Con), x ∈ p.cons → (0 : Int) ≤ x.off ∧ x.off < 18446744073709551616 := h.co
  simp only [contLe_refl, partOf, and_true, true_and]
  repeat' with_reducible apply And.intro
  all_goals first
    | rfl
    | trivial
    | assumption
    | (intro k _ q _ j hj; exact (by (obtain rfl : j = 0 := by omega); rfl))
    | (intro k _; simp; done)
noncomputable def dowC (p : Part) (r : Rng) : Ctr Tryd.prog := ⟨19, [.agg (encG r), .ip false 7 (get (encPt true p))], [], .need (PartTy p ∧ isLog p.recs = true ∧ P.isTable p.prods = true ∧ isCons p.cons = true ∧ chkK r = 0) (partW (partOf p r)), T.Sat.need fun h => dow_c p r h.1 h.2.1 h.2.2.1 h.2.2.2.1 h.2.2.2.2⟩
def okW (A B : Part) : T An := .ret (.tup [.agg (ptW A 0 1 2), .agg (ptW B 3 4 5), .s (.int .i64 0)], ptM A ++ ptM B, [])
def splitW (p : Part) (k : ByteArray) : T An := .ite (splitE p k == 0) (okW (partOf p (rLow p.rng k)) (partOf p (rHigh p.rng k)))
  (.ret (.tup [.agg (encPt true default), .agg (encPt true default), .y (.int .i64 (splitE p k))], [], []))
noncomputable def spwH (p : Part) (k : ByteArray) : HintsT Tryd.prog := withSh (hh _ noLp (cs1 16 5 1 (pcC true p) (cs1 7 4 3 (ksC p.rng k) (cs1 7 8 2 (dowC p (rLow p.rng k)) (cs1 7 8 5 (dowC p (rHigh p.rng k)) noCs)))) noOp) noSh
def vcSpw (p : Part) (k : ByteArray) : Prop :=
  ((p.rng.lo = p.rng.lo ∧ p.rng.hi = p.rng.hi ∧ p.epoch = p.epoch ∧ p.frozen = p.frozen ∧ (true = true ∧ List.length p.recs = List.length p.recs ∧ contLe (List.length p.recs) (5 : Nat) (cellsOf' encR p.recs) (cellsOf' encR p.recs)) ∧ (true = true ∧ List.length p.prods = List.length p.prods ∧ contLe (List.length p.prods) (4 : Nat) (cellsOf' P.encP p.prods) (cellsOf' P.encP p.prods)) ∧ (true = true ∧ List.length p.cons = List.length p.cons ∧ contLe (List.length p.cons) (2 : Nat) (cellsOf' encC p.cons) (cellsOf' encC p.cons)) ∧ True) ∧ True) ∧ True ∧ PartIn p ∧ (partOk p = true → ((IntKind.wrap IntKind.u64 (p.epoch + (1 : Int)) == (0 : Int)) = true → true = true ∧ True ∧ ((D.splitE p k == (0 : Int)) = true → (({ data := #[] : ByteArray } = p.rng.lo ∧ { data := #[] : ByteArray } = k ∧ (0 : Int) = IntKind.wrap IntKind.u64 (p.epoch + (1 : Int)) ∧ (0 : Int) = (0 : Int) ∧ False ∧ False ∧ False ∧ True) ∧ ({ data := #[] : ByteArray } = k ∧ { data := #[] : ByteArray } = p.rng.hi ∧ (0 : Int) = IntKind.wrap IntKind.u64 (p.epoch + (1 : Int)) ∧ (0 : Int) = (0 : Int) ∧ False ∧ False ∧ False ∧ True) ∧ (172 : Int) = (0 : Int) ∧ True) ∧ False) ∧ ((D.splitE p k == (0 : Int)) = false → (({ data := #[] : ByteArray } = ByteArray.empty ∧ { data := #[] : ByteArray } = ByteArray.empty ∧ (0 : Int) = (0 : Int) ∧ (0 : Int) = (0 : Int) ∧ (0 : Nat) = (0 : Nat) ∧ (0 : Nat) = (0 : Nat) ∧ (0 : Nat) = (0 : Nat) ∧ True) ∧ ({ data := #[] : ByteArray } = ByteArray.empty ∧ { data := #[] : ByteArray } = ByteArray.empty ∧ (0 : Int) = (0 : Int) ∧ (0 : Int) = (0 : Int) ∧ (0 : Nat) = (0 : Nat) ∧ (0 : Nat) = (0 : Nat) ∧ (0 : Nat) = (0 : Nat) ∧ True) ∧ (172 : Int) = D.splitE p k ∧ True) ∧ True)) ∧ ((IntKind.wrap IntKind.u64 (p.epoch + (1 : Int)) == (0 : Int)) = false → ((p.frozen == (0 : Int)) = true → true = true ∧ True ∧ ((D.splitE p k == (0 : Int)) = true → (({ data := #[] : ByteArray } = p.rng.lo ∧ { data := #[] : ByteArray } = k ∧ (0 : Int) = IntKind.wrap IntKind.u64 (p.epoch + (1 : Int)) ∧ (0 : Int) = (0 : Int) ∧ False ∧ False ∧ False ∧ True) ∧ ({ data := #[] : ByteArray } = k ∧ { data := #[] : ByteArray } = p.rng.hi ∧ (0 : Int) = IntKind.wrap IntKind.u64 (p.epoch + (1 : Int)) ∧ (0 : Int) = (0 : Int) ∧ False ∧ False ∧ False ∧ True) ∧ (171 : Int) = (0 : Int) ∧ True) ∧ False) ∧ ((D.splitE p k == (0 : Int)) = false → (({ data := #[] : ByteArray } = ByteArray.empty ∧ { data := #[] : ByteArray } = ByteArray.empty ∧ (0 : Int) = (0 : Int) ∧ (0 : Int) = (0 : Int) ∧ (0 : Nat) = (0 : Nat) ∧ (0 : Nat) = (0 : Nat) ∧ (0 : Nat) = (0 : Nat) ∧ True) ∧ ({ data := #[] : ByteArray } = ByteArray.empty ∧ { data := #[] : ByteArray } = ByteArray.empty ∧ (0 : Int) = (0 : Int) ∧ (0 : Int) = (0 : Int) ∧ (0 : Nat) = (0 : Nat) ∧ (0 : Nat) = (0 : Nat) ∧ (0 : Nat) = (0 : Nat) ∧ True) ∧ (171 : Int) = D.splitE p k ∧ True) ∧ True)) ∧ ((p.frozen == (0 : Int)) = false → true = true ∧ True ∧ ((p.rng.lo = p.rng.lo ∧ p.rng.hi = p.rng.hi ∧ True) ∧ k = k ∧ True) ∧ True ∧ ByteArray.size k ≤ (9223372036854775807 : Nat) ∧ ((splE p.rng k == (0 : Int)) = true → ((p.rng.lo = p.rng.lo ∧ k = k ∧ True) ∧ (false = false ∧ (7 : Nat) ≤ (7 : Nat) ∧ cellLe (7 : Nat) (fun (j : Nat) => Ax.get [AV.y (Value.string p.rng.lo), AV.y (Value.string p.rng.hi), AV.y (Value.int IntKind.u64 p.epoch), AV.y (Value.int IntKind.u64 p.frozen), AV.ys true (5 : Nat) (List.length p.recs) (cellsOf' encR p.recs), AV.ys true (4 : Nat) (List.length p.prods) (cellsOf' P.encP p.prods), AV.ys true (2 : Nat) (List.length p.cons) (cellsOf' encC p.cons)] ((0 : Nat) + j)) (Ax.get [AV.y (Value.string p.rng.lo), AV.y (Value.string p.rng.hi), AV.y (Value.int IntKind.u64 p.epoch), AV.y (Value.int IntKind.u64 p.frozen), AV.ys true (5 : Nat) (List.length p.recs) (cellsOf' encR p.recs), AV.ys true (4 : Nat) (List.length p.prods) (cellsOf' P.encP p.prods), AV.ys true (2 : Nat) (List.length p.cons) (cellsOf' encC p.cons)])) ∧ True) ∧ True ∧ (PartTy p ∧ isLog p.recs = true ∧ P.isTable p.prods = true ∧ isCons p.cons = true ∧ chkK (rLow p.rng k) = (0 : Int)) ∧ true = true ∧ ((True ∧ ∀ (k_1 : Nat), k_1 < List.length (outOf (rLow p.rng k) p.recs) → true = true ∧ true = true ∧ (∀ (k_2 : Nat), k_2 < List.length (List.getD (outOf (rLow p.rng k) p.recs) k_1 (@default Rec instInhabitedRec)).val → ∀ (j : Nat), j < (1 : Nat) → tagT (cellsOf' encB (List.getD (outOf (rLow p.rng k) p.recs) k_1 (@default Rec instInhabitedRec)).val k_2 j) = true) ∧ true = true ∧ true = true ∧ True) ∧ (∀ (k_1 : Nat), k_1 < List.length (P.moveL p.prods (toOf (rLow p.rng k) p.recs)) → ∀ (j : Nat), j < (4 : Nat) → tagT (cellsOf' P.encP (P.moveL p.prods (toOf (rLow p.rng k) p.recs)) k_1 j) = true) ∧ (∀ (k_1 : Nat), k_1 < List.length (mapU p.cons (toOf (rLow p.rng k) p.recs) (List.length p.cons)) → ∀ (j : Nat), j < (2 : Nat) → tagT (cellsOf' encC (mapU p.cons (toOf (rLow p.rng k) p.recs) (List.length p.cons)) k_1 j) = true) ∧ True) ∧ ((k = k ∧ p.rng.hi = p.rng.hi ∧ True) ∧ (false = false ∧ (7 : Nat) ≤ (7 : Nat) ∧ cellLe (7 : Nat) (fun (j : Nat) => Ax.get [AV.y (Value.string p.rng.lo), AV.y (Value.string p.rng.hi), AV.y (Value.int IntKind.u64 p.epoch), AV.y (Value.int IntKind.u64 p.frozen), AV.ys true (5 : Nat) (List.length p.recs) (cellsOf' encR p.recs), AV.ys true (4 : Nat) (List.length p.prods) (cellsOf' P.encP p.prods), AV.ys true (2 : Nat) (List.length p.cons) (cellsOf' encC p.cons)] ((0 : Nat) + j)) (Ax.get [AV.y (Value.string p.rng.lo), AV.y (Value.string p.rng.hi), AV.y (Value.int IntKind.u64 p.epoch), AV.y (Value.int IntKind.u64 p.frozen), AV.ys true (5 : Nat) (List.length p.recs) (cellsOf' encR p.recs), AV.ys true (4 : Nat) (List.length p.prods) (cellsOf' P.encP p.prods), AV.ys true (2 : Nat) (List.length p.cons) (cellsOf' encC p.cons)])) ∧ True) ∧ True ∧ (PartTy p ∧ isLog p.recs = true ∧ P.isTable p.prods = true ∧ isCons p.cons = true ∧ chkK (rHigh p.rng k) = (0 : Int)) ∧ true = true ∧ ((True ∧ ∀ (k_1 : Nat), k_1 < List.length (outOf (rHigh p.rng k) p.recs) → true = true ∧ true = true ∧ (∀ (k_2 : Nat), k_2 < List.length (List.getD (outOf (rHigh p.rng k) p.recs) k_1 (@default Rec instInhabitedRec)).val → ∀ (j : Nat), j < (1 : Nat) → tagT (cellsOf' encB (List.getD (outOf (rHigh p.rng k) p.recs) k_1 (@default Rec instInhabitedRec)).val k_2 j) = true) ∧ true = true ∧ true = true ∧ True) ∧ (∀ (k_1 : Nat), k_1 < List.length (P.moveL p.prods (toOf (rHigh p.rng k) p.recs)) → ∀ (j : Nat), j < (4 : Nat) → tagT (cellsOf' P.encP (P.moveL p.prods (toOf (rHigh p.rng k) p.recs)) k_1 j) = true) ∧ (∀ (k_1 : Nat), k_1 < List.length (mapU p.cons (toOf (rHigh p.rng k) p.recs) (List.length p.cons)) → ∀ (j : Nat), j < (2 : Nat) → tagT (cellsOf' encC (mapU p.cons (toOf (rHigh p.rng k) p.recs) (List.length p.cons)) k_1 j) = true) ∧ True) ∧ ((D.splitE p k == (0 : Int)) = true → ((p.rng.lo = p.rng.lo ∧ k = k ∧ IntKind.wrap IntKind.u64 (p.epoch + (1 : Int)) = IntKind.wrap IntKind.u64 (p.epoch + (1 : Int)) ∧ (0 : Int) = (0 : Int) ∧ ((0 : Nat) = (0 : Nat) ∧ List.length (outOf (rLow p.rng k) p.recs) = List.length (outOf (rLow p.rng k) p.recs)) ∧ ((0 : Nat) = (0 : Nat) ∧ List.length (P.moveL p.prods (toOf (rLow p.rng k) p.recs)) = List.length (P.moveL p.prods (toOf (rLow p.rng k) p.recs))) ∧ ((0 : Nat) = (0 : Nat) ∧ List.length (mapU p.cons (toOf (rLow p.rng k) p.recs) (List.length p.cons)) = List.length (mapU p.cons (toOf (rLow p.rng k) p.recs) (List.length p.cons))) ∧ True) ∧ (k = k ∧ p.rng.hi = p.rng.hi ∧ IntKind.wrap IntKind.u64 (p.epoch + (1 : Int)) = IntKind.wrap IntKind.u64 (p.epoch + (1 : Int)) ∧ (0 : Int) = (0 : Int) ∧ ((0 : Nat) = (0 : Nat) ∧ List.length (outOf (rHigh p.rng k) p.recs) = List.length (outOf (rHigh p.rng k) p.recs)) ∧ ((0 : Nat) = (0 : Nat) ∧ List.length (P.moveL p.prods (toOf (rHigh p.rng k) p.recs)) = List.length (P.moveL p.prods (toOf (rHigh p.rng k) p.recs))) ∧ ((0 : Nat) = (0 : Nat) ∧ List.length (mapU p.cons (toOf (rHigh p.rng k) p.recs) (List.length p.cons)) = List.length (mapU p.cons (toOf (rHigh p.rng k) p.recs) (List.length p.cons))) ∧ True) ∧ (0 : Int) = (0 : Int) ∧ True) ∧ (List.length (outOf (rLow p.rng k) p.recs) = List.length (outOf (rLow p.rng k) p.recs) ∧ ∀ (k_1 : Nat), k_1 < List.length (outOf (rLow p.rng k) p.recs) → (List.getD (outOf (rLow p.rng k) p.recs) k_1 (@default Rec instInhabitedRec)).off = (List.getD (outOf (rLow p.rng k) p.recs) k_1 (@default Rec instInhabitedRec)).off ∧ (List.getD (outOf (rLow p.rng k) p.recs) k_1 (@default Rec instInhabitedRec)).key = (List.getD (outOf (rLow p.rng k) p.recs) k_1 (@default Rec instInhabitedRec)).key ∧ (List.length (List.getD (outOf (rLow p.rng k) p.recs) k_1 (@default Rec instInhabitedRec)).val = List.length (List.getD (outOf (rLow p.rng k) p.recs) k_1 (@default Rec instInhabitedRec)).val ∧ contLe (List.length (List.getD (outOf (rLow p.rng k) p.recs) k_1 (@default Rec instInhabitedRec)).val) (1 : Nat) (cellsOf' encB (List.getD (outOf (rLow p.rng k) p.recs) k_1 (@default Rec instInhabitedRec)).val) (cellsOf' encB (List.getD (outOf (rLow p.rng k) p.recs) k_1 (@default Rec instInhabitedRec)).val)) ∧ (List.getD (outOf (rLow p.rng k) p.recs) k_1 (@default Rec instInhabitedRec)).prod = (List.getD (outOf (rLow p.rng k) p.recs) k_1 (@default Rec instInhabitedRec)).prod ∧ (List.getD (outOf (rLow p.rng k) p.recs) k_1 (@default Rec instInhabitedRec)).seq = (List.getD (outOf (rLow p.rng k) p.recs) k_1 (@default Rec instInhabitedRec)).seq ∧ True) ∧ (List.length (P.moveL p.prods (toOf (rLow p.rng k) p.recs)) = List.length (P.moveL p.prods (toOf (rLow p.rng k) p.recs)) ∧ contLe (List.length (P.moveL p.prods (toOf (rLow p.rng k) p.recs))) (4 : Nat) (cellsOf' P.encP (P.moveL p.prods (toOf (rLow p.rng k) p.recs))) (cellsOf' P.encP (P.moveL p.prods (toOf (rLow p.rng k) p.recs)))) ∧ (List.length (mapU p.cons (toOf (rLow p.rng k) p.recs) (List.length p.cons)) = List.length (mapU p.cons (toOf (rLow p.rng k) p.recs) (List.length p.cons)) ∧ contLe (List.length (mapU p.cons (toOf (rLow p.rng k) p.recs) (List.length p.cons))) (2 : Nat) (cellsOf' encC (mapU p.cons (toOf (rLow p.rng k) p.recs) (List.length p.cons))) (cellsOf' encC (mapU p.cons (toOf (rLow p.rng k) p.recs) (List.length p.cons)))) ∧ (List.length (outOf (rHigh p.rng k) p.recs) = List.length (outOf (rHigh p.rng k) p.recs) ∧ ∀ (k_1 : Nat), k_1 < List.length (outOf (rHigh p.rng k) p.recs) → (List.getD (outOf (rHigh p.rng k) p.recs) k_1 (@default Rec instInhabitedRec)).off = (List.getD (outOf (rHigh p.rng k) p.recs) k_1 (@default Rec instInhabitedRec)).off ∧ (List.getD (outOf (rHigh p.rng k) p.recs) k_1 (@default Rec instInhabitedRec)).key = (List.getD (outOf (rHigh p.rng k) p.recs) k_1 (@default Rec instInhabitedRec)).key ∧ (List.length (List.getD (outOf (rHigh p.rng k) p.recs) k_1 (@default Rec instInhabitedRec)).val = List.length (List.getD (outOf (rHigh p.rng k) p.recs) k_1 (@default Rec instInhabitedRec)).val ∧ contLe (List.length (List.getD (outOf (rHigh p.rng k) p.recs) k_1 (@default Rec instInhabitedRec)).val) (1 : Nat) (cellsOf' encB (List.getD (outOf (rHigh p.rng k) p.recs) k_1 (@default Rec instInhabitedRec)).val) (cellsOf' encB (List.getD (outOf (rHigh p.rng k) p.recs) k_1 (@default Rec instInhabitedRec)).val)) ∧ (List.getD (outOf (rHigh p.rng k) p.recs) k_1 (@default Rec instInhabitedRec)).prod = (List.getD (outOf (rHigh p.rng k) p.recs) k_1 (@default Rec instInhabitedRec)).prod ∧ (List.getD (outOf (rHigh p.rng k) p.recs) k_1 (@default Rec instInhabitedRec)).seq = (List.getD (outOf (rHigh p.rng k) p.recs) k_1 (@default Rec instInhabitedRec)).seq ∧ True) ∧ (List.length (P.moveL p.prods (toOf (rHigh p.rng k) p.recs)) = List.length (P.moveL p.prods (toOf (rHigh p.rng k) p.recs)) ∧ contLe (List.length (P.moveL p.prods (toOf (rHigh p.rng k) p.recs))) (4 : Nat) (cellsOf' P.encP (P.moveL p.prods (toOf (rHigh p.rng k) p.recs))) (cellsOf' P.encP (P.moveL p.prods (toOf (rHigh p.rng k) p.recs)))) ∧ (List.length (mapU p.cons (toOf (rHigh p.rng k) p.recs) (List.length p.cons)) = List.length (mapU p.cons (toOf (rHigh p.rng k) p.recs) (List.length p.cons)) ∧ contLe (List.length (mapU p.cons (toOf (rHigh p.rng k) p.recs) (List.length p.cons))) (2 : Nat) (cellsOf' encC (mapU p.cons (toOf (rHigh p.rng k) p.recs) (List.length p.cons))) (cellsOf' encC (mapU p.cons (toOf (rHigh p.rng k) p.recs) (List.length p.cons)))) ∧ True) ∧ ((D.splitE p k == (0 : Int)) = false → False)) ∧ ((splE p.rng k == (0 : Int)) = false → ((splE p.rng k != (0 : Int)) = true → ((D.splitE p k == (0 : Int)) = true → (({ data := #[] : ByteArray } = p.rng.lo ∧ { data := #[] : ByteArray } = k ∧ (0 : Int) = IntKind.wrap IntKind.u64 (p.epoch + (1 : Int)) ∧ (0 : Int) = (0 : Int) ∧ False ∧ False ∧ False ∧ True) ∧ ({ data := #[] : ByteArray } = k ∧ { data := #[] : ByteArray } = p.rng.hi ∧ (0 : Int) = IntKind.wrap IntKind.u64 (p.epoch + (1 : Int)) ∧ (0 : Int) = (0 : Int) ∧ False ∧ False ∧ False ∧ True) ∧ splE p.rng k = (0 : Int) ∧ True) ∧ False) ∧ ((D.splitE p k == (0 : Int)) = false → (({ data := #[] : ByteArray } = ByteArray.empty ∧ { data := #[] : ByteArray } = ByteArray.empty ∧ (0 : Int) = (0 : Int) ∧ (0 : Int) = (0 : Int) ∧ (0 : Nat) = (0 : Nat) ∧ (0 : Nat) = (0 : Nat) ∧ (0 : Nat) = (0 : Nat) ∧ True) ∧ ({ data := #[] : ByteArray } = ByteArray.empty ∧ { data := #[] : ByteArray } = ByteArray.empty ∧ (0 : Int) = (0 : Int) ∧ (0 : Int) = (0 : Int) ∧ (0 : Nat) = (0 : Nat) ∧ (0 : Nat) = (0 : Nat) ∧ (0 : Nat) = (0 : Nat) ∧ True) ∧ splE p.rng k = D.splitE p k ∧ True) ∧ True)) ∧ ((splE p.rng k != (0 : Int)) = false → ((ByteArray.empty = p.rng.lo ∧ ByteArray.empty = k ∧ True) ∧ (false = false ∧ (7 : Nat) ≤ (7 : Nat) ∧ cellLe (7 : Nat) (fun (j : Nat) => Ax.get [AV.y (Value.string p.rng.lo), AV.y (Value.string p.rng.hi), AV.y (Value.int IntKind.u64 p.epoch), AV.y (Value.int IntKind.u64 p.frozen), AV.ys true (5 : Nat) (List.length p.recs) (cellsOf' encR p.recs), AV.ys true (4 : Nat) (List.length p.prods) (cellsOf' P.encP p.prods), AV.ys true (2 : Nat) (List.length p.cons) (cellsOf' encC p.cons)] ((0 : Nat) + j)) (Ax.get [AV.y (Value.string p.rng.lo), AV.y (Value.string p.rng.hi), AV.y (Value.int IntKind.u64 p.epoch), AV.y (Value.int IntKind.u64 p.frozen), AV.ys true (5 : Nat) (List.length p.recs) (cellsOf' encR p.recs), AV.ys true (4 : Nat) (List.length p.prods) (cellsOf' P.encP p.prods), AV.ys true (2 : Nat) (List.length p.cons) (cellsOf' encC p.cons)])) ∧ True) ∧ True ∧ (PartTy p ∧ isLog p.recs = true ∧ P.isTable p.prods = true ∧ isCons p.cons = true ∧ chkK (rLow p.rng k) = (0 : Int)) ∧ true = true ∧ ((True ∧ ∀ (k_1 : Nat), k_1 < List.length (outOf (rLow p.rng k) p.recs) → true = true ∧ true = true ∧ (∀ (k_2 : Nat), k_2 < List.length (List.getD (outOf (rLow p.rng k) p.recs) k_1 (@default Rec instInhabitedRec)).val → ∀ (j : Nat), j < (1 : Nat) → tagT (cellsOf' encB (List.getD (outOf (rLow p.rng k) p.recs) k_1 (@default Rec instInhabitedRec)).val k_2 j) = true) ∧ true = true ∧ true = true ∧ True) ∧ (∀ (k_1 : Nat), k_1 < List.length (P.moveL p.prods (toOf (rLow p.rng k) p.recs)) → ∀ (j : Nat), j < (4 : Nat) → tagT (cellsOf' P.encP (P.moveL p.prods (toOf (rLow p.rng k) p.recs)) k_1 j) = true) ∧ (∀ (k_1 : Nat), k_1 < List.length (mapU p.cons (toOf (rLow p.rng k) p.recs) (List.length p.cons)) → ∀ (j : Nat), j < (2 : Nat) → tagT (cellsOf' encC (mapU p.cons (toOf (rLow p.rng k) p.recs) (List.length p.cons)) k_1 j) = true) ∧ True) ∧ ((ByteArray.empty = k ∧ ByteArray.empty = p.rng.hi ∧ True) ∧ (false = false ∧ (7 : Nat) ≤ (7 : Nat) ∧ cellLe (7 : Nat) (fun (j : Nat) => Ax.get [AV.y (Value.string p.rng.lo), AV.y (Value.string p.rng.hi), AV.y (Value.int IntKind.u64 p.epoch), AV.y (Value.int IntKind.u64 p.frozen), AV.ys true (5 : Nat) (List.length p.recs) (cellsOf' encR p.recs), AV.ys true (4 : Nat) (List.length p.prods) (cellsOf' P.encP p.prods), AV.ys true (2 : Nat) (List.length p.cons) (cellsOf' encC p.cons)] ((0 : Nat) + j)) (Ax.get [AV.y (Value.string p.rng.lo), AV.y (Value.string p.rng.hi), AV.y (Value.int IntKind.u64 p.epoch), AV.y (Value.int IntKind.u64 p.frozen), AV.ys true (5 : Nat) (List.length p.recs) (cellsOf' encR p.recs), AV.ys true (4 : Nat) (List.length p.prods) (cellsOf' P.encP p.prods), AV.ys true (2 : Nat) (List.length p.cons) (cellsOf' encC p.cons)])) ∧ True) ∧ True ∧ (PartTy p ∧ isLog p.recs = true ∧ P.isTable p.prods = true ∧ isCons p.cons = true ∧ chkK (rHigh p.rng k) = (0 : Int)) ∧ true = true ∧ ((True ∧ ∀ (k_1 : Nat), k_1 < List.length (outOf (rHigh p.rng k) p.recs) → true = true ∧ true = true ∧ (∀ (k_2 : Nat), k_2 < List.length (List.getD (outOf (rHigh p.rng k) p.recs) k_1 (@default Rec instInhabitedRec)).val → ∀ (j : Nat), j < (1 : Nat) → tagT (cellsOf' encB (List.getD (outOf (rHigh p.rng k) p.recs) k_1 (@default Rec instInhabitedRec)).val k_2 j) = true) ∧ true = true ∧ true = true ∧ True) ∧ (∀ (k_1 : Nat), k_1 < List.length (P.moveL p.prods (toOf (rHigh p.rng k) p.recs)) → ∀ (j : Nat), j < (4 : Nat) → tagT (cellsOf' P.encP (P.moveL p.prods (toOf (rHigh p.rng k) p.recs)) k_1 j) = true) ∧ (∀ (k_1 : Nat), k_1 < List.length (mapU p.cons (toOf (rHigh p.rng k) p.recs) (List.length p.cons)) → ∀ (j : Nat), j < (2 : Nat) → tagT (cellsOf' encC (mapU p.cons (toOf (rHigh p.rng k) p.recs) (List.length p.cons)) k_1 j) = true) ∧ True) ∧ ((D.splitE p k == (0 : Int)) = true → ((p.rng.lo = p.rng.lo ∧ k = k ∧ IntKind.wrap IntKind.u64 (p.epoch + (1 : Int)) = IntKind.wrap IntKind.u64 (p.epoch + (1 : Int)) ∧ (0 : Int) = (0 : Int) ∧ ((0 : Nat) = (0 : Nat) ∧ List.length (outOf (rLow p.rng k) p.recs) = List.length (outOf (rLow p.rng k) p.recs)) ∧ ((0 : Nat) = (0 : Nat) ∧ List.length (P.moveL p.prods (toOf (rLow p.rng k) p.recs)) = List.length (P.moveL p.prods (toOf (rLow p.rng k) p.recs))) ∧ ((0 : Nat) = (0 : Nat) ∧ List.length (mapU p.cons (toOf (rLow p.rng k) p.recs) (List.length p.cons)) = List.length (mapU p.cons (toOf (rLow p.rng k) p.recs) (List.length p.cons))) ∧ True) ∧ (k = k ∧ p.rng.hi = p.rng.hi ∧ IntKind.wrap IntKind.u64 (p.epoch + (1 : Int)) = IntKind.wrap IntKind.u64 (p.epoch + (1 : Int)) ∧ (0 : Int) = (0 : Int) ∧ ((0 : Nat) = (0 : Nat) ∧ List.length (outOf (rHigh p.rng k) p.recs) = List.length (outOf (rHigh p.rng k) p.recs)) ∧ ((0 : Nat) = (0 : Nat) ∧ List.length (P.moveL p.prods (toOf (rHigh p.rng k) p.recs)) = List.length (P.moveL p.prods (toOf (rHigh p.rng k) p.recs))) ∧ ((0 : Nat) = (0 : Nat) ∧ List.length (mapU p.cons (toOf (rHigh p.rng k) p.recs) (List.length p.cons)) = List.length (mapU p.cons (toOf (rHigh p.rng k) p.recs) (List.length p.cons))) ∧ True) ∧ (0 : Int) = (0 : Int) ∧ True) ∧ (List.length (outOf (rLow p.rng k) p.recs) = List.length (outOf (rLow p.rng k) p.recs) ∧ ∀ (k_1 : Nat), k_1 < List.length (outOf (rLow p.rng k) p.recs) → (List.getD (outOf (rLow p.rng k) p.recs) k_1 (@default Rec instInhabitedRec)).off = (List.getD (outOf (rLow p.rng k) p.recs) k_1 (@default Rec instInhabitedRec)).off ∧ (List.getD (outOf (rLow p.rng k) p.recs) k_1 (@default Rec instInhabitedRec)).key = (List.getD (outOf (rLow p.rng k) p.recs) k_1 (@default Rec instInhabitedRec)).key ∧ (List.length (List.getD (outOf (rLow p.rng k) p.recs) k_1 (@default Rec instInhabitedRec)).val = List.length (List.getD (outOf (rLow p.rng k) p.recs) k_1 (@default Rec instInhabitedRec)).val ∧ contLe (List.length (List.getD (outOf (rLow p.rng k) p.recs) k_1 (@default Rec instInhabitedRec)).val) (1 : Nat) (cellsOf' encB (List.getD (outOf (rLow p.rng k) p.recs) k_1 (@default Rec instInhabitedRec)).val) (cellsOf' encB (List.getD (outOf (rLow p.rng k) p.recs) k_1 (@default Rec instInhabitedRec)).val)) ∧ (List.getD (outOf (rLow p.rng k) p.recs) k_1 (@default Rec instInhabitedRec)).prod = (List.getD (outOf (rLow p.rng k) p.recs) k_1 (@default Rec instInhabitedRec)).prod ∧ (List.getD (outOf (rLow p.rng k) p.recs) k_1 (@default Rec instInhabitedRec)).seq = (List.getD (outOf (rLow p.rng k) p.recs) k_1 (@default Rec instInhabitedRec)).seq ∧ True) ∧ (List.length (P.moveL p.prods (toOf (rLow p.rng k) p.recs)) = List.length (P.moveL p.prods (toOf (rLow p.rng k) p.recs)) ∧ contLe (List.length (P.moveL p.prods (toOf (rLow p.rng k) p.recs))) (4 : Nat) (cellsOf' P.encP (P.moveL p.prods (toOf (rLow p.rng k) p.recs))) (cellsOf' P.encP (P.moveL p.prods (toOf (rLow p.rng k) p.recs)))) ∧ (List.length (mapU p.cons (toOf (rLow p.rng k) p.recs) (List.length p.cons)) = List.length (mapU p.cons (toOf (rLow p.rng k) p.recs) (List.length p.cons)) ∧ contLe (List.length (mapU p.cons (toOf (rLow p.rng k) p.recs) (List.length p.cons))) (2 : Nat) (cellsOf' encC (mapU p.cons (toOf (rLow p.rng k) p.recs) (List.length p.cons))) (cellsOf' encC (mapU p.cons (toOf (rLow p.rng k) p.recs) (List.length p.cons)))) ∧ (List.length (outOf (rHigh p.rng k) p.recs) = List.length (outOf (rHigh p.rng k) p.recs) ∧ ∀ (k_1 : Nat), k_1 < List.length (outOf (rHigh p.rng k) p.recs) → (List.getD (outOf (rHigh p.rng k) p.recs) k_1 (@default Rec instInhabitedRec)).off = (List.getD (outOf (rHigh p.rng k) p.recs) k_1 (@default Rec instInhabitedRec)).off ∧ (List.getD (outOf (rHigh p.rng k) p.recs) k_1 (@default Rec instInhabitedRec)).key = (List.getD (outOf (rHigh p.rng k) p.recs) k_1 (@default Rec instInhabitedRec)).key ∧ (List.length (List.getD (outOf (rHigh p.rng k) p.recs) k_1 (@default Rec instInhabitedRec)).val = List.length (List.getD (outOf (rHigh p.rng k) p.recs) k_1 (@default Rec instInhabitedRec)).val ∧ contLe (List.length (List.getD (outOf (rHigh p.rng k) p.recs) k_1 (@default Rec instInhabitedRec)).val) (1 : Nat) (cellsOf' encB (List.getD (outOf (rHigh p.rng k) p.recs) k_1 (@default Rec instInhabitedRec)).val) (cellsOf' encB (List.getD (outOf (rHigh p.rng k) p.recs) k_1 (@default Rec instInhabitedRec)).val)) ∧ (List.getD (outOf (rHigh p.rng k) p.recs) k_1 (@default Rec instInhabitedRec)).prod = (List.getD (outOf (rHigh p.rng k) p.recs) k_1 (@default Rec instInhabitedRec)).prod ∧ (List.getD (outOf (rHigh p.rng k) p.recs) k_1 (@default Rec instInhabitedRec)).seq = (List.getD (outOf (rHigh p.rng k) p.recs) k_1 (@default Rec instInhabitedRec)).seq ∧ True) ∧ (List.length (P.moveL p.prods (toOf (rHigh p.rng k) p.recs)) = List.length (P.moveL p.prods (toOf (rHigh p.rng k) p.recs)) ∧ contLe (List.length (P.moveL p.prods (toOf (rHigh p.rng k) p.recs))) (4 : Nat) (cellsOf' P.encP (P.moveL p.prods (toOf (rHigh p.rng k) p.recs))) (cellsOf' P.encP (P.moveL p.prods (toOf (rHigh p.rng k) p.recs)))) ∧ (List.length (mapU p.cons (toOf (rHigh p.rng k) p.recs) (List.length p.cons)) = List.length (mapU p.cons (toOf (rHigh p.rng k) p.recs) (List.length p.cons)) ∧ contLe (List.length (mapU p.cons (toOf (rHigh p.rng k) p.recs) (List.length p.cons))) (2 : Nat) (cellsOf' encC (mapU p.cons (toOf (rHigh p.rng k) p.recs) (List.length p.cons))) (cellsOf' encC (mapU p.cons (toOf (rHigh p.rng k) p.recs) (List.length p.cons)))) ∧ True) ∧ ((D.splitE p k == (0 : Int)) = false → False)))))) ∧ (partOk p = false → true = true ∧ True ∧ ((D.splitE p k == (0 : Int)) = true → (({ data := #[] : ByteArray } = p.rng.lo ∧ { data := #[] : ByteArray } = k ∧ (0 : Int) = IntKind.wrap IntKind.u64 (p.epoch + (1 : Int)) ∧ (0 : Int) = (0 : Int) ∧ False ∧ False ∧ False ∧ True) ∧ ({ data := #[] : ByteArray } = k ∧ { data := #[] : ByteArray } = p.rng.hi ∧ (0 : Int) = IntKind.wrap IntKind.u64 (p.epoch + (1 : Int)) ∧ (0 : Int) = (0 : Int) ∧ False ∧ False ∧ False ∧ True) ∧ (172 : Int) = (0 : Int) ∧ True) ∧ False) ∧ ((D.splitE p k == (0 : Int)) = false → (({ data := #[] : ByteArray } = ByteArray.empty ∧ { data := #[] : ByteArray } = ByteArray.empty ∧ (0 : Int) = (0 : Int) ∧ (0 : Int) = (0 : Int) ∧ (0 : Nat) = (0 : Nat) ∧ (0 : Nat) = (0 : Nat) ∧ (0 : Nat) = (0 : Nat) ∧ True) ∧ ({ data := #[] : ByteArray } = ByteArray.empty ∧ { data := #[] : ByteArray } = ByteArray.empty ∧ (0 : Int) = (0 : Int) ∧ (0 : Int) = (0 : Int) ∧ (0 : Nat) = (0 : Nat) ∧ (0 : Nat) = (0 : Nat) ∧ (0 : Nat) = (0 : Nat) ∧ True) ∧ (172 : Int) = D.splitE p k ∧ True) ∧ True))
theorem vcSpw_eq (p : Part) (k : ByteArray) : (ctrVC Tryd.prog (spwH p k) 7 [.agg (encPt true p), .y (.string k)] [] (splitW p k)) = vcSpw p k := by kernel_rfl
theorem spw_c (p : Part) (k : ByteArray) (hp : PartTy p) (hk : k.size ≤ 9223372036854775807) : (splitW p k).Sat (ACall' Tryd.prog 7 [.agg (encPt true p), .y (.string k)] []) := by
  refine ctr_vc (ht := spwH p k) Tryd.mixed rfl ?_
  rw [vcSpw_eq p k]
  unfold vcSpw
  have eb : ({ data := #[] } : ByteArray) = ByteArray.empty := rfl
  have hi := hp.isIn
  rw [eb]
  cases h1 : partOk p
  · have e1 : splitE p k = 172 := by simp [Go.Proofs.YtckklclehofddaaDoor.D.splitE, bad, h1]
    simp [e1, hi]
  · by_cases h2 : IntKind.u64.wrap (p.epoch + 1) = 0
    · have e1 : splitE p k = 172 := by simp [Go.Proofs.YtckklclehofddaaDoor.D.splitE, bad, h1, h2]
      simp [e1, hi, h2]
    · by_cases h3 : p.frozen = 0
      · have e1 : splitE p k = 171 := by simp [Go.Proofs.YtckklclehofddaaDoor.D.splitE, bad, h1, h2, h3]
        simp [e1, hi, h2, h3]
      · have e1 : splitE p k = splE p.rng k := by simp [Go.Proofs.YtckklclehofddaaDoor.D.splitE, bad, h1, h2, h3]
        obtain ⟨o1, o2, o3, o4, o5, _⟩ := ok_parts h1
        by_cases h4 : splE p.rng k = 0
        · have c1 := low_chk h4
          have c2 := high_chk h4
          have c1' : chkK ⟨p.rng.lo, k⟩ = 0 := c1
          have c2' : chkK ⟨k, p.rng.hi⟩ = 0 := c2
          simp [e1, hi, h2, h3, h4, hk, c1, c2, c1', c2', hp, o3, o4, o5, partOf, rLow, rHigh]
          exact ⟨⟨fun _ _ _ _ => rfl, fun _ _ j hj => tagP _ j hj, fun _ _ j hj => Go.Proofs.YtckklclehofddaaDoor.D.tagC _ j hj⟩, fun _ _ _ _ => rfl, fun _ _ j hj => tagP _ j hj, fun _ _ j hj => Go.Proofs.YtckklclehofddaaDoor.D.tagC _ j hj⟩
        · simp [e1, hi, h2, h3, h4, hk]
end Go.Proofs.YtckklclehofddaaDoor.Q

namespace Go.Proofs.YtckklclehofddaaDoor.Q
open Go.Ax Go.Proofs.YtckklclehofddaaDoor
set_option maxRecDepth 1000000
def prodAt (l : List P.Producer) (id : Int) : Int := match l.findIdx? (fun y => y.id == id) with | some i => (i : Nat) | none => -1
def lastL (l : List P.Producer) (s : Kn) : List Int := l.map fun y => s.sel y.id
theorem sel_put (s : Kn) (a b c : Int) : (s.put a b).sel c = if a = c then b else s.sel c := by
  unfold Kn.sel Kn.put updHas updC selI
  by_cases h : a = c
  · simp [h]
  · simp [h]
theorem lastL_len (l : List P.Producer) (s : Kn) : (lastL l s).length = l.length := by simp [lastL]
theorem lastL_at (l : List P.Producer) (s : Kn) {i : Nat} (h : i < l.length) : (lastL l s).getD i 0 = s.sel (l.getD i default).id := by
  simp [lastL, h]
theorem lastL_put {l : List P.Producer} (hu : P.rising l) (s : Kn) {i : Nat} (h : i < l.length) (b : Int) : (lastL l s).set i b = lastL l (s.put (l.getD i default).id b) := by
  refine List.ext_getElem? fun q => ?_
  unfold lastL
  rw [List.getElem?_set, List.getElem?_map, List.getElem?_map, List.length_map]
  by_cases hq : q < l.length
  · rw [List.getElem?_eq_getElem hq]
    have e1 : l.getD q default = l[q] := by simp [hq]
    have e2 : l.getD i default = l[i] := by simp [h]
    by_cases h1 : i = q
    · subst h1
      simp only [h, if_true, Option.map_some, sel_put, e2]
    · have hne : ¬ (l.getD i default).id = l[q].id := by
        rw [← e1]
        rcases Nat.lt_or_gt_of_ne h1 with h2 | h2
        · have := hu i q h2 hq; omega
        · have := hu q i h2 h; omega
      rw [if_neg h1]
      simp only [Option.map_some, sel_put, if_neg hne]
  · rw [List.getElem?_eq_none (by omega)]
    by_cases h1 : i = q
    · omega
    · rw [if_neg h1]
      rfl
theorem prodAt_some {l : List P.Producer} {id : Int} {i : Nat} (h : prodAt l id = (i : Nat)) : i < l.length ∧ (l.getD i default).id = id := by
  unfold prodAt at h
  split at h
  · rename_i j hj
    obtain ⟨h1, h2, _⟩ := List.findIdx?_eq_some_iff_getElem.1 hj
    have : j = i := by omega
    subst this
    exact ⟨h1, by simpa [h1] using h2⟩
  · omega
theorem prodAt_cases (l : List P.Producer) (id : Int) : (prodAt l id = -1 ∧ ∀ y ∈ l, y.id ≠ id) ∨ ∃ i : Nat, prodAt l id = (i : Nat) ∧ i < l.length := by
  cases hf : l.findIdx? (fun y => y.id == id) with
  | none =>
    refine .inl ⟨by simp [prodAt, hf], fun y hy e => ?_⟩
    have := List.findIdx?_eq_none_iff.1 hf y hy
    simp [e] at this
  | some i =>
    have h : prodAt l id = (i : Nat) := by simp [prodAt, hf]
    exact .inr ⟨i, h, (prodAt_some h).1⟩
theorem knP_take {l : List P.Producer} (hu : P.rising l) : ∀ k, k ≤ l.length → ∀ i, i < l.length → (knP (l.take k)).sel (l.getD i default).id = if i < k then (l.getD i default).seq else 0 := by
  intro k
  induction k with
  | zero => intro _ i _; simp [knP, kn0, Kn.sel, selI]
  | succ k ih =>
    intro hk i hi
    rw [knP_step (by omega), sel_put]
    by_cases h1 : k = i
    · subst h1; simp
    · have hne : ¬ (l.getD k default).id = (l.getD i default).id := by
        rcases Nat.lt_or_gt_of_ne h1 with h2 | h2
        · have := hu k i h2 hi; omega
        · have := hu i k h2 (by omega); omega
      rw [if_neg hne, ih (by omega) i hi]
      by_cases h2 : i < k
      · rw [if_pos h2, if_pos (by omega)]
      · rw [if_neg h2, if_neg (by omega)]
theorem knP_at {l : List P.Producer} (hu : P.rising l) {i : Nat} (hi : i < l.length) : (knP l).sel (l.getD i default).id = (l.getD i default).seq := by
  have := knP_take hu l.length (Nat.le_refl _) i hi
  rwa [List.take_length, if_pos hi] at this
theorem knP_no : ∀ (l : List P.Producer) (id : Int), (∀ y ∈ l, y.id ≠ id) → (knP l).sel id = 0 := by
  intro l id h
  unfold knP
  have key : ∀ (l : List P.Producer) (s : Kn), s.sel id = 0 → (∀ y ∈ l, y.id ≠ id) → (l.foldl (fun s x => s.put x.id x.seq) s).sel id = 0 := by
    intro l
    induction l with
    | nil => intro s h _; exact h
    | cons x r ih =>
      intro s hs hh
      refine ih _ ?_ fun y hy => hh y (List.mem_cons_of_mem _ hy)
      rw [sel_put, if_neg (hh x (List.mem_cons_self))]
      exact hs
  exact key l kn0 (by simp [kn0, Kn.sel, selI]) h
theorem knR_pos : ∀ (l : List Rec) (id : Int), (∀ y ∈ l, 0 ≤ y.seq) → 0 ≤ (knR l).sel id := by
  intro l id h
  unfold knR
  have key : ∀ (l : List Rec) (s : Kn), 0 ≤ s.sel id → (∀ y ∈ l, 0 ≤ y.seq) → 0 ≤ (l.foldl (fun s x => s.put x.prod x.seq) s).sel id := by
    intro l
    induction l with
    | nil => intro s h _; exact h
    | cons x r ih =>
      intro s hs hh
      refine ih _ ?_ fun y hy => hh y (List.mem_cons_of_mem _ hy)
      rw [sel_put]
      split
      · exact hh x (List.mem_cons_self)
      · exact hs
  exact key l kn0 (by simp [kn0, Kn.sel, selI]) h
def okD (p : Part) (k : Nat) : Bool :=
  let x := p.recs.getD k default
  let at_ := prodAt p.prods x.prod
  hasK p.rng x.key && (!decide (at_ < 0) && (!decide (x.seq ≤ (lastL p.prods (knR (p.recs.take k))).getD at_.toNat 0) && !decide ((p.prods.getD at_.toNat default).seq < x.seq)))
theorem okD_eq {p : Part} (ht : P.isTable p.prods = true) (hs : ∀ y ∈ p.recs, 0 ≤ y.seq) {k : Nat} : okD p k = okO p k := by
  have hu := P.table_rising ht
  unfold okD okO
  generalize p.recs.getD k default = x
  rcases prodAt_cases p.prods x.prod with ⟨h1, h2⟩ | ⟨i, h1, h2⟩
  · have e1 := knP_no _ _ h2
    have e2 := knR_pos (p.recs.take k) x.prod fun y hy => hs y (List.mem_of_mem_take hy)
    simp only [h1, e1]
    by_cases h3 : x.seq ≤ (knR (p.recs.take k)).sel x.prod
    · simp [h3]
    · have h4 : (0 : Int) < x.seq := by omega
      simp [h3, h4]
  · obtain ⟨h3, h4⟩ := prodAt_some h1
    have e1 := knP_at hu h3
    have e2 := lastL_at p.prods (knR (p.recs.take k)) h3
    rw [h4] at e1 e2
    simp only [h1, Int.toNat_natCast, e1, e2]
    have h5 : ¬ ((i : Nat) : Int) < 0 := by omega
    simp [h5]
end Go.Proofs.YtckklclehofddaaDoor.Q

namespace Go.Proofs.YtckklclehofddaaDoor.Q
open Go.Ax Go.Proofs.YtckklclehofddaaDoor Go.Proofs.YtckklclehofddaaDoor.H Go.Proofs.YtckklclehofddaaDoor.D
set_option maxRecDepth 1000000
noncomputable def ds2H (r : Rng) (k : ByteArray) : HintsT Tryd.prog := hh _ noLp (cs1 24 1 1 (chk2C r) (cs1 24 6 2 (has2C r k) noCs)) noOp
def vcDs2 (r : Rng) (k : ByteArray) : Prop :=
  ((r.lo = r.lo ∧ r.hi = r.hi ∧ True) ∧ True) ∧ True ∧ ((chkK r != (0 : Int)) = true → ((splE r k == (0 : Int)) = true → (({ data := #[] : ByteArray } = r.lo ∧ { data := #[] : ByteArray } = k ∧ True) ∧ ({ data := #[] : ByteArray } = k ∧ { data := #[] : ByteArray } = r.hi ∧ True) ∧ chkK r = (0 : Int) ∧ True) ∧ True) ∧ ((splE r k == (0 : Int)) = false → (({ data := #[] : ByteArray } = ByteArray.empty ∧ { data := #[] : ByteArray } = ByteArray.empty ∧ True) ∧ ({ data := #[] : ByteArray } = ByteArray.empty ∧ { data := #[] : ByteArray } = ByteArray.empty ∧ True) ∧ chkK r = splE r k ∧ True) ∧ True)) ∧ ((chkK r != (0 : Int)) = false → (decide ((32 : Int) < (↑(ByteArray.size k) : Int)) = true → ((splE r k == (0 : Int)) = true → (({ data := #[] : ByteArray } = r.lo ∧ { data := #[] : ByteArray } = k ∧ True) ∧ ({ data := #[] : ByteArray } = k ∧ { data := #[] : ByteArray } = r.hi ∧ True) ∧ (131 : Int) = (0 : Int) ∧ True) ∧ True) ∧ ((splE r k == (0 : Int)) = false → (({ data := #[] : ByteArray } = ByteArray.empty ∧ { data := #[] : ByteArray } = ByteArray.empty ∧ True) ∧ ({ data := #[] : ByteArray } = ByteArray.empty ∧ { data := #[] : ByteArray } = ByteArray.empty ∧ True) ∧ (131 : Int) = splE r k ∧ True) ∧ True)) ∧ (decide ((32 : Int) < (↑(ByteArray.size k) : Int)) = false → ((r.lo = r.lo ∧ r.hi = r.hi ∧ True) ∧ k = k ∧ True) ∧ True ∧ ((Op.bytesLess k.data.toList r.lo.data.toList || k.data.toList == r.lo.data.toList) = true → ((splE r k == (0 : Int)) = true → (({ data := #[] : ByteArray } = r.lo ∧ { data := #[] : ByteArray } = k ∧ True) ∧ ({ data := #[] : ByteArray } = k ∧ { data := #[] : ByteArray } = r.hi ∧ True) ∧ (132 : Int) = (0 : Int) ∧ True) ∧ True) ∧ ((splE r k == (0 : Int)) = false → (({ data := #[] : ByteArray } = ByteArray.empty ∧ { data := #[] : ByteArray } = ByteArray.empty ∧ True) ∧ ({ data := #[] : ByteArray } = ByteArray.empty ∧ { data := #[] : ByteArray } = ByteArray.empty ∧ True) ∧ (132 : Int) = splE r k ∧ True) ∧ True)) ∧ ((Op.bytesLess k.data.toList r.lo.data.toList || k.data.toList == r.lo.data.toList) = false → ((!hasK r k) = true → ((splE r k == (0 : Int)) = true → (({ data := #[] : ByteArray } = r.lo ∧ { data := #[] : ByteArray } = k ∧ True) ∧ ({ data := #[] : ByteArray } = k ∧ { data := #[] : ByteArray } = r.hi ∧ True) ∧ (132 : Int) = (0 : Int) ∧ True) ∧ True) ∧ ((splE r k == (0 : Int)) = false → (({ data := #[] : ByteArray } = ByteArray.empty ∧ { data := #[] : ByteArray } = ByteArray.empty ∧ True) ∧ ({ data := #[] : ByteArray } = ByteArray.empty ∧ { data := #[] : ByteArray } = ByteArray.empty ∧ True) ∧ (132 : Int) = splE r k ∧ True) ∧ True)) ∧ ((!hasK r k) = false → ((splE r k == (0 : Int)) = true → ((r.lo = r.lo ∧ k = k ∧ True) ∧ (k = k ∧ r.hi = r.hi ∧ True) ∧ (0 : Int) = (0 : Int) ∧ True) ∧ True) ∧ ((splE r k == (0 : Int)) = false → ((r.lo = ByteArray.empty ∧ k = ByteArray.empty ∧ True) ∧ (k = ByteArray.empty ∧ r.hi = ByteArray.empty ∧ True) ∧ (0 : Int) = splE r k ∧ True) ∧ True)))))
theorem vcDs2_eq (r : Rng) (k : ByteArray) : (ctrVC Tryd.prog (ds2H r k) 24 [.agg (encG r), .y (.string k)] [] (splT r k)) = vcDs2 r k := by kernel_rfl
def isP (id : Int) (y : P.Producer) : Bool := y.id == id
def pdT (b : Bool) (l : List P.Producer) (id : Int) (k : Nat) : List AV := mkT 20 [(0, P.encPs b l), (1, .y (.int .u64 id)), (5, .y (.int .i64 k))]
def pdS (r : Bool × Nat) : Exit × List AV × List Blk := match r.1 with
  | true => (.ret, mkT 20 [(4, .y (.int .i64 r.2))], [])
  | false => (.exit 0, mkT 20 [], [])
def pdO (l : List P.Producer) (id : Int) (k : Nat) : T (Bool × Nat) := .ite ((l.drop k).any (isP id)) (.ret (true, k + (l.drop k).findIdx (isP id))) (.ret (false, 0))
def vcPdL (b : Bool) (l : List P.Producer) (id : Int) (k : Nat) : Prop :=
  (decide ((↑k : Int) < (↑(List.length l) : Int)) = true → (true && decide ((↑k : Int) < (↑(List.length l) : Int))) = true ∧ (((List.getD l (Int.toNat (↑k : Int)) (@default P.Producer P.instInhabitedProducer)).id == id) = true → (List.any (List.drop k l) (isP id) = true → ((↑k : Int) = (↑(k + List.findIdx (isP id) (List.drop k l)) : Int) ∧ True) ∧ True ∧ true = true) ∧ (List.any (List.drop k l) (isP id) = false → False)) ∧ (((List.getD l (Int.toNat (↑k : Int)) (@default P.Producer P.instInhabitedProducer)).id == id) = false → ∃ (j : Nat), List.length l - j < List.length l - k ∧ (((b = b ∧ List.length l = List.length l ∧ contLe (List.length l) (4 : Nat) (cellsOf' P.encP l) (cellsOf' P.encP l)) ∧ id = id ∧ IntKind.wrap IntKind.i64 ((↑k : Int) + (1 : Int)) = (↑j : Int) ∧ True) ∧ True ∧ true = true) ∧ true = true ∧ (List.any (List.drop j l) (isP id) = true → (List.any (List.drop k l) (isP id) = true → (true, j + List.findIdx (isP id) (List.drop j l)) = (true, k + List.findIdx (isP id) (List.drop k l))) ∧ (List.any (List.drop k l) (isP id) = false → (true, j + List.findIdx (isP id) (List.drop j l)) = (false, (0 : Nat)))) ∧ (List.any (List.drop j l) (isP id) = false → (List.any (List.drop k l) (isP id) = true → (false, (0 : Nat)) = (true, k + List.findIdx (isP id) (List.drop k l))) ∧ (List.any (List.drop k l) (isP id) = false → (false, (0 : Nat)) = (false, (0 : Nat)))))) ∧ (decide ((↑k : Int) < (↑(List.length l) : Int)) = false → (List.any (List.drop k l) (isP id) = true → False) ∧ (List.any (List.drop k l) (isP id) = false → True ∧ True ∧ true = true))
theorem vcPdL_eq (b : Bool) (l : List P.Producer) (id : Int) (k : Nat) : (loopVC Tryd.prog (hT _) 42 2 (fun k => l.length - k) (pdT b l id) (fun _ => []) [0] (pdO l id) pdS k) = vcPdL b l id k := by kernel_rfl
noncomputable def pdH (b : Bool) (l : List P.Producer) (id : Int) : HintsT Tryd.prog := hh _ (lp1 42 2 (jobOf (pdT b l id) (fun _ => []) [0] (pdO l id) pdS 0) noLp) noCs noOp
def vcPd (b : Bool) (l : List P.Producer) (id : Int) : Prop :=
  (((b = b ∧ List.length l = List.length l ∧ contLe (List.length l) (4 : Nat) (cellsOf' P.encP l) (cellsOf' P.encP l)) ∧ id = id ∧ (0 : Int) = (0 : Int) ∧ True) ∧ True ∧ true = true) ∧ LoopOk Tryd.prog (42 : Nat) (2 : Nat) (loopAt Tryd.prog (42 : Nat) (2 : Nat)) { t := pdT b l id (0 : Nat), m := [], mv := [] : St } (T.map (lout [(0 : Nat)] pdS) (pdO l id (0 : Nat))) ∧ (List.any (List.drop (0 : Nat) l) (isP id) = true → (↑((0 : Nat) + List.findIdx (isP id) (List.drop (0 : Nat) l)) : Int) = prodAt l id ∧ True) ∧ (List.any (List.drop (0 : Nat) l) (isP id) = false → (-1 : Int) = prodAt l id ∧ True)
theorem vcPd_eq (b : Bool) (l : List P.Producer) (id : Int) : (ctrVC Tryd.prog (pdH b l id) 42 [P.encPs b l, .y (.int .u64 id)] [] (intR (prodAt l id))) = vcPd b l id := by kernel_rfl
theorem prodAt_find (l : List P.Producer) (id : Int) : prodAt l id = if l.any (isP id) then ((l.findIdx (isP id) : Nat) : Int) else -1 := by
  unfold prodAt isP
  cases hf : l.findIdx? (fun y => y.id == id) with
  | none =>
    have := List.findIdx?_eq_none_iff.1 hf
    have h : l.any (fun y => y.id == id) = false := by
      rw [List.any_eq_false]
      intro y hy
      simpa using this y hy
    simp [h]
  | some i =>
    obtain ⟨h1, h2, _⟩ := List.findIdx?_eq_some_iff_getElem.1 hf
    have h : l.any (fun y => y.id == id) = true := List.any_eq_true.2 ⟨l[i], List.getElem_mem h1, h2⟩
    rw [if_pos h]
    have := List.findIdx?_eq_some_iff_findIdx_eq.1 hf
    rw [this.2]
theorem pd_loop (b : Bool) (l : List P.Producer) (id : Int) (hl : l.length ≤ 9223372036854775806) (k : Nat) : LoopOk Tryd.prog 42 2 (loopAt Tryd.prog 42 2) ⟨pdT b l id k, [], []⟩ ((pdO l id k).map (lout [0] pdS)) := by
  refine loop_vc Tryd.mixed (fun _ => rfl) (fun k => (vcPdL_eq b l id k).mpr ?_) k
  unfold vcPdL
  simp
  refine ⟨fun h => ?_, fun h => by simp [drop_end h]⟩
  simp (disch := omega) only [wrap_i64]
  rw [drop_cons h]
  simp only [List.any_cons, List.findIdx_cons]
  generalize l[k]?.getD default = y
  by_cases h1 : y.id = id
  · simp [isP, h1, h]
  · simp [isP, h1, h, cast_succ_eq]
    exact ⟨k + 1, by omega, rfl, by grind⟩
theorem pd_c (b : Bool) (l : List P.Producer) (id : Int) (hl : l.length ≤ 9223372036854775806) : (intR (prodAt l id)).Sat (ACall' Tryd.prog 42 [P.encPs b l, .y (.int .u64 id)] []) := by
  refine ctr_vc (ht := pdH b l id) Tryd.mixed rfl ?_
  rw [vcPd_eq b l id]
  unfold vcPd
  have := pd_loop b l id hl 0
  rw [prodAt_find]
  simp [this]
noncomputable def pdC (b : Bool) (l : List P.Producer) (id : Int) : Ctr Tryd.prog := ⟨42, [P.encPs b l, .y (.int .u64 id)], [], .need (l.length ≤ 9223372036854775806) (intR (prodAt l id)), T.Sat.need fun h => pd_c b l id h⟩
def c1T (k : Nat) (n : Nat) : List AV := mkT 167 [(1, .ptr 0 0 0 0), (6, .own 1 1 0 n), (7, .y (.int .i64 k))]
def c1M (b : Bool) (p : Part) (k : Nat) : List Blk := [.box 29 (encPt b p), rowU (lastL p.prods (knR (p.recs.take k)))]
def cS (b : Bool) (p : Part) (e : Nat) (r : Bool) : Exit × List AV × List Blk := match r with
  | true => (.exit e, mkT 167 [(1, .ptr 0 0 0 0)], [.box 29 (encPt b p)])
  | false => (.ret, mkT 167 [(2, .s (.int .i64 165))], [])
noncomputable def c1H (b : Bool) (p : Part) (k : Nat) : HintsT Tryd.prog := hh _ noLp (cs1 23 11 4 (has2C p.rng (p.recs.getD k default).key) (cs1 23 12 4 (pdC b p.prods (p.recs.getD k default).prod) noCs)) noOp
def vcC1 (b : Bool) (p : Part) (k : Nat) : Prop :=
  (decide ((↑k : Int) < (↑(List.length p.recs) : Int)) = true → (true && decide ((↑k : Int) < (↑(List.length p.recs) : Int))) = true ∧ ((p.rng.lo = p.rng.lo ∧ p.rng.hi = p.rng.hi ∧ True) ∧ (List.getD p.recs (Int.toNat (↑k : Int)) (@default Rec instInhabitedRec)).key = (List.getD p.recs k (@default Rec instInhabitedRec)).key ∧ True) ∧ True ∧ ((b = b ∧ List.length p.prods = List.length p.prods ∧ contLe (List.length p.prods) (4 : Nat) (cellsOf' P.encP p.prods) (cellsOf' P.encP p.prods)) ∧ (List.getD p.recs (Int.toNat (↑k : Int)) (@default Rec instInhabitedRec)).prod = (List.getD p.recs k (@default Rec instInhabitedRec)).prod ∧ True) ∧ True ∧ List.length p.prods ≤ (9223372036854775806 : Nat) ∧ ((!hasK p.rng (List.getD p.recs k (@default Rec instInhabitedRec)).key) = true → (orFrom p k = true → False) ∧ (orFrom p k = false → ((165 : Int) = (165 : Int) ∧ True) ∧ True ∧ true = true)) ∧ ((!hasK p.rng (List.getD p.recs k (@default Rec instInhabitedRec)).key) = false → (decide (prodAt p.prods (List.getD p.recs k (@default Rec instInhabitedRec)).prod < (0 : Int)) = true → (orFrom p k = true → False) ∧ (orFrom p k = false → ((165 : Int) = (165 : Int) ∧ True) ∧ True ∧ true = true)) ∧ (decide (prodAt p.prods (List.getD p.recs k (@default Rec instInhabitedRec)).prod < (0 : Int)) = false → (decide ((0 : Int) ≤ prodAt p.prods (List.getD p.recs k (@default Rec instInhabitedRec)).prod) && decide (prodAt p.prods (List.getD p.recs k (@default Rec instInhabitedRec)).prod < (↑(List.length (lastL p.prods (knR (List.take k p.recs)))) : Int))) = true ∧ decide ((0 : Nat) + Int.toNat (prodAt p.prods (List.getD p.recs k (@default Rec instInhabitedRec)).prod) < List.length (lastL p.prods (knR (List.take k p.recs)))) = true ∧ (decide ((List.getD p.recs (Int.toNat (↑k : Int)) (@default Rec instInhabitedRec)).seq ≤ List.getD (lastL p.prods (knR (List.take k p.recs))) ((0 : Nat) + Int.toNat (prodAt p.prods (List.getD p.recs k (@default Rec instInhabitedRec)).prod)) (0 : Int)) = true → (orFrom p k = true → False) ∧ (orFrom p k = false → ((165 : Int) = (165 : Int) ∧ True) ∧ True ∧ true = true)) ∧ (decide ((List.getD p.recs (Int.toNat (↑k : Int)) (@default Rec instInhabitedRec)).seq ≤ List.getD (lastL p.prods (knR (List.take k p.recs))) ((0 : Nat) + Int.toNat (prodAt p.prods (List.getD p.recs k (@default Rec instInhabitedRec)).prod)) (0 : Int)) = false → (decide ((0 : Int) ≤ prodAt p.prods (List.getD p.recs k (@default Rec instInhabitedRec)).prod) && decide (prodAt p.prods (List.getD p.recs k (@default Rec instInhabitedRec)).prod < (↑(List.length p.prods) : Int))) = true ∧ (decide ((List.getD p.prods (Int.toNat (prodAt p.prods (List.getD p.recs k (@default Rec instInhabitedRec)).prod)) (@default P.Producer P.instInhabitedProducer)).seq < (List.getD p.recs (Int.toNat (↑k : Int)) (@default Rec instInhabitedRec)).seq) = true → (orFrom p k = true → False) ∧ (orFrom p k = false → ((165 : Int) = (165 : Int) ∧ True) ∧ True ∧ true = true)) ∧ (decide ((List.getD p.prods (Int.toNat (prodAt p.prods (List.getD p.recs k (@default Rec instInhabitedRec)).prod)) (@default P.Producer P.instInhabitedProducer)).seq < (List.getD p.recs (Int.toNat (↑k : Int)) (@default Rec instInhabitedRec)).seq) = false → (decide ((0 : Int) ≤ prodAt p.prods (List.getD p.recs k (@default Rec instInhabitedRec)).prod) && decide (prodAt p.prods (List.getD p.recs k (@default Rec instInhabitedRec)).prod < (↑(List.length (lastL p.prods (knR (List.take k p.recs)))) : Int))) = true ∧ decide ((0 : Nat) + Int.toNat (prodAt p.prods (List.getD p.recs k (@default Rec instInhabitedRec)).prod) < List.length (lastL p.prods (knR (List.take k p.recs)))) = true ∧ ∃ (j : Nat), List.length p.recs - j < List.length p.recs - k ∧ ((((0 : Nat) = (0 : Nat) ∧ (0 : Nat) = (0 : Nat)) ∧ ((0 : Nat) = (0 : Nat) ∧ List.length (lastL p.prods (knR (List.take k p.recs))) = List.length (lastL p.prods (knR (List.take j p.recs)))) ∧ IntKind.wrap IntKind.i64 ((↑k : Int) + (1 : Int)) = (↑j : Int) ∧ True) ∧ ((p.rng.lo = p.rng.lo ∧ p.rng.hi = p.rng.hi ∧ p.epoch = p.epoch ∧ p.frozen = p.frozen ∧ (b = b ∧ List.length p.recs = List.length p.recs ∧ contLe (List.length p.recs) (5 : Nat) (cellsOf' encR p.recs) (cellsOf' encR p.recs)) ∧ (b = b ∧ List.length p.prods = List.length p.prods ∧ contLe (List.length p.prods) (4 : Nat) (cellsOf' P.encP p.prods) (cellsOf' P.encP p.prods)) ∧ (b = b ∧ List.length p.cons = List.length p.cons ∧ contLe (List.length p.cons) (2 : Nat) (cellsOf' encC p.cons) (cellsOf' encC p.cons)) ∧ True) ∧ (List.length (lastL p.prods (knR (List.take k p.recs))) = List.length (lastL p.prods (knR (List.take j p.recs))) ∧ contLe (List.length (lastL p.prods (knR (List.take k p.recs)))) (1 : Nat) (wrRow (cellsOf' encU (lastL p.prods (knR (List.take k p.recs)))) ((0 : Nat) + Int.toNat (prodAt p.prods (List.getD p.recs k (@default Rec instInhabitedRec)).prod)) (0 : Nat) [AV.y (Value.int IntKind.u64 (List.getD p.recs (Int.toNat (↑k : Int)) (@default Rec instInhabitedRec)).seq)]) (cellsOf' encU (lastL p.prods (knR (List.take j p.recs))))) ∧ True) ∧ true = true) ∧ true = true ∧ (orFrom p j = true → (orFrom p k = true → true = true) ∧ (orFrom p k = false → true = false)) ∧ (orFrom p j = false → (orFrom p k = true → false = true) ∧ (orFrom p k = false → false = false))))))) ∧ (decide ((↑k : Int) < (↑(List.length p.recs) : Int)) = false → (orFrom p k = true → (((0 : Nat) = (0 : Nat) ∧ (0 : Nat) = (0 : Nat)) ∧ True) ∧ ((p.rng.lo = p.rng.lo ∧ p.rng.hi = p.rng.hi ∧ p.epoch = p.epoch ∧ p.frozen = p.frozen ∧ (b = b ∧ List.length p.recs = List.length p.recs ∧ contLe (List.length p.recs) (5 : Nat) (cellsOf' encR p.recs) (cellsOf' encR p.recs)) ∧ (b = b ∧ List.length p.prods = List.length p.prods ∧ contLe (List.length p.prods) (4 : Nat) (cellsOf' P.encP p.prods) (cellsOf' P.encP p.prods)) ∧ (b = b ∧ List.length p.cons = List.length p.cons ∧ contLe (List.length p.cons) (2 : Nat) (cellsOf' encC p.cons) (cellsOf' encC p.cons)) ∧ True) ∧ True) ∧ true = true) ∧ (orFrom p k = false → False))
theorem vcC1_eq (b : Bool) (p : Part) (k : Nat) : (loopVC Tryd.prog (c1H b p k) 23 8 (fun k => p.recs.length - k) (fun k => c1T k (lastL p.prods (knR (p.recs.take k))).length) (c1M b p) jX9 (orO p) (cS b p 0) k) = vcC1 b p k := by kernel_rfl
def c2T (k : Nat) : List AV := mkT 167 [(1, .ptr 0 0 0 0), (11, .y (.int .i64 k))]
def c2O (p : Part) (k : Nat) : T Bool := .ite ((p.prods.drop k).any (lostB p)) (.ret false) (.ret true)
def vcC2 (b : Bool) (p : Part) (k : Nat) : Prop :=
  (decide ((↑k : Int) < (↑(List.length p.prods) : Int)) = true → (true && decide ((↑k : Int) < (↑(List.length p.prods) : Int))) = true ∧ ((!(List.getD p.prods (Int.toNat (↑k : Int)) (@default P.Producer P.instInhabitedProducer)).here) = true → ∃ (j : Nat), List.length p.prods - j < List.length p.prods - k ∧ ((((0 : Nat) = (0 : Nat) ∧ (0 : Nat) = (0 : Nat)) ∧ IntKind.wrap IntKind.i64 ((↑k : Int) + (1 : Int)) = (↑j : Int) ∧ True) ∧ ((p.rng.lo = p.rng.lo ∧ p.rng.hi = p.rng.hi ∧ p.epoch = p.epoch ∧ p.frozen = p.frozen ∧ (b = b ∧ List.length p.recs = List.length p.recs ∧ contLe (List.length p.recs) (5 : Nat) (cellsOf' encR p.recs) (cellsOf' encR p.recs)) ∧ (b = b ∧ List.length p.prods = List.length p.prods ∧ contLe (List.length p.prods) (4 : Nat) (cellsOf' P.encP p.prods) (cellsOf' P.encP p.prods)) ∧ (b = b ∧ List.length p.cons = List.length p.cons ∧ contLe (List.length p.cons) (2 : Nat) (cellsOf' encC p.cons) (cellsOf' encC p.cons)) ∧ True) ∧ True) ∧ true = true) ∧ true = true ∧ (List.any (List.drop j p.prods) (lostB p) = true → (List.any (List.drop k p.prods) (lostB p) = true → false = false) ∧ (List.any (List.drop k p.prods) (lostB p) = false → false = true)) ∧ (List.any (List.drop j p.prods) (lostB p) = false → (List.any (List.drop k p.prods) (lostB p) = true → true = false) ∧ (List.any (List.drop k p.prods) (lostB p) = false → true = true))) ∧ ((!(List.getD p.prods (Int.toNat (↑k : Int)) (@default P.Producer P.instInhabitedProducer)).here) = false → (decide (IntKind.wrap IntKind.u64 (↑(List.length p.recs) : Int) ≤ (List.getD p.prods (Int.toNat (↑k : Int)) (@default P.Producer P.instInhabitedProducer)).offset) = true → (List.any (List.drop k p.prods) (lostB p) = true → ((165 : Int) = (165 : Int) ∧ True) ∧ True ∧ true = true) ∧ (List.any (List.drop k p.prods) (lostB p) = false → False)) ∧ (decide (IntKind.wrap IntKind.u64 (↑(List.length p.recs) : Int) ≤ (List.getD p.prods (Int.toNat (↑k : Int)) (@default P.Producer P.instInhabitedProducer)).offset) = false → (decide ((0 : Int) ≤ IntKind.wrap IntKind.i64 (List.getD p.prods (Int.toNat (↑k : Int)) (@default P.Producer P.instInhabitedProducer)).offset) && decide (IntKind.wrap IntKind.i64 (List.getD p.prods (Int.toNat (↑k : Int)) (@default P.Producer P.instInhabitedProducer)).offset < (↑(List.length p.recs) : Int))) = true ∧ (((List.getD p.recs (Int.toNat (IntKind.wrap IntKind.i64 (List.getD p.prods (Int.toNat (↑k : Int)) (@default P.Producer P.instInhabitedProducer)).offset)) (@default Rec instInhabitedRec)).prod != (List.getD p.prods (Int.toNat (↑k : Int)) (@default P.Producer P.instInhabitedProducer)).id) = true → (List.any (List.drop k p.prods) (lostB p) = true → ((165 : Int) = (165 : Int) ∧ True) ∧ True ∧ true = true) ∧ (List.any (List.drop k p.prods) (lostB p) = false → False)) ∧ (((List.getD p.recs (Int.toNat (IntKind.wrap IntKind.i64 (List.getD p.prods (Int.toNat (↑k : Int)) (@default P.Producer P.instInhabitedProducer)).offset)) (@default Rec instInhabitedRec)).prod != (List.getD p.prods (Int.toNat (↑k : Int)) (@default P.Producer P.instInhabitedProducer)).id) = false → (decide ((0 : Int) ≤ IntKind.wrap IntKind.i64 (List.getD p.prods (Int.toNat (↑k : Int)) (@default P.Producer P.instInhabitedProducer)).offset) && decide (IntKind.wrap IntKind.i64 (List.getD p.prods (Int.toNat (↑k : Int)) (@default P.Producer P.instInhabitedProducer)).offset < (↑(List.length p.recs) : Int))) = true ∧ (((List.getD p.recs (Int.toNat (IntKind.wrap IntKind.i64 (List.getD p.prods (Int.toNat (↑k : Int)) (@default P.Producer P.instInhabitedProducer)).offset)) (@default Rec instInhabitedRec)).seq != (List.getD p.prods (Int.toNat (↑k : Int)) (@default P.Producer P.instInhabitedProducer)).seq) = true → (List.any (List.drop k p.prods) (lostB p) = true → ((165 : Int) = (165 : Int) ∧ True) ∧ True ∧ true = true) ∧ (List.any (List.drop k p.prods) (lostB p) = false → False)) ∧ (((List.getD p.recs (Int.toNat (IntKind.wrap IntKind.i64 (List.getD p.prods (Int.toNat (↑k : Int)) (@default P.Producer P.instInhabitedProducer)).offset)) (@default Rec instInhabitedRec)).seq != (List.getD p.prods (Int.toNat (↑k : Int)) (@default P.Producer P.instInhabitedProducer)).seq) = false → ∃ (j : Nat), List.length p.prods - j < List.length p.prods - k ∧ ((((0 : Nat) = (0 : Nat) ∧ (0 : Nat) = (0 : Nat)) ∧ IntKind.wrap IntKind.i64 ((↑k : Int) + (1 : Int)) = (↑j : Int) ∧ True) ∧ ((p.rng.lo = p.rng.lo ∧ p.rng.hi = p.rng.hi ∧ p.epoch = p.epoch ∧ p.frozen = p.frozen ∧ (b = b ∧ List.length p.recs = List.length p.recs ∧ contLe (List.length p.recs) (5 : Nat) (cellsOf' encR p.recs) (cellsOf' encR p.recs)) ∧ (b = b ∧ List.length p.prods = List.length p.prods ∧ contLe (List.length p.prods) (4 : Nat) (cellsOf' P.encP p.prods) (cellsOf' P.encP p.prods)) ∧ (b = b ∧ List.length p.cons = List.length p.cons ∧ contLe (List.length p.cons) (2 : Nat) (cellsOf' encC p.cons) (cellsOf' encC p.cons)) ∧ True) ∧ True) ∧ true = true) ∧ true = true ∧ (List.any (List.drop j p.prods) (lostB p) = true → (List.any (List.drop k p.prods) (lostB p) = true → false = false) ∧ (List.any (List.drop k p.prods) (lostB p) = false → false = true)) ∧ (List.any (List.drop j p.prods) (lostB p) = false → (List.any (List.drop k p.prods) (lostB p) = true → true = false) ∧ (List.any (List.drop k p.prods) (lostB p) = false → true = true))))))) ∧ (decide ((↑k : Int) < (↑(List.length p.prods) : Int)) = false → (List.any (List.drop k p.prods) (lostB p) = true → False) ∧ (List.any (List.drop k p.prods) (lostB p) = false → (((0 : Nat) = (0 : Nat) ∧ (0 : Nat) = (0 : Nat)) ∧ True) ∧ ((p.rng.lo = p.rng.lo ∧ p.rng.hi = p.rng.hi ∧ p.epoch = p.epoch ∧ p.frozen = p.frozen ∧ (b = b ∧ List.length p.recs = List.length p.recs ∧ contLe (List.length p.recs) (5 : Nat) (cellsOf' encR p.recs) (cellsOf' encR p.recs)) ∧ (b = b ∧ List.length p.prods = List.length p.prods ∧ contLe (List.length p.prods) (4 : Nat) (cellsOf' P.encP p.prods) (cellsOf' P.encP p.prods)) ∧ (b = b ∧ List.length p.cons = List.length p.cons ∧ contLe (List.length p.cons) (2 : Nat) (cellsOf' encC p.cons) (cellsOf' encC p.cons)) ∧ True) ∧ True) ∧ true = true))
theorem vcC2_eq (b : Bool) (p : Part) (k : Nat) : (loopVC Tryd.prog (hT _) 23 17 (fun k => p.prods.length - k) c2T (fun _ => [.box 29 (encPt b p)]) jX9 (c2O p) (cS b p 2) k) = vcC2 b p k := by kernel_rfl
def c3T (k : Nat) : List AV := mkT 167 [(1, .ptr 0 0 0 0), (13, .y (.int .i64 k))]
def c3O (p : Part) (k : Nat) : T Bool := .ite ((p.cons.drop k).any (aheadB p.recs.length)) (.ret false) (.ret true)
def vcC3 (b : Bool) (p : Part) (k : Nat) : Prop :=
  (decide ((↑k : Int) < (↑(List.length p.cons) : Int)) = true → (true && decide ((↑k : Int) < (↑(List.length p.cons) : Int))) = true ∧ (decide (IntKind.wrap IntKind.u64 (↑(List.length p.recs) : Int) < (List.getD p.cons (Int.toNat (↑k : Int)) (@default Con instInhabitedCon)).off) = true → (List.any (List.drop k p.cons) (aheadB (List.length p.recs)) = true → ((165 : Int) = (165 : Int) ∧ True) ∧ True ∧ true = true) ∧ (List.any (List.drop k p.cons) (aheadB (List.length p.recs)) = false → False)) ∧ (decide (IntKind.wrap IntKind.u64 (↑(List.length p.recs) : Int) < (List.getD p.cons (Int.toNat (↑k : Int)) (@default Con instInhabitedCon)).off) = false → ∃ (j : Nat), List.length p.cons - j < List.length p.cons - k ∧ ((((0 : Nat) = (0 : Nat) ∧ (0 : Nat) = (0 : Nat)) ∧ IntKind.wrap IntKind.i64 ((↑k : Int) + (1 : Int)) = (↑j : Int) ∧ True) ∧ ((p.rng.lo = p.rng.lo ∧ p.rng.hi = p.rng.hi ∧ p.epoch = p.epoch ∧ p.frozen = p.frozen ∧ (b = b ∧ List.length p.recs = List.length p.recs ∧ contLe (List.length p.recs) (5 : Nat) (cellsOf' encR p.recs) (cellsOf' encR p.recs)) ∧ (b = b ∧ List.length p.prods = List.length p.prods ∧ contLe (List.length p.prods) (4 : Nat) (cellsOf' P.encP p.prods) (cellsOf' P.encP p.prods)) ∧ (b = b ∧ List.length p.cons = List.length p.cons ∧ contLe (List.length p.cons) (2 : Nat) (cellsOf' encC p.cons) (cellsOf' encC p.cons)) ∧ True) ∧ True) ∧ true = true) ∧ true = true ∧ (List.any (List.drop j p.cons) (aheadB (List.length p.recs)) = true → (List.any (List.drop k p.cons) (aheadB (List.length p.recs)) = true → false = false) ∧ (List.any (List.drop k p.cons) (aheadB (List.length p.recs)) = false → false = true)) ∧ (List.any (List.drop j p.cons) (aheadB (List.length p.recs)) = false → (List.any (List.drop k p.cons) (aheadB (List.length p.recs)) = true → true = false) ∧ (List.any (List.drop k p.cons) (aheadB (List.length p.recs)) = false → true = true)))) ∧ (decide ((↑k : Int) < (↑(List.length p.cons) : Int)) = false → (List.any (List.drop k p.cons) (aheadB (List.length p.recs)) = true → False) ∧ (List.any (List.drop k p.cons) (aheadB (List.length p.recs)) = false → (((0 : Nat) = (0 : Nat) ∧ (0 : Nat) = (0 : Nat)) ∧ True) ∧ ((p.rng.lo = p.rng.lo ∧ p.rng.hi = p.rng.hi ∧ p.epoch = p.epoch ∧ p.frozen = p.frozen ∧ (b = b ∧ List.length p.recs = List.length p.recs ∧ contLe (List.length p.recs) (5 : Nat) (cellsOf' encR p.recs) (cellsOf' encR p.recs)) ∧ (b = b ∧ List.length p.prods = List.length p.prods ∧ contLe (List.length p.prods) (4 : Nat) (cellsOf' P.encP p.prods) (cellsOf' P.encP p.prods)) ∧ (b = b ∧ List.length p.cons = List.length p.cons ∧ contLe (List.length p.cons) (2 : Nat) (cellsOf' encC p.cons) (cellsOf' encC p.cons)) ∧ True) ∧ True) ∧ true = true))
theorem vcC3_eq (b : Bool) (p : Part) (k : Nat) : (loopVC Tryd.prog (hT _) 23 24 (fun k => p.cons.length - k) c3T (fun _ => [.box 29 (encPt b p)]) jX9 (c3O p) (cS b p 4) k) = vcC3 b p k := by kernel_rfl
noncomputable def ckH (b : Bool) (p : Part) : HintsT Tryd.prog := hh _ (lp1 23 8 (jobOf (fun k => c1T k (lastL p.prods (knR (p.recs.take k))).length) (c1M b p) jX9 (orO p) (cS b p 0) 0) (lp1 23 17 (jobOf c2T (fun _ => [.box 29 (encPt b p)]) jX9 (c2O p) (cS b p 2) 0) (lp1 23 24 (jobOf c3T (fun _ => [.box 29 (encPt b p)]) jX9 (c3O p) (cS b p 4) 0) noLp)))
  (cs1 23 1 2 (lrC b p.recs) (cs1 23 2 2 (P.tabN2 b p.prods) (cs1 23 3 2 (crC b p.cons) (cs1 23 4 2 (chk2C p.rng) noCs)))) noOp
def vcCk (b : Bool) (p : Part) : Prop :=
  ((b = b ∧ List.length p.recs = List.length p.recs ∧ contLe (List.length p.recs) (5 : Nat) (cellsOf' encR p.recs) (cellsOf' encR p.recs)) ∧ True) ∧ True ∧ List.length p.recs ≤ (9223372036854775806 : Nat) ∧ ((b = b ∧ List.length p.prods = List.length p.prods ∧ contLe (List.length p.prods) (4 : Nat) (cellsOf' P.encP p.prods) (cellsOf' P.encP p.prods)) ∧ True) ∧ True ∧ List.length p.prods ≤ (9223372036854775806 : Nat) ∧ ((b = b ∧ List.length p.cons = List.length p.cons ∧ contLe (List.length p.cons) (2 : Nat) (cellsOf' encC p.cons) (cellsOf' encC p.cons)) ∧ True) ∧ True ∧ List.length p.cons ≤ (9223372036854775806 : Nat) ∧ ((p.rng.lo = p.rng.lo ∧ p.rng.hi = p.rng.hi ∧ True) ∧ True) ∧ True ∧ ((chkK p.rng != (0 : Int)) = true → (partOk p = true → (165 : Int) = (0 : Int) ∧ True) ∧ (partOk p = false → (165 : Int) = (165 : Int) ∧ True)) ∧ ((chkK p.rng != (0 : Int)) = false → ((p.epoch == (0 : Int)) = true → (partOk p = true → (165 : Int) = (0 : Int) ∧ True) ∧ (partOk p = false → (165 : Int) = (165 : Int) ∧ True)) ∧ ((p.epoch == (0 : Int)) = false → ((!isLog p.recs) = true → (partOk p = true → (165 : Int) = (0 : Int) ∧ True) ∧ (partOk p = false → (165 : Int) = (165 : Int) ∧ True)) ∧ ((!isLog p.recs) = false → ((!P.isTable p.prods) = true → (partOk p = true → (165 : Int) = (0 : Int) ∧ True) ∧ (partOk p = false → (165 : Int) = (165 : Int) ∧ True)) ∧ ((!P.isTable p.prods) = false → ((!isCons p.cons) = true → (partOk p = true → (165 : Int) = (0 : Int) ∧ True) ∧ (partOk p = false → (165 : Int) = (165 : Int) ∧ True)) ∧ ((!isCons p.cons) = false → (0 : Int) ≤ (↑(List.length p.prods) : Int) ∧ (↑(List.length p.prods) : Int) ≤ (↑(List.length p.prods) : Int) ∧ (8 : Int) * (↑(List.length p.prods) : Int) ≤ (281474976710656 : Int) ∧ (↑(List.length p.prods) : Int) ≤ (9223372036854775807 : Int) ∧ ((((0 : Nat) = (0 : Nat) ∧ (0 : Nat) = (0 : Nat)) ∧ ((0 : Nat) = (0 : Nat) ∧ Int.toNat (↑(List.length p.prods) : Int) = List.length (lastL p.prods (fun (x : Int) => false, fun (x : Int) => (0 : Int)))) ∧ (0 : Int) = (0 : Int) ∧ True) ∧ ((p.rng.lo = p.rng.lo ∧ p.rng.hi = p.rng.hi ∧ p.epoch = p.epoch ∧ p.frozen = p.frozen ∧ (b = b ∧ List.length p.recs = List.length p.recs ∧ contLe (List.length p.recs) (5 : Nat) (cellsOf' encR p.recs) (cellsOf' encR p.recs)) ∧ (b = b ∧ List.length p.prods = List.length p.prods ∧ contLe (List.length p.prods) (4 : Nat) (cellsOf' P.encP p.prods) (cellsOf' P.encP p.prods)) ∧ (b = b ∧ List.length p.cons = List.length p.cons ∧ contLe (List.length p.cons) (2 : Nat) (cellsOf' encC p.cons) (cellsOf' encC p.cons)) ∧ True) ∧ (Int.toNat (↑(List.length p.prods) : Int) = List.length (lastL p.prods (fun (x : Int) => false, fun (x : Int) => (0 : Int))) ∧ contLe (Int.toNat (↑(List.length p.prods) : Int)) (1 : Nat) (fun (x j : Nat) => Ax.get [AV.s (Value.int IntKind.u64 (0 : Int))] j) (cellsOf' encU (lastL p.prods (fun (x : Int) => false, fun (x : Int) => (0 : Int))))) ∧ True) ∧ true = true) ∧ LoopOk Tryd.prog (23 : Nat) (8 : Nat) (loopAt Tryd.prog (23 : Nat) (8 : Nat)) { t := c1T (0 : Nat) (List.length (lastL p.prods (knR (List.take (0 : Nat) p.recs)))), m := c1M b p (0 : Nat), mv := [] : St } (T.map (lout jX9 (cS b p (0 : Nat))) (orO p (0 : Nat))) ∧ (orFrom p (0 : Nat) = true → ((((0 : Nat) = (0 : Nat) ∧ (0 : Nat) = (0 : Nat)) ∧ (0 : Int) = (0 : Int) ∧ True) ∧ ((p.rng.lo = p.rng.lo ∧ p.rng.hi = p.rng.hi ∧ p.epoch = p.epoch ∧ p.frozen = p.frozen ∧ (b = b ∧ List.length p.recs = List.length p.recs ∧ contLe (List.length p.recs) (5 : Nat) (cellsOf' encR p.recs) (cellsOf' encR p.recs)) ∧ (b = b ∧ List.length p.prods = List.length p.prods ∧ contLe (List.length p.prods) (4 : Nat) (cellsOf' P.encP p.prods) (cellsOf' P.encP p.prods)) ∧ (b = b ∧ List.length p.cons = List.length p.cons ∧ contLe (List.length p.cons) (2 : Nat) (cellsOf' encC p.cons) (cellsOf' encC p.cons)) ∧ True) ∧ True) ∧ true = true) ∧ LoopOk Tryd.prog (23 : Nat) (17 : Nat) (loopAt Tryd.prog (23 : Nat) (17 : Nat)) { t := c2T (0 : Nat), m := [Blk.box (29 : TypeId) (encPt b p)], mv := [] : St } (T.map (lout jX9 (cS b p (2 : Nat))) (c2O p (0 : Nat))) ∧ (List.any (List.drop (0 : Nat) p.prods) (lostB p) = true → (partOk p = true → (165 : Int) = (0 : Int) ∧ True) ∧ (partOk p = false → (165 : Int) = (165 : Int) ∧ True)) ∧ (List.any (List.drop (0 : Nat) p.prods) (lostB p) = false → ((((0 : Nat) = (0 : Nat) ∧ (0 : Nat) = (0 : Nat)) ∧ (0 : Int) = (0 : Int) ∧ True) ∧ ((p.rng.lo = p.rng.lo ∧ p.rng.hi = p.rng.hi ∧ p.epoch = p.epoch ∧ p.frozen = p.frozen ∧ (b = b ∧ List.length p.recs = List.length p.recs ∧ contLe (List.length p.recs) (5 : Nat) (cellsOf' encR p.recs) (cellsOf' encR p.recs)) ∧ (b = b ∧ List.length p.prods = List.length p.prods ∧ contLe (List.length p.prods) (4 : Nat) (cellsOf' P.encP p.prods) (cellsOf' P.encP p.prods)) ∧ (b = b ∧ List.length p.cons = List.length p.cons ∧ contLe (List.length p.cons) (2 : Nat) (cellsOf' encC p.cons) (cellsOf' encC p.cons)) ∧ True) ∧ True) ∧ true = true) ∧ LoopOk Tryd.prog (23 : Nat) (24 : Nat) (loopAt Tryd.prog (23 : Nat) (24 : Nat)) { t := c3T (0 : Nat), m := [Blk.box (29 : TypeId) (encPt b p)], mv := [] : St } (T.map (lout jX9 (cS b p (4 : Nat))) (c3O p (0 : Nat))) ∧ (List.any (List.drop (0 : Nat) p.cons) (aheadB (List.length p.recs)) = true → (partOk p = true → (165 : Int) = (0 : Int) ∧ True) ∧ (partOk p = false → (165 : Int) = (165 : Int) ∧ True)) ∧ (List.any (List.drop (0 : Nat) p.cons) (aheadB (List.length p.recs)) = false → (partOk p = true → (0 : Int) = (0 : Int) ∧ True) ∧ (partOk p = false → (0 : Int) = (165 : Int) ∧ True)))) ∧ (orFrom p (0 : Nat) = false → (partOk p = true → (165 : Int) = (0 : Int) ∧ True) ∧ (partOk p = false → (165 : Int) = (165 : Int) ∧ True)))))))
theorem vcCk_eq (b : Bool) (p : Part) : (ctrVC Tryd.prog (ckH b p) 23 [.agg (encPt b p)] [] (errR (partOk p) 165)) = vcCk b p := by kernel_rfl
end Go.Proofs.YtckklclehofddaaDoor.Q

namespace Go.Proofs.YtckklclehofddaaDoor.Q
open Go.Ax Go.Proofs.YtckklclehofddaaDoor Go.Proofs.YtckklclehofddaaDoor.H Go.Proofs.YtckklclehofddaaDoor.D
set_option maxRecDepth 1000000
theorem has_ge {r : Rng} {k : ByteArray} (h : hasK r k = true) : lt k r.lo = false := by
  obtain ⟨_, _, h2, _⟩ := has_iff.1 h
  cases hh : lt k r.lo
  · rfl
  · rcases h2 with h2 | h2
    · have := lt_trans' hh h2
      rw [lt_irr] at this; cases this
    · rw [← h2, lt_irr] at hh; cases hh
theorem ds2_c (r : Rng) (k : ByteArray) (hk : k.size ≤ 9223372036854775807) : (splT r k).Sat (ACall' Tryd.prog 24 [.agg (encG r), .y (.string k)] []) := by
  refine ctr_vc (ht := ds2H r k) Tryd.mixed rfl ?_
  rw [vcDs2_eq r k]
  unfold vcDs2
  have hlt : Op.bytesLess k.data.toList r.lo.data.toList = lt k r.lo := rfl
  have hge := @has_ge r k
  unfold splE beqB
  rw [hlt]
  by_cases h1 : chkK r = 0
  · by_cases h2 : 32 < k.size
    · have h3 : (32 : Int) < k.size := by omega
      simp [h1, h2, h3]
      rfl
    · have h3 : ¬ (32 : Int) < k.size := by omega
      generalize (k.data.toList == r.lo.data.toList) = q
      cases hh : hasK r k
      · generalize lt k r.lo = z
        cases q <;> cases z <;> simp [h1, h2, h3, hh] <;> first | done | rfl
      · have := hge hh
        cases q <;> simp [h1, h2, h3, hh, this] <;> first | done | rfl
  · simp [h1]
    rfl
noncomputable def ds2C (r : Rng) (k : ByteArray) : Ctr Tryd.prog := ⟨24, [.agg (encG r), .y (.string k)], [], .need (k.size ≤ 9223372036854775807) (splT r k), T.Sat.need fun h => ds2_c r k h⟩
structure CkOk (p : Part) : Prop where
  ty : PartTy p
  pn : p.prods.length ≤ 35184372088832
  sq : ∀ y ∈ p.recs, 0 ≤ y.seq
theorem c1_loop (b : Bool) (p : Part) (h : CkOk p) (ht : P.isTable p.prods = true) (k : Nat) : LoopOk Tryd.prog 23 8 (loopAt Tryd.prog 23 8) ⟨c1T k (lastL p.prods (knR (p.recs.take k))).length, c1M b p k, []⟩ ((orO p k).map (lout jX9 (cS b p 0))) := by
  refine loop_vcH (o := orO p) (stT := fun k => c1T k (lastL p.prods (knR (p.recs.take k))).length) (stM := c1M b p) Tryd.mixed (fun _ => rfl) (fun k => (vcC1_eq b p k).mpr ?_) k
  unfold vcC1
  have hr := h.ty.rl
  have hp := h.ty.pl
  have hu := P.table_rising ht
  by_cases hk : k < p.recs.length
  · have hok := okD_eq (k := k) ht h.sq
    have hst := knR_step hk
    have hof := orFrom_step hk
    have hz : decide ((k : Int) < p.recs.length) = true := by simp; omega
    have hw : IntKind.i64.wrap ((k : Int) + 1) = ((k + 1 : Nat) : Int) := by rw [wrap_i64 (by omega) (by omega)]; omega
    unfold okD at hok
    simp only [hz, Int.toNat_natCast, lastL_len] at *
    obtain ⟨x, hx⟩ : ∃ x, x = p.recs.getD k default := ⟨_, rfl⟩
    simp only [← hx] at *
    rcases prodAt_cases p.prods x.prod with ⟨h1, h2⟩ | ⟨i, h1, h2⟩
    · rw [h1] at hok
      have ho : okO p k = false := by rw [← hok]; simp
      rw [ho] at hof
      simp [h1, hof]
      omega
    · obtain ⟨h3, h4⟩ := prodAt_some h1
      have hi : ¬ ((i : Nat) : Int) < 0 := by omega
      have hset := lastL_put hu (knR (p.recs.take k)) h3 x.seq
      rw [h4] at hset
      have hwr := wr_le (enc := encU) (l := lastL p.prods (knR (p.recs.take k))) (i := i) (sz := 1) (n := p.prods.length) (cs := [AV.y (Value.int IntKind.u64 x.seq)]) (x := x.seq) (by rw [lastL_len]) (by rw [lastL_len]; exact h3) rfl (fun j hj => by (obtain rfl : j = 0 := by omega); exact le0_refl _)
      rw [hset] at hwr
      rw [h1, Int.toNat_natCast] at hok
      simp only [h1, Int.toNat_natCast, Nat.zero_add]
      obtain ⟨la, hla⟩ : ∃ la, la = (lastL p.prods (knR (p.recs.take k))).getD i 0 := ⟨_, rfl⟩
      obtain ⟨pq, hpq⟩ : ∃ pq, pq = (p.prods.getD i default).seq := ⟨_, rfl⟩
      simp only [← hla, ← hpq] at *
      cases hh : hasK p.rng x.key
      · have ho : okO p k = false := by rw [← hok]; simp [hh]
        simp [hof, ho]
        try omega
      · by_cases h5 : x.seq ≤ la
        · have ho : okO p k = false := by rw [← hok, hh]; simp [h5]
          simp [hof, ho, h5, hi, h3]
          try omega
        · by_cases h6 : pq < x.seq
          · have ho : okO p k = false := by rw [← hok, hh]; simp [h5, h6]
            simp [hof, ho, h5, h6, hi, h3]
            try omega
          · have ho : okO p k = true := by rw [← hok, hh]; simp [h5, h6, hi]
            simp [hof, ho, h5, h6, hi, h3]
            repeat' with_reducible apply And.intro
            all_goals first
              | omega
              | (refine Exists.intro (k + 1) ?_
                 rw [hst]
                 repeat' with_reducible apply And.intro
                 all_goals first
                   | omega
                   | exact hw
                   | exact hwr
                   | (simp [lastL_len]; done)
                   | (intro hq; simp [hq]))
  · have hz : decide ((k : Int) < p.recs.length) = false := by simp; omega
    simp [hz, orFrom_end (show p.recs.length ≤ k by omega)]
    try exact fun e => absurd e hk
theorem c2_loop (b : Bool) (p : Part) (h : PartTy p) (k : Nat) : LoopOk Tryd.prog 23 17 (loopAt Tryd.prog 23 17) ⟨c2T k, [.box 29 (encPt b p)], []⟩ ((c2O p k).map (lout jX9 (cS b p 2))) := by
  refine loop_vc (stM := fun _ => [.box 29 (encPt b p)]) Tryd.mixed (fun _ => rfl) (fun k => (vcC2_eq b p k).mpr ?_) k
  unfold vcC2
  have hr := h.rl
  have hp := h.pl
  by_cases hk : k < p.prods.length
  · have hz : decide ((k : Int) < p.prods.length) = true := by simp; omega
    have hw : IntKind.i64.wrap ((k : Int) + 1) = ((k + 1 : Nat) : Int) := by rw [wrap_i64 (by omega) (by omega)]; omega
    have hwr : IntKind.u64.wrap (p.recs.length : Int) = p.recs.length := wrap_u64 (by omega) (by omega)
    have hd : (p.prods.drop k).any (lostB p) = (lostB p (p.prods.getD k default) || (p.prods.drop (k + 1)).any (lostB p)) := by
      rw [drop_cons hk, List.any_cons]; simp
    have hpo := h.po (p.prods.getD k default) (by simp [hk])
    simp only [hz, Int.toNat_natCast, hwr, hd]
    obtain ⟨x, hx⟩ : ∃ x, x = p.prods.getD k default := ⟨_, rfl⟩
    simp only [← hx] at *
    have hwo : x.offset < (p.recs.length : Int) → IntKind.i64.wrap x.offset = x.offset := fun h => wrap_i64 (by omega) (by omega)
    have hex : ∀ q : Nat → Prop, q (k + 1) → ∃ j, p.prods.length - j < p.prods.length - k ∧ q j := fun q h => ⟨k + 1, by omega, h⟩
    have hcl : contLe p.recs.length 5 (cellsOf' encR p.recs) (cellsOf' encR p.recs) := contLe_refl _ _ _
    obtain ⟨rest, hR⟩ : ∃ rest, rest = (p.prods.drop (k + 1)).any (lostB p) := ⟨_, rfl⟩
    have hexR : ∀ q : Nat → Bool → Prop, q (k + 1) rest → ∃ j, p.prods.length - j < p.prods.length - k ∧ q j ((p.prods.drop j).any (lostB p)) := fun q h => ⟨k + 1, by omega, by rw [← hR]; exact h⟩
    rw [← hR]
    clear hd hR
    have hlo : lostB p x = (x.here && (decide ((p.recs.length : Int) ≤ x.offset) || ((p.recs.getD x.offset.toNat default).prod != x.id || (p.recs.getD x.offset.toNat default).seq != x.seq))) := rfl
    have fin : ∀ q : Nat → Bool → Prop, q (k + 1) rest → ∃ j, p.prods.length - j < p.prods.length - k ∧ q j ((p.prods.drop j).any (lostB p)) := hexR
    cases hh : x.here
    · rw [hh] at hlo
      simp only [Bool.false_and] at hlo
      simp [hlo, hh, -List.any_eq_true, -List.any_eq_false]
      refine fin (fun j r => _ ∧ (r = true → rest = true) ∧ (r = false → rest = false)) ?_
      simp [hw]
    · by_cases h1 : (p.recs.length : Int) ≤ x.offset
      · rw [hh] at hlo
        simp [h1] at hlo
        simp [hlo, hh, h1]
        try omega
      · have h1' : x.offset < p.recs.length := by omega
        rw [hwo h1']
        rw [hh] at hlo
        obtain ⟨a, ha⟩ : ∃ a, a = p.recs.getD x.offset.toNat default := ⟨_, rfl⟩
        simp only [← ha] at *
        have h0 := hpo.1
        by_cases h2 : a.prod = x.id
        · by_cases h3 : a.seq = x.seq
          · simp [h1, h2, h3] at hlo
            simp [hlo, hh, h1, h2, h3, h1', h0, -List.any_eq_true, -List.any_eq_false]
            refine fin (fun j r => _ ∧ (r = true → rest = true) ∧ (r = false → rest = false)) ?_
            simp [hw]
          · simp [h1, h2, h3] at hlo
            simp [hlo, hh, h1, h2, h3, h1', h0]
        · simp [h1, h2] at hlo
          simp [hlo, hh, h1, h2, h1', h0]
  · have hz : decide ((k : Int) < p.prods.length) = false := by simp; omega
    simp [hz, drop_end (show p.prods.length ≤ k by omega)]
    try exact fun e => absurd e hk
theorem c3_loop (b : Bool) (p : Part) (h : PartTy p) (k : Nat) : LoopOk Tryd.prog 23 24 (loopAt Tryd.prog 23 24) ⟨c3T k, [.box 29 (encPt b p)], []⟩ ((c3O p k).map (lout jX9 (cS b p 4))) := by
  refine loop_vc (stM := fun _ => [.box 29 (encPt b p)]) Tryd.mixed (fun _ => rfl) (fun k => (vcC3_eq b p k).mpr ?_) k
  unfold vcC3
  have hr := h.rl
  have hc := h.cl
  by_cases hk : k < p.cons.length
  · have hz : decide ((k : Int) < p.cons.length) = true := by simp; omega
    have hw : IntKind.i64.wrap ((k : Int) + 1) = ((k + 1 : Nat) : Int) := by rw [wrap_i64 (by omega) (by omega)]; omega
    have hwr : IntKind.u64.wrap (p.recs.length : Int) = p.recs.length := wrap_u64 (by omega) (by omega)
    have hd : (p.cons.drop k).any (aheadB p.recs.length) = (aheadB p.recs.length (p.cons.getD k default) || (p.cons.drop (k + 1)).any (aheadB p.recs.length)) := by
      rw [drop_cons hk, List.any_cons]; simp
    simp only [hz, Int.toNat_natCast, hwr, hd]
    obtain ⟨x, hx⟩ : ∃ x, x = p.cons.getD k default := ⟨_, rfl⟩
    simp only [← hx] at *
    obtain ⟨rest, hR⟩ : ∃ rest, rest = (p.cons.drop (k + 1)).any (aheadB p.recs.length) := ⟨_, rfl⟩
    have fin : ∀ q : Nat → Bool → Prop, q (k + 1) rest → ∃ j, p.cons.length - j < p.cons.length - k ∧ q j ((p.cons.drop j).any (aheadB p.recs.length)) := fun q h => ⟨k + 1, by omega, by rw [← hR]; exact h⟩
    rw [← hR]
    clear hd hR
    by_cases h1 : (p.recs.length : Int) < x.off
    · have hlo : aheadB p.recs.length x = true := by simp [aheadB, h1]
      simp [hlo, h1]
      try omega
    · have hlo : aheadB p.recs.length x = false := by simp [aheadB]; omega
      simp [hlo, h1, -List.any_eq_true, -List.any_eq_false]
      refine fin (fun j r => _ ∧ (r = true → rest = true) ∧ (r = false → rest = false)) ?_
      simp [hw]
  · have hz : decide ((k : Int) < p.cons.length) = false := by simp; omega
    simp [hz, drop_end (show p.cons.length ≤ k by omega)]
    try exact fun e => absurd e hk
theorem last0 (l : List P.Producer) (i : Nat) : (lastL l (fun _ => false, fun _ => 0)).getD i 0 = 0 := by
  unfold lastL
  rw [show (l.map fun y => Kn.sel (fun _ => false, fun _ => 0) y.id) = l.map fun _ => (0 : Int) from List.map_congr_left fun y _ => rfl]
  simp
  cases l[i]? <;> rfl
theorem zero_la (l : List P.Producer) : contLe l.length 1 (fun (_ j : Nat) => Ax.get [AV.s (Value.int IntKind.u64 0)] j) (cellsOf' encU (lastL l (fun _ => false, fun _ => 0))) := by
  intro i _ j hj
  unfold cellsOf'
  rw [show (default : Int) = 0 from rfl, last0]
  obtain rfl : j = 0 := by omega
  exact rfl
theorem ck_c (b : Bool) (p : Part) (h : CkOk p) : (errR (partOk p) 165).Sat (ACall' Tryd.prog 23 [.agg (encPt b p)] []) := by
  refine ctr_vc (ht := ckH b p) Tryd.mixed rfl ?_
  rw [vcCk_eq b p]
  unfold vcCk
  have l1 := fun ht => c1_loop b p h ht 0
  have l2 := c2_loop b p h.ty 0
  have l3 := c3_loop b p h.ty 0
  obtain ⟨⟨h1, h2, h3, h4, h5⟩, h6⟩ := h
  unfold partOk
  have g1 : p.recs.length ≤ 9223372036854775806 := by omega
  have g2 : p.prods.length ≤ 9223372036854775806 := by omega
  have g3 : p.cons.length ≤ 9223372036854775806 := by omega
  simp only [List.drop_zero]
  generalize orFrom p 0 = a1
  obtain ⟨a2, ha2⟩ : ∃ a2, a2 = p.prods.any (lostB p) := ⟨_, rfl⟩
  obtain ⟨a3, ha3⟩ : ∃ a3, a3 = p.cons.any (aheadB p.recs.length) := ⟨_, rfl⟩
  rw [← ha2, ← ha3]
  generalize isLog p.recs = a4
  have zr := zero_la p.prods
  have cr := contLe_refl p.recs.length 5 (cellsOf' encR p.recs)
  have cp := contLe_refl p.prods.length 4 (cellsOf' P.encP p.prods)
  have cc := contLe_refl p.cons.length 2 (cellsOf' encC p.cons)
  cases a5 : P.isTable p.prods
  · cases a4 <;> by_cases c1 : chkK p.rng = 0 <;> by_cases c2 : p.epoch = 0 <;> simp [c1, c2, g1, g2, g3, cr, cp, cc]
  · have l1' := l1 a5
    simp only [lastL_len] at l1'
    generalize isCons p.cons = a6
    have o1 : 8 * p.prods.length ≤ 281474976710656 := by omega
    have o2 : (8 * (p.prods.length : Int)) ≤ 281474976710656 := by omega
    have o3 : (p.prods.length : Int) ≤ 9223372036854775807 := by omega
    simp only [Int.toNat_natCast]
    by_cases c1 : chkK p.rng = 0 <;> by_cases c2 : p.epoch = 0 <;> cases a1 <;> cases a2 <;> cases a3 <;> cases a4 <;> cases a6 <;> simp [c1, c2, g1, g2, g3, cr, cp, cc, zr, lastL_len, l1', l2, l3, o2, o3]
noncomputable def ckC (b : Bool) (p : Part) : Ctr Tryd.prog := ⟨23, [.agg (encPt b p)], [], .need (CkOk p) (errR (partOk p) 165), T.Sat.need fun h => ck_c b p h⟩
end Go.Proofs.YtckklclehofddaaDoor.Q

namespace Go.Proofs.YtckklclehofddaaDoor.J
open Go.Ax
set_option maxRecDepth 1000000
def vint : Nat → Int → List Int
  | 0, v => [v]
  | f + 1, v => if v < 128 then [v] else (v % 128 + 128) :: vint f (v / 128)
def uintB (v : Int) : List Int := vint 10 v
structure WU (t : List Int) where
  v : Int
  l : List Int
  f : Nat
  v0 : 0 ≤ v
  vf : v < 128 ^ (f + 1)
  n : l.length + f + 1 ≤ 140737488355327
  e : t = l ++ vint f v
end Go.Proofs.YtckklclehofddaaDoor.J

namespace Go.Proofs.YtckklclehofddaaDoor.J
open Go.Ax
set_option maxRecDepth 1000000
theorem u8_mod (v : Int) : IntKind.wrap IntKind.u8 v = v % 256 := by
  unfold IntKind.wrap
  simp [IntKind.bits, IntKind.signed]
theorem vint_step {f : Nat} {v : Int} (h : 128 ≤ v) : vint (f + 1) v = (v % 128 + 128) :: vint f (v / 128) := by
  rw [vint, if_neg (by omega)]
theorem vint_end {f : Nat} {v : Int} (h : v < 128) : vint f v = [v] := by
  cases f with
  | zero => rfl
  | succ f => rw [vint, if_pos h]
theorem vint_len (f : Nat) : ∀ v, (vint f v).length ≤ f + 1 := by
  induction f with
  | zero => intro v; exact Nat.le_refl _
  | succ f ih =>
    intro v
    unfold vint
    split
    · simp
    · simp only [List.length_cons]
      have := ih (v / 128)
      omega
theorem vint_last (f : Nat) : ∀ v, 0 ≤ v → v < 128 ^ (f + 1) → ∃ l z, vint f v = l ++ [z] ∧ 0 ≤ z ∧ z < 128 := by
  induction f with
  | zero =>
    intro v h0 h1
    exact ⟨[], v, rfl, h0, by simpa using h1⟩
  | succ f ih =>
    intro v h0 h1
    by_cases h : v < 128
    · exact ⟨[], v, vint_end h, h0, h⟩
    · have : (128 : Int) ^ (f + 1 + 1) = 128 ^ (f + 1) * 128 := Int.pow_succ 128 (f + 1)
      rw [this] at h1
      obtain ⟨l, z, h2, h3, h4⟩ := ih (v / 128) (Int.ediv_nonneg h0 (by omega)) (Int.ediv_lt_of_lt_mul (by omega) h1)
      exact ⟨(v % 128 + 128) :: l, z, by rw [vint_step (by omega), h2]; rfl, h3, h4⟩
end Go.Proofs.YtckklclehofddaaDoor.J
