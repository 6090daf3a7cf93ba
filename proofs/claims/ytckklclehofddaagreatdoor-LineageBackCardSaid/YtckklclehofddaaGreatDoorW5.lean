import Derived.Test.YtckklclehofddaaGreatDoorW4
set_option linter.unusedVariables false
set_option linter.unusedSimpArgs false
set_option linter.unusedSectionVars false
/-! Shards' states: may one be? -/
namespace Go.Proofs.YtckklclehofddaaGreatDoor
open Go.Ax
set_option maxRecDepth 1000000
def partOk (p : Part) : Bool := (chkK p.rng == 0) && (!(p.epoch == 0) && (isLog p.recs && (P.isTable p.prods && (isCons p.cons && (orFrom p 0 && (!p.prods.any (lostB p) && !p.cons.any (aheadB p.recs.length)))))))
def errR (b : Bool) (e : Int) : T An := .ite b (.ret (.s (.int .i64 0), [], [])) (.ret (.s (.int .i64 e), [], []))
noncomputable def pcH (b : Bool) (p : Part) : HintsT Tryz.prog := hh _ noLp
  (cs1 15 4 2 (chkC p.rng) (cs1 15 6 2 (lgC b p.recs) (cs1 15 7 2 (P.tabN b p.prods) (cs1 15 8 2 (coC b p.cons)
  (cs1 15 10 1 (orC b p) (cs1 15 11 3 (loHas b p b p.prods) (cs1 15 12 3 (ahHas p.recs.length b p.cons) noCs))))))) noOp
def vcPc (b : Bool) (p : Part) : Prop :=
  ((p.rng.lo = p.rng.lo ∧ p.rng.hi = p.rng.hi ∧ True) ∧ True) ∧ True ∧ ((chkK p.rng != (0 : Int)) = true → (partOk p = true → (165 : Int) = (0 : Int) ∧ True) ∧ (partOk p = false → (165 : Int) = (165 : Int) ∧ True)) ∧ ((chkK p.rng != (0 : Int)) = false → ((p.epoch == (0 : Int)) = true → (partOk p = true → (165 : Int) = (0 : Int) ∧ True) ∧ (partOk p = false → (165 : Int) = (165 : Int) ∧ True)) ∧ ((p.epoch == (0 : Int)) = false → ((b = b ∧ List.length p.recs = List.length p.recs ∧ contLe (List.length p.recs) (5 : Nat) (cellsOf' encR p.recs) (cellsOf' encR p.recs)) ∧ True) ∧ True ∧ List.length p.recs ≤ (9223372036854775806 : Nat) ∧ ((!isLog p.recs) = true → (partOk p = true → (165 : Int) = (0 : Int) ∧ True) ∧ (partOk p = false → (165 : Int) = (165 : Int) ∧ True)) ∧ ((!isLog p.recs) = false → ((b = b ∧ List.length p.prods = List.length p.prods ∧ contLe (List.length p.prods) (4 : Nat) (cellsOf' P.encP p.prods) (cellsOf' P.encP p.prods)) ∧ True) ∧ True ∧ List.length p.prods ≤ (9223372036854775806 : Nat) ∧ ((!P.isTable p.prods) = true → (partOk p = true → (165 : Int) = (0 : Int) ∧ True) ∧ (partOk p = false → (165 : Int) = (165 : Int) ∧ True)) ∧ ((!P.isTable p.prods) = false → ((b = b ∧ List.length p.cons = List.length p.cons ∧ contLe (List.length p.cons) (2 : Nat) (cellsOf' encC p.cons) (cellsOf' encC p.cons)) ∧ True) ∧ True ∧ List.length p.cons ≤ (9223372036854775806 : Nat) ∧ ((!isCons p.cons) = true → (partOk p = true → (165 : Int) = (0 : Int) ∧ True) ∧ (partOk p = false → (165 : Int) = (165 : Int) ∧ True)) ∧ ((!isCons p.cons) = false → ((p.rng.lo = p.rng.lo ∧ p.rng.hi = p.rng.hi ∧ p.epoch = p.epoch ∧ p.frozen = p.frozen ∧ (b = b ∧ List.length p.recs = List.length p.recs ∧ contLe (List.length p.recs) (5 : Nat) (cellsOf' encR p.recs) (cellsOf' encR p.recs)) ∧ (b = b ∧ List.length p.prods = List.length p.prods ∧ contLe (List.length p.prods) (4 : Nat) (cellsOf' P.encP p.prods) (cellsOf' P.encP p.prods)) ∧ (b = b ∧ List.length p.cons = List.length p.cons ∧ contLe (List.length p.cons) (2 : Nat) (cellsOf' encC p.cons) (cellsOf' encC p.cons)) ∧ True) ∧ True) ∧ True ∧ (List.length p.prods ≤ (9223372036854775806 : Nat) ∧ List.length p.recs ≤ (9223372036854775806 : Nat)) ∧ ((!orFrom p (0 : Nat)) = true → (partOk p = true → (165 : Int) = (0 : Int) ∧ True) ∧ (partOk p = false → (165 : Int) = (165 : Int) ∧ True)) ∧ ((!orFrom p (0 : Nat)) = false → ((b = b ∧ List.length p.prods = List.length p.prods ∧ contLe (List.length p.prods) (4 : Nat) (cellsOf' P.encP p.prods) (cellsOf' P.encP p.prods)) ∧ (True ∧ (false = false ∧ (1 : Nat) ≤ (1 : Nat) ∧ cellLe (1 : Nat) (fun (j : Nat) => Ax.get [AV.y (Value.int IntKind.u64 (IntKind.wrap IntKind.u64 (↑(List.length p.recs) : Int)))] ((0 : Nat) + j)) (Ax.get [AV.y (Value.int IntKind.u64 (IntKind.wrap IntKind.u64 (↑(List.length p.recs) : Int)))])) ∧ (false = false ∧ (7 : Nat) ≤ (7 : Nat) ∧ cellLe (7 : Nat) (fun (j : Nat) => Ax.get [AV.y (Value.string p.rng.lo), AV.y (Value.string p.rng.hi), AV.y (Value.int IntKind.u64 p.epoch), AV.y (Value.int IntKind.u64 p.frozen), AV.ys b (5 : Nat) (List.length p.recs) (cellsOf' encR p.recs), AV.ys b (4 : Nat) (List.length p.prods) (cellsOf' P.encP p.prods), AV.ys b (2 : Nat) (List.length p.cons) (cellsOf' encC p.cons)] ((0 : Nat) + j)) (Ax.get [AV.y (Value.string p.rng.lo), AV.y (Value.string p.rng.hi), AV.y (Value.int IntKind.u64 p.epoch), AV.y (Value.int IntKind.u64 p.frozen), AV.ys b (5 : Nat) (List.length p.recs) (cellsOf' encR p.recs), AV.ys b (4 : Nat) (List.length p.prods) (cellsOf' P.encP p.prods), AV.ys b (2 : Nat) (List.length p.cons) (cellsOf' encC p.cons)])) ∧ True) ∧ True) ∧ True ∧ (List.length p.prods ≤ (9223372036854775806 : Nat) ∧ ∀ (k : Nat), k < List.length p.prods → List.length p.recs ≤ (9223372036854775806 : Nat) ∧ (0 : Int) ≤ (List.getD p.prods k (@default P.Producer P.instInhabitedProducer)).offset) ∧ true = true ∧ True ∧ (loAny b p p.prods = true → (partOk p = true → (165 : Int) = (0 : Int) ∧ True) ∧ (partOk p = false → (165 : Int) = (165 : Int) ∧ True)) ∧ (loAny b p p.prods = false → ((b = b ∧ List.length p.cons = List.length p.cons ∧ contLe (List.length p.cons) (2 : Nat) (cellsOf' encC p.cons) (cellsOf' encC p.cons)) ∧ (True ∧ (false = false ∧ (1 : Nat) ≤ (1 : Nat) ∧ cellLe (1 : Nat) (fun (j : Nat) => Ax.get [AV.y (Value.int IntKind.u64 (IntKind.wrap IntKind.u64 (↑(List.length p.recs) : Int)))] ((0 : Nat) + j)) (Ax.get [AV.y (Value.int IntKind.u64 (IntKind.wrap IntKind.u64 (↑(List.length p.recs) : Int)))])) ∧ True) ∧ True) ∧ True ∧ (List.length p.cons ≤ (9223372036854775806 : Nat) ∧ ∀ (k : Nat), k < List.length p.cons → List.length p.recs ≤ (9223372036854775806 : Nat)) ∧ true = true ∧ True ∧ (ahAny (List.length p.recs) p.cons = true → (partOk p = true → (165 : Int) = (0 : Int) ∧ True) ∧ (partOk p = false → (165 : Int) = (165 : Int) ∧ True)) ∧ (ahAny (List.length p.recs) p.cons = false → (partOk p = true → (0 : Int) = (0 : Int) ∧ True) ∧ (partOk p = false → (0 : Int) = (165 : Int) ∧ True)))))))))
set_option maxRecDepth 1000000 in
theorem vcPc_eq (b : Bool) (p : Part) : (ctrVC Tryz.prog (pcH b p) 15 [.agg (encPt b p)] [] (errR (partOk p) 165)) = vcPc b p := by kernel_rfl
structure PartIn (p : Part) : Prop where
  rl : p.recs.length ≤ 4611686018427387903
  pl : p.prods.length ≤ 4611686018427387903
  cl : p.cons.length ≤ 4611686018427387903
  po : ∀ k, k < p.prods.length → 0 ≤ (p.prods.getD k default).offset
theorem pc_c (b : Bool) (p : Part) (h : PartIn p) : (errR (partOk p) 165).Sat (ACall' Tryz.prog 15 [.agg (encPt b p)] []) := by
  refine ctr_vc (ht := pcH b p) Tryz.mixed rfl ?_
  rw [vcPc_eq b p]
  unfold vcPc
  obtain ⟨h1, h2, h3, h4⟩ := h
  have e1 : loAny b p p.prods = p.prods.any (lostB p) := rfl
  have e2 : ahAny p.recs.length p.cons = p.cons.any (aheadB p.recs.length) := rfl
  have hw : IntKind.u64.wrap (p.recs.length : Int) = p.recs.length := wrap_u64 (by omega) (by omega)
  simp only [e1, e2, hw]
  unfold partOk
  have g1 : p.recs.length ≤ 9223372036854775806 := by omega
  have g2 : p.prods.length ≤ 9223372036854775806 := by omega
  have g3 : p.cons.length ≤ 9223372036854775806 := by omega
  generalize orFrom p 0 = a1
  generalize p.prods.any (lostB p) = a2
  generalize p.cons.any (aheadB p.recs.length) = a3
  generalize isLog p.recs = a4
  generalize P.isTable p.prods = a5
  generalize isCons p.cons = a6
  by_cases c1 : chkK p.rng = 0 <;> by_cases c2 : p.epoch = 0 <;> cases a1 <;> cases a2 <;> cases a3 <;> cases a4 <;> cases a5 <;> cases a6 <;> simp [c1, c2, g1, g2, g3] <;> exact h4
noncomputable def pcC (b : Bool) (p : Part) : Ctr Tryz.prog := ⟨15, [.agg (encPt b p)], [], .need (PartIn p) (errR (partOk p) 165), T.Sat.need fun h => pc_c b p h⟩
end Go.Proofs.YtckklclehofddaaGreatDoor

/-! Lineage: ranges parted; states parted: the conditions. -/
namespace Go.Proofs.YtckklclehofddaaGreatDoor.D
open Go.Ax
set_option maxRecDepth 1000000
def beqB (a b : ByteArray) : Bool := a.data.toList == b.data.toList
def splE (r : Rng) (k : ByteArray) : Int := if !(chkK r == 0) then chkK r else if 32 < k.size then 131 else if (beqB k r.lo || !hasK r k) = true then 132 else 0
def rLow (r : Rng) (k : ByteArray) : Rng := ⟨r.lo, k⟩
def rHigh (r : Rng) (k : ByteArray) : Rng := ⟨k, r.hi⟩
def splT (r : Rng) (k : ByteArray) : T An := .ite (splE r k == 0)
  (.ret (.tup [.agg (encG (rLow r k)), .agg (encG (rHigh r k)), .s (.int .i64 0)], [], []))
  (.ret (.tup [.agg (encG default), .agg (encG default), .y (.int .i64 (splE r k))], [], []))
noncomputable def ksH (r : Rng) (k : ByteArray) : HintsT Tryz.prog := hh _ noLp (cs1 20 1 1 (chkC r) (cs1 20 6 7 (hasC r k) noCs)) noOp
def vcKs (r : Rng) (k : ByteArray) : Prop :=
  ((r.lo = r.lo ∧ r.hi = r.hi ∧ True) ∧ True) ∧ True ∧ ((chkK r != (0 : Int)) = true → ((splE r k == (0 : Int)) = true → (({ data := #[] : ByteArray } = r.lo ∧ { data := #[] : ByteArray } = k ∧ True) ∧ ({ data := #[] : ByteArray } = k ∧ { data := #[] : ByteArray } = r.hi ∧ True) ∧ chkK r = (0 : Int) ∧ True) ∧ True) ∧ ((splE r k == (0 : Int)) = false → (({ data := #[] : ByteArray } = ByteArray.empty ∧ { data := #[] : ByteArray } = ByteArray.empty ∧ True) ∧ ({ data := #[] : ByteArray } = ByteArray.empty ∧ { data := #[] : ByteArray } = ByteArray.empty ∧ True) ∧ chkK r = splE r k ∧ True) ∧ True)) ∧ ((chkK r != (0 : Int)) = false → (decide ((32 : Int) < (↑(ByteArray.size k) : Int)) = true → ((splE r k == (0 : Int)) = true → (({ data := #[] : ByteArray } = r.lo ∧ { data := #[] : ByteArray } = k ∧ True) ∧ ({ data := #[] : ByteArray } = k ∧ { data := #[] : ByteArray } = r.hi ∧ True) ∧ (131 : Int) = (0 : Int) ∧ True) ∧ True) ∧ ((splE r k == (0 : Int)) = false → (({ data := #[] : ByteArray } = ByteArray.empty ∧ { data := #[] : ByteArray } = ByteArray.empty ∧ True) ∧ ({ data := #[] : ByteArray } = ByteArray.empty ∧ { data := #[] : ByteArray } = ByteArray.empty ∧ True) ∧ (131 : Int) = splE r k ∧ True) ∧ True)) ∧ (decide ((32 : Int) < (↑(ByteArray.size k) : Int)) = false → ((k.data.toList == r.lo.data.toList) = true → ((splE r k == (0 : Int)) = true → (({ data := #[] : ByteArray } = r.lo ∧ { data := #[] : ByteArray } = k ∧ True) ∧ ({ data := #[] : ByteArray } = k ∧ { data := #[] : ByteArray } = r.hi ∧ True) ∧ (132 : Int) = (0 : Int) ∧ True) ∧ True) ∧ ((splE r k == (0 : Int)) = false → (({ data := #[] : ByteArray } = ByteArray.empty ∧ { data := #[] : ByteArray } = ByteArray.empty ∧ True) ∧ ({ data := #[] : ByteArray } = ByteArray.empty ∧ { data := #[] : ByteArray } = ByteArray.empty ∧ True) ∧ (132 : Int) = splE r k ∧ True) ∧ True)) ∧ ((k.data.toList == r.lo.data.toList) = false → ((r.lo = r.lo ∧ r.hi = r.hi ∧ True) ∧ k = k ∧ True) ∧ True ∧ ((!hasK r k) = true → ((splE r k == (0 : Int)) = true → (({ data := #[] : ByteArray } = r.lo ∧ { data := #[] : ByteArray } = k ∧ True) ∧ ({ data := #[] : ByteArray } = k ∧ { data := #[] : ByteArray } = r.hi ∧ True) ∧ (132 : Int) = (0 : Int) ∧ True) ∧ True) ∧ ((splE r k == (0 : Int)) = false → (({ data := #[] : ByteArray } = ByteArray.empty ∧ { data := #[] : ByteArray } = ByteArray.empty ∧ True) ∧ ({ data := #[] : ByteArray } = ByteArray.empty ∧ { data := #[] : ByteArray } = ByteArray.empty ∧ True) ∧ (132 : Int) = splE r k ∧ True) ∧ True)) ∧ ((!hasK r k) = false → ((splE r k == (0 : Int)) = true → ((r.lo = r.lo ∧ k = k ∧ True) ∧ (k = k ∧ r.hi = r.hi ∧ True) ∧ (0 : Int) = (0 : Int) ∧ True) ∧ True) ∧ ((splE r k == (0 : Int)) = false → ((r.lo = ByteArray.empty ∧ k = ByteArray.empty ∧ True) ∧ (k = ByteArray.empty ∧ r.hi = ByteArray.empty ∧ True) ∧ (0 : Int) = splE r k ∧ True) ∧ True)))))
set_option maxRecDepth 1000000 in
theorem vcKs_eq (r : Rng) (k : ByteArray) : (ctrVC Tryz.prog (ksH r k) 20 [.agg (encG r), .y (.string k)] [] (splT r k)) = vcKs r k := by kernel_rfl
def toOf (r : Rng) (l : List Rec) : List Int := (ke r l).end.to
def outOf (r : Rng) (l : List Rec) : List Rec := (ke r l).end.out
def keepT (r : Rng) (l : List Rec) : T An := keR (ke r l).end
theorem keep1_c (b : Bool) (r : Rng) (l : List Rec) (h1 : isLog l = true) (h2 : chkK r = 0) : (keepT r l).Sat (ACall' Tryz.prog 22 [encRs b l, .agg (encG r)] []) := by
  have hl := log_len h1
  have := keep_c b r l (by omega)
  unfold keT at this
  rw [h1, h2] at this
  intro Q hq
  exact this Q ⟨fun _ => hq, fun e => by simp at e⟩
noncomputable def keepC1 (b : Bool) (r : Rng) (l : List Rec) : Ctr Tryz.prog := ⟨22, [encRs b l, .agg (encG r)], [], .need (isLog l = true ∧ chkK r = 0) (keepT r l), T.Sat.need fun h => keep1_c b r l h.1 h.2⟩
def partOf (p : Part) (r : Rng) : Part := ⟨r, IntKind.u64.wrap (p.epoch + 1), 0, outOf r p.recs, P.moveL p.prods (toOf r p.recs), mapU p.cons (toOf r p.recs) p.cons.length⟩
noncomputable def dofH (p : Part) (r : Rng) : HintsT Tryz.prog := withSh (hh _ noLp (cs1 21 1 3 (keepC1 true r p.recs) (cs1 21 2 8 (P.moveN true false p.prods (toOf r p.recs)) (cs1 21 2 12 (mpC true false p.cons (toOf r p.recs)) noCs))) noOp) (sh1 21 2 13 779 noSh)
def partR (p : Part) : T An := .ret (.agg (encPt true p), [], [])
def vcDof (p : Part) (r : Rng) : Prop :=
  ((true = true ∧ List.length p.recs = List.length p.recs ∧ contLe (List.length p.recs) (5 : Nat) (cellsOf' encR p.recs) (cellsOf' encR p.recs)) ∧ (r.lo = r.lo ∧ r.hi = r.hi ∧ True) ∧ True) ∧ True ∧ (isLog p.recs = true ∧ chkK r = (0 : Int)) ∧ ((true = true ∧ List.length p.prods = List.length p.prods ∧ contLe (List.length p.prods) (4 : Nat) (cellsOf' P.encP p.prods) (cellsOf' P.encP p.prods)) ∧ (false = false ∧ List.length ((ke r p.recs).to ++ [IntKind.wrap IntKind.u64 (↑(List.length (ke r p.recs).out) : Int)]) = List.length (toOf r p.recs) ∧ contLe (List.length ((ke r p.recs).to ++ [IntKind.wrap IntKind.u64 (↑(List.length (ke r p.recs).out) : Int)])) (1 : Nat) (Ax.rowAt (0 : Nat) (cellsOf' encU ((ke r p.recs).to ++ [IntKind.wrap IntKind.u64 (↑(List.length (ke r p.recs).out) : Int)]))) (cellsOf' P.encI (toOf r p.recs))) ∧ True) ∧ True ∧ (List.length p.prods * (32 : Nat) ≤ (140737488355200 : Nat) ∧ List.length (toOf r p.recs) ≤ (9223372036854775806 : Nat) ∧ ∀ (x : P.Producer), x ∈ p.prods → (0 : Int) ≤ x.offset ∧ x.offset < (18446744073709551616 : Int)) ∧ true = true ∧ ((∀ (k : Nat), k < List.length (P.moveL p.prods (toOf r p.recs)) → ∀ (j : Nat), j < (4 : Nat) → tagT (cellsOf' P.encP (P.moveL p.prods (toOf r p.recs)) k j) = true) ∧ True) ∧ ((true = true ∧ List.length p.cons = List.length p.cons ∧ contLe (List.length p.cons) (2 : Nat) (cellsOf' encC p.cons) (cellsOf' encC p.cons)) ∧ (false = false ∧ List.length ((ke r p.recs).to ++ [IntKind.wrap IntKind.u64 (↑(List.length (ke r p.recs).out) : Int)]) = List.length (toOf r p.recs) ∧ contLe (List.length ((ke r p.recs).to ++ [IntKind.wrap IntKind.u64 (↑(List.length (ke r p.recs).out) : Int)])) (1 : Nat) (Ax.rowAt (0 : Nat) (cellsOf' encU ((ke r p.recs).to ++ [IntKind.wrap IntKind.u64 (↑(List.length (ke r p.recs).out) : Int)]))) (cellsOf' encU (toOf r p.recs))) ∧ True) ∧ True ∧ (List.length (toOf r p.recs) ≤ (9223372036854775806 : Nat) ∧ List.length p.cons * (24 : Nat) ≤ (140737488355200 : Nat) ∧ ∀ (x : Con), x ∈ p.cons → (0 : Int) ≤ x.off ∧ x.off < (18446744073709551616 : Int)) ∧ true = true ∧ ((∀ (k : Nat), k < List.length (mapU p.cons (toOf r p.recs) (List.length p.cons)) → ∀ (j : Nat), j < (2 : Nat) → tagT (cellsOf' encC (mapU p.cons (toOf r p.recs) (List.length p.cons)) k j) = true) ∧ True) ∧ (∀ (k : Nat), k < List.length (ke r p.recs).out → ∀ (j : Nat), j < (5 : Nat) → tagT (cellsOf' encR (ke r p.recs).out k j) = true) ∧ (∀ (k : Nat), k < List.length (P.moveL p.prods (toOf r p.recs)) → ∀ (j : Nat), j < (4 : Nat) → tagT (cellsOf' P.encP (P.moveL p.prods (toOf r p.recs)) k j) = true) ∧ (∀ (k : Nat), k < List.length (mapU p.cons (toOf r p.recs) (List.length p.cons)) → ∀ (j : Nat), j < (2 : Nat) → tagT (cellsOf' encC (mapU p.cons (toOf r p.recs) (List.length p.cons)) k j) = true) ∧ (r.lo = r.lo ∧ r.hi = r.hi ∧ IntKind.wrap IntKind.u64 (p.epoch + (1 : Int)) = IntKind.wrap IntKind.u64 (p.epoch + (1 : Int)) ∧ (0 : Int) = (0 : Int) ∧ (true = true ∧ List.length (ke r p.recs).out = List.length (outOf r p.recs) ∧ contLe (List.length (ke r p.recs).out) (5 : Nat) (Ax.rowAt (0 : Nat) (cellsOf' encR (ke r p.recs).out)) (cellsOf' encR (outOf r p.recs))) ∧ (true = true ∧ List.length (P.moveL p.prods (toOf r p.recs)) = List.length (P.moveL p.prods (toOf r p.recs)) ∧ contLe (List.length (P.moveL p.prods (toOf r p.recs))) (4 : Nat) (Ax.rowAt (0 : Nat) (cellsOf' P.encP (P.moveL p.prods (toOf r p.recs)))) (cellsOf' P.encP (P.moveL p.prods (toOf r p.recs)))) ∧ (true = true ∧ List.length (mapU p.cons (toOf r p.recs) (List.length p.cons)) = List.length (mapU p.cons (toOf r p.recs) (List.length p.cons)) ∧ contLe (List.length (mapU p.cons (toOf r p.recs) (List.length p.cons))) (2 : Nat) (Ax.rowAt (0 : Nat) (cellsOf' encC (mapU p.cons (toOf r p.recs) (List.length p.cons)))) (cellsOf' encC (mapU p.cons (toOf r p.recs) (List.length p.cons)))) ∧ True) ∧ True
set_option maxRecDepth 1000000 in
theorem vcDof_eq (p : Part) (r : Rng) : (ctrVC Tryz.prog (dofH p r) 21 [.agg (encG r), .ip false 7 (get (encPt true p))] [] (partR (partOf p r))) = vcDof p r := by kernel_rfl
theorem ks_c (r : Rng) (k : ByteArray) (hk : k.size ≤ 9223372036854775807) : (splT r k).Sat (ACall' Tryz.prog 20 [.agg (encG r), .y (.string k)] []) := by
  refine ctr_vc (ht := ksH r k) Tryz.mixed rfl ?_
  rw [vcKs_eq r k]
  unfold vcKs
  unfold splE beqB
  by_cases h1 : chkK r = 0
  · by_cases h2 : 32 < k.size
    · have h3 : (32 : Int) < k.size := by omega
      simp [h1, h2, h3]
      rfl
    · have h3 : ¬ (32 : Int) < k.size := by omega
      generalize (k.data.toList == r.lo.data.toList) = q
      cases q <;> cases hasK r k <;> simp [h1, h2, h3] <;> first | done | rfl
  · simp [h1]
    rfl
noncomputable def ksC (r : Rng) (k : ByteArray) : Ctr Tryz.prog := ⟨20, [.agg (encG r), .y (.string k)], [], .need (k.size ≤ 9223372036854775807) (splT r k), T.Sat.need fun h => ks_c r k h⟩
structure PartTy (p : Part) : Prop where
  rl : p.recs.length ≤ 4611686018427387903
  pl : p.prods.length ≤ 4611686018427387903
  cl : p.cons.length ≤ 4611686018427387903
  po : ∀ x ∈ p.prods, 0 ≤ x.offset ∧ x.offset < 18446744073709551616
  co : wfC p.cons
theorem PartTy.isIn {p : Part} (h : PartTy p) : PartIn p := ⟨h.rl, h.pl, h.cl, fun k hk => (h.po _ (by simp [hk])).1⟩
theorem tagP (x : P.Producer) (j : Nat) (hj : j < 4) : tagT (Ax.get (P.encP x) j) = true := by
  match j, hj with
  | 0, _ => rfl
  | 1, _ => rfl
  | 2, _ => rfl
  | 3, _ => rfl
theorem tagC (x : Con) (j : Nat) (hj : j < 2) : tagT (Ax.get (encC x) j) = true := by
  match j, hj with
  | 0, _ => rfl
  | 1, _ => rfl
theorem dof_c (p : Part) (r : Rng) (h : PartTy p) (h1 : isLog p.recs = true) (h2 : P.isTable p.prods = true) (h3 : isCons p.cons = true) (h4 : chkK r = 0) : (partR (partOf p r)).Sat (ACall' Tryz.prog 21 [.agg (encG r), .ip false 7 (get (encPt true p))] []) := by
  refine ctr_vc (ht := dofH p r) Tryz.mixed rfl ?_
  rw [vcDof_eq p r]
  unfold vcDof
  have q1 := log_len h1
  have q2 : p.prods.length ≤ 256 := by simp [P.isTable] at h2; exact h2.2
  have q3 : p.cons.length ≤ 64 := by simp [isCons] at h3; exact h3.2
  obtain ⟨q4, q5⟩ := ke_len' r p.recs
  have e1 : (ke r p.recs).to ++ [IntKind.u64.wrap ((ke r p.recs).out.length : Nat)] = toOf r p.recs := rfl
  have e2 : (ke r p.recs).out = outOf r p.recs := rfl
  have e3 : (toOf r p.recs).length = p.recs.length + 1 := by rw [← e1]; simp [q4]
  have e4 : cellsOf' P.encI (toOf r p.recs) = cellsOf' encU (toOf r p.recs) := rfl
  have e5 : (P.moveL p.prods (toOf r p.recs)).length = p.prods.length := by simp [P.moveL]
  rw [e1]
  simp only [h1, h4, e2, e4, rowAt_zero]
  have t1 : ∀ (k : Nat), k < (outOf r p.recs).length → ∀ (j : Nat), j < 5 → tagT (cellsOf' encR (outOf r p.recs) k j) = true := fun k _ j hj => tagR _ j hj
  have t2 : ∀ (k : Nat), k < (P.moveL p.prods (toOf r p.recs)).length → ∀ (j : Nat), j < 4 → tagT (cellsOf' P.encP (P.moveL p.prods (toOf r p.recs)) k j) = true := fun k _ j hj => tagP _ j hj
  have t3 : ∀ (k : Nat), k < (mapU p.cons (toOf r p.recs) p.cons.length).length → ∀ (j : Nat), j < 2 → tagT (cellsOf' encC (mapU p.cons (toOf r p.recs) p.cons.length) k j) = true := fun k _ j hj => tagC _ j hj
  have g1 : p.prods.length * 32 ≤ 140737488355200 := by omega
  have g2 : (toOf r p.recs).length ≤ 9223372036854775806 := by omega
  have g3 : p.cons.length * 24 ≤ 140737488355200 := by omega
  have g4 := h.po
  have g5 : ∀ (x : Con), x ∈ p.cons → (0 : Int) ≤ x.off ∧ x.off < 18446744073709551616 := h.co
  simp only [contLe_refl, partOf, and_true, true_and]
  repeat' with_reducible apply And.intro
  all_goals first | rfl | trivial | assumption | skip
end Go.Proofs.YtckklclehofddaaGreatDoor.D

/-! Lineage: the contract of Split. -/
namespace Go.Proofs.YtckklclehofddaaGreatDoor.D
open Go.Ax
set_option maxRecDepth 1000000
def bad (p : Part) : Bool := !partOk p || IntKind.u64.wrap (p.epoch + 1) == 0
def splitE (p : Part) (k : ByteArray) : Int := if bad p = true then 172 else if p.frozen = 0 then 171 else splE p.rng k
def splitT (p : Part) (k : ByteArray) : T An := .ite (splitE p k == 0)
  (.ret (.tup [.agg (encPt true (partOf p (rLow p.rng k))), .agg (encPt true (partOf p (rHigh p.rng k))), .s (.int .i64 0)], [], []))
  (.ret (.tup [.agg (encPt true default), .agg (encPt true default), .y (.int .i64 (splitE p k))], [], []))
noncomputable def dofC (p : Part) (r : Rng) : Ctr Tryz.prog := ⟨21, [.agg (encG r), .ip false 7 (get (encPt true p))], [], .need (PartTy p ∧ isLog p.recs = true ∧ P.isTable p.prods = true ∧ isCons p.cons = true ∧ chkK r = 0) (partR (partOf p r)), T.Sat.need fun h => dof_c p r h.1 h.2.1 h.2.2.1 h.2.2.2.1 h.2.2.2.2⟩
noncomputable def splH (p : Part) (k : ByteArray) : HintsT Tryz.prog := hh _ noLp (cs1 18 5 1 (pcC true p) (cs1 9 4 3 (ksC p.rng k) (cs1 9 8 2 (dofC p (rLow p.rng k)) (cs1 9 8 5 (dofC p (rHigh p.rng k)) noCs)))) noOp
def vcSplit (p : Part) (k : ByteArray) : Prop :=
  ((p.rng.lo = p.rng.lo ∧ p.rng.hi = p.rng.hi ∧ p.epoch = p.epoch ∧ p.frozen = p.frozen ∧ (true = true ∧ List.length p.recs = List.length p.recs ∧ contLe (List.length p.recs) (5 : Nat) (cellsOf' encR p.recs) (cellsOf' encR p.recs)) ∧ (true = true ∧ List.length p.prods = List.length p.prods ∧ contLe (List.length p.prods) (4 : Nat) (cellsOf' P.encP p.prods) (cellsOf' P.encP p.prods)) ∧ (true = true ∧ List.length p.cons = List.length p.cons ∧ contLe (List.length p.cons) (2 : Nat) (cellsOf' encC p.cons) (cellsOf' encC p.cons)) ∧ True) ∧ True) ∧ True ∧ PartIn p ∧ (partOk p = true → ((IntKind.wrap IntKind.u64 (p.epoch + (1 : Int)) == (0 : Int)) = true → true = true ∧ True ∧ ((splitE p k == (0 : Int)) = true → (({ data := #[] : ByteArray } = p.rng.lo ∧ { data := #[] : ByteArray } = k ∧ (0 : Int) = IntKind.wrap IntKind.u64 (p.epoch + (1 : Int)) ∧ (0 : Int) = (0 : Int) ∧ List.length (outOf (rLow p.rng k) p.recs) = (0 : Nat) ∧ List.length (P.moveL p.prods (toOf (rLow p.rng k) p.recs)) = (0 : Nat) ∧ List.length (mapU p.cons (toOf (rLow p.rng k) p.recs) (List.length p.cons)) = (0 : Nat) ∧ True) ∧ ({ data := #[] : ByteArray } = k ∧ { data := #[] : ByteArray } = p.rng.hi ∧ (0 : Int) = IntKind.wrap IntKind.u64 (p.epoch + (1 : Int)) ∧ (0 : Int) = (0 : Int) ∧ List.length (outOf (rHigh p.rng k) p.recs) = (0 : Nat) ∧ List.length (P.moveL p.prods (toOf (rHigh p.rng k) p.recs)) = (0 : Nat) ∧ List.length (mapU p.cons (toOf (rHigh p.rng k) p.recs) (List.length p.cons)) = (0 : Nat) ∧ True) ∧ (172 : Int) = (0 : Int) ∧ True) ∧ True) ∧ ((splitE p k == (0 : Int)) = false → (({ data := #[] : ByteArray } = ByteArray.empty ∧ { data := #[] : ByteArray } = ByteArray.empty ∧ (0 : Int) = (0 : Int) ∧ (0 : Int) = (0 : Int) ∧ (0 : Nat) = (0 : Nat) ∧ (0 : Nat) = (0 : Nat) ∧ (0 : Nat) = (0 : Nat) ∧ True) ∧ ({ data := #[] : ByteArray } = ByteArray.empty ∧ { data := #[] : ByteArray } = ByteArray.empty ∧ (0 : Int) = (0 : Int) ∧ (0 : Int) = (0 : Int) ∧ (0 : Nat) = (0 : Nat) ∧ (0 : Nat) = (0 : Nat) ∧ (0 : Nat) = (0 : Nat) ∧ True) ∧ (172 : Int) = splitE p k ∧ True) ∧ True)) ∧ ((IntKind.wrap IntKind.u64 (p.epoch + (1 : Int)) == (0 : Int)) = false → ((p.frozen == (0 : Int)) = true → true = true ∧ True ∧ ((splitE p k == (0 : Int)) = true → (({ data := #[] : ByteArray } = p.rng.lo ∧ { data := #[] : ByteArray } = k ∧ (0 : Int) = IntKind.wrap IntKind.u64 (p.epoch + (1 : Int)) ∧ (0 : Int) = (0 : Int) ∧ List.length (outOf (rLow p.rng k) p.recs) = (0 : Nat) ∧ List.length (P.moveL p.prods (toOf (rLow p.rng k) p.recs)) = (0 : Nat) ∧ List.length (mapU p.cons (toOf (rLow p.rng k) p.recs) (List.length p.cons)) = (0 : Nat) ∧ True) ∧ ({ data := #[] : ByteArray } = k ∧ { data := #[] : ByteArray } = p.rng.hi ∧ (0 : Int) = IntKind.wrap IntKind.u64 (p.epoch + (1 : Int)) ∧ (0 : Int) = (0 : Int) ∧ List.length (outOf (rHigh p.rng k) p.recs) = (0 : Nat) ∧ List.length (P.moveL p.prods (toOf (rHigh p.rng k) p.recs)) = (0 : Nat) ∧ List.length (mapU p.cons (toOf (rHigh p.rng k) p.recs) (List.length p.cons)) = (0 : Nat) ∧ True) ∧ (171 : Int) = (0 : Int) ∧ True) ∧ True) ∧ ((splitE p k == (0 : Int)) = false → (({ data := #[] : ByteArray } = ByteArray.empty ∧ { data := #[] : ByteArray } = ByteArray.empty ∧ (0 : Int) = (0 : Int) ∧ (0 : Int) = (0 : Int) ∧ (0 : Nat) = (0 : Nat) ∧ (0 : Nat) = (0 : Nat) ∧ (0 : Nat) = (0 : Nat) ∧ True) ∧ ({ data := #[] : ByteArray } = ByteArray.empty ∧ { data := #[] : ByteArray } = ByteArray.empty ∧ (0 : Int) = (0 : Int) ∧ (0 : Int) = (0 : Int) ∧ (0 : Nat) = (0 : Nat) ∧ (0 : Nat) = (0 : Nat) ∧ (0 : Nat) = (0 : Nat) ∧ True) ∧ (171 : Int) = splitE p k ∧ True) ∧ True)) ∧ ((p.frozen == (0 : Int)) = false → true = true ∧ True ∧ ((p.rng.lo = p.rng.lo ∧ p.rng.hi = p.rng.hi ∧ True) ∧ k = k ∧ True) ∧ True ∧ ByteArray.size k ≤ (9223372036854775807 : Nat) ∧ ((splE p.rng k == (0 : Int)) = true → ((p.rng.lo = p.rng.lo ∧ k = k ∧ True) ∧ (false = false ∧ (7 : Nat) ≤ (7 : Nat) ∧ cellLe (7 : Nat) (fun (j : Nat) => Ax.get [AV.y (Value.string p.rng.lo), AV.y (Value.string p.rng.hi), AV.y (Value.int IntKind.u64 p.epoch), AV.y (Value.int IntKind.u64 p.frozen), AV.ys true (5 : Nat) (List.length p.recs) (cellsOf' encR p.recs), AV.ys true (4 : Nat) (List.length p.prods) (cellsOf' P.encP p.prods), AV.ys true (2 : Nat) (List.length p.cons) (cellsOf' encC p.cons)] ((0 : Nat) + j)) (Ax.get [AV.y (Value.string p.rng.lo), AV.y (Value.string p.rng.hi), AV.y (Value.int IntKind.u64 p.epoch), AV.y (Value.int IntKind.u64 p.frozen), AV.ys true (5 : Nat) (List.length p.recs) (cellsOf' encR p.recs), AV.ys true (4 : Nat) (List.length p.prods) (cellsOf' P.encP p.prods), AV.ys true (2 : Nat) (List.length p.cons) (cellsOf' encC p.cons)])) ∧ True) ∧ True ∧ (PartTy p ∧ isLog p.recs = true ∧ P.isTable p.prods = true ∧ isCons p.cons = true ∧ chkK (rLow p.rng k) = (0 : Int)) ∧ true = true ∧ True ∧ ((k = k ∧ p.rng.hi = p.rng.hi ∧ True) ∧ (false = false ∧ (7 : Nat) ≤ (7 : Nat) ∧ cellLe (7 : Nat) (fun (j : Nat) => Ax.get [AV.y (Value.string p.rng.lo), AV.y (Value.string p.rng.hi), AV.y (Value.int IntKind.u64 p.epoch), AV.y (Value.int IntKind.u64 p.frozen), AV.ys true (5 : Nat) (List.length p.recs) (cellsOf' encR p.recs), AV.ys true (4 : Nat) (List.length p.prods) (cellsOf' P.encP p.prods), AV.ys true (2 : Nat) (List.length p.cons) (cellsOf' encC p.cons)] ((0 : Nat) + j)) (Ax.get [AV.y (Value.string p.rng.lo), AV.y (Value.string p.rng.hi), AV.y (Value.int IntKind.u64 p.epoch), AV.y (Value.int IntKind.u64 p.frozen), AV.ys true (5 : Nat) (List.length p.recs) (cellsOf' encR p.recs), AV.ys true (4 : Nat) (List.length p.prods) (cellsOf' P.encP p.prods), AV.ys true (2 : Nat) (List.length p.cons) (cellsOf' encC p.cons)])) ∧ True) ∧ True ∧ (PartTy p ∧ isLog p.recs = true ∧ P.isTable p.prods = true ∧ isCons p.cons = true ∧ chkK (rHigh p.rng k) = (0 : Int)) ∧ true = true ∧ True ∧ ((splitE p k == (0 : Int)) = true → ((p.rng.lo = p.rng.lo ∧ k = k ∧ IntKind.wrap IntKind.u64 (p.epoch + (1 : Int)) = IntKind.wrap IntKind.u64 (p.epoch + (1 : Int)) ∧ (0 : Int) = (0 : Int) ∧ (true = true ∧ List.length (outOf (rLow p.rng k) p.recs) = List.length (outOf (rLow p.rng k) p.recs) ∧ contLe (List.length (outOf (rLow p.rng k) p.recs)) (5 : Nat) (cellsOf' encR (outOf (rLow p.rng k) p.recs)) (cellsOf' encR (outOf (rLow p.rng k) p.recs))) ∧ (true = true ∧ List.length (P.moveL p.prods (toOf (rLow p.rng k) p.recs)) = List.length (P.moveL p.prods (toOf (rLow p.rng k) p.recs)) ∧ contLe (List.length (P.moveL p.prods (toOf (rLow p.rng k) p.recs))) (4 : Nat) (cellsOf' P.encP (P.moveL p.prods (toOf (rLow p.rng k) p.recs))) (cellsOf' P.encP (P.moveL p.prods (toOf (rLow p.rng k) p.recs)))) ∧ (true = true ∧ List.length (mapU p.cons (toOf (rLow p.rng k) p.recs) (List.length p.cons)) = List.length (mapU p.cons (toOf (rLow p.rng k) p.recs) (List.length p.cons)) ∧ contLe (List.length (mapU p.cons (toOf (rLow p.rng k) p.recs) (List.length p.cons))) (2 : Nat) (cellsOf' encC (mapU p.cons (toOf (rLow p.rng k) p.recs) (List.length p.cons))) (cellsOf' encC (mapU p.cons (toOf (rLow p.rng k) p.recs) (List.length p.cons)))) ∧ True) ∧ (k = k ∧ p.rng.hi = p.rng.hi ∧ IntKind.wrap IntKind.u64 (p.epoch + (1 : Int)) = IntKind.wrap IntKind.u64 (p.epoch + (1 : Int)) ∧ (0 : Int) = (0 : Int) ∧ (true = true ∧ List.length (outOf (rHigh p.rng k) p.recs) = List.length (outOf (rHigh p.rng k) p.recs) ∧ contLe (List.length (outOf (rHigh p.rng k) p.recs)) (5 : Nat) (cellsOf' encR (outOf (rHigh p.rng k) p.recs)) (cellsOf' encR (outOf (rHigh p.rng k) p.recs))) ∧ (true = true ∧ List.length (P.moveL p.prods (toOf (rHigh p.rng k) p.recs)) = List.length (P.moveL p.prods (toOf (rHigh p.rng k) p.recs)) ∧ contLe (List.length (P.moveL p.prods (toOf (rHigh p.rng k) p.recs))) (4 : Nat) (cellsOf' P.encP (P.moveL p.prods (toOf (rHigh p.rng k) p.recs))) (cellsOf' P.encP (P.moveL p.prods (toOf (rHigh p.rng k) p.recs)))) ∧ (true = true ∧ List.length (mapU p.cons (toOf (rHigh p.rng k) p.recs) (List.length p.cons)) = List.length (mapU p.cons (toOf (rHigh p.rng k) p.recs) (List.length p.cons)) ∧ contLe (List.length (mapU p.cons (toOf (rHigh p.rng k) p.recs) (List.length p.cons))) (2 : Nat) (cellsOf' encC (mapU p.cons (toOf (rHigh p.rng k) p.recs) (List.length p.cons))) (cellsOf' encC (mapU p.cons (toOf (rHigh p.rng k) p.recs) (List.length p.cons)))) ∧ True) ∧ (0 : Int) = (0 : Int) ∧ True) ∧ True) ∧ ((splitE p k == (0 : Int)) = false → ((p.rng.lo = ByteArray.empty ∧ k = ByteArray.empty ∧ IntKind.wrap IntKind.u64 (p.epoch + (1 : Int)) = (0 : Int) ∧ (0 : Int) = (0 : Int) ∧ (true = true ∧ List.length (outOf (rLow p.rng k) p.recs) = (0 : Nat) ∧ contLe (List.length (outOf (rLow p.rng k) p.recs)) (5 : Nat) (cellsOf' encR (outOf (rLow p.rng k) p.recs)) (cellsOf' encR [])) ∧ (true = true ∧ List.length (P.moveL p.prods (toOf (rLow p.rng k) p.recs)) = (0 : Nat) ∧ contLe (List.length (P.moveL p.prods (toOf (rLow p.rng k) p.recs))) (4 : Nat) (cellsOf' P.encP (P.moveL p.prods (toOf (rLow p.rng k) p.recs))) (cellsOf' P.encP [])) ∧ (true = true ∧ List.length (mapU p.cons (toOf (rLow p.rng k) p.recs) (List.length p.cons)) = (0 : Nat) ∧ contLe (List.length (mapU p.cons (toOf (rLow p.rng k) p.recs) (List.length p.cons))) (2 : Nat) (cellsOf' encC (mapU p.cons (toOf (rLow p.rng k) p.recs) (List.length p.cons))) (cellsOf' encC [])) ∧ True) ∧ (k = ByteArray.empty ∧ p.rng.hi = ByteArray.empty ∧ IntKind.wrap IntKind.u64 (p.epoch + (1 : Int)) = (0 : Int) ∧ (0 : Int) = (0 : Int) ∧ (true = true ∧ List.length (outOf (rHigh p.rng k) p.recs) = (0 : Nat) ∧ contLe (List.length (outOf (rHigh p.rng k) p.recs)) (5 : Nat) (cellsOf' encR (outOf (rHigh p.rng k) p.recs)) (cellsOf' encR [])) ∧ (true = true ∧ List.length (P.moveL p.prods (toOf (rHigh p.rng k) p.recs)) = (0 : Nat) ∧ contLe (List.length (P.moveL p.prods (toOf (rHigh p.rng k) p.recs))) (4 : Nat) (cellsOf' P.encP (P.moveL p.prods (toOf (rHigh p.rng k) p.recs))) (cellsOf' P.encP [])) ∧ (true = true ∧ List.length (mapU p.cons (toOf (rHigh p.rng k) p.recs) (List.length p.cons)) = (0 : Nat) ∧ contLe (List.length (mapU p.cons (toOf (rHigh p.rng k) p.recs) (List.length p.cons))) (2 : Nat) (cellsOf' encC (mapU p.cons (toOf (rHigh p.rng k) p.recs) (List.length p.cons))) (cellsOf' encC [])) ∧ True) ∧ (0 : Int) = splitE p k ∧ True) ∧ True)) ∧ ((splE p.rng k == (0 : Int)) = false → ((splE p.rng k != (0 : Int)) = true → ((splitE p k == (0 : Int)) = true → (({ data := #[] : ByteArray } = p.rng.lo ∧ { data := #[] : ByteArray } = k ∧ (0 : Int) = IntKind.wrap IntKind.u64 (p.epoch + (1 : Int)) ∧ (0 : Int) = (0 : Int) ∧ List.length (outOf (rLow p.rng k) p.recs) = (0 : Nat) ∧ List.length (P.moveL p.prods (toOf (rLow p.rng k) p.recs)) = (0 : Nat) ∧ List.length (mapU p.cons (toOf (rLow p.rng k) p.recs) (List.length p.cons)) = (0 : Nat) ∧ True) ∧ ({ data := #[] : ByteArray } = k ∧ { data := #[] : ByteArray } = p.rng.hi ∧ (0 : Int) = IntKind.wrap IntKind.u64 (p.epoch + (1 : Int)) ∧ (0 : Int) = (0 : Int) ∧ List.length (outOf (rHigh p.rng k) p.recs) = (0 : Nat) ∧ List.length (P.moveL p.prods (toOf (rHigh p.rng k) p.recs)) = (0 : Nat) ∧ List.length (mapU p.cons (toOf (rHigh p.rng k) p.recs) (List.length p.cons)) = (0 : Nat) ∧ True) ∧ splE p.rng k = (0 : Int) ∧ True) ∧ True) ∧ ((splitE p k == (0 : Int)) = false → (({ data := #[] : ByteArray } = ByteArray.empty ∧ { data := #[] : ByteArray } = ByteArray.empty ∧ (0 : Int) = (0 : Int) ∧ (0 : Int) = (0 : Int) ∧ (0 : Nat) = (0 : Nat) ∧ (0 : Nat) = (0 : Nat) ∧ (0 : Nat) = (0 : Nat) ∧ True) ∧ ({ data := #[] : ByteArray } = ByteArray.empty ∧ { data := #[] : ByteArray } = ByteArray.empty ∧ (0 : Int) = (0 : Int) ∧ (0 : Int) = (0 : Int) ∧ (0 : Nat) = (0 : Nat) ∧ (0 : Nat) = (0 : Nat) ∧ (0 : Nat) = (0 : Nat) ∧ True) ∧ splE p.rng k = splitE p k ∧ True) ∧ True)) ∧ ((splE p.rng k != (0 : Int)) = false → ((ByteArray.empty = p.rng.lo ∧ ByteArray.empty = k ∧ True) ∧ (false = false ∧ (7 : Nat) ≤ (7 : Nat) ∧ cellLe (7 : Nat) (fun (j : Nat) => Ax.get [AV.y (Value.string p.rng.lo), AV.y (Value.string p.rng.hi), AV.y (Value.int IntKind.u64 p.epoch), AV.y (Value.int IntKind.u64 p.frozen), AV.ys true (5 : Nat) (List.length p.recs) (cellsOf' encR p.recs), AV.ys true (4 : Nat) (List.length p.prods) (cellsOf' P.encP p.prods), AV.ys true (2 : Nat) (List.length p.cons) (cellsOf' encC p.cons)] ((0 : Nat) + j)) (Ax.get [AV.y (Value.string p.rng.lo), AV.y (Value.string p.rng.hi), AV.y (Value.int IntKind.u64 p.epoch), AV.y (Value.int IntKind.u64 p.frozen), AV.ys true (5 : Nat) (List.length p.recs) (cellsOf' encR p.recs), AV.ys true (4 : Nat) (List.length p.prods) (cellsOf' P.encP p.prods), AV.ys true (2 : Nat) (List.length p.cons) (cellsOf' encC p.cons)])) ∧ True) ∧ True ∧ (PartTy p ∧ isLog p.recs = true ∧ P.isTable p.prods = true ∧ isCons p.cons = true ∧ chkK (rLow p.rng k) = (0 : Int)) ∧ true = true ∧ True ∧ ((ByteArray.empty = k ∧ ByteArray.empty = p.rng.hi ∧ True) ∧ (false = false ∧ (7 : Nat) ≤ (7 : Nat) ∧ cellLe (7 : Nat) (fun (j : Nat) => Ax.get [AV.y (Value.string p.rng.lo), AV.y (Value.string p.rng.hi), AV.y (Value.int IntKind.u64 p.epoch), AV.y (Value.int IntKind.u64 p.frozen), AV.ys true (5 : Nat) (List.length p.recs) (cellsOf' encR p.recs), AV.ys true (4 : Nat) (List.length p.prods) (cellsOf' P.encP p.prods), AV.ys true (2 : Nat) (List.length p.cons) (cellsOf' encC p.cons)] ((0 : Nat) + j)) (Ax.get [AV.y (Value.string p.rng.lo), AV.y (Value.string p.rng.hi), AV.y (Value.int IntKind.u64 p.epoch), AV.y (Value.int IntKind.u64 p.frozen), AV.ys true (5 : Nat) (List.length p.recs) (cellsOf' encR p.recs), AV.ys true (4 : Nat) (List.length p.prods) (cellsOf' P.encP p.prods), AV.ys true (2 : Nat) (List.length p.cons) (cellsOf' encC p.cons)])) ∧ True) ∧ True ∧ (PartTy p ∧ isLog p.recs = true ∧ P.isTable p.prods = true ∧ isCons p.cons = true ∧ chkK (rHigh p.rng k) = (0 : Int)) ∧ true = true ∧ True ∧ ((splitE p k == (0 : Int)) = true → ((p.rng.lo = p.rng.lo ∧ k = k ∧ IntKind.wrap IntKind.u64 (p.epoch + (1 : Int)) = IntKind.wrap IntKind.u64 (p.epoch + (1 : Int)) ∧ (0 : Int) = (0 : Int) ∧ (true = true ∧ List.length (outOf (rLow p.rng k) p.recs) = List.length (outOf (rLow p.rng k) p.recs) ∧ contLe (List.length (outOf (rLow p.rng k) p.recs)) (5 : Nat) (cellsOf' encR (outOf (rLow p.rng k) p.recs)) (cellsOf' encR (outOf (rLow p.rng k) p.recs))) ∧ (true = true ∧ List.length (P.moveL p.prods (toOf (rLow p.rng k) p.recs)) = List.length (P.moveL p.prods (toOf (rLow p.rng k) p.recs)) ∧ contLe (List.length (P.moveL p.prods (toOf (rLow p.rng k) p.recs))) (4 : Nat) (cellsOf' P.encP (P.moveL p.prods (toOf (rLow p.rng k) p.recs))) (cellsOf' P.encP (P.moveL p.prods (toOf (rLow p.rng k) p.recs)))) ∧ (true = true ∧ List.length (mapU p.cons (toOf (rLow p.rng k) p.recs) (List.length p.cons)) = List.length (mapU p.cons (toOf (rLow p.rng k) p.recs) (List.length p.cons)) ∧ contLe (List.length (mapU p.cons (toOf (rLow p.rng k) p.recs) (List.length p.cons))) (2 : Nat) (cellsOf' encC (mapU p.cons (toOf (rLow p.rng k) p.recs) (List.length p.cons))) (cellsOf' encC (mapU p.cons (toOf (rLow p.rng k) p.recs) (List.length p.cons)))) ∧ True) ∧ (k = k ∧ p.rng.hi = p.rng.hi ∧ IntKind.wrap IntKind.u64 (p.epoch + (1 : Int)) = IntKind.wrap IntKind.u64 (p.epoch + (1 : Int)) ∧ (0 : Int) = (0 : Int) ∧ (true = true ∧ List.length (outOf (rHigh p.rng k) p.recs) = List.length (outOf (rHigh p.rng k) p.recs) ∧ contLe (List.length (outOf (rHigh p.rng k) p.recs)) (5 : Nat) (cellsOf' encR (outOf (rHigh p.rng k) p.recs)) (cellsOf' encR (outOf (rHigh p.rng k) p.recs))) ∧ (true = true ∧ List.length (P.moveL p.prods (toOf (rHigh p.rng k) p.recs)) = List.length (P.moveL p.prods (toOf (rHigh p.rng k) p.recs)) ∧ contLe (List.length (P.moveL p.prods (toOf (rHigh p.rng k) p.recs))) (4 : Nat) (cellsOf' P.encP (P.moveL p.prods (toOf (rHigh p.rng k) p.recs))) (cellsOf' P.encP (P.moveL p.prods (toOf (rHigh p.rng k) p.recs)))) ∧ (true = true ∧ List.length (mapU p.cons (toOf (rHigh p.rng k) p.recs) (List.length p.cons)) = List.length (mapU p.cons (toOf (rHigh p.rng k) p.recs) (List.length p.cons)) ∧ contLe (List.length (mapU p.cons (toOf (rHigh p.rng k) p.recs) (List.length p.cons))) (2 : Nat) (cellsOf' encC (mapU p.cons (toOf (rHigh p.rng k) p.recs) (List.length p.cons))) (cellsOf' encC (mapU p.cons (toOf (rHigh p.rng k) p.recs) (List.length p.cons)))) ∧ True) ∧ (0 : Int) = (0 : Int) ∧ True) ∧ True) ∧ ((splitE p k == (0 : Int)) = false → ((p.rng.lo = ByteArray.empty ∧ k = ByteArray.empty ∧ IntKind.wrap IntKind.u64 (p.epoch + (1 : Int)) = (0 : Int) ∧ (0 : Int) = (0 : Int) ∧ (true = true ∧ List.length (outOf (rLow p.rng k) p.recs) = (0 : Nat) ∧ contLe (List.length (outOf (rLow p.rng k) p.recs)) (5 : Nat) (cellsOf' encR (outOf (rLow p.rng k) p.recs)) (cellsOf' encR [])) ∧ (true = true ∧ List.length (P.moveL p.prods (toOf (rLow p.rng k) p.recs)) = (0 : Nat) ∧ contLe (List.length (P.moveL p.prods (toOf (rLow p.rng k) p.recs))) (4 : Nat) (cellsOf' P.encP (P.moveL p.prods (toOf (rLow p.rng k) p.recs))) (cellsOf' P.encP [])) ∧ (true = true ∧ List.length (mapU p.cons (toOf (rLow p.rng k) p.recs) (List.length p.cons)) = (0 : Nat) ∧ contLe (List.length (mapU p.cons (toOf (rLow p.rng k) p.recs) (List.length p.cons))) (2 : Nat) (cellsOf' encC (mapU p.cons (toOf (rLow p.rng k) p.recs) (List.length p.cons))) (cellsOf' encC [])) ∧ True) ∧ (k = ByteArray.empty ∧ p.rng.hi = ByteArray.empty ∧ IntKind.wrap IntKind.u64 (p.epoch + (1 : Int)) = (0 : Int) ∧ (0 : Int) = (0 : Int) ∧ (true = true ∧ List.length (outOf (rHigh p.rng k) p.recs) = (0 : Nat) ∧ contLe (List.length (outOf (rHigh p.rng k) p.recs)) (5 : Nat) (cellsOf' encR (outOf (rHigh p.rng k) p.recs)) (cellsOf' encR [])) ∧ (true = true ∧ List.length (P.moveL p.prods (toOf (rHigh p.rng k) p.recs)) = (0 : Nat) ∧ contLe (List.length (P.moveL p.prods (toOf (rHigh p.rng k) p.recs))) (4 : Nat) (cellsOf' P.encP (P.moveL p.prods (toOf (rHigh p.rng k) p.recs))) (cellsOf' P.encP [])) ∧ (true = true ∧ List.length (mapU p.cons (toOf (rHigh p.rng k) p.recs) (List.length p.cons)) = (0 : Nat) ∧ contLe (List.length (mapU p.cons (toOf (rHigh p.rng k) p.recs) (List.length p.cons))) (2 : Nat) (cellsOf' encC (mapU p.cons (toOf (rHigh p.rng k) p.recs) (List.length p.cons))) (cellsOf' encC [])) ∧ True) ∧ (0 : Int) = splitE p k ∧ True) ∧ True)))))) ∧ (partOk p = false → true = true ∧ True ∧ ((splitE p k == (0 : Int)) = true → (({ data := #[] : ByteArray } = p.rng.lo ∧ { data := #[] : ByteArray } = k ∧ (0 : Int) = IntKind.wrap IntKind.u64 (p.epoch + (1 : Int)) ∧ (0 : Int) = (0 : Int) ∧ List.length (outOf (rLow p.rng k) p.recs) = (0 : Nat) ∧ List.length (P.moveL p.prods (toOf (rLow p.rng k) p.recs)) = (0 : Nat) ∧ List.length (mapU p.cons (toOf (rLow p.rng k) p.recs) (List.length p.cons)) = (0 : Nat) ∧ True) ∧ ({ data := #[] : ByteArray } = k ∧ { data := #[] : ByteArray } = p.rng.hi ∧ (0 : Int) = IntKind.wrap IntKind.u64 (p.epoch + (1 : Int)) ∧ (0 : Int) = (0 : Int) ∧ List.length (outOf (rHigh p.rng k) p.recs) = (0 : Nat) ∧ List.length (P.moveL p.prods (toOf (rHigh p.rng k) p.recs)) = (0 : Nat) ∧ List.length (mapU p.cons (toOf (rHigh p.rng k) p.recs) (List.length p.cons)) = (0 : Nat) ∧ True) ∧ (172 : Int) = (0 : Int) ∧ True) ∧ True) ∧ ((splitE p k == (0 : Int)) = false → (({ data := #[] : ByteArray } = ByteArray.empty ∧ { data := #[] : ByteArray } = ByteArray.empty ∧ (0 : Int) = (0 : Int) ∧ (0 : Int) = (0 : Int) ∧ (0 : Nat) = (0 : Nat) ∧ (0 : Nat) = (0 : Nat) ∧ (0 : Nat) = (0 : Nat) ∧ True) ∧ ({ data := #[] : ByteArray } = ByteArray.empty ∧ { data := #[] : ByteArray } = ByteArray.empty ∧ (0 : Int) = (0 : Int) ∧ (0 : Int) = (0 : Int) ∧ (0 : Nat) = (0 : Nat) ∧ (0 : Nat) = (0 : Nat) ∧ (0 : Nat) = (0 : Nat) ∧ True) ∧ (172 : Int) = splitE p k ∧ True) ∧ True))
set_option maxRecDepth 1000000 in
theorem vcSplit_eq (p : Part) (k : ByteArray) : (ctrVC Tryz.prog (splH p k) 9 [.agg (encPt true p), .y (.string k)] [] (splitT p k)) = vcSplit p k := by kernel_rfl
theorem less_irr : ∀ l : List UInt8, Op.bytesLess l l = false
  | [] => rfl
  | a :: l => by simp [Op.bytesLess, less_irr l]
theorem lt_irr (a : ByteArray) : lt a a = false := less_irr _
theorem beqB_iff {a b : ByteArray} : beqB a b = true ↔ a = b := by
  obtain ⟨⟨a⟩⟩ := a
  obtain ⟨⟨b⟩⟩ := b
  simp [beqB]
theorem lst_iff {a b : ByteArray} : (a.data.toList == b.data.toList) = true ↔ a = b := beqB_iff
theorem spl_ok {r : Rng} {k : ByteArray} (h : splE r k = 0) : chkK r = 0 ∧ k.size ≤ 32 ∧ k ≠ r.lo ∧ hasK r k = true := by
  unfold splE at h
  split at h
  · rename_i h1; simp at h1; exact absurd h h1
  · split at h
    · cases h
    · split at h
      · cases h
      · rename_i h1 h2 h3
        simp at h1 h3
        refine ⟨h1, by omega, fun e => ?_, h3.2⟩
        rw [beqB_iff.2 e] at h3
        simp at h3
theorem chk_iff {r : Rng} : chkK r = 0 ↔ r.lo.size ≤ 32 ∧ r.hi.size ≤ 32 ∧ (r.hi.data.toList = [] ∨ (lt r.hi r.lo = false ∧ r.hi ≠ r.lo)) := by
  unfold chkK
  by_cases h1 : 32 < r.lo.size ∨ 32 < r.hi.size
  · rw [if_pos h1]
    constructor
    · intro h; cases h
    · rintro ⟨a, b, _⟩; omega
  · rw [if_neg h1]
    have h2 : r.lo.size ≤ 32 ∧ r.hi.size ≤ 32 := by omega
    have h3 : (r.hi.data.toList == r.lo.data.toList) = decide (r.hi = r.lo) := by
      rw [Bool.eq_iff_iff, lst_iff, decide_eq_true_iff]
    rw [h3]
    clear h3
    generalize r.hi.data.toList = L
    by_cases h4 : L = []
    · simp [h4, h2]
    · by_cases h5 : lt r.hi r.lo = true
      · simp [h4, h5]
      · by_cases h6 : r.hi = r.lo
        · simp [h4, h6]
        · simp [h4, h5, h6, h2]
theorem has_iff {r : Rng} {k : ByteArray} : hasK r k = true ↔ chkK r = 0 ∧ k.size ≤ 32 ∧ (lt r.lo k = true ∨ r.lo = k) ∧ (r.hi.data.toList = [] ∨ lt k r.hi = true) := by
  unfold hasK
  have h3 : (r.lo.data.toList == k.data.toList) = decide (r.lo = k) := by
    rw [Bool.eq_iff_iff, lst_iff, decide_eq_true_iff]
  rw [h3]
  simp only [Bool.and_eq_true, Bool.or_eq_true, beq_iff_eq, decide_eq_true_iff]
  constructor
  · rintro ⟨a, b, c, d⟩; exact ⟨a, by omega, c, d⟩
  · rintro ⟨a, b, c, d⟩; exact ⟨a, by omega, c, d⟩
theorem low_chk {r : Rng} {k : ByteArray} (h : splE r k = 0) : chkK (rLow r k) = 0 := by
  obtain ⟨h1, h2, h3, h4⟩ := spl_ok h
  obtain ⟨c1, c2, c3⟩ := chk_iff.1 h1
  obtain ⟨_, _, h5, h6⟩ := has_iff.1 h4
  refine chk_iff.2 ⟨c1, h2, .inr ?_⟩
  have h5 : lt r.lo k = true := h5.resolve_right fun e => h3 e.symm
  refine ⟨?_, h3⟩
  show lt k r.lo = false
  cases hh : lt k r.lo
  · rfl
  · have := lt_trans' h5 hh
    rw [lt_irr] at this; cases this
theorem high_chk {r : Rng} {k : ByteArray} (h : splE r k = 0) : chkK (rHigh r k) = 0 := by
  obtain ⟨h1, h2, h3, h4⟩ := spl_ok h
  obtain ⟨c1, c2, c3⟩ := chk_iff.1 h1
  obtain ⟨_, _, h5, h6⟩ := has_iff.1 h4
  refine chk_iff.2 ⟨h2, c2, ?_⟩
  rcases h6 with h6 | h6
  · exact .inl h6
  · refine .inr ⟨?_, ?_⟩
    · show lt r.hi k = false
      cases hh : lt r.hi k
      · rfl
      · have := lt_trans' h6 hh
        rw [lt_irr] at this; cases this
    · intro e
      have e : r.hi = k := e
      rw [e, lt_irr] at h6; cases h6
theorem ok_parts {p : Part} (h : partOk p = true) : chkK p.rng = 0 ∧ p.epoch ≠ 0 ∧ isLog p.recs = true ∧ P.isTable p.prods = true ∧ isCons p.cons = true ∧ orFrom p 0 = true ∧ p.prods.any (lostB p) = false ∧ p.cons.any (aheadB p.recs.length) = false := by
  simp only [partOk, Bool.and_eq_true, Bool.not_eq_true', beq_iff_eq] at h
  obtain ⟨a, b, c, d, e, f, g, i⟩ := h
  exact ⟨a, by simpa using b, c, d, e, f, g, i⟩
theorem split_c (p : Part) (k : ByteArray) (hp : PartTy p) (hk : k.size ≤ 9223372036854775807) : (splitT p k).Sat (ACall' Tryz.prog 9 [.agg (encPt true p), .y (.string k)] []) := by
  refine ctr_vc (ht := splH p k) Tryz.mixed rfl ?_
  rw [vcSplit_eq p k]
  unfold vcSplit
  have eb : ({ data := #[] } : ByteArray) = ByteArray.empty := rfl
  have hi := hp.isIn
  rw [eb]
  cases h1 : partOk p
  · have e1 : splitE p k = 172 := by simp [splitE, bad, h1]
    simp [e1, hi]
  · by_cases h2 : IntKind.u64.wrap (p.epoch + 1) = 0
    · have e1 : splitE p k = 172 := by simp [splitE, bad, h1, h2]
      simp [e1, hi, h2]
    · by_cases h3 : p.frozen = 0
      · have e1 : splitE p k = 171 := by simp [splitE, bad, h1, h2, h3]
        simp [e1, hi, h2, h3]
      · have e1 : splitE p k = splE p.rng k := by simp [splitE, bad, h1, h2, h3]
        obtain ⟨o1, o2, o3, o4, o5, _⟩ := ok_parts h1
        by_cases h4 : splE p.rng k = 0
        · have c1 := low_chk h4
          have c2 := high_chk h4
          simp [e1, hi, h2, h3, h4, hk, c1, c2, hp, o3, o4, o5, partOf, rLow, rHigh]
          exact ⟨c1, c2⟩
        · simp [e1, hi, h2, h3, h4, hk]
end Go.Proofs.YtckklclehofddaaGreatDoor.D

/-! Lineage, plain: what a state is; what is kept of one may be. -/
namespace Go.Proofs.YtckklclehofddaaGreatDoor.D
open Go.Ax
set_option maxRecDepth 1000000
theorem snoc_ind {α : Type} {P : List α → Prop} (h0 : P []) (h1 : ∀ l x, P l → P (l ++ [x])) (l : List α) : P l := by
  rw [← List.reverse_reverse l]
  induction l.reverse with
  | nil => exact h0
  | cons x r ih => rw [List.reverse_cons]; exact h1 _ _ ih
theorem sel_put (s : Kn) (a b x : Int) : Kn.sel (Kn.put s a b) x = if a = x then b else Kn.sel s x := by
  unfold Kn.sel Kn.put updHas updC selI
  by_cases h : a = x
  · simp [h]
  · simp [h]
theorem knR_app (l : List Rec) (x : Rec) : knR (l ++ [x]) = (knR l).put x.prod x.seq := by simp [knR]
/-- a number that is last, or none -/
theorem knR_sel (l : List Rec) (a : Int) : (Kn.sel (knR l) a = 0 ∧ ∀ x ∈ l, x.prod ≠ a) ∨ ∃ x ∈ l, x.prod = a ∧ Kn.sel (knR l) a = x.seq := by
  refine snoc_ind (P := fun l => (Kn.sel (knR l) a = 0 ∧ ∀ x ∈ l, x.prod ≠ a) ∨ ∃ x ∈ l, x.prod = a ∧ Kn.sel (knR l) a = x.seq) ?_ ?_ l
  · exact .inl ⟨rfl, fun x hx => by cases hx⟩
  · intro l x ih
    rw [knR_app, sel_put]
    by_cases h : x.prod = a
    · rw [if_pos h]; exact .inr ⟨x, by simp, h, rfl⟩
    · rw [if_neg h]
      rcases ih with ⟨h1, h2⟩ | ⟨y, h1, h2, h3⟩
      · refine .inl ⟨h1, fun y hy => ?_⟩
        rcases List.mem_append.1 hy with hy | hy
        · exact h2 y hy
        · simp at hy; subst hy; exact h
      · exact .inr ⟨y, by simp [h1], h2, h3⟩
def up1 (x y : Rec) : Prop := x.prod = y.prod → x.seq < y.seq
def recOk (g : Rng) (K : Kn) (x : Rec) : Prop := hasK g x.key = true ∧ 0 < x.seq ∧ x.seq ≤ Kn.sel K x.prod
def ordL (g : Rng) (K : Kn) (l : List Rec) : Prop := (∀ x ∈ l, recOk g K x) ∧ l.Pairwise up1
theorem orFrom_all (p : Part) : ∀ n k, p.recs.length - k = n → (orFrom p k = true ↔ ∀ j, k ≤ j → j < p.recs.length → okO p j = true) := by
  intro n
  induction n with
  | zero =>
    intro k hk
    rw [orFrom_end (by omega)]
    exact ⟨fun _ j h1 h2 => by omega, fun _ => rfl⟩
  | succ n ih =>
    intro k hk
    rw [orFrom_step (by omega), Bool.and_eq_true, ih (k + 1) (by omega)]
    constructor
    · rintro ⟨h1, h2⟩ j h3 h4
      rcases Nat.eq_or_lt_of_le h3 with rfl | h5
      · exact h1
      · exact h2 j h5 h4
    · intro h
      exact ⟨h k (Nat.le_refl _) (by omega), fun j h1 h2 => h j (by omega) h2⟩
theorem okO_iff {p : Part} {k : Nat} (h : k < p.recs.length) : okO p k = true ↔ hasK p.rng p.recs[k].key = true ∧ Kn.sel (knR (p.recs.take k)) p.recs[k].prod < p.recs[k].seq ∧ p.recs[k].seq ≤ Kn.sel (knP p.prods) p.recs[k].prod := by
  unfold okO
  simp [List.getElem?_eq_getElem h]
theorem knR_le {g : Rng} {K : Kn} : ∀ {l : List Rec}, ordL g K l → ∀ x ∈ l, x.seq ≤ Kn.sel (knR l) x.prod := by
  intro l
  refine snoc_ind (P := fun l => ordL g K l → ∀ x ∈ l, x.seq ≤ Kn.sel (knR l) x.prod) ?_ ?_ l
  · intro _ x hx; cases hx
  · intro l y ih h x hx
    rw [knR_app, sel_put]
    have h2 : ordL g K l := ⟨fun z hz => h.1 z (by simp [hz]), (List.pairwise_append.1 h.2).1⟩
    have h3 := (List.pairwise_append.1 h.2).2.2
    rcases List.mem_append.1 hx with hx | hx
    · by_cases e : y.prod = x.prod
      · rw [if_pos e]
        have := h3 x hx y (by simp) e.symm
        omega
      · rw [if_neg e]; exact ih h2 x hx
    · simp at hx; subst hx; rw [if_pos rfl]; exact Int.le_refl _
theorem ord_take {p : Part} (h : ∀ j, j < p.recs.length → okO p j = true) : ∀ k, k ≤ p.recs.length → ordL p.rng (knP p.prods) (p.recs.take k) := by
  intro k
  induction k with
  | zero => intro _; exact ⟨fun x hx => by simp at hx, by simp⟩
  | succ k ih =>
    intro hk
    have ih := ih (by omega)
    obtain ⟨o1, o2, o3⟩ := (okO_iff (by omega)).1 (h k (by omega))
    rw [List.take_add_one, List.getElem?_eq_getElem (by omega)]
    have hs : ∀ x ∈ p.recs.take k, x.prod = p.recs[k].prod → x.seq < p.recs[k].seq := fun x hx e => by
      have := knR_le ih x hx
      rw [e] at this
      omega
    have h0 : 0 < p.recs[k].seq := by
      rcases knR_sel (p.recs.take k) p.recs[k].prod with ⟨q, _⟩ | ⟨x, hx, hx2, q⟩
      · omega
      · have := (ih.1 x hx).2.1
        omega
    refine ⟨fun x hx => ?_, ?_⟩
    · rcases List.mem_append.1 hx with hx | hx
      · exact ih.1 x hx
      · simp at hx; subst hx; exact ⟨o1, h0, o3⟩
    · refine List.pairwise_append.2 ⟨ih.2, by simp, fun x hx y hy => ?_⟩
      simp at hy; subst hy
      exact hs x hx
theorem or_iff (p : Part) : orFrom p 0 = true ↔ ordL p.rng (knP p.prods) p.recs := by
  rw [orFrom_all p _ 0 rfl]
  constructor
  · intro h
    have := ord_take (fun j hj => h j (Nat.zero_le _) hj) p.recs.length (Nat.le_refl _)
    rwa [List.take_length] at this
  · intro h j _ hj
    have hx := h.1 p.recs[j] (List.getElem_mem hj)
    refine (okO_iff hj).2 ⟨hx.1, ?_, hx.2.2⟩
    rcases knR_sel (p.recs.take j) p.recs[j].prod with ⟨q, _⟩ | ⟨x, h1, h2, q⟩
    · have := hx.2.1; omega
    · rw [q]
      have hp := h.2
      rw [← List.take_append_drop j p.recs] at hp
      refine (List.pairwise_append.1 hp).2.2 x h1 _ ?_ h2
      rw [List.mem_iff_getElem]
      exact ⟨0, by simp; omega, by simp⟩
/-! what is kept -/
def hasR (r : Rng) (x : Rec) : Bool := hasK r x.key
def selR (r : Rng) (l : List Rec) : List Rec := l.filter (hasR r)
def renum (l : List Rec) : List Rec := l.mapIdx fun i x => x.to (IntKind.u64.wrap i)
theorem ren_len (l : List Rec) : (renum l).length = l.length := by simp [renum]
theorem ren_at (l : List Rec) (i : Nat) (h : i < l.length) : (renum l)[i]'(by simpa [ren_len] using h) = (l[i]).to (IntKind.u64.wrap i) := by simp [renum]
theorem ren_app (l : List Rec) (x : Rec) : renum (l ++ [x]) = renum l ++ [x.to (IntKind.u64.wrap l.length)] := by simp [renum]
def cntR (r : Rng) (l : List Rec) (i : Nat) : Nat := (selR r (l.take i)).length
theorem ke_eq (r : Rng) (l : List Rec) : ∀ k, k ≤ l.length → ke r (l.take k) = ⟨renum (selR r (l.take k)), (List.range k).map fun i => IntKind.u64.wrap (cntR r l i)⟩ := by
  intro k
  induction k with
  | zero => intro _; simp [ke, renum, selR]
  | succ k ih =>
    intro hk
    have ih := ih (by omega)
    rw [ke_step (by omega), ih, take_one (by omega), List.range_succ]
    unfold Ke.step selR
    rw [List.filter_append]
    have h1 : l.getD k default = l[k] := by simp [List.getElem?_eq_getElem (show k < l.length by omega)]
    rw [h1]
    simp only [Ke.mk.injEq]
    refine ⟨?_, ?_⟩
    · by_cases h2 : hasK r l[k].key = true
      · have h3 : List.filter (hasR r) [l[k]] = [l[k]] := by simp [hasR, h2]
        rw [h3, ren_app, if_pos h2, ren_len]
      · have h3 : List.filter (hasR r) [l[k]] = [] := by simp [hasR, h2]
        rw [h3, List.append_nil, if_neg h2]
    · rw [List.map_append, List.map_singleton, ren_len]
      rfl
theorem ke_full (r : Rng) (l : List Rec) : ke r l = ⟨renum (selR r l), (List.range l.length).map fun i => IntKind.u64.wrap (cntR r l i)⟩ := by
  have := ke_eq r l l.length (Nat.le_refl _)
  rwa [List.take_length] at this
theorem out_eq (r : Rng) (l : List Rec) : outOf r l = renum (selR r l) := by
  show (ke r l).out = _
  rw [ke_full]
theorem to_eq (r : Rng) (l : List Rec) : toOf r l = (List.range (l.length + 1)).map fun i => IntKind.u64.wrap (cntR r l i) := by
  show (ke r l).to ++ [IntKind.u64.wrap ((ke r l).out.length : Nat)] = _
  rw [ke_full, List.range_succ, List.map_append, ren_len]
  simp [cntR]
theorem toOf_len (r : Rng) (l : List Rec) : (toOf r l).length = l.length + 1 := by rw [to_eq]; simp
theorem cnt_le (r : Rng) (l : List Rec) (i : Nat) : cntR r l i ≤ i := by
  unfold cntR selR
  have := List.length_filter_le (hasR r) (l.take i)
  simp at this; omega
theorem cnt_len (r : Rng) (l : List Rec) (i : Nat) : cntR r l i ≤ (selR r l).length := by
  unfold cntR selR
  exact ((List.take_sublist i l).filter _).length_le
theorem cnt_succ {r : Rng} {l : List Rec} {i : Nat} (h : i < l.length) : cntR r l (i + 1) = cntR r l i + if hasR r l[i] then 1 else 0 := by
  unfold cntR selR
  rw [List.take_add_one, List.getElem?_eq_getElem h, List.filter_append, List.length_append]
  by_cases h1 : hasR r l[i] <;> simp [h1]
theorem toOf_at {r : Rng} {l : List Rec} {i : Nat} (hl : l.length ≤ 4096) (h : i ≤ l.length) : (toOf r l).getD i default = (cntR r l i : Int) := by
  rw [to_eq]
  have hc := cnt_le r l i
  have : i < l.length + 1 := by omega
  simp [List.getElem?_eq_getElem, this]
  exact wrap_u64 (by omega) (by omega)
theorem toOf_at0 {r : Rng} {l : List Rec} {i : Nat} (hl : l.length ≤ 4096) (h : i ≤ l.length) : (toOf r l).getD i 0 = (cntR r l i : Int) := toOf_at hl h
theorem sel_at {r : Rng} {l : List Rec} {i : Nat} (h : i < l.length) (hs : hasR r l[i] = true) : (selR r l)[cntR r l i]? = some l[i] := by
  have e : l = l.take i ++ l[i] :: l.drop (i + 1) := by
    have := List.take_append_drop i l
    rw [List.drop_eq_getElem_cons h] at this
    exact this.symm
  unfold cntR selR
  conv => lhs; rw [e]
  rw [List.filter_append, List.filter_cons, if_pos (by exact hs)]
  have h2 : (l.take i ++ l[i] :: l.drop (i + 1)).take i = l.take i := by rw [← e]
  rw [h2]
  simp
end Go.Proofs.YtckklclehofddaaGreatDoor.D

/-! Lineage, plain: what is kept of a state may be a state. -/
namespace Go.Proofs.YtckklclehofddaaGreatDoor.D
open Go.Ax
set_option maxRecDepth 1000000
theorem logFrom_all (l : List Rec) : logFrom l 0 = true ↔ ∀ k, k < l.length → okR (l.getD k default) k = true := by
  unfold logFrom
  rw [List.all_eq_true]
  constructor
  · intro h k hk; exact h k (by simp; omega)
  · intro h k hk
    simp at hk
    exact h k (by omega)
theorem ren_log {l : List Rec} (h1 : l.length ≤ 4096) (h2 : ∀ x ∈ l, x.key.size ≤ 32 ∧ x.val.length ≤ 256) : isLog (renum l) = true := by
  simp only [isLog, Bool.and_eq_true, decide_eq_true_eq, ren_len, h1, and_true]
  rw [logFrom_all]
  intro k hk
  rw [ren_len] at hk
  have h3 := h2 l[k] (List.getElem_mem hk)
  have : (renum l).getD k default = (l[k]).to (IntKind.u64.wrap k) := by
    rw [← ren_at l k hk]; simp [ren_len, hk]
  rw [this]
  simp [okR, Rec.to, h3]
theorem log_mem {l : List Rec} (h : isLog l = true) : ∀ x ∈ l, x.key.size ≤ 32 ∧ x.val.length ≤ 256 := by
  intro x hx
  obtain ⟨k, hk, rfl⟩ := List.mem_iff_getElem.1 hx
  simp only [isLog, Bool.and_eq_true] at h
  have := (logFrom_all l).1 h.1 k hk
  simp [okR, hk] at this
  exact ⟨by omega, by omega⟩
theorem mem_sel {r : Rng} {l : List Rec} {x : Rec} : x ∈ selR r l ↔ x ∈ l ∧ hasK r x.key = true := by simp [selR, hasR]
theorem sel_len (r : Rng) (l : List Rec) : (selR r l).length ≤ l.length := List.length_filter_le _ _
theorem out_log {r : Rng} {l : List Rec} (h : isLog l = true) : isLog (outOf r l) = true := by
  rw [out_eq]
  have h1 := log_len h
  have h2 := sel_len r l
  exact ren_log (by omega) fun x hx => log_mem h x (mem_sel.1 hx).1
/-! the table -/
theorem okFrom_iff (l : List P.Producer) : P.okFrom l 0 = true ↔ ∀ k, k < l.length → P.okP l k = true := by
  unfold P.okFrom
  rw [List.all_eq_true]
  constructor
  · intro h k hk; exact h k (by simp; omega)
  · intro h k hk
    simp at hk
    exact h k (by omega)
theorem mv_id (to : List Int) (x : P.Producer) : (P.mvP to x).id = x.id ∧ (P.mvP to x).seq = x.seq := by
  unfold P.mvP
  split <;> exact ⟨rfl, rfl⟩
theorem mv_here {to : List Int} {x : P.Producer} (h : (P.mvP to x).here = false) : (P.mvP to x).offset = 0 := by
  unfold P.mvP at *
  split
  · rename_i h1; rw [if_pos h1] at h; cases h
  · rfl
theorem move_at (l : List P.Producer) (to : List Int) {k : Nat} (h : k < l.length) : (P.moveL l to).getD k default = P.mvP to (l.getD k default) := by
  simp [P.moveL, h]
theorem okP_iff {l : List P.Producer} {k : Nat} : P.okP l k = true ↔ (l.getD k default).id ≠ 0 ∧ (1 ≤ (l.getD k default).seq ∧ (l.getD k default).seq ≤ 9223372036854775807) ∧ ((l.getD k default).here = false → (l.getD k default).offset = 0) ∧ (0 < k → (l.getD (k - 1) default).id < (l.getD k default).id) := by
  unfold P.okP
  generalize l.getD k default = x
  generalize l.getD (k - 1) default = y
  cases hh : x.here <;> by_cases h1 : x.id = 0 <;> by_cases h2 : 0 < k <;> by_cases h3 : x.id ≤ y.id <;> by_cases h4 : x.offset = 0 <;> by_cases h5 : 1 ≤ x.seq <;> by_cases h6 : x.seq ≤ 9223372036854775807 <;> simp [hh, h1, h2, h3, h4, h5, h6] <;> omega
theorem move_table {l : List P.Producer} (to : List Int) (h : P.isTable l = true) : P.isTable (P.moveL l to) = true := by
  simp only [P.isTable, Bool.and_eq_true, decide_eq_true_eq] at h ⊢
  have hl : (P.moveL l to).length = l.length := by simp [P.moveL]
  refine ⟨(okFrom_iff _).2 fun k hk => ?_, by rw [hl]; exact h.2⟩
  rw [hl] at hk
  obtain ⟨a, b, c, d⟩ := okP_iff.1 ((okFrom_iff _).1 h.1 k hk)
  rw [okP_iff, move_at l to hk]
  obtain ⟨e1, e2⟩ := mv_id to (l.getD k default)
  refine ⟨by rw [e1]; exact a, by rw [e2]; exact b, mv_here, fun h0 => ?_⟩
  rw [move_at l to (show k - 1 < l.length by omega), e1, (mv_id to _).1]
  exact d h0
theorem knP_move (l : List P.Producer) (to : List Int) : knP (P.moveL l to) = knP l := by
  have key : ∀ (l : List P.Producer) (s : Kn), (P.moveL l to).foldl (fun s x => Kn.put s x.id x.seq) s = l.foldl (fun s x => Kn.put s x.id x.seq) s := by
    intro l
    induction l with
    | nil => intro s; rfl
    | cons x r ih =>
      intro s
      show (P.moveL r to).foldl _ (Kn.put s (P.mvP to x).id (P.mvP to x).seq) = _
      rw [(mv_id to x).1, (mv_id to x).2]
      exact ih _
  exact key l kn0
/-! consumers -/
theorem map_len (l : List Con) (to : List Int) (h : to.length ≠ 0) : (mapU l to l.length).length = l.length := by
  simp [mapU, h]
theorem map_at {l : List Con} {to : List Int} (h : to.length ≠ 0) {k : Nat} (hk : k < l.length) : (mapU l to l.length).getD k default = movC to (l.getD k default) := by
  simp [mapU, h, hk]
theorem cons_iff (l : List Con) : coFrom l 0 = true ↔ ∀ k, k < l.length → coOk l k = true := by
  unfold coFrom
  rw [List.all_eq_true]
  constructor
  · intro h k hk; exact h k (by simp; omega)
  · intro h k hk
    simp at hk
    exact h k (by omega)
theorem map_cons {l : List Con} {to : List Int} (ht : to.length ≠ 0) (h : isCons l = true) : isCons (mapU l to l.length) = true := by
  simp only [isCons, Bool.and_eq_true, decide_eq_true_eq] at h ⊢
  rw [map_len l to ht]
  refine ⟨(cons_iff _).2 fun k hk => ?_, h.2⟩
  rw [map_len l to ht] at hk
  have h1 := (cons_iff _).1 h.1 k hk
  unfold coOk at *
  rw [map_at ht hk]
  by_cases h0 : 0 < k
  · rw [map_at ht (show k - 1 < l.length by omega)]
    exact h1
  · simp only [h0, decide_false, Bool.false_and] at h1 ⊢
    exact h1
theorem out_len (r : Rng) (l : List Rec) : (outOf r l).length = (selR r l).length := by rw [out_eq, ren_len]
/-- where a record that is kept came to -/
theorem out_at {r : Rng} {l : List Rec} {i : Nat} (h : i < l.length) (hs : hasR r l[i] = true) : (outOf r l).getD (cntR r l i) default = (l[i]).to (IntKind.u64.wrap (cntR r l i)) := by
  have h1 := sel_at h hs
  have h2 := (List.getElem?_eq_some_iff.1 h1).1
  rw [out_eq]
  have := ren_at (selR r l) (cntR r l i) h2
  rw [List.getElem?_eq_getElem h2] at h1
  rw [Option.some.inj h1] at this
  rw [← this]
  simp [ren_len, h2]
theorem lost_iff {p : Part} {x : P.Producer} : lostB p x = false ↔ (x.here = true → x.offset < p.recs.length ∧ (p.recs.getD x.offset.toNat default).prod = x.id ∧ (p.recs.getD x.offset.toNat default).seq = x.seq) := by
  unfold lostB
  generalize p.recs.getD x.offset.toNat default = y
  cases hh : x.here
  · simp
  · simp only [Bool.true_and, Bool.or_eq_false_iff, decide_eq_false_iff_not, bne_eq_false_iff_eq, forall_const]
    constructor
    · rintro ⟨a, b, c⟩; exact ⟨by omega, b, c⟩
    · rintro ⟨a, b, c⟩; exact ⟨by omega, b, c⟩
theorem lost_all {p : Part} : p.prods.any (lostB p) = false ↔ ∀ x ∈ p.prods, lostB p x = false := by
  rw [List.any_eq_false]
  constructor
  · intro h x hx; simpa using h x hx
  · intro h x hx; simp [h x hx]
/-- when a moved producer's record is here -/
theorem mv_here_at {r : Rng} {l : List Rec} {x : P.Producer} (hl : l.length ≤ 4096) (ho : 0 ≤ x.offset) (h : (P.mvP (toOf r l) x).here = true) :
    ∃ (o : Nat) (h1 : o < l.length), x.here = true ∧ x.offset = (o : Int) ∧ hasR r l[o] = true ∧ (P.mvP (toOf r l) x).offset = (cntR r l o : Int) := by
  unfold P.mvP at h ⊢
  split at h
  case isFalse => cases h
  rename_i hk
  rw [if_pos hk]
  simp only [P.mvOk, Bool.and_eq_true, decide_eq_true_eq, toOf_len] at hk
  obtain ⟨h1, h2, h3, h4⟩ := hk
  obtain ⟨o, e⟩ : ∃ o : Nat, x.offset = o := ⟨x.offset.toNat, by omega⟩
  rw [e] at h3 h4 ⊢
  have ho : o < l.length := by omega
  have e2 : ((o : Int) + 1).toNat = o + 1 := by omega
  simp only [Int.toNat_natCast] at h4 ⊢
  rw [toOf_at hl (by omega)] at h4 ⊢
  refine ⟨o, ho, h1, rfl, ?_, rfl⟩
  have h5 : (toOf r l).getD (o + 1) default = (cntR r l (o + 1) : Int) := toOf_at hl (by omega)
  cases hs : hasR r l[o]
  · have := cnt_succ (r := r) ho
    rw [hs] at this
    simp at this
    rw [h5] at h4
    omega
  · rfl
theorem part_ok {p : Part} {r : Rng} (hp : PartTy p) (h : partOk p = true) (hr : chkK r = 0) (he : IntKind.u64.wrap (p.epoch + 1) ≠ 0) : partOk (partOf p r) = true := by
  obtain ⟨a, b, c, d, e, f, g, i⟩ := ok_parts h
  have hl := log_len c
  have ht : (toOf r p.recs).length ≠ 0 := by rw [toOf_len]; omega
  have hf := (or_iff p).1 f
  have key : orFrom (partOf p r) 0 = true := by
    rw [or_iff]
    show ordL r (knP (P.moveL p.prods (toOf r p.recs))) (outOf r p.recs)
    rw [knP_move, out_eq]
    have hs : ∀ x ∈ selR r p.recs, recOk r (knP p.prods) x := fun x hx => by
      obtain ⟨m1, m2⟩ := mem_sel.1 hx
      exact ⟨m2, (hf.1 x m1).2⟩
    have hq : (selR r p.recs).Pairwise up1 := hf.2.sublist List.filter_sublist
    constructor
    · intro x hx
      obtain ⟨j, hj, rfl⟩ := List.mem_iff_getElem.1 hx
      have hj2 : j < (selR r p.recs).length := by simpa [ren_len] using hj
      rw [ren_at _ _ hj2]
      exact (hs ((selR r p.recs)[j]) (List.getElem_mem hj2) :)
    · rw [List.pairwise_iff_getElem] at hq ⊢
      intro i j hi hj hij
      rw [ren_at _ _ (by simpa [ren_len] using hi), ren_at _ _ (by simpa [ren_len] using hj)]
      exact hq i j _ _ hij
  have kl : (partOf p r).prods.any (lostB (partOf p r)) = false := by
    rw [lost_all]
    intro y hy
    obtain ⟨x, hx, rfl⟩ := List.mem_map.1 (show y ∈ p.prods.map (P.mvP (toOf r p.recs)) from hy)
    rw [lost_iff]
    intro hh
    obtain ⟨o, h1, h2, h3, h4, h5⟩ := mv_here_at hl (hp.po x hx).1 hh
    have h6 := lost_iff.1 (lost_all.1 g x hx) h2
    rw [h5]
    have h7 : (outOf r p.recs).getD (cntR r p.recs o) default = _ := out_at h1 h4
    obtain ⟨m1, m2⟩ := mv_id (toOf r p.recs) x
    refine ⟨?_, ?_⟩
    · show (cntR r p.recs o : Int) < ((outOf r p.recs).length : Nat)
      rw [out_len]
      have := (List.getElem?_eq_some_iff.1 (sel_at h1 h4)).1
      omega
    · show ((outOf r p.recs).getD (Int.toNat (cntR r p.recs o : Int)) default).prod = _ ∧ ((outOf r p.recs).getD (Int.toNat (cntR r p.recs o : Int)) default).seq = _
      rw [Int.toNat_natCast, h7, m1, m2]
      rw [h3] at h6
      simp [List.getElem?_eq_getElem h1] at h6
      exact h6.2
  have ka : (partOf p r).cons.any (aheadB (partOf p r).recs.length) = false := by
    rw [List.any_eq_false]
    intro y hy
    have hy : y ∈ mapU p.cons (toOf r p.recs) p.cons.length := hy
    simp only [mapU, if_neg ht, List.take_length] at hy
    obtain ⟨x, hx, rfl⟩ := List.mem_map.1 hy
    have hx0 := hp.co x hx
    have : (movC (toOf r p.recs) x).off ≤ ((selR r p.recs).length : Int) := by
      unfold movC elemO
      rw [toOf_len]
      obtain ⟨q1, q2⟩ := hx0
      have hm : ∃ m : Nat, (min x.off (((p.recs.length + 1 : Nat) : Int) - 1)).toNat = m ∧ m ≤ p.recs.length := ⟨_, rfl, by omega⟩
      obtain ⟨m, hm1, hm2⟩ := hm
      rw [hm1]
      show (toOf r p.recs).getD m 0 ≤ _
      rw [toOf_at0 hl hm2]
      have := cnt_len r p.recs m
      omega
    show ¬ aheadB (outOf r p.recs).length _ = true
    rw [out_len]
    simp [aheadB]
    exact this
  have e1 : chkK (partOf p r).rng = 0 := hr
  have e2 : (partOf p r).epoch ≠ 0 := he
  simp only [partOk, key, kl, ka, e1]
  have c' : isLog (partOf p r).recs = true := out_log c
  have d' : P.isTable (partOf p r).prods = true := move_table _ d
  have i' : isCons (partOf p r).cons = true := map_cons ht e
  simp [c', d', i', e2]
end Go.Proofs.YtckklclehofddaaGreatDoor.D

/-! Lineage, plain: what is kept of what was kept. -/
namespace Go.Proofs.YtckklclehofddaaGreatDoor.D
open Go.Ax
set_option maxRecDepth 1000000
def strip (x : Rec) : Rec := x.to 0
theorem ren_strip (l : List Rec) : (renum l).map strip = l.map strip := by
  unfold renum
  apply List.ext_getElem
  · simp
  · intro i h1 h2; simp [strip, Rec.to]
theorem mv_eq {r : Rng} {l : List Rec} {x : P.Producer} (hl : l.length ≤ 4096) (ho : 0 ≤ x.offset) :
    P.mvP (toOf r l) x = if x.here = true ∧ x.offset < l.length ∧ hasR r (l.getD x.offset.toNat default) = true then ⟨x.id, x.seq, true, (cntR r l x.offset.toNat : Int)⟩ else ⟨x.id, x.seq, false, 0⟩ := by
  obtain ⟨o, e⟩ : ∃ o : Nat, x.offset = o := ⟨x.offset.toNat, by omega⟩
  have e2 : ((o : Int) + 1).toNat = o + 1 := by omega
  unfold P.mvP P.mvOk
  rw [toOf_len, e, Int.toNat_natCast]
  have hm : (if (x.here && (decide (1 < l.length + 1) && (decide ((o : Int) ≤ ((l.length + 1 : Nat) : Int) - 2) && decide ((toOf r l).getD o default < (toOf r l).getD (o + 1) default)))) = true then (⟨x.id, x.seq, true, (toOf r l).getD o default⟩ : P.Producer) else ⟨x.id, x.seq, false, 0⟩) =
      if x.here = true ∧ (o : Int) < l.length ∧ hasR r (l.getD o default) = true then ⟨x.id, x.seq, true, (cntR r l o : Int)⟩ else ⟨x.id, x.seq, false, 0⟩ := by
    by_cases h1 : x.here = true
    · by_cases h2 : o < l.length
      · have h3 : (toOf r l).getD o default = (cntR r l o : Int) := toOf_at hl (by omega)
        have h4 : (toOf r l).getD (o + 1) default = (cntR r l (o + 1) : Int) := toOf_at hl (by omega)
        have h5 := cnt_succ (r := r) h2
        have h6 : l.getD o default = l[o] := by simp [h2]
        rw [h3, h4, h6]
        have h7 : (o : Int) ≤ ((l.length + 1 : Nat) : Int) - 2 := by omega
        have h8 : 1 < l.length + 1 := by omega
        have h9 : (o : Int) < l.length := by omega
        cases hs : hasR r l[o]
        · rw [hs] at h5
          have : ¬ ((cntR r l o : Int) < (cntR r l (o + 1) : Int)) := by simp at h5; omega
          simp [this]
        · rw [hs] at h5
          have : ((cntR r l o : Int) < (cntR r l (o + 1) : Int)) := by simp at h5; omega
          simp only [h1, h7, h8, h9, this, decide_true, Bool.and_true, if_true, and_true]
      · have h7 : ¬ ((o : Int) ≤ ((l.length + 1 : Nat) : Int) - 2) := by omega
        have h9 : ¬ ((o : Int) < l.length) := by omega
        simp only [h1, h7, h9, decide_false, Bool.false_and, Bool.and_false, false_and, and_false, if_false]
        rfl
    · have h1 : x.here = false := by simpa using h1
      simp [h1]
  exact hm
theorem el_eq {r : Rng} {l : List Rec} {o : Int} (hl : l.length ≤ 4096) (ho : 0 ≤ o) : elemO (toOf r l) o = (cntR r l (min o l.length).toNat : Int) := by
  unfold elemO
  rw [toOf_len]
  have : (min o (((l.length + 1 : Nat) : Int) - 1)).toNat = (min o l.length).toNat := by congr 1; omega
  rw [this]
  exact toOf_at0 hl (by omega)
def frz (p : Part) (f : Int) : Part := ⟨p.rng, p.epoch, f, p.recs, p.prods, p.cons⟩
end Go.Proofs.YtckklclehofddaaGreatDoor.D

/-! Lineage: within: the conditions. -/
namespace Go.Proofs.YtckklclehofddaaGreatDoor.D
open Go.Ax
set_option maxRecDepth 1000000
def valS (x : Rec) : ByteArray := strN x.val.length (cellsOf' encB x.val)
def matR (x y : Rec) : Bool := y.prod == x.prod && (y.seq == x.seq && (y.key.data.toList == x.key.data.toList && (valS y).data.toList == (valS x).data.toList))
def nxtW (l m : List Rec) (k s : Nat) : Nat := s + (m.drop s).findIdx (matR (l.getD k default))
def atW (l m : List Rec) : Nat → Nat
  | 0 => 0
  | k + 1 => nxtW l m k (atW l m k) + 1
def emb (l m : List Rec) : Prop := (l.map strip).Sublist (m.map strip)
def wiT (b1 b2 : Bool) (l m : List Rec) (i s : Nat) : List AV := mkT 79 [(0, encRs b1 l), (1, encRs b2 m), (4, .s (.bool false)), (5, .y (.int .i64 s)), (6, .y (.int .i64 i))]
def wiS (b1 b2 : Bool) (l m : List Rec) (i : Nat) (j : Nat) : Exit × List AV × List Blk := (.exit 2, wiT b1 b2 l m i j, [])
def wiX : List Nat := [0, 1, 2, 3]
def vcWi (b1 : Bool) (b2 : Bool) (l : List Rec) (m : List Rec) (i : Nat) (s : Nat) : Prop :=
  (decide ((↑s : Int) < (↑(List.length m) : Int)) = true →
      (true && decide ((↑s : Int) < (↑(List.length m) : Int))) = true ∧
        (true && decide ((↑i : Int) < (↑(List.length l) : Int))) = true ∧
          (((List.getD m (Int.toNat (↑s : Int)) (@default Rec instInhabitedRec)).prod != (List.getD l (Int.toNat (↑i : Int)) (@default Rec instInhabitedRec)).prod) = true → ∃ (j : Nat), List.length m - j < List.length m - s ∧ (((b1 = b1 ∧ List.length l = List.length l ∧ contLe (List.length l) (5 : Nat) (cellsOf' encR l) (cellsOf' encR l)) ∧ (b2 = b2 ∧ List.length m = List.length m ∧ contLe (List.length m) (5 : Nat) (cellsOf' encR m) (cellsOf' encR m)) ∧ false = false ∧ IntKind.wrap IntKind.i64 ((↑s : Int) + (1 : Int)) = (↑j : Int) ∧ (↑i : Int) = (↑i : Int) ∧ True) ∧ True ∧ true = true) ∧ true = true ∧ nxtW l m i j = nxtW l m i s) ∧
            (((List.getD m (Int.toNat (↑s : Int)) (@default Rec instInhabitedRec)).prod != (List.getD l (Int.toNat (↑i : Int)) (@default Rec instInhabitedRec)).prod) = false →
              (true && decide ((↑s : Int) < (↑(List.length m) : Int))) = true ∧
                (true && decide ((↑i : Int) < (↑(List.length l) : Int))) = true ∧
                  (((List.getD m (Int.toNat (↑s : Int)) (@default Rec instInhabitedRec)).seq != (List.getD l (Int.toNat (↑i : Int)) (@default Rec instInhabitedRec)).seq) = true → ∃ (j : Nat), List.length m - j < List.length m - s ∧ (((b1 = b1 ∧ List.length l = List.length l ∧ contLe (List.length l) (5 : Nat) (cellsOf' encR l) (cellsOf' encR l)) ∧ (b2 = b2 ∧ List.length m = List.length m ∧ contLe (List.length m) (5 : Nat) (cellsOf' encR m) (cellsOf' encR m)) ∧ false = false ∧ IntKind.wrap IntKind.i64 ((↑s : Int) + (1 : Int)) = (↑j : Int) ∧ (↑i : Int) = (↑i : Int) ∧ True) ∧ True ∧ true = true) ∧ true = true ∧ nxtW l m i j = nxtW l m i s) ∧
                    (((List.getD m (Int.toNat (↑s : Int)) (@default Rec instInhabitedRec)).seq != (List.getD l (Int.toNat (↑i : Int)) (@default Rec instInhabitedRec)).seq) = false →
                      (true && decide ((↑s : Int) < (↑(List.length m) : Int))) = true ∧
                        (true && decide ((↑i : Int) < (↑(List.length l) : Int))) = true ∧
                          ((!(List.getD m (Int.toNat (↑s : Int)) (@default Rec instInhabitedRec)).key.data.toList == (List.getD l (Int.toNat (↑i : Int)) (@default Rec instInhabitedRec)).key.data.toList) = true → ∃ (j : Nat), List.length m - j < List.length m - s ∧ (((b1 = b1 ∧ List.length l = List.length l ∧ contLe (List.length l) (5 : Nat) (cellsOf' encR l) (cellsOf' encR l)) ∧ (b2 = b2 ∧ List.length m = List.length m ∧ contLe (List.length m) (5 : Nat) (cellsOf' encR m) (cellsOf' encR m)) ∧ false = false ∧ IntKind.wrap IntKind.i64 ((↑s : Int) + (1 : Int)) = (↑j : Int) ∧ (↑i : Int) = (↑i : Int) ∧ True) ∧ True ∧ true = true) ∧ true = true ∧ nxtW l m i j = nxtW l m i s) ∧
                            ((!(List.getD m (Int.toNat (↑s : Int)) (@default Rec instInhabitedRec)).key.data.toList == (List.getD l (Int.toNat (↑i : Int)) (@default Rec instInhabitedRec)).key.data.toList) = false →
                              (true && decide ((↑s : Int) < (↑(List.length m) : Int))) = true ∧
                                (∀ (k : Nat), k < List.length (List.getD m (Int.toNat (↑s : Int)) (@default Rec instInhabitedRec)).val → true = true) ∧
                                  (true && decide ((↑i : Int) < (↑(List.length l) : Int))) = true ∧
                                    (∀ (k : Nat), k < List.length (List.getD l (Int.toNat (↑i : Int)) (@default Rec instInhabitedRec)).val → true = true) ∧
                                      ((!List.map
                                                  (fun (a : AV) =>
                                                    match
                                                      match a with
                                                      | AV.s (Value.int IntKind.u8 n) => some n
                                                      | AV.y (Value.int IntKind.u8 n) => some n
                                                      | x => none with
                                                    | some n => UInt8.ofNat (Int.toNat n)
                                                    | none => (0 : UInt8))
                                                  (List.map (fun (k : Nat) => AV.y (Value.int IntKind.u8 (List.getD (List.getD m (Int.toNat (↑s : Int)) (@default Rec instInhabitedRec)).val k (0 : Int)))) (List.range (List.length (List.getD m (Int.toNat (↑s : Int)) (@default Rec instInhabitedRec)).val))) ==
                                                List.map
                                                  (fun (a : AV) =>
                                                    match
                                                      match a with
                                                      | AV.s (Value.int IntKind.u8 n) => some n
                                                      | AV.y (Value.int IntKind.u8 n) => some n
                                                      | x => none with
                                                    | some n => UInt8.ofNat (Int.toNat n)
                                                    | none => (0 : UInt8))
                                                  (List.map (fun (k : Nat) => AV.y (Value.int IntKind.u8 (List.getD (List.getD l (Int.toNat (↑i : Int)) (@default Rec instInhabitedRec)).val k (0 : Int)))) (List.range (List.length (List.getD l (Int.toNat (↑i : Int)) (@default Rec instInhabitedRec)).val)))) =
                                            true →
                                          ∃ (j : Nat), List.length m - j < List.length m - s ∧ (((b1 = b1 ∧ List.length l = List.length l ∧ contLe (List.length l) (5 : Nat) (cellsOf' encR l) (cellsOf' encR l)) ∧ (b2 = b2 ∧ List.length m = List.length m ∧ contLe (List.length m) (5 : Nat) (cellsOf' encR m) (cellsOf' encR m)) ∧ false = false ∧ IntKind.wrap IntKind.i64 ((↑s : Int) + (1 : Int)) = (↑j : Int) ∧ (↑i : Int) = (↑i : Int) ∧ True) ∧ True ∧ true = true) ∧ true = true ∧ nxtW l m i j = nxtW l m i s) ∧
                                        ((!List.map
                                                  (fun (a : AV) =>
                                                    match
                                                      match a with
                                                      | AV.s (Value.int IntKind.u8 n) => some n
                                                      | AV.y (Value.int IntKind.u8 n) => some n
                                                      | x => none with
                                                    | some n => UInt8.ofNat (Int.toNat n)
                                                    | none => (0 : UInt8))
                                                  (List.map (fun (k : Nat) => AV.y (Value.int IntKind.u8 (List.getD (List.getD m (Int.toNat (↑s : Int)) (@default Rec instInhabitedRec)).val k (0 : Int)))) (List.range (List.length (List.getD m (Int.toNat (↑s : Int)) (@default Rec instInhabitedRec)).val))) ==
                                                List.map
                                                  (fun (a : AV) =>
                                                    match
                                                      match a with
                                                      | AV.s (Value.int IntKind.u8 n) => some n
                                                      | AV.y (Value.int IntKind.u8 n) => some n
                                                      | x => none with
                                                    | some n => UInt8.ofNat (Int.toNat n)
                                                    | none => (0 : UInt8))
                                                  (List.map (fun (k : Nat) => AV.y (Value.int IntKind.u8 (List.getD (List.getD l (Int.toNat (↑i : Int)) (@default Rec instInhabitedRec)).val k (0 : Int)))) (List.range (List.length (List.getD l (Int.toNat (↑i : Int)) (@default Rec instInhabitedRec)).val)))) =
                                            false →
                                          ((b1 = b1 ∧ List.length l = List.length l ∧ contLe (List.length l) (5 : Nat) (cellsOf' encR l) (cellsOf' encR l)) ∧ (b2 = b2 ∧ List.length m = List.length m ∧ contLe (List.length m) (5 : Nat) (cellsOf' encR m) (cellsOf' encR m)) ∧ false = false ∧ (↑s : Int) = (↑(nxtW l m i s) : Int) ∧ (↑i : Int) = (↑i : Int) ∧ True) ∧ True ∧ true = true))))) ∧
    (decide ((↑s : Int) < (↑(List.length m) : Int)) = false → ((b1 = b1 ∧ List.length l = List.length l ∧ contLe (List.length l) (5 : Nat) (cellsOf' encR l) (cellsOf' encR l)) ∧ (b2 = b2 ∧ List.length m = List.length m ∧ contLe (List.length m) (5 : Nat) (cellsOf' encR m) (cellsOf' encR m)) ∧ false = false ∧ (↑s : Int) = (↑(nxtW l m i s) : Int) ∧ (↑i : Int) = (↑i : Int) ∧ True) ∧ True ∧ true = true)
set_option maxRecDepth 1000000 in
theorem vcWi_eq (b1 : Bool) (b2 : Bool) (l : List Rec) (m : List Rec) (i : Nat) (s : Nat) : (loopVC Tryz.prog (hT _) 16 5 (fun s => m.length - s) (wiT b1 b2 l m i) (fun _ => []) wiX (fun s => .ret (nxtW l m i s)) (wiS b1 b2 l m i) s) = vcWi b1 b2 l m i s := by kernel_rfl
noncomputable def woH (b1 b2 : Bool) (l m : List Rec) (i : Nat) : HintsT Tryz.prog := hh _ (lp1 16 5 (jobOf (wiT b1 b2 l m i) (fun _ => []) wiX (fun s => .ret (nxtW l m i s)) (wiS b1 b2 l m i) (atW l m i)) noLp) noCs noOp
def woT (b1 b2 : Bool) (l m : List Rec) (k : { k : Nat // k ≤ l.length }) : List AV := wiT b1 b2 l m k.1 (atW l m k.1)
def woS (_ : Unit) : Exit × List AV × List Blk := (.exit 0, mkT 79 [], [])
def vcWo (b1 : Bool) (b2 : Bool) (l : List Rec) (m : List Rec) (k : { k : Nat // k ≤ l.length }) : Prop :=
  (decide ((↑k.val : Int) < (↑(List.length l) : Int)) = true → (((b1 = b1 ∧ List.length l = List.length l ∧ contLe (List.length l) (5 : Nat) (cellsOf' encR l) (cellsOf' encR l)) ∧ (b2 = b2 ∧ List.length m = List.length m ∧ contLe (List.length m) (5 : Nat) (cellsOf' encR m) (cellsOf' encR m)) ∧ false = false ∧ (↑(atW l m k.val) : Int) = (↑(atW l m k.val) : Int) ∧ (↑k.val : Int) = (↑k.val : Int) ∧ True) ∧ True ∧ true = true) ∧ LoopOk Tryz.prog (16 : Nat) (5 : Nat) (loopAt Tryz.prog (16 : Nat) (5 : Nat)) { t := wiT b1 b2 l m k.val (atW l m k.val), m := [], mv := [] : St } (T.map (lout wiX (wiS b1 b2 l m k.val)) ((fun (s : Nat) => T.ret (nxtW l m k.val s)) (atW l m k.val))) ∧ (((↑(nxtW l m k.val (atW l m k.val)) : Int) == (↑(List.length m) : Int)) = true → False) ∧ (((↑(nxtW l m k.val (atW l m k.val)) : Int) == (↑(List.length m) : Int)) = false → ∃ (j : { k : Nat // k ≤ List.length l }), List.length l - j.val < List.length l - k.val ∧ (((b1 = b1 ∧ List.length l = List.length l ∧ contLe (List.length l) (5 : Nat) (cellsOf' encR l) (cellsOf' encR l)) ∧ (b2 = b2 ∧ List.length m = List.length m ∧ contLe (List.length m) (5 : Nat) (cellsOf' encR m) (cellsOf' encR m)) ∧ false = false ∧ IntKind.wrap IntKind.i64 ((↑(nxtW l m k.val (atW l m k.val)) : Int) + (1 : Int)) = (↑(atW l m j.val) : Int) ∧ IntKind.wrap IntKind.i64 ((↑k.val : Int) + (1 : Int)) = (↑j.val : Int) ∧ True) ∧ True ∧ true = true) ∧ true = true ∧ () = ())) ∧ (decide ((↑k.val : Int) < (↑(List.length l) : Int)) = false → True ∧ True ∧ true = true)
set_option maxRecDepth 1000000 in
theorem vcWo_eq (b1 : Bool) (b2 : Bool) (l : List Rec) (m : List Rec) (k : { k : Nat // k ≤ l.length }) : (loopVC Tryz.prog (woH b1 b2 l m k.1) 16 3 (fun (k : { k : Nat // k ≤ l.length }) => l.length - k.1) (woT b1 b2 l m) (fun _ => []) wiX (fun _ => .ret ()) woS k) = vcWo b1 b2 l m k := by kernel_rfl
noncomputable def wtH (b1 b2 : Bool) (l m : List Rec) : HintsT Tryz.prog := hh _ (lp1 16 3 (jobOf (woT b1 b2 l m) (fun _ => []) wiX (fun _ => .ret ()) woS ⟨0, Nat.zero_le _⟩) noLp) noCs noOp
def vcWt (b1 : Bool) (b2 : Bool) (l : List Rec) (m : List Rec) : Prop :=
  (((b1 = b1 ∧ List.length l = List.length l ∧ contLe (List.length l) (5 : Nat) (cellsOf' encR l) (cellsOf' encR l)) ∧ (b2 = b2 ∧ List.length m = List.length m ∧ contLe (List.length m) (5 : Nat) (cellsOf' encR m) (cellsOf' encR m)) ∧ false = false ∧ (0 : Int) = (↑(atW l m (0 : Nat)) : Int) ∧ (0 : Int) = (0 : Int) ∧ True) ∧ True ∧ true = true) ∧ LoopOk Tryz.prog (16 : Nat) (3 : Nat) (loopAt Tryz.prog (16 : Nat) (3 : Nat)) { t := woT b1 b2 l m (⟨(0 : Nat), wtH._proof_1 l⟩ : { k : Nat // k ≤ List.length l }), m := [], mv := [] : St } (T.map (lout wiX woS) ((fun (x : { k : Nat // k ≤ List.length l }) => T.ret ()) (⟨(0 : Nat), wtH._proof_1 l⟩ : { k : Nat // k ≤ List.length l }))) ∧ true = true ∧ True
set_option maxRecDepth 1000000 in
theorem vcWt_eq (b1 : Bool) (b2 : Bool) (l : List Rec) (m : List Rec) : (ctrVC Tryz.prog (wtH b1 b2 l m) 16 [encRs b1 l, encRs b2 m] [] (boolR true)) = vcWt b1 b2 l m := by kernel_rfl
end Go.Proofs.YtckklclehofddaaGreatDoor.D
