import Derived.Test.YtnbhdjadlbhknaaGreatDoorW3
import Derived.Test.YtnbhdjadlbhknaaGreatDoorW5
set_option linter.unusedVariables false
set_option linter.unusedSimpArgs false
set_option linter.unusedSectionVars false
namespace Go.Proofs.YtnbhdjadlbhknaaGreatDoor.R
open Go.Ax
set_option maxRecDepth 1000000
noncomputable def pclC (b : Bool) (l : List P.Producer) : Ctr Tryz.prog := ⟨101, [P.encPs b l], [], .need (l.length * 32 ≤ 140737488355328) (P.clnR l), T.Sat.need fun h => P.clone_c b l h⟩
noncomputable def cclC (b : Bool) (l : List Con) : Ctr Tryz.prog := ⟨102, [encCs b l], [], .need (l.length * 24 ≤ 140737488355328) (ccR l), T.Sat.need fun h => cc_c b l h⟩
def poT (b : Bool) (p : Part) (k : Nat) : List AV := mkT 37 [(1, .ptr 0 0 0 0), (2, .ptr 1 0 0 0), (3, .own 2 5 0 (p.recs.take k).length), (11, encRs b p.recs), (12, .y (.int .i64 p.recs.length)), (13, .y (.int .i64 k))]
def poM (b : Bool) (p : Part) (k : Nat) : List Blk := [.box 30 (encPt b p), .box 30 (encPt true default), rowR (p.recs.take k)]
def poS (b : Bool) (p : Part) (_ : Unit) : Exit × List AV × List Blk := (.exit 0, mkT 37 [(1, .ptr 0 0 0 0), (2, .ptr 1 0 0 0), (3, .own 2 5 0 p.recs.length)], [.box 30 (encPt b p), .box 30 (encPt true default), rowR p.recs])
noncomputable def poH (p : Part) (k : Nat) : HintsT Tryz.prog := withSh (hh _ noLp (cs1 39 5 2 (clnC true (p.recs.getD k default).val.length (cellsOf' encB (p.recs.getD k default).val)) noCs) noOp) (sh1 39 6 1 779 noSh)
def vcPoL (b : Bool) (p : Part) (k : Nat) : Prop :=
  (decide ((↑k : Int) < (↑(List.length p.recs) : Int)) = true → (true && decide ((↑k : Int) < (↑(List.length p.recs) : Int))) = true ∧ ((true = true ∧ List.length (List.getD p.recs (Int.toNat (↑k : Int)) (@default Rec instInhabitedRec)).val = List.length (List.getD p.recs k (@default Rec instInhabitedRec)).val ∧ contLe (List.length (List.getD p.recs (Int.toNat (↑k : Int)) (@default Rec instInhabitedRec)).val) (1 : Nat) (cellsOf' encB (List.getD p.recs (Int.toNat (↑k : Int)) (@default Rec instInhabitedRec)).val) (cellsOf' encB (List.getD p.recs k (@default Rec instInhabitedRec)).val)) ∧ True) ∧ True ∧ List.length (List.getD p.recs k (@default Rec instInhabitedRec)).val ≤ (140737488355328 : Nat) ∧ (∀ (k_1 : Nat), k_1 < List.length (List.getD p.recs k (@default Rec instInhabitedRec)).val → ∀ (j : Nat), j < (1 : Nat) → tagT (cellsOf' encB (List.getD p.recs k (@default Rec instInhabitedRec)).val k_1 j) = true) ∧ (decide (List.length (List.take k p.recs) = List.length (List.take k p.recs)) && decide (List.length (List.take k p.recs) + (1 : Nat) ≤ (9223372036854775807 : Nat)) && decide ((List.length (List.take k p.recs) + (1 : Nat)) * (64 : Nat) ≤ (140737488355328 : Nat))) = true ∧ ∃ (j : Nat), List.length p.recs - j < List.length p.recs - k ∧ ((((0 : Nat) = (0 : Nat) ∧ (0 : Nat) = (0 : Nat)) ∧ ((0 : Nat) = (0 : Nat) ∧ (0 : Nat) = (0 : Nat)) ∧ ((0 : Nat) = (0 : Nat) ∧ List.length (List.take k p.recs) + (1 : Nat) = List.length (List.take j p.recs)) ∧ (b = b ∧ List.length p.recs = List.length p.recs ∧ contLe (List.length p.recs) (5 : Nat) (cellsOf' encR p.recs) (cellsOf' encR p.recs)) ∧ (↑(List.length p.recs) : Int) = (↑(List.length p.recs) : Int) ∧ IntKind.wrap IntKind.i64 ((↑k : Int) + (1 : Int)) = (↑j : Int) ∧ True) ∧ ((ptLe b b p p) ∧ (ByteArray.empty = ByteArray.empty ∧ ByteArray.empty = ByteArray.empty ∧ (0 : Int) = (0 : Int) ∧ (0 : Int) = (0 : Int) ∧ (true = true ∧ (0 : Nat) = (0 : Nat) ∧ contLe (0 : Nat) (5 : Nat) (cellsOf' encR []) (cellsOf' encR [])) ∧ (true = true ∧ (0 : Nat) = (0 : Nat) ∧ contLe (0 : Nat) (4 : Nat) (cellsOf' P.encP []) (cellsOf' P.encP [])) ∧ (true = true ∧ (0 : Nat) = (0 : Nat) ∧ contLe (0 : Nat) (2 : Nat) (cellsOf' encC []) (cellsOf' encC [])) ∧ True) ∧ (List.length (List.take k p.recs) + (1 : Nat) = List.length (List.take j p.recs) ∧ contLe (List.length (List.take k p.recs) + (1 : Nat)) (5 : Nat) (appRow (List.length (List.take k p.recs)) (cellsOf' encR (List.take k p.recs)) fun (k_1 j : Nat) => Ax.get [AV.y (Value.int IntKind.u64 (List.getD p.recs (Int.toNat (↑k : Int)) (@default Rec instInhabitedRec)).off), AV.y (Value.string (List.getD p.recs (Int.toNat (↑k : Int)) (@default Rec instInhabitedRec)).key), AV.ys true (1 : Nat) (List.length (List.getD p.recs k (@default Rec instInhabitedRec)).val) (Ax.rowAt (0 : Nat) (cellsOf' encB (List.getD p.recs k (@default Rec instInhabitedRec)).val)), AV.y (Value.int IntKind.u64 (List.getD p.recs (Int.toNat (↑k : Int)) (@default Rec instInhabitedRec)).prod), AV.y (Value.int IntKind.u64 (List.getD p.recs (Int.toNat (↑k : Int)) (@default Rec instInhabitedRec)).seq)] (k_1 * (5 : Nat) + j)) (cellsOf' encR (List.take j p.recs))) ∧ True) ∧ true = true) ∧ true = true ∧ () = ()) ∧ (decide ((↑k : Int) < (↑(List.length p.recs) : Int)) = false → (((0 : Nat) = (0 : Nat) ∧ (0 : Nat) = (0 : Nat)) ∧ ((0 : Nat) = (0 : Nat) ∧ (0 : Nat) = (0 : Nat)) ∧ ((0 : Nat) = (0 : Nat) ∧ List.length (List.take k p.recs) = List.length p.recs) ∧ True) ∧ ((ptLe b b p p) ∧ (ByteArray.empty = ByteArray.empty ∧ ByteArray.empty = ByteArray.empty ∧ (0 : Int) = (0 : Int) ∧ (0 : Int) = (0 : Int) ∧ (true = true ∧ (0 : Nat) = (0 : Nat) ∧ contLe (0 : Nat) (5 : Nat) (cellsOf' encR []) (cellsOf' encR [])) ∧ (true = true ∧ (0 : Nat) = (0 : Nat) ∧ contLe (0 : Nat) (4 : Nat) (cellsOf' P.encP []) (cellsOf' P.encP [])) ∧ (true = true ∧ (0 : Nat) = (0 : Nat) ∧ contLe (0 : Nat) (2 : Nat) (cellsOf' encC []) (cellsOf' encC [])) ∧ True) ∧ (List.length (List.take k p.recs) = List.length p.recs ∧ contLe (List.length (List.take k p.recs)) (5 : Nat) (cellsOf' encR (List.take k p.recs)) (cellsOf' encR p.recs)) ∧ True) ∧ true = true)
theorem vcPoL_eq (b : Bool) (p : Part) (k : Nat) : (loopVC Tryz.prog (poH p k) 39 3 (fun k => p.recs.length - k) (poT b p) (poM b p) [0, 1, 2, 3, 4, 5, 6] (fun _ => .ret ()) (poS b p) k) = vcPoL b p k := by kernel_rfl
def ptR (p : Part) : T An := .ret (.agg (encPt true p), [], [])
noncomputable def pownH (b : Bool) (p : Part) : HintsT Tryz.prog := withSh (hh _ (lp1 39 3 (jobOf (poT b p) (poM b p) [0, 1, 2, 3, 4, 5, 6] (fun _ => .ret ()) (poS b p) 0) noLp) (cs1 39 8 3 (pclC b p.prods) (cs1 39 8 6 (cclC b p.cons) noCs)) noOp) (sh1 39 9 0 779 noSh)
def vcPown (b : Bool) (p : Part) : Prop :=
  (0 : Int) ≤ (0 : Int) ∧ (0 : Int) ≤ (↑(List.length p.recs) : Int) ∧ (64 : Int) * (↑(List.length p.recs) : Int) ≤ (281474976710656 : Int) ∧ (↑(List.length p.recs) : Int) ≤ (9223372036854775807 : Int) ∧ ((((0 : Nat) = (0 : Nat) ∧ (0 : Nat) = (0 : Nat)) ∧ ((0 : Nat) = (0 : Nat) ∧ (0 : Nat) = (0 : Nat)) ∧ ((0 : Nat) = (0 : Nat) ∧ (0 : Nat) = (0 : Nat)) ∧ (b = b ∧ List.length p.recs = List.length p.recs ∧ contLe (List.length p.recs) (5 : Nat) (cellsOf' encR p.recs) (cellsOf' encR p.recs)) ∧ (↑(List.length p.recs) : Int) = (↑(List.length p.recs) : Int) ∧ (0 : Int) = (0 : Int) ∧ True) ∧ ((ptLe b b p p) ∧ ({ data := #[] : ByteArray } = ByteArray.empty ∧ { data := #[] : ByteArray } = ByteArray.empty ∧ (0 : Int) = (0 : Int) ∧ (0 : Int) = (0 : Int) ∧ (0 : Nat) = (0 : Nat) ∧ (0 : Nat) = (0 : Nat) ∧ (0 : Nat) = (0 : Nat) ∧ True) ∧ ((0 : Nat) = (0 : Nat) ∧ contLe (0 : Nat) (5 : Nat) (fun (x j : Nat) => Ax.get [AV.s (Value.int IntKind.u64 (0 : Int)), AV.s (Value.string { data := #[] : ByteArray }), AV.s (Value.slice none (0 : Nat) (0 : Nat)), AV.s (Value.int IntKind.u64 (0 : Int)), AV.s (Value.int IntKind.u64 (0 : Int))] j) (cellsOf' encR [])) ∧ True) ∧ true = true) ∧ LoopOk Tryz.prog (39 : Nat) (3 : Nat) (loopAt Tryz.prog (39 : Nat) (3 : Nat)) { t := poT b p (0 : Nat), m := poM b p (0 : Nat), mv := [] : St } (T.map (lout [(0 : Nat), (1 : Nat), (2 : Nat), (3 : Nat), (4 : Nat), (5 : Nat), (6 : Nat)] (poS b p)) ((fun (x : Nat) => T.ret ()) (0 : Nat))) ∧ ((b = b ∧ List.length p.prods = List.length p.prods ∧ contLe (List.length p.prods) (4 : Nat) (cellsOf' P.encP p.prods) (cellsOf' P.encP p.prods)) ∧ True) ∧ True ∧ List.length p.prods * (32 : Nat) ≤ (140737488355328 : Nat) ∧ ((b = b ∧ List.length p.cons = List.length p.cons ∧ contLe (List.length p.cons) (2 : Nat) (cellsOf' encC p.cons) (cellsOf' encC p.cons)) ∧ True) ∧ True ∧ List.length p.cons * (24 : Nat) ≤ (140737488355328 : Nat) ∧ (∀ (k : Nat), k < List.length p.recs → ∀ (j : Nat), j < (5 : Nat) → tagT (cellsOf' encR p.recs k j) = true) ∧ (∀ (k : Nat), k < List.length p.prods → ∀ (j : Nat), j < (4 : Nat) → tagT (cellsOf' P.encP p.prods k j) = true) ∧ (∀ (k : Nat), k < List.length p.cons → ∀ (j : Nat), j < (2 : Nat) → tagT (cellsOf' encC p.cons k j) = true) ∧ (p.rng.lo = p.rng.lo ∧ p.rng.hi = p.rng.hi ∧ p.epoch = p.epoch ∧ p.frozen = p.frozen ∧ (true = true ∧ List.length p.recs = List.length p.recs ∧ contLe (List.length p.recs) (5 : Nat) (Ax.rowAt (0 : Nat) (cellsOf' encR p.recs)) (cellsOf' encR p.recs)) ∧ (true = true ∧ List.length p.prods = List.length p.prods ∧ contLe (List.length p.prods) (4 : Nat) (Ax.rowAt (0 : Nat) (cellsOf' P.encP p.prods)) (cellsOf' P.encP p.prods)) ∧ (true = true ∧ List.length p.cons = List.length p.cons ∧ contLe (List.length p.cons) (2 : Nat) (Ax.rowAt (0 : Nat) (cellsOf' encC p.cons)) (cellsOf' encC p.cons)) ∧ True) ∧ True
theorem vcPown_eq (b : Bool) (p : Part) : (ctrVC Tryz.prog (pownH b p) 39 [.agg (encPt b p)] [] (ptR p)) = vcPown b p := by kernel_rfl
noncomputable def juC (b : Bool) (l : List P.Producer) (id s : Int) : Ctr Tryz.prog := ⟨98, [P.encPs b l, .y (.int .u64 id), .y (.int .u64 s)], [], .need (l.length ≤ 9223372036854775806) (P.judgeR l id s), T.Sat.need fun h => P.judge_c b l id s h⟩
def okN (c : Cmd) : Bool := !(P.judgeV [] c.prod c.seq == 4)
def wellB (c : Cmd) : Bool := if c.kind = 1 then okN c && (decide ((c.key.size : Int) ≤ 32) && decide ((c.val.length : Int) ≤ 256)) else if c.kind = 2 then decide (1 ≤ c.most) && decide (c.most ≤ 64) else if c.kind = 3 then okN c && nameOk c.name else if c.kind = 4 then nameOk c.name else if c.kind = 5 ∨ c.kind = 6 then !(c.plan == 0) else false
noncomputable def weH (c : Cmd) : HintsT Tryz.prog := hh _ noLp (cs1 38 3 4 (juC true [] c.prod c.seq) (cs1 38 8 4 (juC true [] c.prod c.seq) (cs1 38 9 5 (nameC c.name) (cs1 38 11 2 (nameC c.name) noCs)))) noOp
def vcWe (c : Cmd) : Prop :=
  ((c.kind == (1 : Int)) = true → ((0 : Nat) = (0 : Nat) ∧ c.prod = c.prod ∧ c.seq = c.seq ∧ True) ∧ True ∧ (0 : Nat) ≤ (9223372036854775806 : Nat) ∧ ((P.judgeV [] c.prod c.seq != (4 : Int)) = true → (decide ((↑(ByteArray.size c.key) : Int) ≤ (32 : Int)) = true → decide ((↑(List.length c.val) : Int) ≤ (256 : Int)) = wellB c ∧ True) ∧ (decide ((↑(ByteArray.size c.key) : Int) ≤ (32 : Int)) = false → false = wellB c ∧ True)) ∧ ((P.judgeV [] c.prod c.seq != (4 : Int)) = false → false = wellB c ∧ True)) ∧ ((c.kind == (1 : Int)) = false → ((c.kind == (2 : Int)) = true → (decide ((1 : Int) ≤ c.most) = true → decide (c.most ≤ (64 : Int)) = wellB c ∧ True) ∧ (decide ((1 : Int) ≤ c.most) = false → false = wellB c ∧ True)) ∧ ((c.kind == (2 : Int)) = false → ((c.kind == (3 : Int)) = true → ((0 : Nat) = (0 : Nat) ∧ c.prod = c.prod ∧ c.seq = c.seq ∧ True) ∧ True ∧ (0 : Nat) ≤ (9223372036854775806 : Nat) ∧ ((P.judgeV [] c.prod c.seq != (4 : Int)) = true → (c.name = c.name ∧ True) ∧ True ∧ nameOk c.name = wellB c ∧ True) ∧ ((P.judgeV [] c.prod c.seq != (4 : Int)) = false → false = wellB c ∧ True)) ∧ ((c.kind == (3 : Int)) = false → ((c.kind == (4 : Int)) = true → (c.name = c.name ∧ True) ∧ True ∧ nameOk c.name = wellB c ∧ True) ∧ ((c.kind == (4 : Int)) = false → ((c.kind == (5 : Int)) = true → (c.plan != (0 : Int)) = wellB c ∧ True) ∧ ((c.kind == (5 : Int)) = false → ((c.kind == (6 : Int)) = true → (c.plan != (0 : Int)) = wellB c ∧ True) ∧ ((c.kind == (6 : Int)) = false → false = wellB c ∧ True))))))
theorem vcWe_eq (c : Cmd) : (ctrVC Tryz.prog (weH c) 38 [.agg (encCm c)] [] (boolR (wellB c))) = vcWe c := by kernel_rfl
end Go.Proofs.YtnbhdjadlbhknaaGreatDoor.R

namespace Go.Proofs.YtnbhdjadlbhknaaGreatDoor.D
open Go.Ax
set_option maxRecDepth 1000000
def beqB (a b : ByteArray) : Bool := a.data.toList == b.data.toList
def splE (r : Rng) (k : ByteArray) : Int := if !(chkK r == 0) then chkK r else if 32 < k.size then 131 else if (beqB k r.lo || !hasK r k) = true then 132 else 0
structure PartTy (p : Part) : Prop where
  rl : p.recs.length ≤ 4611686018427387903
  pl : p.prods.length ≤ 4611686018427387903
  cl : p.cons.length ≤ 4611686018427387903
  po : ∀ x ∈ p.prods, 0 ≤ x.offset ∧ x.offset < 18446744073709551616
  co : wfC p.cons
theorem PartTy.isIn {p : Part} (h : PartTy p) : PartIn p := ⟨h.rl, h.pl, h.cl, fun k hk => (h.po _ (by simp [hk])).1⟩
theorem tagP (x : P.Producer) (j : Nat) (hj : j < 4) : tagT (Ax.get (P.encP x) j) = true := by
  match j, hj with
  | 0, _ => rfl
  | 1, _ => rfl
  | 2, _ => rfl
  | 3, _ => rfl
theorem tagC (x : Con) (j : Nat) (hj : j < 2) : tagT (Ax.get (encC x) j) = true := by
  match j, hj with
  | 0, _ => rfl
  | 1, _ => rfl
end Go.Proofs.YtnbhdjadlbhknaaGreatDoor.D

namespace Go.Proofs.YtnbhdjadlbhknaaGreatDoor.D
open Go.Ax
set_option maxRecDepth 1000000
def bad (p : Part) : Bool := !partOk p || IntKind.u64.wrap (p.epoch + 1) == 0
def splitE (p : Part) (k : ByteArray) : Int := if bad p = true then 172 else if p.frozen = 0 then 171 else splE p.rng k
theorem less_irr : ∀ l : List UInt8, Op.bytesLess l l = false
  | [] => rfl
  | a :: l => by simp [Op.bytesLess, less_irr l]
theorem lt_irr (a : ByteArray) : lt a a = false := less_irr _
theorem ok_parts {p : Part} (h : partOk p = true) : chkK p.rng = 0 ∧ p.epoch ≠ 0 ∧ isLog p.recs = true ∧ P.isTable p.prods = true ∧ isCons p.cons = true ∧ orFrom p 0 = true ∧ p.prods.any (lostB p) = false ∧ p.cons.any (aheadB p.recs.length) = false := by
  simp only [partOk, Bool.and_eq_true, Bool.not_eq_true', beq_iff_eq] at h
  obtain ⟨a, b, c, d, e, f, g, i⟩ := h
  exact ⟨a, by simpa using b, c, d, e, f, g, i⟩
end Go.Proofs.YtnbhdjadlbhknaaGreatDoor.D

namespace Go.Proofs.YtnbhdjadlbhknaaGreatDoor.R
open Go.Ax
set_option maxRecDepth 1000000
structure PoOk (p : Part) : Prop where
  n : p.recs.length ≤ 4096
  v : ∀ k, k < p.recs.length → (p.recs.getD k default).val.length ≤ 140737488355328
  pl : p.prods.length ≤ 4294967296
  cl : p.cons.length ≤ 4294967296
theorem po_loop (b : Bool) (p : Part) (h : PoOk p) (k : Nat) : LoopOk Tryz.prog 39 3 (loopAt Tryz.prog 39 3) ⟨poT b p k, poM b p k, []⟩ (T.map (lout [0, 1, 2, 3, 4, 5, 6] (poS b p)) (.ret ())) := by
  refine loop_vcH (P := Tryz.prog) (f := 39) (k := 3) (ι := Nat) (μ := fun k => p.recs.length - k) (o := fun _ => .ret ()) (ht := poH p) (stT := poT b p) (stM := poM b p) (X := [0, 1, 2, 3, 4, 5, 6]) (S := poS b p) Tryz.mixed (fun _ => rfl) (fun k => ?_) k
  rw [vcPoL_eq b p k]
  unfold vcPoL
  have hn := h.n
  have hv := h.v
  generalize p.recs = l at *
  by_cases hk : k < l.length
  · have hz : decide ((k : Int) < l.length) = true := by simp; omega
    have hv := hv k hk
    have hw : IntKind.i64.wrap ((k : Int) + 1) = ((k + 1 : Nat) : Int) := by rw [wrap_i64 (by omega) (by omega)]; omega
    have ht := take_one hk
    have hl : (l.take k).length = k := by simp; omega
    rw [Int.toNat_natCast]
    simp only [hz, hw]
    generalize l.getD k default = x at *
    have tg : ∀ (i : Nat), i < x.val.length → ∀ (j : Nat), j < 1 → tagT (cellsOf' encB x.val i j) = true := fun i hi j hj => by
      obtain rfl : j = 0 := by omega
      rfl
    have hm : min k l.length = k := by omega
    have ha := app_rec (l.take k) x
    rw [hl] at ha
    simp [tg]
    rw [hm]
    refine ⟨hv, fun i hi => rfl, ⟨by omega, by omega⟩, k + 1, by omega, ⟨by omega, by omega⟩, by omega, ?_⟩
    rw [ht]
    exact ha
  · have hz : decide ((k : Int) < l.length) = false := by simp; omega
    have e1 : l.take k = l := List.take_of_length_le (by omega)
    simp only [hz]
    simp [e1]
theorem pown_c (b : Bool) (p : Part) (h : PoOk p) : (ptR p).Sat (ACall' Tryz.prog 39 [.agg (encPt b p)] []) := by
  refine ctr_vc (ht := pownH b p) Tryz.mixed rfl ?_
  rw [vcPown_eq b p]
  unfold vcPown
  have hn := h.n
  have hp := h.pl
  have hc := h.cl
  have lp := po_loop b p h 0
  have t1 : ∀ (k : Nat), k < p.recs.length → ∀ (j : Nat), j < 5 → tagT (cellsOf' encR p.recs k j) = true := fun k _ j hj => tagR _ j hj
  have t2 : ∀ (k : Nat), k < p.prods.length → ∀ (j : Nat), j < 4 → tagT (cellsOf' P.encP p.prods k j) = true := fun k _ j hj => D.tagP _ j hj
  have t3 : ∀ (k : Nat), k < p.cons.length → ∀ (j : Nat), j < 2 → tagT (cellsOf' encC p.cons k j) = true := fun k _ j hj => D.tagC _ j hj
  have eb : ({ data := #[] } : ByteArray) = ByteArray.empty := rfl
  simp only [lp, t1, t2, t3, eb]
  simp
  exact ⟨by omega, by omega, by omega, by omega, t1, t2, t3⟩
theorem we_c (c : Cmd) : (boolR (wellB c)).Sat (ACall' Tryz.prog 38 [.agg (encCm c)] []) := by
  refine ctr_vc (ht := weH c) Tryz.mixed rfl ?_
  rw [vcWe_eq c]
  unfold vcWe wellB okN
  by_cases h1 : c.kind = 1
  · by_cases h2 : P.judgeV [] c.prod c.seq = 4 <;> by_cases h3 : (c.key.size : Int) ≤ 32 <;> simp [h1, h2, h3]
  · by_cases h2 : c.kind = 2
    · by_cases h3 : 1 ≤ c.most <;> simp [h2, h3]
    · by_cases h3 : c.kind = 3
      · by_cases h4 : P.judgeV [] c.prod c.seq = 4 <;> simp [h3, h4]
      · by_cases h4 : c.kind = 4
        · simp [h4]
        · by_cases h5 : c.kind = 5
          · simp [h5]; rfl
          · by_cases h6 : c.kind = 6
            · simp [h6]; rfl
            · simp [h1, h2, h3, h4, h5, h6]
noncomputable def pownC (b : Bool) (p : Part) : Ctr Tryz.prog := ⟨39, [.agg (encPt b p)], [], .need (PoOk p) (ptR p), T.Sat.need fun h => pown_c b p h⟩
noncomputable def weC (c : Cmd) : Ctr Tryz.prog := ⟨38, [.agg (encCm c)], [], boolR (wellB c), we_c c⟩
end Go.Proofs.YtnbhdjadlbhknaaGreatDoor.R

namespace Go.Proofs.YtnbhdjadlbhknaaGreatDoor.J
open Go.Ax
set_option maxRecDepth 1000000
def caf {P : Program} (f r p : Nat) (i : Nat) (C : Ctr P) (els : List AV → FuncId → Nat → Nat → Option (Ctr P)) : List AV → FuncId → Nat → Nat → Option (Ctr P) :=
  fun ts f' r' p' => match Nat.beq f f' && Nat.beq r r' && Nat.beq p p' with
    | true => (match get ts i with
      | .s (.bool false) => some C
      | _ => els ts f' r' p')
    | false => els ts f' r' p'
def rcProduce (l : List Int) : R.Cmd × RS :=
  let r_hkind := intS l default; let hkind := r_hkind.1; let hs1 := r_hkind.2; let r_hepoch := uintS l hs1; let hepoch := r_hepoch.1; let hs2 := r_hepoch.2; let r_a_prod := uintS l hs2; let a_prod := r_a_prod.1; let a_s1 := r_a_prod.2; let r_a_seq := uintS l a_s1; let a_seq := r_a_seq.1; let a_s2 := r_a_seq.2; let r_a_key := strS l a_s2 32; let a_key := r_a_key.1; let a_s3 := r_a_key.2; let r_a_val := bytesS l a_s3 256; let a_val := r_a_val.1; let a_s4 := r_a_val.2; ((⟨hkind, hepoch, a_prod, a_seq, a_key, a_val, 0, 0, ByteArray.empty, 0⟩ : R.Cmd), a_s4)
def rcFetch (l : List Int) : R.Cmd × RS :=
  let r_hkind := intS l default; let hkind := r_hkind.1; let hs1 := r_hkind.2; let r_hepoch := uintS l hs1; let hepoch := r_hepoch.1; let hs2 := r_hepoch.2; let r_b_off := uintS l hs2; let b_off := r_b_off.1; let b_s1 := r_b_off.2; let r_b_most := intS l b_s1; let b_most := r_b_most.1; let b_s2 := r_b_most.2; ((⟨hkind, hepoch, 0, 0, ByteArray.empty, [], b_off, b_most, ByteArray.empty, 0⟩ : R.Cmd), b_s2)
def rcCommit (l : List Int) : R.Cmd × RS :=
  let r_hkind := intS l default; let hkind := r_hkind.1; let hs1 := r_hkind.2; let r_hepoch := uintS l hs1; let hepoch := r_hepoch.1; let hs2 := r_hepoch.2; let r_c_prod := uintS l hs2; let c_prod := r_c_prod.1; let c_s1 := r_c_prod.2; let r_c_seq := uintS l c_s1; let c_seq := r_c_seq.1; let c_s2 := r_c_seq.2; let r_c_name := strS l c_s2 32; let c_name := r_c_name.1; let c_s3 := r_c_name.2; let r_c_off := uintS l c_s3; let c_off := r_c_off.1; let c_s4 := r_c_off.2; ((⟨hkind, hepoch, c_prod, c_seq, ByteArray.empty, [], c_off, 0, c_name, 0⟩ : R.Cmd), c_s4)
def rcRead (l : List Int) : R.Cmd × RS :=
  let r_hkind := intS l default; let hkind := r_hkind.1; let hs1 := r_hkind.2; let r_hepoch := uintS l hs1; let hepoch := r_hepoch.1; let hs2 := r_hepoch.2; let r_d_name := strS l hs2 32; let d_name := r_d_name.1; let d_s1 := r_d_name.2; ((⟨hkind, hepoch, 0, 0, ByteArray.empty, [], 0, 0, d_name, 0⟩ : R.Cmd), d_s1)
def rcPlan (l : List Int) : R.Cmd × RS :=
  let r_hkind := intS l default; let hkind := r_hkind.1; let hs1 := r_hkind.2; let r_hepoch := uintS l hs1; let hepoch := r_hepoch.1; let hs2 := r_hepoch.2; let r_e_plan := uintS l hs2; let e_plan := r_e_plan.1; let e_s1 := r_e_plan.2; ((⟨hkind, hepoch, 0, 0, ByteArray.empty, [], 0, 0, ByteArray.empty, e_plan⟩ : R.Cmd), e_s1)
def rcNone (l : List Int) : R.Cmd × RS :=
  let r_hkind := intS l default; let hkind := r_hkind.1; let hs1 := r_hkind.2; let r_hepoch := uintS l hs1; let hepoch := r_hepoch.1; let hs2 := r_hepoch.2; ((⟨hkind, hepoch, 0, 0, ByteArray.empty, [], 0, 0, ByteArray.empty, 0⟩ : R.Cmd), hs2)
def rcKind (l : List Int) : Int := (intS l default).1
def rcRaw (l : List Int) : R.Cmd × RS := if rcKind l = 1 then rcProduce l else if rcKind l = 2 then rcFetch l else if rcKind l = 3 then rcCommit l else if rcKind l = 4 then rcRead l else if rcKind l = 5 ∨ rcKind l = 6 then rcPlan l else rcNone l
def rcS (l : List Int) : R.Cmd × Int := if doneE l (rcRaw l).2 = 0 ∧ R.wellB (rcRaw l).1 = true then ((rcRaw l).1, 0) else (default, 161)
structure RcP where
  hkind : Int
  hs1 : RS
  hepoch : Int
  hs2 : RS
  a_prod : Int
  a_s1 : RS
  a_seq : Int
  a_s2 : RS
  a_key : ByteArray
  a_s3 : RS
  a_val : List Int
  a_s4 : RS
  b_off : Int
  b_s1 : RS
  b_most : Int
  b_s2 : RS
  c_prod : Int
  c_s1 : RS
  c_seq : Int
  c_s2 : RS
  c_name : ByteArray
  c_s3 : RS
  c_off : Int
  c_s4 : RS
  d_name : ByteArray
  d_s1 : RS
  e_plan : Int
  e_s1 : RS
def rcR (c : R.Cmd) (e : Int) : T An := .ret (.tup [.agg (R.encCm c), .y (.int .i64 e)], [], [])
noncomputable def rcH (b : Bool) (l : List Int) (q : RcP) : HintsT Tryz.prog := withCa (suR (hh _ noLp (cs1 26 1 1 (nrC b l) (cs1 26 2 1 (iC l default q.hkind q.hs1) (cs1 26 3 1 (uC l q.hs1 q.hepoch q.hs2) (cs1 26 6 1 (uC l q.hs2 q.a_prod q.a_s1) (cs1 26 6 3 (uC l q.a_s1 q.a_seq q.a_s2) (cs1 26 7 1 (sC l q.a_s2 32 q.a_key q.a_s3) (cs1 26 7 3 (yC l q.a_s3 256 q.a_val q.a_s4) (cs1 26 9 1 (uC l q.hs2 q.b_off q.b_s1) (cs1 26 9 3 (iC l q.b_s1 q.b_most q.b_s2) (cs1 26 11 1 (uC l q.hs2 q.c_prod q.c_s1) (cs1 26 11 3 (uC l q.c_s1 q.c_seq q.c_s2) (cs1 26 12 1 (sC l q.c_s2 32 q.c_name q.c_s3) (cs1 26 12 3 (uC l q.c_s3 q.c_off q.c_s4) (cs1 26 14 1 (sC l q.hs2 32 q.d_name q.d_s1) (cs1 26 17 1 (uC l q.hs2 q.e_plan q.e_s1) noCs))))))))))))))) noOp)) (cab 26 18 1 16 (dC l q.a_s4) (cab 26 18 5 16 (R.weC ⟨q.hkind, q.hepoch, q.a_prod, q.a_seq, q.a_key, q.a_val, 0, 0, ByteArray.empty, 0⟩) (cab 26 18 1 30 (dC l q.b_s2) (cab 26 18 5 30 (R.weC ⟨q.hkind, q.hepoch, 0, 0, ByteArray.empty, [], q.b_off, q.b_most, ByteArray.empty, 0⟩) (cab 26 18 1 38 (dC l q.c_s4) (cab 26 18 5 38 (R.weC ⟨q.hkind, q.hepoch, q.c_prod, q.c_seq, ByteArray.empty, [], q.c_off, 0, q.c_name, 0⟩) (cab 26 18 1 52 (dC l q.d_s1) (cab 26 18 5 52 (R.weC ⟨q.hkind, q.hepoch, 0, 0, ByteArray.empty, [], 0, 0, q.d_name, 0⟩) (cab 26 18 1 57 (dC l q.e_s1) (cab 26 18 5 57 (R.weC ⟨q.hkind, q.hepoch, 0, 0, ByteArray.empty, [], 0, 0, ByteArray.empty, q.e_plan⟩) (caf 26 18 1 57 (dC l q.hs2) (caf 26 18 5 57 (R.weC ⟨q.hkind, q.hepoch, 0, 0, ByteArray.empty, [], 0, 0, ByteArray.empty, 0⟩) noCa))))))))))))
def vcRc_q1 (c : R.Cmd) (e : Int) : Prop := (((0 : Int) = c.kind ∧ (0 : Int) = c.epoch ∧ (0 : Int) = c.prod ∧ (0 : Int) = c.seq ∧ { data := #[] : ByteArray } = c.key ∧ List.length c.val = (0 : Nat) ∧ (0 : Int) = c.off ∧ (0 : Int) = c.most ∧ { data := #[] : ByteArray } = c.name ∧ (0 : Int) = c.plan ∧ True) ∧ (161 : Int) = e ∧ True)
def vcRc_q2 (l : List Int) (q : RcP) (c : R.Cmd) (e : Int) : Prop := ((doneE l q.e_s1 != (0 : Int)) = false → ((q.hkind = q.hkind ∧ q.hepoch = q.hepoch ∧ (0 : Int) = (0 : Int) ∧ (0 : Int) = (0 : Int) ∧ { data := #[] : ByteArray } = ByteArray.empty ∧ (0 : Nat) = (0 : Nat) ∧ (0 : Int) = (0 : Int) ∧ (0 : Int) = (0 : Int) ∧ { data := #[] : ByteArray } = ByteArray.empty ∧ q.e_plan = q.e_plan ∧ True) ∧ True) ∧ True ∧ ((!R.wellB { kind := q.hkind, epoch := q.hepoch, prod := (0 : Int), seq := (0 : Int), key := ByteArray.empty, val := [], off := (0 : Int), most := (0 : Int), name := ByteArray.empty, plan := q.e_plan : R.Cmd }) = true → (vcRc_q1 c e) ∧ True) ∧ ((!R.wellB { kind := q.hkind, epoch := q.hepoch, prod := (0 : Int), seq := (0 : Int), key := ByteArray.empty, val := [], off := (0 : Int), most := (0 : Int), name := ByteArray.empty, plan := q.e_plan : R.Cmd }) = false → ((q.hkind = c.kind ∧ q.hepoch = c.epoch ∧ (0 : Int) = c.prod ∧ (0 : Int) = c.seq ∧ { data := #[] : ByteArray } = c.key ∧ List.length c.val = (0 : Nat) ∧ (0 : Int) = c.off ∧ (0 : Int) = c.most ∧ { data := #[] : ByteArray } = c.name ∧ q.e_plan = c.plan ∧ True) ∧ (0 : Int) = e ∧ True) ∧ True))
def vcRc (b : Bool) (l : List Int) (q : RcP) (c : R.Cmd) (e : Int) : Prop :=
  ((b = b ∧ List.length l = List.length l ∧ contLe (List.length l) (1 : Nat) (cellsOf' encB l) (cellsOf' encB l)) ∧ True) ∧ True ∧ LOk l ∧ (((0 : Nat) = (0 : Nat) ∧ (0 : Nat) = (0 : Nat)) ∧ True) ∧ (((bsLe l l) ∧ (0 : Int) = (0 : Int) ∧ (false = false ∧ true = true ∧ (2 : Nat) ≤ (2 : Nat) ∧ cellLe (2 : Nat) (Ax.get [AV.y (Value.int IntKind.i64 (0 : Int)), AV.ifc (31 : Nat) (AV.y (Value.int IntKind.i64 (0 : Int)))]) (Ax.get [AV.y (Value.int IntKind.i64 (0 : Int)), AV.ifc (31 : Nat) (AV.y (Value.int IntKind.i64 (0 : Int)))])) ∧ True) ∧ True) ∧ ROk l (@default RS instInhabitedRS) ∧ (q.hkind, q.hs1) = (zag (uintS l (@default RS instInhabitedRS)).fst, (uintS l (@default RS instInhabitedRS)).snd) ∧ (((0 : Nat) = (0 : Nat) ∧ (0 : Nat) = (0 : Nat)) ∧ True) ∧ ((rmLe l q.hs1 q.hs1) ∧ True) ∧ ROk l q.hs1 ∧ (q.hepoch, q.hs2) = uintS l q.hs1 ∧ ((q.hkind == (1 : Int)) = true → (((0 : Nat) = (0 : Nat) ∧ (0 : Nat) = (0 : Nat)) ∧ True) ∧ ((rmLe l q.hs2 q.hs2) ∧ True) ∧ ROk l q.hs2 ∧ (q.a_prod, q.a_s1) = uintS l q.hs2 ∧ (((0 : Nat) = (0 : Nat) ∧ (0 : Nat) = (0 : Nat)) ∧ True) ∧ ((rmLe l q.a_s1 q.a_s1) ∧ True) ∧ ROk l q.a_s1 ∧ (q.a_seq, q.a_s2) = uintS l q.a_s1 ∧ (((0 : Nat) = (0 : Nat) ∧ (0 : Nat) = (0 : Nat)) ∧ (32 : Int) = (32 : Int) ∧ True) ∧ ((rmLe l q.a_s2 q.a_s2) ∧ True) ∧ (ROk l q.a_s2 ∧ I64 (32 : Int)) ∧ (q.a_key, q.a_s3) = (strOf (bytesS l q.a_s2 (32 : Int)).fst, (bytesS l q.a_s2 (32 : Int)).snd) ∧ (((0 : Nat) = (0 : Nat) ∧ (0 : Nat) = (0 : Nat)) ∧ (256 : Int) = (256 : Int) ∧ True) ∧ ((rmLe l q.a_s3 q.a_s3) ∧ True) ∧ (ROk l q.a_s3 ∧ I64 (256 : Int)) ∧ (q.a_val, q.a_s4) = bytesS l q.a_s3 (256 : Int) ∧ (((0 : Nat) = (0 : Nat) ∧ (0 : Nat) = (0 : Nat)) ∧ True) ∧ ((rmLe l q.a_s4 q.a_s4) ∧ True) ∧ ROk l q.a_s4 ∧ ((doneE l q.a_s4 != (0 : Int)) = true → (vcRc_q1 c e) ∧ True) ∧ ((doneE l q.a_s4 != (0 : Int)) = false → ((q.hkind = q.hkind ∧ q.hepoch = q.hepoch ∧ q.a_prod = q.a_prod ∧ q.a_seq = q.a_seq ∧ q.a_key = q.a_key ∧ (bsLe q.a_val q.a_val) ∧ (0 : Int) = (0 : Int) ∧ (0 : Int) = (0 : Int) ∧ { data := #[] : ByteArray } = ByteArray.empty ∧ (0 : Int) = (0 : Int) ∧ True) ∧ True) ∧ True ∧ ((!R.wellB { kind := q.hkind, epoch := q.hepoch, prod := q.a_prod, seq := q.a_seq, key := q.a_key, val := q.a_val, off := (0 : Int), most := (0 : Int), name := ByteArray.empty, plan := (0 : Int) : R.Cmd }) = true → (vcRc_q1 c e) ∧ True) ∧ ((!R.wellB { kind := q.hkind, epoch := q.hepoch, prod := q.a_prod, seq := q.a_seq, key := q.a_key, val := q.a_val, off := (0 : Int), most := (0 : Int), name := ByteArray.empty, plan := (0 : Int) : R.Cmd }) = false → ((q.hkind = c.kind ∧ q.hepoch = c.epoch ∧ q.a_prod = c.prod ∧ q.a_seq = c.seq ∧ q.a_key = c.key ∧ (bsLe q.a_val c.val) ∧ (0 : Int) = c.off ∧ (0 : Int) = c.most ∧ { data := #[] : ByteArray } = c.name ∧ (0 : Int) = c.plan ∧ True) ∧ (0 : Int) = e ∧ True) ∧ True))) ∧ ((q.hkind == (1 : Int)) = false → ((q.hkind == (2 : Int)) = true → (((0 : Nat) = (0 : Nat) ∧ (0 : Nat) = (0 : Nat)) ∧ True) ∧ ((rmLe l q.hs2 q.hs2) ∧ True) ∧ ROk l q.hs2 ∧ (q.b_off, q.b_s1) = uintS l q.hs2 ∧ (((0 : Nat) = (0 : Nat) ∧ (0 : Nat) = (0 : Nat)) ∧ True) ∧ ((rmLe l q.b_s1 q.b_s1) ∧ True) ∧ ROk l q.b_s1 ∧ (q.b_most, q.b_s2) = (zag (uintS l q.b_s1).fst, (uintS l q.b_s1).snd) ∧ (((0 : Nat) = (0 : Nat) ∧ (0 : Nat) = (0 : Nat)) ∧ True) ∧ ((rmLe l q.b_s2 q.b_s2) ∧ True) ∧ ROk l q.b_s2 ∧ ((doneE l q.b_s2 != (0 : Int)) = true → (vcRc_q1 c e) ∧ True) ∧ ((doneE l q.b_s2 != (0 : Int)) = false → ((q.hkind = q.hkind ∧ q.hepoch = q.hepoch ∧ (0 : Int) = (0 : Int) ∧ (0 : Int) = (0 : Int) ∧ { data := #[] : ByteArray } = ByteArray.empty ∧ (0 : Nat) = (0 : Nat) ∧ q.b_off = q.b_off ∧ q.b_most = q.b_most ∧ { data := #[] : ByteArray } = ByteArray.empty ∧ (0 : Int) = (0 : Int) ∧ True) ∧ True) ∧ True ∧ ((!R.wellB { kind := q.hkind, epoch := q.hepoch, prod := (0 : Int), seq := (0 : Int), key := ByteArray.empty, val := [], off := q.b_off, most := q.b_most, name := ByteArray.empty, plan := (0 : Int) : R.Cmd }) = true → (vcRc_q1 c e) ∧ True) ∧ ((!R.wellB { kind := q.hkind, epoch := q.hepoch, prod := (0 : Int), seq := (0 : Int), key := ByteArray.empty, val := [], off := q.b_off, most := q.b_most, name := ByteArray.empty, plan := (0 : Int) : R.Cmd }) = false → ((q.hkind = c.kind ∧ q.hepoch = c.epoch ∧ (0 : Int) = c.prod ∧ (0 : Int) = c.seq ∧ { data := #[] : ByteArray } = c.key ∧ List.length c.val = (0 : Nat) ∧ q.b_off = c.off ∧ q.b_most = c.most ∧ { data := #[] : ByteArray } = c.name ∧ (0 : Int) = c.plan ∧ True) ∧ (0 : Int) = e ∧ True) ∧ True))) ∧ ((q.hkind == (2 : Int)) = false → ((q.hkind == (3 : Int)) = true → (((0 : Nat) = (0 : Nat) ∧ (0 : Nat) = (0 : Nat)) ∧ True) ∧ ((rmLe l q.hs2 q.hs2) ∧ True) ∧ ROk l q.hs2 ∧ (q.c_prod, q.c_s1) = uintS l q.hs2 ∧ (((0 : Nat) = (0 : Nat) ∧ (0 : Nat) = (0 : Nat)) ∧ True) ∧ ((rmLe l q.c_s1 q.c_s1) ∧ True) ∧ ROk l q.c_s1 ∧ (q.c_seq, q.c_s2) = uintS l q.c_s1 ∧ (((0 : Nat) = (0 : Nat) ∧ (0 : Nat) = (0 : Nat)) ∧ (32 : Int) = (32 : Int) ∧ True) ∧ ((rmLe l q.c_s2 q.c_s2) ∧ True) ∧ (ROk l q.c_s2 ∧ I64 (32 : Int)) ∧ (q.c_name, q.c_s3) = (strOf (bytesS l q.c_s2 (32 : Int)).fst, (bytesS l q.c_s2 (32 : Int)).snd) ∧ (((0 : Nat) = (0 : Nat) ∧ (0 : Nat) = (0 : Nat)) ∧ True) ∧ ((rmLe l q.c_s3 q.c_s3) ∧ True) ∧ ROk l q.c_s3 ∧ (q.c_off, q.c_s4) = uintS l q.c_s3 ∧ (((0 : Nat) = (0 : Nat) ∧ (0 : Nat) = (0 : Nat)) ∧ True) ∧ ((rmLe l q.c_s4 q.c_s4) ∧ True) ∧ ROk l q.c_s4 ∧ ((doneE l q.c_s4 != (0 : Int)) = true → (vcRc_q1 c e) ∧ True) ∧ ((doneE l q.c_s4 != (0 : Int)) = false → ((q.hkind = q.hkind ∧ q.hepoch = q.hepoch ∧ q.c_prod = q.c_prod ∧ q.c_seq = q.c_seq ∧ { data := #[] : ByteArray } = ByteArray.empty ∧ (0 : Nat) = (0 : Nat) ∧ q.c_off = q.c_off ∧ (0 : Int) = (0 : Int) ∧ q.c_name = q.c_name ∧ (0 : Int) = (0 : Int) ∧ True) ∧ True) ∧ True ∧ ((!R.wellB { kind := q.hkind, epoch := q.hepoch, prod := q.c_prod, seq := q.c_seq, key := ByteArray.empty, val := [], off := q.c_off, most := (0 : Int), name := q.c_name, plan := (0 : Int) : R.Cmd }) = true → (vcRc_q1 c e) ∧ True) ∧ ((!R.wellB { kind := q.hkind, epoch := q.hepoch, prod := q.c_prod, seq := q.c_seq, key := ByteArray.empty, val := [], off := q.c_off, most := (0 : Int), name := q.c_name, plan := (0 : Int) : R.Cmd }) = false → ((q.hkind = c.kind ∧ q.hepoch = c.epoch ∧ q.c_prod = c.prod ∧ q.c_seq = c.seq ∧ { data := #[] : ByteArray } = c.key ∧ List.length c.val = (0 : Nat) ∧ q.c_off = c.off ∧ (0 : Int) = c.most ∧ q.c_name = c.name ∧ (0 : Int) = c.plan ∧ True) ∧ (0 : Int) = e ∧ True) ∧ True))) ∧ ((q.hkind == (3 : Int)) = false → ((q.hkind == (4 : Int)) = true → (((0 : Nat) = (0 : Nat) ∧ (0 : Nat) = (0 : Nat)) ∧ (32 : Int) = (32 : Int) ∧ True) ∧ ((rmLe l q.hs2 q.hs2) ∧ True) ∧ (ROk l q.hs2 ∧ I64 (32 : Int)) ∧ (q.d_name, q.d_s1) = (strOf (bytesS l q.hs2 (32 : Int)).fst, (bytesS l q.hs2 (32 : Int)).snd) ∧ (((0 : Nat) = (0 : Nat) ∧ (0 : Nat) = (0 : Nat)) ∧ True) ∧ ((rmLe l q.d_s1 q.d_s1) ∧ True) ∧ ROk l q.d_s1 ∧ ((doneE l q.d_s1 != (0 : Int)) = true → (vcRc_q1 c e) ∧ True) ∧ ((doneE l q.d_s1 != (0 : Int)) = false → ((q.hkind = q.hkind ∧ q.hepoch = q.hepoch ∧ (0 : Int) = (0 : Int) ∧ (0 : Int) = (0 : Int) ∧ { data := #[] : ByteArray } = ByteArray.empty ∧ (0 : Nat) = (0 : Nat) ∧ (0 : Int) = (0 : Int) ∧ (0 : Int) = (0 : Int) ∧ q.d_name = q.d_name ∧ (0 : Int) = (0 : Int) ∧ True) ∧ True) ∧ True ∧ ((!R.wellB { kind := q.hkind, epoch := q.hepoch, prod := (0 : Int), seq := (0 : Int), key := ByteArray.empty, val := [], off := (0 : Int), most := (0 : Int), name := q.d_name, plan := (0 : Int) : R.Cmd }) = true → (vcRc_q1 c e) ∧ True) ∧ ((!R.wellB { kind := q.hkind, epoch := q.hepoch, prod := (0 : Int), seq := (0 : Int), key := ByteArray.empty, val := [], off := (0 : Int), most := (0 : Int), name := q.d_name, plan := (0 : Int) : R.Cmd }) = false → ((q.hkind = c.kind ∧ q.hepoch = c.epoch ∧ (0 : Int) = c.prod ∧ (0 : Int) = c.seq ∧ { data := #[] : ByteArray } = c.key ∧ List.length c.val = (0 : Nat) ∧ (0 : Int) = c.off ∧ (0 : Int) = c.most ∧ q.d_name = c.name ∧ (0 : Int) = c.plan ∧ True) ∧ (0 : Int) = e ∧ True) ∧ True))) ∧ ((q.hkind == (4 : Int)) = false → ((q.hkind == (5 : Int)) = true → (((0 : Nat) = (0 : Nat) ∧ (0 : Nat) = (0 : Nat)) ∧ True) ∧ ((rmLe l q.hs2 q.hs2) ∧ True) ∧ ROk l q.hs2 ∧ (q.e_plan, q.e_s1) = uintS l q.hs2 ∧ (((0 : Nat) = (0 : Nat) ∧ (0 : Nat) = (0 : Nat)) ∧ True) ∧ ((rmLe l q.e_s1 q.e_s1) ∧ True) ∧ ROk l q.e_s1 ∧ ((doneE l q.e_s1 != (0 : Int)) = true → (vcRc_q1 c e) ∧ True) ∧ (vcRc_q2 l q c e)) ∧ ((q.hkind == (5 : Int)) = false → ((q.hkind == (6 : Int)) = true → (((0 : Nat) = (0 : Nat) ∧ (0 : Nat) = (0 : Nat)) ∧ True) ∧ ((rmLe l q.hs2 q.hs2) ∧ True) ∧ ROk l q.hs2 ∧ (q.e_plan, q.e_s1) = uintS l q.hs2 ∧ (((0 : Nat) = (0 : Nat) ∧ (0 : Nat) = (0 : Nat)) ∧ True) ∧ ((rmLe l q.e_s1 q.e_s1) ∧ True) ∧ ROk l q.e_s1 ∧ ((doneE l q.e_s1 != (0 : Int)) = true → (vcRc_q1 c e) ∧ True) ∧ (vcRc_q2 l q c e)) ∧ ((q.hkind == (6 : Int)) = false → (((0 : Nat) = (0 : Nat) ∧ (0 : Nat) = (0 : Nat)) ∧ True) ∧ ((rmLe l q.hs2 q.hs2) ∧ True) ∧ ROk l q.hs2 ∧ ((doneE l q.hs2 != (0 : Int)) = true → (vcRc_q1 c e) ∧ True) ∧ ((doneE l q.hs2 != (0 : Int)) = false → ((q.hkind = q.hkind ∧ q.hepoch = q.hepoch ∧ (0 : Int) = (0 : Int) ∧ (0 : Int) = (0 : Int) ∧ { data := #[] : ByteArray } = ByteArray.empty ∧ (0 : Nat) = (0 : Nat) ∧ (0 : Int) = (0 : Int) ∧ (0 : Int) = (0 : Int) ∧ { data := #[] : ByteArray } = ByteArray.empty ∧ (0 : Int) = (0 : Int) ∧ True) ∧ True) ∧ True ∧ ((!R.wellB { kind := q.hkind, epoch := q.hepoch, prod := (0 : Int), seq := (0 : Int), key := ByteArray.empty, val := [], off := (0 : Int), most := (0 : Int), name := ByteArray.empty, plan := (0 : Int) : R.Cmd }) = true → (vcRc_q1 c e) ∧ True) ∧ ((!R.wellB { kind := q.hkind, epoch := q.hepoch, prod := (0 : Int), seq := (0 : Int), key := ByteArray.empty, val := [], off := (0 : Int), most := (0 : Int), name := ByteArray.empty, plan := (0 : Int) : R.Cmd }) = false → ((q.hkind = c.kind ∧ q.hepoch = c.epoch ∧ (0 : Int) = c.prod ∧ (0 : Int) = c.seq ∧ { data := #[] : ByteArray } = c.key ∧ List.length c.val = (0 : Nat) ∧ (0 : Int) = c.off ∧ (0 : Int) = c.most ∧ { data := #[] : ByteArray } = c.name ∧ (0 : Int) = c.plan ∧ True) ∧ (0 : Int) = e ∧ True) ∧ True))))))))
theorem vcRc_eq (b : Bool) (l : List Int) (q : RcP) (c : R.Cmd) (e : Int) : (ctrVC Tryz.prog (rcH b l q) 26 [encBs b l] [] (rcR c e)) = vcRc b l q c e := by kernel_rfl
end Go.Proofs.YtnbhdjadlbhknaaGreatDoor.J

namespace Go.Proofs.YtnbhdjadlbhknaaGreatDoor.J
open Go.Ax
set_option maxRecDepth 1000000
theorem int_ok {l : List Int} {s : RS} (h : ROk l s) {v : Int} {s' : RS} (e : (v, s') = intS l s) : ROk l s' := by
  rw [show s' = (uintS l s).2 from congrArg Prod.snd e]
  exact (uintS_ok h).1
theorem rok0 {l : List Int} (hl : LOk l) (hb : Bytes l) : ROk l default := ⟨hl.n, Nat.zero_le _, hb, fun _ => rfl⟩
structure RlOk (l : List Int) : Prop where
  n : LOk l
  b : Bytes l
theorem rc_c (b : Bool) (l : List Int) (h : RlOk l) : (rcR (rcS l).1 (rcS l).2).Sat (ACall' Tryz.prog 26 [encBs b l] []) := by
  have hl := h.n
  have k0 := rok0 h.n h.b
  obtain ⟨hkind, hs1, e_hkind⟩ : ∃ v t, (v, t) = intS l default := ⟨_, _, rfl⟩
  have k_hs1 := int_ok k0 e_hkind
  obtain ⟨hepoch, hs2, e_hepoch⟩ : ∃ v t, (v, t) = uintS l hs1 := ⟨_, _, rfl⟩
  have k_hs2 := (rd_ok k_hs1 e_hepoch).1
  obtain ⟨a_prod, a_s1, e_a_prod⟩ : ∃ v t, (v, t) = uintS l hs2 := ⟨_, _, rfl⟩
  have k_a_s1 := (rd_ok k_hs2 e_a_prod).1
  obtain ⟨a_seq, a_s2, e_a_seq⟩ : ∃ v t, (v, t) = uintS l a_s1 := ⟨_, _, rfl⟩
  have k_a_s2 := (rd_ok k_a_s1 e_a_seq).1
  obtain ⟨a_key, a_s3, e_a_key⟩ : ∃ v t, (v, t) = strS l a_s2 32 := ⟨_, _, rfl⟩
  have k_a_s3 := str_ok k_a_s2 e_a_key
  obtain ⟨a_val, a_s4, e_a_val⟩ : ∃ v t, (v, t) = bytesS l a_s3 256 := ⟨_, _, rfl⟩
  have k_a_s4 := byt_ok k_a_s3 e_a_val
  obtain ⟨b_off, b_s1, e_b_off⟩ : ∃ v t, (v, t) = uintS l hs2 := ⟨_, _, rfl⟩
  have k_b_s1 := (rd_ok k_hs2 e_b_off).1
  obtain ⟨b_most, b_s2, e_b_most⟩ : ∃ v t, (v, t) = intS l b_s1 := ⟨_, _, rfl⟩
  have k_b_s2 := int_ok k_b_s1 e_b_most
  obtain ⟨c_prod, c_s1, e_c_prod⟩ : ∃ v t, (v, t) = uintS l hs2 := ⟨_, _, rfl⟩
  have k_c_s1 := (rd_ok k_hs2 e_c_prod).1
  obtain ⟨c_seq, c_s2, e_c_seq⟩ : ∃ v t, (v, t) = uintS l c_s1 := ⟨_, _, rfl⟩
  have k_c_s2 := (rd_ok k_c_s1 e_c_seq).1
  obtain ⟨c_name, c_s3, e_c_name⟩ : ∃ v t, (v, t) = strS l c_s2 32 := ⟨_, _, rfl⟩
  have k_c_s3 := str_ok k_c_s2 e_c_name
  obtain ⟨c_off, c_s4, e_c_off⟩ : ∃ v t, (v, t) = uintS l c_s3 := ⟨_, _, rfl⟩
  have k_c_s4 := (rd_ok k_c_s3 e_c_off).1
  obtain ⟨d_name, d_s1, e_d_name⟩ : ∃ v t, (v, t) = strS l hs2 32 := ⟨_, _, rfl⟩
  have k_d_s1 := str_ok k_hs2 e_d_name
  obtain ⟨e_plan, e_s1, e_e_plan⟩ : ∃ v t, (v, t) = uintS l hs2 := ⟨_, _, rfl⟩
  have k_e_s1 := (rd_ok k_hs2 e_e_plan).1
  have hr1 : rcProduce l = (⟨hkind, hepoch, a_prod, a_seq, a_key, a_val, 0, 0, ByteArray.empty, 0⟩, a_s4) := by
    unfold rcProduce
    simp only [← e_hkind, ← e_hepoch, ← e_a_prod, ← e_a_seq, ← e_a_key, ← e_a_val]
  have hr2 : rcFetch l = (⟨hkind, hepoch, 0, 0, ByteArray.empty, [], b_off, b_most, ByteArray.empty, 0⟩, b_s2) := by
    unfold rcFetch
    simp only [← e_hkind, ← e_hepoch, ← e_b_off, ← e_b_most]
  have hr3 : rcCommit l = (⟨hkind, hepoch, c_prod, c_seq, ByteArray.empty, [], c_off, 0, c_name, 0⟩, c_s4) := by
    unfold rcCommit
    simp only [← e_hkind, ← e_hepoch, ← e_c_prod, ← e_c_seq, ← e_c_name, ← e_c_off]
  have hr4 : rcRead l = (⟨hkind, hepoch, 0, 0, ByteArray.empty, [], 0, 0, d_name, 0⟩, d_s1) := by
    unfold rcRead
    simp only [← e_hkind, ← e_hepoch, ← e_d_name]
  have hr5 : rcPlan l = (⟨hkind, hepoch, 0, 0, ByteArray.empty, [], 0, 0, ByteArray.empty, e_plan⟩, e_s1) := by
    unfold rcPlan
    simp only [← e_hkind, ← e_hepoch, ← e_e_plan]
  have hr0 : rcNone l = (⟨hkind, hepoch, 0, 0, ByteArray.empty, [], 0, 0, ByteArray.empty, 0⟩, hs2) := by
    unfold rcNone
    simp only [← e_hkind, ← e_hepoch]
  have hk : rcKind l = hkind := by
    unfold rcKind
    rw [← e_hkind]
  refine ctr_vc (ht := rcH b l ⟨hkind, hs1, hepoch, hs2, a_prod, a_s1, a_seq, a_s2, a_key, a_s3, a_val, a_s4, b_off, b_s1, b_most, b_s2, c_prod, c_s1, c_seq, c_s2, c_name, c_s3, c_off, c_s4, d_name, d_s1, e_plan, e_s1⟩) Tryz.mixed rfl ?_
  rw [vcRc_eq b l ⟨hkind, hs1, hepoch, hs2, a_prod, a_s1, a_seq, a_s2, a_key, a_s3, a_val, a_s4, b_off, b_s1, b_most, b_s2, c_prod, c_s1, c_seq, c_s2, c_name, c_s3, c_off, c_s4, d_name, d_s1, e_plan, e_s1⟩ (rcS l).1 (rcS l).2]
  unfold vcRc vcRc_q2 vcRc_q1
  have q := i64_32
  have q2 := i64_256
  have z0 : (default : R.Cmd) = ⟨0, 0, 0, 0, ByteArray.empty, [], 0, 0, ByteArray.empty, 0⟩ := rfl
  have z1 : ByteArray.empty = (⟨#[]⟩ : ByteArray) := rfl
  have fin : ∀ (c : R.Cmd) (s : RS), rcRaw l = (c, s) → rcS l = (if doneE l s = 0 ∧ R.wellB c = true then (c, 0) else (default, 161)) := by
    intro c s e
    unfold rcS
    rw [e]
  obtain ⟨p_hkind, p2_hkind⟩ := Prod.mk.inj e_hkind
  obtain ⟨p_a_key, p2_a_key⟩ := Prod.mk.inj e_a_key
  obtain ⟨p_b_most, p2_b_most⟩ := Prod.mk.inj e_b_most
  obtain ⟨p_c_name, p2_c_name⟩ := Prod.mk.inj e_c_name
  obtain ⟨p_d_name, p2_d_name⟩ := Prod.mk.inj e_d_name
  by_cases m1 : hkind = 1
  · 
    have hf := fin _ _ (show rcRaw l = (⟨hkind, hepoch, a_prod, a_seq, a_key, a_val, 0, 0, ByteArray.empty, 0⟩, a_s4) from by unfold rcRaw; rw [hk]; simp [m1, hr1])
    rw [hf]
    by_cases hd : doneE l a_s4 = 0
    · cases hw : R.wellB (⟨hkind, hepoch, a_prod, a_seq, a_key, a_val, 0, 0, ByteArray.empty, 0⟩ : R.Cmd)
      · simp [m1, hl, k0, q, q2, k_hs1, k_hs2, k_a_s1, k_a_s2, k_a_s3, k_a_s4, k_b_s1, k_b_s2, k_c_s1, k_c_s2, k_c_s3, k_c_s4, k_d_s1, k_e_s1, hd, hw, z0, z1]
        repeat' with_reducible apply And.intro
        all_goals first | assumption | (rw [← m1]; assumption)
      · simp [m1, hl, k0, q, q2, k_hs1, k_hs2, k_a_s1, k_a_s2, k_a_s3, k_a_s4, k_b_s1, k_b_s2, k_c_s1, k_c_s2, k_c_s3, k_c_s4, k_d_s1, k_e_s1, hd, hw, z0, z1]
        repeat' with_reducible apply And.intro
        all_goals first | assumption | (rw [← m1]; assumption)
    · simp [m1, hl, k0, q, q2, k_hs1, k_hs2, k_a_s1, k_a_s2, k_a_s3, k_a_s4, k_b_s1, k_b_s2, k_c_s1, k_c_s2, k_c_s3, k_c_s4, k_d_s1, k_e_s1, hd, z0, z1]
      repeat' with_reducible apply And.intro
      all_goals first | assumption | (rw [← m1]; assumption)
  by_cases m2 : hkind = 2
  · 
    have hf := fin _ _ (show rcRaw l = (⟨hkind, hepoch, 0, 0, ByteArray.empty, [], b_off, b_most, ByteArray.empty, 0⟩, b_s2) from by unfold rcRaw; rw [hk]; simp [m2, hr2])
    rw [hf]
    by_cases hd : doneE l b_s2 = 0
    · cases hw : R.wellB (⟨hkind, hepoch, 0, 0, ByteArray.empty, [], b_off, b_most, ByteArray.empty, 0⟩ : R.Cmd)
      · simp [m2, hl, k0, q, q2, k_hs1, k_hs2, k_a_s1, k_a_s2, k_a_s3, k_a_s4, k_b_s1, k_b_s2, k_c_s1, k_c_s2, k_c_s3, k_c_s4, k_d_s1, k_e_s1, hd, hw, z0, z1]
        repeat' with_reducible apply And.intro
        all_goals first | assumption | (rw [← m2]; assumption)
      · simp [m2, hl, k0, q, q2, k_hs1, k_hs2, k_a_s1, k_a_s2, k_a_s3, k_a_s4, k_b_s1, k_b_s2, k_c_s1, k_c_s2, k_c_s3, k_c_s4, k_d_s1, k_e_s1, hd, hw, z0, z1]
        repeat' with_reducible apply And.intro
        all_goals first | assumption | (rw [← m2]; assumption)
    · simp [m2, hl, k0, q, q2, k_hs1, k_hs2, k_a_s1, k_a_s2, k_a_s3, k_a_s4, k_b_s1, k_b_s2, k_c_s1, k_c_s2, k_c_s3, k_c_s4, k_d_s1, k_e_s1, hd, z0, z1]
      repeat' with_reducible apply And.intro
      all_goals first | assumption | (rw [← m2]; assumption)
  by_cases m3 : hkind = 3
  · 
    have hf := fin _ _ (show rcRaw l = (⟨hkind, hepoch, c_prod, c_seq, ByteArray.empty, [], c_off, 0, c_name, 0⟩, c_s4) from by unfold rcRaw; rw [hk]; simp [m3, hr3])
    rw [hf]
    by_cases hd : doneE l c_s4 = 0
    · cases hw : R.wellB (⟨hkind, hepoch, c_prod, c_seq, ByteArray.empty, [], c_off, 0, c_name, 0⟩ : R.Cmd)
      · simp [m3, hl, k0, q, q2, k_hs1, k_hs2, k_a_s1, k_a_s2, k_a_s3, k_a_s4, k_b_s1, k_b_s2, k_c_s1, k_c_s2, k_c_s3, k_c_s4, k_d_s1, k_e_s1, hd, hw, z0, z1]
        repeat' with_reducible apply And.intro
        all_goals first | assumption | (rw [← m3]; assumption)
      · simp [m3, hl, k0, q, q2, k_hs1, k_hs2, k_a_s1, k_a_s2, k_a_s3, k_a_s4, k_b_s1, k_b_s2, k_c_s1, k_c_s2, k_c_s3, k_c_s4, k_d_s1, k_e_s1, hd, hw, z0, z1]
        repeat' with_reducible apply And.intro
        all_goals first | assumption | (rw [← m3]; assumption)
    · simp [m3, hl, k0, q, q2, k_hs1, k_hs2, k_a_s1, k_a_s2, k_a_s3, k_a_s4, k_b_s1, k_b_s2, k_c_s1, k_c_s2, k_c_s3, k_c_s4, k_d_s1, k_e_s1, hd, z0, z1]
      repeat' with_reducible apply And.intro
      all_goals first | assumption | (rw [← m3]; assumption)
  by_cases m4 : hkind = 4
  · 
    have hf := fin _ _ (show rcRaw l = (⟨hkind, hepoch, 0, 0, ByteArray.empty, [], 0, 0, d_name, 0⟩, d_s1) from by unfold rcRaw; rw [hk]; simp [m4, hr4])
    rw [hf]
    by_cases hd : doneE l d_s1 = 0
    · cases hw : R.wellB (⟨hkind, hepoch, 0, 0, ByteArray.empty, [], 0, 0, d_name, 0⟩ : R.Cmd)
      · simp [m4, hl, k0, q, q2, k_hs1, k_hs2, k_a_s1, k_a_s2, k_a_s3, k_a_s4, k_b_s1, k_b_s2, k_c_s1, k_c_s2, k_c_s3, k_c_s4, k_d_s1, k_e_s1, hd, hw, z0, z1]
        repeat' with_reducible apply And.intro
        all_goals first | assumption | (rw [← m4]; assumption)
      · simp [m4, hl, k0, q, q2, k_hs1, k_hs2, k_a_s1, k_a_s2, k_a_s3, k_a_s4, k_b_s1, k_b_s2, k_c_s1, k_c_s2, k_c_s3, k_c_s4, k_d_s1, k_e_s1, hd, hw, z0, z1]
        repeat' with_reducible apply And.intro
        all_goals first | assumption | (rw [← m4]; assumption)
    · simp [m4, hl, k0, q, q2, k_hs1, k_hs2, k_a_s1, k_a_s2, k_a_s3, k_a_s4, k_b_s1, k_b_s2, k_c_s1, k_c_s2, k_c_s3, k_c_s4, k_d_s1, k_e_s1, hd, z0, z1]
      repeat' with_reducible apply And.intro
      all_goals first | assumption | (rw [← m4]; assumption)
  by_cases m5 : hkind = 5
  · 
    have hf := fin _ _ (show rcRaw l = (⟨hkind, hepoch, 0, 0, ByteArray.empty, [], 0, 0, ByteArray.empty, e_plan⟩, e_s1) from by unfold rcRaw; rw [hk]; simp [m5, hr5])
    rw [hf]
    by_cases hd : doneE l e_s1 = 0
    · cases hw : R.wellB (⟨hkind, hepoch, 0, 0, ByteArray.empty, [], 0, 0, ByteArray.empty, e_plan⟩ : R.Cmd)
      · simp [m5, hl, k0, q, q2, k_hs1, k_hs2, k_a_s1, k_a_s2, k_a_s3, k_a_s4, k_b_s1, k_b_s2, k_c_s1, k_c_s2, k_c_s3, k_c_s4, k_d_s1, k_e_s1, hd, hw, z0, z1]
        repeat' with_reducible apply And.intro
        all_goals first | assumption | (rw [← m5]; assumption)
      · simp [m5, hl, k0, q, q2, k_hs1, k_hs2, k_a_s1, k_a_s2, k_a_s3, k_a_s4, k_b_s1, k_b_s2, k_c_s1, k_c_s2, k_c_s3, k_c_s4, k_d_s1, k_e_s1, hd, hw, z0, z1]
        repeat' with_reducible apply And.intro
        all_goals first | assumption | (rw [← m5]; assumption)
    · simp [m5, hl, k0, q, q2, k_hs1, k_hs2, k_a_s1, k_a_s2, k_a_s3, k_a_s4, k_b_s1, k_b_s2, k_c_s1, k_c_s2, k_c_s3, k_c_s4, k_d_s1, k_e_s1, hd, z0, z1]
      repeat' with_reducible apply And.intro
      all_goals first | assumption | (rw [← m5]; assumption)
  by_cases m6 : hkind = 6
  · 
    have hf := fin _ _ (show rcRaw l = (⟨hkind, hepoch, 0, 0, ByteArray.empty, [], 0, 0, ByteArray.empty, e_plan⟩, e_s1) from by unfold rcRaw; rw [hk]; simp [m6, hr5])
    rw [hf]
    by_cases hd : doneE l e_s1 = 0
    · cases hw : R.wellB (⟨hkind, hepoch, 0, 0, ByteArray.empty, [], 0, 0, ByteArray.empty, e_plan⟩ : R.Cmd)
      · simp [m6, hl, k0, q, q2, k_hs1, k_hs2, k_a_s1, k_a_s2, k_a_s3, k_a_s4, k_b_s1, k_b_s2, k_c_s1, k_c_s2, k_c_s3, k_c_s4, k_d_s1, k_e_s1, hd, hw, z0, z1]
        repeat' with_reducible apply And.intro
        all_goals first | assumption | (rw [← m6]; assumption)
      · simp [m6, hl, k0, q, q2, k_hs1, k_hs2, k_a_s1, k_a_s2, k_a_s3, k_a_s4, k_b_s1, k_b_s2, k_c_s1, k_c_s2, k_c_s3, k_c_s4, k_d_s1, k_e_s1, hd, hw, z0, z1]
        repeat' with_reducible apply And.intro
        all_goals first | assumption | (rw [← m6]; assumption)
    · simp [m6, hl, k0, q, q2, k_hs1, k_hs2, k_a_s1, k_a_s2, k_a_s3, k_a_s4, k_b_s1, k_b_s2, k_c_s1, k_c_s2, k_c_s3, k_c_s4, k_d_s1, k_e_s1, hd, z0, z1]
      repeat' with_reducible apply And.intro
      all_goals first | assumption | (rw [← m6]; assumption)
  · 
    have hf := fin _ _ (show rcRaw l = (⟨hkind, hepoch, 0, 0, ByteArray.empty, [], 0, 0, ByteArray.empty, 0⟩, hs2) from by unfold rcRaw; rw [hk]; simp [m1, m2, m3, m4, m5, m6, hr0])
    rw [hf]
    by_cases hd : doneE l hs2 = 0
    · cases hw : R.wellB (⟨hkind, hepoch, 0, 0, ByteArray.empty, [], 0, 0, ByteArray.empty, 0⟩ : R.Cmd)
      · simp [m1, m2, m3, m4, m5, m6, hl, k0, q, q2, k_hs1, k_hs2, k_a_s1, k_a_s2, k_a_s3, k_a_s4, k_b_s1, k_b_s2, k_c_s1, k_c_s2, k_c_s3, k_c_s4, k_d_s1, k_e_s1, hd, hw, z0, z1]
        repeat' with_reducible apply And.intro
        all_goals first | assumption | (rw [← m6]; assumption)
      · simp [m1, m2, m3, m4, m5, m6, hl, k0, q, q2, k_hs1, k_hs2, k_a_s1, k_a_s2, k_a_s3, k_a_s4, k_b_s1, k_b_s2, k_c_s1, k_c_s2, k_c_s3, k_c_s4, k_d_s1, k_e_s1, hd, hw, z0, z1]
        repeat' with_reducible apply And.intro
        all_goals first | assumption | (rw [← m6]; assumption)
    · simp [m1, m2, m3, m4, m5, m6, hl, k0, q, q2, k_hs1, k_hs2, k_a_s1, k_a_s2, k_a_s3, k_a_s4, k_b_s1, k_b_s2, k_c_s1, k_c_s2, k_c_s3, k_c_s4, k_d_s1, k_e_s1, hd, z0, z1]
      repeat' with_reducible apply And.intro
      all_goals first | assumption | (rw [← m6]; assumption)
noncomputable def rcC (b : Bool) (l : List Int) (c : R.Cmd) (e : Int) : Ctr Tryz.prog := ⟨26, [encBs b l], [], .need (RlOk l) (.need ((c, e) = rcS l) (rcR c e)), T.Sat.need fun h => T.Sat.need fun q => by
  have e1 : c = (rcS l).1 := congrArg Prod.fst q
  have e2 : e = (rcS l).2 := congrArg Prod.snd q
  rw [e1, e2]
  exact rc_c b l h⟩
end Go.Proofs.YtnbhdjadlbhknaaGreatDoor.J

namespace Go.Proofs.YtnbhdjadlbhknaaGreatDoor.J
open Go.Ax
set_option maxRecDepth 1000000
def rxRaw (l : List Int) : R.Res × RS :=
  let a := intS l default; let b := uintS l a.2; let c := boolS l b.2; let d := listS l c.2 64
  (⟨a.1, b.1, c.1, d.1⟩, d.2)
def rxS (l : List Int) : R.Res × Int := if doneE l (rxRaw l).2 = 0 then ((rxRaw l).1, 0) else (default, 161)
def rxR (x : R.Res) (e : Int) : T An := .ret (.tup [.agg (R.encX x), .y (.int .i64 e)], [], [])
noncomputable def rxH (b : Bool) (l : List Int) (a : Int) (s1 : RS) (u : Int) (s2 : RS) (c : Bool) (s3 : RS) (d : List Rec) (s4 : RS) : HintsT Tryz.prog := suR (hh _ noLp (cs1 25 1 1 (nrC b l) (cs1 25 2 1 (iC l default a s1) (cs1 25 3 1 (uC l s1 u s2) (cs1 25 3 3 (bC l s2 c s3) (cs1 25 4 1 (lC l s3 64 d s4) (cs1 25 5 1 (dC l s4) noCs)))))) noOp)
def vcRx (b : Bool) (l : List Int) (a : Int) (s1 : RS) (u : Int) (s2 : RS) (c : Bool) (s3 : RS) (d : List Rec) (s4 : RS) (x : R.Res) (e : Int) : Prop :=
  ((b = b ∧ List.length l = List.length l ∧ contLe (List.length l) (1 : Nat) (cellsOf' encB l) (cellsOf' encB l)) ∧ True) ∧ True ∧ LOk l ∧ (((0 : Nat) = (0 : Nat) ∧ (0 : Nat) = (0 : Nat)) ∧ True) ∧ (((bsLe l l) ∧ (0 : Int) = (0 : Int) ∧ (false = false ∧ true = true ∧ (2 : Nat) ≤ (2 : Nat) ∧ cellLe (2 : Nat) (Ax.get [AV.y (Value.int IntKind.i64 (0 : Int)), AV.ifc (31 : Nat) (AV.y (Value.int IntKind.i64 (0 : Int)))]) (Ax.get [AV.y (Value.int IntKind.i64 (0 : Int)), AV.ifc (31 : Nat) (AV.y (Value.int IntKind.i64 (0 : Int)))])) ∧ True) ∧ True) ∧ ROk l (@default RS instInhabitedRS) ∧ (a, s1) = (zag (uintS l (@default RS instInhabitedRS)).fst, (uintS l (@default RS instInhabitedRS)).snd) ∧ (((0 : Nat) = (0 : Nat) ∧ (0 : Nat) = (0 : Nat)) ∧ True) ∧ ((rmLe l s1 s1) ∧ True) ∧ ROk l s1 ∧ (u, s2) = uintS l s1 ∧ (((0 : Nat) = (0 : Nat) ∧ (0 : Nat) = (0 : Nat)) ∧ True) ∧ ((rmLe l s2 s2) ∧ True) ∧ ROk l s2 ∧ (c, s3) = boolS l s2 ∧ (((0 : Nat) = (0 : Nat) ∧ (0 : Nat) = (0 : Nat)) ∧ (64 : Int) = (64 : Int) ∧ True) ∧ ((rmLe l s3 s3) ∧ True) ∧ (ROk l s3 ∧ I64 (64 : Int) ∧ (64 : Int) ≤ (4096 : Int)) ∧ (d, s4) = listS l s3 (64 : Int) ∧ (((0 : Nat) = (0 : Nat) ∧ (0 : Nat) = (0 : Nat)) ∧ True) ∧ ((rmLe l s4 s4) ∧ True) ∧ ROk l s4 ∧ ((doneE l s4 != (0 : Int)) = true → (((0 : Int) = x.err ∧ (0 : Int) = x.off ∧ false = x.old ∧ List.length x.recs = (0 : Nat) ∧ True) ∧ (161 : Int) = e ∧ True) ∧ True) ∧ ((doneE l s4 != (0 : Int)) = false → ((a = x.err ∧ u = x.off ∧ c = x.old ∧ (true = true ∧ List.length d = List.length x.recs ∧ contLe (List.length d) (5 : Nat) (cellsOf' encR d) (cellsOf' encR x.recs)) ∧ True) ∧ (0 : Int) = e ∧ True) ∧ True)
theorem vcRx_eq (b : Bool) (l : List Int) (a : Int) (s1 : RS) (u : Int) (s2 : RS) (c : Bool) (s3 : RS) (d : List Rec) (s4 : RS) (x : R.Res) (e : Int) : (ctrVC Tryz.prog (rxH b l a s1 u s2 c s3 d s4) 25 [encBs b l] [] (rxR x e)) = vcRx b l a s1 u s2 c s3 d s4 x e := by kernel_rfl
def prodS (l : List Int) (s : RS) : P.Producer × RS :=
  let a := uintS l s; let b := uintS l a.2; let c := boolS l b.2; let d := uintS l c.2
  (⟨a.1, b.1, c.1, d.1⟩, d.2)
def conS (l : List Int) (s : RS) : Con × RS :=
  let a := strS l s 32; let b := uintS l a.2
  (⟨a.1, b.1⟩, b.2)
def manyS {α : Type} (f : RS → α × RS) : Nat → RS → List α → List α × RS
  | 0, s, a => (a, s)
  | n + 1, s, a => manyS f n (f s).2 (a ++ [(f s).1])
structure HdP where
  rng : Rng
  epoch : Int
  frozen : Int
  recs : List Rec
structure PQ (l : List Int) (t : List P.Producer) (s' : RS) where
  n : Nat
  s : RS
  a : List P.Producer
  e : manyS (prodS l) n s a = (t, s')
  h : ROk l s
  m : a.length + n ≤ 100000
structure CQ (l : List Int) (t : List Con) (s' : RS) where
  n : Nat
  s : RS
  a : List Con
  e : manyS (conS l) n s a = (t, s')
  h : ROk l s
  m : a.length + n ≤ 100000
structure RpP (l : List Int) where
  g : Rng
  s1 : RS
  ep : Int
  s2 : RS
  fr : Int
  s3 : RS
  rc : List Rec
  s4 : RS
  n1 : Int
  s5 : RS
  t6 : List P.Producer
  s6 : RS
  n2 : Int
  s7 : RS
  t8 : List Con
  s8 : RS
  q : PQ l t6 s6
  r : CQ l t8 s8
abbrev RpP.hd {l : List Int} (x : RpP l) : HdP := ⟨x.g, x.ep, x.fr, x.rc⟩
abbrev RpP.p {l : List Int} (x : RpP l) : Part := ⟨x.g, x.ep, x.fr, x.rc, x.t6, x.t8⟩
end Go.Proofs.YtnbhdjadlbhknaaGreatDoor.J

namespace Go.Proofs.YtnbhdjadlbhknaaGreatDoor.J
open Go.Ax
set_option maxRecDepth 1000000
theorem boolS_ok {l : List Int} {s : RS} (h : ROk l s) : ROk l (boolS l s).2 := by
  unfold boolS
  split
  · exact h
  · split
    · exact failS_ok h (by decide) h.at_
    · split
      · exact failS_ok h (by decide) h.at_
      · have := h.at_
        exact ⟨h.n, by show s.at_ + 1 ≤ l.length; omega, h.b, h.bad⟩
theorem recsN_ok (l : List Int) : ∀ n s a, ROk l s → ROk l (recsN l n s a).2
  | 0, s, a, h => h
  | n + 1, s, a, h => by
    unfold recsN
    split
    · exact h
    · exact recsN_ok l n _ _ (rec_ok h)
theorem listS_ok {l : List Int} {s : RS} {most : Int} (h : ROk l s) : ROk l (listS l s most).2 := recsN_ok l _ _ _ (countS_ok h).1
theorem i64_64 : I64 64 := ⟨by decide, by decide⟩
theorem rx_c (b : Bool) (l : List Int) (h : RlOk l) : (rxR (rxS l).1 (rxS l).2).Sat (ACall' Tryz.prog 25 [encBs b l] []) := by
  have hl := h.n
  have k0 := rok0 h.n h.b
  obtain ⟨a, s1, e1⟩ : ∃ v t, (v, t) = intS l default := ⟨_, _, rfl⟩
  have k1 := int_ok k0 e1
  obtain ⟨u, s2, e2⟩ : ∃ v t, (v, t) = uintS l s1 := ⟨_, _, rfl⟩
  have k2 := (rd_ok k1 e2).1
  obtain ⟨c, s3, e3⟩ : ∃ v t, (v, t) = boolS l s2 := ⟨_, _, rfl⟩
  have k3 : ROk l s3 := by have := boolS_ok k2; rw [← e3] at this; exact this
  obtain ⟨d, s4, e4⟩ : ∃ v t, (v, t) = listS l s3 64 := ⟨_, _, rfl⟩
  have k4 : ROk l s4 := by have := listS_ok (most := 64) k3; rw [← e4] at this; exact this
  have hr : rxRaw l = (⟨a, u, c, d⟩, s4) := by
    unfold rxRaw
    simp only [← e1, ← e2, ← e3, ← e4]
  refine ctr_vc (ht := rxH b l a s1 u s2 c s3 d s4) Tryz.mixed rfl ?_
  rw [vcRx_eq b l a s1 u s2 c s3 d s4 (rxS l).1 (rxS l).2]
  unfold vcRx rxS
  rw [hr]
  have q := i64_64
  have z0 : (default : R.Res) = ⟨0, 0, false, []⟩ := rfl
  obtain ⟨p1, p2⟩ := Prod.mk.inj e1
  by_cases hd : doneE l s4 = 0
  · simp [hl, k0, k1, k2, k3, k4, q, hd, z0]
    repeat' with_reducible apply And.intro
    all_goals assumption
  · simp [hl, k0, k1, k2, k3, k4, q, hd, z0]
    repeat' with_reducible apply And.intro
    all_goals assumption
noncomputable def rxC (b : Bool) (l : List Int) (x : R.Res) (e : Int) : Ctr Tryz.prog := ⟨25, [encBs b l], [], .need (RlOk l) (.need ((x, e) = rxS l) (rxR x e)), T.Sat.need fun h => T.Sat.need fun q => by
  have e1 : x = (rxS l).1 := congrArg Prod.fst q
  have e2 : e = (rxS l).2 := congrArg Prod.snd q
  rw [e1, e2]
  exact rx_c b l h⟩
end Go.Proofs.YtnbhdjadlbhknaaGreatDoor.J

namespace Go.Proofs.YtnbhdjadlbhknaaGreatDoor.J
open Go.Ax
set_option maxRecDepth 1000000
theorem many_ok {α : Type} {l : List Int} {f : RS → α × RS} (hf : ∀ s, ROk l s → ROk l (f s).2) : ∀ n s a, ROk l s → ROk l (manyS f n s a).2
  | 0, s, a, h => h
  | n + 1, s, a, h => by
    unfold manyS
    exact many_ok hf n _ _ (hf s h)
end Go.Proofs.YtnbhdjadlbhknaaGreatDoor.J

namespace Go.Proofs.YtnbhdjadlbhknaaGreatDoor.J
open Go.Ax
set_option maxRecDepth 1000000
end Go.Proofs.YtnbhdjadlbhknaaGreatDoor.J

namespace Go.Proofs.YtnbhdjadlbhknaaGreatDoor.J
open Go.Ax
set_option maxRecDepth 1000000
theorem powS {i : Nat} (h : i ≤ 8) : (2 : Int) ^ (64 - 7 * i) = 128 * 2 ^ (64 - 7 * (i + 1)) := by
  rw [show 64 - 7 * i = 7 + (64 - 7 * (i + 1)) by omega, Int.pow_add]
  rfl
theorem powN (i : Nat) : (2 : Int) ^ (7 * (i + 1)) = 128 * 2 ^ (7 * i) := by
  rw [show 7 * (i + 1) = 7 + 7 * i by omega, Int.pow_add]
  rfl
theorem powP (n : Nat) : (0 : Int) < 2 ^ n := Int.pow_pos (by decide)
theorem div_sum (a v p : Int) : a + v % 128 * p + v / 128 * (128 * p) = a + v * p := by
  have h : v = v % 128 + 128 * (v / 128) := by omega
  have e1 : v / 128 * (128 * p) = (128 * (v / 128)) * p := by rw [← Int.mul_assoc, Int.mul_comm (v / 128) 128]
  rw [e1, Int.add_assoc, ← Int.add_mul]
  congr 2
  omega
theorem go_fwd : ∀ (f i : Nat) (v acc : Int) (r : List Int), i ≤ 9 → 0 ≤ v → (0 < i → 0 < v) → v < 2 ^ (64 - 7 * i) → v < 128 ^ (f + 1) → uGo (vint f v ++ r) i acc = (0, acc + v * 2 ^ (7 * i), i + (vint f v).length) := by
  have last : ∀ (f i : Nat) (v acc : Int) (r : List Int), i ≤ 9 → 0 ≤ v → (0 < i → 0 < v) → v < 2 ^ (64 - 7 * i) → v < 128 → uGo (vint f v ++ r) i acc = (0, acc + v * 2 ^ (7 * i), i + (vint f v).length) := by
    intro f i v acc r hi h0 hp hb hv
    rw [vint_end hv]
    show uGo (v :: r) i acc = _
    unfold uGo
    have h9 : ¬ (i = 9 ∧ v ≠ 1) := by
      rintro ⟨rfl, h⟩
      have e : (2 : Int) ^ (64 - 7 * 9) = 2 := by decide
      rw [e] at hb
      have := hp (by decide)
      omega
    have hz : ¬ (v = 0 ∧ 0 < i) := by
      rintro ⟨rfl, h⟩
      have := hp h
      omega
    rw [if_neg h9, if_neg (by omega), if_neg hz]
    have e : v % 128 = v := by omega
    rw [e]
    rfl
  intro f
  induction f with
  | zero => intro i v acc r hi h0 hp hb hv; exact last 0 i v acc r hi h0 hp hb (by simpa using hv)
  | succ f ih =>
    intro i v acc r hi h0 hp hb hv
    by_cases h : v < 128
    · exact last (f + 1) i v acc r hi h0 hp hb h
    · have hi8 : i ≤ 8 := by
        by_cases h9 : i = 9
        · subst h9
          have e : (2 : Int) ^ (64 - 7 * 9) = 2 := by decide
          rw [e] at hb
          omega
        · omega
      rw [vint_step (by omega)]
      show uGo ((v % 128 + 128) :: (vint f (v / 128) ++ r)) i acc = _
      rw [uGo]
      rw [if_neg (by rintro ⟨h9, _⟩; omega), if_pos (by omega)]
      have e : (v % 128 + 128) % 128 = v % 128 := by omega
      rw [e]
      have hb2 : v / 128 < 2 ^ (64 - 7 * (i + 1)) := by
        rw [powS hi8] at hb
        omega
      have hv2 : v / 128 < 128 ^ (f + 1) := by
        have : (128 : Int) ^ (f + 1 + 1) = 128 ^ (f + 1) * 128 := Int.pow_succ 128 (f + 1)
        rw [this] at hv
        omega
      rw [ih (i + 1) (v / 128) (acc + v % 128 * 2 ^ (7 * i)) r (by omega) (by omega) (fun _ => by omega) hb2 hv2]
      rw [powN, div_sum]
      simp
      omega
theorem u_fwd {v : Int} (h : U64 v) (r : List Int) : uGo (uintB v ++ r) 0 0 = (0, v, (uintB v).length) := by
  have := go_fwd 10 0 v 0 r (by decide) h.lo (fun h => absurd h (by decide)) (by have := h.hi; exact this) (by
    have e : (128 : Int) ^ (10 + 1) = 151115727451828646838272 := by decide
    have := h.hi
    omega)
  unfold uintB
  simpa using this
theorem go_bwd : ∀ (bs : List Int) (i : Nat) (acc w : Int) (n : Nat), (∀ x ∈ bs, 0 ≤ x ∧ x < 256) → i ≤ 9 → uGo bs i acc = (0, w, n) →
    ∃ v r, bs = vint (10 - i) v ++ r ∧ 0 ≤ v ∧ (0 < i → 0 < v) ∧ v < 2 ^ (64 - 7 * i) ∧ w = acc + v * 2 ^ (7 * i) ∧ n = i + (vint (10 - i) v).length
  | [], i, acc, w, n, _, _, h => by simp [uGo] at h
  | c :: bs, i, acc, w, n, hb, hi, h => by
    obtain ⟨c0, c1⟩ := hb c (by simp)
    rw [uGo] at h
    by_cases hA : i = 9 ∧ c ≠ 1
    · rw [if_pos hA] at h
      simp at h
    · rw [if_neg hA] at h
      have h9 : i = 9 → c = 1 := fun h => by
        by_cases hc : c = 1
        · exact hc
        · exact absurd ⟨h, hc⟩ hA
      by_cases h2 : 128 ≤ c
      · rw [if_pos h2] at h
        have hi8 : i ≤ 8 := by
          by_cases h : i = 9
          · have := h9 h; omega
          · omega
        obtain ⟨v, r, q1, q2, q3, q4, q5, q6⟩ := go_bwd bs (i + 1) _ w n (fun x hx => hb x (by simp [hx])) (by omega) h
        have hv := q3 (by omega)
        have e1 : (c % 128 + 128 * v) % 128 + 128 = c := by omega
        have e2 : (c % 128 + 128 * v) / 128 = v := by omega
        have e3 : 10 - i = (10 - (i + 1)) + 1 := by omega
        refine ⟨c % 128 + 128 * v, r, ?_, by omega, fun _ => by omega, ?_, ?_, ?_⟩
        · rw [e3, vint_step (by omega), e1, e2, List.cons_append, ← q1]
        · rw [powS hi8]
          omega
        · rw [q5, powN]
          have e4 : v * (128 * 2 ^ (7 * i)) = (128 * v) * 2 ^ (7 * i) := by rw [← Int.mul_assoc, Int.mul_comm v 128]
          rw [e4, Int.add_assoc, ← Int.add_mul]
        · rw [q6, e3, vint_step (by omega), e2]
          simp
          omega
      · rw [if_neg h2] at h
        by_cases h3 : c = 0 ∧ 0 < i
        · rw [if_pos h3] at h
          simp at h
        · rw [if_neg h3] at h
          simp at h
          obtain ⟨q1, q2⟩ := h
          refine ⟨c, bs, ?_, c0, fun hh => ?_, ?_, ?_, ?_⟩
          · rw [vint_end (by omega)]
            rfl
          · by_cases hc : c = 0
            · exact absurd ⟨hc, hh⟩ h3
            · omega
          · by_cases h : i = 9
            · have := h9 h
              subst this
              subst h
              decide
            · rw [powS (by omega)]
              have := powP (64 - 7 * (i + 1))
              omega
          · have e : c % 128 = c := by omega
            rw [e] at q1
            exact q1.symm
          · rw [vint_end (by omega), ← q2]
            rfl
theorem u_bwd {bs : List Int} {w : Int} {n : Nat} (hb : ∀ x ∈ bs, 0 ≤ x ∧ x < 256) (h : uGo bs 0 0 = (0, w, n)) : U64 w ∧ n = (uintB w).length ∧ ∃ r, bs = uintB w ++ r := by
  obtain ⟨v, r, q1, q2, _, q4, q5, q6⟩ := go_bwd bs 0 0 w n hb (by decide) h
  have e : w = v := by rw [q5]; simp
  subst e
  exact ⟨⟨q2, by simpa using q4⟩, by rw [q6]; simp [uintB], r, q1⟩
end Go.Proofs.YtnbhdjadlbhknaaGreatDoor.J

namespace Go.Proofs.YtnbhdjadlbhknaaGreatDoor.J
open Go.Ax
set_option maxRecDepth 1000000
structure Cdc {α : Type} (l : List Int) (f : RS → α × RS) (enc : α → List Int) (ok : α → Prop) : Prop where
  fwd : ∀ s x r, ROk l s → s.e = 0 → ok x → l.drop s.at_ = enc x ++ r → f s = (x, ⟨s.at_ + (enc x).length, 0, s.bad⟩)
  bwd : ∀ s, ROk l s → (f s).2.e = 0 → s.e = 0 ∧ ok (f s).1 ∧ (f s).2 = ⟨s.at_ + (enc (f s).1).length, 0, s.bad⟩ ∧ ∃ r, l.drop s.at_ = enc (f s).1 ++ r
  rok : ∀ s, ROk l s → ROk l (f s).2
theorem drop_next {l a r : List Int} {n : Nat} (h : l.drop n = a ++ r) : l.drop (n + a.length) = r := by
  rw [← List.drop_drop, h]
  simp
theorem drop_le {l a r : List Int} {n : Nat} (h : l.drop n = a ++ r) (hn : n ≤ l.length) : n + a.length ≤ l.length := by
  have := congrArg List.length h
  rw [List.length_drop, List.length_append] at this
  omega
theorem Cdc.pair {α β : Type} {l : List Int} {f : RS → α × RS} {g : RS → β × RS} {ea : α → List Int} {eb : β → List Int} {oa : α → Prop} {ob : β → Prop} (hf : Cdc l f ea oa) (hg : Cdc l g eb ob) :
    Cdc l (fun s => (((f s).1, (g (f s).2).1), (g (f s).2).2)) (fun x => ea x.1 ++ eb x.2) (fun x => oa x.1 ∧ ob x.2) where
  fwd := fun s x r h he ho hd => by
    obtain ⟨a, b⟩ := x
    simp only [List.append_assoc] at hd
    have h1 := hf.fwd s a _ h he ho.1 hd
    have h2 := hf.rok s h
    rw [h1] at h2
    have h3 := hg.fwd _ b r h2 rfl ho.2 (drop_next hd)
    rw [h1]
    simp only
    rw [h3]
    simp [Nat.add_assoc]
  bwd := fun s h he => by
    obtain ⟨b1, b2, b3, r, b4⟩ := hg.bwd _ (hf.rok s h) he
    obtain ⟨a1, a2, a3, r1, a4⟩ := hf.bwd s h b1
    refine ⟨a1, ⟨a2, b2⟩, ?_, r, ?_⟩
    · simp only
      rw [b3, a3]
      simp [Nat.add_assoc]
    · simp only
      have h5 := drop_next a4
      have h6 : (f s).2.at_ = s.at_ + (ea (f s).1).length := by rw [a3]
      rw [h6, h5] at b4
      rw [a4, b4]
      simp
  rok := fun s h => hg.rok _ (hf.rok s h)
theorem Cdc.map {α β : Type} {l : List Int} {f : RS → α × RS} {ea : α → List Int} {oa : α → Prop} (hf : Cdc l f ea oa) (φ : α → β) (ψ : β → α) {eb : β → List Int} {ob : β → Prop} (h1 : ∀ x, φ (ψ x) = x) (h2 : ∀ a, oa a → eb (φ a) = ea a ∧ ob (φ a)) (h3 : ∀ x, ob x → oa (ψ x)) :
    Cdc l (fun s => (φ (f s).1, (f s).2)) eb ob where
  fwd := fun s x r h he ho hd => by
    have e := (h2 _ (h3 x ho)).1
    rw [h1] at e
    rw [e] at hd
    have := hf.fwd s (ψ x) r h he (h3 x ho) hd
    simp only [this, h1, e]
  bwd := fun s h he => by
    obtain ⟨a1, a2, a3, r, a4⟩ := hf.bwd s h he
    obtain ⟨e1, e2⟩ := h2 _ a2
    refine ⟨a1, e2, ?_, r, ?_⟩
    · simp only [e1]; exact a3
    · simp only [e1]; exact a4
  rok := fun s h => hf.rok s h
theorem Cdc.whole {α : Type} {l : List Int} {f : RS → α × RS} {enc : α → List Int} {ok : α → Prop} (hf : Cdc l f enc ok) (d : α) : Cdc l (fun s => if (f s).2.e != 0 then (d, (f s).2) else f s) enc ok where
  fwd := fun s x r h he ho hd => by
    have := hf.fwd s x r h he ho hd
    simp only [this]
    rfl
  bwd := fun s h he => by
    by_cases h0 : ((f s).2.e != 0) = true
    · rw [if_pos h0] at he
      have he : (f s).2.e = 0 := he
      simp [he] at h0
    · rw [if_neg h0] at he ⊢
      exact hf.bwd s h he
  rok := fun s h => by
    split
    · exact hf.rok s h
    · exact hf.rok s h
theorem Cdc.of {α : Type} {l : List Int} {f g : RS → α × RS} {enc : α → List Int} {ok : α → Prop} (hf : Cdc l f enc ok) (h : ∀ s, g s = f s) : Cdc l g enc ok := by
  rw [show g = f from funext h]
  exact hf
theorem cdc_uint (l : List Int) : Cdc l (uintS l) uintB U64 where
  fwd := fun s x r h he ho hd => by
    have hu : uRes l s = (0, x, (uintB x).length) := by unfold uRes; rw [hd]; exact u_fwd ho r
    have h0 : (s.e != 0) = false := by simp [he]
    unfold uintS
    simp [h0, hu, he]
  bwd := fun s h he => by
    unfold uintS at he ⊢
    by_cases h0 : (s.e != 0) = true
    · rw [if_pos h0] at he
      have he : s.e = 0 := he
      simp [he] at h0
    · rw [if_neg h0] at he ⊢
      have hs : s.e = 0 := by simpa using h0
      by_cases h1 : (uRes l s).1 = 0
      · rw [if_pos h1] at he ⊢
        obtain ⟨w, n, e⟩ : ∃ w n, uRes l s = (0, w, n) := ⟨(uRes l s).2.1, (uRes l s).2.2, by rw [← h1]⟩
        obtain ⟨q1, q2, r, q3⟩ := u_bwd (fun x hx => h.b.b x (List.mem_of_mem_drop hx)) e
        rw [e]
        exact ⟨hs, q1, by simp [q2, hs], r, q3⟩
      · rw [if_neg h1] at he
        exact absurd he (failS_ne h1)
  rok := fun s h => (uintS_ok h).1
theorem zag_zig {v : Int} : zag (zig v) = v := by unfold zag zig; split <;> split <;> omega
theorem zig_zag {w : Int} (h : 0 ≤ w) : zig (zag w) = w := by unfold zag zig; split <;> split <;> omega
theorem cdc_int (l : List Int) : Cdc l (intS l) intB I64 :=
  (cdc_uint l).map zag zig (fun x => zag_zig) (fun a ha => by
    have h0 := ha.lo
    have h1 := ha.hi
    refine ⟨?_, ?_, ?_⟩
    · unfold intB; rw [zig_zag h0]
    · unfold zag; split <;> omega
    · unfold zag; split <;> omega) (fun x hx => ⟨by unfold zig; have := hx.lo; have := hx.hi; split <;> omega, by unfold zig; have := hx.lo; have := hx.hi; split <;> omega⟩)
theorem cdc_bool (l : List Int) : Cdc l (boolS l) boolB (fun _ => True) where
  fwd := fun s x r h he ho hd => by
    have h0 : (s.e != 0) = false := by simp [he]
    have hlt := drop_le hd h.at_
    have hl1 : (boolB x).length = 1 := rfl
    have hg : l.getD s.at_ 0 = if x then 1 else 0 := by
      have := congrArg (fun z : List Int => z.getD 0 0) hd
      simp [boolB] at this
      simpa using this
    unfold boolS
    rw [h0]
    simp only [hg]
    rw [if_neg (by decide), if_neg (by omega)]
    cases x <;> simp [boolB, he]
  bwd := fun s h he => by
    unfold boolS at he ⊢
    by_cases h0 : (s.e != 0) = true
    · rw [if_pos h0] at he
      have he : s.e = 0 := he
      simp [he] at h0
    · rw [if_neg h0] at he ⊢
      have hs : s.e = 0 := by simpa using h0
      by_cases h1 : s.at_ = l.length
      · rw [if_pos h1] at he
        exact absurd he (failS_ne (by decide))
      · rw [if_neg h1] at he ⊢
        by_cases h2 : 1 < l.getD s.at_ 0
        · rw [if_pos h2] at he
          exact absurd he (failS_ne (by decide))
        · rw [if_neg h2] at he ⊢
          have hat := h.at_
          have hlt : s.at_ < l.length := by omega
          have hm : l.getD s.at_ 0 ∈ l := by
            simp only [List.getD, List.getElem?_eq_getElem hlt, Option.getD_some]
            exact List.getElem_mem hlt
          have hb := h.b.b _ hm
          have hc : l.getD s.at_ 0 = 0 ∨ l.getD s.at_ 0 = 1 := by omega
          refine ⟨hs, trivial, ?_, l.drop (s.at_ + 1), ?_⟩
          · simp [boolB, hs]
          · rw [drop_get l s.at_ hlt]
            rcases hc with hc | hc <;> rw [hc] <;> rfl
  rok := fun s h => boolS_ok h
end Go.Proofs.YtnbhdjadlbhknaaGreatDoor.J

namespace Go.Proofs.YtnbhdjadlbhknaaGreatDoor.J
open Go.Ax
set_option maxRecDepth 1000000
theorem count_good {l : List Int} {s : RS} {most : Int} (he : (countS l s most).2.e = 0) : countS l s most = uintS l s ∧ (uintS l s).2.e = 0 ∧ ¬ (most < 0 ∨ most < (uintS l s).1) ∧ ¬ ((l.length : Int) - (uintS l s).2.at_ < (uintS l s).1) := by
  unfold countS at he ⊢
  by_cases h0 : ((uintS l s).2.e != 0) = true
  · rw [if_pos h0] at he
    have he : (uintS l s).2.e = 0 := he
    simp [he] at h0
  · rw [if_neg h0] at he ⊢
    have hs : (uintS l s).2.e = 0 := by simpa using h0
    by_cases h1 : most < 0 ∨ most < (uintS l s).1
    · rw [if_pos h1] at he
      exact absurd he (failS_ne (by decide))
    · rw [if_neg h1] at he ⊢
      by_cases h2 : (l.length : Int) - (uintS l s).2.at_ < (uintS l s).1
      · rw [if_pos h2] at he
        exact absurd he (failS_ne (by decide))
      · rw [if_neg h2]
        exact ⟨rfl, hs, h1, h2⟩
theorem count_fwd {l : List Int} {s : RS} {most : Int} {n : Nat} {r : List Int} (h : ROk l s) (he : s.e = 0) (hn : (n : Int) ≤ most) (hl : (n : Int) < 18446744073709551616) (hr : n ≤ r.length) (hd : l.drop s.at_ = uintB (n : Int) ++ r) : countS l s most = ((n : Int), ⟨s.at_ + (uintB (n : Int)).length, 0, s.bad⟩) := by
  have hu := (cdc_uint l).fwd s (n : Int) r h he ⟨by omega, hl⟩ hd
  have hle := drop_le hd h.at_
  have hlen := congrArg List.length (drop_next hd)
  rw [List.length_drop] at hlen
  unfold countS
  rw [hu]
  simp only
  rw [if_neg (by decide), if_neg (by omega), if_neg (by omega)]
structure TxtOk (most : Int) (t : List Int) : Prop where
  n : (t.length : Int) ≤ most
  n2 : (t.length : Int) < 18446744073709551616
  b : Bytes t
theorem cdc_bytes (l : List Int) (most : Int) : Cdc l (fun s => bytesS l s most) textB (TxtOk most) where
  fwd := fun s t r h he ho hd => by
    unfold textB at hd
    rw [List.append_assoc] at hd
    have hc := count_fwd (most := most) (n := t.length) h he ho.n ho.n2 (by simp) hd
    have hn := drop_next hd
    show bytesS l s most = _
    unfold bytesS
    rw [hc]
    simp only [Int.toNat_natCast]
    rw [if_neg (by decide), hn]
    simp [textB, Nat.add_assoc]
  bwd := fun s h he => by
    have he : (bytesS l s most).2.e = 0 := he
    show s.e = 0 ∧ TxtOk most (bytesS l s most).1 ∧ (bytesS l s most).2 = ⟨s.at_ + (textB (bytesS l s most).1).length, 0, s.bad⟩ ∧ ∃ r, l.drop s.at_ = textB (bytesS l s most).1 ++ r
    unfold bytesS at he ⊢
    by_cases h0 : ((countS l s most).2.e != 0) = true
    · rw [if_pos h0] at he
      have he : (countS l s most).2.e = 0 := he
      simp [he] at h0
    · rw [if_neg h0] at he ⊢
      have hc : (countS l s most).2.e = 0 := by simpa using h0
      obtain ⟨g1, g2, g3, g4⟩ := count_good hc
      obtain ⟨a1, a2, a3, r, a4⟩ := (cdc_uint l).bwd s h g2
      have hrk := (cdc_uint l).rok s h
      rw [g1]
      obtain ⟨w, s1, hw⟩ : ∃ w s1, uintS l s = (w, s1) := ⟨_, _, rfl⟩
      rw [hw] at a2 a3 a4 g2 g3 g4 hrk ⊢
      simp only at a2 a3 a4 g2 g3 g4 hrk ⊢
      obtain ⟨n, rfl⟩ := Int.eq_ofNat_of_zero_le a2.lo
      have hat := hrk.at_
      have hr : l.drop s1.at_ = r := by rw [a3]; exact drop_next a4
      have hlen : n ≤ r.length := by rw [← hr, List.length_drop]; omega
      have hhi := a2.hi
      simp only [Int.toNat_natCast]
      have ht : (r.take n).length = n := by rw [List.length_take]; omega
      rw [hr]
      refine ⟨a1, ⟨by rw [ht]; omega, by rw [ht]; omega, ⟨fun x hx => ?_⟩⟩, ?_, r.drop n, ?_⟩
      · have hx := List.mem_of_mem_take hx
        rw [← hr] at hx
        exact h.b.b x (List.mem_of_mem_drop hx)
      · unfold textB
        rw [ht, a3]
        simp only [List.length_append, ht]
        rw [Nat.add_assoc]
      · unfold textB
        rw [ht, a4, List.append_assoc, List.take_append_drop]
  rok := fun s h => bytesS_ok h
theorem strOf_data (t : List Int) : (strOf t).data.toList = t.map fun x => UInt8.ofNat x.toNat := by
  unfold strOf strN strL bytesN
  simp only [List.map_map]
  refine List.ext_getElem (by simp) fun i h1 h2 => ?_
  simp at h1
  simp [cellsOf', h1, byteOf, encB, Go.Ax.get]
  rfl
theorem strB_strOf {t : List Int} (h : Bytes t) : strB (strOf t) = t := by
  unfold strB
  rw [strOf_data, List.map_map]
  refine (List.map_congr_left fun x hx => ?_).trans (List.map_id t)
  obtain ⟨h0, h1⟩ := h.b x hx
  simp [UInt8.toNat_ofNat]
  omega
theorem strOf_strB (s : ByteArray) : strOf (strB s) = s := by
  have : (strOf (strB s)).data = s.data := by
    apply Array.ext'
    rw [strOf_data]
    unfold strB
    rw [List.map_map]
    refine (List.map_congr_left fun x hx => ?_).trans (List.map_id _)
    simp
  cases s
  simpa [ByteArray.ext_iff] using this
theorem strB_bytes (s : ByteArray) : Bytes (strB s) := ⟨fun x hx => by
  unfold strB at hx
  obtain ⟨y, _, rfl⟩ := List.mem_map.1 hx
  have := y.toNat_lt
  omega⟩
theorem cdc_str (l : List Int) (most : Int) : Cdc l (fun s => strS l s most) (fun s => textB (strB s)) (fun s => (s.size : Int) ≤ most ∧ (s.size : Int) < 18446744073709551616) :=
  (cdc_bytes l most).map strOf strB strOf_strB (fun t ht => ⟨by rw [strB_strOf ht.b], by rw [← strB_len, strB_strOf ht.b]; exact ⟨ht.n, ht.n2⟩⟩) (fun s hs => ⟨by rw [strB_len]; exact hs.1, by rw [strB_len]; exact hs.2, strB_bytes s⟩)
end Go.Proofs.YtnbhdjadlbhknaaGreatDoor.J

namespace Go.Proofs.YtnbhdjadlbhknaaGreatDoor.J
open Go.Ax
set_option maxRecDepth 1000000
theorem many_fwd {α : Type} {l : List Int} {f : RS → α × RS} {enc : α → List Int} {ok : α → Prop} (hf : Cdc l f enc ok) : ∀ (xs : List α) (s : RS) (a : List α) (r : List Int), ROk l s → s.e = 0 → (∀ x ∈ xs, ok x) → l.drop s.at_ = xs.flatMap enc ++ r → manyS f xs.length s a = (a ++ xs, ⟨s.at_ + (xs.flatMap enc).length, 0, s.bad⟩)
  | [], s, a, r, h, he, ho, hd => by
    simp [manyS]
    exact rs_eq rfl he rfl
  | x :: xs, s, a, r, h, he, ho, hd => by
    rw [List.flatMap_cons, List.append_assoc] at hd
    have h1 := hf.fwd s x _ h he (ho x (by simp)) hd
    have h2 := hf.rok s h
    simp only [List.length_cons]
    unfold manyS
    rw [h1] at h2 ⊢
    have := many_fwd hf xs _ (a ++ [x]) r h2 rfl (fun y hy => ho y (by simp [hy])) (drop_next hd)
    simp only
    rw [this]
    simp [Nat.add_assoc]
theorem many_bwd {α : Type} {l : List Int} {f : RS → α × RS} {enc : α → List Int} {ok : α → Prop} (hf : Cdc l f enc ok) : ∀ (n : Nat) (s : RS) (a : List α), ROk l s → (manyS f n s a).2.e = 0 → s.e = 0 ∧ ∃ xs r, xs.length = n ∧ (∀ x ∈ xs, ok x) ∧ (manyS f n s a).1 = a ++ xs ∧ l.drop s.at_ = xs.flatMap enc ++ r ∧ (manyS f n s a).2 = ⟨s.at_ + (xs.flatMap enc).length, 0, s.bad⟩
  | 0, s, a, h, he => by
    have he : s.e = 0 := he
    exact ⟨he, [], l.drop s.at_, rfl, fun x hx => absurd hx (by simp), by simp [manyS], by simp, by simp [manyS]; exact rs_eq rfl he rfl⟩
  | n + 1, s, a, h, he => by
    unfold manyS at he ⊢
    obtain ⟨b1, xs, r, b2, b3, b4, b5, b6⟩ := many_bwd hf n _ _ (hf.rok s h) he
    obtain ⟨a1, a2, a3, r1, a4⟩ := hf.bwd s h b1
    refine ⟨a1, (f s).1 :: xs, r, by simp [b2], fun x hx => ?_, ?_, ?_, ?_⟩
    · rcases List.mem_cons.1 hx with rfl | hx
      · exact a2
      · exact b3 x hx
    · rw [b4]; simp
    · have h5 := drop_next a4
      have h6 : (f s).2.at_ = s.at_ + (enc (f s).1).length := by rw [a3]
      rw [h6, h5] at b5
      rw [a4, b5]
      simp
    · rw [b6, a3]
      simp [Nat.add_assoc]
theorem len_flat {α : Type} {enc : α → List Int} {ok : α → Prop} (hp : ∀ x, ok x → 1 ≤ (enc x).length) : ∀ xs : List α, (∀ x ∈ xs, ok x) → xs.length ≤ (xs.flatMap enc).length
  | [], _ => by simp
  | a :: xs, h => by
    have h1 := hp a (h a (by simp))
    have h2 := len_flat hp xs fun x hx => h x (by simp [hx])
    simp only [List.flatMap_cons, List.length_append, List.length_cons]
    omega
structure LstOk {α : Type} (most : Int) (ok : α → Prop) (xs : List α) : Prop where
  n : (xs.length : Int) ≤ most
  n2 : (xs.length : Int) < 18446744073709551616
  ok : ∀ x ∈ xs, ok x
theorem cdc_many {α : Type} {l : List Int} {f : RS → α × RS} {enc : α → List Int} {ok : α → Prop} (hf : Cdc l f enc ok) (hp : ∀ x, ok x → 1 ≤ (enc x).length) (most : Int) :
    Cdc l (fun s => manyS f (countS l s most).1.toNat (countS l s most).2 []) (fun xs => uintB (xs.length : Int) ++ xs.flatMap enc) (LstOk most ok) where
  fwd := fun s xs r h he ho hd => by
    rw [List.append_assoc] at hd
    have hc := count_fwd (most := most) (n := xs.length) h he ho.n ho.n2 (by have := len_flat hp xs ho.ok; rw [List.length_append]; omega) hd
    have hrk := (countS_ok (most := most) h).1
    show manyS f (countS l s most).1.toNat (countS l s most).2 [] = _
    rw [hc] at hrk ⊢
    simp only [Int.toNat_natCast]
    have := many_fwd hf xs _ [] r hrk rfl ho.ok (drop_next hd)
    rw [this]
    simp [Nat.add_assoc]
  bwd := fun s h he => by
    have he : (manyS f (countS l s most).1.toNat (countS l s most).2 []).2.e = 0 := he
    obtain ⟨b1, xs, r, b2, b3, b4, b5, b6⟩ := many_bwd hf _ _ _ (countS_ok (most := most) h).1 he
    obtain ⟨g1, g2, g3, g4⟩ := count_good b1
    obtain ⟨a1, a2, a3, r1, a4⟩ := (cdc_uint l).bwd s h g2
    show s.e = 0 ∧ LstOk most ok (manyS f (countS l s most).1.toNat (countS l s most).2 []).1 ∧ (manyS f (countS l s most).1.toNat (countS l s most).2 []).2 = ⟨s.at_ + (uintB ((manyS f (countS l s most).1.toNat (countS l s most).2 []).1.length : Int) ++ (manyS f (countS l s most).1.toNat (countS l s most).2 []).1.flatMap enc).length, 0, s.bad⟩ ∧ ∃ r, l.drop s.at_ = (uintB ((manyS f (countS l s most).1.toNat (countS l s most).2 []).1.length : Int) ++ (manyS f (countS l s most).1.toNat (countS l s most).2 []).1.flatMap enc) ++ r
    rw [b4, b6]
    rw [g1] at b2 b5 ⊢
    have e : (xs.length : Int) = (uintS l s).1 := by have := a2.lo; omega
    simp only [List.nil_append]
    rw [e]
    refine ⟨a1, ⟨by omega, by have := a2.hi; omega, b3⟩, ?_, r, ?_⟩
    · rw [a3]; simp [Nat.add_assoc]
    · have h5 := drop_next a4
      have h6 : (uintS l s).2.at_ = s.at_ + (uintB (uintS l s).1).length := by rw [a3]
      rw [h6, h5] at b5
      rw [a4, b5]
      simp
  rok := fun s h => many_ok (fun s h => hf.rok s h) _ _ _ (countS_ok h).1
structure RecOk (x : Rec) : Prop where
  u : RecU x
  k : x.key.size ≤ 32
  v : x.val.length ≤ 256
  b : Bytes x.val
theorem cdc_rec (l : List Int) : Cdc l (recS l) recB RecOk := by
  have h := ((cdc_uint l).pair ((cdc_str l 32).pair ((cdc_bytes l 256).pair ((cdc_uint l).pair (cdc_uint l))))).map (β := Rec) (fun a => ⟨a.1, a.2.1, a.2.2.1, a.2.2.2.1, a.2.2.2.2⟩) (fun x => (x.off, x.key, x.val, x.prod, x.seq)) (eb := recB) (ob := RecOk) (fun x => rfl)
    (fun a ha => by
      obtain ⟨h1, h2, h3, h4, h5⟩ := ha
      refine ⟨by simp [recB], ⟨h1, h4, h5⟩, ?_, ?_, h3.b⟩
      · have := h2.1; show a.2.1.size ≤ 32; omega
      · have := h3.n; show a.2.2.1.length ≤ 256; omega)
    (fun x hx => ⟨hx.u.off, ⟨by have := hx.k; show (x.key.size : Int) ≤ 32; omega, by have := hx.k; show (x.key.size : Int) < _; omega⟩, ⟨by have := hx.v; show (x.val.length : Int) ≤ 256; omega, by have := hx.v; show (x.val.length : Int) < _; omega, hx.b⟩, hx.u.prod, hx.u.seq⟩)
  exact (h.whole default).of fun s => rfl
structure RngOk (r : Rng) : Prop where
  lo : r.lo.size ≤ 32
  hi : r.hi.size ≤ 32
structure ConOk (x : Con) : Prop where
  n : x.name.size ≤ 32
  o : U64 x.off
theorem recsN_many (l : List Int) : ∀ n s a, (recsN l n s a).2.e = 0 ∨ (manyS (recS l) n s a).2.e = 0 → ROk l s → recsN l n s a = manyS (recS l) n s a
  | 0, s, a, _, _ => rfl
  | n + 1, s, a, h, hs => by
    unfold recsN manyS at *
    by_cases h0 : (s.e != 0) = true
    · exfalso
      have hne : s.e ≠ 0 := by simpa using h0
      rw [if_pos h0] at h
      rcases h with h | h
      · exact hne h
      · obtain ⟨b1, _⟩ := many_bwd (cdc_rec l) n _ _ (rec_ok hs) h
        exact hne ((cdc_rec l).bwd s hs b1).1
    · rw [if_neg h0] at h ⊢
      exact recsN_many l n _ _ h (rec_ok hs)
theorem cdc_list (l : List Int) (most : Int) : Cdc l (fun s => listS l s most) listB (LstOk most RecOk) := by
  have h := cdc_many (cdc_rec l) (fun x _ => recB_pos x) most
  refine ⟨fun s x r hs he ho hd => ?_, fun s hs he => ?_, fun s hs => listS_ok hs⟩
  · have h1 := h.fwd s x r hs he ho hd
    have h2 := recsN_many l _ _ [] (.inr (by rw [h1])) (countS_ok (most := most) hs).1
    exact h2.trans h1
  · have h2 : listS l s most = _ := recsN_many l _ _ [] (.inl he) (countS_ok (most := most) hs).1
    have h3 := h.bwd s hs (by have := he; rw [h2] at this; exact this)
    rw [h2]
    exact h3
end Go.Proofs.YtnbhdjadlbhknaaGreatDoor.J
