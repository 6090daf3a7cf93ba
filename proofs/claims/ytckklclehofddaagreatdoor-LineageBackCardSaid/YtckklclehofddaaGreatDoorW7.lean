import Derived.Test.YtckklclehofddaaGreatDoorW4
import Derived.Test.YtckklclehofddaaGreatDoorW6
set_option linter.unusedVariables false
set_option linter.unusedSimpArgs false
set_option linter.unusedSectionVars false
/-! Lineage: the law Back: the conditions. -/
namespace Go.Proofs.YtckklclehofddaaGreatDoor.D
open Go.Ax
set_option maxRecDepth 1000000
structure Bck where
  p : Part
  k : ByteArray
  A : Part
  B : Part
  M : Part
  e : Int
structure MrgZ (p q M : Part) : Prop where
  c : (T.ret (.tup [.agg (encPt true M), .s (.int .i64 0)], [], []) : T An).Sat (ACall' Tryz.prog 12 [.agg (encPt true p), .agg (encPt true q)] [])
noncomputable def mzC (p q M : Part) : Ctr Tryz.prog := ⟨12, [.agg (encPt true p), .agg (encPt true q)], [], .need (MrgZ p q M) (.ret (.tup [.agg (encPt true M), .s (.int .i64 0)], [], [])), T.Sat.need fun h => h.c⟩
def bkB (r : List (Nat × AV)) : List AV := mkT 268 ([(2, .ptr 0 0 0 0), (4, .s (.bool false)), (5, .y (.bool true)), (9, .ptr 3 0 0 0)] ++ r)
def bkM (x : Bck) : List Blk := [.box 30 (encPt true x.p), .dead, .dead, .box 30 (encPt true x.M)]
def bkX : List Nat := [0, 1, 2, 3, 4, 5, 6, 7, 8, 9, 10, 11, 12]
/-! producers -/
def b1T (i : Nat) : List AV := bkB [(11, .y (.int .i64 i))]
def b1S (x : Bck) (_ : Unit) : Exit × List AV × List Blk := (.exit 0, bkB [], bkM x)
def vcB1 (x : Bck) (i : Nat) : Prop :=
  (decide ((↑i : Int) < (↑(List.length x.M.prods) : Int)) = true → (true && decide ((↑i : Int) < (↑(List.length x.M.prods) : Int))) = true ∧ (true && decide ((↑i : Int) < (↑(List.length x.p.prods) : Int))) = true ∧ (((List.getD x.M.prods (Int.toNat (↑i : Int)) (@default P.Producer P.instInhabitedProducer)).id != (List.getD x.p.prods (Int.toNat (↑i : Int)) (@default P.Producer P.instInhabitedProducer)).id) = true → False) ∧ (((List.getD x.M.prods (Int.toNat (↑i : Int)) (@default P.Producer P.instInhabitedProducer)).id != (List.getD x.p.prods (Int.toNat (↑i : Int)) (@default P.Producer P.instInhabitedProducer)).id) = false → (true && decide ((↑i : Int) < (↑(List.length x.M.prods) : Int))) = true ∧ (true && decide ((↑i : Int) < (↑(List.length x.p.prods) : Int))) = true ∧ (((List.getD x.M.prods (Int.toNat (↑i : Int)) (@default P.Producer P.instInhabitedProducer)).seq != (List.getD x.p.prods (Int.toNat (↑i : Int)) (@default P.Producer P.instInhabitedProducer)).seq) = true → False) ∧ (((List.getD x.M.prods (Int.toNat (↑i : Int)) (@default P.Producer P.instInhabitedProducer)).seq != (List.getD x.p.prods (Int.toNat (↑i : Int)) (@default P.Producer P.instInhabitedProducer)).seq) = false → (true && decide ((↑i : Int) < (↑(List.length x.M.prods) : Int))) = true ∧ (true && decide ((↑i : Int) < (↑(List.length x.p.prods) : Int))) = true ∧ ((!(List.getD x.M.prods (Int.toNat (↑i : Int)) (@default P.Producer P.instInhabitedProducer)).here == (List.getD x.p.prods (Int.toNat (↑i : Int)) (@default P.Producer P.instInhabitedProducer)).here) = true → False) ∧ ((!(List.getD x.M.prods (Int.toNat (↑i : Int)) (@default P.Producer P.instInhabitedProducer)).here == (List.getD x.p.prods (Int.toNat (↑i : Int)) (@default P.Producer P.instInhabitedProducer)).here) = false → ∃ (j : Nat), List.length x.M.prods - j < List.length x.M.prods - i ∧ ((((0 : Nat) = (0 : Nat) ∧ (0 : Nat) = (0 : Nat)) ∧ false = false ∧ true = true ∧ ((0 : Nat) = (0 : Nat) ∧ (0 : Nat) = (0 : Nat)) ∧ IntKind.wrap IntKind.i64 ((↑i : Int) + (1 : Int)) = (↑j : Int) ∧ True) ∧ ((x.p.rng.lo = x.p.rng.lo ∧ x.p.rng.hi = x.p.rng.hi ∧ x.p.epoch = x.p.epoch ∧ x.p.frozen = x.p.frozen ∧ (true = true ∧ List.length x.p.recs = List.length x.p.recs ∧ contLe (List.length x.p.recs) (5 : Nat) (cellsOf' encR x.p.recs) (cellsOf' encR x.p.recs)) ∧ (true = true ∧ List.length x.p.prods = List.length x.p.prods ∧ contLe (List.length x.p.prods) (4 : Nat) (cellsOf' P.encP x.p.prods) (cellsOf' P.encP x.p.prods)) ∧ (true = true ∧ List.length x.p.cons = List.length x.p.cons ∧ contLe (List.length x.p.cons) (2 : Nat) (cellsOf' encC x.p.cons) (cellsOf' encC x.p.cons)) ∧ True) ∧ (x.M.rng.lo = x.M.rng.lo ∧ x.M.rng.hi = x.M.rng.hi ∧ x.M.epoch = x.M.epoch ∧ x.M.frozen = x.M.frozen ∧ (true = true ∧ List.length x.M.recs = List.length x.M.recs ∧ contLe (List.length x.M.recs) (5 : Nat) (cellsOf' encR x.M.recs) (cellsOf' encR x.M.recs)) ∧ (true = true ∧ List.length x.M.prods = List.length x.M.prods ∧ contLe (List.length x.M.prods) (4 : Nat) (cellsOf' P.encP x.M.prods) (cellsOf' P.encP x.M.prods)) ∧ (true = true ∧ List.length x.M.cons = List.length x.M.cons ∧ contLe (List.length x.M.cons) (2 : Nat) (cellsOf' encC x.M.cons) (cellsOf' encC x.M.cons)) ∧ True) ∧ True) ∧ true = true) ∧ true = true ∧ () = ())))) ∧ (decide ((↑i : Int) < (↑(List.length x.M.prods) : Int)) = false → (((0 : Nat) = (0 : Nat) ∧ (0 : Nat) = (0 : Nat)) ∧ false = false ∧ true = true ∧ ((0 : Nat) = (0 : Nat) ∧ (0 : Nat) = (0 : Nat)) ∧ True) ∧ ((x.p.rng.lo = x.p.rng.lo ∧ x.p.rng.hi = x.p.rng.hi ∧ x.p.epoch = x.p.epoch ∧ x.p.frozen = x.p.frozen ∧ (true = true ∧ List.length x.p.recs = List.length x.p.recs ∧ contLe (List.length x.p.recs) (5 : Nat) (cellsOf' encR x.p.recs) (cellsOf' encR x.p.recs)) ∧ (true = true ∧ List.length x.p.prods = List.length x.p.prods ∧ contLe (List.length x.p.prods) (4 : Nat) (cellsOf' P.encP x.p.prods) (cellsOf' P.encP x.p.prods)) ∧ (true = true ∧ List.length x.p.cons = List.length x.p.cons ∧ contLe (List.length x.p.cons) (2 : Nat) (cellsOf' encC x.p.cons) (cellsOf' encC x.p.cons)) ∧ True) ∧ (x.M.rng.lo = x.M.rng.lo ∧ x.M.rng.hi = x.M.rng.hi ∧ x.M.epoch = x.M.epoch ∧ x.M.frozen = x.M.frozen ∧ (true = true ∧ List.length x.M.recs = List.length x.M.recs ∧ contLe (List.length x.M.recs) (5 : Nat) (cellsOf' encR x.M.recs) (cellsOf' encR x.M.recs)) ∧ (true = true ∧ List.length x.M.prods = List.length x.M.prods ∧ contLe (List.length x.M.prods) (4 : Nat) (cellsOf' P.encP x.M.prods) (cellsOf' P.encP x.M.prods)) ∧ (true = true ∧ List.length x.M.cons = List.length x.M.cons ∧ contLe (List.length x.M.cons) (2 : Nat) (cellsOf' encC x.M.cons) (cellsOf' encC x.M.cons)) ∧ True) ∧ True) ∧ true = true)
set_option maxRecDepth 1000000 in
theorem vcB1_eq (x : Bck) (i : Nat) : (loopVC Tryz.prog (hT _) 6 11 (fun i => x.M.prods.length - i) b1T (fun _ => bkM x) bkX (fun _ => .ret ()) (b1S x) i) = vcB1 x i := by kernel_rfl
/-! consumers -/
def offN (x : Bck) (i : Nat) : Nat := (x.M.cons.getD i default).off.toNat
def restR (x : Bck) (i : Nat) : AV := .ys true 5 (x.M.recs.length - offN x i) (cellsOf' encR (x.M.recs.drop (offN x i)))
abbrev J3 (x : Bck) (i : Nat) := { j : Nat // (x.p.cons.getD i default).off ≤ (j : Int) }
def b3T (x : Bck) (i : Nat) (j : J3 x i) : List AV := bkB [(12, .y (.int .i64 i)), (13, restR x i), (14, .y (.int .i64 j.1))]
def b3S (x : Bck) (i : Nat) (_ : Unit) : Exit × List AV × List Blk := (.exit 4, bkB [(12, .y (.int .i64 i))], bkM x)
noncomputable def b3H (x : Bck) (i j : Nat) : HintsT Tryz.prog := hh _ noLp (cs1 6 24 7 (wiC true true [x.p.recs.getD j default] (x.M.recs.drop (offN x i))) noCs) noOp
def vcB3 (x : Bck) (i : Nat) (j : J3 x i) : Prop :=
  (decide ((↑j.val : Int) < (↑(List.length x.p.recs) : Int)) = true → (true && decide ((↑j.val : Int) ≤ IntKind.wrap IntKind.i64 ((↑j.val : Int) + (1 : Int))) && decide (IntKind.wrap IntKind.i64 ((↑j.val : Int) + (1 : Int)) ≤ (↑(List.length x.p.recs) : Int))) = true ∧ ((true = true ∧ Int.toNat (IntKind.wrap IntKind.i64 ((↑j.val : Int) + (1 : Int))) - Int.toNat (↑j.val : Int) = List.length [List.getD x.p.recs j.val (@default Rec instInhabitedRec)] ∧ contLe (Int.toNat (IntKind.wrap IntKind.i64 ((↑j.val : Int) + (1 : Int))) - Int.toNat (↑j.val : Int)) (5 : Nat) (fun (k : Nat) => cellsOf' encR x.p.recs (Int.toNat (↑j.val : Int) + k)) (cellsOf' encR [List.getD x.p.recs j.val (@default Rec instInhabitedRec)])) ∧ (true = true ∧ List.length x.M.recs - offN x i = List.length (List.drop (offN x i) x.M.recs) ∧ contLe (List.length x.M.recs - offN x i) (5 : Nat) (cellsOf' encR (List.drop (offN x i) x.M.recs)) (cellsOf' encR (List.drop (offN x i) x.M.recs))) ∧ True) ∧ True ∧ (List.length (List.drop (offN x i) x.M.recs) ≤ (9223372036854775806 : Nat) ∧ List.length [List.getD x.p.recs j.val (@default Rec instInhabitedRec)] ≤ (9223372036854775806 : Nat) ∧ List.Sublist [strip (List.getD x.p.recs j.val (@default Rec instInhabitedRec))] (List.map strip (List.drop (offN x i) x.M.recs))) ∧ (false = true → False) ∧ (false = false → ∃ (j_1 : J3 x i), List.length x.p.recs - j_1.val < List.length x.p.recs - j.val ∧ ((((0 : Nat) = (0 : Nat) ∧ (0 : Nat) = (0 : Nat)) ∧ false = false ∧ true = true ∧ ((0 : Nat) = (0 : Nat) ∧ (0 : Nat) = (0 : Nat)) ∧ (↑i : Int) = (↑i : Int) ∧ (true = true ∧ List.length x.M.recs - offN x i = List.length x.M.recs - offN x i ∧ contLe (List.length x.M.recs - offN x i) (5 : Nat) (cellsOf' encR (List.drop (offN x i) x.M.recs)) (cellsOf' encR (List.drop (offN x i) x.M.recs))) ∧ IntKind.wrap IntKind.i64 ((↑j.val : Int) + (1 : Int)) = (↑j_1.val : Int) ∧ True) ∧ ((x.p.rng.lo = x.p.rng.lo ∧ x.p.rng.hi = x.p.rng.hi ∧ x.p.epoch = x.p.epoch ∧ x.p.frozen = x.p.frozen ∧ (true = true ∧ List.length x.p.recs = List.length x.p.recs ∧ contLe (List.length x.p.recs) (5 : Nat) (cellsOf' encR x.p.recs) (cellsOf' encR x.p.recs)) ∧ (true = true ∧ List.length x.p.prods = List.length x.p.prods ∧ contLe (List.length x.p.prods) (4 : Nat) (cellsOf' P.encP x.p.prods) (cellsOf' P.encP x.p.prods)) ∧ (true = true ∧ List.length x.p.cons = List.length x.p.cons ∧ contLe (List.length x.p.cons) (2 : Nat) (cellsOf' encC x.p.cons) (cellsOf' encC x.p.cons)) ∧ True) ∧ (x.M.rng.lo = x.M.rng.lo ∧ x.M.rng.hi = x.M.rng.hi ∧ x.M.epoch = x.M.epoch ∧ x.M.frozen = x.M.frozen ∧ (true = true ∧ List.length x.M.recs = List.length x.M.recs ∧ contLe (List.length x.M.recs) (5 : Nat) (cellsOf' encR x.M.recs) (cellsOf' encR x.M.recs)) ∧ (true = true ∧ List.length x.M.prods = List.length x.M.prods ∧ contLe (List.length x.M.prods) (4 : Nat) (cellsOf' P.encP x.M.prods) (cellsOf' P.encP x.M.prods)) ∧ (true = true ∧ List.length x.M.cons = List.length x.M.cons ∧ contLe (List.length x.M.cons) (2 : Nat) (cellsOf' encC x.M.cons) (cellsOf' encC x.M.cons)) ∧ True) ∧ True) ∧ true = true) ∧ true = true ∧ () = ())) ∧ (decide ((↑j.val : Int) < (↑(List.length x.p.recs) : Int)) = false → (((0 : Nat) = (0 : Nat) ∧ (0 : Nat) = (0 : Nat)) ∧ false = false ∧ true = true ∧ ((0 : Nat) = (0 : Nat) ∧ (0 : Nat) = (0 : Nat)) ∧ (↑i : Int) = (↑i : Int) ∧ True) ∧ ((x.p.rng.lo = x.p.rng.lo ∧ x.p.rng.hi = x.p.rng.hi ∧ x.p.epoch = x.p.epoch ∧ x.p.frozen = x.p.frozen ∧ (true = true ∧ List.length x.p.recs = List.length x.p.recs ∧ contLe (List.length x.p.recs) (5 : Nat) (cellsOf' encR x.p.recs) (cellsOf' encR x.p.recs)) ∧ (true = true ∧ List.length x.p.prods = List.length x.p.prods ∧ contLe (List.length x.p.prods) (4 : Nat) (cellsOf' P.encP x.p.prods) (cellsOf' P.encP x.p.prods)) ∧ (true = true ∧ List.length x.p.cons = List.length x.p.cons ∧ contLe (List.length x.p.cons) (2 : Nat) (cellsOf' encC x.p.cons) (cellsOf' encC x.p.cons)) ∧ True) ∧ (x.M.rng.lo = x.M.rng.lo ∧ x.M.rng.hi = x.M.rng.hi ∧ x.M.epoch = x.M.epoch ∧ x.M.frozen = x.M.frozen ∧ (true = true ∧ List.length x.M.recs = List.length x.M.recs ∧ contLe (List.length x.M.recs) (5 : Nat) (cellsOf' encR x.M.recs) (cellsOf' encR x.M.recs)) ∧ (true = true ∧ List.length x.M.prods = List.length x.M.prods ∧ contLe (List.length x.M.prods) (4 : Nat) (cellsOf' P.encP x.M.prods) (cellsOf' P.encP x.M.prods)) ∧ (true = true ∧ List.length x.M.cons = List.length x.M.cons ∧ contLe (List.length x.M.cons) (2 : Nat) (cellsOf' encC x.M.cons) (cellsOf' encC x.M.cons)) ∧ True) ∧ True) ∧ true = true)
set_option maxRecDepth 1000000 in
theorem vcB3_eq (x : Bck) (i : Nat) (j : J3 x i) : (loopVC Tryz.prog (b3H x i j.1) 6 22 (fun (j : J3 x i) => x.p.recs.length - j.1) (b3T x i) (fun _ => bkM x) bkX (fun _ => .ret ()) (b3S x i) j) = vcB3 x i j := by kernel_rfl
def b2T (i : Nat) : List AV := bkB [(12, .y (.int .i64 i))]
def b2S (x : Bck) (_ : Unit) : Exit × List AV × List Blk := (.exit 2, bkB [], bkM x)
noncomputable def b2H (x : Bck) (i : Nat) : HintsT Tryz.prog := hh _ (lp1 6 22 (jobOf (b3T x i) (fun _ => bkM x) bkX (fun _ => .ret ()) (b3S x i) ⟨(x.p.cons.getD i default).off.toNat, Int.self_le_toNat _⟩) noLp) noCs noOp
def vcB2 (x : Bck) (i : Nat) : Prop :=
  (decide ((↑i : Int) < (↑(List.length x.p.cons) : Int)) = true → (true && decide ((↑i : Int) < (↑(List.length x.M.cons) : Int))) = true ∧ (true && decide ((↑i : Int) < (↑(List.length x.p.cons) : Int))) = true ∧ ((!(List.getD x.M.cons (Int.toNat (↑i : Int)) (@default Con instInhabitedCon)).name.data.toList == (List.getD x.p.cons (Int.toNat (↑i : Int)) (@default Con instInhabitedCon)).name.data.toList) = true → False) ∧ ((!(List.getD x.M.cons (Int.toNat (↑i : Int)) (@default Con instInhabitedCon)).name.data.toList == (List.getD x.p.cons (Int.toNat (↑i : Int)) (@default Con instInhabitedCon)).name.data.toList) = false → (true && decide ((↑i : Int) < (↑(List.length x.M.cons) : Int))) = true ∧ (decide (IntKind.wrap IntKind.u64 (↑(List.length x.M.recs) : Int) < (List.getD x.M.cons (Int.toNat (↑i : Int)) (@default Con instInhabitedCon)).off) = true → False) ∧ (decide (IntKind.wrap IntKind.u64 (↑(List.length x.M.recs) : Int) < (List.getD x.M.cons (Int.toNat (↑i : Int)) (@default Con instInhabitedCon)).off) = false → (true && decide ((↑i : Int) < (↑(List.length x.M.cons) : Int))) = true ∧ (decide ((0 : Int) ≤ IntKind.wrap IntKind.i64 (List.getD x.M.cons (Int.toNat (↑i : Int)) (@default Con instInhabitedCon)).off) && decide (IntKind.wrap IntKind.i64 (List.getD x.M.cons (Int.toNat (↑i : Int)) (@default Con instInhabitedCon)).off ≤ (↑(List.length x.M.recs) : Int)) && decide ((↑(List.length x.M.recs) : Int) ≤ (↑(List.length x.M.recs) : Int))) = true ∧ (true && decide ((↑i : Int) < (↑(List.length x.p.cons) : Int))) = true ∧ ((((0 : Nat) = (0 : Nat) ∧ (0 : Nat) = (0 : Nat)) ∧ false = false ∧ true = true ∧ ((0 : Nat) = (0 : Nat) ∧ (0 : Nat) = (0 : Nat)) ∧ (↑i : Int) = (↑i : Int) ∧ (true = true ∧ Int.toNat (↑(List.length x.M.recs) : Int) - Int.toNat (IntKind.wrap IntKind.i64 (List.getD x.M.cons (Int.toNat (↑i : Int)) (@default Con instInhabitedCon)).off) = List.length x.M.recs - offN x i ∧ contLe (Int.toNat (↑(List.length x.M.recs) : Int) - Int.toNat (IntKind.wrap IntKind.i64 (List.getD x.M.cons (Int.toNat (↑i : Int)) (@default Con instInhabitedCon)).off)) (5 : Nat) (fun (k : Nat) => cellsOf' encR x.M.recs (Int.toNat (IntKind.wrap IntKind.i64 (List.getD x.M.cons (Int.toNat (↑i : Int)) (@default Con instInhabitedCon)).off) + k)) (cellsOf' encR (List.drop (offN x i) x.M.recs))) ∧ IntKind.wrap IntKind.i64 (List.getD x.p.cons (Int.toNat (↑i : Int)) (@default Con instInhabitedCon)).off = (↑(Int.toNat (List.getD x.p.cons i (@default Con instInhabitedCon)).off) : Int) ∧ True) ∧ ((x.p.rng.lo = x.p.rng.lo ∧ x.p.rng.hi = x.p.rng.hi ∧ x.p.epoch = x.p.epoch ∧ x.p.frozen = x.p.frozen ∧ (true = true ∧ List.length x.p.recs = List.length x.p.recs ∧ contLe (List.length x.p.recs) (5 : Nat) (cellsOf' encR x.p.recs) (cellsOf' encR x.p.recs)) ∧ (true = true ∧ List.length x.p.prods = List.length x.p.prods ∧ contLe (List.length x.p.prods) (4 : Nat) (cellsOf' P.encP x.p.prods) (cellsOf' P.encP x.p.prods)) ∧ (true = true ∧ List.length x.p.cons = List.length x.p.cons ∧ contLe (List.length x.p.cons) (2 : Nat) (cellsOf' encC x.p.cons) (cellsOf' encC x.p.cons)) ∧ True) ∧ (x.M.rng.lo = x.M.rng.lo ∧ x.M.rng.hi = x.M.rng.hi ∧ x.M.epoch = x.M.epoch ∧ x.M.frozen = x.M.frozen ∧ (true = true ∧ List.length x.M.recs = List.length x.M.recs ∧ contLe (List.length x.M.recs) (5 : Nat) (cellsOf' encR x.M.recs) (cellsOf' encR x.M.recs)) ∧ (true = true ∧ List.length x.M.prods = List.length x.M.prods ∧ contLe (List.length x.M.prods) (4 : Nat) (cellsOf' P.encP x.M.prods) (cellsOf' P.encP x.M.prods)) ∧ (true = true ∧ List.length x.M.cons = List.length x.M.cons ∧ contLe (List.length x.M.cons) (2 : Nat) (cellsOf' encC x.M.cons) (cellsOf' encC x.M.cons)) ∧ True) ∧ True) ∧ true = true) ∧ LoopOk Tryz.prog (6 : Nat) (22 : Nat) (loopAt Tryz.prog (6 : Nat) (22 : Nat)) { t := b3T x i (⟨Int.toNat (List.getD x.p.cons i default).off, b2H._proof_1 x i⟩ : { j : Nat // (List.getD x.p.cons i default).off ≤ (↑j : Int) }), m := bkM x, mv := [] : St } (T.map (lout bkX (b3S x i)) ((fun (x : J3 x i) => T.ret ()) (⟨Int.toNat (List.getD x.p.cons i default).off, b2H._proof_1 x i⟩ : { j : Nat // (List.getD x.p.cons i default).off ≤ (↑j : Int) }))) ∧ ∃ (j : Nat), List.length x.p.cons - j < List.length x.p.cons - i ∧ ((((0 : Nat) = (0 : Nat) ∧ (0 : Nat) = (0 : Nat)) ∧ false = false ∧ true = true ∧ ((0 : Nat) = (0 : Nat) ∧ (0 : Nat) = (0 : Nat)) ∧ IntKind.wrap IntKind.i64 ((↑i : Int) + (1 : Int)) = (↑j : Int) ∧ True) ∧ ((x.p.rng.lo = x.p.rng.lo ∧ x.p.rng.hi = x.p.rng.hi ∧ x.p.epoch = x.p.epoch ∧ x.p.frozen = x.p.frozen ∧ (true = true ∧ List.length x.p.recs = List.length x.p.recs ∧ contLe (List.length x.p.recs) (5 : Nat) (cellsOf' encR x.p.recs) (cellsOf' encR x.p.recs)) ∧ (true = true ∧ List.length x.p.prods = List.length x.p.prods ∧ contLe (List.length x.p.prods) (4 : Nat) (cellsOf' P.encP x.p.prods) (cellsOf' P.encP x.p.prods)) ∧ (true = true ∧ List.length x.p.cons = List.length x.p.cons ∧ contLe (List.length x.p.cons) (2 : Nat) (cellsOf' encC x.p.cons) (cellsOf' encC x.p.cons)) ∧ True) ∧ (x.M.rng.lo = x.M.rng.lo ∧ x.M.rng.hi = x.M.rng.hi ∧ x.M.epoch = x.M.epoch ∧ x.M.frozen = x.M.frozen ∧ (true = true ∧ List.length x.M.recs = List.length x.M.recs ∧ contLe (List.length x.M.recs) (5 : Nat) (cellsOf' encR x.M.recs) (cellsOf' encR x.M.recs)) ∧ (true = true ∧ List.length x.M.prods = List.length x.M.prods ∧ contLe (List.length x.M.prods) (4 : Nat) (cellsOf' P.encP x.M.prods) (cellsOf' P.encP x.M.prods)) ∧ (true = true ∧ List.length x.M.cons = List.length x.M.cons ∧ contLe (List.length x.M.cons) (2 : Nat) (cellsOf' encC x.M.cons) (cellsOf' encC x.M.cons)) ∧ True) ∧ True) ∧ true = true) ∧ true = true ∧ () = ()))) ∧ (decide ((↑i : Int) < (↑(List.length x.p.cons) : Int)) = false → (((0 : Nat) = (0 : Nat) ∧ (0 : Nat) = (0 : Nat)) ∧ false = false ∧ true = true ∧ ((0 : Nat) = (0 : Nat) ∧ (0 : Nat) = (0 : Nat)) ∧ True) ∧ ((x.p.rng.lo = x.p.rng.lo ∧ x.p.rng.hi = x.p.rng.hi ∧ x.p.epoch = x.p.epoch ∧ x.p.frozen = x.p.frozen ∧ (true = true ∧ List.length x.p.recs = List.length x.p.recs ∧ contLe (List.length x.p.recs) (5 : Nat) (cellsOf' encR x.p.recs) (cellsOf' encR x.p.recs)) ∧ (true = true ∧ List.length x.p.prods = List.length x.p.prods ∧ contLe (List.length x.p.prods) (4 : Nat) (cellsOf' P.encP x.p.prods) (cellsOf' P.encP x.p.prods)) ∧ (true = true ∧ List.length x.p.cons = List.length x.p.cons ∧ contLe (List.length x.p.cons) (2 : Nat) (cellsOf' encC x.p.cons) (cellsOf' encC x.p.cons)) ∧ True) ∧ (x.M.rng.lo = x.M.rng.lo ∧ x.M.rng.hi = x.M.rng.hi ∧ x.M.epoch = x.M.epoch ∧ x.M.frozen = x.M.frozen ∧ (true = true ∧ List.length x.M.recs = List.length x.M.recs ∧ contLe (List.length x.M.recs) (5 : Nat) (cellsOf' encR x.M.recs) (cellsOf' encR x.M.recs)) ∧ (true = true ∧ List.length x.M.prods = List.length x.M.prods ∧ contLe (List.length x.M.prods) (4 : Nat) (cellsOf' P.encP x.M.prods) (cellsOf' P.encP x.M.prods)) ∧ (true = true ∧ List.length x.M.cons = List.length x.M.cons ∧ contLe (List.length x.M.cons) (2 : Nat) (cellsOf' encC x.M.cons) (cellsOf' encC x.M.cons)) ∧ True) ∧ True) ∧ true = true)
set_option maxRecDepth 1000000 in
theorem vcB2_eq (x : Bck) (i : Nat) : (loopVC Tryz.prog (b2H x i) 6 16 (fun i => x.p.cons.length - i) b2T (fun _ => bkM x) bkX (fun _ => .ret ()) (b2S x) i) = vcB2 x i := by kernel_rfl
/-! records of a key -/
def ske (K : ByteArray) (x : Rec) : Bool := x.key.data.toList == K.data.toList
def ofK (K : ByteArray) (l : List Rec) : List Rec := l.filter (ske K)
def keyI (x : Bck) (i : Nat) : ByteArray := (x.p.recs.getD i default).key
def oneK (x : Bck) (i j : Nat) : List Rec := ofK (keyI x i) (x.p.recs.take j)
def twoK (x : Bck) (i j : Nat) : List Rec := ofK (keyI x i) (x.M.recs.take j)
def b5T (x : Bck) (i j : Nat) : List AV := bkB [(16, .y (.int .i64 i)), (17, .own 4 5 0 (oneK x i j).length), (18, .own 5 5 0 (twoK x i j).length), (19, .y (.int .i64 j))]
def b5M (x : Bck) (i j : Nat) : List Blk := bkM x ++ [rowR (oneK x i j), rowR (twoK x i j)]
def b5S (x : Bck) (i : Nat) (_ : Unit) : Exit × List AV × List Blk := (.exit 8, bkB [(16, .y (.int .i64 i)), (17, .own 4 5 0 (oneK x i x.p.recs.length).length), (18, .own 5 5 0 (twoK x i x.p.recs.length).length)], b5M x i x.p.recs.length)
def vcB5 (x : Bck) (i : Nat) (j : Nat) : Prop :=
  (decide ((↑j : Int) < (↑(List.length x.p.recs) : Int)) = true → (true && decide ((↑j : Int) < (↑(List.length x.p.recs) : Int))) = true ∧ (true && decide ((↑i : Int) < (↑(List.length x.p.recs) : Int))) = true ∧ (((List.getD x.p.recs (Int.toNat (↑j : Int)) (@default Rec instInhabitedRec)).key.data.toList == (List.getD x.p.recs (Int.toNat (↑i : Int)) (@default Rec instInhabitedRec)).key.data.toList) = true → (true && decide ((↑j : Int) < (↑(List.length x.p.recs) : Int))) = true ∧ (decide (List.length (oneK x i j) = List.length (oneK x i j)) && decide (List.length (oneK x i j) + (1 : Nat) ≤ (9223372036854775807 : Nat)) && decide ((List.length (oneK x i j) + (1 : Nat)) * (64 : Nat) ≤ (140737488355328 : Nat))) = true ∧ (true && decide ((↑j : Int) < (↑(List.length x.M.recs) : Int))) = true ∧ (true && decide ((↑i : Int) < (↑(List.length x.p.recs) : Int))) = true ∧ (((List.getD x.M.recs (Int.toNat (↑j : Int)) (@default Rec instInhabitedRec)).key.data.toList == (List.getD x.p.recs (Int.toNat (↑i : Int)) (@default Rec instInhabitedRec)).key.data.toList) = true → (true && decide ((↑j : Int) < (↑(List.length x.M.recs) : Int))) = true ∧ (decide (List.length (twoK x i j) = List.length (twoK x i j)) && decide (List.length (twoK x i j) + (1 : Nat) ≤ (9223372036854775807 : Nat)) && decide ((List.length (twoK x i j) + (1 : Nat)) * (64 : Nat) ≤ (140737488355328 : Nat))) = true ∧ ∃ (j_1 : Nat), List.length x.p.recs - j_1 < List.length x.p.recs - j ∧ ((((0 : Nat) = (0 : Nat) ∧ (0 : Nat) = (0 : Nat)) ∧ false = false ∧ true = true ∧ ((0 : Nat) = (0 : Nat) ∧ (0 : Nat) = (0 : Nat)) ∧ (↑i : Int) = (↑i : Int) ∧ ((0 : Nat) = (0 : Nat) ∧ List.length (oneK x i j) + (1 : Nat) = List.length (oneK x i j_1)) ∧ ((0 : Nat) = (0 : Nat) ∧ List.length (twoK x i j) + (1 : Nat) = List.length (twoK x i j_1)) ∧ IntKind.wrap IntKind.i64 ((↑j : Int) + (1 : Int)) = (↑j_1 : Int) ∧ True) ∧ ((x.p.rng.lo = x.p.rng.lo ∧ x.p.rng.hi = x.p.rng.hi ∧ x.p.epoch = x.p.epoch ∧ x.p.frozen = x.p.frozen ∧ (true = true ∧ List.length x.p.recs = List.length x.p.recs ∧ contLe (List.length x.p.recs) (5 : Nat) (cellsOf' encR x.p.recs) (cellsOf' encR x.p.recs)) ∧ (true = true ∧ List.length x.p.prods = List.length x.p.prods ∧ contLe (List.length x.p.prods) (4 : Nat) (cellsOf' P.encP x.p.prods) (cellsOf' P.encP x.p.prods)) ∧ (true = true ∧ List.length x.p.cons = List.length x.p.cons ∧ contLe (List.length x.p.cons) (2 : Nat) (cellsOf' encC x.p.cons) (cellsOf' encC x.p.cons)) ∧ True) ∧ (x.M.rng.lo = x.M.rng.lo ∧ x.M.rng.hi = x.M.rng.hi ∧ x.M.epoch = x.M.epoch ∧ x.M.frozen = x.M.frozen ∧ (true = true ∧ List.length x.M.recs = List.length x.M.recs ∧ contLe (List.length x.M.recs) (5 : Nat) (cellsOf' encR x.M.recs) (cellsOf' encR x.M.recs)) ∧ (true = true ∧ List.length x.M.prods = List.length x.M.prods ∧ contLe (List.length x.M.prods) (4 : Nat) (cellsOf' P.encP x.M.prods) (cellsOf' P.encP x.M.prods)) ∧ (true = true ∧ List.length x.M.cons = List.length x.M.cons ∧ contLe (List.length x.M.cons) (2 : Nat) (cellsOf' encC x.M.cons) (cellsOf' encC x.M.cons)) ∧ True) ∧ (List.length (oneK x i j) + (1 : Nat) = List.length (oneK x i j_1) ∧ contLe (List.length (oneK x i j) + (1 : Nat)) (5 : Nat) (appRow (List.length (oneK x i j)) (cellsOf' encR (oneK x i j)) fun (k j_2 : Nat) => Ax.get [AV.y (Value.int IntKind.u64 (List.getD x.p.recs (Int.toNat (↑j : Int)) (@default Rec instInhabitedRec)).off), AV.y (Value.string (List.getD x.p.recs (Int.toNat (↑j : Int)) (@default Rec instInhabitedRec)).key), AV.ys true (1 : Nat) (List.length (List.getD x.p.recs (Int.toNat (↑j : Int)) (@default Rec instInhabitedRec)).val) (cellsOf' encB (List.getD x.p.recs (Int.toNat (↑j : Int)) (@default Rec instInhabitedRec)).val), AV.y (Value.int IntKind.u64 (List.getD x.p.recs (Int.toNat (↑j : Int)) (@default Rec instInhabitedRec)).prod), AV.y (Value.int IntKind.u64 (List.getD x.p.recs (Int.toNat (↑j : Int)) (@default Rec instInhabitedRec)).seq)] (k * (5 : Nat) + j_2)) (cellsOf' encR (oneK x i j_1))) ∧ (List.length (twoK x i j) + (1 : Nat) = List.length (twoK x i j_1) ∧ contLe (List.length (twoK x i j) + (1 : Nat)) (5 : Nat) (appRow (List.length (twoK x i j)) (cellsOf' encR (twoK x i j)) fun (k j_2 : Nat) => Ax.get [AV.y (Value.int IntKind.u64 (List.getD x.M.recs (Int.toNat (↑j : Int)) (@default Rec instInhabitedRec)).off), AV.y (Value.string (List.getD x.M.recs (Int.toNat (↑j : Int)) (@default Rec instInhabitedRec)).key), AV.ys true (1 : Nat) (List.length (List.getD x.M.recs (Int.toNat (↑j : Int)) (@default Rec instInhabitedRec)).val) (cellsOf' encB (List.getD x.M.recs (Int.toNat (↑j : Int)) (@default Rec instInhabitedRec)).val), AV.y (Value.int IntKind.u64 (List.getD x.M.recs (Int.toNat (↑j : Int)) (@default Rec instInhabitedRec)).prod), AV.y (Value.int IntKind.u64 (List.getD x.M.recs (Int.toNat (↑j : Int)) (@default Rec instInhabitedRec)).seq)] (k * (5 : Nat) + j_2)) (cellsOf' encR (twoK x i j_1))) ∧ True) ∧ true = true) ∧ true = true ∧ () = ()) ∧ (((List.getD x.M.recs (Int.toNat (↑j : Int)) (@default Rec instInhabitedRec)).key.data.toList == (List.getD x.p.recs (Int.toNat (↑i : Int)) (@default Rec instInhabitedRec)).key.data.toList) = false → ∃ (j_1 : Nat), List.length x.p.recs - j_1 < List.length x.p.recs - j ∧ ((((0 : Nat) = (0 : Nat) ∧ (0 : Nat) = (0 : Nat)) ∧ false = false ∧ true = true ∧ ((0 : Nat) = (0 : Nat) ∧ (0 : Nat) = (0 : Nat)) ∧ (↑i : Int) = (↑i : Int) ∧ ((0 : Nat) = (0 : Nat) ∧ List.length (oneK x i j) + (1 : Nat) = List.length (oneK x i j_1)) ∧ ((0 : Nat) = (0 : Nat) ∧ List.length (twoK x i j) = List.length (twoK x i j_1)) ∧ IntKind.wrap IntKind.i64 ((↑j : Int) + (1 : Int)) = (↑j_1 : Int) ∧ True) ∧ ((x.p.rng.lo = x.p.rng.lo ∧ x.p.rng.hi = x.p.rng.hi ∧ x.p.epoch = x.p.epoch ∧ x.p.frozen = x.p.frozen ∧ (true = true ∧ List.length x.p.recs = List.length x.p.recs ∧ contLe (List.length x.p.recs) (5 : Nat) (cellsOf' encR x.p.recs) (cellsOf' encR x.p.recs)) ∧ (true = true ∧ List.length x.p.prods = List.length x.p.prods ∧ contLe (List.length x.p.prods) (4 : Nat) (cellsOf' P.encP x.p.prods) (cellsOf' P.encP x.p.prods)) ∧ (true = true ∧ List.length x.p.cons = List.length x.p.cons ∧ contLe (List.length x.p.cons) (2 : Nat) (cellsOf' encC x.p.cons) (cellsOf' encC x.p.cons)) ∧ True) ∧ (x.M.rng.lo = x.M.rng.lo ∧ x.M.rng.hi = x.M.rng.hi ∧ x.M.epoch = x.M.epoch ∧ x.M.frozen = x.M.frozen ∧ (true = true ∧ List.length x.M.recs = List.length x.M.recs ∧ contLe (List.length x.M.recs) (5 : Nat) (cellsOf' encR x.M.recs) (cellsOf' encR x.M.recs)) ∧ (true = true ∧ List.length x.M.prods = List.length x.M.prods ∧ contLe (List.length x.M.prods) (4 : Nat) (cellsOf' P.encP x.M.prods) (cellsOf' P.encP x.M.prods)) ∧ (true = true ∧ List.length x.M.cons = List.length x.M.cons ∧ contLe (List.length x.M.cons) (2 : Nat) (cellsOf' encC x.M.cons) (cellsOf' encC x.M.cons)) ∧ True) ∧ (List.length (oneK x i j) + (1 : Nat) = List.length (oneK x i j_1) ∧ contLe (List.length (oneK x i j) + (1 : Nat)) (5 : Nat) (appRow (List.length (oneK x i j)) (cellsOf' encR (oneK x i j)) fun (k j_2 : Nat) => Ax.get [AV.y (Value.int IntKind.u64 (List.getD x.p.recs (Int.toNat (↑j : Int)) (@default Rec instInhabitedRec)).off), AV.y (Value.string (List.getD x.p.recs (Int.toNat (↑j : Int)) (@default Rec instInhabitedRec)).key), AV.ys true (1 : Nat) (List.length (List.getD x.p.recs (Int.toNat (↑j : Int)) (@default Rec instInhabitedRec)).val) (cellsOf' encB (List.getD x.p.recs (Int.toNat (↑j : Int)) (@default Rec instInhabitedRec)).val), AV.y (Value.int IntKind.u64 (List.getD x.p.recs (Int.toNat (↑j : Int)) (@default Rec instInhabitedRec)).prod), AV.y (Value.int IntKind.u64 (List.getD x.p.recs (Int.toNat (↑j : Int)) (@default Rec instInhabitedRec)).seq)] (k * (5 : Nat) + j_2)) (cellsOf' encR (oneK x i j_1))) ∧ (List.length (twoK x i j) = List.length (twoK x i j_1) ∧ contLe (List.length (twoK x i j)) (5 : Nat) (cellsOf' encR (twoK x i j)) (cellsOf' encR (twoK x i j_1))) ∧ True) ∧ true = true) ∧ true = true ∧ () = ())) ∧ (((List.getD x.p.recs (Int.toNat (↑j : Int)) (@default Rec instInhabitedRec)).key.data.toList == (List.getD x.p.recs (Int.toNat (↑i : Int)) (@default Rec instInhabitedRec)).key.data.toList) = false → (true && decide ((↑j : Int) < (↑(List.length x.M.recs) : Int))) = true ∧ (true && decide ((↑i : Int) < (↑(List.length x.p.recs) : Int))) = true ∧ (((List.getD x.M.recs (Int.toNat (↑j : Int)) (@default Rec instInhabitedRec)).key.data.toList == (List.getD x.p.recs (Int.toNat (↑i : Int)) (@default Rec instInhabitedRec)).key.data.toList) = true → (true && decide ((↑j : Int) < (↑(List.length x.M.recs) : Int))) = true ∧ (decide (List.length (twoK x i j) = List.length (twoK x i j)) && decide (List.length (twoK x i j) + (1 : Nat) ≤ (9223372036854775807 : Nat)) && decide ((List.length (twoK x i j) + (1 : Nat)) * (64 : Nat) ≤ (140737488355328 : Nat))) = true ∧ ∃ (j_1 : Nat), List.length x.p.recs - j_1 < List.length x.p.recs - j ∧ ((((0 : Nat) = (0 : Nat) ∧ (0 : Nat) = (0 : Nat)) ∧ false = false ∧ true = true ∧ ((0 : Nat) = (0 : Nat) ∧ (0 : Nat) = (0 : Nat)) ∧ (↑i : Int) = (↑i : Int) ∧ ((0 : Nat) = (0 : Nat) ∧ List.length (oneK x i j) = List.length (oneK x i j_1)) ∧ ((0 : Nat) = (0 : Nat) ∧ List.length (twoK x i j) + (1 : Nat) = List.length (twoK x i j_1)) ∧ IntKind.wrap IntKind.i64 ((↑j : Int) + (1 : Int)) = (↑j_1 : Int) ∧ True) ∧ ((x.p.rng.lo = x.p.rng.lo ∧ x.p.rng.hi = x.p.rng.hi ∧ x.p.epoch = x.p.epoch ∧ x.p.frozen = x.p.frozen ∧ (true = true ∧ List.length x.p.recs = List.length x.p.recs ∧ contLe (List.length x.p.recs) (5 : Nat) (cellsOf' encR x.p.recs) (cellsOf' encR x.p.recs)) ∧ (true = true ∧ List.length x.p.prods = List.length x.p.prods ∧ contLe (List.length x.p.prods) (4 : Nat) (cellsOf' P.encP x.p.prods) (cellsOf' P.encP x.p.prods)) ∧ (true = true ∧ List.length x.p.cons = List.length x.p.cons ∧ contLe (List.length x.p.cons) (2 : Nat) (cellsOf' encC x.p.cons) (cellsOf' encC x.p.cons)) ∧ True) ∧ (x.M.rng.lo = x.M.rng.lo ∧ x.M.rng.hi = x.M.rng.hi ∧ x.M.epoch = x.M.epoch ∧ x.M.frozen = x.M.frozen ∧ (true = true ∧ List.length x.M.recs = List.length x.M.recs ∧ contLe (List.length x.M.recs) (5 : Nat) (cellsOf' encR x.M.recs) (cellsOf' encR x.M.recs)) ∧ (true = true ∧ List.length x.M.prods = List.length x.M.prods ∧ contLe (List.length x.M.prods) (4 : Nat) (cellsOf' P.encP x.M.prods) (cellsOf' P.encP x.M.prods)) ∧ (true = true ∧ List.length x.M.cons = List.length x.M.cons ∧ contLe (List.length x.M.cons) (2 : Nat) (cellsOf' encC x.M.cons) (cellsOf' encC x.M.cons)) ∧ True) ∧ (List.length (oneK x i j) = List.length (oneK x i j_1) ∧ contLe (List.length (oneK x i j)) (5 : Nat) (cellsOf' encR (oneK x i j)) (cellsOf' encR (oneK x i j_1))) ∧ (List.length (twoK x i j) + (1 : Nat) = List.length (twoK x i j_1) ∧ contLe (List.length (twoK x i j) + (1 : Nat)) (5 : Nat) (appRow (List.length (twoK x i j)) (cellsOf' encR (twoK x i j)) fun (k j_2 : Nat) => Ax.get [AV.y (Value.int IntKind.u64 (List.getD x.M.recs (Int.toNat (↑j : Int)) (@default Rec instInhabitedRec)).off), AV.y (Value.string (List.getD x.M.recs (Int.toNat (↑j : Int)) (@default Rec instInhabitedRec)).key), AV.ys true (1 : Nat) (List.length (List.getD x.M.recs (Int.toNat (↑j : Int)) (@default Rec instInhabitedRec)).val) (cellsOf' encB (List.getD x.M.recs (Int.toNat (↑j : Int)) (@default Rec instInhabitedRec)).val), AV.y (Value.int IntKind.u64 (List.getD x.M.recs (Int.toNat (↑j : Int)) (@default Rec instInhabitedRec)).prod), AV.y (Value.int IntKind.u64 (List.getD x.M.recs (Int.toNat (↑j : Int)) (@default Rec instInhabitedRec)).seq)] (k * (5 : Nat) + j_2)) (cellsOf' encR (twoK x i j_1))) ∧ True) ∧ true = true) ∧ true = true ∧ () = ()) ∧ (((List.getD x.M.recs (Int.toNat (↑j : Int)) (@default Rec instInhabitedRec)).key.data.toList == (List.getD x.p.recs (Int.toNat (↑i : Int)) (@default Rec instInhabitedRec)).key.data.toList) = false → ∃ (j_1 : Nat), List.length x.p.recs - j_1 < List.length x.p.recs - j ∧ ((((0 : Nat) = (0 : Nat) ∧ (0 : Nat) = (0 : Nat)) ∧ false = false ∧ true = true ∧ ((0 : Nat) = (0 : Nat) ∧ (0 : Nat) = (0 : Nat)) ∧ (↑i : Int) = (↑i : Int) ∧ ((0 : Nat) = (0 : Nat) ∧ List.length (oneK x i j) = List.length (oneK x i j_1)) ∧ ((0 : Nat) = (0 : Nat) ∧ List.length (twoK x i j) = List.length (twoK x i j_1)) ∧ IntKind.wrap IntKind.i64 ((↑j : Int) + (1 : Int)) = (↑j_1 : Int) ∧ True) ∧ ((x.p.rng.lo = x.p.rng.lo ∧ x.p.rng.hi = x.p.rng.hi ∧ x.p.epoch = x.p.epoch ∧ x.p.frozen = x.p.frozen ∧ (true = true ∧ List.length x.p.recs = List.length x.p.recs ∧ contLe (List.length x.p.recs) (5 : Nat) (cellsOf' encR x.p.recs) (cellsOf' encR x.p.recs)) ∧ (true = true ∧ List.length x.p.prods = List.length x.p.prods ∧ contLe (List.length x.p.prods) (4 : Nat) (cellsOf' P.encP x.p.prods) (cellsOf' P.encP x.p.prods)) ∧ (true = true ∧ List.length x.p.cons = List.length x.p.cons ∧ contLe (List.length x.p.cons) (2 : Nat) (cellsOf' encC x.p.cons) (cellsOf' encC x.p.cons)) ∧ True) ∧ (x.M.rng.lo = x.M.rng.lo ∧ x.M.rng.hi = x.M.rng.hi ∧ x.M.epoch = x.M.epoch ∧ x.M.frozen = x.M.frozen ∧ (true = true ∧ List.length x.M.recs = List.length x.M.recs ∧ contLe (List.length x.M.recs) (5 : Nat) (cellsOf' encR x.M.recs) (cellsOf' encR x.M.recs)) ∧ (true = true ∧ List.length x.M.prods = List.length x.M.prods ∧ contLe (List.length x.M.prods) (4 : Nat) (cellsOf' P.encP x.M.prods) (cellsOf' P.encP x.M.prods)) ∧ (true = true ∧ List.length x.M.cons = List.length x.M.cons ∧ contLe (List.length x.M.cons) (2 : Nat) (cellsOf' encC x.M.cons) (cellsOf' encC x.M.cons)) ∧ True) ∧ (List.length (oneK x i j) = List.length (oneK x i j_1) ∧ contLe (List.length (oneK x i j)) (5 : Nat) (cellsOf' encR (oneK x i j)) (cellsOf' encR (oneK x i j_1))) ∧ (List.length (twoK x i j) = List.length (twoK x i j_1) ∧ contLe (List.length (twoK x i j)) (5 : Nat) (cellsOf' encR (twoK x i j)) (cellsOf' encR (twoK x i j_1))) ∧ True) ∧ true = true) ∧ true = true ∧ () = ()))) ∧ (decide ((↑j : Int) < (↑(List.length x.p.recs) : Int)) = false → (((0 : Nat) = (0 : Nat) ∧ (0 : Nat) = (0 : Nat)) ∧ false = false ∧ true = true ∧ ((0 : Nat) = (0 : Nat) ∧ (0 : Nat) = (0 : Nat)) ∧ (↑i : Int) = (↑i : Int) ∧ ((0 : Nat) = (0 : Nat) ∧ List.length (oneK x i j) = List.length (oneK x i (List.length x.p.recs))) ∧ ((0 : Nat) = (0 : Nat) ∧ List.length (twoK x i j) = List.length (twoK x i (List.length x.p.recs))) ∧ True) ∧ ((x.p.rng.lo = x.p.rng.lo ∧ x.p.rng.hi = x.p.rng.hi ∧ x.p.epoch = x.p.epoch ∧ x.p.frozen = x.p.frozen ∧ (true = true ∧ List.length x.p.recs = List.length x.p.recs ∧ contLe (List.length x.p.recs) (5 : Nat) (cellsOf' encR x.p.recs) (cellsOf' encR x.p.recs)) ∧ (true = true ∧ List.length x.p.prods = List.length x.p.prods ∧ contLe (List.length x.p.prods) (4 : Nat) (cellsOf' P.encP x.p.prods) (cellsOf' P.encP x.p.prods)) ∧ (true = true ∧ List.length x.p.cons = List.length x.p.cons ∧ contLe (List.length x.p.cons) (2 : Nat) (cellsOf' encC x.p.cons) (cellsOf' encC x.p.cons)) ∧ True) ∧ (x.M.rng.lo = x.M.rng.lo ∧ x.M.rng.hi = x.M.rng.hi ∧ x.M.epoch = x.M.epoch ∧ x.M.frozen = x.M.frozen ∧ (true = true ∧ List.length x.M.recs = List.length x.M.recs ∧ contLe (List.length x.M.recs) (5 : Nat) (cellsOf' encR x.M.recs) (cellsOf' encR x.M.recs)) ∧ (true = true ∧ List.length x.M.prods = List.length x.M.prods ∧ contLe (List.length x.M.prods) (4 : Nat) (cellsOf' P.encP x.M.prods) (cellsOf' P.encP x.M.prods)) ∧ (true = true ∧ List.length x.M.cons = List.length x.M.cons ∧ contLe (List.length x.M.cons) (2 : Nat) (cellsOf' encC x.M.cons) (cellsOf' encC x.M.cons)) ∧ True) ∧ (List.length (oneK x i j) = List.length (oneK x i (List.length x.p.recs)) ∧ contLe (List.length (oneK x i j)) (5 : Nat) (cellsOf' encR (oneK x i j)) (cellsOf' encR (oneK x i (List.length x.p.recs)))) ∧ (List.length (twoK x i j) = List.length (twoK x i (List.length x.p.recs)) ∧ contLe (List.length (twoK x i j)) (5 : Nat) (cellsOf' encR (twoK x i j)) (cellsOf' encR (twoK x i (List.length x.p.recs)))) ∧ True) ∧ true = true)
set_option maxRecDepth 1000000 in
theorem vcB5_eq (x : Bck) (i : Nat) (j : Nat) : (loopVC Tryz.prog (hT _) 6 33 (fun j => x.p.recs.length - j) (b5T x i) (b5M x i) bkX (fun _ => .ret ()) (b5S x i) j) = vcB5 x i j := by kernel_rfl
end Go.Proofs.YtckklclehofddaaGreatDoor.D

/-! Lineage: the law Back: the conditions of the last loop and of the law. -/
namespace Go.Proofs.YtckklclehofddaaGreatDoor.D
open Go.Ax
set_option maxRecDepth 1000000
def b4T (i : Nat) : List AV := bkB [(16, .y (.int .i64 i))]
def b4S (x : Bck) (_ : Unit) : Exit × List AV × List Blk := (.exit 6, bkB [], bkM x)
noncomputable def b4H (x : Bck) (i : Nat) : HintsT Tryz.prog := hh _ (lp1 6 33 (jobOf (b5T x i) (b5M x i) bkX (fun _ => .ret ()) (b5S x i) 0) noLp) (cs1 6 39 2 (wiC false false (oneK x i x.p.recs.length) (twoK x i x.p.recs.length)) noCs) (op1 6 30 0 (.row 37 5) (op1 6 31 0 (.row 37 5) noOp))
def vcB4 (x : Bck) (i : Nat) : Prop :=
  (decide ((↑i : Int) < (↑(List.length x.p.recs) : Int)) = true → ((((0 : Nat) = (0 : Nat) ∧ (0 : Nat) = (0 : Nat)) ∧ false = false ∧ true = true ∧ ((0 : Nat) = (0 : Nat) ∧ (0 : Nat) = (0 : Nat)) ∧ (↑i : Int) = (↑i : Int) ∧ ((0 : Nat) = (0 : Nat) ∧ (0 : Nat) = (0 : Nat)) ∧ ((0 : Nat) = (0 : Nat) ∧ (0 : Nat) = (0 : Nat)) ∧ (0 : Int) = (0 : Int) ∧ True) ∧ ((x.p.rng.lo = x.p.rng.lo ∧ x.p.rng.hi = x.p.rng.hi ∧ x.p.epoch = x.p.epoch ∧ x.p.frozen = x.p.frozen ∧ (true = true ∧ List.length x.p.recs = List.length x.p.recs ∧ contLe (List.length x.p.recs) (5 : Nat) (cellsOf' encR x.p.recs) (cellsOf' encR x.p.recs)) ∧ (true = true ∧ List.length x.p.prods = List.length x.p.prods ∧ contLe (List.length x.p.prods) (4 : Nat) (cellsOf' P.encP x.p.prods) (cellsOf' P.encP x.p.prods)) ∧ (true = true ∧ List.length x.p.cons = List.length x.p.cons ∧ contLe (List.length x.p.cons) (2 : Nat) (cellsOf' encC x.p.cons) (cellsOf' encC x.p.cons)) ∧ True) ∧ (x.M.rng.lo = x.M.rng.lo ∧ x.M.rng.hi = x.M.rng.hi ∧ x.M.epoch = x.M.epoch ∧ x.M.frozen = x.M.frozen ∧ (true = true ∧ List.length x.M.recs = List.length x.M.recs ∧ contLe (List.length x.M.recs) (5 : Nat) (cellsOf' encR x.M.recs) (cellsOf' encR x.M.recs)) ∧ (true = true ∧ List.length x.M.prods = List.length x.M.prods ∧ contLe (List.length x.M.prods) (4 : Nat) (cellsOf' P.encP x.M.prods) (cellsOf' P.encP x.M.prods)) ∧ (true = true ∧ List.length x.M.cons = List.length x.M.cons ∧ contLe (List.length x.M.cons) (2 : Nat) (cellsOf' encC x.M.cons) (cellsOf' encC x.M.cons)) ∧ True) ∧ ((0 : Nat) = (0 : Nat) ∧ contLe (0 : Nat) (5 : Nat) (fun (x x_2 : Nat) => AV.junk) (cellsOf' encR [])) ∧ ((0 : Nat) = (0 : Nat) ∧ contLe (0 : Nat) (5 : Nat) (fun (x x_2 : Nat) => AV.junk) (cellsOf' encR [])) ∧ True) ∧ true = true) ∧ LoopOk Tryz.prog (6 : Nat) (33 : Nat) (loopAt Tryz.prog (6 : Nat) (33 : Nat)) { t := b5T x i (0 : Nat), m := b5M x i (0 : Nat), mv := [] : St } (T.map (lout bkX (b5S x i)) ((fun (x : Nat) => T.ret ()) (0 : Nat))) ∧ ((false = false ∧ List.length (oneK x i (List.length x.p.recs)) = List.length (oneK x i (List.length x.p.recs)) ∧ contLe (List.length (oneK x i (List.length x.p.recs))) (5 : Nat) (Ax.rowAt (0 : Nat) (cellsOf' encR (oneK x i (List.length x.p.recs)))) (cellsOf' encR (oneK x i (List.length x.p.recs)))) ∧ (false = false ∧ List.length (twoK x i (List.length x.p.recs)) = List.length (twoK x i (List.length x.p.recs)) ∧ contLe (List.length (twoK x i (List.length x.p.recs))) (5 : Nat) (Ax.rowAt (0 : Nat) (cellsOf' encR (twoK x i (List.length x.p.recs)))) (cellsOf' encR (twoK x i (List.length x.p.recs)))) ∧ True) ∧ True ∧ (List.length (twoK x i (List.length x.p.recs)) ≤ (9223372036854775806 : Nat) ∧ List.length (oneK x i (List.length x.p.recs)) ≤ (9223372036854775806 : Nat) ∧ List.Sublist (List.map strip (oneK x i (List.length x.p.recs))) (List.map strip (twoK x i (List.length x.p.recs)))) ∧ true = true ∧ True ∧ (false = true → False) ∧ (false = false → (((↑(List.length (oneK x i (List.length x.p.recs))) : Int) != (↑(List.length (twoK x i (List.length x.p.recs))) : Int)) = true → False) ∧ (((↑(List.length (oneK x i (List.length x.p.recs))) : Int) != (↑(List.length (twoK x i (List.length x.p.recs))) : Int)) = false → ∃ (j : Nat), List.length x.p.recs - j < List.length x.p.recs - i ∧ ((((0 : Nat) = (0 : Nat) ∧ (0 : Nat) = (0 : Nat)) ∧ false = false ∧ true = true ∧ ((0 : Nat) = (0 : Nat) ∧ (0 : Nat) = (0 : Nat)) ∧ IntKind.wrap IntKind.i64 ((↑i : Int) + (1 : Int)) = (↑j : Int) ∧ True) ∧ ((x.p.rng.lo = x.p.rng.lo ∧ x.p.rng.hi = x.p.rng.hi ∧ x.p.epoch = x.p.epoch ∧ x.p.frozen = x.p.frozen ∧ (true = true ∧ List.length x.p.recs = List.length x.p.recs ∧ contLe (List.length x.p.recs) (5 : Nat) (cellsOf' encR x.p.recs) (cellsOf' encR x.p.recs)) ∧ (true = true ∧ List.length x.p.prods = List.length x.p.prods ∧ contLe (List.length x.p.prods) (4 : Nat) (cellsOf' P.encP x.p.prods) (cellsOf' P.encP x.p.prods)) ∧ (true = true ∧ List.length x.p.cons = List.length x.p.cons ∧ contLe (List.length x.p.cons) (2 : Nat) (cellsOf' encC x.p.cons) (cellsOf' encC x.p.cons)) ∧ True) ∧ (x.M.rng.lo = x.M.rng.lo ∧ x.M.rng.hi = x.M.rng.hi ∧ x.M.epoch = x.M.epoch ∧ x.M.frozen = x.M.frozen ∧ (true = true ∧ List.length x.M.recs = List.length x.M.recs ∧ contLe (List.length x.M.recs) (5 : Nat) (cellsOf' encR x.M.recs) (cellsOf' encR x.M.recs)) ∧ (true = true ∧ List.length x.M.prods = List.length x.M.prods ∧ contLe (List.length x.M.prods) (4 : Nat) (cellsOf' P.encP x.M.prods) (cellsOf' P.encP x.M.prods)) ∧ (true = true ∧ List.length x.M.cons = List.length x.M.cons ∧ contLe (List.length x.M.cons) (2 : Nat) (cellsOf' encC x.M.cons) (cellsOf' encC x.M.cons)) ∧ True) ∧ True) ∧ true = true) ∧ true = true ∧ () = ()))) ∧ (decide ((↑i : Int) < (↑(List.length x.p.recs) : Int)) = false → (((0 : Nat) = (0 : Nat) ∧ (0 : Nat) = (0 : Nat)) ∧ false = false ∧ true = true ∧ ((0 : Nat) = (0 : Nat) ∧ (0 : Nat) = (0 : Nat)) ∧ True) ∧ ((x.p.rng.lo = x.p.rng.lo ∧ x.p.rng.hi = x.p.rng.hi ∧ x.p.epoch = x.p.epoch ∧ x.p.frozen = x.p.frozen ∧ (true = true ∧ List.length x.p.recs = List.length x.p.recs ∧ contLe (List.length x.p.recs) (5 : Nat) (cellsOf' encR x.p.recs) (cellsOf' encR x.p.recs)) ∧ (true = true ∧ List.length x.p.prods = List.length x.p.prods ∧ contLe (List.length x.p.prods) (4 : Nat) (cellsOf' P.encP x.p.prods) (cellsOf' P.encP x.p.prods)) ∧ (true = true ∧ List.length x.p.cons = List.length x.p.cons ∧ contLe (List.length x.p.cons) (2 : Nat) (cellsOf' encC x.p.cons) (cellsOf' encC x.p.cons)) ∧ True) ∧ (x.M.rng.lo = x.M.rng.lo ∧ x.M.rng.hi = x.M.rng.hi ∧ x.M.epoch = x.M.epoch ∧ x.M.frozen = x.M.frozen ∧ (true = true ∧ List.length x.M.recs = List.length x.M.recs ∧ contLe (List.length x.M.recs) (5 : Nat) (cellsOf' encR x.M.recs) (cellsOf' encR x.M.recs)) ∧ (true = true ∧ List.length x.M.prods = List.length x.M.prods ∧ contLe (List.length x.M.prods) (4 : Nat) (cellsOf' P.encP x.M.prods) (cellsOf' P.encP x.M.prods)) ∧ (true = true ∧ List.length x.M.cons = List.length x.M.cons ∧ contLe (List.length x.M.cons) (2 : Nat) (cellsOf' encC x.M.cons) (cellsOf' encC x.M.cons)) ∧ True) ∧ True) ∧ true = true)
set_option maxRecDepth 1000000 in
theorem vcB4_eq (x : Bck) (i : Nat) : (loopVC Tryz.prog (b4H x i) 6 28 (fun i => x.p.recs.length - i) b4T (fun _ => bkM x) bkX (fun _ => .ret ()) (b4S x) i) = vcB4 x i := by kernel_rfl
noncomputable def bcH (x : Bck) : HintsT Tryz.prog := hh _ (lp1 6 11 (jobOf b1T (fun _ => bkM x) bkX (fun _ => .ret ()) (b1S x) 0) (lp1 6 16 (jobOf b2T (fun _ => bkM x) bkX (fun _ => .ret ()) (b2S x) 0) (lp1 6 28 (jobOf b4T (fun _ => bkM x) bkX (fun _ => .ret ()) (b4S x) 0) noLp)))
  (cs1 6 1 0 livC (cs1 6 2 2 (srC x.p x.k x.A x.B x.e) (cs1 6 7 2 (mzC (frz x.A 1) (frz x.B 1) x.M) noCs))) noOp
def vcBc (x : Bck) : Prop :=
  True ∧ True ∧ ((x.p.rng.lo = x.p.rng.lo ∧ x.p.rng.hi = x.p.rng.hi ∧ x.p.epoch = x.p.epoch ∧ x.p.frozen = x.p.frozen ∧ (true = true ∧ List.length x.p.recs = List.length x.p.recs ∧ contLe (List.length x.p.recs) (5 : Nat) (cellsOf' encR x.p.recs) (cellsOf' encR x.p.recs)) ∧ (true = true ∧ List.length x.p.prods = List.length x.p.prods ∧ contLe (List.length x.p.prods) (4 : Nat) (cellsOf' P.encP x.p.prods) (cellsOf' P.encP x.p.prods)) ∧ (true = true ∧ List.length x.p.cons = List.length x.p.cons ∧ contLe (List.length x.p.cons) (2 : Nat) (cellsOf' encC x.p.cons) (cellsOf' encC x.p.cons)) ∧ True) ∧ x.k = x.k ∧ True) ∧ True ∧ SplR x.p x.k x.A x.B x.e ∧ ((x.e != (0 : Int)) = true → true = true ∧ True) ∧ ((x.e != (0 : Int)) = false → (decide (IntKind.wrap IntKind.u64 (x.p.epoch + (2 : Int)) < (2 : Int)) = true → true = true ∧ True) ∧ (decide (IntKind.wrap IntKind.u64 (x.p.epoch + (2 : Int)) < (2 : Int)) = false → ((x.A.rng.lo = x.A.rng.lo ∧ x.A.rng.hi = x.A.rng.hi ∧ x.A.epoch = x.A.epoch ∧ (1 : Int) = (1 : Int) ∧ (true = true ∧ List.length x.A.recs = List.length x.A.recs ∧ contLe (List.length x.A.recs) (5 : Nat) (cellsOf' encR x.A.recs) (cellsOf' encR x.A.recs)) ∧ (true = true ∧ List.length x.A.prods = List.length x.A.prods ∧ contLe (List.length x.A.prods) (4 : Nat) (cellsOf' P.encP x.A.prods) (cellsOf' P.encP x.A.prods)) ∧ (true = true ∧ List.length x.A.cons = List.length x.A.cons ∧ contLe (List.length x.A.cons) (2 : Nat) (cellsOf' encC x.A.cons) (cellsOf' encC x.A.cons)) ∧ True) ∧ (x.B.rng.lo = x.B.rng.lo ∧ x.B.rng.hi = x.B.rng.hi ∧ x.B.epoch = x.B.epoch ∧ (1 : Int) = (1 : Int) ∧ (true = true ∧ List.length x.B.recs = List.length x.B.recs ∧ contLe (List.length x.B.recs) (5 : Nat) (cellsOf' encR x.B.recs) (cellsOf' encR x.B.recs)) ∧ (true = true ∧ List.length x.B.prods = List.length x.B.prods ∧ contLe (List.length x.B.prods) (4 : Nat) (cellsOf' P.encP x.B.prods) (cellsOf' P.encP x.B.prods)) ∧ (true = true ∧ List.length x.B.cons = List.length x.B.cons ∧ contLe (List.length x.B.cons) (2 : Nat) (cellsOf' encC x.B.cons) (cellsOf' encC x.B.cons)) ∧ True) ∧ True) ∧ True ∧ MrgZ (frz x.A (1 : Int)) (frz x.B (1 : Int)) x.M ∧ ((!(x.M.rng.lo.data.toList == x.p.rng.lo.data.toList && (x.M.rng.hi.data.toList == x.p.rng.hi.data.toList && true))) = true → false = true ∧ True) ∧ ((!(x.M.rng.lo.data.toList == x.p.rng.lo.data.toList && (x.M.rng.hi.data.toList == x.p.rng.hi.data.toList && true))) = false → (((↑(List.length x.M.recs) : Int) != (↑(List.length x.p.recs) : Int)) = true → false = true ∧ True) ∧ (((↑(List.length x.M.recs) : Int) != (↑(List.length x.p.recs) : Int)) = false → (((↑(List.length x.M.prods) : Int) != (↑(List.length x.p.prods) : Int)) = true → false = true ∧ True) ∧ (((↑(List.length x.M.prods) : Int) != (↑(List.length x.p.prods) : Int)) = false → (((↑(List.length x.M.cons) : Int) != (↑(List.length x.p.cons) : Int)) = true → false = true ∧ True) ∧ (((↑(List.length x.M.cons) : Int) != (↑(List.length x.p.cons) : Int)) = false → ((((0 : Nat) = (0 : Nat) ∧ (0 : Nat) = (0 : Nat)) ∧ false = false ∧ true = true ∧ ((0 : Nat) = (0 : Nat) ∧ (0 : Nat) = (0 : Nat)) ∧ (0 : Int) = (0 : Int) ∧ True) ∧ ((x.p.rng.lo = x.p.rng.lo ∧ x.p.rng.hi = x.p.rng.hi ∧ x.p.epoch = x.p.epoch ∧ x.p.frozen = x.p.frozen ∧ (true = true ∧ List.length x.p.recs = List.length x.p.recs ∧ contLe (List.length x.p.recs) (5 : Nat) (cellsOf' encR x.p.recs) (cellsOf' encR x.p.recs)) ∧ (true = true ∧ List.length x.p.prods = List.length x.p.prods ∧ contLe (List.length x.p.prods) (4 : Nat) (cellsOf' P.encP x.p.prods) (cellsOf' P.encP x.p.prods)) ∧ (true = true ∧ List.length x.p.cons = List.length x.p.cons ∧ contLe (List.length x.p.cons) (2 : Nat) (cellsOf' encC x.p.cons) (cellsOf' encC x.p.cons)) ∧ True) ∧ (x.M.rng.lo = x.M.rng.lo ∧ x.M.rng.hi = x.M.rng.hi ∧ x.M.epoch = x.M.epoch ∧ x.M.frozen = x.M.frozen ∧ (true = true ∧ List.length x.M.recs = List.length x.M.recs ∧ contLe (List.length x.M.recs) (5 : Nat) (cellsOf' encR x.M.recs) (cellsOf' encR x.M.recs)) ∧ (true = true ∧ List.length x.M.prods = List.length x.M.prods ∧ contLe (List.length x.M.prods) (4 : Nat) (cellsOf' P.encP x.M.prods) (cellsOf' P.encP x.M.prods)) ∧ (true = true ∧ List.length x.M.cons = List.length x.M.cons ∧ contLe (List.length x.M.cons) (2 : Nat) (cellsOf' encC x.M.cons) (cellsOf' encC x.M.cons)) ∧ True) ∧ True) ∧ true = true) ∧ LoopOk Tryz.prog (6 : Nat) (11 : Nat) (loopAt Tryz.prog (6 : Nat) (11 : Nat)) { t := b1T (0 : Nat), m := bkM x, mv := [] : St } (T.map (lout bkX (b1S x)) ((fun (x : Nat) => T.ret ()) (0 : Nat))) ∧ ((((0 : Nat) = (0 : Nat) ∧ (0 : Nat) = (0 : Nat)) ∧ false = false ∧ true = true ∧ ((0 : Nat) = (0 : Nat) ∧ (0 : Nat) = (0 : Nat)) ∧ (0 : Int) = (0 : Int) ∧ True) ∧ ((x.p.rng.lo = x.p.rng.lo ∧ x.p.rng.hi = x.p.rng.hi ∧ x.p.epoch = x.p.epoch ∧ x.p.frozen = x.p.frozen ∧ (true = true ∧ List.length x.p.recs = List.length x.p.recs ∧ contLe (List.length x.p.recs) (5 : Nat) (cellsOf' encR x.p.recs) (cellsOf' encR x.p.recs)) ∧ (true = true ∧ List.length x.p.prods = List.length x.p.prods ∧ contLe (List.length x.p.prods) (4 : Nat) (cellsOf' P.encP x.p.prods) (cellsOf' P.encP x.p.prods)) ∧ (true = true ∧ List.length x.p.cons = List.length x.p.cons ∧ contLe (List.length x.p.cons) (2 : Nat) (cellsOf' encC x.p.cons) (cellsOf' encC x.p.cons)) ∧ True) ∧ (x.M.rng.lo = x.M.rng.lo ∧ x.M.rng.hi = x.M.rng.hi ∧ x.M.epoch = x.M.epoch ∧ x.M.frozen = x.M.frozen ∧ (true = true ∧ List.length x.M.recs = List.length x.M.recs ∧ contLe (List.length x.M.recs) (5 : Nat) (cellsOf' encR x.M.recs) (cellsOf' encR x.M.recs)) ∧ (true = true ∧ List.length x.M.prods = List.length x.M.prods ∧ contLe (List.length x.M.prods) (4 : Nat) (cellsOf' P.encP x.M.prods) (cellsOf' P.encP x.M.prods)) ∧ (true = true ∧ List.length x.M.cons = List.length x.M.cons ∧ contLe (List.length x.M.cons) (2 : Nat) (cellsOf' encC x.M.cons) (cellsOf' encC x.M.cons)) ∧ True) ∧ True) ∧ true = true) ∧ LoopOk Tryz.prog (6 : Nat) (16 : Nat) (loopAt Tryz.prog (6 : Nat) (16 : Nat)) { t := b2T (0 : Nat), m := bkM x, mv := [] : St } (T.map (lout bkX (b2S x)) ((fun (x : Nat) => T.ret ()) (0 : Nat))) ∧ ((((0 : Nat) = (0 : Nat) ∧ (0 : Nat) = (0 : Nat)) ∧ false = false ∧ true = true ∧ ((0 : Nat) = (0 : Nat) ∧ (0 : Nat) = (0 : Nat)) ∧ (0 : Int) = (0 : Int) ∧ True) ∧ ((x.p.rng.lo = x.p.rng.lo ∧ x.p.rng.hi = x.p.rng.hi ∧ x.p.epoch = x.p.epoch ∧ x.p.frozen = x.p.frozen ∧ (true = true ∧ List.length x.p.recs = List.length x.p.recs ∧ contLe (List.length x.p.recs) (5 : Nat) (cellsOf' encR x.p.recs) (cellsOf' encR x.p.recs)) ∧ (true = true ∧ List.length x.p.prods = List.length x.p.prods ∧ contLe (List.length x.p.prods) (4 : Nat) (cellsOf' P.encP x.p.prods) (cellsOf' P.encP x.p.prods)) ∧ (true = true ∧ List.length x.p.cons = List.length x.p.cons ∧ contLe (List.length x.p.cons) (2 : Nat) (cellsOf' encC x.p.cons) (cellsOf' encC x.p.cons)) ∧ True) ∧ (x.M.rng.lo = x.M.rng.lo ∧ x.M.rng.hi = x.M.rng.hi ∧ x.M.epoch = x.M.epoch ∧ x.M.frozen = x.M.frozen ∧ (true = true ∧ List.length x.M.recs = List.length x.M.recs ∧ contLe (List.length x.M.recs) (5 : Nat) (cellsOf' encR x.M.recs) (cellsOf' encR x.M.recs)) ∧ (true = true ∧ List.length x.M.prods = List.length x.M.prods ∧ contLe (List.length x.M.prods) (4 : Nat) (cellsOf' P.encP x.M.prods) (cellsOf' P.encP x.M.prods)) ∧ (true = true ∧ List.length x.M.cons = List.length x.M.cons ∧ contLe (List.length x.M.cons) (2 : Nat) (cellsOf' encC x.M.cons) (cellsOf' encC x.M.cons)) ∧ True) ∧ True) ∧ true = true) ∧ LoopOk Tryz.prog (6 : Nat) (28 : Nat) (loopAt Tryz.prog (6 : Nat) (28 : Nat)) { t := b4T (0 : Nat), m := bkM x, mv := [] : St } (T.map (lout bkX (b4S x)) ((fun (x : Nat) => T.ret ()) (0 : Nat))) ∧ true = true ∧ True))))))
set_option maxRecDepth 1000000 in
theorem vcBc_eq (x : Bck) : (ctrVC Tryz.prog (bcH x) 6 [.agg (encPt true x.p), .y (.string x.k)] [] (boolR true)) = vcBc x := by kernel_rfl
end Go.Proofs.YtckklclehofddaaGreatDoor.D

/-! Lineage: the law Back: the loops. -/
namespace Go.Proofs.YtckklclehofddaaGreatDoor.D
open Go.Ax
set_option maxRecDepth 1000000
structure BckOk (x : Bck) : Prop where
  lo : x.M.rng = x.p.rng
  nr : x.M.recs.length = x.p.recs.length
  lr : x.p.recs.length ≤ 4096
  np : x.M.prods.length = x.p.prods.length
  lp : x.p.prods.length ≤ 256
  nc : x.M.cons.length = x.p.cons.length
  lc : x.p.cons.length ≤ 64
  hp : ∀ i, i < x.p.prods.length → (x.M.prods.getD i default).id = (x.p.prods.getD i default).id ∧ (x.M.prods.getD i default).seq = (x.p.prods.getD i default).seq ∧ (x.M.prods.getD i default).here = (x.p.prods.getD i default).here
  hc : ∀ i, i < x.p.cons.length → (x.M.cons.getD i default).name = (x.p.cons.getD i default).name ∧ 0 ≤ (x.M.cons.getD i default).off ∧ (x.M.cons.getD i default).off ≤ x.M.recs.length
  oc : ∀ i, i < x.p.cons.length → 0 ≤ (x.p.cons.getD i default).off ∧ (x.p.cons.getD i default).off ≤ x.p.recs.length
  hr : ∀ i, i < x.p.cons.length → ∀ j, j < x.p.recs.length → (x.p.cons.getD i default).off ≤ (j : Int) → [strip (x.p.recs.getD j default)].Sublist ((x.M.recs.drop (offN x i)).map strip)
  hk : ∀ i, i < x.p.recs.length → (oneK x i x.p.recs.length).length = (twoK x i x.p.recs.length).length ∧ ((oneK x i x.p.recs.length).map strip).Sublist ((twoK x i x.p.recs.length).map strip)
theorem b1_loop (x : Bck) (h : BckOk x) (i : Nat) : LoopOk Tryz.prog 6 11 (loopAt Tryz.prog 6 11) ⟨b1T i, bkM x, []⟩ (T.map (lout bkX (b1S x)) (.ret ())) := by
  refine loop_vc (o := fun _ => .ret ()) (stT := b1T) (stM := fun _ => bkM x) Tryz.mixed (fun _ => rfl) (fun i => (vcB1_eq x i).mpr ?_) i
  unfold vcB1
  have np := h.np
  have lp := h.lp
  by_cases hi : i < x.M.prods.length
  · have hw : IntKind.i64.wrap ((i : Int) + 1) = ((i + 1 : Nat) : Int) := by rw [wrap_i64 (by omega) (by omega)]; omega
    have hz : decide ((i : Int) < x.M.prods.length) = true := by simp; omega
    have hz2 : decide ((i : Int) < x.p.prods.length) = true := by simp; omega
    obtain ⟨h1, h2, h3⟩ := h.hp i (by omega)
    rw [Int.toNat_natCast]
    simp only [hz, hz2, h1, h2, h3, hw]
    simp
    exact ⟨i + 1, by omega, by omega⟩
  · have hz : decide ((i : Int) < x.M.prods.length) = false := by simp; omega
    simp only [hz]
    simp
theorem b3_loop (x : Bck) (h : BckOk x) (i : Nat) (hi : i < x.p.cons.length) (j : J3 x i) : LoopOk Tryz.prog 6 22 (loopAt Tryz.prog 6 22) ⟨b3T x i j, bkM x, []⟩ (T.map (lout bkX (b3S x i)) (.ret ())) := by
  refine loop_vcH (P := Tryz.prog) (f := 6) (k := 22) (ι := J3 x i) (μ := fun (j : J3 x i) => x.p.recs.length - j.1) (o := fun _ => .ret ()) (ht := fun (j : J3 x i) => b3H x i j.1) (stT := b3T x i) (stM := fun _ => bkM x) (X := bkX) (S := b3S x i) Tryz.mixed (fun _ => rfl) (fun j => ?_) j
  rw [vcB3_eq x i j]
  obtain ⟨j, ho⟩ := j
  unfold vcB3
  dsimp only
  have nr := h.nr
  have lr := h.lr
  by_cases hj : j < x.p.recs.length
  · have hw : IntKind.i64.wrap ((j : Int) + 1) = ((j + 1 : Nat) : Int) := by rw [wrap_i64 (by omega) (by omega)]; omega
    have hz : decide ((j : Int) < x.p.recs.length) = true := by simp; omega
    have hs := h.hr i hi j hj ho
    have ho2 : (x.p.cons[i]?.getD default).off ≤ (j : Int) := by simpa using ho
    have hl : (x.M.recs.drop (offN x i)).length = x.M.recs.length - offN x i := by simp
    have hl2 : x.M.recs.length - offN x i ≤ 9223372036854775806 := by omega
    have e1 : (((j + 1 : Nat) : Int).toNat - (j : Int).toNat) = 1 := by omega
    have c1 : contLe 1 5 (fun k => cellsOf' encR x.p.recs ((j : Int).toNat + k)) (cellsOf' encR [x.p.recs.getD j default]) := by
      intro k hk q _
      obtain rfl : k = 0 := by omega
      simp [cellsOf']
    have d1 : decide ((j : Int) ≤ ((j + 1 : Nat) : Int)) = true := by simp; omega
    have d2 : decide (((j + 1 : Nat) : Int) ≤ (x.p.recs.length : Int)) = true := by simp; omega
    simp only [hz, hw, e1, hl]
    simp only [d1, d2, c1, hl2, hs]
    simp
    exact ⟨j + 1, by omega, by omega, by omega⟩
  · have hz : decide ((j : Int) < x.p.recs.length) = false := by simp; omega
    simp only [hz]
    simp
theorem of_step {K : ByteArray} {l : List Rec} {j : Nat} (h : j < l.length) : ofK K (l.take (j + 1)) = ofK K (l.take j) ++ (if ske K (l.getD j default) = true then [l.getD j default] else []) := by
  unfold ofK
  rw [take_one h, List.filter_append]
  congr 1
  generalize l.getD j default = y
  cases h2 : ske K y <;> simp [h2]
theorem of_len (K : ByteArray) (l : List Rec) (j : Nat) : (ofK K (l.take j)).length ≤ l.length := by
  have := List.length_filter_le (ske K) (l.take j)
  unfold ofK
  simp at this; omega
theorem app_rec (l : List Rec) (y : Rec) : contLe (l.length + 1) 5 (appRow l.length (cellsOf' encR l) fun k j => Ax.get [AV.y (Value.int IntKind.u64 y.off), AV.y (Value.string y.key), AV.ys true 1 y.val.length (cellsOf' encB y.val), AV.y (Value.int IntKind.u64 y.prod), AV.y (Value.int IntKind.u64 y.seq)] (k * 5 + j)) (cellsOf' encR (l ++ [y])) := app1_le rfl fun _ _ => le0_refl _
theorem b5_loop (x : Bck) (h : BckOk x) (i : Nat) (hi : i < x.p.recs.length) (j : Nat) : LoopOk Tryz.prog 6 33 (loopAt Tryz.prog 6 33) ⟨b5T x i j, b5M x i j, []⟩ (T.map (lout bkX (b5S x i)) (.ret ())) := by
  refine loop_vc (P := Tryz.prog) (f := 6) (k := 33) (ι := Nat) (μ := fun j => x.p.recs.length - j) (o := fun _ => .ret ()) (ht := hT _) (stT := b5T x i) (stM := b5M x i) (X := bkX) (S := b5S x i) Tryz.mixed (fun _ => rfl) (fun j => ?_) j
  rw [vcB5_eq x i j]
  unfold vcB5
  have nr := h.nr
  have lr := h.lr
  by_cases hj : j < x.p.recs.length
  · have hw : IntKind.i64.wrap ((j : Int) + 1) = ((j + 1 : Nat) : Int) := by rw [wrap_i64 (by omega) (by omega)]; omega
    have hz : decide ((j : Int) < x.p.recs.length) = true := by simp; omega
    have hz1 : decide ((i : Int) < x.p.recs.length) = true := by simp; omega
    have hz2 : decide ((j : Int) < x.M.recs.length) = true := by simp; omega
    have s1 : oneK x i (j + 1) = oneK x i j ++ (if ske (keyI x i) (x.p.recs.getD j default) = true then [x.p.recs.getD j default] else []) := of_step hj
    have s2 : twoK x i (j + 1) = twoK x i j ++ (if ske (keyI x i) (x.M.recs.getD j default) = true then [x.M.recs.getD j default] else []) := of_step (by omega)
    have l1 : (oneK x i j).length ≤ x.p.recs.length := of_len _ _ _
    have l2 : (twoK x i j).length ≤ x.M.recs.length := of_len _ _ _
    have q1 : ((oneK x i j).length + 1 ≤ 9223372036854775807) := by omega
    have q2 : ((oneK x i j).length + 1) * 64 ≤ 140737488355328 := by omega
    have q3 : ((twoK x i j).length + 1 ≤ 9223372036854775807) := by omega
    have q4 : ((twoK x i j).length + 1) * 64 ≤ 140737488355328 := by omega
    have k1 : ((x.p.recs.getD j default).key.data.toList == (x.p.recs.getD i default).key.data.toList) = ske (keyI x i) (x.p.recs.getD j default) := rfl
    have k2 : ((x.M.recs.getD j default).key.data.toList == (x.p.recs.getD i default).key.data.toList) = ske (keyI x i) (x.M.recs.getD j default) := rfl
    rw [Int.toNat_natCast, Int.toNat_natCast]
    simp only [hz, hz1, hz2, hw, k1, k2, q1, q2, q3, q4]
    generalize x.p.recs.getD j default = y at *
    generalize x.M.recs.getD j default = z at *
    cases c1 : ske (keyI x i) y <;> cases c2 : ske (keyI x i) z <;> rw [c1] at s1 <;> rw [c2] at s2 <;> simp only [if_true, Bool.false_eq_true, if_false, List.append_nil] at s1 s2 <;> simp <;> refine ⟨j + 1, by omega, ?_⟩ <;> rw [s1, s2] <;> simp <;> first | exact app_rec _ _ | exact ⟨app_rec _ _, app_rec _ _⟩
  · have hz : decide ((j : Int) < x.p.recs.length) = false := by simp; omega
    have e1 : oneK x i j = oneK x i x.p.recs.length := by unfold oneK; rw [List.take_of_length_le (by omega), List.take_of_length_le (by omega)]
    have e2 : twoK x i j = twoK x i x.p.recs.length := by unfold twoK; rw [List.take_of_length_le (by omega), List.take_of_length_le (by omega)]
    simp only [hz, e1, e2]
    simp
theorem b2_loop (x : Bck) (h : BckOk x) (i : Nat) : LoopOk Tryz.prog 6 16 (loopAt Tryz.prog 6 16) ⟨b2T i, bkM x, []⟩ (T.map (lout bkX (b2S x)) (.ret ())) := by
  refine loop_vcH (P := Tryz.prog) (f := 6) (k := 16) (ι := Nat) (μ := fun i => x.p.cons.length - i) (o := fun _ => .ret ()) (ht := b2H x) (stT := b2T) (stM := fun _ => bkM x) (X := bkX) (S := b2S x) Tryz.mixed (fun _ => rfl) (fun i => ?_) i
  rw [vcB2_eq x i]
  unfold vcB2
  have nr := h.nr
  have lr := h.lr
  have nc := h.nc
  have lc := h.lc
  by_cases hi : i < x.p.cons.length
  · have hw : IntKind.i64.wrap ((i : Int) + 1) = ((i + 1 : Nat) : Int) := by rw [wrap_i64 (by omega) (by omega)]; omega
    have hz : decide ((i : Int) < x.p.cons.length) = true := by simp; omega
    have hz1 : decide ((i : Int) < x.M.cons.length) = true := by simp; omega
    obtain ⟨c1, c2, c3⟩ := h.hc i hi
    obtain ⟨d1, d2⟩ := h.oc i hi
    have lp := b3_loop x h i hi ⟨(x.p.cons.getD i default).off.toNat, Int.self_le_toNat _⟩
    have w1 : IntKind.u64.wrap (x.M.recs.length : Int) = x.M.recs.length := wrap_u64 (by omega) (by omega)
    have w2 : IntKind.i64.wrap (x.M.cons.getD i default).off = (x.M.cons.getD i default).off := wrap_i64 (by omega) (by omega)
    have w3 : IntKind.i64.wrap (x.p.cons.getD i default).off = (x.p.cons.getD i default).off := wrap_i64 (by omega) (by omega)
    have e0 : offN x i = (x.M.cons.getD i default).off.toNat := rfl
    have cl : contLe (x.M.recs.length - (x.M.cons.getD i default).off.toNat) 5 (fun k => cellsOf' encR x.M.recs ((x.M.cons.getD i default).off.toNat + k)) (cellsOf' encR (x.M.recs.drop (x.M.cons.getD i default).off.toNat)) := by
      intro k _ q _
      simp [cellsOf']
    rw [Int.toNat_natCast]
    simp only [hz, hz1, hw, w1, w2, w3, e0] at lp ⊢
    have t1 : decide ((x.M.recs.length : Int) < (x.M.cons.getD i default).off) = false := by rw [decide_eq_false_iff_not]; omega
    have t2 : decide ((0 : Int) ≤ (x.M.cons.getD i default).off) = true := by rw [decide_eq_true_eq]; exact c2
    have t3 : decide ((x.M.cons.getD i default).off ≤ (x.M.recs.length : Int)) = true := by rw [decide_eq_true_eq]; exact c3
    have t4 : (((x.p.cons.getD i default).off.toNat : Nat) : Int) = (x.p.cons.getD i default).off := Int.toNat_of_nonneg d1
    have t5 : (x.M.recs.length : Int).toNat = x.M.recs.length := Int.toNat_natCast _
    simp only [c1, t1, t2, t3, t4, t5, cl]
    simp only [lp, and_true, true_and, BEq.rfl, Bool.not_true, Bool.false_eq_true, false_implies, forall_const, decide_true, Bool.and_true, contLe_refl]
    exact ⟨⟨by simp, i + 1, by omega, rfl⟩, fun _ => trivial⟩
  · have hz : decide ((i : Int) < x.p.cons.length) = false := by simp; omega
    simp only [hz]
    simp
theorem b4_loop (x : Bck) (h : BckOk x) (i : Nat) : LoopOk Tryz.prog 6 28 (loopAt Tryz.prog 6 28) ⟨b4T i, bkM x, []⟩ (T.map (lout bkX (b4S x)) (.ret ())) := by
  refine loop_vcH (P := Tryz.prog) (f := 6) (k := 28) (ι := Nat) (μ := fun i => x.p.recs.length - i) (o := fun _ => .ret ()) (ht := b4H x) (stT := b4T) (stM := fun _ => bkM x) (X := bkX) (S := b4S x) Tryz.mixed (fun _ => rfl) (fun i => ?_) i
  rw [vcB4_eq x i]
  unfold vcB4
  have nr := h.nr
  have lr := h.lr
  by_cases hi : i < x.p.recs.length
  · have hw : IntKind.i64.wrap ((i : Int) + 1) = ((i + 1 : Nat) : Int) := by rw [wrap_i64 (by omega) (by omega)]; omega
    have hz : decide ((i : Int) < x.p.recs.length) = true := by simp; omega
    have lp := b5_loop x h i hi 0
    obtain ⟨k1, k2⟩ := h.hk i hi
    have l1 : (oneK x i x.p.recs.length).length ≤ x.p.recs.length := of_len _ _ _
    have l2 : (twoK x i x.p.recs.length).length ≤ x.M.recs.length := of_len _ _ _
    have g1 : (oneK x i x.p.recs.length).length ≤ 9223372036854775806 := by omega
    have g2 : (twoK x i x.p.recs.length).length ≤ 9223372036854775806 := by omega
    have g3 : ((oneK x i x.p.recs.length).length : Int) = (twoK x i x.p.recs.length).length := by omega
    simp only [hz, hw]
    simp only [lp, g1, g2, g3, k2, rowAt_zero]
    simp
    exact ⟨i + 1, by omega, by omega⟩
  · have hz : decide ((i : Int) < x.p.recs.length) = false := by simp; omega
    simp only [hz]
    simp
theorem bc_c (x : Bck) (h1 : SplR x.p x.k x.A x.B x.e) (h2 : x.e = 0 → 2 ≤ IntKind.u64.wrap (x.p.epoch + 2) → MrgZ (frz x.A 1) (frz x.B 1) x.M ∧ BckOk x) : (boolR true).Sat (ACall' Tryz.prog 6 [.agg (encPt true x.p), .y (.string x.k)] []) := by
  refine ctr_vc (ht := bcH x) Tryz.mixed rfl ?_
  rw [vcBc_eq x]
  unfold vcBc
  by_cases e0 : x.e = 0
  · have h1' : SplR x.p x.k x.A x.B 0 := e0 ▸ h1
    by_cases e1 : IntKind.u64.wrap (x.p.epoch + 2) < 2
    · simp [h1', e0, e1]
    · obtain ⟨h3, h⟩ := h2 e0 (by omega)
      have l1 := b1_loop x h 0
      have l2 := b2_loop x h 0
      have l4 := b4_loop x h 0
      have r := h.lo
      have n1 := h.nr
      have n2 := h.np
      have n3 := h.nc
      simp [h1', e0, e1, h3, l1, l2, l4, n1, n2, n3, r]
  · simp [h1, e0]
end Go.Proofs.YtckklclehofddaaGreatDoor.D

/-! Lineage: the law Keeps. -/
namespace Go.Proofs.YtckklclehofddaaGreatDoor.D
open Go.Ax
set_option maxRecDepth 1000000
theorem part_emb (r : Rng) (l : List Rec) : emb (outOf r l) l := by
  unfold emb
  rw [out_eq, ren_strip]
  exact List.filter_sublist.map _
theorem filter_two {α : Type} {f g : α → Bool} : ∀ {l : List α}, (∀ x ∈ l, g x = !f x) → (l.filter f).length + (l.filter g).length = l.length
  | [], _ => rfl
  | x :: l, h => by
    have h1 := filter_two (l := l) fun y hy => h y (List.mem_cons_of_mem _ hy)
    have h2 := h x List.mem_cons_self
    rw [List.filter_cons, List.filter_cons, h2]
    cases f x <;> simp <;> omega
theorem side_has {p : Rng} {k x : ByteArray} (hs : splE p k = 0) (h : hasK p x = true) : hasK (rHigh p k) x = !hasK (rLow p k) x := by
  have c1 := low_chk hs
  have c2 := high_chk hs
  obtain ⟨_, s2, s3, s4⟩ := spl_ok hs
  obtain ⟨_, h2, h3, h4⟩ := has_iff.1 h
  have hne : k.data.toList ≠ [] := by
    obtain ⟨_, _, m1, _⟩ := has_iff.1 s4
    rcases m1 with m1 | m1
    · exact lt_nil m1
    · exact absurd m1.symm s3
  cases hl : hasK (rLow p k) x
  · have h5 : lt x k = false := by
      cases h6 : lt x k
      · rfl
      · rw [has_iff.2 ⟨c1, h2, h3, .inr h6⟩] at hl; cases hl
    refine has_iff.2 ⟨c2, h2, ?_, h4⟩
    show lt k x = true ∨ k = x
    cases h6 : lt k x
    · exact .inr (lt_tri h6 h5)
    · exact .inl rfl
  · obtain ⟨_, _, _, h5⟩ := has_iff.1 hl
    have h5 : lt x k = true := h5.resolve_left hne
    cases h6 : hasK (rHigh p k) x
    · rfl
    · obtain ⟨_, _, h7, _⟩ := has_iff.1 h6
      have h7 : lt k x = true ∨ k = x := h7
      rcases h7 with h7 | rfl
      · have := lt_trans' h5 h7
        rw [lt_irr] at this; cases this
      · rw [lt_irr] at h5; cases h5
theorem two_len {p : Part} {k : ByteArray} (ho : partOk p = true) (hs : splE p.rng k = 0) : (outOf (rLow p.rng k) p.recs).length + (outOf (rHigh p.rng k) p.recs).length = p.recs.length := by
  obtain ⟨_, _, _, _, _, f, _⟩ := ok_parts ho
  have hf := (or_iff p).1 f
  rw [out_len, out_len]
  exact filter_two fun x hx => side_has hs (hf.1 x hx).1
end Go.Proofs.YtckklclehofddaaGreatDoor.D

/-! Producers: lives; the law ProducersMoves. -/
namespace Go.Proofs.YtckklclehofddaaGreatDoor.P
open Go.Ax
set_option maxRecDepth 1000000
structure Two where
  a : List Producer
  b : List Producer
  ta : List Int
  tb : List Int
structure Two.Ok (x : Two) : Prop where
  a : x.a.length * 32 ≤ 140737488355200
  b : x.b.length * 32 ≤ 140737488355200
  ta : x.ta.length ≤ 9223372036854775806
  tb : x.tb.length ≤ 9223372036854775806
  oa : ∀ y ∈ x.a, 0 ≤ y.offset ∧ y.offset < 18446744073709551616
  ob : ∀ y ∈ x.b, 0 ≤ y.offset ∧ y.offset < 18446744073709551616
theorem both_len {a b : List Producer} {ta tb : List Int} (h : bothE a b ta tb = 0) : (bothL a b ta tb).length ≤ 256 := by
  unfold bothE at h
  by_cases h1 : (isTable a && isTable b) = true
  · by_cases h2 : 256 < (bothL a b ta tb).length
    · simp [h1, h2] at h
    · omega
  · simp [h1] at h
end Go.Proofs.YtckklclehofddaaGreatDoor.P

/-! Producers: what is new stays new: the plain law of Kept. -/
namespace Go.Proofs.YtckklclehofddaaGreatDoor.P
open Go.Ax
set_option maxRecDepth 1000000
theorem mv_id (to : List Int) (x : Producer) : (mvP to x).id = x.id := by unfold mvP; split <;> rfl
theorem mem_oth {l : List Producer} {x z : Producer} : z ∈ oth l x ↔ z ∈ l ∧ ¬ z.id = x.id := by
  unfold oth
  rw [List.mem_filter]
  simp [keep]
theorem mem_putL' {l : List Producer} {x z : Producer} : z ∈ putL l x ↔ z = x ∨ (z ∈ l ∧ ¬ z.id = x.id) := by
  rw [← mem_oth]
  unfold putL
  rw [List.mem_append, List.mem_cons]
  constructor
  · rintro (h | h | h)
    · exact Or.inr (List.mem_of_mem_take h)
    · exact Or.inl h
    · exact Or.inr (List.mem_of_mem_drop h)
  · rintro (h | h)
    · exact Or.inr (Or.inl h)
    · rw [← List.take_append_drop (below (oth l x) x.id) (oth l x), List.mem_append] at h
      rcases h with h | h
      · exact Or.inl h
      · exact Or.inr (Or.inr h)
theorem find_of {l : List Producer} {id : Int} (h : findI l id = true) : findD l id ∈ l ∧ (findD l id).id = id := by
  unfold findI at h
  unfold findD
  cases hf : l.find? (has id) with
  | none => rw [hf] at h; cases h
  | some x =>
    have h1 := List.find?_some hf
    have h2 := List.mem_of_find?_eq_some hf
    exact ⟨h2, by simpa [has] using h1⟩
theorem find_none {l : List Producer} {id : Int} (h : findI l id = false) : ∀ x ∈ l, ¬ x.id = id := by
  intro x hx hid
  unfold findI at h
  have : (l.find? (has id)).isSome = true := by
    rw [List.find?_isSome]
    exact ⟨x, hx, by simp [has, hid]⟩
  rw [h] at this; cases this
theorem pw_unique {l : List Producer} (h : l.Pairwise (fun a b => a.id < b.id)) : ∀ {x y : Producer}, x ∈ l → y ∈ l → x.id = y.id → x = y := by
  induction h with
  | nil => intro x y hx; cases hx
  | cons h1 _ ih =>
    intro x y hx hy e
    rcases List.mem_cons.1 hx with e1 | hx' <;> rcases List.mem_cons.1 hy with e2 | hy'
    · rw [e1, e2]
    · have := h1 _ hy'; rw [← e1] at this; omega
    · have := h1 _ hx'; rw [← e2] at this; omega
    · exact ih hx' hy' e
/-- no one of that name came so far -/
def fresh (l : List Producer) (id seq : Int) : Prop := ∀ x ∈ l, x.id = id → x.seq < seq
/-- a table, element by element -/
def good (x : Producer) : Prop := ¬ x.id = 0 ∧ 1 ≤ x.seq ∧ x.seq ≤ 9223372036854775807 ∧ (x.here = true ∨ x.offset = 0)
theorem table_iff (l : List Producer) : isTable l = true ↔ (∀ x ∈ l, good x) ∧ rising l ∧ l.length ≤ 256 := by
  constructor
  · intro h
    have hr := table_rising h
    unfold isTable at h
    rw [Bool.and_eq_true, decide_eq_true_eq] at h
    refine ⟨fun x hx => ?_, hr, h.2⟩
    obtain ⟨i, hi, rfl⟩ := List.mem_iff_getElem.1 hx
    have := okFrom_all _ 0 rfl h.1 i (Nat.zero_le _) hi
    simp [okP, hi] at this
    unfold good
    grind
  · rintro ⟨h1, h2, h3⟩
    unfold isTable
    rw [Bool.and_eq_true, decide_eq_true_eq]
    refine ⟨?_, h3⟩
    unfold okFrom
    rw [List.all_eq_true]
    intro j hj
    have hj' : j < l.length := by
      simp at hj; exact hj
    have hg := h1 l[j] (List.getElem_mem hj')
    unfold good at hg
    simp [okP, hj']
    have hr : 0 < j → (l[j - 1]?.getD default).id < l[j].id := fun h => by
      have := h2 (j - 1) j (by omega) hj'
      simpa [hj'] using this
    grind
theorem good_mv {x : Producer} (to : List Int) (h : good x) : good (mvP to x) := by
  unfold good at *
  unfold mvP
  split
  · exact ⟨h.1, h.2.1, h.2.2.1, Or.inl rfl⟩
  · exact ⟨h.1, h.2.1, h.2.2.1, Or.inr rfl⟩
theorem good_both {s : List Producer} (hs : ∀ x ∈ s, good x) (m : List Producer) (hm : ∀ x ∈ m, good x) : ∀ k, k ≤ m.length → ∀ x ∈ both s m k, good x := by
  intro k
  induction k with
  | zero => intro _; simpa [both] using hs
  | succ k ih =>
    intro hk x hx
    rw [both_step (by omega)] at hx
    have hmk : good (m[k]?.getD default) := by
      have h : k < m.length := by omega
      have := hm m[k] (List.getElem_mem h)
      simpa [h] using this
    unfold bst at hx
    split at hx
    · rcases mem_putL'.1 hx with rfl | ⟨hx, _⟩
      · exact hmk
      · exact ih (by omega) x hx
    · exact ih (by omega) x hx
theorem bothE_ok {a b : List Producer} {ta tb : List Int} (h : bothE a b ta tb = 0) : isTable a = true ∧ isTable b = true := by
  unfold bothE at h
  by_cases h1 : (isTable a && isTable b) = true
  · simpa using h1
  · simp [h1] at h
theorem table_both {a b : List Producer} {ta tb : List Int} (h : bothE a b ta tb = 0) : isTable (bothL a b ta tb) = true := by
  have ⟨ha, hb⟩ := bothE_ok h
  have ⟨a1, a2, _⟩ := (table_iff a).1 ha
  have ⟨b1, b2, _⟩ := (table_iff b).1 hb
  refine (table_iff _).2 ⟨good_both (fun x hx => ?_) _ (fun x hx => ?_) _ (Nat.le_refl _), (both_inv (move_rising a2) _).1, both_len h⟩
  · obtain ⟨y, hy, rfl⟩ := List.mem_map.1 hx
    exact good_mv _ (a1 y hy)
  · obtain ⟨y, hy, rfl⟩ := List.mem_map.1 hx
    exact good_mv _ (b1 y hy)
end Go.Proofs.YtckklclehofddaaGreatDoor.P

/-! Lineage, plain: what is parted can be joined again: the logs. -/
namespace Go.Proofs.YtckklclehofddaaGreatDoor.D
open Go.Ax
set_option maxRecDepth 1000000
theorem sub_pos {α : Type} {l m : List α} (h : l.Sublist m) : ∃ f : Nat → Nat, (∀ i, i < l.length → f i < m.length ∧ m[f i]? = l[i]?) ∧ ∀ i j, i < j → j < l.length → f i < f j := by
  induction h with
  | slnil => exact ⟨id, fun i hi => by simp at hi, fun i j _ hj => by simp at hj⟩
  | cons a _ ih =>
    obtain ⟨f, h1, h2⟩ := ih
    exact ⟨fun i => f i + 1, fun i hi => ⟨by simp; exact (h1 i hi).1, by simpa using (h1 i hi).2⟩, fun i j hij hj => by have := h2 i j hij hj; show f i + 1 < f j + 1; omega⟩
  | cons_cons a _ ih =>
    obtain ⟨f, h1, h2⟩ := ih
    refine ⟨fun i => match i with | 0 => 0 | i + 1 => f i + 1, fun i hi => ?_, fun i j hij hj => ?_⟩
    · cases i with
      | zero => simp
      | succ i =>
        have hi : i < _ := Nat.lt_of_succ_lt_succ (by simpa using hi)
        exact ⟨by simp; exact (h1 i hi).1, by simpa using (h1 i hi).2⟩
    · cases j with
      | zero => omega
      | succ j =>
        have hj : j < _ := Nat.lt_of_succ_lt_succ (by simpa using hj)
        cases i with
        | zero => simp
        | succ i =>
          have := h2 i j (by omega) hj
          show f i + 1 < f j + 1
          omega
/-- one after the other, as the long log has them -/
theorem pos_rel {L a : List Rec} (hL : L.Pairwise up1) (h : emb a L) : ∃ f : Nat → Nat, (∀ i j, i < j → j < a.length → f i < f j) ∧ (∀ i, i < a.length → ∃ hf : f i < L.length, strip L[f i] = strip (a.getD i default)) := by
  obtain ⟨f, h1, h2⟩ := sub_pos h
  refine ⟨f, fun i j hij hj => h2 i j hij (by simpa using hj), fun i hi => ?_⟩
  obtain ⟨g1, g2⟩ := h1 i (by simpa using hi)
  have g1 : f i < L.length := by simpa using g1
  refine ⟨g1, ?_⟩
  simp [g1, hi] at g2
  simpa [hi] using g2
theorem low_pos {L a b : List Rec} {f g : Nat → Nat} (hL : L.Pairwise up1) (hf : ∀ i, i < a.length → ∃ h : f i < L.length, strip L[f i] = strip (a.getD i default)) (hg : ∀ i, i < b.length → ∃ h : g i < L.length, strip L[g i] = strip (b.getD i default))
    (mg : ∀ i j, i < j → j < b.length → g i < g j) {i j : Nat} (hi : i < a.length) (hj : j < b.length) (h : lowR (b.drop j) (hd (a.drop i)) = true) : g j < f i := by
  have e1 : hd (a.drop i) = a.getD i default := by
    unfold hd
    simp
  rw [e1] at h
  unfold lowR at h
  obtain ⟨y, hy, hb⟩ := List.any_eq_true.1 h
  obtain ⟨q, hq, rfl⟩ := List.mem_iff_getElem.1 hy
  have hq' : j + q < b.length := by simp at hq; omega
  have e2 : (b.drop j)[q] = b.getD (j + q) default := by simp [hq']
  rw [e2] at hb
  simp only [below, Bool.and_eq_true, beq_iff_eq, decide_eq_true_eq] at hb
  obtain ⟨b1, b2⟩ := hb
  obtain ⟨f1, f2⟩ := hf i hi
  obtain ⟨g1, g2⟩ := hg (j + q) hq'
  simp only [strip, Rec.to, Rec.mk.injEq, true_and] at f2 g2
  obtain ⟨_, _, f3, f4⟩ := f2
  obtain ⟨_, _, g3, g4⟩ := g2
  have key : g (j + q) < f i := by
    rcases Nat.lt_trichotomy (g (j + q)) (f i) with h1 | h1 | h1
    · exact h1
    · exfalso
      have : L[g (j + q)] = L[f i] := by congr 1
      rw [this] at g4
      omega
    · exfalso
      have := (List.pairwise_iff_getElem.1 hL) (f i) (g (j + q)) f1 g1 h1
      unfold up1 at this
      have := this (by rw [f3, g3, b1])
      omega
  rcases Nat.eq_zero_or_pos q with rfl | hq0
  · simpa using key
  · have := mg j (j + q) (by omega) hq'
    omega
theorem run_pos {L a b : List Rec} {f g : Nat → Nat} (hL : L.Pairwise up1) (hf : ∀ i, i < a.length → ∃ h : f i < L.length, strip L[f i] = strip (a.getD i default)) (hg : ∀ i, i < b.length → ∃ h : g i < L.length, strip L[g i] = strip (b.getD i default))
    (mf : ∀ i j, i < j → j < a.length → f i < f j) (mg : ∀ i j, i < j → j < b.length → g i < g j) : ∀ (n : Nat) (s : Jo) (i j : Nat), s.a.length + s.b.length = n → s.a = a.drop i → s.b = b.drop j → (joinN n s).isSome = true
  | 0, _, _, _, _, _, _ => rfl
  | n + 1, s, i, j, hn, ha, hb => by
    rw [joinN]
    cases hA : s.tA
    · rw [if_neg (by simp)]
      cases hB : s.tB
      · exfalso
        have h1 : s.a = [] ∨ lowR s.b (hd s.a) = true := by unfold Jo.tA at hA; cases ha : s.a <;> simp [ha] at hA ⊢; exact hA
        have h2 : s.b = [] ∨ lowR s.a (hd s.b) = true := by unfold Jo.tB at hB; cases hb : s.b <;> simp [hb] at hB ⊢; exact hB
        rcases h1 with h1 | h1
        · have hb' : s.b ≠ [] := by intro e; rw [h1, e] at hn; simp at hn
          have := h2.resolve_left hb'
          rw [h1] at this; simp [lowR] at this
        · rcases h2 with h2 | h2
          · rw [h2] at h1; simp [lowR] at h1
          · have na : s.a ≠ [] := by intro e; rw [e] at h2; simp [lowR] at h2
            have nb : s.b ≠ [] := by intro e; rw [e] at h1; simp [lowR] at h1
            rw [ha, hb] at h1 h2
            rw [ha] at na
            rw [hb] at nb
            have hi : i < a.length := by
              rcases Nat.lt_or_ge i a.length with h | h
              · exact h
              · exact absurd (List.drop_eq_nil_of_le h) na
            have hj : j < b.length := by
              rcases Nat.lt_or_ge j b.length with h | h
              · exact h
              · exact absurd (List.drop_eq_nil_of_le h) nb
            have k1 := low_pos hL hf hg mg hi hj h1
            have k2 := low_pos hL hg hf mf hj hi h2
            omega
      · rw [if_pos rfl]
        have hne : s.b ≠ [] := by unfold Jo.tB at hB; intro e; rw [e] at hB; simp at hB
        obtain ⟨x, r, hx⟩ := List.exists_cons_of_ne_nil hne
        exact run_pos hL hf hg mf mg n _ i (j + 1) (by simp [Jo.goB, hx] at hn ⊢; omega) ha (by show s.b.tail = _; rw [hb, List.tail_drop])
    · rw [if_pos rfl]
      have hne : s.a ≠ [] := by unfold Jo.tA at hA; intro e; rw [e] at hA; simp at hA
      obtain ⟨x, r, hx⟩ := List.exists_cons_of_ne_nil hne
      exact run_pos hL hf hg mf mg n _ (i + 1) j (by simp [Jo.goA, hx] at hn ⊢; omega) (by show s.a.tail = _; rw [ha, List.tail_drop]) hb
theorem run_emb {L a b : List Rec} (hL : L.Pairwise up1) (ha : emb a L) (hb : emb b L) : ((jo0 a b).run).isSome = true := by
  obtain ⟨f, f1, f2⟩ := pos_rel hL ha
  obtain ⟨g, g1, g2⟩ := pos_rel hL hb
  exact run_pos hL f2 g2 f1 g1 _ (jo0 a b) 0 0 rfl rfl rfl
/-! what is joined is what was there, in another order -/
theorem joinN_perm : ∀ (n : Nat) (s s' : Jo), joinN n s = some s' → ((s'.out ++ (s'.a ++ s'.b)).map strip).Perm ((s.out ++ (s.a ++ s.b)).map strip)
  | 0, s, s', h => by rw [joinN] at h; cases h; exact List.Perm.refl _
  | n + 1, s, s', h => by
    rw [joinN] at h
    split at h
    · rename_i hA
      have hne : s.a ≠ [] := by unfold Jo.tA at hA; intro e; rw [e] at hA; simp at hA
      obtain ⟨x, r, hx⟩ := List.exists_cons_of_ne_nil hne
      refine (joinN_perm n _ _ h).trans ?_
      unfold Jo.goA
      rw [hx]
      simp [strip, Rec.to, hd]
    · split at h
      · rename_i hA hB
        have hne : s.b ≠ [] := by unfold Jo.tB at hB; intro e; rw [e] at hB; simp at hB
        obtain ⟨x, r, hx⟩ := List.exists_cons_of_ne_nil hne
        refine (joinN_perm n _ _ h).trans ?_
        unfold Jo.goB
        rw [hx]
        simp [strip, Rec.to, hd]
        refine List.Perm.append_left _ ?_
        exact (List.perm_middle).symm
      · cases h
end Go.Proofs.YtckklclehofddaaGreatDoor.D

/-! Lineage, plain: what is parted can be joined again: the producers. -/
namespace Go.Proofs.YtckklclehofddaaGreatDoor.D
open Go.Ax
set_option maxRecDepth 1000000
abbrev idLt (a b : P.Producer) : Prop := a.id < b.id
theorem pw_ext : ∀ {l m : List P.Producer}, l.Pairwise idLt → m.Pairwise idLt → (∀ z, z ∈ l ↔ z ∈ m) → l = m
  | [], [], _, _, _ => rfl
  | [], b :: m, _, _, h => by have := (h b).2 (by simp); cases this
  | a :: l, [], _, _, h => by have := (h a).1 (by simp); cases this
  | a :: l, b :: m, hl, hm, h => by
    have hl' := List.pairwise_cons.1 hl
    have hm' := List.pairwise_cons.1 hm
    have e : a = b := by
      rcases List.mem_cons.1 ((h a).1 (by simp)) with h1 | h1
      · exact h1
      · rcases List.mem_cons.1 ((h b).2 (by simp)) with h2 | h2
        · exact h2.symm
        · have := hm'.1 a h1
          have := hl'.1 b h2
          unfold idLt at *
          omega
    subst e
    congr 1
    refine pw_ext hl'.2 hm'.2 fun z => ⟨fun hz => ?_, fun hz => ?_⟩
    · rcases List.mem_cons.1 ((h z).1 (by simp [hz])) with rfl | h1
      · have := hl'.1 z hz; unfold idLt at this; omega
      · exact h1
    · rcases List.mem_cons.1 ((h z).2 (by simp [hz])) with rfl | h1
      · have := hm'.1 z hz; unfold idLt at this; omega
      · exact h1
theorem pw_of_ids {l m : List P.Producer} (h : l.map (·.id) = m.map (·.id)) (hm : m.Pairwise idLt) : l.Pairwise idLt := by
  have e : ∀ l : List P.Producer, l.Pairwise idLt ↔ (l.map (·.id)).Pairwise (· < ·) := fun l => by rw [List.pairwise_map]
  rw [e, h, ← e]; exact hm
theorem putL_set {S : List P.Producer} {x : P.Producer} {k : Nat} (hS : S.Pairwise idLt) (hk : k < S.length) (hx : S[k].id = x.id) : P.putL S x = S.set k x := by
  refine pw_ext (P.putL_pw x S hS) (pw_of_ids ?_ hS) fun z => ?_
  · apply List.ext_getElem
    · simp
    · intro i h1 h2
      simp only [List.getElem_map, List.getElem_set]
      split
      · rename_i h; subst h; exact hx.symm
      · rfl
  · rw [P.mem_putL']
    have hinj := List.pairwise_iff_getElem.1 hS
    constructor
    · rintro (rfl | ⟨hz, hne⟩)
      · exact List.mem_set hk _
      · obtain ⟨j, hj, rfl⟩ := List.mem_iff_getElem.1 hz
        have hjk : k ≠ j := by rintro rfl; exact hne hx
        rw [List.mem_iff_getElem]
        exact ⟨j, by simpa using hj, by rw [List.getElem_set, if_neg hjk]⟩
    · intro hz
      obtain ⟨j, hj, rfl⟩ := List.mem_iff_getElem.1 hz
      rw [List.getElem_set]
      split
      · exact .inl rfl
      · rename_i h
        have hj' : j < S.length := by simpa using hj
        refine .inr ⟨List.getElem_mem hj', fun e => ?_⟩
        rw [← hx] at e
        rcases Nat.lt_or_gt_of_ne h with h1 | h1
        · have := hinj k j hk hj' h1; unfold idLt at this; omega
        · have := hinj j k hj' hk h1; unfold idLt at this; omega
def mrgQ (y x : P.Producer) : P.Producer := if P.lat x y = true then x else y
theorem mrgQ_id {y x : P.Producer} (h : x.id = y.id) : (mrgQ y x).id = y.id := by
  unfold mrgQ; split
  · exact h
  · rfl
theorem find_at {S : List P.Producer} (hS : S.Pairwise idLt) {k : Nat} (hk : k < S.length) {id : Int} (hx : S[k].id = id) : P.findI S id = true ∧ P.findD S id = S[k] := by
  have hI : P.findI S id = true := by
    cases h : P.findI S id
    · exact absurd hx (P.find_none h S[k] (List.getElem_mem hk))
    · rfl
  obtain ⟨h1, h2⟩ := P.find_of hI
  exact ⟨hI, P.pw_unique hS h1 (List.getElem_mem hk) (h2.trans hx.symm)⟩
theorem zip_ids {s m : List P.Producer} (h : s.map (·.id) = m.map (·.id)) : (List.zipWith mrgQ s m).map (·.id) = s.map (·.id) := by
  have hl : s.length = m.length := by simpa using congrArg List.length h
  apply List.ext_getElem
  · simp [hl]
  · intro i h1 h2
    simp only [List.getElem_map, List.getElem_zipWith]
    have h3 : i < s.length := by simpa using h2
    have h4 : i < m.length := by omega
    have := congrArg (fun l => l[i]?) h
    simp [h3, h4] at this
    exact mrgQ_id this.symm
theorem both_zip {s m : List P.Producer} (hs : s.Pairwise idLt) (h : s.map (·.id) = m.map (·.id)) : ∀ k, k ≤ m.length → P.both s m k = List.zipWith mrgQ (s.take k) (m.take k) ++ s.drop k := by
  have hl : s.length = m.length := by simpa using congrArg List.length h
  intro k
  induction k with
  | zero => intro _; simp [P.both]
  | succ k ih =>
    intro hk
    have ih := ih (by omega)
    have hk1 : k < s.length := by omega
    have hk2 : k < m.length := by omega
    have hid : m[k].id = s[k].id := by
      have := congrArg (fun l => l[k]?) h
      simp [hk1, hk2] at this
      exact this.symm
    generalize hS : List.zipWith mrgQ (s.take k) (m.take k) ++ s.drop k = S at ih
    have e1 : S.map (·.id) = s.map (·.id) := by
      rw [← hS, List.map_append, zip_ids (by rw [List.map_take, List.map_take, h]), ← List.map_append, List.take_append_drop]
    have hSp : S.Pairwise idLt := pw_of_ids e1 hs
    have hzl : (List.zipWith mrgQ (s.take k) (m.take k)).length = k := by simp; omega
    have hSk : k < S.length := by
      have := congrArg List.length e1
      simp at this; omega
    have hS1 : S[k] = s[k] := by
      subst hS
      rw [List.getElem_append_right (by omega)]
      simp [hzl]
    have hgd : m[k]?.getD default = m[k] := by simp [hk2]
    rw [P.both_step hk2, ih, hgd]
    unfold P.bst
    obtain ⟨f1, f2⟩ := find_at hSp hSk (id := m[k].id) (by rw [hS1, hid])
    rw [f1, f2, hS1]
    have hst : ∀ z, S.set k z = List.zipWith mrgQ (s.take k) (m.take k) ++ z :: s.drop (k + 1) := fun z => by
      rw [← hS, List.set_append_right _ _ (by omega), hzl, Nat.sub_self, List.drop_eq_getElem_cons hk1]
      rfl
    have hz : List.zipWith mrgQ (s.take (k + 1)) (m.take (k + 1)) ++ s.drop (k + 1) = S.set k (mrgQ s[k] m[k]) := by
      rw [hst, List.take_add_one, List.take_add_one, List.getElem?_eq_getElem hk1, List.getElem?_eq_getElem hk2]
      rw [List.zipWith_append (by simp; omega)]
      simp
    rw [hz]
    unfold mrgQ
    cases hlat : P.lat m[k] s[k]
    · simp
      rw [← hS1]; simp
    · simp
      exact putL_set hSp hSk (by rw [hS1, hid])
theorem bothL_zip {a b : List P.Producer} {ta tb : List Int} (ha : (P.moveL a ta).Pairwise idLt) (h : (P.moveL a ta).map (·.id) = (P.moveL b tb).map (·.id)) : P.bothL a b ta tb = List.zipWith mrgQ (P.moveL a ta) (P.moveL b tb) := by
  have hl : (P.moveL a ta).length = (P.moveL b tb).length := by simpa using congrArg List.length h
  unfold P.bothL
  rw [both_zip ha h _ (Nat.le_refl _), List.take_of_length_le (by omega), List.take_of_length_le (Nat.le_refl _), List.drop_eq_nil_of_le (by omega), List.append_nil]
end Go.Proofs.YtckklclehofddaaGreatDoor.D
