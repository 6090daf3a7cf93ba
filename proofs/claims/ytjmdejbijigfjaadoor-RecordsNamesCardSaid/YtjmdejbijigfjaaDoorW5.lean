import Derived.Test.YtjmdejbijigfjaaDoorE8
import Derived.Test.YtjmdejbijigfjaaDoorW4
set_option linter.unusedVariables false
set_option linter.unusedSimpArgs false
/-! Records: put, the program's and the document's: the conditions. -/
namespace Go.Proofs.YtjmdejbijigfjaaDoor
open Go.Ax
set_option maxRecDepth 1000000
def putL (l : List Con) (x : Con) : List Con := if bsF l x then l.set (belC l x.name) x else l.take (belC l x.name) ++ x :: l.drop (belC l x.name)
def rho : Go.Shelf.Ren := ⟨fun f => match f with | 22 => 67 | 29 => 78 | 30 => 79 | x => x, fun t => match t with | 24 => 57 | 9 => 59 | x => x, fun x => x⟩
theorem lay : InsLay Tryd.prog rho 2 24 ((Tryd.prog.info? 59).bind (·.zero) |>.getD undef) "slices.Insert[[]gazette/api.Consumer,gazette/api.Consumer]" where
  mixed := by kernel_rfl
  f22 := by kernel_rfl
  ov := fun w args => by
    rw [show rho.f 29 = 78 from rfl, run_callFunc_extern (P := Tryd.prog) (f := 78) (fn := Tryd.f78) Tryd.func78 (by kernel_rfl) (by kernel_rfl) (by kernel_rfl) (e := Extern.SlicesOverlaps.overlaps #[57, 57] #[4]) (by kernel_rfl)]
    rfl
  t0 := by kernel_rfl
  a0 := fun w => by kernel_rfl
  z0 := fun w => by kernel_rfl
  v0 := fun w => by kernel_rfl
  t3 := by kernel_rfl
  a3 := fun w => by kernel_rfl
  z3 := fun w => by kernel_rfl
  v3 := fun w => by kernel_rfl
  t4 := by kernel_rfl
  a4 := fun w => by kernel_rfl
  z4 := fun w => by kernel_rfl
  v4 := fun w => by kernel_rfl
  t24 := by kernel_rfl
  a24 := fun w => by kernel_rfl
  z24 := fun w => by kernel_rfl
  v24 := fun w => by kernel_rfl
  z9 := fun w => by kernel_rfl
  i9s := by kernel_rfl
  i9 := by kernel_rfl
  pos := by decide
  zc := by kernel_rfl
noncomputable def putH (b : Bool) (l : List Con) (x : Con) (hl : l.length * 24 ≤ 140737488355200) (hr : risC l) : HintsT Tryd.prog :=
  withIns (withSub (hh _ noLp (cs1 53 1 3 (bsC b l x (by omega) hr) (cs1 53 2 1 (ccC b l (by omega)) noCs)) noOp) [67]) lay
def conR (l : List Con) : T An := .ret (.own 0 2 0 l.length, [rowC l], [])
def vcPut (b : Bool) (l : List Con) (x : Con) (hl : l.length * 24 ≤ 140737488355200) (hr : risC l) : Prop :=
  ((b = b ∧ List.length l = List.length l ∧ contLe (List.length l) (2 : Nat) (cellsOf' encC l) (cellsOf' encC l)) ∧ (x.name = x.name ∧ x.off = x.off ∧ True) ∧ (True ∧ True) ∧ True) ∧ True ∧ ((b = b ∧ List.length l = List.length l ∧ contLe (List.length l) (2 : Nat) (cellsOf' encC l) (cellsOf' encC l)) ∧ True) ∧ True ∧ (bsF l x = true → (true && decide ((↑(belC l x.name) : Int) < (↑(List.length l) : Int))) = true ∧ decide ((0 : Nat) + Int.toNat (↑(belC l x.name) : Int) < List.length l) = true ∧ ((0 : Nat) = (0 : Nat) ∧ List.length l = List.length (putL l x)) ∧ (List.length l = List.length (putL l x) ∧ contLe (List.length l) (2 : Nat) (wrRow (cellsOf' encC l) ((0 : Nat) + Int.toNat (↑(belC l x.name) : Int)) (0 : Nat) [AV.y (Value.string x.name), AV.y (Value.int IntKind.u64 x.off)]) (cellsOf' encC (putL l x))) ∧ True) ∧ (bsF l x = false → (List.length l = List.length l ∧ (0 : Int) ≤ (↑(belC l x.name) : Int) ∧ (↑(belC l x.name) : Int) ≤ (↑(List.length l) : Int) ∧ List.length l + (1 : Nat) ≤ (9223372036854775807 : Nat) ∧ (List.length l + (1 : Nat)) * (24 : Nat) ≤ (140737488355328 : Nat)) ∧ ((0 : Nat) = (0 : Nat) ∧ List.length l + (1 : Nat) = List.length (putL l x)) ∧ (List.length l + (1 : Nat) = List.length (putL l x) ∧ contLe (List.length l + (1 : Nat)) (2 : Nat) (insRow (Int.toNat (↑(belC l x.name) : Int)) (1 : Nat) (cellsOf' encC l) fun (k j : Nat) => Ax.get [AV.y (Value.string x.name), AV.y (Value.int IntKind.u64 x.off)] (k * (2 : Nat) + j)) (cellsOf' encC (putL l x))) ∧ True)
set_option maxRecDepth 1000000 in
theorem vcPut_eq (b : Bool) (l : List Con) (x : Con) (hl : l.length * 24 ≤ 140737488355200) (hr : risC l) : (ctrVC Tryd.prog (putH b l x hl hr) 53 [encCs b l, .agg (encC x), fnB] [] (conR (putL l x))) = vcPut b l x hl hr := by kernel_rfl
/-! the document's put -/
def stp (x : Con) (s : Bool × List Con) (y : Con) : Bool × List Con :=
  let s1 := if (!lt y.name x.name && !s.1) = true then (true, s.2 ++ [x]) else s
  if y.name.data = x.name.data then s1 else (s1.1, s1.2 ++ [y])
def rst (l : List Con) (x : Con) (k : Nat) : Bool × List Con := (l.take k).foldl (stp x) (false, [])
def rput (l : List Con) (x : Con) : List Con := if (rst l x l.length).1 then (rst l x l.length).2 else (rst l x l.length).2 ++ [x]
def rpT (b : Bool) (l : List Con) (x : Con) (k : Nat) : List AV := mkT 52 [(0, encCs b l), (3, .ptr 0 0 0 0), (5, .own 1 2 0 (rst l x k).2.length), (6, .y (.bool (rst l x k).1)), (7, .y (.int .i64 k))]
def rpM (l : List Con) (x : Con) (k : Nat) : List Blk := [.box 59 (encC x), .row 59 2 (rst l x k).2.length none (cellsOf' encC (rst l x k).2)]
def rpS (l : List Con) (x : Con) (_ : Unit) : Exit × List AV × List Blk := (.exit 0, mkT 52 [(3, .ptr 0 0 0 0), (5, .own 1 2 0 (rst l x l.length).2.length), (6, .y (.bool (rst l x l.length).1))], rpM l x l.length)
def vcRpL (b : Bool) (l : List Con) (x : Con) (k : Nat) : Prop :=
  (decide ((↑k : Int) < (↑(List.length l) : Int)) = true → (true && decide ((↑k : Int) < (↑(List.length l) : Int))) = true ∧ ((!Op.bytesLess (List.getD l (Int.toNat (↑k : Int)) (@default Con instInhabitedCon)).name.data.toList x.name.data.toList) = true → ((!(rst l x k).fst) = true → (decide (List.length (rst l x k).snd = List.length (rst l x k).snd) && decide (List.length (rst l x k).snd + (1 : Nat) ≤ (9223372036854775807 : Nat)) && decide ((List.length (rst l x k).snd + (1 : Nat)) * (24 : Nat) ≤ (140737488355328 : Nat))) = true ∧ (true && decide ((↑k : Int) < (↑(List.length l) : Int))) = true ∧ ((!(List.getD l (Int.toNat (↑k : Int)) (@default Con instInhabitedCon)).name.data.toList == x.name.data.toList) = true → (true && decide ((↑k : Int) < (↑(List.length l) : Int))) = true ∧ (decide (List.length (rst l x k).snd + (1 : Nat) = List.length (rst l x k).snd + (1 : Nat)) && decide (List.length (rst l x k).snd + (1 : Nat) + (1 : Nat) ≤ (9223372036854775807 : Nat)) && decide ((List.length (rst l x k).snd + (1 : Nat) + (1 : Nat)) * (24 : Nat) ≤ (140737488355328 : Nat))) = true ∧ ∃ (j : Nat), List.length l - j < List.length l - k ∧ (((b = b ∧ List.length l = List.length l ∧ contLe (List.length l) (2 : Nat) (cellsOf' encC l) (cellsOf' encC l)) ∧ ((0 : Nat) = (0 : Nat) ∧ (0 : Nat) = (0 : Nat)) ∧ ((0 : Nat) = (0 : Nat) ∧ List.length (rst l x k).snd + (1 : Nat) + (1 : Nat) = List.length (rst l x j).snd) ∧ true = (rst l x j).fst ∧ IntKind.wrap IntKind.i64 ((↑k : Int) + (1 : Int)) = (↑j : Int) ∧ True) ∧ ((x.name = x.name ∧ x.off = x.off ∧ True) ∧ (List.length (rst l x k).snd + (1 : Nat) + (1 : Nat) = List.length (rst l x j).snd ∧ contLe (List.length (rst l x k).snd + (1 : Nat) + (1 : Nat)) (2 : Nat) (appRow (List.length (rst l x k).snd + (1 : Nat)) (appRow (List.length (rst l x k).snd) (cellsOf' encC (rst l x k).snd) fun (k j : Nat) => Ax.get [AV.y (Value.string x.name), AV.y (Value.int IntKind.u64 x.off)] (k * (2 : Nat) + j)) fun (k_1 j : Nat) => Ax.get [AV.y (Value.string (List.getD l (Int.toNat (↑k : Int)) (@default Con instInhabitedCon)).name), AV.y (Value.int IntKind.u64 (List.getD l (Int.toNat (↑k : Int)) (@default Con instInhabitedCon)).off)] (k_1 * (2 : Nat) + j)) (cellsOf' encC (rst l x j).snd)) ∧ True) ∧ true = true) ∧ true = true ∧ () = ()) ∧ ((!(List.getD l (Int.toNat (↑k : Int)) (@default Con instInhabitedCon)).name.data.toList == x.name.data.toList) = false → ∃ (j : Nat), List.length l - j < List.length l - k ∧ (((b = b ∧ List.length l = List.length l ∧ contLe (List.length l) (2 : Nat) (cellsOf' encC l) (cellsOf' encC l)) ∧ ((0 : Nat) = (0 : Nat) ∧ (0 : Nat) = (0 : Nat)) ∧ ((0 : Nat) = (0 : Nat) ∧ List.length (rst l x k).snd + (1 : Nat) = List.length (rst l x j).snd) ∧ true = (rst l x j).fst ∧ IntKind.wrap IntKind.i64 ((↑k : Int) + (1 : Int)) = (↑j : Int) ∧ True) ∧ ((x.name = x.name ∧ x.off = x.off ∧ True) ∧ (List.length (rst l x k).snd + (1 : Nat) = List.length (rst l x j).snd ∧ contLe (List.length (rst l x k).snd + (1 : Nat)) (2 : Nat) (appRow (List.length (rst l x k).snd) (cellsOf' encC (rst l x k).snd) fun (k j : Nat) => Ax.get [AV.y (Value.string x.name), AV.y (Value.int IntKind.u64 x.off)] (k * (2 : Nat) + j)) (cellsOf' encC (rst l x j).snd)) ∧ True) ∧ true = true) ∧ true = true ∧ () = ())) ∧ ((!(rst l x k).fst) = false → (true && decide ((↑k : Int) < (↑(List.length l) : Int))) = true ∧ ((!(List.getD l (Int.toNat (↑k : Int)) (@default Con instInhabitedCon)).name.data.toList == x.name.data.toList) = true → (true && decide ((↑k : Int) < (↑(List.length l) : Int))) = true ∧ (decide (List.length (rst l x k).snd = List.length (rst l x k).snd) && decide (List.length (rst l x k).snd + (1 : Nat) ≤ (9223372036854775807 : Nat)) && decide ((List.length (rst l x k).snd + (1 : Nat)) * (24 : Nat) ≤ (140737488355328 : Nat))) = true ∧ ∃ (j : Nat), List.length l - j < List.length l - k ∧ (((b = b ∧ List.length l = List.length l ∧ contLe (List.length l) (2 : Nat) (cellsOf' encC l) (cellsOf' encC l)) ∧ ((0 : Nat) = (0 : Nat) ∧ (0 : Nat) = (0 : Nat)) ∧ ((0 : Nat) = (0 : Nat) ∧ List.length (rst l x k).snd + (1 : Nat) = List.length (rst l x j).snd) ∧ (rst l x k).fst = (rst l x j).fst ∧ IntKind.wrap IntKind.i64 ((↑k : Int) + (1 : Int)) = (↑j : Int) ∧ True) ∧ ((x.name = x.name ∧ x.off = x.off ∧ True) ∧ (List.length (rst l x k).snd + (1 : Nat) = List.length (rst l x j).snd ∧ contLe (List.length (rst l x k).snd + (1 : Nat)) (2 : Nat) (appRow (List.length (rst l x k).snd) (cellsOf' encC (rst l x k).snd) fun (k_1 j : Nat) => Ax.get [AV.y (Value.string (List.getD l (Int.toNat (↑k : Int)) (@default Con instInhabitedCon)).name), AV.y (Value.int IntKind.u64 (List.getD l (Int.toNat (↑k : Int)) (@default Con instInhabitedCon)).off)] (k_1 * (2 : Nat) + j)) (cellsOf' encC (rst l x j).snd)) ∧ True) ∧ true = true) ∧ true = true ∧ () = ()) ∧ ((!(List.getD l (Int.toNat (↑k : Int)) (@default Con instInhabitedCon)).name.data.toList == x.name.data.toList) = false → ∃ (j : Nat), List.length l - j < List.length l - k ∧ (((b = b ∧ List.length l = List.length l ∧ contLe (List.length l) (2 : Nat) (cellsOf' encC l) (cellsOf' encC l)) ∧ ((0 : Nat) = (0 : Nat) ∧ (0 : Nat) = (0 : Nat)) ∧ ((0 : Nat) = (0 : Nat) ∧ List.length (rst l x k).snd = List.length (rst l x j).snd) ∧ (rst l x k).fst = (rst l x j).fst ∧ IntKind.wrap IntKind.i64 ((↑k : Int) + (1 : Int)) = (↑j : Int) ∧ True) ∧ ((x.name = x.name ∧ x.off = x.off ∧ True) ∧ (List.length (rst l x k).snd = List.length (rst l x j).snd ∧ contLe (List.length (rst l x k).snd) (2 : Nat) (cellsOf' encC (rst l x k).snd) (cellsOf' encC (rst l x j).snd)) ∧ True) ∧ true = true) ∧ true = true ∧ () = ()))) ∧ ((!Op.bytesLess (List.getD l (Int.toNat (↑k : Int)) (@default Con instInhabitedCon)).name.data.toList x.name.data.toList) = false → (true && decide ((↑k : Int) < (↑(List.length l) : Int))) = true ∧ ((!(List.getD l (Int.toNat (↑k : Int)) (@default Con instInhabitedCon)).name.data.toList == x.name.data.toList) = true → (true && decide ((↑k : Int) < (↑(List.length l) : Int))) = true ∧ (decide (List.length (rst l x k).snd = List.length (rst l x k).snd) && decide (List.length (rst l x k).snd + (1 : Nat) ≤ (9223372036854775807 : Nat)) && decide ((List.length (rst l x k).snd + (1 : Nat)) * (24 : Nat) ≤ (140737488355328 : Nat))) = true ∧ ∃ (j : Nat), List.length l - j < List.length l - k ∧ (((b = b ∧ List.length l = List.length l ∧ contLe (List.length l) (2 : Nat) (cellsOf' encC l) (cellsOf' encC l)) ∧ ((0 : Nat) = (0 : Nat) ∧ (0 : Nat) = (0 : Nat)) ∧ ((0 : Nat) = (0 : Nat) ∧ List.length (rst l x k).snd + (1 : Nat) = List.length (rst l x j).snd) ∧ (rst l x k).fst = (rst l x j).fst ∧ IntKind.wrap IntKind.i64 ((↑k : Int) + (1 : Int)) = (↑j : Int) ∧ True) ∧ ((x.name = x.name ∧ x.off = x.off ∧ True) ∧ (List.length (rst l x k).snd + (1 : Nat) = List.length (rst l x j).snd ∧ contLe (List.length (rst l x k).snd + (1 : Nat)) (2 : Nat) (appRow (List.length (rst l x k).snd) (cellsOf' encC (rst l x k).snd) fun (k_1 j : Nat) => Ax.get [AV.y (Value.string (List.getD l (Int.toNat (↑k : Int)) (@default Con instInhabitedCon)).name), AV.y (Value.int IntKind.u64 (List.getD l (Int.toNat (↑k : Int)) (@default Con instInhabitedCon)).off)] (k_1 * (2 : Nat) + j)) (cellsOf' encC (rst l x j).snd)) ∧ True) ∧ true = true) ∧ true = true ∧ () = ()) ∧ ((!(List.getD l (Int.toNat (↑k : Int)) (@default Con instInhabitedCon)).name.data.toList == x.name.data.toList) = false → ∃ (j : Nat), List.length l - j < List.length l - k ∧ (((b = b ∧ List.length l = List.length l ∧ contLe (List.length l) (2 : Nat) (cellsOf' encC l) (cellsOf' encC l)) ∧ ((0 : Nat) = (0 : Nat) ∧ (0 : Nat) = (0 : Nat)) ∧ ((0 : Nat) = (0 : Nat) ∧ List.length (rst l x k).snd = List.length (rst l x j).snd) ∧ (rst l x k).fst = (rst l x j).fst ∧ IntKind.wrap IntKind.i64 ((↑k : Int) + (1 : Int)) = (↑j : Int) ∧ True) ∧ ((x.name = x.name ∧ x.off = x.off ∧ True) ∧ (List.length (rst l x k).snd = List.length (rst l x j).snd ∧ contLe (List.length (rst l x k).snd) (2 : Nat) (cellsOf' encC (rst l x k).snd) (cellsOf' encC (rst l x j).snd)) ∧ True) ∧ true = true) ∧ true = true ∧ () = ()))) ∧ (decide ((↑k : Int) < (↑(List.length l) : Int)) = false → (((0 : Nat) = (0 : Nat) ∧ (0 : Nat) = (0 : Nat)) ∧ ((0 : Nat) = (0 : Nat) ∧ List.length (rst l x k).snd = List.length (rst l x (List.length l)).snd) ∧ (rst l x k).fst = (rst l x (List.length l)).fst ∧ True) ∧ ((x.name = x.name ∧ x.off = x.off ∧ True) ∧ (List.length (rst l x k).snd = List.length (rst l x (List.length l)).snd ∧ contLe (List.length (rst l x k).snd) (2 : Nat) (cellsOf' encC (rst l x k).snd) (cellsOf' encC (rst l x (List.length l)).snd)) ∧ True) ∧ true = true)
set_option maxRecDepth 1000000 in
theorem vcRpL_eq (b : Bool) (l : List Con) (x : Con) (k : Nat) : (loopVC Tryd.prog (hT _) 55 4 (fun k => l.length - k) (rpT b l x) (rpM l x) [1, 2, 3, 4, 5] (fun _ => .ret ()) (rpS l x) k) = vcRpL b l x k := by kernel_rfl
noncomputable def rpH (b : Bool) (l : List Con) (x : Con) : HintsT Tryd.prog :=
  hh _ (lp1 55 4 (jobOf (rpT b l x) (rpM l x) [1, 2, 3, 4, 5] (fun _ => .ret ()) (rpS l x) 0) noLp) noCs (op1 55 1 0 (.row 59 2) noOp)
def vcRp (b : Bool) (l : List Con) (x : Con) : Prop :=
  (((b = b ∧ List.length l = List.length l ∧ contLe (List.length l) (2 : Nat) (cellsOf' encC l) (cellsOf' encC l)) ∧ ((0 : Nat) = (0 : Nat) ∧ (0 : Nat) = (0 : Nat)) ∧ ((0 : Nat) = (0 : Nat) ∧ (0 : Nat) = (0 : Nat)) ∧ false = false ∧ (0 : Int) = (0 : Int) ∧ True) ∧ ((x.name = x.name ∧ x.off = x.off ∧ True) ∧ ((0 : Nat) = (0 : Nat) ∧ contLe (0 : Nat) (2 : Nat) (fun (x x_1 : Nat) => AV.junk) (cellsOf' encC [])) ∧ True) ∧ true = true) ∧ LoopOk Tryd.prog (55 : Nat) (4 : Nat) (loopAt Tryd.prog (55 : Nat) (4 : Nat)) { t := rpT b l x (0 : Nat), m := rpM l x (0 : Nat), mv := [] : St } (T.map (lout [(1 : Nat), (2 : Nat), (3 : Nat), (4 : Nat), (5 : Nat)] (rpS l x)) ((fun (x : Nat) => T.ret ()) (0 : Nat))) ∧ ((!(rst l x (List.length l)).fst) = true → (decide (List.length (rst l x (List.length l)).snd = List.length (rst l x (List.length l)).snd) && decide (List.length (rst l x (List.length l)).snd + (1 : Nat) ≤ (9223372036854775807 : Nat)) && decide ((List.length (rst l x (List.length l)).snd + (1 : Nat)) * (24 : Nat) ≤ (140737488355328 : Nat))) = true ∧ ((0 : Nat) = (0 : Nat) ∧ List.length (rst l x (List.length l)).snd + (1 : Nat) = List.length (rput l x)) ∧ (List.length (rst l x (List.length l)).snd + (1 : Nat) = List.length (rput l x) ∧ contLe (List.length (rst l x (List.length l)).snd + (1 : Nat)) (2 : Nat) (appRow (List.length (rst l x (List.length l)).snd) (cellsOf' encC (rst l x (List.length l)).snd) fun (k j : Nat) => Ax.get [AV.y (Value.string x.name), AV.y (Value.int IntKind.u64 x.off)] (k * (2 : Nat) + j)) (cellsOf' encC (rput l x))) ∧ True) ∧ ((!(rst l x (List.length l)).fst) = false → ((0 : Nat) = (0 : Nat) ∧ List.length (rst l x (List.length l)).snd = List.length (rput l x)) ∧ (List.length (rst l x (List.length l)).snd = List.length (rput l x) ∧ contLe (List.length (rst l x (List.length l)).snd) (2 : Nat) (cellsOf' encC (rst l x (List.length l)).snd) (cellsOf' encC (rput l x))) ∧ True)
set_option maxRecDepth 1000000 in
theorem vcRp_eq (b : Bool) (l : List Con) (x : Con) : (ctrVC Tryd.prog (rpH b l x) 55 [encCs b l, .agg (encC x)] [] (conR (rput l x))) = vcRp b l x := by kernel_rfl
/-! alike -/
def scT (b1 b2 : Bool) (a : List Con) (k : Nat) : List AV := mkT 26 [(0, encCs b1 a), (1, encCs b2 a), (5, .y (.int .i64 k))]
def scS (_ : Unit) : Exit × List AV × List Blk := (.exit 0, mkT 26 [], [])
def vcScL (b1 : Bool) (b2 : Bool) (a : List Con) (k : Nat) : Prop :=
  (decide ((↑k : Int) < (↑(List.length a) : Int)) = true → (true && decide ((↑k : Int) < (↑(List.length a) : Int))) = true ∧ (true && decide ((↑k : Int) < (↑(List.length a) : Int))) = true ∧ ((!((List.getD a (Int.toNat (↑k : Int)) (@default Con instInhabitedCon)).name.data.toList == (List.getD a (Int.toNat (↑k : Int)) (@default Con instInhabitedCon)).name.data.toList && ((List.getD a (Int.toNat (↑k : Int)) (@default Con instInhabitedCon)).off == (List.getD a (Int.toNat (↑k : Int)) (@default Con instInhabitedCon)).off && true))) = true → False) ∧ ((!((List.getD a (Int.toNat (↑k : Int)) (@default Con instInhabitedCon)).name.data.toList == (List.getD a (Int.toNat (↑k : Int)) (@default Con instInhabitedCon)).name.data.toList && ((List.getD a (Int.toNat (↑k : Int)) (@default Con instInhabitedCon)).off == (List.getD a (Int.toNat (↑k : Int)) (@default Con instInhabitedCon)).off && true))) = false → ∃ (j : Nat), List.length a - j < List.length a - k ∧ (((b1 = b1 ∧ List.length a = List.length a ∧ contLe (List.length a) (2 : Nat) (cellsOf' encC a) (cellsOf' encC a)) ∧ (b2 = b2 ∧ List.length a = List.length a ∧ contLe (List.length a) (2 : Nat) (cellsOf' encC a) (cellsOf' encC a)) ∧ IntKind.wrap IntKind.i64 ((↑k : Int) + (1 : Int)) = (↑j : Int) ∧ True) ∧ True ∧ true = true) ∧ true = true ∧ () = ())) ∧ (decide ((↑k : Int) < (↑(List.length a) : Int)) = false → True ∧ True ∧ true = true)
set_option maxRecDepth 1000000 in
theorem vcScL_eq (b1 : Bool) (b2 : Bool) (a : List Con) (k : Nat) : (loopVC Tryd.prog (hT _) 34 4 (fun k => a.length - k) (scT b1 b2 a) (fun _ => []) [0] (fun _ => .ret ()) scS k) = vcScL b1 b2 a k := by kernel_rfl
noncomputable def scH (b1 b2 : Bool) (a : List Con) : HintsT Tryd.prog := hh _ (lp1 34 4 (jobOf (scT b1 b2 a) (fun _ => []) [0] (fun _ => .ret ()) scS 0) noLp) noCs noOp
def vcSc (b1 : Bool) (b2 : Bool) (a : List Con) : Prop :=
  (((↑(List.length a) : Int) != (↑(List.length a) : Int)) = true → false = true ∧ True) ∧ (((↑(List.length a) : Int) != (↑(List.length a) : Int)) = false → (((b1 = b1 ∧ List.length a = List.length a ∧ contLe (List.length a) (2 : Nat) (cellsOf' encC a) (cellsOf' encC a)) ∧ (b2 = b2 ∧ List.length a = List.length a ∧ contLe (List.length a) (2 : Nat) (cellsOf' encC a) (cellsOf' encC a)) ∧ (0 : Int) = (0 : Int) ∧ True) ∧ True ∧ true = true) ∧ LoopOk Tryd.prog (34 : Nat) (4 : Nat) (loopAt Tryd.prog (34 : Nat) (4 : Nat)) { t := scT b1 b2 a (0 : Nat), m := [], mv := [] : St } (T.map (lout [(0 : Nat)] scS) ((fun (x : Nat) => T.ret ()) (0 : Nat))) ∧ true = true ∧ True)
set_option maxRecDepth 1000000 in
theorem vcSc_eq (b1 : Bool) (b2 : Bool) (a : List Con) : (ctrVC Tryd.prog (scH b1 b2 a) 34 [encCs b1 a, encCs b2 a] [] (boolR true)) = vcSc b1 b2 a := by kernel_rfl
end Go.Proofs.YtjmdejbijigfjaaDoor

/-! Records: put, the program's and the document's: the contracts; the same on rising names. -/
namespace Go.Proofs.YtjmdejbijigfjaaDoor
open Go.Ax
set_option maxRecDepth 1000000
theorem enc_le (x : Con) : ∀ j, j < 2 → le0 (Ax.get [.y (.string x.name), .y (.int .u64 x.off)] j) (Ax.get (encC x) j) := fun j hj => by
  match j, hj with
  | 0, _ => simp [encC]
  | 1, _ => simp [encC]
theorem put_c (b : Bool) (l : List Con) (x : Con) (hl : l.length * 24 ≤ 140737488355200) (hr : risC l) : (conR (putL l x)).Sat (ACall' Tryd.prog 53 [encCs b l, .agg (encC x), fnB] []) := by
  refine ctr_vc (ht := putH b l x hl hr) Tryd.mixed rfl ?_
  rw [vcPut_eq b l x hl hr]
  unfold vcPut
  have h2 := belC_le l x.name
  cases hf : bsF l x
  · have e : putL l x = l.take (belC l x.name) ++ x :: l.drop (belC l x.name) := by unfold putL; rw [hf]; rfl
    have hn : (putL l x).length = l.length + 1 := by rw [e]; simp; omega
    simp [hn]
    refine ⟨⟨h2, by omega, by omega⟩, ?_⟩
    rw [e]
    exact ins_le rfl h2 fun j hj => by rw [Nat.zero_mul, Nat.zero_add]; exact enc_le x j hj
  · have e : putL l x = l.set (belC l x.name) x := by unfold putL; rw [hf]; rfl
    have hn : (putL l x).length = l.length := by rw [e]; simp
    have h3 : belC l x.name < l.length := by
      unfold bsF at hf
      rw [Bool.and_eq_true] at hf
      exact of_decide_eq_true hf.1
    simp [hn, h3]
    rw [e]
    exact wr_le rfl h3 rfl (enc_le x)
noncomputable def putC (b : Bool) (l : List Con) (x : Con) : Ctr Tryd.prog := ⟨53, [encCs b l, .agg (encC x), fnB], [], .need (l.length * 24 ≤ 140737488355200 ∧ risC l) (conR (putL l x)), T.Sat.need fun h => put_c b l x h.1 h.2⟩
/-! alike -/
theorem sc_loop (b1 b2 : Bool) (a : List Con) (hl : a.length ≤ 9223372036854775806) (k : Nat) : LoopOk Tryd.prog 34 4 (loopAt Tryd.prog 34 4) ⟨scT b1 b2 a k, [], []⟩ (T.map (lout [0] scS) (.ret ())) := by
  refine loop_vc (o := fun _ => .ret ()) Tryd.mixed (fun _ => rfl) (fun k => (vcScL_eq b1 b2 a k).mpr ?_) k
  unfold vcScL
  simp
  intro h
  exact ⟨h, k + 1, by omega, by rw [wrap_i64 (by omega) (by omega)]; omega⟩
theorem sc_c (b1 b2 : Bool) (a : List Con) (hl : a.length ≤ 9223372036854775806) : (boolR true).Sat (ACall' Tryd.prog 34 [encCs b1 a, encCs b2 a] []) := by
  refine ctr_vc (ht := scH b1 b2 a) Tryd.mixed rfl ?_
  rw [vcSc_eq b1 b2 a]
  unfold vcSc
  simp [sc_loop b1 b2 a hl 0]
noncomputable def scC (b1 b2 : Bool) (a b : List Con) : Ctr Tryd.prog := ⟨34, [encCs b1 a, encCs b2 b], [], .need (a.length ≤ 9223372036854775806 ∧ a = b) (boolR true), T.Sat.need fun h => by obtain ⟨h1, rfl⟩ := h; exact sc_c b1 b2 a h1⟩
/-! the document's put -/
theorem rst_step {l : List Con} {x : Con} {k : Nat} (h : k < l.length) : rst l x (k + 1) = stp x (rst l x k) (l[k]?.getD default) := by
  unfold rst
  have : l.take (k + 1) = l.take k ++ [l[k]?.getD default] := by
    rw [List.take_add_one, List.getElem?_eq_getElem h]; rfl
  rw [this, List.foldl_append]; rfl
theorem rst_end {l : List Con} {x : Con} {k : Nat} (h : l.length ≤ k) : rst l x k = rst l x l.length := by
  unfold rst
  rw [List.take_of_length_le h, List.take_length]
theorem rst_len (l : List Con) (x : Con) : ∀ k, (rst l x k).2.length ≤ k + (if (rst l x k).1 then 1 else 0) := by
  intro k
  induction k with
  | zero => simp [rst]
  | succ k ih =>
    rcases Nat.lt_or_ge k l.length with h | h
    · rw [rst_step h]
      rcases hs : rst l x k with ⟨d, o⟩
      rw [hs] at ih
      generalize l[k]?.getD default = y
      cases h1 : lt y.name x.name <;> cases d <;> by_cases h2 : y.name.data = x.name.data <;> simp [stp, h1, h2] at ih ⊢ <;> omega
    · rw [rst_end (k := k + 1) (by omega), ← rst_end h]
      omega
theorem rp_loop (b : Bool) (l : List Con) (x : Con) (hl : l.length * 24 ≤ 140737488355200) (k : Nat) (hk : k ≤ l.length) : LoopOk Tryd.prog 55 4 (loopAt Tryd.prog 55 4) ⟨rpT b l x k, rpM l x k, []⟩ (T.map (lout [1, 2, 3, 4, 5] (rpS l x)) (.ret ())) := by
  refine loop_vc (o := fun _ => .ret ()) Tryd.mixed (fun _ => rfl) (fun k => (vcRpL_eq b l x k).mpr ?_) k
  unfold vcRpL
  have hlen := rst_len l x k
  simp
  refine ⟨fun h => ?_, fun h => ?_⟩
  · have hst := rst_step (x := x) h
    have hw := wrap_i64 (n := (k : Int) + 1) (by omega) (by omega)
    rw [hw]
    rcases hs : rst l x k with ⟨d, o⟩
    rw [hs] at hlen hst
    generalize l[k]?.getD default = y at *
    have hne : Op.bytesLess y.name.data.toList x.name.data.toList = true → ¬ y.name.data = x.name.data := fun e e2 => by rw [e2, less_irr] at e; exact absurd e (by simp)
    cases h1 : Op.bytesLess y.name.data.toList x.name.data.toList <;> cases d <;> by_cases h2 : y.name.data = x.name.data <;> simp [stp, lt, h1, h2, less_irr] at hst <;> simp [h, h2] <;> simp at hlen
    all_goals repeat' first | apply And.intro | refine Exists.intro (k + 1) ?_ | with_reducible intro _
    all_goals try rw [hst]
    all_goals first
      | omega
      | (simp; done)
      | exact absurd h2 (hne h1)
      | exact contLe_refl _ _ _
      | exact app_le (contLe_refl _ _ _) rfl (enc_le _)
      | (show contLe _ _ _ (cellsOf' encC (o ++ [x, y])); rw [show o ++ [x, y] = o ++ [x] ++ [y] by simp]; exact app_le (app_le (contLe_refl _ _ _) rfl (enc_le _)) (by simp) (enc_le _))
  · rw [rst_end h]; simp
theorem rput_c (b : Bool) (l : List Con) (x : Con) (hl : l.length * 24 ≤ 140737488355200) : (conR (rput l x)).Sat (ACall' Tryd.prog 55 [encCs b l, .agg (encC x)] []) := by
  refine ctr_vc (ht := rpH b l x) Tryd.mixed rfl ?_
  rw [vcRp_eq b l x]
  unfold vcRp
  have hL := rp_loop b l x hl 0 (Nat.zero_le _)
  have hlen := rst_len l x l.length
  rcases hs : rst l x l.length with ⟨d, o⟩
  rw [hs] at hlen
  cases d <;> simp [rput, hs, hL] at hlen ⊢
  all_goals exact ⟨⟨by omega, by omega⟩, app_le (contLe_refl _ _ _) rfl (enc_le x)⟩
/-! they are the same -/
theorem putL_cons (y : Con) (t : List Con) (x : Con) : putL (y :: t) x = if lt y.name x.name then y :: putL t x else if y.name.data = x.name.data then x :: t else x :: y :: t := by
  cases h : lt y.name x.name
  · have hb : belC (y :: t) x.name = 0 := by unfold belC; rw [List.takeWhile_cons_of_neg (by simp [h])]; rfl
    by_cases h2 : y.name.data = x.name.data
    · have hc : cmpV y.name x.name = 0 := by
        unfold cmpV lt
        rw [h2, less_irr]; rfl
      simp [putL, bsF, hb, h2, hc]
    · have hc : ¬ cmpV y.name x.name = 0 := by
        unfold cmpV
        rw [h]
        cases h3 : lt x.name y.name
        · exact absurd (Array.toList_inj.1 (less_total _ _ h h3)) h2
        · simp
      simp [putL, bsF, hb, h2, hc]
  · have hb : belC (y :: t) x.name = belC t x.name + 1 := by unfold belC; rw [List.takeWhile_cons_of_pos (by simp [h])]; rfl
    have hf : bsF (y :: t) x = bsF t x := by
      unfold bsF
      rw [hb]; simp
    unfold putL
    rw [hf, hb]
    cases bsF t x <;> simp
def oth (l : List Con) (x : Con) : List Con := l.filter fun y => decide (¬ y.name.data = x.name.data)
theorem oth_cons (y : Con) (t : List Con) (x : Con) : oth (y :: t) x = if y.name.data = x.name.data then oth t x else y :: oth t x := by
  unfold oth
  by_cases h : y.name.data = x.name.data <;> simp [h]
theorem fold_done (x : Con) : ∀ (l o : List Con), l.foldl (stp x) (true, o) = (true, o ++ oth l x) := by
  intro l
  induction l with
  | nil => intro o; simp [oth]
  | cons y t ih =>
    intro o
    by_cases h : y.name.data = x.name.data
    · simp [stp, h, ih, oth_cons]
    · simp [stp, h, ih, oth_cons]
theorem oth_self {x y : Con} {t : List Con} (h : lt y.name x.name = false) (ht : ∀ z ∈ t, lt y.name z.name = true) : oth t x = t := by
  unfold oth
  rw [List.filter_eq_self]
  intro z hz
  have := ht z hz
  simp only [decide_not, Bool.not_eq_true', decide_eq_false_iff_not]
  intro e
  have e2 : lt y.name x.name = true := by unfold lt at this ⊢; rw [← e]; exact this
  rw [h] at e2; exact absurd e2 (by simp)
theorem fold_put (x : Con) : ∀ (l o : List Con), l.Pairwise (fun a b => lt a.name b.name = true) → (if (l.foldl (stp x) (false, o)).1 then (l.foldl (stp x) (false, o)).2 else (l.foldl (stp x) (false, o)).2 ++ [x]) = o ++ putL l x := by
  intro l
  induction l with
  | nil => intro o _; simp [putL, bsF, belC]
  | cons y t ih =>
    intro o hp
    rw [List.pairwise_cons] at hp
    rw [putL_cons]
    cases h : lt y.name x.name
    · have h3 := oth_self h hp.1
      by_cases h2 : y.name.data = x.name.data
      · simp [stp, h, h2, fold_done, h3]
      · simp [stp, h, h2, fold_done, h3]
    · have h2 : ¬ y.name.data = x.name.data := fun e => by unfold lt at h; rw [e, less_irr] at h; exact absurd h (by simp)
      have := ih (o ++ [y]) hp.2
      simp only [List.foldl_cons, stp, h, h2, Bool.not_true, Bool.false_and, Bool.false_eq_true, if_false, if_true]
      rw [this]; simp
theorem risC_pw (r : List Con) : risC r ↔ r.Pairwise (fun a b => lt a.name b.name = true) := by
  rw [List.pairwise_iff_getElem]
  constructor
  · intro h i j hi hj hij
    have := h i j hij hj
    simpa [hi, hj] using this
  · intro h i j hij hj
    have := h i j (by omega) hj hij
    simpa [show i < r.length by omega, hj] using this
theorem rput_putL {l : List Con} {x : Con} (h : risC l) : rput l x = putL l x := by
  have := fold_put x l [] ((risC_pw l).1 h)
  simpa [rput, rst] using this
theorem put_mem {x : Con} {P : Con → Prop} (hx : P x) : ∀ (l : List Con), (∀ z ∈ l, P z) → ∀ z ∈ putL l x, P z
  | [], _, z, hz => by
    simp [putL, bsF, belC] at hz
    rw [hz]; exact hx
  | y :: t, h, z, hz => by
    rw [putL_cons] at hz
    have h1 := h y List.mem_cons_self
    have h2 := fun z hz => h z (List.mem_cons_of_mem y hz)
    have ih := put_mem hx t h2 z
    split at hz
    · rcases List.mem_cons.1 hz with rfl | hz
      · exact h1
      · exact ih hz
    · split at hz
      · rcases List.mem_cons.1 hz with rfl | hz
        · exact hx
        · exact h2 z hz
      · rcases List.mem_cons.1 hz with rfl | hz
        · exact hx
        · rcases List.mem_cons.1 hz with rfl | hz
          · exact h1
          · exact h2 z hz
theorem put_pw (x : Con) : ∀ (l : List Con), l.Pairwise (fun a b => lt a.name b.name = true) → (putL l x).Pairwise (fun a b => lt a.name b.name = true)
  | [], _ => by simp [putL, bsF, belC]
  | y :: t, h => by
    rw [List.pairwise_cons] at h
    rw [putL_cons]
    cases h1 : lt y.name x.name
    · by_cases h2 : y.name.data = x.name.data
      · simp only [Bool.false_eq_true, if_false, h2, if_true]
        refine List.pairwise_cons.2 ⟨fun z hz => ?_, h.2⟩
        have := h.1 z hz
        unfold lt at this ⊢
        rw [← h2]; exact this
      · simp only [Bool.false_eq_true, if_false, h2]
        have h3 : lt x.name y.name = true := by
          cases h3 : lt x.name y.name
          · exact absurd (Array.toList_inj.1 (less_total _ _ h1 h3)) h2
          · rfl
        refine List.pairwise_cons.2 ⟨fun z hz => ?_, List.pairwise_cons.2 ⟨h.1, h.2⟩⟩
        rcases List.mem_cons.1 hz with rfl | hz
        · exact h3
        · exact lt_trans' h3 (h.1 z hz)
    · simp only [if_true]
      exact List.pairwise_cons.2 ⟨put_mem (P := fun z => lt y.name z.name = true) h1 t h.1, put_pw x t h.2⟩
theorem put_ris {l : List Con} {x : Con} (h : risC l) : risC (putL l x) := (risC_pw _).2 (put_pw x l ((risC_pw l).1 h))
theorem put_len (l : List Con) (x : Con) : (putL l x).length ≤ l.length + 1 := by
  have := belC_le l x.name
  unfold putL
  split <;> simp <;> omega
noncomputable def rputC (b : Bool) (l : List Con) (x : Con) : Ctr Tryd.prog := ⟨55, [encCs b l, .agg (encC x)], [], .need (l.length * 24 ≤ 140737488355200 ∧ risC l) (conR (putL l x)), T.Sat.need fun h => by
  have := rput_c b l x h.1
  rw [rput_putL h.2] at this
  exact this⟩
end Go.Proofs.YtjmdejbijigfjaaDoor

/-! Records: Map: the conditions. -/
namespace Go.Proofs.YtjmdejbijigfjaaDoor
open Go.Ax
set_option maxRecDepth 1000000
def movC (to : List Int) (x : Con) : Con := ⟨x.name, elemO to x.off⟩
def mapU (l : List Con) (to : List Int) (k : Nat) : List Con := if to.length = 0 then [] else (l.take k).map (movC to)
def fnO (b : Bool) (to : List Int) : AV := .fn (.func 58) [encUs b to] []
def mpT (b1 b2 : Bool) (l : List Con) (to : List Int) (k : Nat) : List AV := mkT 32 [(5, fnO b2 to), (6, .own 0 2 0 (mapU l to k).length), (14, encCs b1 l), (15, .y (.int .i64 l.length)), (16, .y (.int .i64 k))]
def mpM (l : List Con) (to : List Int) (k : Nat) : List Blk := [rowC (mapU l to k)]
def mpS (l : List Con) (to : List Int) (_ : Unit) : Exit × List AV × List Blk := (.exit 0, mkT 32 [(6, .own 0 2 0 (mapU l to l.length).length)], mpM l to l.length)
noncomputable def mpHL (b2 : Bool) (l : List Con) (to : List Int) (k : Nat) : HintsT Tryd.prog := hh _ noLp (cs1 37 8 6 (ofC b2 to (l.getD k default).off) noCs) noOp
def vcMpL (b1 : Bool) (b2 : Bool) (l : List Con) (to : List Int) (k : Nat) : Prop :=
  (decide ((↑k : Int) < (↑(List.length l) : Int)) = true → (true && decide ((↑k : Int) < (↑(List.length l) : Int))) = true ∧ ((b2 = b2 ∧ List.length to = List.length to ∧ contLe (List.length to) (1 : Nat) (cellsOf' encU to) (cellsOf' encU to)) ∧ (List.getD l (Int.toNat (↑k : Int)) (@default Con instInhabitedCon)).off = (List.getD l k (@default Con instInhabitedCon)).off ∧ True) ∧ True ∧ ((0 : Nat) < List.length to ∧ List.length to ≤ (9223372036854775806 : Nat) ∧ (0 : Int) ≤ (List.getD l k (@default Con instInhabitedCon)).off ∧ (List.getD l k (@default Con instInhabitedCon)).off < (18446744073709551616 : Int)) ∧ (decide (List.length (mapU l to k) = List.length (mapU l to k)) && decide (List.length (mapU l to k) + (1 : Nat) ≤ (9223372036854775807 : Nat)) && decide ((List.length (mapU l to k) + (1 : Nat)) * (24 : Nat) ≤ (140737488355328 : Nat))) = true ∧ ∃ (j : Nat), List.length l - j < List.length l - k ∧ (((((b2 = b2 ∧ List.length to = List.length to ∧ contLe (List.length to) (1 : Nat) (cellsOf' encU to) (cellsOf' encU to)) ∧ True) ∧ True) ∧ ((0 : Nat) = (0 : Nat) ∧ List.length (mapU l to k) + (1 : Nat) = List.length (mapU l to j)) ∧ (b1 = b1 ∧ List.length l = List.length l ∧ contLe (List.length l) (2 : Nat) (cellsOf' encC l) (cellsOf' encC l)) ∧ (↑(List.length l) : Int) = (↑(List.length l) : Int) ∧ IntKind.wrap IntKind.i64 ((↑k : Int) + (1 : Int)) = (↑j : Int) ∧ True) ∧ ((List.length (mapU l to k) + (1 : Nat) = List.length (mapU l to j) ∧ contLe (List.length (mapU l to k) + (1 : Nat)) (2 : Nat) (appRow (List.length (mapU l to k)) (cellsOf' encC (mapU l to k)) fun (k_1 j : Nat) => Ax.get [AV.y (Value.string (List.getD l (Int.toNat (↑k : Int)) (@default Con instInhabitedCon)).name), AV.y (Value.int IntKind.u64 (elemO to (List.getD l k (@default Con instInhabitedCon)).off))] (k_1 * (2 : Nat) + j)) (cellsOf' encC (mapU l to j))) ∧ True) ∧ true = true) ∧ true = true ∧ () = ()) ∧ (decide ((↑k : Int) < (↑(List.length l) : Int)) = false → (((0 : Nat) = (0 : Nat) ∧ List.length (mapU l to k) = List.length (mapU l to (List.length l))) ∧ True) ∧ ((List.length (mapU l to k) = List.length (mapU l to (List.length l)) ∧ contLe (List.length (mapU l to k)) (2 : Nat) (cellsOf' encC (mapU l to k)) (cellsOf' encC (mapU l to (List.length l)))) ∧ True) ∧ true = true)
set_option maxRecDepth 1000000 in
theorem vcMpL_eq (b1 : Bool) (b2 : Bool) (l : List Con) (to : List Int) (k : Nat) : (loopVC Tryd.prog (mpHL b2 l to k) 37 6 (fun k => l.length - k) (mpT b1 b2 l to) (mpM l to) [0, 1, 2, 3, 4, 5] (fun _ => .ret ()) (mpS l to) k) = vcMpL b1 b2 l to k := by kernel_rfl
noncomputable def mpH (b1 b2 : Bool) (l : List Con) (to : List Int) : HintsT Tryd.prog :=
  hh _ (lp1 37 6 (jobOf (mpT b1 b2 l to) (mpM l to) [0, 1, 2, 3, 4, 5] (fun _ => .ret ()) (mpS l to) 0) noLp) noCs (op1 37 4 0 (.row 59 2) (op1 37 2 0 (.row 59 2) noOp))
def vcMp (b1 : Bool) (b2 : Bool) (l : List Con) (to : List Int) : Prop :=
  (((↑(List.length to) : Int) == (0 : Int)) = true → ((0 : Nat) = (0 : Nat) ∧ (0 : Nat) = List.length (mapU l to (List.length l))) ∧ ((0 : Nat) = List.length (mapU l to (List.length l)) ∧ contLe (0 : Nat) (2 : Nat) (fun (x x_1 : Nat) => AV.junk) (cellsOf' encC (mapU l to (List.length l)))) ∧ True) ∧ (((↑(List.length to) : Int) == (0 : Int)) = false → (((((b2 = b2 ∧ List.length to = List.length to ∧ contLe (List.length to) (1 : Nat) (cellsOf' encU to) (cellsOf' encU to)) ∧ True) ∧ True) ∧ ((0 : Nat) = (0 : Nat) ∧ (0 : Nat) = List.length (mapU l to (0 : Nat))) ∧ (b1 = b1 ∧ List.length l = List.length l ∧ contLe (List.length l) (2 : Nat) (cellsOf' encC l) (cellsOf' encC l)) ∧ (↑(List.length l) : Int) = (↑(List.length l) : Int) ∧ (0 : Int) = (0 : Int) ∧ True) ∧ (((0 : Nat) = List.length (mapU l to (0 : Nat)) ∧ contLe (0 : Nat) (2 : Nat) (fun (x x_1 : Nat) => AV.junk) (cellsOf' encC (mapU l to (0 : Nat)))) ∧ True) ∧ true = true) ∧ LoopOk Tryd.prog (37 : Nat) (6 : Nat) (loopAt Tryd.prog (37 : Nat) (6 : Nat)) { t := mpT b1 b2 l to (0 : Nat), m := mpM l to (0 : Nat), mv := [] : St } (T.map (lout [(0 : Nat), (1 : Nat), (2 : Nat), (3 : Nat), (4 : Nat), (5 : Nat)] (mpS l to)) ((fun (x : Nat) => T.ret ()) (0 : Nat))) ∧ ((0 : Nat) = (0 : Nat) ∧ List.length (mapU l to (List.length l)) = List.length (mapU l to (List.length l))) ∧ (List.length (mapU l to (List.length l)) = List.length (mapU l to (List.length l)) ∧ contLe (List.length (mapU l to (List.length l))) (2 : Nat) (cellsOf' encC (mapU l to (List.length l))) (cellsOf' encC (mapU l to (List.length l)))) ∧ True)
set_option maxRecDepth 1000000 in
theorem vcMp_eq (b1 : Bool) (b2 : Bool) (l : List Con) (to : List Int) : (ctrVC Tryd.prog (mpH b1 b2 l to) 37 [encCs b1 l, encUs b2 to] [] (conR (mapU l to l.length))) = vcMp b1 b2 l to := by kernel_rfl
def mrT (b1 b2 : Bool) (l : List Con) (to : List Int) (k : Nat) : List AV := mkT 35 [(0, encCs b1 l), (1, encUs b2 to), (5, .own 0 2 0 (mapU l to k).length), (6, .y (.int .i64 k))]
def mrS (l : List Con) (to : List Int) (_ : Unit) : Exit × List AV × List Blk := (.exit 0, mkT 35 [(5, .own 0 2 0 (mapU l to l.length).length)], mpM l to l.length)
noncomputable def mrHL (b2 : Bool) (l : List Con) (to : List Int) (k : Nat) : HintsT Tryd.prog := hh _ noLp (cs1 38 5 12 (elC b2 to (l.getD k default).off) noCs) noOp
def vcMrL (b1 : Bool) (b2 : Bool) (l : List Con) (to : List Int) (k : Nat) : Prop :=
  (decide ((↑k : Int) < (↑(List.length l) : Int)) = true → (decide ((0 : Int) < (↑(List.length to) : Int)) = true → (true && decide ((↑k : Int) < (↑(List.length l) : Int))) = true ∧ (true && decide ((↑k : Int) < (↑(List.length l) : Int))) = true ∧ ((b2 = b2 ∧ List.length to = List.length to ∧ contLe (List.length to) (1 : Nat) (cellsOf' encU to) (cellsOf' encU to)) ∧ (List.getD l (Int.toNat (↑k : Int)) (@default Con instInhabitedCon)).off = (List.getD l k (@default Con instInhabitedCon)).off ∧ True) ∧ True ∧ ((0 : Nat) < List.length to ∧ List.length to ≤ (9223372036854775806 : Nat) ∧ (0 : Int) ≤ (List.getD l k (@default Con instInhabitedCon)).off ∧ (List.getD l k (@default Con instInhabitedCon)).off < (18446744073709551616 : Int)) ∧ (decide (List.length (mapU l to k) = List.length (mapU l to k)) && decide (List.length (mapU l to k) + (1 : Nat) ≤ (9223372036854775807 : Nat)) && decide ((List.length (mapU l to k) + (1 : Nat)) * (24 : Nat) ≤ (140737488355328 : Nat))) = true ∧ ∃ (j : Nat), List.length l - j < List.length l - k ∧ (((b1 = b1 ∧ List.length l = List.length l ∧ contLe (List.length l) (2 : Nat) (cellsOf' encC l) (cellsOf' encC l)) ∧ (b2 = b2 ∧ List.length to = List.length to ∧ contLe (List.length to) (1 : Nat) (cellsOf' encU to) (cellsOf' encU to)) ∧ ((0 : Nat) = (0 : Nat) ∧ List.length (mapU l to k) + (1 : Nat) = List.length (mapU l to j)) ∧ IntKind.wrap IntKind.i64 ((↑k : Int) + (1 : Int)) = (↑j : Int) ∧ True) ∧ ((List.length (mapU l to k) + (1 : Nat) = List.length (mapU l to j) ∧ contLe (List.length (mapU l to k) + (1 : Nat)) (2 : Nat) (appRow (List.length (mapU l to k)) (cellsOf' encC (mapU l to k)) fun (k_1 j : Nat) => Ax.get [AV.y (Value.string (List.getD l (Int.toNat (↑k : Int)) (@default Con instInhabitedCon)).name), AV.y (Value.int IntKind.u64 (elemO to (List.getD l k (@default Con instInhabitedCon)).off))] (k_1 * (2 : Nat) + j)) (cellsOf' encC (mapU l to j))) ∧ True) ∧ true = true) ∧ true = true ∧ () = ()) ∧ (decide ((0 : Int) < (↑(List.length to) : Int)) = false → (((0 : Nat) = (0 : Nat) ∧ List.length (mapU l to k) = List.length (mapU l to (List.length l))) ∧ True) ∧ ((List.length (mapU l to k) = List.length (mapU l to (List.length l)) ∧ contLe (List.length (mapU l to k)) (2 : Nat) (cellsOf' encC (mapU l to k)) (cellsOf' encC (mapU l to (List.length l)))) ∧ True) ∧ true = true)) ∧ (decide ((↑k : Int) < (↑(List.length l) : Int)) = false → (((0 : Nat) = (0 : Nat) ∧ List.length (mapU l to k) = List.length (mapU l to (List.length l))) ∧ True) ∧ ((List.length (mapU l to k) = List.length (mapU l to (List.length l)) ∧ contLe (List.length (mapU l to k)) (2 : Nat) (cellsOf' encC (mapU l to k)) (cellsOf' encC (mapU l to (List.length l)))) ∧ True) ∧ true = true)
set_option maxRecDepth 1000000 in
theorem vcMrL_eq (b1 : Bool) (b2 : Bool) (l : List Con) (to : List Int) (k : Nat) : (loopVC Tryd.prog (mrHL b2 l to k) 38 3 (fun k => l.length - k) (mrT b1 b2 l to) (mpM l to) [0, 1, 2, 3, 4, 5] (fun _ => .ret ()) (mrS l to) k) = vcMrL b1 b2 l to k := by kernel_rfl
noncomputable def mrH (b1 b2 : Bool) (l : List Con) (to : List Int) : HintsT Tryd.prog :=
  hh _ (lp1 38 3 (jobOf (mrT b1 b2 l to) (mpM l to) [0, 1, 2, 3, 4, 5] (fun _ => .ret ()) (mrS l to) 0) noLp) noCs (op1 38 1 0 (.row 59 2) noOp)
def vcMr (b1 : Bool) (b2 : Bool) (l : List Con) (to : List Int) : Prop :=
  (((b1 = b1 ∧ List.length l = List.length l ∧ contLe (List.length l) (2 : Nat) (cellsOf' encC l) (cellsOf' encC l)) ∧ (b2 = b2 ∧ List.length to = List.length to ∧ contLe (List.length to) (1 : Nat) (cellsOf' encU to) (cellsOf' encU to)) ∧ ((0 : Nat) = (0 : Nat) ∧ (0 : Nat) = List.length (mapU l to (0 : Nat))) ∧ (0 : Int) = (0 : Int) ∧ True) ∧ (((0 : Nat) = List.length (mapU l to (0 : Nat)) ∧ contLe (0 : Nat) (2 : Nat) (fun (x x_1 : Nat) => AV.junk) (cellsOf' encC (mapU l to (0 : Nat)))) ∧ True) ∧ true = true) ∧ LoopOk Tryd.prog (38 : Nat) (3 : Nat) (loopAt Tryd.prog (38 : Nat) (3 : Nat)) { t := mrT b1 b2 l to (0 : Nat), m := mpM l to (0 : Nat), mv := [] : St } (T.map (lout [(0 : Nat), (1 : Nat), (2 : Nat), (3 : Nat), (4 : Nat), (5 : Nat)] (mrS l to)) ((fun (x : Nat) => T.ret ()) (0 : Nat))) ∧ ((0 : Nat) = (0 : Nat) ∧ List.length (mapU l to (List.length l)) = List.length (mapU l to (List.length l))) ∧ (List.length (mapU l to (List.length l)) = List.length (mapU l to (List.length l)) ∧ contLe (List.length (mapU l to (List.length l))) (2 : Nat) (cellsOf' encC (mapU l to (List.length l))) (cellsOf' encC (mapU l to (List.length l)))) ∧ True
set_option maxRecDepth 1000000 in
theorem vcMr_eq (b1 : Bool) (b2 : Bool) (l : List Con) (to : List Int) : (ctrVC Tryd.prog (mrH b1 b2 l to) 38 [encCs b1 l, encUs b2 to] [] (conR (mapU l to l.length))) = vcMr b1 b2 l to := by kernel_rfl
/-! Concat of two -/
def catA (b1 b2 : Bool) (a b : List Con) : AV := .ys false 1 2 (fun k j => get [encCs b1 a, encCs b2 b] (k * 1 + j))
noncomputable def catH : HintsT Tryd.prog := withSh (hh _ noLp noCs noOp) (sh1 69 6 0 1 noSh)
def vcCat (b1 : Bool) (b2 : Bool) (a : List Con) (b : List Con) : Prop :=
  (true = true → true = true ∧ (decide (IntKind.wrap IntKind.i64 ((0 : Int) + (↑(List.length a) : Int)) < (0 : Int)) = true → False) ∧ (decide (IntKind.wrap IntKind.i64 ((0 : Int) + (↑(List.length a) : Int)) < (0 : Int)) = false → (true = true → true = true ∧ (decide (IntKind.wrap IntKind.i64 (IntKind.wrap IntKind.i64 ((0 : Int) + (↑(List.length a) : Int)) + (↑(List.length b) : Int)) < (0 : Int)) = true → False) ∧ (decide (IntKind.wrap IntKind.i64 (IntKind.wrap IntKind.i64 ((0 : Int) + (↑(List.length a) : Int)) + (↑(List.length b) : Int)) < (0 : Int)) = false → (false = true → false = true ∧ False) ∧ (false = false → (decide (IntKind.wrap IntKind.i64 (IntKind.wrap IntKind.i64 ((0 : Int) + (↑(List.length a) : Int)) + (↑(List.length b) : Int)) < (0 : Int)) = true → False) ∧ (decide (IntKind.wrap IntKind.i64 (IntKind.wrap IntKind.i64 ((0 : Int) + (↑(List.length a) : Int)) + (↑(List.length b) : Int)) < (0 : Int)) = false → (decide ((0 : Int) < IntKind.wrap IntKind.i64 (IntKind.wrap IntKind.i64 (IntKind.wrap IntKind.i64 ((0 : Int) + (↑(List.length a) : Int)) + (↑(List.length b) : Int)) - (0 : Int))) = true → (0 : Int) < IntKind.wrap IntKind.i64 (IntKind.wrap IntKind.i64 (IntKind.wrap IntKind.i64 ((0 : Int) + (↑(List.length a) : Int)) + (↑(List.length b) : Int)) - (0 : Int)) ∧ IntKind.wrap IntKind.i64 (IntKind.wrap IntKind.i64 (IntKind.wrap IntKind.i64 ((0 : Int) + (↑(List.length a) : Int)) + (↑(List.length b) : Int)) - (0 : Int)) ≤ (9223372036854775807 : Int) ∧ IntKind.wrap IntKind.i64 (IntKind.wrap IntKind.i64 (IntKind.wrap IntKind.i64 ((0 : Int) + (↑(List.length a) : Int)) + (↑(List.length b) : Int)) - (0 : Int)) * (24 : Int) ≤ (281474976710656 : Int) ∧ true = true ∧ (true = true → true = true ∧ (true && decide ((0 : Nat) + List.length a ≤ (9223372036854775807 : Nat)) && decide (((0 : Nat) + List.length a) * (24 : Nat) ≤ (140737488355328 : Nat))) = true ∧ (true = true → true = true ∧ (decide ((0 : Nat) + List.length a = (0 : Nat) + List.length a) && decide ((0 : Nat) + List.length a + List.length b ≤ (9223372036854775807 : Nat)) && decide (((0 : Nat) + List.length a + List.length b) * (24 : Nat) ≤ (140737488355328 : Nat))) = true ∧ (false = true → false = true ∧ False) ∧ (false = false → ((0 : Nat) = (0 : Nat) ∧ (0 : Nat) + List.length a + List.length b = List.length (a ++ b)) ∧ ((0 : Nat) + List.length a + List.length b = List.length (a ++ b) ∧ contLe ((0 : Nat) + List.length a + List.length b) (2 : Nat) (appRow ((0 : Nat) + List.length a) (appRow (0 : Nat) (fun (x j : Nat) => Ax.get [AV.s (Value.string { data := #[] : ByteArray }), AV.s (Value.int IntKind.u64 (0 : Int))] j) (cellsOf' encC a)) (cellsOf' encC b)) (cellsOf' encC (a ++ b))) ∧ True)) ∧ (true = false → ((0 : Nat) = (0 : Nat) ∧ (0 : Nat) + List.length a = List.length (a ++ b)) ∧ ((0 : Nat) + List.length a = List.length (a ++ b) ∧ contLe ((0 : Nat) + List.length a) (2 : Nat) (appRow (0 : Nat) (fun (x j : Nat) => Ax.get [AV.s (Value.string { data := #[] : ByteArray }), AV.s (Value.int IntKind.u64 (0 : Int))] j) (cellsOf' encC a)) (cellsOf' encC (a ++ b))) ∧ True)) ∧ (true = false → ((0 : Nat) = (0 : Nat) ∧ (0 : Nat) = List.length (a ++ b)) ∧ ((0 : Nat) = List.length (a ++ b) ∧ contLe (0 : Nat) (2 : Nat) (fun (x j : Nat) => Ax.get [AV.s (Value.string { data := #[] : ByteArray }), AV.s (Value.int IntKind.u64 (0 : Int))] j) (cellsOf' encC (a ++ b))) ∧ True)) ∧ (decide ((0 : Int) < IntKind.wrap IntKind.i64 (IntKind.wrap IntKind.i64 (IntKind.wrap IntKind.i64 ((0 : Int) + (↑(List.length a) : Int)) + (↑(List.length b) : Int)) - (0 : Int))) = false → (true = true → true = true ∧ (decide (List.length a ≤ (9223372036854775807 : Nat)) && decide (List.length a * (24 : Nat) ≤ (140737488355328 : Nat))) = true ∧ (true = true → true = true ∧ (decide ((0 : Nat) + List.length a = List.length a) && decide (List.length a + List.length b ≤ (9223372036854775807 : Nat)) && decide ((List.length a + List.length b) * (24 : Nat) ≤ (140737488355328 : Nat))) = true ∧ (false = true → false = true ∧ False) ∧ (false = false → ((0 : Nat) = (0 : Nat) ∧ List.length a + List.length b = List.length (a ++ b)) ∧ (List.length a + List.length b = List.length (a ++ b) ∧ contLe (List.length a + List.length b) (2 : Nat) (appRow (List.length a) (appRow (0 : Nat) (fun (k j : Nat) => AV.junk) (cellsOf' encC a)) (cellsOf' encC b)) (cellsOf' encC (a ++ b))) ∧ True)) ∧ (true = false → ((0 : Nat) = (0 : Nat) ∧ List.length a = List.length (a ++ b)) ∧ ((0 : Nat) + List.length a = List.length (a ++ b) ∧ contLe ((0 : Nat) + List.length a) (2 : Nat) (appRow (0 : Nat) (fun (k j : Nat) => AV.junk) (cellsOf' encC a)) (cellsOf' encC (a ++ b))) ∧ True)) ∧ (true = false → False ∧ False)))))) ∧ (true = false → (decide (IntKind.wrap IntKind.i64 ((0 : Int) + (↑(List.length a) : Int)) < (0 : Int)) = true → False) ∧ (decide (IntKind.wrap IntKind.i64 ((0 : Int) + (↑(List.length a) : Int)) < (0 : Int)) = false → (decide ((0 : Int) < IntKind.wrap IntKind.i64 (IntKind.wrap IntKind.i64 ((0 : Int) + (↑(List.length a) : Int)) - (0 : Int))) = true → (0 : Int) < IntKind.wrap IntKind.i64 (IntKind.wrap IntKind.i64 ((0 : Int) + (↑(List.length a) : Int)) - (0 : Int)) ∧ IntKind.wrap IntKind.i64 (IntKind.wrap IntKind.i64 ((0 : Int) + (↑(List.length a) : Int)) - (0 : Int)) ≤ (9223372036854775807 : Int) ∧ IntKind.wrap IntKind.i64 (IntKind.wrap IntKind.i64 ((0 : Int) + (↑(List.length a) : Int)) - (0 : Int)) * (24 : Int) ≤ (281474976710656 : Int) ∧ true = true ∧ (true = true → true = true ∧ (true && decide ((0 : Nat) + List.length a ≤ (9223372036854775807 : Nat)) && decide (((0 : Nat) + List.length a) * (24 : Nat) ≤ (140737488355328 : Nat))) = true ∧ (true = true → true = true ∧ (decide ((0 : Nat) + List.length a = (0 : Nat) + List.length a) && decide ((0 : Nat) + List.length a + List.length b ≤ (9223372036854775807 : Nat)) && decide (((0 : Nat) + List.length a + List.length b) * (24 : Nat) ≤ (140737488355328 : Nat))) = true ∧ (false = true → false = true ∧ False) ∧ (false = false → ((0 : Nat) = (0 : Nat) ∧ (0 : Nat) + List.length a + List.length b = List.length (a ++ b)) ∧ ((0 : Nat) + List.length a + List.length b = List.length (a ++ b) ∧ contLe ((0 : Nat) + List.length a + List.length b) (2 : Nat) (appRow ((0 : Nat) + List.length a) (appRow (0 : Nat) (fun (x j : Nat) => Ax.get [AV.s (Value.string { data := #[] : ByteArray }), AV.s (Value.int IntKind.u64 (0 : Int))] j) (cellsOf' encC a)) (cellsOf' encC b)) (cellsOf' encC (a ++ b))) ∧ True)) ∧ (true = false → ((0 : Nat) = (0 : Nat) ∧ (0 : Nat) + List.length a = List.length (a ++ b)) ∧ ((0 : Nat) + List.length a = List.length (a ++ b) ∧ contLe ((0 : Nat) + List.length a) (2 : Nat) (appRow (0 : Nat) (fun (x j : Nat) => Ax.get [AV.s (Value.string { data := #[] : ByteArray }), AV.s (Value.int IntKind.u64 (0 : Int))] j) (cellsOf' encC a)) (cellsOf' encC (a ++ b))) ∧ True)) ∧ (true = false → ((0 : Nat) = (0 : Nat) ∧ (0 : Nat) = List.length (a ++ b)) ∧ ((0 : Nat) = List.length (a ++ b) ∧ contLe (0 : Nat) (2 : Nat) (fun (x j : Nat) => Ax.get [AV.s (Value.string { data := #[] : ByteArray }), AV.s (Value.int IntKind.u64 (0 : Int))] j) (cellsOf' encC (a ++ b))) ∧ True)) ∧ (decide ((0 : Int) < IntKind.wrap IntKind.i64 (IntKind.wrap IntKind.i64 ((0 : Int) + (↑(List.length a) : Int)) - (0 : Int))) = false → (true = true → true = true ∧ (decide (List.length a ≤ (9223372036854775807 : Nat)) && decide (List.length a * (24 : Nat) ≤ (140737488355328 : Nat))) = true ∧ (true = true → true = true ∧ (decide ((0 : Nat) + List.length a = List.length a) && decide (List.length a + List.length b ≤ (9223372036854775807 : Nat)) && decide ((List.length a + List.length b) * (24 : Nat) ≤ (140737488355328 : Nat))) = true ∧ (false = true → false = true ∧ False) ∧ (false = false → ((0 : Nat) = (0 : Nat) ∧ List.length a + List.length b = List.length (a ++ b)) ∧ (List.length a + List.length b = List.length (a ++ b) ∧ contLe (List.length a + List.length b) (2 : Nat) (appRow (List.length a) (appRow (0 : Nat) (fun (k j : Nat) => AV.junk) (cellsOf' encC a)) (cellsOf' encC b)) (cellsOf' encC (a ++ b))) ∧ True)) ∧ (true = false → ((0 : Nat) = (0 : Nat) ∧ List.length a = List.length (a ++ b)) ∧ ((0 : Nat) + List.length a = List.length (a ++ b) ∧ contLe ((0 : Nat) + List.length a) (2 : Nat) (appRow (0 : Nat) (fun (k j : Nat) => AV.junk) (cellsOf' encC a)) (cellsOf' encC (a ++ b))) ∧ True)) ∧ (true = false → False ∧ False)))))) ∧ (true = false → (true = true → true = true ∧ (decide (List.length a ≤ (9223372036854775807 : Nat)) && decide (List.length a * (24 : Nat) ≤ (140737488355328 : Nat))) = true ∧ (true = true → true = true ∧ (decide ((0 : Nat) + List.length a = List.length a) && decide (List.length a + List.length b ≤ (9223372036854775807 : Nat)) && decide ((List.length a + List.length b) * (24 : Nat) ≤ (140737488355328 : Nat))) = true ∧ (false = true → false = true ∧ False) ∧ (false = false → ((0 : Nat) = (0 : Nat) ∧ List.length a + List.length b = List.length (a ++ b)) ∧ (List.length a + List.length b = List.length (a ++ b) ∧ contLe (List.length a + List.length b) (2 : Nat) (appRow (List.length a) (appRow (0 : Nat) (fun (k j : Nat) => AV.junk) (cellsOf' encC a)) (cellsOf' encC b)) (cellsOf' encC (a ++ b))) ∧ True)) ∧ (true = false → ((0 : Nat) = (0 : Nat) ∧ List.length a = List.length (a ++ b)) ∧ ((0 : Nat) + List.length a = List.length (a ++ b) ∧ contLe ((0 : Nat) + List.length a) (2 : Nat) (appRow (0 : Nat) (fun (k j : Nat) => AV.junk) (cellsOf' encC a)) (cellsOf' encC (a ++ b))) ∧ True)) ∧ (true = false → False ∧ False))
set_option maxRecDepth 1000000 in
theorem vcCat_eq (b1 : Bool) (b2 : Bool) (a : List Con) (b : List Con) : (ctrVC Tryd.prog catH 60 [catA b1 b2 a b] [] (conR (a ++ b))) = vcCat b1 b2 a b := by kernel_rfl
end Go.Proofs.YtjmdejbijigfjaaDoor

/-! Records: Map, Concat: the contracts. -/
namespace Go.Proofs.YtjmdejbijigfjaaDoor
open Go.Ax
set_option maxRecDepth 1000000
def wfC (l : List Con) : Prop := ∀ x ∈ l, offOk x.off
theorem wfC_at {l : List Con} (h : wfC l) {k : Nat} (hk : k < l.length) : offOk (l.getD k default).off := h _ (by simp [hk])
theorem mapU_step {l : List Con} {to : List Int} {k : Nat} (h : k < l.length) (ht : ¬ to.length = 0) : mapU l to (k + 1) = mapU l to k ++ [movC to (l[k]?.getD default)] := by
  unfold mapU
  rw [if_neg ht, if_neg ht]
  have : l.take (k + 1) = l.take k ++ [l[k]?.getD default] := by
    rw [List.take_add_one, List.getElem?_eq_getElem h]; rfl
  rw [this, List.map_append]; rfl
theorem mapU_len (l : List Con) (to : List Int) (k : Nat) : (mapU l to k).length ≤ l.length := by
  unfold mapU
  split <;> simp
  exact Nat.min_le_right _ _
theorem mapU_end {l : List Con} {to : List Int} {k : Nat} (h : l.length ≤ k) : mapU l to k = mapU l to l.length := by
  unfold mapU
  rw [List.take_of_length_le h, List.take_length]
theorem mp_loop (b1 b2 : Bool) (l : List Con) (to : List Int) (ht : 0 < to.length) (htl : to.length ≤ 9223372036854775806) (hl : l.length * 24 ≤ 140737488355200) (hw : wfC l) (k : Nat) : LoopOk Tryd.prog 37 6 (loopAt Tryd.prog 37 6) ⟨mpT b1 b2 l to k, mpM l to k, []⟩ (T.map (lout [0, 1, 2, 3, 4, 5] (mpS l to)) (.ret ())) := by
  refine loop_vcH (ht := mpHL b2 l to) (o := fun _ => .ret ()) Tryd.mixed (fun _ => rfl) (fun k => (vcMpL_eq b1 b2 l to k).mpr ?_) k
  unfold vcMpL
  have hlen := mapU_len l to k
  simp
  refine ⟨fun h => ?_, fun h => ?_⟩
  · have hwk := wfC_at hw h
    have e1 : IntKind.i64.wrap ((k : Int) + 1) = ((k + 1 : Nat) : Int) := by rw [wrap_i64 (by omega) (by omega)]; omega
    rw [e1]
    simp at hwk
    refine ⟨h, ⟨ht, htl, hwk.1, hwk.2⟩, ⟨by omega, by omega⟩, k + 1, by omega, ⟨⟨?_, rfl⟩, ?_⟩⟩
    all_goals rw [mapU_step h (by omega)]
    · simp
    · refine ⟨by simp, app_le (contLe_refl _ _ _) rfl fun j hj => ?_⟩
      exact enc_le (movC to (l[k]?.getD default)) j hj
  · rw [mapU_end h]
    exact ⟨rfl, contLe_refl _ _ _⟩
theorem mp_c (b1 b2 : Bool) (l : List Con) (to : List Int) (htl : to.length ≤ 9223372036854775806) (hl : l.length * 24 ≤ 140737488355200) (hw : wfC l) : (conR (mapU l to l.length)).Sat (ACall' Tryd.prog 37 [encCs b1 l, encUs b2 to] []) := by
  refine ctr_vc (ht := mpH b1 b2 l to) Tryd.mixed rfl ?_
  rw [vcMp_eq b1 b2 l to]
  unfold vcMp
  by_cases h0 : to.length = 0
  · simp [h0, mapU]
  · have lp := mp_loop b1 b2 l to (by omega) htl hl hw 0
    have h1 : ¬ ((to.length : Int) = 0) := by omega
    simp [h0, lp]
    have e0 : mapU l to 0 = [] := by unfold mapU; split <;> simp
    simp [e0]
theorem mr_loop (b1 b2 : Bool) (l : List Con) (to : List Int) (htl : to.length ≤ 9223372036854775806) (hl : l.length * 24 ≤ 140737488355200) (hw : wfC l) (k : Nat) : LoopOk Tryd.prog 38 3 (loopAt Tryd.prog 38 3) ⟨mrT b1 b2 l to k, mpM l to k, []⟩ (T.map (lout [0, 1, 2, 3, 4, 5] (mrS l to)) (.ret ())) := by
  refine loop_vcH (ht := mrHL b2 l to) (o := fun _ => .ret ()) Tryd.mixed (fun _ => rfl) (fun k => (vcMrL_eq b1 b2 l to k).mpr ?_) k
  unfold vcMrL
  have hlen := mapU_len l to k
  simp
  refine ⟨fun h => ⟨fun ht => ?_, fun ht => ?_⟩, fun h => ?_⟩
  · have ht' : 0 < to.length := by
      rcases Nat.eq_zero_or_pos to.length with h0 | h0
      · have := List.eq_nil_of_length_eq_zero h0; simp [this] at ht
      · exact h0
    have hwk := wfC_at hw h
    have e1 : IntKind.i64.wrap ((k : Int) + 1) = ((k + 1 : Nat) : Int) := by rw [wrap_i64 (by omega) (by omega)]; omega
    rw [e1]
    simp at hwk
    refine ⟨h, ⟨ht', htl, hwk.1, hwk.2⟩, ⟨by omega, by omega⟩, k + 1, by omega, ⟨⟨?_, rfl⟩, ?_⟩⟩
    all_goals rw [mapU_step h (by omega)]
    · simp
    · refine ⟨by simp, app_le (contLe_refl _ _ _) rfl fun j hj => ?_⟩
      exact enc_le (movC to (l[k]?.getD default)) j hj
  · have h0 : to.length = 0 := by simp [ht]
    simp [mapU, h0]
  · rw [mapU_end h]
    exact ⟨rfl, contLe_refl _ _ _⟩
theorem mr_c (b1 b2 : Bool) (l : List Con) (to : List Int) (htl : to.length ≤ 9223372036854775806) (hl : l.length * 24 ≤ 140737488355200) (hw : wfC l) : (conR (mapU l to l.length)).Sat (ACall' Tryd.prog 38 [encCs b1 l, encUs b2 to] []) := by
  refine ctr_vc (ht := mrH b1 b2 l to) Tryd.mixed rfl ?_
  rw [vcMr_eq b1 b2 l to]
  unfold vcMr
  have lp := mr_loop b1 b2 l to htl hl hw 0
  have e0 : mapU l to 0 = [] := by unfold mapU; split <;> simp
  simp [lp, e0]
theorem cat2_le {n sz : Nat} {a b : List Con} {c : Nat → Nat → AV} (h : contLe a.length sz c (cellsOf' encC a)) (hn : n = a.length) : contLe (n + b.length) sz (appRow n c (cellsOf' encC b)) (cellsOf' encC (a ++ b)) := by
  subst hn
  intro k hk j hj
  unfold appRow
  split
  · rename_i h1
    have := h k h1 j hj
    rw [cells_at] at this ⊢
    rw [show (a ++ b).getD k default = a.getD k default by simp [List.getD_eq_getElem?_getD, List.getElem?_append_left h1]]
    exact this
  · rename_i h1
    rw [cells_at, cells_at, show (a ++ b).getD k default = b.getD (k - a.length) default by simp [List.getD_eq_getElem?_getD, List.getElem?_append_right (Nat.le_of_not_lt h1)]]
    exact le0_refl _
theorem cat1_le {n sz : Nat} {a : List Con} {c : Nat → Nat → AV} : contLe n sz (appRow 0 c (cellsOf' encC a)) (cellsOf' encC a) := by
  intro k hk j hj
  unfold appRow
  rw [if_neg (Nat.not_lt_zero _)]
  exact le0_refl _
theorem cat_c (b1 b2 : Bool) (a b : List Con) (ha : a.length ≤ 100000) (hb : b.length ≤ 100000) : (conR (a ++ b)).Sat (ACall' Tryd.prog 60 [catA b1 b2 a b] []) := by
  refine ctr_vc (ht := catH) Tryd.mixed rfl ?_
  rw [vcCat_eq b1 b2 a b]
  unfold vcCat
  have e1 : IntKind.i64.wrap (0 + (a.length : Int)) = a.length := by rw [wrap_i64 (by omega) (by omega)]; omega
  have e2 : IntKind.i64.wrap ((a.length : Int) + (b.length : Int)) = a.length + b.length := by rw [wrap_i64 (by omega) (by omega)]
  have e3 : IntKind.i64.wrap (((a.length : Int) + (b.length : Int)) - 0) = a.length + b.length := by rw [wrap_i64 (by omega) (by omega)]; omega
  have e4 : IntKind.i64.wrap ((a.length : Int) - 0) = a.length := by rw [wrap_i64 (by omega) (by omega)]; omega
  simp only [e1, e2, e3, e4]
  simp
  have z1 : contLe (a.length + b.length) 2 (appRow a.length (appRow 0 (fun (x j : Nat) => Ax.get [AV.s (Value.string { data := #[] : ByteArray }), AV.s (Value.int IntKind.u64 (0 : Int))] j) (cellsOf' encC a)) (cellsOf' encC b)) (cellsOf' encC (a ++ b)) := cat2_le cat1_le rfl
  have z2 : contLe (a.length + b.length) 2 (appRow a.length (appRow 0 (fun (k j : Nat) => AV.junk) (cellsOf' encC a)) (cellsOf' encC b)) (cellsOf' encC (a ++ b)) := cat2_le cat1_le rfl
  repeat' first | apply And.intro | with_reducible intro _
  all_goals first | omega | exact z1 | exact z2
end Go.Proofs.YtjmdejbijigfjaaDoor
