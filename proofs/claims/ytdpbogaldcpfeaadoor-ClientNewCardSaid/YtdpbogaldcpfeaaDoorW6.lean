/- PROVED: ClientNew -/
import Derived.Lib.SlicesCompact
import Derived.Test.YtdpbogaldcpfeaaDoorW4
import Derived.Test.YtdpbogaldcpfeaaDoorW5
set_option linter.unusedVariables false
set_option linter.unusedSimpArgs false
set_option linter.unusedSectionVars false
/-! New: the law: the conditions. -/
--fold
namespace Go.Proofs.YtdpbogaldcpfeaaDoor.C
open Go.Ax
set_option maxRecDepth 1000000
/-- the row of servers that is handed in -/
def cwM (l : List Int) : Blk := .row 3 1 (l.length + 1) none (cellsOf' encI (l ++ [77]))
structure CwI (l : List Int) where
  k : Nat
  L : List Int
  n : L.length = l.length
def cwA (l : List Int) (e : AV) : List (Nat × AV) := [(1, encIs true l), (7, .y (.bool true)), (8, .own 0 1 0 l.length), (10, e), (12, e), (13, .y (.bool true))]
def nE (n : Int) : AV := .s (.int .i64 n)
def yE (n : Int) : AV := .y (.int .i64 n)
def cwT (l : List Int) (q : CwI l) : List AV := mkT 89 (cwA l (nE 0) ++ [(9, .ptr 3 0 0 0), (14, .y (.int .i64 q.k))])
def cwB (l : List Int) (c : Clt) (L : List Int) : List Blk := [cwM l, .dead, .row 3 1 l.length none (cellsOf' encI L), .box 35 (encCv (.own 2 1 0 l.length) c)]
def cwS (l : List Int) (e : AV) (_ : Unit) : Exit × List AV × List Blk := (.exit 0, mkT 89 (cwA l e), [cwM l])
def vcCwL (l : List Int) (c : Clt) (q : CwI l) : Prop :=
  (decide ((↑q.k : Int) < (↑(List.length l) : Int)) = true → (true && decide ((↑q.k : Int) < (↑(List.length l) : Int))) = true ∧ decide ((0 : Nat) + Int.toNat (↑q.k : Int) < List.length l) = true ∧ ∃ (j : CwI l), List.length l - j.k < List.length l - q.k ∧ (((true = true ∧ List.length l = List.length l ∧ contLe (List.length l) (1 : Nat) (cellsOf' encI l) (cellsOf' encI l)) ∧ true = true ∧ ((0 : Nat) = (0 : Nat) ∧ List.length l = List.length l) ∧ ((0 : Nat) = (0 : Nat) ∧ (0 : Nat) = (0 : Nat)) ∧ (0 : Int) = (0 : Int) ∧ (0 : Int) = (0 : Int) ∧ true = true ∧ IntKind.wrap IntKind.i64 ((↑q.k : Int) + (1 : Int)) = (↑j.k : Int) ∧ True) ∧ ((List.length l + (1 : Nat) = List.length l + (1 : Nat) ∧ contLe (List.length l + (1 : Nat)) (1 : Nat) (cellsOf' encI (l ++ [(77 : Int)])) (cellsOf' encI (l ++ [(77 : Int)]))) ∧ (List.length l = List.length l ∧ contLe (List.length l) (1 : Nat) (wrRow (cellsOf' encI q.L) ((0 : Nat) + Int.toNat (↑q.k : Int)) (0 : Nat) [AV.s (Value.int IntKind.i64 (99 : Int))]) (cellsOf' encI j.L)) ∧ (c.id = c.id ∧ ((0 : Nat) = (0 : Nat) ∧ List.length l = List.length l) ∧ c.prod = c.prod ∧ c.seq = c.seq ∧ (true = true ∧ List.length c.topics = List.length c.topics ∧ contLe (List.length c.topics) (2 : Nat) (cellsOf' encTp c.topics) (cellsOf' encTp c.topics)) ∧ (true = true ∧ List.length c.leaders = List.length c.leaders ∧ contLe (List.length c.leaders) (2 : Nat) (cellsOf' encSi c.leaders) (cellsOf' encSi c.leaders)) ∧ c.busy = c.busy ∧ c.call.kind = c.call.kind ∧ c.call.topic = c.call.topic ∧ c.call.key = c.call.key ∧ (true = true ∧ List.length c.call.val = List.length c.call.val ∧ contLe (List.length c.call.val) (1 : Nat) (cellsOf' encB c.call.val) (cellsOf' encB c.call.val)) ∧ c.call.off = c.call.off ∧ c.call.most = c.call.most ∧ c.call.name = c.call.name ∧ c.call.adm.kind = c.call.adm.kind ∧ c.call.adm.prod = c.call.adm.prod ∧ c.call.adm.seq = c.call.adm.seq ∧ c.call.adm.topic = c.call.adm.topic ∧ (true = true ∧ List.length c.call.adm.nodes = List.length c.call.adm.nodes ∧ contLe (List.length c.call.adm.nodes) (1 : Nat) (cellsOf' encI c.call.adm.nodes) (cellsOf' encI c.call.adm.nodes)) ∧ c.call.adm.group = c.call.adm.group ∧ c.call.adm.other = c.call.adm.other ∧ c.call.adm.key = c.call.adm.key ∧ c.call.adm.fr = c.call.adm.fr ∧ c.call.adm.to = c.call.adm.to ∧ c.call.adm.plan = c.call.adm.plan ∧ c.call.adm.step = c.call.adm.step ∧ c.number = c.number ∧ c.route = c.route ∧ c.group = c.group ∧ c.tries = c.tries ∧ c.waited = c.waited ∧ c.again = c.again ∧ c.at' = c.at' ∧ True) ∧ True) ∧ true = true) ∧ true = true ∧ () = ()) ∧ (decide ((↑q.k : Int) < (↑(List.length l) : Int)) = false → ((true = true ∧ List.length l = List.length l ∧ contLe (List.length l) (1 : Nat) (cellsOf' encI l) (cellsOf' encI l)) ∧ true = true ∧ ((0 : Nat) = (0 : Nat) ∧ List.length l = List.length l) ∧ (0 : Int) = (0 : Int) ∧ (0 : Int) = (0 : Int) ∧ true = true ∧ True) ∧ ((List.length l + (1 : Nat) = List.length l + (1 : Nat) ∧ contLe (List.length l + (1 : Nat)) (1 : Nat) (cellsOf' encI (l ++ [(77 : Int)])) (cellsOf' encI (l ++ [(77 : Int)]))) ∧ True) ∧ true = true)
set_option maxRecDepth 1000000 in
theorem vcCwL_eq (l : List Int) (c : Clt) (q : CwI l) : (loopVC Tryd.prog (hT _) 3 7 (fun q => l.length - q.k) (cwT l) (fun q => cwB l c q.L) [0, 1, 2, 3, 4, 5, 6, 7] (fun _ => .ret ()) (cwS l (nE 0)) q) = vcCwL l c q := by kernel_rfl
/-- nothing of its own was handed back -/
def cwT0 (l : List Int) (k : Nat) : List AV := mkT 89 (cwA l (yE 1) ++ [(9, .ptr 2 0 0 0), (14, .y (.int .i64 k))])
def cwB0 (l : List Int) : List Blk := [cwM l, .dead, .box 35 (encC0 true default)]
def vcCwL0 (l : List Int) (k : Nat) : Prop :=
  (false = true → false = true ∧ False) ∧ (false = false → ((true = true ∧ List.length l = List.length l ∧ contLe (List.length l) (1 : Nat) (cellsOf' encI l) (cellsOf' encI l)) ∧ true = true ∧ ((0 : Nat) = (0 : Nat) ∧ List.length l = List.length l) ∧ (1 : Int) = (1 : Int) ∧ (1 : Int) = (1 : Int) ∧ true = true ∧ True) ∧ ((List.length l + (1 : Nat) = List.length l + (1 : Nat) ∧ contLe (List.length l + (1 : Nat)) (1 : Nat) (cellsOf' encI (l ++ [(77 : Int)])) (cellsOf' encI (l ++ [(77 : Int)]))) ∧ True) ∧ true = true)
set_option maxRecDepth 1000000 in
theorem vcCwL0_eq (l : List Int) (k : Nat) : (loopVC Tryd.prog (hT _) 3 7 (fun k => 0 - k) (cwT0 l) (fun _ => cwB0 l) [0, 1, 2, 3, 4, 5, 6, 7] (fun _ => .ret ()) (cwS l (yE 1)) k) = vcCwL0 l k := by kernel_rfl
def cxT (l : List Int) (e : AV) (k : Nat) : List AV := mkT 89 (cwA l e ++ [(15, .y (.int .i64 k))])
def cxS (l : List Int) (e : AV) (_ : Unit) : Exit × List AV × List Blk := (.exit 2, mkT 89 (cwA l e), [cwM l])
def vcCxL (l : List Int) (k : Nat) : Prop :=
  (decide ((↑k : Int) < (↑(List.length l) : Int)) = true → (true && decide ((↑k : Int) < (↑(List.length l) : Int))) = true ∧ decide ((0 : Nat) + Int.toNat (↑k : Int) < List.length l + (1 : Nat)) = true ∧ (true && decide ((↑k : Int) < (↑(List.length l) : Int))) = true ∧ ((List.getD (l ++ [(77 : Int)]) ((0 : Nat) + Int.toNat (↑k : Int)) (0 : Int) != List.getD l (Int.toNat (↑k : Int)) (0 : Int)) = true → False) ∧ ((List.getD (l ++ [(77 : Int)]) ((0 : Nat) + Int.toNat (↑k : Int)) (0 : Int) != List.getD l (Int.toNat (↑k : Int)) (0 : Int)) = false → ∃ (j : Nat), List.length l - j < List.length l - k ∧ (((true = true ∧ List.length l = List.length l ∧ contLe (List.length l) (1 : Nat) (cellsOf' encI l) (cellsOf' encI l)) ∧ true = true ∧ ((0 : Nat) = (0 : Nat) ∧ List.length l = List.length l) ∧ (0 : Int) = (0 : Int) ∧ (0 : Int) = (0 : Int) ∧ true = true ∧ IntKind.wrap IntKind.i64 ((↑k : Int) + (1 : Int)) = (↑j : Int) ∧ True) ∧ ((List.length l + (1 : Nat) = List.length l + (1 : Nat) ∧ contLe (List.length l + (1 : Nat)) (1 : Nat) (cellsOf' encI (l ++ [(77 : Int)])) (cellsOf' encI (l ++ [(77 : Int)]))) ∧ True) ∧ true = true) ∧ true = true ∧ () = ())) ∧ (decide ((↑k : Int) < (↑(List.length l) : Int)) = false → ((true = true ∧ List.length l = List.length l ∧ contLe (List.length l) (1 : Nat) (cellsOf' encI l) (cellsOf' encI l)) ∧ true = true ∧ ((0 : Nat) = (0 : Nat) ∧ List.length l = List.length l) ∧ (0 : Int) = (0 : Int) ∧ (0 : Int) = (0 : Int) ∧ true = true ∧ True) ∧ ((List.length l + (1 : Nat) = List.length l + (1 : Nat) ∧ contLe (List.length l + (1 : Nat)) (1 : Nat) (cellsOf' encI (l ++ [(77 : Int)])) (cellsOf' encI (l ++ [(77 : Int)]))) ∧ True) ∧ true = true)
set_option maxRecDepth 1000000 in
theorem vcCxL_eq (l : List Int) (k : Nat) : (loopVC Tryd.prog (hT _) 3 11 (fun k => l.length - k) (cxT l (nE 0)) (fun _ => [cwM l]) [0, 1, 2, 3, 4, 5, 6, 7] (fun _ => .ret ()) (cxS l (nE 0)) k) = vcCxL l k := by kernel_rfl
def vcCxE (l : List Int) (k : Nat) : Prop :=
  (decide ((↑k : Int) < (↑(List.length l) : Int)) = true → (true && decide ((↑k : Int) < (↑(List.length l) : Int))) = true ∧ decide ((0 : Nat) + Int.toNat (↑k : Int) < List.length l + (1 : Nat)) = true ∧ (true && decide ((↑k : Int) < (↑(List.length l) : Int))) = true ∧ ((List.getD (l ++ [(77 : Int)]) ((0 : Nat) + Int.toNat (↑k : Int)) (0 : Int) != List.getD l (Int.toNat (↑k : Int)) (0 : Int)) = true → False) ∧ ((List.getD (l ++ [(77 : Int)]) ((0 : Nat) + Int.toNat (↑k : Int)) (0 : Int) != List.getD l (Int.toNat (↑k : Int)) (0 : Int)) = false → ∃ (j : Nat), List.length l - j < List.length l - k ∧ (((true = true ∧ List.length l = List.length l ∧ contLe (List.length l) (1 : Nat) (cellsOf' encI l) (cellsOf' encI l)) ∧ true = true ∧ ((0 : Nat) = (0 : Nat) ∧ List.length l = List.length l) ∧ (1 : Int) = (1 : Int) ∧ (1 : Int) = (1 : Int) ∧ true = true ∧ IntKind.wrap IntKind.i64 ((↑k : Int) + (1 : Int)) = (↑j : Int) ∧ True) ∧ ((List.length l + (1 : Nat) = List.length l + (1 : Nat) ∧ contLe (List.length l + (1 : Nat)) (1 : Nat) (cellsOf' encI (l ++ [(77 : Int)])) (cellsOf' encI (l ++ [(77 : Int)]))) ∧ True) ∧ true = true) ∧ true = true ∧ () = ())) ∧ (decide ((↑k : Int) < (↑(List.length l) : Int)) = false → ((true = true ∧ List.length l = List.length l ∧ contLe (List.length l) (1 : Nat) (cellsOf' encI l) (cellsOf' encI l)) ∧ true = true ∧ ((0 : Nat) = (0 : Nat) ∧ List.length l = List.length l) ∧ (1 : Int) = (1 : Int) ∧ (1 : Int) = (1 : Int) ∧ true = true ∧ True) ∧ ((List.length l + (1 : Nat) = List.length l + (1 : Nat) ∧ contLe (List.length l + (1 : Nat)) (1 : Nat) (cellsOf' encI (l ++ [(77 : Int)])) (cellsOf' encI (l ++ [(77 : Int)]))) ∧ True) ∧ true = true)
set_option maxRecDepth 1000000 in
theorem vcCxE_eq (l : List Int) (k : Nat) : (loopVC Tryd.prog (hT _) 3 11 (fun k => l.length - k) (cxT l (yE 1)) (fun _ => [cwM l]) [0, 1, 2, 3, 4, 5, 6, 7] (fun _ => .ret ()) (cxS l (yE 1)) k) = vcCxE l k := by kernel_rfl
end Go.Proofs.YtdpbogaldcpfeaaDoor.C

/-! New: the law: the conditions. -/
namespace Go.Proofs.YtdpbogaldcpfeaaDoor.C
open Go.Ax
set_option maxRecDepth 1000000
noncomputable def nlH (id : Int) (l : List Int) (p : Int) (c : Clt) (q : CwI l) : HintsT Tryd.prog := withSh (hh _ (lp1 3 7 (jobOf (cwT l) (fun q => cwB l c q.L) [0, 1, 2, 3, 4, 5, 6, 7] (fun _ => .ret ()) (cwS l (nE 0)) q) (lp1 3 11 (jobOf (cxT l (nE 0)) (fun _ => [cwM l]) [0, 1, 2, 3, 4, 5, 6, 7] (fun _ => .ret ()) (cxS l (nE 0)) 0) noLp)) (cs1 3 1 0 hdC (cs1 3 3 3 (noC id l p c) (cs1 3 4 3 (rnZ id l p c) (cs1 3 5 2 (vsC c c) noCs)))) noOp) (sh1 3 15 14 781 noSh)
def vcNl_q1 (c : Clt) : Prop := (true = true ∧ List.length c.call.adm.nodes = List.length c.call.adm.nodes ∧ contLe (List.length c.call.adm.nodes) (1 : Nat) (cellsOf' encI c.call.adm.nodes) (cellsOf' encI c.call.adm.nodes))
def vcNl (id : Int) (l : List Int) (p : Int) (c : Clt) (q : CwI l) : Prop :=
  True ∧ True ∧ (decide ((0 : Nat) + List.length l ≤ (9223372036854775807 : Nat)) && decide (((0 : Nat) + List.length l) * (8 : Nat) ≤ (140737488355328 : Nat))) = true ∧ (decide ((0 : Nat) + List.length l = (0 : Nat) + List.length l) && decide ((0 : Nat) + List.length l + (1 : Nat) ≤ (9223372036854775807 : Nat)) && decide (((0 : Nat) + List.length l + (1 : Nat)) * (8 : Nat) ≤ (140737488355328 : Nat))) = true ∧ (true && decide ((↑(List.length l) : Int) ≤ (↑((0 : Nat) + List.length l + (1 : Nat)) : Int))) = true ∧ (id = id ∧ (false = false ∧ Int.toNat (↑(List.length l) : Int) - (0 : Nat) = List.length l ∧ contLe (Int.toNat (↑(List.length l) : Int) - (0 : Nat)) (1 : Nat) (Ax.rowAt (0 : Nat) (appRow ((0 : Nat) + List.length l) (appRow (0 : Nat) (fun (k j : Nat) => AV.junk) (cellsOf' encI l)) fun (k j : Nat) => Ax.get [AV.s (Value.int IntKind.i64 (77 : Int))] (k * (1 : Nat) + j))) (cellsOf' encI l)) ∧ p = p ∧ True) ∧ True ∧ NoQ id l p c ∧ true = true ∧ ((∀ (k : Nat), k < List.length l → ∀ (j : Nat), j < (1 : Nat) → tagT (cellsOf' encI l k j) = true) ∧ True) ∧ (id = id ∧ (true = true ∧ List.length l = List.length l ∧ contLe (List.length l) (1 : Nat) (cellsOf' encI l) (cellsOf' encI l)) ∧ p = p ∧ True) ∧ True ∧ RfQ id l p c (0 : Int) ∧ ((c.id = c.id ∧ (false = false ∧ List.length l = List.length c.servers ∧ contLe (List.length l) (1 : Nat) (Ax.rowAt (0 : Nat) (cellsOf' encI l)) (cellsOf' encI c.servers)) ∧ c.prod = c.prod ∧ c.seq = c.seq ∧ (true = true ∧ List.length c.topics = List.length c.topics ∧ contLe (List.length c.topics) (2 : Nat) (cellsOf' encTp c.topics) (cellsOf' encTp c.topics)) ∧ (true = true ∧ List.length c.leaders = List.length c.leaders ∧ contLe (List.length c.leaders) (2 : Nat) (cellsOf' encSi c.leaders) (cellsOf' encSi c.leaders)) ∧ c.busy = c.busy ∧ c.call.kind = c.call.kind ∧ c.call.topic = c.call.topic ∧ c.call.key = c.call.key ∧ (true = true ∧ List.length c.call.val = List.length c.call.val ∧ contLe (List.length c.call.val) (1 : Nat) (cellsOf' encB c.call.val) (cellsOf' encB c.call.val)) ∧ c.call.off = c.call.off ∧ c.call.most = c.call.most ∧ c.call.name = c.call.name ∧ c.call.adm.kind = c.call.adm.kind ∧ c.call.adm.prod = c.call.adm.prod ∧ c.call.adm.seq = c.call.adm.seq ∧ c.call.adm.topic = c.call.adm.topic ∧ (vcNl_q1 c) ∧ c.call.adm.group = c.call.adm.group ∧ c.call.adm.other = c.call.adm.other ∧ c.call.adm.key = c.call.adm.key ∧ c.call.adm.fr = c.call.adm.fr ∧ c.call.adm.to = c.call.adm.to ∧ c.call.adm.plan = c.call.adm.plan ∧ c.call.adm.step = c.call.adm.step ∧ c.number = c.number ∧ c.route = c.route ∧ c.group = c.group ∧ c.tries = c.tries ∧ c.waited = c.waited ∧ c.again = c.again ∧ c.at' = c.at' ∧ True) ∧ (c.id = c.id ∧ (true = true ∧ List.length c.servers = List.length c.servers ∧ contLe (List.length c.servers) (1 : Nat) (cellsOf' encI c.servers) (cellsOf' encI c.servers)) ∧ c.prod = c.prod ∧ c.seq = c.seq ∧ (true = true ∧ List.length c.topics = List.length c.topics ∧ contLe (List.length c.topics) (2 : Nat) (cellsOf' encTp c.topics) (cellsOf' encTp c.topics)) ∧ (true = true ∧ List.length c.leaders = List.length c.leaders ∧ contLe (List.length c.leaders) (2 : Nat) (cellsOf' encSi c.leaders) (cellsOf' encSi c.leaders)) ∧ c.busy = c.busy ∧ c.call.kind = c.call.kind ∧ c.call.topic = c.call.topic ∧ c.call.key = c.call.key ∧ (true = true ∧ List.length c.call.val = List.length c.call.val ∧ contLe (List.length c.call.val) (1 : Nat) (cellsOf' encB c.call.val) (cellsOf' encB c.call.val)) ∧ c.call.off = c.call.off ∧ c.call.most = c.call.most ∧ c.call.name = c.call.name ∧ c.call.adm.kind = c.call.adm.kind ∧ c.call.adm.prod = c.call.adm.prod ∧ c.call.adm.seq = c.call.adm.seq ∧ c.call.adm.topic = c.call.adm.topic ∧ (vcNl_q1 c) ∧ c.call.adm.group = c.call.adm.group ∧ c.call.adm.other = c.call.adm.other ∧ c.call.adm.key = c.call.adm.key ∧ c.call.adm.fr = c.call.adm.fr ∧ c.call.adm.to = c.call.adm.to ∧ c.call.adm.plan = c.call.adm.plan ∧ c.call.adm.step = c.call.adm.step ∧ c.number = c.number ∧ c.route = c.route ∧ c.group = c.group ∧ c.tries = c.tries ∧ c.waited = c.waited ∧ c.again = c.again ∧ c.at' = c.at' ∧ True) ∧ True) ∧ True ∧ SmeQ c c ∧ true = true ∧ True ∧ (((true = true ∧ List.length l = List.length l ∧ contLe (List.length l) (1 : Nat) (cellsOf' encI l) (cellsOf' encI l)) ∧ true = true ∧ ((0 : Nat) = (0 : Nat) ∧ Int.toNat (↑(List.length l) : Int) - (0 : Nat) = List.length l) ∧ ((0 : Nat) = (0 : Nat) ∧ (0 : Nat) = (0 : Nat)) ∧ (0 : Int) = (0 : Int) ∧ (0 : Int) = (0 : Int) ∧ true = true ∧ (0 : Int) = (↑q.k : Int) ∧ True) ∧ (((0 : Nat) + List.length l + (1 : Nat) = List.length l + (1 : Nat) ∧ contLe ((0 : Nat) + List.length l + (1 : Nat)) (1 : Nat) (appRow ((0 : Nat) + List.length l) (appRow (0 : Nat) (fun (k j : Nat) => AV.junk) (cellsOf' encI l)) fun (k j : Nat) => Ax.get [AV.s (Value.int IntKind.i64 (77 : Int))] (k * (1 : Nat) + j)) (cellsOf' encI (l ++ [(77 : Int)]))) ∧ (List.length l = List.length l ∧ contLe (List.length l) (1 : Nat) (cellsOf' encI l) (cellsOf' encI q.L)) ∧ (c.id = c.id ∧ ((0 : Nat) = (0 : Nat) ∧ List.length l = List.length l) ∧ c.prod = c.prod ∧ c.seq = c.seq ∧ (true = true ∧ List.length c.topics = List.length c.topics ∧ contLe (List.length c.topics) (2 : Nat) (cellsOf' encTp c.topics) (cellsOf' encTp c.topics)) ∧ (true = true ∧ List.length c.leaders = List.length c.leaders ∧ contLe (List.length c.leaders) (2 : Nat) (cellsOf' encSi c.leaders) (cellsOf' encSi c.leaders)) ∧ c.busy = c.busy ∧ c.call.kind = c.call.kind ∧ c.call.topic = c.call.topic ∧ c.call.key = c.call.key ∧ (true = true ∧ List.length c.call.val = List.length c.call.val ∧ contLe (List.length c.call.val) (1 : Nat) (cellsOf' encB c.call.val) (cellsOf' encB c.call.val)) ∧ c.call.off = c.call.off ∧ c.call.most = c.call.most ∧ c.call.name = c.call.name ∧ c.call.adm.kind = c.call.adm.kind ∧ c.call.adm.prod = c.call.adm.prod ∧ c.call.adm.seq = c.call.adm.seq ∧ c.call.adm.topic = c.call.adm.topic ∧ (vcNl_q1 c) ∧ c.call.adm.group = c.call.adm.group ∧ c.call.adm.other = c.call.adm.other ∧ c.call.adm.key = c.call.adm.key ∧ c.call.adm.fr = c.call.adm.fr ∧ c.call.adm.to = c.call.adm.to ∧ c.call.adm.plan = c.call.adm.plan ∧ c.call.adm.step = c.call.adm.step ∧ c.number = c.number ∧ c.route = c.route ∧ c.group = c.group ∧ c.tries = c.tries ∧ c.waited = c.waited ∧ c.again = c.again ∧ c.at' = c.at' ∧ True) ∧ True) ∧ true = true) ∧ LoopOk Tryd.prog (3 : Nat) (7 : Nat) (loopAt Tryd.prog (3 : Nat) (7 : Nat)) { t := cwT l q, m := cwB l c q.L, mv := [] : St } (T.map (lout [(0 : Nat), (1 : Nat), (2 : Nat), (3 : Nat), (4 : Nat), (5 : Nat), (6 : Nat), (7 : Nat)] (cwS l (nE (0 : Int)))) ((fun (x : CwI l) => T.ret ()) q)) ∧ (((true = true ∧ List.length l = List.length l ∧ contLe (List.length l) (1 : Nat) (cellsOf' encI l) (cellsOf' encI l)) ∧ true = true ∧ ((0 : Nat) = (0 : Nat) ∧ List.length l = List.length l) ∧ (0 : Int) = (0 : Int) ∧ (0 : Int) = (0 : Int) ∧ true = true ∧ (0 : Int) = (0 : Int) ∧ True) ∧ ((List.length l + (1 : Nat) = List.length l + (1 : Nat) ∧ contLe (List.length l + (1 : Nat)) (1 : Nat) (cellsOf' encI (l ++ [(77 : Int)])) (cellsOf' encI (l ++ [(77 : Int)]))) ∧ True) ∧ true = true) ∧ LoopOk Tryd.prog (3 : Nat) (11 : Nat) (loopAt Tryd.prog (3 : Nat) (11 : Nat)) { t := cxT l (nE (0 : Int)) (0 : Nat), m := [cwM l], mv := [] : St } (T.map (lout [(0 : Nat), (1 : Nat), (2 : Nat), (3 : Nat), (4 : Nat), (5 : Nat), (6 : Nat), (7 : Nat)] (cxS l (nE (0 : Int)))) ((fun (x : Nat) => T.ret ()) (0 : Nat))) ∧ (true = true → (true = true → (0 : Int) ≤ (0 : Int) ∧ (0 : Int) ≤ IntKind.wrap IntKind.i64 ((↑(List.length l) : Int) + (1 : Int)) ∧ IntKind.wrap IntKind.i64 ((↑(List.length l) : Int) + (1 : Int)) ≤ (↑(List.length l + (1 : Nat)) : Int) ∧ (true && decide ((↑(List.length l) : Int) < (↑(Int.toNat (IntKind.wrap IntKind.i64 ((↑(List.length l) : Int) + (1 : Int))) - (0 : Nat)) : Int))) = true ∧ decide ((0 : Nat) + Int.toNat (↑(List.length l) : Int) < List.length l + (1 : Nat)) = true ∧ (List.getD (l ++ [(77 : Int)]) ((0 : Nat) + Int.toNat (↑(List.length l) : Int)) (0 : Int) == (77 : Int)) = true ∧ True) ∧ (true = false → false = true ∧ True)) ∧ (true = false → false = true ∧ True)
set_option maxRecDepth 1000000 in
theorem vcNl_eq (id : Int) (l : List Int) (p : Int) (c : Clt) (q : CwI l) : (ctrVC Tryd.prog (nlH id l p c q) 3 [.y (.int .i64 id), encIs true l, .y (.int .u64 p)] [] (boolR true)) = vcNl id l p c q := by kernel_rfl
end Go.Proofs.YtdpbogaldcpfeaaDoor.C

/-! New: the law: the conditions. -/
--fold
namespace Go.Proofs.YtdpbogaldcpfeaaDoor.C
open Go.Ax
set_option maxRecDepth 1000000
noncomputable def ceH (id : Int) (l : List Int) (p : Int) : HintsT Tryd.prog := withSh (hh _ (lp1 3 7 (jobOf (cwT0 l) (fun _ => cwB0 l) [0, 1, 2, 3, 4, 5, 6, 7] (fun _ => .ret ()) (cwS l (yE 1)) 0) (lp1 3 11 (jobOf (cxT l (yE 1)) (fun _ => [cwM l]) [0, 1, 2, 3, 4, 5, 6, 7] (fun _ => .ret ()) (cxS l (yE 1)) 0) noLp)) (cs1 3 1 0 hdC (cs1 3 3 3 (nwG id false l p default 1) (cs1 3 4 3 (rnC id l p default 1) (cs1 3 5 2 (smC true true default default) noCs)))) noOp) (sh1 3 15 14 781 noSh)
def vcCe_q1 : Prop := ((0 : Int) = (0 : Int) ∧ (true = true ∧ (0 : Nat) = (0 : Nat) ∧ contLe (0 : Nat) (1 : Nat) (cellsOf' encI []) (cellsOf' encI [])) ∧ (0 : Int) = (0 : Int) ∧ (0 : Int) = (0 : Int) ∧ (true = true ∧ (0 : Nat) = (0 : Nat) ∧ contLe (0 : Nat) (2 : Nat) (cellsOf' encTp []) (cellsOf' encTp [])) ∧ (true = true ∧ (0 : Nat) = (0 : Nat) ∧ contLe (0 : Nat) (2 : Nat) (cellsOf' encSi []) (cellsOf' encSi [])) ∧ false = false ∧ (0 : Int) = (0 : Int) ∧ ByteArray.empty = ByteArray.empty ∧ ByteArray.empty = ByteArray.empty ∧ (true = true ∧ (0 : Nat) = (0 : Nat) ∧ contLe (0 : Nat) (1 : Nat) (cellsOf' encB []) (cellsOf' encB [])) ∧ (0 : Int) = (0 : Int) ∧ (0 : Int) = (0 : Int) ∧ ByteArray.empty = ByteArray.empty ∧ (0 : Int) = (0 : Int) ∧ (0 : Int) = (0 : Int) ∧ (0 : Int) = (0 : Int) ∧ ByteArray.empty = ByteArray.empty ∧ (true = true ∧ (0 : Nat) = (0 : Nat) ∧ contLe (0 : Nat) (1 : Nat) (cellsOf' encI []) (cellsOf' encI [])) ∧ (0 : Int) = (0 : Int) ∧ (0 : Int) = (0 : Int) ∧ ByteArray.empty = ByteArray.empty ∧ (0 : Int) = (0 : Int) ∧ (0 : Int) = (0 : Int) ∧ (0 : Int) = (0 : Int) ∧ (0 : Int) = (0 : Int) ∧ (0 : Int) = (0 : Int) ∧ false = false ∧ (0 : Int) = (0 : Int) ∧ (0 : Int) = (0 : Int) ∧ (0 : Int) = (0 : Int) ∧ false = false ∧ (0 : Int) = (0 : Int) ∧ True)
def vcCe (id : Int) (l : List Int) (p : Int) : Prop :=
  True ∧ True ∧ (decide ((0 : Nat) + List.length l ≤ (9223372036854775807 : Nat)) && decide (((0 : Nat) + List.length l) * (8 : Nat) ≤ (140737488355328 : Nat))) = true ∧ (decide ((0 : Nat) + List.length l = (0 : Nat) + List.length l) && decide ((0 : Nat) + List.length l + (1 : Nat) ≤ (9223372036854775807 : Nat)) && decide (((0 : Nat) + List.length l + (1 : Nat)) * (8 : Nat) ≤ (140737488355328 : Nat))) = true ∧ (true && decide ((↑(List.length l) : Int) ≤ (↑((0 : Nat) + List.length l + (1 : Nat)) : Int))) = true ∧ (id = id ∧ (false = false ∧ Int.toNat (↑(List.length l) : Int) - (0 : Nat) = List.length l ∧ contLe (Int.toNat (↑(List.length l) : Int) - (0 : Nat)) (1 : Nat) (Ax.rowAt (0 : Nat) (appRow ((0 : Nat) + List.length l) (appRow (0 : Nat) (fun (k j : Nat) => AV.junk) (cellsOf' encI l)) fun (k j : Nat) => Ax.get [AV.s (Value.int IntKind.i64 (77 : Int))] (k * (1 : Nat) + j))) (cellsOf' encI l)) ∧ p = p ∧ True) ∧ True ∧ NewQ id l p (@default Clt instInhabitedClt) (1 : Int) ∧ true = true ∧ True ∧ (id = id ∧ (true = true ∧ List.length l = List.length l ∧ contLe (List.length l) (1 : Nat) (cellsOf' encI l) (cellsOf' encI l)) ∧ p = p ∧ True) ∧ True ∧ RfQ id l p (@default Clt instInhabitedClt) (1 : Int) ∧ ((vcCe_q1) ∧ (vcCe_q1) ∧ True) ∧ True ∧ SmeQ (@default Clt instInhabitedClt) (@default Clt instInhabitedClt) ∧ (((true = true ∧ List.length l = List.length l ∧ contLe (List.length l) (1 : Nat) (cellsOf' encI l) (cellsOf' encI l)) ∧ true = true ∧ ((0 : Nat) = (0 : Nat) ∧ Int.toNat (↑(List.length l) : Int) - (0 : Nat) = List.length l) ∧ ((0 : Nat) = (0 : Nat) ∧ (0 : Nat) = (0 : Nat)) ∧ (1 : Int) = (1 : Int) ∧ (1 : Int) = (1 : Int) ∧ true = true ∧ (0 : Int) = (0 : Int) ∧ True) ∧ (((0 : Nat) + List.length l + (1 : Nat) = List.length l + (1 : Nat) ∧ contLe ((0 : Nat) + List.length l + (1 : Nat)) (1 : Nat) (appRow ((0 : Nat) + List.length l) (appRow (0 : Nat) (fun (k j : Nat) => AV.junk) (cellsOf' encI l)) fun (k j : Nat) => Ax.get [AV.s (Value.int IntKind.i64 (77 : Int))] (k * (1 : Nat) + j)) (cellsOf' encI (l ++ [(77 : Int)]))) ∧ (vcCe_q1) ∧ True) ∧ true = true) ∧ LoopOk Tryd.prog (3 : Nat) (7 : Nat) (loopAt Tryd.prog (3 : Nat) (7 : Nat)) { t := cwT0 l (0 : Nat), m := cwB0 l, mv := [] : St } (T.map (lout [(0 : Nat), (1 : Nat), (2 : Nat), (3 : Nat), (4 : Nat), (5 : Nat), (6 : Nat), (7 : Nat)] (cwS l (yE (1 : Int)))) ((fun (x : Nat) => T.ret ()) (0 : Nat))) ∧ (((true = true ∧ List.length l = List.length l ∧ contLe (List.length l) (1 : Nat) (cellsOf' encI l) (cellsOf' encI l)) ∧ true = true ∧ ((0 : Nat) = (0 : Nat) ∧ List.length l = List.length l) ∧ (1 : Int) = (1 : Int) ∧ (1 : Int) = (1 : Int) ∧ true = true ∧ (0 : Int) = (0 : Int) ∧ True) ∧ ((List.length l + (1 : Nat) = List.length l + (1 : Nat) ∧ contLe (List.length l + (1 : Nat)) (1 : Nat) (cellsOf' encI (l ++ [(77 : Int)])) (cellsOf' encI (l ++ [(77 : Int)]))) ∧ True) ∧ true = true) ∧ LoopOk Tryd.prog (3 : Nat) (11 : Nat) (loopAt Tryd.prog (3 : Nat) (11 : Nat)) { t := cxT l (yE (1 : Int)) (0 : Nat), m := [cwM l], mv := [] : St } (T.map (lout [(0 : Nat), (1 : Nat), (2 : Nat), (3 : Nat), (4 : Nat), (5 : Nat), (6 : Nat), (7 : Nat)] (cxS l (yE (1 : Int)))) ((fun (x : Nat) => T.ret ()) (0 : Nat))) ∧ (true = true → (true = true → (true = true → (0 : Int) ≤ (0 : Int) ∧ (0 : Int) ≤ IntKind.wrap IntKind.i64 ((↑(List.length l) : Int) + (1 : Int)) ∧ IntKind.wrap IntKind.i64 ((↑(List.length l) : Int) + (1 : Int)) ≤ (↑(List.length l + (1 : Nat)) : Int) ∧ (true && decide ((↑(List.length l) : Int) < (↑(Int.toNat (IntKind.wrap IntKind.i64 ((↑(List.length l) : Int) + (1 : Int))) - (0 : Nat)) : Int))) = true ∧ decide ((0 : Nat) + Int.toNat (↑(List.length l) : Int) < List.length l + (1 : Nat)) = true ∧ (List.getD (l ++ [(77 : Int)]) ((0 : Nat) + Int.toNat (↑(List.length l) : Int)) (0 : Int) == (77 : Int)) = true ∧ True) ∧ (true = false → false = true ∧ True)) ∧ (true = false → false = true ∧ True)) ∧ (true = false → false = true ∧ True)
set_option maxRecDepth 1000000 in
theorem vcCe_eq (id : Int) (l : List Int) (p : Int) : (ctrVC Tryd.prog (ceH id l p) 3 [.y (.int .i64 id), encIs true l, .y (.int .u64 p)] [] (boolR true)) = vcCe id l p := by kernel_rfl
end Go.Proofs.YtdpbogaldcpfeaaDoor.C

/-! New by the document and by the program: the same. -/
namespace Go.Proofs.YtdpbogaldcpfeaaDoor.C
open Go.Ax
theorem srt_perm (l : List Int) : (srt l).Perm l := List.mergeSort_perm l _
theorem srt_sorted (l : List Int) : (srt l).Pairwise (fun x y => x ≤ y) := by
  have := List.pairwise_mergeSort (le := fun x y : Int => decide (x ≤ y)) (fun a b c h1 h2 => by simp at *; omega) (fun a b => by simp; omega) l
  exact this.imp fun h => by simpa using h
/-- what is kept when runs of equals come to one -/
theorem keep_all {l : List Int} (h : ∀ j, j < l.length → Lib.keeps l.toArray j = true) : (Lib.compact l).length = l.length := by
  unfold Lib.compact Lib.compactUpTo
  rw [List.length_map, List.filter_eq_self.2 (fun j hj => h j (by simpa using hj))]
  simp
theorem keep_not {l : List Int} {j : Nat} (hj : j < l.length) (h : Lib.keeps l.toArray j = false) : ¬ (Lib.compact l).length = l.length := by
  unfold Lib.compact Lib.compactUpTo
  rw [List.length_map]
  intro e
  have h1 : ((List.range l.length).filter (Lib.keeps l.toArray)).length = (List.range l.length).length := by rw [e]; simp
  have h2 := List.filter_eq_self.1 (List.Sublist.eq_of_length (List.filter_sublist (p := Lib.keeps l.toArray) (l := List.range l.length)) h1)
  have := h2 j (by simpa using hj)
  rw [h] at this
  cases this
theorem keep_iff {s : List Int} {j : Nat} (hj : j < s.length) : Lib.keeps s.toArray j = true ↔ (j = 0 ∨ ¬ s[j] = s[j - 1]'(by omega)) := by
  unfold Lib.keeps
  rw [decide_eq_true_iff]
  have e1 : s.toArray[j]! = s[j] := by simp [hj]
  have e2 : s.toArray[j - 1]! = s[j - 1]'(by omega) := by
    have : j - 1 < s.length := by omega
    simp [this]
  rw [e1, e2]
theorem compact_nodup (l : List Int) : ((Lib.compact (srt l)).length = l.length) ↔ l.Nodup := by
  have hl := srt_len l
  have hs := srt_sorted l
  have hp : (srt l).Nodup ↔ l.Nodup := (srt_perm l).nodup_iff
  rw [← hp, ← hl]
  generalize srt l = s at *
  rw [List.pairwise_iff_getElem] at hs
  constructor
  · intro he
    have hk : ∀ j (hj : j < s.length), j = 0 ∨ ¬ s[j] = s[j - 1]'(by omega) := by
      intro j hj
      rw [← keep_iff hj]
      cases h : Lib.keeps s.toArray j
      · exact absurd he (keep_not hj h)
      · rfl
    unfold List.Nodup
    rw [List.pairwise_iff_getElem]
    intro i j hi hj hij he2
    have h1 : s[i] ≤ s[j - 1]'(by omega) := by
      by_cases hij2 : i = j - 1
      · subst hij2
        exact Int.le_refl _
      · exact hs i (j - 1) hi (by omega) (by omega)
    have h2 : s[j - 1]'(by omega) ≤ s[j] := hs (j - 1) j (by omega) hj (by omega)
    rcases hk j hj with h | h
    · omega
    · omega
  · intro hn
    refine keep_all fun j hj => ?_
    rw [keep_iff hj]
    by_cases h0 : j = 0
    · exact .inl h0
    · refine .inr fun e => ?_
      unfold List.Nodup at hn
      rw [List.pairwise_iff_getElem] at hn
      exact hn (j - 1) j (by omega) hj (by omega) e.symm
/-! the document's loops -/
theorem bad_iff (id : Int) (l : List Int) : ∀ (f i : Nat), badF id l f i = true ↔ ∃ j, i ≤ j ∧ j < i + f ∧ bad1 id l j = true
  | 0, i => by
    unfold badF
    constructor
    · intro h; cases h
    · rintro ⟨j, h1, h2, _⟩; omega
  | f + 1, i => by
    unfold badF
    rw [Bool.or_eq_true, bad_iff id l f (i + 1)]
    constructor
    · rintro (h | ⟨j, h1, h2, h3⟩)
      · exact ⟨i, Nat.le_refl _, by omega, h⟩
      · exact ⟨j, by omega, by omega, h3⟩
    · rintro ⟨j, h1, h2, h3⟩
      by_cases hj : j = i
      · subst hj; exact .inl h3
      · exact .inr ⟨j, by omega, by omega, h3⟩
theorem dup_iff {l : List Int} {i : Nat} (hi : i < l.length) : dupK l i 0 = true ↔ ∃ k, ∃ (hk : k < i), l[k]'(by omega) = l[i] := by
  unfold dupK
  rw [List.drop_zero, List.any_eq_true]
  have e : l.getD i 0 = l[i] := by simp [hi]
  rw [e]
  constructor
  · rintro ⟨x, hx, hxe⟩
    obtain ⟨k, hk, rfl⟩ := List.mem_iff_getElem.1 hx
    simp only [List.length_take] at hk
    refine ⟨k, by omega, ?_⟩
    rw [List.getElem_take] at hxe
    simpa using hxe
  · rintro ⟨k, hk, hke⟩
    refine ⟨l[k]'(by omega), ?_, by simpa using hke⟩
    exact List.mem_iff_getElem.2 ⟨k, by simp; omega, by rw [List.getElem_take]⟩
theorem bad_all (id : Int) (l : List Int) : badF id l l.length 0 = false ↔ ((∀ x ∈ l, out1 id x = false) ∧ l.Nodup) := by
  constructor
  · intro h
    have hn : ∀ j, j < l.length → bad1 id l j = false := by
      intro j hj
      cases hb : bad1 id l j
      · rfl
      · have := (bad_iff id l l.length 0).2 ⟨j, Nat.zero_le _, by omega, hb⟩
        rw [h] at this
        cases this
    refine ⟨fun x hx => ?_, ?_⟩
    · obtain ⟨k, hk, rfl⟩ := List.mem_iff_getElem.1 hx
      have := hn k hk
      unfold bad1 at this
      rw [Bool.or_eq_false_iff] at this
      have e : l.getD k 0 = l[k] := by simp [hk]
      rw [e] at this
      exact this.1
    · unfold List.Nodup
      rw [List.pairwise_iff_getElem]
      intro i j hi hj hij he
      have := hn j hj
      unfold bad1 at this
      rw [Bool.or_eq_false_iff] at this
      have hd := (dup_iff hj).2 ⟨i, hij, he⟩
      rw [this.2] at hd
      cases hd
  · rintro ⟨h1, h2⟩
    cases hb : badF id l l.length 0
    · rfl
    · obtain ⟨j, _, hj, hbj⟩ := (bad_iff id l l.length 0).1 hb
      have hj : j < l.length := by omega
      unfold bad1 at hbj
      rw [Bool.or_eq_true] at hbj
      have e : l.getD j 0 = l[j] := by simp [hj]
      rw [e] at hbj
      rcases hbj with hbj | hbj
      · rw [h1 _ (List.getElem_mem hj)] at hbj
        cases hbj
      · obtain ⟨k, hk, hke⟩ := (dup_iff hj).1 hbj
        unfold List.Nodup at h2
        rw [List.pairwise_iff_getElem] at h2
        exact absurd hke (h2 k j (by omega) hj hk)
theorem out_srv (id x : Int) : srvB id x = out1 id x := by
  unfold srvB out1
  by_cases h1 : x < 1
  · simp [h1]
  · by_cases h2 : 7 < x
    · simp [h1, h2]
    · have h3 : 1 ≤ x := by omega
      have h4 : x ≤ 7 := by omega
      simp [h1, h2, h3, h4]
theorem any_srt (id : Int) (l : List Int) : nwAny id (srt l) = false ↔ ∀ x ∈ l, out1 id x = false := by
  unfold nwAny
  rw [List.any_eq_false]
  constructor
  · intro h x hx
    have := h x ((srt_perm l).mem_iff.2 hx)
    rw [out_srv] at this
    simpa using this
  · intro h x hx
    have := h x ((srt_perm l).mem_iff.1 hx)
    rw [out_srv, this]
    exact Bool.false_ne_true
theorem newB_ref (id : Int) (l : List Int) (p : Int) : newB id l p = refB id l p := by
  have h : (!(nwAny id (srt l)) && (Lib.compact (srt l)).length == l.length) = !(badF id l l.length 0) := by
    rw [Bool.eq_iff_iff, Bool.and_eq_true, Bool.not_eq_true', Bool.not_eq_true', beq_iff_eq, any_srt, compact_nodup, bad_all]
  unfold newB refB
  rw [h]
end Go.Proofs.YtdpbogaldcpfeaaDoor.C

/-! New: the law: the code. -/
namespace Go.Proofs.YtdpbogaldcpfeaaDoor.C
open Go.Ax
set_option maxRecDepth 1000000
theorem nine : ∀ j, j < 1 → le0 (Ax.get [AV.s (Value.int IntKind.i64 99)] j) (Ax.get (encI 99) j) := by
  intro j hj
  obtain rfl : j = 0 := by omega
  exact rfl
theorem cw_loop (l : List Int) (c : Clt) (hl : l.length ≤ 9223372036854775806) (q : CwI l) : LoopOk Tryd.prog 3 7 (loopAt Tryd.prog 3 7) ⟨cwT l q, cwB l c q.L, []⟩ (T.map (lout [0, 1, 2, 3, 4, 5, 6, 7] (cwS l (nE 0))) (.ret ())) := by
  refine loop_vcH (P := Tryd.prog) (f := 3) (k := 7) (ι := CwI l) (μ := fun q => l.length - q.k) (ht := fun _ => hT _) (stT := cwT l) (stM := fun q => cwB l c q.L) (X := [0, 1, 2, 3, 4, 5, 6, 7]) (o := fun _ => .ret ()) (S := cwS l (nE 0)) Tryd.mixed (fun _ => rfl) (fun q => ?_) q
  rw [vcCwL_eq l c q]
  unfold vcCwL
  by_cases hk : q.k < l.length
  · have hz : decide ((q.k : Int) < l.length) = true := by simp; omega
    have hw : IntKind.i64.wrap ((q.k : Int) + 1) = ((q.k + 1 : Nat) : Int) := by rw [wrap_i64 (by omega) (by omega)]; omega
    have hn := q.n
    have hwr := wr_le (enc := encI) (l := q.L) (n := l.length) (sz := 1) (i := q.k) (x := 99) (cs := [.s (.int .i64 99)]) hn.symm (by omega) rfl nine
    simp only [hz, hw, Int.toNat_natCast, Nat.zero_add]
    simp [hk]
    exact ⟨⟨q.k + 1, q.L.set q.k 99, by simp [hn]⟩, by show l.length - (q.k + 1) < l.length - q.k; omega, rfl, hwr⟩
  · have hz : decide ((q.k : Int) < l.length) = false := by simp; omega
    simp only [hz]
    simp
theorem cw0_loop (l : List Int) : LoopOk Tryd.prog 3 7 (loopAt Tryd.prog 3 7) ⟨cwT0 l 0, cwB0 l, []⟩ (T.map (lout [0, 1, 2, 3, 4, 5, 6, 7] (cwS l (yE 1))) (.ret ())) := by
  refine loop_vcH (P := Tryd.prog) (f := 3) (k := 7) (ι := Nat) (μ := fun k => 0 - k) (ht := fun _ => hT _) (stT := cwT0 l) (stM := fun _ => cwB0 l) (X := [0, 1, 2, 3, 4, 5, 6, 7]) (o := fun _ => .ret ()) (S := cwS l (yE 1)) Tryd.mixed (fun _ => rfl) (fun k => ?_) 0
  rw [vcCwL0_eq l k]
  unfold vcCwL0
  have hz : decide ((k : Int) < ((0 : Nat) : Int)) = false := by simp
  simp only [hz]
  simp
theorem cx_at (l : List Int) {k : Nat} (hk : k < l.length) : (l ++ [77]).getD k 0 = l.getD k 0 := by
  simp [List.getElem?_append, hk]
theorem cx_loop (l : List Int) (hl : l.length ≤ 9223372036854775806) (k : Nat) : LoopOk Tryd.prog 3 11 (loopAt Tryd.prog 3 11) ⟨cxT l (nE 0) k, [cwM l], []⟩ (T.map (lout [0, 1, 2, 3, 4, 5, 6, 7] (cxS l (nE 0))) (.ret ())) := by
  refine loop_vcH (P := Tryd.prog) (f := 3) (k := 11) (ι := Nat) (μ := fun k => l.length - k) (ht := fun _ => hT _) (stT := cxT l (nE 0)) (stM := fun _ => [cwM l]) (X := [0, 1, 2, 3, 4, 5, 6, 7]) (o := fun _ => .ret ()) (S := cxS l (nE 0)) Tryd.mixed (fun _ => rfl) (fun k => ?_) k
  rw [vcCxL_eq l k]
  unfold vcCxL
  by_cases hk : k < l.length
  · have hz : decide ((k : Int) < l.length) = true := by simp; omega
    have hw : IntKind.i64.wrap ((k : Int) + 1) = ((k + 1 : Nat) : Int) := by rw [wrap_i64 (by omega) (by omega)]; omega
    have hc := cx_at l hk
    have hk1 : k < l.length + 1 := by omega
    simp only [hz, hw, Int.toNat_natCast, Nat.zero_add, hc]
    simp [hk, hk1]
    exact ⟨k + 1, by omega, by omega⟩
  · have hz : decide ((k : Int) < l.length) = false := by simp; omega
    simp only [hz]
    simp
theorem cxE_loop (l : List Int) (hl : l.length ≤ 9223372036854775806) (k : Nat) : LoopOk Tryd.prog 3 11 (loopAt Tryd.prog 3 11) ⟨cxT l (yE 1) k, [cwM l], []⟩ (T.map (lout [0, 1, 2, 3, 4, 5, 6, 7] (cxS l (yE 1))) (.ret ())) := by
  refine loop_vcH (P := Tryd.prog) (f := 3) (k := 11) (ι := Nat) (μ := fun k => l.length - k) (ht := fun _ => hT _) (stT := cxT l (yE 1)) (stM := fun _ => [cwM l]) (X := [0, 1, 2, 3, 4, 5, 6, 7]) (o := fun _ => .ret ()) (S := cxS l (yE 1)) Tryd.mixed (fun _ => rfl) (fun k => ?_) k
  rw [vcCxE_eq l k]
  unfold vcCxE
  by_cases hk : k < l.length
  · have hz : decide ((k : Int) < l.length) = true := by simp; omega
    have hw : IntKind.i64.wrap ((k : Int) + 1) = ((k + 1 : Nat) : Int) := by rw [wrap_i64 (by omega) (by omega)]; omega
    have hc := cx_at l hk
    have hk1 : k < l.length + 1 := by omega
    simp only [hz, hw, Int.toNat_natCast, Nat.zero_add, hc]
    simp [hk, hk1]
    exact ⟨k + 1, by omega, by omega⟩
  · have hz : decide ((k : Int) < l.length) = false := by simp; omega
    simp only [hz]
    simp
theorem app_lo (l : List Int) (f : Nat → Nat → AV) : contLe l.length 1 (appRow l.length (cellsOf' encI l) f) (cellsOf' encI l) := by
  intro k hk j _
  unfold appRow
  rw [if_pos hk]
  exact le0_refl _
theorem nl_row (l : List Int) : contLe (l.length + 1) 1 (appRow l.length (cellsOf' encI l) fun k j => Ax.get [.s (.int .i64 77)] (k + j)) (cellsOf' encI (l ++ [77])) := by
  have : (fun k j => Ax.get [AV.s (.int .i64 77)] (k + j)) = fun k j => Ax.get [AV.s (.int .i64 77)] (k * 1 + j) := by
    funext k j
    rw [Nat.mul_one]
  rw [this]
  refine app1_le (enc := encI) (l := l) (n := l.length) (sz := 1) (x := 77) (cs := [.s (.int .i64 77)]) rfl fun j hj => ?_
  obtain rfl : j = 0 := by omega
  exact rfl
theorem nl_c (id : Int) (l : List Int) (p : Int) (hn : l.length * 8 ≤ 140737488351232) : (boolR true).Sat (ACall' Tryd.prog 3 [.y (.int .i64 id), encIs true l, .y (.int .u64 p)] []) := by
  have hll : l.length ≤ 9223372036854775806 := by omega
  have hn8 : l.length * 8 ≤ 140737488355328 := by omega
  have hrow := nl_row l
  have hlast : (l ++ [77]).getD l.length 0 = (77 : Int) := by simp
  have hwl : IntKind.i64.wrap ((l.length : Int) + 1) = (l.length : Int) + 1 := wrap_i64 (by omega) (by omega)
  cases hb : newB id l p
  · have q1 : NewQ id l p default 1 := ⟨by unfold newK; simp [hb], by unfold newE; simp [hb], hn8⟩
    have hr : refB id l p = false := by rw [← newB_ref]; exact hb
    have q2 : RfQ id l p default 1 := ⟨(fun h => by rw [hr] at h; cases h), fun _ => ⟨rfl, rfl⟩, hn8⟩
    have q3 : SmeQ (default : Clt) default := ⟨⟨by decide, by decide, by decide, by decide, fun x hx => by cases hx⟩, rfl⟩
    have l1 := cw0_loop l
    have l2 := cxE_loop l hll 0
    refine ctr_vc (ht := ceH id l p) Tryd.mixed rfl ?_
    rw [vcCe_eq id l p]
    unfold vcCe vcCe_q1
    simp [q1, q2, q3, l1, l2, hwl]
    exact ⟨⟨by omega, hn8⟩, ⟨by omega, by omega⟩, by omega, app_lo l _, hrow, by omega, by omega⟩
  · have q1 : NoQ id l p (newQ id l p) := ⟨hb, rfl, hn8⟩
    have hr : refB id l p = true := by rw [← newB_ref]; exact hb
    have q2 : RfQ id l p (newQ id l p) 0 := ⟨fun _ => ⟨rfl, rfl⟩, (fun h => by rw [hr] at h; cases h), hn8⟩
    have he : newE id l p = 0 := by unfold newE; rw [if_pos hb]
    have hi : Inv 0 (newQ id l p) := by
      have := inv_new (p := p) hn8 he
      unfold newK at this
      rwa [if_pos hb] at this
    have hs : (newQ id l p).servers = l := rfl
    have q3 : SmeQ (newQ id l p) (newQ id l p) := by
      have h1 := hi.s
      refine ⟨⟨by show (0 : Nat) ≤ _; exact Nat.zero_le _, by omega, by show (0 : Nat) ≤ _; exact Nat.zero_le _, by show (0 : Nat) ≤ _; exact Nat.zero_le _, fun x hx => by cases hx⟩, rfl⟩
    have l1 := cw_loop l (newQ id l p) hll ⟨0, l, rfl⟩
    have l2 := cx_loop l hll 0
    refine ctr_vc (ht := nlH id l p (newQ id l p) ⟨0, l, rfl⟩) Tryd.mixed rfl ?_
    rw [vcNl_eq id l p (newQ id l p) ⟨0, l, rfl⟩]
    unfold vcNl vcNl_q1
    generalize newQ id l p = c at *
    simp [q1, q2, q3, l2, hwl]
    exact ⟨⟨by omega, hn8⟩, ⟨by omega, by omega⟩, by omega, app_lo l _, fun k _ => rfl, ⟨by rw [hs], by rw [hs]; exact contLe_refl _ _ _⟩, hrow, l1, by omega, by omega⟩
end Go.Proofs.YtdpbogaldcpfeaaDoor.C

/-! New: from the statement to the law. -/
namespace Go.Proofs.YtdpbogaldcpfeaaDoor.C
open Go.Ax Go.Shelf Go.RowKit Go.ChangeShapes Go.WideShapes Go.ChangeAt
set_option maxRecDepth 1000000
def clientNew_laidL : List (String × DataW Unit) := Rows.clientNewRow.laid
noncomputable def clientNew_layW (os : Os) : World := World.laidAll Tryd.prog os clientNew_laidL
theorem clientNew_lay_met (os : Os) (args : Array Value) : laidMetH Tryd.prog clientNew_laidL ((clientNew_layW os).forCall (fun _ _ => 0) ⟨#[], args, []⟩).memory := by
  have e : ∀ w, laidMetH Tryd.prog clientNew_laidL w = laidMet Tryd.prog clientNew_laidL w := fun w => by kernel_rfl
  rw [e]
  exact laidMet_laidAll args (by kernel_rfl) (by kernel_rfl)
theorem clientNew_lifted (os : Os) (started : os.Started) (K : Type) (enc : TypeId × Value → K) :
    ReturnsInHanded {} Tryd.checked os 3 .any (fun w args => (Rows.clientNewSpec.pre enc Tryd.prog Tryd.f3 [] false w args ∧ laidMetH Tryd.prog clientNew_laidL w) ∧ sizedMet enc Tryd.prog Tryd.f3 (OpenSpec.ofChange Rows.clientNewSpec) false w args)
      (Rows.clientNewSpec.post enc Tryd.prog Tryd.f3 false true false false) := by
  refine returnsInHanded_of_change_and (C := Tryd.checked) (X := fun w _ => laidMetH Tryd.prog clientNew_laidL w) (fun _ _ _ hh h => h.of_heap hh) Tryd.own started (by kernel_rfl) Tryd.func3
    (ChangeSpec.witness_at (enc := enc) (C := Tryd.checked) (os := os) (X := fun w _ => laidMetH Tryd.prog clientNew_laidL w) false (clientNew_layW os) #[.int .i64 0, .slice Option.none 0 0, .int .u64 0] 8 rfl (by kernel_rfl) (by kernel_rfl) (by kernel_rfl) (by kernel_rfl) (by kernel_rfl) (clientNew_lay_met os _)) ?_
  intro W base args ds gs before hval0 hW hcnd hsz hL _
  have hps : Tryd.f3.params.toList = [3, 22, 23] := by kernel_rfl
  obtain ⟨p, q, hA, hV, hbef, hfz, hnd⟩ := id hW
  rw [hps] at hA hsz
  have ⟨hr, hwf⟩ := lift_all [.int .i64, .sl (.int .i64), .int .u64] (by kernel_rfl) hA
  obtain ⟨v1, v2, v3, d1, d2, d3, _, _, _, e1, rfl, _, _, _, _⟩ := trodAll_three hA
  obtain ⟨_, _, g1, w1, _, _, g2, w2, _, _, g3, w3, _⟩ := hwf
  obtain ⟨rfl, q1⟩ := List.cons.inj g1
  subst q1
  obtain ⟨rfl, q2⟩ := List.cons.inj g2
  subst q2
  obtain ⟨rfl, _⟩ := List.cons.inj g3
  subst e1
  obtain ⟨h1, hs1⟩ := weights_cons (P := Tryd.prog) (t := 3) (d := d1) hsz
  obtain ⟨h2, hs2⟩ := weights_cons (P := Tryd.prog) (t := 22) (d := d2) hs1
  obtain ⟨h3, hs3⟩ := weights_cons (P := Tryd.prog) (t := 23) (d := d3) hs2
  have r1 := hr.1
  rw [encI_ok w1] at r1
  obtain ⟨n1, rfl⟩ := okWide_int (show Tryd.prog.underlying 3 = some (.int .i64) by kernel_rfl) (hval0 0 _ _ (by kernel_rfl) rfl)
  obtain ⟨_, _, er, r1, _⟩ := r1
  cases er
  have r2 := hr.2.1
  rw [slAV_eq] at r2
  obtain ⟨s2, n2, c2, rfl⟩ := okWide_slice undIs (hval0 1 _ _ (by kernel_rfl) rfl)
  obtain ⟨_, _, er, r2, _⟩ := r2
  cases er
  have r2 := relIs w2 r2
  have r3 := hr.2.2.1
  rw [encI_ok w3] at r3
  obtain ⟨n3, rfl⟩ := okWide_int (show Tryd.prog.underlying 23 = some (.int .u64) by kernel_rfl) (hval0 2 _ _ (by kernel_rfl) rfl)
  obtain ⟨_, _, er, r3, _⟩ := r3
  cases er
  refine open_calls (call_of (nl_c _ _ _ (is_sized h2))) (t := 4) (ds := [d1, d2, d3]) ⟨_, _, rfl, r1, _, _, rfl, r2, _, _, rfl, r3, rfl⟩ (by kernel_rfl) underBool rfl rfl Tryd.laidOut Tryd.mapsRowed Tryd.slicesOk (by rw [hps]; intro t ht; simp only [List.mem_cons, List.not_mem_nil, or_false] at ht; rcases ht with rfl | rfl | rfl <;> exact of_decide_eq_true (by kernel_rfl)) hW
theorem clientNew_holds : Rows.ClientNewSaid :=
  OpenClaim.holds_of_wide 3 Tryd.f3 rfl rfl rfl rfl rfl rfl rfl ⟨rfl, rfl, rfl, rfl, rfl⟩ rfl rfl rfl rfl rfl (by kernel_rfl) Tryd.func3 (by kernel_rfl)
    (of_decide_eq_true (by kernel_rfl)) (by unfold Func.isWrapper; first | (rw [if_pos (by decide +kernel)]; kernel_rfl) | (rw [if_neg (by decide +kernel)]; exact ⟨rfl, rfl⟩))
    (fun os started H enc _ => clientNew_lifted os started H enc)
theorem clientNew_said : Rows.ClientNewCardSaid :=
  Claim7.holds_tied_plain_at .later [] [.data, .pinned] true (true, "d686f48c37c53b8b17edd79b07371d72aa1eab26c4c3d22259758825fe5fa4ef") false
    clientNew_holds (fun _ h => by cases h) (by kernel_rfl) (fun _ h => by cases h) clientNew_row_tie rfl ⟨rfl, rfl⟩ (by kernel_rfl) rfl
    (fun f fn hf hfn => by
      obtain rfl : f = 3 := Option.some.inj ((show Tryd.prog.funcNamed "gazette/gazettelaw21.ClientNew" = some 3 by kernel_rfl).symm.trans hf) |>.symm
      obtain rfl : fn = Tryd.f3 := (Option.some.inj (Tryd.func3.symm.trans hfn)).symm
      exact ⟨by kernel_rfl, fun j t ht => by
        rw [show Tryd.f3.params = #[3, 22, 23] by kernel_rfl] at ht
        have h3 : t = 3 ∨ t = 22 ∨ t = 23 := by
          rcases j with _ | _ | _ | j
          · exact Or.inl (by simpa using ht.symm)
          · exact Or.inr (Or.inl (by simpa using ht.symm))
          · exact Or.inr (Or.inr ((by simpa using ht.symm)))
          · simp at ht
        rcases h3 with rfl | rfl | rfl
        · exact (show Tryd.prog.wantsStandIn 3 = false by kernel_rfl)
        · exact (show Tryd.prog.wantsStandIn 22 = false by kernel_rfl)
        · exact (show Tryd.prog.wantsStandIn 23 = false by kernel_rfl)⟩)
    (by kernel_rfl)
end Go.Proofs.YtdpbogaldcpfeaaDoor.C
namespace Go.Proofs.YtdpbogaldcpfeaaDoor
theorem new_said : Rows.ClientNewCardSaid := C.clientNew_said
end Go.Proofs.YtdpbogaldcpfeaaDoor
