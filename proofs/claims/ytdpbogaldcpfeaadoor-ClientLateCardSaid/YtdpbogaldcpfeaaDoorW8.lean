/- PROVED: ClientLate -/
import Derived.Test.YtdpbogaldcpfeaaDoorW7
set_option linter.unusedVariables false
set_option linter.unusedSimpArgs false
set_option linter.unusedSectionVars false
/-! Late replies: the conditions. -/
--fold
namespace Go.Proofs.YtdpbogaldcpfeaaDoor.C
open Go.Ax
set_option maxRecDepth 1000000
def encIns (l : List Inp) : AV := .ys true 32 l.length (cellsOf' encIn l)
def ltT (l : List Inp) (k : Nat) : List AV := mkT 85 [(2, encIns l), (7, .ptr 0 0 0 0), (10, .ptr 1 0 0 0), (12, .y (.int .i64 k))]
def ltM (r : Rep) (c : Clt) : List Blk := [.box 52 (encRp r), .box 35 (encC0 true c)]
def ltS (_ : Unit) : Exit × List AV × List Blk := (.exit 0, mkT 85 [], [])
noncomputable def ltLH (c : Clt) (i : Inp) (y : Nod) (e : Int) (x : Rep) (z : Nod) : HintsT Tryd.prog := withSh (hh _ noLp (cs1 7 8 5 (stG true c i y e) (cs1 7 13 3 (stG true y.c ⟨2, default, x⟩ z 0) (cs1 7 14 13 (smC false true z.c y.c) noCs))) noOp) (sh1 7 9 0 779 noSh)
def vcLtL_q1 (y : Nod) : Prop := (y.c.id = y.c.id ∧ (true = true ∧ List.length y.c.servers = List.length y.c.servers ∧ contLe (List.length y.c.servers) (1 : Nat) (cellsOf' encI y.c.servers) (cellsOf' encI y.c.servers)) ∧ y.c.prod = y.c.prod ∧ y.c.seq = y.c.seq ∧ (true = true ∧ List.length y.c.topics = List.length y.c.topics ∧ contLe (List.length y.c.topics) (2 : Nat) (Ax.rowAt (0 : Nat) (cellsOf' encTp y.c.topics)) (cellsOf' encTp y.c.topics)) ∧ (true = true ∧ List.length y.c.leaders = List.length y.c.leaders ∧ contLe (List.length y.c.leaders) (2 : Nat) (Ax.rowAt (0 : Nat) (cellsOf' encSi y.c.leaders)) (cellsOf' encSi y.c.leaders)) ∧ y.c.busy = y.c.busy ∧ y.c.call.kind = y.c.call.kind ∧ y.c.call.topic = y.c.call.topic ∧ y.c.call.key = y.c.call.key ∧ (true = true ∧ List.length y.c.call.val = List.length y.c.call.val ∧ contLe (List.length y.c.call.val) (1 : Nat) (cellsOf' encB y.c.call.val) (cellsOf' encB y.c.call.val)) ∧ y.c.call.off = y.c.call.off ∧ y.c.call.most = y.c.call.most ∧ y.c.call.name = y.c.call.name ∧ y.c.call.adm.kind = y.c.call.adm.kind ∧ y.c.call.adm.prod = y.c.call.adm.prod ∧ y.c.call.adm.seq = y.c.call.adm.seq ∧ y.c.call.adm.topic = y.c.call.adm.topic ∧ (true = true ∧ List.length y.c.call.adm.nodes = List.length y.c.call.adm.nodes ∧ contLe (List.length y.c.call.adm.nodes) (1 : Nat) (cellsOf' encI y.c.call.adm.nodes) (cellsOf' encI y.c.call.adm.nodes)) ∧ y.c.call.adm.group = y.c.call.adm.group ∧ y.c.call.adm.other = y.c.call.adm.other ∧ y.c.call.adm.key = y.c.call.adm.key ∧ y.c.call.adm.fr = y.c.call.adm.fr ∧ y.c.call.adm.to = y.c.call.adm.to ∧ y.c.call.adm.plan = y.c.call.adm.plan ∧ y.c.call.adm.step = y.c.call.adm.step ∧ y.c.number = y.c.number ∧ y.c.route = y.c.route ∧ y.c.group = y.c.group ∧ y.c.tries = y.c.tries ∧ y.c.waited = y.c.waited ∧ y.c.again = y.c.again ∧ y.c.at' = y.c.at' ∧ True)
def vcLtL_q2 (y : Nod) (z : Nod) : Prop := ((z.c.id = z.c.id ∧ (true = true ∧ List.length z.c.servers = List.length z.c.servers ∧ contLe (List.length z.c.servers) (1 : Nat) (cellsOf' encI z.c.servers) (cellsOf' encI z.c.servers)) ∧ z.c.prod = z.c.prod ∧ z.c.seq = z.c.seq ∧ (false = false ∧ List.length z.c.topics = List.length z.c.topics ∧ contLe (List.length z.c.topics) (2 : Nat) (Ax.rowAt (0 : Nat) (cellsOf' encTp z.c.topics)) (cellsOf' encTp z.c.topics)) ∧ (false = false ∧ List.length z.c.leaders = List.length z.c.leaders ∧ contLe (List.length z.c.leaders) (2 : Nat) (Ax.rowAt (0 : Nat) (cellsOf' encSi z.c.leaders)) (cellsOf' encSi z.c.leaders)) ∧ z.c.busy = z.c.busy ∧ z.c.call.kind = z.c.call.kind ∧ z.c.call.topic = z.c.call.topic ∧ z.c.call.key = z.c.call.key ∧ (true = true ∧ List.length z.c.call.val = List.length z.c.call.val ∧ contLe (List.length z.c.call.val) (1 : Nat) (cellsOf' encB z.c.call.val) (cellsOf' encB z.c.call.val)) ∧ z.c.call.off = z.c.call.off ∧ z.c.call.most = z.c.call.most ∧ z.c.call.name = z.c.call.name ∧ z.c.call.adm.kind = z.c.call.adm.kind ∧ z.c.call.adm.prod = z.c.call.adm.prod ∧ z.c.call.adm.seq = z.c.call.adm.seq ∧ z.c.call.adm.topic = z.c.call.adm.topic ∧ (true = true ∧ List.length z.c.call.adm.nodes = List.length z.c.call.adm.nodes ∧ contLe (List.length z.c.call.adm.nodes) (1 : Nat) (cellsOf' encI z.c.call.adm.nodes) (cellsOf' encI z.c.call.adm.nodes)) ∧ z.c.call.adm.group = z.c.call.adm.group ∧ z.c.call.adm.other = z.c.call.adm.other ∧ z.c.call.adm.key = z.c.call.adm.key ∧ z.c.call.adm.fr = z.c.call.adm.fr ∧ z.c.call.adm.to = z.c.call.adm.to ∧ z.c.call.adm.plan = z.c.call.adm.plan ∧ z.c.call.adm.step = z.c.call.adm.step ∧ z.c.number = z.c.number ∧ z.c.route = z.c.route ∧ z.c.group = z.c.group ∧ z.c.tries = z.c.tries ∧ z.c.waited = z.c.waited ∧ z.c.again = z.c.again ∧ z.c.at' = z.c.at' ∧ True) ∧ (vcLtL_q1 y) ∧ True)
def vcLtL (cs : Nat → Clt) (l : List Inp) (r : Rep) (i : Inp) (y : Nod) (e : Int) (x : Rep) (z : Nod) (k : Nat) : Prop :=
  (decide ((↑k : Int) < (↑(List.length l) : Int)) = true → (true && decide ((↑k : Int) < (↑(List.length l) : Int))) = true ∧ (((cs k).id = (cs k).id ∧ (true = true ∧ List.length (cs k).servers = List.length (cs k).servers ∧ contLe (List.length (cs k).servers) (1 : Nat) (cellsOf' encI (cs k).servers) (cellsOf' encI (cs k).servers)) ∧ (cs k).prod = (cs k).prod ∧ (cs k).seq = (cs k).seq ∧ (true = true ∧ List.length (cs k).topics = List.length (cs k).topics ∧ contLe (List.length (cs k).topics) (2 : Nat) (cellsOf' encTp (cs k).topics) (cellsOf' encTp (cs k).topics)) ∧ (true = true ∧ List.length (cs k).leaders = List.length (cs k).leaders ∧ contLe (List.length (cs k).leaders) (2 : Nat) (cellsOf' encSi (cs k).leaders) (cellsOf' encSi (cs k).leaders)) ∧ (cs k).busy = (cs k).busy ∧ (cs k).call.kind = (cs k).call.kind ∧ (cs k).call.topic = (cs k).call.topic ∧ (cs k).call.key = (cs k).call.key ∧ (true = true ∧ List.length (cs k).call.val = List.length (cs k).call.val ∧ contLe (List.length (cs k).call.val) (1 : Nat) (cellsOf' encB (cs k).call.val) (cellsOf' encB (cs k).call.val)) ∧ (cs k).call.off = (cs k).call.off ∧ (cs k).call.most = (cs k).call.most ∧ (cs k).call.name = (cs k).call.name ∧ (cs k).call.adm.kind = (cs k).call.adm.kind ∧ (cs k).call.adm.prod = (cs k).call.adm.prod ∧ (cs k).call.adm.seq = (cs k).call.adm.seq ∧ (cs k).call.adm.topic = (cs k).call.adm.topic ∧ (true = true ∧ List.length (cs k).call.adm.nodes = List.length (cs k).call.adm.nodes ∧ contLe (List.length (cs k).call.adm.nodes) (1 : Nat) (cellsOf' encI (cs k).call.adm.nodes) (cellsOf' encI (cs k).call.adm.nodes)) ∧ (cs k).call.adm.group = (cs k).call.adm.group ∧ (cs k).call.adm.other = (cs k).call.adm.other ∧ (cs k).call.adm.key = (cs k).call.adm.key ∧ (cs k).call.adm.fr = (cs k).call.adm.fr ∧ (cs k).call.adm.to = (cs k).call.adm.to ∧ (cs k).call.adm.plan = (cs k).call.adm.plan ∧ (cs k).call.adm.step = (cs k).call.adm.step ∧ (cs k).number = (cs k).number ∧ (cs k).route = (cs k).route ∧ (cs k).group = (cs k).group ∧ (cs k).tries = (cs k).tries ∧ (cs k).waited = (cs k).waited ∧ (cs k).again = (cs k).again ∧ (cs k).at' = (cs k).at' ∧ True) ∧ ((List.getD l (Int.toNat (↑k : Int)) (@default Inp instInhabitedInp)).kind = (List.getD l k (@default Inp instInhabitedInp)).kind ∧ (List.getD l (Int.toNat (↑k : Int)) (@default Inp instInhabitedInp)).call.kind = (List.getD l k (@default Inp instInhabitedInp)).call.kind ∧ (List.getD l (Int.toNat (↑k : Int)) (@default Inp instInhabitedInp)).call.topic = (List.getD l k (@default Inp instInhabitedInp)).call.topic ∧ (List.getD l (Int.toNat (↑k : Int)) (@default Inp instInhabitedInp)).call.key = (List.getD l k (@default Inp instInhabitedInp)).call.key ∧ (true = true ∧ List.length (List.getD l (Int.toNat (↑k : Int)) (@default Inp instInhabitedInp)).call.val = List.length (List.getD l k (@default Inp instInhabitedInp)).call.val ∧ contLe (List.length (List.getD l (Int.toNat (↑k : Int)) (@default Inp instInhabitedInp)).call.val) (1 : Nat) (cellsOf' encB (List.getD l (Int.toNat (↑k : Int)) (@default Inp instInhabitedInp)).call.val) (cellsOf' encB (List.getD l k (@default Inp instInhabitedInp)).call.val)) ∧ (List.getD l (Int.toNat (↑k : Int)) (@default Inp instInhabitedInp)).call.off = (List.getD l k (@default Inp instInhabitedInp)).call.off ∧ (List.getD l (Int.toNat (↑k : Int)) (@default Inp instInhabitedInp)).call.most = (List.getD l k (@default Inp instInhabitedInp)).call.most ∧ (List.getD l (Int.toNat (↑k : Int)) (@default Inp instInhabitedInp)).call.name = (List.getD l k (@default Inp instInhabitedInp)).call.name ∧ (List.getD l (Int.toNat (↑k : Int)) (@default Inp instInhabitedInp)).call.adm.kind = (List.getD l k (@default Inp instInhabitedInp)).call.adm.kind ∧ (List.getD l (Int.toNat (↑k : Int)) (@default Inp instInhabitedInp)).call.adm.prod = (List.getD l k (@default Inp instInhabitedInp)).call.adm.prod ∧ (List.getD l (Int.toNat (↑k : Int)) (@default Inp instInhabitedInp)).call.adm.seq = (List.getD l k (@default Inp instInhabitedInp)).call.adm.seq ∧ (List.getD l (Int.toNat (↑k : Int)) (@default Inp instInhabitedInp)).call.adm.topic = (List.getD l k (@default Inp instInhabitedInp)).call.adm.topic ∧ (true = true ∧ List.length (List.getD l (Int.toNat (↑k : Int)) (@default Inp instInhabitedInp)).call.adm.nodes = List.length (List.getD l k (@default Inp instInhabitedInp)).call.adm.nodes ∧ contLe (List.length (List.getD l (Int.toNat (↑k : Int)) (@default Inp instInhabitedInp)).call.adm.nodes) (1 : Nat) (cellsOf' encI (List.getD l (Int.toNat (↑k : Int)) (@default Inp instInhabitedInp)).call.adm.nodes) (cellsOf' encI (List.getD l k (@default Inp instInhabitedInp)).call.adm.nodes)) ∧ (List.getD l (Int.toNat (↑k : Int)) (@default Inp instInhabitedInp)).call.adm.group = (List.getD l k (@default Inp instInhabitedInp)).call.adm.group ∧ (List.getD l (Int.toNat (↑k : Int)) (@default Inp instInhabitedInp)).call.adm.other = (List.getD l k (@default Inp instInhabitedInp)).call.adm.other ∧ (List.getD l (Int.toNat (↑k : Int)) (@default Inp instInhabitedInp)).call.adm.key = (List.getD l k (@default Inp instInhabitedInp)).call.adm.key ∧ (List.getD l (Int.toNat (↑k : Int)) (@default Inp instInhabitedInp)).call.adm.fr = (List.getD l k (@default Inp instInhabitedInp)).call.adm.fr ∧ (List.getD l (Int.toNat (↑k : Int)) (@default Inp instInhabitedInp)).call.adm.to = (List.getD l k (@default Inp instInhabitedInp)).call.adm.to ∧ (List.getD l (Int.toNat (↑k : Int)) (@default Inp instInhabitedInp)).call.adm.plan = (List.getD l k (@default Inp instInhabitedInp)).call.adm.plan ∧ (List.getD l (Int.toNat (↑k : Int)) (@default Inp instInhabitedInp)).call.adm.step = (List.getD l k (@default Inp instInhabitedInp)).call.adm.step ∧ (List.getD l (Int.toNat (↑k : Int)) (@default Inp instInhabitedInp)).rep.id = (List.getD l k (@default Inp instInhabitedInp)).rep.id ∧ (List.getD l (Int.toNat (↑k : Int)) (@default Inp instInhabitedInp)).rep.err = (List.getD l k (@default Inp instInhabitedInp)).rep.err ∧ (List.getD l (Int.toNat (↑k : Int)) (@default Inp instInhabitedInp)).rep.leader = (List.getD l k (@default Inp instInhabitedInp)).rep.leader ∧ (List.getD l (Int.toNat (↑k : Int)) (@default Inp instInhabitedInp)).rep.rerr = (List.getD l k (@default Inp instInhabitedInp)).rep.rerr ∧ (List.getD l (Int.toNat (↑k : Int)) (@default Inp instInhabitedInp)).rep.roff = (List.getD l k (@default Inp instInhabitedInp)).rep.roff ∧ (List.getD l (Int.toNat (↑k : Int)) (@default Inp instInhabitedInp)).rep.rold = (List.getD l k (@default Inp instInhabitedInp)).rep.rold ∧ (true = true ∧ List.length (List.getD l (Int.toNat (↑k : Int)) (@default Inp instInhabitedInp)).rep.recs = List.length (List.getD l k (@default Inp instInhabitedInp)).rep.recs ∧ contLe (List.length (List.getD l (Int.toNat (↑k : Int)) (@default Inp instInhabitedInp)).rep.recs) (5 : Nat) (cellsOf' encR (List.getD l (Int.toNat (↑k : Int)) (@default Inp instInhabitedInp)).rep.recs) (cellsOf' encR (List.getD l k (@default Inp instInhabitedInp)).rep.recs)) ∧ (List.getD l (Int.toNat (↑k : Int)) (@default Inp instInhabitedInp)).rep.number = (List.getD l k (@default Inp instInhabitedInp)).rep.number ∧ (true = true ∧ List.length (List.getD l (Int.toNat (↑k : Int)) (@default Inp instInhabitedInp)).rep.shards = List.length (List.getD l k (@default Inp instInhabitedInp)).rep.shards ∧ contLe (List.length (List.getD l (Int.toNat (↑k : Int)) (@default Inp instInhabitedInp)).rep.shards) (7 : Nat) (cellsOf' encSh (List.getD l (Int.toNat (↑k : Int)) (@default Inp instInhabitedInp)).rep.shards) (cellsOf' encSh (List.getD l k (@default Inp instInhabitedInp)).rep.shards)) ∧ (List.getD l (Int.toNat (↑k : Int)) (@default Inp instInhabitedInp)).rep.group = (List.getD l k (@default Inp instInhabitedInp)).rep.group ∧ (List.getD l (Int.toNat (↑k : Int)) (@default Inp instInhabitedInp)).rep.index = (List.getD l k (@default Inp instInhabitedInp)).rep.index ∧ (List.getD l (Int.toNat (↑k : Int)) (@default Inp instInhabitedInp)).rep.term = (List.getD l k (@default Inp instInhabitedInp)).rep.term ∧ True) ∧ True) ∧ True ∧ StG (cs k) (List.getD l k (@default Inp instInhabitedInp)) y e ∧ (∀ (k : Nat), k < List.length y.c.topics → ∀ (j : Nat), j < (2 : Nat) → tagT (cellsOf' encTp y.c.topics k j) = true) ∧ (∀ (k : Nat), k < List.length y.c.leaders → ∀ (j : Nat), j < (2 : Nat) → tagT (cellsOf' encSi y.c.leaders k j) = true) ∧ ((r.id == y.c.number) = true → ((vcLtL_q1 y) ∧ ((2 : Int) = (2 : Int) ∧ (0 : Int) = (0 : Int) ∧ { data := #[] : ByteArray } = ByteArray.empty ∧ { data := #[] : ByteArray } = ByteArray.empty ∧ (0 : Nat) = (0 : Nat) ∧ (0 : Int) = (0 : Int) ∧ (0 : Int) = (0 : Int) ∧ { data := #[] : ByteArray } = ByteArray.empty ∧ (0 : Int) = (0 : Int) ∧ (0 : Int) = (0 : Int) ∧ (0 : Int) = (0 : Int) ∧ { data := #[] : ByteArray } = ByteArray.empty ∧ (0 : Nat) = (0 : Nat) ∧ (0 : Int) = (0 : Int) ∧ (0 : Int) = (0 : Int) ∧ { data := #[] : ByteArray } = ByteArray.empty ∧ (0 : Int) = (0 : Int) ∧ (0 : Int) = (0 : Int) ∧ (0 : Int) = (0 : Int) ∧ (0 : Int) = (0 : Int) ∧ IntKind.wrap IntKind.u64 (r.id + (1 : Int)) = x.id ∧ r.err = x.err ∧ r.leader = x.leader ∧ r.rerr = x.rerr ∧ r.roff = x.roff ∧ r.rold = x.rold ∧ (true = true ∧ List.length r.recs = List.length x.recs ∧ contLe (List.length r.recs) (5 : Nat) (cellsOf' encR r.recs) (cellsOf' encR x.recs)) ∧ r.number = x.number ∧ (true = true ∧ List.length r.shards = List.length x.shards ∧ contLe (List.length r.shards) (7 : Nat) (cellsOf' encSh r.shards) (cellsOf' encSh x.shards)) ∧ r.group = x.group ∧ r.index = x.index ∧ r.term = x.term ∧ True) ∧ True) ∧ True ∧ StG y.c { kind := (2 : Int), call := @default Cal instInhabitedCal, rep := x : Inp } z (0 : Int) ∧ (false = true → False) ∧ (false = false → (z.o.send = true → False) ∧ (z.o.send = false → (z.o.done = true → False) ∧ (z.o.done = false → (vcLtL_q2 y z) ∧ True ∧ SmeQ z.c y.c ∧ true = true ∧ True ∧ (false = true → False) ∧ (false = false → ∃ (j : Nat), List.length l - j < List.length l - k ∧ (((true = true ∧ List.length l = List.length l ∧ contLe (List.length l) (32 : Nat) (cellsOf' encIn l) (cellsOf' encIn l)) ∧ ((0 : Nat) = (0 : Nat) ∧ (0 : Nat) = (0 : Nat)) ∧ ((0 : Nat) = (0 : Nat) ∧ (0 : Nat) = (0 : Nat)) ∧ IntKind.wrap IntKind.i64 ((↑k : Int) + (1 : Int)) = (↑j : Int) ∧ True) ∧ ((fdRp r r) ∧ (y.c.id = (cs j).id ∧ (true = true ∧ List.length y.c.servers = List.length (cs j).servers ∧ contLe (List.length y.c.servers) (1 : Nat) (cellsOf' encI y.c.servers) (cellsOf' encI (cs j).servers)) ∧ y.c.prod = (cs j).prod ∧ y.c.seq = (cs j).seq ∧ (true = true ∧ List.length y.c.topics = List.length (cs j).topics ∧ contLe (List.length y.c.topics) (2 : Nat) (Ax.rowAt (0 : Nat) (cellsOf' encTp y.c.topics)) (cellsOf' encTp (cs j).topics)) ∧ (true = true ∧ List.length y.c.leaders = List.length (cs j).leaders ∧ contLe (List.length y.c.leaders) (2 : Nat) (Ax.rowAt (0 : Nat) (cellsOf' encSi y.c.leaders)) (cellsOf' encSi (cs j).leaders)) ∧ y.c.busy = (cs j).busy ∧ y.c.call.kind = (cs j).call.kind ∧ y.c.call.topic = (cs j).call.topic ∧ y.c.call.key = (cs j).call.key ∧ (true = true ∧ List.length y.c.call.val = List.length (cs j).call.val ∧ contLe (List.length y.c.call.val) (1 : Nat) (cellsOf' encB y.c.call.val) (cellsOf' encB (cs j).call.val)) ∧ y.c.call.off = (cs j).call.off ∧ y.c.call.most = (cs j).call.most ∧ y.c.call.name = (cs j).call.name ∧ y.c.call.adm.kind = (cs j).call.adm.kind ∧ y.c.call.adm.prod = (cs j).call.adm.prod ∧ y.c.call.adm.seq = (cs j).call.adm.seq ∧ y.c.call.adm.topic = (cs j).call.adm.topic ∧ (true = true ∧ List.length y.c.call.adm.nodes = List.length (cs j).call.adm.nodes ∧ contLe (List.length y.c.call.adm.nodes) (1 : Nat) (cellsOf' encI y.c.call.adm.nodes) (cellsOf' encI (cs j).call.adm.nodes)) ∧ y.c.call.adm.group = (cs j).call.adm.group ∧ y.c.call.adm.other = (cs j).call.adm.other ∧ y.c.call.adm.key = (cs j).call.adm.key ∧ y.c.call.adm.fr = (cs j).call.adm.fr ∧ y.c.call.adm.to = (cs j).call.adm.to ∧ y.c.call.adm.plan = (cs j).call.adm.plan ∧ y.c.call.adm.step = (cs j).call.adm.step ∧ y.c.number = (cs j).number ∧ y.c.route = (cs j).route ∧ y.c.group = (cs j).group ∧ y.c.tries = (cs j).tries ∧ y.c.waited = (cs j).waited ∧ y.c.again = (cs j).again ∧ y.c.at' = (cs j).at' ∧ True) ∧ True) ∧ true = true) ∧ true = true ∧ () = ()))))) ∧ ((r.id == y.c.number) = false → ((vcLtL_q1 y) ∧ ((2 : Int) = (2 : Int) ∧ (0 : Int) = (0 : Int) ∧ { data := #[] : ByteArray } = ByteArray.empty ∧ { data := #[] : ByteArray } = ByteArray.empty ∧ (0 : Nat) = (0 : Nat) ∧ (0 : Int) = (0 : Int) ∧ (0 : Int) = (0 : Int) ∧ { data := #[] : ByteArray } = ByteArray.empty ∧ (0 : Int) = (0 : Int) ∧ (0 : Int) = (0 : Int) ∧ (0 : Int) = (0 : Int) ∧ { data := #[] : ByteArray } = ByteArray.empty ∧ (0 : Nat) = (0 : Nat) ∧ (0 : Int) = (0 : Int) ∧ (0 : Int) = (0 : Int) ∧ { data := #[] : ByteArray } = ByteArray.empty ∧ (0 : Int) = (0 : Int) ∧ (0 : Int) = (0 : Int) ∧ (0 : Int) = (0 : Int) ∧ (0 : Int) = (0 : Int) ∧ r.id = x.id ∧ r.err = x.err ∧ r.leader = x.leader ∧ r.rerr = x.rerr ∧ r.roff = x.roff ∧ r.rold = x.rold ∧ (true = true ∧ List.length r.recs = List.length x.recs ∧ contLe (List.length r.recs) (5 : Nat) (cellsOf' encR r.recs) (cellsOf' encR x.recs)) ∧ r.number = x.number ∧ (true = true ∧ List.length r.shards = List.length x.shards ∧ contLe (List.length r.shards) (7 : Nat) (cellsOf' encSh r.shards) (cellsOf' encSh x.shards)) ∧ r.group = x.group ∧ r.index = x.index ∧ r.term = x.term ∧ True) ∧ True) ∧ True ∧ StG y.c { kind := (2 : Int), call := @default Cal instInhabitedCal, rep := x : Inp } z (0 : Int) ∧ (false = true → False) ∧ (false = false → (z.o.send = true → False) ∧ (z.o.send = false → (z.o.done = true → False) ∧ (z.o.done = false → (vcLtL_q2 y z) ∧ True ∧ SmeQ z.c y.c ∧ true = true ∧ True ∧ (false = true → False) ∧ (false = false → ∃ (j : Nat), List.length l - j < List.length l - k ∧ (((true = true ∧ List.length l = List.length l ∧ contLe (List.length l) (32 : Nat) (cellsOf' encIn l) (cellsOf' encIn l)) ∧ ((0 : Nat) = (0 : Nat) ∧ (0 : Nat) = (0 : Nat)) ∧ ((0 : Nat) = (0 : Nat) ∧ (0 : Nat) = (0 : Nat)) ∧ IntKind.wrap IntKind.i64 ((↑k : Int) + (1 : Int)) = (↑j : Int) ∧ True) ∧ ((fdRp r r) ∧ (y.c.id = (cs j).id ∧ (true = true ∧ List.length y.c.servers = List.length (cs j).servers ∧ contLe (List.length y.c.servers) (1 : Nat) (cellsOf' encI y.c.servers) (cellsOf' encI (cs j).servers)) ∧ y.c.prod = (cs j).prod ∧ y.c.seq = (cs j).seq ∧ (true = true ∧ List.length y.c.topics = List.length (cs j).topics ∧ contLe (List.length y.c.topics) (2 : Nat) (Ax.rowAt (0 : Nat) (cellsOf' encTp y.c.topics)) (cellsOf' encTp (cs j).topics)) ∧ (true = true ∧ List.length y.c.leaders = List.length (cs j).leaders ∧ contLe (List.length y.c.leaders) (2 : Nat) (Ax.rowAt (0 : Nat) (cellsOf' encSi y.c.leaders)) (cellsOf' encSi (cs j).leaders)) ∧ y.c.busy = (cs j).busy ∧ y.c.call.kind = (cs j).call.kind ∧ y.c.call.topic = (cs j).call.topic ∧ y.c.call.key = (cs j).call.key ∧ (true = true ∧ List.length y.c.call.val = List.length (cs j).call.val ∧ contLe (List.length y.c.call.val) (1 : Nat) (cellsOf' encB y.c.call.val) (cellsOf' encB (cs j).call.val)) ∧ y.c.call.off = (cs j).call.off ∧ y.c.call.most = (cs j).call.most ∧ y.c.call.name = (cs j).call.name ∧ y.c.call.adm.kind = (cs j).call.adm.kind ∧ y.c.call.adm.prod = (cs j).call.adm.prod ∧ y.c.call.adm.seq = (cs j).call.adm.seq ∧ y.c.call.adm.topic = (cs j).call.adm.topic ∧ (true = true ∧ List.length y.c.call.adm.nodes = List.length (cs j).call.adm.nodes ∧ contLe (List.length y.c.call.adm.nodes) (1 : Nat) (cellsOf' encI y.c.call.adm.nodes) (cellsOf' encI (cs j).call.adm.nodes)) ∧ y.c.call.adm.group = (cs j).call.adm.group ∧ y.c.call.adm.other = (cs j).call.adm.other ∧ y.c.call.adm.key = (cs j).call.adm.key ∧ y.c.call.adm.fr = (cs j).call.adm.fr ∧ y.c.call.adm.to = (cs j).call.adm.to ∧ y.c.call.adm.plan = (cs j).call.adm.plan ∧ y.c.call.adm.step = (cs j).call.adm.step ∧ y.c.number = (cs j).number ∧ y.c.route = (cs j).route ∧ y.c.group = (cs j).group ∧ y.c.tries = (cs j).tries ∧ y.c.waited = (cs j).waited ∧ y.c.again = (cs j).again ∧ y.c.at' = (cs j).at' ∧ True) ∧ True) ∧ true = true) ∧ true = true ∧ () = ())))))) ∧ (decide ((↑k : Int) < (↑(List.length l) : Int)) = false → True ∧ True ∧ true = true)
set_option maxRecDepth 1000000 in
theorem vcLtL_eq (cs : Nat → Clt) (l : List Inp) (r : Rep) (i : Inp) (y : Nod) (e : Int) (x : Rep) (z : Nod) (k : Nat) : (loopVC Tryd.prog (ltLH (cs k) (l.getD k default) y e x z) 7 6 (fun k => l.length - k) (ltT l) (fun k => ltM r (cs k)) [0, 1, 2, 3, 4, 5, 6, 7, 8, 9, 10, 11, 12] (fun _ => .ret ()) ltS k) = vcLtL cs l r i y e x z k := by kernel_rfl
noncomputable def ltH (id : Int) (s : List Int) (l : List Inp) (r : Rep) (c : Clt) (e : Int) : HintsT Tryd.prog := hh _ (lp1 7 6 (jobOf (ltT l) (fun _ => ltM r c) [0, 1, 2, 3, 4, 5, 6, 7, 8, 9, 10, 11, 12] (fun _ => .ret ()) ltS 0) noLp) (cs1 7 1 0 hdC (cs1 7 2 2 (nwG id true s 9 c e) noCs)) noOp
def vcLt (id : Int) (s : List Int) (l : List Inp) (r : Rep) (c : Clt) (e : Int) : Prop :=
  True ∧ True ∧ (id = id ∧ (true = true ∧ List.length s = List.length s ∧ contLe (List.length s) (1 : Nat) (cellsOf' encI s) (cellsOf' encI s)) ∧ (9 : Int) = (9 : Int) ∧ True) ∧ True ∧ NewQ id s (9 : Int) c e ∧ (false = true → true = true ∧ True) ∧ (false = false → ((e != (0 : Int)) = true → true = true ∧ True) ∧ ((e != (0 : Int)) = false → (((true = true ∧ List.length l = List.length l ∧ contLe (List.length l) (32 : Nat) (cellsOf' encIn l) (cellsOf' encIn l)) ∧ ((0 : Nat) = (0 : Nat) ∧ (0 : Nat) = (0 : Nat)) ∧ ((0 : Nat) = (0 : Nat) ∧ (0 : Nat) = (0 : Nat)) ∧ (0 : Int) = (0 : Int) ∧ True) ∧ ((fdRp r r) ∧ (c.id = c.id ∧ (true = true ∧ List.length c.servers = List.length c.servers ∧ contLe (List.length c.servers) (1 : Nat) (cellsOf' encI c.servers) (cellsOf' encI c.servers)) ∧ c.prod = c.prod ∧ c.seq = c.seq ∧ (true = true ∧ List.length c.topics = List.length c.topics ∧ contLe (List.length c.topics) (2 : Nat) (cellsOf' encTp c.topics) (cellsOf' encTp c.topics)) ∧ (true = true ∧ List.length c.leaders = List.length c.leaders ∧ contLe (List.length c.leaders) (2 : Nat) (cellsOf' encSi c.leaders) (cellsOf' encSi c.leaders)) ∧ c.busy = c.busy ∧ c.call.kind = c.call.kind ∧ c.call.topic = c.call.topic ∧ c.call.key = c.call.key ∧ (true = true ∧ List.length c.call.val = List.length c.call.val ∧ contLe (List.length c.call.val) (1 : Nat) (cellsOf' encB c.call.val) (cellsOf' encB c.call.val)) ∧ c.call.off = c.call.off ∧ c.call.most = c.call.most ∧ c.call.name = c.call.name ∧ c.call.adm.kind = c.call.adm.kind ∧ c.call.adm.prod = c.call.adm.prod ∧ c.call.adm.seq = c.call.adm.seq ∧ c.call.adm.topic = c.call.adm.topic ∧ (true = true ∧ List.length c.call.adm.nodes = List.length c.call.adm.nodes ∧ contLe (List.length c.call.adm.nodes) (1 : Nat) (cellsOf' encI c.call.adm.nodes) (cellsOf' encI c.call.adm.nodes)) ∧ c.call.adm.group = c.call.adm.group ∧ c.call.adm.other = c.call.adm.other ∧ c.call.adm.key = c.call.adm.key ∧ c.call.adm.fr = c.call.adm.fr ∧ c.call.adm.to = c.call.adm.to ∧ c.call.adm.plan = c.call.adm.plan ∧ c.call.adm.step = c.call.adm.step ∧ c.number = c.number ∧ c.route = c.route ∧ c.group = c.group ∧ c.tries = c.tries ∧ c.waited = c.waited ∧ c.again = c.again ∧ c.at' = c.at' ∧ True) ∧ True) ∧ true = true) ∧ LoopOk Tryd.prog (7 : Nat) (6 : Nat) (loopAt Tryd.prog (7 : Nat) (6 : Nat)) { t := ltT l (0 : Nat), m := ltM r c, mv := [] : St } (T.map (lout [(0 : Nat), (1 : Nat), (2 : Nat), (3 : Nat), (4 : Nat), (5 : Nat), (6 : Nat), (7 : Nat), (8 : Nat), (9 : Nat), (10 : Nat), (11 : Nat), (12 : Nat)] ltS) ((fun (x : Nat) => T.ret ()) (0 : Nat))) ∧ true = true ∧ True))
set_option maxRecDepth 1000000 in
theorem vcLt_eq (id : Int) (s : List Int) (l : List Inp) (r : Rep) (c : Clt) (e : Int) : (ctrVC Tryd.prog (ltH id s l r c e) 7 [.y (.int .i64 id), encIs true s, encIns l, .agg (encRp r)] [] (boolR true)) = vcLt id s l r c e := by kernel_rfl
end Go.Proofs.YtdpbogaldcpfeaaDoor.C

/-! Late replies: the code. -/
namespace Go.Proofs.YtdpbogaldcpfeaaDoor.C
open Go.Ax
set_option maxRecDepth 1000000
theorem tagTp' (l : List Tpc) : ∀ (k : Nat), k < l.length → ∀ (j : Nat), j < 2 → tagT (cellsOf' encTp l k j) = true := by
  intro k _ j hj
  match j, hj with
  | 0, _ => exact rfl
  | 1, _ => exact rfl
theorem tagSi' (l : List Sit) : ∀ (k : Nat), k < l.length → ∀ (j : Nat), j < 2 → tagT (cellsOf' encSi l k j) = true := by
  intro k _ j hj
  match j, hj with
  | 0, _ => exact rfl
  | 1, _ => exact rfl
structure LtR (c' c : Clt) (i : Inp) (r : Rep) (y : Nod) (e : Int) (x : Rep) (z : Nod) : Prop where
  st : StG c i y e
  n : y.c = c'
  xd : x = if r.id = y.c.number then { r with id := IntKind.u64.wrap (r.id + 1) } else r
  s2 : StG y.c ⟨2, default, x⟩ z 0
  o1 : z.o.send = false
  o2 : z.o.done = false
  eq : SmeQ z.c y.c
theorem lt_loop (cs : Nat → Clt) (l : List Inp) (r : Rep) (hl : l.length ≤ 9223372036854775806) (ys : Nat → Nod) (es : Nat → Int) (xs : Nat → Rep) (zs : Nat → Nod) (h : ∀ k, k < l.length → LtR (cs (k + 1)) (cs k) (l.getD k default) r (ys k) (es k) (xs k) (zs k)) (k : Nat) : LoopOk Tryd.prog 7 6 (loopAt Tryd.prog 7 6) ⟨ltT l k, ltM r (cs k), []⟩ (T.map (lout [0, 1, 2, 3, 4, 5, 6, 7, 8, 9, 10, 11, 12] ltS) (.ret ())) := by
  refine loop_vcH (P := Tryd.prog) (f := 7) (k := 6) (ι := Nat) (μ := fun k => l.length - k) (ht := fun k => ltLH (cs k) (l.getD k default) (ys k) (es k) (xs k) (zs k)) (stT := ltT l) (stM := fun k => ltM r (cs k)) (X := [0, 1, 2, 3, 4, 5, 6, 7, 8, 9, 10, 11, 12]) (o := fun _ => .ret ()) (S := ltS) Tryd.mixed (fun _ => rfl) (fun k => ?_) k
  rw [vcLtL_eq cs l r (l.getD k default) (ys k) (es k) (xs k) (zs k) k]
  unfold vcLtL vcLtL_q2 vcLtL_q1
  by_cases hk : k < l.length
  · have hz : decide ((k : Int) < l.length) = true := by simp; omega
    have hw : IntKind.i64.wrap ((k : Int) + 1) = ((k + 1 : Nat) : Int) := by rw [wrap_i64 (by omega) (by omega)]; omega
    obtain ⟨h1, h2, h3, h4, h5, h6, h7⟩ := h k hk
    rw [Int.toNat_natCast]
    simp only [hz, hw]
    generalize l.getD k default = i at *
    generalize ys k = y at *
    generalize es k = e at *
    generalize xs k = x at *
    generalize zs k = z at *
    by_cases hid : r.id = y.c.number
    · rw [if_pos hid] at h3
      simp [h1, h4, h5, h6, h7, hid, hk]
      refine ⟨tagTp' _, tagSi' _, ⟨rfl, ?_⟩, k + 1, by omega, by omega, ?_⟩
      · rw [h3]
        repeat' apply And.intro
        all_goals first | rfl | exact contLe_refl _ _ _ | (show IntKind.u64.wrap (y.c.number + 1) = IntKind.u64.wrap (r.id + 1); rw [hid])
      · rw [← h2]
        repeat' apply And.intro
        all_goals first | rfl | exact contLe_refl _ _ _
    · rw [if_neg hid] at h3
      subst h3
      simp [h1, h4, h5, h6, h7, hid, hk]
      refine ⟨tagTp' _, tagSi' _, rfl, k + 1, by omega, by omega, ?_⟩
      rw [← h2]
      repeat' apply And.intro
      all_goals first | rfl | exact contLe_refl _ _ _
  · have hz : decide ((k : Int) < l.length) = false := by simp; omega
    simp only [hz]
    simp
/-! the law -/
/-- the client behind k inputs -/
def cS (c : Clt) (l : List Inp) : Nat → Clt
  | 0 => c
  | k + 1 => (stepN (cS c l k) (l.getD k default)).c
theorem cS_inv {c : Clt} {l : List Inp} (h : Inv 0 c) (hl : ∀ x ∈ l, InpOk x) : ∀ (k : Nat), k ≤ l.length → Inv k (cS c l k)
  | 0, _ => h
  | k + 1, hk => inv_step (cS_inv h hl k (by omega)) (hl _ (by simp [show k < l.length by omega]))
theorem cltIn_of {n : Nat} {c : Clt} (h : Inv n c) (hN : (n + 1) * 40 ≤ 140737488355328) : CltIn c := by
  have h1 := h.tl
  have h2 := h.ll
  have h3 := h.s
  have h4 := h.k.n
  refine ⟨by omega, by omega, by omega, by omega, fun t ht => ⟨?_, fun s hs => ⟨?_, ?_⟩, rfl⟩⟩
  · have := (h.t t ht).n; omega
  · have := ((h.t t ht).s s hs).n; omega
  · have := ((h.t t ht).s s hs).p; omega
theorem wrap_ne (n : Int) : ¬ IntKind.u64.wrap (n + 1) = n := by
  intro h
  unfold IntKind.wrap at h
  simp [IntKind.bits, IntKind.signed] at h
  omega
structure LtOk (s : List Int) (l : List Inp) (r : Rep) : Prop where
  sn : s.length * 8 ≤ 140737488355328
  ln : (l.length + 3) * 40 ≤ 140737488355328
  hi : ∀ x ∈ l, InpOk x
  rn : r.shards.length * 104 ≤ 281474976710656
  rh : ∀ x ∈ r.shards, ShOk x
def lteX (r : Rep) (c : Clt) : Rep := if r.id = c.number then { r with id := IntKind.u64.wrap (r.id + 1) } else r
theorem lteX_ne (r : Rep) (c : Clt) : ¬ (lteX r c).id = c.number := by
  unfold lteX
  split
  · rename_i h
    show ¬ IntKind.u64.wrap (r.id + 1) = c.number
    rw [← h]
    exact wrap_ne _
  · rename_i h
    exact h
theorem lteX_sh (r : Rep) (c : Clt) : (lteX r c).shards = r.shards := by
  unfold lteX
  split <;> rfl
theorem lt_step {c : Clt} {s : List Int} {l : List Inp} {r : Rep} (h : LtOk s l r) (hi : Inv 0 c) (k : Nat) (hk : k < l.length) : LtR (cS c l (k + 1)) (cS c l k) (l.getD k default) r (stepN (cS c l k) (l.getD k default)) (stepE (cS c l k) (l.getD k default)) (lteX r (cS c l (k + 1))) ⟨cS c l (k + 1), default⟩ := by
  have hll := h.ln
  have b1 : (k + 2) * 40 ≤ 140737488355328 := Nat.le_trans (Nat.mul_le_mul_right 40 (Nat.add_le_add (Nat.le_of_lt hk) (by decide))) hll
  have b2 : (k + 1 + 2) * 40 ≤ 140737488355328 := Nat.le_trans (Nat.mul_le_mul_right 40 (Nat.add_le_add hk (by decide))) hll
  have b3 : (k + 1 + 1) * 40 ≤ 140737488355328 := Nat.le_trans (Nat.mul_le_mul_right 40 (Nat.add_le_add hk (by decide))) hll
  have i1 := cS_inv hi h.hi k (by omega)
  have i2 := cS_inv hi h.hi (k + 1) (by omega)
  have hx := h.hi (l.getD k default) (by simp [hk])
  have hc : (stepN (cS c l k) (l.getD k default)).c = cS c l (k + 1) := rfl
  have h1 := stg_of i1 hx b1
  generalize stepN (cS c l k) (l.getD k default) = y at *
  generalize stepE (cS c l k) (l.getD k default) = e at *
  generalize cS c l (k + 1) = c' at *
  generalize cS c l k = c0 at *
  have hz : stepN c' ⟨2, default, lteX r c'⟩ = ⟨c', default⟩ := by
    have hne := lteX_ne r c'
    simp [stepN, herN, heaB, hne]
  have hze : stepE c' ⟨2, default, lteX r c'⟩ = 0 := by simp [stepE]
  have hio : InpOk ⟨2, default, lteX r c'⟩ := ⟨calOk_default, by show (lteX r c').shards.length * 104 ≤ _; rw [lteX_sh]; exact h.rn, by show ∀ x ∈ (lteX r c').shards, ShOk x; rw [lteX_sh]; exact h.rh⟩
  have hs2 := stg_of i2 hio b2
  rw [hz, hze] at hs2
  have hq : SmeQ (⟨c', default⟩ : Nod).c c' := ⟨cltIn_of i2 b3, rfl⟩
  subst hc
  exact ⟨h1, rfl, rfl, hs2, rfl, rfl, hq⟩
theorem lt_c (id : Int) (s : List Int) (l : List Inp) (r : Rep) (h : LtOk s l r) : (boolR true).Sat (ACall' Tryd.prog 7 [.y (.int .i64 id), encIs true s, encIns l, .agg (encRp r)] []) := by
  refine ctr_vc (ht := ltH id s l r (newK id s 9) (newE id s 9)) Tryd.mixed rfl ?_
  rw [vcLt_eq id s l r (newK id s 9) (newE id s 9)]
  unfold vcLt
  have q : NewQ id s 9 (newK id s 9) (newE id s 9) := ⟨rfl, rfl, h.sn⟩
  have hll := h.ln
  by_cases he : newE id s 9 = 0
  · have hi := inv_new (p := 9) h.sn he
    rw [he] at q ⊢
    generalize newK id s 9 = c at *
    have lp := lt_loop (cS c l) l r (by omega) (fun k => stepN (cS c l k) (l.getD k default)) (fun k => stepE (cS c l k) (l.getD k default)) (fun k => lteX r (cS c l (k + 1))) (fun k => ⟨cS c l (k + 1), default⟩) (fun k hk => lt_step h hi k hk) 0
    have e0 : cS c l 0 = c := rfl
    rw [e0] at lp
    simp [q, lp]
  · generalize newK id s 9 = c at *
    simp [q, he]
end Go.Proofs.YtdpbogaldcpfeaaDoor.C

/-! Late replies: from the statement to the law. -/
namespace Go.Proofs.YtdpbogaldcpfeaaDoor.C
open Go.Ax Go.Shelf Go.RowKit Go.ChangeShapes Go.WideShapes Go.ChangeAt
set_option maxRecDepth 1000000
theorem late_ok {s : List Int} {l : List Inp} {r : Rep} (hs : s.length * 8 ≤ 140737488351232) (hl : l.length * 360 ≤ 140737488351232 ∧ ∀ x ∈ l, InpOk x) (hr : RepSz r) : LtOk s l r := ⟨by omega, by have := hl.1; omega, hl.2, by have := hr.rl; omega, hr.rs⟩
def clientLate_laidL : List (String × DataW Unit) := Rows.clientLateRow.laid
noncomputable def clientLate_layW (os : Os) : World := World.laidAll Tryd.prog os clientLate_laidL
theorem clientLate_lay_met (os : Os) (args : Array Value) : laidMetH Tryd.prog clientLate_laidL ((clientLate_layW os).forCall (fun _ _ => 0) ⟨#[], args, []⟩).memory := by
  have e : ∀ w, laidMetH Tryd.prog clientLate_laidL w = laidMet Tryd.prog clientLate_laidL w := fun w => by kernel_rfl
  rw [e]
  exact laidMet_laidAll args (by kernel_rfl) (by kernel_rfl)
theorem clientLate_lifted (os : Os) (started : os.Started) (K : Type) (enc : TypeId × Value → K) :
    ReturnsInHanded {} Tryd.checked os 7 .any (fun w args => (Rows.clientLateSpec.pre enc Tryd.prog Tryd.f7 [] false w args ∧ laidMetH Tryd.prog clientLate_laidL w) ∧ sizedMet enc Tryd.prog Tryd.f7 (OpenSpec.ofChange Rows.clientLateSpec) false w args)
      (Rows.clientLateSpec.post enc Tryd.prog Tryd.f7 false true false false) := by
  refine returnsInHanded_of_change_and (C := Tryd.checked) (X := fun w _ => laidMetH Tryd.prog clientLate_laidL w) (fun _ _ _ hh h => h.of_heap hh) Tryd.own started (by kernel_rfl) Tryd.func7
    (ChangeSpec.witness_at (enc := enc) (C := Tryd.checked) (os := os) (X := fun w _ => laidMetH Tryd.prog clientLate_laidL w) false (clientLate_layW os) #[.int .i64 0, .slice Option.none 0 0, .slice Option.none 0 0, .agg #[.int .u64 0, .int .i64 0, .int .i64 0, .int .i64 0, .int .u64 0, .bool false, .slice Option.none 0 0, .int .u64 0, .slice Option.none 0 0, .int .u64 0, .int .u64 0, .int .u64 0]] 8 rfl (by kernel_rfl) (by kernel_rfl) (by kernel_rfl) (by kernel_rfl) (by kernel_rfl) (clientLate_lay_met os _)) ?_
  intro W base args ds gs before hval0 hW hcnd hsz hL _
  have hps : Tryd.f7.params.toList = [3, 22, 41, 52] := by kernel_rfl
  obtain ⟨p, q, hA, hV, hbef, hfz, hnd⟩ := id hW
  rw [hps] at hA hsz
  have ⟨hr, hwf⟩ := lift_all [.int .i64, .sl (.int .i64), .sl shInp, shRep] (by kernel_rfl) hA
  obtain ⟨v1, v2, v3, v4, d1, d2, d3, d4, _, _, _, _, e1, rfl, _, _, _, _, _⟩ := trodAll_four hA
  obtain ⟨_, _, g1, w1, _, _, g2, w2, _, _, g3, w3, _, _, g4, w4, _⟩ := hwf
  obtain ⟨rfl, q1⟩ := List.cons.inj g1
  subst q1
  obtain ⟨rfl, q2⟩ := List.cons.inj g2
  subst q2
  obtain ⟨rfl, q3⟩ := List.cons.inj g3
  subst q3
  obtain ⟨rfl, _⟩ := List.cons.inj g4
  subst e1
  obtain ⟨h1, hs1⟩ := weights_cons (P := Tryd.prog) (t := 3) (d := d1) hsz
  obtain ⟨h2, hs2⟩ := weights_cons (P := Tryd.prog) (t := 22) (d := d2) hs1
  obtain ⟨h3, hs3⟩ := weights_cons (P := Tryd.prog) (t := 41) (d := d3) hs2
  obtain ⟨h4, hs4⟩ := weights_cons (P := Tryd.prog) (t := 52) (d := d4) hs3
  have r1 := hr.1
  rw [encI_ok w1] at r1
  obtain ⟨n1, rfl⟩ := okWide_int (show Tryd.prog.underlying 3 = some (.int .i64) by kernel_rfl) (hval0 0 _ _ (by kernel_rfl) rfl)
  obtain ⟨_, _, er, r1, _⟩ := r1
  cases er
  have r2 := hr.2.1
  rw [slAV_eq] at r2
  obtain ⟨s2, n2, c2, rfl⟩ := okWide_slice undIs (hval0 1 _ _ (by kernel_rfl) rfl)
  obtain ⟨_, _, er, r2, _⟩ := r2
  cases er
  have r2 := relIs w2 r2
  have r3 := hr.2.2.1
  rw [slAV_eq] at r3
  obtain ⟨s3, n3, c3, rfl⟩ := okWide_slice undInps (hval0 2 _ _ (by kernel_rfl) rfl)
  obtain ⟨_, _, er, r3, _⟩ := r3
  cases er
  have r3 := relInps w3 r3
  have r4 := hr.2.2.2.1
  obtain ⟨fs4, hf4, _⟩ := undRep
  have r4 := relA hf4 (hval0 3 _ _ (by kernel_rfl) rfl) (relRep w4 r4)
  refine open_calls (call_of (lt_c _ _ _ _ (late_ok (is_sized h2) (inps_sized w3 h3) (rep_sized w4 h4)))) (t := 4) (ds := [d1, d2, d3, d4]) ⟨_, _, rfl, r1, _, _, rfl, r2, _, _, rfl, r3, _, _, rfl, r4, rfl⟩ (by kernel_rfl) underBool rfl rfl Tryd.laidOut Tryd.mapsRowed Tryd.slicesOk (by rw [hps]; intro t ht; simp only [List.mem_cons, List.not_mem_nil, or_false] at ht; rcases ht with rfl | rfl | rfl | rfl <;> exact of_decide_eq_true (by kernel_rfl)) hW
theorem clientLate_holds : Rows.ClientLateSaid :=
  OpenClaim.holds_of_wide 7 Tryd.f7 rfl rfl rfl rfl rfl rfl rfl ⟨rfl, rfl, rfl, rfl, rfl⟩ rfl rfl rfl rfl rfl (by kernel_rfl) Tryd.func7 (by kernel_rfl)
    (of_decide_eq_true (by kernel_rfl)) (by unfold Func.isWrapper; first | (rw [if_pos (by decide +kernel)]; kernel_rfl) | (rw [if_neg (by decide +kernel)]; exact ⟨rfl, rfl⟩))
    (fun os started H enc _ => clientLate_lifted os started H enc)
theorem clientLate_said : Rows.ClientLateCardSaid :=
  Claim7.holds_tied_plain_at .later [] [.data, .pinned] true (true, "d686f48c37c53b8b17edd79b07371d72aa1eab26c4c3d22259758825fe5fa4ef") false
    clientLate_holds (fun _ h => by cases h) (by kernel_rfl) (fun _ h => by cases h) clientLate_row_tie rfl ⟨rfl, rfl⟩ (by kernel_rfl) rfl
    (fun f fn hf hfn => by
      obtain rfl : f = 7 := Option.some.inj ((show Tryd.prog.funcNamed "gazette/gazettelaw21.ClientLate" = some 7 by kernel_rfl).symm.trans hf) |>.symm
      obtain rfl : fn = Tryd.f7 := (Option.some.inj (Tryd.func7.symm.trans hfn)).symm
      exact ⟨by kernel_rfl, fun j t ht => by
        rw [show Tryd.f7.params = #[3, 22, 41, 52] by kernel_rfl] at ht
        have h3 : t = 3 ∨ t = 22 ∨ t = 41 ∨ t = 52 := by
          rcases j with _ | _ | _ | _ | j
          · exact Or.inl (by simpa using ht.symm)
          · exact Or.inr (Or.inl (by simpa using ht.symm))
          · exact Or.inr (Or.inr (Or.inl (by simpa using ht.symm)))
          · exact Or.inr (Or.inr (Or.inr ((by simpa using ht.symm))))
          · simp at ht
        rcases h3 with rfl | rfl | rfl | rfl
        · exact (show Tryd.prog.wantsStandIn 3 = false by kernel_rfl)
        · exact (show Tryd.prog.wantsStandIn 22 = false by kernel_rfl)
        · exact (show Tryd.prog.wantsStandIn 41 = false by kernel_rfl)
        · exact (show Tryd.prog.wantsStandIn 52 = false by kernel_rfl)⟩)
    (by kernel_rfl)
end Go.Proofs.YtdpbogaldcpfeaaDoor.C
namespace Go.Proofs.YtdpbogaldcpfeaaDoor
theorem late_said : Rows.ClientLateCardSaid := C.clientLate_said
end Go.Proofs.YtdpbogaldcpfeaaDoor
