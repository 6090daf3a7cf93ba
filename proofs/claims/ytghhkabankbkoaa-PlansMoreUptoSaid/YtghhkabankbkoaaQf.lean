import Derived.Test.YtghhkabankbkoaaQe
set_option linter.unusedVariables false
set_option linter.unusedSimpArgs false
/-! Plans: groups on sites: the document's. -/
namespace Go.Proofs.Ytghhkabankbkoaa
open Go.Ax
set_option maxRecDepth 1000000
def cntB (l : List Site) (g : Int) (nodes : List Int) : Nat := nodes.countP fun n => inS l ⟨g, n⟩
def mostB (l : List Site) (nodes : List Int) (g : Int) : Bool := decide (nodes.length < 2 * cntB l g nodes)
def missA (l : List Site) (kind : Int) (nodes : List Int) (g : Int) : List Act := (nodes.filter fun n => !inS l ⟨g, n⟩).map fun n => ⟨kind, g, n, 0, 0, 0⟩
def restA (l : List Site) (kind : Int) (nodes gs : List Int) : List Act := gs.flatMap (missA l kind nodes)
def sitesL (l : List Site) (kind : Int) (p : Plan) (gs : List Int) : List Act := (if gs.all (mostB l p.nodes) then [stepA p] else []) ++ restA l kind p.nodes gs
/-! most -/
def moT (b c : Bool) (l : List Site) (g : Int) (nodes : List Int) (k : Nat) : List AV := mkT 31 [(0, encSs b l), (1, .y (.int .u64 g)), (2, encIs c nodes), (7, .y (.int .i64 (cntB l g (nodes.take k)))), (8, .y (.int .i64 k))]
def moS (c : Bool) (l : List Site) (g : Int) (nodes : List Int) (_ : Unit) : Exit × List AV × List Blk := (.exit 0, mkT 31 [(2, encIs c nodes), (7, .y (.int .i64 (cntB l g nodes)))], [])
noncomputable def moHL (b : Bool) (l : List Site) (g n : Int) : HintsT Try.prog := hh _ noLp (cs1 39 5 6 (onC b l ⟨g, n⟩) noCs) noOp
def vcMoL (b : Bool) (c : Bool) (l : List Site) (g : Int) (nodes : List Int) (k : Nat) : Prop :=
  (decide ((↑k : Int) < (↑(List.length nodes) : Int)) = true → (true && decide ((↑k : Int) < (↑(List.length nodes) : Int))) = true ∧ ((b = b ∧ List.length l = List.length l ∧ contLe (List.length l) (2 : Nat) (cellsOf' encS l) (cellsOf' encS l)) ∧ g = g ∧ List.getD nodes (Int.toNat (↑k : Int)) (0 : Int) = List.getD nodes k (0 : Int) ∧ True) ∧ True ∧ List.length l ≤ (9223372036854775806 : Nat) ∧ (inS l { group := g, node := List.getD nodes k (0 : Int) } = true → ∃ (j : Nat), List.length nodes - j < List.length nodes - k ∧ (((b = b ∧ List.length l = List.length l ∧ contLe (List.length l) (2 : Nat) (cellsOf' encS l) (cellsOf' encS l)) ∧ g = g ∧ (c = c ∧ List.length nodes = List.length nodes ∧ contLe (List.length nodes) (1 : Nat) (cellsOf' encI nodes) (cellsOf' encI nodes)) ∧ IntKind.wrap IntKind.i64 ((↑(cntB l g (List.take k nodes)) : Int) + (1 : Int)) = (↑(cntB l g (List.take j nodes)) : Int) ∧ IntKind.wrap IntKind.i64 ((↑k : Int) + (1 : Int)) = (↑j : Int) ∧ True) ∧ True ∧ true = true) ∧ true = true ∧ () = ()) ∧ (inS l { group := g, node := List.getD nodes k (0 : Int) } = false → ∃ (j : Nat), List.length nodes - j < List.length nodes - k ∧ (((b = b ∧ List.length l = List.length l ∧ contLe (List.length l) (2 : Nat) (cellsOf' encS l) (cellsOf' encS l)) ∧ g = g ∧ (c = c ∧ List.length nodes = List.length nodes ∧ contLe (List.length nodes) (1 : Nat) (cellsOf' encI nodes) (cellsOf' encI nodes)) ∧ (↑(cntB l g (List.take k nodes)) : Int) = (↑(cntB l g (List.take j nodes)) : Int) ∧ IntKind.wrap IntKind.i64 ((↑k : Int) + (1 : Int)) = (↑j : Int) ∧ True) ∧ True ∧ true = true) ∧ true = true ∧ () = ())) ∧ (decide ((↑k : Int) < (↑(List.length nodes) : Int)) = false → ((c = c ∧ List.length nodes = List.length nodes ∧ contLe (List.length nodes) (1 : Nat) (cellsOf' encI nodes) (cellsOf' encI nodes)) ∧ (↑(cntB l g (List.take k nodes)) : Int) = (↑(cntB l g nodes) : Int) ∧ True) ∧ True ∧ true = true)
set_option maxRecDepth 1000000 in
theorem vcMoL_eq (b : Bool) (c : Bool) (l : List Site) (g : Int) (nodes : List Int) (k : Nat) : (loopVC Try.prog (moHL b l g (nodes.getD k default)) 39 3 (fun k => nodes.length - k) (moT b c l g nodes) (fun _ => []) [0] (fun _ => .ret ()) (moS c l g nodes) k) = vcMoL b c l g nodes k := by kernel_rfl
noncomputable def moH (b c : Bool) (l : List Site) (g : Int) (nodes : List Int) : HintsT Try.prog := hh _ (lp1 39 3 (jobOf (moT b c l g nodes) (fun _ => []) [0] (fun _ => .ret ()) (moS c l g nodes) 0) noLp) noCs noOp
def vcMo (b : Bool) (c : Bool) (l : List Site) (g : Int) (nodes : List Int) : Prop :=
  (((b = b ∧ List.length l = List.length l ∧ contLe (List.length l) (2 : Nat) (cellsOf' encS l) (cellsOf' encS l)) ∧ g = g ∧ (c = c ∧ List.length nodes = List.length nodes ∧ contLe (List.length nodes) (1 : Nat) (cellsOf' encI nodes) (cellsOf' encI nodes)) ∧ (0 : Int) = (↑(cntB l g []) : Int) ∧ (0 : Int) = (0 : Int) ∧ True) ∧ True ∧ true = true) ∧ LoopOk Try.prog (39 : Nat) (3 : Nat) (loopAt Try.prog (39 : Nat) (3 : Nat)) { t := moT b c l g nodes (0 : Nat), m := [], mv := [] } (T.map (lout [(0 : Nat)] (moS c l g nodes)) ((fun (x : Nat) => T.ret ()) (0 : Nat))) ∧ decide ((↑(List.length nodes) : Int) < IntKind.wrap IntKind.i64 ((2 : Int) * (↑(cntB l g nodes) : Int))) = mostB l nodes g ∧ True
set_option maxRecDepth 1000000 in
theorem vcMo_eq (b : Bool) (c : Bool) (l : List Site) (g : Int) (nodes : List Int) : (ctrVC Try.prog (moH b c l g nodes) 39 [encSs b l, .y (.int .u64 g), encIs c nodes] [] (boolR (mostB l nodes g))) = vcMo b c l g nodes := by kernel_rfl
theorem cnt_step {l : List Site} {g : Int} {nodes : List Int} {k : Nat} (h : k < nodes.length) : cntB l g (nodes.take (k + 1)) = cntB l g (nodes.take k) + (if inS l ⟨g, nodes[k]?.getD 0⟩ then 1 else 0) := by
  unfold cntB
  rw [List.take_add_one, List.getElem?_eq_getElem h, List.countP_append]
  simp
theorem cnt_le (l : List Site) (g : Int) (nodes : List Int) : cntB l g nodes ≤ nodes.length := List.countP_le_length
theorem mo_loop (b c : Bool) (l : List Site) (g : Int) (nodes : List Int) (hl : l.length ≤ 9223372036854775806) (hn : nodes.length ≤ 7) (k : Nat) : LoopOk Try.prog 39 3 (loopAt Try.prog 39 3) ⟨moT b c l g nodes k, [], []⟩ (T.map (lout [0] (moS c l g nodes)) (.ret ())) := by
  refine loop_vcH (ht := fun k => moHL b l g (nodes.getD k default)) (o := fun _ => .ret ()) Try.mixed (fun _ => rfl) (fun k => (vcMoL_eq b c l g nodes k).mpr ?_) k
  unfold vcMoL
  have h1 := cnt_le l g (nodes.take k)
  have h2 : (nodes.take k).length ≤ nodes.length := by simp; omega
  simp
  refine ⟨fun h => ⟨h, hl, ?_, ?_⟩, fun h => by rw [List.take_of_length_le h]⟩
  · intro hi
    refine ⟨k + 1, by omega, ?_, by rw [wrap_i64 (by omega) (by omega)]; omega⟩
    rw [cnt_step h, hi, wrap_i64 (by omega) (by omega)]; simp
  · intro hi
    refine ⟨k + 1, by omega, ?_, by rw [wrap_i64 (by omega) (by omega)]; omega⟩
    rw [cnt_step h, hi]; simp
theorem mo_c (b c : Bool) (l : List Site) (g : Int) (nodes : List Int) (hl : l.length ≤ 9223372036854775806) (hn : nodes.length ≤ 7) : (boolR (mostB l nodes g)).Sat (ACall' Try.prog 39 [encSs b l, .y (.int .u64 g), encIs c nodes] []) := by
  refine ctr_vc (ht := moH b c l g nodes) Try.mixed rfl ?_
  rw [vcMo_eq b c l g nodes]
  unfold vcMo
  have h1 := cnt_le l g nodes
  have := mo_loop b c l g nodes hl hn 0
  simp [this]
  refine ⟨by simp [cntB], ?_⟩
  rw [wrap_i64 (by omega) (by omega)]
  simp [mostB]
  omega
noncomputable def moC (b c : Bool) (l : List Site) (g : Int) (nodes : List Int) : Ctr Try.prog := ⟨39, [encSs b l, .y (.int .u64 g), encIs c nodes], [], .need (l.length ≤ 9223372036854775806 ∧ nodes.length ≤ 7) (boolR (mostB l nodes g)), T.Sat.need fun h => mo_c b c l g nodes h.1 h.2⟩
/-! the document's sites -/
def rowB (l : List Act) : Blk := .row 47 6 l.length none (cellsOf' encA l)
structure SiP where
  (b c d : Bool) (p : Plan) (gs : List Int) (l : List Site) (kind : Int)
def SiP.at (x : SiP) (i : Nat) : List Act := restA x.l x.kind x.p.nodes (x.gs.take i)
def SiP.all (x : SiP) (i : Nat) : Bool := (x.gs.take i).all (mostB x.l x.p.nodes)
def SiP.in (x : SiP) (i k : Nat) : List Act := x.at i ++ missA x.l x.kind (x.p.nodes.take k) (x.gs.getD i default)
def siT (x : SiP) (i : Nat) : List AV := mkT 75 [(1, encUs x.c x.gs), (2, encSs x.d x.l), (3, .y (.int .i64 x.kind)), (4, .ptr 0 0 0 0), (9, .y (.bool (x.all i))), (10, .own 1 6 0 (x.at i).length), (11, .y (.int .i64 i))]
def siM (x : SiP) (i : Nat) : List Blk := [.box 32 (encPl x.b x.p), rowB (x.at i)]
def siS (x : SiP) (_ : Unit) : Exit × List AV × List Blk := (.exit 0, mkT 75 [(4, .ptr 0 0 0 0), (9, .y (.bool (x.all x.gs.length))), (10, .own 1 6 0 (x.at x.gs.length).length)], siM x x.gs.length)
def sjT (x : SiP) (i k : Nat) : List AV := mkT 75 [(1, encUs x.c x.gs), (2, encSs x.d x.l), (3, .y (.int .i64 x.kind)), (4, .ptr 0 0 0 0), (9, .y (.bool (x.all (i + 1)))), (10, .own 1 6 0 (x.in i k).length), (11, .y (.int .i64 i)), (13, .y (.int .i64 k))]
def sjM (x : SiP) (i k : Nat) : List Blk := [.box 32 (encPl x.b x.p), rowB (x.in i k)]
def sjS (x : SiP) (i : Nat) (_ : Unit) : Exit × List AV × List Blk := (.exit 2, mkT 75 [(1, encUs x.c x.gs), (2, encSs x.d x.l), (3, .y (.int .i64 x.kind)), (4, .ptr 0 0 0 0), (9, .y (.bool (x.all (i + 1)))), (10, .own 1 6 0 (x.at (i + 1)).length), (11, .y (.int .i64 i))], siM x (i + 1))
noncomputable def sjH (x : SiP) (g n : Int) : HintsT Try.prog := hh _ noLp (cs1 22 11 10 (onC x.d x.l ⟨g, n⟩) noCs) noOp
def vcSj (x : SiP) (i : Nat) (k : Nat) : Prop :=
  (decide ((↑k : Int) < (↑(List.length x.p.nodes) : Int)) = true → (true && decide ((↑i : Int) < (↑(List.length x.gs) : Int))) = true ∧ (true && decide ((↑k : Int) < (↑(List.length x.p.nodes) : Int))) = true ∧ ((x.d = x.d ∧ List.length x.l = List.length x.l ∧ contLe (List.length x.l) (2 : Nat) (cellsOf' encS x.l) (cellsOf' encS x.l)) ∧ List.getD x.gs (Int.toNat (↑i : Int)) (0 : Int) = List.getD x.gs i (0 : Int) ∧ List.getD x.p.nodes (Int.toNat (↑k : Int)) (0 : Int) = List.getD x.p.nodes k (0 : Int) ∧ True) ∧ True ∧ List.length x.l ≤ (9223372036854775806 : Nat) ∧ ((!inS x.l { group := List.getD x.gs i (0 : Int), node := List.getD x.p.nodes k (0 : Int) }) = true → (true && decide ((↑i : Int) < (↑(List.length x.gs) : Int))) = true ∧ (true && decide ((↑k : Int) < (↑(List.length x.p.nodes) : Int))) = true ∧ (decide (List.length (SiP.in x i k) = List.length (SiP.in x i k)) && decide (List.length (SiP.in x i k) + (1 : Nat) ≤ (9223372036854775807 : Nat)) && decide ((List.length (SiP.in x i k) + (1 : Nat)) * (48 : Nat) ≤ (140737488355328 : Nat))) = true ∧ ∃ (j : Nat), List.length x.p.nodes - j < List.length x.p.nodes - k ∧ (((x.c = x.c ∧ List.length x.gs = List.length x.gs ∧ contLe (List.length x.gs) (1 : Nat) (cellsOf' encU x.gs) (cellsOf' encU x.gs)) ∧ (x.d = x.d ∧ List.length x.l = List.length x.l ∧ contLe (List.length x.l) (2 : Nat) (cellsOf' encS x.l) (cellsOf' encS x.l)) ∧ x.kind = x.kind ∧ ((0 : Nat) = (0 : Nat) ∧ (0 : Nat) = (0 : Nat)) ∧ SiP.all x (i + (1 : Nat)) = SiP.all x (i + (1 : Nat)) ∧ ((0 : Nat) = (0 : Nat) ∧ List.length (SiP.in x i k) + (1 : Nat) = List.length (SiP.in x i j)) ∧ (↑i : Int) = (↑i : Int) ∧ IntKind.wrap IntKind.i64 ((↑k : Int) + (1 : Int)) = (↑j : Int) ∧ True) ∧ ((x.p.id = x.p.id ∧ x.p.kind = x.p.kind ∧ x.p.topic = x.p.topic ∧ x.p.group = x.p.group ∧ x.p.other = x.p.other ∧ x.p.key = x.p.key ∧ (x.b = x.b ∧ List.length x.p.into = List.length x.p.into ∧ contLe (List.length x.p.into) (1 : Nat) (cellsOf' encU x.p.into) (cellsOf' encU x.p.into)) ∧ (x.b = x.b ∧ List.length x.p.nodes = List.length x.p.nodes ∧ contLe (List.length x.p.nodes) (1 : Nat) (cellsOf' encI x.p.nodes) (cellsOf' encI x.p.nodes)) ∧ x.p.src = x.p.src ∧ x.p.dst = x.p.dst ∧ x.p.step = x.p.step ∧ True) ∧ (List.length (SiP.in x i k) + (1 : Nat) = List.length (SiP.in x i j) ∧ contLe (List.length (SiP.in x i k) + (1 : Nat)) (6 : Nat) (appRow (List.length (SiP.in x i k)) (cellsOf' encA (SiP.in x i k)) fun (k_1 j : Nat) => Ax.get [AV.y (Value.int IntKind.i64 x.kind), AV.y (Value.int IntKind.u64 (List.getD x.gs (Int.toNat (↑i : Int)) (0 : Int))), AV.y (Value.int IntKind.i64 (List.getD x.p.nodes (Int.toNat (↑k : Int)) (0 : Int))), AV.s (Value.int IntKind.i64 (0 : Int)), AV.s (Value.int IntKind.i64 (0 : Int)), AV.s (Value.int IntKind.i64 (0 : Int))] (k_1 * (6 : Nat) + j)) (cellsOf' encA (SiP.in x i j))) ∧ True) ∧ true = true) ∧ true = true ∧ () = ()) ∧ ((!inS x.l { group := List.getD x.gs i (0 : Int), node := List.getD x.p.nodes k (0 : Int) }) = false → ∃ (j : Nat), List.length x.p.nodes - j < List.length x.p.nodes - k ∧ (((x.c = x.c ∧ List.length x.gs = List.length x.gs ∧ contLe (List.length x.gs) (1 : Nat) (cellsOf' encU x.gs) (cellsOf' encU x.gs)) ∧ (x.d = x.d ∧ List.length x.l = List.length x.l ∧ contLe (List.length x.l) (2 : Nat) (cellsOf' encS x.l) (cellsOf' encS x.l)) ∧ x.kind = x.kind ∧ ((0 : Nat) = (0 : Nat) ∧ (0 : Nat) = (0 : Nat)) ∧ SiP.all x (i + (1 : Nat)) = SiP.all x (i + (1 : Nat)) ∧ ((0 : Nat) = (0 : Nat) ∧ List.length (SiP.in x i k) = List.length (SiP.in x i j)) ∧ (↑i : Int) = (↑i : Int) ∧ IntKind.wrap IntKind.i64 ((↑k : Int) + (1 : Int)) = (↑j : Int) ∧ True) ∧ ((x.p.id = x.p.id ∧ x.p.kind = x.p.kind ∧ x.p.topic = x.p.topic ∧ x.p.group = x.p.group ∧ x.p.other = x.p.other ∧ x.p.key = x.p.key ∧ (x.b = x.b ∧ List.length x.p.into = List.length x.p.into ∧ contLe (List.length x.p.into) (1 : Nat) (cellsOf' encU x.p.into) (cellsOf' encU x.p.into)) ∧ (x.b = x.b ∧ List.length x.p.nodes = List.length x.p.nodes ∧ contLe (List.length x.p.nodes) (1 : Nat) (cellsOf' encI x.p.nodes) (cellsOf' encI x.p.nodes)) ∧ x.p.src = x.p.src ∧ x.p.dst = x.p.dst ∧ x.p.step = x.p.step ∧ True) ∧ (List.length (SiP.in x i k) = List.length (SiP.in x i j) ∧ contLe (List.length (SiP.in x i k)) (6 : Nat) (cellsOf' encA (SiP.in x i k)) (cellsOf' encA (SiP.in x i j))) ∧ True) ∧ true = true) ∧ true = true ∧ () = ())) ∧ (decide ((↑k : Int) < (↑(List.length x.p.nodes) : Int)) = false → ((x.c = x.c ∧ List.length x.gs = List.length x.gs ∧ contLe (List.length x.gs) (1 : Nat) (cellsOf' encU x.gs) (cellsOf' encU x.gs)) ∧ (x.d = x.d ∧ List.length x.l = List.length x.l ∧ contLe (List.length x.l) (2 : Nat) (cellsOf' encS x.l) (cellsOf' encS x.l)) ∧ x.kind = x.kind ∧ ((0 : Nat) = (0 : Nat) ∧ (0 : Nat) = (0 : Nat)) ∧ SiP.all x (i + (1 : Nat)) = SiP.all x (i + (1 : Nat)) ∧ ((0 : Nat) = (0 : Nat) ∧ List.length (SiP.in x i k) = List.length (SiP.at x (i + (1 : Nat)))) ∧ (↑i : Int) = (↑i : Int) ∧ True) ∧ ((x.p.id = x.p.id ∧ x.p.kind = x.p.kind ∧ x.p.topic = x.p.topic ∧ x.p.group = x.p.group ∧ x.p.other = x.p.other ∧ x.p.key = x.p.key ∧ (x.b = x.b ∧ List.length x.p.into = List.length x.p.into ∧ contLe (List.length x.p.into) (1 : Nat) (cellsOf' encU x.p.into) (cellsOf' encU x.p.into)) ∧ (x.b = x.b ∧ List.length x.p.nodes = List.length x.p.nodes ∧ contLe (List.length x.p.nodes) (1 : Nat) (cellsOf' encI x.p.nodes) (cellsOf' encI x.p.nodes)) ∧ x.p.src = x.p.src ∧ x.p.dst = x.p.dst ∧ x.p.step = x.p.step ∧ True) ∧ (List.length (SiP.in x i k) = List.length (SiP.at x (i + (1 : Nat))) ∧ contLe (List.length (SiP.in x i k)) (6 : Nat) (cellsOf' encA (SiP.in x i k)) (cellsOf' encA (SiP.at x (i + (1 : Nat))))) ∧ True) ∧ true = true)
set_option maxRecDepth 1000000 in
theorem vcSj_eq (x : SiP) (i : Nat) (k : Nat) : (loopVC Try.prog (sjH x (x.gs.getD i default) (x.p.nodes.getD k default)) 22 9 (fun k => x.p.nodes.length - k) (sjT x i) (sjM x i) [0, 1, 2, 3, 4, 5] (fun _ => .ret ()) (sjS x i) k) = vcSj x i k := by kernel_rfl
noncomputable def siHL (x : SiP) (i : Nat) (g : Int) : HintsT Try.prog := hh _ (lp1 22 9 (jobOf (sjT x i) (sjM x i) [0, 1, 2, 3, 4, 5] (fun _ => .ret ()) (sjS x i) 0) noLp) (cs1 22 6 7 (moC x.d x.b x.l g x.p.nodes) noCs) noOp
def vcSi (x : SiP) (i : Nat) : Prop :=
  (decide ((↑i : Int) < (↑(List.length x.gs) : Int)) = true → (true && decide ((↑i : Int) < (↑(List.length x.gs) : Int))) = true ∧ ((x.d = x.d ∧ List.length x.l = List.length x.l ∧ contLe (List.length x.l) (2 : Nat) (cellsOf' encS x.l) (cellsOf' encS x.l)) ∧ List.getD x.gs (Int.toNat (↑i : Int)) (0 : Int) = List.getD x.gs i (0 : Int) ∧ (x.b = x.b ∧ List.length x.p.nodes = List.length x.p.nodes ∧ contLe (List.length x.p.nodes) (1 : Nat) (cellsOf' encI x.p.nodes) (cellsOf' encI x.p.nodes)) ∧ True) ∧ True ∧ (List.length x.l ≤ (9223372036854775806 : Nat) ∧ List.length x.p.nodes ≤ (7 : Nat)) ∧ (SiP.all x i = true → (((x.c = x.c ∧ List.length x.gs = List.length x.gs ∧ contLe (List.length x.gs) (1 : Nat) (cellsOf' encU x.gs) (cellsOf' encU x.gs)) ∧ (x.d = x.d ∧ List.length x.l = List.length x.l ∧ contLe (List.length x.l) (2 : Nat) (cellsOf' encS x.l) (cellsOf' encS x.l)) ∧ x.kind = x.kind ∧ ((0 : Nat) = (0 : Nat) ∧ (0 : Nat) = (0 : Nat)) ∧ mostB x.l x.p.nodes (List.getD x.gs i (0 : Int)) = SiP.all x (i + (1 : Nat)) ∧ ((0 : Nat) = (0 : Nat) ∧ List.length (SiP.at x i) = List.length (SiP.in x i (0 : Nat))) ∧ (↑i : Int) = (↑i : Int) ∧ (0 : Int) = (0 : Int) ∧ True) ∧ ((x.p.id = x.p.id ∧ x.p.kind = x.p.kind ∧ x.p.topic = x.p.topic ∧ x.p.group = x.p.group ∧ x.p.other = x.p.other ∧ x.p.key = x.p.key ∧ (x.b = x.b ∧ List.length x.p.into = List.length x.p.into ∧ contLe (List.length x.p.into) (1 : Nat) (cellsOf' encU x.p.into) (cellsOf' encU x.p.into)) ∧ (x.b = x.b ∧ List.length x.p.nodes = List.length x.p.nodes ∧ contLe (List.length x.p.nodes) (1 : Nat) (cellsOf' encI x.p.nodes) (cellsOf' encI x.p.nodes)) ∧ x.p.src = x.p.src ∧ x.p.dst = x.p.dst ∧ x.p.step = x.p.step ∧ True) ∧ (List.length (SiP.at x i) = List.length (SiP.in x i (0 : Nat)) ∧ contLe (List.length (SiP.at x i)) (6 : Nat) (cellsOf' encA (SiP.at x i)) (cellsOf' encA (SiP.in x i (0 : Nat)))) ∧ True) ∧ true = true) ∧ LoopOk Try.prog (22 : Nat) (9 : Nat) (loopAt Try.prog (22 : Nat) (9 : Nat)) { t := sjT x i (0 : Nat), m := sjM x i (0 : Nat), mv := [] } (T.map (lout [(0 : Nat), (1 : Nat), (2 : Nat), (3 : Nat), (4 : Nat), (5 : Nat)] (sjS x i)) ((fun (x : Nat) => T.ret ()) (0 : Nat))) ∧ ∃ (j : Nat), List.length x.gs - j < List.length x.gs - i ∧ (((x.c = x.c ∧ List.length x.gs = List.length x.gs ∧ contLe (List.length x.gs) (1 : Nat) (cellsOf' encU x.gs) (cellsOf' encU x.gs)) ∧ (x.d = x.d ∧ List.length x.l = List.length x.l ∧ contLe (List.length x.l) (2 : Nat) (cellsOf' encS x.l) (cellsOf' encS x.l)) ∧ x.kind = x.kind ∧ ((0 : Nat) = (0 : Nat) ∧ (0 : Nat) = (0 : Nat)) ∧ SiP.all x (i + (1 : Nat)) = SiP.all x j ∧ ((0 : Nat) = (0 : Nat) ∧ List.length (SiP.at x (i + (1 : Nat))) = List.length (SiP.at x j)) ∧ IntKind.wrap IntKind.i64 ((↑i : Int) + (1 : Int)) = (↑j : Int) ∧ True) ∧ ((x.p.id = x.p.id ∧ x.p.kind = x.p.kind ∧ x.p.topic = x.p.topic ∧ x.p.group = x.p.group ∧ x.p.other = x.p.other ∧ x.p.key = x.p.key ∧ (x.b = x.b ∧ List.length x.p.into = List.length x.p.into ∧ contLe (List.length x.p.into) (1 : Nat) (cellsOf' encU x.p.into) (cellsOf' encU x.p.into)) ∧ (x.b = x.b ∧ List.length x.p.nodes = List.length x.p.nodes ∧ contLe (List.length x.p.nodes) (1 : Nat) (cellsOf' encI x.p.nodes) (cellsOf' encI x.p.nodes)) ∧ x.p.src = x.p.src ∧ x.p.dst = x.p.dst ∧ x.p.step = x.p.step ∧ True) ∧ (List.length (SiP.at x (i + (1 : Nat))) = List.length (SiP.at x j) ∧ contLe (List.length (SiP.at x (i + (1 : Nat)))) (6 : Nat) (cellsOf' encA (SiP.at x (i + (1 : Nat)))) (cellsOf' encA (SiP.at x j))) ∧ True) ∧ true = true) ∧ true = true ∧ () = ()) ∧ (SiP.all x i = false → (((x.c = x.c ∧ List.length x.gs = List.length x.gs ∧ contLe (List.length x.gs) (1 : Nat) (cellsOf' encU x.gs) (cellsOf' encU x.gs)) ∧ (x.d = x.d ∧ List.length x.l = List.length x.l ∧ contLe (List.length x.l) (2 : Nat) (cellsOf' encS x.l) (cellsOf' encS x.l)) ∧ x.kind = x.kind ∧ ((0 : Nat) = (0 : Nat) ∧ (0 : Nat) = (0 : Nat)) ∧ false = SiP.all x (i + (1 : Nat)) ∧ ((0 : Nat) = (0 : Nat) ∧ List.length (SiP.at x i) = List.length (SiP.in x i (0 : Nat))) ∧ (↑i : Int) = (↑i : Int) ∧ (0 : Int) = (0 : Int) ∧ True) ∧ ((x.p.id = x.p.id ∧ x.p.kind = x.p.kind ∧ x.p.topic = x.p.topic ∧ x.p.group = x.p.group ∧ x.p.other = x.p.other ∧ x.p.key = x.p.key ∧ (x.b = x.b ∧ List.length x.p.into = List.length x.p.into ∧ contLe (List.length x.p.into) (1 : Nat) (cellsOf' encU x.p.into) (cellsOf' encU x.p.into)) ∧ (x.b = x.b ∧ List.length x.p.nodes = List.length x.p.nodes ∧ contLe (List.length x.p.nodes) (1 : Nat) (cellsOf' encI x.p.nodes) (cellsOf' encI x.p.nodes)) ∧ x.p.src = x.p.src ∧ x.p.dst = x.p.dst ∧ x.p.step = x.p.step ∧ True) ∧ (List.length (SiP.at x i) = List.length (SiP.in x i (0 : Nat)) ∧ contLe (List.length (SiP.at x i)) (6 : Nat) (cellsOf' encA (SiP.at x i)) (cellsOf' encA (SiP.in x i (0 : Nat)))) ∧ True) ∧ true = true) ∧ LoopOk Try.prog (22 : Nat) (9 : Nat) (loopAt Try.prog (22 : Nat) (9 : Nat)) { t := sjT x i (0 : Nat), m := sjM x i (0 : Nat), mv := [] } (T.map (lout [(0 : Nat), (1 : Nat), (2 : Nat), (3 : Nat), (4 : Nat), (5 : Nat)] (sjS x i)) ((fun (x : Nat) => T.ret ()) (0 : Nat))) ∧ ∃ (j : Nat), List.length x.gs - j < List.length x.gs - i ∧ (((x.c = x.c ∧ List.length x.gs = List.length x.gs ∧ contLe (List.length x.gs) (1 : Nat) (cellsOf' encU x.gs) (cellsOf' encU x.gs)) ∧ (x.d = x.d ∧ List.length x.l = List.length x.l ∧ contLe (List.length x.l) (2 : Nat) (cellsOf' encS x.l) (cellsOf' encS x.l)) ∧ x.kind = x.kind ∧ ((0 : Nat) = (0 : Nat) ∧ (0 : Nat) = (0 : Nat)) ∧ SiP.all x (i + (1 : Nat)) = SiP.all x j ∧ ((0 : Nat) = (0 : Nat) ∧ List.length (SiP.at x (i + (1 : Nat))) = List.length (SiP.at x j)) ∧ IntKind.wrap IntKind.i64 ((↑i : Int) + (1 : Int)) = (↑j : Int) ∧ True) ∧ ((x.p.id = x.p.id ∧ x.p.kind = x.p.kind ∧ x.p.topic = x.p.topic ∧ x.p.group = x.p.group ∧ x.p.other = x.p.other ∧ x.p.key = x.p.key ∧ (x.b = x.b ∧ List.length x.p.into = List.length x.p.into ∧ contLe (List.length x.p.into) (1 : Nat) (cellsOf' encU x.p.into) (cellsOf' encU x.p.into)) ∧ (x.b = x.b ∧ List.length x.p.nodes = List.length x.p.nodes ∧ contLe (List.length x.p.nodes) (1 : Nat) (cellsOf' encI x.p.nodes) (cellsOf' encI x.p.nodes)) ∧ x.p.src = x.p.src ∧ x.p.dst = x.p.dst ∧ x.p.step = x.p.step ∧ True) ∧ (List.length (SiP.at x (i + (1 : Nat))) = List.length (SiP.at x j) ∧ contLe (List.length (SiP.at x (i + (1 : Nat)))) (6 : Nat) (cellsOf' encA (SiP.at x (i + (1 : Nat)))) (cellsOf' encA (SiP.at x j))) ∧ True) ∧ true = true) ∧ true = true ∧ () = ())) ∧ (decide ((↑i : Int) < (↑(List.length x.gs) : Int)) = false → (((0 : Nat) = (0 : Nat) ∧ (0 : Nat) = (0 : Nat)) ∧ SiP.all x i = SiP.all x (List.length x.gs) ∧ ((0 : Nat) = (0 : Nat) ∧ List.length (SiP.at x i) = List.length (SiP.at x (List.length x.gs))) ∧ True) ∧ ((x.p.id = x.p.id ∧ x.p.kind = x.p.kind ∧ x.p.topic = x.p.topic ∧ x.p.group = x.p.group ∧ x.p.other = x.p.other ∧ x.p.key = x.p.key ∧ (x.b = x.b ∧ List.length x.p.into = List.length x.p.into ∧ contLe (List.length x.p.into) (1 : Nat) (cellsOf' encU x.p.into) (cellsOf' encU x.p.into)) ∧ (x.b = x.b ∧ List.length x.p.nodes = List.length x.p.nodes ∧ contLe (List.length x.p.nodes) (1 : Nat) (cellsOf' encI x.p.nodes) (cellsOf' encI x.p.nodes)) ∧ x.p.src = x.p.src ∧ x.p.dst = x.p.dst ∧ x.p.step = x.p.step ∧ True) ∧ (List.length (SiP.at x i) = List.length (SiP.at x (List.length x.gs)) ∧ contLe (List.length (SiP.at x i)) (6 : Nat) (cellsOf' encA (SiP.at x i)) (cellsOf' encA (SiP.at x (List.length x.gs)))) ∧ True) ∧ true = true)
set_option maxRecDepth 1000000 in
theorem vcSi_eq (x : SiP) (i : Nat) : (loopVC Try.prog (siHL x i (x.gs.getD i default)) 22 4 (fun i => x.gs.length - i) (siT x) (siM x) [0, 1, 2, 3, 4, 5] (fun _ => .ret ()) (siS x) i) = vcSi x i := by kernel_rfl
noncomputable def siH (x : SiP) : HintsT Try.prog := hh _ (lp1 22 4 (jobOf (siT x) (siM x) [0, 1, 2, 3, 4, 5] (fun _ => .ret ()) (siS x) 0) noLp) noCs (op1 22 2 0 (.row 47 6) noOp)
def vcSites (x : SiP) : Prop :=
  (((x.c = x.c ∧ List.length x.gs = List.length x.gs ∧ contLe (List.length x.gs) (1 : Nat) (cellsOf' encU x.gs) (cellsOf' encU x.gs)) ∧ (x.d = x.d ∧ List.length x.l = List.length x.l ∧ contLe (List.length x.l) (2 : Nat) (cellsOf' encS x.l) (cellsOf' encS x.l)) ∧ x.kind = x.kind ∧ ((0 : Nat) = (0 : Nat) ∧ (0 : Nat) = (0 : Nat)) ∧ true = true ∧ ((0 : Nat) = (0 : Nat) ∧ (0 : Nat) = (0 : Nat)) ∧ (0 : Int) = (0 : Int) ∧ True) ∧ ((x.p.id = x.p.id ∧ x.p.kind = x.p.kind ∧ x.p.topic = x.p.topic ∧ x.p.group = x.p.group ∧ x.p.other = x.p.other ∧ x.p.key = x.p.key ∧ (x.b = x.b ∧ List.length x.p.into = List.length x.p.into ∧ contLe (List.length x.p.into) (1 : Nat) (cellsOf' encU x.p.into) (cellsOf' encU x.p.into)) ∧ (x.b = x.b ∧ List.length x.p.nodes = List.length x.p.nodes ∧ contLe (List.length x.p.nodes) (1 : Nat) (cellsOf' encI x.p.nodes) (cellsOf' encI x.p.nodes)) ∧ x.p.src = x.p.src ∧ x.p.dst = x.p.dst ∧ x.p.step = x.p.step ∧ True) ∧ ((0 : Nat) = (0 : Nat) ∧ contLe (0 : Nat) (6 : Nat) (fun (x x_1 : Nat) => AV.junk) (cellsOf' encA [])) ∧ True) ∧ true = true) ∧ LoopOk Try.prog (22 : Nat) (4 : Nat) (loopAt Try.prog (22 : Nat) (4 : Nat)) { t := siT x (0 : Nat), m := siM x (0 : Nat), mv := [] } (T.map (lout [(0 : Nat), (1 : Nat), (2 : Nat), (3 : Nat), (4 : Nat), (5 : Nat)] (siS x)) ((fun (x : Nat) => T.ret ()) (0 : Nat))) ∧ (SiP.all x (List.length x.gs) = true → (decide ((1 : Nat) + List.length (SiP.at x (List.length x.gs)) ≤ (9223372036854775807 : Nat)) && decide (((1 : Nat) + List.length (SiP.at x (List.length x.gs))) * (48 : Nat) ≤ (140737488355328 : Nat))) = true ∧ ((0 : Nat) = (0 : Nat) ∧ (1 : Nat) + List.length (SiP.at x (List.length x.gs)) = List.length (sitesL x.l x.kind x.p x.gs)) ∧ ((1 : Nat) + List.length (SiP.at x (List.length x.gs)) = List.length (sitesL x.l x.kind x.p x.gs) ∧ contLe ((1 : Nat) + List.length (SiP.at x (List.length x.gs))) (6 : Nat) (appRow (1 : Nat) (fun (k j : Nat) => Ax.get [AV.s (Value.int IntKind.i64 (4 : Int)), AV.s (Value.int IntKind.u64 (0 : Int)), AV.s (Value.int IntKind.i64 (0 : Int)), AV.y (Value.int IntKind.i64 x.p.step), AV.s (Value.int IntKind.i64 (0 : Int)), AV.s (Value.int IntKind.i64 (0 : Int))] (k * (6 : Nat) + j)) fun (k : Nat) => cellsOf' encA (SiP.at x (List.length x.gs)) ((0 : Nat) + k)) (cellsOf' encA (sitesL x.l x.kind x.p x.gs))) ∧ True) ∧ (SiP.all x (List.length x.gs) = false → ((0 : Nat) = (0 : Nat) ∧ List.length (SiP.at x (List.length x.gs)) = List.length (sitesL x.l x.kind x.p x.gs)) ∧ (List.length (SiP.at x (List.length x.gs)) = List.length (sitesL x.l x.kind x.p x.gs) ∧ contLe (List.length (SiP.at x (List.length x.gs))) (6 : Nat) (cellsOf' encA (SiP.at x (List.length x.gs))) (cellsOf' encA (sitesL x.l x.kind x.p x.gs))) ∧ True)
set_option maxRecDepth 1000000 in
theorem vcSites_eq (x : SiP) : (ctrVC Try.prog (siH x) 22 [.agg (encPl x.b x.p), encUs x.c x.gs, encSs x.d x.l, .y (.int .i64 x.kind)] [] (rowR (sitesL x.l x.kind x.p x.gs))) = vcSites x := by kernel_rfl
theorem miss_step {l : List Site} {kind g : Int} {nodes : List Int} {k : Nat} (h : k < nodes.length) : missA l kind (nodes.take (k + 1)) g = missA l kind (nodes.take k) g ++ (if inS l ⟨g, nodes[k]?.getD 0⟩ then [] else [⟨kind, g, nodes[k]?.getD 0, 0, 0, 0⟩]) := by
  unfold missA
  rw [List.take_add_one, List.getElem?_eq_getElem h]
  simp only [Option.toList, List.filter_append, List.map_append, Option.getD_some]
  cases hi : inS l ⟨g, nodes[k]⟩ <;> simp [hi]
theorem SiP.in_step {x : SiP} {i k : Nat} (h : k < x.p.nodes.length) : x.in i (k + 1) = x.in i k ++ (if inS x.l ⟨x.gs[i]?.getD 0, x.p.nodes[k]?.getD 0⟩ then [] else [⟨x.kind, x.gs[i]?.getD 0, x.p.nodes[k]?.getD 0, 0, 0, 0⟩]) := by
  unfold SiP.in
  rw [miss_step h, List.append_assoc]
  simp
theorem SiP.in_zero (x : SiP) (i : Nat) : x.in i 0 = x.at i := by simp [SiP.in, missA]
theorem snoc_i {d : List Int} {j : Nat} (h : j < d.length) : d.take (j + 1) = d.take j ++ [d[j]?.getD 0] := by
  rw [List.take_add_one, List.getElem?_eq_getElem h]; rfl
theorem SiP.at_step {x : SiP} {i : Nat} (h : i < x.gs.length) : x.at (i + 1) = x.in i x.p.nodes.length := by
  unfold SiP.at SiP.in SiP.at restA
  rw [snoc_i h, List.take_length, List.flatMap_append]
  simp
theorem SiP.all_step {x : SiP} {i : Nat} (h : i < x.gs.length) : x.all (i + 1) = (x.all i && mostB x.l x.p.nodes (x.gs[i]?.getD 0)) := by
  unfold SiP.all
  rw [snoc_i h, List.all_append]
  simp
theorem miss_len (l : List Site) (kind : Int) (nodes : List Int) (g : Int) : (missA l kind nodes g).length ≤ nodes.length := by
  unfold missA
  rw [List.length_map]
  exact List.length_filter_le _ _
theorem SiP.at_len {x : SiP} (hg : x.gs.length ≤ 2) (hn : x.p.nodes.length ≤ 7) (i : Nat) : (x.at i).length ≤ 14 := by
  have key : ∀ gs : List Int, (restA x.l x.kind x.p.nodes gs).length ≤ 7 * gs.length := by
    intro gs
    induction gs with
    | nil => exact Nat.le_refl _
    | cons g t ih =>
      have := miss_len x.l x.kind x.p.nodes g
      simp only [restA, List.flatMap_cons, List.length_append, List.length_cons] at ih ⊢
      omega
  have := key (x.gs.take i)
  have h2 : (x.gs.take i).length ≤ 2 := by simp; omega
  show (restA x.l x.kind x.p.nodes (x.gs.take i)).length ≤ 14
  omega
theorem SiP.in_len {x : SiP} (hg : x.gs.length ≤ 2) (hn : x.p.nodes.length ≤ 7) (i k : Nat) : (x.in i k).length ≤ 21 := by
  have h1 := x.at_len hg hn i
  have h2 := miss_len x.l x.kind (x.p.nodes.take k) (x.gs.getD i default)
  have h3 : (x.p.nodes.take k).length ≤ 7 := by simp; omega
  unfold SiP.in
  rw [List.length_append]
  omega
theorem cons_le {n : Nat} {cs : List AV} {y : Act} {l : List Act} (hn : n = l.length) (h : lstLe 6 1 cs (cellsOf' encA [y])) : contLe (1 + n) 6 (appRow 1 (fun k j => get cs (k * 6 + j)) fun k => cellsOf' encA l k) (cellsOf' encA (y :: l)) := by
  intro k hk j hj
  unfold appRow
  cases k with
  | zero =>
    have := (h 0 (by decide) j hj).1
    simpa [cellsOf'] using this
  | succ k => simp [cellsOf']
structure SiP.Ok (x : SiP) : Prop where
  hl : x.l.length ≤ 9223372036854775806
  hg : x.gs.length ≤ 2
  hn : x.p.nodes.length ≤ 7
theorem sj_loop (x : SiP) (hx : x.Ok) (i k : Nat) (hi : i < x.gs.length) : LoopOk Try.prog 22 9 (loopAt Try.prog 22 9) ⟨sjT x i k, sjM x i k, []⟩ (T.map (lout [0, 1, 2, 3, 4, 5] (sjS x i)) (.ret ())) := by
  refine loop_vcH (ht := fun k => sjH x (x.gs.getD i default) (x.p.nodes.getD k default)) (stT := sjT x i) (stM := sjM x i) (S := sjS x i) (o := fun _ => .ret ()) (μ := fun k => x.p.nodes.length - k) Try.mixed (fun _ => rfl) (fun k => (vcSj_eq x i k).mpr ?_) k
  unfold vcSj
  have hl := hx.hl
  have hn := hx.hn
  have hlen := x.in_len hx.hg hx.hn i k
  simp
  refine ⟨fun hk => ⟨hi, hk, hl, fun h => ⟨hi, hk, by omega, k + 1, by omega, ⟨?_, by rw [wrap_i64 (by omega) (by omega)]; omega⟩, ?_, ?_⟩, fun h => ⟨k + 1, by omega, ⟨?_, by rw [wrap_i64 (by omega) (by omega)]; omega⟩, ?_, ?_⟩⟩, fun hk => ?_⟩
  · rw [SiP.in_step hk, h]; simp
  · rw [SiP.in_step hk, h]; simp
  · rw [SiP.in_step hk, h]
    exact app1_le rfl fun j hj => by match j, hj with | 0, _ => simp [encA] | 1, _ => simp [encA] | 2, _ => simp [encA] | 3, _ => simp [encA] | 4, _ => simp [encA] | 5, _ => simp [encA]
  · rw [SiP.in_step hk, h]; simp
  · rw [SiP.in_step hk, h]; simp
  · rw [SiP.in_step hk, h]; simp
  · have e : x.in i k = x.at (i + 1) := by
      rw [SiP.at_step hi]
      unfold SiP.in
      rw [List.take_of_length_le hk, List.take_length]
    rw [e]; exact ⟨rfl, contLe_refl _ _ _⟩
theorem si_loop (x : SiP) (hx : x.Ok) (i : Nat) : LoopOk Try.prog 22 4 (loopAt Try.prog 22 4) ⟨siT x i, siM x i, []⟩ (T.map (lout [0, 1, 2, 3, 4, 5] (siS x)) (.ret ())) := by
  refine loop_vcH (ht := fun i => siHL x i (x.gs.getD i default)) (stT := siT x) (stM := siM x) (S := siS x) (o := fun _ => .ret ()) (μ := fun i => x.gs.length - i) Try.mixed (fun _ => rfl) (fun i => (vcSi_eq x i).mpr ?_) i
  unfold vcSi
  have hl := hx.hl
  have hn := hx.hn
  have hg := hx.hg
  simp
  refine ⟨fun hi => ?_, fun hi => ?_⟩
  · have hj : ∃ j, x.gs.length - j < x.gs.length - i ∧ (x.all (i + 1) = x.all j ∧ (x.at (i + 1)).length = (x.at j).length ∧ IntKind.i64.wrap ((i : Int) + 1) = (j : Int)) ∧ (x.at (i + 1)).length = (x.at j).length ∧ contLe (x.at (i + 1)).length 6 (cellsOf' encA (x.at (i + 1))) (cellsOf' encA (x.at j)) := ⟨i + 1, by omega, ⟨rfl, rfl, by rw [wrap_i64 (by omega) (by omega)]; omega⟩, rfl, contLe_refl _ _ _⟩
    refine ⟨hi, ⟨hl, hn⟩, fun ha => ⟨⟨⟨?_, by rw [x.in_zero]⟩, by rw [x.in_zero], by rw [x.in_zero]; exact contLe_refl _ _ _⟩, sj_loop x hx i 0 hi, hj⟩, fun ha => ⟨⟨⟨?_, by rw [x.in_zero]⟩, by rw [x.in_zero], by rw [x.in_zero]; exact contLe_refl _ _ _⟩, sj_loop x hx i 0 hi, hj⟩⟩
    · rw [SiP.all_step hi, ha]; rfl
    · rw [SiP.all_step hi, ha]; rfl
  · have e1 : x.at i = x.at x.gs.length := by unfold SiP.at; rw [List.take_of_length_le hi, List.take_length]
    have e2 : x.all i = x.all x.gs.length := by unfold SiP.all; rw [List.take_of_length_le hi, List.take_length]
    rw [e1, e2]; exact ⟨⟨rfl, rfl⟩, rfl, contLe_refl _ _ _⟩
theorem sites_c (x : SiP) (hx : x.Ok) : (rowR (sitesL x.l x.kind x.p x.gs)).Sat (ACall' Try.prog 22 [.agg (encPl x.b x.p), encUs x.c x.gs, encSs x.d x.l, .y (.int .i64 x.kind)] []) := by
  refine ctr_vc (ht := siH x) Try.mixed rfl ?_
  rw [vcSites_eq x]
  unfold vcSites
  have h1 : restA x.l x.kind x.p.nodes x.gs = x.at x.gs.length := by simp [SiP.at]
  have h2 : x.gs.all (mostB x.l x.p.nodes) = x.all x.gs.length := by simp [SiP.all]
  have h3 := x.at_len hx.hg hx.hn x.gs.length
  unfold sitesL
  rw [h1, h2]
  have := si_loop x hx 0
  cases ha : x.all x.gs.length
  · simp [this]
  · simp [this]
    exact ⟨by omega, by omega, cons_le rfl (lst1 (by simp [stepA]) (by simp [stepA]) (by simp [stepA]) (by simp [stepA]) (by simp [stepA]) (by simp [stepA]))⟩
end Go.Proofs.Ytghhkabankbkoaa
