import Derived.Test.YtghhkabankbkoaaProg
import Derived.KernelRfl
import Derived.Test.YtghhkabankbkoaaE8
set_option linter.unusedVariables false
set_option linter.unusedSimpArgs false
/-! Plans: data; what is in a list. -/
namespace Go.Proofs.Ytghhkabankbkoaa
open Go.Ax
set_option maxRecDepth 1000000
structure Site where
  group : Int
  node : Int
instance : Inhabited Site := ⟨⟨0, 0⟩⟩
structure Act where
  kind : Int
  group : Int
  node : Int
  step : Int
  ck : Int
  cn : Int
instance : Inhabited Act := ⟨⟨0, 0, 0, 0, 0, 0⟩⟩
structure Plan where
  id : Int
  kind : Int
  topic : ByteArray
  group : Int
  other : Int
  key : ByteArray
  into : List Int
  nodes : List Int
  src : Int
  dst : Int
  step : Int
structure Seen where
  frozen : List Int
  made : List Site
  gone : List Site
  voters : List Int
  learners : List Int
  leader : Int
  ready : Bool
def encU (x : Int) : List AV := [.y (.int .u64 x)]
def encI (x : Int) : List AV := [.y (.int .i64 x)]
def encS (x : Site) : List AV := [.y (.int .u64 x.group), .y (.int .i64 x.node)]
def encA (x : Act) : List AV := [.y (.int .i64 x.kind), .y (.int .u64 x.group), .y (.int .i64 x.node), .y (.int .i64 x.step), .y (.int .i64 x.ck), .y (.int .i64 x.cn)]
def encUs (b : Bool) (l : List Int) : AV := .ys b 1 l.length (cellsOf' encU l)
def encIs (b : Bool) (l : List Int) : AV := .ys b 1 l.length (cellsOf' encI l)
def encSs (b : Bool) (l : List Site) : AV := .ys b 2 l.length (cellsOf' encS l)
def encAs (b : Bool) (l : List Act) : AV := .ys b 6 l.length (cellsOf' encA l)
theorem Try.mixed : Try.prog.follows .mixedOrders = true := by kernel_rfl
/-- is one there? from the k-th on -/
def inI (l : List Int) (x : Int) : Bool := l.any fun z => z == x
def inS (l : List Site) (x : Site) : Bool := l.any fun z => z.group == x.group && z.node == x.node
theorem inI_nil (x : Int) : inI [] x = false := rfl
theorem inI_cons (z : Int) (l : List Int) (x : Int) : inI (z :: l) x = (z == x || inI l x) := rfl
theorem inS_nil (x : Site) : inS [] x = false := rfl
theorem inS_cons (z : Site) (l : List Site) (x : Site) : inS (z :: l) x = ((z.group == x.group && z.node == x.node) || inS l x) := rfl
def boolR (b : Bool) : T An := .ret (.y (.bool b), [], [])

def ctUT (b : Bool) (l : List Int) (x : Int) (k : Nat) : List AV := mkT 19 [(0, encUs b l), (1, .y (.int .u64 x)), (4, .s (.int .i64 0)), (6, encUs b l), (7, .y (.int .i64 l.length)), (8, .y (.int .i64 k))]
def ctUS (x : Int) (r : Bool × Nat) : Exit × List AV × List Blk := match r.1 with
  | true => (.ret, mkT 19 [(4, .y (.int .i64 r.2))], [])
  | false => (.exit 0, mkT 19 [], [])
def ctUO (l : List Int) (x : Int) (k : Nat) : T (Bool × Nat) := .ite (inI (l.drop k) x) (.ret (true, k + (l.drop k).findIdx fun z => z == x)) (.ret (false, 0))
def vcCtUL (b : Bool) (l : List Int) (x : Int) (k : Nat) : Prop :=
  (decide ((↑k : Int) < (↑(List.length l) : Int)) = true → (true && decide ((↑k : Int) < (↑(List.length l) : Int))) = true ∧ ((x == List.getD l (Int.toNat (↑k : Int)) (0 : Int)) = true → (inI (List.drop k l) x = true → ((↑k : Int) = (↑(k + List.findIdx (fun (z : Int) => z == x) (List.drop k l)) : Int) ∧ True) ∧ True ∧ true = true) ∧ (inI (List.drop k l) x = false → False)) ∧ ((x == List.getD l (Int.toNat (↑k : Int)) (0 : Int)) = false → ∃ (j : Nat), List.length l - j < List.length l - k ∧ (((b = b ∧ List.length l = List.length l ∧ contLe (List.length l) (1 : Nat) (cellsOf' encU l) (cellsOf' encU l)) ∧ x = x ∧ (0 : Int) = (0 : Int) ∧ (b = b ∧ List.length l = List.length l ∧ contLe (List.length l) (1 : Nat) (cellsOf' encU l) (cellsOf' encU l)) ∧ (↑(List.length l) : Int) = (↑(List.length l) : Int) ∧ IntKind.wrap IntKind.i64 ((↑k : Int) + (1 : Int)) = (↑j : Int) ∧ True) ∧ True ∧ true = true) ∧ true = true ∧ (inI (List.drop j l) x = true → (inI (List.drop k l) x = true → (true, j + List.findIdx (fun (z : Int) => z == x) (List.drop j l)) = (true, k + List.findIdx (fun (z : Int) => z == x) (List.drop k l))) ∧ (inI (List.drop k l) x = false → (true, j + List.findIdx (fun (z : Int) => z == x) (List.drop j l)) = (false, (0 : Nat)))) ∧ (inI (List.drop j l) x = false → (inI (List.drop k l) x = true → (false, (0 : Nat)) = (true, k + List.findIdx (fun (z : Int) => z == x) (List.drop k l))) ∧ (inI (List.drop k l) x = false → (false, (0 : Nat)) = (false, (0 : Nat)))))) ∧ (decide ((↑k : Int) < (↑(List.length l) : Int)) = false → (inI (List.drop k l) x = true → False) ∧ (inI (List.drop k l) x = false → True ∧ True ∧ true = true))
set_option maxRecDepth 1000000 in
theorem vcCtUL_eq (b : Bool) (l : List Int) (x : Int) (k : Nat) : (loopVC Try.prog (hT _) 47 2 (fun k => l.length - k) (ctUT b l x) (fun _ => []) [0] (ctUO l x) (ctUS x) k) = vcCtUL b l x k := by kernel_rfl
noncomputable def ctUH (b : Bool) (l : List Int) (x : Int) : HintsT Try.prog := hh _ (lp1 47 2 (jobOf (ctUT b l x) (fun _ => []) [0] (ctUO l x) (ctUS x) 0) noLp) noCs noOp
def vcCtU (b : Bool) (l : List Int) (x : Int) : Prop :=
  (((b = b ∧ List.length l = List.length l ∧ contLe (List.length l) (1 : Nat) (cellsOf' encU l) (cellsOf' encU l)) ∧ x = x ∧ (0 : Int) = (0 : Int) ∧ (b = b ∧ List.length l = List.length l ∧ contLe (List.length l) (1 : Nat) (cellsOf' encU l) (cellsOf' encU l)) ∧ (↑(List.length l) : Int) = (↑(List.length l) : Int) ∧ (0 : Int) = (0 : Int) ∧ True) ∧ True ∧ true = true) ∧ LoopOk Try.prog (47 : Nat) (2 : Nat) (loopAt Try.prog (47 : Nat) (2 : Nat)) { t := ctUT b l x (0 : Nat), m := [], mv := [] } (T.map (lout [(0 : Nat)] (ctUS x)) (ctUO l x (0 : Nat))) ∧ (inI (List.drop (0 : Nat) l) x = true → true = inI l x ∧ True) ∧ (inI (List.drop (0 : Nat) l) x = false → false = inI l x ∧ True)
set_option maxRecDepth 1000000 in
theorem vcCtU_eq (b : Bool) (l : List Int) (x : Int) : (ctrVC Try.prog (ctUH b l x) 42 [encUs b l, .y (.int .u64 x)] [] (boolR (inI l x))) = vcCtU b l x := by kernel_rfl
theorem ctU_loop (b : Bool) (l : List Int) (x : Int) (hl : l.length ≤ 9223372036854775806) (k : Nat) : LoopOk Try.prog 47 2 (loopAt Try.prog 47 2) ⟨ctUT b l x k, [], []⟩ ((ctUO l x k).map (lout [0] (ctUS x))) := by
  refine loop_vc Try.mixed (fun _ => rfl) (fun k => (vcCtUL_eq b l x k).mpr ?_) k
  unfold vcCtUL
  simp
  refine ⟨fun h => ?_, fun h => by simp [inI, drop_end h]⟩
  simp (disch := omega) only [wrap_i64]
  rw [drop_cons h]
  simp only [inI_cons, List.findIdx_cons]
  generalize l[k]?.getD default = z
  by_cases hx : x = z
  · subst hx
    simp [h]
  · have hb : (z == x) = false := by simp; omega
    refine ⟨h, fun e => absurd e hx, fun _ => ⟨k + 1, by omega, by omega, ?_⟩⟩
    simp [hb]
    intro h1
    exact ⟨fun _ => by omega, h1⟩
theorem ctU_c (b : Bool) (l : List Int) (x : Int) (hl : l.length ≤ 9223372036854775806) : (boolR (inI l x)).Sat (ACall' Try.prog 42 [encUs b l, .y (.int .u64 x)] []) := by
  refine ctr_vc (ht := (ctUH b l x)) Try.mixed rfl ?_
  rw [vcCtU_eq b l x]
  unfold vcCtU
  have := ctU_loop b l x hl 0
  simp [this]

def ctIT (b : Bool) (l : List Int) (x : Int) (k : Nat) : List AV := mkT 19 [(0, encIs b l), (1, .y (.int .i64 x)), (4, .s (.int .i64 0)), (6, encIs b l), (7, .y (.int .i64 l.length)), (8, .y (.int .i64 k))]
def ctIS (x : Int) (r : Bool × Nat) : Exit × List AV × List Blk := match r.1 with
  | true => (.ret, mkT 19 [(4, .y (.int .i64 r.2))], [])
  | false => (.exit 0, mkT 19 [], [])
def ctIO (l : List Int) (x : Int) (k : Nat) : T (Bool × Nat) := .ite (inI (l.drop k) x) (.ret (true, k + (l.drop k).findIdx fun z => z == x)) (.ret (false, 0))
def vcCtIL (b : Bool) (l : List Int) (x : Int) (k : Nat) : Prop :=
  (decide ((↑k : Int) < (↑(List.length l) : Int)) = true → (true && decide ((↑k : Int) < (↑(List.length l) : Int))) = true ∧ ((x == List.getD l (Int.toNat (↑k : Int)) (0 : Int)) = true → (inI (List.drop k l) x = true → ((↑k : Int) = (↑(k + List.findIdx (fun (z : Int) => z == x) (List.drop k l)) : Int) ∧ True) ∧ True ∧ true = true) ∧ (inI (List.drop k l) x = false → False)) ∧ ((x == List.getD l (Int.toNat (↑k : Int)) (0 : Int)) = false → ∃ (j : Nat), List.length l - j < List.length l - k ∧ (((b = b ∧ List.length l = List.length l ∧ contLe (List.length l) (1 : Nat) (cellsOf' encI l) (cellsOf' encI l)) ∧ x = x ∧ (0 : Int) = (0 : Int) ∧ (b = b ∧ List.length l = List.length l ∧ contLe (List.length l) (1 : Nat) (cellsOf' encI l) (cellsOf' encI l)) ∧ (↑(List.length l) : Int) = (↑(List.length l) : Int) ∧ IntKind.wrap IntKind.i64 ((↑k : Int) + (1 : Int)) = (↑j : Int) ∧ True) ∧ True ∧ true = true) ∧ true = true ∧ (inI (List.drop j l) x = true → (inI (List.drop k l) x = true → (true, j + List.findIdx (fun (z : Int) => z == x) (List.drop j l)) = (true, k + List.findIdx (fun (z : Int) => z == x) (List.drop k l))) ∧ (inI (List.drop k l) x = false → (true, j + List.findIdx (fun (z : Int) => z == x) (List.drop j l)) = (false, (0 : Nat)))) ∧ (inI (List.drop j l) x = false → (inI (List.drop k l) x = true → (false, (0 : Nat)) = (true, k + List.findIdx (fun (z : Int) => z == x) (List.drop k l))) ∧ (inI (List.drop k l) x = false → (false, (0 : Nat)) = (false, (0 : Nat)))))) ∧ (decide ((↑k : Int) < (↑(List.length l) : Int)) = false → (inI (List.drop k l) x = true → False) ∧ (inI (List.drop k l) x = false → True ∧ True ∧ true = true))
set_option maxRecDepth 1000000 in
theorem vcCtIL_eq (b : Bool) (l : List Int) (x : Int) (k : Nat) : (loopVC Try.prog (hT _) 51 2 (fun k => l.length - k) (ctIT b l x) (fun _ => []) [0] (ctIO l x) (ctIS x) k) = vcCtIL b l x k := by kernel_rfl
noncomputable def ctIH (b : Bool) (l : List Int) (x : Int) : HintsT Try.prog := hh _ (lp1 51 2 (jobOf (ctIT b l x) (fun _ => []) [0] (ctIO l x) (ctIS x) 0) noLp) noCs noOp
def vcCtI (b : Bool) (l : List Int) (x : Int) : Prop :=
  (((b = b ∧ List.length l = List.length l ∧ contLe (List.length l) (1 : Nat) (cellsOf' encI l) (cellsOf' encI l)) ∧ x = x ∧ (0 : Int) = (0 : Int) ∧ (b = b ∧ List.length l = List.length l ∧ contLe (List.length l) (1 : Nat) (cellsOf' encI l) (cellsOf' encI l)) ∧ (↑(List.length l) : Int) = (↑(List.length l) : Int) ∧ (0 : Int) = (0 : Int) ∧ True) ∧ True ∧ true = true) ∧ LoopOk Try.prog (51 : Nat) (2 : Nat) (loopAt Try.prog (51 : Nat) (2 : Nat)) { t := ctIT b l x (0 : Nat), m := [], mv := [] } (T.map (lout [(0 : Nat)] (ctIS x)) (ctIO l x (0 : Nat))) ∧ (inI (List.drop (0 : Nat) l) x = true → true = inI l x ∧ True) ∧ (inI (List.drop (0 : Nat) l) x = false → false = inI l x ∧ True)
set_option maxRecDepth 1000000 in
theorem vcCtI_eq (b : Bool) (l : List Int) (x : Int) : (ctrVC Try.prog (ctIH b l x) 46 [encIs b l, .y (.int .i64 x)] [] (boolR (inI l x))) = vcCtI b l x := by kernel_rfl
theorem ctI_loop (b : Bool) (l : List Int) (x : Int) (hl : l.length ≤ 9223372036854775806) (k : Nat) : LoopOk Try.prog 51 2 (loopAt Try.prog 51 2) ⟨ctIT b l x k, [], []⟩ ((ctIO l x k).map (lout [0] (ctIS x))) := by
  refine loop_vc Try.mixed (fun _ => rfl) (fun k => (vcCtIL_eq b l x k).mpr ?_) k
  unfold vcCtIL
  simp
  refine ⟨fun h => ?_, fun h => by simp [inI, drop_end h]⟩
  simp (disch := omega) only [wrap_i64]
  rw [drop_cons h]
  simp only [inI_cons, List.findIdx_cons]
  generalize l[k]?.getD default = z
  by_cases hx : x = z
  · subst hx
    simp [h]
  · have hb : (z == x) = false := by simp; omega
    refine ⟨h, fun e => absurd e hx, fun _ => ⟨k + 1, by omega, by omega, ?_⟩⟩
    simp [hb]
    intro h1
    exact ⟨fun _ => by omega, h1⟩
theorem ctI_c (b : Bool) (l : List Int) (x : Int) (hl : l.length ≤ 9223372036854775806) : (boolR (inI l x)).Sat (ACall' Try.prog 46 [encIs b l, .y (.int .i64 x)] []) := by
  refine ctr_vc (ht := (ctIH b l x)) Try.mixed rfl ?_
  rw [vcCtI_eq b l x]
  unfold vcCtI
  have := ctI_loop b l x hl 0
  simp [this]

def ctST (b : Bool) (l : List Site) (x : Site) (k : Nat) : List AV := mkT 19 [(0, encSs b l), (3, .ptr 0 0 0 0), (4, .s (.int .i64 0)), (6, encSs b l), (7, .y (.int .i64 l.length)), (8, .y (.int .i64 k))]
def ctSS (x : Site) (r : Bool × Nat) : Exit × List AV × List Blk := match r.1 with
  | true => (.ret, mkT 19 [(4, .y (.int .i64 r.2))], [.box 40 (encS x)])
  | false => (.exit 0, mkT 19 [], [.box 40 (encS x)])
def ctSO (l : List Site) (x : Site) (k : Nat) : T (Bool × Nat) := .ite (inS (l.drop k) x) (.ret (true, k + (l.drop k).findIdx fun z => z.group == x.group && z.node == x.node)) (.ret (false, 0))
def vcCtSL (b : Bool) (l : List Site) (x : Site) (k : Nat) : Prop :=
  (decide ((↑k : Int) < (↑(List.length l) : Int)) = true → (true && decide ((↑k : Int) < (↑(List.length l) : Int))) = true ∧ ((x.group == (List.getD l (Int.toNat (↑k : Int)) (@default Site instInhabitedSite)).group && (x.node == (List.getD l (Int.toNat (↑k : Int)) (@default Site instInhabitedSite)).node && true)) = true → (inS (List.drop k l) x = true → ((↑k : Int) = (↑(k + List.findIdx (fun (z : Site) => z.group == x.group && z.node == x.node) (List.drop k l)) : Int) ∧ True) ∧ ((x.group = x.group ∧ x.node = x.node ∧ True) ∧ True) ∧ true = true) ∧ (inS (List.drop k l) x = false → False)) ∧ ((x.group == (List.getD l (Int.toNat (↑k : Int)) (@default Site instInhabitedSite)).group && (x.node == (List.getD l (Int.toNat (↑k : Int)) (@default Site instInhabitedSite)).node && true)) = false → ∃ (j : Nat), List.length l - j < List.length l - k ∧ (((b = b ∧ List.length l = List.length l ∧ contLe (List.length l) (2 : Nat) (cellsOf' encS l) (cellsOf' encS l)) ∧ ((0 : Nat) = (0 : Nat) ∧ (0 : Nat) = (0 : Nat)) ∧ (0 : Int) = (0 : Int) ∧ (b = b ∧ List.length l = List.length l ∧ contLe (List.length l) (2 : Nat) (cellsOf' encS l) (cellsOf' encS l)) ∧ (↑(List.length l) : Int) = (↑(List.length l) : Int) ∧ IntKind.wrap IntKind.i64 ((↑k : Int) + (1 : Int)) = (↑j : Int) ∧ True) ∧ ((x.group = x.group ∧ x.node = x.node ∧ True) ∧ True) ∧ true = true) ∧ true = true ∧ (inS (List.drop j l) x = true → (inS (List.drop k l) x = true → (true, j + List.findIdx (fun (z : Site) => z.group == x.group && z.node == x.node) (List.drop j l)) = (true, k + List.findIdx (fun (z : Site) => z.group == x.group && z.node == x.node) (List.drop k l))) ∧ (inS (List.drop k l) x = false → (true, j + List.findIdx (fun (z : Site) => z.group == x.group && z.node == x.node) (List.drop j l)) = (false, (0 : Nat)))) ∧ (inS (List.drop j l) x = false → (inS (List.drop k l) x = true → (false, (0 : Nat)) = (true, k + List.findIdx (fun (z : Site) => z.group == x.group && z.node == x.node) (List.drop k l))) ∧ (inS (List.drop k l) x = false → (false, (0 : Nat)) = (false, (0 : Nat)))))) ∧ (decide ((↑k : Int) < (↑(List.length l) : Int)) = false → (inS (List.drop k l) x = true → False) ∧ (inS (List.drop k l) x = false → True ∧ ((x.group = x.group ∧ x.node = x.node ∧ True) ∧ True) ∧ true = true))
set_option maxRecDepth 1000000 in
theorem vcCtSL_eq (b : Bool) (l : List Site) (x : Site) (k : Nat) : (loopVC Try.prog (hT _) 48 2 (fun k => l.length - k) (ctST b l x) (fun _ => [.box 40 (encS x)]) [0, 1, 2, 3] (ctSO l x) (ctSS x) k) = vcCtSL b l x k := by kernel_rfl
noncomputable def ctSH (b : Bool) (l : List Site) (x : Site) : HintsT Try.prog := hh _ (lp1 48 2 (jobOf (ctST b l x) (fun _ => [.box 40 (encS x)]) [0, 1, 2, 3] (ctSO l x) (ctSS x) 0) noLp) noCs noOp
def vcCtS (b : Bool) (l : List Site) (x : Site) : Prop :=
  (((b = b ∧ List.length l = List.length l ∧ contLe (List.length l) (2 : Nat) (cellsOf' encS l) (cellsOf' encS l)) ∧ ((0 : Nat) = (0 : Nat) ∧ (0 : Nat) = (0 : Nat)) ∧ (0 : Int) = (0 : Int) ∧ (b = b ∧ List.length l = List.length l ∧ contLe (List.length l) (2 : Nat) (cellsOf' encS l) (cellsOf' encS l)) ∧ (↑(List.length l) : Int) = (↑(List.length l) : Int) ∧ (0 : Int) = (0 : Int) ∧ True) ∧ ((x.group = x.group ∧ x.node = x.node ∧ True) ∧ True) ∧ true = true) ∧ LoopOk Try.prog (48 : Nat) (2 : Nat) (loopAt Try.prog (48 : Nat) (2 : Nat)) { t := ctST b l x (0 : Nat), m := [Blk.box (40 : TypeId) (encS x)], mv := [] } (T.map (lout [(0 : Nat), (1 : Nat), (2 : Nat), (3 : Nat)] (ctSS x)) (ctSO l x (0 : Nat))) ∧ (inS (List.drop (0 : Nat) l) x = true → true = inS l x ∧ True) ∧ (inS (List.drop (0 : Nat) l) x = false → false = inS l x ∧ True)
set_option maxRecDepth 1000000 in
theorem vcCtS_eq (b : Bool) (l : List Site) (x : Site) : (ctrVC Try.prog (ctSH b l x) 44 [encSs b l, .agg (encS x)] [] (boolR (inS l x))) = vcCtS b l x := by kernel_rfl
theorem ctS_loop (b : Bool) (l : List Site) (x : Site) (hl : l.length ≤ 9223372036854775806) (k : Nat) : LoopOk Try.prog 48 2 (loopAt Try.prog 48 2) ⟨ctST b l x k, [.box 40 (encS x)], []⟩ ((ctSO l x k).map (lout [0, 1, 2, 3] (ctSS x))) := by
  refine loop_vc Try.mixed (fun _ => rfl) (fun k => (vcCtSL_eq b l x k).mpr ?_) k
  unfold vcCtSL
  simp
  refine ⟨fun h => ?_, fun h => by simp [inS, drop_end h]⟩
  simp (disch := omega) only [wrap_i64]
  rw [drop_cons h]
  simp only [inS_cons, List.findIdx_cons]
  generalize l[k]?.getD default = z
  by_cases hx : x.group = z.group ∧ x.node = z.node
  · obtain ⟨h1, h2⟩ := hx
    simp [h, h1, h2]
  · have hb : (z.group == x.group && z.node == x.node) = false := by simp; omega
    refine ⟨h, fun e1 e2 => absurd ⟨e1, e2⟩ hx, fun _ => ⟨k + 1, by omega, by omega, ?_⟩⟩
    simp only [hb]
    simp
    intro h1
    exact ⟨fun _ => by omega, h1⟩
theorem ctS_c (b : Bool) (l : List Site) (x : Site) (hl : l.length ≤ 9223372036854775806) : (boolR (inS l x)).Sat (ACall' Try.prog 44 [encSs b l, .agg (encS x)] []) := by
  refine ctr_vc (ht := (ctSH b l x)) Try.mixed rfl ?_
  rw [vcCtS_eq b l x]
  unfold vcCtS
  have := ctS_loop b l x hl 0
  simp [this]
end Go.Proofs.Ytghhkabankbkoaa

/-! Plans: the document's small functions; which plans may be. -/
namespace Go.Proofs.Ytghhkabankbkoaa
open Go.Ax
set_option maxRecDepth 1000000
def encPl (b : Bool) (p : Plan) : List AV := [.y (.int .u64 p.id), .y (.int .i64 p.kind), .y (.string p.topic), .y (.int .u64 p.group), .y (.int .u64 p.other), .y (.string p.key), encUs b p.into, encIs b p.nodes, .y (.int .i64 p.src), .y (.int .i64 p.dst), .y (.int .i64 p.step)]
def encSe (b c : Bool) (s : Seen) : List AV := [encUs b s.frozen, encSs b s.made, encSs b s.gone, encIs c s.voters, encIs c s.learners, .y (.int .i64 s.leader), .y (.bool s.ready)]
structure Plan.Ok (p : Plan) : Prop where
  into : p.into.length ≤ 9223372036854775806
  nodes : p.nodes.length ≤ 9223372036854775806
structure Seen.Ok (s : Seen) : Prop where
  frozen : s.frozen.length ≤ 9223372036854775806
  made : s.made.length ≤ 9223372036854775806
  gone : s.gone.length ≤ 9223372036854775806
  voters : s.voters.length ≤ 9223372036854775806
  learners : s.learners.length ≤ 9223372036854775806
/-! member -/
def mbT (b : Bool) (l : List Int) (x : Int) (k : Nat) : List AV := mkT 18 [(0, encIs b l), (1, .y (.int .i64 x)), (4, .s (.bool false)), (5, .y (.int .i64 k))]
def mbS (r : Bool) : Exit × List AV × List Blk := match r with
  | true => (.ret, mkT 18 [(4, .s (.bool true))], [])
  | false => (.exit 0, mkT 18 [], [])
def inO (l : List Int) (x : Int) (k : Nat) : T Bool := .ite (inI (l.drop k) x) (.ret true) (.ret false)
def vcMbL (b : Bool) (l : List Int) (x : Int) (k : Nat) : Prop :=
  (decide ((↑k : Int) < (↑(List.length l) : Int)) = true → (true && decide ((↑k : Int) < (↑(List.length l) : Int))) = true ∧ ((List.getD l (Int.toNat (↑k : Int)) (0 : Int) == x) = true → (inI (List.drop k l) x = true → (true = true ∧ True) ∧ True ∧ true = true) ∧ (inI (List.drop k l) x = false → False)) ∧ ((List.getD l (Int.toNat (↑k : Int)) (0 : Int) == x) = false → ∃ (j : Nat), List.length l - j < List.length l - k ∧ (((b = b ∧ List.length l = List.length l ∧ contLe (List.length l) (1 : Nat) (cellsOf' encI l) (cellsOf' encI l)) ∧ x = x ∧ false = false ∧ IntKind.wrap IntKind.i64 ((↑k : Int) + (1 : Int)) = (↑j : Int) ∧ True) ∧ True ∧ true = true) ∧ true = true ∧ (inI (List.drop j l) x = true → (inI (List.drop k l) x = true → true = true) ∧ (inI (List.drop k l) x = false → true = false)) ∧ (inI (List.drop j l) x = false → (inI (List.drop k l) x = true → false = true) ∧ (inI (List.drop k l) x = false → false = false)))) ∧ (decide ((↑k : Int) < (↑(List.length l) : Int)) = false → (inI (List.drop k l) x = true → False) ∧ (inI (List.drop k l) x = false → True ∧ True ∧ true = true))
set_option maxRecDepth 1000000 in
theorem vcMbL_eq (b : Bool) (l : List Int) (x : Int) (k : Nat) : (loopVC Try.prog (hT _) 37 2 (fun k => l.length - k) (mbT b l x) (fun _ => []) [0] (inO l x) mbS k) = vcMbL b l x k := by kernel_rfl
noncomputable def mbH (b : Bool) (l : List Int) (x : Int) : HintsT Try.prog := hh _ (lp1 37 2 (jobOf (mbT b l x) (fun _ => []) [0] (inO l x) mbS 0) noLp) noCs noOp
def vcMb (b : Bool) (l : List Int) (x : Int) : Prop :=
  (((b = b ∧ List.length l = List.length l ∧ contLe (List.length l) (1 : Nat) (cellsOf' encI l) (cellsOf' encI l)) ∧ x = x ∧ false = false ∧ (0 : Int) = (0 : Int) ∧ True) ∧ True ∧ true = true) ∧ LoopOk Try.prog (37 : Nat) (2 : Nat) (loopAt Try.prog (37 : Nat) (2 : Nat)) { t := mbT b l x (0 : Nat), m := [], mv := [] } (T.map (lout [(0 : Nat)] mbS) (inO l x (0 : Nat))) ∧ (inI (List.drop (0 : Nat) l) x = true → true = inI l x ∧ True) ∧ (inI (List.drop (0 : Nat) l) x = false → false = inI l x ∧ True)
set_option maxRecDepth 1000000 in
theorem vcMb_eq (b : Bool) (l : List Int) (x : Int) : (ctrVC Try.prog (mbH b l x) 37 [encIs b l, .y (.int .i64 x)] [] (boolR (inI l x))) = vcMb b l x := by kernel_rfl
theorem mb_loop (b : Bool) (l : List Int) (x : Int) (hl : l.length ≤ 9223372036854775806) (k : Nat) : LoopOk Try.prog 37 2 (loopAt Try.prog 37 2) ⟨mbT b l x k, [], []⟩ ((inO l x k).map (lout [0] mbS)) := by
  refine loop_vc Try.mixed (fun _ => rfl) (fun k => (vcMbL_eq b l x k).mpr ?_) k
  unfold vcMbL
  simp
  refine ⟨fun h => ?_, fun h => by simp [inI, drop_end h]⟩
  simp (disch := omega) only [wrap_i64]
  rw [drop_cons h]
  simp only [inI_cons]
  generalize l[k]?.getD default = z
  by_cases hx : z = x
  · simp [h, hx]
  · have hb : (z == x) = false := by simp; omega
    exact ⟨h, fun e => absurd e hx, fun _ => ⟨k + 1, by omega, by omega, by simp [hb]⟩⟩
theorem mb_c (b : Bool) (l : List Int) (x : Int) (hl : l.length ≤ 9223372036854775806) : (boolR (inI l x)).Sat (ACall' Try.prog 37 [encIs b l, .y (.int .i64 x)] []) := by
  refine ctr_vc (ht := (mbH b l x)) Try.mixed rfl ?_
  rw [vcMb_eq b l x]
  unfold vcMb
  have := mb_loop b l x hl 0
  simp [this]
/-! frozen -/
def fzT (b c : Bool) (s : Seen) (x : Int) (k : Nat) : List AV := mkT 20 [(1, .y (.int .u64 x)), (2, .ptr 0 0 0 0), (4, .s (.bool false)), (5, .y (.int .i64 k))]
def fzM (b c : Bool) (s : Seen) : List Blk := [.box 38 (encSe b c s)]
def fzS (b c : Bool) (s : Seen) (r : Bool) : Exit × List AV × List Blk := match r with
  | true => (.ret, mkT 20 [(4, .s (.bool true))], fzM b c s)
  | false => (.exit 0, mkT 20 [], fzM b c s)
def vcFzL (b : Bool) (c : Bool) (s : Seen) (x : Int) (k : Nat) : Prop :=
  (decide ((↑k : Int) < (↑(List.length s.frozen) : Int)) = true → (true && decide ((↑k : Int) < (↑(List.length s.frozen) : Int))) = true ∧ ((List.getD s.frozen (Int.toNat (↑k : Int)) (0 : Int) == x) = true → (inI (List.drop k s.frozen) x = true → (true = true ∧ True) ∧ (((b = b ∧ List.length s.frozen = List.length s.frozen ∧ contLe (List.length s.frozen) (1 : Nat) (cellsOf' encU s.frozen) (cellsOf' encU s.frozen)) ∧ (b = b ∧ List.length s.made = List.length s.made ∧ contLe (List.length s.made) (2 : Nat) (cellsOf' encS s.made) (cellsOf' encS s.made)) ∧ (b = b ∧ List.length s.gone = List.length s.gone ∧ contLe (List.length s.gone) (2 : Nat) (cellsOf' encS s.gone) (cellsOf' encS s.gone)) ∧ (c = c ∧ List.length s.voters = List.length s.voters ∧ contLe (List.length s.voters) (1 : Nat) (cellsOf' encI s.voters) (cellsOf' encI s.voters)) ∧ (c = c ∧ List.length s.learners = List.length s.learners ∧ contLe (List.length s.learners) (1 : Nat) (cellsOf' encI s.learners) (cellsOf' encI s.learners)) ∧ s.leader = s.leader ∧ s.ready = s.ready ∧ True) ∧ True) ∧ true = true) ∧ (inI (List.drop k s.frozen) x = false → False)) ∧ ((List.getD s.frozen (Int.toNat (↑k : Int)) (0 : Int) == x) = false → ∃ (j : Nat), List.length s.frozen - j < List.length s.frozen - k ∧ ((x = x ∧ ((0 : Nat) = (0 : Nat) ∧ (0 : Nat) = (0 : Nat)) ∧ false = false ∧ IntKind.wrap IntKind.i64 ((↑k : Int) + (1 : Int)) = (↑j : Int) ∧ True) ∧ (((b = b ∧ List.length s.frozen = List.length s.frozen ∧ contLe (List.length s.frozen) (1 : Nat) (cellsOf' encU s.frozen) (cellsOf' encU s.frozen)) ∧ (b = b ∧ List.length s.made = List.length s.made ∧ contLe (List.length s.made) (2 : Nat) (cellsOf' encS s.made) (cellsOf' encS s.made)) ∧ (b = b ∧ List.length s.gone = List.length s.gone ∧ contLe (List.length s.gone) (2 : Nat) (cellsOf' encS s.gone) (cellsOf' encS s.gone)) ∧ (c = c ∧ List.length s.voters = List.length s.voters ∧ contLe (List.length s.voters) (1 : Nat) (cellsOf' encI s.voters) (cellsOf' encI s.voters)) ∧ (c = c ∧ List.length s.learners = List.length s.learners ∧ contLe (List.length s.learners) (1 : Nat) (cellsOf' encI s.learners) (cellsOf' encI s.learners)) ∧ s.leader = s.leader ∧ s.ready = s.ready ∧ True) ∧ True) ∧ true = true) ∧ true = true ∧ (inI (List.drop j s.frozen) x = true → (inI (List.drop k s.frozen) x = true → true = true) ∧ (inI (List.drop k s.frozen) x = false → true = false)) ∧ (inI (List.drop j s.frozen) x = false → (inI (List.drop k s.frozen) x = true → false = true) ∧ (inI (List.drop k s.frozen) x = false → false = false)))) ∧ (decide ((↑k : Int) < (↑(List.length s.frozen) : Int)) = false → (inI (List.drop k s.frozen) x = true → False) ∧ (inI (List.drop k s.frozen) x = false → True ∧ (((b = b ∧ List.length s.frozen = List.length s.frozen ∧ contLe (List.length s.frozen) (1 : Nat) (cellsOf' encU s.frozen) (cellsOf' encU s.frozen)) ∧ (b = b ∧ List.length s.made = List.length s.made ∧ contLe (List.length s.made) (2 : Nat) (cellsOf' encS s.made) (cellsOf' encS s.made)) ∧ (b = b ∧ List.length s.gone = List.length s.gone ∧ contLe (List.length s.gone) (2 : Nat) (cellsOf' encS s.gone) (cellsOf' encS s.gone)) ∧ (c = c ∧ List.length s.voters = List.length s.voters ∧ contLe (List.length s.voters) (1 : Nat) (cellsOf' encI s.voters) (cellsOf' encI s.voters)) ∧ (c = c ∧ List.length s.learners = List.length s.learners ∧ contLe (List.length s.learners) (1 : Nat) (cellsOf' encI s.learners) (cellsOf' encI s.learners)) ∧ s.leader = s.leader ∧ s.ready = s.ready ∧ True) ∧ True) ∧ true = true))
set_option maxRecDepth 1000000 in
theorem vcFzL_eq (b : Bool) (c : Bool) (s : Seen) (x : Int) (k : Nat) : (loopVC Try.prog (hT _) 21 2 (fun k => s.frozen.length - k) (fzT b c s x) (fun _ => fzM b c s) [0, 1, 2, 3] (inO s.frozen x) (fzS b c s) k) = vcFzL b c s x k := by kernel_rfl
noncomputable def fzH (b c : Bool) (s : Seen) (x : Int) : HintsT Try.prog := hh _ (lp1 21 2 (jobOf (fzT b c s x) (fun _ => fzM b c s) [0, 1, 2, 3] (inO s.frozen x) (fzS b c s) 0) noLp) noCs noOp
def vcFz (b : Bool) (c : Bool) (s : Seen) (x : Int) : Prop :=
  ((x = x ∧ ((0 : Nat) = (0 : Nat) ∧ (0 : Nat) = (0 : Nat)) ∧ false = false ∧ (0 : Int) = (0 : Int) ∧ True) ∧ (((b = b ∧ List.length s.frozen = List.length s.frozen ∧ contLe (List.length s.frozen) (1 : Nat) (cellsOf' encU s.frozen) (cellsOf' encU s.frozen)) ∧ (b = b ∧ List.length s.made = List.length s.made ∧ contLe (List.length s.made) (2 : Nat) (cellsOf' encS s.made) (cellsOf' encS s.made)) ∧ (b = b ∧ List.length s.gone = List.length s.gone ∧ contLe (List.length s.gone) (2 : Nat) (cellsOf' encS s.gone) (cellsOf' encS s.gone)) ∧ (c = c ∧ List.length s.voters = List.length s.voters ∧ contLe (List.length s.voters) (1 : Nat) (cellsOf' encI s.voters) (cellsOf' encI s.voters)) ∧ (c = c ∧ List.length s.learners = List.length s.learners ∧ contLe (List.length s.learners) (1 : Nat) (cellsOf' encI s.learners) (cellsOf' encI s.learners)) ∧ s.leader = s.leader ∧ s.ready = s.ready ∧ True) ∧ True) ∧ true = true) ∧ LoopOk Try.prog (21 : Nat) (2 : Nat) (loopAt Try.prog (21 : Nat) (2 : Nat)) { t := fzT b c s x (0 : Nat), m := fzM b c s, mv := [] } (T.map (lout [(0 : Nat), (1 : Nat), (2 : Nat), (3 : Nat)] (fzS b c s)) (inO s.frozen x (0 : Nat))) ∧ (inI (List.drop (0 : Nat) s.frozen) x = true → true = inI s.frozen x ∧ True) ∧ (inI (List.drop (0 : Nat) s.frozen) x = false → false = inI s.frozen x ∧ True)
set_option maxRecDepth 1000000 in
theorem vcFz_eq (b : Bool) (c : Bool) (s : Seen) (x : Int) : (ctrVC Try.prog (fzH b c s x) 21 [.agg (encSe b c s), .y (.int .u64 x)] [] (boolR (inI s.frozen x))) = vcFz b c s x := by kernel_rfl
theorem fz_loop (b c : Bool) (s : Seen) (x : Int) (hl : s.Ok) (k : Nat) : LoopOk Try.prog 21 2 (loopAt Try.prog 21 2) ⟨fzT b c s x k, fzM b c s, []⟩ ((inO s.frozen x k).map (lout [0, 1, 2, 3] (fzS b c s))) := by
  refine loop_vc (stM := fun _ => fzM b c s) Try.mixed (fun _ => rfl) (fun k => (vcFzL_eq b c s x k).mpr ?_) k
  unfold vcFzL
  have hl := hl.frozen
  generalize hL : s.frozen = l at *
  simp
  refine ⟨fun h => ?_, fun h => by simp [inI, drop_end h]⟩
  simp (disch := omega) only [wrap_i64]
  rw [drop_cons h]
  simp only [inI_cons]
  generalize l[k]?.getD default = z
  by_cases hx : z = x
  · simp [h, hx]
  · have hb : (z == x) = false := by simp; omega
    exact ⟨h, fun e => absurd e hx, fun _ => ⟨k + 1, by omega, by omega, by simp [hb]⟩⟩
theorem fz_c (b c : Bool) (s : Seen) (x : Int) (hl : s.Ok) : (boolR (inI s.frozen x)).Sat (ACall' Try.prog 21 [.agg (encSe b c s), .y (.int .u64 x)] []) := by
  refine ctr_vc (ht := (fzH b c s x)) Try.mixed rfl ?_
  rw [vcFz_eq b c s x]
  unfold vcFz
  have := fz_loop b c s x hl 0
  simp [this]
/-! on -/
def onT (b : Bool) (l : List Site) (x : Site) (k : Nat) : List AV := mkT 30 [(0, encSs b l), (1, .y (.int .u64 x.group)), (2, .y (.int .i64 x.node)), (6, .s (.bool false)), (7, .y (.int .i64 k))]
def onS (r : Bool) : Exit × List AV × List Blk := match r with
  | true => (.ret, mkT 30 [(6, .s (.bool true))], [])
  | false => (.exit 0, mkT 30 [], [])
def isO (l : List Site) (x : Site) (k : Nat) : T Bool := .ite (inS (l.drop k) x) (.ret true) (.ret false)
def vcOnL (b : Bool) (l : List Site) (x : Site) (k : Nat) : Prop :=
  (decide ((↑k : Int) < (↑(List.length l) : Int)) = true → (true && decide ((↑k : Int) < (↑(List.length l) : Int))) = true ∧ (((List.getD l (Int.toNat (↑k : Int)) (@default Site instInhabitedSite)).group == x.group) = true → (true && decide ((↑k : Int) < (↑(List.length l) : Int))) = true ∧ (((List.getD l (Int.toNat (↑k : Int)) (@default Site instInhabitedSite)).node == x.node) = true → (inS (List.drop k l) x = true → (true = true ∧ True) ∧ True ∧ true = true) ∧ (inS (List.drop k l) x = false → False)) ∧ (((List.getD l (Int.toNat (↑k : Int)) (@default Site instInhabitedSite)).node == x.node) = false → ∃ (j : Nat), List.length l - j < List.length l - k ∧ (((b = b ∧ List.length l = List.length l ∧ contLe (List.length l) (2 : Nat) (cellsOf' encS l) (cellsOf' encS l)) ∧ x.group = x.group ∧ x.node = x.node ∧ false = false ∧ IntKind.wrap IntKind.i64 ((↑k : Int) + (1 : Int)) = (↑j : Int) ∧ True) ∧ True ∧ true = true) ∧ true = true ∧ (inS (List.drop j l) x = true → (inS (List.drop k l) x = true → true = true) ∧ (inS (List.drop k l) x = false → true = false)) ∧ (inS (List.drop j l) x = false → (inS (List.drop k l) x = true → false = true) ∧ (inS (List.drop k l) x = false → false = false)))) ∧ (((List.getD l (Int.toNat (↑k : Int)) (@default Site instInhabitedSite)).group == x.group) = false → ∃ (j : Nat), List.length l - j < List.length l - k ∧ (((b = b ∧ List.length l = List.length l ∧ contLe (List.length l) (2 : Nat) (cellsOf' encS l) (cellsOf' encS l)) ∧ x.group = x.group ∧ x.node = x.node ∧ false = false ∧ IntKind.wrap IntKind.i64 ((↑k : Int) + (1 : Int)) = (↑j : Int) ∧ True) ∧ True ∧ true = true) ∧ true = true ∧ (inS (List.drop j l) x = true → (inS (List.drop k l) x = true → true = true) ∧ (inS (List.drop k l) x = false → true = false)) ∧ (inS (List.drop j l) x = false → (inS (List.drop k l) x = true → false = true) ∧ (inS (List.drop k l) x = false → false = false)))) ∧ (decide ((↑k : Int) < (↑(List.length l) : Int)) = false → (inS (List.drop k l) x = true → False) ∧ (inS (List.drop k l) x = false → True ∧ True ∧ true = true))
set_option maxRecDepth 1000000 in
theorem vcOnL_eq (b : Bool) (l : List Site) (x : Site) (k : Nat) : (loopVC Try.prog (hT _) 38 2 (fun k => l.length - k) (onT b l x) (fun _ => []) [0] (isO l x) onS k) = vcOnL b l x k := by kernel_rfl
noncomputable def onH (b : Bool) (l : List Site) (x : Site) : HintsT Try.prog := hh _ (lp1 38 2 (jobOf (onT b l x) (fun _ => []) [0] (isO l x) onS 0) noLp) noCs noOp
def vcOn (b : Bool) (l : List Site) (x : Site) : Prop :=
  (((b = b ∧ List.length l = List.length l ∧ contLe (List.length l) (2 : Nat) (cellsOf' encS l) (cellsOf' encS l)) ∧ x.group = x.group ∧ x.node = x.node ∧ false = false ∧ (0 : Int) = (0 : Int) ∧ True) ∧ True ∧ true = true) ∧ LoopOk Try.prog (38 : Nat) (2 : Nat) (loopAt Try.prog (38 : Nat) (2 : Nat)) { t := onT b l x (0 : Nat), m := [], mv := [] } (T.map (lout [(0 : Nat)] onS) (isO l x (0 : Nat))) ∧ (inS (List.drop (0 : Nat) l) x = true → true = inS l x ∧ True) ∧ (inS (List.drop (0 : Nat) l) x = false → false = inS l x ∧ True)
set_option maxRecDepth 1000000 in
theorem vcOn_eq (b : Bool) (l : List Site) (x : Site) : (ctrVC Try.prog (onH b l x) 38 [encSs b l, .y (.int .u64 x.group), .y (.int .i64 x.node)] [] (boolR (inS l x))) = vcOn b l x := by kernel_rfl
theorem on_loop (b : Bool) (l : List Site) (x : Site) (hl : l.length ≤ 9223372036854775806) (k : Nat) : LoopOk Try.prog 38 2 (loopAt Try.prog 38 2) ⟨onT b l x k, [], []⟩ ((isO l x k).map (lout [0] onS)) := by
  refine loop_vc Try.mixed (fun _ => rfl) (fun k => (vcOnL_eq b l x k).mpr ?_) k
  unfold vcOnL
  simp
  refine ⟨fun h => ?_, fun h => by simp [inS, drop_end h]⟩
  simp (disch := omega) only [wrap_i64]
  rw [drop_cons h]
  simp only [inS_cons]
  generalize l[k]?.getD default = z
  by_cases h1 : z.group = x.group
  · by_cases h2 : z.node = x.node
    · simp [h, h1, h2]
    · have hb : (z.group == x.group && z.node == x.node) = false := by simp; omega
      exact ⟨h, fun _ => ⟨h, fun e => absurd e h2, fun _ => ⟨k + 1, by omega, by omega, by simp [hb]⟩⟩, fun e => absurd h1 e⟩
  · have hb : (z.group == x.group && z.node == x.node) = false := by simp; omega
    exact ⟨h, fun e => absurd e h1, fun _ => ⟨k + 1, by omega, by omega, by simp [hb]⟩⟩
theorem on_c (b : Bool) (l : List Site) (x : Site) (hl : l.length ≤ 9223372036854775806) : (boolR (inS l x)).Sat (ACall' Try.prog 38 [encSs b l, .y (.int .u64 x.group), .y (.int .i64 x.node)] []) := by
  refine ctr_vc (ht := (onH b l x)) Try.mixed rfl ?_
  rw [vcOn_eq b l x]
  unfold vcOn
  have := on_loop b l x hl 0
  simp [this]
end Go.Proofs.Ytghhkabankbkoaa

/-! Plans: which plans may be; how many steps. -/
namespace Go.Proofs.Ytghhkabankbkoaa
open Go.Ax
set_option maxRecDepth 1000000
theorem sat_le {P : Program} {g : FuncId} {args args' : List AV} {M : List Blk} {t : T An} (hl : leL args args') (h : t.Sat (ACall' P g args' M)) : t.Sat (ACall' P g args M) :=
  h.mono fun _ hc H E w vals hC hargs => hc H E w vals hC (relL_le _ hl hargs)
def okN (l : List Int) (k : Nat) : Bool := !(decide (l.getD k default < 1) || decide (7 < l.getD k default) || decide (0 < k) && decide (l.getD k default ≤ l.getD (k - 1) default))
def okNs (l : List Int) (k : Nat) : Bool := (List.range' k (l.length - k)).all (okN l)
theorem okNs_end {l : List Int} {k : Nat} (h : l.length ≤ k) : okNs l k = true := by
  unfold okNs
  rw [show l.length - k = 0 by omega]; rfl
theorem okNs_step {l : List Int} {k : Nat} (h : k < l.length) : okNs l k = (okN l k && okNs l (k + 1)) := by
  unfold okNs
  rw [show l.length - k = (l.length - (k + 1)) + 1 by omega, List.range'_succ]; rfl
theorem okNs_len {l : List Int} (h : okNs l 0 = true) : l.length ≤ 7 := by
  have key : ∀ k, k < l.length → okN l k = true := by
    intro k hk
    unfold okNs at h
    rw [List.all_eq_true] at h
    exact h k (by simp; omega)
  have lo : ∀ k : Nat, k < l.length → (k : Int) + 1 ≤ l.getD k default := by
    intro k
    induction k with
    | zero => intro hk; have := key 0 hk; simp [okN] at this; simp; omega
    | succ k ih =>
      intro hk
      have h1 := ih (by omega)
      have h2 := key (k + 1) hk
      simp [okN] at h2
      simp at h1 ⊢
      omega
  rcases Nat.lt_or_ge 7 l.length with h7 | h7
  · have h1 := lo 7 h7
    have h2 := key 7 h7
    simp [okN] at h2
    simp at h1
    omega
  · exact h7
def nodesOk (l : List Int) : Bool := decide (0 < l.length) && okNs l 0
def stepsOf (k : Int) : Int := if k = 1 then 4 else if k = 2 then 5 else if k = 3 then 5 else 0
def manyOf (k : Int) : Int := if k = 1 then 2 else if k = 2 then 1 else 0
def isPlan (p : Plan) : Bool := okNs p.nodes 0 && (decide (0 ≤ p.step) && decide (p.step < stepsOf p.kind) && decide (0 < p.nodes.length) && decide ((p.into.length : Int) = manyOf p.kind))
/-! the document's Nodes, Steps -/
def ndT (b : Bool) (l : List Int) (k : Nat) : List AV := mkT 46 [(0, encIs b l), (2, .s (.bool false)), (3, .y (.int .i64 k))]
def ndS (r : Bool) : Exit × List AV × List Blk := match r with
  | true => (.exit 0, mkT 46 [], [])
  | false => (.ret, mkT 46 [(2, .s (.bool false))], [])
def ndO (l : List Int) (k : Nat) : T Bool := .ite (okNs l k) (.ret true) (.ret false)
def vcNdL (b : Bool) (l : List Int) (k : Nat) : Prop :=
  (decide ((↑k : Int) < (↑(List.length l) : Int)) = true → (true && decide ((↑k : Int) < (↑(List.length l) : Int))) = true ∧ (decide (List.getD l (Int.toNat (↑k : Int)) (0 : Int) < (1 : Int)) = true → (okNs l k = true → False) ∧ (okNs l k = false → (false = false ∧ True) ∧ True ∧ true = true)) ∧ (decide (List.getD l (Int.toNat (↑k : Int)) (0 : Int) < (1 : Int)) = false → (true && decide ((↑k : Int) < (↑(List.length l) : Int))) = true ∧ (decide ((7 : Int) < List.getD l (Int.toNat (↑k : Int)) (0 : Int)) = true → (okNs l k = true → False) ∧ (okNs l k = false → (false = false ∧ True) ∧ True ∧ true = true)) ∧ (decide ((7 : Int) < List.getD l (Int.toNat (↑k : Int)) (0 : Int)) = false → (decide ((0 : Int) < (↑k : Int)) = true → (decide ((0 : Int) ≤ IntKind.wrap IntKind.i64 ((↑k : Int) - (1 : Int))) && decide (IntKind.wrap IntKind.i64 ((↑k : Int) - (1 : Int)) < (↑(List.length l) : Int))) = true ∧ (true && decide ((↑k : Int) < (↑(List.length l) : Int))) = true ∧ (decide (List.getD l (Int.toNat (↑k : Int)) (0 : Int) ≤ List.getD l (Int.toNat (IntKind.wrap IntKind.i64 ((↑k : Int) - (1 : Int)))) (0 : Int)) = true → (okNs l k = true → False) ∧ (okNs l k = false → (false = false ∧ True) ∧ True ∧ true = true)) ∧ (decide (List.getD l (Int.toNat (↑k : Int)) (0 : Int) ≤ List.getD l (Int.toNat (IntKind.wrap IntKind.i64 ((↑k : Int) - (1 : Int)))) (0 : Int)) = false → ∃ (j : Nat), List.length l - j < List.length l - k ∧ (((b = b ∧ List.length l = List.length l ∧ contLe (List.length l) (1 : Nat) (cellsOf' encI l) (cellsOf' encI l)) ∧ false = false ∧ IntKind.wrap IntKind.i64 ((↑k : Int) + (1 : Int)) = (↑j : Int) ∧ True) ∧ True ∧ true = true) ∧ true = true ∧ (okNs l j = true → (okNs l k = true → true = true) ∧ (okNs l k = false → true = false)) ∧ (okNs l j = false → (okNs l k = true → false = true) ∧ (okNs l k = false → false = false)))) ∧ (decide ((0 : Int) < (↑k : Int)) = false → ∃ (j : Nat), List.length l - j < List.length l - k ∧ (((b = b ∧ List.length l = List.length l ∧ contLe (List.length l) (1 : Nat) (cellsOf' encI l) (cellsOf' encI l)) ∧ false = false ∧ IntKind.wrap IntKind.i64 ((↑k : Int) + (1 : Int)) = (↑j : Int) ∧ True) ∧ True ∧ true = true) ∧ true = true ∧ (okNs l j = true → (okNs l k = true → true = true) ∧ (okNs l k = false → true = false)) ∧ (okNs l j = false → (okNs l k = true → false = true) ∧ (okNs l k = false → false = false)))))) ∧ (decide ((↑k : Int) < (↑(List.length l) : Int)) = false → (okNs l k = true → True ∧ True ∧ true = true) ∧ (okNs l k = false → False))
set_option maxRecDepth 1000000 in
theorem vcNdL_eq (b : Bool) (l : List Int) (k : Nat) : (loopVC Try.prog (hT _) 36 4 (fun k => l.length - k) (ndT b l) (fun _ => []) [0] (ndO l) ndS k) = vcNdL b l k := by kernel_rfl
theorem nd_loop (b : Bool) (l : List Int) (hl : l.length ≤ 9223372036854775806) (k : Nat) : LoopOk Try.prog 36 4 (loopAt Try.prog 36 4) ⟨ndT b l k, [], []⟩ ((ndO l k).map (lout [0] ndS)) := by
  refine loop_vc Try.mixed (fun _ => rfl) (fun k => (vcNdL_eq b l k).mpr ?_) k
  unfold vcNdL
  simp
  refine ⟨fun h => ?_, fun h => by simp [okNs_end h]⟩
  rw [okNs_step h]
  simp (disch := omega) only [wrap_i64]
  simp [okN, cast_succ_eq]
  grind
noncomputable def ndH (b : Bool) (l : List Int) : HintsT Try.prog := hh _ (lp1 36 4 (jobOf (ndT b l) (fun _ => []) [0] (ndO l) ndS 0) noLp) noCs noOp
def vcNd (b : Bool) (l : List Int) : Prop :=
  (decide ((↑(List.length l) : Int) < (1 : Int)) = true → false = nodesOk l ∧ True) ∧ (decide ((↑(List.length l) : Int) < (1 : Int)) = false → (decide ((7 : Int) < (↑(List.length l) : Int)) = true → false = nodesOk l ∧ True) ∧ (decide ((7 : Int) < (↑(List.length l) : Int)) = false → (((b = b ∧ List.length l = List.length l ∧ contLe (List.length l) (1 : Nat) (cellsOf' encI l) (cellsOf' encI l)) ∧ false = false ∧ (0 : Int) = (0 : Int) ∧ True) ∧ True ∧ true = true) ∧ LoopOk Try.prog (36 : Nat) (4 : Nat) (loopAt Try.prog (36 : Nat) (4 : Nat)) { t := ndT b l (0 : Nat), m := [], mv := [] } (T.map (lout [(0 : Nat)] ndS) (ndO l (0 : Nat))) ∧ (okNs l (0 : Nat) = true → true = nodesOk l ∧ True) ∧ (okNs l (0 : Nat) = false → false = nodesOk l ∧ True)))
set_option maxRecDepth 1000000 in
theorem vcNd_eq (b : Bool) (l : List Int) : (ctrVC Try.prog (ndH b l) 36 [encIs b l] [] (boolR (nodesOk l))) = vcNd b l := by kernel_rfl
theorem nd_c (b : Bool) (l : List Int) (hl : l.length ≤ 9223372036854775806) : (boolR (nodesOk l)).Sat (ACall' Try.prog 36 [encIs b l] []) := by
  refine ctr_vc (ht := (ndH b l)) Try.mixed rfl ?_
  rw [vcNd_eq b l]
  unfold vcNd
  have := nd_loop b l hl 0
  have hlen := okNs_len (l := l)
  simp [nodesOk, this]
  grind
def intR (k : Int) : T An := .ret (.y (.int .i64 k), [], [])
def vcSt2 (k : Int) : Prop :=
  ((k == (1 : Int)) = true → (4 : Int) = stepsOf k ∧ True) ∧ ((k == (1 : Int)) = false → ((k == (2 : Int)) = true → (5 : Int) = stepsOf k ∧ True) ∧ ((k == (2 : Int)) = false → ((k == (3 : Int)) = true → (5 : Int) = stepsOf k ∧ True) ∧ ((k == (3 : Int)) = false → (0 : Int) = stepsOf k ∧ True)))
set_option maxRecDepth 1000000 in
theorem vcSt2_eq (k : Int) : (ctrVC Try.prog (hT _) 18 [.y (.int .i64 k)] [] (intR (stepsOf k))) = vcSt2 k := by kernel_rfl
theorem st2_c (k : Int) : (intR (stepsOf k)).Sat (ACall' Try.prog 18 [.y (.int .i64 k)] []) := by
  refine ctr_vc (ht := hT _) Try.mixed rfl ?_
  rw [vcSt2_eq k]
  unfold vcSt2
  simp [stepsOf]
  grind
def vcSt (k : Int) : Prop :=
  ((k == (2 : Int)) = true → (5 : Int) = stepsOf k ∧ True) ∧ ((k == (2 : Int)) = false → ((k == (1 : Int)) = true → (4 : Int) = stepsOf k ∧ True) ∧ ((k == (1 : Int)) = false → ((k == (3 : Int)) = true → (5 : Int) = stepsOf k ∧ True) ∧ ((k == (3 : Int)) = false → (0 : Int) = stepsOf k ∧ True)))
set_option maxRecDepth 1000000 in
theorem vcSt_eq (k : Int) : (ctrVC Try.prog (hT _) 12 [.y (.int .i64 k)] [] (intR (stepsOf k))) = vcSt k := by kernel_rfl
theorem st_c (k : Int) : (intR (stepsOf k)).Sat (ACall' Try.prog 12 [.y (.int .i64 k)] []) := by
  refine ctr_vc (ht := hT _) Try.mixed rfl ?_
  rw [vcSt_eq k]
  unfold vcSt
  simp [stepsOf]
  grind
end Go.Proofs.Ytghhkabankbkoaa

/-! Plans: is it a plan? -/
namespace Go.Proofs.Ytghhkabankbkoaa
open Go.Ax
set_option maxRecDepth 1000000
/-- a plan whose kind and step stand there as given -/
def encPq (b : Bool) (kv sv : AV) (p : Plan) : List AV := [.y (.int .u64 p.id), kv, .y (.string p.topic), .y (.int .u64 p.group), .y (.int .u64 p.other), .y (.string p.key), encUs b p.into, encIs b p.nodes, .y (.int .i64 p.src), .y (.int .i64 p.dst), sv]
def cI (k : Int) : AV := .s (.int .i64 k)
def isT (b : Bool) (p : Plan) (k : Nat) : List AV := mkT 63 [(1, .ptr 0 0 0 0), (2, .s (.bool false)), (7, encIs b p.nodes), (8, .y (.int .i64 p.nodes.length)), (9, .y (.int .i64 k))]
def isM (b : Bool) (p : Plan) : List Blk := [.box 32 (encPl b p)]
def isS (b : Bool) (p : Plan) (r : Bool) : Exit × List AV × List Blk := match r with
  | true => (.exit 0, mkT 63 [(1, .ptr 0 0 0 0)], isM b p)
  | false => (.ret, mkT 63 [(2, .s (.bool false))], isM b p)
def isSq (b : Bool) (c : Int) (p : Plan) (r : Bool) : Exit × List AV × List Blk := match r with
  | true => (.exit 0, mkT 63 [(1, .ptr 0 0 0 0)], [.box 32 (encPq b (cI c) (.y (.int .i64 p.step)) p)])
  | false => (.ret, mkT 63 [(2, .s (.bool false))], isM b p)
def vcIsL (b : Bool) (p : Plan) (k : Nat) : Prop :=
  (decide ((↑k : Int) < (↑(List.length p.nodes) : Int)) = true → (true && decide ((↑k : Int) < (↑(List.length p.nodes) : Int))) = true ∧ (decide (List.getD p.nodes (Int.toNat (↑k : Int)) (0 : Int) < (1 : Int)) = true → (okNs p.nodes k = true → False) ∧ (okNs p.nodes k = false → (false = false ∧ True) ∧ ((p.id = p.id ∧ p.kind = p.kind ∧ p.topic = p.topic ∧ p.group = p.group ∧ p.other = p.other ∧ p.key = p.key ∧ (b = b ∧ List.length p.into = List.length p.into ∧ contLe (List.length p.into) (1 : Nat) (cellsOf' encU p.into) (cellsOf' encU p.into)) ∧ (b = b ∧ List.length p.nodes = List.length p.nodes ∧ contLe (List.length p.nodes) (1 : Nat) (cellsOf' encI p.nodes) (cellsOf' encI p.nodes)) ∧ p.src = p.src ∧ p.dst = p.dst ∧ p.step = p.step ∧ True) ∧ True) ∧ true = true)) ∧ (decide (List.getD p.nodes (Int.toNat (↑k : Int)) (0 : Int) < (1 : Int)) = false → (decide ((7 : Int) < List.getD p.nodes (Int.toNat (↑k : Int)) (0 : Int)) = true → (okNs p.nodes k = true → False) ∧ (okNs p.nodes k = false → (false = false ∧ True) ∧ ((p.id = p.id ∧ p.kind = p.kind ∧ p.topic = p.topic ∧ p.group = p.group ∧ p.other = p.other ∧ p.key = p.key ∧ (b = b ∧ List.length p.into = List.length p.into ∧ contLe (List.length p.into) (1 : Nat) (cellsOf' encU p.into) (cellsOf' encU p.into)) ∧ (b = b ∧ List.length p.nodes = List.length p.nodes ∧ contLe (List.length p.nodes) (1 : Nat) (cellsOf' encI p.nodes) (cellsOf' encI p.nodes)) ∧ p.src = p.src ∧ p.dst = p.dst ∧ p.step = p.step ∧ True) ∧ True) ∧ true = true)) ∧ (decide ((7 : Int) < List.getD p.nodes (Int.toNat (↑k : Int)) (0 : Int)) = false → (decide ((0 : Int) < (↑k : Int)) = true → (decide ((0 : Int) ≤ IntKind.wrap IntKind.i64 ((↑k : Int) - (1 : Int))) && decide (IntKind.wrap IntKind.i64 ((↑k : Int) - (1 : Int)) < (↑(List.length p.nodes) : Int))) = true ∧ (decide (List.getD p.nodes (Int.toNat (↑k : Int)) (0 : Int) ≤ List.getD p.nodes (Int.toNat (IntKind.wrap IntKind.i64 ((↑k : Int) - (1 : Int)))) (0 : Int)) = true → (okNs p.nodes k = true → False) ∧ (okNs p.nodes k = false → (false = false ∧ True) ∧ ((p.id = p.id ∧ p.kind = p.kind ∧ p.topic = p.topic ∧ p.group = p.group ∧ p.other = p.other ∧ p.key = p.key ∧ (b = b ∧ List.length p.into = List.length p.into ∧ contLe (List.length p.into) (1 : Nat) (cellsOf' encU p.into) (cellsOf' encU p.into)) ∧ (b = b ∧ List.length p.nodes = List.length p.nodes ∧ contLe (List.length p.nodes) (1 : Nat) (cellsOf' encI p.nodes) (cellsOf' encI p.nodes)) ∧ p.src = p.src ∧ p.dst = p.dst ∧ p.step = p.step ∧ True) ∧ True) ∧ true = true)) ∧ (decide (List.getD p.nodes (Int.toNat (↑k : Int)) (0 : Int) ≤ List.getD p.nodes (Int.toNat (IntKind.wrap IntKind.i64 ((↑k : Int) - (1 : Int)))) (0 : Int)) = false → ∃ (j : Nat), List.length p.nodes - j < List.length p.nodes - k ∧ ((((0 : Nat) = (0 : Nat) ∧ (0 : Nat) = (0 : Nat)) ∧ false = false ∧ (b = b ∧ List.length p.nodes = List.length p.nodes ∧ contLe (List.length p.nodes) (1 : Nat) (cellsOf' encI p.nodes) (cellsOf' encI p.nodes)) ∧ (↑(List.length p.nodes) : Int) = (↑(List.length p.nodes) : Int) ∧ IntKind.wrap IntKind.i64 ((↑k : Int) + (1 : Int)) = (↑j : Int) ∧ True) ∧ ((p.id = p.id ∧ p.kind = p.kind ∧ p.topic = p.topic ∧ p.group = p.group ∧ p.other = p.other ∧ p.key = p.key ∧ (b = b ∧ List.length p.into = List.length p.into ∧ contLe (List.length p.into) (1 : Nat) (cellsOf' encU p.into) (cellsOf' encU p.into)) ∧ (b = b ∧ List.length p.nodes = List.length p.nodes ∧ contLe (List.length p.nodes) (1 : Nat) (cellsOf' encI p.nodes) (cellsOf' encI p.nodes)) ∧ p.src = p.src ∧ p.dst = p.dst ∧ p.step = p.step ∧ True) ∧ True) ∧ true = true) ∧ true = true ∧ (okNs p.nodes j = true → (okNs p.nodes k = true → true = true) ∧ (okNs p.nodes k = false → true = false)) ∧ (okNs p.nodes j = false → (okNs p.nodes k = true → false = true) ∧ (okNs p.nodes k = false → false = false)))) ∧ (decide ((0 : Int) < (↑k : Int)) = false → ∃ (j : Nat), List.length p.nodes - j < List.length p.nodes - k ∧ ((((0 : Nat) = (0 : Nat) ∧ (0 : Nat) = (0 : Nat)) ∧ false = false ∧ (b = b ∧ List.length p.nodes = List.length p.nodes ∧ contLe (List.length p.nodes) (1 : Nat) (cellsOf' encI p.nodes) (cellsOf' encI p.nodes)) ∧ (↑(List.length p.nodes) : Int) = (↑(List.length p.nodes) : Int) ∧ IntKind.wrap IntKind.i64 ((↑k : Int) + (1 : Int)) = (↑j : Int) ∧ True) ∧ ((p.id = p.id ∧ p.kind = p.kind ∧ p.topic = p.topic ∧ p.group = p.group ∧ p.other = p.other ∧ p.key = p.key ∧ (b = b ∧ List.length p.into = List.length p.into ∧ contLe (List.length p.into) (1 : Nat) (cellsOf' encU p.into) (cellsOf' encU p.into)) ∧ (b = b ∧ List.length p.nodes = List.length p.nodes ∧ contLe (List.length p.nodes) (1 : Nat) (cellsOf' encI p.nodes) (cellsOf' encI p.nodes)) ∧ p.src = p.src ∧ p.dst = p.dst ∧ p.step = p.step ∧ True) ∧ True) ∧ true = true) ∧ true = true ∧ (okNs p.nodes j = true → (okNs p.nodes k = true → true = true) ∧ (okNs p.nodes k = false → true = false)) ∧ (okNs p.nodes j = false → (okNs p.nodes k = true → false = true) ∧ (okNs p.nodes k = false → false = false)))))) ∧ (decide ((↑k : Int) < (↑(List.length p.nodes) : Int)) = false → (okNs p.nodes k = true → (((0 : Nat) = (0 : Nat) ∧ (0 : Nat) = (0 : Nat)) ∧ True) ∧ ((p.id = p.id ∧ p.kind = p.kind ∧ p.topic = p.topic ∧ p.group = p.group ∧ p.other = p.other ∧ p.key = p.key ∧ (b = b ∧ List.length p.into = List.length p.into ∧ contLe (List.length p.into) (1 : Nat) (cellsOf' encU p.into) (cellsOf' encU p.into)) ∧ (b = b ∧ List.length p.nodes = List.length p.nodes ∧ contLe (List.length p.nodes) (1 : Nat) (cellsOf' encI p.nodes) (cellsOf' encI p.nodes)) ∧ p.src = p.src ∧ p.dst = p.dst ∧ p.step = p.step ∧ True) ∧ True) ∧ true = true) ∧ (okNs p.nodes k = false → False))
set_option maxRecDepth 1000000 in
theorem vcIsL_eq (b : Bool) (p : Plan) (k : Nat) : (loopVC Try.prog (hT _) 15 2 (fun k => p.nodes.length - k) (isT b p) (fun _ => isM b p) [0, 1, 2, 3] (ndO p.nodes) (isS b p) k) = vcIsL b p k := by kernel_rfl
def vcIsLq (b : Bool) (c : Int) (p : Plan) (k : Nat) : Prop :=
  (decide ((↑k : Int) < (↑(List.length p.nodes) : Int)) = true → (true && decide ((↑k : Int) < (↑(List.length p.nodes) : Int))) = true ∧ (decide (List.getD p.nodes (Int.toNat (↑k : Int)) (0 : Int) < (1 : Int)) = true → (okNs p.nodes k = true → False) ∧ (okNs p.nodes k = false → (false = false ∧ True) ∧ ((p.id = p.id ∧ p.kind = p.kind ∧ p.topic = p.topic ∧ p.group = p.group ∧ p.other = p.other ∧ p.key = p.key ∧ (b = b ∧ List.length p.into = List.length p.into ∧ contLe (List.length p.into) (1 : Nat) (cellsOf' encU p.into) (cellsOf' encU p.into)) ∧ (b = b ∧ List.length p.nodes = List.length p.nodes ∧ contLe (List.length p.nodes) (1 : Nat) (cellsOf' encI p.nodes) (cellsOf' encI p.nodes)) ∧ p.src = p.src ∧ p.dst = p.dst ∧ p.step = p.step ∧ True) ∧ True) ∧ true = true)) ∧ (decide (List.getD p.nodes (Int.toNat (↑k : Int)) (0 : Int) < (1 : Int)) = false → (decide ((7 : Int) < List.getD p.nodes (Int.toNat (↑k : Int)) (0 : Int)) = true → (okNs p.nodes k = true → False) ∧ (okNs p.nodes k = false → (false = false ∧ True) ∧ ((p.id = p.id ∧ p.kind = p.kind ∧ p.topic = p.topic ∧ p.group = p.group ∧ p.other = p.other ∧ p.key = p.key ∧ (b = b ∧ List.length p.into = List.length p.into ∧ contLe (List.length p.into) (1 : Nat) (cellsOf' encU p.into) (cellsOf' encU p.into)) ∧ (b = b ∧ List.length p.nodes = List.length p.nodes ∧ contLe (List.length p.nodes) (1 : Nat) (cellsOf' encI p.nodes) (cellsOf' encI p.nodes)) ∧ p.src = p.src ∧ p.dst = p.dst ∧ p.step = p.step ∧ True) ∧ True) ∧ true = true)) ∧ (decide ((7 : Int) < List.getD p.nodes (Int.toNat (↑k : Int)) (0 : Int)) = false → (decide ((0 : Int) < (↑k : Int)) = true → (decide ((0 : Int) ≤ IntKind.wrap IntKind.i64 ((↑k : Int) - (1 : Int))) && decide (IntKind.wrap IntKind.i64 ((↑k : Int) - (1 : Int)) < (↑(List.length p.nodes) : Int))) = true ∧ (decide (List.getD p.nodes (Int.toNat (↑k : Int)) (0 : Int) ≤ List.getD p.nodes (Int.toNat (IntKind.wrap IntKind.i64 ((↑k : Int) - (1 : Int)))) (0 : Int)) = true → (okNs p.nodes k = true → False) ∧ (okNs p.nodes k = false → (false = false ∧ True) ∧ ((p.id = p.id ∧ p.kind = p.kind ∧ p.topic = p.topic ∧ p.group = p.group ∧ p.other = p.other ∧ p.key = p.key ∧ (b = b ∧ List.length p.into = List.length p.into ∧ contLe (List.length p.into) (1 : Nat) (cellsOf' encU p.into) (cellsOf' encU p.into)) ∧ (b = b ∧ List.length p.nodes = List.length p.nodes ∧ contLe (List.length p.nodes) (1 : Nat) (cellsOf' encI p.nodes) (cellsOf' encI p.nodes)) ∧ p.src = p.src ∧ p.dst = p.dst ∧ p.step = p.step ∧ True) ∧ True) ∧ true = true)) ∧ (decide (List.getD p.nodes (Int.toNat (↑k : Int)) (0 : Int) ≤ List.getD p.nodes (Int.toNat (IntKind.wrap IntKind.i64 ((↑k : Int) - (1 : Int)))) (0 : Int)) = false → ∃ (j : Nat), List.length p.nodes - j < List.length p.nodes - k ∧ ((((0 : Nat) = (0 : Nat) ∧ (0 : Nat) = (0 : Nat)) ∧ false = false ∧ (b = b ∧ List.length p.nodes = List.length p.nodes ∧ contLe (List.length p.nodes) (1 : Nat) (cellsOf' encI p.nodes) (cellsOf' encI p.nodes)) ∧ (↑(List.length p.nodes) : Int) = (↑(List.length p.nodes) : Int) ∧ IntKind.wrap IntKind.i64 ((↑k : Int) + (1 : Int)) = (↑j : Int) ∧ True) ∧ ((p.id = p.id ∧ p.kind = p.kind ∧ p.topic = p.topic ∧ p.group = p.group ∧ p.other = p.other ∧ p.key = p.key ∧ (b = b ∧ List.length p.into = List.length p.into ∧ contLe (List.length p.into) (1 : Nat) (cellsOf' encU p.into) (cellsOf' encU p.into)) ∧ (b = b ∧ List.length p.nodes = List.length p.nodes ∧ contLe (List.length p.nodes) (1 : Nat) (cellsOf' encI p.nodes) (cellsOf' encI p.nodes)) ∧ p.src = p.src ∧ p.dst = p.dst ∧ p.step = p.step ∧ True) ∧ True) ∧ true = true) ∧ true = true ∧ (okNs p.nodes j = true → (okNs p.nodes k = true → true = true) ∧ (okNs p.nodes k = false → true = false)) ∧ (okNs p.nodes j = false → (okNs p.nodes k = true → false = true) ∧ (okNs p.nodes k = false → false = false)))) ∧ (decide ((0 : Int) < (↑k : Int)) = false → ∃ (j : Nat), List.length p.nodes - j < List.length p.nodes - k ∧ ((((0 : Nat) = (0 : Nat) ∧ (0 : Nat) = (0 : Nat)) ∧ false = false ∧ (b = b ∧ List.length p.nodes = List.length p.nodes ∧ contLe (List.length p.nodes) (1 : Nat) (cellsOf' encI p.nodes) (cellsOf' encI p.nodes)) ∧ (↑(List.length p.nodes) : Int) = (↑(List.length p.nodes) : Int) ∧ IntKind.wrap IntKind.i64 ((↑k : Int) + (1 : Int)) = (↑j : Int) ∧ True) ∧ ((p.id = p.id ∧ p.kind = p.kind ∧ p.topic = p.topic ∧ p.group = p.group ∧ p.other = p.other ∧ p.key = p.key ∧ (b = b ∧ List.length p.into = List.length p.into ∧ contLe (List.length p.into) (1 : Nat) (cellsOf' encU p.into) (cellsOf' encU p.into)) ∧ (b = b ∧ List.length p.nodes = List.length p.nodes ∧ contLe (List.length p.nodes) (1 : Nat) (cellsOf' encI p.nodes) (cellsOf' encI p.nodes)) ∧ p.src = p.src ∧ p.dst = p.dst ∧ p.step = p.step ∧ True) ∧ True) ∧ true = true) ∧ true = true ∧ (okNs p.nodes j = true → (okNs p.nodes k = true → true = true) ∧ (okNs p.nodes k = false → true = false)) ∧ (okNs p.nodes j = false → (okNs p.nodes k = true → false = true) ∧ (okNs p.nodes k = false → false = false)))))) ∧ (decide ((↑k : Int) < (↑(List.length p.nodes) : Int)) = false → (okNs p.nodes k = true → (((0 : Nat) = (0 : Nat) ∧ (0 : Nat) = (0 : Nat)) ∧ True) ∧ ((p.id = p.id ∧ p.kind = c ∧ p.topic = p.topic ∧ p.group = p.group ∧ p.other = p.other ∧ p.key = p.key ∧ (b = b ∧ List.length p.into = List.length p.into ∧ contLe (List.length p.into) (1 : Nat) (cellsOf' encU p.into) (cellsOf' encU p.into)) ∧ (b = b ∧ List.length p.nodes = List.length p.nodes ∧ contLe (List.length p.nodes) (1 : Nat) (cellsOf' encI p.nodes) (cellsOf' encI p.nodes)) ∧ p.src = p.src ∧ p.dst = p.dst ∧ p.step = p.step ∧ True) ∧ True) ∧ true = true) ∧ (okNs p.nodes k = false → False))
set_option maxRecDepth 1000000 in
theorem vcIsLq_eq (b : Bool) (c : Int) (p : Plan) (k : Nat) : (loopVC Try.prog (hT _) 15 2 (fun k => p.nodes.length - k) (isT b p) (fun _ => isM b p) [0, 1, 2, 3] (ndO p.nodes) (isSq b c p) k) = vcIsLq b c p k := by kernel_rfl
noncomputable def isHq (b : Bool) (c : Int) (p : Plan) : HintsT Try.prog := hh _ (lp1 15 2 (jobOf (isT b p) (fun _ => isM b p) [0, 1, 2, 3] (ndO p.nodes) (isSq b c p) 0) noLp) noCs noOp
def vcIs1 (b : Bool) (p : Plan) : Prop :=
  ((((0 : Nat) = (0 : Nat) ∧ (0 : Nat) = (0 : Nat)) ∧ false = false ∧ (b = b ∧ List.length p.nodes = List.length p.nodes ∧ contLe (List.length p.nodes) (1 : Nat) (cellsOf' encI p.nodes) (cellsOf' encI p.nodes)) ∧ (↑(List.length p.nodes) : Int) = (↑(List.length p.nodes) : Int) ∧ (0 : Int) = (0 : Int) ∧ True) ∧ ((p.id = p.id ∧ p.kind = p.kind ∧ p.topic = p.topic ∧ p.group = p.group ∧ p.other = p.other ∧ p.key = p.key ∧ (b = b ∧ List.length p.into = List.length p.into ∧ contLe (List.length p.into) (1 : Nat) (cellsOf' encU p.into) (cellsOf' encU p.into)) ∧ (b = b ∧ List.length p.nodes = List.length p.nodes ∧ contLe (List.length p.nodes) (1 : Nat) (cellsOf' encI p.nodes) (cellsOf' encI p.nodes)) ∧ p.src = p.src ∧ p.dst = p.dst ∧ p.step = p.step ∧ True) ∧ True) ∧ true = true) ∧ LoopOk Try.prog (15 : Nat) (2 : Nat) (loopAt Try.prog (15 : Nat) (2 : Nat)) { t := isT b p (0 : Nat), m := isM b p, mv := [] } (T.map (lout [(0 : Nat), (1 : Nat), (2 : Nat), (3 : Nat)] (isSq b (1 : Int) p)) (ndO p.nodes (0 : Nat))) ∧ (okNs p.nodes (0 : Nat) = true → (decide ((0 : Int) ≤ p.step) = true → (decide (p.step < (4 : Int)) = true → (decide ((0 : Int) < (↑(List.length p.nodes) : Int)) = true → ((↑(List.length p.into) : Int) == (2 : Int)) = isPlan p ∧ True) ∧ (decide ((0 : Int) < (↑(List.length p.nodes) : Int)) = false → false = isPlan p ∧ True)) ∧ (decide (p.step < (4 : Int)) = false → false = isPlan p ∧ True)) ∧ (decide ((0 : Int) ≤ p.step) = false → false = isPlan p ∧ True)) ∧ (okNs p.nodes (0 : Nat) = false → false = isPlan p ∧ True)
set_option maxRecDepth 1000000 in
theorem vcIs1_eq (b : Bool) (p : Plan) : (ctrVC Try.prog (isHq b 1 p) 15 [.agg (encPl b p)] [] (boolR (isPlan p))) = vcIs1 b p := by kernel_rfl
def vcIs2 (b : Bool) (p : Plan) : Prop :=
  ((((0 : Nat) = (0 : Nat) ∧ (0 : Nat) = (0 : Nat)) ∧ false = false ∧ (b = b ∧ List.length p.nodes = List.length p.nodes ∧ contLe (List.length p.nodes) (1 : Nat) (cellsOf' encI p.nodes) (cellsOf' encI p.nodes)) ∧ (↑(List.length p.nodes) : Int) = (↑(List.length p.nodes) : Int) ∧ (0 : Int) = (0 : Int) ∧ True) ∧ ((p.id = p.id ∧ p.kind = p.kind ∧ p.topic = p.topic ∧ p.group = p.group ∧ p.other = p.other ∧ p.key = p.key ∧ (b = b ∧ List.length p.into = List.length p.into ∧ contLe (List.length p.into) (1 : Nat) (cellsOf' encU p.into) (cellsOf' encU p.into)) ∧ (b = b ∧ List.length p.nodes = List.length p.nodes ∧ contLe (List.length p.nodes) (1 : Nat) (cellsOf' encI p.nodes) (cellsOf' encI p.nodes)) ∧ p.src = p.src ∧ p.dst = p.dst ∧ p.step = p.step ∧ True) ∧ True) ∧ true = true) ∧ LoopOk Try.prog (15 : Nat) (2 : Nat) (loopAt Try.prog (15 : Nat) (2 : Nat)) { t := isT b p (0 : Nat), m := isM b p, mv := [] } (T.map (lout [(0 : Nat), (1 : Nat), (2 : Nat), (3 : Nat)] (isSq b (2 : Int) p)) (ndO p.nodes (0 : Nat))) ∧ (okNs p.nodes (0 : Nat) = true → (decide ((0 : Int) ≤ p.step) = true → (decide (p.step < (5 : Int)) = true → (decide ((0 : Int) < (↑(List.length p.nodes) : Int)) = true → ((↑(List.length p.into) : Int) == (1 : Int)) = isPlan p ∧ True) ∧ (decide ((0 : Int) < (↑(List.length p.nodes) : Int)) = false → false = isPlan p ∧ True)) ∧ (decide (p.step < (5 : Int)) = false → false = isPlan p ∧ True)) ∧ (decide ((0 : Int) ≤ p.step) = false → false = isPlan p ∧ True)) ∧ (okNs p.nodes (0 : Nat) = false → false = isPlan p ∧ True)
set_option maxRecDepth 1000000 in
theorem vcIs2_eq (b : Bool) (p : Plan) : (ctrVC Try.prog (isHq b 2 p) 15 [.agg (encPl b p)] [] (boolR (isPlan p))) = vcIs2 b p := by kernel_rfl
def vcIs3 (b : Bool) (p : Plan) : Prop :=
  ((((0 : Nat) = (0 : Nat) ∧ (0 : Nat) = (0 : Nat)) ∧ false = false ∧ (b = b ∧ List.length p.nodes = List.length p.nodes ∧ contLe (List.length p.nodes) (1 : Nat) (cellsOf' encI p.nodes) (cellsOf' encI p.nodes)) ∧ (↑(List.length p.nodes) : Int) = (↑(List.length p.nodes) : Int) ∧ (0 : Int) = (0 : Int) ∧ True) ∧ ((p.id = p.id ∧ p.kind = p.kind ∧ p.topic = p.topic ∧ p.group = p.group ∧ p.other = p.other ∧ p.key = p.key ∧ (b = b ∧ List.length p.into = List.length p.into ∧ contLe (List.length p.into) (1 : Nat) (cellsOf' encU p.into) (cellsOf' encU p.into)) ∧ (b = b ∧ List.length p.nodes = List.length p.nodes ∧ contLe (List.length p.nodes) (1 : Nat) (cellsOf' encI p.nodes) (cellsOf' encI p.nodes)) ∧ p.src = p.src ∧ p.dst = p.dst ∧ p.step = p.step ∧ True) ∧ True) ∧ true = true) ∧ LoopOk Try.prog (15 : Nat) (2 : Nat) (loopAt Try.prog (15 : Nat) (2 : Nat)) { t := isT b p (0 : Nat), m := isM b p, mv := [] } (T.map (lout [(0 : Nat), (1 : Nat), (2 : Nat), (3 : Nat)] (isSq b (3 : Int) p)) (ndO p.nodes (0 : Nat))) ∧ (okNs p.nodes (0 : Nat) = true → (decide ((0 : Int) ≤ p.step) = true → (decide (p.step < (5 : Int)) = true → (decide ((0 : Int) < (↑(List.length p.nodes) : Int)) = true → ((↑(List.length p.into) : Int) == (0 : Int)) = isPlan p ∧ True) ∧ (decide ((0 : Int) < (↑(List.length p.nodes) : Int)) = false → false = isPlan p ∧ True)) ∧ (decide (p.step < (5 : Int)) = false → false = isPlan p ∧ True)) ∧ (decide ((0 : Int) ≤ p.step) = false → false = isPlan p ∧ True)) ∧ (okNs p.nodes (0 : Nat) = false → false = isPlan p ∧ True)
set_option maxRecDepth 1000000 in
theorem vcIs3_eq (b : Bool) (p : Plan) : (ctrVC Try.prog (isHq b 3 p) 15 [.agg (encPl b p)] [] (boolR (isPlan p))) = vcIs3 b p := by kernel_rfl
noncomputable def isH4 (b : Bool) (p : Plan) : HintsT Try.prog := hh _ (lp1 15 2 (jobOf (isT b p) (fun _ => isM b p) [0, 1, 2, 3] (ndO p.nodes) (isS b p) 0) noLp) noCs (op1 15 8 23 (.row 0 1) noOp)
def vcIs4 (b : Bool) (p : Plan) : Prop :=
  ((((0 : Nat) = (0 : Nat) ∧ (0 : Nat) = (0 : Nat)) ∧ false = false ∧ (b = b ∧ List.length p.nodes = List.length p.nodes ∧ contLe (List.length p.nodes) (1 : Nat) (cellsOf' encI p.nodes) (cellsOf' encI p.nodes)) ∧ (↑(List.length p.nodes) : Int) = (↑(List.length p.nodes) : Int) ∧ (0 : Int) = (0 : Int) ∧ True) ∧ ((p.id = p.id ∧ p.kind = p.kind ∧ p.topic = p.topic ∧ p.group = p.group ∧ p.other = p.other ∧ p.key = p.key ∧ (b = b ∧ List.length p.into = List.length p.into ∧ contLe (List.length p.into) (1 : Nat) (cellsOf' encU p.into) (cellsOf' encU p.into)) ∧ (b = b ∧ List.length p.nodes = List.length p.nodes ∧ contLe (List.length p.nodes) (1 : Nat) (cellsOf' encI p.nodes) (cellsOf' encI p.nodes)) ∧ p.src = p.src ∧ p.dst = p.dst ∧ p.step = p.step ∧ True) ∧ True) ∧ true = true) ∧ LoopOk Try.prog (15 : Nat) (2 : Nat) (loopAt Try.prog (15 : Nat) (2 : Nat)) { t := isT b p (0 : Nat), m := isM b p, mv := [] } (T.map (lout [(0 : Nat), (1 : Nat), (2 : Nat), (3 : Nat)] (isS b p)) (ndO p.nodes (0 : Nat))) ∧ (okNs p.nodes (0 : Nat) = true → (decide ((0 : Int) ≤ p.step) = true → ((p.kind == (2 : Int)) = true → (decide (p.step < (↑((1 : Nat) + (1 : Nat) + (3 : Nat)) : Int)) = true → (decide ((0 : Int) < (↑(List.length p.nodes) : Int)) = true → False) ∧ (decide ((0 : Int) < (↑(List.length p.nodes) : Int)) = false → false = isPlan p ∧ True)) ∧ (decide (p.step < (↑((1 : Nat) + (1 : Nat) + (3 : Nat)) : Int)) = false → false = isPlan p ∧ True)) ∧ ((p.kind == (2 : Int)) = false → ((p.kind == (1 : Int)) = true → (decide (p.step < (↑((1 : Nat) + (3 : Nat)) : Int)) = true → (decide ((0 : Int) < (↑(List.length p.nodes) : Int)) = true → False) ∧ (decide ((0 : Int) < (↑(List.length p.nodes) : Int)) = false → false = isPlan p ∧ True)) ∧ (decide (p.step < (↑((1 : Nat) + (3 : Nat)) : Int)) = false → false = isPlan p ∧ True)) ∧ ((p.kind == (1 : Int)) = false → ((p.kind == (3 : Int)) = true → (decide (p.step < (5 : Int)) = true → (decide ((0 : Int) < (↑(List.length p.nodes) : Int)) = true → False) ∧ (decide ((0 : Int) < (↑(List.length p.nodes) : Int)) = false → false = isPlan p ∧ True)) ∧ (decide (p.step < (5 : Int)) = false → false = isPlan p ∧ True)) ∧ ((p.kind == (3 : Int)) = false → (decide (p.step < (0 : Int)) = true → (decide ((0 : Int) < (↑(List.length p.nodes) : Int)) = true → False) ∧ (decide ((0 : Int) < (↑(List.length p.nodes) : Int)) = false → false = isPlan p ∧ True)) ∧ (decide (p.step < (0 : Int)) = false → false = isPlan p ∧ True))))) ∧ (decide ((0 : Int) ≤ p.step) = false → false = isPlan p ∧ True)) ∧ (okNs p.nodes (0 : Nat) = false → false = isPlan p ∧ True)
set_option maxRecDepth 1000000 in
theorem vcIs4_eq (b : Bool) (p : Plan) : (ctrVC Try.prog (isH4 b p) 15 [.agg (encPl b p)] [] (boolR (isPlan p))) = vcIs4 b p := by kernel_rfl
theorem is_loop (b : Bool) (p : Plan) (hp : p.Ok) (k : Nat) : LoopOk Try.prog 15 2 (loopAt Try.prog 15 2) ⟨isT b p k, isM b p, []⟩ ((ndO p.nodes k).map (lout [0, 1, 2, 3] (isS b p))) := by
  refine loop_vc (stM := fun _ => isM b p) Try.mixed (fun _ => rfl) (fun k => (vcIsL_eq b p k).mpr ?_) k
  unfold vcIsL
  have hl := hp.nodes
  generalize hL : p.nodes = l at *
  simp
  refine ⟨fun h => ?_, fun h => by simp [okNs_end h]⟩
  rw [okNs_step h]
  simp (disch := omega) only [wrap_i64]
  simp [okN, cast_succ_eq]
  grind
theorem isq_loop (b : Bool) (c : Int) (p : Plan) (hk : p.kind = c) (hp : p.Ok) (k : Nat) : LoopOk Try.prog 15 2 (loopAt Try.prog 15 2) ⟨isT b p k, isM b p, []⟩ ((ndO p.nodes k).map (lout [0, 1, 2, 3] (isSq b c p))) := by
  refine loop_vc (stM := fun _ => isM b p) Try.mixed (fun _ => rfl) (fun k => (vcIsLq_eq b c p k).mpr ?_) k
  unfold vcIsLq
  have hl := hp.nodes
  generalize hL : p.nodes = l at *
  simp
  refine ⟨fun h => ?_, fun h => by simp [okNs_end h, hk]⟩
  rw [okNs_step h]
  simp (disch := omega) only [wrap_i64]
  simp [okN, cast_succ_eq]
  grind
theorem is_c1 (b : Bool) (p : Plan) (hp : p.Ok) (hk : p.kind = 1) : (boolR (isPlan p)).Sat (ACall' Try.prog 15 [.agg (encPl b p)] []) := by
  refine ctr_vc (ht := isHq b 1 p) Try.mixed rfl ?_
  rw [vcIs1_eq b p]
  unfold vcIs1
  have := isq_loop b 1 p hk hp 0
  simp [this, isPlan, hk, stepsOf, manyOf]
  grind
theorem is_c2 (b : Bool) (p : Plan) (hp : p.Ok) (hk : p.kind = 2) : (boolR (isPlan p)).Sat (ACall' Try.prog 15 [.agg (encPl b p)] []) := by
  refine ctr_vc (ht := isHq b 2 p) Try.mixed rfl ?_
  rw [vcIs2_eq b p]
  unfold vcIs2
  have := isq_loop b 2 p hk hp 0
  simp [this, isPlan, hk, stepsOf, manyOf]
  grind
theorem is_c3 (b : Bool) (p : Plan) (hp : p.Ok) (hk : p.kind = 3) : (boolR (isPlan p)).Sat (ACall' Try.prog 15 [.agg (encPl b p)] []) := by
  refine ctr_vc (ht := isHq b 3 p) Try.mixed rfl ?_
  rw [vcIs3_eq b p]
  unfold vcIs3
  have := isq_loop b 3 p hk hp 0
  simp [this, isPlan, hk, stepsOf, manyOf]
  grind [List.length_eq_zero_iff]
theorem is_c4 (b : Bool) (p : Plan) (hp : p.Ok) (h1 : ¬ p.kind = 1) (h2 : ¬ p.kind = 2) (h3 : ¬ p.kind = 3) : (boolR (isPlan p)).Sat (ACall' Try.prog 15 [.agg (encPl b p)] []) := by
  refine ctr_vc (ht := isH4 b p) Try.mixed rfl ?_
  rw [vcIs4_eq b p]
  unfold vcIs4
  have := is_loop b p hp 0
  simp [this, isPlan, h1, h2, h3, stepsOf, manyOf]
  grind
theorem is_c (b : Bool) (p : Plan) (hp : p.Ok) : (boolR (isPlan p)).Sat (ACall' Try.prog 15 [.agg (encPl b p)] []) := by
  by_cases h1 : p.kind = 1
  · exact is_c1 b p hp h1
  · by_cases h2 : p.kind = 2
    · exact is_c2 b p hp h2
    · by_cases h3 : p.kind = 3
      · exact is_c3 b p hp h3
      · exact is_c4 b p hp h1 h2 h3
noncomputable def ndC (b : Bool) (l : List Int) : Ctr Try.prog := ⟨36, [encIs b l], [], .need (l.length ≤ 9223372036854775806) (boolR (nodesOk l)), T.Sat.need fun h => nd_c b l h⟩
noncomputable def ris (b : Bool) (p : Plan) : HintsT Try.prog := hh _ noLp (cs1 17 1 2 (ndC b p.nodes) (cs1 17 3 2 ⟨18, [.y (.int .i64 p.kind)], [], intR (stepsOf p.kind), st2_c p.kind⟩ noCs)) noOp
def vcRis (b : Bool) (p : Plan) : Prop :=
  ((b = b ∧ List.length p.nodes = List.length p.nodes ∧ contLe (List.length p.nodes) (1 : Nat) (cellsOf' encI p.nodes) (cellsOf' encI p.nodes)) ∧ True) ∧ True ∧ List.length p.nodes ≤ (9223372036854775806 : Nat) ∧ (p.kind = p.kind ∧ True) ∧ True ∧ (decide ((0 : Int) < stepsOf p.kind) = true → (decide ((0 : Int) ≤ p.step) = true → (decide (p.step < stepsOf p.kind) = true → (nodesOk p.nodes = true → ((↑(List.length p.into) : Int) == IntKind.wrap IntKind.i64 ((2 : Int) - IntKind.wrap IntKind.i64 (p.kind - (1 : Int)))) = isPlan p ∧ True) ∧ (nodesOk p.nodes = false → false = isPlan p ∧ True)) ∧ (decide (p.step < stepsOf p.kind) = false → false = isPlan p ∧ True)) ∧ (decide ((0 : Int) ≤ p.step) = false → false = isPlan p ∧ True)) ∧ (decide ((0 : Int) < stepsOf p.kind) = false → false = isPlan p ∧ True)
set_option maxRecDepth 1000000 in
theorem vcRis_eq (b : Bool) (p : Plan) : (ctrVC Try.prog (ris b p) 17 [.agg (encPl b p)] [] (boolR (isPlan p))) = vcRis b p := by kernel_rfl
theorem ris_c (b : Bool) (p : Plan) (hp : p.Ok) : (boolR (isPlan p)).Sat (ACall' Try.prog 17 [.agg (encPl b p)] []) := by
  refine ctr_vc (ht := ris b p) Try.mixed rfl ?_
  rw [vcRis_eq b p]
  unfold vcRis
  have h1 := hp.nodes
  have h2 := hp.into
  by_cases k1 : p.kind = 1
  · have w : IntKind.i64.wrap (2 - IntKind.i64.wrap (1 - 1)) = 2 := by decide
    simp [isPlan, nodesOk, k1, stepsOf, manyOf, w]
    grind
  · by_cases k2 : p.kind = 2
    · have w : IntKind.i64.wrap (2 - IntKind.i64.wrap (2 - 1)) = 1 := by decide
      simp [isPlan, nodesOk, k2, stepsOf, manyOf, w]
      grind
    · by_cases k3 : p.kind = 3
      · have w : IntKind.i64.wrap (2 - IntKind.i64.wrap (3 - 1)) = 0 := by decide
        simp [isPlan, nodesOk, k3, stepsOf, manyOf, w]
        grind [List.length_eq_zero_iff]
      · simp [isPlan, nodesOk, k1, k2, k3, stepsOf]
        grind
end Go.Proofs.Ytghhkabankbkoaa
