import Derived.Test.YtghhkabankbkoaaProg
import Derived.Test.YtghhkabankbkoaaTxH
import Derived.KernelRfl
set_option linter.unusedVariables false
set_option linter.unusedSimpArgs false
/-! Plans: data; what is in a list. -/
namespace Go.Proofs.Ytghhkabankbkoaa
open Go.Ax
set_option maxRecDepth 1000000
structure Site where
  group : Int
  node : Int
instance : Inhabited Site := ⟨⟨0, 0⟩⟩
structure Act where
  kind : Int
  group : Int
  node : Int
  step : Int
  ck : Int
  cn : Int
instance : Inhabited Act := ⟨⟨0, 0, 0, 0, 0, 0⟩⟩
structure Plan where
  id : Int
  kind : Int
  topic : ByteArray
  group : Int
  other : Int
  key : ByteArray
  into : List Int
  nodes : List Int
  src : Int
  dst : Int
  step : Int
structure Seen where
  frozen : List Int
  made : List Site
  gone : List Site
  voters : List Int
  learners : List Int
  leader : Int
  ready : Bool
def encU (x : Int) : List AV := [.y (.int .u64 x)]
def encI (x : Int) : List AV := [.y (.int .i64 x)]
def encS (x : Site) : List AV := [.y (.int .u64 x.group), .y (.int .i64 x.node)]
def encA (x : Act) : List AV := [.y (.int .i64 x.kind), .y (.int .u64 x.group), .y (.int .i64 x.node), .y (.int .i64 x.step), .y (.int .i64 x.ck), .y (.int .i64 x.cn)]
def encUs (b : Bool) (l : List Int) : AV := .ys b 1 l.length (cellsOf' encU l)
def encIs (b : Bool) (l : List Int) : AV := .ys b 1 l.length (cellsOf' encI l)
def encSs (b : Bool) (l : List Site) : AV := .ys b 2 l.length (cellsOf' encS l)
def encAs (b : Bool) (l : List Act) : AV := .ys b 6 l.length (cellsOf' encA l)
theorem Try.mixed : Try.prog.follows .mixedOrders = true := by kernel_rfl
/-- is one there? from the k-th on -/
def inI (l : List Int) (x : Int) : Bool := l.any fun z => z == x
def inS (l : List Site) (x : Site) : Bool := l.any fun z => z.group == x.group && z.node == x.node
theorem inI_nil (x : Int) : inI [] x = false := rfl
theorem inI_cons (z : Int) (l : List Int) (x : Int) : inI (z :: l) x = (z == x || inI l x) := rfl
theorem inS_nil (x : Site) : inS [] x = false := rfl
theorem inS_cons (z : Site) (l : List Site) (x : Site) : inS (z :: l) x = ((z.group == x.group && z.node == x.node) || inS l x) := rfl
def boolR (b : Bool) : T An := .ret (.y (.bool b), [], [])

def ctUT (b : Bool) (l : List Int) (x : Int) (k : Nat) : List AV := mkT 19 [(0, encUs b l), (1, .y (.int .u64 x)), (4, .s (.int .i64 0)), (6, encUs b l), (7, .y (.int .i64 l.length)), (8, .y (.int .i64 k))]
def ctUS (x : Int) (r : Bool × Nat) : Exit × List AV × List Blk := match r.1 with
  | true => (.ret, mkT 19 [(4, .y (.int .i64 r.2))], [])
  | false => (.exit 0, mkT 19 [], [])
def ctUO (l : List Int) (x : Int) (k : Nat) : T (Bool × Nat) := .ite (inI (l.drop k) x) (.ret (true, k + (l.drop k).findIdx fun z => z == x)) (.ret (false, 0))
def vcCtUL (b : Bool) (l : List Int) (x : Int) (k : Nat) : Prop :=
  (decide ((↑k : Int) < (↑(List.length l) : Int)) = true → (true && decide ((↑k : Int) < (↑(List.length l) : Int))) = true ∧ ((x == List.getD l (Int.toNat (↑k : Int)) (0 : Int)) = true → (inI (List.drop k l) x = true → ((↑k : Int) = (↑(k + List.findIdx (fun (z : Int) => z == x) (List.drop k l)) : Int) ∧ True) ∧ True ∧ true = true) ∧ (inI (List.drop k l) x = false → False)) ∧ ((x == List.getD l (Int.toNat (↑k : Int)) (0 : Int)) = false → ∃ (j : Nat), List.length l - j < List.length l - k ∧ (((b = b ∧ List.length l = List.length l ∧ contLe (List.length l) (1 : Nat) (cellsOf' encU l) (cellsOf' encU l)) ∧ x = x ∧ (0 : Int) = (0 : Int) ∧ (b = b ∧ List.length l = List.length l ∧ contLe (List.length l) (1 : Nat) (cellsOf' encU l) (cellsOf' encU l)) ∧ (↑(List.length l) : Int) = (↑(List.length l) : Int) ∧ IntKind.wrap IntKind.i64 ((↑k : Int) + (1 : Int)) = (↑j : Int) ∧ True) ∧ True ∧ true = true) ∧ true = true ∧ (inI (List.drop j l) x = true → (inI (List.drop k l) x = true → (true, j + List.findIdx (fun (z : Int) => z == x) (List.drop j l)) = (true, k + List.findIdx (fun (z : Int) => z == x) (List.drop k l))) ∧ (inI (List.drop k l) x = false → (true, j + List.findIdx (fun (z : Int) => z == x) (List.drop j l)) = (false, (0 : Nat)))) ∧ (inI (List.drop j l) x = false → (inI (List.drop k l) x = true → (false, (0 : Nat)) = (true, k + List.findIdx (fun (z : Int) => z == x) (List.drop k l))) ∧ (inI (List.drop k l) x = false → (false, (0 : Nat)) = (false, (0 : Nat)))))) ∧ (decide ((↑k : Int) < (↑(List.length l) : Int)) = false → (inI (List.drop k l) x = true → False) ∧ (inI (List.drop k l) x = false → True ∧ True ∧ true = true))
set_option maxRecDepth 1000000 in
theorem vcCtUL_eq (b : Bool) (l : List Int) (x : Int) (k : Nat) : (loopVC Try.prog (hT _) 47 2 (fun k => l.length - k) (ctUT b l x) (fun _ => []) [0] (ctUO l x) (ctUS x) k) = vcCtUL b l x k := by kernel_rfl
noncomputable def ctUH (b : Bool) (l : List Int) (x : Int) : HintsT Try.prog := hh _ (lp1 47 2 (jobOf (ctUT b l x) (fun _ => []) [0] (ctUO l x) (ctUS x) 0) noLp) noCs noOp
def vcCtU (b : Bool) (l : List Int) (x : Int) : Prop :=
  (((b = b ∧ List.length l = List.length l ∧ contLe (List.length l) (1 : Nat) (cellsOf' encU l) (cellsOf' encU l)) ∧ x = x ∧ (0 : Int) = (0 : Int) ∧ (b = b ∧ List.length l = List.length l ∧ contLe (List.length l) (1 : Nat) (cellsOf' encU l) (cellsOf' encU l)) ∧ (↑(List.length l) : Int) = (↑(List.length l) : Int) ∧ (0 : Int) = (0 : Int) ∧ True) ∧ True ∧ true = true) ∧ LoopOk Try.prog (47 : Nat) (2 : Nat) (loopAt Try.prog (47 : Nat) (2 : Nat)) { t := ctUT b l x (0 : Nat), m := [], mv := [] } (T.map (lout [(0 : Nat)] (ctUS x)) (ctUO l x (0 : Nat))) ∧ (inI (List.drop (0 : Nat) l) x = true → true = inI l x ∧ True) ∧ (inI (List.drop (0 : Nat) l) x = false → false = inI l x ∧ True)
set_option maxRecDepth 1000000 in
theorem vcCtU_eq (b : Bool) (l : List Int) (x : Int) : (ctrVC Try.prog (ctUH b l x) 42 [encUs b l, .y (.int .u64 x)] [] (boolR (inI l x))) = vcCtU b l x := by kernel_rfl
theorem ctU_loop (b : Bool) (l : List Int) (x : Int) (hl : l.length ≤ 9223372036854775806) (k : Nat) : LoopOk Try.prog 47 2 (loopAt Try.prog 47 2) ⟨ctUT b l x k, [], []⟩ ((ctUO l x k).map (lout [0] (ctUS x))) := by
  refine loop_vc Try.mixed (fun _ => rfl) (fun k => (vcCtUL_eq b l x k).mpr ?_) k
  unfold vcCtUL
  simp
  refine ⟨fun h => ?_, fun h => by simp [inI, drop_end h]⟩
  simp (disch := omega) only [wrap_i64]
  rw [drop_cons h]
  simp only [inI_cons, List.findIdx_cons]
  generalize l[k]?.getD default = z
  by_cases hx : x = z
  · subst hx
    simp [h]
  · have hb : (z == x) = false := by simp; omega
    refine ⟨h, fun e => absurd e hx, fun _ => ⟨k + 1, by omega, by omega, ?_⟩⟩
    simp [hb]
    intro h1
    exact ⟨fun _ => by omega, h1⟩
theorem ctU_c (b : Bool) (l : List Int) (x : Int) (hl : l.length ≤ 9223372036854775806) : (boolR (inI l x)).Sat (ACall' Try.prog 42 [encUs b l, .y (.int .u64 x)] []) := by
  refine ctr_vc (ht := (ctUH b l x)) Try.mixed rfl ?_
  rw [vcCtU_eq b l x]
  unfold vcCtU
  have := ctU_loop b l x hl 0
  simp [this]

def ctIT (b : Bool) (l : List Int) (x : Int) (k : Nat) : List AV := mkT 19 [(0, encIs b l), (1, .y (.int .i64 x)), (4, .s (.int .i64 0)), (6, encIs b l), (7, .y (.int .i64 l.length)), (8, .y (.int .i64 k))]
def ctIS (x : Int) (r : Bool × Nat) : Exit × List AV × List Blk := match r.1 with
  | true => (.ret, mkT 19 [(4, .y (.int .i64 r.2))], [])
  | false => (.exit 0, mkT 19 [], [])
def ctIO (l : List Int) (x : Int) (k : Nat) : T (Bool × Nat) := .ite (inI (l.drop k) x) (.ret (true, k + (l.drop k).findIdx fun z => z == x)) (.ret (false, 0))
def vcCtIL (b : Bool) (l : List Int) (x : Int) (k : Nat) : Prop :=
  (decide ((↑k : Int) < (↑(List.length l) : Int)) = true → (true && decide ((↑k : Int) < (↑(List.length l) : Int))) = true ∧ ((x == List.getD l (Int.toNat (↑k : Int)) (0 : Int)) = true → (inI (List.drop k l) x = true → ((↑k : Int) = (↑(k + List.findIdx (fun (z : Int) => z == x) (List.drop k l)) : Int) ∧ True) ∧ True ∧ true = true) ∧ (inI (List.drop k l) x = false → False)) ∧ ((x == List.getD l (Int.toNat (↑k : Int)) (0 : Int)) = false → ∃ (j : Nat), List.length l - j < List.length l - k ∧ (((b = b ∧ List.length l = List.length l ∧ contLe (List.length l) (1 : Nat) (cellsOf' encI l) (cellsOf' encI l)) ∧ x = x ∧ (0 : Int) = (0 : Int) ∧ (b = b ∧ List.length l = List.length l ∧ contLe (List.length l) (1 : Nat) (cellsOf' encI l) (cellsOf' encI l)) ∧ (↑(List.length l) : Int) = (↑(List.length l) : Int) ∧ IntKind.wrap IntKind.i64 ((↑k : Int) + (1 : Int)) = (↑j : Int) ∧ True) ∧ True ∧ true = true) ∧ true = true ∧ (inI (List.drop j l) x = true → (inI (List.drop k l) x = true → (true, j + List.findIdx (fun (z : Int) => z == x) (List.drop j l)) = (true, k + List.findIdx (fun (z : Int) => z == x) (List.drop k l))) ∧ (inI (List.drop k l) x = false → (true, j + List.findIdx (fun (z : Int) => z == x) (List.drop j l)) = (false, (0 : Nat)))) ∧ (inI (List.drop j l) x = false → (inI (List.drop k l) x = true → (false, (0 : Nat)) = (true, k + List.findIdx (fun (z : Int) => z == x) (List.drop k l))) ∧ (inI (List.drop k l) x = false → (false, (0 : Nat)) = (false, (0 : Nat)))))) ∧ (decide ((↑k : Int) < (↑(List.length l) : Int)) = false → (inI (List.drop k l) x = true → False) ∧ (inI (List.drop k l) x = false → True ∧ True ∧ true = true))
set_option maxRecDepth 1000000 in
theorem vcCtIL_eq (b : Bool) (l : List Int) (x : Int) (k : Nat) : (loopVC Try.prog (hT _) 51 2 (fun k => l.length - k) (ctIT b l x) (fun _ => []) [0] (ctIO l x) (ctIS x) k) = vcCtIL b l x k := by kernel_rfl
noncomputable def ctIH (b : Bool) (l : List Int) (x : Int) : HintsT Try.prog := hh _ (lp1 51 2 (jobOf (ctIT b l x) (fun _ => []) [0] (ctIO l x) (ctIS x) 0) noLp) noCs noOp
def vcCtI (b : Bool) (l : List Int) (x : Int) : Prop :=
  (((b = b ∧ List.length l = List.length l ∧ contLe (List.length l) (1 : Nat) (cellsOf' encI l) (cellsOf' encI l)) ∧ x = x ∧ (0 : Int) = (0 : Int) ∧ (b = b ∧ List.length l = List.length l ∧ contLe (List.length l) (1 : Nat) (cellsOf' encI l) (cellsOf' encI l)) ∧ (↑(List.length l) : Int) = (↑(List.length l) : Int) ∧ (0 : Int) = (0 : Int) ∧ True) ∧ True ∧ true = true) ∧ LoopOk Try.prog (51 : Nat) (2 : Nat) (loopAt Try.prog (51 : Nat) (2 : Nat)) { t := ctIT b l x (0 : Nat), m := [], mv := [] } (T.map (lout [(0 : Nat)] (ctIS x)) (ctIO l x (0 : Nat))) ∧ (inI (List.drop (0 : Nat) l) x = true → true = inI l x ∧ True) ∧ (inI (List.drop (0 : Nat) l) x = false → false = inI l x ∧ True)
set_option maxRecDepth 1000000 in
theorem vcCtI_eq (b : Bool) (l : List Int) (x : Int) : (ctrVC Try.prog (ctIH b l x) 46 [encIs b l, .y (.int .i64 x)] [] (boolR (inI l x))) = vcCtI b l x := by kernel_rfl
theorem ctI_loop (b : Bool) (l : List Int) (x : Int) (hl : l.length ≤ 9223372036854775806) (k : Nat) : LoopOk Try.prog 51 2 (loopAt Try.prog 51 2) ⟨ctIT b l x k, [], []⟩ ((ctIO l x k).map (lout [0] (ctIS x))) := by
  refine loop_vc Try.mixed (fun _ => rfl) (fun k => (vcCtIL_eq b l x k).mpr ?_) k
  unfold vcCtIL
  simp
  refine ⟨fun h => ?_, fun h => by simp [inI, drop_end h]⟩
  simp (disch := omega) only [wrap_i64]
  rw [drop_cons h]
  simp only [inI_cons, List.findIdx_cons]
  generalize l[k]?.getD default = z
  by_cases hx : x = z
  · subst hx
    simp [h]
  · have hb : (z == x) = false := by simp; omega
    refine ⟨h, fun e => absurd e hx, fun _ => ⟨k + 1, by omega, by omega, ?_⟩⟩
    simp [hb]
    intro h1
    exact ⟨fun _ => by omega, h1⟩
theorem ctI_c (b : Bool) (l : List Int) (x : Int) (hl : l.length ≤ 9223372036854775806) : (boolR (inI l x)).Sat (ACall' Try.prog 46 [encIs b l, .y (.int .i64 x)] []) := by
  refine ctr_vc (ht := (ctIH b l x)) Try.mixed rfl ?_
  rw [vcCtI_eq b l x]
  unfold vcCtI
  have := ctI_loop b l x hl 0
  simp [this]

def ctST (b : Bool) (l : List Site) (x : Site) (k : Nat) : List AV := mkT 19 [(0, encSs b l), (3, .ptr 0 0 0 0), (4, .s (.int .i64 0)), (6, encSs b l), (7, .y (.int .i64 l.length)), (8, .y (.int .i64 k))]
def ctSS (x : Site) (r : Bool × Nat) : Exit × List AV × List Blk := match r.1 with
  | true => (.ret, mkT 19 [(4, .y (.int .i64 r.2))], [.box 40 (encS x)])
  | false => (.exit 0, mkT 19 [], [.box 40 (encS x)])
def ctSO (l : List Site) (x : Site) (k : Nat) : T (Bool × Nat) := .ite (inS (l.drop k) x) (.ret (true, k + (l.drop k).findIdx fun z => z.group == x.group && z.node == x.node)) (.ret (false, 0))
def vcCtSL (b : Bool) (l : List Site) (x : Site) (k : Nat) : Prop :=
  (decide ((↑k : Int) < (↑(List.length l) : Int)) = true → (true && decide ((↑k : Int) < (↑(List.length l) : Int))) = true ∧ ((x.group == (List.getD l (Int.toNat (↑k : Int)) (@default Site instInhabitedSite)).group && (x.node == (List.getD l (Int.toNat (↑k : Int)) (@default Site instInhabitedSite)).node && true)) = true → (inS (List.drop k l) x = true → ((↑k : Int) = (↑(k + List.findIdx (fun (z : Site) => z.group == x.group && z.node == x.node) (List.drop k l)) : Int) ∧ True) ∧ ((x.group = x.group ∧ x.node = x.node ∧ True) ∧ True) ∧ true = true) ∧ (inS (List.drop k l) x = false → False)) ∧ ((x.group == (List.getD l (Int.toNat (↑k : Int)) (@default Site instInhabitedSite)).group && (x.node == (List.getD l (Int.toNat (↑k : Int)) (@default Site instInhabitedSite)).node && true)) = false → ∃ (j : Nat), List.length l - j < List.length l - k ∧ (((b = b ∧ List.length l = List.length l ∧ contLe (List.length l) (2 : Nat) (cellsOf' encS l) (cellsOf' encS l)) ∧ ((0 : Nat) = (0 : Nat) ∧ (0 : Nat) = (0 : Nat)) ∧ (0 : Int) = (0 : Int) ∧ (b = b ∧ List.length l = List.length l ∧ contLe (List.length l) (2 : Nat) (cellsOf' encS l) (cellsOf' encS l)) ∧ (↑(List.length l) : Int) = (↑(List.length l) : Int) ∧ IntKind.wrap IntKind.i64 ((↑k : Int) + (1 : Int)) = (↑j : Int) ∧ True) ∧ ((x.group = x.group ∧ x.node = x.node ∧ True) ∧ True) ∧ true = true) ∧ true = true ∧ (inS (List.drop j l) x = true → (inS (List.drop k l) x = true → (true, j + List.findIdx (fun (z : Site) => z.group == x.group && z.node == x.node) (List.drop j l)) = (true, k + List.findIdx (fun (z : Site) => z.group == x.group && z.node == x.node) (List.drop k l))) ∧ (inS (List.drop k l) x = false → (true, j + List.findIdx (fun (z : Site) => z.group == x.group && z.node == x.node) (List.drop j l)) = (false, (0 : Nat)))) ∧ (inS (List.drop j l) x = false → (inS (List.drop k l) x = true → (false, (0 : Nat)) = (true, k + List.findIdx (fun (z : Site) => z.group == x.group && z.node == x.node) (List.drop k l))) ∧ (inS (List.drop k l) x = false → (false, (0 : Nat)) = (false, (0 : Nat)))))) ∧ (decide ((↑k : Int) < (↑(List.length l) : Int)) = false → (inS (List.drop k l) x = true → False) ∧ (inS (List.drop k l) x = false → True ∧ ((x.group = x.group ∧ x.node = x.node ∧ True) ∧ True) ∧ true = true))
set_option maxRecDepth 1000000 in
theorem vcCtSL_eq (b : Bool) (l : List Site) (x : Site) (k : Nat) : (loopVC Try.prog (hT _) 48 2 (fun k => l.length - k) (ctST b l x) (fun _ => [.box 40 (encS x)]) [0, 1, 2, 3] (ctSO l x) (ctSS x) k) = vcCtSL b l x k := by kernel_rfl
noncomputable def ctSH (b : Bool) (l : List Site) (x : Site) : HintsT Try.prog := hh _ (lp1 48 2 (jobOf (ctST b l x) (fun _ => [.box 40 (encS x)]) [0, 1, 2, 3] (ctSO l x) (ctSS x) 0) noLp) noCs noOp
def vcCtS (b : Bool) (l : List Site) (x : Site) : Prop :=
  (((b = b ∧ List.length l = List.length l ∧ contLe (List.length l) (2 : Nat) (cellsOf' encS l) (cellsOf' encS l)) ∧ ((0 : Nat) = (0 : Nat) ∧ (0 : Nat) = (0 : Nat)) ∧ (0 : Int) = (0 : Int) ∧ (b = b ∧ List.length l = List.length l ∧ contLe (List.length l) (2 : Nat) (cellsOf' encS l) (cellsOf' encS l)) ∧ (↑(List.length l) : Int) = (↑(List.length l) : Int) ∧ (0 : Int) = (0 : Int) ∧ True) ∧ ((x.group = x.group ∧ x.node = x.node ∧ True) ∧ True) ∧ true = true) ∧ LoopOk Try.prog (48 : Nat) (2 : Nat) (loopAt Try.prog (48 : Nat) (2 : Nat)) { t := ctST b l x (0 : Nat), m := [Blk.box (40 : TypeId) (encS x)], mv := [] } (T.map (lout [(0 : Nat), (1 : Nat), (2 : Nat), (3 : Nat)] (ctSS x)) (ctSO l x (0 : Nat))) ∧ (inS (List.drop (0 : Nat) l) x = true → true = inS l x ∧ True) ∧ (inS (List.drop (0 : Nat) l) x = false → false = inS l x ∧ True)
set_option maxRecDepth 1000000 in
theorem vcCtS_eq (b : Bool) (l : List Site) (x : Site) : (ctrVC Try.prog (ctSH b l x) 44 [encSs b l, .agg (encS x)] [] (boolR (inS l x))) = vcCtS b l x := by kernel_rfl
theorem ctS_loop (b : Bool) (l : List Site) (x : Site) (hl : l.length ≤ 9223372036854775806) (k : Nat) : LoopOk Try.prog 48 2 (loopAt Try.prog 48 2) ⟨ctST b l x k, [.box 40 (encS x)], []⟩ ((ctSO l x k).map (lout [0, 1, 2, 3] (ctSS x))) := by
  refine loop_vc Try.mixed (fun _ => rfl) (fun k => (vcCtSL_eq b l x k).mpr ?_) k
  unfold vcCtSL
  simp
  refine ⟨fun h => ?_, fun h => by simp [inS, drop_end h]⟩
  simp (disch := omega) only [wrap_i64]
  rw [drop_cons h]
  simp only [inS_cons, List.findIdx_cons]
  generalize l[k]?.getD default = z
  by_cases hx : x.group = z.group ∧ x.node = z.node
  · obtain ⟨h1, h2⟩ := hx
    simp [h, h1, h2]
  · have hb : (z.group == x.group && z.node == x.node) = false := by simp; omega
    refine ⟨h, fun e1 e2 => absurd ⟨e1, e2⟩ hx, fun _ => ⟨k + 1, by omega, by omega, ?_⟩⟩
    simp only [hb]
    simp
    intro h1
    exact ⟨fun _ => by omega, h1⟩
theorem ctS_c (b : Bool) (l : List Site) (x : Site) (hl : l.length ≤ 9223372036854775806) : (boolR (inS l x)).Sat (ACall' Try.prog 44 [encSs b l, .agg (encS x)] []) := by
  refine ctr_vc (ht := (ctSH b l x)) Try.mixed rfl ?_
  rw [vcCtS_eq b l x]
  unfold vcCtS
  have := ctS_loop b l x hl 0
  simp [this]
end Go.Proofs.Ytghhkabankbkoaa
