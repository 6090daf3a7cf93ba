import Derived.Test.YtnbhdjadlbhknaaGreatDoorProg
import Derived.KernelRfl
import Derived.Shelf.Strings.SlTrimAscii
import Derived.Test.YtnbhdjadlbhknaaGreatDoorE9
import Derived.Test.YtnbhdjadlbhknaaGreatDoorE10
set_option linter.unusedVariables false
set_option linter.unusedSimpArgs false
set_option linter.unusedSectionVars false
/-! Variables of the program's that hold a handle from the first (errors.errorType), where a law's calls read them. -/
namespace Go.Proofs.YtnbhdjadlbhknaaGreatDoor
open Go.Ax
noncomputable instance glSeat : Inhabited Gl0 := ⟨⟨[(0, 191, typeHandle Tryz.prog 74)]⟩⟩
end Go.Proofs.YtnbhdjadlbhknaaGreatDoor

/-! Records: data; one record in new memory; ranges of keys. -/
namespace Go.Proofs.YtnbhdjadlbhknaaGreatDoor
open Go.Ax
set_option maxRecDepth 1000000
structure Rec where
  off : Int
  key : ByteArray
  val : List Int
  prod : Int
  seq : Int
instance : Inhabited Rec := ⟨⟨0, ByteArray.empty, [], 0, 0⟩⟩
structure Rng where
  lo : ByteArray
  hi : ByteArray
instance : Inhabited Rng := ⟨⟨ByteArray.empty, ByteArray.empty⟩⟩
structure Con where
  name : ByteArray
  off : Int
instance : Inhabited Con := ⟨⟨ByteArray.empty, 0⟩⟩
def encB (x : Int) : List AV := [.y (.int .u8 x)]
def encU (x : Int) : List AV := [.y (.int .u64 x)]
def encI (x : Int) : List AV := [.y (.int .i64 x)]
def encBs (b : Bool) (l : List Int) : AV := .ys b 1 l.length (cellsOf' encB l)
def encUs (b : Bool) (l : List Int) : AV := .ys b 1 l.length (cellsOf' encU l)
def encR (x : Rec) : List AV := [.y (.int .u64 x.off), .y (.string x.key), encBs true x.val, .y (.int .u64 x.prod), .y (.int .u64 x.seq)]
def encRs (b : Bool) (l : List Rec) : AV := .ys b 5 l.length (cellsOf' encR l)
def encC (x : Con) : List AV := [.y (.string x.name), .y (.int .u64 x.off)]
def encCs (b : Bool) (l : List Con) : AV := .ys b 2 l.length (cellsOf' encC l)
def encG (r : Rng) : List AV := [.y (.string r.lo), .y (.string r.hi)]
def rowU (l : List Int) : Blk := .row 25 1 l.length none (cellsOf' encU l)
def rowR (l : List Rec) : Blk := .row 54 5 l.length none (cellsOf' encR l)
def rowC (l : List Con) : Blk := .row 83 2 l.length none (cellsOf' encC l)
theorem Tryz.mixed : Tryz.prog.follows .mixedOrders = true := by kernel_rfl
def boolR (b : Bool) : T An := .ret (.y (.bool b), [], [])
def intR (k : Int) : T An := .ret (.y (.int .i64 k), [], [])
/-! slices.Clone of bytes -/
def clnR (n : Nat) (c : Nat → Nat → AV) : T An := .ret (.own 0 1 0 n, [.row 5 1 n none c], [])
noncomputable def clnH : HintsT Tryz.prog := hh _ noLp noCs (op1 100 2 0 (.row 5 1) noOp)
def vcClone0 (n : Nat) (c : Nat → Nat → AV) : Prop :=
  ((0 : Nat) = (0 : Nat) ∧ (0 : Nat) = n) ∧ ((0 : Nat) = n ∧ contLe (0 : Nat) (1 : Nat) (fun (x x_1 : Nat) => AV.junk) c) ∧ True
set_option maxRecDepth 1000000 in
theorem vcClone0_eq (n : Nat) (c : Nat → Nat → AV) : (ctrVC Tryz.prog clnH 100 [.s (.slice none 0 0)] [] (clnR n c)) = vcClone0 n c := by kernel_rfl
def vcClone1 (b : Bool) (n : Nat) (c : Nat → Nat → AV) : Prop :=
  (decide ((0 : Nat) + n ≤ (9223372036854775807 : Nat)) && decide (((0 : Nat) + n) * (1 : Nat) ≤ (140737488355328 : Nat))) = true ∧ ((0 : Nat) = (0 : Nat) ∧ (0 : Nat) + n = n) ∧ ((0 : Nat) + n = n ∧ contLe ((0 : Nat) + n) (1 : Nat) (appRow (0 : Nat) (fun (k j : Nat) => AV.junk) c) c) ∧ True
set_option maxRecDepth 1000000 in
theorem vcClone1_eq (b : Bool) (n : Nat) (c : Nat → Nat → AV) : (ctrVC Tryz.prog clnH 100 [.yn b 1 n c] [] (clnR n c)) = vcClone1 b n c := by kernel_rfl
theorem clone_c (b : Bool) (n : Nat) (c : Nat → Nat → AV) (hl : n ≤ 140737488355328) : (clnR n c).Sat (ACall' Tryz.prog 100 [.ys b 1 n c] []) := by
  refine nil_cases (pre := []) (post := []) (fun h0 => ?_) ?_ ⟨_, rfl⟩
  · refine ctr_vc (ht := clnH) Tryz.mixed rfl ?_
    rw [List.nil_append, vcClone0_eq n c]
    unfold vcClone0
    simp [h0]
  · refine ctr_vc (ht := clnH) Tryz.mixed rfl ?_
    rw [List.nil_append, vcClone1_eq b n c]
    unfold vcClone1
    simp
    omega
noncomputable def clnC (b : Bool) (n : Nat) (c : Nat → Nat → AV) : Ctr Tryz.prog := ⟨100, [.ys b 1 n c], [], .need (n ≤ 140737488355328) (clnR n c), T.Sat.need fun h => clone_c b n c h⟩
/-! a record with another offset -/
def Rec.to (x : Rec) (o : Int) : Rec := ⟨o, x.key, x.val, x.prod, x.seq⟩
def recR (x : Rec) : T An := .ret (.agg (encR x), [], [])
noncomputable def ownH (x : Rec) : HintsT Tryz.prog := withSh (hh _ noLp (cs1 157 1 4 (clnC true x.val.length (cellsOf' encB x.val)) noCs) noOp) (sh1 157 2 0 779 noSh)
def vcOwn (x : Rec) (o : Int) : Prop :=
  ((true = true ∧ List.length x.val = List.length x.val ∧ contLe (List.length x.val) (1 : Nat) (cellsOf' encB x.val) (cellsOf' encB x.val)) ∧ True) ∧ True ∧ List.length x.val ≤ (140737488355328 : Nat) ∧ (∀ (k : Nat), k < List.length x.val → ∀ (j : Nat), j < (1 : Nat) → tagT (cellsOf' encB x.val k j) = true) ∧ (IntKind.wrap IntKind.u64 o = IntKind.wrap IntKind.u64 o ∧ x.key = x.key ∧ (true = true ∧ List.length x.val = List.length x.val ∧ contLe (List.length x.val) (1 : Nat) (Ax.rowAt (0 : Nat) (cellsOf' encB x.val)) (cellsOf' encB x.val)) ∧ x.prod = x.prod ∧ x.seq = x.seq ∧ True) ∧ True
set_option maxRecDepth 1000000 in
theorem vcOwn_eq (x : Rec) (o : Int) : (ctrVC Tryz.prog (ownH x) 157 [.agg (encR x), .y (.int .i64 o)] [] (recR (x.to (IntKind.u64.wrap o)))) = vcOwn x o := by kernel_rfl
/-! ranges -/
def lt (a b : ByteArray) : Bool := Op.bytesLess a.data.toList b.data.toList
def chkK (r : Rng) : Int := if 32 < r.lo.size ∨ 32 < r.hi.size then 131 else if (!r.hi.data.toList == []) = true ∧ (lt r.hi r.lo || r.hi.data.toList == r.lo.data.toList) = true then 132 else 0
def vcChk (r : Rng) : Prop :=
  (decide ((32 : Int) < (↑(ByteArray.size r.lo) : Int)) = true → (131 : Int) = chkK r ∧ True) ∧ (decide ((32 : Int) < (↑(ByteArray.size r.lo) : Int)) = false → (decide ((32 : Int) < (↑(ByteArray.size r.hi) : Int)) = true → (131 : Int) = chkK r ∧ True) ∧ (decide ((32 : Int) < (↑(ByteArray.size r.hi) : Int)) = false → ((!r.hi.data.toList == []) = true → ((Op.bytesLess r.hi.data.toList r.lo.data.toList || r.hi.data.toList == r.lo.data.toList) = true → (132 : Int) = chkK r ∧ True) ∧ ((Op.bytesLess r.hi.data.toList r.lo.data.toList || r.hi.data.toList == r.lo.data.toList) = false → (0 : Int) = chkK r ∧ True)) ∧ ((!r.hi.data.toList == []) = false → (0 : Int) = chkK r ∧ True)))
set_option maxRecDepth 1000000 in
theorem vcChk_eq (r : Rng) : (ctrVC Tryz.prog (hT _) 37 [.agg (encG r)] [] (intR (chkK r))) = vcChk r := by kernel_rfl
end Go.Proofs.YtnbhdjadlbhknaaGreatDoor

/-! Records: a range has a key; may records be a log? -/
namespace Go.Proofs.YtnbhdjadlbhknaaGreatDoor
open Go.Ax
set_option maxRecDepth 1000000
theorem own_c (x : Rec) (o : Int) (h : x.val.length ≤ 140737488355328) : (recR (x.to (IntKind.u64.wrap o))).Sat (ACall' Tryz.prog 157 [.agg (encR x), .y (.int .i64 o)] []) := by
  refine ctr_vc (ht := ownH x) Tryz.mixed rfl ?_
  rw [vcOwn_eq x o]
  unfold vcOwn
  simp [h]
  exact fun _ _ => rfl
noncomputable def ownC (x : Rec) (o : Int) : Ctr Tryz.prog := ⟨157, [.agg (encR x), .y (.int .i64 o)], [], .need (x.val.length ≤ 140737488355328) (recR (x.to (IntKind.u64.wrap o))), T.Sat.need fun h => own_c x o h⟩
theorem chk_c (r : Rng) : (intR (chkK r)).Sat (ACall' Tryz.prog 37 [.agg (encG r)] []) := by
  refine ctr_vc (ht := hT _) Tryz.mixed rfl ?_
  rw [vcChk_eq r]
  unfold vcChk chkK lt
  simp
  grind
noncomputable def chkC (r : Rng) : Ctr Tryz.prog := ⟨37, [.agg (encG r)], [], intR (chkK r), chk_c r⟩
def hasK (r : Rng) (k : ByteArray) : Bool := chkK r == 0 && (decide ((k.size : Int) ≤ 32) && ((lt r.lo k || r.lo.data.toList == k.data.toList) && (r.hi.data.toList == [] || lt k r.hi)))
noncomputable def hasH (r : Rng) : HintsT Tryz.prog := hh _ noLp (cs1 115 1 1 (chkC r) noCs) noOp
def vcHas (r : Rng) (k : ByteArray) : Prop :=
  ((r.lo = r.lo ∧ r.hi = r.hi ∧ True) ∧ True) ∧ True ∧ ((chkK r == (0 : Int)) = true → (decide ((↑(ByteArray.size k) : Int) ≤ (32 : Int)) = true → ((Op.bytesLess r.lo.data.toList k.data.toList || r.lo.data.toList == k.data.toList) = true → ((r.hi.data.toList == []) = true → true = hasK r k ∧ True) ∧ ((r.hi.data.toList == []) = false → Op.bytesLess k.data.toList r.hi.data.toList = hasK r k ∧ True)) ∧ ((Op.bytesLess r.lo.data.toList k.data.toList || r.lo.data.toList == k.data.toList) = false → false = hasK r k ∧ True)) ∧ (decide ((↑(ByteArray.size k) : Int) ≤ (32 : Int)) = false → false = hasK r k ∧ True)) ∧ ((chkK r == (0 : Int)) = false → false = hasK r k ∧ True)
set_option maxRecDepth 1000000 in
theorem vcHas_eq (r : Rng) (k : ByteArray) : (ctrVC Tryz.prog (hasH r) 115 [.agg (encG r), .y (.string k)] [] (boolR (hasK r k))) = vcHas r k := by kernel_rfl
theorem less_irr : ∀ l : List UInt8, Op.bytesLess l l = false
  | [] => rfl
  | a :: l => by simp [Op.bytesLess, less_irr l]
theorem less_asymm : ∀ (a b : List UInt8), Op.bytesLess a b = true → Op.bytesLess b a = false
  | [], [], h => by simp [Op.bytesLess] at h
  | [], _ :: _, _ => rfl
  | _ :: _, [], h => by simp [Op.bytesLess] at h
  | a :: l, b :: m, h => by
    simp only [Op.bytesLess, Bool.or_eq_true, Bool.and_eq_true, decide_eq_true_eq, beq_iff_eq] at h ⊢
    rcases h with h | ⟨rfl, h⟩
    · have h1 : ¬ b < a := UInt8.not_lt.2 (UInt8.le_of_lt h)
      have h2 : ¬ b = a := fun e => by subst e; exact absurd h (UInt8.lt_irrefl _)
      simp [h1, h2]
    · have := less_asymm l m h
      simp [this]
theorem less_total : ∀ (a b : List UInt8), Op.bytesLess a b = false → Op.bytesLess b a = false → a = b
  | [], [], _, _ => rfl
  | [], _ :: _, h, _ => by simp [Op.bytesLess] at h
  | _ :: _, [], _, h => by simp [Op.bytesLess] at h
  | a :: l, b :: m, h, k => by
    simp only [Op.bytesLess, Bool.or_eq_false_iff, Bool.and_eq_false_iff, decide_eq_false_iff_not, beq_eq_false_iff_ne] at h k
    have e : a = b := UInt8.le_antisymm (UInt8.not_lt.1 k.1) (UInt8.not_lt.1 h.1)
    subst e
    rw [less_total l m (h.2.resolve_left fun q => q rfl) (k.2.resolve_left fun q => q rfl)]
theorem has_c (r : Rng) (k : ByteArray) : (boolR (hasK r k)).Sat (ACall' Tryz.prog 115 [.agg (encG r), .y (.string k)] []) := by
  refine ctr_vc (ht := hasH r) Tryz.mixed rfl ?_
  rw [vcHas_eq r k]
  unfold vcHas
  unfold hasK lt
  generalize (chkK r == 0) = a
  generalize decide ((k.size : Int) ≤ 32) = b
  generalize Op.bytesLess r.lo.data.toList k.data.toList = c
  generalize (r.lo.data.toList == k.data.toList) = d
  generalize (r.hi.data.toList == []) = e
  generalize Op.bytesLess k.data.toList r.hi.data.toList = f
  cases a <;> cases b <;> cases c <;> cases d <;> cases e <;> cases f <;> simp
end Go.Proofs.YtnbhdjadlbhknaaGreatDoor

/-! Records: may records be a log? has a list a lower one? -/
namespace Go.Proofs.YtnbhdjadlbhknaaGreatDoor
open Go.Ax
set_option maxRecDepth 1000000
def okR (x : Rec) (k : Nat) : Bool := !(x.off != IntKind.u64.wrap k) && (decide (x.key.size ≤ 32) && decide (x.val.length ≤ 256))
def logFrom (l : List Rec) (k : Nat) : Bool := (List.range' k (l.length - k)).all fun j => okR (l.getD j default) j
theorem logFrom_end {l : List Rec} {k : Nat} (h : l.length ≤ k) : logFrom l k = true := by
  unfold logFrom
  rw [show l.length - k = 0 by omega]; rfl
theorem logFrom_step {l : List Rec} {k : Nat} (h : k < l.length) : logFrom l k = (okR (l.getD k default) k && logFrom l (k + 1)) := by
  unfold logFrom
  rw [show l.length - k = (l.length - (k + 1)) + 1 by omega, List.range'_succ]; rfl
def isLog (l : List Rec) : Bool := logFrom l 0 && decide (l.length ≤ 4096)
def lgT (b : Bool) (l : List Rec) (k : Nat) : List AV := mkT 33 [(0, encRs b l), (2, .s (.bool false)), (5, encRs b l), (6, .y (.int .i64 l.length)), (7, .y (.int .i64 k))]
def lgS (b : Bool) (l : List Rec) (r : Bool) : Exit × List AV × List Blk := match r with
  | true => (.exit 0, mkT 33 [(0, encRs b l)], [])
  | false => (.ret, mkT 33 [(2, .s (.bool false))], [])
def lgO (l : List Rec) (k : Nat) : T Bool := .ite (logFrom l k) (.ret true) (.ret false)
def vcLgL (b : Bool) (l : List Rec) (k : Nat) : Prop :=
  (decide ((↑k : Int) < (↑(List.length l) : Int)) = true → (true && decide ((↑k : Int) < (↑(List.length l) : Int))) = true ∧ (((List.getD l (Int.toNat (↑k : Int)) (@default Rec instInhabitedRec)).off != IntKind.wrap IntKind.u64 (↑k : Int)) = true → (logFrom l k = true → False) ∧ (logFrom l k = false → (false = false ∧ True) ∧ True ∧ true = true)) ∧ (((List.getD l (Int.toNat (↑k : Int)) (@default Rec instInhabitedRec)).off != IntKind.wrap IntKind.u64 (↑k : Int)) = false → (decide ((32 : Int) < (↑(ByteArray.size (List.getD l (Int.toNat (↑k : Int)) (@default Rec instInhabitedRec)).key) : Int)) = true → (logFrom l k = true → False) ∧ (logFrom l k = false → (false = false ∧ True) ∧ True ∧ true = true)) ∧ (decide ((32 : Int) < (↑(ByteArray.size (List.getD l (Int.toNat (↑k : Int)) (@default Rec instInhabitedRec)).key) : Int)) = false → (decide ((256 : Int) < (↑(List.length (List.getD l (Int.toNat (↑k : Int)) (@default Rec instInhabitedRec)).val) : Int)) = true → (logFrom l k = true → False) ∧ (logFrom l k = false → (false = false ∧ True) ∧ True ∧ true = true)) ∧ (decide ((256 : Int) < (↑(List.length (List.getD l (Int.toNat (↑k : Int)) (@default Rec instInhabitedRec)).val) : Int)) = false → ∃ (j : Nat), List.length l - j < List.length l - k ∧ (((b = b ∧ List.length l = List.length l ∧ contLe (List.length l) (5 : Nat) (cellsOf' encR l) (cellsOf' encR l)) ∧ false = false ∧ (b = b ∧ List.length l = List.length l ∧ contLe (List.length l) (5 : Nat) (cellsOf' encR l) (cellsOf' encR l)) ∧ (↑(List.length l) : Int) = (↑(List.length l) : Int) ∧ IntKind.wrap IntKind.i64 ((↑k : Int) + (1 : Int)) = (↑j : Int) ∧ True) ∧ True ∧ true = true) ∧ true = true ∧ (logFrom l j = true → (logFrom l k = true → true = true) ∧ (logFrom l k = false → true = false)) ∧ (logFrom l j = false → (logFrom l k = true → false = true) ∧ (logFrom l k = false → false = false)))))) ∧ (decide ((↑k : Int) < (↑(List.length l) : Int)) = false → (logFrom l k = true → ((b = b ∧ List.length l = List.length l ∧ contLe (List.length l) (5 : Nat) (cellsOf' encR l) (cellsOf' encR l)) ∧ True) ∧ True ∧ true = true) ∧ (logFrom l k = false → False))
set_option maxRecDepth 1000000 in
theorem vcLgL_eq (b : Bool) (l : List Rec) (k : Nat) : (loopVC Tryz.prog (hT _) 44 2 (fun k => l.length - k) (lgT b l) (fun _ => []) [0] (lgO l) (lgS b l) k) = vcLgL b l k := by kernel_rfl
noncomputable def lgH (b : Bool) (l : List Rec) : HintsT Tryz.prog := hh _ (lp1 44 2 (jobOf (lgT b l) (fun _ => []) [0] (lgO l) (lgS b l) 0) noLp) noCs noOp
def vcLg (b : Bool) (l : List Rec) : Prop :=
  (((b = b ∧ List.length l = List.length l ∧ contLe (List.length l) (5 : Nat) (cellsOf' encR l) (cellsOf' encR l)) ∧ false = false ∧ (b = b ∧ List.length l = List.length l ∧ contLe (List.length l) (5 : Nat) (cellsOf' encR l) (cellsOf' encR l)) ∧ (↑(List.length l) : Int) = (↑(List.length l) : Int) ∧ (0 : Int) = (0 : Int) ∧ True) ∧ True ∧ true = true) ∧ LoopOk Tryz.prog (44 : Nat) (2 : Nat) (loopAt Tryz.prog (44 : Nat) (2 : Nat)) { t := lgT b l (0 : Nat), m := [], mv := [] : St } (T.map (lout [(0 : Nat)] (lgS b l)) (lgO l (0 : Nat))) ∧ (logFrom l (0 : Nat) = true → decide ((↑(List.length l) : Int) ≤ (4096 : Int)) = isLog l ∧ True) ∧ (logFrom l (0 : Nat) = false → false = isLog l ∧ True)
set_option maxRecDepth 1000000 in
theorem vcLg_eq (b : Bool) (l : List Rec) : (ctrVC Tryz.prog (lgH b l) 44 [encRs b l] [] (boolR (isLog l))) = vcLg b l := by kernel_rfl
/-! one of the same producer with a lower number -/
def below (x y : Rec) : Bool := y.prod == x.prod && decide (y.seq < x.seq)
def lowR (l : List Rec) (x : Rec) : Bool := l.any (below x)
def ixS (r : Bool × Nat) : Exit × List AV × List Blk := match r.1 with
  | true => (.ret, mkT 19 [(4, .y (.int .i64 r.2))], [])
  | false => (.exit 0, mkT 19 [], [])
end Go.Proofs.YtnbhdjadlbhknaaGreatDoor

/-! Records: the contracts of Log, wait, lower. -/
namespace Go.Proofs.YtnbhdjadlbhknaaGreatDoor
open Go.Ax
set_option maxRecDepth 1000000
theorem lg_loop (b : Bool) (l : List Rec) (hl : l.length ≤ 9223372036854775806) (k : Nat) : LoopOk Tryz.prog 44 2 (loopAt Tryz.prog 44 2) ⟨lgT b l k, [], []⟩ ((lgO l k).map (lout [0] (lgS b l))) := by
  refine loop_vc Tryz.mixed (fun _ => rfl) (fun k => (vcLgL_eq b l k).mpr ?_) k
  unfold vcLgL
  simp
  refine ⟨fun h => ?_, fun h => by simp [logFrom_end h]⟩
  rw [logFrom_step h]
  simp (disch := omega) only [wrap_i64]
  simp [okR, cast_succ_eq]
  generalize l[k]?.getD default = x
  grind
theorem lg_c (b : Bool) (l : List Rec) (hl : l.length ≤ 9223372036854775806) : (boolR (isLog l)).Sat (ACall' Tryz.prog 44 [encRs b l] []) := by
  refine ctr_vc (ht := lgH b l) Tryz.mixed rfl ?_
  rw [vcLg_eq b l]
  unfold vcLg
  have := lg_loop b l hl 0
  simp [this, isLog]
  grind
noncomputable def lgC (b : Bool) (l : List Rec) : Ctr Tryz.prog := ⟨44, [encRs b l], [], .need (l.length ≤ 9223372036854775806) (boolR (isLog l)), T.Sat.need fun h => lg_c b l h⟩
end Go.Proofs.YtnbhdjadlbhknaaGreatDoor

/-! Records: two logs as one. -/
namespace Go.Proofs.YtnbhdjadlbhknaaGreatDoor
open Go.Ax
set_option maxRecDepth 1000000
def hd (l : List Rec) : Rec := l.getD 0 default
structure Jo where
  (a b out : List Rec) (ta tb : List Int)
def Jo.tA (s : Jo) : Bool := !s.a.isEmpty && !lowR s.b (hd s.a)
def Jo.tB (s : Jo) : Bool := !s.b.isEmpty && !lowR s.a (hd s.b)
def Jo.at (s : Jo) : Int := IntKind.u64.wrap (s.out.length : Nat)
def Jo.goA (s : Jo) : Jo := ⟨s.a.tail, s.b, s.out ++ [(hd s.a).to s.at], s.ta ++ [s.at], s.tb⟩
def Jo.goB (s : Jo) : Jo := ⟨s.a, s.b.tail, s.out ++ [(hd s.b).to s.at], s.ta, s.tb ++ [s.at]⟩
def joinN : Nat → Jo → Option Jo
  | 0, s => some s
  | n + 1, s => if s.tA then joinN n s.goA else if s.tB then joinN n s.goB else none
def Jo.run (s : Jo) : Option Jo := joinN (s.a.length + s.b.length) s
/-! the program's loop -/
inductive JR where
  | ok (s : Jo)
  | bad
structure Jo.Ok (s : Jo) : Prop where
  a : ∀ x ∈ s.a, x.val.length ≤ 256
  b : ∀ x ∈ s.b, x.val.length ≤ 256
  n : s.a.length + s.b.length + s.out.length ≤ 4096
  ta : s.ta.length ≤ s.out.length
  tb : s.tb.length ≤ s.out.length
/-! the document's loop -/
def kM (s : Jo) : List Blk := [rowR s.out, rowU s.ta, rowU s.tb]
def kT (b1 b2 : Bool) (s : Jo) : List AV := mkT 114 [(0, encRs b1 s.a), (1, encRs b2 s.b), (10, .own 0 5 0 s.out.length), (11, .own 1 1 0 s.ta.length), (12, .own 2 1 0 s.tb.length)]
def kS (b1 b2 : Bool) (r : JR) : Exit × List AV × List Blk := match r with
  | .ok s => (.exit 0, kT b1 b2 s, kM s)
  | .bad => (.ret, mkT 114 [(4, .s (.slice none 0 0)), (5, .s (.slice none 0 0)), (6, .s (.slice none 0 0)), (7, .s (.int .i64 145))], [])
def Jo.end (s : Jo) : Jo := ⟨s.a, s.b, s.out, s.ta ++ [s.at], s.tb ++ [s.at]⟩
end Go.Proofs.YtnbhdjadlbhknaaGreatDoor

/-! Records: the contracts of Join. -/
namespace Go.Proofs.YtnbhdjadlbhknaaGreatDoor
open Go.Ax
set_option maxRecDepth 1000000
end Go.Proofs.YtnbhdjadlbhknaaGreatDoor

/-! Records: the contracts of Join: the document's loop; both. -/
namespace Go.Proofs.YtnbhdjadlbhknaaGreatDoor
open Go.Ax
set_option maxRecDepth 1000000
end Go.Proofs.YtnbhdjadlbhknaaGreatDoor

/-! Records: names. -/
namespace Go.Proofs
open Go.Shelf
def Tryz.lays160_ren : Go.Shelf.Ren := ⟨fun | 160 => 133 | 232 => 151 | 231 => 150 | 227 => 152 | 234 => 154 | 233 => 153 | 236 => 156 | 235 => 155 | 228 => 161 | 271 => 164 | 151 => 163 | 197 => 162 | 120 => 171 | 152 => 170 | 260 => 169 | 137 => 181 | 119 => 182 | 224 => 183 | 225 => 184 | 217 => 189 | 266 => 192 | n => n, fun | 9 => 9 | 4 => 4 | 3 => 3 | 5 => 5 | 117 => 215 | 116 => 214 | 0 => 0 | 124 => 218 | 21 => 21 | 105 => 226 | 46 => 165 | 119 => 240 | 139 => 243 | 138 => 242 | n => n, fun | 3 => 1 | 4 => 2 | n => n⟩
theorem Tryz.lays160 : Go.Proofs.Lays.n160 Tryz.prog Tryz.lays160_ren := {
  mixed := by kernel_rfl
  f119 := Tryz.func182.trans (congrArg some (by kernel_rfl))
  f120 := Tryz.func171.trans (congrArg some (by kernel_rfl))
  f137 := Tryz.func181.trans (congrArg some (by kernel_rfl))
  f151 := Tryz.func163.trans (congrArg some (by kernel_rfl))
  f152 := Tryz.func170.trans (congrArg some (by kernel_rfl))
  f160 := Tryz.func133.trans (congrArg some (by kernel_rfl))
  f197 := Tryz.func162.trans (congrArg some (by kernel_rfl))
  f217 := Tryz.func189.trans (congrArg some (by kernel_rfl))
  f224 := Tryz.func183.trans (congrArg some (by kernel_rfl))
  f225 := Tryz.func184.trans (congrArg some (by kernel_rfl))
  f227 := Tryz.func152.trans (congrArg some (by kernel_rfl))
  f228 := Tryz.func161.trans (congrArg some (by kernel_rfl))
  f231 := Tryz.func150.trans (congrArg some (by kernel_rfl))
  f232 := Tryz.func151.trans (congrArg some (by kernel_rfl))
  f233 := Tryz.func153.trans (congrArg some (by kernel_rfl))
  f234 := Tryz.func154.trans (congrArg some (by kernel_rfl))
  f235 := Tryz.func155.trans (congrArg some (by kernel_rfl))
  f236 := Tryz.func156.trans (congrArg some (by kernel_rfl))
  f260 := Tryz.func169.trans (congrArg some (by kernel_rfl))
  f266 := Tryz.func192.trans (congrArg some (by kernel_rfl))
  f271 := Tryz.func164.trans (congrArg some (by kernel_rfl))
  t0 := Tryz.underlying0
  a0 := Tryz.isAgg0
  z0 := Tryz.sizeOf0
  v0 := Tryz.zeroValue0
  t3 := Tryz.underlying3
  a3 := Tryz.isAgg3
  z3 := Tryz.sizeOf3
  v3 := Tryz.zeroValue3
  t4 := Tryz.underlying4
  a4 := Tryz.isAgg4
  z4 := Tryz.sizeOf4
  v4 := Tryz.zeroValue4
  t5 := Tryz.underlying5
  a5 := Tryz.isAgg5
  z5 := Tryz.sizeOf5
  v5 := Tryz.zeroValue5
  t9 := Tryz.underlying9
  a9 := Tryz.isAgg9
  z9 := Tryz.sizeOf9
  v9 := Tryz.zeroValue9
  t21 := Tryz.underlying21
  a21 := Tryz.isAgg21
  z21 := Tryz.sizeOf21
  v21 := Tryz.zeroValue21
  t46 := Tryz.underlying165
  a46 := Tryz.isAgg165
  z46 := Tryz.sizeOf165
  v46 := Tryz.zeroValue165
  t105 := Tryz.underlying226
  a105 := Tryz.isAgg226
  z105 := Tryz.sizeOf226
  v105 := Tryz.zeroValue226
  t116 := Tryz.underlying214
  a116 := Tryz.isAgg214
  z116 := Tryz.sizeOf214
  t117 := Tryz.underlying215
  a117 := Tryz.isAgg215
  z117 := Tryz.sizeOf215
  v117 := Tryz.zeroValue215
  t119 := Tryz.underlying240
  a119 := Tryz.isAgg240
  z119 := Tryz.sizeOf240
  t124 := Tryz.underlying218
  a124 := Tryz.isAgg218
  z124 := Tryz.sizeOf218
  v124 := Tryz.zeroValue218
  t138 := Tryz.underlying242
  a138 := Tryz.isAgg242
  z138 := Tryz.sizeOf242
  v138 := Tryz.zeroValue242
  t139 := Tryz.underlying243
  a139 := Tryz.isAgg243
  z139 := Tryz.sizeOf243
  v139 := Tryz.zeroValue243
  g3 := by kernel_rfl
  g4 := by kernel_rfl }
end Go.Proofs
namespace Go.Proofs.YtnbhdjadlbhknaaGreatDoor
open Go.Ax
set_option maxRecDepth 1000000
def chars : List UInt8 := [97, 98, 99, 100, 101, 102, 103, 104, 105, 106, 107, 108, 109, 110, 111, 112, 113, 114, 115, 116, 117, 118, 119, 120, 121, 122, 48, 49, 50, 51, 52, 53, 54, 55, 56, 57, 45, 95, 46]
def isCh (b : UInt8) : Bool := chars.contains b
def nameOk (s : ByteArray) : Bool := !(s.data.toList == []) && (decide ((s.size : Int) ≤ 32) && s.data.toList.all isCh)
theorem drop_all {l : List UInt8} {p : UInt8 → Bool} : (l.dropWhile p == []) = l.all p := by
  induction l with
  | nil => rfl
  | cons a l ih =>
    rw [List.dropWhile_cons, List.all_cons]
    cases h : p a
    · simp
    · simpa using ih
theorem trim_all (l : List UInt8) : (Lib.trimS l chars == []) = l.all isCh := by
  unfold Lib.trimS Lib.trimLeftS Lib.trimRightS
  rw [drop_all]
  cases h : l.all isCh
  · rw [Bool.eq_false_iff]
    intro h2
    have h3 : ∀ m : List UInt8, (m.dropWhile isCh).all isCh = true → m.all isCh = true := by
      intro m
      induction m with
      | nil => exact fun _ => rfl
      | cons a m ih =>
        rw [List.dropWhile_cons]
        cases ha : isCh a
        · intro h; simp at h; simp [ha] at h
        · intro h; simp only [List.all_cons, ha, Bool.true_and]; exact ih h
    have h4 : (l.reverse.dropWhile isCh).all isCh = true := by
      rw [← List.all_reverse]; exact h2
    have h5 := h3 _ h4
    rw [List.all_reverse] at h5
    rw [h5] at h; cases h
  · rw [List.all_reverse]
    have : l.reverse.dropWhile isCh = [] := by
      have := drop_all (l := l.reverse) (p := isCh)
      rw [List.all_reverse, h] at this
      simpa using this
    have e : l.reverse.dropWhile (fun x => chars.contains x) = [] := this
    rw [e]; rfl
def trimR (s : ByteArray) : T An := .ret (.y (.string ⟨(Lib.trimS s.data.toList chars).toArray⟩), [], [])
theorem trim_c (s : ByteArray) (hs : s.size ≤ 9223372036854775807) : (trimR s).Sat (ACall' Tryz.prog 133 [.y (.string s), .s (.string ⟨chars.toArray⟩)] []) := by
  refine call_below fun w vals hv => ?_
  obtain ⟨H, E, v, l1, e1, hv1, v2, l2, e2, hv2, e3⟩ := hv
  have e3 : l2 = [] := e3
  subst e3
  subst e2
  obtain rfl := hv1.1
  obtain rfl := hv2.1
  have hvals : vals = #[.string s, .string ⟨chars.toArray⟩] := Array.ext' e1
  subst hvals
  refine (Any.strings_Trim_laid Tryz.lays160 (by kernel_rfl) s ⟨chars.toArray⟩ w hs (by decide) (Go.Proofs.ascii_of_all (by decide))).mono ?_
  rintro e w' ⟨rfl, hb⟩
  exact ⟨_, rfl, fun _ _ => ⟨rfl, rfl⟩, hb⟩
noncomputable def trimC (s : ByteArray) : Ctr Tryz.prog := ⟨133, [.y (.string s), .s (.string ⟨chars.toArray⟩)], [], .need (s.size ≤ 9223372036854775807) (trimR s), T.Sat.need fun h => trim_c s h⟩
noncomputable def nameH (s : ByteArray) : HintsT Tryz.prog := hh _ noLp (cs1 99 1 9 (trimC s) noCs) noOp
def vcName (s : ByteArray) : Prop :=
  ((!s.data.toList == []) = true → (decide ((↑(ByteArray.size s) : Int) ≤ (32 : Int)) = true → (s = s ∧ { data := #[(97 : UInt8), (98 : UInt8), (99 : UInt8), (100 : UInt8), (101 : UInt8), (102 : UInt8), (103 : UInt8), (104 : UInt8), (105 : UInt8), (106 : UInt8), (107 : UInt8), (108 : UInt8), (109 : UInt8), (110 : UInt8), (111 : UInt8), (112 : UInt8), (113 : UInt8), (114 : UInt8), (115 : UInt8), (116 : UInt8), (117 : UInt8), (118 : UInt8), (119 : UInt8), (120 : UInt8), (121 : UInt8), (122 : UInt8), (48 : UInt8), (49 : UInt8), (50 : UInt8), (51 : UInt8), (52 : UInt8), (53 : UInt8), (54 : UInt8), (55 : UInt8), (56 : UInt8), (57 : UInt8), (45 : UInt8), (95 : UInt8), (46 : UInt8)] : ByteArray } = { data := #[(97 : UInt8), (98 : UInt8), (99 : UInt8), (100 : UInt8), (101 : UInt8), (102 : UInt8), (103 : UInt8), (104 : UInt8), (105 : UInt8), (106 : UInt8), (107 : UInt8), (108 : UInt8), (109 : UInt8), (110 : UInt8), (111 : UInt8), (112 : UInt8), (113 : UInt8), (114 : UInt8), (115 : UInt8), (116 : UInt8), (117 : UInt8), (118 : UInt8), (119 : UInt8), (120 : UInt8), (121 : UInt8), (122 : UInt8), (48 : UInt8), (49 : UInt8), (50 : UInt8), (51 : UInt8), (52 : UInt8), (53 : UInt8), (54 : UInt8), (55 : UInt8), (56 : UInt8), (57 : UInt8), (45 : UInt8), (95 : UInt8), (46 : UInt8)] : ByteArray } ∧ True) ∧ True ∧ ByteArray.size s ≤ (9223372036854775807 : Nat) ∧ (Lib.trimS s.data.toList [(97 : UInt8), (98 : UInt8), (99 : UInt8), (100 : UInt8), (101 : UInt8), (102 : UInt8), (103 : UInt8), (104 : UInt8), (105 : UInt8), (106 : UInt8), (107 : UInt8), (108 : UInt8), (109 : UInt8), (110 : UInt8), (111 : UInt8), (112 : UInt8), (113 : UInt8), (114 : UInt8), (115 : UInt8), (116 : UInt8), (117 : UInt8), (118 : UInt8), (119 : UInt8), (120 : UInt8), (121 : UInt8), (122 : UInt8), (48 : UInt8), (49 : UInt8), (50 : UInt8), (51 : UInt8), (52 : UInt8), (53 : UInt8), (54 : UInt8), (55 : UInt8), (56 : UInt8), (57 : UInt8), (45 : UInt8), (95 : UInt8), (46 : UInt8)] == []) = nameOk s ∧ True) ∧ (decide ((↑(ByteArray.size s) : Int) ≤ (32 : Int)) = false → false = nameOk s ∧ True)) ∧ ((!s.data.toList == []) = false → false = nameOk s ∧ True)
set_option maxRecDepth 1000000 in
theorem vcName_eq (s : ByteArray) : (ctrVC Tryz.prog (nameH s) 99 [.y (.string s)] [] (boolR (nameOk s))) = vcName s := by kernel_rfl
/-! the document's -/
end Go.Proofs.YtnbhdjadlbhknaaGreatDoor

/-! Records: names: the contracts. -/
namespace Go.Proofs.YtnbhdjadlbhknaaGreatDoor
open Go.Ax
set_option maxRecDepth 1000000
theorem name_c (s : ByteArray) : (boolR (nameOk s)).Sat (ACall' Tryz.prog 99 [.y (.string s)] []) := by
  refine ctr_vc (ht := nameH s) Tryz.mixed rfl ?_
  rw [vcName_eq s]
  unfold vcName
  have e := trim_all s.data.toList
  unfold chars at e
  simp only [e, nameOk]
  generalize (s.data.toList == []) = a
  generalize hb : decide ((s.size : Int) ≤ 32) = b
  generalize s.data.toList.all isCh = c
  cases a <;> cases b <;> cases c <;> simp at hb ⊢ <;> omega
noncomputable def nameC (s : ByteArray) : Ctr Tryz.prog := ⟨99, [.y (.string s)], [], boolR (nameOk s), name_c s⟩
end Go.Proofs.YtnbhdjadlbhknaaGreatDoor

/-! Records: alike; grown; the law RecordsFull: the conditions. -/
namespace Go.Proofs.YtnbhdjadlbhknaaGreatDoor
open Go.Ax
set_option maxRecDepth 1000000
def smT (b1 b2 : Bool) (a : List Rec) (k : Nat) : List AV := mkT 82 [(0, encRs b1 a), (1, encRs b2 a), (5, .y (.int .i64 k))]
def smS (_ : Unit) : Exit × List AV × List Blk := (.exit 0, mkT 82 [], [])
def vcSameL (b1 : Bool) (b2 : Bool) (a : List Rec) (k : Nat) : Prop :=
  (decide ((↑k : Int) < (↑(List.length a) : Int)) = true →
      (true && decide ((↑k : Int) < (↑(List.length a) : Int))) = true ∧
        (true && decide ((↑k : Int) < (↑(List.length a) : Int))) = true ∧
          (((List.getD a (Int.toNat (↑k : Int)) (@default Rec instInhabitedRec)).off != (List.getD a (Int.toNat (↑k : Int)) (@default Rec instInhabitedRec)).off) = true → False) ∧
            (((List.getD a (Int.toNat (↑k : Int)) (@default Rec instInhabitedRec)).off != (List.getD a (Int.toNat (↑k : Int)) (@default Rec instInhabitedRec)).off) = false →
              (true && decide ((↑k : Int) < (↑(List.length a) : Int))) = true ∧
                (true && decide ((↑k : Int) < (↑(List.length a) : Int))) = true ∧
                  ((!(List.getD a (Int.toNat (↑k : Int)) (@default Rec instInhabitedRec)).key.data.toList == (List.getD a (Int.toNat (↑k : Int)) (@default Rec instInhabitedRec)).key.data.toList) = true → False) ∧
                    ((!(List.getD a (Int.toNat (↑k : Int)) (@default Rec instInhabitedRec)).key.data.toList == (List.getD a (Int.toNat (↑k : Int)) (@default Rec instInhabitedRec)).key.data.toList) = false →
                      (true && decide ((↑k : Int) < (↑(List.length a) : Int))) = true ∧
                        (∀ (k_1 : Nat), k_1 < List.length (List.getD a (Int.toNat (↑k : Int)) (@default Rec instInhabitedRec)).val → true = true) ∧
                          (true && decide ((↑k : Int) < (↑(List.length a) : Int))) = true ∧
                            (∀ (k_1 : Nat), k_1 < List.length (List.getD a (Int.toNat (↑k : Int)) (@default Rec instInhabitedRec)).val → true = true) ∧
                              ((!List.map
                                          (fun (a : AV) =>
                                            match
                                              match a with
                                              | AV.s (Value.int IntKind.u8 n) => some n
                                              | AV.y (Value.int IntKind.u8 n) => some n
                                              | x => none with
                                            | some n => UInt8.ofNat (Int.toNat n)
                                            | none => (0 : UInt8))
                                          (List.map (fun (k_1 : Nat) => AV.y (Value.int IntKind.u8 (List.getD (List.getD a (Int.toNat (↑k : Int)) (@default Rec instInhabitedRec)).val k_1 (0 : Int)))) (List.range (List.length (List.getD a (Int.toNat (↑k : Int)) (@default Rec instInhabitedRec)).val))) ==
                                        List.map
                                          (fun (a : AV) =>
                                            match
                                              match a with
                                              | AV.s (Value.int IntKind.u8 n) => some n
                                              | AV.y (Value.int IntKind.u8 n) => some n
                                              | x => none with
                                            | some n => UInt8.ofNat (Int.toNat n)
                                            | none => (0 : UInt8))
                                          (List.map (fun (k_1 : Nat) => AV.y (Value.int IntKind.u8 (List.getD (List.getD a (Int.toNat (↑k : Int)) (@default Rec instInhabitedRec)).val k_1 (0 : Int)))) (List.range (List.length (List.getD a (Int.toNat (↑k : Int)) (@default Rec instInhabitedRec)).val)))) =
                                    true →
                                  False) ∧
                                ((!List.map
                                          (fun (a : AV) =>
                                            match
                                              match a with
                                              | AV.s (Value.int IntKind.u8 n) => some n
                                              | AV.y (Value.int IntKind.u8 n) => some n
                                              | x => none with
                                            | some n => UInt8.ofNat (Int.toNat n)
                                            | none => (0 : UInt8))
                                          (List.map (fun (k_1 : Nat) => AV.y (Value.int IntKind.u8 (List.getD (List.getD a (Int.toNat (↑k : Int)) (@default Rec instInhabitedRec)).val k_1 (0 : Int)))) (List.range (List.length (List.getD a (Int.toNat (↑k : Int)) (@default Rec instInhabitedRec)).val))) ==
                                        List.map
                                          (fun (a : AV) =>
                                            match
                                              match a with
                                              | AV.s (Value.int IntKind.u8 n) => some n
                                              | AV.y (Value.int IntKind.u8 n) => some n
                                              | x => none with
                                            | some n => UInt8.ofNat (Int.toNat n)
                                            | none => (0 : UInt8))
                                          (List.map (fun (k_1 : Nat) => AV.y (Value.int IntKind.u8 (List.getD (List.getD a (Int.toNat (↑k : Int)) (@default Rec instInhabitedRec)).val k_1 (0 : Int)))) (List.range (List.length (List.getD a (Int.toNat (↑k : Int)) (@default Rec instInhabitedRec)).val)))) =
                                    false →
                                  (true && decide ((↑k : Int) < (↑(List.length a) : Int))) = true ∧ (true && decide ((↑k : Int) < (↑(List.length a) : Int))) = true ∧ (((List.getD a (Int.toNat (↑k : Int)) (@default Rec instInhabitedRec)).prod != (List.getD a (Int.toNat (↑k : Int)) (@default Rec instInhabitedRec)).prod) = true → False) ∧ (((List.getD a (Int.toNat (↑k : Int)) (@default Rec instInhabitedRec)).prod != (List.getD a (Int.toNat (↑k : Int)) (@default Rec instInhabitedRec)).prod) = false → (true && decide ((↑k : Int) < (↑(List.length a) : Int))) = true ∧ (true && decide ((↑k : Int) < (↑(List.length a) : Int))) = true ∧ (((List.getD a (Int.toNat (↑k : Int)) (@default Rec instInhabitedRec)).seq != (List.getD a (Int.toNat (↑k : Int)) (@default Rec instInhabitedRec)).seq) = true → False) ∧ (((List.getD a (Int.toNat (↑k : Int)) (@default Rec instInhabitedRec)).seq != (List.getD a (Int.toNat (↑k : Int)) (@default Rec instInhabitedRec)).seq) = false → ∃ (j : Nat), List.length a - j < List.length a - k ∧ (((b1 = b1 ∧ List.length a = List.length a ∧ contLe (List.length a) (5 : Nat) (cellsOf' encR a) (cellsOf' encR a)) ∧ (b2 = b2 ∧ List.length a = List.length a ∧ contLe (List.length a) (5 : Nat) (cellsOf' encR a) (cellsOf' encR a)) ∧ IntKind.wrap IntKind.i64 ((↑k : Int) + (1 : Int)) = (↑j : Int) ∧ True) ∧ True ∧ true = true) ∧ true = true ∧ () = ())))))) ∧
    (decide ((↑k : Int) < (↑(List.length a) : Int)) = false → True ∧ True ∧ true = true)
set_option maxRecDepth 1000000 in
theorem vcSameL_eq (b1 : Bool) (b2 : Bool) (a : List Rec) (k : Nat) : (loopVC Tryz.prog (hT _) 73 4 (fun k => a.length - k) (smT b1 b2 a) (fun _ => []) [0] (fun _ => .ret ()) smS k) = vcSameL b1 b2 a k := by kernel_rfl
noncomputable def smH (b1 b2 : Bool) (a : List Rec) : HintsT Tryz.prog := hh _ (lp1 73 4 (jobOf (smT b1 b2 a) (fun _ => []) [0] (fun _ => .ret ()) smS 0) noLp) noCs noOp
def vcSame (b1 : Bool) (b2 : Bool) (a : List Rec) : Prop :=
  (((↑(List.length a) : Int) != (↑(List.length a) : Int)) = true → false = true ∧ True) ∧ (((↑(List.length a) : Int) != (↑(List.length a) : Int)) = false → (((b1 = b1 ∧ List.length a = List.length a ∧ contLe (List.length a) (5 : Nat) (cellsOf' encR a) (cellsOf' encR a)) ∧ (b2 = b2 ∧ List.length a = List.length a ∧ contLe (List.length a) (5 : Nat) (cellsOf' encR a) (cellsOf' encR a)) ∧ (0 : Int) = (0 : Int) ∧ True) ∧ True ∧ true = true) ∧ LoopOk Tryz.prog (73 : Nat) (4 : Nat) (loopAt Tryz.prog (73 : Nat) (4 : Nat)) { t := smT b1 b2 a (0 : Nat), m := [], mv := [] : St } (T.map (lout [(0 : Nat)] smS) ((fun (x : Nat) => T.ret ()) (0 : Nat))) ∧ true = true ∧ True)
set_option maxRecDepth 1000000 in
theorem vcSame_eq (b1 : Bool) (b2 : Bool) (a : List Rec) : (ctrVC Tryz.prog (smH b1 b2 a) 73 [encRs b1 a, encRs b2 a] [] (boolR true)) = vcSame b1 b2 a := by kernel_rfl
def stT (b1 b2 : Bool) (a : List Int) (k : Nat) : List AV := mkT 26 [(0, encUs b1 a), (1, encUs b2 a), (5, .y (.int .i64 k))]
theorem same_loop (b1 b2 : Bool) (a : List Rec) (hl : a.length ≤ 9223372036854775806) (k : Nat) : LoopOk Tryz.prog 73 4 (loopAt Tryz.prog 73 4) ⟨smT b1 b2 a k, [], []⟩ (T.map (lout [0] smS) (.ret ())) := by
  refine loop_vc (o := fun _ => .ret ()) Tryz.mixed (fun _ => rfl) (fun k => (vcSameL_eq b1 b2 a k).mpr ?_) k
  unfold vcSameL
  simp
  intro h
  have hb : ∀ q : Nat, isU8 (cellsOf' encB (a[k]?.getD default).val q 0) = true := fun _ => rfl
  simp [h, hb]
  exact ⟨k + 1, by omega, by rw [wrap_i64 (by omega) (by omega)]; omega⟩
theorem same_c (b1 b2 : Bool) (a : List Rec) (hl : a.length ≤ 9223372036854775806) : (boolR true).Sat (ACall' Tryz.prog 73 [encRs b1 a, encRs b2 a] []) := by
  refine ctr_vc (ht := smH b1 b2 a) Tryz.mixed rfl ?_
  rw [vcSame_eq b1 b2 a]
  unfold vcSame
  simp [same_loop b1 b2 a hl 0]
noncomputable def sameC (b1 b2 : Bool) (a b : List Rec) : Ctr Tryz.prog := ⟨73, [encRs b1 a, encRs b2 b], [], .need (a.length ≤ 9223372036854775806 ∧ a = b) (boolR true), T.Sat.need fun h => by obtain ⟨h1, rfl⟩ := h; exact same_c b1 b2 a h1⟩
/-! grown out of nothing -/
def kB : ByteArray := ⟨#[107]⟩
end Go.Proofs.YtnbhdjadlbhknaaGreatDoor

/-! Records: the law RecordsFull. -/
namespace Go.Proofs.YtnbhdjadlbhknaaGreatDoor
open Go.Ax
set_option maxRecDepth 1000000
/-! numbers that do not go down -/
theorem tagR (x : Rec) (j : Nat) (hj : j < 5) : tagT (Ax.get (encR x) j) = true := by
  match j, hj with
  | 0, _ => rfl
  | 1, _ => rfl
  | 2, _ => rfl
  | 3, _ => rfl
  | 4, _ => rfl
end Go.Proofs.YtnbhdjadlbhknaaGreatDoor

/-! Records: what is kept of a log. -/
namespace Go.Proofs.YtnbhdjadlbhknaaGreatDoor
open Go.Ax
set_option maxRecDepth 1000000
noncomputable def hasC (r : Rng) (k : ByteArray) : Ctr Tryz.prog := ⟨115, [.agg (encG r), .y (.string k)], [], boolR (hasK r k), has_c r k⟩
structure Ke where
  (out : List Rec) (to : List Int)
def Ke.step (r : Rng) (s : Ke) (x : Rec) : Ke := ⟨if hasK r x.key then s.out ++ [x.to (IntKind.u64.wrap (s.out.length : Nat))] else s.out, s.to ++ [IntKind.u64.wrap (s.out.length : Nat)]⟩
def Ke.end (s : Ke) : Ke := ⟨s.out, s.to ++ [IntKind.u64.wrap (s.out.length : Nat)]⟩
end Go.Proofs.YtnbhdjadlbhknaaGreatDoor

/-! Records: the contracts of Keep. -/
namespace Go.Proofs.YtnbhdjadlbhknaaGreatDoor
open Go.Ax
set_option maxRecDepth 1000000
theorem log_val {l : List Rec} (h : isLog l = true) {k : Nat} (hk : k < l.length) : (l.getD k default).val.length ≤ 256 := by
  simp only [isLog, Bool.and_eq_true] at h
  have h1 := h.1
  unfold logFrom at h1
  rw [List.all_eq_true] at h1
  have h2 := h1 k (by simp; omega)
  simp only [okR, Bool.and_eq_true, decide_eq_true_eq] at h2
  exact h2.2.2
theorem log_len {l : List Rec} (h : isLog l = true) : l.length ≤ 4096 := by
  simp only [isLog, Bool.and_eq_true, decide_eq_true_eq] at h
  exact h.2
end Go.Proofs.YtnbhdjadlbhknaaGreatDoor

/-! Records: the law RecordsWhole. -/
namespace Go.Proofs.YtnbhdjadlbhknaaGreatDoor
open Go.Ax
set_option maxRecDepth 1000000
theorem take_one {l : List Rec} {k : Nat} (h : k < l.length) : l.take (k + 1) = l.take k ++ [l.getD k default] := by
  rw [List.take_add_one, List.getElem?_eq_getElem h]
  simp [List.getElem?_eq_getElem h]
/-! the contracts, by the case -/
end Go.Proofs.YtnbhdjadlbhknaaGreatDoor

/-! Records: consumers: the conditions. -/
namespace Go.Proofs.YtnbhdjadlbhknaaGreatDoor
open Go.Ax
set_option maxRecDepth 1000000
def coOk (l : List Con) (k : Nat) : Bool := nameOk (l.getD k default).name && !(decide (0 < k) && !lt (l.getD (k - 1) default).name (l.getD k default).name)
def coFrom (l : List Con) (k : Nat) : Bool := (List.range' k (l.length - k)).all fun j => coOk l j
theorem coFrom_end {l : List Con} {k : Nat} (h : l.length ≤ k) : coFrom l k = true := by
  unfold coFrom
  rw [show l.length - k = 0 by omega]; rfl
theorem coFrom_step {l : List Con} {k : Nat} (h : k < l.length) : coFrom l k = (coOk l k && coFrom l (k + 1)) := by
  unfold coFrom
  rw [show l.length - k = (l.length - (k + 1)) + 1 by omega, List.range'_succ]; rfl
def isCons (l : List Con) : Bool := coFrom l 0 && decide (l.length ≤ 64)
def coT (b : Bool) (l : List Con) (k : Nat) : List AV := mkT 35 [(0, encCs b l), (2, .s (.bool false)), (5, encCs b l), (6, .y (.int .i64 l.length)), (7, .y (.int .i64 k))]
def coS (b : Bool) (l : List Con) (r : Bool) : Exit × List AV × List Blk := match r with
  | true => (.exit 0, mkT 35 [(0, encCs b l)], [])
  | false => (.ret, mkT 35 [(2, .s (.bool false))], [])
def coO (l : List Con) (k : Nat) : T Bool := .ite (coFrom l k) (.ret true) (.ret false)
noncomputable def coHL (l : List Con) (k : Nat) : HintsT Tryz.prog := hh _ noLp (cs1 46 4 2 (nameC (l.getD k default).name) noCs) noOp
def vcCoL (b : Bool) (l : List Con) (k : Nat) : Prop :=
  (decide ((↑k : Int) < (↑(List.length l) : Int)) = true → (true && decide ((↑k : Int) < (↑(List.length l) : Int))) = true ∧ ((List.getD l (Int.toNat (↑k : Int)) (@default Con instInhabitedCon)).name = (List.getD l k (@default Con instInhabitedCon)).name ∧ True) ∧ True ∧ ((!nameOk (List.getD l k (@default Con instInhabitedCon)).name) = true → (coFrom l k = true → False) ∧ (coFrom l k = false → (false = false ∧ True) ∧ True ∧ true = true)) ∧ ((!nameOk (List.getD l k (@default Con instInhabitedCon)).name) = false → (decide ((0 : Int) < (↑k : Int)) = true → (decide ((0 : Int) ≤ IntKind.wrap IntKind.i64 ((↑k : Int) - (1 : Int))) && decide (IntKind.wrap IntKind.i64 ((↑k : Int) - (1 : Int)) < (↑(List.length l) : Int))) = true ∧ ((!Op.bytesLess (List.getD l (Int.toNat (IntKind.wrap IntKind.i64 ((↑k : Int) - (1 : Int)))) (@default Con instInhabitedCon)).name.data.toList (List.getD l (Int.toNat (↑k : Int)) (@default Con instInhabitedCon)).name.data.toList) = true → (coFrom l k = true → False) ∧ (coFrom l k = false → (false = false ∧ True) ∧ True ∧ true = true)) ∧ ((!Op.bytesLess (List.getD l (Int.toNat (IntKind.wrap IntKind.i64 ((↑k : Int) - (1 : Int)))) (@default Con instInhabitedCon)).name.data.toList (List.getD l (Int.toNat (↑k : Int)) (@default Con instInhabitedCon)).name.data.toList) = false → ∃ (j : Nat), List.length l - j < List.length l - k ∧ (((b = b ∧ List.length l = List.length l ∧ contLe (List.length l) (2 : Nat) (cellsOf' encC l) (cellsOf' encC l)) ∧ false = false ∧ (b = b ∧ List.length l = List.length l ∧ contLe (List.length l) (2 : Nat) (cellsOf' encC l) (cellsOf' encC l)) ∧ (↑(List.length l) : Int) = (↑(List.length l) : Int) ∧ IntKind.wrap IntKind.i64 ((↑k : Int) + (1 : Int)) = (↑j : Int) ∧ True) ∧ True ∧ true = true) ∧ true = true ∧ (coFrom l j = true → (coFrom l k = true → true = true) ∧ (coFrom l k = false → true = false)) ∧ (coFrom l j = false → (coFrom l k = true → false = true) ∧ (coFrom l k = false → false = false)))) ∧ (decide ((0 : Int) < (↑k : Int)) = false → ∃ (j : Nat), List.length l - j < List.length l - k ∧ (((b = b ∧ List.length l = List.length l ∧ contLe (List.length l) (2 : Nat) (cellsOf' encC l) (cellsOf' encC l)) ∧ false = false ∧ (b = b ∧ List.length l = List.length l ∧ contLe (List.length l) (2 : Nat) (cellsOf' encC l) (cellsOf' encC l)) ∧ (↑(List.length l) : Int) = (↑(List.length l) : Int) ∧ IntKind.wrap IntKind.i64 ((↑k : Int) + (1 : Int)) = (↑j : Int) ∧ True) ∧ True ∧ true = true) ∧ true = true ∧ (coFrom l j = true → (coFrom l k = true → true = true) ∧ (coFrom l k = false → true = false)) ∧ (coFrom l j = false → (coFrom l k = true → false = true) ∧ (coFrom l k = false → false = false))))) ∧ (decide ((↑k : Int) < (↑(List.length l) : Int)) = false → (coFrom l k = true → ((b = b ∧ List.length l = List.length l ∧ contLe (List.length l) (2 : Nat) (cellsOf' encC l) (cellsOf' encC l)) ∧ True) ∧ True ∧ true = true) ∧ (coFrom l k = false → False))
set_option maxRecDepth 1000000 in
theorem vcCoL_eq (b : Bool) (l : List Con) (k : Nat) : (loopVC Tryz.prog (coHL l k) 46 2 (fun k => l.length - k) (coT b l) (fun _ => []) [0] (coO l) (coS b l) k) = vcCoL b l k := by kernel_rfl
noncomputable def coH (b : Bool) (l : List Con) : HintsT Tryz.prog := hh _ (lp1 46 2 (jobOf (coT b l) (fun _ => []) [0] (coO l) (coS b l) 0) noLp) noCs noOp
def vcCo (b : Bool) (l : List Con) : Prop :=
  (((b = b ∧ List.length l = List.length l ∧ contLe (List.length l) (2 : Nat) (cellsOf' encC l) (cellsOf' encC l)) ∧ false = false ∧ (b = b ∧ List.length l = List.length l ∧ contLe (List.length l) (2 : Nat) (cellsOf' encC l) (cellsOf' encC l)) ∧ (↑(List.length l) : Int) = (↑(List.length l) : Int) ∧ (0 : Int) = (0 : Int) ∧ True) ∧ True ∧ true = true) ∧ LoopOk Tryz.prog (46 : Nat) (2 : Nat) (loopAt Tryz.prog (46 : Nat) (2 : Nat)) { t := coT b l (0 : Nat), m := [], mv := [] : St } (T.map (lout [(0 : Nat)] (coS b l)) (coO l (0 : Nat))) ∧ (coFrom l (0 : Nat) = true → decide ((↑(List.length l) : Int) ≤ (64 : Int)) = isCons l ∧ True) ∧ (coFrom l (0 : Nat) = false → false = isCons l ∧ True)
set_option maxRecDepth 1000000 in
theorem vcCo_eq (b : Bool) (l : List Con) : (ctrVC Tryz.prog (coH b l) 46 [encCs b l] [] (boolR (isCons l))) = vcCo b l := by kernel_rfl
/-! Read -/
def eqN (a b : ByteArray) : Bool := a.data.toList == b.data.toList
def findC (l : List Con) (s : ByteArray) : Option Con := l.find? fun x => eqN x.name s
def fnR (s : ByteArray) : AV := .fn (.func 140) [] [.ip false 1 (get [.y (.string s)])]
def rxT (b : Bool) (s : ByteArray) (l : List Con) (k : Nat) : List AV := mkT 19 [(0, encCs b l), (1, fnR s), (4, .s (.int .i64 0)), (7, .y (.int .i64 l.length)), (8, .y (.int .i64 k))]
def rxS (r : Bool × Nat) : Exit × List AV × List Blk := match r.1 with
  | true => (.ret, mkT 19 [(4, .y (.int .i64 r.2))], [])
  | false => (.exit 0, mkT 19 [], [])
def inC (l : List Con) (s : ByteArray) : Bool := l.any fun x => eqN x.name s
def rxO (l : List Con) (s : ByteArray) (k : Nat) : T (Bool × Nat) := .ite (inC (l.drop k) s) (.ret (true, k + (l.drop k).findIdx fun x => eqN x.name s)) (.ret (false, 0))
def vcRxL (b : Bool) (s : ByteArray) (l : List Con) (k : Nat) : Prop :=
  (decide ((↑k : Int) < (↑(List.length l) : Int)) = true → (true && decide ((↑k : Int) < (↑(List.length l) : Int))) = true ∧ (((List.getD l (Int.toNat (↑k : Int)) (@default Con instInhabitedCon)).name.data.toList == s.data.toList) = true → (inC (List.drop k l) s = true → ((↑k : Int) = (↑(k + List.findIdx (fun (x : Con) => eqN x.name s) (List.drop k l)) : Int) ∧ True) ∧ True ∧ true = true) ∧ (inC (List.drop k l) s = false → False)) ∧ (((List.getD l (Int.toNat (↑k : Int)) (@default Con instInhabitedCon)).name.data.toList == s.data.toList) = false → ∃ (j : Nat), List.length l - j < List.length l - k ∧ (((b = b ∧ List.length l = List.length l ∧ contLe (List.length l) (2 : Nat) (cellsOf' encC l) (cellsOf' encC l)) ∧ (True ∧ (false = false ∧ (1 : Nat) ≤ (1 : Nat) ∧ cellLe (1 : Nat) (Ax.get [AV.y (Value.string s)]) (Ax.get [AV.y (Value.string s)])) ∧ True) ∧ (0 : Int) = (0 : Int) ∧ (↑(List.length l) : Int) = (↑(List.length l) : Int) ∧ IntKind.wrap IntKind.i64 ((↑k : Int) + (1 : Int)) = (↑j : Int) ∧ True) ∧ True ∧ true = true) ∧ true = true ∧ (inC (List.drop j l) s = true → (inC (List.drop k l) s = true → (true, j + List.findIdx (fun (x : Con) => eqN x.name s) (List.drop j l)) = (true, k + List.findIdx (fun (x : Con) => eqN x.name s) (List.drop k l))) ∧ (inC (List.drop k l) s = false → (true, j + List.findIdx (fun (x : Con) => eqN x.name s) (List.drop j l)) = (false, (0 : Nat)))) ∧ (inC (List.drop j l) s = false → (inC (List.drop k l) s = true → (false, (0 : Nat)) = (true, k + List.findIdx (fun (x : Con) => eqN x.name s) (List.drop k l))) ∧ (inC (List.drop k l) s = false → (false, (0 : Nat)) = (false, (0 : Nat)))))) ∧ (decide ((↑k : Int) < (↑(List.length l) : Int)) = false → (inC (List.drop k l) s = true → False) ∧ (inC (List.drop k l) s = false → True ∧ True ∧ true = true))
set_option maxRecDepth 1000000 in
theorem vcRxL_eq (b : Bool) (s : ByteArray) (l : List Con) (k : Nat) : (loopVC Tryz.prog (hT _) 117 2 (fun k => l.length - k) (rxT b s l) (fun _ => []) [0] (rxO l s) rxS k) = vcRxL b s l k := by kernel_rfl
noncomputable def rxH (b : Bool) (s : ByteArray) (l : List Con) : HintsT Tryz.prog := hh _ (lp1 117 2 (jobOf (rxT b s l) (fun _ => []) [0] (rxO l s) rxS 0) noLp) noCs noOp
def readO (l : List Con) (s : ByteArray) : Int := ((findC l s).getD default).off
def rdR (l : List Con) (s : ByteArray) : T An := .ret (.tup [.y (.int .u64 (readO l s)), .y (.bool (inC l s))], [], [])
def vcRead (b : Bool) (s : ByteArray) (l : List Con) : Prop :=
  (((b = b ∧ List.length l = List.length l ∧ contLe (List.length l) (2 : Nat) (cellsOf' encC l) (cellsOf' encC l)) ∧ (True ∧ (false = false ∧ (1 : Nat) ≤ (1 : Nat) ∧ cellLe (1 : Nat) (fun (j : Nat) => Ax.get [AV.y (Value.string s)] ((0 : Nat) + j)) (Ax.get [AV.y (Value.string s)])) ∧ True) ∧ (0 : Int) = (0 : Int) ∧ (↑(List.length l) : Int) = (↑(List.length l) : Int) ∧ (0 : Int) = (0 : Int) ∧ True) ∧ True ∧ true = true) ∧ LoopOk Tryz.prog (117 : Nat) (2 : Nat) (loopAt Tryz.prog (117 : Nat) (2 : Nat)) { t := rxT b s l (0 : Nat), m := [], mv := [] : St } (T.map (lout [(0 : Nat)] rxS) (rxO l s (0 : Nat))) ∧ (inC (List.drop (0 : Nat) l) s = true → true = true ∧ True ∧ (false = true → ((0 : Int) = readO l s ∧ false = inC l s ∧ True) ∧ True) ∧ (false = false → (true && decide ((↑((0 : Nat) + List.findIdx (fun (x : Con) => eqN x.name s) (List.drop (0 : Nat) l)) : Int) < (↑(List.length l) : Int))) = true ∧ ((List.getD l (Int.toNat (↑((0 : Nat) + List.findIdx (fun (x : Con) => eqN x.name s) (List.drop (0 : Nat) l)) : Int)) (@default Con instInhabitedCon)).off = readO l s ∧ true = inC l s ∧ True) ∧ True)) ∧ (inC (List.drop (0 : Nat) l) s = false → true = true ∧ True ∧ ((0 : Int) = readO l s ∧ false = inC l s ∧ True) ∧ True)
set_option maxRecDepth 1000000 in
theorem vcRead_eq (b : Bool) (s : ByteArray) (l : List Con) : (ctrVC Tryz.prog (rxH b s l) 108 [encCs b l, .y (.string s)] [] (rdR l s)) = vcRead b s l := by kernel_rfl
/-! where one reads on who read on at an offset -/
def elemO (to : List Int) (o : Int) : Int := to.getD (min o (to.length - 1)).toNat 0
end Go.Proofs.YtnbhdjadlbhknaaGreatDoor

/-! Records: consumers: the contracts. -/
namespace Go.Proofs.YtnbhdjadlbhknaaGreatDoor
open Go.Ax
set_option maxRecDepth 1000000
theorem co_loop (b : Bool) (l : List Con) (hl : l.length ≤ 9223372036854775806) (k : Nat) : LoopOk Tryz.prog 46 2 (loopAt Tryz.prog 46 2) ⟨coT b l k, [], []⟩ ((coO l k).map (lout [0] (coS b l))) := by
  refine loop_vcH (ht := coHL l) Tryz.mixed (fun _ => rfl) (fun k => (vcCoL_eq b l k).mpr ?_) k
  unfold vcCoL
  simp
  refine ⟨fun h => ?_, fun h => by simp [coFrom_end h]⟩
  rw [coFrom_step h]
  have e1 : IntKind.i64.wrap ((k : Int) + 1) = ((k + 1 : Nat) : Int) := by rw [wrap_i64 (by omega) (by omega)]; omega
  rw [e1]
  rcases Nat.eq_zero_or_pos k with rfl | hk
  · simp [coOk]
    generalize l[0]?.getD default = x
    cases nameOk x.name <;> simp
    all_goals repeat' with_reducible apply And.intro
    all_goals first | omega | exact ⟨1, by omega, by simp, by grind⟩
  · have e2 : IntKind.i64.wrap ((k : Int) - 1) = ((k - 1 : Nat) : Int) := by rw [wrap_i64 (by omega) (by omega)]; omega
    rw [e2]
    simp [coOk, lt, hk]
    generalize l[k]?.getD default = x
    generalize l[k - 1]?.getD default = y
    generalize Op.bytesLess y.name.data.toList x.name.data.toList = q
    cases nameOk x.name <;> cases q <;> simp <;> (try omega)
    all_goals repeat' with_reducible apply And.intro
    all_goals first | omega | (intro h0; exact absurd h0 (by omega)) | exact ⟨k + 1, by omega, by simp, by grind⟩
theorem co_c (b : Bool) (l : List Con) (hl : l.length ≤ 9223372036854775806) : (boolR (isCons l)).Sat (ACall' Tryz.prog 46 [encCs b l] []) := by
  refine ctr_vc (ht := coH b l) Tryz.mixed rfl ?_
  rw [vcCo_eq b l]
  unfold vcCo
  have := co_loop b l hl 0
  simp [this, isCons]
  grind
theorem inC_nil (s : ByteArray) : inC [] s = false := rfl
theorem inC_cons (y : Con) (l : List Con) (s : ByteArray) : inC (y :: l) s = (eqN y.name s || inC l s) := rfl
theorem readO_cons (y : Con) (l : List Con) (s : ByteArray) : readO (y :: l) s = if eqN y.name s then y.off else readO l s := by
  unfold readO findC
  rw [List.find?_cons]
  split <;> simp_all
theorem rx_loop (b : Bool) (s : ByteArray) (l : List Con) (hl : l.length ≤ 9223372036854775806) (k : Nat) : LoopOk Tryz.prog 117 2 (loopAt Tryz.prog 117 2) ⟨rxT b s l k, [], []⟩ ((rxO l s k).map (lout [0] rxS)) := by
  refine loop_vc Tryz.mixed (fun _ => rfl) (fun k => (vcRxL_eq b s l k).mpr ?_) k
  unfold vcRxL
  simp
  refine ⟨fun h => ?_, fun h => by simp [drop_end h, inC_nil]⟩
  simp (disch := omega) only [wrap_i64]
  rw [drop_cons h]
  simp only [inC_cons, List.findIdx_cons]
  generalize l[k]?.getD default = y
  by_cases h1 : y.name.data = s.data
  · simp [eqN, h1, h]
  · simp [eqN, h1, h, cast_succ_eq]
    exact ⟨k + 1, by omega, rfl, by grind⟩
theorem at_find : ∀ (l : List Con) (s : ByteArray), inC l s = true → (l.findIdx fun x => eqN x.name s) < l.length ∧ (l.getD (l.findIdx fun x => eqN x.name s) default).off = readO l s
  | [], s, h => by simp [inC_nil] at h
  | y :: l, s, h => by
    rw [inC_cons] at h
    rw [readO_cons, List.findIdx_cons]
    cases hy : eqN y.name s
    · rw [hy, Bool.false_or] at h
      have := at_find l s h
      simpa using this
    · simp
theorem read_none : ∀ (l : List Con) (s : ByteArray), inC l s = false → readO l s = 0
  | [], s, _ => rfl
  | y :: l, s, h => by
    rw [inC_cons, Bool.or_eq_false_iff] at h
    rw [readO_cons, h.1]
    simpa using read_none l s h.2
theorem read_c (b : Bool) (s : ByteArray) (l : List Con) (hl : l.length ≤ 9223372036854775806) : (rdR l s).Sat (ACall' Tryz.prog 108 [encCs b l, .y (.string s)] []) := by
  refine ctr_vc (ht := rxH b s l) Tryz.mixed rfl ?_
  rw [vcRead_eq b s l]
  unfold vcRead
  have lp := rx_loop b s l hl 0
  cases hi : inC l s
  · have := read_none l s hi
    simp [lp, hi, this]
  · have := at_find l s hi
    simp [lp, hi, this.1] at this ⊢
    exact this
def offOk (o : Int) : Prop := 0 ≤ o ∧ o < 18446744073709551616
noncomputable def coC (b : Bool) (l : List Con) : Ctr Tryz.prog := ⟨46, [encCs b l], [], .need (l.length ≤ 9223372036854775806) (boolR (isCons l)), T.Sat.need fun h => co_c b l h⟩
noncomputable def rdC (b : Bool) (l : List Con) (s : ByteArray) : Ctr Tryz.prog := ⟨108, [encCs b l, .y (.string s)], [], .need (l.length ≤ 9223372036854775806) (rdR l s), T.Sat.need fun h => read_c b s l h⟩
end Go.Proofs.YtnbhdjadlbhknaaGreatDoor

/-! Records: slices.Clone, BinarySearchFunc of consumers. -/
namespace Go.Proofs.YtnbhdjadlbhknaaGreatDoor
open Go.Ax
set_option maxRecDepth 1000000
theorem less_trans : ∀ (a b c : List UInt8), Op.bytesLess a b = true → Op.bytesLess b c = true → Op.bytesLess a c = true
  | [], [], c, h, _ => by simp [Op.bytesLess] at h
  | [], _ :: _, [], _, h => by simp [Op.bytesLess] at h
  | [], _ :: _, _ :: _, _, _ => rfl
  | _ :: _, [], _, h, _ => by simp [Op.bytesLess] at h
  | _ :: _, _ :: _, [], _, h => by simp [Op.bytesLess] at h
  | a :: l, b :: m, c :: n, h1, h2 => by
    simp only [Op.bytesLess, Bool.or_eq_true, Bool.and_eq_true, decide_eq_true_eq, beq_iff_eq] at h1 h2 ⊢
    rcases h1 with h1 | ⟨rfl, h1⟩
    · rcases h2 with h2 | ⟨rfl, h2⟩
      · exact Or.inl (UInt8.lt_trans h1 h2)
      · exact Or.inl h1
    · rcases h2 with h2 | ⟨rfl, h2⟩
      · exact Or.inl h2
      · exact Or.inr ⟨rfl, less_trans l m n h1 h2⟩
theorem lt_trans' {a b c : ByteArray} (h1 : lt a b = true) (h2 : lt b c = true) : lt a c = true := less_trans _ _ _ h1 h2
/-- names rise -/
def risC (l : List Con) : Prop := ∀ i j, i < j → j < l.length → lt (l.getD i default).name (l.getD j default).name = true
def belC (l : List Con) (s : ByteArray) : Nat := (l.takeWhile (fun y => lt y.name s)).length
theorem belC_eq {l : List Con} {s : ByteArray} {i : Nat} (h : i ≤ l.length) (lo : ∀ k, k < i → lt (l.getD k default).name s = true) (hi : ∀ k, i ≤ k → k < l.length → lt (l.getD k default).name s = false) : belC l s = i := by
  unfold belC
  have e : l = l.take i ++ l.drop i := (List.take_append_drop i l).symm
  have h1 : ∀ a ∈ l.take i, lt a.name s = true := by
    intro a ha
    obtain ⟨k, hk, rfl⟩ := List.mem_iff_getElem.1 ha
    simp only [List.length_take] at hk
    have := lo k (by omega)
    have hkl : k < l.length := by omega
    simp [hkl] at this
    simpa using this
  have h2 : (l.drop i).takeWhile (fun y => lt y.name s) = [] := by
    cases hd : l.drop i with
    | nil => rfl
    | cons y r =>
      have hil : i < l.length := by
        have := congrArg List.length hd
        simp at this; omega
      have := hi i (Nat.le_refl _) hil
      rw [List.drop_eq_getElem_cons hil] at hd
      cases hd
      simp [hil] at this
      rw [List.takeWhile_cons_of_neg]
      simpa using this
  rw [e, List.takeWhile_append_of_pos h1, h2, List.append_nil, List.length_take]
  omega
theorem belC_le (l : List Con) (s : ByteArray) : belC l s ≤ l.length := (List.takeWhile_sublist _).length_le
theorem ris_lo {l : List Con} {s : ByteArray} (hr : risC l) {m k : Nat} (hm : m < l.length) (hk : k ≤ m) (h : lt (l.getD m default).name s = true) : lt (l.getD k default).name s = true := by
  rcases Nat.lt_or_ge k m with h1 | h1
  · exact lt_trans' (hr k m h1 hm) h
  · obtain rfl : k = m := by omega
    exact h
theorem ris_hi {l : List Con} {s : ByteArray} (hr : risC l) {m k : Nat} (hk : m ≤ k) (hl : k < l.length) (h : lt (l.getD m default).name s = false) : lt (l.getD k default).name s = false := by
  cases hc : lt (l.getD k default).name s
  · rfl
  · rw [ris_lo hr hl hk hc] at h; exact h
structure BS (l : List Con) (x : Con) where
  i : Nat
  j : Nat
  ij : i ≤ j
  jl : j ≤ l.length
  lo : ∀ k, k < i → lt (l.getD k default).name x.name = true
  hi : ∀ k, j ≤ k → k < l.length → lt (l.getD k default).name x.name = false
def BS.up {l : List Con} {x : Con} (hr : risC l) (q : BS l x) (m : Nat) (h2 : m < q.j) (hx : lt (l.getD m default).name x.name = true) : BS l x where
  i := m + 1
  j := q.j
  ij := by omega
  jl := q.jl
  lo := fun k hk => ris_lo hr (m := m) (by have := q.jl; omega) (by omega) hx
  hi := q.hi
def BS.down {l : List Con} {x : Con} (hr : risC l) (q : BS l x) (m : Nat) (h1 : q.i ≤ m) (h2 : m < q.j) (hx : lt (l.getD m default).name x.name = false) : BS l x where
  i := q.i
  j := m
  ij := h1
  jl := by have := q.jl; omega
  lo := q.lo
  hi := fun k hk hl => ris_hi hr hk hl hx
def BS.start (l : List Con) (x : Con) : BS l x := ⟨0, l.length, Nat.zero_le _, Nat.le_refl _, fun _ h => absurd h (Nat.not_lt_zero _), fun k h1 h2 => absurd h2 (by omega)⟩
def fnB : AV := .fn (.func 160) [] []
def cmpV (a b : ByteArray) : Int := if lt a b then -1 else if lt b a then 1 else 0
def vcBy (x : Con) (y : Con) : Prop :=
  ((!x.name.data.toList == x.name.data.toList) = true → ((!y.name.data.toList == y.name.data.toList) = true → (0 : Int) = cmpV x.name y.name ∧ True) ∧ ((!y.name.data.toList == y.name.data.toList) = false → (-1 : Int) = cmpV x.name y.name ∧ True)) ∧ ((!x.name.data.toList == x.name.data.toList) = false → ((!y.name.data.toList == y.name.data.toList) = true → (1 : Int) = cmpV x.name y.name ∧ True) ∧ ((!y.name.data.toList == y.name.data.toList) = false → (Op.bytesLess x.name.data.toList y.name.data.toList = true → (-1 : Int) = cmpV x.name y.name ∧ True) ∧ (Op.bytesLess x.name.data.toList y.name.data.toList = false → ((!(Op.bytesLess x.name.data.toList y.name.data.toList || x.name.data.toList == y.name.data.toList)) = true → (1 : Int) = cmpV x.name y.name ∧ True) ∧ ((!(Op.bytesLess x.name.data.toList y.name.data.toList || x.name.data.toList == y.name.data.toList)) = false → (0 : Int) = cmpV x.name y.name ∧ True))))
set_option maxRecDepth 1000000 in
theorem vcBy_eq (x : Con) (y : Con) : (ctrVC Tryz.prog (hT _) 160 [.agg (encC x), .agg (encC y)] [] (intR (cmpV x.name y.name))) = vcBy x y := by kernel_rfl
theorem by_c (x y : Con) : (intR (cmpV x.name y.name)).Sat (ACall' Tryz.prog 160 [.agg (encC x), .agg (encC y)] []) := by
  refine ctr_vc (ht := hT _) Tryz.mixed rfl ?_
  rw [vcBy_eq x y]
  unfold vcBy cmpV lt
  have h1 := less_asymm x.name.data.toList y.name.data.toList
  have h2 := less_total x.name.data.toList y.name.data.toList
  have h3 : Op.bytesLess y.name.data.toList x.name.data.toList = true → ¬ x.name.data = y.name.data := fun h e => by rw [e, less_irr] at h; simp at h
  generalize Op.bytesLess x.name.data.toList y.name.data.toList = p at *
  generalize Op.bytesLess y.name.data.toList x.name.data.toList = q at *
  cases p <;> cases q <;> simp at * <;> assumption
noncomputable def byC (x y : Con) : Ctr Tryz.prog := ⟨160, [.agg (encC x), .agg (encC y)], [], intR (cmpV x.name y.name), by_c x y⟩
def bsT (b : Bool) (l : List Con) (x : Con) (q : BS l x) : List AV := mkT 49 [(0, encCs b l), (2, fnB), (4, .ptr 0 0 0 0), (6, .s (.int .i64 0)), (7, .s (.bool false)), (8, .y (.int .i64 l.length)), (9, .y (.int .i64 q.i)), (10, .y (.int .i64 q.j))]
def bsM (x : Con) : List Blk := [.box 83 (encC x)]
def bsS (b : Bool) (l : List Con) (x : Con) (_ : Unit) : Exit × List AV × List Blk := (.exit 0, mkT 49 [(0, encCs b l), (2, fnB), (4, .ptr 0 0 0 0), (8, .y (.int .i64 l.length)), (9, .y (.int .i64 (belC l x.name)))], bsM x)
noncomputable def bsHL (l : List Con) (x : Con) (q : BS l x) : HintsT Tryz.prog := hh _ noLp (cs1 166 5 6 (byC (l.getD ((q.i + q.j) / 2) default) x) noCs) noOp
def vcBsL (b : Bool) (l : List Con) (x : Con) (q : BS l x) : Prop :=
  (decide ((↑q.i : Int) < (↑q.j : Int)) = true → (decide ((0 : Int) ≤ IntKind.wrap IntKind.i64 (IntKind.wrap IntKind.u64 (IntKind.wrap IntKind.i64 ((↑q.i : Int) + (↑q.j : Int))) / (2 : Int))) && decide (IntKind.wrap IntKind.i64 (IntKind.wrap IntKind.u64 (IntKind.wrap IntKind.i64 ((↑q.i : Int) + (↑q.j : Int))) / (2 : Int)) < (↑(List.length l) : Int))) = true ∧ (((List.getD l (Int.toNat (IntKind.wrap IntKind.i64 (IntKind.wrap IntKind.u64 (IntKind.wrap IntKind.i64 ((↑q.i : Int) + (↑q.j : Int))) / (2 : Int)))) (@default Con instInhabitedCon)).name = (List.getD l ((q.i + q.j) / (2 : Nat)) (@default Con instInhabitedCon)).name ∧ (List.getD l (Int.toNat (IntKind.wrap IntKind.i64 (IntKind.wrap IntKind.u64 (IntKind.wrap IntKind.i64 ((↑q.i : Int) + (↑q.j : Int))) / (2 : Int)))) (@default Con instInhabitedCon)).off = (List.getD l ((q.i + q.j) / (2 : Nat)) (@default Con instInhabitedCon)).off ∧ True) ∧ (x.name = x.name ∧ x.off = x.off ∧ True) ∧ True) ∧ True ∧ (decide (cmpV (List.getD l ((q.i + q.j) / (2 : Nat)) (@default Con instInhabitedCon)).name x.name < (0 : Int)) = true → ∃ (j : BS l x), j.j - j.i < q.j - q.i ∧ (((b = b ∧ List.length l = List.length l ∧ contLe (List.length l) (2 : Nat) (cellsOf' encC l) (cellsOf' encC l)) ∧ (True ∧ True) ∧ ((0 : Nat) = (0 : Nat) ∧ (0 : Nat) = (0 : Nat)) ∧ (0 : Int) = (0 : Int) ∧ false = false ∧ (↑(List.length l) : Int) = (↑(List.length l) : Int) ∧ IntKind.wrap IntKind.i64 (IntKind.wrap IntKind.i64 (IntKind.wrap IntKind.u64 (IntKind.wrap IntKind.i64 ((↑q.i : Int) + (↑q.j : Int))) / (2 : Int)) + (1 : Int)) = (↑j.i : Int) ∧ (↑q.j : Int) = (↑j.j : Int) ∧ True) ∧ ((x.name = x.name ∧ x.off = x.off ∧ True) ∧ True) ∧ true = true) ∧ true = true ∧ () = ()) ∧ (decide (cmpV (List.getD l ((q.i + q.j) / (2 : Nat)) (@default Con instInhabitedCon)).name x.name < (0 : Int)) = false → ∃ (j : BS l x), j.j - j.i < q.j - q.i ∧ (((b = b ∧ List.length l = List.length l ∧ contLe (List.length l) (2 : Nat) (cellsOf' encC l) (cellsOf' encC l)) ∧ (True ∧ True) ∧ ((0 : Nat) = (0 : Nat) ∧ (0 : Nat) = (0 : Nat)) ∧ (0 : Int) = (0 : Int) ∧ false = false ∧ (↑(List.length l) : Int) = (↑(List.length l) : Int) ∧ (↑q.i : Int) = (↑j.i : Int) ∧ IntKind.wrap IntKind.i64 (IntKind.wrap IntKind.u64 (IntKind.wrap IntKind.i64 ((↑q.i : Int) + (↑q.j : Int))) / (2 : Int)) = (↑j.j : Int) ∧ True) ∧ ((x.name = x.name ∧ x.off = x.off ∧ True) ∧ True) ∧ true = true) ∧ true = true ∧ () = ())) ∧ (decide ((↑q.i : Int) < (↑q.j : Int)) = false → ((b = b ∧ List.length l = List.length l ∧ contLe (List.length l) (2 : Nat) (cellsOf' encC l) (cellsOf' encC l)) ∧ (True ∧ True) ∧ ((0 : Nat) = (0 : Nat) ∧ (0 : Nat) = (0 : Nat)) ∧ (↑(List.length l) : Int) = (↑(List.length l) : Int) ∧ (↑q.i : Int) = (↑(belC l x.name) : Int) ∧ True) ∧ ((x.name = x.name ∧ x.off = x.off ∧ True) ∧ True) ∧ true = true)
set_option maxRecDepth 1000000 in
theorem vcBsL_eq (b : Bool) (l : List Con) (x : Con) (q : BS l x) : (loopVC Tryz.prog (bsHL l x q) 166 3 (fun q : BS l x => q.j - q.i) (bsT b l x) (fun _ => bsM x) [1, 2, 3, 4] (fun _ => .ret ()) (bsS b l x) q) = vcBsL b l x q := by kernel_rfl
noncomputable def bsH (b : Bool) (l : List Con) (x : Con) : HintsT Tryz.prog := hh _ (lp1 166 3 (jobOf (bsT b l x) (fun _ => bsM x) [1, 2, 3, 4] (fun _ => .ret ()) (bsS b l x) (BS.start l x)) noLp) (cs1 166 8 11 (byC (l.getD (belC l x.name) default) x) noCs) noOp
def bsF (l : List Con) (x : Con) : Bool := decide (belC l x.name < l.length) && (cmpV (l.getD (belC l x.name) default).name x.name == 0)
def bsR (l : List Con) (x : Con) : T An := .ret (.tup [.y (.int .i64 (belC l x.name)), .y (.bool (bsF l x))], [], [])
def vcBs (b : Bool) (l : List Con) (x : Con) : Prop :=
  (((b = b ∧ List.length l = List.length l ∧ contLe (List.length l) (2 : Nat) (cellsOf' encC l) (cellsOf' encC l)) ∧ (True ∧ True) ∧ ((0 : Nat) = (0 : Nat) ∧ (0 : Nat) = (0 : Nat)) ∧ (0 : Int) = (0 : Int) ∧ false = false ∧ (↑(List.length l) : Int) = (↑(List.length l) : Int) ∧ (0 : Int) = (0 : Int) ∧ (↑(List.length l) : Int) = (↑(List.length l) : Int) ∧ True) ∧ ((x.name = x.name ∧ x.off = x.off ∧ True) ∧ True) ∧ true = true) ∧ LoopOk Tryz.prog (166 : Nat) (3 : Nat) (loopAt Tryz.prog (166 : Nat) (3 : Nat)) { t := bsT b l x (BS.start l x), m := bsM x, mv := [] : St } (T.map (lout [(1 : Nat), (2 : Nat), (3 : Nat), (4 : Nat)] (bsS b l x)) ((fun (x : BS l x) => T.ret ()) (BS.start l x))) ∧ (decide ((↑(belC l x.name) : Int) < (↑(List.length l) : Int)) = true → (true && decide ((↑(belC l x.name) : Int) < (↑(List.length l) : Int))) = true ∧ (((List.getD l (Int.toNat (↑(belC l x.name) : Int)) (@default Con instInhabitedCon)).name = (List.getD l (belC l x.name) (@default Con instInhabitedCon)).name ∧ (List.getD l (Int.toNat (↑(belC l x.name) : Int)) (@default Con instInhabitedCon)).off = (List.getD l (belC l x.name) (@default Con instInhabitedCon)).off ∧ True) ∧ (x.name = x.name ∧ x.off = x.off ∧ True) ∧ True) ∧ True ∧ ((↑(belC l x.name) : Int) = (↑(belC l x.name) : Int) ∧ (cmpV (List.getD l (belC l x.name) (@default Con instInhabitedCon)).name x.name == (0 : Int)) = bsF l x ∧ True) ∧ True) ∧ (decide ((↑(belC l x.name) : Int) < (↑(List.length l) : Int)) = false → ((↑(belC l x.name) : Int) = (↑(belC l x.name) : Int) ∧ false = bsF l x ∧ True) ∧ True)
set_option maxRecDepth 1000000 in
theorem vcBs_eq (b : Bool) (l : List Con) (x : Con) : (ctrVC Tryz.prog (bsH b l x) 166 [encCs b l, .agg (encC x), fnB] [] (bsR l x)) = vcBs b l x := by kernel_rfl
/-! slices.Clone -/
def ccR (l : List Con) : T An := .ret (.own 0 2 0 l.length, [rowC l], [])
noncomputable def ccH : HintsT Tryz.prog := hh _ noLp noCs (op1 102 2 0 (.row 83 2) noOp)
def vcCc0 (l : List Con) : Prop :=
  ((0 : Nat) = (0 : Nat) ∧ (0 : Nat) = List.length l) ∧ ((0 : Nat) = List.length l ∧ contLe (0 : Nat) (2 : Nat) (fun (x x_1 : Nat) => AV.junk) (cellsOf' encC l)) ∧ True
set_option maxRecDepth 1000000 in
theorem vcCc0_eq (l : List Con) : (ctrVC Tryz.prog ccH 102 [.s (.slice none 0 0)] [] (ccR l)) = vcCc0 l := by kernel_rfl
def vcCc1 (b : Bool) (l : List Con) : Prop :=
  (decide ((0 : Nat) + List.length l ≤ (9223372036854775807 : Nat)) && decide (((0 : Nat) + List.length l) * (24 : Nat) ≤ (140737488355328 : Nat))) = true ∧ ((0 : Nat) = (0 : Nat) ∧ (0 : Nat) + List.length l = List.length l) ∧ ((0 : Nat) + List.length l = List.length l ∧ contLe ((0 : Nat) + List.length l) (2 : Nat) (appRow (0 : Nat) (fun (k j : Nat) => AV.junk) (cellsOf' encC l)) (cellsOf' encC l)) ∧ True
set_option maxRecDepth 1000000 in
theorem vcCc1_eq (b : Bool) (l : List Con) : (ctrVC Tryz.prog ccH 102 [.yn b 2 l.length (cellsOf' encC l)] [] (ccR l)) = vcCc1 b l := by kernel_rfl
theorem cc_c (b : Bool) (l : List Con) (hl : l.length * 24 ≤ 140737488355328) : (ccR l).Sat (ACall' Tryz.prog 102 [encCs b l] []) := by
  refine nil_cases (pre := []) (post := []) (fun h0 => ?_) ?_ ⟨_, rfl⟩
  · refine ctr_vc (ht := ccH) Tryz.mixed rfl ?_
    rw [List.nil_append, vcCc0_eq l]
    unfold vcCc0
    simp [h0]
  · refine ctr_vc (ht := ccH) Tryz.mixed rfl ?_
    rw [List.nil_append, vcCc1_eq b l]
    unfold vcCc1
    simp
    omega
noncomputable def ccC (b : Bool) (l : List Con) (hl : l.length * 24 ≤ 140737488355328) : Ctr Tryz.prog := ⟨102, [encCs b l], [], ccR l, cc_c b l hl⟩
theorem cmp_le {a b : ByteArray} (h : lt a b = false) : (decide (cmpV a b < 0)) = false := by
  unfold cmpV; rw [h]; simp; split <;> omega
theorem cmp_lt {a b : ByteArray} (h : lt a b = true) : (decide (cmpV a b < 0)) = true := by
  unfold cmpV; rw [h]; rfl
theorem bs_loop (b : Bool) (l : List Con) (x : Con) (hl : l.length ≤ 4611686018427387900) (hr : risC l) (q : BS l x) : LoopOk Tryz.prog 166 3 (loopAt Tryz.prog 166 3) ⟨bsT b l x q, bsM x, []⟩ (T.map (lout [1, 2, 3, 4] (bsS b l x)) (.ret ())) := by
  refine loop_vcH (ht := bsHL l x) (o := fun _ => .ret ()) Tryz.mixed (fun _ => rfl) (fun q => (vcBsL_eq b l x q).mpr ?_) q
  unfold vcBsL
  have h1 := q.ij
  have h2 := q.jl
  obtain ⟨m, hm⟩ : ∃ m, m = (q.i + q.j) / 2 := ⟨_, rfl⟩
  have hw : IntKind.i64.wrap (IntKind.u64.wrap (IntKind.i64.wrap (↑q.i + ↑q.j)) / 2) = (m : Int) := by
    rw [wrap_i64 (n := ↑q.i + ↑q.j) (by omega) (by omega), wrap_u64 (by omega) (by omega), wrap_i64 (by omega) (by omega)]; omega
  rw [← hm]
  simp [hw]
  refine ⟨fun h => ⟨by omega, fun hx => ?_, fun hx => ?_⟩, fun h => ?_⟩
  · have hc : lt (l.getD m default).name x.name = true := by
      cases hc : lt (l.getD m default).name x.name
      · have := of_decide_eq_false (cmp_le hc); simp at this; omega
      · rfl
    refine ⟨q.up hr m (by omega) hc, ?_, ?_, rfl⟩
    · show q.j - (m + 1) < q.j - q.i; omega
    · show IntKind.i64.wrap (m + 1) = ((m + 1 : Nat) : Int)
      rw [wrap_i64 (by omega) (by omega)]; omega
  · have hc : lt (l.getD m default).name x.name = false := by
      cases hc : lt (l.getD m default).name x.name
      · rfl
      · have := of_decide_eq_true (cmp_lt hc); simp at this; omega
    refine ⟨q.down hr m (by omega) (by omega) hc, ?_, rfl, rfl⟩
    show m - q.i < q.j - q.i; omega
  · have := belC_eq (i := q.i) (by omega) q.lo fun k hk hl => q.hi k (by omega) hl
    omega
theorem bs_c (b : Bool) (l : List Con) (x : Con) (hl : l.length ≤ 4611686018427387900) (hr : risC l) : (bsR l x).Sat (ACall' Tryz.prog 166 [encCs b l, .agg (encC x), fnB] []) := by
  refine ctr_vc (ht := bsH b l x) Tryz.mixed rfl ?_
  rw [vcBs_eq b l x]
  unfold vcBs
  have := bs_loop b l x hl hr (BS.start l x)
  simp [bsF, this]
  grind
noncomputable def bsC (b : Bool) (l : List Con) (x : Con) (hl : l.length ≤ 4611686018427387900) (hr : risC l) : Ctr Tryz.prog := ⟨166, [encCs b l, .agg (encC x), fnB], [], bsR l x, bs_c b l x hl hr⟩
end Go.Proofs.YtnbhdjadlbhknaaGreatDoor

/-! Records: put, the program's and the document's: the conditions. -/
namespace Go.Proofs.YtnbhdjadlbhknaaGreatDoor
open Go.Ax
set_option maxRecDepth 1000000
def putL (l : List Con) (x : Con) : List Con := if bsF l x then l.set (belC l x.name) x else l.take (belC l x.name) ++ x :: l.drop (belC l x.name)
def rho : Go.Shelf.Ren := ⟨fun f => match f with | 22 => 167 | 29 => 178 | 30 => 179 | x => x, fun t => match t with | 24 => 28 | 9 => 83 | x => x, fun x => x⟩
theorem lay : InsLay Tryz.prog rho 2 24 ((Tryz.prog.info? 83).bind (·.zero) |>.getD undef) "slices.Insert[[]gazette/api.Consumer,gazette/api.Consumer]" where
  mixed := by kernel_rfl
  f22 := by kernel_rfl
  ov := fun w args => by
    rw [show rho.f 29 = 178 from rfl, run_callFunc_extern (P := Tryz.prog) (f := 178) (fn := Tryz.f178) Tryz.func178 (by kernel_rfl) (by kernel_rfl) (by kernel_rfl) (e := Extern.SlicesOverlaps.overlaps #[28, 28] #[4]) (by kernel_rfl)]
    rfl
  t0 := by kernel_rfl
  a0 := fun w => by kernel_rfl
  z0 := fun w => by kernel_rfl
  v0 := fun w => by kernel_rfl
  t3 := by kernel_rfl
  a3 := fun w => by kernel_rfl
  z3 := fun w => by kernel_rfl
  v3 := fun w => by kernel_rfl
  t4 := by kernel_rfl
  a4 := fun w => by kernel_rfl
  z4 := fun w => by kernel_rfl
  v4 := fun w => by kernel_rfl
  t24 := by kernel_rfl
  a24 := fun w => by kernel_rfl
  z24 := fun w => by kernel_rfl
  v24 := fun w => by kernel_rfl
  z9 := fun w => by kernel_rfl
  i9s := by kernel_rfl
  i9 := by kernel_rfl
  pos := by decide
  zc := by kernel_rfl
noncomputable def putH (b : Bool) (l : List Con) (x : Con) (hl : l.length * 24 ≤ 140737488355200) (hr : risC l) : HintsT Tryz.prog :=
  withIns (withSub (hh _ noLp (cs1 159 1 3 (bsC b l x (by omega) hr) (cs1 159 2 1 (ccC b l (by omega)) noCs)) noOp) [167]) lay
def conR (l : List Con) : T An := .ret (.own 0 2 0 l.length, [rowC l], [])
def vcPut (b : Bool) (l : List Con) (x : Con) (hl : l.length * 24 ≤ 140737488355200) (hr : risC l) : Prop :=
  ((b = b ∧ List.length l = List.length l ∧ contLe (List.length l) (2 : Nat) (cellsOf' encC l) (cellsOf' encC l)) ∧ (x.name = x.name ∧ x.off = x.off ∧ True) ∧ (True ∧ True) ∧ True) ∧ True ∧ ((b = b ∧ List.length l = List.length l ∧ contLe (List.length l) (2 : Nat) (cellsOf' encC l) (cellsOf' encC l)) ∧ True) ∧ True ∧ (bsF l x = true → (true && decide ((↑(belC l x.name) : Int) < (↑(List.length l) : Int))) = true ∧ decide ((0 : Nat) + Int.toNat (↑(belC l x.name) : Int) < List.length l) = true ∧ ((0 : Nat) = (0 : Nat) ∧ List.length l = List.length (putL l x)) ∧ (List.length l = List.length (putL l x) ∧ contLe (List.length l) (2 : Nat) (wrRow (cellsOf' encC l) ((0 : Nat) + Int.toNat (↑(belC l x.name) : Int)) (0 : Nat) [AV.y (Value.string x.name), AV.y (Value.int IntKind.u64 x.off)]) (cellsOf' encC (putL l x))) ∧ True) ∧ (bsF l x = false → (List.length l = List.length l ∧ (0 : Int) ≤ (↑(belC l x.name) : Int) ∧ (↑(belC l x.name) : Int) ≤ (↑(List.length l) : Int) ∧ List.length l + (1 : Nat) ≤ (9223372036854775807 : Nat) ∧ (List.length l + (1 : Nat)) * (24 : Nat) ≤ (140737488355328 : Nat)) ∧ ((0 : Nat) = (0 : Nat) ∧ List.length l + (1 : Nat) = List.length (putL l x)) ∧ (List.length l + (1 : Nat) = List.length (putL l x) ∧ contLe (List.length l + (1 : Nat)) (2 : Nat) (insRow (Int.toNat (↑(belC l x.name) : Int)) (1 : Nat) (cellsOf' encC l) fun (k j : Nat) => Ax.get [AV.y (Value.string x.name), AV.y (Value.int IntKind.u64 x.off)] (k * (2 : Nat) + j)) (cellsOf' encC (putL l x))) ∧ True)
set_option maxRecDepth 1000000 in
theorem vcPut_eq (b : Bool) (l : List Con) (x : Con) (hl : l.length * 24 ≤ 140737488355200) (hr : risC l) : (ctrVC Tryz.prog (putH b l x hl hr) 159 [encCs b l, .agg (encC x), fnB] [] (conR (putL l x))) = vcPut b l x hl hr := by kernel_rfl
/-! the document's put -/
def stp (x : Con) (s : Bool × List Con) (y : Con) : Bool × List Con :=
  let s1 := if (!lt y.name x.name && !s.1) = true then (true, s.2 ++ [x]) else s
  if y.name.data = x.name.data then s1 else (s1.1, s1.2 ++ [y])
/-! alike -/
end Go.Proofs.YtnbhdjadlbhknaaGreatDoor

/-! Records: put, the program's and the document's: the contracts; the same on rising names. -/
namespace Go.Proofs.YtnbhdjadlbhknaaGreatDoor
open Go.Ax
set_option maxRecDepth 1000000
theorem enc_le (x : Con) : ∀ j, j < 2 → le0 (Ax.get [.y (.string x.name), .y (.int .u64 x.off)] j) (Ax.get (encC x) j) := fun j hj => by
  match j, hj with
  | 0, _ => simp [encC]
  | 1, _ => simp [encC]
theorem put_c (b : Bool) (l : List Con) (x : Con) (hl : l.length * 24 ≤ 140737488355200) (hr : risC l) : (conR (putL l x)).Sat (ACall' Tryz.prog 159 [encCs b l, .agg (encC x), fnB] []) := by
  refine ctr_vc (ht := putH b l x hl hr) Tryz.mixed rfl ?_
  rw [vcPut_eq b l x hl hr]
  unfold vcPut
  have h2 := belC_le l x.name
  cases hf : bsF l x
  · have e : putL l x = l.take (belC l x.name) ++ x :: l.drop (belC l x.name) := by unfold putL; rw [hf]; rfl
    have hn : (putL l x).length = l.length + 1 := by rw [e]; simp; omega
    simp [hn]
    refine ⟨⟨h2, by omega, by omega⟩, ?_⟩
    rw [e]
    exact ins_le rfl h2 fun j hj => by rw [Nat.zero_mul, Nat.zero_add]; exact enc_le x j hj
  · have e : putL l x = l.set (belC l x.name) x := by unfold putL; rw [hf]; rfl
    have hn : (putL l x).length = l.length := by rw [e]; simp
    have h3 : belC l x.name < l.length := by
      unfold bsF at hf
      rw [Bool.and_eq_true] at hf
      exact of_decide_eq_true hf.1
    simp [hn, h3]
    rw [e]
    exact wr_le rfl h3 rfl (enc_le x)
noncomputable def putC (b : Bool) (l : List Con) (x : Con) : Ctr Tryz.prog := ⟨159, [encCs b l, .agg (encC x), fnB], [], .need (l.length * 24 ≤ 140737488355200 ∧ risC l) (conR (putL l x)), T.Sat.need fun h => put_c b l x h.1 h.2⟩
/-! alike -/
/-! the document's put -/
/-! they are the same -/
theorem putL_cons (y : Con) (t : List Con) (x : Con) : putL (y :: t) x = if lt y.name x.name then y :: putL t x else if y.name.data = x.name.data then x :: t else x :: y :: t := by
  cases h : lt y.name x.name
  · have hb : belC (y :: t) x.name = 0 := by unfold belC; rw [List.takeWhile_cons_of_neg (by simp [h])]; rfl
    by_cases h2 : y.name.data = x.name.data
    · have hc : cmpV y.name x.name = 0 := by
        unfold cmpV lt
        rw [h2, less_irr]; rfl
      simp [putL, bsF, hb, h2, hc]
    · have hc : ¬ cmpV y.name x.name = 0 := by
        unfold cmpV
        rw [h]
        cases h3 : lt x.name y.name
        · exact absurd (Array.toList_inj.1 (less_total _ _ h h3)) h2
        · simp
      simp [putL, bsF, hb, h2, hc]
  · have hb : belC (y :: t) x.name = belC t x.name + 1 := by unfold belC; rw [List.takeWhile_cons_of_pos (by simp [h])]; rfl
    have hf : bsF (y :: t) x = bsF t x := by
      unfold bsF
      rw [hb]; simp
    unfold putL
    rw [hf, hb]
    cases bsF t x <;> simp
def oth (l : List Con) (x : Con) : List Con := l.filter fun y => decide (¬ y.name.data = x.name.data)
theorem oth_cons (y : Con) (t : List Con) (x : Con) : oth (y :: t) x = if y.name.data = x.name.data then oth t x else y :: oth t x := by
  unfold oth
  by_cases h : y.name.data = x.name.data <;> simp [h]
theorem risC_pw (r : List Con) : risC r ↔ r.Pairwise (fun a b => lt a.name b.name = true) := by
  rw [List.pairwise_iff_getElem]
  constructor
  · intro h i j hi hj hij
    have := h i j hij hj
    simpa [hi, hj] using this
  · intro h i j hij hj
    have := h i j (by omega) hj hij
    simpa [show i < r.length by omega, hj] using this
theorem put_mem {x : Con} {P : Con → Prop} (hx : P x) : ∀ (l : List Con), (∀ z ∈ l, P z) → ∀ z ∈ putL l x, P z
  | [], _, z, hz => by
    simp [putL, bsF, belC] at hz
    rw [hz]; exact hx
  | y :: t, h, z, hz => by
    rw [putL_cons] at hz
    have h1 := h y List.mem_cons_self
    have h2 := fun z hz => h z (List.mem_cons_of_mem y hz)
    have ih := put_mem hx t h2 z
    split at hz
    · rcases List.mem_cons.1 hz with rfl | hz
      · exact h1
      · exact ih hz
    · split at hz
      · rcases List.mem_cons.1 hz with rfl | hz
        · exact hx
        · exact h2 z hz
      · rcases List.mem_cons.1 hz with rfl | hz
        · exact hx
        · rcases List.mem_cons.1 hz with rfl | hz
          · exact h1
          · exact h2 z hz
theorem put_pw (x : Con) : ∀ (l : List Con), l.Pairwise (fun a b => lt a.name b.name = true) → (putL l x).Pairwise (fun a b => lt a.name b.name = true)
  | [], _ => by simp [putL, bsF, belC]
  | y :: t, h => by
    rw [List.pairwise_cons] at h
    rw [putL_cons]
    cases h1 : lt y.name x.name
    · by_cases h2 : y.name.data = x.name.data
      · simp only [Bool.false_eq_true, if_false, h2, if_true]
        refine List.pairwise_cons.2 ⟨fun z hz => ?_, h.2⟩
        have := h.1 z hz
        unfold lt at this ⊢
        rw [← h2]; exact this
      · simp only [Bool.false_eq_true, if_false, h2]
        have h3 : lt x.name y.name = true := by
          cases h3 : lt x.name y.name
          · exact absurd (Array.toList_inj.1 (less_total _ _ h1 h3)) h2
          · rfl
        refine List.pairwise_cons.2 ⟨fun z hz => ?_, List.pairwise_cons.2 ⟨h.1, h.2⟩⟩
        rcases List.mem_cons.1 hz with rfl | hz
        · exact h3
        · exact lt_trans' h3 (h.1 z hz)
    · simp only [if_true]
      exact List.pairwise_cons.2 ⟨put_mem (P := fun z => lt y.name z.name = true) h1 t h.1, put_pw x t h.2⟩
theorem put_ris {l : List Con} {x : Con} (h : risC l) : risC (putL l x) := (risC_pw _).2 (put_pw x l ((risC_pw l).1 h))
theorem put_len (l : List Con) (x : Con) : (putL l x).length ≤ l.length + 1 := by
  have := belC_le l x.name
  unfold putL
  split <;> simp <;> omega
end Go.Proofs.YtnbhdjadlbhknaaGreatDoor

/-! Records: Map: the conditions. -/
namespace Go.Proofs.YtnbhdjadlbhknaaGreatDoor
open Go.Ax
set_option maxRecDepth 1000000
def movC (to : List Int) (x : Con) : Con := ⟨x.name, elemO to x.off⟩
def mapU (l : List Con) (to : List Int) (k : Nat) : List Con := if to.length = 0 then [] else (l.take k).map (movC to)
/-! Concat of two -/
end Go.Proofs.YtnbhdjadlbhknaaGreatDoor

/-! Records: Map, Concat: the contracts. -/
namespace Go.Proofs.YtnbhdjadlbhknaaGreatDoor
open Go.Ax
set_option maxRecDepth 1000000
def wfC (l : List Con) : Prop := ∀ x ∈ l, offOk x.off
end Go.Proofs.YtnbhdjadlbhknaaGreatDoor

/-! Records: Both, Commit: the conditions. -/
namespace Go.Proofs.YtnbhdjadlbhknaaGreatDoor
open Go.Ax
set_option maxRecDepth 1000000
def rowE (r : List Con) (e : Int) : T An := .ite (e == 0) (.ret (.tup [.own 0 2 0 r.length, .s (.int .i64 0)], [rowC r], [])) (.ret (.tup [.s (.slice none 0 0), .y (.int .i64 e)], [], []))
/-! Commit -/
def comE (l : List Con) (x : Con) (e : Int) : Int := if !isCons l then 1 else if !nameOk x.name then 142 else if decide (e < x.off) then 141 else if !inC l x.name && decide (l.length = 64) then 143 else 0
noncomputable def cmH (b : Bool) (l : List Con) (x : Con) : HintsT Tryz.prog := hh _ noLp (cs1 138 1 3 (rdC b l x.name) (cs1 138 2 1 (coC b l) (cs1 138 4 2 (nameC x.name) (cs1 138 10 2 (putC b l x) noCs)))) noOp
def vcCm (b : Bool) (l : List Con) (x : Con) (e : Int) : Prop :=
  ((b = b ∧ List.length l = List.length l ∧ contLe (List.length l) (2 : Nat) (cellsOf' encC l) (cellsOf' encC l)) ∧ x.name = x.name ∧ True) ∧ True ∧ List.length l ≤ (9223372036854775806 : Nat) ∧ ((b = b ∧ List.length l = List.length l ∧ contLe (List.length l) (2 : Nat) (cellsOf' encC l) (cellsOf' encC l)) ∧ True) ∧ True ∧ List.length l ≤ (9223372036854775806 : Nat) ∧ ((!isCons l) = true → ((comE l x e == (0 : Int)) = true → (False ∧ (1 : Int) = (0 : Int) ∧ True) ∧ False) ∧ ((comE l x e == (0 : Int)) = false → (True ∧ (1 : Int) = comE l x e ∧ True) ∧ True)) ∧ ((!isCons l) = false → (x.name = x.name ∧ True) ∧ True ∧ ((!nameOk x.name) = true → ((comE l x e == (0 : Int)) = true → (False ∧ (142 : Int) = (0 : Int) ∧ True) ∧ False) ∧ ((comE l x e == (0 : Int)) = false → (True ∧ (142 : Int) = comE l x e ∧ True) ∧ True)) ∧ ((!nameOk x.name) = false → (decide (e < x.off) = true → ((comE l x e == (0 : Int)) = true → (False ∧ (141 : Int) = (0 : Int) ∧ True) ∧ False) ∧ ((comE l x e == (0 : Int)) = false → (True ∧ (141 : Int) = comE l x e ∧ True) ∧ True)) ∧ (decide (e < x.off) = false → ((!inC l x.name) = true → (((↑(List.length l) : Int) == (64 : Int)) = true → ((comE l x e == (0 : Int)) = true → (False ∧ (143 : Int) = (0 : Int) ∧ True) ∧ False) ∧ ((comE l x e == (0 : Int)) = false → (True ∧ (143 : Int) = comE l x e ∧ True) ∧ True)) ∧ (((↑(List.length l) : Int) == (64 : Int)) = false → ((b = b ∧ List.length l = List.length l ∧ contLe (List.length l) (2 : Nat) (cellsOf' encC l) (cellsOf' encC l)) ∧ (x.name = x.name ∧ x.off = x.off ∧ True) ∧ (True ∧ True) ∧ True) ∧ True ∧ (List.length l * (24 : Nat) ≤ (140737488355200 : Nat) ∧ ∀ (i j : Nat), i < j → j < List.length l → lt (List.getD l i (@default Con instInhabitedCon)).name (List.getD l j (@default Con instInhabitedCon)).name = true) ∧ ((comE l x e == (0 : Int)) = true → (((0 : Nat) = (0 : Nat) ∧ List.length (putL l x) = List.length (putL l x)) ∧ (0 : Int) = (0 : Int) ∧ True) ∧ (List.length (putL l x) = List.length (putL l x) ∧ contLe (List.length (putL l x)) (2 : Nat) (cellsOf' encC (putL l x)) (cellsOf' encC (putL l x))) ∧ True) ∧ ((comE l x e == (0 : Int)) = false → False))) ∧ ((!inC l x.name) = false → ((b = b ∧ List.length l = List.length l ∧ contLe (List.length l) (2 : Nat) (cellsOf' encC l) (cellsOf' encC l)) ∧ (x.name = x.name ∧ x.off = x.off ∧ True) ∧ (True ∧ True) ∧ True) ∧ True ∧ (List.length l * (24 : Nat) ≤ (140737488355200 : Nat) ∧ ∀ (i j : Nat), i < j → j < List.length l → lt (List.getD l i (@default Con instInhabitedCon)).name (List.getD l j (@default Con instInhabitedCon)).name = true) ∧ ((comE l x e == (0 : Int)) = true → (((0 : Nat) = (0 : Nat) ∧ List.length (putL l x) = List.length (putL l x)) ∧ (0 : Int) = (0 : Int) ∧ True) ∧ (List.length (putL l x) = List.length (putL l x) ∧ contLe (List.length (putL l x)) (2 : Nat) (cellsOf' encC (putL l x)) (cellsOf' encC (putL l x))) ∧ True) ∧ ((comE l x e == (0 : Int)) = false → False)))))
set_option maxRecDepth 1000000 in
theorem vcCm_eq (b : Bool) (l : List Con) (x : Con) (e : Int) : (ctrVC Tryz.prog (cmH b l x) 138 [encCs b l, .agg (encC x), .y (.int .u64 e)] [] (rowE (putL l x) (comE l x e))) = vcCm b l x e := by kernel_rfl
end Go.Proofs.YtnbhdjadlbhknaaGreatDoor
