import Derived.Test.YtjmdejbijigfjaaDoorProg
import Derived.KernelRfl
import Derived.Test.YtjmdejbijigfjaaDoorE12
set_option linter.unusedVariables false
set_option linter.unusedSimpArgs false
set_option linter.unusedSectionVars false
namespace Go.Proofs.YtjmdejbijigfjaaDoor
open Go.Ax
end Go.Proofs.YtjmdejbijigfjaaDoor

namespace Go.Proofs.YtjmdejbijigfjaaDoor
open Go.Ax
set_option maxRecDepth 1000000
structure Rec where
  off : Int
  key : ByteArray
  val : List Int
  prod : Int
  seq : Int
instance : Inhabited Rec := ⟨⟨0, ByteArray.empty, [], 0, 0⟩⟩
structure Rng where
  lo : ByteArray
  hi : ByteArray
instance : Inhabited Rng := ⟨⟨ByteArray.empty, ByteArray.empty⟩⟩
def encB (x : Int) : List AV := [.y (.int .u8 x)]
def encU (x : Int) : List AV := [.y (.int .u64 x)]
def encBs (b : Bool) (l : List Int) : AV := .ys b 1 l.length (cellsOf' encB l)
def encUs (b : Bool) (l : List Int) : AV := .ys b 1 l.length (cellsOf' encU l)
def encR (x : Rec) : List AV := [.y (.int .u64 x.off), .y (.string x.key), encBs true x.val, .y (.int .u64 x.prod), .y (.int .u64 x.seq)]
def encRs (b : Bool) (l : List Rec) : AV := .ys b 5 l.length (cellsOf' encR l)
def encG (r : Rng) : List AV := [.y (.string r.lo), .y (.string r.hi)]
def rowU (l : List Int) : Blk := .row 24 1 l.length none (cellsOf' encU l)
def rowR (l : List Rec) : Blk := .row 27 5 l.length none (cellsOf' encR l)
theorem Tryd.mixed : Tryd.prog.follows .mixedOrders = true := by kernel_rfl
def boolR (b : Bool) : T An := .ret (.y (.bool b), [], [])
def intR (k : Int) : T An := .ret (.y (.int .i64 k), [], [])
def clnR (n : Nat) (c : Nat → Nat → AV) : T An := .ret (.own 0 1 0 n, [.row 5 1 n none c], [])
noncomputable def clnH : HintsT Tryd.prog := hh _ noLp noCs (op1 62 2 0 (.row 5 1) noOp)
def vcClone0 (n : Nat) (c : Nat → Nat → AV) : Prop :=
  ((0 : Nat) = (0 : Nat) ∧ (0 : Nat) = n) ∧ ((0 : Nat) = n ∧ contLe (0 : Nat) (1 : Nat) (fun (x x_1 : Nat) => AV.junk) c) ∧ True
theorem vcClone0_eq (n : Nat) (c : Nat → Nat → AV) : (ctrVC Tryd.prog clnH 62 [.s (.slice none 0 0)] [] (clnR n c)) = vcClone0 n c := by kernel_rfl
def vcClone1 (b : Bool) (n : Nat) (c : Nat → Nat → AV) : Prop :=
  (decide ((0 : Nat) + n ≤ (9223372036854775807 : Nat)) && decide (((0 : Nat) + n) * (1 : Nat) ≤ (140737488355328 : Nat))) = true ∧ ((0 : Nat) = (0 : Nat) ∧ (0 : Nat) + n = n) ∧ ((0 : Nat) + n = n ∧ contLe ((0 : Nat) + n) (1 : Nat) (appRow (0 : Nat) (fun (k j : Nat) => AV.junk) c) c) ∧ True
theorem vcClone1_eq (b : Bool) (n : Nat) (c : Nat → Nat → AV) : (ctrVC Tryd.prog clnH 62 [.yn b 1 n c] [] (clnR n c)) = vcClone1 b n c := by kernel_rfl
theorem clone_c (b : Bool) (n : Nat) (c : Nat → Nat → AV) (hl : n ≤ 140737488355328) : (clnR n c).Sat (ACall' Tryd.prog 62 [.ys b 1 n c] []) := by
  refine nil_cases (pre := []) (post := []) (fun h0 => ?_) ?_ ⟨_, rfl⟩
  · refine ctr_vc (ht := clnH) Tryd.mixed rfl ?_
    rw [List.nil_append, vcClone0_eq n c]
    unfold vcClone0
    simp [h0]
  · refine ctr_vc (ht := clnH) Tryd.mixed rfl ?_
    rw [List.nil_append, vcClone1_eq b n c]
    unfold vcClone1
    simp
    omega
noncomputable def clnC (b : Bool) (n : Nat) (c : Nat → Nat → AV) : Ctr Tryd.prog := ⟨62, [.ys b 1 n c], [], .need (n ≤ 140737488355328) (clnR n c), T.Sat.need fun h => clone_c b n c h⟩
def Rec.to (x : Rec) (o : Int) : Rec := ⟨o, x.key, x.val, x.prod, x.seq⟩
def recR (x : Rec) : T An := .ret (.agg (encR x), [], [])
noncomputable def atH : HintsT Tryd.prog := withSh (hh _ noLp noCs noOp) (sh1 48 3 0 779 noSh)
def vcAt (x : Rec) (o : Int) : Prop :=
  (decide ((0 : Nat) + List.length x.val ≤ (9223372036854775807 : Nat)) && decide (((0 : Nat) + List.length x.val) * (1 : Nat) ≤ (140737488355328 : Nat))) = true ∧ (∀ (k : Nat), k < (0 : Nat) + List.length x.val → ∀ (j : Nat), j < (1 : Nat) → tagT (appRow (0 : Nat) (fun (k j : Nat) => AV.junk) (cellsOf' encB x.val) k j) = true) ∧ (IntKind.wrap IntKind.u64 o = IntKind.wrap IntKind.u64 o ∧ x.key = x.key ∧ (true = true ∧ (0 : Nat) + List.length x.val = List.length x.val ∧ contLe ((0 : Nat) + List.length x.val) (1 : Nat) (Ax.rowAt (0 : Nat) (appRow (0 : Nat) (fun (k j : Nat) => AV.junk) (cellsOf' encB x.val))) (cellsOf' encB x.val)) ∧ x.prod = x.prod ∧ x.seq = x.seq ∧ True) ∧ True
theorem vcAt_eq (x : Rec) (o : Int) : (ctrVC Tryd.prog atH 48 [.agg (encR x), .y (.int .i64 o)] [] (recR (x.to (IntKind.u64.wrap o)))) = vcAt x o := by kernel_rfl
def lt (a b : ByteArray) : Bool := Op.bytesLess a.data.toList b.data.toList
def chkK (r : Rng) : Int := if 32 < r.lo.size ∨ 32 < r.hi.size then 131 else if (!r.hi.data.toList == []) = true ∧ (lt r.hi r.lo || r.hi.data.toList == r.lo.data.toList) = true then 132 else 0
def vcChk (r : Rng) : Prop :=
  (decide ((32 : Int) < (↑(ByteArray.size r.lo) : Int)) = true → (131 : Int) = chkK r ∧ True) ∧ (decide ((32 : Int) < (↑(ByteArray.size r.lo) : Int)) = false → (decide ((32 : Int) < (↑(ByteArray.size r.hi) : Int)) = true → (131 : Int) = chkK r ∧ True) ∧ (decide ((32 : Int) < (↑(ByteArray.size r.hi) : Int)) = false → ((!r.hi.data.toList == []) = true → ((Op.bytesLess r.hi.data.toList r.lo.data.toList || r.hi.data.toList == r.lo.data.toList) = true → (132 : Int) = chkK r ∧ True) ∧ ((Op.bytesLess r.hi.data.toList r.lo.data.toList || r.hi.data.toList == r.lo.data.toList) = false → (0 : Int) = chkK r ∧ True)) ∧ ((!r.hi.data.toList == []) = false → (0 : Int) = chkK r ∧ True)))
theorem vcChk_eq (r : Rng) : (ctrVC Tryd.prog (hT _) 27 [.agg (encG r)] [] (intR (chkK r))) = vcChk r := by kernel_rfl
def vcChk2 (r : Rng) : Prop :=
  (decide ((32 : Int) < (↑(ByteArray.size r.lo) : Int)) = true → (131 : Int) = chkK r ∧ True) ∧ (decide ((32 : Int) < (↑(ByteArray.size r.lo) : Int)) = false → (decide ((32 : Int) < (↑(ByteArray.size r.hi) : Int)) = true → (131 : Int) = chkK r ∧ True) ∧ (decide ((32 : Int) < (↑(ByteArray.size r.hi) : Int)) = false → ((!r.hi.data.toList == []) = true → ((Op.bytesLess r.hi.data.toList r.lo.data.toList || r.hi.data.toList == r.lo.data.toList) = true → (132 : Int) = chkK r ∧ True) ∧ ((Op.bytesLess r.hi.data.toList r.lo.data.toList || r.hi.data.toList == r.lo.data.toList) = false → (0 : Int) = chkK r ∧ True)) ∧ ((!r.hi.data.toList == []) = false → (0 : Int) = chkK r ∧ True)))
theorem vcChk2_eq (r : Rng) : (ctrVC Tryd.prog (hT _) 50 [.agg (encG r)] [] (intR (chkK r))) = vcChk2 r := by kernel_rfl
end Go.Proofs.YtjmdejbijigfjaaDoor

namespace Go.Proofs.YtjmdejbijigfjaaDoor
open Go.Ax
set_option maxRecDepth 1000000
theorem at_c (x : Rec) (o : Int) (h : x.val.length ≤ 140737488355328) : (recR (x.to (IntKind.u64.wrap o))).Sat (ACall' Tryd.prog 48 [.agg (encR x), .y (.int .i64 o)] []) := by
  refine ctr_vc (ht := atH) Tryd.mixed rfl ?_
  rw [vcAt_eq x o]
  unfold vcAt
  simp
  exact ⟨⟨by omega, by omega⟩, fun _ _ => rfl⟩
noncomputable def atC (x : Rec) (o : Int) : Ctr Tryd.prog := ⟨48, [.agg (encR x), .y (.int .i64 o)], [], .need (x.val.length ≤ 140737488355328) (recR (x.to (IntKind.u64.wrap o))), T.Sat.need fun h => at_c x o h⟩
theorem chk_c (r : Rng) : (intR (chkK r)).Sat (ACall' Tryd.prog 27 [.agg (encG r)] []) := by
  refine ctr_vc (ht := hT _) Tryd.mixed rfl ?_
  rw [vcChk_eq r]
  unfold vcChk chkK lt
  simp
  grind
theorem chk2_c (r : Rng) : (intR (chkK r)).Sat (ACall' Tryd.prog 50 [.agg (encG r)] []) := by
  refine ctr_vc (ht := hT _) Tryd.mixed rfl ?_
  rw [vcChk2_eq r]
  unfold vcChk2 chkK lt
  simp
  grind
noncomputable def chkC (r : Rng) : Ctr Tryd.prog := ⟨27, [.agg (encG r)], [], intR (chkK r), chk_c r⟩
noncomputable def chk2C (r : Rng) : Ctr Tryd.prog := ⟨50, [.agg (encG r)], [], intR (chkK r), chk2_c r⟩
def hasK (r : Rng) (k : ByteArray) : Bool := chkK r == 0 && (decide ((k.size : Int) ≤ 32) && ((lt r.lo k || r.lo.data.toList == k.data.toList) && (r.hi.data.toList == [] || lt k r.hi)))
noncomputable def hasH (r : Rng) : HintsT Tryd.prog := hh _ noLp (cs1 28 1 1 (chkC r) noCs) noOp
noncomputable def has2H (r : Rng) : HintsT Tryd.prog := hh _ noLp (cs1 51 1 1 (chk2C r) noCs) noOp
def vcHas (r : Rng) (k : ByteArray) : Prop :=
  ((r.lo = r.lo ∧ r.hi = r.hi ∧ True) ∧ True) ∧ True ∧ ((chkK r == (0 : Int)) = true → (decide ((↑(ByteArray.size k) : Int) ≤ (32 : Int)) = true → ((Op.bytesLess r.lo.data.toList k.data.toList || r.lo.data.toList == k.data.toList) = true → ((r.hi.data.toList == []) = true → true = hasK r k ∧ True) ∧ ((r.hi.data.toList == []) = false → Op.bytesLess k.data.toList r.hi.data.toList = hasK r k ∧ True)) ∧ ((Op.bytesLess r.lo.data.toList k.data.toList || r.lo.data.toList == k.data.toList) = false → false = hasK r k ∧ True)) ∧ (decide ((↑(ByteArray.size k) : Int) ≤ (32 : Int)) = false → false = hasK r k ∧ True)) ∧ ((chkK r == (0 : Int)) = false → false = hasK r k ∧ True)
theorem vcHas_eq (r : Rng) (k : ByteArray) : (ctrVC Tryd.prog (hasH r) 28 [.agg (encG r), .y (.string k)] [] (boolR (hasK r k))) = vcHas r k := by kernel_rfl
def vcHas2 (r : Rng) (k : ByteArray) : Prop :=
  ((r.lo = r.lo ∧ r.hi = r.hi ∧ True) ∧ True) ∧ True ∧ ((chkK r == (0 : Int)) = true → (decide ((↑(ByteArray.size k) : Int) ≤ (32 : Int)) = true → ((!Op.bytesLess k.data.toList r.lo.data.toList) = true → ((r.hi.data.toList == []) = true → true = hasK r k ∧ True) ∧ ((r.hi.data.toList == []) = false → Op.bytesLess k.data.toList r.hi.data.toList = hasK r k ∧ True)) ∧ ((!Op.bytesLess k.data.toList r.lo.data.toList) = false → false = hasK r k ∧ True)) ∧ (decide ((↑(ByteArray.size k) : Int) ≤ (32 : Int)) = false → false = hasK r k ∧ True)) ∧ ((chkK r == (0 : Int)) = false → false = hasK r k ∧ True)
theorem vcHas2_eq (r : Rng) (k : ByteArray) : (ctrVC Tryd.prog (has2H r) 51 [.agg (encG r), .y (.string k)] [] (boolR (hasK r k))) = vcHas2 r k := by kernel_rfl
theorem less_irr : ∀ l : List UInt8, Op.bytesLess l l = false
  | [] => rfl
  | a :: l => by simp [Op.bytesLess, less_irr l]
theorem less_asymm : ∀ (a b : List UInt8), Op.bytesLess a b = true → Op.bytesLess b a = false
  | [], [], h => by simp [Op.bytesLess] at h
  | [], _ :: _, _ => rfl
  | _ :: _, [], h => by simp [Op.bytesLess] at h
  | a :: l, b :: m, h => by
    simp only [Op.bytesLess, Bool.or_eq_true, Bool.and_eq_true, decide_eq_true_eq, beq_iff_eq] at h ⊢
    rcases h with h | ⟨rfl, h⟩
    · have h1 : ¬ b < a := UInt8.not_lt.2 (UInt8.le_of_lt h)
      have h2 : ¬ b = a := fun e => by subst e; exact absurd h (UInt8.lt_irrefl _)
      simp [h1, h2]
    · have := less_asymm l m h
      simp [this]
theorem less_total : ∀ (a b : List UInt8), Op.bytesLess a b = false → Op.bytesLess b a = false → a = b
  | [], [], _, _ => rfl
  | [], _ :: _, h, _ => by simp [Op.bytesLess] at h
  | _ :: _, [], _, h => by simp [Op.bytesLess] at h
  | a :: l, b :: m, h, k => by
    simp only [Op.bytesLess, Bool.or_eq_false_iff, Bool.and_eq_false_iff, decide_eq_false_iff_not, beq_eq_false_iff_ne] at h k
    have e : a = b := UInt8.le_antisymm (UInt8.not_lt.1 k.1) (UInt8.not_lt.1 h.1)
    subst e
    rw [less_total l m (h.2.resolve_left fun q => q rfl) (k.2.resolve_left fun q => q rfl)]
theorem less_geq (a b : List UInt8) : (!Op.bytesLess a b) = (Op.bytesLess b a || b == a) := by
  cases h : Op.bytesLess a b
  · cases k : Op.bytesLess b a
    · simp [less_total a b h k]
    · rfl
  · have h1 := less_asymm a b h
    have h2 : ¬ b = a := fun e => by subst e; rw [less_irr] at h; cases h
    simp [h1, h2]
theorem has_c (r : Rng) (k : ByteArray) : (boolR (hasK r k)).Sat (ACall' Tryd.prog 28 [.agg (encG r), .y (.string k)] []) := by
  refine ctr_vc (ht := hasH r) Tryd.mixed rfl ?_
  rw [vcHas_eq r k]
  unfold vcHas
  unfold hasK lt
  generalize (chkK r == 0) = a
  generalize decide ((k.size : Int) ≤ 32) = b
  generalize Op.bytesLess r.lo.data.toList k.data.toList = c
  generalize (r.lo.data.toList == k.data.toList) = d
  generalize (r.hi.data.toList == []) = e
  generalize Op.bytesLess k.data.toList r.hi.data.toList = f
  cases a <;> cases b <;> cases c <;> cases d <;> cases e <;> cases f <;> simp
theorem has2_c (r : Rng) (k : ByteArray) : (boolR (hasK r k)).Sat (ACall' Tryd.prog 51 [.agg (encG r), .y (.string k)] []) := by
  refine ctr_vc (ht := has2H r) Tryd.mixed rfl ?_
  rw [vcHas2_eq r k]
  unfold vcHas2
  unfold hasK lt
  simp only [less_geq]
  generalize (chkK r == 0) = a
  generalize decide ((k.size : Int) ≤ 32) = b
  generalize Op.bytesLess r.lo.data.toList k.data.toList = c
  generalize (r.lo.data.toList == k.data.toList) = d
  generalize (r.hi.data.toList == []) = e
  generalize Op.bytesLess k.data.toList r.hi.data.toList = f
  cases a <;> cases b <;> cases c <;> cases d <;> cases e <;> cases f <;> simp
end Go.Proofs.YtjmdejbijigfjaaDoor

namespace Go.Proofs.YtjmdejbijigfjaaDoor
open Go.Ax
set_option maxRecDepth 1000000
def okR (x : Rec) (k : Nat) : Bool := !(x.off != IntKind.u64.wrap k) && (decide (x.key.size ≤ 32) && decide (x.val.length ≤ 256))
def logFrom (l : List Rec) (k : Nat) : Bool := (List.range' k (l.length - k)).all fun j => okR (l.getD j default) j
theorem logFrom_end {l : List Rec} {k : Nat} (h : l.length ≤ k) : logFrom l k = true := by
  unfold logFrom
  rw [show l.length - k = 0 by omega]; rfl
theorem logFrom_step {l : List Rec} {k : Nat} (h : k < l.length) : logFrom l k = (okR (l.getD k default) k && logFrom l (k + 1)) := by
  unfold logFrom
  rw [show l.length - k = (l.length - (k + 1)) + 1 by omega, List.range'_succ]; rfl
def isLog (l : List Rec) : Bool := logFrom l 0 && decide (l.length ≤ 4096)
def lgT (b : Bool) (l : List Rec) (k : Nat) : List AV := mkT 33 [(0, encRs b l), (2, .s (.bool false)), (5, encRs b l), (6, .y (.int .i64 l.length)), (7, .y (.int .i64 k))]
def lgS (b : Bool) (l : List Rec) (r : Bool) : Exit × List AV × List Blk := match r with
  | true => (.exit 0, mkT 33 [(0, encRs b l)], [])
  | false => (.ret, mkT 33 [(2, .s (.bool false))], [])
def lgO (l : List Rec) (k : Nat) : T Bool := .ite (logFrom l k) (.ret true) (.ret false)
def vcLgL (b : Bool) (l : List Rec) (k : Nat) : Prop :=
  (decide ((↑k : Int) < (↑(List.length l) : Int)) = true → (true && decide ((↑k : Int) < (↑(List.length l) : Int))) = true ∧ (((List.getD l (Int.toNat (↑k : Int)) (@default Rec instInhabitedRec)).off != IntKind.wrap IntKind.u64 (↑k : Int)) = true → (logFrom l k = true → False) ∧ (logFrom l k = false → (false = false ∧ True) ∧ True ∧ true = true)) ∧ (((List.getD l (Int.toNat (↑k : Int)) (@default Rec instInhabitedRec)).off != IntKind.wrap IntKind.u64 (↑k : Int)) = false → (decide ((32 : Int) < (↑(ByteArray.size (List.getD l (Int.toNat (↑k : Int)) (@default Rec instInhabitedRec)).key) : Int)) = true → (logFrom l k = true → False) ∧ (logFrom l k = false → (false = false ∧ True) ∧ True ∧ true = true)) ∧ (decide ((32 : Int) < (↑(ByteArray.size (List.getD l (Int.toNat (↑k : Int)) (@default Rec instInhabitedRec)).key) : Int)) = false → (decide ((256 : Int) < (↑(List.length (List.getD l (Int.toNat (↑k : Int)) (@default Rec instInhabitedRec)).val) : Int)) = true → (logFrom l k = true → False) ∧ (logFrom l k = false → (false = false ∧ True) ∧ True ∧ true = true)) ∧ (decide ((256 : Int) < (↑(List.length (List.getD l (Int.toNat (↑k : Int)) (@default Rec instInhabitedRec)).val) : Int)) = false → ∃ (j : Nat), List.length l - j < List.length l - k ∧ (((b = b ∧ List.length l = List.length l ∧ contLe (List.length l) (5 : Nat) (cellsOf' encR l) (cellsOf' encR l)) ∧ false = false ∧ (b = b ∧ List.length l = List.length l ∧ contLe (List.length l) (5 : Nat) (cellsOf' encR l) (cellsOf' encR l)) ∧ (↑(List.length l) : Int) = (↑(List.length l) : Int) ∧ IntKind.wrap IntKind.i64 ((↑k : Int) + (1 : Int)) = (↑j : Int) ∧ True) ∧ True ∧ true = true) ∧ true = true ∧ (logFrom l j = true → (logFrom l k = true → true = true) ∧ (logFrom l k = false → true = false)) ∧ (logFrom l j = false → (logFrom l k = true → false = true) ∧ (logFrom l k = false → false = false)))))) ∧ (decide ((↑k : Int) < (↑(List.length l) : Int)) = false → (logFrom l k = true → ((b = b ∧ List.length l = List.length l ∧ contLe (List.length l) (5 : Nat) (cellsOf' encR l) (cellsOf' encR l)) ∧ True) ∧ True ∧ true = true) ∧ (logFrom l k = false → False))
theorem vcLgL_eq (b : Bool) (l : List Rec) (k : Nat) : (loopVC Tryd.prog (hT _) 20 2 (fun k => l.length - k) (lgT b l) (fun _ => []) [0] (lgO l) (lgS b l) k) = vcLgL b l k := by kernel_rfl
noncomputable def lgH (b : Bool) (l : List Rec) : HintsT Tryd.prog := hh _ (lp1 20 2 (jobOf (lgT b l) (fun _ => []) [0] (lgO l) (lgS b l) 0) noLp) noCs noOp
def vcLg (b : Bool) (l : List Rec) : Prop :=
  (((b = b ∧ List.length l = List.length l ∧ contLe (List.length l) (5 : Nat) (cellsOf' encR l) (cellsOf' encR l)) ∧ false = false ∧ (b = b ∧ List.length l = List.length l ∧ contLe (List.length l) (5 : Nat) (cellsOf' encR l) (cellsOf' encR l)) ∧ (↑(List.length l) : Int) = (↑(List.length l) : Int) ∧ (0 : Int) = (0 : Int) ∧ True) ∧ True ∧ true = true) ∧ LoopOk Tryd.prog (20 : Nat) (2 : Nat) (loopAt Tryd.prog (20 : Nat) (2 : Nat)) { t := lgT b l (0 : Nat), m := [], mv := [] : St } (T.map (lout [(0 : Nat)] (lgS b l)) (lgO l (0 : Nat))) ∧ (logFrom l (0 : Nat) = true → decide ((↑(List.length l) : Int) ≤ (4096 : Int)) = isLog l ∧ True) ∧ (logFrom l (0 : Nat) = false → false = isLog l ∧ True)
theorem vcLg_eq (b : Bool) (l : List Rec) : (ctrVC Tryd.prog (lgH b l) 20 [encRs b l] [] (boolR (isLog l))) = vcLg b l := by kernel_rfl
def lrT (b : Bool) (l : List Rec) (k : Nat) : List AV := mkT 39 [(0, encRs b l), (2, .s (.bool false)), (3, .y (.int .i64 k))]
def lrS (r : Bool) : Exit × List AV × List Blk := match r with
  | true => (.exit 0, mkT 39 [], [])
  | false => (.ret, mkT 39 [(2, .s (.bool false))], [])
def vcLrL (b : Bool) (l : List Rec) (k : Nat) : Prop :=
  (decide ((↑k : Int) < (↑(List.length l) : Int)) = true → (true && decide ((↑k : Int) < (↑(List.length l) : Int))) = true ∧ (((List.getD l (Int.toNat (↑k : Int)) (@default Rec instInhabitedRec)).off != IntKind.wrap IntKind.u64 (↑k : Int)) = true → (logFrom l k = true → False) ∧ (logFrom l k = false → (false = false ∧ True) ∧ True ∧ true = true)) ∧ (((List.getD l (Int.toNat (↑k : Int)) (@default Rec instInhabitedRec)).off != IntKind.wrap IntKind.u64 (↑k : Int)) = false → (true && decide ((↑k : Int) < (↑(List.length l) : Int))) = true ∧ (decide ((32 : Int) < (↑(ByteArray.size (List.getD l (Int.toNat (↑k : Int)) (@default Rec instInhabitedRec)).key) : Int)) = true → (logFrom l k = true → False) ∧ (logFrom l k = false → (false = false ∧ True) ∧ True ∧ true = true)) ∧ (decide ((32 : Int) < (↑(ByteArray.size (List.getD l (Int.toNat (↑k : Int)) (@default Rec instInhabitedRec)).key) : Int)) = false → (true && decide ((↑k : Int) < (↑(List.length l) : Int))) = true ∧ (decide ((256 : Int) < (↑(List.length (List.getD l (Int.toNat (↑k : Int)) (@default Rec instInhabitedRec)).val) : Int)) = true → (logFrom l k = true → False) ∧ (logFrom l k = false → (false = false ∧ True) ∧ True ∧ true = true)) ∧ (decide ((256 : Int) < (↑(List.length (List.getD l (Int.toNat (↑k : Int)) (@default Rec instInhabitedRec)).val) : Int)) = false → ∃ (j : Nat), List.length l - j < List.length l - k ∧ (((b = b ∧ List.length l = List.length l ∧ contLe (List.length l) (5 : Nat) (cellsOf' encR l) (cellsOf' encR l)) ∧ false = false ∧ IntKind.wrap IntKind.i64 ((↑k : Int) + (1 : Int)) = (↑j : Int) ∧ True) ∧ True ∧ true = true) ∧ true = true ∧ (logFrom l j = true → (logFrom l k = true → true = true) ∧ (logFrom l k = false → true = false)) ∧ (logFrom l j = false → (logFrom l k = true → false = true) ∧ (logFrom l k = false → false = false)))))) ∧ (decide ((↑k : Int) < (↑(List.length l) : Int)) = false → (logFrom l k = true → True ∧ True ∧ true = true) ∧ (logFrom l k = false → False))
theorem vcLrL_eq (b : Bool) (l : List Rec) (k : Nat) : (loopVC Tryd.prog (hT _) 21 4 (fun k => l.length - k) (lrT b l) (fun _ => []) [0] (lgO l) lrS k) = vcLrL b l k := by kernel_rfl
noncomputable def lrH (b : Bool) (l : List Rec) : HintsT Tryd.prog := hh _ (lp1 21 4 (jobOf (lrT b l) (fun _ => []) [0] (lgO l) lrS 0) noLp) noCs noOp
def vcLr (b : Bool) (l : List Rec) : Prop :=
  (decide ((4096 : Int) < (↑(List.length l) : Int)) = true → false = isLog l ∧ True) ∧ (decide ((4096 : Int) < (↑(List.length l) : Int)) = false → (((b = b ∧ List.length l = List.length l ∧ contLe (List.length l) (5 : Nat) (cellsOf' encR l) (cellsOf' encR l)) ∧ false = false ∧ (0 : Int) = (0 : Int) ∧ True) ∧ True ∧ true = true) ∧ LoopOk Tryd.prog (21 : Nat) (4 : Nat) (loopAt Tryd.prog (21 : Nat) (4 : Nat)) { t := lrT b l (0 : Nat), m := [], mv := [] : St } (T.map (lout [(0 : Nat)] lrS) (lgO l (0 : Nat))) ∧ (logFrom l (0 : Nat) = true → true = isLog l ∧ True) ∧ (logFrom l (0 : Nat) = false → false = isLog l ∧ True))
theorem vcLr_eq (b : Bool) (l : List Rec) : (ctrVC Tryd.prog (lrH b l) 21 [encRs b l] [] (boolR (isLog l))) = vcLr b l := by kernel_rfl
def below (x y : Rec) : Bool := y.prod == x.prod && decide (y.seq < x.seq)
def lowR (l : List Rec) (x : Rec) : Bool := l.any (below x)
theorem low_nil (x : Rec) : lowR [] x = false := rfl
theorem low_cons (y : Rec) (l : List Rec) (x : Rec) : lowR (y :: l) x = (below x y || lowR l x) := rfl
def fnW (x : Rec) : AV := .fn (.func 64) [] [.ip false 5 (get (encR x))]
def ixT (b : Bool) (x : Rec) (l : List Rec) (k : Nat) : List AV := mkT 19 [(0, encRs b l), (1, fnW x), (4, .s (.int .i64 0)), (7, .y (.int .i64 l.length)), (8, .y (.int .i64 k))]
def ixS (r : Bool × Nat) : Exit × List AV × List Blk := match r.1 with
  | true => (.ret, mkT 19 [(4, .y (.int .i64 r.2))], [])
  | false => (.exit 0, mkT 19 [], [])
def ixO (l : List Rec) (x : Rec) (k : Nat) : T (Bool × Nat) := .ite (lowR (l.drop k) x) (.ret (true, k + (l.drop k).findIdx (below x))) (.ret (false, 0))
def vcIxL (b : Bool) (x : Rec) (l : List Rec) (k : Nat) : Prop :=
  (decide ((↑k : Int) < (↑(List.length l) : Int)) = true → (true && decide ((↑k : Int) < (↑(List.length l) : Int))) = true ∧ (((List.getD l (Int.toNat (↑k : Int)) (@default Rec instInhabitedRec)).prod == x.prod) = true → (decide ((List.getD l (Int.toNat (↑k : Int)) (@default Rec instInhabitedRec)).seq < x.seq) = true → (lowR (List.drop k l) x = true → ((↑k : Int) = (↑(k + List.findIdx (below x) (List.drop k l)) : Int) ∧ True) ∧ True ∧ true = true) ∧ (lowR (List.drop k l) x = false → False)) ∧ (decide ((List.getD l (Int.toNat (↑k : Int)) (@default Rec instInhabitedRec)).seq < x.seq) = false → ∃ (j : Nat), List.length l - j < List.length l - k ∧ (((b = b ∧ List.length l = List.length l ∧ contLe (List.length l) (5 : Nat) (cellsOf' encR l) (cellsOf' encR l)) ∧ (True ∧ (false = false ∧ (5 : Nat) ≤ (5 : Nat) ∧ cellLe (5 : Nat) (Ax.get [AV.y (Value.int IntKind.u64 x.off), AV.y (Value.string x.key), AV.ys true (1 : Nat) (List.length x.val) (cellsOf' encB x.val), AV.y (Value.int IntKind.u64 x.prod), AV.y (Value.int IntKind.u64 x.seq)]) (Ax.get [AV.y (Value.int IntKind.u64 x.off), AV.y (Value.string x.key), AV.ys true (1 : Nat) (List.length x.val) (cellsOf' encB x.val), AV.y (Value.int IntKind.u64 x.prod), AV.y (Value.int IntKind.u64 x.seq)])) ∧ True) ∧ (0 : Int) = (0 : Int) ∧ (↑(List.length l) : Int) = (↑(List.length l) : Int) ∧ IntKind.wrap IntKind.i64 ((↑k : Int) + (1 : Int)) = (↑j : Int) ∧ True) ∧ True ∧ true = true) ∧ true = true ∧ (lowR (List.drop j l) x = true → (lowR (List.drop k l) x = true → (true, j + List.findIdx (below x) (List.drop j l)) = (true, k + List.findIdx (below x) (List.drop k l))) ∧ (lowR (List.drop k l) x = false → (true, j + List.findIdx (below x) (List.drop j l)) = (false, (0 : Nat)))) ∧ (lowR (List.drop j l) x = false → (lowR (List.drop k l) x = true → (false, (0 : Nat)) = (true, k + List.findIdx (below x) (List.drop k l))) ∧ (lowR (List.drop k l) x = false → (false, (0 : Nat)) = (false, (0 : Nat)))))) ∧ (((List.getD l (Int.toNat (↑k : Int)) (@default Rec instInhabitedRec)).prod == x.prod) = false → ∃ (j : Nat), List.length l - j < List.length l - k ∧ (((b = b ∧ List.length l = List.length l ∧ contLe (List.length l) (5 : Nat) (cellsOf' encR l) (cellsOf' encR l)) ∧ (True ∧ (false = false ∧ (5 : Nat) ≤ (5 : Nat) ∧ cellLe (5 : Nat) (Ax.get [AV.y (Value.int IntKind.u64 x.off), AV.y (Value.string x.key), AV.ys true (1 : Nat) (List.length x.val) (cellsOf' encB x.val), AV.y (Value.int IntKind.u64 x.prod), AV.y (Value.int IntKind.u64 x.seq)]) (Ax.get [AV.y (Value.int IntKind.u64 x.off), AV.y (Value.string x.key), AV.ys true (1 : Nat) (List.length x.val) (cellsOf' encB x.val), AV.y (Value.int IntKind.u64 x.prod), AV.y (Value.int IntKind.u64 x.seq)])) ∧ True) ∧ (0 : Int) = (0 : Int) ∧ (↑(List.length l) : Int) = (↑(List.length l) : Int) ∧ IntKind.wrap IntKind.i64 ((↑k : Int) + (1 : Int)) = (↑j : Int) ∧ True) ∧ True ∧ true = true) ∧ true = true ∧ (lowR (List.drop j l) x = true → (lowR (List.drop k l) x = true → (true, j + List.findIdx (below x) (List.drop j l)) = (true, k + List.findIdx (below x) (List.drop k l))) ∧ (lowR (List.drop k l) x = false → (true, j + List.findIdx (below x) (List.drop j l)) = (false, (0 : Nat)))) ∧ (lowR (List.drop j l) x = false → (lowR (List.drop k l) x = true → (false, (0 : Nat)) = (true, k + List.findIdx (below x) (List.drop k l))) ∧ (lowR (List.drop k l) x = false → (false, (0 : Nat)) = (false, (0 : Nat)))))) ∧ (decide ((↑k : Int) < (↑(List.length l) : Int)) = false → (lowR (List.drop k l) x = true → False) ∧ (lowR (List.drop k l) x = false → True ∧ True ∧ true = true))
theorem vcIxL_eq (b : Bool) (x : Rec) (l : List Rec) (k : Nat) : (loopVC Tryd.prog (hT _) 77 2 (fun k => l.length - k) (ixT b x l) (fun _ => []) [0] (ixO l x) ixS k) = vcIxL b x l k := by kernel_rfl
noncomputable def ixH (b : Bool) (x : Rec) (l : List Rec) : HintsT Tryd.prog := hh _ (lp1 77 2 (jobOf (ixT b x l) (fun _ => []) [0] (ixO l x) ixS 0) noLp) noCs noOp
def vcCf (b : Bool) (x : Rec) (l : List Rec) : Prop :=
  (((b = b ∧ List.length l = List.length l ∧ contLe (List.length l) (5 : Nat) (cellsOf' encR l) (cellsOf' encR l)) ∧ (True ∧ (false = false ∧ (5 : Nat) ≤ (5 : Nat) ∧ cellLe (5 : Nat) (Ax.get [AV.y (Value.int IntKind.u64 x.off), AV.y (Value.string x.key), AV.ys true (1 : Nat) (List.length x.val) (cellsOf' encB x.val), AV.y (Value.int IntKind.u64 x.prod), AV.y (Value.int IntKind.u64 x.seq)]) (Ax.get [AV.y (Value.int IntKind.u64 x.off), AV.y (Value.string x.key), AV.ys true (1 : Nat) (List.length x.val) (cellsOf' encB x.val), AV.y (Value.int IntKind.u64 x.prod), AV.y (Value.int IntKind.u64 x.seq)])) ∧ True) ∧ (0 : Int) = (0 : Int) ∧ (↑(List.length l) : Int) = (↑(List.length l) : Int) ∧ (0 : Int) = (0 : Int) ∧ True) ∧ True ∧ true = true) ∧ LoopOk Tryd.prog (77 : Nat) (2 : Nat) (loopAt Tryd.prog (77 : Nat) (2 : Nat)) { t := ixT b x l (0 : Nat), m := [], mv := [] : St } (T.map (lout [(0 : Nat)] ixS) (ixO l x (0 : Nat))) ∧ (lowR (List.drop (0 : Nat) l) x = true → true = lowR l x ∧ True) ∧ (lowR (List.drop (0 : Nat) l) x = false → false = lowR l x ∧ True)
theorem vcCf_eq (b : Bool) (x : Rec) (l : List Rec) : (ctrVC Tryd.prog (ixH b x l) 63 [encRs b l, fnW x] [] (boolR (lowR l x))) = vcCf b x l := by kernel_rfl
def lwT (b : Bool) (l : List Rec) (k : Nat) : List AV := mkT 30 [(0, encRs b l), (3, .ptr 0 0 0 0), (4, .s (.bool false)), (5, .y (.int .i64 k))]
def lwM (x : Rec) : List Blk := [.box 27 (encR x)]
def lwS (x : Rec) (r : Bool) : Exit × List AV × List Blk := match r with
  | true => (.ret, mkT 30 [(4, .s (.bool true))], lwM x)
  | false => (.exit 0, mkT 30 [], lwM x)
def lwO (l : List Rec) (x : Rec) (k : Nat) : T Bool := .ite (lowR (l.drop k) x) (.ret true) (.ret false)
def vcLwL (b : Bool) (x : Rec) (l : List Rec) (k : Nat) : Prop :=
  (decide ((↑k : Int) < (↑(List.length l) : Int)) = true → (true && decide ((↑k : Int) < (↑(List.length l) : Int))) = true ∧ (((List.getD l (Int.toNat (↑k : Int)) (@default Rec instInhabitedRec)).prod == x.prod) = true → (true && decide ((↑k : Int) < (↑(List.length l) : Int))) = true ∧ (decide ((List.getD l (Int.toNat (↑k : Int)) (@default Rec instInhabitedRec)).seq < x.seq) = true → (lowR (List.drop k l) x = true → (true = true ∧ True) ∧ ((x.off = x.off ∧ x.key = x.key ∧ (true = true ∧ List.length x.val = List.length x.val ∧ contLe (List.length x.val) (1 : Nat) (cellsOf' encB x.val) (cellsOf' encB x.val)) ∧ x.prod = x.prod ∧ x.seq = x.seq ∧ True) ∧ True) ∧ true = true) ∧ (lowR (List.drop k l) x = false → False)) ∧ (decide ((List.getD l (Int.toNat (↑k : Int)) (@default Rec instInhabitedRec)).seq < x.seq) = false → ∃ (j : Nat), List.length l - j < List.length l - k ∧ (((b = b ∧ List.length l = List.length l ∧ contLe (List.length l) (5 : Nat) (cellsOf' encR l) (cellsOf' encR l)) ∧ ((0 : Nat) = (0 : Nat) ∧ (0 : Nat) = (0 : Nat)) ∧ false = false ∧ IntKind.wrap IntKind.i64 ((↑k : Int) + (1 : Int)) = (↑j : Int) ∧ True) ∧ ((x.off = x.off ∧ x.key = x.key ∧ (true = true ∧ List.length x.val = List.length x.val ∧ contLe (List.length x.val) (1 : Nat) (cellsOf' encB x.val) (cellsOf' encB x.val)) ∧ x.prod = x.prod ∧ x.seq = x.seq ∧ True) ∧ True) ∧ true = true) ∧ true = true ∧ (lowR (List.drop j l) x = true → (lowR (List.drop k l) x = true → true = true) ∧ (lowR (List.drop k l) x = false → true = false)) ∧ (lowR (List.drop j l) x = false → (lowR (List.drop k l) x = true → false = true) ∧ (lowR (List.drop k l) x = false → false = false)))) ∧ (((List.getD l (Int.toNat (↑k : Int)) (@default Rec instInhabitedRec)).prod == x.prod) = false → ∃ (j : Nat), List.length l - j < List.length l - k ∧ (((b = b ∧ List.length l = List.length l ∧ contLe (List.length l) (5 : Nat) (cellsOf' encR l) (cellsOf' encR l)) ∧ ((0 : Nat) = (0 : Nat) ∧ (0 : Nat) = (0 : Nat)) ∧ false = false ∧ IntKind.wrap IntKind.i64 ((↑k : Int) + (1 : Int)) = (↑j : Int) ∧ True) ∧ ((x.off = x.off ∧ x.key = x.key ∧ (true = true ∧ List.length x.val = List.length x.val ∧ contLe (List.length x.val) (1 : Nat) (cellsOf' encB x.val) (cellsOf' encB x.val)) ∧ x.prod = x.prod ∧ x.seq = x.seq ∧ True) ∧ True) ∧ true = true) ∧ true = true ∧ (lowR (List.drop j l) x = true → (lowR (List.drop k l) x = true → true = true) ∧ (lowR (List.drop k l) x = false → true = false)) ∧ (lowR (List.drop j l) x = false → (lowR (List.drop k l) x = true → false = true) ∧ (lowR (List.drop k l) x = false → false = false)))) ∧ (decide ((↑k : Int) < (↑(List.length l) : Int)) = false → (lowR (List.drop k l) x = true → False) ∧ (lowR (List.drop k l) x = false → True ∧ ((x.off = x.off ∧ x.key = x.key ∧ (true = true ∧ List.length x.val = List.length x.val ∧ contLe (List.length x.val) (1 : Nat) (cellsOf' encB x.val) (cellsOf' encB x.val)) ∧ x.prod = x.prod ∧ x.seq = x.seq ∧ True) ∧ True) ∧ true = true))
theorem vcLwL_eq (b : Bool) (x : Rec) (l : List Rec) (k : Nat) : (loopVC Tryd.prog (hT _) 52 2 (fun k => l.length - k) (lwT b l) (fun _ => lwM x) [0, 1, 2] (lwO l x) (lwS x) k) = vcLwL b x l k := by kernel_rfl
noncomputable def lwH (b : Bool) (x : Rec) (l : List Rec) : HintsT Tryd.prog := hh _ (lp1 52 2 (jobOf (lwT b l) (fun _ => lwM x) [0, 1, 2] (lwO l x) (lwS x) 0) noLp) noCs noOp
def vcLw (b : Bool) (x : Rec) (l : List Rec) : Prop :=
  (((b = b ∧ List.length l = List.length l ∧ contLe (List.length l) (5 : Nat) (cellsOf' encR l) (cellsOf' encR l)) ∧ ((0 : Nat) = (0 : Nat) ∧ (0 : Nat) = (0 : Nat)) ∧ false = false ∧ (0 : Int) = (0 : Int) ∧ True) ∧ ((x.off = x.off ∧ x.key = x.key ∧ (true = true ∧ List.length x.val = List.length x.val ∧ contLe (List.length x.val) (1 : Nat) (cellsOf' encB x.val) (cellsOf' encB x.val)) ∧ x.prod = x.prod ∧ x.seq = x.seq ∧ True) ∧ True) ∧ true = true) ∧ LoopOk Tryd.prog (52 : Nat) (2 : Nat) (loopAt Tryd.prog (52 : Nat) (2 : Nat)) { t := lwT b l (0 : Nat), m := lwM x, mv := [] : St } (T.map (lout [(0 : Nat), (1 : Nat), (2 : Nat)] (lwS x)) (lwO l x (0 : Nat))) ∧ (lowR (List.drop (0 : Nat) l) x = true → true = lowR l x ∧ True) ∧ (lowR (List.drop (0 : Nat) l) x = false → false = lowR l x ∧ True)
theorem vcLw_eq (b : Bool) (x : Rec) (l : List Rec) : (ctrVC Tryd.prog (lwH b x l) 52 [encRs b l, .agg (encR x)] [] (boolR (lowR l x))) = vcLw b x l := by kernel_rfl
end Go.Proofs.YtjmdejbijigfjaaDoor

namespace Go.Proofs.YtjmdejbijigfjaaDoor
open Go.Ax
set_option maxRecDepth 1000000
theorem lg_loop (b : Bool) (l : List Rec) (hl : l.length ≤ 9223372036854775806) (k : Nat) : LoopOk Tryd.prog 20 2 (loopAt Tryd.prog 20 2) ⟨lgT b l k, [], []⟩ ((lgO l k).map (lout [0] (lgS b l))) := by
  refine loop_vc Tryd.mixed (fun _ => rfl) (fun k => (vcLgL_eq b l k).mpr ?_) k
  unfold vcLgL
  simp
  refine ⟨fun h => ?_, fun h => by simp [logFrom_end h]⟩
  rw [logFrom_step h]
  simp (disch := omega) only [wrap_i64]
  simp [okR, cast_succ_eq]
  generalize l[k]?.getD default = x
  grind
theorem lg_c (b : Bool) (l : List Rec) (hl : l.length ≤ 9223372036854775806) : (boolR (isLog l)).Sat (ACall' Tryd.prog 20 [encRs b l] []) := by
  refine ctr_vc (ht := lgH b l) Tryd.mixed rfl ?_
  rw [vcLg_eq b l]
  unfold vcLg
  have := lg_loop b l hl 0
  simp [this, isLog]
  grind
theorem lr_loop (b : Bool) (l : List Rec) (hl : l.length ≤ 9223372036854775806) (k : Nat) : LoopOk Tryd.prog 21 4 (loopAt Tryd.prog 21 4) ⟨lrT b l k, [], []⟩ ((lgO l k).map (lout [0] lrS)) := by
  refine loop_vc Tryd.mixed (fun _ => rfl) (fun k => (vcLrL_eq b l k).mpr ?_) k
  unfold vcLrL
  simp
  refine ⟨fun h => ?_, fun h => by simp [logFrom_end h]⟩
  rw [logFrom_step h]
  simp (disch := omega) only [wrap_i64]
  simp [okR, cast_succ_eq]
  generalize l[k]?.getD default = x
  grind
theorem lr_c (b : Bool) (l : List Rec) (hl : l.length ≤ 9223372036854775806) : (boolR (isLog l)).Sat (ACall' Tryd.prog 21 [encRs b l] []) := by
  refine ctr_vc (ht := lrH b l) Tryd.mixed rfl ?_
  rw [vcLr_eq b l]
  unfold vcLr
  have := lr_loop b l hl 0
  simp [this, isLog]
  grind
theorem ix_loop (b : Bool) (x : Rec) (l : List Rec) (hl : l.length ≤ 9223372036854775806) (k : Nat) : LoopOk Tryd.prog 77 2 (loopAt Tryd.prog 77 2) ⟨ixT b x l k, [], []⟩ ((ixO l x k).map (lout [0] ixS)) := by
  refine loop_vc Tryd.mixed (fun _ => rfl) (fun k => (vcIxL_eq b x l k).mpr ?_) k
  unfold vcIxL
  simp
  refine ⟨fun h => ?_, fun h => by simp [drop_end h, low_nil]⟩
  simp (disch := omega) only [wrap_i64]
  rw [drop_cons h]
  simp only [low_cons, List.findIdx_cons]
  generalize l[k]?.getD default = y
  by_cases h1 : y.prod = x.prod
  · by_cases h2 : y.seq < x.seq
    · simp [below, h1, h2, h]
      exact fun e => absurd e (by omega)
    · simp [below, h1, h2, h, cast_succ_eq]
      exact fun _ => ⟨k + 1, by omega, rfl, by grind⟩
  · simp [below, h1, h, cast_succ_eq]
    exact ⟨k + 1, by omega, rfl, by grind⟩
theorem cf_c (b : Bool) (x : Rec) (l : List Rec) (hl : l.length ≤ 9223372036854775806) : (boolR (lowR l x)).Sat (ACall' Tryd.prog 63 [encRs b l, fnW x] []) := by
  refine ctr_vc (ht := ixH b x l) Tryd.mixed rfl ?_
  rw [vcCf_eq b x l]
  unfold vcCf
  have := ix_loop b x l hl 0
  simp [this]
theorem lw_loop (b : Bool) (x : Rec) (l : List Rec) (hl : l.length ≤ 9223372036854775806) (k : Nat) : LoopOk Tryd.prog 52 2 (loopAt Tryd.prog 52 2) ⟨lwT b l k, lwM x, []⟩ ((lwO l x k).map (lout [0, 1, 2] (lwS x))) := by
  refine loop_vc (stM := fun _ => lwM x) Tryd.mixed (fun _ => rfl) (fun k => (vcLwL_eq b x l k).mpr ?_) k
  unfold vcLwL
  simp
  refine ⟨fun h => ?_, fun h => by simp [drop_end h, low_nil]⟩
  simp (disch := omega) only [wrap_i64]
  rw [drop_cons h]
  simp only [low_cons]
  generalize l[k]?.getD default = y
  by_cases h1 : y.prod = x.prod
  · by_cases h2 : y.seq < x.seq
    · simp [below, h1, h2, h]
      exact fun e => absurd e (by omega)
    · simp [below, h1, h2, h, cast_succ_eq]
      exact fun _ => ⟨k + 1, by omega, rfl, by grind⟩
  · simp [below, h1, h, cast_succ_eq]
    exact ⟨k + 1, by omega, rfl, by grind⟩
theorem lw_c (b : Bool) (x : Rec) (l : List Rec) (hl : l.length ≤ 9223372036854775806) : (boolR (lowR l x)).Sat (ACall' Tryd.prog 52 [encRs b l, .agg (encR x)] []) := by
  refine ctr_vc (ht := lwH b x l) Tryd.mixed rfl ?_
  rw [vcLw_eq b x l]
  unfold vcLw
  have := lw_loop b x l hl 0
  simp [this]
noncomputable def lgC (b : Bool) (l : List Rec) : Ctr Tryd.prog := ⟨20, [encRs b l], [], .need (l.length ≤ 9223372036854775806) (boolR (isLog l)), T.Sat.need fun h => lg_c b l h⟩
noncomputable def lrC (b : Bool) (l : List Rec) : Ctr Tryd.prog := ⟨21, [encRs b l], [], .need (l.length ≤ 9223372036854775806) (boolR (isLog l)), T.Sat.need fun h => lr_c b l h⟩
noncomputable def cfC (b : Bool) (x : Rec) (l : List Rec) : Ctr Tryd.prog := ⟨63, [encRs b l, fnW x], [], .need (l.length ≤ 9223372036854775806) (boolR (lowR l x)), T.Sat.need fun h => cf_c b x l h⟩
noncomputable def lwC (b : Bool) (x : Rec) (l : List Rec) : Ctr Tryd.prog := ⟨52, [encRs b l, .agg (encR x)], [], .need (l.length ≤ 9223372036854775806) (boolR (lowR l x)), T.Sat.need fun h => lw_c b x l h⟩
end Go.Proofs.YtjmdejbijigfjaaDoor

namespace Go.Proofs.YtjmdejbijigfjaaDoor
open Go.Ax
set_option maxRecDepth 1000000
def hd (l : List Rec) : Rec := l.getD 0 default
structure Jo where
  (a b out : List Rec) (ta tb : List Int)
def Jo.tA (s : Jo) : Bool := !s.a.isEmpty && !lowR s.b (hd s.a)
def Jo.tB (s : Jo) : Bool := !s.b.isEmpty && !lowR s.a (hd s.b)
def Jo.at (s : Jo) : Int := IntKind.u64.wrap (s.out.length : Nat)
def Jo.goA (s : Jo) : Jo := ⟨s.a.tail, s.b, s.out ++ [(hd s.a).to s.at], s.ta ++ [s.at], s.tb⟩
def Jo.goB (s : Jo) : Jo := ⟨s.a, s.b.tail, s.out ++ [(hd s.b).to s.at], s.ta, s.tb ++ [s.at]⟩
def joinN : Nat → Jo → Option Jo
  | 0, s => some s
  | n + 1, s => if s.tA then joinN n s.goA else if s.tB then joinN n s.goB else none
def Jo.run (s : Jo) : Option Jo := joinN (s.a.length + s.b.length) s
def sideV (b : Bool) (l : List Rec) : AV := .ip false 2 (get [encRs b l, .junk])
noncomputable def waitH (b1 b2 : Bool) (a b : List Rec) : HintsT Tryd.prog := hh _ noLp (cs1 49 2 5 (cfC b2 (hd a) b) noCs) noOp
def vcWait (b1 : Bool) (b2 : Bool) (a : List Rec) (b : List Rec) : Prop :=
  (true && decide ((0 : Int) < (↑(List.length a) : Int))) = true ∧ ((b2 = b2 ∧ List.length b = List.length b ∧ contLe (List.length b) (5 : Nat) (cellsOf' encR b) (cellsOf' encR b)) ∧ (True ∧ (false = false ∧ (5 : Nat) ≤ (5 : Nat) ∧ cellLe (5 : Nat) (fun (j : Nat) => Ax.get [AV.y (Value.int IntKind.u64 (List.getD a (0 : Nat) (@default Rec instInhabitedRec)).off), AV.y (Value.string (List.getD a (0 : Nat) (@default Rec instInhabitedRec)).key), AV.ys true (1 : Nat) (List.length (List.getD a (0 : Nat) (@default Rec instInhabitedRec)).val) (cellsOf' encB (List.getD a (0 : Nat) (@default Rec instInhabitedRec)).val), AV.y (Value.int IntKind.u64 (List.getD a (0 : Nat) (@default Rec instInhabitedRec)).prod), AV.y (Value.int IntKind.u64 (List.getD a (0 : Nat) (@default Rec instInhabitedRec)).seq)] ((0 : Nat) + j)) (Ax.get [AV.y (Value.int IntKind.u64 (hd a).off), AV.y (Value.string (hd a).key), AV.ys true (1 : Nat) (List.length (hd a).val) (cellsOf' encB (hd a).val), AV.y (Value.int IntKind.u64 (hd a).prod), AV.y (Value.int IntKind.u64 (hd a).seq)])) ∧ True) ∧ True) ∧ True ∧ List.length b ≤ (9223372036854775806 : Nat) ∧ true = true ∧ True ∧ lowR b (hd a) = lowR b (hd a) ∧ True
theorem vcWait_eq (b1 : Bool) (b2 : Bool) (a : List Rec) (b : List Rec) : (ctrVC Tryd.prog (waitH b1 b2 a b) 49 [sideV b1 a, sideV b2 b] [] (boolR (lowR b (hd a)))) = vcWait b1 b2 a b := by kernel_rfl
theorem wait_c (b1 b2 : Bool) (a b : List Rec) (h0 : 0 < a.length) (hl : b.length ≤ 9223372036854775806) : (boolR (lowR b (hd a))).Sat (ACall' Tryd.prog 49 [sideV b1 a, sideV b2 b] []) := by
  refine ctr_vc (ht := waitH b1 b2 a b) Tryd.mixed rfl ?_
  rw [vcWait_eq b1 b2 a b]
  unfold vcWait
  have e : a.getD 0 default = hd a := rfl
  simp only [e]
  simp [h0, hl]
noncomputable def waitC (b1 b2 : Bool) (a b : List Rec) : Ctr Tryd.prog := ⟨49, [sideV b1 a, sideV b2 b], [], .need (0 < a.length ∧ b.length ≤ 9223372036854775806) (boolR (lowR b (hd a))), T.Sat.need fun h => wait_c b1 b2 a b h.1 h.2⟩
def jT (s : Jo) : List AV := mkT 121 [(8, .ptr 1 0 0 0), (9, .ptr 3 0 0 0), (10, .own 4 5 0 s.out.length)]
inductive JR where
  | ok (s : Jo)
  | bad
def jO (s : Jo) : T JR := .ite s.run.isSome (.ret (.ok (s.run.getD s))) (.ret .bad)
structure Jo.Ok (s : Jo) : Prop where
  a : ∀ x ∈ s.a, x.val.length ≤ 256
  b : ∀ x ∈ s.b, x.val.length ≤ 256
  n : s.a.length + s.b.length + s.out.length ≤ 4096
  ta : s.ta.length ≤ s.out.length
  tb : s.tb.length ≤ s.out.length
def jX : List Nat := [0, 1, 2, 3, 4, 5, 6, 7, 8, 9, 10]
def kM (s : Jo) : List Blk := [rowR s.out, rowU s.ta, rowU s.tb]
def kT (b1 b2 : Bool) (s : Jo) : List AV := mkT 114 [(0, encRs b1 s.a), (1, encRs b2 s.b), (10, .own 0 5 0 s.out.length), (11, .own 1 1 0 s.ta.length), (12, .own 2 1 0 s.tb.length)]
def kS (b1 b2 : Bool) (r : JR) : Exit × List AV × List Blk := match r with
  | .ok s => (.exit 0, kT b1 b2 s, kM s)
  | .bad => (.ret, mkT 114 [(4, .s (.slice none 0 0)), (5, .s (.slice none 0 0)), (6, .s (.slice none 0 0)), (7, .s (.int .i64 145))], [])
noncomputable def kH (b1 b2 : Bool) (s : Jo) : HintsT Tryd.prog := hh _ noLp (cs1 26 14 4 (lwC b2 (hd s.a) s.b) (cs1 26 17 4 (lwC b1 (hd s.b) s.a) (cs1 26 22 6 (atC (hd s.a) s.out.length) (cs1 26 26 6 (atC (hd s.b) s.out.length) noCs)))) noOp
def vcK (b1 : Bool) (b2 : Bool) (s : { s : Jo // s.Ok }) : Prop :=
  (decide ((0 : Int) < IntKind.wrap IntKind.i64 ((↑(List.length s.val.a) : Int) + (↑(List.length s.val.b) : Int))) = true → (decide ((0 : Int) < (↑(List.length s.val.a) : Int)) = true → (true && decide ((0 : Int) < (↑(List.length s.val.a) : Int))) = true ∧ ((b2 = b2 ∧ List.length s.val.b = List.length s.val.b ∧ contLe (List.length s.val.b) (5 : Nat) (cellsOf' encR s.val.b) (cellsOf' encR s.val.b)) ∧ ((List.getD s.val.a (0 : Nat) (@default Rec instInhabitedRec)).off = (hd s.val.a).off ∧ (List.getD s.val.a (0 : Nat) (@default Rec instInhabitedRec)).key = (hd s.val.a).key ∧ (true = true ∧ List.length (List.getD s.val.a (0 : Nat) (@default Rec instInhabitedRec)).val = List.length (hd s.val.a).val ∧ contLe (List.length (List.getD s.val.a (0 : Nat) (@default Rec instInhabitedRec)).val) (1 : Nat) (cellsOf' encB (List.getD s.val.a (0 : Nat) (@default Rec instInhabitedRec)).val) (cellsOf' encB (hd s.val.a).val)) ∧ (List.getD s.val.a (0 : Nat) (@default Rec instInhabitedRec)).prod = (hd s.val.a).prod ∧ (List.getD s.val.a (0 : Nat) (@default Rec instInhabitedRec)).seq = (hd s.val.a).seq ∧ True) ∧ True) ∧ True ∧ List.length s.val.b ≤ (9223372036854775806 : Nat) ∧ ((!!lowR s.val.b (hd s.val.a)) = true → (decide ((0 : Int) < (↑(List.length s.val.b) : Int)) = true → (true && decide ((0 : Int) < (↑(List.length s.val.b) : Int))) = true ∧ ((b1 = b1 ∧ List.length s.val.a = List.length s.val.a ∧ contLe (List.length s.val.a) (5 : Nat) (cellsOf' encR s.val.a) (cellsOf' encR s.val.a)) ∧ ((List.getD s.val.b (0 : Nat) (@default Rec instInhabitedRec)).off = (hd s.val.b).off ∧ (List.getD s.val.b (0 : Nat) (@default Rec instInhabitedRec)).key = (hd s.val.b).key ∧ (true = true ∧ List.length (List.getD s.val.b (0 : Nat) (@default Rec instInhabitedRec)).val = List.length (hd s.val.b).val ∧ contLe (List.length (List.getD s.val.b (0 : Nat) (@default Rec instInhabitedRec)).val) (1 : Nat) (cellsOf' encB (List.getD s.val.b (0 : Nat) (@default Rec instInhabitedRec)).val) (cellsOf' encB (hd s.val.b).val)) ∧ (List.getD s.val.b (0 : Nat) (@default Rec instInhabitedRec)).prod = (hd s.val.b).prod ∧ (List.getD s.val.b (0 : Nat) (@default Rec instInhabitedRec)).seq = (hd s.val.b).seq ∧ True) ∧ True) ∧ True ∧ List.length s.val.a ≤ (9223372036854775806 : Nat) ∧ ((!lowR s.val.b (hd s.val.a)) = true → (decide (List.length s.val.ta = List.length s.val.ta) && decide (List.length s.val.ta + (1 : Nat) ≤ (9223372036854775807 : Nat)) && decide ((List.length s.val.ta + (1 : Nat)) * (8 : Nat) ≤ (140737488355328 : Nat))) = true ∧ (true && decide ((0 : Int) < (↑(List.length s.val.a) : Int))) = true ∧ (((List.getD s.val.a (0 : Nat) (@default Rec instInhabitedRec)).off = (hd s.val.a).off ∧ (List.getD s.val.a (0 : Nat) (@default Rec instInhabitedRec)).key = (hd s.val.a).key ∧ (true = true ∧ List.length (List.getD s.val.a (0 : Nat) (@default Rec instInhabitedRec)).val = List.length (hd s.val.a).val ∧ contLe (List.length (List.getD s.val.a (0 : Nat) (@default Rec instInhabitedRec)).val) (1 : Nat) (cellsOf' encB (List.getD s.val.a (0 : Nat) (@default Rec instInhabitedRec)).val) (cellsOf' encB (hd s.val.a).val)) ∧ (List.getD s.val.a (0 : Nat) (@default Rec instInhabitedRec)).prod = (hd s.val.a).prod ∧ (List.getD s.val.a (0 : Nat) (@default Rec instInhabitedRec)).seq = (hd s.val.a).seq ∧ True) ∧ (↑(List.length s.val.out) : Int) = (↑(List.length s.val.out) : Int) ∧ True) ∧ True ∧ List.length (hd s.val.a).val ≤ (140737488355328 : Nat) ∧ (decide (List.length s.val.out = List.length s.val.out) && decide (List.length s.val.out + (1 : Nat) ≤ (9223372036854775807 : Nat)) && decide ((List.length s.val.out + (1 : Nat)) * (64 : Nat) ≤ (140737488355328 : Nat))) = true ∧ (true && decide ((1 : Int) ≤ (↑(List.length s.val.a) : Int)) && decide ((↑(List.length s.val.a) : Int) ≤ (↑(List.length s.val.a) : Int))) = true ∧ ∃ (j : { s : Jo // Jo.Ok s }), List.length j.val.a + List.length j.val.b < List.length s.val.a + List.length s.val.b ∧ (((b1 = b1 ∧ Int.toNat (↑(List.length s.val.a) : Int) - (1 : Nat) = List.length j.val.a ∧ contLe (Int.toNat (↑(List.length s.val.a) : Int) - (1 : Nat)) (5 : Nat) (fun (k : Nat) => cellsOf' encR s.val.a ((1 : Nat) + k)) (cellsOf' encR j.val.a)) ∧ (b2 = b2 ∧ List.length s.val.b = List.length j.val.b ∧ contLe (List.length s.val.b) (5 : Nat) (cellsOf' encR s.val.b) (cellsOf' encR j.val.b)) ∧ ((0 : Nat) = (0 : Nat) ∧ List.length s.val.out + (1 : Nat) = List.length j.val.out) ∧ ((0 : Nat) = (0 : Nat) ∧ List.length s.val.ta + (1 : Nat) = List.length j.val.ta) ∧ ((0 : Nat) = (0 : Nat) ∧ List.length s.val.tb = List.length j.val.tb) ∧ True) ∧ ((List.length s.val.out + (1 : Nat) = List.length j.val.out ∧ contLe (List.length s.val.out + (1 : Nat)) (5 : Nat) (appRow (List.length s.val.out) (cellsOf' encR s.val.out) fun (k j : Nat) => Ax.get [AV.y (Value.int IntKind.u64 (IntKind.wrap IntKind.u64 (↑(List.length s.val.out) : Int))), AV.y (Value.string (hd s.val.a).key), AV.ys true (1 : Nat) (List.length (hd s.val.a).val) (cellsOf' encB (hd s.val.a).val), AV.y (Value.int IntKind.u64 (hd s.val.a).prod), AV.y (Value.int IntKind.u64 (hd s.val.a).seq)] (k * (5 : Nat) + j)) (cellsOf' encR j.val.out)) ∧ (List.length s.val.ta + (1 : Nat) = List.length j.val.ta ∧ contLe (List.length s.val.ta + (1 : Nat)) (1 : Nat) (appRow (List.length s.val.ta) (cellsOf' encU s.val.ta) fun (k j : Nat) => Ax.get [AV.y (Value.int IntKind.u64 (IntKind.wrap IntKind.u64 (↑(List.length s.val.out) : Int)))] (k * (1 : Nat) + j)) (cellsOf' encU j.val.ta)) ∧ (List.length s.val.tb = List.length j.val.tb ∧ contLe (List.length s.val.tb) (1 : Nat) (cellsOf' encU s.val.tb) (cellsOf' encU j.val.tb)) ∧ True) ∧ true = true) ∧ true = true ∧ (Option.isSome (Jo.run j.val) = true → (Option.isSome (Jo.run s.val) = true → JR.ok (Option.getD (Jo.run j.val) j.val) = JR.ok (Option.getD (Jo.run s.val) s.val)) ∧ (Option.isSome (Jo.run s.val) = false → JR.ok (Option.getD (Jo.run j.val) j.val) = JR.bad)) ∧ (Option.isSome (Jo.run j.val) = false → (Option.isSome (Jo.run s.val) = true → JR.bad = JR.ok (Option.getD (Jo.run s.val) s.val)) ∧ (Option.isSome (Jo.run s.val) = false → JR.bad = JR.bad))) ∧ ((!lowR s.val.b (hd s.val.a)) = false → ((!lowR s.val.a (hd s.val.b)) = true → (decide (List.length s.val.tb = List.length s.val.tb) && decide (List.length s.val.tb + (1 : Nat) ≤ (9223372036854775807 : Nat)) && decide ((List.length s.val.tb + (1 : Nat)) * (8 : Nat) ≤ (140737488355328 : Nat))) = true ∧ (true && decide ((0 : Int) < (↑(List.length s.val.b) : Int))) = true ∧ (((List.getD s.val.b (0 : Nat) (@default Rec instInhabitedRec)).off = (hd s.val.b).off ∧ (List.getD s.val.b (0 : Nat) (@default Rec instInhabitedRec)).key = (hd s.val.b).key ∧ (true = true ∧ List.length (List.getD s.val.b (0 : Nat) (@default Rec instInhabitedRec)).val = List.length (hd s.val.b).val ∧ contLe (List.length (List.getD s.val.b (0 : Nat) (@default Rec instInhabitedRec)).val) (1 : Nat) (cellsOf' encB (List.getD s.val.b (0 : Nat) (@default Rec instInhabitedRec)).val) (cellsOf' encB (hd s.val.b).val)) ∧ (List.getD s.val.b (0 : Nat) (@default Rec instInhabitedRec)).prod = (hd s.val.b).prod ∧ (List.getD s.val.b (0 : Nat) (@default Rec instInhabitedRec)).seq = (hd s.val.b).seq ∧ True) ∧ (↑(List.length s.val.out) : Int) = (↑(List.length s.val.out) : Int) ∧ True) ∧ True ∧ List.length (hd s.val.b).val ≤ (140737488355328 : Nat) ∧ (decide (List.length s.val.out = List.length s.val.out) && decide (List.length s.val.out + (1 : Nat) ≤ (9223372036854775807 : Nat)) && decide ((List.length s.val.out + (1 : Nat)) * (64 : Nat) ≤ (140737488355328 : Nat))) = true ∧ (true && decide ((1 : Int) ≤ (↑(List.length s.val.b) : Int)) && decide ((↑(List.length s.val.b) : Int) ≤ (↑(List.length s.val.b) : Int))) = true ∧ ∃ (j : { s : Jo // Jo.Ok s }), List.length j.val.a + List.length j.val.b < List.length s.val.a + List.length s.val.b ∧ (((b1 = b1 ∧ List.length s.val.a = List.length j.val.a ∧ contLe (List.length s.val.a) (5 : Nat) (cellsOf' encR s.val.a) (cellsOf' encR j.val.a)) ∧ (b2 = b2 ∧ Int.toNat (↑(List.length s.val.b) : Int) - (1 : Nat) = List.length j.val.b ∧ contLe (Int.toNat (↑(List.length s.val.b) : Int) - (1 : Nat)) (5 : Nat) (fun (k : Nat) => cellsOf' encR s.val.b ((1 : Nat) + k)) (cellsOf' encR j.val.b)) ∧ ((0 : Nat) = (0 : Nat) ∧ List.length s.val.out + (1 : Nat) = List.length j.val.out) ∧ ((0 : Nat) = (0 : Nat) ∧ List.length s.val.ta = List.length j.val.ta) ∧ ((0 : Nat) = (0 : Nat) ∧ List.length s.val.tb + (1 : Nat) = List.length j.val.tb) ∧ True) ∧ ((List.length s.val.out + (1 : Nat) = List.length j.val.out ∧ contLe (List.length s.val.out + (1 : Nat)) (5 : Nat) (appRow (List.length s.val.out) (cellsOf' encR s.val.out) fun (k j : Nat) => Ax.get [AV.y (Value.int IntKind.u64 (IntKind.wrap IntKind.u64 (↑(List.length s.val.out) : Int))), AV.y (Value.string (hd s.val.b).key), AV.ys true (1 : Nat) (List.length (hd s.val.b).val) (cellsOf' encB (hd s.val.b).val), AV.y (Value.int IntKind.u64 (hd s.val.b).prod), AV.y (Value.int IntKind.u64 (hd s.val.b).seq)] (k * (5 : Nat) + j)) (cellsOf' encR j.val.out)) ∧ (List.length s.val.ta = List.length j.val.ta ∧ contLe (List.length s.val.ta) (1 : Nat) (cellsOf' encU s.val.ta) (cellsOf' encU j.val.ta)) ∧ (List.length s.val.tb + (1 : Nat) = List.length j.val.tb ∧ contLe (List.length s.val.tb + (1 : Nat)) (1 : Nat) (appRow (List.length s.val.tb) (cellsOf' encU s.val.tb) fun (k j : Nat) => Ax.get [AV.y (Value.int IntKind.u64 (IntKind.wrap IntKind.u64 (↑(List.length s.val.out) : Int)))] (k * (1 : Nat) + j)) (cellsOf' encU j.val.tb)) ∧ True) ∧ true = true) ∧ true = true ∧ (Option.isSome (Jo.run j.val) = true → (Option.isSome (Jo.run s.val) = true → JR.ok (Option.getD (Jo.run j.val) j.val) = JR.ok (Option.getD (Jo.run s.val) s.val)) ∧ (Option.isSome (Jo.run s.val) = false → JR.ok (Option.getD (Jo.run j.val) j.val) = JR.bad)) ∧ (Option.isSome (Jo.run j.val) = false → (Option.isSome (Jo.run s.val) = true → JR.bad = JR.ok (Option.getD (Jo.run s.val) s.val)) ∧ (Option.isSome (Jo.run s.val) = false → JR.bad = JR.bad))) ∧ ((!lowR s.val.a (hd s.val.b)) = false → (Option.isSome (Jo.run s.val) = true → False) ∧ (Option.isSome (Jo.run s.val) = false → (True ∧ True ∧ True ∧ (145 : Int) = (145 : Int) ∧ True) ∧ True ∧ true = true)))) ∧ (decide ((0 : Int) < (↑(List.length s.val.b) : Int)) = false → ((!lowR s.val.b (hd s.val.a)) = true → (decide (List.length s.val.ta = List.length s.val.ta) && decide (List.length s.val.ta + (1 : Nat) ≤ (9223372036854775807 : Nat)) && decide ((List.length s.val.ta + (1 : Nat)) * (8 : Nat) ≤ (140737488355328 : Nat))) = true ∧ (true && decide ((0 : Int) < (↑(List.length s.val.a) : Int))) = true ∧ (((List.getD s.val.a (0 : Nat) (@default Rec instInhabitedRec)).off = (hd s.val.a).off ∧ (List.getD s.val.a (0 : Nat) (@default Rec instInhabitedRec)).key = (hd s.val.a).key ∧ (true = true ∧ List.length (List.getD s.val.a (0 : Nat) (@default Rec instInhabitedRec)).val = List.length (hd s.val.a).val ∧ contLe (List.length (List.getD s.val.a (0 : Nat) (@default Rec instInhabitedRec)).val) (1 : Nat) (cellsOf' encB (List.getD s.val.a (0 : Nat) (@default Rec instInhabitedRec)).val) (cellsOf' encB (hd s.val.a).val)) ∧ (List.getD s.val.a (0 : Nat) (@default Rec instInhabitedRec)).prod = (hd s.val.a).prod ∧ (List.getD s.val.a (0 : Nat) (@default Rec instInhabitedRec)).seq = (hd s.val.a).seq ∧ True) ∧ (↑(List.length s.val.out) : Int) = (↑(List.length s.val.out) : Int) ∧ True) ∧ True ∧ List.length (hd s.val.a).val ≤ (140737488355328 : Nat) ∧ (decide (List.length s.val.out = List.length s.val.out) && decide (List.length s.val.out + (1 : Nat) ≤ (9223372036854775807 : Nat)) && decide ((List.length s.val.out + (1 : Nat)) * (64 : Nat) ≤ (140737488355328 : Nat))) = true ∧ (true && decide ((1 : Int) ≤ (↑(List.length s.val.a) : Int)) && decide ((↑(List.length s.val.a) : Int) ≤ (↑(List.length s.val.a) : Int))) = true ∧ ∃ (j : { s : Jo // Jo.Ok s }), List.length j.val.a + List.length j.val.b < List.length s.val.a + List.length s.val.b ∧ (((b1 = b1 ∧ Int.toNat (↑(List.length s.val.a) : Int) - (1 : Nat) = List.length j.val.a ∧ contLe (Int.toNat (↑(List.length s.val.a) : Int) - (1 : Nat)) (5 : Nat) (fun (k : Nat) => cellsOf' encR s.val.a ((1 : Nat) + k)) (cellsOf' encR j.val.a)) ∧ (b2 = b2 ∧ List.length s.val.b = List.length j.val.b ∧ contLe (List.length s.val.b) (5 : Nat) (cellsOf' encR s.val.b) (cellsOf' encR j.val.b)) ∧ ((0 : Nat) = (0 : Nat) ∧ List.length s.val.out + (1 : Nat) = List.length j.val.out) ∧ ((0 : Nat) = (0 : Nat) ∧ List.length s.val.ta + (1 : Nat) = List.length j.val.ta) ∧ ((0 : Nat) = (0 : Nat) ∧ List.length s.val.tb = List.length j.val.tb) ∧ True) ∧ ((List.length s.val.out + (1 : Nat) = List.length j.val.out ∧ contLe (List.length s.val.out + (1 : Nat)) (5 : Nat) (appRow (List.length s.val.out) (cellsOf' encR s.val.out) fun (k j : Nat) => Ax.get [AV.y (Value.int IntKind.u64 (IntKind.wrap IntKind.u64 (↑(List.length s.val.out) : Int))), AV.y (Value.string (hd s.val.a).key), AV.ys true (1 : Nat) (List.length (hd s.val.a).val) (cellsOf' encB (hd s.val.a).val), AV.y (Value.int IntKind.u64 (hd s.val.a).prod), AV.y (Value.int IntKind.u64 (hd s.val.a).seq)] (k * (5 : Nat) + j)) (cellsOf' encR j.val.out)) ∧ (List.length s.val.ta + (1 : Nat) = List.length j.val.ta ∧ contLe (List.length s.val.ta + (1 : Nat)) (1 : Nat) (appRow (List.length s.val.ta) (cellsOf' encU s.val.ta) fun (k j : Nat) => Ax.get [AV.y (Value.int IntKind.u64 (IntKind.wrap IntKind.u64 (↑(List.length s.val.out) : Int)))] (k * (1 : Nat) + j)) (cellsOf' encU j.val.ta)) ∧ (List.length s.val.tb = List.length j.val.tb ∧ contLe (List.length s.val.tb) (1 : Nat) (cellsOf' encU s.val.tb) (cellsOf' encU j.val.tb)) ∧ True) ∧ true = true) ∧ true = true ∧ (Option.isSome (Jo.run j.val) = true → (Option.isSome (Jo.run s.val) = true → JR.ok (Option.getD (Jo.run j.val) j.val) = JR.ok (Option.getD (Jo.run s.val) s.val)) ∧ (Option.isSome (Jo.run s.val) = false → JR.ok (Option.getD (Jo.run j.val) j.val) = JR.bad)) ∧ (Option.isSome (Jo.run j.val) = false → (Option.isSome (Jo.run s.val) = true → JR.bad = JR.ok (Option.getD (Jo.run s.val) s.val)) ∧ (Option.isSome (Jo.run s.val) = false → JR.bad = JR.bad))) ∧ ((!lowR s.val.b (hd s.val.a)) = false → (Option.isSome (Jo.run s.val) = true → False) ∧ (Option.isSome (Jo.run s.val) = false → (True ∧ True ∧ True ∧ (145 : Int) = (145 : Int) ∧ True) ∧ True ∧ true = true)))) ∧ ((!!lowR s.val.b (hd s.val.a)) = false → ((!lowR s.val.b (hd s.val.a)) = true → (decide (List.length s.val.ta = List.length s.val.ta) && decide (List.length s.val.ta + (1 : Nat) ≤ (9223372036854775807 : Nat)) && decide ((List.length s.val.ta + (1 : Nat)) * (8 : Nat) ≤ (140737488355328 : Nat))) = true ∧ (true && decide ((0 : Int) < (↑(List.length s.val.a) : Int))) = true ∧ (((List.getD s.val.a (0 : Nat) (@default Rec instInhabitedRec)).off = (hd s.val.a).off ∧ (List.getD s.val.a (0 : Nat) (@default Rec instInhabitedRec)).key = (hd s.val.a).key ∧ (true = true ∧ List.length (List.getD s.val.a (0 : Nat) (@default Rec instInhabitedRec)).val = List.length (hd s.val.a).val ∧ contLe (List.length (List.getD s.val.a (0 : Nat) (@default Rec instInhabitedRec)).val) (1 : Nat) (cellsOf' encB (List.getD s.val.a (0 : Nat) (@default Rec instInhabitedRec)).val) (cellsOf' encB (hd s.val.a).val)) ∧ (List.getD s.val.a (0 : Nat) (@default Rec instInhabitedRec)).prod = (hd s.val.a).prod ∧ (List.getD s.val.a (0 : Nat) (@default Rec instInhabitedRec)).seq = (hd s.val.a).seq ∧ True) ∧ (↑(List.length s.val.out) : Int) = (↑(List.length s.val.out) : Int) ∧ True) ∧ True ∧ List.length (hd s.val.a).val ≤ (140737488355328 : Nat) ∧ (decide (List.length s.val.out = List.length s.val.out) && decide (List.length s.val.out + (1 : Nat) ≤ (9223372036854775807 : Nat)) && decide ((List.length s.val.out + (1 : Nat)) * (64 : Nat) ≤ (140737488355328 : Nat))) = true ∧ (true && decide ((1 : Int) ≤ (↑(List.length s.val.a) : Int)) && decide ((↑(List.length s.val.a) : Int) ≤ (↑(List.length s.val.a) : Int))) = true ∧ ∃ (j : { s : Jo // Jo.Ok s }), List.length j.val.a + List.length j.val.b < List.length s.val.a + List.length s.val.b ∧ (((b1 = b1 ∧ Int.toNat (↑(List.length s.val.a) : Int) - (1 : Nat) = List.length j.val.a ∧ contLe (Int.toNat (↑(List.length s.val.a) : Int) - (1 : Nat)) (5 : Nat) (fun (k : Nat) => cellsOf' encR s.val.a ((1 : Nat) + k)) (cellsOf' encR j.val.a)) ∧ (b2 = b2 ∧ List.length s.val.b = List.length j.val.b ∧ contLe (List.length s.val.b) (5 : Nat) (cellsOf' encR s.val.b) (cellsOf' encR j.val.b)) ∧ ((0 : Nat) = (0 : Nat) ∧ List.length s.val.out + (1 : Nat) = List.length j.val.out) ∧ ((0 : Nat) = (0 : Nat) ∧ List.length s.val.ta + (1 : Nat) = List.length j.val.ta) ∧ ((0 : Nat) = (0 : Nat) ∧ List.length s.val.tb = List.length j.val.tb) ∧ True) ∧ ((List.length s.val.out + (1 : Nat) = List.length j.val.out ∧ contLe (List.length s.val.out + (1 : Nat)) (5 : Nat) (appRow (List.length s.val.out) (cellsOf' encR s.val.out) fun (k j : Nat) => Ax.get [AV.y (Value.int IntKind.u64 (IntKind.wrap IntKind.u64 (↑(List.length s.val.out) : Int))), AV.y (Value.string (hd s.val.a).key), AV.ys true (1 : Nat) (List.length (hd s.val.a).val) (cellsOf' encB (hd s.val.a).val), AV.y (Value.int IntKind.u64 (hd s.val.a).prod), AV.y (Value.int IntKind.u64 (hd s.val.a).seq)] (k * (5 : Nat) + j)) (cellsOf' encR j.val.out)) ∧ (List.length s.val.ta + (1 : Nat) = List.length j.val.ta ∧ contLe (List.length s.val.ta + (1 : Nat)) (1 : Nat) (appRow (List.length s.val.ta) (cellsOf' encU s.val.ta) fun (k j : Nat) => Ax.get [AV.y (Value.int IntKind.u64 (IntKind.wrap IntKind.u64 (↑(List.length s.val.out) : Int)))] (k * (1 : Nat) + j)) (cellsOf' encU j.val.ta)) ∧ (List.length s.val.tb = List.length j.val.tb ∧ contLe (List.length s.val.tb) (1 : Nat) (cellsOf' encU s.val.tb) (cellsOf' encU j.val.tb)) ∧ True) ∧ true = true) ∧ true = true ∧ (Option.isSome (Jo.run j.val) = true → (Option.isSome (Jo.run s.val) = true → JR.ok (Option.getD (Jo.run j.val) j.val) = JR.ok (Option.getD (Jo.run s.val) s.val)) ∧ (Option.isSome (Jo.run s.val) = false → JR.ok (Option.getD (Jo.run j.val) j.val) = JR.bad)) ∧ (Option.isSome (Jo.run j.val) = false → (Option.isSome (Jo.run s.val) = true → JR.bad = JR.ok (Option.getD (Jo.run s.val) s.val)) ∧ (Option.isSome (Jo.run s.val) = false → JR.bad = JR.bad))) ∧ ((!lowR s.val.b (hd s.val.a)) = false → (Option.isSome (Jo.run s.val) = true → False) ∧ (Option.isSome (Jo.run s.val) = false → (True ∧ True ∧ True ∧ (145 : Int) = (145 : Int) ∧ True) ∧ True ∧ true = true)))) ∧ (decide ((0 : Int) < (↑(List.length s.val.a) : Int)) = false → (decide ((0 : Int) < (↑(List.length s.val.b) : Int)) = true → (true && decide ((0 : Int) < (↑(List.length s.val.b) : Int))) = true ∧ ((b1 = b1 ∧ List.length s.val.a = List.length s.val.a ∧ contLe (List.length s.val.a) (5 : Nat) (cellsOf' encR s.val.a) (cellsOf' encR s.val.a)) ∧ ((List.getD s.val.b (0 : Nat) (@default Rec instInhabitedRec)).off = (hd s.val.b).off ∧ (List.getD s.val.b (0 : Nat) (@default Rec instInhabitedRec)).key = (hd s.val.b).key ∧ (true = true ∧ List.length (List.getD s.val.b (0 : Nat) (@default Rec instInhabitedRec)).val = List.length (hd s.val.b).val ∧ contLe (List.length (List.getD s.val.b (0 : Nat) (@default Rec instInhabitedRec)).val) (1 : Nat) (cellsOf' encB (List.getD s.val.b (0 : Nat) (@default Rec instInhabitedRec)).val) (cellsOf' encB (hd s.val.b).val)) ∧ (List.getD s.val.b (0 : Nat) (@default Rec instInhabitedRec)).prod = (hd s.val.b).prod ∧ (List.getD s.val.b (0 : Nat) (@default Rec instInhabitedRec)).seq = (hd s.val.b).seq ∧ True) ∧ True) ∧ True ∧ List.length s.val.a ≤ (9223372036854775806 : Nat) ∧ ((!lowR s.val.a (hd s.val.b)) = true → (decide (List.length s.val.tb = List.length s.val.tb) && decide (List.length s.val.tb + (1 : Nat) ≤ (9223372036854775807 : Nat)) && decide ((List.length s.val.tb + (1 : Nat)) * (8 : Nat) ≤ (140737488355328 : Nat))) = true ∧ (true && decide ((0 : Int) < (↑(List.length s.val.b) : Int))) = true ∧ (((List.getD s.val.b (0 : Nat) (@default Rec instInhabitedRec)).off = (hd s.val.b).off ∧ (List.getD s.val.b (0 : Nat) (@default Rec instInhabitedRec)).key = (hd s.val.b).key ∧ (true = true ∧ List.length (List.getD s.val.b (0 : Nat) (@default Rec instInhabitedRec)).val = List.length (hd s.val.b).val ∧ contLe (List.length (List.getD s.val.b (0 : Nat) (@default Rec instInhabitedRec)).val) (1 : Nat) (cellsOf' encB (List.getD s.val.b (0 : Nat) (@default Rec instInhabitedRec)).val) (cellsOf' encB (hd s.val.b).val)) ∧ (List.getD s.val.b (0 : Nat) (@default Rec instInhabitedRec)).prod = (hd s.val.b).prod ∧ (List.getD s.val.b (0 : Nat) (@default Rec instInhabitedRec)).seq = (hd s.val.b).seq ∧ True) ∧ (↑(List.length s.val.out) : Int) = (↑(List.length s.val.out) : Int) ∧ True) ∧ True ∧ List.length (hd s.val.b).val ≤ (140737488355328 : Nat) ∧ (decide (List.length s.val.out = List.length s.val.out) && decide (List.length s.val.out + (1 : Nat) ≤ (9223372036854775807 : Nat)) && decide ((List.length s.val.out + (1 : Nat)) * (64 : Nat) ≤ (140737488355328 : Nat))) = true ∧ (true && decide ((1 : Int) ≤ (↑(List.length s.val.b) : Int)) && decide ((↑(List.length s.val.b) : Int) ≤ (↑(List.length s.val.b) : Int))) = true ∧ ∃ (j : { s : Jo // Jo.Ok s }), List.length j.val.a + List.length j.val.b < List.length s.val.a + List.length s.val.b ∧ (((b1 = b1 ∧ List.length s.val.a = List.length j.val.a ∧ contLe (List.length s.val.a) (5 : Nat) (cellsOf' encR s.val.a) (cellsOf' encR j.val.a)) ∧ (b2 = b2 ∧ Int.toNat (↑(List.length s.val.b) : Int) - (1 : Nat) = List.length j.val.b ∧ contLe (Int.toNat (↑(List.length s.val.b) : Int) - (1 : Nat)) (5 : Nat) (fun (k : Nat) => cellsOf' encR s.val.b ((1 : Nat) + k)) (cellsOf' encR j.val.b)) ∧ ((0 : Nat) = (0 : Nat) ∧ List.length s.val.out + (1 : Nat) = List.length j.val.out) ∧ ((0 : Nat) = (0 : Nat) ∧ List.length s.val.ta = List.length j.val.ta) ∧ ((0 : Nat) = (0 : Nat) ∧ List.length s.val.tb + (1 : Nat) = List.length j.val.tb) ∧ True) ∧ ((List.length s.val.out + (1 : Nat) = List.length j.val.out ∧ contLe (List.length s.val.out + (1 : Nat)) (5 : Nat) (appRow (List.length s.val.out) (cellsOf' encR s.val.out) fun (k j : Nat) => Ax.get [AV.y (Value.int IntKind.u64 (IntKind.wrap IntKind.u64 (↑(List.length s.val.out) : Int))), AV.y (Value.string (hd s.val.b).key), AV.ys true (1 : Nat) (List.length (hd s.val.b).val) (cellsOf' encB (hd s.val.b).val), AV.y (Value.int IntKind.u64 (hd s.val.b).prod), AV.y (Value.int IntKind.u64 (hd s.val.b).seq)] (k * (5 : Nat) + j)) (cellsOf' encR j.val.out)) ∧ (List.length s.val.ta = List.length j.val.ta ∧ contLe (List.length s.val.ta) (1 : Nat) (cellsOf' encU s.val.ta) (cellsOf' encU j.val.ta)) ∧ (List.length s.val.tb + (1 : Nat) = List.length j.val.tb ∧ contLe (List.length s.val.tb + (1 : Nat)) (1 : Nat) (appRow (List.length s.val.tb) (cellsOf' encU s.val.tb) fun (k j : Nat) => Ax.get [AV.y (Value.int IntKind.u64 (IntKind.wrap IntKind.u64 (↑(List.length s.val.out) : Int)))] (k * (1 : Nat) + j)) (cellsOf' encU j.val.tb)) ∧ True) ∧ true = true) ∧ true = true ∧ (Option.isSome (Jo.run j.val) = true → (Option.isSome (Jo.run s.val) = true → JR.ok (Option.getD (Jo.run j.val) j.val) = JR.ok (Option.getD (Jo.run s.val) s.val)) ∧ (Option.isSome (Jo.run s.val) = false → JR.ok (Option.getD (Jo.run j.val) j.val) = JR.bad)) ∧ (Option.isSome (Jo.run j.val) = false → (Option.isSome (Jo.run s.val) = true → JR.bad = JR.ok (Option.getD (Jo.run s.val) s.val)) ∧ (Option.isSome (Jo.run s.val) = false → JR.bad = JR.bad))) ∧ ((!lowR s.val.a (hd s.val.b)) = false → (Option.isSome (Jo.run s.val) = true → False) ∧ (Option.isSome (Jo.run s.val) = false → (True ∧ True ∧ True ∧ (145 : Int) = (145 : Int) ∧ True) ∧ True ∧ true = true))) ∧ (decide ((0 : Int) < (↑(List.length s.val.b) : Int)) = false → (Option.isSome (Jo.run s.val) = true → False) ∧ (Option.isSome (Jo.run s.val) = false → (True ∧ True ∧ True ∧ (145 : Int) = (145 : Int) ∧ True) ∧ True ∧ true = true)))) ∧ (decide ((0 : Int) < IntKind.wrap IntKind.i64 ((↑(List.length s.val.a) : Int) + (↑(List.length s.val.b) : Int))) = false → (Option.isSome (Jo.run s.val) = true → ((b1 = b1 ∧ List.length s.val.a = List.length (Option.getD (Jo.run s.val) s.val).a ∧ contLe (List.length s.val.a) (5 : Nat) (cellsOf' encR s.val.a) (cellsOf' encR (Option.getD (Jo.run s.val) s.val).a)) ∧ (b2 = b2 ∧ List.length s.val.b = List.length (Option.getD (Jo.run s.val) s.val).b ∧ contLe (List.length s.val.b) (5 : Nat) (cellsOf' encR s.val.b) (cellsOf' encR (Option.getD (Jo.run s.val) s.val).b)) ∧ ((0 : Nat) = (0 : Nat) ∧ List.length s.val.out = List.length (Option.getD (Jo.run s.val) s.val).out) ∧ ((0 : Nat) = (0 : Nat) ∧ List.length s.val.ta = List.length (Option.getD (Jo.run s.val) s.val).ta) ∧ ((0 : Nat) = (0 : Nat) ∧ List.length s.val.tb = List.length (Option.getD (Jo.run s.val) s.val).tb) ∧ True) ∧ ((List.length s.val.out = List.length (Option.getD (Jo.run s.val) s.val).out ∧ contLe (List.length s.val.out) (5 : Nat) (cellsOf' encR s.val.out) (cellsOf' encR (Option.getD (Jo.run s.val) s.val).out)) ∧ (List.length s.val.ta = List.length (Option.getD (Jo.run s.val) s.val).ta ∧ contLe (List.length s.val.ta) (1 : Nat) (cellsOf' encU s.val.ta) (cellsOf' encU (Option.getD (Jo.run s.val) s.val).ta)) ∧ (List.length s.val.tb = List.length (Option.getD (Jo.run s.val) s.val).tb ∧ contLe (List.length s.val.tb) (1 : Nat) (cellsOf' encU s.val.tb) (cellsOf' encU (Option.getD (Jo.run s.val) s.val).tb)) ∧ True) ∧ true = true) ∧ (Option.isSome (Jo.run s.val) = false → False))
theorem vcK_eq (b1 : Bool) (b2 : Bool) (s : { s : Jo // s.Ok }) : (loopVC Tryd.prog (kH b1 b2 s.1) 26 10 (fun (s : { s : Jo // s.Ok }) => s.1.a.length + s.1.b.length) (fun s => kT b1 b2 s.1) (fun s => kM s.1) jX (fun s => jO s.1) (kS b1 b2) s) = vcK b1 b2 s := by kernel_rfl
def joR (s : Jo) : T An := .ret (.tup [.own 0 5 0 s.out.length, .own 1 1 0 s.ta.length, .own 2 1 0 s.tb.length, .s (.int .i64 0)], [rowR s.out, rowU s.ta, rowU s.tb], [])
def Jo.end (s : Jo) : Jo := ⟨s.a, s.b, s.out, s.ta ++ [s.at], s.tb ++ [s.at]⟩
def jo0 (a b : List Rec) : Jo := ⟨a, b, [], [], []⟩
def joE (k : Int) : T An := .ret (.tup [.s (.slice none 0 0), .s (.slice none 0 0), .s (.slice none 0 0), .s (.int .i64 k)], [], [])
def joinT (a b : List Rec) : T An := .ite (isLog a && isLog b) (.ite (decide (a.length + b.length ≤ 4096)) (.ite (jo0 a b).run.isSome (joR ((jo0 a b).run.getD (jo0 a b)).end) (joE 145)) (joE 143)) (joE 1)
noncomputable def koH (b1 b2 : Bool) (a b : List Rec) : HintsT Tryd.prog := hh _ (lp1 26 10 (jobOf (kT b1 b2) kM jX jO (kS b1 b2) (jo0 a b)) noLp) (cs1 26 1 1 (lrC b1 a) (cs1 26 2 1 (lrC b2 b) noCs)) (op1 26 7 0 (.row 27 5) (op1 26 8 0 (.row 24 1) (op1 26 9 0 (.row 24 1) noOp)))
def vcJoinR (b1 : Bool) (b2 : Bool) (a : List Rec) (b : List Rec) : Prop :=
  ((b1 = b1 ∧ List.length a = List.length a ∧ contLe (List.length a) (5 : Nat) (cellsOf' encR a) (cellsOf' encR a)) ∧ True) ∧ True ∧ List.length a ≤ (9223372036854775806 : Nat) ∧ ((b2 = b2 ∧ List.length b = List.length b ∧ contLe (List.length b) (5 : Nat) (cellsOf' encR b) (cellsOf' encR b)) ∧ True) ∧ True ∧ List.length b ≤ (9223372036854775806 : Nat) ∧ ((!isLog a) = true → ((isLog a && isLog b) = true → (decide (List.length a + List.length b ≤ (4096 : Nat)) = true → (Option.isSome (Jo.run (jo0 a b)) = true → (False ∧ False ∧ False ∧ (1 : Int) = (0 : Int) ∧ True) ∧ False) ∧ (Option.isSome (Jo.run (jo0 a b)) = false → (True ∧ True ∧ True ∧ (1 : Int) = (145 : Int) ∧ True) ∧ True)) ∧ (decide (List.length a + List.length b ≤ (4096 : Nat)) = false → (True ∧ True ∧ True ∧ (1 : Int) = (143 : Int) ∧ True) ∧ True)) ∧ ((isLog a && isLog b) = false → (True ∧ True ∧ True ∧ (1 : Int) = (1 : Int) ∧ True) ∧ True)) ∧ ((!isLog a) = false → ((!isLog b) = true → ((isLog a && isLog b) = true → (decide (List.length a + List.length b ≤ (4096 : Nat)) = true → (Option.isSome (Jo.run (jo0 a b)) = true → (False ∧ False ∧ False ∧ (1 : Int) = (0 : Int) ∧ True) ∧ False) ∧ (Option.isSome (Jo.run (jo0 a b)) = false → (True ∧ True ∧ True ∧ (1 : Int) = (145 : Int) ∧ True) ∧ True)) ∧ (decide (List.length a + List.length b ≤ (4096 : Nat)) = false → (True ∧ True ∧ True ∧ (1 : Int) = (143 : Int) ∧ True) ∧ True)) ∧ ((isLog a && isLog b) = false → (True ∧ True ∧ True ∧ (1 : Int) = (1 : Int) ∧ True) ∧ True)) ∧ ((!isLog b) = false → (decide ((4096 : Int) < IntKind.wrap IntKind.i64 ((↑(List.length a) : Int) + (↑(List.length b) : Int))) = true → ((isLog a && isLog b) = true → (decide (List.length a + List.length b ≤ (4096 : Nat)) = true → (Option.isSome (Jo.run (jo0 a b)) = true → (False ∧ False ∧ False ∧ (143 : Int) = (0 : Int) ∧ True) ∧ False) ∧ (Option.isSome (Jo.run (jo0 a b)) = false → (True ∧ True ∧ True ∧ (143 : Int) = (145 : Int) ∧ True) ∧ True)) ∧ (decide (List.length a + List.length b ≤ (4096 : Nat)) = false → (True ∧ True ∧ True ∧ (143 : Int) = (143 : Int) ∧ True) ∧ True)) ∧ ((isLog a && isLog b) = false → (True ∧ True ∧ True ∧ (143 : Int) = (1 : Int) ∧ True) ∧ True)) ∧ (decide ((4096 : Int) < IntKind.wrap IntKind.i64 ((↑(List.length a) : Int) + (↑(List.length b) : Int))) = false → (((b1 = b1 ∧ List.length a = List.length a ∧ contLe (List.length a) (5 : Nat) (cellsOf' encR a) (cellsOf' encR a)) ∧ (b2 = b2 ∧ List.length b = List.length b ∧ contLe (List.length b) (5 : Nat) (cellsOf' encR b) (cellsOf' encR b)) ∧ ((0 : Nat) = (0 : Nat) ∧ (0 : Nat) = (0 : Nat)) ∧ ((0 : Nat) = (0 : Nat) ∧ (0 : Nat) = (0 : Nat)) ∧ ((0 : Nat) = (0 : Nat) ∧ (0 : Nat) = (0 : Nat)) ∧ True) ∧ (((0 : Nat) = (0 : Nat) ∧ contLe (0 : Nat) (5 : Nat) (fun (x x_1 : Nat) => AV.junk) (cellsOf' encR [])) ∧ ((0 : Nat) = (0 : Nat) ∧ contLe (0 : Nat) (1 : Nat) (fun (x x_1 : Nat) => AV.junk) (cellsOf' encU [])) ∧ ((0 : Nat) = (0 : Nat) ∧ contLe (0 : Nat) (1 : Nat) (fun (x x_1 : Nat) => AV.junk) (cellsOf' encU [])) ∧ True) ∧ true = true) ∧ LoopOk Tryd.prog (26 : Nat) (10 : Nat) (loopAt Tryd.prog (26 : Nat) (10 : Nat)) { t := kT b1 b2 (jo0 a b), m := kM (jo0 a b), mv := [] : St } (T.map (lout jX (kS b1 b2)) (jO (jo0 a b))) ∧ (Option.isSome (Jo.run (jo0 a b)) = true → (decide (List.length (Option.getD (Jo.run (jo0 a b)) (jo0 a b)).ta = List.length (Option.getD (Jo.run (jo0 a b)) (jo0 a b)).ta) && decide (List.length (Option.getD (Jo.run (jo0 a b)) (jo0 a b)).ta + (1 : Nat) ≤ (9223372036854775807 : Nat)) && decide ((List.length (Option.getD (Jo.run (jo0 a b)) (jo0 a b)).ta + (1 : Nat)) * (8 : Nat) ≤ (140737488355328 : Nat))) = true ∧ (decide (List.length (Option.getD (Jo.run (jo0 a b)) (jo0 a b)).tb = List.length (Option.getD (Jo.run (jo0 a b)) (jo0 a b)).tb) && decide (List.length (Option.getD (Jo.run (jo0 a b)) (jo0 a b)).tb + (1 : Nat) ≤ (9223372036854775807 : Nat)) && decide ((List.length (Option.getD (Jo.run (jo0 a b)) (jo0 a b)).tb + (1 : Nat)) * (8 : Nat) ≤ (140737488355328 : Nat))) = true ∧ ((isLog a && isLog b) = true → (decide (List.length a + List.length b ≤ (4096 : Nat)) = true → (Option.isSome (Jo.run (jo0 a b)) = true → (((0 : Nat) = (0 : Nat) ∧ List.length (Option.getD (Jo.run (jo0 a b)) (jo0 a b)).out = List.length (Option.getD (Jo.run (jo0 a b)) (jo0 a b)).out) ∧ ((0 : Nat) = (0 : Nat) ∧ List.length (Option.getD (Jo.run (jo0 a b)) (jo0 a b)).ta + (1 : Nat) = List.length ((Option.getD (Jo.run (jo0 a b)) (jo0 a b)).ta ++ [Jo.at (Option.getD (Jo.run (jo0 a b)) (jo0 a b))])) ∧ ((0 : Nat) = (0 : Nat) ∧ List.length (Option.getD (Jo.run (jo0 a b)) (jo0 a b)).tb + (1 : Nat) = List.length ((Option.getD (Jo.run (jo0 a b)) (jo0 a b)).tb ++ [Jo.at (Option.getD (Jo.run (jo0 a b)) (jo0 a b))])) ∧ (0 : Int) = (0 : Int) ∧ True) ∧ (List.length (Option.getD (Jo.run (jo0 a b)) (jo0 a b)).out = List.length (Option.getD (Jo.run (jo0 a b)) (jo0 a b)).out ∧ contLe (List.length (Option.getD (Jo.run (jo0 a b)) (jo0 a b)).out) (5 : Nat) (cellsOf' encR (Option.getD (Jo.run (jo0 a b)) (jo0 a b)).out) (cellsOf' encR (Option.getD (Jo.run (jo0 a b)) (jo0 a b)).out)) ∧ (List.length (Option.getD (Jo.run (jo0 a b)) (jo0 a b)).ta + (1 : Nat) = List.length ((Option.getD (Jo.run (jo0 a b)) (jo0 a b)).ta ++ [Jo.at (Option.getD (Jo.run (jo0 a b)) (jo0 a b))]) ∧ contLe (List.length (Option.getD (Jo.run (jo0 a b)) (jo0 a b)).ta + (1 : Nat)) (1 : Nat) (appRow (List.length (Option.getD (Jo.run (jo0 a b)) (jo0 a b)).ta) (cellsOf' encU (Option.getD (Jo.run (jo0 a b)) (jo0 a b)).ta) fun (k j : Nat) => Ax.get [AV.y (Value.int IntKind.u64 (IntKind.wrap IntKind.u64 (↑(List.length (Option.getD (Jo.run (jo0 a b)) (jo0 a b)).out) : Int)))] (k * (1 : Nat) + j)) (cellsOf' encU ((Option.getD (Jo.run (jo0 a b)) (jo0 a b)).ta ++ [Jo.at (Option.getD (Jo.run (jo0 a b)) (jo0 a b))]))) ∧ (List.length (Option.getD (Jo.run (jo0 a b)) (jo0 a b)).tb + (1 : Nat) = List.length ((Option.getD (Jo.run (jo0 a b)) (jo0 a b)).tb ++ [Jo.at (Option.getD (Jo.run (jo0 a b)) (jo0 a b))]) ∧ contLe (List.length (Option.getD (Jo.run (jo0 a b)) (jo0 a b)).tb + (1 : Nat)) (1 : Nat) (appRow (List.length (Option.getD (Jo.run (jo0 a b)) (jo0 a b)).tb) (cellsOf' encU (Option.getD (Jo.run (jo0 a b)) (jo0 a b)).tb) fun (k j : Nat) => Ax.get [AV.y (Value.int IntKind.u64 (IntKind.wrap IntKind.u64 (↑(List.length (Option.getD (Jo.run (jo0 a b)) (jo0 a b)).out) : Int)))] (k * (1 : Nat) + j)) (cellsOf' encU ((Option.getD (Jo.run (jo0 a b)) (jo0 a b)).tb ++ [Jo.at (Option.getD (Jo.run (jo0 a b)) (jo0 a b))]))) ∧ True) ∧ (Option.isSome (Jo.run (jo0 a b)) = false → False)) ∧ (decide (List.length a + List.length b ≤ (4096 : Nat)) = false → False)) ∧ ((isLog a && isLog b) = false → False)) ∧ (Option.isSome (Jo.run (jo0 a b)) = false → ((isLog a && isLog b) = true → (decide (List.length a + List.length b ≤ (4096 : Nat)) = true → (Option.isSome (Jo.run (jo0 a b)) = true → (False ∧ False ∧ False ∧ (145 : Int) = (0 : Int) ∧ True) ∧ False) ∧ (Option.isSome (Jo.run (jo0 a b)) = false → (True ∧ True ∧ True ∧ (145 : Int) = (145 : Int) ∧ True) ∧ True)) ∧ (decide (List.length a + List.length b ≤ (4096 : Nat)) = false → (True ∧ True ∧ True ∧ (145 : Int) = (143 : Int) ∧ True) ∧ True)) ∧ ((isLog a && isLog b) = false → (True ∧ True ∧ True ∧ (145 : Int) = (1 : Int) ∧ True) ∧ True)))))
theorem vcJoinR_eq (b1 : Bool) (b2 : Bool) (a : List Rec) (b : List Rec) : (ctrVC Tryd.prog (koH b1 b2 a b) 26 [encRs b1 a, encRs b2 b] [] (joinT a b)) = vcJoinR b1 b2 a b := by kernel_rfl
end Go.Proofs.YtjmdejbijigfjaaDoor

namespace Go.Proofs.YtjmdejbijigfjaaDoor
open Go.Ax
set_option maxRecDepth 1000000
theorem hdE (l : List Rec) : l.getD 0 default = hd l := rfl
theorem tail_le (b : List Rec) (n : Nat) : contLe n 5 (fun k => cellsOf' encR b (1 + k)) (cellsOf' encR b.tail) := by
  intro k hk j hj
  have : b.tail.getD k default = b.getD (1 + k) default := by
    cases b with
    | nil => simp
    | cons x r => simp [Nat.add_comm 1 k]
  unfold cellsOf'
  rw [this]
  exact le0_refl _
theorem run_A {s : Jo} (h : s.tA = true) : s.run = s.goA.run := by
  have ha : s.a ≠ [] := by unfold Jo.tA at h; intro e; rw [e] at h; simp at h
  obtain ⟨x, r, hx⟩ := List.exists_cons_of_ne_nil ha
  have h1 : s.goA.a.length + s.goA.b.length + 1 = s.a.length + s.b.length := by
    simp [Jo.goA, hx]; omega
  unfold Jo.run
  rw [← h1, joinN, if_pos h]
theorem run_B {s : Jo} (h0 : s.tA = false) (h : s.tB = true) : s.run = s.goB.run := by
  have ha : s.b ≠ [] := by unfold Jo.tB at h; intro e; rw [e] at h; simp at h
  obtain ⟨x, r, hx⟩ := List.exists_cons_of_ne_nil ha
  have h1 : s.goB.a.length + s.goB.b.length + 1 = s.a.length + s.b.length := by
    simp [Jo.goB, hx]; omega
  unfold Jo.run
  rw [← h1, joinN, if_neg (by simp [h0]), if_pos h]
theorem run_no {s : Jo} (h0 : s.tA = false) (h : s.tB = false) (hn : 0 < s.a.length + s.b.length) : s.run = none := by
  obtain ⟨n, hn⟩ : ∃ n, s.a.length + s.b.length = n + 1 := ⟨s.a.length + s.b.length - 1, by omega⟩
  unfold Jo.run
  rw [hn, joinN, if_neg (by simp [h0]), if_neg (by simp [h])]
theorem run_end {s : Jo} (hn : s.a.length + s.b.length = 0) : s.run = some s := by
  unfold Jo.run
  rw [hn, joinN]
theorem ok_A {s : Jo} (h : s.Ok) (ht : s.tA = true) : s.goA.Ok := by
  have ha : s.a ≠ [] := by unfold Jo.tA at ht; intro e; rw [e] at ht; simp at ht
  obtain ⟨x, r, hx⟩ := List.exists_cons_of_ne_nil ha
  have h1 := h.n
  have h2 := h.ta
  have h3 := h.tb
  refine ⟨fun y hy => h.a y (List.mem_of_mem_tail hy), h.b, ?_, ?_, ?_⟩ <;> simp [Jo.goA, hx] at * <;> omega
theorem ok_B {s : Jo} (h : s.Ok) (ht : s.tB = true) : s.goB.Ok := by
  have ha : s.b ≠ [] := by unfold Jo.tB at ht; intro e; rw [e] at ht; simp at ht
  obtain ⟨x, r, hx⟩ := List.exists_cons_of_ne_nil ha
  have h1 := h.n
  have h2 := h.ta
  have h3 := h.tb
  refine ⟨h.a, fun y hy => h.b y (List.mem_of_mem_tail hy), ?_, ?_, ?_⟩ <;> simp [Jo.goB, hx] at * <;> omega
theorem app1_le1 {α : Type} [Inhabited α] {enc : α → List AV} {l : List α} {cs : List AV} {x : α} (h : le0 (get cs 0) (get (enc x) 0)) :
    contLe (l.length + 1) 1 (appRow l.length (cellsOf' enc l) (fun k j => get cs (k + j))) (cellsOf' enc (l ++ [x])) := by
  have := app1_le (enc := enc) (l := l) (n := l.length) (sz := 1) (cs := cs) (x := x) rfl fun j hj => by
    obtain rfl : j = 0 := by omega
    exact h
  simpa using this
theorem rec_le {cs : List AV} {x : Rec} (h0 : le0 (get cs 0) (.y (.int .u64 x.off))) (h1 : le0 (get cs 1) (.y (.string x.key))) (h2 : le0 (get cs 2) (encBs true x.val)) (h3 : le0 (get cs 3) (.y (.int .u64 x.prod))) (h4 : le0 (get cs 4) (.y (.int .u64 x.seq))) : ∀ j, j < 5 → le0 (get cs j) (get (encR x) j) := by
  intro j hj
  match j, hj with
  | 0, _ => exact h0
  | 1, _ => exact h1
  | 2, _ => exact h2
  | 3, _ => exact h3
  | 4, _ => exact h4
theorem hd_mem {l : List Rec} (h : 0 < l.length) : hd l ∈ l := by
  cases l with
  | nil => simp at h
  | cons x r => exact List.mem_cons_self
theorem getD_any (o : Option Jo) (x y : Jo) (h : o.isSome = true) : o.getD x = o.getD y := by
  cases o with
  | none => cases h
  | some z => rfl
theorem side_le (x y : AV) : cellLe 2 (fun j => Ax.get [x, y] (0 + j)) (Ax.get [x, .junk]) := by
  intro j hj
  match j, hj with
  | 0, _ => exact le0_refl _
  | 1, _ => exact le0_junk _
end Go.Proofs.YtjmdejbijigfjaaDoor

namespace Go.Proofs.YtjmdejbijigfjaaDoor
open Go.Ax
set_option maxRecDepth 1000000
theorem k_loop (b1 b2 : Bool) (s : { s : Jo // s.Ok }) : LoopOk Tryd.prog 26 10 (loopAt Tryd.prog 26 10) ⟨kT b1 b2 s.1, kM s.1, []⟩ ((jO s.1).map (lout jX (kS b1 b2))) := by
  refine loop_vcH (o := fun (s : { s : Jo // s.Ok }) => jO s.1) Tryd.mixed (fun _ => rfl) (fun s => (vcK_eq b1 b2 s).mpr ?_) s
  unfold vcK
  obtain ⟨s, hs⟩ := s
  have hn := hs.n
  have hta := hs.ta
  have htb := hs.tb
  have hw : IntKind.i64.wrap ((s.a.length : Int) + s.b.length) = (s.a.length : Int) + s.b.length := wrap_i64 (by omega) (by omega)
  simp only [hdE, hw]
  rcases Nat.eq_zero_or_pos (s.a.length + s.b.length) with h0 | h0
  · have ha : s.a = [] := List.length_eq_zero_iff.1 (by omega)
    have hb : s.b = [] := List.length_eq_zero_iff.1 (by omega)
    simp [run_end h0, ha, hb]
  have hz2 : (0 : Int) < (s.a.length : Int) + s.b.length := by omega
  cases hA : s.tA
  · cases hB : s.tB
    · have hr := run_no hA hB h0
      have h1 : s.a = [] ∨ lowR s.b (hd s.a) = true := by unfold Jo.tA at hA; cases ha : s.a <;> simp [ha] at hA ⊢; exact hA
      have h2 : s.b = [] ∨ lowR s.a (hd s.b) = true := by unfold Jo.tB at hB; cases hb : s.b <;> simp [hb] at hB ⊢; exact hB
      rcases Nat.eq_zero_or_pos s.a.length with ha | ha
      · have ha' : s.a = [] := List.length_eq_zero_iff.1 ha
        have hb : 0 < s.b.length := by omega
        have hbn : s.b ≠ [] := List.ne_nil_of_length_pos hb
        rw [ha'] at h2
        simp [lowR, hbn] at h2
      · have han : s.a ≠ [] := List.ne_nil_of_length_pos ha
        have hl := h1.resolve_left han
        rcases Nat.eq_zero_or_pos s.b.length with hb | hb
        · have hb' : s.b = [] := List.length_eq_zero_iff.1 hb
          rw [hb'] at hl
          simp [lowR] at hl
        · have hbn : s.b ≠ [] := List.ne_nil_of_length_pos hb
          have hl2 := h2.resolve_left hbn
          have ha2 : (0 : Int) < s.a.length := by omega
          have hb2 : (0 : Int) < s.b.length := by omega
          simp [hz2, han, hbn, ha, hb, ha2, hb2, hl, hl2, hr]
          omega
    · have hne : s.b ≠ [] := by unfold Jo.tB at hB; intro e; rw [e] at hB; simp at hB
      have hpos : 0 < s.b.length := List.length_pos_iff.2 hne
      have hlow : lowR s.a (hd s.b) = false := by unfold Jo.tB at hB; simp at hB; exact hB.2
      have h256 : (hd s.b).val.length ≤ 256 := hs.b _ (hd_mem hpos)
      have hok := ok_B hs hB
      have hrun := run_B hA hB
      have hz1 : (1 : Int) ≤ s.b.length := by omega
      have hb2 : (0 : Int) < s.b.length := by omega
      have h1 : s.a = [] ∨ lowR s.b (hd s.a) = true := by unfold Jo.tA at hA; cases ha : s.a <;> simp [ha] at hA ⊢; exact hA
      rcases Nat.eq_zero_or_pos s.a.length with ha | ha
      · have ha' : s.a = [] := List.length_eq_zero_iff.1 ha
        have hla : lowR ([] : List Rec) (hd s.b) = false := rfl
        simp [hz1, hz2, hb2, hlow, hla, hpos, hrun, hne, ha']
        refine ⟨⟨by omega, by omega⟩, by omega, ⟨by omega, by omega⟩, s.goB, ?_⟩
        repeat' with_reducible apply And.intro
        all_goals first
          | omega
          | exact contLe_refl _ _ _
          | (simp [Jo.goB, ha']; done)
          | (simp [Jo.goB, ha']; omega)
          | exact app1_le1 (le0_refl _)
          | exact tail_le _ _
          | exact app1_le rfl (rec_le (le0_refl _) (le0_refl _) (le0_refl _) (le0_refl _) (le0_refl _))
          | exact hok
          | exact fun h1 => ⟨fun _ => getD_any _ _ _ h1, fun h2 => by rw [h2] at h1; cases h1⟩
      · have han : s.a ≠ [] := List.ne_nil_of_length_pos ha
        have hl := h1.resolve_left han
        have ha2 : (0 : Int) < s.a.length := by omega
        simp [hz1, hz2, hb2, ha2, hlow, hpos, hrun, hne, han, ha, hl]
        refine ⟨by omega, by omega, ⟨by omega, by omega⟩, by omega, ⟨by omega, by omega⟩, s.goB, ?_⟩
        repeat' with_reducible apply And.intro
        all_goals first
          | omega
          | exact contLe_refl _ _ _
          | (simp [Jo.goB]; done)
          | (simp [Jo.goB]; omega)
          | exact app1_le1 (le0_refl _)
          | exact tail_le _ _
          | exact app1_le rfl (rec_le (le0_refl _) (le0_refl _) (le0_refl _) (le0_refl _) (le0_refl _))
          | exact hok
          | exact fun h1 => ⟨fun _ => getD_any _ _ _ h1, fun h2 => by rw [h2] at h1; cases h1⟩
  · have hne : s.a ≠ [] := by unfold Jo.tA at hA; intro e; rw [e] at hA; simp at hA
    have hpos : 0 < s.a.length := List.length_pos_iff.2 hne
    have hlow : lowR s.b (hd s.a) = false := by unfold Jo.tA at hA; simp at hA; exact hA.2
    have h256 : (hd s.a).val.length ≤ 256 := hs.a _ (hd_mem hpos)
    have hok := ok_A hs hA
    have hrun := run_A hA
    have hz1 : (1 : Int) ≤ s.a.length := by omega
    have ha2 : (0 : Int) < s.a.length := by omega
    simp [ha2, hz1, hz2, hlow, hpos, hrun, hne]
    refine ⟨by omega, ⟨by omega, by omega⟩, by omega, ⟨by omega, by omega⟩, s.goA, ?_⟩
    repeat' with_reducible apply And.intro
    all_goals first
      | omega
      | exact contLe_refl _ _ _
      | (simp [Jo.goA]; done)
      | (simp [Jo.goA]; omega)
      | exact app1_le1 (le0_refl _)
      | exact tail_le _ _
      | exact app1_le rfl (rec_le (le0_refl _) (le0_refl _) (le0_refl _) (le0_refl _) (le0_refl _))
      | exact hok
      | exact fun h1 => ⟨fun _ => getD_any _ _ _ h1, fun h2 => by rw [h2] at h1; cases h1⟩
theorem log_ok {a b : List Rec} (ha : isLog a = true) (hb : isLog b = true) (hn : a.length + b.length ≤ 4096) : (jo0 a b).Ok := by
  have key : ∀ l : List Rec, isLog l = true → ∀ x ∈ l, x.val.length ≤ 256 := by
    intro l hl x hx
    obtain ⟨k, hk, rfl⟩ := List.getElem_of_mem hx
    simp only [isLog, Bool.and_eq_true] at hl
    have h := hl.1
    unfold logFrom at h
    rw [List.all_eq_true] at h
    have h2 := h k (by simp; omega)
    simp [okR, hk] at h2
    exact h2.2.2
  exact ⟨key a ha, key b hb, by simp [jo0]; omega, by simp [jo0], by simp [jo0]⟩
theorem run_ok : ∀ (n : Nat) (s r : Jo), s.Ok → joinN n s = some r → s.a.length + s.b.length ≤ n → r.Ok ∧ r.out.length = s.out.length + (s.a.length + s.b.length) ∧ r.a = [] ∧ r.b = []
  | 0, s, r, hs, h, hn => by
    simp only [joinN] at h
    cases h
    have ha : s.a = [] := List.length_eq_zero_iff.1 (by omega)
    have hb : s.b = [] := List.length_eq_zero_iff.1 (by omega)
    exact ⟨hs, by simp [ha, hb], ha, hb⟩
  | n + 1, s, r, hs, h, hn => by
    simp only [joinN] at h
    split at h
    · rename_i hA
      have hne : s.a ≠ [] := by unfold Jo.tA at hA; intro e; rw [e] at hA; simp at hA
      obtain ⟨x, q, hx⟩ := List.exists_cons_of_ne_nil hne
      obtain ⟨h1, h2, h3⟩ := run_ok n _ r (ok_A hs hA) h (by simp [Jo.goA, hx] at hn ⊢; omega)
      refine ⟨h1, ?_, h3⟩
      rw [h2]
      simp [Jo.goA, hx]; omega
    · split at h
      · rename_i hB
        have hne : s.b ≠ [] := by unfold Jo.tB at hB; intro e; rw [e] at hB; simp at hB
        obtain ⟨x, q, hx⟩ := List.exists_cons_of_ne_nil hne
        obtain ⟨h1, h2, h3⟩ := run_ok n _ r (ok_B hs hB) h (by simp [Jo.goB, hx] at hn ⊢; omega)
        refine ⟨h1, ?_, h3⟩
        rw [h2]
        simp [Jo.goB, hx]; omega
      · cases h
theorem fin_ok {a b : List Rec} (hok : (jo0 a b).Ok) {r : Jo} (hr : (jo0 a b).run = some r) (h1 : a.length ≤ 4611686018427387903) (h2 : b.length ≤ 4611686018427387903) : a.length ≤ 9223372036854775806 ∧
    b.length ≤ 9223372036854775806 ∧
      (r.ta.length ≤ 9223372036854775806 ∧ (r.ta.length + 1) * 8 ≤ 140737488355328) ∧
        (r.tb.length ≤ 9223372036854775806 ∧ (r.tb.length + 1) * 8 ≤ 140737488355328) ∧
          contLe (r.ta.length + 1) 1
              (appRow r.ta.length (cellsOf' encU r.ta) fun k j =>
                Ax.get [AV.y (Value.int IntKind.u64 (IntKind.u64.wrap ↑r.out.length))] (k + j))
              (cellsOf' encU (r.ta ++ [r.at])) ∧
            contLe (r.tb.length + 1) 1
              (appRow r.tb.length (cellsOf' encU r.tb) fun k j =>
                Ax.get [AV.y (Value.int IntKind.u64 (IntKind.u64.wrap ↑r.out.length))] (k + j))
              (cellsOf' encU (r.tb ++ [r.at])) := by
  obtain ⟨ho, _⟩ := run_ok _ _ r hok hr (Nat.le_refl _)
  have := ho.n
  have := ho.ta
  have := ho.tb
  exact ⟨by omega, by omega, ⟨by omega, by omega⟩, ⟨by omega, by omega⟩, app1_le1 (le0_refl _), app1_le1 (le0_refl _)⟩
theorem joinr_c (b1 b2 : Bool) (a b : List Rec) (h1 : a.length ≤ 4611686018427387903) (h2 : b.length ≤ 4611686018427387903) : (joinT a b).Sat (ACall' Tryd.prog 26 [encRs b1 a, encRs b2 b] []) := by
  refine ctr_vc (ht := koH b1 b2 a b) Tryd.mixed rfl ?_
  rw [vcJoinR_eq b1 b2 a b]
  unfold vcJoinR
  have hw : IntKind.i64.wrap ((a.length : Int) + b.length) = (a.length : Int) + b.length := wrap_i64 (by omega) (by omega)
  simp only [hw]
  cases ha : isLog a
  · simp; omega
  · cases hb : isLog b
    · simp; omega
    · by_cases hn : a.length + b.length ≤ 4096
      · have hok := log_ok ha hb hn
        have lp := k_loop b1 b2 ⟨_, hok⟩
        have hn2 : ¬ ((4096 : Int) < (a.length : Int) + b.length) := by omega
        cases hr : (jo0 a b).run with
        | none => 
          simp [hn, hn2, lp, hr]
          omega
        | some r =>
          simp [hn, hn2, lp, hr]
          exact fin_ok hok hr h1 h2
      · have hn2 : (4096 : Int) < (a.length : Int) + b.length := by omega
        simp [hn, hn2]
        omega
end Go.Proofs.YtjmdejbijigfjaaDoor
