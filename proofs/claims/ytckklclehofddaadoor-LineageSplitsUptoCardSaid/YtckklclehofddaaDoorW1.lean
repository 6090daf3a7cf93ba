import Derived.Test.YtckklclehofddaaDoorProg
import Derived.KernelRfl
import Derived.Shelf.Strings.SlTrimAscii
import Derived.Test.YtckklclehofddaaDoorE12
import Derived.Test.YtckklclehofddaaDoorE13
set_option linter.unusedVariables false
set_option linter.unusedSimpArgs false
set_option linter.unusedSectionVars false
namespace Go.Proofs.YtckklclehofddaaDoor
open Go.Ax
end Go.Proofs.YtckklclehofddaaDoor

namespace Go.Proofs.YtckklclehofddaaDoor
open Go.Ax
set_option maxRecDepth 1000000
structure Rec where
  off : Int
  key : ByteArray
  val : List Int
  prod : Int
  seq : Int
instance : Inhabited Rec := ⟨⟨0, ByteArray.empty, [], 0, 0⟩⟩
structure Rng where
  lo : ByteArray
  hi : ByteArray
instance : Inhabited Rng := ⟨⟨ByteArray.empty, ByteArray.empty⟩⟩
structure Con where
  name : ByteArray
  off : Int
instance : Inhabited Con := ⟨⟨ByteArray.empty, 0⟩⟩
def encB (x : Int) : List AV := [.y (.int .u8 x)]
def encU (x : Int) : List AV := [.y (.int .u64 x)]
def encI (x : Int) : List AV := [.y (.int .i64 x)]
def encBs (b : Bool) (l : List Int) : AV := .ys b 1 l.length (cellsOf' encB l)
def encUs (b : Bool) (l : List Int) : AV := .ys b 1 l.length (cellsOf' encU l)
def encR (x : Rec) : List AV := [.y (.int .u64 x.off), .y (.string x.key), encBs true x.val, .y (.int .u64 x.prod), .y (.int .u64 x.seq)]
def encRs (b : Bool) (l : List Rec) : AV := .ys b 5 l.length (cellsOf' encR l)
def encC (x : Con) : List AV := [.y (.string x.name), .y (.int .u64 x.off)]
def encCs (b : Bool) (l : List Con) : AV := .ys b 2 l.length (cellsOf' encC l)
def encG (r : Rng) : List AV := [.y (.string r.lo), .y (.string r.hi)]
def rowU (l : List Int) : Blk := .row 24 1 l.length none (cellsOf' encU l)
def rowR (l : List Rec) : Blk := .row 38 5 l.length none (cellsOf' encR l)
def rowC (l : List Con) : Blk := .row 50 2 l.length none (cellsOf' encC l)
theorem Tryd.mixed : Tryd.prog.follows .mixedOrders = true := by kernel_rfl
def boolR (b : Bool) : T An := .ret (.y (.bool b), [], [])
def intR (k : Int) : T An := .ret (.y (.int .i64 k), [], [])
def clnR (n : Nat) (c : Nat → Nat → AV) : T An := .ret (.own 0 1 0 n, [.row 5 1 n none c], [])
noncomputable def clnH : HintsT Tryd.prog := hh _ noLp noCs (op1 55 2 0 (.row 5 1) noOp)
def vcClone0 (n : Nat) (c : Nat → Nat → AV) : Prop :=
  ((0 : Nat) = (0 : Nat) ∧ (0 : Nat) = n) ∧ ((0 : Nat) = n ∧ contLe (0 : Nat) (1 : Nat) (fun (x x_1 : Nat) => AV.junk) c) ∧ True
theorem vcClone0_eq (n : Nat) (c : Nat → Nat → AV) : (ctrVC Tryd.prog clnH 55 [.s (.slice none 0 0)] [] (clnR n c)) = vcClone0 n c := by kernel_rfl
def vcClone1 (b : Bool) (n : Nat) (c : Nat → Nat → AV) : Prop :=
  (decide ((0 : Nat) + n ≤ (9223372036854775807 : Nat)) && decide (((0 : Nat) + n) * (1 : Nat) ≤ (140737488355328 : Nat))) = true ∧ ((0 : Nat) = (0 : Nat) ∧ (0 : Nat) + n = n) ∧ ((0 : Nat) + n = n ∧ contLe ((0 : Nat) + n) (1 : Nat) (appRow (0 : Nat) (fun (k j : Nat) => AV.junk) c) c) ∧ True
theorem vcClone1_eq (b : Bool) (n : Nat) (c : Nat → Nat → AV) : (ctrVC Tryd.prog clnH 55 [.yn b 1 n c] [] (clnR n c)) = vcClone1 b n c := by kernel_rfl
theorem clone_c (b : Bool) (n : Nat) (c : Nat → Nat → AV) (hl : n ≤ 140737488355328) : (clnR n c).Sat (ACall' Tryd.prog 55 [.ys b 1 n c] []) := by
  refine nil_cases (pre := []) (post := []) (fun h0 => ?_) ?_ ⟨_, rfl⟩
  · refine ctr_vc (ht := clnH) Tryd.mixed rfl ?_
    rw [List.nil_append, vcClone0_eq n c]
    unfold vcClone0
    simp [h0]
  · refine ctr_vc (ht := clnH) Tryd.mixed rfl ?_
    rw [List.nil_append, vcClone1_eq b n c]
    unfold vcClone1
    simp
    omega
noncomputable def clnC (b : Bool) (n : Nat) (c : Nat → Nat → AV) : Ctr Tryd.prog := ⟨55, [.ys b 1 n c], [], .need (n ≤ 140737488355328) (clnR n c), T.Sat.need fun h => clone_c b n c h⟩
def Rec.to (x : Rec) (o : Int) : Rec := ⟨o, x.key, x.val, x.prod, x.seq⟩
def recR (x : Rec) : T An := .ret (.agg (encR x), [], [])
noncomputable def ownH (x : Rec) : HintsT Tryd.prog := withSh (hh _ noLp (cs1 35 1 4 (clnC true x.val.length (cellsOf' encB x.val)) noCs) noOp) (sh1 35 2 0 779 noSh)
def vcOwn (x : Rec) (o : Int) : Prop :=
  ((true = true ∧ List.length x.val = List.length x.val ∧ contLe (List.length x.val) (1 : Nat) (cellsOf' encB x.val) (cellsOf' encB x.val)) ∧ True) ∧ True ∧ List.length x.val ≤ (140737488355328 : Nat) ∧ (∀ (k : Nat), k < List.length x.val → ∀ (j : Nat), j < (1 : Nat) → tagT (cellsOf' encB x.val k j) = true) ∧ (IntKind.wrap IntKind.u64 o = IntKind.wrap IntKind.u64 o ∧ x.key = x.key ∧ (true = true ∧ List.length x.val = List.length x.val ∧ contLe (List.length x.val) (1 : Nat) (Ax.rowAt (0 : Nat) (cellsOf' encB x.val)) (cellsOf' encB x.val)) ∧ x.prod = x.prod ∧ x.seq = x.seq ∧ True) ∧ True
theorem vcOwn_eq (x : Rec) (o : Int) : (ctrVC Tryd.prog (ownH x) 35 [.agg (encR x), .y (.int .i64 o)] [] (recR (x.to (IntKind.u64.wrap o)))) = vcOwn x o := by kernel_rfl
noncomputable def atH : HintsT Tryd.prog := withSh (hh _ noLp noCs noOp) (sh1 57 3 0 779 noSh)
def vcAt (x : Rec) (o : Int) : Prop :=
  (decide ((0 : Nat) + List.length x.val ≤ (9223372036854775807 : Nat)) && decide (((0 : Nat) + List.length x.val) * (1 : Nat) ≤ (140737488355328 : Nat))) = true ∧ (∀ (k : Nat), k < (0 : Nat) + List.length x.val → ∀ (j : Nat), j < (1 : Nat) → tagT (appRow (0 : Nat) (fun (k j : Nat) => AV.junk) (cellsOf' encB x.val) k j) = true) ∧ (IntKind.wrap IntKind.u64 o = IntKind.wrap IntKind.u64 o ∧ x.key = x.key ∧ (true = true ∧ (0 : Nat) + List.length x.val = List.length x.val ∧ contLe ((0 : Nat) + List.length x.val) (1 : Nat) (Ax.rowAt (0 : Nat) (appRow (0 : Nat) (fun (k j : Nat) => AV.junk) (cellsOf' encB x.val))) (cellsOf' encB x.val)) ∧ x.prod = x.prod ∧ x.seq = x.seq ∧ True) ∧ True
theorem vcAt_eq (x : Rec) (o : Int) : (ctrVC Tryd.prog atH 57 [.agg (encR x), .y (.int .i64 o)] [] (recR (x.to (IntKind.u64.wrap o)))) = vcAt x o := by kernel_rfl
def lt (a b : ByteArray) : Bool := Op.bytesLess a.data.toList b.data.toList
def chkK (r : Rng) : Int := if 32 < r.lo.size ∨ 32 < r.hi.size then 131 else if (!r.hi.data.toList == []) = true ∧ (lt r.hi r.lo || r.hi.data.toList == r.lo.data.toList) = true then 132 else 0
def vcChk (r : Rng) : Prop :=
  (decide ((32 : Int) < (↑(ByteArray.size r.lo) : Int)) = true → (131 : Int) = chkK r ∧ True) ∧ (decide ((32 : Int) < (↑(ByteArray.size r.lo) : Int)) = false → (decide ((32 : Int) < (↑(ByteArray.size r.hi) : Int)) = true → (131 : Int) = chkK r ∧ True) ∧ (decide ((32 : Int) < (↑(ByteArray.size r.hi) : Int)) = false → ((!r.hi.data.toList == []) = true → ((Op.bytesLess r.hi.data.toList r.lo.data.toList || r.hi.data.toList == r.lo.data.toList) = true → (132 : Int) = chkK r ∧ True) ∧ ((Op.bytesLess r.hi.data.toList r.lo.data.toList || r.hi.data.toList == r.lo.data.toList) = false → (0 : Int) = chkK r ∧ True)) ∧ ((!r.hi.data.toList == []) = false → (0 : Int) = chkK r ∧ True)))
theorem vcChk_eq (r : Rng) : (ctrVC Tryd.prog (hT _) 32 [.agg (encG r)] [] (intR (chkK r))) = vcChk r := by kernel_rfl
def vcChk2 (r : Rng) : Prop :=
  (decide ((32 : Int) < (↑(ByteArray.size r.lo) : Int)) = true → (131 : Int) = chkK r ∧ True) ∧ (decide ((32 : Int) < (↑(ByteArray.size r.lo) : Int)) = false → (decide ((32 : Int) < (↑(ByteArray.size r.hi) : Int)) = true → (131 : Int) = chkK r ∧ True) ∧ (decide ((32 : Int) < (↑(ByteArray.size r.hi) : Int)) = false → ((!r.hi.data.toList == []) = true → ((Op.bytesLess r.hi.data.toList r.lo.data.toList || r.hi.data.toList == r.lo.data.toList) = true → (132 : Int) = chkK r ∧ True) ∧ ((Op.bytesLess r.hi.data.toList r.lo.data.toList || r.hi.data.toList == r.lo.data.toList) = false → (0 : Int) = chkK r ∧ True)) ∧ ((!r.hi.data.toList == []) = false → (0 : Int) = chkK r ∧ True)))
theorem vcChk2_eq (r : Rng) : (ctrVC Tryd.prog (hT _) 40 [.agg (encG r)] [] (intR (chkK r))) = vcChk2 r := by kernel_rfl
end Go.Proofs.YtckklclehofddaaDoor

namespace Go.Proofs.YtckklclehofddaaDoor
open Go.Ax
set_option maxRecDepth 1000000
theorem own_c (x : Rec) (o : Int) (h : x.val.length ≤ 140737488355328) : (recR (x.to (IntKind.u64.wrap o))).Sat (ACall' Tryd.prog 35 [.agg (encR x), .y (.int .i64 o)] []) := by
  refine ctr_vc (ht := ownH x) Tryd.mixed rfl ?_
  rw [vcOwn_eq x o]
  unfold vcOwn
  simp [h]
  exact fun _ _ => rfl
theorem at_c (x : Rec) (o : Int) (h : x.val.length ≤ 140737488355328) : (recR (x.to (IntKind.u64.wrap o))).Sat (ACall' Tryd.prog 57 [.agg (encR x), .y (.int .i64 o)] []) := by
  refine ctr_vc (ht := atH) Tryd.mixed rfl ?_
  rw [vcAt_eq x o]
  unfold vcAt
  simp
  exact ⟨⟨by omega, by omega⟩, fun _ _ => rfl⟩
noncomputable def ownC (x : Rec) (o : Int) : Ctr Tryd.prog := ⟨35, [.agg (encR x), .y (.int .i64 o)], [], .need (x.val.length ≤ 140737488355328) (recR (x.to (IntKind.u64.wrap o))), T.Sat.need fun h => own_c x o h⟩
noncomputable def atC (x : Rec) (o : Int) : Ctr Tryd.prog := ⟨57, [.agg (encR x), .y (.int .i64 o)], [], .need (x.val.length ≤ 140737488355328) (recR (x.to (IntKind.u64.wrap o))), T.Sat.need fun h => at_c x o h⟩
theorem chk_c (r : Rng) : (intR (chkK r)).Sat (ACall' Tryd.prog 32 [.agg (encG r)] []) := by
  refine ctr_vc (ht := hT _) Tryd.mixed rfl ?_
  rw [vcChk_eq r]
  unfold vcChk chkK lt
  simp
  grind
theorem chk2_c (r : Rng) : (intR (chkK r)).Sat (ACall' Tryd.prog 40 [.agg (encG r)] []) := by
  refine ctr_vc (ht := hT _) Tryd.mixed rfl ?_
  rw [vcChk2_eq r]
  unfold vcChk2 chkK lt
  simp
  grind
noncomputable def chkC (r : Rng) : Ctr Tryd.prog := ⟨32, [.agg (encG r)], [], intR (chkK r), chk_c r⟩
noncomputable def chk2C (r : Rng) : Ctr Tryd.prog := ⟨40, [.agg (encG r)], [], intR (chkK r), chk2_c r⟩
def hasK (r : Rng) (k : ByteArray) : Bool := chkK r == 0 && (decide ((k.size : Int) ≤ 32) && ((lt r.lo k || r.lo.data.toList == k.data.toList) && (r.hi.data.toList == [] || lt k r.hi)))
noncomputable def hasH (r : Rng) : HintsT Tryd.prog := hh _ noLp (cs1 33 1 1 (chkC r) noCs) noOp
noncomputable def has2H (r : Rng) : HintsT Tryd.prog := hh _ noLp (cs1 41 1 1 (chk2C r) noCs) noOp
def vcHas (r : Rng) (k : ByteArray) : Prop :=
  ((r.lo = r.lo ∧ r.hi = r.hi ∧ True) ∧ True) ∧ True ∧ ((chkK r == (0 : Int)) = true → (decide ((↑(ByteArray.size k) : Int) ≤ (32 : Int)) = true → ((Op.bytesLess r.lo.data.toList k.data.toList || r.lo.data.toList == k.data.toList) = true → ((r.hi.data.toList == []) = true → true = hasK r k ∧ True) ∧ ((r.hi.data.toList == []) = false → Op.bytesLess k.data.toList r.hi.data.toList = hasK r k ∧ True)) ∧ ((Op.bytesLess r.lo.data.toList k.data.toList || r.lo.data.toList == k.data.toList) = false → false = hasK r k ∧ True)) ∧ (decide ((↑(ByteArray.size k) : Int) ≤ (32 : Int)) = false → false = hasK r k ∧ True)) ∧ ((chkK r == (0 : Int)) = false → false = hasK r k ∧ True)
theorem vcHas_eq (r : Rng) (k : ByteArray) : (ctrVC Tryd.prog (hasH r) 33 [.agg (encG r), .y (.string k)] [] (boolR (hasK r k))) = vcHas r k := by kernel_rfl
def vcHas2 (r : Rng) (k : ByteArray) : Prop :=
  ((r.lo = r.lo ∧ r.hi = r.hi ∧ True) ∧ True) ∧ True ∧ ((chkK r == (0 : Int)) = true → (decide ((↑(ByteArray.size k) : Int) ≤ (32 : Int)) = true → ((!Op.bytesLess k.data.toList r.lo.data.toList) = true → ((r.hi.data.toList == []) = true → true = hasK r k ∧ True) ∧ ((r.hi.data.toList == []) = false → Op.bytesLess k.data.toList r.hi.data.toList = hasK r k ∧ True)) ∧ ((!Op.bytesLess k.data.toList r.lo.data.toList) = false → false = hasK r k ∧ True)) ∧ (decide ((↑(ByteArray.size k) : Int) ≤ (32 : Int)) = false → false = hasK r k ∧ True)) ∧ ((chkK r == (0 : Int)) = false → false = hasK r k ∧ True)
theorem vcHas2_eq (r : Rng) (k : ByteArray) : (ctrVC Tryd.prog (has2H r) 41 [.agg (encG r), .y (.string k)] [] (boolR (hasK r k))) = vcHas2 r k := by kernel_rfl
theorem less_irr : ∀ l : List UInt8, Op.bytesLess l l = false
  | [] => rfl
  | a :: l => by simp [Op.bytesLess, less_irr l]
theorem less_asymm : ∀ (a b : List UInt8), Op.bytesLess a b = true → Op.bytesLess b a = false
  | [], [], h => by simp [Op.bytesLess] at h
  | [], _ :: _, _ => rfl
  | _ :: _, [], h => by simp [Op.bytesLess] at h
  | a :: l, b :: m, h => by
    simp only [Op.bytesLess, Bool.or_eq_true, Bool.and_eq_true, decide_eq_true_eq, beq_iff_eq] at h ⊢
    rcases h with h | ⟨rfl, h⟩
    · have h1 : ¬ b < a := UInt8.not_lt.2 (UInt8.le_of_lt h)
      have h2 : ¬ b = a := fun e => by subst e; exact absurd h (UInt8.lt_irrefl _)
      simp [h1, h2]
    · have := less_asymm l m h
      simp [this]
theorem less_total : ∀ (a b : List UInt8), Op.bytesLess a b = false → Op.bytesLess b a = false → a = b
  | [], [], _, _ => rfl
  | [], _ :: _, h, _ => by simp [Op.bytesLess] at h
  | _ :: _, [], _, h => by simp [Op.bytesLess] at h
  | a :: l, b :: m, h, k => by
    simp only [Op.bytesLess, Bool.or_eq_false_iff, Bool.and_eq_false_iff, decide_eq_false_iff_not, beq_eq_false_iff_ne] at h k
    have e : a = b := UInt8.le_antisymm (UInt8.not_lt.1 k.1) (UInt8.not_lt.1 h.1)
    subst e
    rw [less_total l m (h.2.resolve_left fun q => q rfl) (k.2.resolve_left fun q => q rfl)]
theorem less_geq (a b : List UInt8) : (!Op.bytesLess a b) = (Op.bytesLess b a || b == a) := by
  cases h : Op.bytesLess a b
  · cases k : Op.bytesLess b a
    · simp [less_total a b h k]
    · rfl
  · have h1 := less_asymm a b h
    have h2 : ¬ b = a := fun e => by subst e; rw [less_irr] at h; cases h
    simp [h1, h2]
theorem has_c (r : Rng) (k : ByteArray) : (boolR (hasK r k)).Sat (ACall' Tryd.prog 33 [.agg (encG r), .y (.string k)] []) := by
  refine ctr_vc (ht := hasH r) Tryd.mixed rfl ?_
  rw [vcHas_eq r k]
  unfold vcHas
  unfold hasK lt
  generalize (chkK r == 0) = a
  generalize decide ((k.size : Int) ≤ 32) = b
  generalize Op.bytesLess r.lo.data.toList k.data.toList = c
  generalize (r.lo.data.toList == k.data.toList) = d
  generalize (r.hi.data.toList == []) = e
  generalize Op.bytesLess k.data.toList r.hi.data.toList = f
  cases a <;> cases b <;> cases c <;> cases d <;> cases e <;> cases f <;> simp
theorem has2_c (r : Rng) (k : ByteArray) : (boolR (hasK r k)).Sat (ACall' Tryd.prog 41 [.agg (encG r), .y (.string k)] []) := by
  refine ctr_vc (ht := has2H r) Tryd.mixed rfl ?_
  rw [vcHas2_eq r k]
  unfold vcHas2
  unfold hasK lt
  simp only [less_geq]
  generalize (chkK r == 0) = a
  generalize decide ((k.size : Int) ≤ 32) = b
  generalize Op.bytesLess r.lo.data.toList k.data.toList = c
  generalize (r.lo.data.toList == k.data.toList) = d
  generalize (r.hi.data.toList == []) = e
  generalize Op.bytesLess k.data.toList r.hi.data.toList = f
  cases a <;> cases b <;> cases c <;> cases d <;> cases e <;> cases f <;> simp
end Go.Proofs.YtckklclehofddaaDoor

namespace Go.Proofs.YtckklclehofddaaDoor
open Go.Ax
set_option maxRecDepth 1000000
def okR (x : Rec) (k : Nat) : Bool := !(x.off != IntKind.u64.wrap k) && (decide (x.key.size ≤ 32) && decide (x.val.length ≤ 256))
def logFrom (l : List Rec) (k : Nat) : Bool := (List.range' k (l.length - k)).all fun j => okR (l.getD j default) j
theorem logFrom_end {l : List Rec} {k : Nat} (h : l.length ≤ k) : logFrom l k = true := by
  unfold logFrom
  rw [show l.length - k = 0 by omega]; rfl
theorem logFrom_step {l : List Rec} {k : Nat} (h : k < l.length) : logFrom l k = (okR (l.getD k default) k && logFrom l (k + 1)) := by
  unfold logFrom
  rw [show l.length - k = (l.length - (k + 1)) + 1 by omega, List.range'_succ]; rfl
def isLog (l : List Rec) : Bool := logFrom l 0 && decide (l.length ≤ 4096)
def lgT (b : Bool) (l : List Rec) (k : Nat) : List AV := mkT 33 [(0, encRs b l), (2, .s (.bool false)), (5, encRs b l), (6, .y (.int .i64 l.length)), (7, .y (.int .i64 k))]
def lgS (b : Bool) (l : List Rec) (r : Bool) : Exit × List AV × List Blk := match r with
  | true => (.exit 0, mkT 33 [(0, encRs b l)], [])
  | false => (.ret, mkT 33 [(2, .s (.bool false))], [])
def lgO (l : List Rec) (k : Nat) : T Bool := .ite (logFrom l k) (.ret true) (.ret false)
def vcLgL (b : Bool) (l : List Rec) (k : Nat) : Prop :=
  (decide ((↑k : Int) < (↑(List.length l) : Int)) = true → (true && decide ((↑k : Int) < (↑(List.length l) : Int))) = true ∧ (((List.getD l (Int.toNat (↑k : Int)) (@default Rec instInhabitedRec)).off != IntKind.wrap IntKind.u64 (↑k : Int)) = true → (logFrom l k = true → False) ∧ (logFrom l k = false → (false = false ∧ True) ∧ True ∧ true = true)) ∧ (((List.getD l (Int.toNat (↑k : Int)) (@default Rec instInhabitedRec)).off != IntKind.wrap IntKind.u64 (↑k : Int)) = false → (decide ((32 : Int) < (↑(ByteArray.size (List.getD l (Int.toNat (↑k : Int)) (@default Rec instInhabitedRec)).key) : Int)) = true → (logFrom l k = true → False) ∧ (logFrom l k = false → (false = false ∧ True) ∧ True ∧ true = true)) ∧ (decide ((32 : Int) < (↑(ByteArray.size (List.getD l (Int.toNat (↑k : Int)) (@default Rec instInhabitedRec)).key) : Int)) = false → (decide ((256 : Int) < (↑(List.length (List.getD l (Int.toNat (↑k : Int)) (@default Rec instInhabitedRec)).val) : Int)) = true → (logFrom l k = true → False) ∧ (logFrom l k = false → (false = false ∧ True) ∧ True ∧ true = true)) ∧ (decide ((256 : Int) < (↑(List.length (List.getD l (Int.toNat (↑k : Int)) (@default Rec instInhabitedRec)).val) : Int)) = false → ∃ (j : Nat), List.length l - j < List.length l - k ∧ (((b = b ∧ List.length l = List.length l ∧ contLe (List.length l) (5 : Nat) (cellsOf' encR l) (cellsOf' encR l)) ∧ false = false ∧ (b = b ∧ List.length l = List.length l ∧ contLe (List.length l) (5 : Nat) (cellsOf' encR l) (cellsOf' encR l)) ∧ (↑(List.length l) : Int) = (↑(List.length l) : Int) ∧ IntKind.wrap IntKind.i64 ((↑k : Int) + (1 : Int)) = (↑j : Int) ∧ True) ∧ True ∧ true = true) ∧ true = true ∧ (logFrom l j = true → (logFrom l k = true → true = true) ∧ (logFrom l k = false → true = false)) ∧ (logFrom l j = false → (logFrom l k = true → false = true) ∧ (logFrom l k = false → false = false)))))) ∧ (decide ((↑k : Int) < (↑(List.length l) : Int)) = false → (logFrom l k = true → ((b = b ∧ List.length l = List.length l ∧ contLe (List.length l) (5 : Nat) (cellsOf' encR l) (cellsOf' encR l)) ∧ True) ∧ True ∧ true = true) ∧ (logFrom l k = false → False))
theorem vcLgL_eq (b : Bool) (l : List Rec) (k : Nat) : (loopVC Tryd.prog (hT _) 34 2 (fun k => l.length - k) (lgT b l) (fun _ => []) [0] (lgO l) (lgS b l) k) = vcLgL b l k := by kernel_rfl
noncomputable def lgH (b : Bool) (l : List Rec) : HintsT Tryd.prog := hh _ (lp1 34 2 (jobOf (lgT b l) (fun _ => []) [0] (lgO l) (lgS b l) 0) noLp) noCs noOp
def vcLg (b : Bool) (l : List Rec) : Prop :=
  (((b = b ∧ List.length l = List.length l ∧ contLe (List.length l) (5 : Nat) (cellsOf' encR l) (cellsOf' encR l)) ∧ false = false ∧ (b = b ∧ List.length l = List.length l ∧ contLe (List.length l) (5 : Nat) (cellsOf' encR l) (cellsOf' encR l)) ∧ (↑(List.length l) : Int) = (↑(List.length l) : Int) ∧ (0 : Int) = (0 : Int) ∧ True) ∧ True ∧ true = true) ∧ LoopOk Tryd.prog (34 : Nat) (2 : Nat) (loopAt Tryd.prog (34 : Nat) (2 : Nat)) { t := lgT b l (0 : Nat), m := [], mv := [] : St } (T.map (lout [(0 : Nat)] (lgS b l)) (lgO l (0 : Nat))) ∧ (logFrom l (0 : Nat) = true → decide ((↑(List.length l) : Int) ≤ (4096 : Int)) = isLog l ∧ True) ∧ (logFrom l (0 : Nat) = false → false = isLog l ∧ True)
theorem vcLg_eq (b : Bool) (l : List Rec) : (ctrVC Tryd.prog (lgH b l) 34 [encRs b l] [] (boolR (isLog l))) = vcLg b l := by kernel_rfl
def lrT (b : Bool) (l : List Rec) (k : Nat) : List AV := mkT 39 [(0, encRs b l), (2, .s (.bool false)), (3, .y (.int .i64 k))]
def lrS (r : Bool) : Exit × List AV × List Blk := match r with
  | true => (.exit 0, mkT 39 [], [])
  | false => (.ret, mkT 39 [(2, .s (.bool false))], [])
def vcLrL (b : Bool) (l : List Rec) (k : Nat) : Prop :=
  (decide ((↑k : Int) < (↑(List.length l) : Int)) = true → (true && decide ((↑k : Int) < (↑(List.length l) : Int))) = true ∧ (((List.getD l (Int.toNat (↑k : Int)) (@default Rec instInhabitedRec)).off != IntKind.wrap IntKind.u64 (↑k : Int)) = true → (logFrom l k = true → False) ∧ (logFrom l k = false → (false = false ∧ True) ∧ True ∧ true = true)) ∧ (((List.getD l (Int.toNat (↑k : Int)) (@default Rec instInhabitedRec)).off != IntKind.wrap IntKind.u64 (↑k : Int)) = false → (true && decide ((↑k : Int) < (↑(List.length l) : Int))) = true ∧ (decide ((32 : Int) < (↑(ByteArray.size (List.getD l (Int.toNat (↑k : Int)) (@default Rec instInhabitedRec)).key) : Int)) = true → (logFrom l k = true → False) ∧ (logFrom l k = false → (false = false ∧ True) ∧ True ∧ true = true)) ∧ (decide ((32 : Int) < (↑(ByteArray.size (List.getD l (Int.toNat (↑k : Int)) (@default Rec instInhabitedRec)).key) : Int)) = false → (true && decide ((↑k : Int) < (↑(List.length l) : Int))) = true ∧ (decide ((256 : Int) < (↑(List.length (List.getD l (Int.toNat (↑k : Int)) (@default Rec instInhabitedRec)).val) : Int)) = true → (logFrom l k = true → False) ∧ (logFrom l k = false → (false = false ∧ True) ∧ True ∧ true = true)) ∧ (decide ((256 : Int) < (↑(List.length (List.getD l (Int.toNat (↑k : Int)) (@default Rec instInhabitedRec)).val) : Int)) = false → ∃ (j : Nat), List.length l - j < List.length l - k ∧ (((b = b ∧ List.length l = List.length l ∧ contLe (List.length l) (5 : Nat) (cellsOf' encR l) (cellsOf' encR l)) ∧ false = false ∧ IntKind.wrap IntKind.i64 ((↑k : Int) + (1 : Int)) = (↑j : Int) ∧ True) ∧ True ∧ true = true) ∧ true = true ∧ (logFrom l j = true → (logFrom l k = true → true = true) ∧ (logFrom l k = false → true = false)) ∧ (logFrom l j = false → (logFrom l k = true → false = true) ∧ (logFrom l k = false → false = false)))))) ∧ (decide ((↑k : Int) < (↑(List.length l) : Int)) = false → (logFrom l k = true → True ∧ True ∧ true = true) ∧ (logFrom l k = false → False))
theorem vcLrL_eq (b : Bool) (l : List Rec) (k : Nat) : (loopVC Tryd.prog (hT _) 37 4 (fun k => l.length - k) (lrT b l) (fun _ => []) [0] (lgO l) lrS k) = vcLrL b l k := by kernel_rfl
noncomputable def lrH (b : Bool) (l : List Rec) : HintsT Tryd.prog := hh _ (lp1 37 4 (jobOf (lrT b l) (fun _ => []) [0] (lgO l) lrS 0) noLp) noCs noOp
def vcLr (b : Bool) (l : List Rec) : Prop :=
  (decide ((4096 : Int) < (↑(List.length l) : Int)) = true → false = isLog l ∧ True) ∧ (decide ((4096 : Int) < (↑(List.length l) : Int)) = false → (((b = b ∧ List.length l = List.length l ∧ contLe (List.length l) (5 : Nat) (cellsOf' encR l) (cellsOf' encR l)) ∧ false = false ∧ (0 : Int) = (0 : Int) ∧ True) ∧ True ∧ true = true) ∧ LoopOk Tryd.prog (37 : Nat) (4 : Nat) (loopAt Tryd.prog (37 : Nat) (4 : Nat)) { t := lrT b l (0 : Nat), m := [], mv := [] : St } (T.map (lout [(0 : Nat)] lrS) (lgO l (0 : Nat))) ∧ (logFrom l (0 : Nat) = true → true = isLog l ∧ True) ∧ (logFrom l (0 : Nat) = false → false = isLog l ∧ True))
theorem vcLr_eq (b : Bool) (l : List Rec) : (ctrVC Tryd.prog (lrH b l) 37 [encRs b l] [] (boolR (isLog l))) = vcLr b l := by kernel_rfl
def below (x y : Rec) : Bool := y.prod == x.prod && decide (y.seq < x.seq)
def lowR (l : List Rec) (x : Rec) : Bool := l.any (below x)
end Go.Proofs.YtckklclehofddaaDoor

namespace Go.Proofs.YtckklclehofddaaDoor
open Go.Ax
set_option maxRecDepth 1000000
theorem lg_loop (b : Bool) (l : List Rec) (hl : l.length ≤ 9223372036854775806) (k : Nat) : LoopOk Tryd.prog 34 2 (loopAt Tryd.prog 34 2) ⟨lgT b l k, [], []⟩ ((lgO l k).map (lout [0] (lgS b l))) := by
  refine loop_vc Tryd.mixed (fun _ => rfl) (fun k => (vcLgL_eq b l k).mpr ?_) k
  unfold vcLgL
  simp
  refine ⟨fun h => ?_, fun h => by simp [logFrom_end h]⟩
  rw [logFrom_step h]
  simp (disch := omega) only [wrap_i64]
  simp [okR, cast_succ_eq]
  generalize l[k]?.getD default = x
  grind
theorem lg_c (b : Bool) (l : List Rec) (hl : l.length ≤ 9223372036854775806) : (boolR (isLog l)).Sat (ACall' Tryd.prog 34 [encRs b l] []) := by
  refine ctr_vc (ht := lgH b l) Tryd.mixed rfl ?_
  rw [vcLg_eq b l]
  unfold vcLg
  have := lg_loop b l hl 0
  simp [this, isLog]
  grind
theorem lr_loop (b : Bool) (l : List Rec) (hl : l.length ≤ 9223372036854775806) (k : Nat) : LoopOk Tryd.prog 37 4 (loopAt Tryd.prog 37 4) ⟨lrT b l k, [], []⟩ ((lgO l k).map (lout [0] lrS)) := by
  refine loop_vc Tryd.mixed (fun _ => rfl) (fun k => (vcLrL_eq b l k).mpr ?_) k
  unfold vcLrL
  simp
  refine ⟨fun h => ?_, fun h => by simp [logFrom_end h]⟩
  rw [logFrom_step h]
  simp (disch := omega) only [wrap_i64]
  simp [okR, cast_succ_eq]
  generalize l[k]?.getD default = x
  grind
theorem lr_c (b : Bool) (l : List Rec) (hl : l.length ≤ 9223372036854775806) : (boolR (isLog l)).Sat (ACall' Tryd.prog 37 [encRs b l] []) := by
  refine ctr_vc (ht := lrH b l) Tryd.mixed rfl ?_
  rw [vcLr_eq b l]
  unfold vcLr
  have := lr_loop b l hl 0
  simp [this, isLog]
  grind
noncomputable def lgC (b : Bool) (l : List Rec) : Ctr Tryd.prog := ⟨34, [encRs b l], [], .need (l.length ≤ 9223372036854775806) (boolR (isLog l)), T.Sat.need fun h => lg_c b l h⟩
noncomputable def lrC (b : Bool) (l : List Rec) : Ctr Tryd.prog := ⟨37, [encRs b l], [], .need (l.length ≤ 9223372036854775806) (boolR (isLog l)), T.Sat.need fun h => lr_c b l h⟩
end Go.Proofs.YtckklclehofddaaDoor

namespace Go.Proofs.YtckklclehofddaaDoor
open Go.Ax
set_option maxRecDepth 1000000
def hd (l : List Rec) : Rec := l.getD 0 default
structure Jo where
  (a b out : List Rec) (ta tb : List Int)
def Jo.tA (s : Jo) : Bool := !s.a.isEmpty && !lowR s.b (hd s.a)
def Jo.tB (s : Jo) : Bool := !s.b.isEmpty && !lowR s.a (hd s.b)
def Jo.at (s : Jo) : Int := IntKind.u64.wrap (s.out.length : Nat)
def Jo.goA (s : Jo) : Jo := ⟨s.a.tail, s.b, s.out ++ [(hd s.a).to s.at], s.ta ++ [s.at], s.tb⟩
def Jo.goB (s : Jo) : Jo := ⟨s.a, s.b.tail, s.out ++ [(hd s.b).to s.at], s.ta, s.tb ++ [s.at]⟩
def joinN : Nat → Jo → Option Jo
  | 0, s => some s
  | n + 1, s => if s.tA then joinN n s.goA else if s.tB then joinN n s.goB else none
def Jo.run (s : Jo) : Option Jo := joinN (s.a.length + s.b.length) s
structure Jo.Ok (s : Jo) : Prop where
  a : ∀ x ∈ s.a, x.val.length ≤ 256
  b : ∀ x ∈ s.b, x.val.length ≤ 256
  n : s.a.length + s.b.length + s.out.length ≤ 4096
  ta : s.ta.length ≤ s.out.length
  tb : s.tb.length ≤ s.out.length
def jX : List Nat := [0, 1, 2, 3, 4, 5, 6, 7, 8, 9, 10]
def Jo.end (s : Jo) : Jo := ⟨s.a, s.b, s.out, s.ta ++ [s.at], s.tb ++ [s.at]⟩
end Go.Proofs.YtckklclehofddaaDoor

namespace Go.Proofs.YtckklclehofddaaDoor
open Go.Ax
set_option maxRecDepth 1000000
theorem app1_le1 {α : Type} [Inhabited α] {enc : α → List AV} {l : List α} {cs : List AV} {x : α} (h : le0 (get cs 0) (get (enc x) 0)) :
    contLe (l.length + 1) 1 (appRow l.length (cellsOf' enc l) (fun k j => get cs (k + j))) (cellsOf' enc (l ++ [x])) := by
  have := app1_le (enc := enc) (l := l) (n := l.length) (sz := 1) (cs := cs) (x := x) rfl fun j hj => by
    obtain rfl : j = 0 := by omega
    exact h
  simpa using this
theorem rec_le {cs : List AV} {x : Rec} (h0 : le0 (get cs 0) (.y (.int .u64 x.off))) (h1 : le0 (get cs 1) (.y (.string x.key))) (h2 : le0 (get cs 2) (encBs true x.val)) (h3 : le0 (get cs 3) (.y (.int .u64 x.prod))) (h4 : le0 (get cs 4) (.y (.int .u64 x.seq))) : ∀ j, j < 5 → le0 (get cs j) (get (encR x) j) := by
  intro j hj
  match j, hj with
  | 0, _ => exact h0
  | 1, _ => exact h1
  | 2, _ => exact h2
  | 3, _ => exact h3
  | 4, _ => exact h4
end Go.Proofs.YtckklclehofddaaDoor

namespace Go.Proofs.YtckklclehofddaaDoor
open Go.Ax
set_option maxRecDepth 1000000
end Go.Proofs.YtckklclehofddaaDoor

namespace Go.Proofs
open Go.Shelf
def Tryd.lays160_ren : Go.Shelf.Ren := ⟨fun | 160 => 64 | 232 => 66 | 231 => 65 | 227 => 67 | 234 => 69 | 233 => 68 | 236 => 71 | 235 => 70 | 228 => 72 | 271 => 75 | 151 => 74 | 197 => 73 | 120 => 78 | 152 => 77 | 260 => 76 | 137 => 79 | 119 => 80 | 224 => 81 | 225 => 82 | 217 => 83 | 266 => 84 | n => n, fun | 9 => 9 | 4 => 4 | 3 => 3 | 5 => 5 | 117 => 113 | 116 => 112 | 0 => 0 | 124 => 116 | 21 => 21 | 105 => 118 | 46 => 68 | 119 => 122 | 139 => 125 | 138 => 124 | n => n, fun | 3 => 0 | 4 => 1 | n => n⟩
theorem Tryd.lays160 : Go.Proofs.Lays.n160 Tryd.prog Tryd.lays160_ren := {
  mixed := by kernel_rfl
  f119 := Tryd.func80.trans (congrArg some (by kernel_rfl))
  f120 := Tryd.func78.trans (congrArg some (by kernel_rfl))
  f137 := Tryd.func79.trans (congrArg some (by kernel_rfl))
  f151 := Tryd.func74.trans (congrArg some (by kernel_rfl))
  f152 := Tryd.func77.trans (congrArg some (by kernel_rfl))
  f160 := Tryd.func64.trans (congrArg some (by kernel_rfl))
  f197 := Tryd.func73.trans (congrArg some (by kernel_rfl))
  f217 := Tryd.func83.trans (congrArg some (by kernel_rfl))
  f224 := Tryd.func81.trans (congrArg some (by kernel_rfl))
  f225 := Tryd.func82.trans (congrArg some (by kernel_rfl))
  f227 := Tryd.func67.trans (congrArg some (by kernel_rfl))
  f228 := Tryd.func72.trans (congrArg some (by kernel_rfl))
  f231 := Tryd.func65.trans (congrArg some (by kernel_rfl))
  f232 := Tryd.func66.trans (congrArg some (by kernel_rfl))
  f233 := Tryd.func68.trans (congrArg some (by kernel_rfl))
  f234 := Tryd.func69.trans (congrArg some (by kernel_rfl))
  f235 := Tryd.func70.trans (congrArg some (by kernel_rfl))
  f236 := Tryd.func71.trans (congrArg some (by kernel_rfl))
  f260 := Tryd.func76.trans (congrArg some (by kernel_rfl))
  f266 := Tryd.func84.trans (congrArg some (by kernel_rfl))
  f271 := Tryd.func75.trans (congrArg some (by kernel_rfl))
  t0 := Tryd.underlying0
  a0 := Tryd.isAgg0
  z0 := Tryd.sizeOf0
  v0 := Tryd.zeroValue0
  t3 := Tryd.underlying3
  a3 := Tryd.isAgg3
  z3 := Tryd.sizeOf3
  v3 := Tryd.zeroValue3
  t4 := Tryd.underlying4
  a4 := Tryd.isAgg4
  z4 := Tryd.sizeOf4
  v4 := Tryd.zeroValue4
  t5 := Tryd.underlying5
  a5 := Tryd.isAgg5
  z5 := Tryd.sizeOf5
  v5 := Tryd.zeroValue5
  t9 := Tryd.underlying9
  a9 := Tryd.isAgg9
  z9 := Tryd.sizeOf9
  v9 := Tryd.zeroValue9
  t21 := Tryd.underlying21
  a21 := Tryd.isAgg21
  z21 := Tryd.sizeOf21
  v21 := Tryd.zeroValue21
  t46 := Tryd.underlying68
  a46 := Tryd.isAgg68
  z46 := Tryd.sizeOf68
  v46 := Tryd.zeroValue68
  t105 := Tryd.underlying118
  a105 := Tryd.isAgg118
  z105 := Tryd.sizeOf118
  v105 := Tryd.zeroValue118
  t116 := Tryd.underlying112
  a116 := Tryd.isAgg112
  z116 := Tryd.sizeOf112
  t117 := Tryd.underlying113
  a117 := Tryd.isAgg113
  z117 := Tryd.sizeOf113
  v117 := Tryd.zeroValue113
  t119 := Tryd.underlying122
  a119 := Tryd.isAgg122
  z119 := Tryd.sizeOf122
  t124 := Tryd.underlying116
  a124 := Tryd.isAgg116
  z124 := Tryd.sizeOf116
  v124 := Tryd.zeroValue116
  t138 := Tryd.underlying124
  a138 := Tryd.isAgg124
  z138 := Tryd.sizeOf124
  v138 := Tryd.zeroValue124
  t139 := Tryd.underlying125
  a139 := Tryd.isAgg125
  z139 := Tryd.sizeOf125
  v139 := Tryd.zeroValue125
  g3 := by kernel_rfl
  g4 := by kernel_rfl }
end Go.Proofs
namespace Go.Proofs.YtckklclehofddaaDoor
open Go.Ax
set_option maxRecDepth 1000000
def chars : List UInt8 := [97, 98, 99, 100, 101, 102, 103, 104, 105, 106, 107, 108, 109, 110, 111, 112, 113, 114, 115, 116, 117, 118, 119, 120, 121, 122, 48, 49, 50, 51, 52, 53, 54, 55, 56, 57, 45, 95, 46]
def isCh (b : UInt8) : Bool := chars.contains b
def nameOk (s : ByteArray) : Bool := !(s.data.toList == []) && (decide ((s.size : Int) ≤ 32) && s.data.toList.all isCh)
theorem drop_all {l : List UInt8} {p : UInt8 → Bool} : (l.dropWhile p == []) = l.all p := by
  induction l with
  | nil => rfl
  | cons a l ih =>
    rw [List.dropWhile_cons, List.all_cons]
    cases h : p a
    · simp
    · simpa using ih
theorem trim_all (l : List UInt8) : (Lib.trimS l chars == []) = l.all isCh := by
  unfold Lib.trimS Lib.trimLeftS Lib.trimRightS
  rw [drop_all]
  cases h : l.all isCh
  · rw [Bool.eq_false_iff]
    intro h2
    have h3 : ∀ m : List UInt8, (m.dropWhile isCh).all isCh = true → m.all isCh = true := by
      intro m
      induction m with
      | nil => exact fun _ => rfl
      | cons a m ih =>
        rw [List.dropWhile_cons]
        cases ha : isCh a
        · intro h; simp at h; simp [ha] at h
        · intro h; simp only [List.all_cons, ha, Bool.true_and]; exact ih h
    have h4 : (l.reverse.dropWhile isCh).all isCh = true := by
      rw [← List.all_reverse]; exact h2
    have h5 := h3 _ h4
    rw [List.all_reverse] at h5
    rw [h5] at h; cases h
  · rw [List.all_reverse]
    have : l.reverse.dropWhile isCh = [] := by
      have := drop_all (l := l.reverse) (p := isCh)
      rw [List.all_reverse, h] at this
      simpa using this
    have e : l.reverse.dropWhile (fun x => chars.contains x) = [] := this
    rw [e]; rfl
def trimR (s : ByteArray) : T An := .ret (.y (.string ⟨(Lib.trimS s.data.toList chars).toArray⟩), [], [])
theorem trim_c (s : ByteArray) (hs : s.size ≤ 9223372036854775807) : (trimR s).Sat (ACall' Tryd.prog 64 [.y (.string s), .s (.string ⟨chars.toArray⟩)] []) := by
  refine call_below fun w vals hv => ?_
  obtain ⟨H, E, v, l1, e1, hv1, v2, l2, e2, hv2, e3⟩ := hv
  have e3 : l2 = [] := e3
  subst e3
  subst e2
  obtain rfl := hv1.1
  obtain rfl := hv2.1
  have hvals : vals = #[.string s, .string ⟨chars.toArray⟩] := Array.ext' e1
  subst hvals
  refine (Any.strings_Trim_laid Tryd.lays160 (by kernel_rfl) s ⟨chars.toArray⟩ w hs (by decide) (Go.Proofs.ascii_of_all (by decide))).mono ?_
  rintro e w' ⟨rfl, hb⟩
  exact ⟨_, rfl, fun _ _ => ⟨rfl, rfl⟩, hb⟩
noncomputable def trimC (s : ByteArray) : Ctr Tryd.prog := ⟨64, [.y (.string s), .s (.string ⟨chars.toArray⟩)], [], .need (s.size ≤ 9223372036854775807) (trimR s), T.Sat.need fun h => trim_c s h⟩
noncomputable def nameH (s : ByteArray) : HintsT Tryd.prog := hh _ noLp (cs1 61 1 9 (trimC s) noCs) noOp
def vcName (s : ByteArray) : Prop :=
  ((!s.data.toList == []) = true → (decide ((↑(ByteArray.size s) : Int) ≤ (32 : Int)) = true → (s = s ∧ { data := #[(97 : UInt8), (98 : UInt8), (99 : UInt8), (100 : UInt8), (101 : UInt8), (102 : UInt8), (103 : UInt8), (104 : UInt8), (105 : UInt8), (106 : UInt8), (107 : UInt8), (108 : UInt8), (109 : UInt8), (110 : UInt8), (111 : UInt8), (112 : UInt8), (113 : UInt8), (114 : UInt8), (115 : UInt8), (116 : UInt8), (117 : UInt8), (118 : UInt8), (119 : UInt8), (120 : UInt8), (121 : UInt8), (122 : UInt8), (48 : UInt8), (49 : UInt8), (50 : UInt8), (51 : UInt8), (52 : UInt8), (53 : UInt8), (54 : UInt8), (55 : UInt8), (56 : UInt8), (57 : UInt8), (45 : UInt8), (95 : UInt8), (46 : UInt8)] : ByteArray } = { data := #[(97 : UInt8), (98 : UInt8), (99 : UInt8), (100 : UInt8), (101 : UInt8), (102 : UInt8), (103 : UInt8), (104 : UInt8), (105 : UInt8), (106 : UInt8), (107 : UInt8), (108 : UInt8), (109 : UInt8), (110 : UInt8), (111 : UInt8), (112 : UInt8), (113 : UInt8), (114 : UInt8), (115 : UInt8), (116 : UInt8), (117 : UInt8), (118 : UInt8), (119 : UInt8), (120 : UInt8), (121 : UInt8), (122 : UInt8), (48 : UInt8), (49 : UInt8), (50 : UInt8), (51 : UInt8), (52 : UInt8), (53 : UInt8), (54 : UInt8), (55 : UInt8), (56 : UInt8), (57 : UInt8), (45 : UInt8), (95 : UInt8), (46 : UInt8)] : ByteArray } ∧ True) ∧ True ∧ ByteArray.size s ≤ (9223372036854775807 : Nat) ∧ (Lib.trimS s.data.toList [(97 : UInt8), (98 : UInt8), (99 : UInt8), (100 : UInt8), (101 : UInt8), (102 : UInt8), (103 : UInt8), (104 : UInt8), (105 : UInt8), (106 : UInt8), (107 : UInt8), (108 : UInt8), (109 : UInt8), (110 : UInt8), (111 : UInt8), (112 : UInt8), (113 : UInt8), (114 : UInt8), (115 : UInt8), (116 : UInt8), (117 : UInt8), (118 : UInt8), (119 : UInt8), (120 : UInt8), (121 : UInt8), (122 : UInt8), (48 : UInt8), (49 : UInt8), (50 : UInt8), (51 : UInt8), (52 : UInt8), (53 : UInt8), (54 : UInt8), (55 : UInt8), (56 : UInt8), (57 : UInt8), (45 : UInt8), (95 : UInt8), (46 : UInt8)] == []) = nameOk s ∧ True) ∧ (decide ((↑(ByteArray.size s) : Int) ≤ (32 : Int)) = false → false = nameOk s ∧ True)) ∧ ((!s.data.toList == []) = false → false = nameOk s ∧ True)
theorem vcName_eq (s : ByteArray) : (ctrVC Tryd.prog (nameH s) 61 [.y (.string s)] [] (boolR (nameOk s))) = vcName s := by kernel_rfl
def chI (c : Int) : Bool := !((decide (c < 97) || decide (122 < c)) && ((decide (c < 48) || decide (57 < c)) && (c != 45 && (c != 95 && c != 46))))
def nmFrom (s : ByteArray) (k : Nat) : Bool := (s.data.toList.drop k).all isCh
def nmT (s : ByteArray) (k : Nat) : List AV := mkT 48 [(0, .y (.string s)), (2, .s (.bool false)), (3, .y (.int .i64 k))]
def nmS (r : Bool) : Exit × List AV × List Blk := match r with
  | true => (.exit 0, mkT 48 [], [])
  | false => (.ret, mkT 48 [(2, .s (.bool false))], [])
def nmO (s : ByteArray) (k : Nat) : T Bool := .ite (nmFrom s k) (.ret true) (.ret false)
def vcNmL (s : ByteArray) (k : Nat) : Prop :=
  (decide ((↑k : Int) < (↑(ByteArray.size s) : Int)) = true → (true && decide ((↑k : Int) < (↑(ByteArray.size s) : Int))) = true ∧ (decide ((↑(UInt8.toNat (List.getD s.data.toList (Int.toNat (↑k : Int)) (0 : UInt8))) : Int) < (97 : Int)) = true → (decide ((↑(UInt8.toNat (List.getD s.data.toList (Int.toNat (↑k : Int)) (0 : UInt8))) : Int) < (48 : Int)) = true → (((↑(UInt8.toNat (List.getD s.data.toList (Int.toNat (↑k : Int)) (0 : UInt8))) : Int) != (45 : Int)) = true → (((↑(UInt8.toNat (List.getD s.data.toList (Int.toNat (↑k : Int)) (0 : UInt8))) : Int) != (95 : Int)) = true → (((↑(UInt8.toNat (List.getD s.data.toList (Int.toNat (↑k : Int)) (0 : UInt8))) : Int) != (46 : Int)) = true → (nmFrom s k = true → False) ∧ (nmFrom s k = false → (false = false ∧ True) ∧ True ∧ true = true)) ∧ (((↑(UInt8.toNat (List.getD s.data.toList (Int.toNat (↑k : Int)) (0 : UInt8))) : Int) != (46 : Int)) = false → ∃ (j : Nat), ByteArray.size s - j < ByteArray.size s - k ∧ ((s = s ∧ false = false ∧ IntKind.wrap IntKind.i64 ((↑k : Int) + (1 : Int)) = (↑j : Int) ∧ True) ∧ True ∧ true = true) ∧ true = true ∧ (nmFrom s j = true → (nmFrom s k = true → true = true) ∧ (nmFrom s k = false → true = false)) ∧ (nmFrom s j = false → (nmFrom s k = true → false = true) ∧ (nmFrom s k = false → false = false)))) ∧ (((↑(UInt8.toNat (List.getD s.data.toList (Int.toNat (↑k : Int)) (0 : UInt8))) : Int) != (95 : Int)) = false → ∃ (j : Nat), ByteArray.size s - j < ByteArray.size s - k ∧ ((s = s ∧ false = false ∧ IntKind.wrap IntKind.i64 ((↑k : Int) + (1 : Int)) = (↑j : Int) ∧ True) ∧ True ∧ true = true) ∧ true = true ∧ (nmFrom s j = true → (nmFrom s k = true → true = true) ∧ (nmFrom s k = false → true = false)) ∧ (nmFrom s j = false → (nmFrom s k = true → false = true) ∧ (nmFrom s k = false → false = false)))) ∧ (((↑(UInt8.toNat (List.getD s.data.toList (Int.toNat (↑k : Int)) (0 : UInt8))) : Int) != (45 : Int)) = false → ∃ (j : Nat), ByteArray.size s - j < ByteArray.size s - k ∧ ((s = s ∧ false = false ∧ IntKind.wrap IntKind.i64 ((↑k : Int) + (1 : Int)) = (↑j : Int) ∧ True) ∧ True ∧ true = true) ∧ true = true ∧ (nmFrom s j = true → (nmFrom s k = true → true = true) ∧ (nmFrom s k = false → true = false)) ∧ (nmFrom s j = false → (nmFrom s k = true → false = true) ∧ (nmFrom s k = false → false = false)))) ∧ (decide ((↑(UInt8.toNat (List.getD s.data.toList (Int.toNat (↑k : Int)) (0 : UInt8))) : Int) < (48 : Int)) = false → (decide ((57 : Int) < (↑(UInt8.toNat (List.getD s.data.toList (Int.toNat (↑k : Int)) (0 : UInt8))) : Int)) = true → (((↑(UInt8.toNat (List.getD s.data.toList (Int.toNat (↑k : Int)) (0 : UInt8))) : Int) != (45 : Int)) = true → (((↑(UInt8.toNat (List.getD s.data.toList (Int.toNat (↑k : Int)) (0 : UInt8))) : Int) != (95 : Int)) = true → (((↑(UInt8.toNat (List.getD s.data.toList (Int.toNat (↑k : Int)) (0 : UInt8))) : Int) != (46 : Int)) = true → (nmFrom s k = true → False) ∧ (nmFrom s k = false → (false = false ∧ True) ∧ True ∧ true = true)) ∧ (((↑(UInt8.toNat (List.getD s.data.toList (Int.toNat (↑k : Int)) (0 : UInt8))) : Int) != (46 : Int)) = false → ∃ (j : Nat), ByteArray.size s - j < ByteArray.size s - k ∧ ((s = s ∧ false = false ∧ IntKind.wrap IntKind.i64 ((↑k : Int) + (1 : Int)) = (↑j : Int) ∧ True) ∧ True ∧ true = true) ∧ true = true ∧ (nmFrom s j = true → (nmFrom s k = true → true = true) ∧ (nmFrom s k = false → true = false)) ∧ (nmFrom s j = false → (nmFrom s k = true → false = true) ∧ (nmFrom s k = false → false = false)))) ∧ (((↑(UInt8.toNat (List.getD s.data.toList (Int.toNat (↑k : Int)) (0 : UInt8))) : Int) != (95 : Int)) = false → ∃ (j : Nat), ByteArray.size s - j < ByteArray.size s - k ∧ ((s = s ∧ false = false ∧ IntKind.wrap IntKind.i64 ((↑k : Int) + (1 : Int)) = (↑j : Int) ∧ True) ∧ True ∧ true = true) ∧ true = true ∧ (nmFrom s j = true → (nmFrom s k = true → true = true) ∧ (nmFrom s k = false → true = false)) ∧ (nmFrom s j = false → (nmFrom s k = true → false = true) ∧ (nmFrom s k = false → false = false)))) ∧ (((↑(UInt8.toNat (List.getD s.data.toList (Int.toNat (↑k : Int)) (0 : UInt8))) : Int) != (45 : Int)) = false → ∃ (j : Nat), ByteArray.size s - j < ByteArray.size s - k ∧ ((s = s ∧ false = false ∧ IntKind.wrap IntKind.i64 ((↑k : Int) + (1 : Int)) = (↑j : Int) ∧ True) ∧ True ∧ true = true) ∧ true = true ∧ (nmFrom s j = true → (nmFrom s k = true → true = true) ∧ (nmFrom s k = false → true = false)) ∧ (nmFrom s j = false → (nmFrom s k = true → false = true) ∧ (nmFrom s k = false → false = false)))) ∧ (decide ((57 : Int) < (↑(UInt8.toNat (List.getD s.data.toList (Int.toNat (↑k : Int)) (0 : UInt8))) : Int)) = false → ∃ (j : Nat), ByteArray.size s - j < ByteArray.size s - k ∧ ((s = s ∧ false = false ∧ IntKind.wrap IntKind.i64 ((↑k : Int) + (1 : Int)) = (↑j : Int) ∧ True) ∧ True ∧ true = true) ∧ true = true ∧ (nmFrom s j = true → (nmFrom s k = true → true = true) ∧ (nmFrom s k = false → true = false)) ∧ (nmFrom s j = false → (nmFrom s k = true → false = true) ∧ (nmFrom s k = false → false = false))))) ∧ (decide ((↑(UInt8.toNat (List.getD s.data.toList (Int.toNat (↑k : Int)) (0 : UInt8))) : Int) < (97 : Int)) = false → (decide ((122 : Int) < (↑(UInt8.toNat (List.getD s.data.toList (Int.toNat (↑k : Int)) (0 : UInt8))) : Int)) = true → (decide ((↑(UInt8.toNat (List.getD s.data.toList (Int.toNat (↑k : Int)) (0 : UInt8))) : Int) < (48 : Int)) = true → (((↑(UInt8.toNat (List.getD s.data.toList (Int.toNat (↑k : Int)) (0 : UInt8))) : Int) != (45 : Int)) = true → (((↑(UInt8.toNat (List.getD s.data.toList (Int.toNat (↑k : Int)) (0 : UInt8))) : Int) != (95 : Int)) = true → (((↑(UInt8.toNat (List.getD s.data.toList (Int.toNat (↑k : Int)) (0 : UInt8))) : Int) != (46 : Int)) = true → (nmFrom s k = true → False) ∧ (nmFrom s k = false → (false = false ∧ True) ∧ True ∧ true = true)) ∧ (((↑(UInt8.toNat (List.getD s.data.toList (Int.toNat (↑k : Int)) (0 : UInt8))) : Int) != (46 : Int)) = false → ∃ (j : Nat), ByteArray.size s - j < ByteArray.size s - k ∧ ((s = s ∧ false = false ∧ IntKind.wrap IntKind.i64 ((↑k : Int) + (1 : Int)) = (↑j : Int) ∧ True) ∧ True ∧ true = true) ∧ true = true ∧ (nmFrom s j = true → (nmFrom s k = true → true = true) ∧ (nmFrom s k = false → true = false)) ∧ (nmFrom s j = false → (nmFrom s k = true → false = true) ∧ (nmFrom s k = false → false = false)))) ∧ (((↑(UInt8.toNat (List.getD s.data.toList (Int.toNat (↑k : Int)) (0 : UInt8))) : Int) != (95 : Int)) = false → ∃ (j : Nat), ByteArray.size s - j < ByteArray.size s - k ∧ ((s = s ∧ false = false ∧ IntKind.wrap IntKind.i64 ((↑k : Int) + (1 : Int)) = (↑j : Int) ∧ True) ∧ True ∧ true = true) ∧ true = true ∧ (nmFrom s j = true → (nmFrom s k = true → true = true) ∧ (nmFrom s k = false → true = false)) ∧ (nmFrom s j = false → (nmFrom s k = true → false = true) ∧ (nmFrom s k = false → false = false)))) ∧ (((↑(UInt8.toNat (List.getD s.data.toList (Int.toNat (↑k : Int)) (0 : UInt8))) : Int) != (45 : Int)) = false → ∃ (j : Nat), ByteArray.size s - j < ByteArray.size s - k ∧ ((s = s ∧ false = false ∧ IntKind.wrap IntKind.i64 ((↑k : Int) + (1 : Int)) = (↑j : Int) ∧ True) ∧ True ∧ true = true) ∧ true = true ∧ (nmFrom s j = true → (nmFrom s k = true → true = true) ∧ (nmFrom s k = false → true = false)) ∧ (nmFrom s j = false → (nmFrom s k = true → false = true) ∧ (nmFrom s k = false → false = false)))) ∧ (decide ((↑(UInt8.toNat (List.getD s.data.toList (Int.toNat (↑k : Int)) (0 : UInt8))) : Int) < (48 : Int)) = false → (decide ((57 : Int) < (↑(UInt8.toNat (List.getD s.data.toList (Int.toNat (↑k : Int)) (0 : UInt8))) : Int)) = true → (((↑(UInt8.toNat (List.getD s.data.toList (Int.toNat (↑k : Int)) (0 : UInt8))) : Int) != (45 : Int)) = true → (((↑(UInt8.toNat (List.getD s.data.toList (Int.toNat (↑k : Int)) (0 : UInt8))) : Int) != (95 : Int)) = true → (((↑(UInt8.toNat (List.getD s.data.toList (Int.toNat (↑k : Int)) (0 : UInt8))) : Int) != (46 : Int)) = true → (nmFrom s k = true → False) ∧ (nmFrom s k = false → (false = false ∧ True) ∧ True ∧ true = true)) ∧ (((↑(UInt8.toNat (List.getD s.data.toList (Int.toNat (↑k : Int)) (0 : UInt8))) : Int) != (46 : Int)) = false → ∃ (j : Nat), ByteArray.size s - j < ByteArray.size s - k ∧ ((s = s ∧ false = false ∧ IntKind.wrap IntKind.i64 ((↑k : Int) + (1 : Int)) = (↑j : Int) ∧ True) ∧ True ∧ true = true) ∧ true = true ∧ (nmFrom s j = true → (nmFrom s k = true → true = true) ∧ (nmFrom s k = false → true = false)) ∧ (nmFrom s j = false → (nmFrom s k = true → false = true) ∧ (nmFrom s k = false → false = false)))) ∧ (((↑(UInt8.toNat (List.getD s.data.toList (Int.toNat (↑k : Int)) (0 : UInt8))) : Int) != (95 : Int)) = false → ∃ (j : Nat), ByteArray.size s - j < ByteArray.size s - k ∧ ((s = s ∧ false = false ∧ IntKind.wrap IntKind.i64 ((↑k : Int) + (1 : Int)) = (↑j : Int) ∧ True) ∧ True ∧ true = true) ∧ true = true ∧ (nmFrom s j = true → (nmFrom s k = true → true = true) ∧ (nmFrom s k = false → true = false)) ∧ (nmFrom s j = false → (nmFrom s k = true → false = true) ∧ (nmFrom s k = false → false = false)))) ∧ (((↑(UInt8.toNat (List.getD s.data.toList (Int.toNat (↑k : Int)) (0 : UInt8))) : Int) != (45 : Int)) = false → ∃ (j : Nat), ByteArray.size s - j < ByteArray.size s - k ∧ ((s = s ∧ false = false ∧ IntKind.wrap IntKind.i64 ((↑k : Int) + (1 : Int)) = (↑j : Int) ∧ True) ∧ True ∧ true = true) ∧ true = true ∧ (nmFrom s j = true → (nmFrom s k = true → true = true) ∧ (nmFrom s k = false → true = false)) ∧ (nmFrom s j = false → (nmFrom s k = true → false = true) ∧ (nmFrom s k = false → false = false)))) ∧ (decide ((57 : Int) < (↑(UInt8.toNat (List.getD s.data.toList (Int.toNat (↑k : Int)) (0 : UInt8))) : Int)) = false → ∃ (j : Nat), ByteArray.size s - j < ByteArray.size s - k ∧ ((s = s ∧ false = false ∧ IntKind.wrap IntKind.i64 ((↑k : Int) + (1 : Int)) = (↑j : Int) ∧ True) ∧ True ∧ true = true) ∧ true = true ∧ (nmFrom s j = true → (nmFrom s k = true → true = true) ∧ (nmFrom s k = false → true = false)) ∧ (nmFrom s j = false → (nmFrom s k = true → false = true) ∧ (nmFrom s k = false → false = false))))) ∧ (decide ((122 : Int) < (↑(UInt8.toNat (List.getD s.data.toList (Int.toNat (↑k : Int)) (0 : UInt8))) : Int)) = false → ∃ (j : Nat), ByteArray.size s - j < ByteArray.size s - k ∧ ((s = s ∧ false = false ∧ IntKind.wrap IntKind.i64 ((↑k : Int) + (1 : Int)) = (↑j : Int) ∧ True) ∧ True ∧ true = true) ∧ true = true ∧ (nmFrom s j = true → (nmFrom s k = true → true = true) ∧ (nmFrom s k = false → true = false)) ∧ (nmFrom s j = false → (nmFrom s k = true → false = true) ∧ (nmFrom s k = false → false = false))))) ∧ (decide ((↑k : Int) < (↑(ByteArray.size s) : Int)) = false → (nmFrom s k = true → True ∧ True ∧ true = true) ∧ (nmFrom s k = false → False))
theorem vcNmL_eq (s : ByteArray) (k : Nat) : (loopVC Tryd.prog (hT _) 56 4 (fun k => s.size - k) (nmT s) (fun _ => []) [0] (nmO s) nmS k) = vcNmL s k := by kernel_rfl
noncomputable def nmH (s : ByteArray) : HintsT Tryd.prog := hh _ (lp1 56 4 (jobOf (nmT s) (fun _ => []) [0] (nmO s) nmS 0) noLp) noCs noOp
def vcNm (s : ByteArray) : Prop :=
  (decide ((↑(ByteArray.size s) : Int) < (1 : Int)) = true → false = nameOk s ∧ True) ∧ (decide ((↑(ByteArray.size s) : Int) < (1 : Int)) = false → (decide ((32 : Int) < (↑(ByteArray.size s) : Int)) = true → false = nameOk s ∧ True) ∧ (decide ((32 : Int) < (↑(ByteArray.size s) : Int)) = false → ((s = s ∧ false = false ∧ (0 : Int) = (0 : Int) ∧ True) ∧ True ∧ true = true) ∧ LoopOk Tryd.prog (56 : Nat) (4 : Nat) (loopAt Tryd.prog (56 : Nat) (4 : Nat)) { t := nmT s (0 : Nat), m := [], mv := [] : St } (T.map (lout [(0 : Nat)] nmS) (nmO s (0 : Nat))) ∧ (nmFrom s (0 : Nat) = true → true = nameOk s ∧ True) ∧ (nmFrom s (0 : Nat) = false → false = nameOk s ∧ True)))
theorem vcNm_eq (s : ByteArray) : (ctrVC Tryd.prog (nmH s) 56 [.y (.string s)] [] (boolR (nameOk s))) = vcNm s := by kernel_rfl
end Go.Proofs.YtckklclehofddaaDoor

namespace Go.Proofs.YtckklclehofddaaDoor
open Go.Ax
set_option maxRecDepth 1000000
theorem name_c (s : ByteArray) : (boolR (nameOk s)).Sat (ACall' Tryd.prog 61 [.y (.string s)] []) := by
  refine ctr_vc (ht := nameH s) Tryd.mixed rfl ?_
  rw [vcName_eq s]
  unfold vcName
  have e := trim_all s.data.toList
  unfold chars at e
  simp only [e, nameOk]
  generalize (s.data.toList == []) = a
  generalize hb : decide ((s.size : Int) ≤ 32) = b
  generalize s.data.toList.all isCh = c
  cases a <;> cases b <;> cases c <;> simp at hb ⊢ <;> omega
theorem ch_eq (b : UInt8) : isCh b = chI (b.toNat : Nat) := by
  have : ∀ n : Fin 256, isCh (UInt8.ofNat n.1) = chI (n.1 : Nat) := by decide +kernel
  have h := this ⟨b.toNat, b.toNat_lt⟩
  simpa using h
theorem nmFrom_end {s : ByteArray} {k : Nat} (h : s.size ≤ k) : nmFrom s k = true := by
  unfold nmFrom
  rw [List.drop_eq_nil_of_le (by simpa using h)]
  rfl
theorem nmFrom_step {s : ByteArray} {k : Nat} (h : k < s.size) : nmFrom s k = (chI ((s.data.toList.getD k 0).toNat : Nat) && nmFrom s (k + 1)) := by
  unfold nmFrom
  have hk : k < s.data.toList.length := by simpa using h
  rw [List.drop_eq_getElem_cons hk, List.all_cons, ch_eq]
  simp [List.getElem?_eq_getElem hk]
theorem nm_loop (s : ByteArray) (hs : s.size ≤ 32) (k : Nat) : LoopOk Tryd.prog 56 4 (loopAt Tryd.prog 56 4) ⟨nmT s k, [], []⟩ ((nmO s k).map (lout [0] nmS)) := by
  refine loop_vc Tryd.mixed (fun _ => rfl) (fun k => (vcNmL_eq s k).mpr ?_) k
  unfold vcNmL
  by_cases h : k < s.size
  · have h1 : decide ((k : Int) < (s.size : Int)) = true := by simp; omega
    simp only [h1, nmFrom_step h, chI, Int.toNat_natCast]
    have hw : IntKind.i64.wrap ((k : Int) + 1) = ((k + 1 : Nat) : Int) := by rw [wrap_i64 (by omega) (by omega)]; omega
    have hex : ∀ q : Nat → Prop, q (k + 1) → ∃ j, s.size - j < s.size - k ∧ q j := fun q h => ⟨k + 1, by omega, h⟩
    generalize decide (((s.data.toList.getD k 0).toNat : Int) < 97) = b1
    generalize decide (122 < ((s.data.toList.getD k 0).toNat : Int)) = b2
    generalize decide (((s.data.toList.getD k 0).toNat : Int) < 48) = b3
    generalize decide (57 < ((s.data.toList.getD k 0).toNat : Int)) = b4
    generalize (((s.data.toList.getD k 0).toNat : Int) != 45) = b5
    generalize (((s.data.toList.getD k 0).toNat : Int) != 95) = b6
    generalize (((s.data.toList.getD k 0).toNat : Int) != 46) = b7
    cases b1 <;> cases b2 <;> cases b3 <;> cases b4 <;> cases b5 <;> cases b6 <;> cases b7 <;> simp <;> exact ⟨k + 1, by omega, hw, by simp, by simp⟩
  · have h1 : decide ((k : Int) < (s.size : Int)) = false := by simp; omega
    simp [h1, nmFrom_end (show s.size ≤ k by omega)]
    exact fun e => absurd e h
theorem nm_c (s : ByteArray) : (boolR (nameOk s)).Sat (ACall' Tryd.prog 56 [.y (.string s)] []) := by
  refine ctr_vc (ht := nmH s) Tryd.mixed rfl ?_
  rw [vcNm_eq s]
  unfold vcNm
  by_cases h : s.size ≤ 32
  · have lp := nm_loop s h 0
    have h2 : ¬ ((32 : Int) < s.size) := by omega
    have hl : s.data.toList.length = s.size := Array.length_toList
    have h5 : nmFrom s 0 = s.data.toList.all isCh := rfl
    rw [h5] at *
    have h6 : decide ((s.size : Int) ≤ 32) = true := by simp; omega
    by_cases hz : (s.size : Int) < 1
    · have h3 : (s.data.toList == []) = true := by
        rw [beq_iff_eq]; exact List.length_eq_zero_iff.1 (by omega)
      simp only [nameOk, h3, h6]
      simp [hz]
    · have h3 : (s.data.toList == []) = false := by
        rw [beq_eq_false_iff_ne]; intro e; rw [e] at hl; simp at hl; omega
      simp only [nameOk, h3, h6]
      generalize s.data.toList.all isCh = c at *
      cases c <;> simp [hz, h2, lp]
  · have h2 : (32 : Int) < s.size := by omega
    have h3 : ¬ ((s.size : Int) ≤ 32) := by omega
    simp [nameOk, h2, h3]
noncomputable def nameC (s : ByteArray) : Ctr Tryd.prog := ⟨61, [.y (.string s)], [], boolR (nameOk s), name_c s⟩
noncomputable def nmC (s : ByteArray) : Ctr Tryd.prog := ⟨56, [.y (.string s)], [], boolR (nameOk s), nm_c s⟩
end Go.Proofs.YtckklclehofddaaDoor

namespace Go.Proofs.YtckklclehofddaaDoor
open Go.Ax
set_option maxRecDepth 1000000
def smT (b1 b2 : Bool) (a : List Rec) (k : Nat) : List AV := mkT 82 [(0, encRs b1 a), (1, encRs b2 a), (5, .y (.int .i64 k))]
def smS (_ : Unit) : Exit × List AV × List Blk := (.exit 0, mkT 82 [], [])
def vcSameL (b1 : Bool) (b2 : Bool) (a : List Rec) (k : Nat) : Prop :=
  (decide ((↑k : Int) < (↑(List.length a) : Int)) = true → (true && decide ((↑k : Int) < (↑(List.length a) : Int))) = true ∧ (true && decide ((↑k : Int) < (↑(List.length a) : Int))) = true ∧ (((List.getD a (Int.toNat (↑k : Int)) (@default Rec instInhabitedRec)).off != (List.getD a (Int.toNat (↑k : Int)) (@default Rec instInhabitedRec)).off) = true → False) ∧ (((List.getD a (Int.toNat (↑k : Int)) (@default Rec instInhabitedRec)).off != (List.getD a (Int.toNat (↑k : Int)) (@default Rec instInhabitedRec)).off) = false → (true && decide ((↑k : Int) < (↑(List.length a) : Int))) = true ∧ (true && decide ((↑k : Int) < (↑(List.length a) : Int))) = true ∧ ((!(List.getD a (Int.toNat (↑k : Int)) (@default Rec instInhabitedRec)).key.data.toList == (List.getD a (Int.toNat (↑k : Int)) (@default Rec instInhabitedRec)).key.data.toList) = true → False) ∧ ((!(List.getD a (Int.toNat (↑k : Int)) (@default Rec instInhabitedRec)).key.data.toList == (List.getD a (Int.toNat (↑k : Int)) (@default Rec instInhabitedRec)).key.data.toList) = false → (true && decide ((↑k : Int) < (↑(List.length a) : Int))) = true ∧ (∀ (k_1 : Nat), k_1 < List.length (List.getD a (Int.toNat (↑k : Int)) (@default Rec instInhabitedRec)).val → true = true) ∧ (true && decide ((↑k : Int) < (↑(List.length a) : Int))) = true ∧ (∀ (k_1 : Nat), k_1 < List.length (List.getD a (Int.toNat (↑k : Int)) (@default Rec instInhabitedRec)).val → true = true) ∧ ((!List.map (fun (a : AV) => match match a with | AV.s (Value.int IntKind.u8 n) => some n | AV.y (Value.int IntKind.u8 n) => some n | x => none with | some n => UInt8.ofNat (Int.toNat n) | none => (0 : UInt8)) (List.map (fun (k_1 : Nat) => AV.y (Value.int IntKind.u8 (List.getD (List.getD a (Int.toNat (↑k : Int)) (@default Rec instInhabitedRec)).val k_1 (0 : Int)))) (List.range (List.length (List.getD a (Int.toNat (↑k : Int)) (@default Rec instInhabitedRec)).val))) == List.map (fun (a : AV) => match match a with | AV.s (Value.int IntKind.u8 n) => some n | AV.y (Value.int IntKind.u8 n) => some n | x => none with | some n => UInt8.ofNat (Int.toNat n) | none => (0 : UInt8)) (List.map (fun (k_1 : Nat) => AV.y (Value.int IntKind.u8 (List.getD (List.getD a (Int.toNat (↑k : Int)) (@default Rec instInhabitedRec)).val k_1 (0 : Int)))) (List.range (List.length (List.getD a (Int.toNat (↑k : Int)) (@default Rec instInhabitedRec)).val)))) = true → False) ∧ ((!List.map (fun (a : AV) => match match a with | AV.s (Value.int IntKind.u8 n) => some n | AV.y (Value.int IntKind.u8 n) => some n | x => none with | some n => UInt8.ofNat (Int.toNat n) | none => (0 : UInt8)) (List.map (fun (k_1 : Nat) => AV.y (Value.int IntKind.u8 (List.getD (List.getD a (Int.toNat (↑k : Int)) (@default Rec instInhabitedRec)).val k_1 (0 : Int)))) (List.range (List.length (List.getD a (Int.toNat (↑k : Int)) (@default Rec instInhabitedRec)).val))) == List.map (fun (a : AV) => match match a with | AV.s (Value.int IntKind.u8 n) => some n | AV.y (Value.int IntKind.u8 n) => some n | x => none with | some n => UInt8.ofNat (Int.toNat n) | none => (0 : UInt8)) (List.map (fun (k_1 : Nat) => AV.y (Value.int IntKind.u8 (List.getD (List.getD a (Int.toNat (↑k : Int)) (@default Rec instInhabitedRec)).val k_1 (0 : Int)))) (List.range (List.length (List.getD a (Int.toNat (↑k : Int)) (@default Rec instInhabitedRec)).val)))) = false → (true && decide ((↑k : Int) < (↑(List.length a) : Int))) = true ∧ (true && decide ((↑k : Int) < (↑(List.length a) : Int))) = true ∧ (((List.getD a (Int.toNat (↑k : Int)) (@default Rec instInhabitedRec)).prod != (List.getD a (Int.toNat (↑k : Int)) (@default Rec instInhabitedRec)).prod) = true → False) ∧ (((List.getD a (Int.toNat (↑k : Int)) (@default Rec instInhabitedRec)).prod != (List.getD a (Int.toNat (↑k : Int)) (@default Rec instInhabitedRec)).prod) = false → (true && decide ((↑k : Int) < (↑(List.length a) : Int))) = true ∧ (true && decide ((↑k : Int) < (↑(List.length a) : Int))) = true ∧ (((List.getD a (Int.toNat (↑k : Int)) (@default Rec instInhabitedRec)).seq != (List.getD a (Int.toNat (↑k : Int)) (@default Rec instInhabitedRec)).seq) = true → False) ∧ (((List.getD a (Int.toNat (↑k : Int)) (@default Rec instInhabitedRec)).seq != (List.getD a (Int.toNat (↑k : Int)) (@default Rec instInhabitedRec)).seq) = false → ∃ (j : Nat), List.length a - j < List.length a - k ∧ (((b1 = b1 ∧ List.length a = List.length a ∧ contLe (List.length a) (5 : Nat) (cellsOf' encR a) (cellsOf' encR a)) ∧ (b2 = b2 ∧ List.length a = List.length a ∧ contLe (List.length a) (5 : Nat) (cellsOf' encR a) (cellsOf' encR a)) ∧ IntKind.wrap IntKind.i64 ((↑k : Int) + (1 : Int)) = (↑j : Int) ∧ True) ∧ True ∧ true = true) ∧ true = true ∧ () = ())))))) ∧ (decide ((↑k : Int) < (↑(List.length a) : Int)) = false → True ∧ True ∧ true = true)
theorem vcSameL_eq (b1 : Bool) (b2 : Bool) (a : List Rec) (k : Nat) : (loopVC Tryd.prog (hT _) 26 4 (fun k => a.length - k) (smT b1 b2 a) (fun _ => []) [0] (fun _ => .ret ()) smS k) = vcSameL b1 b2 a k := by kernel_rfl
noncomputable def smH (b1 b2 : Bool) (a : List Rec) : HintsT Tryd.prog := hh _ (lp1 26 4 (jobOf (smT b1 b2 a) (fun _ => []) [0] (fun _ => .ret ()) smS 0) noLp) noCs noOp
def vcSame (b1 : Bool) (b2 : Bool) (a : List Rec) : Prop :=
  (((↑(List.length a) : Int) != (↑(List.length a) : Int)) = true → false = true ∧ True) ∧ (((↑(List.length a) : Int) != (↑(List.length a) : Int)) = false → (((b1 = b1 ∧ List.length a = List.length a ∧ contLe (List.length a) (5 : Nat) (cellsOf' encR a) (cellsOf' encR a)) ∧ (b2 = b2 ∧ List.length a = List.length a ∧ contLe (List.length a) (5 : Nat) (cellsOf' encR a) (cellsOf' encR a)) ∧ (0 : Int) = (0 : Int) ∧ True) ∧ True ∧ true = true) ∧ LoopOk Tryd.prog (26 : Nat) (4 : Nat) (loopAt Tryd.prog (26 : Nat) (4 : Nat)) { t := smT b1 b2 a (0 : Nat), m := [], mv := [] : St } (T.map (lout [(0 : Nat)] smS) ((fun (x : Nat) => T.ret ()) (0 : Nat))) ∧ true = true ∧ True)
theorem vcSame_eq (b1 : Bool) (b2 : Bool) (a : List Rec) : (ctrVC Tryd.prog (smH b1 b2 a) 26 [encRs b1 a, encRs b2 a] [] (boolR true)) = vcSame b1 b2 a := by kernel_rfl
def stT (b1 b2 : Bool) (a : List Int) (k : Nat) : List AV := mkT 26 [(0, encUs b1 a), (1, encUs b2 a), (5, .y (.int .i64 k))]
theorem same_loop (b1 b2 : Bool) (a : List Rec) (hl : a.length ≤ 9223372036854775806) (k : Nat) : LoopOk Tryd.prog 26 4 (loopAt Tryd.prog 26 4) ⟨smT b1 b2 a k, [], []⟩ (T.map (lout [0] smS) (.ret ())) := by
  refine loop_vc (o := fun _ => .ret ()) Tryd.mixed (fun _ => rfl) (fun k => (vcSameL_eq b1 b2 a k).mpr ?_) k
  unfold vcSameL
  simp
  intro h
  have hb : ∀ q : Nat, isU8 (cellsOf' encB (a[k]?.getD default).val q 0) = true := fun _ => rfl
  simp [h, hb]
  exact ⟨k + 1, by omega, by rw [wrap_i64 (by omega) (by omega)]; omega⟩
theorem same_c (b1 b2 : Bool) (a : List Rec) (hl : a.length ≤ 9223372036854775806) : (boolR true).Sat (ACall' Tryd.prog 26 [encRs b1 a, encRs b2 a] []) := by
  refine ctr_vc (ht := smH b1 b2 a) Tryd.mixed rfl ?_
  rw [vcSame_eq b1 b2 a]
  unfold vcSame
  simp [same_loop b1 b2 a hl 0]
noncomputable def sameC (b1 b2 : Bool) (a b : List Rec) : Ctr Tryd.prog := ⟨26, [encRs b1 a, encRs b2 b], [], .need (a.length ≤ 9223372036854775806 ∧ a = b) (boolR true), T.Sat.need fun h => by obtain ⟨h1, rfl⟩ := h; exact same_c b1 b2 a h1⟩
end Go.Proofs.YtckklclehofddaaDoor

namespace Go.Proofs.YtckklclehofddaaDoor
open Go.Ax
set_option maxRecDepth 1000000
theorem tagR (x : Rec) (j : Nat) (hj : j < 5) : tagT (Ax.get (encR x) j) = true := by
  match j, hj with
  | 0, _ => rfl
  | 1, _ => rfl
  | 2, _ => rfl
  | 3, _ => rfl
  | 4, _ => rfl
end Go.Proofs.YtckklclehofddaaDoor

namespace Go.Proofs.YtckklclehofddaaDoor
open Go.Ax
set_option maxRecDepth 1000000
noncomputable def hasC (r : Rng) (k : ByteArray) : Ctr Tryd.prog := ⟨33, [.agg (encG r), .y (.string k)], [], boolR (hasK r k), has_c r k⟩
noncomputable def has2C (r : Rng) (k : ByteArray) : Ctr Tryd.prog := ⟨41, [.agg (encG r), .y (.string k)], [], boolR (hasK r k), has2_c r k⟩
structure Ke where
  (out : List Rec) (to : List Int)
def Ke.step (r : Rng) (s : Ke) (x : Rec) : Ke := ⟨if hasK r x.key then s.out ++ [x.to (IntKind.u64.wrap (s.out.length : Nat))] else s.out, s.to ++ [IntKind.u64.wrap (s.out.length : Nat)]⟩
def ke (r : Rng) (l : List Rec) : Ke := l.foldl (Ke.step r) ⟨[], []⟩
theorem ke_step {r : Rng} {l : List Rec} {k : Nat} (h : k < l.length) : ke r (l.take (k + 1)) = (ke r (l.take k)).step r (l.getD k default) := by
  unfold ke
  rw [List.take_add_one, List.foldl_append, List.getElem?_eq_getElem h]
  simp [List.getElem?_eq_getElem h]
def kpM (r : Rng) (s : Ke) : List Blk := [.box 23 (encG r), rowR s.out, rowU s.to]
def kpT (b : Bool) (l : List Rec) (s : Ke) (k : Nat) : List AV := mkT 53 [(3, .ptr 0 0 0 0), (6, .own 1 5 0 s.out.length), (7, .own 2 1 0 s.to.length), (22, encRs b l), (23, .y (.int .i64 l.length)), (24, .y (.int .i64 k))]
def kpS (r : Rng) (s : Ke) (_ : Unit) : Exit × List AV × List Blk := (.exit 0, mkT 53 [(6, .own 1 5 0 s.out.length), (7, .own 2 1 0 s.to.length)], kpM r s)
noncomputable def kpH (r : Rng) (l : List Rec) (k : Nat) : HintsT Tryd.prog := hh _ noLp (cs1 20 9 3 (hasC r (l.getD k default).key) (cs1 20 10 4 (ownC (l.getD k default) (ke r (l.take k)).out.length) noCs)) noOp
def vcKpL (b : Bool) (r : Rng) (l : List Rec) (k : Nat) : Prop :=
  (decide ((↑k : Int) < (↑(List.length l) : Int)) = true → (true && decide ((↑k : Int) < (↑(List.length l) : Int))) = true ∧ (decide (List.length (ke r (List.take k l)).to = List.length (ke r (List.take k l)).to) && decide (List.length (ke r (List.take k l)).to + (1 : Nat) ≤ (9223372036854775807 : Nat)) && decide ((List.length (ke r (List.take k l)).to + (1 : Nat)) * (8 : Nat) ≤ (140737488355328 : Nat))) = true ∧ ((r.lo = r.lo ∧ r.hi = r.hi ∧ True) ∧ (List.getD l (Int.toNat (↑k : Int)) (@default Rec instInhabitedRec)).key = (List.getD l k (@default Rec instInhabitedRec)).key ∧ True) ∧ True ∧ (hasK r (List.getD l k (@default Rec instInhabitedRec)).key = true → (((List.getD l (Int.toNat (↑k : Int)) (@default Rec instInhabitedRec)).off = (List.getD l k (@default Rec instInhabitedRec)).off ∧ (List.getD l (Int.toNat (↑k : Int)) (@default Rec instInhabitedRec)).key = (List.getD l k (@default Rec instInhabitedRec)).key ∧ (true = true ∧ List.length (List.getD l (Int.toNat (↑k : Int)) (@default Rec instInhabitedRec)).val = List.length (List.getD l k (@default Rec instInhabitedRec)).val ∧ contLe (List.length (List.getD l (Int.toNat (↑k : Int)) (@default Rec instInhabitedRec)).val) (1 : Nat) (cellsOf' encB (List.getD l (Int.toNat (↑k : Int)) (@default Rec instInhabitedRec)).val) (cellsOf' encB (List.getD l k (@default Rec instInhabitedRec)).val)) ∧ (List.getD l (Int.toNat (↑k : Int)) (@default Rec instInhabitedRec)).prod = (List.getD l k (@default Rec instInhabitedRec)).prod ∧ (List.getD l (Int.toNat (↑k : Int)) (@default Rec instInhabitedRec)).seq = (List.getD l k (@default Rec instInhabitedRec)).seq ∧ True) ∧ (↑(List.length (ke r (List.take k l)).out) : Int) = (↑(List.length (ke r (List.take k l)).out) : Int) ∧ True) ∧ True ∧ List.length (List.getD l k (@default Rec instInhabitedRec)).val ≤ (140737488355328 : Nat) ∧ (decide (List.length (ke r (List.take k l)).out = List.length (ke r (List.take k l)).out) && decide (List.length (ke r (List.take k l)).out + (1 : Nat) ≤ (9223372036854775807 : Nat)) && decide ((List.length (ke r (List.take k l)).out + (1 : Nat)) * (64 : Nat) ≤ (140737488355328 : Nat))) = true ∧ ∃ (j : Nat), List.length l - j < List.length l - k ∧ ((((0 : Nat) = (0 : Nat) ∧ (0 : Nat) = (0 : Nat)) ∧ ((0 : Nat) = (0 : Nat) ∧ List.length (ke r (List.take k l)).out + (1 : Nat) = List.length (ke r (List.take j l)).out) ∧ ((0 : Nat) = (0 : Nat) ∧ List.length (ke r (List.take k l)).to + (1 : Nat) = List.length (ke r (List.take j l)).to) ∧ (b = b ∧ List.length l = List.length l ∧ contLe (List.length l) (5 : Nat) (cellsOf' encR l) (cellsOf' encR l)) ∧ (↑(List.length l) : Int) = (↑(List.length l) : Int) ∧ IntKind.wrap IntKind.i64 ((↑k : Int) + (1 : Int)) = (↑j : Int) ∧ True) ∧ ((r.lo = r.lo ∧ r.hi = r.hi ∧ True) ∧ (List.length (ke r (List.take k l)).out + (1 : Nat) = List.length (ke r (List.take j l)).out ∧ contLe (List.length (ke r (List.take k l)).out + (1 : Nat)) (5 : Nat) (appRow (List.length (ke r (List.take k l)).out) (cellsOf' encR (ke r (List.take k l)).out) fun (k_1 j : Nat) => Ax.get [AV.y (Value.int IntKind.u64 (IntKind.wrap IntKind.u64 (↑(List.length (ke r (List.take k l)).out) : Int))), AV.y (Value.string (List.getD l k (@default Rec instInhabitedRec)).key), AV.ys true (1 : Nat) (List.length (List.getD l k (@default Rec instInhabitedRec)).val) (cellsOf' encB (List.getD l k (@default Rec instInhabitedRec)).val), AV.y (Value.int IntKind.u64 (List.getD l k (@default Rec instInhabitedRec)).prod), AV.y (Value.int IntKind.u64 (List.getD l k (@default Rec instInhabitedRec)).seq)] (k_1 * (5 : Nat) + j)) (cellsOf' encR (ke r (List.take j l)).out)) ∧ (List.length (ke r (List.take k l)).to + (1 : Nat) = List.length (ke r (List.take j l)).to ∧ contLe (List.length (ke r (List.take k l)).to + (1 : Nat)) (1 : Nat) (appRow (List.length (ke r (List.take k l)).to) (cellsOf' encU (ke r (List.take k l)).to) fun (k_1 j : Nat) => Ax.get [AV.y (Value.int IntKind.u64 (IntKind.wrap IntKind.u64 (↑(List.length (ke r (List.take k l)).out) : Int)))] (k_1 * (1 : Nat) + j)) (cellsOf' encU (ke r (List.take j l)).to)) ∧ True) ∧ true = true) ∧ true = true ∧ () = ()) ∧ (hasK r (List.getD l k (@default Rec instInhabitedRec)).key = false → ∃ (j : Nat), List.length l - j < List.length l - k ∧ ((((0 : Nat) = (0 : Nat) ∧ (0 : Nat) = (0 : Nat)) ∧ ((0 : Nat) = (0 : Nat) ∧ List.length (ke r (List.take k l)).out = List.length (ke r (List.take j l)).out) ∧ ((0 : Nat) = (0 : Nat) ∧ List.length (ke r (List.take k l)).to + (1 : Nat) = List.length (ke r (List.take j l)).to) ∧ (b = b ∧ List.length l = List.length l ∧ contLe (List.length l) (5 : Nat) (cellsOf' encR l) (cellsOf' encR l)) ∧ (↑(List.length l) : Int) = (↑(List.length l) : Int) ∧ IntKind.wrap IntKind.i64 ((↑k : Int) + (1 : Int)) = (↑j : Int) ∧ True) ∧ ((r.lo = r.lo ∧ r.hi = r.hi ∧ True) ∧ (List.length (ke r (List.take k l)).out = List.length (ke r (List.take j l)).out ∧ contLe (List.length (ke r (List.take k l)).out) (5 : Nat) (cellsOf' encR (ke r (List.take k l)).out) (cellsOf' encR (ke r (List.take j l)).out)) ∧ (List.length (ke r (List.take k l)).to + (1 : Nat) = List.length (ke r (List.take j l)).to ∧ contLe (List.length (ke r (List.take k l)).to + (1 : Nat)) (1 : Nat) (appRow (List.length (ke r (List.take k l)).to) (cellsOf' encU (ke r (List.take k l)).to) fun (k_1 j : Nat) => Ax.get [AV.y (Value.int IntKind.u64 (IntKind.wrap IntKind.u64 (↑(List.length (ke r (List.take k l)).out) : Int)))] (k_1 * (1 : Nat) + j)) (cellsOf' encU (ke r (List.take j l)).to)) ∧ True) ∧ true = true) ∧ true = true ∧ () = ())) ∧ (decide ((↑k : Int) < (↑(List.length l) : Int)) = false → (((0 : Nat) = (0 : Nat) ∧ List.length (ke r (List.take k l)).out = List.length (ke r l).out) ∧ ((0 : Nat) = (0 : Nat) ∧ List.length (ke r (List.take k l)).to = List.length (ke r l).to) ∧ True) ∧ ((r.lo = r.lo ∧ r.hi = r.hi ∧ True) ∧ (List.length (ke r (List.take k l)).out = List.length (ke r l).out ∧ contLe (List.length (ke r (List.take k l)).out) (5 : Nat) (cellsOf' encR (ke r (List.take k l)).out) (cellsOf' encR (ke r l).out)) ∧ (List.length (ke r (List.take k l)).to = List.length (ke r l).to ∧ contLe (List.length (ke r (List.take k l)).to) (1 : Nat) (cellsOf' encU (ke r (List.take k l)).to) (cellsOf' encU (ke r l).to)) ∧ True) ∧ true = true)
theorem vcKpL_eq (b : Bool) (r : Rng) (l : List Rec) (k : Nat) : (loopVC Tryd.prog (kpH r l k) 20 6 (fun k => l.length - k) (fun k => kpT b l (ke r (l.take k)) k) (fun k => kpM r (ke r (l.take k))) jX (fun _ => .ret ()) (kpS r (ke r l)) k) = vcKpL b r l k := by kernel_rfl
def keR (s : Ke) : T An := .ret (.tup [.own 0 5 0 s.out.length, .own 1 1 0 s.to.length], [rowR s.out, rowU s.to], [])
def Ke.end (s : Ke) : Ke := ⟨s.out, s.to ++ [IntKind.u64.wrap (s.out.length : Nat)]⟩
def keT (r : Rng) (l : List Rec) : T An := .ite (isLog l && chkK r == 0) (keR (ke r l).end) (.ret (.tup [.s (.slice none 0 0), .s (.slice none 0 0)], [], []))
noncomputable def keH (b : Bool) (r : Rng) (l : List Rec) : HintsT Tryd.prog := hh _ (lp1 20 6 (jobOf (fun k => kpT b l (ke r (l.take k)) k) (fun k => kpM r (ke r (l.take k))) jX (fun _ => .ret ()) (kpS r (ke r l)) 0) noLp) (cs1 20 1 1 (lgC b l) (cs1 20 1 5 (chkC r) noCs)) (op1 20 3 0 (.row 38 5) noOp)
def vcKeep (b : Bool) (r : Rng) (l : List Rec) : Prop :=
  ((b = b ∧ List.length l = List.length l ∧ contLe (List.length l) (5 : Nat) (cellsOf' encR l) (cellsOf' encR l)) ∧ True) ∧ True ∧ List.length l ≤ (9223372036854775806 : Nat) ∧ ((!isLog l) = true → ((isLog l && chkK r == (0 : Int)) = true → (False ∧ False ∧ True) ∧ False) ∧ ((isLog l && chkK r == (0 : Int)) = false → (True ∧ True ∧ True) ∧ True)) ∧ ((!isLog l) = false → ((r.lo = r.lo ∧ r.hi = r.hi ∧ True) ∧ True) ∧ True ∧ ((chkK r != (0 : Int)) = true → ((isLog l && chkK r == (0 : Int)) = true → (False ∧ False ∧ True) ∧ False) ∧ ((isLog l && chkK r == (0 : Int)) = false → (True ∧ True ∧ True) ∧ True)) ∧ ((chkK r != (0 : Int)) = false → (0 : Int) ≤ (0 : Int) ∧ (0 : Int) ≤ IntKind.wrap IntKind.i64 ((↑(List.length l) : Int) + (1 : Int)) ∧ (8 : Int) * IntKind.wrap IntKind.i64 ((↑(List.length l) : Int) + (1 : Int)) ≤ (281474976710656 : Int) ∧ IntKind.wrap IntKind.i64 ((↑(List.length l) : Int) + (1 : Int)) ≤ (9223372036854775807 : Int) ∧ ((((0 : Nat) = (0 : Nat) ∧ (0 : Nat) = (0 : Nat)) ∧ ((0 : Nat) = (0 : Nat) ∧ (0 : Nat) = (0 : Nat)) ∧ ((0 : Nat) = (0 : Nat) ∧ (0 : Nat) = (0 : Nat)) ∧ (b = b ∧ List.length l = List.length l ∧ contLe (List.length l) (5 : Nat) (cellsOf' encR l) (cellsOf' encR l)) ∧ (↑(List.length l) : Int) = (↑(List.length l) : Int) ∧ (0 : Int) = (0 : Int) ∧ True) ∧ ((r.lo = r.lo ∧ r.hi = r.hi ∧ True) ∧ ((0 : Nat) = (0 : Nat) ∧ contLe (0 : Nat) (5 : Nat) (fun (x x_1 : Nat) => AV.junk) (cellsOf' encR [])) ∧ ((0 : Nat) = (0 : Nat) ∧ contLe (0 : Nat) (1 : Nat) (fun (x j : Nat) => Ax.get [AV.s (Value.int IntKind.u64 (0 : Int))] j) (cellsOf' encU [])) ∧ True) ∧ true = true) ∧ LoopOk Tryd.prog (20 : Nat) (6 : Nat) (loopAt Tryd.prog (20 : Nat) (6 : Nat)) { t := kpT b l (ke r (List.take (0 : Nat) l)) (0 : Nat), m := kpM r (ke r (List.take (0 : Nat) l)), mv := [] : St } (T.map (lout jX (kpS r (ke r l))) ((fun (x : Nat) => T.ret ()) (0 : Nat))) ∧ (decide (List.length (ke r l).to = List.length (ke r l).to) && decide (List.length (ke r l).to + (1 : Nat) ≤ (9223372036854775807 : Nat)) && decide ((List.length (ke r l).to + (1 : Nat)) * (8 : Nat) ≤ (140737488355328 : Nat))) = true ∧ ((isLog l && chkK r == (0 : Int)) = true → (((0 : Nat) = (0 : Nat) ∧ List.length (ke r l).out = List.length (ke r l).out) ∧ ((0 : Nat) = (0 : Nat) ∧ List.length (ke r l).to + (1 : Nat) = List.length ((ke r l).to ++ [IntKind.wrap IntKind.u64 (↑(List.length (ke r l).out) : Int)])) ∧ True) ∧ (List.length (ke r l).out = List.length (ke r l).out ∧ contLe (List.length (ke r l).out) (5 : Nat) (cellsOf' encR (ke r l).out) (cellsOf' encR (ke r l).out)) ∧ (List.length (ke r l).to + (1 : Nat) = List.length ((ke r l).to ++ [IntKind.wrap IntKind.u64 (↑(List.length (ke r l).out) : Int)]) ∧ contLe (List.length (ke r l).to + (1 : Nat)) (1 : Nat) (appRow (List.length (ke r l).to) (cellsOf' encU (ke r l).to) fun (k j : Nat) => Ax.get [AV.y (Value.int IntKind.u64 (IntKind.wrap IntKind.u64 (↑(List.length (ke r l).out) : Int)))] (k * (1 : Nat) + j)) (cellsOf' encU ((ke r l).to ++ [IntKind.wrap IntKind.u64 (↑(List.length (ke r l).out) : Int)]))) ∧ True) ∧ ((isLog l && chkK r == (0 : Int)) = false → False)))
theorem vcKeep_eq (b : Bool) (r : Rng) (l : List Rec) : (ctrVC Tryd.prog (keH b r l) 20 [encRs b l, .agg (encG r)] [] (keT r l)) = vcKeep b r l := by kernel_rfl
def krT (b : Bool) (l : List Rec) (s : Ke) (k : Nat) : List AV := mkT 57 [(0, encRs b l), (3, .ptr 0 0 0 0), (7, .own 1 5 0 s.out.length), (8, .own 2 1 0 s.to.length), (9, .y (.int .i64 k))]
def krS (r : Rng) (s : Ke) (_ : Unit) : Exit × List AV × List Blk := (.exit 0, mkT 57 [(7, .own 1 5 0 s.out.length), (8, .own 2 1 0 s.to.length)], kpM r s)
noncomputable def krH (r : Rng) (l : List Rec) (k : Nat) : HintsT Tryd.prog := hh _ noLp (cs1 43 10 6 (has2C r (l.getD k default).key) (cs1 43 12 7 (atC (l.getD k default) (ke r (l.take k)).out.length) noCs)) noOp
def vcKrL (b : Bool) (r : Rng) (l : List Rec) (k : Nat) : Prop :=
  (decide ((↑k : Int) < (↑(List.length l) : Int)) = true → (decide (List.length (ke r (List.take k l)).to = List.length (ke r (List.take k l)).to) && decide (List.length (ke r (List.take k l)).to + (1 : Nat) ≤ (9223372036854775807 : Nat)) && decide ((List.length (ke r (List.take k l)).to + (1 : Nat)) * (8 : Nat) ≤ (140737488355328 : Nat))) = true ∧ (true && decide ((↑k : Int) < (↑(List.length l) : Int))) = true ∧ ((r.lo = r.lo ∧ r.hi = r.hi ∧ True) ∧ (List.getD l (Int.toNat (↑k : Int)) (@default Rec instInhabitedRec)).key = (List.getD l k (@default Rec instInhabitedRec)).key ∧ True) ∧ True ∧ (hasK r (List.getD l k (@default Rec instInhabitedRec)).key = true → (true && decide ((↑k : Int) < (↑(List.length l) : Int))) = true ∧ (((List.getD l (Int.toNat (↑k : Int)) (@default Rec instInhabitedRec)).off = (List.getD l k (@default Rec instInhabitedRec)).off ∧ (List.getD l (Int.toNat (↑k : Int)) (@default Rec instInhabitedRec)).key = (List.getD l k (@default Rec instInhabitedRec)).key ∧ (true = true ∧ List.length (List.getD l (Int.toNat (↑k : Int)) (@default Rec instInhabitedRec)).val = List.length (List.getD l k (@default Rec instInhabitedRec)).val ∧ contLe (List.length (List.getD l (Int.toNat (↑k : Int)) (@default Rec instInhabitedRec)).val) (1 : Nat) (cellsOf' encB (List.getD l (Int.toNat (↑k : Int)) (@default Rec instInhabitedRec)).val) (cellsOf' encB (List.getD l k (@default Rec instInhabitedRec)).val)) ∧ (List.getD l (Int.toNat (↑k : Int)) (@default Rec instInhabitedRec)).prod = (List.getD l k (@default Rec instInhabitedRec)).prod ∧ (List.getD l (Int.toNat (↑k : Int)) (@default Rec instInhabitedRec)).seq = (List.getD l k (@default Rec instInhabitedRec)).seq ∧ True) ∧ (↑(List.length (ke r (List.take k l)).out) : Int) = (↑(List.length (ke r (List.take k l)).out) : Int) ∧ True) ∧ True ∧ List.length (List.getD l k (@default Rec instInhabitedRec)).val ≤ (140737488355328 : Nat) ∧ (decide (List.length (ke r (List.take k l)).out = List.length (ke r (List.take k l)).out) && decide (List.length (ke r (List.take k l)).out + (1 : Nat) ≤ (9223372036854775807 : Nat)) && decide ((List.length (ke r (List.take k l)).out + (1 : Nat)) * (64 : Nat) ≤ (140737488355328 : Nat))) = true ∧ ∃ (j : Nat), List.length l - j < List.length l - k ∧ (((b = b ∧ List.length l = List.length l ∧ contLe (List.length l) (5 : Nat) (cellsOf' encR l) (cellsOf' encR l)) ∧ ((0 : Nat) = (0 : Nat) ∧ (0 : Nat) = (0 : Nat)) ∧ ((0 : Nat) = (0 : Nat) ∧ List.length (ke r (List.take k l)).out + (1 : Nat) = List.length (ke r (List.take j l)).out) ∧ ((0 : Nat) = (0 : Nat) ∧ List.length (ke r (List.take k l)).to + (1 : Nat) = List.length (ke r (List.take j l)).to) ∧ IntKind.wrap IntKind.i64 ((↑k : Int) + (1 : Int)) = (↑j : Int) ∧ True) ∧ ((r.lo = r.lo ∧ r.hi = r.hi ∧ True) ∧ (List.length (ke r (List.take k l)).out + (1 : Nat) = List.length (ke r (List.take j l)).out ∧ contLe (List.length (ke r (List.take k l)).out + (1 : Nat)) (5 : Nat) (appRow (List.length (ke r (List.take k l)).out) (cellsOf' encR (ke r (List.take k l)).out) fun (k_1 j : Nat) => Ax.get [AV.y (Value.int IntKind.u64 (IntKind.wrap IntKind.u64 (↑(List.length (ke r (List.take k l)).out) : Int))), AV.y (Value.string (List.getD l k (@default Rec instInhabitedRec)).key), AV.ys true (1 : Nat) (List.length (List.getD l k (@default Rec instInhabitedRec)).val) (cellsOf' encB (List.getD l k (@default Rec instInhabitedRec)).val), AV.y (Value.int IntKind.u64 (List.getD l k (@default Rec instInhabitedRec)).prod), AV.y (Value.int IntKind.u64 (List.getD l k (@default Rec instInhabitedRec)).seq)] (k_1 * (5 : Nat) + j)) (cellsOf' encR (ke r (List.take j l)).out)) ∧ (List.length (ke r (List.take k l)).to + (1 : Nat) = List.length (ke r (List.take j l)).to ∧ contLe (List.length (ke r (List.take k l)).to + (1 : Nat)) (1 : Nat) (appRow (List.length (ke r (List.take k l)).to) (cellsOf' encU (ke r (List.take k l)).to) fun (k_1 j : Nat) => Ax.get [AV.y (Value.int IntKind.u64 (IntKind.wrap IntKind.u64 (↑(List.length (ke r (List.take k l)).out) : Int)))] (k_1 * (1 : Nat) + j)) (cellsOf' encU (ke r (List.take j l)).to)) ∧ True) ∧ true = true) ∧ true = true ∧ () = ()) ∧ (hasK r (List.getD l k (@default Rec instInhabitedRec)).key = false → ∃ (j : Nat), List.length l - j < List.length l - k ∧ (((b = b ∧ List.length l = List.length l ∧ contLe (List.length l) (5 : Nat) (cellsOf' encR l) (cellsOf' encR l)) ∧ ((0 : Nat) = (0 : Nat) ∧ (0 : Nat) = (0 : Nat)) ∧ ((0 : Nat) = (0 : Nat) ∧ List.length (ke r (List.take k l)).out = List.length (ke r (List.take j l)).out) ∧ ((0 : Nat) = (0 : Nat) ∧ List.length (ke r (List.take k l)).to + (1 : Nat) = List.length (ke r (List.take j l)).to) ∧ IntKind.wrap IntKind.i64 ((↑k : Int) + (1 : Int)) = (↑j : Int) ∧ True) ∧ ((r.lo = r.lo ∧ r.hi = r.hi ∧ True) ∧ (List.length (ke r (List.take k l)).out = List.length (ke r (List.take j l)).out ∧ contLe (List.length (ke r (List.take k l)).out) (5 : Nat) (cellsOf' encR (ke r (List.take k l)).out) (cellsOf' encR (ke r (List.take j l)).out)) ∧ (List.length (ke r (List.take k l)).to + (1 : Nat) = List.length (ke r (List.take j l)).to ∧ contLe (List.length (ke r (List.take k l)).to + (1 : Nat)) (1 : Nat) (appRow (List.length (ke r (List.take k l)).to) (cellsOf' encU (ke r (List.take k l)).to) fun (k_1 j : Nat) => Ax.get [AV.y (Value.int IntKind.u64 (IntKind.wrap IntKind.u64 (↑(List.length (ke r (List.take k l)).out) : Int)))] (k_1 * (1 : Nat) + j)) (cellsOf' encU (ke r (List.take j l)).to)) ∧ True) ∧ true = true) ∧ true = true ∧ () = ())) ∧ (decide ((↑k : Int) < (↑(List.length l) : Int)) = false → (((0 : Nat) = (0 : Nat) ∧ List.length (ke r (List.take k l)).out = List.length (ke r l).out) ∧ ((0 : Nat) = (0 : Nat) ∧ List.length (ke r (List.take k l)).to = List.length (ke r l).to) ∧ True) ∧ ((r.lo = r.lo ∧ r.hi = r.hi ∧ True) ∧ (List.length (ke r (List.take k l)).out = List.length (ke r l).out ∧ contLe (List.length (ke r (List.take k l)).out) (5 : Nat) (cellsOf' encR (ke r (List.take k l)).out) (cellsOf' encR (ke r l).out)) ∧ (List.length (ke r (List.take k l)).to = List.length (ke r l).to ∧ contLe (List.length (ke r (List.take k l)).to) (1 : Nat) (cellsOf' encU (ke r (List.take k l)).to) (cellsOf' encU (ke r l).to)) ∧ True) ∧ true = true)
theorem vcKrL_eq (b : Bool) (r : Rng) (l : List Rec) (k : Nat) : (loopVC Tryd.prog (krH r l k) 43 7 (fun k => l.length - k) (fun k => krT b l (ke r (l.take k)) k) (fun k => kpM r (ke r (l.take k))) jX (fun _ => .ret ()) (krS r (ke r l)) k) = vcKrL b r l k := by kernel_rfl
noncomputable def keH2 (b : Bool) (r : Rng) (l : List Rec) : HintsT Tryd.prog := hh _ (lp1 43 7 (jobOf (fun k => krT b l (ke r (l.take k)) k) (fun k => kpM r (ke r (l.take k))) jX (fun _ => .ret ()) (krS r (ke r l)) 0) noLp) (cs1 43 1 1 (lrC b l) (cs1 43 2 4 (chk2C r) noCs)) (op1 43 4 0 (.row 38 5) (op1 43 5 0 (.row 24 1) noOp))
def vcKeep2 (b : Bool) (r : Rng) (l : List Rec) : Prop :=
  ((b = b ∧ List.length l = List.length l ∧ contLe (List.length l) (5 : Nat) (cellsOf' encR l) (cellsOf' encR l)) ∧ True) ∧ True ∧ List.length l ≤ (9223372036854775806 : Nat) ∧ ((!isLog l) = true → ((isLog l && chkK r == (0 : Int)) = true → (False ∧ False ∧ True) ∧ False) ∧ ((isLog l && chkK r == (0 : Int)) = false → (True ∧ True ∧ True) ∧ True)) ∧ ((!isLog l) = false → ((r.lo = r.lo ∧ r.hi = r.hi ∧ True) ∧ True) ∧ True ∧ ((chkK r != (0 : Int)) = true → ((isLog l && chkK r == (0 : Int)) = true → (False ∧ False ∧ True) ∧ False) ∧ ((isLog l && chkK r == (0 : Int)) = false → (True ∧ True ∧ True) ∧ True)) ∧ ((chkK r != (0 : Int)) = false → (((b = b ∧ List.length l = List.length l ∧ contLe (List.length l) (5 : Nat) (cellsOf' encR l) (cellsOf' encR l)) ∧ ((0 : Nat) = (0 : Nat) ∧ (0 : Nat) = (0 : Nat)) ∧ ((0 : Nat) = (0 : Nat) ∧ (0 : Nat) = (0 : Nat)) ∧ ((0 : Nat) = (0 : Nat) ∧ (0 : Nat) = (0 : Nat)) ∧ (0 : Int) = (0 : Int) ∧ True) ∧ ((r.lo = r.lo ∧ r.hi = r.hi ∧ True) ∧ ((0 : Nat) = (0 : Nat) ∧ contLe (0 : Nat) (5 : Nat) (fun (x x_1 : Nat) => AV.junk) (cellsOf' encR [])) ∧ ((0 : Nat) = (0 : Nat) ∧ contLe (0 : Nat) (1 : Nat) (fun (x x_1 : Nat) => AV.junk) (cellsOf' encU [])) ∧ True) ∧ true = true) ∧ LoopOk Tryd.prog (43 : Nat) (7 : Nat) (loopAt Tryd.prog (43 : Nat) (7 : Nat)) { t := krT b l (ke r (List.take (0 : Nat) l)) (0 : Nat), m := kpM r (ke r (List.take (0 : Nat) l)), mv := [] : St } (T.map (lout jX (krS r (ke r l))) ((fun (x : Nat) => T.ret ()) (0 : Nat))) ∧ (decide (List.length (ke r l).to = List.length (ke r l).to) && decide (List.length (ke r l).to + (1 : Nat) ≤ (9223372036854775807 : Nat)) && decide ((List.length (ke r l).to + (1 : Nat)) * (8 : Nat) ≤ (140737488355328 : Nat))) = true ∧ ((isLog l && chkK r == (0 : Int)) = true → (((0 : Nat) = (0 : Nat) ∧ List.length (ke r l).out = List.length (ke r l).out) ∧ ((0 : Nat) = (0 : Nat) ∧ List.length (ke r l).to + (1 : Nat) = List.length ((ke r l).to ++ [IntKind.wrap IntKind.u64 (↑(List.length (ke r l).out) : Int)])) ∧ True) ∧ (List.length (ke r l).out = List.length (ke r l).out ∧ contLe (List.length (ke r l).out) (5 : Nat) (cellsOf' encR (ke r l).out) (cellsOf' encR (ke r l).out)) ∧ (List.length (ke r l).to + (1 : Nat) = List.length ((ke r l).to ++ [IntKind.wrap IntKind.u64 (↑(List.length (ke r l).out) : Int)]) ∧ contLe (List.length (ke r l).to + (1 : Nat)) (1 : Nat) (appRow (List.length (ke r l).to) (cellsOf' encU (ke r l).to) fun (k j : Nat) => Ax.get [AV.y (Value.int IntKind.u64 (IntKind.wrap IntKind.u64 (↑(List.length (ke r l).out) : Int)))] (k * (1 : Nat) + j)) (cellsOf' encU ((ke r l).to ++ [IntKind.wrap IntKind.u64 (↑(List.length (ke r l).out) : Int)]))) ∧ True) ∧ ((isLog l && chkK r == (0 : Int)) = false → False)))
theorem vcKeep2_eq (b : Bool) (r : Rng) (l : List Rec) : (ctrVC Tryd.prog (keH2 b r l) 43 [encRs b l, .agg (encG r)] [] (keT r l)) = vcKeep2 b r l := by kernel_rfl
end Go.Proofs.YtckklclehofddaaDoor
