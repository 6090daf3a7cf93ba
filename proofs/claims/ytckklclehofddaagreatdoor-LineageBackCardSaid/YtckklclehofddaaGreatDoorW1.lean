import Derived.Test.YtckklclehofddaaGreatDoorProg
import Derived.KernelRfl
import Derived.Shelf.Strings.SlTrimAscii
import Derived.Test.YtckklclehofddaaGreatDoorE10
set_option linter.unusedVariables false
set_option linter.unusedSimpArgs false
set_option linter.unusedSectionVars false
/-! Records: data; one record in new memory; ranges of keys. -/
namespace Go.Proofs.YtckklclehofddaaGreatDoor
open Go.Ax
set_option maxRecDepth 1000000
structure Rec where
  off : Int
  key : ByteArray
  val : List Int
  prod : Int
  seq : Int
instance : Inhabited Rec := ⟨⟨0, ByteArray.empty, [], 0, 0⟩⟩
structure Rng where
  lo : ByteArray
  hi : ByteArray
instance : Inhabited Rng := ⟨⟨ByteArray.empty, ByteArray.empty⟩⟩
structure Con where
  name : ByteArray
  off : Int
instance : Inhabited Con := ⟨⟨ByteArray.empty, 0⟩⟩
def encB (x : Int) : List AV := [.y (.int .u8 x)]
def encU (x : Int) : List AV := [.y (.int .u64 x)]
def encI (x : Int) : List AV := [.y (.int .i64 x)]
def encBs (b : Bool) (l : List Int) : AV := .ys b 1 l.length (cellsOf' encB l)
def encUs (b : Bool) (l : List Int) : AV := .ys b 1 l.length (cellsOf' encU l)
def encR (x : Rec) : List AV := [.y (.int .u64 x.off), .y (.string x.key), encBs true x.val, .y (.int .u64 x.prod), .y (.int .u64 x.seq)]
def encRs (b : Bool) (l : List Rec) : AV := .ys b 5 l.length (cellsOf' encR l)
def encC (x : Con) : List AV := [.y (.string x.name), .y (.int .u64 x.off)]
def encCs (b : Bool) (l : List Con) : AV := .ys b 2 l.length (cellsOf' encC l)
def encG (r : Rng) : List AV := [.y (.string r.lo), .y (.string r.hi)]
def rowU (l : List Int) : Blk := .row 25 1 l.length none (cellsOf' encU l)
def rowR (l : List Rec) : Blk := .row 37 5 l.length none (cellsOf' encR l)
def rowC (l : List Con) : Blk := .row 41 2 l.length none (cellsOf' encC l)
theorem Tryz.mixed : Tryz.prog.follows .mixedOrders = true := by kernel_rfl
def boolR (b : Bool) : T An := .ret (.y (.bool b), [], [])
def intR (k : Int) : T An := .ret (.y (.int .i64 k), [], [])
/-! slices.Clone of bytes -/
def clnR (n : Nat) (c : Nat → Nat → AV) : T An := .ret (.own 0 1 0 n, [.row 5 1 n none c], [])
noncomputable def clnH : HintsT Tryz.prog := hh _ noLp noCs (op1 85 2 0 (.row 5 1) noOp)
def vcClone0 (n : Nat) (c : Nat → Nat → AV) : Prop :=
  ((0 : Nat) = (0 : Nat) ∧ (0 : Nat) = n) ∧ ((0 : Nat) = n ∧ contLe (0 : Nat) (1 : Nat) (fun (x x_1 : Nat) => AV.junk) c) ∧ True
set_option maxRecDepth 1000000 in
theorem vcClone0_eq (n : Nat) (c : Nat → Nat → AV) : (ctrVC Tryz.prog clnH 85 [.s (.slice none 0 0)] [] (clnR n c)) = vcClone0 n c := by kernel_rfl
def vcClone1 (b : Bool) (n : Nat) (c : Nat → Nat → AV) : Prop :=
  (decide ((0 : Nat) + n ≤ (9223372036854775807 : Nat)) && decide (((0 : Nat) + n) * (1 : Nat) ≤ (140737488355328 : Nat))) = true ∧ ((0 : Nat) = (0 : Nat) ∧ (0 : Nat) + n = n) ∧ ((0 : Nat) + n = n ∧ contLe ((0 : Nat) + n) (1 : Nat) (appRow (0 : Nat) (fun (k j : Nat) => AV.junk) c) c) ∧ True
set_option maxRecDepth 1000000 in
theorem vcClone1_eq (b : Bool) (n : Nat) (c : Nat → Nat → AV) : (ctrVC Tryz.prog clnH 85 [.yn b 1 n c] [] (clnR n c)) = vcClone1 b n c := by kernel_rfl
theorem clone_c (b : Bool) (n : Nat) (c : Nat → Nat → AV) (hl : n ≤ 140737488355328) : (clnR n c).Sat (ACall' Tryz.prog 85 [.ys b 1 n c] []) := by
  refine nil_cases (pre := []) (post := []) (fun h0 => ?_) ?_ ⟨_, rfl⟩
  · refine ctr_vc (ht := clnH) Tryz.mixed rfl ?_
    rw [List.nil_append, vcClone0_eq n c]
    unfold vcClone0
    simp [h0]
  · refine ctr_vc (ht := clnH) Tryz.mixed rfl ?_
    rw [List.nil_append, vcClone1_eq b n c]
    unfold vcClone1
    simp
    omega
noncomputable def clnC (b : Bool) (n : Nat) (c : Nat → Nat → AV) : Ctr Tryz.prog := ⟨85, [.ys b 1 n c], [], .need (n ≤ 140737488355328) (clnR n c), T.Sat.need fun h => clone_c b n c h⟩
/-! a record with another offset -/
def Rec.to (x : Rec) (o : Int) : Rec := ⟨o, x.key, x.val, x.prod, x.seq⟩
def recR (x : Rec) : T An := .ret (.agg (encR x), [], [])
noncomputable def ownH (x : Rec) : HintsT Tryz.prog := withSh (hh _ noLp (cs1 52 1 4 (clnC true x.val.length (cellsOf' encB x.val)) noCs) noOp) (sh1 52 2 0 779 noSh)
def vcOwn (x : Rec) (o : Int) : Prop :=
  ((true = true ∧ List.length x.val = List.length x.val ∧ contLe (List.length x.val) (1 : Nat) (cellsOf' encB x.val) (cellsOf' encB x.val)) ∧ True) ∧ True ∧ List.length x.val ≤ (140737488355328 : Nat) ∧ (∀ (k : Nat), k < List.length x.val → ∀ (j : Nat), j < (1 : Nat) → tagT (cellsOf' encB x.val k j) = true) ∧ (IntKind.wrap IntKind.u64 o = IntKind.wrap IntKind.u64 o ∧ x.key = x.key ∧ (true = true ∧ List.length x.val = List.length x.val ∧ contLe (List.length x.val) (1 : Nat) (Ax.rowAt (0 : Nat) (cellsOf' encB x.val)) (cellsOf' encB x.val)) ∧ x.prod = x.prod ∧ x.seq = x.seq ∧ True) ∧ True
set_option maxRecDepth 1000000 in
theorem vcOwn_eq (x : Rec) (o : Int) : (ctrVC Tryz.prog (ownH x) 52 [.agg (encR x), .y (.int .i64 o)] [] (recR (x.to (IntKind.u64.wrap o)))) = vcOwn x o := by kernel_rfl
/-! ranges -/
def lt (a b : ByteArray) : Bool := Op.bytesLess a.data.toList b.data.toList
def chkK (r : Rng) : Int := if 32 < r.lo.size ∨ 32 < r.hi.size then 131 else if (!r.hi.data.toList == []) = true ∧ (lt r.hi r.lo || r.hi.data.toList == r.lo.data.toList) = true then 132 else 0
def vcChk (r : Rng) : Prop :=
  (decide ((32 : Int) < (↑(ByteArray.size r.lo) : Int)) = true → (131 : Int) = chkK r ∧ True) ∧ (decide ((32 : Int) < (↑(ByteArray.size r.lo) : Int)) = false → (decide ((32 : Int) < (↑(ByteArray.size r.hi) : Int)) = true → (131 : Int) = chkK r ∧ True) ∧ (decide ((32 : Int) < (↑(ByteArray.size r.hi) : Int)) = false → ((!r.hi.data.toList == []) = true → ((Op.bytesLess r.hi.data.toList r.lo.data.toList || r.hi.data.toList == r.lo.data.toList) = true → (132 : Int) = chkK r ∧ True) ∧ ((Op.bytesLess r.hi.data.toList r.lo.data.toList || r.hi.data.toList == r.lo.data.toList) = false → (0 : Int) = chkK r ∧ True)) ∧ ((!r.hi.data.toList == []) = false → (0 : Int) = chkK r ∧ True)))
set_option maxRecDepth 1000000 in
theorem vcChk_eq (r : Rng) : (ctrVC Tryz.prog (hT _) 41 [.agg (encG r)] [] (intR (chkK r))) = vcChk r := by kernel_rfl
end Go.Proofs.YtckklclehofddaaGreatDoor

/-! Records: a range has a key; may records be a log? -/
namespace Go.Proofs.YtckklclehofddaaGreatDoor
open Go.Ax
set_option maxRecDepth 1000000
theorem own_c (x : Rec) (o : Int) (h : x.val.length ≤ 140737488355328) : (recR (x.to (IntKind.u64.wrap o))).Sat (ACall' Tryz.prog 52 [.agg (encR x), .y (.int .i64 o)] []) := by
  refine ctr_vc (ht := ownH x) Tryz.mixed rfl ?_
  rw [vcOwn_eq x o]
  unfold vcOwn
  simp [h]
  exact fun _ _ => rfl
noncomputable def ownC (x : Rec) (o : Int) : Ctr Tryz.prog := ⟨52, [.agg (encR x), .y (.int .i64 o)], [], .need (x.val.length ≤ 140737488355328) (recR (x.to (IntKind.u64.wrap o))), T.Sat.need fun h => own_c x o h⟩
theorem chk_c (r : Rng) : (intR (chkK r)).Sat (ACall' Tryz.prog 41 [.agg (encG r)] []) := by
  refine ctr_vc (ht := hT _) Tryz.mixed rfl ?_
  rw [vcChk_eq r]
  unfold vcChk chkK lt
  simp
  grind
noncomputable def chkC (r : Rng) : Ctr Tryz.prog := ⟨41, [.agg (encG r)], [], intR (chkK r), chk_c r⟩
def hasK (r : Rng) (k : ByteArray) : Bool := chkK r == 0 && (decide ((k.size : Int) ≤ 32) && ((lt r.lo k || r.lo.data.toList == k.data.toList) && (r.hi.data.toList == [] || lt k r.hi)))
noncomputable def hasH (r : Rng) : HintsT Tryz.prog := hh _ noLp (cs1 51 1 1 (chkC r) noCs) noOp
def vcHas (r : Rng) (k : ByteArray) : Prop :=
  ((r.lo = r.lo ∧ r.hi = r.hi ∧ True) ∧ True) ∧ True ∧ ((chkK r == (0 : Int)) = true → (decide ((↑(ByteArray.size k) : Int) ≤ (32 : Int)) = true → ((Op.bytesLess r.lo.data.toList k.data.toList || r.lo.data.toList == k.data.toList) = true → ((r.hi.data.toList == []) = true → true = hasK r k ∧ True) ∧ ((r.hi.data.toList == []) = false → Op.bytesLess k.data.toList r.hi.data.toList = hasK r k ∧ True)) ∧ ((Op.bytesLess r.lo.data.toList k.data.toList || r.lo.data.toList == k.data.toList) = false → false = hasK r k ∧ True)) ∧ (decide ((↑(ByteArray.size k) : Int) ≤ (32 : Int)) = false → false = hasK r k ∧ True)) ∧ ((chkK r == (0 : Int)) = false → false = hasK r k ∧ True)
set_option maxRecDepth 1000000 in
theorem vcHas_eq (r : Rng) (k : ByteArray) : (ctrVC Tryz.prog (hasH r) 51 [.agg (encG r), .y (.string k)] [] (boolR (hasK r k))) = vcHas r k := by kernel_rfl
theorem less_irr : ∀ l : List UInt8, Op.bytesLess l l = false
  | [] => rfl
  | a :: l => by simp [Op.bytesLess, less_irr l]
theorem less_asymm : ∀ (a b : List UInt8), Op.bytesLess a b = true → Op.bytesLess b a = false
  | [], [], h => by simp [Op.bytesLess] at h
  | [], _ :: _, _ => rfl
  | _ :: _, [], h => by simp [Op.bytesLess] at h
  | a :: l, b :: m, h => by
    simp only [Op.bytesLess, Bool.or_eq_true, Bool.and_eq_true, decide_eq_true_eq, beq_iff_eq] at h ⊢
    rcases h with h | ⟨rfl, h⟩
    · have h1 : ¬ b < a := UInt8.not_lt.2 (UInt8.le_of_lt h)
      have h2 : ¬ b = a := fun e => by subst e; exact absurd h (UInt8.lt_irrefl _)
      simp [h1, h2]
    · have := less_asymm l m h
      simp [this]
theorem less_total : ∀ (a b : List UInt8), Op.bytesLess a b = false → Op.bytesLess b a = false → a = b
  | [], [], _, _ => rfl
  | [], _ :: _, h, _ => by simp [Op.bytesLess] at h
  | _ :: _, [], _, h => by simp [Op.bytesLess] at h
  | a :: l, b :: m, h, k => by
    simp only [Op.bytesLess, Bool.or_eq_false_iff, Bool.and_eq_false_iff, decide_eq_false_iff_not, beq_eq_false_iff_ne] at h k
    have e : a = b := UInt8.le_antisymm (UInt8.not_lt.1 k.1) (UInt8.not_lt.1 h.1)
    subst e
    rw [less_total l m (h.2.resolve_left fun q => q rfl) (k.2.resolve_left fun q => q rfl)]
theorem has_c (r : Rng) (k : ByteArray) : (boolR (hasK r k)).Sat (ACall' Tryz.prog 51 [.agg (encG r), .y (.string k)] []) := by
  refine ctr_vc (ht := hasH r) Tryz.mixed rfl ?_
  rw [vcHas_eq r k]
  unfold vcHas
  unfold hasK lt
  generalize (chkK r == 0) = a
  generalize decide ((k.size : Int) ≤ 32) = b
  generalize Op.bytesLess r.lo.data.toList k.data.toList = c
  generalize (r.lo.data.toList == k.data.toList) = d
  generalize (r.hi.data.toList == []) = e
  generalize Op.bytesLess k.data.toList r.hi.data.toList = f
  cases a <;> cases b <;> cases c <;> cases d <;> cases e <;> cases f <;> simp
end Go.Proofs.YtckklclehofddaaGreatDoor

/-! Records: may records be a log? has a list a lower one? -/
namespace Go.Proofs.YtckklclehofddaaGreatDoor
open Go.Ax
set_option maxRecDepth 1000000
def okR (x : Rec) (k : Nat) : Bool := !(x.off != IntKind.u64.wrap k) && (decide (x.key.size ≤ 32) && decide (x.val.length ≤ 256))
def logFrom (l : List Rec) (k : Nat) : Bool := (List.range' k (l.length - k)).all fun j => okR (l.getD j default) j
theorem logFrom_end {l : List Rec} {k : Nat} (h : l.length ≤ k) : logFrom l k = true := by
  unfold logFrom
  rw [show l.length - k = 0 by omega]; rfl
theorem logFrom_step {l : List Rec} {k : Nat} (h : k < l.length) : logFrom l k = (okR (l.getD k default) k && logFrom l (k + 1)) := by
  unfold logFrom
  rw [show l.length - k = (l.length - (k + 1)) + 1 by omega, List.range'_succ]; rfl
def isLog (l : List Rec) : Bool := logFrom l 0 && decide (l.length ≤ 4096)
def lgT (b : Bool) (l : List Rec) (k : Nat) : List AV := mkT 33 [(0, encRs b l), (2, .s (.bool false)), (5, encRs b l), (6, .y (.int .i64 l.length)), (7, .y (.int .i64 k))]
def lgS (b : Bool) (l : List Rec) (r : Bool) : Exit × List AV × List Blk := match r with
  | true => (.exit 0, mkT 33 [(0, encRs b l)], [])
  | false => (.ret, mkT 33 [(2, .s (.bool false))], [])
def lgO (l : List Rec) (k : Nat) : T Bool := .ite (logFrom l k) (.ret true) (.ret false)
def vcLgL (b : Bool) (l : List Rec) (k : Nat) : Prop :=
  (decide ((↑k : Int) < (↑(List.length l) : Int)) = true → (true && decide ((↑k : Int) < (↑(List.length l) : Int))) = true ∧ (((List.getD l (Int.toNat (↑k : Int)) (@default Rec instInhabitedRec)).off != IntKind.wrap IntKind.u64 (↑k : Int)) = true → (logFrom l k = true → False) ∧ (logFrom l k = false → (false = false ∧ True) ∧ True ∧ true = true)) ∧ (((List.getD l (Int.toNat (↑k : Int)) (@default Rec instInhabitedRec)).off != IntKind.wrap IntKind.u64 (↑k : Int)) = false → (decide ((32 : Int) < (↑(ByteArray.size (List.getD l (Int.toNat (↑k : Int)) (@default Rec instInhabitedRec)).key) : Int)) = true → (logFrom l k = true → False) ∧ (logFrom l k = false → (false = false ∧ True) ∧ True ∧ true = true)) ∧ (decide ((32 : Int) < (↑(ByteArray.size (List.getD l (Int.toNat (↑k : Int)) (@default Rec instInhabitedRec)).key) : Int)) = false → (decide ((256 : Int) < (↑(List.length (List.getD l (Int.toNat (↑k : Int)) (@default Rec instInhabitedRec)).val) : Int)) = true → (logFrom l k = true → False) ∧ (logFrom l k = false → (false = false ∧ True) ∧ True ∧ true = true)) ∧ (decide ((256 : Int) < (↑(List.length (List.getD l (Int.toNat (↑k : Int)) (@default Rec instInhabitedRec)).val) : Int)) = false → ∃ (j : Nat), List.length l - j < List.length l - k ∧ (((b = b ∧ List.length l = List.length l ∧ contLe (List.length l) (5 : Nat) (cellsOf' encR l) (cellsOf' encR l)) ∧ false = false ∧ (b = b ∧ List.length l = List.length l ∧ contLe (List.length l) (5 : Nat) (cellsOf' encR l) (cellsOf' encR l)) ∧ (↑(List.length l) : Int) = (↑(List.length l) : Int) ∧ IntKind.wrap IntKind.i64 ((↑k : Int) + (1 : Int)) = (↑j : Int) ∧ True) ∧ True ∧ true = true) ∧ true = true ∧ (logFrom l j = true → (logFrom l k = true → true = true) ∧ (logFrom l k = false → true = false)) ∧ (logFrom l j = false → (logFrom l k = true → false = true) ∧ (logFrom l k = false → false = false)))))) ∧ (decide ((↑k : Int) < (↑(List.length l) : Int)) = false → (logFrom l k = true → ((b = b ∧ List.length l = List.length l ∧ contLe (List.length l) (5 : Nat) (cellsOf' encR l) (cellsOf' encR l)) ∧ True) ∧ True ∧ true = true) ∧ (logFrom l k = false → False))
set_option maxRecDepth 1000000 in
theorem vcLgL_eq (b : Bool) (l : List Rec) (k : Nat) : (loopVC Tryz.prog (hT _) 42 2 (fun k => l.length - k) (lgT b l) (fun _ => []) [0] (lgO l) (lgS b l) k) = vcLgL b l k := by kernel_rfl
noncomputable def lgH (b : Bool) (l : List Rec) : HintsT Tryz.prog := hh _ (lp1 42 2 (jobOf (lgT b l) (fun _ => []) [0] (lgO l) (lgS b l) 0) noLp) noCs noOp
def vcLg (b : Bool) (l : List Rec) : Prop :=
  (((b = b ∧ List.length l = List.length l ∧ contLe (List.length l) (5 : Nat) (cellsOf' encR l) (cellsOf' encR l)) ∧ false = false ∧ (b = b ∧ List.length l = List.length l ∧ contLe (List.length l) (5 : Nat) (cellsOf' encR l) (cellsOf' encR l)) ∧ (↑(List.length l) : Int) = (↑(List.length l) : Int) ∧ (0 : Int) = (0 : Int) ∧ True) ∧ True ∧ true = true) ∧ LoopOk Tryz.prog (42 : Nat) (2 : Nat) (loopAt Tryz.prog (42 : Nat) (2 : Nat)) { t := lgT b l (0 : Nat), m := [], mv := [] : St } (T.map (lout [(0 : Nat)] (lgS b l)) (lgO l (0 : Nat))) ∧ (logFrom l (0 : Nat) = true → decide ((↑(List.length l) : Int) ≤ (4096 : Int)) = isLog l ∧ True) ∧ (logFrom l (0 : Nat) = false → false = isLog l ∧ True)
set_option maxRecDepth 1000000 in
theorem vcLg_eq (b : Bool) (l : List Rec) : (ctrVC Tryz.prog (lgH b l) 42 [encRs b l] [] (boolR (isLog l))) = vcLg b l := by kernel_rfl
/-! one of the same producer with a lower number -/
def below (x y : Rec) : Bool := y.prod == x.prod && decide (y.seq < x.seq)
def lowR (l : List Rec) (x : Rec) : Bool := l.any (below x)
theorem low_nil (x : Rec) : lowR [] x = false := rfl
theorem low_cons (y : Rec) (l : List Rec) (x : Rec) : lowR (y :: l) x = (below x y || lowR l x) := rfl
def fnW (x : Rec) : AV := .fn (.func 97) [] [.ip false 5 (get (encR x))]
def ixT (b : Bool) (x : Rec) (l : List Rec) (k : Nat) : List AV := mkT 19 [(0, encRs b l), (1, fnW x), (4, .s (.int .i64 0)), (7, .y (.int .i64 l.length)), (8, .y (.int .i64 k))]
def ixS (r : Bool × Nat) : Exit × List AV × List Blk := match r.1 with
  | true => (.ret, mkT 19 [(4, .y (.int .i64 r.2))], [])
  | false => (.exit 0, mkT 19 [], [])
def ixO (l : List Rec) (x : Rec) (k : Nat) : T (Bool × Nat) := .ite (lowR (l.drop k) x) (.ret (true, k + (l.drop k).findIdx (below x))) (.ret (false, 0))
def vcIxL (b : Bool) (x : Rec) (l : List Rec) (k : Nat) : Prop :=
  (decide ((↑k : Int) < (↑(List.length l) : Int)) = true → (true && decide ((↑k : Int) < (↑(List.length l) : Int))) = true ∧ (((List.getD l (Int.toNat (↑k : Int)) (@default Rec instInhabitedRec)).prod == x.prod) = true → (decide ((List.getD l (Int.toNat (↑k : Int)) (@default Rec instInhabitedRec)).seq < x.seq) = true → (lowR (List.drop k l) x = true → ((↑k : Int) = (↑(k + List.findIdx (below x) (List.drop k l)) : Int) ∧ True) ∧ True ∧ true = true) ∧ (lowR (List.drop k l) x = false → False)) ∧ (decide ((List.getD l (Int.toNat (↑k : Int)) (@default Rec instInhabitedRec)).seq < x.seq) = false → ∃ (j : Nat), List.length l - j < List.length l - k ∧ (((b = b ∧ List.length l = List.length l ∧ contLe (List.length l) (5 : Nat) (cellsOf' encR l) (cellsOf' encR l)) ∧ (True ∧ (false = false ∧ (5 : Nat) ≤ (5 : Nat) ∧ cellLe (5 : Nat) (Ax.get [AV.y (Value.int IntKind.u64 x.off), AV.y (Value.string x.key), AV.ys true (1 : Nat) (List.length x.val) (cellsOf' encB x.val), AV.y (Value.int IntKind.u64 x.prod), AV.y (Value.int IntKind.u64 x.seq)]) (Ax.get [AV.y (Value.int IntKind.u64 x.off), AV.y (Value.string x.key), AV.ys true (1 : Nat) (List.length x.val) (cellsOf' encB x.val), AV.y (Value.int IntKind.u64 x.prod), AV.y (Value.int IntKind.u64 x.seq)])) ∧ True) ∧ (0 : Int) = (0 : Int) ∧ (↑(List.length l) : Int) = (↑(List.length l) : Int) ∧ IntKind.wrap IntKind.i64 ((↑k : Int) + (1 : Int)) = (↑j : Int) ∧ True) ∧ True ∧ true = true) ∧ true = true ∧ (lowR (List.drop j l) x = true → (lowR (List.drop k l) x = true → (true, j + List.findIdx (below x) (List.drop j l)) = (true, k + List.findIdx (below x) (List.drop k l))) ∧ (lowR (List.drop k l) x = false → (true, j + List.findIdx (below x) (List.drop j l)) = (false, (0 : Nat)))) ∧ (lowR (List.drop j l) x = false → (lowR (List.drop k l) x = true → (false, (0 : Nat)) = (true, k + List.findIdx (below x) (List.drop k l))) ∧ (lowR (List.drop k l) x = false → (false, (0 : Nat)) = (false, (0 : Nat)))))) ∧ (((List.getD l (Int.toNat (↑k : Int)) (@default Rec instInhabitedRec)).prod == x.prod) = false → ∃ (j : Nat), List.length l - j < List.length l - k ∧ (((b = b ∧ List.length l = List.length l ∧ contLe (List.length l) (5 : Nat) (cellsOf' encR l) (cellsOf' encR l)) ∧ (True ∧ (false = false ∧ (5 : Nat) ≤ (5 : Nat) ∧ cellLe (5 : Nat) (Ax.get [AV.y (Value.int IntKind.u64 x.off), AV.y (Value.string x.key), AV.ys true (1 : Nat) (List.length x.val) (cellsOf' encB x.val), AV.y (Value.int IntKind.u64 x.prod), AV.y (Value.int IntKind.u64 x.seq)]) (Ax.get [AV.y (Value.int IntKind.u64 x.off), AV.y (Value.string x.key), AV.ys true (1 : Nat) (List.length x.val) (cellsOf' encB x.val), AV.y (Value.int IntKind.u64 x.prod), AV.y (Value.int IntKind.u64 x.seq)])) ∧ True) ∧ (0 : Int) = (0 : Int) ∧ (↑(List.length l) : Int) = (↑(List.length l) : Int) ∧ IntKind.wrap IntKind.i64 ((↑k : Int) + (1 : Int)) = (↑j : Int) ∧ True) ∧ True ∧ true = true) ∧ true = true ∧ (lowR (List.drop j l) x = true → (lowR (List.drop k l) x = true → (true, j + List.findIdx (below x) (List.drop j l)) = (true, k + List.findIdx (below x) (List.drop k l))) ∧ (lowR (List.drop k l) x = false → (true, j + List.findIdx (below x) (List.drop j l)) = (false, (0 : Nat)))) ∧ (lowR (List.drop j l) x = false → (lowR (List.drop k l) x = true → (false, (0 : Nat)) = (true, k + List.findIdx (below x) (List.drop k l))) ∧ (lowR (List.drop k l) x = false → (false, (0 : Nat)) = (false, (0 : Nat)))))) ∧ (decide ((↑k : Int) < (↑(List.length l) : Int)) = false → (lowR (List.drop k l) x = true → False) ∧ (lowR (List.drop k l) x = false → True ∧ True ∧ true = true))
set_option maxRecDepth 1000000 in
theorem vcIxL_eq (b : Bool) (x : Rec) (l : List Rec) (k : Nat) : (loopVC Tryz.prog (hT _) 118 2 (fun k => l.length - k) (ixT b x l) (fun _ => []) [0] (ixO l x) ixS k) = vcIxL b x l k := by kernel_rfl
noncomputable def ixH (b : Bool) (x : Rec) (l : List Rec) : HintsT Tryz.prog := hh _ (lp1 118 2 (jobOf (ixT b x l) (fun _ => []) [0] (ixO l x) ixS 0) noLp) noCs noOp
def vcCf (b : Bool) (x : Rec) (l : List Rec) : Prop :=
  (((b = b ∧ List.length l = List.length l ∧ contLe (List.length l) (5 : Nat) (cellsOf' encR l) (cellsOf' encR l)) ∧ (True ∧ (false = false ∧ (5 : Nat) ≤ (5 : Nat) ∧ cellLe (5 : Nat) (Ax.get [AV.y (Value.int IntKind.u64 x.off), AV.y (Value.string x.key), AV.ys true (1 : Nat) (List.length x.val) (cellsOf' encB x.val), AV.y (Value.int IntKind.u64 x.prod), AV.y (Value.int IntKind.u64 x.seq)]) (Ax.get [AV.y (Value.int IntKind.u64 x.off), AV.y (Value.string x.key), AV.ys true (1 : Nat) (List.length x.val) (cellsOf' encB x.val), AV.y (Value.int IntKind.u64 x.prod), AV.y (Value.int IntKind.u64 x.seq)])) ∧ True) ∧ (0 : Int) = (0 : Int) ∧ (↑(List.length l) : Int) = (↑(List.length l) : Int) ∧ (0 : Int) = (0 : Int) ∧ True) ∧ True ∧ true = true) ∧ LoopOk Tryz.prog (118 : Nat) (2 : Nat) (loopAt Tryz.prog (118 : Nat) (2 : Nat)) { t := ixT b x l (0 : Nat), m := [], mv := [] : St } (T.map (lout [(0 : Nat)] ixS) (ixO l x (0 : Nat))) ∧ (lowR (List.drop (0 : Nat) l) x = true → true = lowR l x ∧ True) ∧ (lowR (List.drop (0 : Nat) l) x = false → false = lowR l x ∧ True)
set_option maxRecDepth 1000000 in
theorem vcCf_eq (b : Bool) (x : Rec) (l : List Rec) : (ctrVC Tryz.prog (ixH b x l) 96 [encRs b l, fnW x] [] (boolR (lowR l x))) = vcCf b x l := by kernel_rfl
end Go.Proofs.YtckklclehofddaaGreatDoor

/-! Records: the contracts of Log, wait, lower. -/
namespace Go.Proofs.YtckklclehofddaaGreatDoor
open Go.Ax
set_option maxRecDepth 1000000
theorem lg_loop (b : Bool) (l : List Rec) (hl : l.length ≤ 9223372036854775806) (k : Nat) : LoopOk Tryz.prog 42 2 (loopAt Tryz.prog 42 2) ⟨lgT b l k, [], []⟩ ((lgO l k).map (lout [0] (lgS b l))) := by
  refine loop_vc Tryz.mixed (fun _ => rfl) (fun k => (vcLgL_eq b l k).mpr ?_) k
  unfold vcLgL
  simp
  refine ⟨fun h => ?_, fun h => by simp [logFrom_end h]⟩
  rw [logFrom_step h]
  simp (disch := omega) only [wrap_i64]
  simp [okR, cast_succ_eq]
  generalize l[k]?.getD default = x
  grind
theorem lg_c (b : Bool) (l : List Rec) (hl : l.length ≤ 9223372036854775806) : (boolR (isLog l)).Sat (ACall' Tryz.prog 42 [encRs b l] []) := by
  refine ctr_vc (ht := lgH b l) Tryz.mixed rfl ?_
  rw [vcLg_eq b l]
  unfold vcLg
  have := lg_loop b l hl 0
  simp [this, isLog]
  grind
theorem ix_loop (b : Bool) (x : Rec) (l : List Rec) (hl : l.length ≤ 9223372036854775806) (k : Nat) : LoopOk Tryz.prog 118 2 (loopAt Tryz.prog 118 2) ⟨ixT b x l k, [], []⟩ ((ixO l x k).map (lout [0] ixS)) := by
  refine loop_vc Tryz.mixed (fun _ => rfl) (fun k => (vcIxL_eq b x l k).mpr ?_) k
  unfold vcIxL
  simp
  refine ⟨fun h => ?_, fun h => by simp [drop_end h, low_nil]⟩
  simp (disch := omega) only [wrap_i64]
  rw [drop_cons h]
  simp only [low_cons, List.findIdx_cons]
  generalize l[k]?.getD default = y
  by_cases h1 : y.prod = x.prod
  · by_cases h2 : y.seq < x.seq
    · simp [below, h1, h2, h]
      exact fun e => absurd e (by omega)
    · simp [below, h1, h2, h, cast_succ_eq]
      exact fun _ => ⟨k + 1, by omega, rfl, by grind⟩
  · simp [below, h1, h, cast_succ_eq]
    exact ⟨k + 1, by omega, rfl, by grind⟩
theorem cf_c (b : Bool) (x : Rec) (l : List Rec) (hl : l.length ≤ 9223372036854775806) : (boolR (lowR l x)).Sat (ACall' Tryz.prog 96 [encRs b l, fnW x] []) := by
  refine ctr_vc (ht := ixH b x l) Tryz.mixed rfl ?_
  rw [vcCf_eq b x l]
  unfold vcCf
  have := ix_loop b x l hl 0
  simp [this]
noncomputable def lgC (b : Bool) (l : List Rec) : Ctr Tryz.prog := ⟨42, [encRs b l], [], .need (l.length ≤ 9223372036854775806) (boolR (isLog l)), T.Sat.need fun h => lg_c b l h⟩
noncomputable def cfC (b : Bool) (x : Rec) (l : List Rec) : Ctr Tryz.prog := ⟨96, [encRs b l, fnW x], [], .need (l.length ≤ 9223372036854775806) (boolR (lowR l x)), T.Sat.need fun h => cf_c b x l h⟩
end Go.Proofs.YtckklclehofddaaGreatDoor

/-! Records: two logs as one. -/
namespace Go.Proofs.YtckklclehofddaaGreatDoor
open Go.Ax
set_option maxRecDepth 1000000
def hd (l : List Rec) : Rec := l.getD 0 default
structure Jo where
  (a b out : List Rec) (ta tb : List Int)
def Jo.tA (s : Jo) : Bool := !s.a.isEmpty && !lowR s.b (hd s.a)
def Jo.tB (s : Jo) : Bool := !s.b.isEmpty && !lowR s.a (hd s.b)
def Jo.at (s : Jo) : Int := IntKind.u64.wrap (s.out.length : Nat)
def Jo.goA (s : Jo) : Jo := ⟨s.a.tail, s.b, s.out ++ [(hd s.a).to s.at], s.ta ++ [s.at], s.tb⟩
def Jo.goB (s : Jo) : Jo := ⟨s.a, s.b.tail, s.out ++ [(hd s.b).to s.at], s.ta, s.tb ++ [s.at]⟩
def joinN : Nat → Jo → Option Jo
  | 0, s => some s
  | n + 1, s => if s.tA then joinN n s.goA else if s.tB then joinN n s.goB else none
def Jo.run (s : Jo) : Option Jo := joinN (s.a.length + s.b.length) s
def sideV (b : Bool) (l : List Rec) : AV := .ip false 2 (get [encRs b l, .junk])
noncomputable def waitH (b1 b2 : Bool) (a b : List Rec) : HintsT Tryz.prog := hh _ noLp (cs1 86 2 5 (cfC b2 (hd a) b) noCs) noOp
def vcWait (b1 : Bool) (b2 : Bool) (a : List Rec) (b : List Rec) : Prop :=
  (true && decide ((0 : Int) < (↑(List.length a) : Int))) = true ∧ ((b2 = b2 ∧ List.length b = List.length b ∧ contLe (List.length b) (5 : Nat) (cellsOf' encR b) (cellsOf' encR b)) ∧ (True ∧ (false = false ∧ (5 : Nat) ≤ (5 : Nat) ∧ cellLe (5 : Nat) (fun (j : Nat) => Ax.get [AV.y (Value.int IntKind.u64 (List.getD a (0 : Nat) (@default Rec instInhabitedRec)).off), AV.y (Value.string (List.getD a (0 : Nat) (@default Rec instInhabitedRec)).key), AV.ys true (1 : Nat) (List.length (List.getD a (0 : Nat) (@default Rec instInhabitedRec)).val) (cellsOf' encB (List.getD a (0 : Nat) (@default Rec instInhabitedRec)).val), AV.y (Value.int IntKind.u64 (List.getD a (0 : Nat) (@default Rec instInhabitedRec)).prod), AV.y (Value.int IntKind.u64 (List.getD a (0 : Nat) (@default Rec instInhabitedRec)).seq)] ((0 : Nat) + j)) (Ax.get [AV.y (Value.int IntKind.u64 (hd a).off), AV.y (Value.string (hd a).key), AV.ys true (1 : Nat) (List.length (hd a).val) (cellsOf' encB (hd a).val), AV.y (Value.int IntKind.u64 (hd a).prod), AV.y (Value.int IntKind.u64 (hd a).seq)])) ∧ True) ∧ True) ∧ True ∧ List.length b ≤ (9223372036854775806 : Nat) ∧ true = true ∧ True ∧ lowR b (hd a) = lowR b (hd a) ∧ True
set_option maxRecDepth 1000000 in
theorem vcWait_eq (b1 : Bool) (b2 : Bool) (a : List Rec) (b : List Rec) : (ctrVC Tryz.prog (waitH b1 b2 a b) 86 [sideV b1 a, sideV b2 b] [] (boolR (lowR b (hd a)))) = vcWait b1 b2 a b := by kernel_rfl
theorem wait_c (b1 b2 : Bool) (a b : List Rec) (h0 : 0 < a.length) (hl : b.length ≤ 9223372036854775806) : (boolR (lowR b (hd a))).Sat (ACall' Tryz.prog 86 [sideV b1 a, sideV b2 b] []) := by
  refine ctr_vc (ht := waitH b1 b2 a b) Tryz.mixed rfl ?_
  rw [vcWait_eq b1 b2 a b]
  unfold vcWait
  have e : a.getD 0 default = hd a := rfl
  simp only [e]
  simp [h0, hl]
noncomputable def waitC (b1 b2 : Bool) (a b : List Rec) : Ctr Tryz.prog := ⟨86, [sideV b1 a, sideV b2 b], [], .need (0 < a.length ∧ b.length ≤ 9223372036854775806) (boolR (lowR b (hd a))), T.Sat.need fun h => wait_c b1 b2 a b h.1 h.2⟩
/-! the program's loop -/
def jM (b1 b2 : Bool) (s : Jo) : List Blk := [rowU s.ta, .box 125 [encRs b1 s.a, .own 0 1 0 s.ta.length], rowU s.tb, .box 125 [encRs b2 s.b, .own 2 1 0 s.tb.length], rowR s.out]
def jT (s : Jo) : List AV := mkT 121 [(8, .ptr 1 0 0 0), (9, .ptr 3 0 0 0), (10, .own 4 5 0 s.out.length)]
inductive JR where
  | ok (s : Jo)
  | bad
def jO (s : Jo) : T JR := .ite s.run.isSome (.ret (.ok (s.run.getD s))) (.ret .bad)
def jS (b1 b2 : Bool) (r : JR) : Exit × List AV × List Blk := match r with
  | .ok s => (.exit 1, jT s, jM b1 b2 s)
  | .bad => (.ret, mkT 121 [(4, .s (.slice none 0 0)), (5, .s (.slice none 0 0)), (6, .s (.slice none 0 0)), (7, .s (.int .i64 145))], [])
noncomputable def jH (b1 b2 : Bool) (s : Jo) (h : Rec) : HintsT Tryz.prog := hh _ noLp (cs1 57 9 9 (waitC b1 b2 s.a s.b) (cs1 57 11 9 (waitC b2 b1 s.b s.a) (cs1 57 14 9 (ownC h s.out.length) noCs))) noOp
structure Jo.Ok (s : Jo) : Prop where
  a : ∀ x ∈ s.a, x.val.length ≤ 256
  b : ∀ x ∈ s.b, x.val.length ≤ 256
  n : s.a.length + s.b.length + s.out.length ≤ 4096
  ta : s.ta.length ≤ s.out.length
  tb : s.tb.length ≤ s.out.length
def jX : List Nat := [0, 1, 2, 3, 4, 5, 6, 7, 8, 9, 10]
def vcJ (b1 : Bool) (b2 : Bool) (s : { s : Jo // s.Ok }) (c : Bool) : Prop :=
  (decide ((0 : Int) < IntKind.wrap IntKind.i64 ((↑(List.length s.val.a) : Int) + (↑(List.length s.val.b) : Int))) = true → (((↑(List.length s.val.a) : Int) == (0 : Int)) = true → (((↑(List.length s.val.b) : Int) == (0 : Int)) = true → (Option.isSome (Jo.run s.val) = true → False) ∧ (Option.isSome (Jo.run s.val) = false → (True ∧ True ∧ True ∧ (145 : Int) = (145 : Int) ∧ True) ∧ True ∧ true = true)) ∧ (((↑(List.length s.val.b) : Int) == (0 : Int)) = false → ((false = false ∧ (2 : Nat) ≤ (2 : Nat) ∧ cellLe (2 : Nat) (fun (j : Nat) => Ax.get [AV.ys b2 (5 : Nat) (List.length s.val.b) (cellsOf' encR s.val.b), AV.ys false (1 : Nat) (List.length s.val.tb) (Ax.rowAt (0 : Nat) (cellsOf' encU s.val.tb))] ((0 : Nat) + j)) (Ax.get [AV.ys b2 (5 : Nat) (List.length s.val.b) (cellsOf' encR s.val.b), AV.junk])) ∧ (false = false ∧ (2 : Nat) ≤ (2 : Nat) ∧ cellLe (2 : Nat) (fun (j : Nat) => Ax.get [AV.ys b1 (5 : Nat) (List.length s.val.a) (cellsOf' encR s.val.a), AV.ys false (1 : Nat) (List.length s.val.ta) (Ax.rowAt (0 : Nat) (cellsOf' encU s.val.ta))] ((0 : Nat) + j)) (Ax.get [AV.ys b1 (5 : Nat) (List.length s.val.a) (cellsOf' encR s.val.a), AV.junk])) ∧ True) ∧ True ∧ ((0 : Nat) < List.length s.val.b ∧ List.length s.val.a ≤ (9223372036854775806 : Nat)) ∧ true = true ∧ True ∧ (lowR s.val.a (hd s.val.b) = true → (Option.isSome (Jo.run s.val) = true → False) ∧ (Option.isSome (Jo.run s.val) = false → (True ∧ True ∧ True ∧ (145 : Int) = (145 : Int) ∧ True) ∧ True ∧ true = true)) ∧ (lowR s.val.a (hd s.val.b) = false → (decide (List.length s.val.tb = List.length s.val.tb) && decide (List.length s.val.tb + (1 : Nat) ≤ (9223372036854775807 : Nat)) && decide ((List.length s.val.tb + (1 : Nat)) * (8 : Nat) ≤ (140737488355328 : Nat))) = true ∧ (true && decide ((0 : Int) < (↑(List.length s.val.b) : Int))) = true ∧ (((List.getD s.val.b (0 : Nat) (@default Rec instInhabitedRec)).off = (if c = true then hd s.val.a else hd s.val.b).off ∧ (List.getD s.val.b (0 : Nat) (@default Rec instInhabitedRec)).key = (if c = true then hd s.val.a else hd s.val.b).key ∧ (true = true ∧ List.length (List.getD s.val.b (0 : Nat) (@default Rec instInhabitedRec)).val = List.length (if c = true then hd s.val.a else hd s.val.b).val ∧ contLe (List.length (List.getD s.val.b (0 : Nat) (@default Rec instInhabitedRec)).val) (1 : Nat) (cellsOf' encB (List.getD s.val.b (0 : Nat) (@default Rec instInhabitedRec)).val) (cellsOf' encB (if c = true then hd s.val.a else hd s.val.b).val)) ∧ (List.getD s.val.b (0 : Nat) (@default Rec instInhabitedRec)).prod = (if c = true then hd s.val.a else hd s.val.b).prod ∧ (List.getD s.val.b (0 : Nat) (@default Rec instInhabitedRec)).seq = (if c = true then hd s.val.a else hd s.val.b).seq ∧ True) ∧ (↑(List.length s.val.out) : Int) = (↑(List.length s.val.out) : Int) ∧ True) ∧ True ∧ List.length (if c = true then hd s.val.a else hd s.val.b).val ≤ (140737488355328 : Nat) ∧ (decide (List.length s.val.out = List.length s.val.out) && decide (List.length s.val.out + (1 : Nat) ≤ (9223372036854775807 : Nat)) && decide ((List.length s.val.out + (1 : Nat)) * (64 : Nat) ≤ (140737488355328 : Nat))) = true ∧ (true && decide ((1 : Int) ≤ (↑(List.length s.val.b) : Int)) && decide ((↑(List.length s.val.b) : Int) ≤ (↑(List.length s.val.b) : Int))) = true ∧ ∃ (j : { s : Jo // Jo.Ok s }), List.length j.val.a + List.length j.val.b < List.length s.val.a + List.length s.val.b ∧ ((((0 : Nat) = (0 : Nat) ∧ (0 : Nat) = (0 : Nat)) ∧ ((0 : Nat) = (0 : Nat) ∧ (0 : Nat) = (0 : Nat)) ∧ ((0 : Nat) = (0 : Nat) ∧ List.length s.val.out + (1 : Nat) = List.length j.val.out) ∧ True) ∧ ((List.length s.val.ta = List.length j.val.ta ∧ contLe (List.length s.val.ta) (1 : Nat) (cellsOf' encU s.val.ta) (cellsOf' encU j.val.ta)) ∧ ((b1 = b1 ∧ List.length s.val.a = List.length j.val.a ∧ contLe (List.length s.val.a) (5 : Nat) (cellsOf' encR s.val.a) (cellsOf' encR j.val.a)) ∧ ((0 : Nat) = (0 : Nat) ∧ List.length s.val.ta = List.length j.val.ta) ∧ True) ∧ (List.length s.val.tb + (1 : Nat) = List.length j.val.tb ∧ contLe (List.length s.val.tb + (1 : Nat)) (1 : Nat) (appRow (List.length s.val.tb) (cellsOf' encU s.val.tb) fun (k j : Nat) => Ax.get [AV.y (Value.int IntKind.u64 (IntKind.wrap IntKind.u64 (↑(List.length s.val.out) : Int)))] (k * (1 : Nat) + j)) (cellsOf' encU j.val.tb)) ∧ ((b2 = b2 ∧ Int.toNat (↑(List.length s.val.b) : Int) - (1 : Nat) = List.length j.val.b ∧ contLe (Int.toNat (↑(List.length s.val.b) : Int) - (1 : Nat)) (5 : Nat) (fun (k : Nat) => cellsOf' encR s.val.b ((1 : Nat) + k)) (cellsOf' encR j.val.b)) ∧ ((0 : Nat) = (0 : Nat) ∧ List.length s.val.tb + (1 : Nat) = List.length j.val.tb) ∧ True) ∧ (List.length s.val.out + (1 : Nat) = List.length j.val.out ∧ contLe (List.length s.val.out + (1 : Nat)) (5 : Nat) (appRow (List.length s.val.out) (cellsOf' encR s.val.out) fun (k j : Nat) => Ax.get [AV.y (Value.int IntKind.u64 (IntKind.wrap IntKind.u64 (↑(List.length s.val.out) : Int))), AV.y (Value.string (if c = true then hd s.val.a else hd s.val.b).key), AV.ys true (1 : Nat) (List.length (if c = true then hd s.val.a else hd s.val.b).val) (cellsOf' encB (if c = true then hd s.val.a else hd s.val.b).val), AV.y (Value.int IntKind.u64 (if c = true then hd s.val.a else hd s.val.b).prod), AV.y (Value.int IntKind.u64 (if c = true then hd s.val.a else hd s.val.b).seq)] (k * (5 : Nat) + j)) (cellsOf' encR j.val.out)) ∧ True) ∧ true = true) ∧ true = true ∧ (Option.isSome (Jo.run j.val) = true → (Option.isSome (Jo.run s.val) = true → JR.ok (Option.getD (Jo.run j.val) j.val) = JR.ok (Option.getD (Jo.run s.val) s.val)) ∧ (Option.isSome (Jo.run s.val) = false → JR.ok (Option.getD (Jo.run j.val) j.val) = JR.bad)) ∧ (Option.isSome (Jo.run j.val) = false → (Option.isSome (Jo.run s.val) = true → JR.bad = JR.ok (Option.getD (Jo.run s.val) s.val)) ∧ (Option.isSome (Jo.run s.val) = false → JR.bad = JR.bad))))) ∧ (((↑(List.length s.val.a) : Int) == (0 : Int)) = false → ((false = false ∧ (2 : Nat) ≤ (2 : Nat) ∧ cellLe (2 : Nat) (fun (j : Nat) => Ax.get [AV.ys b1 (5 : Nat) (List.length s.val.a) (cellsOf' encR s.val.a), AV.ys false (1 : Nat) (List.length s.val.ta) (Ax.rowAt (0 : Nat) (cellsOf' encU s.val.ta))] ((0 : Nat) + j)) (Ax.get [AV.ys b1 (5 : Nat) (List.length s.val.a) (cellsOf' encR s.val.a), AV.junk])) ∧ (false = false ∧ (2 : Nat) ≤ (2 : Nat) ∧ cellLe (2 : Nat) (fun (j : Nat) => Ax.get [AV.ys b2 (5 : Nat) (List.length s.val.b) (cellsOf' encR s.val.b), AV.ys false (1 : Nat) (List.length s.val.tb) (Ax.rowAt (0 : Nat) (cellsOf' encU s.val.tb))] ((0 : Nat) + j)) (Ax.get [AV.ys b2 (5 : Nat) (List.length s.val.b) (cellsOf' encR s.val.b), AV.junk])) ∧ True) ∧ True ∧ ((0 : Nat) < List.length s.val.a ∧ List.length s.val.b ≤ (9223372036854775806 : Nat)) ∧ true = true ∧ True ∧ (lowR s.val.b (hd s.val.a) = true → (((↑(List.length s.val.b) : Int) == (0 : Int)) = true → (Option.isSome (Jo.run s.val) = true → False) ∧ (Option.isSome (Jo.run s.val) = false → (True ∧ True ∧ True ∧ (145 : Int) = (145 : Int) ∧ True) ∧ True ∧ true = true)) ∧ (((↑(List.length s.val.b) : Int) == (0 : Int)) = false → ((false = false ∧ (2 : Nat) ≤ (2 : Nat) ∧ cellLe (2 : Nat) (fun (j : Nat) => Ax.get [AV.ys b2 (5 : Nat) (List.length s.val.b) (cellsOf' encR s.val.b), AV.ys false (1 : Nat) (List.length s.val.tb) (Ax.rowAt (0 : Nat) (cellsOf' encU s.val.tb))] ((0 : Nat) + j)) (Ax.get [AV.ys b2 (5 : Nat) (List.length s.val.b) (cellsOf' encR s.val.b), AV.junk])) ∧ (false = false ∧ (2 : Nat) ≤ (2 : Nat) ∧ cellLe (2 : Nat) (fun (j : Nat) => Ax.get [AV.ys b1 (5 : Nat) (List.length s.val.a) (cellsOf' encR s.val.a), AV.ys false (1 : Nat) (List.length s.val.ta) (Ax.rowAt (0 : Nat) (cellsOf' encU s.val.ta))] ((0 : Nat) + j)) (Ax.get [AV.ys b1 (5 : Nat) (List.length s.val.a) (cellsOf' encR s.val.a), AV.junk])) ∧ True) ∧ True ∧ ((0 : Nat) < List.length s.val.b ∧ List.length s.val.a ≤ (9223372036854775806 : Nat)) ∧ true = true ∧ True ∧ (lowR s.val.a (hd s.val.b) = true → (Option.isSome (Jo.run s.val) = true → False) ∧ (Option.isSome (Jo.run s.val) = false → (True ∧ True ∧ True ∧ (145 : Int) = (145 : Int) ∧ True) ∧ True ∧ true = true)) ∧ (lowR s.val.a (hd s.val.b) = false → (decide (List.length s.val.tb = List.length s.val.tb) && decide (List.length s.val.tb + (1 : Nat) ≤ (9223372036854775807 : Nat)) && decide ((List.length s.val.tb + (1 : Nat)) * (8 : Nat) ≤ (140737488355328 : Nat))) = true ∧ (true && decide ((0 : Int) < (↑(List.length s.val.b) : Int))) = true ∧ (((List.getD s.val.b (0 : Nat) (@default Rec instInhabitedRec)).off = (if c = true then hd s.val.a else hd s.val.b).off ∧ (List.getD s.val.b (0 : Nat) (@default Rec instInhabitedRec)).key = (if c = true then hd s.val.a else hd s.val.b).key ∧ (true = true ∧ List.length (List.getD s.val.b (0 : Nat) (@default Rec instInhabitedRec)).val = List.length (if c = true then hd s.val.a else hd s.val.b).val ∧ contLe (List.length (List.getD s.val.b (0 : Nat) (@default Rec instInhabitedRec)).val) (1 : Nat) (cellsOf' encB (List.getD s.val.b (0 : Nat) (@default Rec instInhabitedRec)).val) (cellsOf' encB (if c = true then hd s.val.a else hd s.val.b).val)) ∧ (List.getD s.val.b (0 : Nat) (@default Rec instInhabitedRec)).prod = (if c = true then hd s.val.a else hd s.val.b).prod ∧ (List.getD s.val.b (0 : Nat) (@default Rec instInhabitedRec)).seq = (if c = true then hd s.val.a else hd s.val.b).seq ∧ True) ∧ (↑(List.length s.val.out) : Int) = (↑(List.length s.val.out) : Int) ∧ True) ∧ True ∧ List.length (if c = true then hd s.val.a else hd s.val.b).val ≤ (140737488355328 : Nat) ∧ (decide (List.length s.val.out = List.length s.val.out) && decide (List.length s.val.out + (1 : Nat) ≤ (9223372036854775807 : Nat)) && decide ((List.length s.val.out + (1 : Nat)) * (64 : Nat) ≤ (140737488355328 : Nat))) = true ∧ (true && decide ((1 : Int) ≤ (↑(List.length s.val.b) : Int)) && decide ((↑(List.length s.val.b) : Int) ≤ (↑(List.length s.val.b) : Int))) = true ∧ ∃ (j : { s : Jo // Jo.Ok s }), List.length j.val.a + List.length j.val.b < List.length s.val.a + List.length s.val.b ∧ ((((0 : Nat) = (0 : Nat) ∧ (0 : Nat) = (0 : Nat)) ∧ ((0 : Nat) = (0 : Nat) ∧ (0 : Nat) = (0 : Nat)) ∧ ((0 : Nat) = (0 : Nat) ∧ List.length s.val.out + (1 : Nat) = List.length j.val.out) ∧ True) ∧ ((List.length s.val.ta = List.length j.val.ta ∧ contLe (List.length s.val.ta) (1 : Nat) (cellsOf' encU s.val.ta) (cellsOf' encU j.val.ta)) ∧ ((b1 = b1 ∧ List.length s.val.a = List.length j.val.a ∧ contLe (List.length s.val.a) (5 : Nat) (cellsOf' encR s.val.a) (cellsOf' encR j.val.a)) ∧ ((0 : Nat) = (0 : Nat) ∧ List.length s.val.ta = List.length j.val.ta) ∧ True) ∧ (List.length s.val.tb + (1 : Nat) = List.length j.val.tb ∧ contLe (List.length s.val.tb + (1 : Nat)) (1 : Nat) (appRow (List.length s.val.tb) (cellsOf' encU s.val.tb) fun (k j : Nat) => Ax.get [AV.y (Value.int IntKind.u64 (IntKind.wrap IntKind.u64 (↑(List.length s.val.out) : Int)))] (k * (1 : Nat) + j)) (cellsOf' encU j.val.tb)) ∧ ((b2 = b2 ∧ Int.toNat (↑(List.length s.val.b) : Int) - (1 : Nat) = List.length j.val.b ∧ contLe (Int.toNat (↑(List.length s.val.b) : Int) - (1 : Nat)) (5 : Nat) (fun (k : Nat) => cellsOf' encR s.val.b ((1 : Nat) + k)) (cellsOf' encR j.val.b)) ∧ ((0 : Nat) = (0 : Nat) ∧ List.length s.val.tb + (1 : Nat) = List.length j.val.tb) ∧ True) ∧ (List.length s.val.out + (1 : Nat) = List.length j.val.out ∧ contLe (List.length s.val.out + (1 : Nat)) (5 : Nat) (appRow (List.length s.val.out) (cellsOf' encR s.val.out) fun (k j : Nat) => Ax.get [AV.y (Value.int IntKind.u64 (IntKind.wrap IntKind.u64 (↑(List.length s.val.out) : Int))), AV.y (Value.string (if c = true then hd s.val.a else hd s.val.b).key), AV.ys true (1 : Nat) (List.length (if c = true then hd s.val.a else hd s.val.b).val) (cellsOf' encB (if c = true then hd s.val.a else hd s.val.b).val), AV.y (Value.int IntKind.u64 (if c = true then hd s.val.a else hd s.val.b).prod), AV.y (Value.int IntKind.u64 (if c = true then hd s.val.a else hd s.val.b).seq)] (k * (5 : Nat) + j)) (cellsOf' encR j.val.out)) ∧ True) ∧ true = true) ∧ true = true ∧ (Option.isSome (Jo.run j.val) = true → (Option.isSome (Jo.run s.val) = true → JR.ok (Option.getD (Jo.run j.val) j.val) = JR.ok (Option.getD (Jo.run s.val) s.val)) ∧ (Option.isSome (Jo.run s.val) = false → JR.ok (Option.getD (Jo.run j.val) j.val) = JR.bad)) ∧ (Option.isSome (Jo.run j.val) = false → (Option.isSome (Jo.run s.val) = true → JR.bad = JR.ok (Option.getD (Jo.run s.val) s.val)) ∧ (Option.isSome (Jo.run s.val) = false → JR.bad = JR.bad))))) ∧ (lowR s.val.b (hd s.val.a) = false → (decide (List.length s.val.ta = List.length s.val.ta) && decide (List.length s.val.ta + (1 : Nat) ≤ (9223372036854775807 : Nat)) && decide ((List.length s.val.ta + (1 : Nat)) * (8 : Nat) ≤ (140737488355328 : Nat))) = true ∧ (true && decide ((0 : Int) < (↑(List.length s.val.a) : Int))) = true ∧ (((List.getD s.val.a (0 : Nat) (@default Rec instInhabitedRec)).off = (if c = true then hd s.val.a else hd s.val.b).off ∧ (List.getD s.val.a (0 : Nat) (@default Rec instInhabitedRec)).key = (if c = true then hd s.val.a else hd s.val.b).key ∧ (true = true ∧ List.length (List.getD s.val.a (0 : Nat) (@default Rec instInhabitedRec)).val = List.length (if c = true then hd s.val.a else hd s.val.b).val ∧ contLe (List.length (List.getD s.val.a (0 : Nat) (@default Rec instInhabitedRec)).val) (1 : Nat) (cellsOf' encB (List.getD s.val.a (0 : Nat) (@default Rec instInhabitedRec)).val) (cellsOf' encB (if c = true then hd s.val.a else hd s.val.b).val)) ∧ (List.getD s.val.a (0 : Nat) (@default Rec instInhabitedRec)).prod = (if c = true then hd s.val.a else hd s.val.b).prod ∧ (List.getD s.val.a (0 : Nat) (@default Rec instInhabitedRec)).seq = (if c = true then hd s.val.a else hd s.val.b).seq ∧ True) ∧ (↑(List.length s.val.out) : Int) = (↑(List.length s.val.out) : Int) ∧ True) ∧ True ∧ List.length (if c = true then hd s.val.a else hd s.val.b).val ≤ (140737488355328 : Nat) ∧ (decide (List.length s.val.out = List.length s.val.out) && decide (List.length s.val.out + (1 : Nat) ≤ (9223372036854775807 : Nat)) && decide ((List.length s.val.out + (1 : Nat)) * (64 : Nat) ≤ (140737488355328 : Nat))) = true ∧ (true && decide ((1 : Int) ≤ (↑(List.length s.val.a) : Int)) && decide ((↑(List.length s.val.a) : Int) ≤ (↑(List.length s.val.a) : Int))) = true ∧ ∃ (j : { s : Jo // Jo.Ok s }), List.length j.val.a + List.length j.val.b < List.length s.val.a + List.length s.val.b ∧ ((((0 : Nat) = (0 : Nat) ∧ (0 : Nat) = (0 : Nat)) ∧ ((0 : Nat) = (0 : Nat) ∧ (0 : Nat) = (0 : Nat)) ∧ ((0 : Nat) = (0 : Nat) ∧ List.length s.val.out + (1 : Nat) = List.length j.val.out) ∧ True) ∧ ((List.length s.val.ta + (1 : Nat) = List.length j.val.ta ∧ contLe (List.length s.val.ta + (1 : Nat)) (1 : Nat) (appRow (List.length s.val.ta) (cellsOf' encU s.val.ta) fun (k j : Nat) => Ax.get [AV.y (Value.int IntKind.u64 (IntKind.wrap IntKind.u64 (↑(List.length s.val.out) : Int)))] (k * (1 : Nat) + j)) (cellsOf' encU j.val.ta)) ∧ ((b1 = b1 ∧ Int.toNat (↑(List.length s.val.a) : Int) - (1 : Nat) = List.length j.val.a ∧ contLe (Int.toNat (↑(List.length s.val.a) : Int) - (1 : Nat)) (5 : Nat) (fun (k : Nat) => cellsOf' encR s.val.a ((1 : Nat) + k)) (cellsOf' encR j.val.a)) ∧ ((0 : Nat) = (0 : Nat) ∧ List.length s.val.ta + (1 : Nat) = List.length j.val.ta) ∧ True) ∧ (List.length s.val.tb = List.length j.val.tb ∧ contLe (List.length s.val.tb) (1 : Nat) (cellsOf' encU s.val.tb) (cellsOf' encU j.val.tb)) ∧ ((b2 = b2 ∧ List.length s.val.b = List.length j.val.b ∧ contLe (List.length s.val.b) (5 : Nat) (cellsOf' encR s.val.b) (cellsOf' encR j.val.b)) ∧ ((0 : Nat) = (0 : Nat) ∧ List.length s.val.tb = List.length j.val.tb) ∧ True) ∧ (List.length s.val.out + (1 : Nat) = List.length j.val.out ∧ contLe (List.length s.val.out + (1 : Nat)) (5 : Nat) (appRow (List.length s.val.out) (cellsOf' encR s.val.out) fun (k j : Nat) => Ax.get [AV.y (Value.int IntKind.u64 (IntKind.wrap IntKind.u64 (↑(List.length s.val.out) : Int))), AV.y (Value.string (if c = true then hd s.val.a else hd s.val.b).key), AV.ys true (1 : Nat) (List.length (if c = true then hd s.val.a else hd s.val.b).val) (cellsOf' encB (if c = true then hd s.val.a else hd s.val.b).val), AV.y (Value.int IntKind.u64 (if c = true then hd s.val.a else hd s.val.b).prod), AV.y (Value.int IntKind.u64 (if c = true then hd s.val.a else hd s.val.b).seq)] (k * (5 : Nat) + j)) (cellsOf' encR j.val.out)) ∧ True) ∧ true = true) ∧ true = true ∧ (Option.isSome (Jo.run j.val) = true → (Option.isSome (Jo.run s.val) = true → JR.ok (Option.getD (Jo.run j.val) j.val) = JR.ok (Option.getD (Jo.run s.val) s.val)) ∧ (Option.isSome (Jo.run s.val) = false → JR.ok (Option.getD (Jo.run j.val) j.val) = JR.bad)) ∧ (Option.isSome (Jo.run j.val) = false → (Option.isSome (Jo.run s.val) = true → JR.bad = JR.ok (Option.getD (Jo.run s.val) s.val)) ∧ (Option.isSome (Jo.run s.val) = false → JR.bad = JR.bad))))) ∧ (decide ((0 : Int) < IntKind.wrap IntKind.i64 ((↑(List.length s.val.a) : Int) + (↑(List.length s.val.b) : Int))) = false → (Option.isSome (Jo.run s.val) = true → (((0 : Nat) = (0 : Nat) ∧ (0 : Nat) = (0 : Nat)) ∧ ((0 : Nat) = (0 : Nat) ∧ (0 : Nat) = (0 : Nat)) ∧ ((0 : Nat) = (0 : Nat) ∧ List.length s.val.out = List.length (Option.getD (Jo.run s.val) s.val).out) ∧ True) ∧ ((List.length s.val.ta = List.length (Option.getD (Jo.run s.val) s.val).ta ∧ contLe (List.length s.val.ta) (1 : Nat) (cellsOf' encU s.val.ta) (cellsOf' encU (Option.getD (Jo.run s.val) s.val).ta)) ∧ ((b1 = b1 ∧ List.length s.val.a = List.length (Option.getD (Jo.run s.val) s.val).a ∧ contLe (List.length s.val.a) (5 : Nat) (cellsOf' encR s.val.a) (cellsOf' encR (Option.getD (Jo.run s.val) s.val).a)) ∧ ((0 : Nat) = (0 : Nat) ∧ List.length s.val.ta = List.length (Option.getD (Jo.run s.val) s.val).ta) ∧ True) ∧ (List.length s.val.tb = List.length (Option.getD (Jo.run s.val) s.val).tb ∧ contLe (List.length s.val.tb) (1 : Nat) (cellsOf' encU s.val.tb) (cellsOf' encU (Option.getD (Jo.run s.val) s.val).tb)) ∧ ((b2 = b2 ∧ List.length s.val.b = List.length (Option.getD (Jo.run s.val) s.val).b ∧ contLe (List.length s.val.b) (5 : Nat) (cellsOf' encR s.val.b) (cellsOf' encR (Option.getD (Jo.run s.val) s.val).b)) ∧ ((0 : Nat) = (0 : Nat) ∧ List.length s.val.tb = List.length (Option.getD (Jo.run s.val) s.val).tb) ∧ True) ∧ (List.length s.val.out = List.length (Option.getD (Jo.run s.val) s.val).out ∧ contLe (List.length s.val.out) (5 : Nat) (cellsOf' encR s.val.out) (cellsOf' encR (Option.getD (Jo.run s.val) s.val).out)) ∧ True) ∧ true = true) ∧ (Option.isSome (Jo.run s.val) = false → False))
set_option maxRecDepth 1000000 in
theorem vcJ_eq (b1 : Bool) (b2 : Bool) (s : { s : Jo // s.Ok }) (c : Bool) : (loopVC Tryz.prog (jH b1 b2 s.1 (if c then hd s.1.a else hd s.1.b)) 57 7 (fun (s : { s : Jo // s.Ok }) => s.1.a.length + s.1.b.length) (fun s => jT s.1) (fun s => jM b1 b2 s.1) jX (fun s => jO s.1) (jS b1 b2) s) = vcJ b1 b2 s c := by kernel_rfl
/-! the document's loop -/
def joR (s : Jo) : T An := .ret (.tup [.own 0 5 0 s.out.length, .own 1 1 0 s.ta.length, .own 2 1 0 s.tb.length, .s (.int .i64 0)], [rowR s.out, rowU s.ta, rowU s.tb], [])
def Jo.end (s : Jo) : Jo := ⟨s.a, s.b, s.out, s.ta ++ [s.at], s.tb ++ [s.at]⟩
def jo0 (a b : List Rec) : Jo := ⟨a, b, [], [], []⟩
def joE (k : Int) : T An := .ret (.tup [.s (.slice none 0 0), .s (.slice none 0 0), .s (.slice none 0 0), .s (.int .i64 k)], [], [])
def joinT (a b : List Rec) : T An := .ite (isLog a && isLog b) (.ite (decide (a.length + b.length ≤ 4096)) (.ite (jo0 a b).run.isSome (joR ((jo0 a b).run.getD (jo0 a b)).end) (joE 145)) (joE 143)) (joE 1)
noncomputable def joH (b1 b2 : Bool) (a b : List Rec) : HintsT Tryz.prog := withSh (hh _ (lp1 57 7 (jobOf jT (jM b1 b2) jX jO (jS b1 b2) (jo0 a b)) noLp) (cs1 57 1 1 (lgC b1 a) (cs1 57 1 5 (lgC b2 b) noCs)) (op1 57 6 0 (.row 37 5) noOp))
  (sh1 57 5 1 1002 (sh1 57 5 4 1002 noSh))
def vcJoin (b1 : Bool) (b2 : Bool) (a : List Rec) (b : List Rec) : Prop :=
  ((b1 = b1 ∧ List.length a = List.length a ∧ contLe (List.length a) (5 : Nat) (cellsOf' encR a) (cellsOf' encR a)) ∧ True) ∧ True ∧ List.length a ≤ (9223372036854775806 : Nat) ∧ ((!isLog a) = true → ((isLog a && isLog b) = true → (decide (List.length a + List.length b ≤ (4096 : Nat)) = true → (Option.isSome (Jo.run (jo0 a b)) = true → (False ∧ False ∧ False ∧ (1 : Int) = (0 : Int) ∧ True) ∧ False) ∧ (Option.isSome (Jo.run (jo0 a b)) = false → (True ∧ True ∧ True ∧ (1 : Int) = (145 : Int) ∧ True) ∧ True)) ∧ (decide (List.length a + List.length b ≤ (4096 : Nat)) = false → (True ∧ True ∧ True ∧ (1 : Int) = (143 : Int) ∧ True) ∧ True)) ∧ ((isLog a && isLog b) = false → (True ∧ True ∧ True ∧ (1 : Int) = (1 : Int) ∧ True) ∧ True)) ∧ ((!isLog a) = false → ((b2 = b2 ∧ List.length b = List.length b ∧ contLe (List.length b) (5 : Nat) (cellsOf' encR b) (cellsOf' encR b)) ∧ True) ∧ True ∧ List.length b ≤ (9223372036854775806 : Nat) ∧ ((!isLog b) = true → ((isLog a && isLog b) = true → (decide (List.length a + List.length b ≤ (4096 : Nat)) = true → (Option.isSome (Jo.run (jo0 a b)) = true → (False ∧ False ∧ False ∧ (1 : Int) = (0 : Int) ∧ True) ∧ False) ∧ (Option.isSome (Jo.run (jo0 a b)) = false → (True ∧ True ∧ True ∧ (1 : Int) = (145 : Int) ∧ True) ∧ True)) ∧ (decide (List.length a + List.length b ≤ (4096 : Nat)) = false → (True ∧ True ∧ True ∧ (1 : Int) = (143 : Int) ∧ True) ∧ True)) ∧ ((isLog a && isLog b) = false → (True ∧ True ∧ True ∧ (1 : Int) = (1 : Int) ∧ True) ∧ True)) ∧ ((!isLog b) = false → (decide ((4096 : Int) < IntKind.wrap IntKind.i64 ((↑(List.length a) : Int) + (↑(List.length b) : Int))) = true → ((isLog a && isLog b) = true → (decide (List.length a + List.length b ≤ (4096 : Nat)) = true → (Option.isSome (Jo.run (jo0 a b)) = true → (False ∧ False ∧ False ∧ (143 : Int) = (0 : Int) ∧ True) ∧ False) ∧ (Option.isSome (Jo.run (jo0 a b)) = false → (True ∧ True ∧ True ∧ (143 : Int) = (145 : Int) ∧ True) ∧ True)) ∧ (decide (List.length a + List.length b ≤ (4096 : Nat)) = false → (True ∧ True ∧ True ∧ (143 : Int) = (143 : Int) ∧ True) ∧ True)) ∧ ((isLog a && isLog b) = false → (True ∧ True ∧ True ∧ (143 : Int) = (1 : Int) ∧ True) ∧ True)) ∧ (decide ((4096 : Int) < IntKind.wrap IntKind.i64 ((↑(List.length a) : Int) + (↑(List.length b) : Int))) = false → ((((0 : Nat) = (0 : Nat) ∧ (0 : Nat) = (0 : Nat)) ∧ ((0 : Nat) = (0 : Nat) ∧ (0 : Nat) = (0 : Nat)) ∧ ((0 : Nat) = (0 : Nat) ∧ (0 : Nat) = (0 : Nat)) ∧ True) ∧ (((0 : Nat) = (0 : Nat) ∧ contLe (0 : Nat) (1 : Nat) (fun (x x_1 : Nat) => AV.junk) (cellsOf' encU [])) ∧ ((b1 = b1 ∧ List.length a = List.length a ∧ contLe (List.length a) (5 : Nat) (cellsOf' encR a) (cellsOf' encR a)) ∧ ((0 : Nat) = (0 : Nat) ∧ (0 : Nat) = (0 : Nat)) ∧ True) ∧ ((0 : Nat) = (0 : Nat) ∧ contLe (0 : Nat) (1 : Nat) (fun (x x_1 : Nat) => AV.junk) (cellsOf' encU [])) ∧ ((b2 = b2 ∧ List.length b = List.length b ∧ contLe (List.length b) (5 : Nat) (cellsOf' encR b) (cellsOf' encR b)) ∧ ((0 : Nat) = (0 : Nat) ∧ (0 : Nat) = (0 : Nat)) ∧ True) ∧ ((0 : Nat) = (0 : Nat) ∧ contLe (0 : Nat) (5 : Nat) (fun (x x_1 : Nat) => AV.junk) (cellsOf' encR [])) ∧ True) ∧ true = true) ∧ LoopOk Tryz.prog (57 : Nat) (7 : Nat) (loopAt Tryz.prog (57 : Nat) (7 : Nat)) { t := jT (jo0 a b), m := jM b1 b2 (jo0 a b), mv := [] : St } (T.map (lout jX (jS b1 b2)) (jO (jo0 a b))) ∧ (Option.isSome (Jo.run (jo0 a b)) = true → (decide (List.length (Option.getD (Jo.run (jo0 a b)) (jo0 a b)).ta = List.length (Option.getD (Jo.run (jo0 a b)) (jo0 a b)).ta) && decide (List.length (Option.getD (Jo.run (jo0 a b)) (jo0 a b)).ta + (1 : Nat) ≤ (9223372036854775807 : Nat)) && decide ((List.length (Option.getD (Jo.run (jo0 a b)) (jo0 a b)).ta + (1 : Nat)) * (8 : Nat) ≤ (140737488355328 : Nat))) = true ∧ (decide (List.length (Option.getD (Jo.run (jo0 a b)) (jo0 a b)).tb = List.length (Option.getD (Jo.run (jo0 a b)) (jo0 a b)).tb) && decide (List.length (Option.getD (Jo.run (jo0 a b)) (jo0 a b)).tb + (1 : Nat) ≤ (9223372036854775807 : Nat)) && decide ((List.length (Option.getD (Jo.run (jo0 a b)) (jo0 a b)).tb + (1 : Nat)) * (8 : Nat) ≤ (140737488355328 : Nat))) = true ∧ ((isLog a && isLog b) = true → (decide (List.length a + List.length b ≤ (4096 : Nat)) = true → (Option.isSome (Jo.run (jo0 a b)) = true → (((0 : Nat) = (0 : Nat) ∧ List.length (Option.getD (Jo.run (jo0 a b)) (jo0 a b)).out = List.length (Option.getD (Jo.run (jo0 a b)) (jo0 a b)).out) ∧ ((0 : Nat) = (0 : Nat) ∧ List.length (Option.getD (Jo.run (jo0 a b)) (jo0 a b)).ta + (1 : Nat) = List.length ((Option.getD (Jo.run (jo0 a b)) (jo0 a b)).ta ++ [Jo.at (Option.getD (Jo.run (jo0 a b)) (jo0 a b))])) ∧ ((0 : Nat) = (0 : Nat) ∧ List.length (Option.getD (Jo.run (jo0 a b)) (jo0 a b)).tb + (1 : Nat) = List.length ((Option.getD (Jo.run (jo0 a b)) (jo0 a b)).tb ++ [Jo.at (Option.getD (Jo.run (jo0 a b)) (jo0 a b))])) ∧ (0 : Int) = (0 : Int) ∧ True) ∧ (List.length (Option.getD (Jo.run (jo0 a b)) (jo0 a b)).out = List.length (Option.getD (Jo.run (jo0 a b)) (jo0 a b)).out ∧ contLe (List.length (Option.getD (Jo.run (jo0 a b)) (jo0 a b)).out) (5 : Nat) (cellsOf' encR (Option.getD (Jo.run (jo0 a b)) (jo0 a b)).out) (cellsOf' encR (Option.getD (Jo.run (jo0 a b)) (jo0 a b)).out)) ∧ (List.length (Option.getD (Jo.run (jo0 a b)) (jo0 a b)).ta + (1 : Nat) = List.length ((Option.getD (Jo.run (jo0 a b)) (jo0 a b)).ta ++ [Jo.at (Option.getD (Jo.run (jo0 a b)) (jo0 a b))]) ∧ contLe (List.length (Option.getD (Jo.run (jo0 a b)) (jo0 a b)).ta + (1 : Nat)) (1 : Nat) (appRow (List.length (Option.getD (Jo.run (jo0 a b)) (jo0 a b)).ta) (cellsOf' encU (Option.getD (Jo.run (jo0 a b)) (jo0 a b)).ta) fun (k j : Nat) => Ax.get [AV.y (Value.int IntKind.u64 (IntKind.wrap IntKind.u64 (↑(List.length (Option.getD (Jo.run (jo0 a b)) (jo0 a b)).out) : Int)))] (k * (1 : Nat) + j)) (cellsOf' encU ((Option.getD (Jo.run (jo0 a b)) (jo0 a b)).ta ++ [Jo.at (Option.getD (Jo.run (jo0 a b)) (jo0 a b))]))) ∧ (List.length (Option.getD (Jo.run (jo0 a b)) (jo0 a b)).tb + (1 : Nat) = List.length ((Option.getD (Jo.run (jo0 a b)) (jo0 a b)).tb ++ [Jo.at (Option.getD (Jo.run (jo0 a b)) (jo0 a b))]) ∧ contLe (List.length (Option.getD (Jo.run (jo0 a b)) (jo0 a b)).tb + (1 : Nat)) (1 : Nat) (appRow (List.length (Option.getD (Jo.run (jo0 a b)) (jo0 a b)).tb) (cellsOf' encU (Option.getD (Jo.run (jo0 a b)) (jo0 a b)).tb) fun (k j : Nat) => Ax.get [AV.y (Value.int IntKind.u64 (IntKind.wrap IntKind.u64 (↑(List.length (Option.getD (Jo.run (jo0 a b)) (jo0 a b)).out) : Int)))] (k * (1 : Nat) + j)) (cellsOf' encU ((Option.getD (Jo.run (jo0 a b)) (jo0 a b)).tb ++ [Jo.at (Option.getD (Jo.run (jo0 a b)) (jo0 a b))]))) ∧ True) ∧ (Option.isSome (Jo.run (jo0 a b)) = false → False)) ∧ (decide (List.length a + List.length b ≤ (4096 : Nat)) = false → False)) ∧ ((isLog a && isLog b) = false → False)) ∧ (Option.isSome (Jo.run (jo0 a b)) = false → ((isLog a && isLog b) = true → (decide (List.length a + List.length b ≤ (4096 : Nat)) = true → (Option.isSome (Jo.run (jo0 a b)) = true → (False ∧ False ∧ False ∧ (145 : Int) = (0 : Int) ∧ True) ∧ False) ∧ (Option.isSome (Jo.run (jo0 a b)) = false → (True ∧ True ∧ True ∧ (145 : Int) = (145 : Int) ∧ True) ∧ True)) ∧ (decide (List.length a + List.length b ≤ (4096 : Nat)) = false → (True ∧ True ∧ True ∧ (145 : Int) = (143 : Int) ∧ True) ∧ True)) ∧ ((isLog a && isLog b) = false → (True ∧ True ∧ True ∧ (145 : Int) = (1 : Int) ∧ True) ∧ True)))))
set_option maxRecDepth 1000000 in
theorem vcJoin_eq (b1 : Bool) (b2 : Bool) (a : List Rec) (b : List Rec) : (ctrVC Tryz.prog (joH b1 b2 a b) 57 [encRs b1 a, encRs b2 b] [] (joinT a b)) = vcJoin b1 b2 a b := by kernel_rfl
end Go.Proofs.YtckklclehofddaaGreatDoor

/-! Records: the contracts of Join. -/
namespace Go.Proofs.YtckklclehofddaaGreatDoor
open Go.Ax
set_option maxRecDepth 1000000
theorem hdE (l : List Rec) : l.getD 0 default = hd l := rfl
theorem tail_le (b : List Rec) (n : Nat) : contLe n 5 (fun k => cellsOf' encR b (1 + k)) (cellsOf' encR b.tail) := by
  intro k hk j hj
  have : b.tail.getD k default = b.getD (1 + k) default := by
    cases b with
    | nil => simp
    | cons x r => simp [Nat.add_comm 1 k]
  unfold cellsOf'
  rw [this]
  exact le0_refl _
theorem run_A {s : Jo} (h : s.tA = true) : s.run = s.goA.run := by
  have ha : s.a ≠ [] := by unfold Jo.tA at h; intro e; rw [e] at h; simp at h
  obtain ⟨x, r, hx⟩ := List.exists_cons_of_ne_nil ha
  have h1 : s.goA.a.length + s.goA.b.length + 1 = s.a.length + s.b.length := by
    simp [Jo.goA, hx]; omega
  unfold Jo.run
  rw [← h1, joinN, if_pos h]
theorem run_B {s : Jo} (h0 : s.tA = false) (h : s.tB = true) : s.run = s.goB.run := by
  have ha : s.b ≠ [] := by unfold Jo.tB at h; intro e; rw [e] at h; simp at h
  obtain ⟨x, r, hx⟩ := List.exists_cons_of_ne_nil ha
  have h1 : s.goB.a.length + s.goB.b.length + 1 = s.a.length + s.b.length := by
    simp [Jo.goB, hx]; omega
  unfold Jo.run
  rw [← h1, joinN, if_neg (by simp [h0]), if_pos h]
theorem run_no {s : Jo} (h0 : s.tA = false) (h : s.tB = false) (hn : 0 < s.a.length + s.b.length) : s.run = none := by
  obtain ⟨n, hn⟩ : ∃ n, s.a.length + s.b.length = n + 1 := ⟨s.a.length + s.b.length - 1, by omega⟩
  unfold Jo.run
  rw [hn, joinN, if_neg (by simp [h0]), if_neg (by simp [h])]
theorem run_end {s : Jo} (hn : s.a.length + s.b.length = 0) : s.run = some s := by
  unfold Jo.run
  rw [hn, joinN]
theorem ok_A {s : Jo} (h : s.Ok) (ht : s.tA = true) : s.goA.Ok := by
  have ha : s.a ≠ [] := by unfold Jo.tA at ht; intro e; rw [e] at ht; simp at ht
  obtain ⟨x, r, hx⟩ := List.exists_cons_of_ne_nil ha
  have h1 := h.n
  have h2 := h.ta
  have h3 := h.tb
  refine ⟨fun y hy => h.a y (List.mem_of_mem_tail hy), h.b, ?_, ?_, ?_⟩ <;> simp [Jo.goA, hx] at * <;> omega
theorem ok_B {s : Jo} (h : s.Ok) (ht : s.tB = true) : s.goB.Ok := by
  have ha : s.b ≠ [] := by unfold Jo.tB at ht; intro e; rw [e] at ht; simp at ht
  obtain ⟨x, r, hx⟩ := List.exists_cons_of_ne_nil ha
  have h1 := h.n
  have h2 := h.ta
  have h3 := h.tb
  refine ⟨h.a, fun y hy => h.b y (List.mem_of_mem_tail hy), ?_, ?_, ?_⟩ <;> simp [Jo.goB, hx] at * <;> omega
theorem app1_le1 {α : Type} [Inhabited α] {enc : α → List AV} {l : List α} {cs : List AV} {x : α} (h : le0 (get cs 0) (get (enc x) 0)) :
    contLe (l.length + 1) 1 (appRow l.length (cellsOf' enc l) (fun k j => get cs (k + j))) (cellsOf' enc (l ++ [x])) := by
  have := app1_le (enc := enc) (l := l) (n := l.length) (sz := 1) (cs := cs) (x := x) rfl fun j hj => by
    obtain rfl : j = 0 := by omega
    exact h
  simpa using this
theorem rec_le {cs : List AV} {x : Rec} (h0 : le0 (get cs 0) (.y (.int .u64 x.off))) (h1 : le0 (get cs 1) (.y (.string x.key))) (h2 : le0 (get cs 2) (encBs true x.val)) (h3 : le0 (get cs 3) (.y (.int .u64 x.prod))) (h4 : le0 (get cs 4) (.y (.int .u64 x.seq))) : ∀ j, j < 5 → le0 (get cs j) (get (encR x) j) := by
  intro j hj
  match j, hj with
  | 0, _ => exact h0
  | 1, _ => exact h1
  | 2, _ => exact h2
  | 3, _ => exact h3
  | 4, _ => exact h4
theorem hd_mem {l : List Rec} (h : 0 < l.length) : hd l ∈ l := by
  cases l with
  | nil => simp at h
  | cons x r => exact List.mem_cons_self
theorem getD_any (o : Option Jo) (x y : Jo) (h : o.isSome = true) : o.getD x = o.getD y := by
  cases o with
  | none => cases h
  | some z => rfl
theorem side_le (x y : AV) : cellLe 2 (fun j => Ax.get [x, y] (0 + j)) (Ax.get [x, .junk]) := by
  intro j hj
  match j, hj with
  | 0, _ => exact le0_refl _
  | 1, _ => exact le0_junk _
theorem j_loop (b1 b2 : Bool) (s : { s : Jo // s.Ok }) : LoopOk Tryz.prog 57 7 (loopAt Tryz.prog 57 7) ⟨jT s.1, jM b1 b2 s.1, []⟩ ((jO s.1).map (lout jX (jS b1 b2))) := by
  refine loop_vcH (o := fun (s : { s : Jo // s.Ok }) => jO s.1) Tryz.mixed (fun _ => rfl) (fun s => (vcJ_eq b1 b2 s s.1.tA).mpr ?_) s
  unfold vcJ
  obtain ⟨s, hs⟩ := s
  have hn := hs.n
  have hta := hs.ta
  have htb := hs.tb
  have hw : IntKind.i64.wrap ((s.a.length : Int) + s.b.length) = (s.a.length : Int) + s.b.length := wrap_i64 (by omega) (by omega)
  simp only [hdE, hw]
  have hsd : ∀ x y : AV, cellLe 2 (fun j => Ax.get [x, y] (0 + j)) (Ax.get [x, .junk]) := side_le
  simp only [hsd]
  rcases Nat.eq_zero_or_pos (s.a.length + s.b.length) with h0 | h0
  · have ha : s.a = [] := List.length_eq_zero_iff.1 (by omega)
    have hb : s.b = [] := List.length_eq_zero_iff.1 (by omega)
    simp [run_end h0, ha, hb]
  cases hA : s.tA
  · cases hB : s.tB
    · have hr := run_no hA hB h0
      have h1 : s.a = [] ∨ lowR s.b (hd s.a) = true := by unfold Jo.tA at hA; cases ha : s.a <;> simp [ha] at hA ⊢; exact hA
      have h2 : s.b = [] ∨ lowR s.a (hd s.b) = true := by unfold Jo.tB at hB; cases hb : s.b <;> simp [hb] at hB ⊢; exact hB
      have hz2 : (0 : Int) < (s.a.length : Int) + s.b.length := by omega
      rcases Nat.eq_zero_or_pos s.a.length with ha | ha
      · have ha' : s.a = [] := List.length_eq_zero_iff.1 ha
        have hb : 0 < s.b.length := by omega
        have hbn : s.b ≠ [] := List.ne_nil_of_length_pos hb
        rw [ha'] at h2
        simp [lowR, hbn] at h2
      · have han : s.a ≠ [] := List.ne_nil_of_length_pos ha
        have hl := h1.resolve_left han
        rcases Nat.eq_zero_or_pos s.b.length with hb | hb
        · have hb' : s.b = [] := List.length_eq_zero_iff.1 hb
          rw [hb'] at hl
          simp [lowR] at hl
        · have hbn : s.b ≠ [] := List.ne_nil_of_length_pos hb
          have hl2 := h2.resolve_left hbn
          simp [hz2, han, hbn, ha, hb, hl, hl2, hr]
          omega
    · have hne : s.b ≠ [] := by unfold Jo.tB at hB; intro e; rw [e] at hB; simp at hB
      have hpos : 0 < s.b.length := List.length_pos_iff.2 hne
      have hlow : lowR s.a (hd s.b) = false := by unfold Jo.tB at hB; simp at hB; exact hB.2
      have h256 : (hd s.b).val.length ≤ 256 := hs.b _ (hd_mem hpos)
      have hok := ok_B hs hB
      have hrun := run_B hA hB
      have hz : ¬ ((s.b.length : Int) = 0) := by omega
      have hz1 : (1 : Int) ≤ s.b.length := by omega
      have hz2 : (0 : Int) < (s.a.length : Int) + s.b.length := by omega
      have h1 : s.a = [] ∨ lowR s.b (hd s.a) = true := by unfold Jo.tA at hA; cases ha : s.a <;> simp [ha] at hA ⊢; exact hA
      simp only [Bool.false_eq_true, if_false]
      rcases Nat.eq_zero_or_pos s.a.length with ha | ha
      · have ha' : s.a = [] := List.length_eq_zero_iff.1 ha
        have hla : lowR ([] : List Rec) (hd s.b) = false := rfl
        simp [hz, hz1, hz2, hlow, hla, hpos, hrun, hne, ha']
        refine ⟨⟨by omega, by omega⟩, by omega, ⟨by omega, by omega⟩, s.goB, ?_, ⟨?_, ⟨rfl, contLe_refl _ _ _⟩, ⟨?_, rfl⟩, ⟨?_, ?_⟩, ⟨⟨?_, ?_⟩, ?_⟩, ?_, ?_⟩, ⟨fun h1 => ⟨fun _ => getD_any _ _ _ h1, fun h2 => by rw [h2] at h1; cases h1⟩, hok, fun h => h⟩⟩
        · simp [Jo.goB, ha']; omega
        · simp [Jo.goB]
        · simp [Jo.goB, ha']
        · simp [Jo.goB]
        · exact app1_le1 (le0_refl _)
        · simp [Jo.goB]
        · exact tail_le _ _
        · simp [Jo.goB]
        · simp [Jo.goB]
        · exact app1_le rfl (rec_le (le0_refl _) (le0_refl _) (le0_refl _) (le0_refl _) (le0_refl _))
      · have han : s.a ≠ [] := List.ne_nil_of_length_pos ha
        have hl := h1.resolve_left han
        simp [hz, hz1, hz2, hlow, hpos, hrun, hne, han, ha, hl]
        refine ⟨by omega, by omega, ⟨by omega, by omega⟩, by omega, ⟨by omega, by omega⟩, s.goB, ?_, ⟨?_, ⟨rfl, contLe_refl _ _ _⟩, ⟨⟨rfl, contLe_refl _ _ _⟩, rfl⟩, ⟨?_, ?_⟩, ⟨⟨?_, ?_⟩, ?_⟩, ?_, ?_⟩, ⟨fun h1 => ⟨fun _ => getD_any _ _ _ h1, fun h2 => by rw [h2] at h1; cases h1⟩, hok, fun h => h⟩⟩
        · simp [Jo.goB]; omega
        · simp [Jo.goB]
        · simp [Jo.goB]
        · exact app1_le1 (le0_refl _)
        · simp [Jo.goB]
        · exact tail_le _ _
        · simp [Jo.goB]
        · simp [Jo.goB]
        · exact app1_le rfl (rec_le (le0_refl _) (le0_refl _) (le0_refl _) (le0_refl _) (le0_refl _))
  · have hne : s.a ≠ [] := by unfold Jo.tA at hA; intro e; rw [e] at hA; simp at hA
    have hpos : 0 < s.a.length := List.length_pos_iff.2 hne
    have hlow : lowR s.b (hd s.a) = false := by unfold Jo.tA at hA; simp at hA; exact hA.2
    have h256 : (hd s.a).val.length ≤ 256 := hs.a _ (hd_mem hpos)
    have hok := ok_A hs hA
    have hrun := run_A hA
    have hz : ¬ ((s.a.length : Int) = 0) := by omega
    have hz1 : (1 : Int) ≤ s.a.length := by omega
    have hz2 : (0 : Int) < (s.a.length : Int) + s.b.length := by omega
    simp [hz, hz1, hz2, hlow, hpos, hrun, hne]
    refine ⟨by omega, ⟨by omega, by omega⟩, by omega, ⟨by omega, by omega⟩, s.goA, ?_, ⟨?_, ⟨?_, ?_⟩, ⟨⟨?_, ?_⟩, ?_⟩, ⟨rfl, contLe_refl _ _ _⟩, ⟨⟨rfl, contLe_refl _ _ _⟩, rfl⟩, ?_, ?_⟩, ⟨fun h1 => ⟨fun _ => getD_any _ _ _ h1, fun h2 => by rw [h2] at h1; cases h1⟩, hok, fun h => h⟩⟩
    · simp [Jo.goA]; omega
    · simp [Jo.goA]
    · simp [Jo.goA]
    · exact app1_le1 (le0_refl _)
    · simp [Jo.goA]
    · exact tail_le _ _
    · simp [Jo.goA]
    · simp [Jo.goA]
    · exact app1_le rfl (rec_le (le0_refl _) (le0_refl _) (le0_refl _) (le0_refl _) (le0_refl _))
end Go.Proofs.YtckklclehofddaaGreatDoor

/-! Records: the contracts of Join: the document's loop; both. -/
namespace Go.Proofs.YtckklclehofddaaGreatDoor
open Go.Ax
set_option maxRecDepth 1000000
theorem log_ok {a b : List Rec} (ha : isLog a = true) (hb : isLog b = true) (hn : a.length + b.length ≤ 4096) : (jo0 a b).Ok := by
  have key : ∀ l : List Rec, isLog l = true → ∀ x ∈ l, x.val.length ≤ 256 := by
    intro l hl x hx
    obtain ⟨k, hk, rfl⟩ := List.getElem_of_mem hx
    simp only [isLog, Bool.and_eq_true] at hl
    have h := hl.1
    unfold logFrom at h
    rw [List.all_eq_true] at h
    have h2 := h k (by simp; omega)
    simp [okR, hk] at h2
    exact h2.2.2
  exact ⟨key a ha, key b hb, by simp [jo0]; omega, by simp [jo0], by simp [jo0]⟩
theorem run_ok : ∀ (n : Nat) (s r : Jo), s.Ok → joinN n s = some r → s.a.length + s.b.length ≤ n → r.Ok ∧ r.out.length = s.out.length + (s.a.length + s.b.length) ∧ r.a = [] ∧ r.b = []
  | 0, s, r, hs, h, hn => by
    simp only [joinN] at h
    cases h
    have ha : s.a = [] := List.length_eq_zero_iff.1 (by omega)
    have hb : s.b = [] := List.length_eq_zero_iff.1 (by omega)
    exact ⟨hs, by simp [ha, hb], ha, hb⟩
  | n + 1, s, r, hs, h, hn => by
    simp only [joinN] at h
    split at h
    · rename_i hA
      have hne : s.a ≠ [] := by unfold Jo.tA at hA; intro e; rw [e] at hA; simp at hA
      obtain ⟨x, q, hx⟩ := List.exists_cons_of_ne_nil hne
      obtain ⟨h1, h2, h3⟩ := run_ok n _ r (ok_A hs hA) h (by simp [Jo.goA, hx] at hn ⊢; omega)
      refine ⟨h1, ?_, h3⟩
      rw [h2]
      simp [Jo.goA, hx]; omega
    · split at h
      · rename_i hB
        have hne : s.b ≠ [] := by unfold Jo.tB at hB; intro e; rw [e] at hB; simp at hB
        obtain ⟨x, q, hx⟩ := List.exists_cons_of_ne_nil hne
        obtain ⟨h1, h2, h3⟩ := run_ok n _ r (ok_B hs hB) h (by simp [Jo.goB, hx] at hn ⊢; omega)
        refine ⟨h1, ?_, h3⟩
        rw [h2]
        simp [Jo.goB, hx]; omega
      · cases h
theorem fin_ok {a b : List Rec} (hok : (jo0 a b).Ok) {r : Jo} (hr : (jo0 a b).run = some r) (h1 : a.length ≤ 4611686018427387903) (h2 : b.length ≤ 4611686018427387903) : a.length ≤ 9223372036854775806 ∧
    b.length ≤ 9223372036854775806 ∧
      (r.ta.length ≤ 9223372036854775806 ∧ (r.ta.length + 1) * 8 ≤ 140737488355328) ∧
        (r.tb.length ≤ 9223372036854775806 ∧ (r.tb.length + 1) * 8 ≤ 140737488355328) ∧
          contLe (r.ta.length + 1) 1
              (appRow r.ta.length (cellsOf' encU r.ta) fun k j =>
                Ax.get [AV.y (Value.int IntKind.u64 (IntKind.u64.wrap ↑r.out.length))] (k + j))
              (cellsOf' encU (r.ta ++ [r.at])) ∧
            contLe (r.tb.length + 1) 1
              (appRow r.tb.length (cellsOf' encU r.tb) fun k j =>
                Ax.get [AV.y (Value.int IntKind.u64 (IntKind.u64.wrap ↑r.out.length))] (k + j))
              (cellsOf' encU (r.tb ++ [r.at])) := by
  obtain ⟨ho, _⟩ := run_ok _ _ r hok hr (Nat.le_refl _)
  have := ho.n
  have := ho.ta
  have := ho.tb
  exact ⟨by omega, by omega, ⟨by omega, by omega⟩, ⟨by omega, by omega⟩, app1_le1 (le0_refl _), app1_le1 (le0_refl _)⟩
theorem join_c (b1 b2 : Bool) (a b : List Rec) (h1 : a.length ≤ 4611686018427387903) (h2 : b.length ≤ 4611686018427387903) : (joinT a b).Sat (ACall' Tryz.prog 57 [encRs b1 a, encRs b2 b] []) := by
  refine ctr_vc (ht := joH b1 b2 a b) Tryz.mixed rfl ?_
  rw [vcJoin_eq b1 b2 a b]
  unfold vcJoin
  have hw : IntKind.i64.wrap ((a.length : Int) + b.length) = (a.length : Int) + b.length := wrap_i64 (by omega) (by omega)
  simp only [hw]
  cases ha : isLog a
  · simp; omega
  · cases hb : isLog b
    · simp; omega
    · by_cases hn : a.length + b.length ≤ 4096
      · have hok := log_ok ha hb hn
        have lp := j_loop b1 b2 ⟨_, hok⟩
        have hn2 : ¬ ((4096 : Int) < (a.length : Int) + b.length) := by omega
        cases hr : (jo0 a b).run with
        | none => 
          simp [hn, hn2, lp, hr]
          omega
        | some r =>
          simp [hn, hn2, lp, hr]
          exact fin_ok hok hr h1 h2
      · have hn2 : (4096 : Int) < (a.length : Int) + b.length := by omega
        simp [hn, hn2]
        omega
end Go.Proofs.YtckklclehofddaaGreatDoor

/-! Records: names. -/
namespace Go.Proofs
open Go.Shelf
def Tryz.lays160_ren : Go.Shelf.Ren := ⟨fun | 160 => 95 | 232 => 112 | 231 => 111 | 227 => 113 | 234 => 115 | 233 => 114 | 236 => 117 | 235 => 116 | 228 => 125 | 271 => 128 | 151 => 127 | 197 => 126 | 120 => 133 | 152 => 132 | 260 => 131 | 137 => 136 | 119 => 137 | 224 => 138 | 225 => 139 | 217 => 140 | 266 => 141 | n => n, fun | 9 => 9 | 4 => 4 | 3 => 3 | 5 => 5 | 117 => 162 | 116 => 161 | 0 => 0 | 124 => 165 | 21 => 21 | 105 => 170 | 46 => 104 | 119 => 176 | 139 => 179 | 138 => 178 | n => n, fun | 3 => 0 | 4 => 1 | n => n⟩
theorem Tryz.lays160 : Go.Proofs.Lays.n160 Tryz.prog Tryz.lays160_ren := {
  mixed := by kernel_rfl
  f119 := Tryz.func137.trans (congrArg some (by kernel_rfl))
  f120 := Tryz.func133.trans (congrArg some (by kernel_rfl))
  f137 := Tryz.func136.trans (congrArg some (by kernel_rfl))
  f151 := Tryz.func127.trans (congrArg some (by kernel_rfl))
  f152 := Tryz.func132.trans (congrArg some (by kernel_rfl))
  f160 := Tryz.func95.trans (congrArg some (by kernel_rfl))
  f197 := Tryz.func126.trans (congrArg some (by kernel_rfl))
  f217 := Tryz.func140.trans (congrArg some (by kernel_rfl))
  f224 := Tryz.func138.trans (congrArg some (by kernel_rfl))
  f225 := Tryz.func139.trans (congrArg some (by kernel_rfl))
  f227 := Tryz.func113.trans (congrArg some (by kernel_rfl))
  f228 := Tryz.func125.trans (congrArg some (by kernel_rfl))
  f231 := Tryz.func111.trans (congrArg some (by kernel_rfl))
  f232 := Tryz.func112.trans (congrArg some (by kernel_rfl))
  f233 := Tryz.func114.trans (congrArg some (by kernel_rfl))
  f234 := Tryz.func115.trans (congrArg some (by kernel_rfl))
  f235 := Tryz.func116.trans (congrArg some (by kernel_rfl))
  f236 := Tryz.func117.trans (congrArg some (by kernel_rfl))
  f260 := Tryz.func131.trans (congrArg some (by kernel_rfl))
  f266 := Tryz.func141.trans (congrArg some (by kernel_rfl))
  f271 := Tryz.func128.trans (congrArg some (by kernel_rfl))
  t0 := Tryz.underlying0
  a0 := Tryz.isAgg0
  z0 := Tryz.sizeOf0
  v0 := Tryz.zeroValue0
  t3 := Tryz.underlying3
  a3 := Tryz.isAgg3
  z3 := Tryz.sizeOf3
  v3 := Tryz.zeroValue3
  t4 := Tryz.underlying4
  a4 := Tryz.isAgg4
  z4 := Tryz.sizeOf4
  v4 := Tryz.zeroValue4
  t5 := Tryz.underlying5
  a5 := Tryz.isAgg5
  z5 := Tryz.sizeOf5
  v5 := Tryz.zeroValue5
  t9 := Tryz.underlying9
  a9 := Tryz.isAgg9
  z9 := Tryz.sizeOf9
  v9 := Tryz.zeroValue9
  t21 := Tryz.underlying21
  a21 := Tryz.isAgg21
  z21 := Tryz.sizeOf21
  v21 := Tryz.zeroValue21
  t46 := Tryz.underlying104
  a46 := Tryz.isAgg104
  z46 := Tryz.sizeOf104
  v46 := Tryz.zeroValue104
  t105 := Tryz.underlying170
  a105 := Tryz.isAgg170
  z105 := Tryz.sizeOf170
  v105 := Tryz.zeroValue170
  t116 := Tryz.underlying161
  a116 := Tryz.isAgg161
  z116 := Tryz.sizeOf161
  t117 := Tryz.underlying162
  a117 := Tryz.isAgg162
  z117 := Tryz.sizeOf162
  v117 := Tryz.zeroValue162
  t119 := Tryz.underlying176
  a119 := Tryz.isAgg176
  z119 := Tryz.sizeOf176
  t124 := Tryz.underlying165
  a124 := Tryz.isAgg165
  z124 := Tryz.sizeOf165
  v124 := Tryz.zeroValue165
  t138 := Tryz.underlying178
  a138 := Tryz.isAgg178
  z138 := Tryz.sizeOf178
  v138 := Tryz.zeroValue178
  t139 := Tryz.underlying179
  a139 := Tryz.isAgg179
  z139 := Tryz.sizeOf179
  v139 := Tryz.zeroValue179
  g3 := by kernel_rfl
  g4 := by kernel_rfl }
end Go.Proofs
namespace Go.Proofs.YtckklclehofddaaGreatDoor
open Go.Ax
set_option maxRecDepth 1000000
def chars : List UInt8 := [97, 98, 99, 100, 101, 102, 103, 104, 105, 106, 107, 108, 109, 110, 111, 112, 113, 114, 115, 116, 117, 118, 119, 120, 121, 122, 48, 49, 50, 51, 52, 53, 54, 55, 56, 57, 45, 95, 46]
def isCh (b : UInt8) : Bool := chars.contains b
def nameOk (s : ByteArray) : Bool := !(s.data.toList == []) && (decide ((s.size : Int) ≤ 32) && s.data.toList.all isCh)
theorem drop_all {l : List UInt8} {p : UInt8 → Bool} : (l.dropWhile p == []) = l.all p := by
  induction l with
  | nil => rfl
  | cons a l ih =>
    rw [List.dropWhile_cons, List.all_cons]
    cases h : p a
    · simp
    · simpa using ih
theorem trim_all (l : List UInt8) : (Lib.trimS l chars == []) = l.all isCh := by
  unfold Lib.trimS Lib.trimLeftS Lib.trimRightS
  rw [drop_all]
  cases h : l.all isCh
  · rw [Bool.eq_false_iff]
    intro h2
    have h3 : ∀ m : List UInt8, (m.dropWhile isCh).all isCh = true → m.all isCh = true := by
      intro m
      induction m with
      | nil => exact fun _ => rfl
      | cons a m ih =>
        rw [List.dropWhile_cons]
        cases ha : isCh a
        · intro h; simp at h; simp [ha] at h
        · intro h; simp only [List.all_cons, ha, Bool.true_and]; exact ih h
    have h4 : (l.reverse.dropWhile isCh).all isCh = true := by
      rw [← List.all_reverse]; exact h2
    have h5 := h3 _ h4
    rw [List.all_reverse] at h5
    rw [h5] at h; cases h
  · rw [List.all_reverse]
    have : l.reverse.dropWhile isCh = [] := by
      have := drop_all (l := l.reverse) (p := isCh)
      rw [List.all_reverse, h] at this
      simpa using this
    have e : l.reverse.dropWhile (fun x => chars.contains x) = [] := this
    rw [e]; rfl
def trimR (s : ByteArray) : T An := .ret (.y (.string ⟨(Lib.trimS s.data.toList chars).toArray⟩), [], [])
theorem trim_c (s : ByteArray) (hs : s.size ≤ 9223372036854775807) : (trimR s).Sat (ACall' Tryz.prog 95 [.y (.string s), .s (.string ⟨chars.toArray⟩)] []) := by
  refine call_below fun w vals hv => ?_
  obtain ⟨H, E, v, l1, e1, hv1, v2, l2, e2, hv2, e3⟩ := hv
  have e3 : l2 = [] := e3
  subst e3
  subst e2
  obtain rfl := hv1.1
  obtain rfl := hv2.1
  have hvals : vals = #[.string s, .string ⟨chars.toArray⟩] := Array.ext' e1
  subst hvals
  refine (Any.strings_Trim_laid Tryz.lays160 (by kernel_rfl) s ⟨chars.toArray⟩ w hs (by decide) (Go.Proofs.ascii_of_all (by decide))).mono ?_
  rintro e w' ⟨rfl, hb⟩
  exact ⟨_, rfl, fun _ _ => ⟨rfl, rfl⟩, hb⟩
noncomputable def trimC (s : ByteArray) : Ctr Tryz.prog := ⟨95, [.y (.string s), .s (.string ⟨chars.toArray⟩)], [], .need (s.size ≤ 9223372036854775807) (trimR s), T.Sat.need fun h => trim_c s h⟩
noncomputable def nameH (s : ByteArray) : HintsT Tryz.prog := hh _ noLp (cs1 78 1 9 (trimC s) noCs) noOp
def vcName (s : ByteArray) : Prop :=
  ((!s.data.toList == []) = true → (decide ((↑(ByteArray.size s) : Int) ≤ (32 : Int)) = true → (s = s ∧ { data := #[(97 : UInt8), (98 : UInt8), (99 : UInt8), (100 : UInt8), (101 : UInt8), (102 : UInt8), (103 : UInt8), (104 : UInt8), (105 : UInt8), (106 : UInt8), (107 : UInt8), (108 : UInt8), (109 : UInt8), (110 : UInt8), (111 : UInt8), (112 : UInt8), (113 : UInt8), (114 : UInt8), (115 : UInt8), (116 : UInt8), (117 : UInt8), (118 : UInt8), (119 : UInt8), (120 : UInt8), (121 : UInt8), (122 : UInt8), (48 : UInt8), (49 : UInt8), (50 : UInt8), (51 : UInt8), (52 : UInt8), (53 : UInt8), (54 : UInt8), (55 : UInt8), (56 : UInt8), (57 : UInt8), (45 : UInt8), (95 : UInt8), (46 : UInt8)] : ByteArray } = { data := #[(97 : UInt8), (98 : UInt8), (99 : UInt8), (100 : UInt8), (101 : UInt8), (102 : UInt8), (103 : UInt8), (104 : UInt8), (105 : UInt8), (106 : UInt8), (107 : UInt8), (108 : UInt8), (109 : UInt8), (110 : UInt8), (111 : UInt8), (112 : UInt8), (113 : UInt8), (114 : UInt8), (115 : UInt8), (116 : UInt8), (117 : UInt8), (118 : UInt8), (119 : UInt8), (120 : UInt8), (121 : UInt8), (122 : UInt8), (48 : UInt8), (49 : UInt8), (50 : UInt8), (51 : UInt8), (52 : UInt8), (53 : UInt8), (54 : UInt8), (55 : UInt8), (56 : UInt8), (57 : UInt8), (45 : UInt8), (95 : UInt8), (46 : UInt8)] : ByteArray } ∧ True) ∧ True ∧ ByteArray.size s ≤ (9223372036854775807 : Nat) ∧ (Lib.trimS s.data.toList [(97 : UInt8), (98 : UInt8), (99 : UInt8), (100 : UInt8), (101 : UInt8), (102 : UInt8), (103 : UInt8), (104 : UInt8), (105 : UInt8), (106 : UInt8), (107 : UInt8), (108 : UInt8), (109 : UInt8), (110 : UInt8), (111 : UInt8), (112 : UInt8), (113 : UInt8), (114 : UInt8), (115 : UInt8), (116 : UInt8), (117 : UInt8), (118 : UInt8), (119 : UInt8), (120 : UInt8), (121 : UInt8), (122 : UInt8), (48 : UInt8), (49 : UInt8), (50 : UInt8), (51 : UInt8), (52 : UInt8), (53 : UInt8), (54 : UInt8), (55 : UInt8), (56 : UInt8), (57 : UInt8), (45 : UInt8), (95 : UInt8), (46 : UInt8)] == []) = nameOk s ∧ True) ∧ (decide ((↑(ByteArray.size s) : Int) ≤ (32 : Int)) = false → false = nameOk s ∧ True)) ∧ ((!s.data.toList == []) = false → false = nameOk s ∧ True)
set_option maxRecDepth 1000000 in
theorem vcName_eq (s : ByteArray) : (ctrVC Tryz.prog (nameH s) 78 [.y (.string s)] [] (boolR (nameOk s))) = vcName s := by kernel_rfl
/-! the document's -/
end Go.Proofs.YtckklclehofddaaGreatDoor

/-! Records: names: the contracts. -/
namespace Go.Proofs.YtckklclehofddaaGreatDoor
open Go.Ax
set_option maxRecDepth 1000000
theorem name_c (s : ByteArray) : (boolR (nameOk s)).Sat (ACall' Tryz.prog 78 [.y (.string s)] []) := by
  refine ctr_vc (ht := nameH s) Tryz.mixed rfl ?_
  rw [vcName_eq s]
  unfold vcName
  have e := trim_all s.data.toList
  unfold chars at e
  simp only [e, nameOk]
  generalize (s.data.toList == []) = a
  generalize hb : decide ((s.size : Int) ≤ 32) = b
  generalize s.data.toList.all isCh = c
  cases a <;> cases b <;> cases c <;> simp at hb ⊢ <;> omega
noncomputable def nameC (s : ByteArray) : Ctr Tryz.prog := ⟨78, [.y (.string s)], [], boolR (nameOk s), name_c s⟩
end Go.Proofs.YtckklclehofddaaGreatDoor

/-! Records: alike; grown; the law RecordsFull: the conditions. -/
namespace Go.Proofs.YtckklclehofddaaGreatDoor
open Go.Ax
set_option maxRecDepth 1000000
def smT (b1 b2 : Bool) (a : List Rec) (k : Nat) : List AV := mkT 82 [(0, encRs b1 a), (1, encRs b2 a), (5, .y (.int .i64 k))]
def smS (_ : Unit) : Exit × List AV × List Blk := (.exit 0, mkT 82 [], [])
def vcSameL (b1 : Bool) (b2 : Bool) (a : List Rec) (k : Nat) : Prop :=
  (decide ((↑k : Int) < (↑(List.length a) : Int)) = true →
      (true && decide ((↑k : Int) < (↑(List.length a) : Int))) = true ∧
        (true && decide ((↑k : Int) < (↑(List.length a) : Int))) = true ∧
          (((List.getD a (Int.toNat (↑k : Int)) (@default Rec instInhabitedRec)).off != (List.getD a (Int.toNat (↑k : Int)) (@default Rec instInhabitedRec)).off) = true → False) ∧
            (((List.getD a (Int.toNat (↑k : Int)) (@default Rec instInhabitedRec)).off != (List.getD a (Int.toNat (↑k : Int)) (@default Rec instInhabitedRec)).off) = false →
              (true && decide ((↑k : Int) < (↑(List.length a) : Int))) = true ∧
                (true && decide ((↑k : Int) < (↑(List.length a) : Int))) = true ∧
                  ((!(List.getD a (Int.toNat (↑k : Int)) (@default Rec instInhabitedRec)).key.data.toList == (List.getD a (Int.toNat (↑k : Int)) (@default Rec instInhabitedRec)).key.data.toList) = true → False) ∧
                    ((!(List.getD a (Int.toNat (↑k : Int)) (@default Rec instInhabitedRec)).key.data.toList == (List.getD a (Int.toNat (↑k : Int)) (@default Rec instInhabitedRec)).key.data.toList) = false →
                      (true && decide ((↑k : Int) < (↑(List.length a) : Int))) = true ∧
                        (∀ (k_1 : Nat), k_1 < List.length (List.getD a (Int.toNat (↑k : Int)) (@default Rec instInhabitedRec)).val → true = true) ∧
                          (true && decide ((↑k : Int) < (↑(List.length a) : Int))) = true ∧
                            (∀ (k_1 : Nat), k_1 < List.length (List.getD a (Int.toNat (↑k : Int)) (@default Rec instInhabitedRec)).val → true = true) ∧
                              ((!List.map
                                          (fun (a : AV) =>
                                            match
                                              match a with
                                              | AV.s (Value.int IntKind.u8 n) => some n
                                              | AV.y (Value.int IntKind.u8 n) => some n
                                              | x => none with
                                            | some n => UInt8.ofNat (Int.toNat n)
                                            | none => (0 : UInt8))
                                          (List.map (fun (k_1 : Nat) => AV.y (Value.int IntKind.u8 (List.getD (List.getD a (Int.toNat (↑k : Int)) (@default Rec instInhabitedRec)).val k_1 (0 : Int)))) (List.range (List.length (List.getD a (Int.toNat (↑k : Int)) (@default Rec instInhabitedRec)).val))) ==
                                        List.map
                                          (fun (a : AV) =>
                                            match
                                              match a with
                                              | AV.s (Value.int IntKind.u8 n) => some n
                                              | AV.y (Value.int IntKind.u8 n) => some n
                                              | x => none with
                                            | some n => UInt8.ofNat (Int.toNat n)
                                            | none => (0 : UInt8))
                                          (List.map (fun (k_1 : Nat) => AV.y (Value.int IntKind.u8 (List.getD (List.getD a (Int.toNat (↑k : Int)) (@default Rec instInhabitedRec)).val k_1 (0 : Int)))) (List.range (List.length (List.getD a (Int.toNat (↑k : Int)) (@default Rec instInhabitedRec)).val)))) =
                                    true →
                                  False) ∧
                                ((!List.map
                                          (fun (a : AV) =>
                                            match
                                              match a with
                                              | AV.s (Value.int IntKind.u8 n) => some n
                                              | AV.y (Value.int IntKind.u8 n) => some n
                                              | x => none with
                                            | some n => UInt8.ofNat (Int.toNat n)
                                            | none => (0 : UInt8))
                                          (List.map (fun (k_1 : Nat) => AV.y (Value.int IntKind.u8 (List.getD (List.getD a (Int.toNat (↑k : Int)) (@default Rec instInhabitedRec)).val k_1 (0 : Int)))) (List.range (List.length (List.getD a (Int.toNat (↑k : Int)) (@default Rec instInhabitedRec)).val))) ==
                                        List.map
                                          (fun (a : AV) =>
                                            match
                                              match a with
                                              | AV.s (Value.int IntKind.u8 n) => some n
                                              | AV.y (Value.int IntKind.u8 n) => some n
                                              | x => none with
                                            | some n => UInt8.ofNat (Int.toNat n)
                                            | none => (0 : UInt8))
                                          (List.map (fun (k_1 : Nat) => AV.y (Value.int IntKind.u8 (List.getD (List.getD a (Int.toNat (↑k : Int)) (@default Rec instInhabitedRec)).val k_1 (0 : Int)))) (List.range (List.length (List.getD a (Int.toNat (↑k : Int)) (@default Rec instInhabitedRec)).val)))) =
                                    false →
                                  (true && decide ((↑k : Int) < (↑(List.length a) : Int))) = true ∧ (true && decide ((↑k : Int) < (↑(List.length a) : Int))) = true ∧ (((List.getD a (Int.toNat (↑k : Int)) (@default Rec instInhabitedRec)).prod != (List.getD a (Int.toNat (↑k : Int)) (@default Rec instInhabitedRec)).prod) = true → False) ∧ (((List.getD a (Int.toNat (↑k : Int)) (@default Rec instInhabitedRec)).prod != (List.getD a (Int.toNat (↑k : Int)) (@default Rec instInhabitedRec)).prod) = false → (true && decide ((↑k : Int) < (↑(List.length a) : Int))) = true ∧ (true && decide ((↑k : Int) < (↑(List.length a) : Int))) = true ∧ (((List.getD a (Int.toNat (↑k : Int)) (@default Rec instInhabitedRec)).seq != (List.getD a (Int.toNat (↑k : Int)) (@default Rec instInhabitedRec)).seq) = true → False) ∧ (((List.getD a (Int.toNat (↑k : Int)) (@default Rec instInhabitedRec)).seq != (List.getD a (Int.toNat (↑k : Int)) (@default Rec instInhabitedRec)).seq) = false → ∃ (j : Nat), List.length a - j < List.length a - k ∧ (((b1 = b1 ∧ List.length a = List.length a ∧ contLe (List.length a) (5 : Nat) (cellsOf' encR a) (cellsOf' encR a)) ∧ (b2 = b2 ∧ List.length a = List.length a ∧ contLe (List.length a) (5 : Nat) (cellsOf' encR a) (cellsOf' encR a)) ∧ IntKind.wrap IntKind.i64 ((↑k : Int) + (1 : Int)) = (↑j : Int) ∧ True) ∧ True ∧ true = true) ∧ true = true ∧ () = ())))))) ∧
    (decide ((↑k : Int) < (↑(List.length a) : Int)) = false → True ∧ True ∧ true = true)
set_option maxRecDepth 1000000 in
theorem vcSameL_eq (b1 : Bool) (b2 : Bool) (a : List Rec) (k : Nat) : (loopVC Tryz.prog (hT _) 25 4 (fun k => a.length - k) (smT b1 b2 a) (fun _ => []) [0] (fun _ => .ret ()) smS k) = vcSameL b1 b2 a k := by kernel_rfl
noncomputable def smH (b1 b2 : Bool) (a : List Rec) : HintsT Tryz.prog := hh _ (lp1 25 4 (jobOf (smT b1 b2 a) (fun _ => []) [0] (fun _ => .ret ()) smS 0) noLp) noCs noOp
def vcSame (b1 : Bool) (b2 : Bool) (a : List Rec) : Prop :=
  (((↑(List.length a) : Int) != (↑(List.length a) : Int)) = true → false = true ∧ True) ∧ (((↑(List.length a) : Int) != (↑(List.length a) : Int)) = false → (((b1 = b1 ∧ List.length a = List.length a ∧ contLe (List.length a) (5 : Nat) (cellsOf' encR a) (cellsOf' encR a)) ∧ (b2 = b2 ∧ List.length a = List.length a ∧ contLe (List.length a) (5 : Nat) (cellsOf' encR a) (cellsOf' encR a)) ∧ (0 : Int) = (0 : Int) ∧ True) ∧ True ∧ true = true) ∧ LoopOk Tryz.prog (25 : Nat) (4 : Nat) (loopAt Tryz.prog (25 : Nat) (4 : Nat)) { t := smT b1 b2 a (0 : Nat), m := [], mv := [] : St } (T.map (lout [(0 : Nat)] smS) ((fun (x : Nat) => T.ret ()) (0 : Nat))) ∧ true = true ∧ True)
set_option maxRecDepth 1000000 in
theorem vcSame_eq (b1 : Bool) (b2 : Bool) (a : List Rec) : (ctrVC Tryz.prog (smH b1 b2 a) 25 [encRs b1 a, encRs b2 a] [] (boolR true)) = vcSame b1 b2 a := by kernel_rfl
def stT (b1 b2 : Bool) (a : List Int) (k : Nat) : List AV := mkT 26 [(0, encUs b1 a), (1, encUs b2 a), (5, .y (.int .i64 k))]
theorem same_loop (b1 b2 : Bool) (a : List Rec) (hl : a.length ≤ 9223372036854775806) (k : Nat) : LoopOk Tryz.prog 25 4 (loopAt Tryz.prog 25 4) ⟨smT b1 b2 a k, [], []⟩ (T.map (lout [0] smS) (.ret ())) := by
  refine loop_vc (o := fun _ => .ret ()) Tryz.mixed (fun _ => rfl) (fun k => (vcSameL_eq b1 b2 a k).mpr ?_) k
  unfold vcSameL
  simp
  intro h
  have hb : ∀ q : Nat, isU8 (cellsOf' encB (a[k]?.getD default).val q 0) = true := fun _ => rfl
  simp [h, hb]
  exact ⟨k + 1, by omega, by rw [wrap_i64 (by omega) (by omega)]; omega⟩
theorem same_c (b1 b2 : Bool) (a : List Rec) (hl : a.length ≤ 9223372036854775806) : (boolR true).Sat (ACall' Tryz.prog 25 [encRs b1 a, encRs b2 a] []) := by
  refine ctr_vc (ht := smH b1 b2 a) Tryz.mixed rfl ?_
  rw [vcSame_eq b1 b2 a]
  unfold vcSame
  simp [same_loop b1 b2 a hl 0]
noncomputable def sameC (b1 b2 : Bool) (a b : List Rec) : Ctr Tryz.prog := ⟨25, [encRs b1 a, encRs b2 b], [], .need (a.length ≤ 9223372036854775806 ∧ a = b) (boolR true), T.Sat.need fun h => by obtain ⟨h1, rfl⟩ := h; exact same_c b1 b2 a h1⟩
/-! grown out of nothing -/
def kB : ByteArray := ⟨#[107]⟩
end Go.Proofs.YtckklclehofddaaGreatDoor

/-! Records: the law RecordsFull. -/
namespace Go.Proofs.YtckklclehofddaaGreatDoor
open Go.Ax
set_option maxRecDepth 1000000
/-! numbers that do not go down -/
theorem tagR (x : Rec) (j : Nat) (hj : j < 5) : tagT (Ax.get (encR x) j) = true := by
  match j, hj with
  | 0, _ => rfl
  | 1, _ => rfl
  | 2, _ => rfl
  | 3, _ => rfl
  | 4, _ => rfl
end Go.Proofs.YtckklclehofddaaGreatDoor
