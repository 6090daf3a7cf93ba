import Derived.Test.YtckklclehofddaaDoorProg
import Derived.KernelRfl
import Derived.Shelf.Strings.SlTrimAscii
import Derived.Test.YtckklclehofddaaDoorE10
set_option linter.unusedVariables false
set_option linter.unusedSimpArgs false
set_option linter.unusedSectionVars false
/-! Records: data; one record in new memory; ranges of keys. -/
namespace Go.Proofs.YtckklclehofddaaDoor
open Go.Ax
set_option maxRecDepth 1000000
structure Rec where
  off : Int
  key : ByteArray
  val : List Int
  prod : Int
  seq : Int
instance : Inhabited Rec := ⟨⟨0, ByteArray.empty, [], 0, 0⟩⟩
structure Rng where
  lo : ByteArray
  hi : ByteArray
instance : Inhabited Rng := ⟨⟨ByteArray.empty, ByteArray.empty⟩⟩
structure Con where
  name : ByteArray
  off : Int
instance : Inhabited Con := ⟨⟨ByteArray.empty, 0⟩⟩
def encB (x : Int) : List AV := [.y (.int .u8 x)]
def encU (x : Int) : List AV := [.y (.int .u64 x)]
def encI (x : Int) : List AV := [.y (.int .i64 x)]
def encBs (b : Bool) (l : List Int) : AV := .ys b 1 l.length (cellsOf' encB l)
def encUs (b : Bool) (l : List Int) : AV := .ys b 1 l.length (cellsOf' encU l)
def encR (x : Rec) : List AV := [.y (.int .u64 x.off), .y (.string x.key), encBs true x.val, .y (.int .u64 x.prod), .y (.int .u64 x.seq)]
def encRs (b : Bool) (l : List Rec) : AV := .ys b 5 l.length (cellsOf' encR l)
def encC (x : Con) : List AV := [.y (.string x.name), .y (.int .u64 x.off)]
def encCs (b : Bool) (l : List Con) : AV := .ys b 2 l.length (cellsOf' encC l)
def encG (r : Rng) : List AV := [.y (.string r.lo), .y (.string r.hi)]
def rowU (l : List Int) : Blk := .row 24 1 l.length none (cellsOf' encU l)
def rowR (l : List Rec) : Blk := .row 38 5 l.length none (cellsOf' encR l)
def rowC (l : List Con) : Blk := .row 50 2 l.length none (cellsOf' encC l)
theorem Tryd.mixed : Tryd.prog.follows .mixedOrders = true := by kernel_rfl
def boolR (b : Bool) : T An := .ret (.y (.bool b), [], [])
def intR (k : Int) : T An := .ret (.y (.int .i64 k), [], [])
theorem sat_le {P : Program} {g : FuncId} {args args' : List AV} {M : List Blk} {t : T An} (hl : leL args args') (h : t.Sat (ACall' P g args' M)) : t.Sat (ACall' P g args M) :=
  h.mono fun _ hc H E w vals hC hargs => hc H E w vals hC (relL_le _ hl hargs)
theorem tag1 {a : AV} (h : tagT a = true) (j : Nat) (hj : j < 1) : tagT (get [a] j) = true := by
  obtain rfl : j = 0 := by omega
  exact h
/-! slices.Clone of bytes -/
def clnR (n : Nat) (c : Nat → Nat → AV) : T An := .ret (.own 0 1 0 n, [.row 5 1 n none c], [])
noncomputable def clnH : HintsT Tryd.prog := hh _ noLp noCs (op1 55 2 0 (.row 5 1) noOp)
def vcClone0 (n : Nat) (c : Nat → Nat → AV) : Prop :=
  ((0 : Nat) = (0 : Nat) ∧ (0 : Nat) = n) ∧ ((0 : Nat) = n ∧ contLe (0 : Nat) (1 : Nat) (fun (x x_1 : Nat) => AV.junk) c) ∧ True
set_option maxRecDepth 1000000 in
theorem vcClone0_eq (n : Nat) (c : Nat → Nat → AV) : (ctrVC Tryd.prog clnH 55 [.s (.slice none 0 0)] [] (clnR n c)) = vcClone0 n c := by kernel_rfl
def vcClone1 (b : Bool) (n : Nat) (c : Nat → Nat → AV) : Prop :=
  (decide ((0 : Nat) + n ≤ (9223372036854775807 : Nat)) && decide (((0 : Nat) + n) * (1 : Nat) ≤ (140737488355328 : Nat))) = true ∧ ((0 : Nat) = (0 : Nat) ∧ (0 : Nat) + n = n) ∧ ((0 : Nat) + n = n ∧ contLe ((0 : Nat) + n) (1 : Nat) (appRow (0 : Nat) (fun (k j : Nat) => AV.junk) c) c) ∧ True
set_option maxRecDepth 1000000 in
theorem vcClone1_eq (b : Bool) (n : Nat) (c : Nat → Nat → AV) : (ctrVC Tryd.prog clnH 55 [.yn b 1 n c] [] (clnR n c)) = vcClone1 b n c := by kernel_rfl
theorem clone_c (b : Bool) (n : Nat) (c : Nat → Nat → AV) (hl : n ≤ 140737488355328) : (clnR n c).Sat (ACall' Tryd.prog 55 [.ys b 1 n c] []) := by
  refine nil_cases (pre := []) (post := []) (fun h0 => ?_) ?_ ⟨_, rfl⟩
  · refine ctr_vc (ht := clnH) Tryd.mixed rfl ?_
    rw [List.nil_append, vcClone0_eq n c]
    unfold vcClone0
    simp [h0]
  · refine ctr_vc (ht := clnH) Tryd.mixed rfl ?_
    rw [List.nil_append, vcClone1_eq b n c]
    unfold vcClone1
    simp
    omega
noncomputable def clnC (b : Bool) (n : Nat) (c : Nat → Nat → AV) : Ctr Tryd.prog := ⟨55, [.ys b 1 n c], [], .need (n ≤ 140737488355328) (clnR n c), T.Sat.need fun h => clone_c b n c h⟩
/-! a record with another offset -/
def Rec.to (x : Rec) (o : Int) : Rec := ⟨o, x.key, x.val, x.prod, x.seq⟩
def recR (x : Rec) : T An := .ret (.agg (encR x), [], [])
noncomputable def ownH (x : Rec) : HintsT Tryd.prog := withSh (hh _ noLp (cs1 35 1 4 (clnC true x.val.length (cellsOf' encB x.val)) noCs) noOp) (sh1 35 2 0 779 noSh)
def vcOwn (x : Rec) (o : Int) : Prop :=
  ((true = true ∧ List.length x.val = List.length x.val ∧ contLe (List.length x.val) (1 : Nat) (cellsOf' encB x.val) (cellsOf' encB x.val)) ∧ True) ∧ True ∧ List.length x.val ≤ (140737488355328 : Nat) ∧ (∀ (k : Nat), k < List.length x.val → ∀ (j : Nat), j < (1 : Nat) → tagT (cellsOf' encB x.val k j) = true) ∧ (IntKind.wrap IntKind.u64 o = IntKind.wrap IntKind.u64 o ∧ x.key = x.key ∧ (true = true ∧ List.length x.val = List.length x.val ∧ contLe (List.length x.val) (1 : Nat) (Ax.rowAt (0 : Nat) (cellsOf' encB x.val)) (cellsOf' encB x.val)) ∧ x.prod = x.prod ∧ x.seq = x.seq ∧ True) ∧ True
set_option maxRecDepth 1000000 in
theorem vcOwn_eq (x : Rec) (o : Int) : (ctrVC Tryd.prog (ownH x) 35 [.agg (encR x), .y (.int .i64 o)] [] (recR (x.to (IntKind.u64.wrap o)))) = vcOwn x o := by kernel_rfl
noncomputable def atH : HintsT Tryd.prog := withSh (hh _ noLp noCs noOp) (sh1 57 3 0 779 noSh)
def vcAt (x : Rec) (o : Int) : Prop :=
  (decide ((0 : Nat) + List.length x.val ≤ (9223372036854775807 : Nat)) && decide (((0 : Nat) + List.length x.val) * (1 : Nat) ≤ (140737488355328 : Nat))) = true ∧ (∀ (k : Nat), k < (0 : Nat) + List.length x.val → ∀ (j : Nat), j < (1 : Nat) → tagT (appRow (0 : Nat) (fun (k j : Nat) => AV.junk) (cellsOf' encB x.val) k j) = true) ∧ (IntKind.wrap IntKind.u64 o = IntKind.wrap IntKind.u64 o ∧ x.key = x.key ∧ (true = true ∧ (0 : Nat) + List.length x.val = List.length x.val ∧ contLe ((0 : Nat) + List.length x.val) (1 : Nat) (Ax.rowAt (0 : Nat) (appRow (0 : Nat) (fun (k j : Nat) => AV.junk) (cellsOf' encB x.val))) (cellsOf' encB x.val)) ∧ x.prod = x.prod ∧ x.seq = x.seq ∧ True) ∧ True
set_option maxRecDepth 1000000 in
theorem vcAt_eq (x : Rec) (o : Int) : (ctrVC Tryd.prog atH 57 [.agg (encR x), .y (.int .i64 o)] [] (recR (x.to (IntKind.u64.wrap o)))) = vcAt x o := by kernel_rfl
/-! ranges -/
def lt (a b : ByteArray) : Bool := Op.bytesLess a.data.toList b.data.toList
def chkK (r : Rng) : Int := if 32 < r.lo.size ∨ 32 < r.hi.size then 131 else if (!r.hi.data.toList == []) = true ∧ (lt r.hi r.lo || r.hi.data.toList == r.lo.data.toList) = true then 132 else 0
def vcChk (r : Rng) : Prop :=
  (decide ((32 : Int) < (↑(ByteArray.size r.lo) : Int)) = true → (131 : Int) = chkK r ∧ True) ∧ (decide ((32 : Int) < (↑(ByteArray.size r.lo) : Int)) = false → (decide ((32 : Int) < (↑(ByteArray.size r.hi) : Int)) = true → (131 : Int) = chkK r ∧ True) ∧ (decide ((32 : Int) < (↑(ByteArray.size r.hi) : Int)) = false → ((!r.hi.data.toList == []) = true → ((Op.bytesLess r.hi.data.toList r.lo.data.toList || r.hi.data.toList == r.lo.data.toList) = true → (132 : Int) = chkK r ∧ True) ∧ ((Op.bytesLess r.hi.data.toList r.lo.data.toList || r.hi.data.toList == r.lo.data.toList) = false → (0 : Int) = chkK r ∧ True)) ∧ ((!r.hi.data.toList == []) = false → (0 : Int) = chkK r ∧ True)))
set_option maxRecDepth 1000000 in
theorem vcChk_eq (r : Rng) : (ctrVC Tryd.prog (hT _) 32 [.agg (encG r)] [] (intR (chkK r))) = vcChk r := by kernel_rfl
def vcChk2 (r : Rng) : Prop :=
  (decide ((32 : Int) < (↑(ByteArray.size r.lo) : Int)) = true → (131 : Int) = chkK r ∧ True) ∧ (decide ((32 : Int) < (↑(ByteArray.size r.lo) : Int)) = false → (decide ((32 : Int) < (↑(ByteArray.size r.hi) : Int)) = true → (131 : Int) = chkK r ∧ True) ∧ (decide ((32 : Int) < (↑(ByteArray.size r.hi) : Int)) = false → ((!r.hi.data.toList == []) = true → ((Op.bytesLess r.hi.data.toList r.lo.data.toList || r.hi.data.toList == r.lo.data.toList) = true → (132 : Int) = chkK r ∧ True) ∧ ((Op.bytesLess r.hi.data.toList r.lo.data.toList || r.hi.data.toList == r.lo.data.toList) = false → (0 : Int) = chkK r ∧ True)) ∧ ((!r.hi.data.toList == []) = false → (0 : Int) = chkK r ∧ True)))
set_option maxRecDepth 1000000 in
theorem vcChk2_eq (r : Rng) : (ctrVC Tryd.prog (hT _) 40 [.agg (encG r)] [] (intR (chkK r))) = vcChk2 r := by kernel_rfl
end Go.Proofs.YtckklclehofddaaDoor

/-! Records: a range has a key; may records be a log? -/
namespace Go.Proofs.YtckklclehofddaaDoor
open Go.Ax
set_option maxRecDepth 1000000
theorem own_c (x : Rec) (o : Int) (h : x.val.length ≤ 140737488355328) : (recR (x.to (IntKind.u64.wrap o))).Sat (ACall' Tryd.prog 35 [.agg (encR x), .y (.int .i64 o)] []) := by
  refine ctr_vc (ht := ownH x) Tryd.mixed rfl ?_
  rw [vcOwn_eq x o]
  unfold vcOwn
  simp [h]
  exact fun _ _ => rfl
theorem at_c (x : Rec) (o : Int) (h : x.val.length ≤ 140737488355328) : (recR (x.to (IntKind.u64.wrap o))).Sat (ACall' Tryd.prog 57 [.agg (encR x), .y (.int .i64 o)] []) := by
  refine ctr_vc (ht := atH) Tryd.mixed rfl ?_
  rw [vcAt_eq x o]
  unfold vcAt
  simp
  exact ⟨⟨by omega, by omega⟩, fun _ _ => rfl⟩
noncomputable def ownC (x : Rec) (o : Int) : Ctr Tryd.prog := ⟨35, [.agg (encR x), .y (.int .i64 o)], [], .need (x.val.length ≤ 140737488355328) (recR (x.to (IntKind.u64.wrap o))), T.Sat.need fun h => own_c x o h⟩
noncomputable def atC (x : Rec) (o : Int) : Ctr Tryd.prog := ⟨57, [.agg (encR x), .y (.int .i64 o)], [], .need (x.val.length ≤ 140737488355328) (recR (x.to (IntKind.u64.wrap o))), T.Sat.need fun h => at_c x o h⟩
theorem chk_c (r : Rng) : (intR (chkK r)).Sat (ACall' Tryd.prog 32 [.agg (encG r)] []) := by
  refine ctr_vc (ht := hT _) Tryd.mixed rfl ?_
  rw [vcChk_eq r]
  unfold vcChk chkK lt
  simp
  grind
theorem chk2_c (r : Rng) : (intR (chkK r)).Sat (ACall' Tryd.prog 40 [.agg (encG r)] []) := by
  refine ctr_vc (ht := hT _) Tryd.mixed rfl ?_
  rw [vcChk2_eq r]
  unfold vcChk2 chkK lt
  simp
  grind
noncomputable def chkC (r : Rng) : Ctr Tryd.prog := ⟨32, [.agg (encG r)], [], intR (chkK r), chk_c r⟩
noncomputable def chk2C (r : Rng) : Ctr Tryd.prog := ⟨40, [.agg (encG r)], [], intR (chkK r), chk2_c r⟩
def hasK (r : Rng) (k : ByteArray) : Bool := chkK r == 0 && (decide ((k.size : Int) ≤ 32) && ((lt r.lo k || r.lo.data.toList == k.data.toList) && (r.hi.data.toList == [] || lt k r.hi)))
noncomputable def hasH (r : Rng) : HintsT Tryd.prog := hh _ noLp (cs1 33 1 1 (chkC r) noCs) noOp
noncomputable def has2H (r : Rng) : HintsT Tryd.prog := hh _ noLp (cs1 41 1 1 (chk2C r) noCs) noOp
def vcHas (r : Rng) (k : ByteArray) : Prop :=
  ((r.lo = r.lo ∧ r.hi = r.hi ∧ True) ∧ True) ∧ True ∧ ((chkK r == (0 : Int)) = true → (decide ((↑(ByteArray.size k) : Int) ≤ (32 : Int)) = true → ((Op.bytesLess r.lo.data.toList k.data.toList || r.lo.data.toList == k.data.toList) = true → ((r.hi.data.toList == []) = true → true = hasK r k ∧ True) ∧ ((r.hi.data.toList == []) = false → Op.bytesLess k.data.toList r.hi.data.toList = hasK r k ∧ True)) ∧ ((Op.bytesLess r.lo.data.toList k.data.toList || r.lo.data.toList == k.data.toList) = false → false = hasK r k ∧ True)) ∧ (decide ((↑(ByteArray.size k) : Int) ≤ (32 : Int)) = false → false = hasK r k ∧ True)) ∧ ((chkK r == (0 : Int)) = false → false = hasK r k ∧ True)
set_option maxRecDepth 1000000 in
theorem vcHas_eq (r : Rng) (k : ByteArray) : (ctrVC Tryd.prog (hasH r) 33 [.agg (encG r), .y (.string k)] [] (boolR (hasK r k))) = vcHas r k := by kernel_rfl
def vcHas2 (r : Rng) (k : ByteArray) : Prop :=
  ((r.lo = r.lo ∧ r.hi = r.hi ∧ True) ∧ True) ∧ True ∧ ((chkK r == (0 : Int)) = true → (decide ((↑(ByteArray.size k) : Int) ≤ (32 : Int)) = true → ((!Op.bytesLess k.data.toList r.lo.data.toList) = true → ((r.hi.data.toList == []) = true → true = hasK r k ∧ True) ∧ ((r.hi.data.toList == []) = false → Op.bytesLess k.data.toList r.hi.data.toList = hasK r k ∧ True)) ∧ ((!Op.bytesLess k.data.toList r.lo.data.toList) = false → false = hasK r k ∧ True)) ∧ (decide ((↑(ByteArray.size k) : Int) ≤ (32 : Int)) = false → false = hasK r k ∧ True)) ∧ ((chkK r == (0 : Int)) = false → false = hasK r k ∧ True)
set_option maxRecDepth 1000000 in
theorem vcHas2_eq (r : Rng) (k : ByteArray) : (ctrVC Tryd.prog (has2H r) 41 [.agg (encG r), .y (.string k)] [] (boolR (hasK r k))) = vcHas2 r k := by kernel_rfl
theorem less_irr : ∀ l : List UInt8, Op.bytesLess l l = false
  | [] => rfl
  | a :: l => by simp [Op.bytesLess, less_irr l]
theorem less_asymm : ∀ (a b : List UInt8), Op.bytesLess a b = true → Op.bytesLess b a = false
  | [], [], h => by simp [Op.bytesLess] at h
  | [], _ :: _, _ => rfl
  | _ :: _, [], h => by simp [Op.bytesLess] at h
  | a :: l, b :: m, h => by
    simp only [Op.bytesLess, Bool.or_eq_true, Bool.and_eq_true, decide_eq_true_eq, beq_iff_eq] at h ⊢
    rcases h with h | ⟨rfl, h⟩
    · have h1 : ¬ b < a := UInt8.not_lt.2 (UInt8.le_of_lt h)
      have h2 : ¬ b = a := fun e => by subst e; exact absurd h (UInt8.lt_irrefl _)
      simp [h1, h2]
    · have := less_asymm l m h
      simp [this]
theorem less_total : ∀ (a b : List UInt8), Op.bytesLess a b = false → Op.bytesLess b a = false → a = b
  | [], [], _, _ => rfl
  | [], _ :: _, h, _ => by simp [Op.bytesLess] at h
  | _ :: _, [], _, h => by simp [Op.bytesLess] at h
  | a :: l, b :: m, h, k => by
    simp only [Op.bytesLess, Bool.or_eq_false_iff, Bool.and_eq_false_iff, decide_eq_false_iff_not, beq_eq_false_iff_ne] at h k
    have e : a = b := UInt8.le_antisymm (UInt8.not_lt.1 k.1) (UInt8.not_lt.1 h.1)
    subst e
    rw [less_total l m (h.2.resolve_left fun q => q rfl) (k.2.resolve_left fun q => q rfl)]
theorem less_geq (a b : List UInt8) : (!Op.bytesLess a b) = (Op.bytesLess b a || b == a) := by
  cases h : Op.bytesLess a b
  · cases k : Op.bytesLess b a
    · simp [less_total a b h k]
    · rfl
  · have h1 := less_asymm a b h
    have h2 : ¬ b = a := fun e => by subst e; rw [less_irr] at h; cases h
    simp [h1, h2]
theorem has_c (r : Rng) (k : ByteArray) : (boolR (hasK r k)).Sat (ACall' Tryd.prog 33 [.agg (encG r), .y (.string k)] []) := by
  refine ctr_vc (ht := hasH r) Tryd.mixed rfl ?_
  rw [vcHas_eq r k]
  unfold vcHas
  unfold hasK lt
  generalize (chkK r == 0) = a
  generalize decide ((k.size : Int) ≤ 32) = b
  generalize Op.bytesLess r.lo.data.toList k.data.toList = c
  generalize (r.lo.data.toList == k.data.toList) = d
  generalize (r.hi.data.toList == []) = e
  generalize Op.bytesLess k.data.toList r.hi.data.toList = f
  cases a <;> cases b <;> cases c <;> cases d <;> cases e <;> cases f <;> simp
theorem has2_c (r : Rng) (k : ByteArray) : (boolR (hasK r k)).Sat (ACall' Tryd.prog 41 [.agg (encG r), .y (.string k)] []) := by
  refine ctr_vc (ht := has2H r) Tryd.mixed rfl ?_
  rw [vcHas2_eq r k]
  unfold vcHas2
  unfold hasK lt
  simp only [less_geq]
  generalize (chkK r == 0) = a
  generalize decide ((k.size : Int) ≤ 32) = b
  generalize Op.bytesLess r.lo.data.toList k.data.toList = c
  generalize (r.lo.data.toList == k.data.toList) = d
  generalize (r.hi.data.toList == []) = e
  generalize Op.bytesLess k.data.toList r.hi.data.toList = f
  cases a <;> cases b <;> cases c <;> cases d <;> cases e <;> cases f <;> simp
end Go.Proofs.YtckklclehofddaaDoor

/-! Records: may records be a log? has a list a lower one? -/
namespace Go.Proofs.YtckklclehofddaaDoor
open Go.Ax
set_option maxRecDepth 1000000
def okR (x : Rec) (k : Nat) : Bool := !(x.off != IntKind.u64.wrap k) && (decide (x.key.size ≤ 32) && decide (x.val.length ≤ 256))
def logFrom (l : List Rec) (k : Nat) : Bool := (List.range' k (l.length - k)).all fun j => okR (l.getD j default) j
theorem logFrom_end {l : List Rec} {k : Nat} (h : l.length ≤ k) : logFrom l k = true := by
  unfold logFrom
  rw [show l.length - k = 0 by omega]; rfl
theorem logFrom_step {l : List Rec} {k : Nat} (h : k < l.length) : logFrom l k = (okR (l.getD k default) k && logFrom l (k + 1)) := by
  unfold logFrom
  rw [show l.length - k = (l.length - (k + 1)) + 1 by omega, List.range'_succ]; rfl
def isLog (l : List Rec) : Bool := logFrom l 0 && decide (l.length ≤ 4096)
def lgT (b : Bool) (l : List Rec) (k : Nat) : List AV := mkT 33 [(0, encRs b l), (2, .s (.bool false)), (5, encRs b l), (6, .y (.int .i64 l.length)), (7, .y (.int .i64 k))]
def lgS (b : Bool) (l : List Rec) (r : Bool) : Exit × List AV × List Blk := match r with
  | true => (.exit 0, mkT 33 [(0, encRs b l)], [])
  | false => (.ret, mkT 33 [(2, .s (.bool false))], [])
def lgO (l : List Rec) (k : Nat) : T Bool := .ite (logFrom l k) (.ret true) (.ret false)
def vcLgL (b : Bool) (l : List Rec) (k : Nat) : Prop :=
  (decide ((↑k : Int) < (↑(List.length l) : Int)) = true → (true && decide ((↑k : Int) < (↑(List.length l) : Int))) = true ∧ (((List.getD l (Int.toNat (↑k : Int)) (@default Rec instInhabitedRec)).off != IntKind.wrap IntKind.u64 (↑k : Int)) = true → (logFrom l k = true → False) ∧ (logFrom l k = false → (false = false ∧ True) ∧ True ∧ true = true)) ∧ (((List.getD l (Int.toNat (↑k : Int)) (@default Rec instInhabitedRec)).off != IntKind.wrap IntKind.u64 (↑k : Int)) = false → (decide ((32 : Int) < (↑(ByteArray.size (List.getD l (Int.toNat (↑k : Int)) (@default Rec instInhabitedRec)).key) : Int)) = true → (logFrom l k = true → False) ∧ (logFrom l k = false → (false = false ∧ True) ∧ True ∧ true = true)) ∧ (decide ((32 : Int) < (↑(ByteArray.size (List.getD l (Int.toNat (↑k : Int)) (@default Rec instInhabitedRec)).key) : Int)) = false → (decide ((256 : Int) < (↑(List.length (List.getD l (Int.toNat (↑k : Int)) (@default Rec instInhabitedRec)).val) : Int)) = true → (logFrom l k = true → False) ∧ (logFrom l k = false → (false = false ∧ True) ∧ True ∧ true = true)) ∧ (decide ((256 : Int) < (↑(List.length (List.getD l (Int.toNat (↑k : Int)) (@default Rec instInhabitedRec)).val) : Int)) = false → ∃ (j : Nat), List.length l - j < List.length l - k ∧ (((b = b ∧ List.length l = List.length l ∧ contLe (List.length l) (5 : Nat) (cellsOf' encR l) (cellsOf' encR l)) ∧ false = false ∧ (b = b ∧ List.length l = List.length l ∧ contLe (List.length l) (5 : Nat) (cellsOf' encR l) (cellsOf' encR l)) ∧ (↑(List.length l) : Int) = (↑(List.length l) : Int) ∧ IntKind.wrap IntKind.i64 ((↑k : Int) + (1 : Int)) = (↑j : Int) ∧ True) ∧ True ∧ true = true) ∧ true = true ∧ (logFrom l j = true → (logFrom l k = true → true = true) ∧ (logFrom l k = false → true = false)) ∧ (logFrom l j = false → (logFrom l k = true → false = true) ∧ (logFrom l k = false → false = false)))))) ∧ (decide ((↑k : Int) < (↑(List.length l) : Int)) = false → (logFrom l k = true → ((b = b ∧ List.length l = List.length l ∧ contLe (List.length l) (5 : Nat) (cellsOf' encR l) (cellsOf' encR l)) ∧ True) ∧ True ∧ true = true) ∧ (logFrom l k = false → False))
set_option maxRecDepth 1000000 in
theorem vcLgL_eq (b : Bool) (l : List Rec) (k : Nat) : (loopVC Tryd.prog (hT _) 34 2 (fun k => l.length - k) (lgT b l) (fun _ => []) [0] (lgO l) (lgS b l) k) = vcLgL b l k := by kernel_rfl
noncomputable def lgH (b : Bool) (l : List Rec) : HintsT Tryd.prog := hh _ (lp1 34 2 (jobOf (lgT b l) (fun _ => []) [0] (lgO l) (lgS b l) 0) noLp) noCs noOp
def vcLg (b : Bool) (l : List Rec) : Prop :=
  (((b = b ∧ List.length l = List.length l ∧ contLe (List.length l) (5 : Nat) (cellsOf' encR l) (cellsOf' encR l)) ∧ false = false ∧ (b = b ∧ List.length l = List.length l ∧ contLe (List.length l) (5 : Nat) (cellsOf' encR l) (cellsOf' encR l)) ∧ (↑(List.length l) : Int) = (↑(List.length l) : Int) ∧ (0 : Int) = (0 : Int) ∧ True) ∧ True ∧ true = true) ∧ LoopOk Tryd.prog (34 : Nat) (2 : Nat) (loopAt Tryd.prog (34 : Nat) (2 : Nat)) { t := lgT b l (0 : Nat), m := [], mv := [] : St } (T.map (lout [(0 : Nat)] (lgS b l)) (lgO l (0 : Nat))) ∧ (logFrom l (0 : Nat) = true → decide ((↑(List.length l) : Int) ≤ (4096 : Int)) = isLog l ∧ True) ∧ (logFrom l (0 : Nat) = false → false = isLog l ∧ True)
set_option maxRecDepth 1000000 in
theorem vcLg_eq (b : Bool) (l : List Rec) : (ctrVC Tryd.prog (lgH b l) 34 [encRs b l] [] (boolR (isLog l))) = vcLg b l := by kernel_rfl
def lrT (b : Bool) (l : List Rec) (k : Nat) : List AV := mkT 39 [(0, encRs b l), (2, .s (.bool false)), (3, .y (.int .i64 k))]
def lrS (r : Bool) : Exit × List AV × List Blk := match r with
  | true => (.exit 0, mkT 39 [], [])
  | false => (.ret, mkT 39 [(2, .s (.bool false))], [])
def vcLrL (b : Bool) (l : List Rec) (k : Nat) : Prop :=
  (decide ((↑k : Int) < (↑(List.length l) : Int)) = true → (true && decide ((↑k : Int) < (↑(List.length l) : Int))) = true ∧ (((List.getD l (Int.toNat (↑k : Int)) (@default Rec instInhabitedRec)).off != IntKind.wrap IntKind.u64 (↑k : Int)) = true → (logFrom l k = true → False) ∧ (logFrom l k = false → (false = false ∧ True) ∧ True ∧ true = true)) ∧ (((List.getD l (Int.toNat (↑k : Int)) (@default Rec instInhabitedRec)).off != IntKind.wrap IntKind.u64 (↑k : Int)) = false → (true && decide ((↑k : Int) < (↑(List.length l) : Int))) = true ∧ (decide ((32 : Int) < (↑(ByteArray.size (List.getD l (Int.toNat (↑k : Int)) (@default Rec instInhabitedRec)).key) : Int)) = true → (logFrom l k = true → False) ∧ (logFrom l k = false → (false = false ∧ True) ∧ True ∧ true = true)) ∧ (decide ((32 : Int) < (↑(ByteArray.size (List.getD l (Int.toNat (↑k : Int)) (@default Rec instInhabitedRec)).key) : Int)) = false → (true && decide ((↑k : Int) < (↑(List.length l) : Int))) = true ∧ (decide ((256 : Int) < (↑(List.length (List.getD l (Int.toNat (↑k : Int)) (@default Rec instInhabitedRec)).val) : Int)) = true → (logFrom l k = true → False) ∧ (logFrom l k = false → (false = false ∧ True) ∧ True ∧ true = true)) ∧ (decide ((256 : Int) < (↑(List.length (List.getD l (Int.toNat (↑k : Int)) (@default Rec instInhabitedRec)).val) : Int)) = false → ∃ (j : Nat), List.length l - j < List.length l - k ∧ (((b = b ∧ List.length l = List.length l ∧ contLe (List.length l) (5 : Nat) (cellsOf' encR l) (cellsOf' encR l)) ∧ false = false ∧ IntKind.wrap IntKind.i64 ((↑k : Int) + (1 : Int)) = (↑j : Int) ∧ True) ∧ True ∧ true = true) ∧ true = true ∧ (logFrom l j = true → (logFrom l k = true → true = true) ∧ (logFrom l k = false → true = false)) ∧ (logFrom l j = false → (logFrom l k = true → false = true) ∧ (logFrom l k = false → false = false)))))) ∧ (decide ((↑k : Int) < (↑(List.length l) : Int)) = false → (logFrom l k = true → True ∧ True ∧ true = true) ∧ (logFrom l k = false → False))
set_option maxRecDepth 1000000 in
theorem vcLrL_eq (b : Bool) (l : List Rec) (k : Nat) : (loopVC Tryd.prog (hT _) 37 4 (fun k => l.length - k) (lrT b l) (fun _ => []) [0] (lgO l) lrS k) = vcLrL b l k := by kernel_rfl
noncomputable def lrH (b : Bool) (l : List Rec) : HintsT Tryd.prog := hh _ (lp1 37 4 (jobOf (lrT b l) (fun _ => []) [0] (lgO l) lrS 0) noLp) noCs noOp
def vcLr (b : Bool) (l : List Rec) : Prop :=
  (decide ((4096 : Int) < (↑(List.length l) : Int)) = true → false = isLog l ∧ True) ∧ (decide ((4096 : Int) < (↑(List.length l) : Int)) = false → (((b = b ∧ List.length l = List.length l ∧ contLe (List.length l) (5 : Nat) (cellsOf' encR l) (cellsOf' encR l)) ∧ false = false ∧ (0 : Int) = (0 : Int) ∧ True) ∧ True ∧ true = true) ∧ LoopOk Tryd.prog (37 : Nat) (4 : Nat) (loopAt Tryd.prog (37 : Nat) (4 : Nat)) { t := lrT b l (0 : Nat), m := [], mv := [] : St } (T.map (lout [(0 : Nat)] lrS) (lgO l (0 : Nat))) ∧ (logFrom l (0 : Nat) = true → true = isLog l ∧ True) ∧ (logFrom l (0 : Nat) = false → false = isLog l ∧ True))
set_option maxRecDepth 1000000 in
theorem vcLr_eq (b : Bool) (l : List Rec) : (ctrVC Tryd.prog (lrH b l) 37 [encRs b l] [] (boolR (isLog l))) = vcLr b l := by kernel_rfl
/-! one of the same producer with a lower number -/
def below (x y : Rec) : Bool := y.prod == x.prod && decide (y.seq < x.seq)
def lowR (l : List Rec) (x : Rec) : Bool := l.any (below x)
theorem low_nil (x : Rec) : lowR [] x = false := rfl
theorem low_cons (y : Rec) (l : List Rec) (x : Rec) : lowR (y :: l) x = (below x y || lowR l x) := rfl
def ixS (r : Bool × Nat) : Exit × List AV × List Blk := match r.1 with
  | true => (.ret, mkT 19 [(4, .y (.int .i64 r.2))], [])
  | false => (.exit 0, mkT 19 [], [])
def ixO (l : List Rec) (x : Rec) (k : Nat) : T (Bool × Nat) := .ite (lowR (l.drop k) x) (.ret (true, k + (l.drop k).findIdx (below x))) (.ret (false, 0))
def lwT (b : Bool) (l : List Rec) (k : Nat) : List AV := mkT 30 [(0, encRs b l), (3, .ptr 0 0 0 0), (4, .s (.bool false)), (5, .y (.int .i64 k))]
def lwM (x : Rec) : List Blk := [.box 38 (encR x)]
def lwS (x : Rec) (r : Bool) : Exit × List AV × List Blk := match r with
  | true => (.ret, mkT 30 [(4, .s (.bool true))], lwM x)
  | false => (.exit 0, mkT 30 [], lwM x)
def lwO (l : List Rec) (x : Rec) (k : Nat) : T Bool := .ite (lowR (l.drop k) x) (.ret true) (.ret false)
end Go.Proofs.YtckklclehofddaaDoor

/-! Records: the contracts of Log, wait, lower. -/
namespace Go.Proofs.YtckklclehofddaaDoor
open Go.Ax
set_option maxRecDepth 1000000
theorem lg_loop (b : Bool) (l : List Rec) (hl : l.length ≤ 9223372036854775806) (k : Nat) : LoopOk Tryd.prog 34 2 (loopAt Tryd.prog 34 2) ⟨lgT b l k, [], []⟩ ((lgO l k).map (lout [0] (lgS b l))) := by
  refine loop_vc Tryd.mixed (fun _ => rfl) (fun k => (vcLgL_eq b l k).mpr ?_) k
  unfold vcLgL
  simp
  refine ⟨fun h => ?_, fun h => by simp [logFrom_end h]⟩
  rw [logFrom_step h]
  simp (disch := omega) only [wrap_i64]
  simp [okR, cast_succ_eq]
  generalize l[k]?.getD default = x
  grind
theorem lg_c (b : Bool) (l : List Rec) (hl : l.length ≤ 9223372036854775806) : (boolR (isLog l)).Sat (ACall' Tryd.prog 34 [encRs b l] []) := by
  refine ctr_vc (ht := lgH b l) Tryd.mixed rfl ?_
  rw [vcLg_eq b l]
  unfold vcLg
  have := lg_loop b l hl 0
  simp [this, isLog]
  grind
theorem lr_loop (b : Bool) (l : List Rec) (hl : l.length ≤ 9223372036854775806) (k : Nat) : LoopOk Tryd.prog 37 4 (loopAt Tryd.prog 37 4) ⟨lrT b l k, [], []⟩ ((lgO l k).map (lout [0] lrS)) := by
  refine loop_vc Tryd.mixed (fun _ => rfl) (fun k => (vcLrL_eq b l k).mpr ?_) k
  unfold vcLrL
  simp
  refine ⟨fun h => ?_, fun h => by simp [logFrom_end h]⟩
  rw [logFrom_step h]
  simp (disch := omega) only [wrap_i64]
  simp [okR, cast_succ_eq]
  generalize l[k]?.getD default = x
  grind
theorem lr_c (b : Bool) (l : List Rec) (hl : l.length ≤ 9223372036854775806) : (boolR (isLog l)).Sat (ACall' Tryd.prog 37 [encRs b l] []) := by
  refine ctr_vc (ht := lrH b l) Tryd.mixed rfl ?_
  rw [vcLr_eq b l]
  unfold vcLr
  have := lr_loop b l hl 0
  simp [this, isLog]
  grind
noncomputable def lgC (b : Bool) (l : List Rec) : Ctr Tryd.prog := ⟨34, [encRs b l], [], .need (l.length ≤ 9223372036854775806) (boolR (isLog l)), T.Sat.need fun h => lg_c b l h⟩
noncomputable def lrC (b : Bool) (l : List Rec) : Ctr Tryd.prog := ⟨37, [encRs b l], [], .need (l.length ≤ 9223372036854775806) (boolR (isLog l)), T.Sat.need fun h => lr_c b l h⟩
end Go.Proofs.YtckklclehofddaaDoor

/-! Records: two logs as one. -/
namespace Go.Proofs.YtckklclehofddaaDoor
open Go.Ax
set_option maxRecDepth 1000000
def hd (l : List Rec) : Rec := l.getD 0 default
structure Jo where
  (a b out : List Rec) (ta tb : List Int)
def Jo.tA (s : Jo) : Bool := !s.a.isEmpty && !lowR s.b (hd s.a)
def Jo.tB (s : Jo) : Bool := !s.b.isEmpty && !lowR s.a (hd s.b)
def Jo.at (s : Jo) : Int := IntKind.u64.wrap (s.out.length : Nat)
def Jo.goA (s : Jo) : Jo := ⟨s.a.tail, s.b, s.out ++ [(hd s.a).to s.at], s.ta ++ [s.at], s.tb⟩
def Jo.goB (s : Jo) : Jo := ⟨s.a, s.b.tail, s.out ++ [(hd s.b).to s.at], s.ta, s.tb ++ [s.at]⟩
def joinN : Nat → Jo → Option Jo
  | 0, s => some s
  | n + 1, s => if s.tA then joinN n s.goA else if s.tB then joinN n s.goB else none
def Jo.run (s : Jo) : Option Jo := joinN (s.a.length + s.b.length) s
def sideV (b : Bool) (l : List Rec) : AV := .ip false 2 (get [encRs b l, .junk])
/-! the program's loop -/
def jT (s : Jo) : List AV := mkT 121 [(8, .ptr 1 0 0 0), (9, .ptr 3 0 0 0), (10, .own 4 5 0 s.out.length)]
inductive JR where
  | ok (s : Jo)
  | bad
def jO (s : Jo) : T JR := .ite s.run.isSome (.ret (.ok (s.run.getD s))) (.ret .bad)
structure Jo.Ok (s : Jo) : Prop where
  a : ∀ x ∈ s.a, x.val.length ≤ 256
  b : ∀ x ∈ s.b, x.val.length ≤ 256
  n : s.a.length + s.b.length + s.out.length ≤ 4096
  ta : s.ta.length ≤ s.out.length
  tb : s.tb.length ≤ s.out.length
def jX : List Nat := [0, 1, 2, 3, 4, 5, 6, 7, 8, 9, 10]
/-! the document's loop -/
def kM (s : Jo) : List Blk := [rowR s.out, rowU s.ta, rowU s.tb]
def kT (b1 b2 : Bool) (s : Jo) : List AV := mkT 114 [(0, encRs b1 s.a), (1, encRs b2 s.b), (10, .own 0 5 0 s.out.length), (11, .own 1 1 0 s.ta.length), (12, .own 2 1 0 s.tb.length)]
def kS (b1 b2 : Bool) (r : JR) : Exit × List AV × List Blk := match r with
  | .ok s => (.exit 0, kT b1 b2 s, kM s)
  | .bad => (.ret, mkT 114 [(4, .s (.slice none 0 0)), (5, .s (.slice none 0 0)), (6, .s (.slice none 0 0)), (7, .s (.int .i64 145))], [])
def joR (s : Jo) : T An := .ret (.tup [.own 0 5 0 s.out.length, .own 1 1 0 s.ta.length, .own 2 1 0 s.tb.length, .s (.int .i64 0)], [rowR s.out, rowU s.ta, rowU s.tb], [])
def Jo.end (s : Jo) : Jo := ⟨s.a, s.b, s.out, s.ta ++ [s.at], s.tb ++ [s.at]⟩
def jo0 (a b : List Rec) : Jo := ⟨a, b, [], [], []⟩
def joE (k : Int) : T An := .ret (.tup [.s (.slice none 0 0), .s (.slice none 0 0), .s (.slice none 0 0), .s (.int .i64 k)], [], [])
def joinT (a b : List Rec) : T An := .ite (isLog a && isLog b) (.ite (decide (a.length + b.length ≤ 4096)) (.ite (jo0 a b).run.isSome (joR ((jo0 a b).run.getD (jo0 a b)).end) (joE 145)) (joE 143)) (joE 1)
end Go.Proofs.YtckklclehofddaaDoor

/-! Records: the contracts of Join. -/
namespace Go.Proofs.YtckklclehofddaaDoor
open Go.Ax
set_option maxRecDepth 1000000
theorem hdE (l : List Rec) : l.getD 0 default = hd l := rfl
theorem tail_le (b : List Rec) (n : Nat) : contLe n 5 (fun k => cellsOf' encR b (1 + k)) (cellsOf' encR b.tail) := by
  intro k hk j hj
  have : b.tail.getD k default = b.getD (1 + k) default := by
    cases b with
    | nil => simp
    | cons x r => simp [Nat.add_comm 1 k]
  unfold cellsOf'
  rw [this]
  exact le0_refl _
theorem run_A {s : Jo} (h : s.tA = true) : s.run = s.goA.run := by
  have ha : s.a ≠ [] := by unfold Jo.tA at h; intro e; rw [e] at h; simp at h
  obtain ⟨x, r, hx⟩ := List.exists_cons_of_ne_nil ha
  have h1 : s.goA.a.length + s.goA.b.length + 1 = s.a.length + s.b.length := by
    simp [Jo.goA, hx]; omega
  unfold Jo.run
  rw [← h1, joinN, if_pos h]
theorem run_B {s : Jo} (h0 : s.tA = false) (h : s.tB = true) : s.run = s.goB.run := by
  have ha : s.b ≠ [] := by unfold Jo.tB at h; intro e; rw [e] at h; simp at h
  obtain ⟨x, r, hx⟩ := List.exists_cons_of_ne_nil ha
  have h1 : s.goB.a.length + s.goB.b.length + 1 = s.a.length + s.b.length := by
    simp [Jo.goB, hx]; omega
  unfold Jo.run
  rw [← h1, joinN, if_neg (by simp [h0]), if_pos h]
theorem run_no {s : Jo} (h0 : s.tA = false) (h : s.tB = false) (hn : 0 < s.a.length + s.b.length) : s.run = none := by
  obtain ⟨n, hn⟩ : ∃ n, s.a.length + s.b.length = n + 1 := ⟨s.a.length + s.b.length - 1, by omega⟩
  unfold Jo.run
  rw [hn, joinN, if_neg (by simp [h0]), if_neg (by simp [h])]
theorem run_end {s : Jo} (hn : s.a.length + s.b.length = 0) : s.run = some s := by
  unfold Jo.run
  rw [hn, joinN]
theorem ok_A {s : Jo} (h : s.Ok) (ht : s.tA = true) : s.goA.Ok := by
  have ha : s.a ≠ [] := by unfold Jo.tA at ht; intro e; rw [e] at ht; simp at ht
  obtain ⟨x, r, hx⟩ := List.exists_cons_of_ne_nil ha
  have h1 := h.n
  have h2 := h.ta
  have h3 := h.tb
  refine ⟨fun y hy => h.a y (List.mem_of_mem_tail hy), h.b, ?_, ?_, ?_⟩ <;> simp [Jo.goA, hx] at * <;> omega
theorem ok_B {s : Jo} (h : s.Ok) (ht : s.tB = true) : s.goB.Ok := by
  have ha : s.b ≠ [] := by unfold Jo.tB at ht; intro e; rw [e] at ht; simp at ht
  obtain ⟨x, r, hx⟩ := List.exists_cons_of_ne_nil ha
  have h1 := h.n
  have h2 := h.ta
  have h3 := h.tb
  refine ⟨h.a, fun y hy => h.b y (List.mem_of_mem_tail hy), ?_, ?_, ?_⟩ <;> simp [Jo.goB, hx] at * <;> omega
theorem app1_le1 {α : Type} [Inhabited α] {enc : α → List AV} {l : List α} {cs : List AV} {x : α} (h : le0 (get cs 0) (get (enc x) 0)) :
    contLe (l.length + 1) 1 (appRow l.length (cellsOf' enc l) (fun k j => get cs (k + j))) (cellsOf' enc (l ++ [x])) := by
  have := app1_le (enc := enc) (l := l) (n := l.length) (sz := 1) (cs := cs) (x := x) rfl fun j hj => by
    obtain rfl : j = 0 := by omega
    exact h
  simpa using this
theorem rec_le {cs : List AV} {x : Rec} (h0 : le0 (get cs 0) (.y (.int .u64 x.off))) (h1 : le0 (get cs 1) (.y (.string x.key))) (h2 : le0 (get cs 2) (encBs true x.val)) (h3 : le0 (get cs 3) (.y (.int .u64 x.prod))) (h4 : le0 (get cs 4) (.y (.int .u64 x.seq))) : ∀ j, j < 5 → le0 (get cs j) (get (encR x) j) := by
  intro j hj
  match j, hj with
  | 0, _ => exact h0
  | 1, _ => exact h1
  | 2, _ => exact h2
  | 3, _ => exact h3
  | 4, _ => exact h4
theorem hd_mem {l : List Rec} (h : 0 < l.length) : hd l ∈ l := by
  cases l with
  | nil => simp at h
  | cons x r => exact List.mem_cons_self
theorem getD_any (o : Option Jo) (x y : Jo) (h : o.isSome = true) : o.getD x = o.getD y := by
  cases o with
  | none => cases h
  | some z => rfl
theorem side_le (x y : AV) : cellLe 2 (fun j => Ax.get [x, y] (0 + j)) (Ax.get [x, .junk]) := by
  intro j hj
  match j, hj with
  | 0, _ => exact le0_refl _
  | 1, _ => exact le0_junk _
end Go.Proofs.YtckklclehofddaaDoor

/-! Records: the contracts of Join: the document's loop; both. -/
namespace Go.Proofs.YtckklclehofddaaDoor
open Go.Ax
set_option maxRecDepth 1000000
theorem log_ok {a b : List Rec} (ha : isLog a = true) (hb : isLog b = true) (hn : a.length + b.length ≤ 4096) : (jo0 a b).Ok := by
  have key : ∀ l : List Rec, isLog l = true → ∀ x ∈ l, x.val.length ≤ 256 := by
    intro l hl x hx
    obtain ⟨k, hk, rfl⟩ := List.getElem_of_mem hx
    simp only [isLog, Bool.and_eq_true] at hl
    have h := hl.1
    unfold logFrom at h
    rw [List.all_eq_true] at h
    have h2 := h k (by simp; omega)
    simp [okR, hk] at h2
    exact h2.2.2
  exact ⟨key a ha, key b hb, by simp [jo0]; omega, by simp [jo0], by simp [jo0]⟩
theorem run_ok : ∀ (n : Nat) (s r : Jo), s.Ok → joinN n s = some r → s.a.length + s.b.length ≤ n → r.Ok ∧ r.out.length = s.out.length + (s.a.length + s.b.length) ∧ r.a = [] ∧ r.b = []
  | 0, s, r, hs, h, hn => by
    simp only [joinN] at h
    cases h
    have ha : s.a = [] := List.length_eq_zero_iff.1 (by omega)
    have hb : s.b = [] := List.length_eq_zero_iff.1 (by omega)
    exact ⟨hs, by simp [ha, hb], ha, hb⟩
  | n + 1, s, r, hs, h, hn => by
    simp only [joinN] at h
    split at h
    · rename_i hA
      have hne : s.a ≠ [] := by unfold Jo.tA at hA; intro e; rw [e] at hA; simp at hA
      obtain ⟨x, q, hx⟩ := List.exists_cons_of_ne_nil hne
      obtain ⟨h1, h2, h3⟩ := run_ok n _ r (ok_A hs hA) h (by simp [Jo.goA, hx] at hn ⊢; omega)
      refine ⟨h1, ?_, h3⟩
      rw [h2]
      simp [Jo.goA, hx]; omega
    · split at h
      · rename_i hB
        have hne : s.b ≠ [] := by unfold Jo.tB at hB; intro e; rw [e] at hB; simp at hB
        obtain ⟨x, q, hx⟩ := List.exists_cons_of_ne_nil hne
        obtain ⟨h1, h2, h3⟩ := run_ok n _ r (ok_B hs hB) h (by simp [Jo.goB, hx] at hn ⊢; omega)
        refine ⟨h1, ?_, h3⟩
        rw [h2]
        simp [Jo.goB, hx]; omega
      · cases h
theorem fin_ok {a b : List Rec} (hok : (jo0 a b).Ok) {r : Jo} (hr : (jo0 a b).run = some r) (h1 : a.length ≤ 4611686018427387903) (h2 : b.length ≤ 4611686018427387903) : a.length ≤ 9223372036854775806 ∧
    b.length ≤ 9223372036854775806 ∧
      (r.ta.length ≤ 9223372036854775806 ∧ (r.ta.length + 1) * 8 ≤ 140737488355328) ∧
        (r.tb.length ≤ 9223372036854775806 ∧ (r.tb.length + 1) * 8 ≤ 140737488355328) ∧
          contLe (r.ta.length + 1) 1
              (appRow r.ta.length (cellsOf' encU r.ta) fun k j =>
                Ax.get [AV.y (Value.int IntKind.u64 (IntKind.u64.wrap ↑r.out.length))] (k + j))
              (cellsOf' encU (r.ta ++ [r.at])) ∧
            contLe (r.tb.length + 1) 1
              (appRow r.tb.length (cellsOf' encU r.tb) fun k j =>
                Ax.get [AV.y (Value.int IntKind.u64 (IntKind.u64.wrap ↑r.out.length))] (k + j))
              (cellsOf' encU (r.tb ++ [r.at])) := by
  obtain ⟨ho, _⟩ := run_ok _ _ r hok hr (Nat.le_refl _)
  have := ho.n
  have := ho.ta
  have := ho.tb
  exact ⟨by omega, by omega, ⟨by omega, by omega⟩, ⟨by omega, by omega⟩, app1_le1 (le0_refl _), app1_le1 (le0_refl _)⟩
end Go.Proofs.YtckklclehofddaaDoor

/-! Records: names. -/
namespace Go.Proofs
open Go.Shelf
def Tryd.lays160_ren : Go.Shelf.Ren := ⟨fun | 160 => 64 | 232 => 66 | 231 => 65 | 227 => 67 | 234 => 69 | 233 => 68 | 236 => 71 | 235 => 70 | 228 => 72 | 271 => 75 | 151 => 74 | 197 => 73 | 120 => 78 | 152 => 77 | 260 => 76 | 137 => 79 | 119 => 80 | 224 => 81 | 225 => 82 | 217 => 83 | 266 => 84 | n => n, fun | 9 => 9 | 4 => 4 | 3 => 3 | 5 => 5 | 117 => 113 | 116 => 112 | 0 => 0 | 124 => 116 | 21 => 21 | 105 => 118 | 46 => 68 | 119 => 122 | 139 => 125 | 138 => 124 | n => n, fun | 3 => 0 | 4 => 1 | n => n⟩
theorem Tryd.lays160 : Go.Proofs.Lays.n160 Tryd.prog Tryd.lays160_ren := {
  mixed := by kernel_rfl
  f119 := Tryd.func80.trans (congrArg some (by kernel_rfl))
  f120 := Tryd.func78.trans (congrArg some (by kernel_rfl))
  f137 := Tryd.func79.trans (congrArg some (by kernel_rfl))
  f151 := Tryd.func74.trans (congrArg some (by kernel_rfl))
  f152 := Tryd.func77.trans (congrArg some (by kernel_rfl))
  f160 := Tryd.func64.trans (congrArg some (by kernel_rfl))
  f197 := Tryd.func73.trans (congrArg some (by kernel_rfl))
  f217 := Tryd.func83.trans (congrArg some (by kernel_rfl))
  f224 := Tryd.func81.trans (congrArg some (by kernel_rfl))
  f225 := Tryd.func82.trans (congrArg some (by kernel_rfl))
  f227 := Tryd.func67.trans (congrArg some (by kernel_rfl))
  f228 := Tryd.func72.trans (congrArg some (by kernel_rfl))
  f231 := Tryd.func65.trans (congrArg some (by kernel_rfl))
  f232 := Tryd.func66.trans (congrArg some (by kernel_rfl))
  f233 := Tryd.func68.trans (congrArg some (by kernel_rfl))
  f234 := Tryd.func69.trans (congrArg some (by kernel_rfl))
  f235 := Tryd.func70.trans (congrArg some (by kernel_rfl))
  f236 := Tryd.func71.trans (congrArg some (by kernel_rfl))
  f260 := Tryd.func76.trans (congrArg some (by kernel_rfl))
  f266 := Tryd.func84.trans (congrArg some (by kernel_rfl))
  f271 := Tryd.func75.trans (congrArg some (by kernel_rfl))
  t0 := Tryd.underlying0
  a0 := Tryd.isAgg0
  z0 := Tryd.sizeOf0
  v0 := Tryd.zeroValue0
  t3 := Tryd.underlying3
  a3 := Tryd.isAgg3
  z3 := Tryd.sizeOf3
  v3 := Tryd.zeroValue3
  t4 := Tryd.underlying4
  a4 := Tryd.isAgg4
  z4 := Tryd.sizeOf4
  v4 := Tryd.zeroValue4
  t5 := Tryd.underlying5
  a5 := Tryd.isAgg5
  z5 := Tryd.sizeOf5
  v5 := Tryd.zeroValue5
  t9 := Tryd.underlying9
  a9 := Tryd.isAgg9
  z9 := Tryd.sizeOf9
  v9 := Tryd.zeroValue9
  t21 := Tryd.underlying21
  a21 := Tryd.isAgg21
  z21 := Tryd.sizeOf21
  v21 := Tryd.zeroValue21
  t46 := Tryd.underlying68
  a46 := Tryd.isAgg68
  z46 := Tryd.sizeOf68
  v46 := Tryd.zeroValue68
  t105 := Tryd.underlying118
  a105 := Tryd.isAgg118
  z105 := Tryd.sizeOf118
  v105 := Tryd.zeroValue118
  t116 := Tryd.underlying112
  a116 := Tryd.isAgg112
  z116 := Tryd.sizeOf112
  t117 := Tryd.underlying113
  a117 := Tryd.isAgg113
  z117 := Tryd.sizeOf113
  v117 := Tryd.zeroValue113
  t119 := Tryd.underlying122
  a119 := Tryd.isAgg122
  z119 := Tryd.sizeOf122
  t124 := Tryd.underlying116
  a124 := Tryd.isAgg116
  z124 := Tryd.sizeOf116
  v124 := Tryd.zeroValue116
  t138 := Tryd.underlying124
  a138 := Tryd.isAgg124
  z138 := Tryd.sizeOf124
  v138 := Tryd.zeroValue124
  t139 := Tryd.underlying125
  a139 := Tryd.isAgg125
  z139 := Tryd.sizeOf125
  v139 := Tryd.zeroValue125
  g3 := by kernel_rfl
  g4 := by kernel_rfl }
end Go.Proofs
namespace Go.Proofs.YtckklclehofddaaDoor
open Go.Ax
set_option maxRecDepth 1000000
def chars : List UInt8 := [97, 98, 99, 100, 101, 102, 103, 104, 105, 106, 107, 108, 109, 110, 111, 112, 113, 114, 115, 116, 117, 118, 119, 120, 121, 122, 48, 49, 50, 51, 52, 53, 54, 55, 56, 57, 45, 95, 46]
def isCh (b : UInt8) : Bool := chars.contains b
def nameOk (s : ByteArray) : Bool := !(s.data.toList == []) && (decide ((s.size : Int) ≤ 32) && s.data.toList.all isCh)
theorem drop_all {l : List UInt8} {p : UInt8 → Bool} : (l.dropWhile p == []) = l.all p := by
  induction l with
  | nil => rfl
  | cons a l ih =>
    rw [List.dropWhile_cons, List.all_cons]
    cases h : p a
    · simp
    · simpa using ih
theorem trim_all (l : List UInt8) : (Lib.trimS l chars == []) = l.all isCh := by
  unfold Lib.trimS Lib.trimLeftS Lib.trimRightS
  rw [drop_all]
  cases h : l.all isCh
  · rw [Bool.eq_false_iff]
    intro h2
    have h3 : ∀ m : List UInt8, (m.dropWhile isCh).all isCh = true → m.all isCh = true := by
      intro m
      induction m with
      | nil => exact fun _ => rfl
      | cons a m ih =>
        rw [List.dropWhile_cons]
        cases ha : isCh a
        · intro h; simp at h; simp [ha] at h
        · intro h; simp only [List.all_cons, ha, Bool.true_and]; exact ih h
    have h4 : (l.reverse.dropWhile isCh).all isCh = true := by
      rw [← List.all_reverse]; exact h2
    have h5 := h3 _ h4
    rw [List.all_reverse] at h5
    rw [h5] at h; cases h
  · rw [List.all_reverse]
    have : l.reverse.dropWhile isCh = [] := by
      have := drop_all (l := l.reverse) (p := isCh)
      rw [List.all_reverse, h] at this
      simpa using this
    have e : l.reverse.dropWhile (fun x => chars.contains x) = [] := this
    rw [e]; rfl
def trimR (s : ByteArray) : T An := .ret (.y (.string ⟨(Lib.trimS s.data.toList chars).toArray⟩), [], [])
theorem trim_c (s : ByteArray) (hs : s.size ≤ 9223372036854775807) : (trimR s).Sat (ACall' Tryd.prog 64 [.y (.string s), .s (.string ⟨chars.toArray⟩)] []) := by
  refine call_below fun w vals hv => ?_
  obtain ⟨H, E, v, l1, e1, hv1, v2, l2, e2, hv2, e3⟩ := hv
  have e3 : l2 = [] := e3
  subst e3
  subst e2
  obtain rfl := hv1.1
  obtain rfl := hv2.1
  have hvals : vals = #[.string s, .string ⟨chars.toArray⟩] := Array.ext' e1
  subst hvals
  refine (Any.strings_Trim_laid Tryd.lays160 (by kernel_rfl) s ⟨chars.toArray⟩ w hs (by decide) (Go.Proofs.ascii_of_all (by decide))).mono ?_
  rintro e w' ⟨rfl, hb⟩
  exact ⟨_, rfl, fun _ _ => ⟨rfl, rfl⟩, hb⟩
noncomputable def trimC (s : ByteArray) : Ctr Tryd.prog := ⟨64, [.y (.string s), .s (.string ⟨chars.toArray⟩)], [], .need (s.size ≤ 9223372036854775807) (trimR s), T.Sat.need fun h => trim_c s h⟩
noncomputable def nameH (s : ByteArray) : HintsT Tryd.prog := hh _ noLp (cs1 61 1 9 (trimC s) noCs) noOp
def vcName (s : ByteArray) : Prop :=
  ((!s.data.toList == []) = true → (decide ((↑(ByteArray.size s) : Int) ≤ (32 : Int)) = true → (s = s ∧ { data := #[(97 : UInt8), (98 : UInt8), (99 : UInt8), (100 : UInt8), (101 : UInt8), (102 : UInt8), (103 : UInt8), (104 : UInt8), (105 : UInt8), (106 : UInt8), (107 : UInt8), (108 : UInt8), (109 : UInt8), (110 : UInt8), (111 : UInt8), (112 : UInt8), (113 : UInt8), (114 : UInt8), (115 : UInt8), (116 : UInt8), (117 : UInt8), (118 : UInt8), (119 : UInt8), (120 : UInt8), (121 : UInt8), (122 : UInt8), (48 : UInt8), (49 : UInt8), (50 : UInt8), (51 : UInt8), (52 : UInt8), (53 : UInt8), (54 : UInt8), (55 : UInt8), (56 : UInt8), (57 : UInt8), (45 : UInt8), (95 : UInt8), (46 : UInt8)] : ByteArray } = { data := #[(97 : UInt8), (98 : UInt8), (99 : UInt8), (100 : UInt8), (101 : UInt8), (102 : UInt8), (103 : UInt8), (104 : UInt8), (105 : UInt8), (106 : UInt8), (107 : UInt8), (108 : UInt8), (109 : UInt8), (110 : UInt8), (111 : UInt8), (112 : UInt8), (113 : UInt8), (114 : UInt8), (115 : UInt8), (116 : UInt8), (117 : UInt8), (118 : UInt8), (119 : UInt8), (120 : UInt8), (121 : UInt8), (122 : UInt8), (48 : UInt8), (49 : UInt8), (50 : UInt8), (51 : UInt8), (52 : UInt8), (53 : UInt8), (54 : UInt8), (55 : UInt8), (56 : UInt8), (57 : UInt8), (45 : UInt8), (95 : UInt8), (46 : UInt8)] : ByteArray } ∧ True) ∧ True ∧ ByteArray.size s ≤ (9223372036854775807 : Nat) ∧ (Lib.trimS s.data.toList [(97 : UInt8), (98 : UInt8), (99 : UInt8), (100 : UInt8), (101 : UInt8), (102 : UInt8), (103 : UInt8), (104 : UInt8), (105 : UInt8), (106 : UInt8), (107 : UInt8), (108 : UInt8), (109 : UInt8), (110 : UInt8), (111 : UInt8), (112 : UInt8), (113 : UInt8), (114 : UInt8), (115 : UInt8), (116 : UInt8), (117 : UInt8), (118 : UInt8), (119 : UInt8), (120 : UInt8), (121 : UInt8), (122 : UInt8), (48 : UInt8), (49 : UInt8), (50 : UInt8), (51 : UInt8), (52 : UInt8), (53 : UInt8), (54 : UInt8), (55 : UInt8), (56 : UInt8), (57 : UInt8), (45 : UInt8), (95 : UInt8), (46 : UInt8)] == []) = nameOk s ∧ True) ∧ (decide ((↑(ByteArray.size s) : Int) ≤ (32 : Int)) = false → false = nameOk s ∧ True)) ∧ ((!s.data.toList == []) = false → false = nameOk s ∧ True)
set_option maxRecDepth 1000000 in
theorem vcName_eq (s : ByteArray) : (ctrVC Tryd.prog (nameH s) 61 [.y (.string s)] [] (boolR (nameOk s))) = vcName s := by kernel_rfl
/-! the document's -/
def chI (c : Int) : Bool := !((decide (c < 97) || decide (122 < c)) && ((decide (c < 48) || decide (57 < c)) && (c != 45 && (c != 95 && c != 46))))
def nmFrom (s : ByteArray) (k : Nat) : Bool := (s.data.toList.drop k).all isCh
def nmT (s : ByteArray) (k : Nat) : List AV := mkT 48 [(0, .y (.string s)), (2, .s (.bool false)), (3, .y (.int .i64 k))]
def nmS (r : Bool) : Exit × List AV × List Blk := match r with
  | true => (.exit 0, mkT 48 [], [])
  | false => (.ret, mkT 48 [(2, .s (.bool false))], [])
def nmO (s : ByteArray) (k : Nat) : T Bool := .ite (nmFrom s k) (.ret true) (.ret false)
def vcNmL (s : ByteArray) (k : Nat) : Prop :=
  (decide ((↑k : Int) < (↑(ByteArray.size s) : Int)) = true → (true && decide ((↑k : Int) < (↑(ByteArray.size s) : Int))) = true ∧ (decide ((↑(UInt8.toNat (List.getD s.data.toList (Int.toNat (↑k : Int)) (0 : UInt8))) : Int) < (97 : Int)) = true → (decide ((↑(UInt8.toNat (List.getD s.data.toList (Int.toNat (↑k : Int)) (0 : UInt8))) : Int) < (48 : Int)) = true → (((↑(UInt8.toNat (List.getD s.data.toList (Int.toNat (↑k : Int)) (0 : UInt8))) : Int) != (45 : Int)) = true → (((↑(UInt8.toNat (List.getD s.data.toList (Int.toNat (↑k : Int)) (0 : UInt8))) : Int) != (95 : Int)) = true → (((↑(UInt8.toNat (List.getD s.data.toList (Int.toNat (↑k : Int)) (0 : UInt8))) : Int) != (46 : Int)) = true → (nmFrom s k = true → False) ∧ (nmFrom s k = false → (false = false ∧ True) ∧ True ∧ true = true)) ∧ (((↑(UInt8.toNat (List.getD s.data.toList (Int.toNat (↑k : Int)) (0 : UInt8))) : Int) != (46 : Int)) = false → ∃ (j : Nat), ByteArray.size s - j < ByteArray.size s - k ∧ ((s = s ∧ false = false ∧ IntKind.wrap IntKind.i64 ((↑k : Int) + (1 : Int)) = (↑j : Int) ∧ True) ∧ True ∧ true = true) ∧ true = true ∧ (nmFrom s j = true → (nmFrom s k = true → true = true) ∧ (nmFrom s k = false → true = false)) ∧ (nmFrom s j = false → (nmFrom s k = true → false = true) ∧ (nmFrom s k = false → false = false)))) ∧ (((↑(UInt8.toNat (List.getD s.data.toList (Int.toNat (↑k : Int)) (0 : UInt8))) : Int) != (95 : Int)) = false → ∃ (j : Nat), ByteArray.size s - j < ByteArray.size s - k ∧ ((s = s ∧ false = false ∧ IntKind.wrap IntKind.i64 ((↑k : Int) + (1 : Int)) = (↑j : Int) ∧ True) ∧ True ∧ true = true) ∧ true = true ∧ (nmFrom s j = true → (nmFrom s k = true → true = true) ∧ (nmFrom s k = false → true = false)) ∧ (nmFrom s j = false → (nmFrom s k = true → false = true) ∧ (nmFrom s k = false → false = false)))) ∧ (((↑(UInt8.toNat (List.getD s.data.toList (Int.toNat (↑k : Int)) (0 : UInt8))) : Int) != (45 : Int)) = false → ∃ (j : Nat), ByteArray.size s - j < ByteArray.size s - k ∧ ((s = s ∧ false = false ∧ IntKind.wrap IntKind.i64 ((↑k : Int) + (1 : Int)) = (↑j : Int) ∧ True) ∧ True ∧ true = true) ∧ true = true ∧ (nmFrom s j = true → (nmFrom s k = true → true = true) ∧ (nmFrom s k = false → true = false)) ∧ (nmFrom s j = false → (nmFrom s k = true → false = true) ∧ (nmFrom s k = false → false = false)))) ∧ (decide ((↑(UInt8.toNat (List.getD s.data.toList (Int.toNat (↑k : Int)) (0 : UInt8))) : Int) < (48 : Int)) = false → (decide ((57 : Int) < (↑(UInt8.toNat (List.getD s.data.toList (Int.toNat (↑k : Int)) (0 : UInt8))) : Int)) = true → (((↑(UInt8.toNat (List.getD s.data.toList (Int.toNat (↑k : Int)) (0 : UInt8))) : Int) != (45 : Int)) = true → (((↑(UInt8.toNat (List.getD s.data.toList (Int.toNat (↑k : Int)) (0 : UInt8))) : Int) != (95 : Int)) = true → (((↑(UInt8.toNat (List.getD s.data.toList (Int.toNat (↑k : Int)) (0 : UInt8))) : Int) != (46 : Int)) = true → (nmFrom s k = true → False) ∧ (nmFrom s k = false → (false = false ∧ True) ∧ True ∧ true = true)) ∧ (((↑(UInt8.toNat (List.getD s.data.toList (Int.toNat (↑k : Int)) (0 : UInt8))) : Int) != (46 : Int)) = false → ∃ (j : Nat), ByteArray.size s - j < ByteArray.size s - k ∧ ((s = s ∧ false = false ∧ IntKind.wrap IntKind.i64 ((↑k : Int) + (1 : Int)) = (↑j : Int) ∧ True) ∧ True ∧ true = true) ∧ true = true ∧ (nmFrom s j = true → (nmFrom s k = true → true = true) ∧ (nmFrom s k = false → true = false)) ∧ (nmFrom s j = false → (nmFrom s k = true → false = true) ∧ (nmFrom s k = false → false = false)))) ∧ (((↑(UInt8.toNat (List.getD s.data.toList (Int.toNat (↑k : Int)) (0 : UInt8))) : Int) != (95 : Int)) = false → ∃ (j : Nat), ByteArray.size s - j < ByteArray.size s - k ∧ ((s = s ∧ false = false ∧ IntKind.wrap IntKind.i64 ((↑k : Int) + (1 : Int)) = (↑j : Int) ∧ True) ∧ True ∧ true = true) ∧ true = true ∧ (nmFrom s j = true → (nmFrom s k = true → true = true) ∧ (nmFrom s k = false → true = false)) ∧ (nmFrom s j = false → (nmFrom s k = true → false = true) ∧ (nmFrom s k = false → false = false)))) ∧ (((↑(UInt8.toNat (List.getD s.data.toList (Int.toNat (↑k : Int)) (0 : UInt8))) : Int) != (45 : Int)) = false → ∃ (j : Nat), ByteArray.size s - j < ByteArray.size s - k ∧ ((s = s ∧ false = false ∧ IntKind.wrap IntKind.i64 ((↑k : Int) + (1 : Int)) = (↑j : Int) ∧ True) ∧ True ∧ true = true) ∧ true = true ∧ (nmFrom s j = true → (nmFrom s k = true → true = true) ∧ (nmFrom s k = false → true = false)) ∧ (nmFrom s j = false → (nmFrom s k = true → false = true) ∧ (nmFrom s k = false → false = false)))) ∧ (decide ((57 : Int) < (↑(UInt8.toNat (List.getD s.data.toList (Int.toNat (↑k : Int)) (0 : UInt8))) : Int)) = false → ∃ (j : Nat), ByteArray.size s - j < ByteArray.size s - k ∧ ((s = s ∧ false = false ∧ IntKind.wrap IntKind.i64 ((↑k : Int) + (1 : Int)) = (↑j : Int) ∧ True) ∧ True ∧ true = true) ∧ true = true ∧ (nmFrom s j = true → (nmFrom s k = true → true = true) ∧ (nmFrom s k = false → true = false)) ∧ (nmFrom s j = false → (nmFrom s k = true → false = true) ∧ (nmFrom s k = false → false = false))))) ∧ (decide ((↑(UInt8.toNat (List.getD s.data.toList (Int.toNat (↑k : Int)) (0 : UInt8))) : Int) < (97 : Int)) = false → (decide ((122 : Int) < (↑(UInt8.toNat (List.getD s.data.toList (Int.toNat (↑k : Int)) (0 : UInt8))) : Int)) = true → (decide ((↑(UInt8.toNat (List.getD s.data.toList (Int.toNat (↑k : Int)) (0 : UInt8))) : Int) < (48 : Int)) = true → (((↑(UInt8.toNat (List.getD s.data.toList (Int.toNat (↑k : Int)) (0 : UInt8))) : Int) != (45 : Int)) = true → (((↑(UInt8.toNat (List.getD s.data.toList (Int.toNat (↑k : Int)) (0 : UInt8))) : Int) != (95 : Int)) = true → (((↑(UInt8.toNat (List.getD s.data.toList (Int.toNat (↑k : Int)) (0 : UInt8))) : Int) != (46 : Int)) = true → (nmFrom s k = true → False) ∧ (nmFrom s k = false → (false = false ∧ True) ∧ True ∧ true = true)) ∧ (((↑(UInt8.toNat (List.getD s.data.toList (Int.toNat (↑k : Int)) (0 : UInt8))) : Int) != (46 : Int)) = false → ∃ (j : Nat), ByteArray.size s - j < ByteArray.size s - k ∧ ((s = s ∧ false = false ∧ IntKind.wrap IntKind.i64 ((↑k : Int) + (1 : Int)) = (↑j : Int) ∧ True) ∧ True ∧ true = true) ∧ true = true ∧ (nmFrom s j = true → (nmFrom s k = true → true = true) ∧ (nmFrom s k = false → true = false)) ∧ (nmFrom s j = false → (nmFrom s k = true → false = true) ∧ (nmFrom s k = false → false = false)))) ∧ (((↑(UInt8.toNat (List.getD s.data.toList (Int.toNat (↑k : Int)) (0 : UInt8))) : Int) != (95 : Int)) = false → ∃ (j : Nat), ByteArray.size s - j < ByteArray.size s - k ∧ ((s = s ∧ false = false ∧ IntKind.wrap IntKind.i64 ((↑k : Int) + (1 : Int)) = (↑j : Int) ∧ True) ∧ True ∧ true = true) ∧ true = true ∧ (nmFrom s j = true → (nmFrom s k = true → true = true) ∧ (nmFrom s k = false → true = false)) ∧ (nmFrom s j = false → (nmFrom s k = true → false = true) ∧ (nmFrom s k = false → false = false)))) ∧ (((↑(UInt8.toNat (List.getD s.data.toList (Int.toNat (↑k : Int)) (0 : UInt8))) : Int) != (45 : Int)) = false → ∃ (j : Nat), ByteArray.size s - j < ByteArray.size s - k ∧ ((s = s ∧ false = false ∧ IntKind.wrap IntKind.i64 ((↑k : Int) + (1 : Int)) = (↑j : Int) ∧ True) ∧ True ∧ true = true) ∧ true = true ∧ (nmFrom s j = true → (nmFrom s k = true → true = true) ∧ (nmFrom s k = false → true = false)) ∧ (nmFrom s j = false → (nmFrom s k = true → false = true) ∧ (nmFrom s k = false → false = false)))) ∧ (decide ((↑(UInt8.toNat (List.getD s.data.toList (Int.toNat (↑k : Int)) (0 : UInt8))) : Int) < (48 : Int)) = false → (decide ((57 : Int) < (↑(UInt8.toNat (List.getD s.data.toList (Int.toNat (↑k : Int)) (0 : UInt8))) : Int)) = true → (((↑(UInt8.toNat (List.getD s.data.toList (Int.toNat (↑k : Int)) (0 : UInt8))) : Int) != (45 : Int)) = true → (((↑(UInt8.toNat (List.getD s.data.toList (Int.toNat (↑k : Int)) (0 : UInt8))) : Int) != (95 : Int)) = true → (((↑(UInt8.toNat (List.getD s.data.toList (Int.toNat (↑k : Int)) (0 : UInt8))) : Int) != (46 : Int)) = true → (nmFrom s k = true → False) ∧ (nmFrom s k = false → (false = false ∧ True) ∧ True ∧ true = true)) ∧ (((↑(UInt8.toNat (List.getD s.data.toList (Int.toNat (↑k : Int)) (0 : UInt8))) : Int) != (46 : Int)) = false → ∃ (j : Nat), ByteArray.size s - j < ByteArray.size s - k ∧ ((s = s ∧ false = false ∧ IntKind.wrap IntKind.i64 ((↑k : Int) + (1 : Int)) = (↑j : Int) ∧ True) ∧ True ∧ true = true) ∧ true = true ∧ (nmFrom s j = true → (nmFrom s k = true → true = true) ∧ (nmFrom s k = false → true = false)) ∧ (nmFrom s j = false → (nmFrom s k = true → false = true) ∧ (nmFrom s k = false → false = false)))) ∧ (((↑(UInt8.toNat (List.getD s.data.toList (Int.toNat (↑k : Int)) (0 : UInt8))) : Int) != (95 : Int)) = false → ∃ (j : Nat), ByteArray.size s - j < ByteArray.size s - k ∧ ((s = s ∧ false = false ∧ IntKind.wrap IntKind.i64 ((↑k : Int) + (1 : Int)) = (↑j : Int) ∧ True) ∧ True ∧ true = true) ∧ true = true ∧ (nmFrom s j = true → (nmFrom s k = true → true = true) ∧ (nmFrom s k = false → true = false)) ∧ (nmFrom s j = false → (nmFrom s k = true → false = true) ∧ (nmFrom s k = false → false = false)))) ∧ (((↑(UInt8.toNat (List.getD s.data.toList (Int.toNat (↑k : Int)) (0 : UInt8))) : Int) != (45 : Int)) = false → ∃ (j : Nat), ByteArray.size s - j < ByteArray.size s - k ∧ ((s = s ∧ false = false ∧ IntKind.wrap IntKind.i64 ((↑k : Int) + (1 : Int)) = (↑j : Int) ∧ True) ∧ True ∧ true = true) ∧ true = true ∧ (nmFrom s j = true → (nmFrom s k = true → true = true) ∧ (nmFrom s k = false → true = false)) ∧ (nmFrom s j = false → (nmFrom s k = true → false = true) ∧ (nmFrom s k = false → false = false)))) ∧ (decide ((57 : Int) < (↑(UInt8.toNat (List.getD s.data.toList (Int.toNat (↑k : Int)) (0 : UInt8))) : Int)) = false → ∃ (j : Nat), ByteArray.size s - j < ByteArray.size s - k ∧ ((s = s ∧ false = false ∧ IntKind.wrap IntKind.i64 ((↑k : Int) + (1 : Int)) = (↑j : Int) ∧ True) ∧ True ∧ true = true) ∧ true = true ∧ (nmFrom s j = true → (nmFrom s k = true → true = true) ∧ (nmFrom s k = false → true = false)) ∧ (nmFrom s j = false → (nmFrom s k = true → false = true) ∧ (nmFrom s k = false → false = false))))) ∧ (decide ((122 : Int) < (↑(UInt8.toNat (List.getD s.data.toList (Int.toNat (↑k : Int)) (0 : UInt8))) : Int)) = false → ∃ (j : Nat), ByteArray.size s - j < ByteArray.size s - k ∧ ((s = s ∧ false = false ∧ IntKind.wrap IntKind.i64 ((↑k : Int) + (1 : Int)) = (↑j : Int) ∧ True) ∧ True ∧ true = true) ∧ true = true ∧ (nmFrom s j = true → (nmFrom s k = true → true = true) ∧ (nmFrom s k = false → true = false)) ∧ (nmFrom s j = false → (nmFrom s k = true → false = true) ∧ (nmFrom s k = false → false = false))))) ∧ (decide ((↑k : Int) < (↑(ByteArray.size s) : Int)) = false → (nmFrom s k = true → True ∧ True ∧ true = true) ∧ (nmFrom s k = false → False))
set_option maxRecDepth 1000000 in
theorem vcNmL_eq (s : ByteArray) (k : Nat) : (loopVC Tryd.prog (hT _) 56 4 (fun k => s.size - k) (nmT s) (fun _ => []) [0] (nmO s) nmS k) = vcNmL s k := by kernel_rfl
noncomputable def nmH (s : ByteArray) : HintsT Tryd.prog := hh _ (lp1 56 4 (jobOf (nmT s) (fun _ => []) [0] (nmO s) nmS 0) noLp) noCs noOp
def vcNm (s : ByteArray) : Prop :=
  (decide ((↑(ByteArray.size s) : Int) < (1 : Int)) = true → false = nameOk s ∧ True) ∧ (decide ((↑(ByteArray.size s) : Int) < (1 : Int)) = false → (decide ((32 : Int) < (↑(ByteArray.size s) : Int)) = true → false = nameOk s ∧ True) ∧ (decide ((32 : Int) < (↑(ByteArray.size s) : Int)) = false → ((s = s ∧ false = false ∧ (0 : Int) = (0 : Int) ∧ True) ∧ True ∧ true = true) ∧ LoopOk Tryd.prog (56 : Nat) (4 : Nat) (loopAt Tryd.prog (56 : Nat) (4 : Nat)) { t := nmT s (0 : Nat), m := [], mv := [] : St } (T.map (lout [(0 : Nat)] nmS) (nmO s (0 : Nat))) ∧ (nmFrom s (0 : Nat) = true → true = nameOk s ∧ True) ∧ (nmFrom s (0 : Nat) = false → false = nameOk s ∧ True)))
set_option maxRecDepth 1000000 in
theorem vcNm_eq (s : ByteArray) : (ctrVC Tryd.prog (nmH s) 56 [.y (.string s)] [] (boolR (nameOk s))) = vcNm s := by kernel_rfl
end Go.Proofs.YtckklclehofddaaDoor

/-! Records: names: the contracts. -/
namespace Go.Proofs.YtckklclehofddaaDoor
open Go.Ax
set_option maxRecDepth 1000000
theorem name_c (s : ByteArray) : (boolR (nameOk s)).Sat (ACall' Tryd.prog 61 [.y (.string s)] []) := by
  refine ctr_vc (ht := nameH s) Tryd.mixed rfl ?_
  rw [vcName_eq s]
  unfold vcName
  have e := trim_all s.data.toList
  unfold chars at e
  simp only [e, nameOk]
  generalize (s.data.toList == []) = a
  generalize hb : decide ((s.size : Int) ≤ 32) = b
  generalize s.data.toList.all isCh = c
  cases a <;> cases b <;> cases c <;> simp at hb ⊢ <;> omega
theorem ch_eq (b : UInt8) : isCh b = chI (b.toNat : Nat) := by
  have : ∀ n : Fin 256, isCh (UInt8.ofNat n.1) = chI (n.1 : Nat) := by decide +kernel
  have h := this ⟨b.toNat, b.toNat_lt⟩
  simpa using h
theorem nmFrom_end {s : ByteArray} {k : Nat} (h : s.size ≤ k) : nmFrom s k = true := by
  unfold nmFrom
  rw [List.drop_eq_nil_of_le (by simpa using h)]
  rfl
theorem nmFrom_step {s : ByteArray} {k : Nat} (h : k < s.size) : nmFrom s k = (chI ((s.data.toList.getD k 0).toNat : Nat) && nmFrom s (k + 1)) := by
  unfold nmFrom
  have hk : k < s.data.toList.length := by simpa using h
  rw [List.drop_eq_getElem_cons hk, List.all_cons, ch_eq]
  simp [List.getElem?_eq_getElem hk]
theorem nm_loop (s : ByteArray) (hs : s.size ≤ 32) (k : Nat) : LoopOk Tryd.prog 56 4 (loopAt Tryd.prog 56 4) ⟨nmT s k, [], []⟩ ((nmO s k).map (lout [0] nmS)) := by
  refine loop_vc Tryd.mixed (fun _ => rfl) (fun k => (vcNmL_eq s k).mpr ?_) k
  unfold vcNmL
  by_cases h : k < s.size
  · have h1 : decide ((k : Int) < (s.size : Int)) = true := by simp; omega
    simp only [h1, nmFrom_step h, chI, Int.toNat_natCast]
    have hw : IntKind.i64.wrap ((k : Int) + 1) = ((k + 1 : Nat) : Int) := by rw [wrap_i64 (by omega) (by omega)]; omega
    have hex : ∀ q : Nat → Prop, q (k + 1) → ∃ j, s.size - j < s.size - k ∧ q j := fun q h => ⟨k + 1, by omega, h⟩
    generalize decide (((s.data.toList.getD k 0).toNat : Int) < 97) = b1
    generalize decide (122 < ((s.data.toList.getD k 0).toNat : Int)) = b2
    generalize decide (((s.data.toList.getD k 0).toNat : Int) < 48) = b3
    generalize decide (57 < ((s.data.toList.getD k 0).toNat : Int)) = b4
    generalize (((s.data.toList.getD k 0).toNat : Int) != 45) = b5
    generalize (((s.data.toList.getD k 0).toNat : Int) != 95) = b6
    generalize (((s.data.toList.getD k 0).toNat : Int) != 46) = b7
    cases b1 <;> cases b2 <;> cases b3 <;> cases b4 <;> cases b5 <;> cases b6 <;> cases b7 <;> simp <;> exact ⟨k + 1, by omega, hw, by simp, by simp⟩
  · have h1 : decide ((k : Int) < (s.size : Int)) = false := by simp; omega
    simp [h1, nmFrom_end (show s.size ≤ k by omega)]
    exact fun e => absurd e h
theorem nm_c (s : ByteArray) : (boolR (nameOk s)).Sat (ACall' Tryd.prog 56 [.y (.string s)] []) := by
  refine ctr_vc (ht := nmH s) Tryd.mixed rfl ?_
  rw [vcNm_eq s]
  unfold vcNm
  by_cases h : s.size ≤ 32
  · have lp := nm_loop s h 0
    have h2 : ¬ ((32 : Int) < s.size) := by omega
    have hl : s.data.toList.length = s.size := Array.length_toList
    have h5 : nmFrom s 0 = s.data.toList.all isCh := rfl
    rw [h5] at *
    have h6 : decide ((s.size : Int) ≤ 32) = true := by simp; omega
    by_cases hz : (s.size : Int) < 1
    · have h3 : (s.data.toList == []) = true := by
        rw [beq_iff_eq]; exact List.length_eq_zero_iff.1 (by omega)
      simp only [nameOk, h3, h6]
      simp [hz]
    · have h3 : (s.data.toList == []) = false := by
        rw [beq_eq_false_iff_ne]; intro e; rw [e] at hl; simp at hl; omega
      simp only [nameOk, h3, h6]
      generalize s.data.toList.all isCh = c at *
      cases c <;> simp [hz, h2, lp]
  · have h2 : (32 : Int) < s.size := by omega
    have h3 : ¬ ((s.size : Int) ≤ 32) := by omega
    simp [nameOk, h2, h3]
noncomputable def nameC (s : ByteArray) : Ctr Tryd.prog := ⟨61, [.y (.string s)], [], boolR (nameOk s), name_c s⟩
noncomputable def nmC (s : ByteArray) : Ctr Tryd.prog := ⟨56, [.y (.string s)], [], boolR (nameOk s), nm_c s⟩
end Go.Proofs.YtckklclehofddaaDoor

/-! Records: alike; grown; the law RecordsFull: the conditions. -/
namespace Go.Proofs.YtckklclehofddaaDoor
open Go.Ax
set_option maxRecDepth 1000000
def smT (b1 b2 : Bool) (a : List Rec) (k : Nat) : List AV := mkT 82 [(0, encRs b1 a), (1, encRs b2 a), (5, .y (.int .i64 k))]
def smS (_ : Unit) : Exit × List AV × List Blk := (.exit 0, mkT 82 [], [])
def vcSameL (b1 : Bool) (b2 : Bool) (a : List Rec) (k : Nat) : Prop :=
  (decide ((↑k : Int) < (↑(List.length a) : Int)) = true →
      (true && decide ((↑k : Int) < (↑(List.length a) : Int))) = true ∧
        (true && decide ((↑k : Int) < (↑(List.length a) : Int))) = true ∧
          (((List.getD a (Int.toNat (↑k : Int)) (@default Rec instInhabitedRec)).off != (List.getD a (Int.toNat (↑k : Int)) (@default Rec instInhabitedRec)).off) = true → False) ∧
            (((List.getD a (Int.toNat (↑k : Int)) (@default Rec instInhabitedRec)).off != (List.getD a (Int.toNat (↑k : Int)) (@default Rec instInhabitedRec)).off) = false →
              (true && decide ((↑k : Int) < (↑(List.length a) : Int))) = true ∧
                (true && decide ((↑k : Int) < (↑(List.length a) : Int))) = true ∧
                  ((!(List.getD a (Int.toNat (↑k : Int)) (@default Rec instInhabitedRec)).key.data.toList == (List.getD a (Int.toNat (↑k : Int)) (@default Rec instInhabitedRec)).key.data.toList) = true → False) ∧
                    ((!(List.getD a (Int.toNat (↑k : Int)) (@default Rec instInhabitedRec)).key.data.toList == (List.getD a (Int.toNat (↑k : Int)) (@default Rec instInhabitedRec)).key.data.toList) = false →
                      (true && decide ((↑k : Int) < (↑(List.length a) : Int))) = true ∧
                        (∀ (k_1 : Nat), k_1 < List.length (List.getD a (Int.toNat (↑k : Int)) (@default Rec instInhabitedRec)).val → true = true) ∧
                          (true && decide ((↑k : Int) < (↑(List.length a) : Int))) = true ∧
                            (∀ (k_1 : Nat), k_1 < List.length (List.getD a (Int.toNat (↑k : Int)) (@default Rec instInhabitedRec)).val → true = true) ∧
                              ((!List.map
                                          (fun (a : AV) =>
                                            match
                                              match a with
                                              | AV.s (Value.int IntKind.u8 n) => some n
                                              | AV.y (Value.int IntKind.u8 n) => some n
                                              | x => none with
                                            | some n => UInt8.ofNat (Int.toNat n)
                                            | none => (0 : UInt8))
                                          (List.map (fun (k_1 : Nat) => AV.y (Value.int IntKind.u8 (List.getD (List.getD a (Int.toNat (↑k : Int)) (@default Rec instInhabitedRec)).val k_1 (0 : Int)))) (List.range (List.length (List.getD a (Int.toNat (↑k : Int)) (@default Rec instInhabitedRec)).val))) ==
                                        List.map
                                          (fun (a : AV) =>
                                            match
                                              match a with
                                              | AV.s (Value.int IntKind.u8 n) => some n
                                              | AV.y (Value.int IntKind.u8 n) => some n
                                              | x => none with
                                            | some n => UInt8.ofNat (Int.toNat n)
                                            | none => (0 : UInt8))
                                          (List.map (fun (k_1 : Nat) => AV.y (Value.int IntKind.u8 (List.getD (List.getD a (Int.toNat (↑k : Int)) (@default Rec instInhabitedRec)).val k_1 (0 : Int)))) (List.range (List.length (List.getD a (Int.toNat (↑k : Int)) (@default Rec instInhabitedRec)).val)))) =
                                    true →
                                  False) ∧
                                ((!List.map
                                          (fun (a : AV) =>
                                            match
                                              match a with
                                              | AV.s (Value.int IntKind.u8 n) => some n
                                              | AV.y (Value.int IntKind.u8 n) => some n
                                              | x => none with
                                            | some n => UInt8.ofNat (Int.toNat n)
                                            | none => (0 : UInt8))
                                          (List.map (fun (k_1 : Nat) => AV.y (Value.int IntKind.u8 (List.getD (List.getD a (Int.toNat (↑k : Int)) (@default Rec instInhabitedRec)).val k_1 (0 : Int)))) (List.range (List.length (List.getD a (Int.toNat (↑k : Int)) (@default Rec instInhabitedRec)).val))) ==
                                        List.map
                                          (fun (a : AV) =>
                                            match
                                              match a with
                                              | AV.s (Value.int IntKind.u8 n) => some n
                                              | AV.y (Value.int IntKind.u8 n) => some n
                                              | x => none with
                                            | some n => UInt8.ofNat (Int.toNat n)
                                            | none => (0 : UInt8))
                                          (List.map (fun (k_1 : Nat) => AV.y (Value.int IntKind.u8 (List.getD (List.getD a (Int.toNat (↑k : Int)) (@default Rec instInhabitedRec)).val k_1 (0 : Int)))) (List.range (List.length (List.getD a (Int.toNat (↑k : Int)) (@default Rec instInhabitedRec)).val)))) =
                                    false →
                                  (true && decide ((↑k : Int) < (↑(List.length a) : Int))) = true ∧ (true && decide ((↑k : Int) < (↑(List.length a) : Int))) = true ∧ (((List.getD a (Int.toNat (↑k : Int)) (@default Rec instInhabitedRec)).prod != (List.getD a (Int.toNat (↑k : Int)) (@default Rec instInhabitedRec)).prod) = true → False) ∧ (((List.getD a (Int.toNat (↑k : Int)) (@default Rec instInhabitedRec)).prod != (List.getD a (Int.toNat (↑k : Int)) (@default Rec instInhabitedRec)).prod) = false → (true && decide ((↑k : Int) < (↑(List.length a) : Int))) = true ∧ (true && decide ((↑k : Int) < (↑(List.length a) : Int))) = true ∧ (((List.getD a (Int.toNat (↑k : Int)) (@default Rec instInhabitedRec)).seq != (List.getD a (Int.toNat (↑k : Int)) (@default Rec instInhabitedRec)).seq) = true → False) ∧ (((List.getD a (Int.toNat (↑k : Int)) (@default Rec instInhabitedRec)).seq != (List.getD a (Int.toNat (↑k : Int)) (@default Rec instInhabitedRec)).seq) = false → ∃ (j : Nat), List.length a - j < List.length a - k ∧ (((b1 = b1 ∧ List.length a = List.length a ∧ contLe (List.length a) (5 : Nat) (cellsOf' encR a) (cellsOf' encR a)) ∧ (b2 = b2 ∧ List.length a = List.length a ∧ contLe (List.length a) (5 : Nat) (cellsOf' encR a) (cellsOf' encR a)) ∧ IntKind.wrap IntKind.i64 ((↑k : Int) + (1 : Int)) = (↑j : Int) ∧ True) ∧ True ∧ true = true) ∧ true = true ∧ () = ())))))) ∧
    (decide ((↑k : Int) < (↑(List.length a) : Int)) = false → True ∧ True ∧ true = true)
set_option maxRecDepth 1000000 in
theorem vcSameL_eq (b1 : Bool) (b2 : Bool) (a : List Rec) (k : Nat) : (loopVC Tryd.prog (hT _) 26 4 (fun k => a.length - k) (smT b1 b2 a) (fun _ => []) [0] (fun _ => .ret ()) smS k) = vcSameL b1 b2 a k := by kernel_rfl
noncomputable def smH (b1 b2 : Bool) (a : List Rec) : HintsT Tryd.prog := hh _ (lp1 26 4 (jobOf (smT b1 b2 a) (fun _ => []) [0] (fun _ => .ret ()) smS 0) noLp) noCs noOp
def vcSame (b1 : Bool) (b2 : Bool) (a : List Rec) : Prop :=
  (((↑(List.length a) : Int) != (↑(List.length a) : Int)) = true → false = true ∧ True) ∧ (((↑(List.length a) : Int) != (↑(List.length a) : Int)) = false → (((b1 = b1 ∧ List.length a = List.length a ∧ contLe (List.length a) (5 : Nat) (cellsOf' encR a) (cellsOf' encR a)) ∧ (b2 = b2 ∧ List.length a = List.length a ∧ contLe (List.length a) (5 : Nat) (cellsOf' encR a) (cellsOf' encR a)) ∧ (0 : Int) = (0 : Int) ∧ True) ∧ True ∧ true = true) ∧ LoopOk Tryd.prog (26 : Nat) (4 : Nat) (loopAt Tryd.prog (26 : Nat) (4 : Nat)) { t := smT b1 b2 a (0 : Nat), m := [], mv := [] : St } (T.map (lout [(0 : Nat)] smS) ((fun (x : Nat) => T.ret ()) (0 : Nat))) ∧ true = true ∧ True)
set_option maxRecDepth 1000000 in
theorem vcSame_eq (b1 : Bool) (b2 : Bool) (a : List Rec) : (ctrVC Tryd.prog (smH b1 b2 a) 26 [encRs b1 a, encRs b2 a] [] (boolR true)) = vcSame b1 b2 a := by kernel_rfl
def stT (b1 b2 : Bool) (a : List Int) (k : Nat) : List AV := mkT 26 [(0, encUs b1 a), (1, encUs b2 a), (5, .y (.int .i64 k))]
def stS (_ : Unit) : Exit × List AV × List Blk := (.exit 0, mkT 26 [], [])
theorem same_loop (b1 b2 : Bool) (a : List Rec) (hl : a.length ≤ 9223372036854775806) (k : Nat) : LoopOk Tryd.prog 26 4 (loopAt Tryd.prog 26 4) ⟨smT b1 b2 a k, [], []⟩ (T.map (lout [0] smS) (.ret ())) := by
  refine loop_vc (o := fun _ => .ret ()) Tryd.mixed (fun _ => rfl) (fun k => (vcSameL_eq b1 b2 a k).mpr ?_) k
  unfold vcSameL
  simp
  intro h
  have hb : ∀ q : Nat, isU8 (cellsOf' encB (a[k]?.getD default).val q 0) = true := fun _ => rfl
  simp [h, hb]
  exact ⟨k + 1, by omega, by rw [wrap_i64 (by omega) (by omega)]; omega⟩
theorem same_c (b1 b2 : Bool) (a : List Rec) (hl : a.length ≤ 9223372036854775806) : (boolR true).Sat (ACall' Tryd.prog 26 [encRs b1 a, encRs b2 a] []) := by
  refine ctr_vc (ht := smH b1 b2 a) Tryd.mixed rfl ?_
  rw [vcSame_eq b1 b2 a]
  unfold vcSame
  simp [same_loop b1 b2 a hl 0]
noncomputable def sameC (b1 b2 : Bool) (a b : List Rec) : Ctr Tryd.prog := ⟨26, [encRs b1 a, encRs b2 b], [], .need (a.length ≤ 9223372036854775806 ∧ a = b) (boolR true), T.Sat.need fun h => by obtain ⟨h1, rfl⟩ := h; exact same_c b1 b2 a h1⟩
/-! grown out of nothing -/
def kB : ByteArray := ⟨#[107]⟩
def grR (i : Nat) : Rec := ⟨IntKind.u64.wrap i, kB, [], 9, IntKind.u64.wrap i⟩
def grL (n : Nat) : List Rec := (List.range n).map grR
def grM (m : Int) : Int := (IntKind.i64.wrap m).tmod 4099
theorem gr_len (n : Nat) : (grL n).length = n := by simp [grL]
theorem gr_at {n k : Nat} (h : k < n) : (grL n).getD k default = grR k := by simp [grL, List.getElem?_eq_getElem, h]
theorem gr_step (n : Nat) : grL (n + 1) = grL n ++ [grR n] := by simp [grL, List.range_succ]
theorem grM_le (m : Int) : grM m < 4099 := by
  unfold grM
  have := Int.tmod_lt_of_pos (IntKind.i64.wrap m) (show (0 : Int) < 4099 by omega)
  omega
end Go.Proofs.YtckklclehofddaaDoor

/-! Records: the law RecordsFull. -/
namespace Go.Proofs.YtckklclehofddaaDoor
open Go.Ax
set_option maxRecDepth 1000000
/-! numbers that do not go down -/
def upL (l : List Rec) : Prop := l.Pairwise fun x y => x.seq ≤ y.seq
theorem low_up {l : List Rec} {x : Rec} (hp : ∀ y ∈ l, y.prod = x.prod) (hu : upL l) : lowR l x = (!l.isEmpty && decide ((hd l).seq < x.seq)) := by
  cases l with
  | nil => rfl
  | cons y r =>
    rw [Bool.eq_iff_iff]
    simp only [lowR, List.any_eq_true, below, Bool.and_eq_true, beq_iff_eq, decide_eq_true_eq, List.isEmpty_cons, Bool.not_false, true_and]
    constructor
    · rintro ⟨z, hz, _, h⟩
      have : y.seq ≤ z.seq := by
        rcases List.mem_cons.1 hz with rfl | hz
        · exact Int.le_refl _
        · exact List.rel_of_pairwise_cons hu hz
      show y.seq < x.seq
      omega
    · intro h
      exact ⟨y, List.mem_cons_self, hp y List.mem_cons_self, h⟩
theorem run_up : ∀ (n : Nat) (s : Jo) (p : Int), s.a.length + s.b.length = n → (∀ x ∈ s.a, x.prod = p) → (∀ x ∈ s.b, x.prod = p) → upL s.a → upL s.b → (joinN n s).isSome = true
  | 0, _, _, _, _, _, _, _ => rfl
  | n + 1, s, p, hn, ha, hb, ua, ub => by
    rw [joinN]
    have lb : lowR s.b (hd s.a) = (!s.b.isEmpty && decide ((hd s.b).seq < (hd s.a).seq)) ∨ s.a = [] := by
      rcases Nat.eq_zero_or_pos s.a.length with h | h
      · exact .inr (List.length_eq_zero_iff.1 h)
      · exact .inl (low_up (fun y hy => (hb y hy).trans (ha _ (hd_mem h)).symm) ub)
    have la : lowR s.a (hd s.b) = (!s.a.isEmpty && decide ((hd s.a).seq < (hd s.b).seq)) ∨ s.b = [] := by
      rcases Nat.eq_zero_or_pos s.b.length with h | h
      · exact .inr (List.length_eq_zero_iff.1 h)
      · exact .inl (low_up (fun y hy => (ha y hy).trans (hb _ (hd_mem h)).symm) ua)
    cases hA : s.tA
    · rw [if_neg (by simp)]
      cases hB : s.tB
      · exfalso
        have h1 : s.a = [] ∨ lowR s.b (hd s.a) = true := by unfold Jo.tA at hA; cases ha : s.a <;> simp [ha] at hA ⊢; exact hA
        have h2 : s.b = [] ∨ lowR s.a (hd s.b) = true := by unfold Jo.tB at hB; cases hb : s.b <;> simp [hb] at hB ⊢; exact hB
        rcases Nat.eq_zero_or_pos s.a.length with h | h
        · have ha' := List.length_eq_zero_iff.1 h
          have hb' : s.b ≠ [] := by intro e; rw [ha', e] at hn; simp at hn
          have := h2.resolve_left hb'
          rw [ha'] at this; simp [lowR] at this
        · have ha' : s.a ≠ [] := List.ne_nil_of_length_pos h
          have h1 := h1.resolve_left ha'
          have lb := lb.resolve_right ha'
          rcases h2 with hb' | h2
          · rw [hb'] at h1; simp [lowR] at h1
          · have hb' : s.b ≠ [] := by intro e; rw [e] at h1; simp [lowR] at h1
            have la := la.resolve_right hb'
            rw [h1] at lb
            rw [h2] at la
            simp at lb la
            omega
      · rw [if_pos rfl]
        have hne : s.b ≠ [] := by unfold Jo.tB at hB; intro e; rw [e] at hB; simp at hB
        obtain ⟨x, r, hx⟩ := List.exists_cons_of_ne_nil hne
        exact run_up n _ p (by simp [Jo.goB, hx] at hn ⊢; omega) ha (fun y hy => hb y (List.mem_of_mem_tail hy)) ua (by unfold upL at ub ⊢; exact ub.tail)
    · rw [if_pos rfl]
      have hne : s.a ≠ [] := by unfold Jo.tA at hA; intro e; rw [e] at hA; simp at hA
      obtain ⟨x, r, hx⟩ := List.exists_cons_of_ne_nil hne
      exact run_up n _ p (by simp [Jo.goA, hx] at hn ⊢; omega) (fun y hy => ha y (List.mem_of_mem_tail hy)) hb (by unfold upL at ua ⊢; exact ua.tail) ub
theorem gr_log (n : Nat) : isLog (grL n) = decide (n ≤ 4096) := by
  unfold isLog
  have : logFrom (grL n) 0 = true := by
    unfold logFrom
    rw [List.all_eq_true]
    intro j hj
    simp [gr_len] at hj
    rw [gr_at hj]
    have hk : kB.size = 1 := rfl
    simp [okR, grR, hk]
  rw [this, gr_len, Bool.true_and]
theorem gr_run (n m : Nat) (h : n + m ≤ 4096) : (jo0 (grL n) (grL m)).run.isSome = true := by
  have key : ∀ n, n ≤ 4096 → upL (grL n) := by
    intro n hn
    unfold upL grL
    rw [List.pairwise_map]
    have := List.pairwise_lt_range (n := n)
    refine List.Pairwise.imp_of_mem ?_ this
    intro a b ha hb hab
    have h1 := List.mem_range.1 ha
    have h2 := List.mem_range.1 hb
    show IntKind.u64.wrap a ≤ IntKind.u64.wrap b
    rw [wrap_u64 (by omega) (by omega), wrap_u64 (by omega) (by omega)]
    omega
  have pr : ∀ n, ∀ x ∈ grL n, x.prod = 9 := by
    intro n x hx
    unfold grL at hx
    obtain ⟨i, _, rfl⟩ := List.mem_map.1 hx
    rfl
  exact run_up _ _ 9 rfl (pr n) (pr m) (key n (by omega)) (key m (by omega))
theorem tagR (x : Rec) (j : Nat) (hj : j < 5) : tagT (Ax.get (encR x) j) = true := by
  match j, hj with
  | 0, _ => rfl
  | 1, _ => rfl
  | 2, _ => rfl
  | 3, _ => rfl
  | 4, _ => rfl
end Go.Proofs.YtckklclehofddaaDoor
