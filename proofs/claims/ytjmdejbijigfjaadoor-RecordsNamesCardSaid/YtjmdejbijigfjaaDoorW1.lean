import Derived.Test.YtjmdejbijigfjaaDoorProg
import Derived.KernelRfl
import Derived.Test.YtjmdejbijigfjaaDoorE8
set_option linter.unusedVariables false
set_option linter.unusedSimpArgs false
/-! Records: data; one record in new memory; ranges of keys. -/
namespace Go.Proofs.YtjmdejbijigfjaaDoor
open Go.Ax
set_option maxRecDepth 1000000
structure Rec where
  off : Int
  key : ByteArray
  val : List Int
  prod : Int
  seq : Int
instance : Inhabited Rec := ⟨⟨0, ByteArray.empty, [], 0, 0⟩⟩
structure Rng where
  lo : ByteArray
  hi : ByteArray
instance : Inhabited Rng := ⟨⟨ByteArray.empty, ByteArray.empty⟩⟩
structure Con where
  name : ByteArray
  off : Int
instance : Inhabited Con := ⟨⟨ByteArray.empty, 0⟩⟩
def encB (x : Int) : List AV := [.y (.int .u8 x)]
def encU (x : Int) : List AV := [.y (.int .u64 x)]
def encI (x : Int) : List AV := [.y (.int .i64 x)]
def encBs (b : Bool) (l : List Int) : AV := .ys b 1 l.length (cellsOf' encB l)
def encUs (b : Bool) (l : List Int) : AV := .ys b 1 l.length (cellsOf' encU l)
def encR (x : Rec) : List AV := [.y (.int .u64 x.off), .y (.string x.key), encBs true x.val, .y (.int .u64 x.prod), .y (.int .u64 x.seq)]
def encRs (b : Bool) (l : List Rec) : AV := .ys b 5 l.length (cellsOf' encR l)
def encC (x : Con) : List AV := [.y (.string x.name), .y (.int .u64 x.off)]
def encCs (b : Bool) (l : List Con) : AV := .ys b 2 l.length (cellsOf' encC l)
def encG (r : Rng) : List AV := [.y (.string r.lo), .y (.string r.hi)]
def rowU (l : List Int) : Blk := .row 24 1 l.length none (cellsOf' encU l)
def rowR (l : List Rec) : Blk := .row 27 5 l.length none (cellsOf' encR l)
def rowC (l : List Con) : Blk := .row 59 2 l.length none (cellsOf' encC l)
theorem Tryd.mixed : Tryd.prog.follows .mixedOrders = true := by kernel_rfl
def boolR (b : Bool) : T An := .ret (.y (.bool b), [], [])
def intR (k : Int) : T An := .ret (.y (.int .i64 k), [], [])
theorem sat_le {P : Program} {g : FuncId} {args args' : List AV} {M : List Blk} {t : T An} (hl : leL args args') (h : t.Sat (ACall' P g args' M)) : t.Sat (ACall' P g args M) :=
  h.mono fun _ hc H E w vals hC hargs => hc H E w vals hC (relL_le _ hl hargs)
theorem tag1 {a : AV} (h : tagT a = true) (j : Nat) (hj : j < 1) : tagT (get [a] j) = true := by
  obtain rfl : j = 0 := by omega
  exact h
/-! slices.Clone of bytes -/
def clnR (n : Nat) (c : Nat → Nat → AV) : T An := .ret (.own 0 1 0 n, [.row 5 1 n none c], [])
noncomputable def clnH : HintsT Tryd.prog := hh _ noLp noCs (op1 62 2 0 (.row 5 1) noOp)
def vcClone0 (n : Nat) (c : Nat → Nat → AV) : Prop :=
  ((0 : Nat) = (0 : Nat) ∧ (0 : Nat) = n) ∧ ((0 : Nat) = n ∧ contLe (0 : Nat) (1 : Nat) (fun (x x_1 : Nat) => AV.junk) c) ∧ True
set_option maxRecDepth 1000000 in
theorem vcClone0_eq (n : Nat) (c : Nat → Nat → AV) : (ctrVC Tryd.prog clnH 62 [.s (.slice none 0 0)] [] (clnR n c)) = vcClone0 n c := by kernel_rfl
def vcClone1 (b : Bool) (n : Nat) (c : Nat → Nat → AV) : Prop :=
  (decide ((0 : Nat) + n ≤ (9223372036854775807 : Nat)) && decide (((0 : Nat) + n) * (1 : Nat) ≤ (140737488355328 : Nat))) = true ∧ ((0 : Nat) = (0 : Nat) ∧ (0 : Nat) + n = n) ∧ ((0 : Nat) + n = n ∧ contLe ((0 : Nat) + n) (1 : Nat) (appRow (0 : Nat) (fun (k j : Nat) => AV.junk) c) c) ∧ True
set_option maxRecDepth 1000000 in
theorem vcClone1_eq (b : Bool) (n : Nat) (c : Nat → Nat → AV) : (ctrVC Tryd.prog clnH 62 [.yn b 1 n c] [] (clnR n c)) = vcClone1 b n c := by kernel_rfl
theorem clone_c (b : Bool) (n : Nat) (c : Nat → Nat → AV) (hl : n ≤ 140737488355328) : (clnR n c).Sat (ACall' Tryd.prog 62 [.ys b 1 n c] []) := by
  refine nil_cases (pre := []) (post := []) (fun h0 => ?_) ?_ ⟨_, rfl⟩
  · refine ctr_vc (ht := clnH) Tryd.mixed rfl ?_
    rw [List.nil_append, vcClone0_eq n c]
    unfold vcClone0
    simp [h0]
  · refine ctr_vc (ht := clnH) Tryd.mixed rfl ?_
    rw [List.nil_append, vcClone1_eq b n c]
    unfold vcClone1
    simp
    omega
noncomputable def clnC (b : Bool) (n : Nat) (c : Nat → Nat → AV) : Ctr Tryd.prog := ⟨62, [.ys b 1 n c], [], .need (n ≤ 140737488355328) (clnR n c), T.Sat.need fun h => clone_c b n c h⟩
/-! a record with another offset -/
def Rec.to (x : Rec) (o : Int) : Rec := ⟨o, x.key, x.val, x.prod, x.seq⟩
def recR (x : Rec) : T An := .ret (.agg (encR x), [], [])
noncomputable def ownH (x : Rec) : HintsT Tryd.prog := withSh (hh _ noLp (cs1 47 1 4 (clnC true x.val.length (cellsOf' encB x.val)) noCs) noOp) (sh1 47 2 0 779 noSh)
def vcOwn (x : Rec) (o : Int) : Prop :=
  ((true = true ∧ List.length x.val = List.length x.val ∧ contLe (List.length x.val) (1 : Nat) (cellsOf' encB x.val) (cellsOf' encB x.val)) ∧ True) ∧ True ∧ List.length x.val ≤ (140737488355328 : Nat) ∧ (∀ (k : Nat), k < List.length x.val → ∀ (j : Nat), j < (1 : Nat) → tagT (cellsOf' encB x.val k j) = true) ∧ (IntKind.wrap IntKind.u64 o = IntKind.wrap IntKind.u64 o ∧ x.key = x.key ∧ (true = true ∧ List.length x.val = List.length x.val ∧ contLe (List.length x.val) (1 : Nat) (Ax.rowAt (0 : Nat) (cellsOf' encB x.val)) (cellsOf' encB x.val)) ∧ x.prod = x.prod ∧ x.seq = x.seq ∧ True) ∧ True
set_option maxRecDepth 1000000 in
theorem vcOwn_eq (x : Rec) (o : Int) : (ctrVC Tryd.prog (ownH x) 47 [.agg (encR x), .y (.int .i64 o)] [] (recR (x.to (IntKind.u64.wrap o)))) = vcOwn x o := by kernel_rfl
noncomputable def atH : HintsT Tryd.prog := withSh (hh _ noLp noCs noOp) (sh1 48 3 0 779 noSh)
def vcAt (x : Rec) (o : Int) : Prop :=
  (decide ((0 : Nat) + List.length x.val ≤ (9223372036854775807 : Nat)) && decide (((0 : Nat) + List.length x.val) * (1 : Nat) ≤ (140737488355328 : Nat))) = true ∧ (∀ (k : Nat), k < (0 : Nat) + List.length x.val → ∀ (j : Nat), j < (1 : Nat) → tagT (appRow (0 : Nat) (fun (k j : Nat) => AV.junk) (cellsOf' encB x.val) k j) = true) ∧ (IntKind.wrap IntKind.u64 o = IntKind.wrap IntKind.u64 o ∧ x.key = x.key ∧ (true = true ∧ (0 : Nat) + List.length x.val = List.length x.val ∧ contLe ((0 : Nat) + List.length x.val) (1 : Nat) (Ax.rowAt (0 : Nat) (appRow (0 : Nat) (fun (k j : Nat) => AV.junk) (cellsOf' encB x.val))) (cellsOf' encB x.val)) ∧ x.prod = x.prod ∧ x.seq = x.seq ∧ True) ∧ True
set_option maxRecDepth 1000000 in
theorem vcAt_eq (x : Rec) (o : Int) : (ctrVC Tryd.prog atH 48 [.agg (encR x), .y (.int .i64 o)] [] (recR (x.to (IntKind.u64.wrap o)))) = vcAt x o := by kernel_rfl
/-! ranges -/
def lt (a b : ByteArray) : Bool := Op.bytesLess a.data.toList b.data.toList
def chkK (r : Rng) : Int := if 32 < r.lo.size ∨ 32 < r.hi.size then 131 else if (!r.hi.data.toList == []) = true ∧ (lt r.hi r.lo || r.hi.data.toList == r.lo.data.toList) = true then 132 else 0
def vcChk (r : Rng) : Prop :=
  (decide ((32 : Int) < (↑(ByteArray.size r.lo) : Int)) = true → (131 : Int) = chkK r ∧ True) ∧ (decide ((32 : Int) < (↑(ByteArray.size r.lo) : Int)) = false → (decide ((32 : Int) < (↑(ByteArray.size r.hi) : Int)) = true → (131 : Int) = chkK r ∧ True) ∧ (decide ((32 : Int) < (↑(ByteArray.size r.hi) : Int)) = false → ((!r.hi.data.toList == []) = true → ((Op.bytesLess r.hi.data.toList r.lo.data.toList || r.hi.data.toList == r.lo.data.toList) = true → (132 : Int) = chkK r ∧ True) ∧ ((Op.bytesLess r.hi.data.toList r.lo.data.toList || r.hi.data.toList == r.lo.data.toList) = false → (0 : Int) = chkK r ∧ True)) ∧ ((!r.hi.data.toList == []) = false → (0 : Int) = chkK r ∧ True)))
set_option maxRecDepth 1000000 in
theorem vcChk_eq (r : Rng) : (ctrVC Tryd.prog (hT _) 27 [.agg (encG r)] [] (intR (chkK r))) = vcChk r := by kernel_rfl
def vcChk2 (r : Rng) : Prop :=
  (decide ((32 : Int) < (↑(ByteArray.size r.lo) : Int)) = true → (131 : Int) = chkK r ∧ True) ∧ (decide ((32 : Int) < (↑(ByteArray.size r.lo) : Int)) = false → (decide ((32 : Int) < (↑(ByteArray.size r.hi) : Int)) = true → (131 : Int) = chkK r ∧ True) ∧ (decide ((32 : Int) < (↑(ByteArray.size r.hi) : Int)) = false → ((!r.hi.data.toList == []) = true → ((Op.bytesLess r.hi.data.toList r.lo.data.toList || r.hi.data.toList == r.lo.data.toList) = true → (132 : Int) = chkK r ∧ True) ∧ ((Op.bytesLess r.hi.data.toList r.lo.data.toList || r.hi.data.toList == r.lo.data.toList) = false → (0 : Int) = chkK r ∧ True)) ∧ ((!r.hi.data.toList == []) = false → (0 : Int) = chkK r ∧ True)))
set_option maxRecDepth 1000000 in
theorem vcChk2_eq (r : Rng) : (ctrVC Tryd.prog (hT _) 50 [.agg (encG r)] [] (intR (chkK r))) = vcChk2 r := by kernel_rfl
end Go.Proofs.YtjmdejbijigfjaaDoor

/-! Records: a range has a key; may records be a log? -/
namespace Go.Proofs.YtjmdejbijigfjaaDoor
open Go.Ax
set_option maxRecDepth 1000000
theorem own_c (x : Rec) (o : Int) (h : x.val.length ≤ 140737488355328) : (recR (x.to (IntKind.u64.wrap o))).Sat (ACall' Tryd.prog 47 [.agg (encR x), .y (.int .i64 o)] []) := by
  refine ctr_vc (ht := ownH x) Tryd.mixed rfl ?_
  rw [vcOwn_eq x o]
  unfold vcOwn
  simp [h]
  exact fun _ _ => rfl
theorem at_c (x : Rec) (o : Int) (h : x.val.length ≤ 140737488355328) : (recR (x.to (IntKind.u64.wrap o))).Sat (ACall' Tryd.prog 48 [.agg (encR x), .y (.int .i64 o)] []) := by
  refine ctr_vc (ht := atH) Tryd.mixed rfl ?_
  rw [vcAt_eq x o]
  unfold vcAt
  simp
  exact ⟨⟨by omega, by omega⟩, fun _ _ => rfl⟩
noncomputable def ownC (x : Rec) (o : Int) : Ctr Tryd.prog := ⟨47, [.agg (encR x), .y (.int .i64 o)], [], .need (x.val.length ≤ 140737488355328) (recR (x.to (IntKind.u64.wrap o))), T.Sat.need fun h => own_c x o h⟩
noncomputable def atC (x : Rec) (o : Int) : Ctr Tryd.prog := ⟨48, [.agg (encR x), .y (.int .i64 o)], [], .need (x.val.length ≤ 140737488355328) (recR (x.to (IntKind.u64.wrap o))), T.Sat.need fun h => at_c x o h⟩
theorem chk_c (r : Rng) : (intR (chkK r)).Sat (ACall' Tryd.prog 27 [.agg (encG r)] []) := by
  refine ctr_vc (ht := hT _) Tryd.mixed rfl ?_
  rw [vcChk_eq r]
  unfold vcChk chkK lt
  simp
  grind
theorem chk2_c (r : Rng) : (intR (chkK r)).Sat (ACall' Tryd.prog 50 [.agg (encG r)] []) := by
  refine ctr_vc (ht := hT _) Tryd.mixed rfl ?_
  rw [vcChk2_eq r]
  unfold vcChk2 chkK lt
  simp
  grind
noncomputable def chkC (r : Rng) : Ctr Tryd.prog := ⟨27, [.agg (encG r)], [], intR (chkK r), chk_c r⟩
noncomputable def chk2C (r : Rng) : Ctr Tryd.prog := ⟨50, [.agg (encG r)], [], intR (chkK r), chk2_c r⟩
def hasK (r : Rng) (k : ByteArray) : Bool := chkK r == 0 && (decide ((k.size : Int) ≤ 32) && ((lt r.lo k || r.lo.data.toList == k.data.toList) && (r.hi.data.toList == [] || lt k r.hi)))
noncomputable def hasH (r : Rng) : HintsT Tryd.prog := hh _ noLp (cs1 28 1 1 (chkC r) noCs) noOp
noncomputable def has2H (r : Rng) : HintsT Tryd.prog := hh _ noLp (cs1 51 1 1 (chk2C r) noCs) noOp
def vcHas (r : Rng) (k : ByteArray) : Prop :=
  ((r.lo = r.lo ∧ r.hi = r.hi ∧ True) ∧ True) ∧ True ∧ ((chkK r == (0 : Int)) = true → (decide ((↑(ByteArray.size k) : Int) ≤ (32 : Int)) = true → ((Op.bytesLess r.lo.data.toList k.data.toList || r.lo.data.toList == k.data.toList) = true → ((r.hi.data.toList == []) = true → true = hasK r k ∧ True) ∧ ((r.hi.data.toList == []) = false → Op.bytesLess k.data.toList r.hi.data.toList = hasK r k ∧ True)) ∧ ((Op.bytesLess r.lo.data.toList k.data.toList || r.lo.data.toList == k.data.toList) = false → false = hasK r k ∧ True)) ∧ (decide ((↑(ByteArray.size k) : Int) ≤ (32 : Int)) = false → false = hasK r k ∧ True)) ∧ ((chkK r == (0 : Int)) = false → false = hasK r k ∧ True)
set_option maxRecDepth 1000000 in
theorem vcHas_eq (r : Rng) (k : ByteArray) : (ctrVC Tryd.prog (hasH r) 28 [.agg (encG r), .y (.string k)] [] (boolR (hasK r k))) = vcHas r k := by kernel_rfl
def vcHas2 (r : Rng) (k : ByteArray) : Prop :=
  ((r.lo = r.lo ∧ r.hi = r.hi ∧ True) ∧ True) ∧ True ∧ ((chkK r == (0 : Int)) = true → (decide ((↑(ByteArray.size k) : Int) ≤ (32 : Int)) = true → ((!Op.bytesLess k.data.toList r.lo.data.toList) = true → ((r.hi.data.toList == []) = true → true = hasK r k ∧ True) ∧ ((r.hi.data.toList == []) = false → Op.bytesLess k.data.toList r.hi.data.toList = hasK r k ∧ True)) ∧ ((!Op.bytesLess k.data.toList r.lo.data.toList) = false → false = hasK r k ∧ True)) ∧ (decide ((↑(ByteArray.size k) : Int) ≤ (32 : Int)) = false → false = hasK r k ∧ True)) ∧ ((chkK r == (0 : Int)) = false → false = hasK r k ∧ True)
set_option maxRecDepth 1000000 in
theorem vcHas2_eq (r : Rng) (k : ByteArray) : (ctrVC Tryd.prog (has2H r) 51 [.agg (encG r), .y (.string k)] [] (boolR (hasK r k))) = vcHas2 r k := by kernel_rfl
theorem less_irr : ∀ l : List UInt8, Op.bytesLess l l = false
  | [] => rfl
  | a :: l => by simp [Op.bytesLess, less_irr l]
theorem less_asymm : ∀ (a b : List UInt8), Op.bytesLess a b = true → Op.bytesLess b a = false
  | [], [], h => by simp [Op.bytesLess] at h
  | [], _ :: _, _ => rfl
  | _ :: _, [], h => by simp [Op.bytesLess] at h
  | a :: l, b :: m, h => by
    simp only [Op.bytesLess, Bool.or_eq_true, Bool.and_eq_true, decide_eq_true_eq, beq_iff_eq] at h ⊢
    rcases h with h | ⟨rfl, h⟩
    · have h1 : ¬ b < a := UInt8.not_lt.2 (UInt8.le_of_lt h)
      have h2 : ¬ b = a := fun e => by subst e; exact absurd h (UInt8.lt_irrefl _)
      simp [h1, h2]
    · have := less_asymm l m h
      simp [this]
theorem less_total : ∀ (a b : List UInt8), Op.bytesLess a b = false → Op.bytesLess b a = false → a = b
  | [], [], _, _ => rfl
  | [], _ :: _, h, _ => by simp [Op.bytesLess] at h
  | _ :: _, [], _, h => by simp [Op.bytesLess] at h
  | a :: l, b :: m, h, k => by
    simp only [Op.bytesLess, Bool.or_eq_false_iff, Bool.and_eq_false_iff, decide_eq_false_iff_not, beq_eq_false_iff_ne] at h k
    have e : a = b := UInt8.le_antisymm (UInt8.not_lt.1 k.1) (UInt8.not_lt.1 h.1)
    subst e
    rw [less_total l m (h.2.resolve_left fun q => q rfl) (k.2.resolve_left fun q => q rfl)]
theorem less_geq (a b : List UInt8) : (!Op.bytesLess a b) = (Op.bytesLess b a || b == a) := by
  cases h : Op.bytesLess a b
  · cases k : Op.bytesLess b a
    · simp [less_total a b h k]
    · rfl
  · have h1 := less_asymm a b h
    have h2 : ¬ b = a := fun e => by subst e; rw [less_irr] at h; cases h
    simp [h1, h2]
theorem has_c (r : Rng) (k : ByteArray) : (boolR (hasK r k)).Sat (ACall' Tryd.prog 28 [.agg (encG r), .y (.string k)] []) := by
  refine ctr_vc (ht := hasH r) Tryd.mixed rfl ?_
  rw [vcHas_eq r k]
  unfold vcHas
  unfold hasK lt
  generalize (chkK r == 0) = a
  generalize decide ((k.size : Int) ≤ 32) = b
  generalize Op.bytesLess r.lo.data.toList k.data.toList = c
  generalize (r.lo.data.toList == k.data.toList) = d
  generalize (r.hi.data.toList == []) = e
  generalize Op.bytesLess k.data.toList r.hi.data.toList = f
  cases a <;> cases b <;> cases c <;> cases d <;> cases e <;> cases f <;> simp
theorem has2_c (r : Rng) (k : ByteArray) : (boolR (hasK r k)).Sat (ACall' Tryd.prog 51 [.agg (encG r), .y (.string k)] []) := by
  refine ctr_vc (ht := has2H r) Tryd.mixed rfl ?_
  rw [vcHas2_eq r k]
  unfold vcHas2
  unfold hasK lt
  simp only [less_geq]
  generalize (chkK r == 0) = a
  generalize decide ((k.size : Int) ≤ 32) = b
  generalize Op.bytesLess r.lo.data.toList k.data.toList = c
  generalize (r.lo.data.toList == k.data.toList) = d
  generalize (r.hi.data.toList == []) = e
  generalize Op.bytesLess k.data.toList r.hi.data.toList = f
  cases a <;> cases b <;> cases c <;> cases d <;> cases e <;> cases f <;> simp
end Go.Proofs.YtjmdejbijigfjaaDoor

/-! Records: may records be a log? has a list a lower one? -/
namespace Go.Proofs.YtjmdejbijigfjaaDoor
open Go.Ax
set_option maxRecDepth 1000000
def okR (x : Rec) (k : Nat) : Bool := !(x.off != IntKind.u64.wrap k) && (decide (x.key.size ≤ 32) && decide (x.val.length ≤ 256))
def logFrom (l : List Rec) (k : Nat) : Bool := (List.range' k (l.length - k)).all fun j => okR (l.getD j default) j
theorem logFrom_end {l : List Rec} {k : Nat} (h : l.length ≤ k) : logFrom l k = true := by
  unfold logFrom
  rw [show l.length - k = 0 by omega]; rfl
theorem logFrom_step {l : List Rec} {k : Nat} (h : k < l.length) : logFrom l k = (okR (l.getD k default) k && logFrom l (k + 1)) := by
  unfold logFrom
  rw [show l.length - k = (l.length - (k + 1)) + 1 by omega, List.range'_succ]; rfl
def isLog (l : List Rec) : Bool := logFrom l 0 && decide (l.length ≤ 4096)
def lgT (b : Bool) (l : List Rec) (k : Nat) : List AV := mkT 33 [(0, encRs b l), (2, .s (.bool false)), (5, encRs b l), (6, .y (.int .i64 l.length)), (7, .y (.int .i64 k))]
def lgS (b : Bool) (l : List Rec) (r : Bool) : Exit × List AV × List Blk := match r with
  | true => (.exit 0, mkT 33 [(0, encRs b l)], [])
  | false => (.ret, mkT 33 [(2, .s (.bool false))], [])
def lgO (l : List Rec) (k : Nat) : T Bool := .ite (logFrom l k) (.ret true) (.ret false)
def vcLgL (b : Bool) (l : List Rec) (k : Nat) : Prop :=
  (decide ((↑k : Int) < (↑(List.length l) : Int)) = true → (true && decide ((↑k : Int) < (↑(List.length l) : Int))) = true ∧ (((List.getD l (Int.toNat (↑k : Int)) (@default Rec instInhabitedRec)).off != IntKind.wrap IntKind.u64 (↑k : Int)) = true → (logFrom l k = true → False) ∧ (logFrom l k = false → (false = false ∧ True) ∧ True ∧ true = true)) ∧ (((List.getD l (Int.toNat (↑k : Int)) (@default Rec instInhabitedRec)).off != IntKind.wrap IntKind.u64 (↑k : Int)) = false → (decide ((32 : Int) < (↑(ByteArray.size (List.getD l (Int.toNat (↑k : Int)) (@default Rec instInhabitedRec)).key) : Int)) = true → (logFrom l k = true → False) ∧ (logFrom l k = false → (false = false ∧ True) ∧ True ∧ true = true)) ∧ (decide ((32 : Int) < (↑(ByteArray.size (List.getD l (Int.toNat (↑k : Int)) (@default Rec instInhabitedRec)).key) : Int)) = false → (decide ((256 : Int) < (↑(List.length (List.getD l (Int.toNat (↑k : Int)) (@default Rec instInhabitedRec)).val) : Int)) = true → (logFrom l k = true → False) ∧ (logFrom l k = false → (false = false ∧ True) ∧ True ∧ true = true)) ∧ (decide ((256 : Int) < (↑(List.length (List.getD l (Int.toNat (↑k : Int)) (@default Rec instInhabitedRec)).val) : Int)) = false → ∃ (j : Nat), List.length l - j < List.length l - k ∧ (((b = b ∧ List.length l = List.length l ∧ contLe (List.length l) (5 : Nat) (cellsOf' encR l) (cellsOf' encR l)) ∧ false = false ∧ (b = b ∧ List.length l = List.length l ∧ contLe (List.length l) (5 : Nat) (cellsOf' encR l) (cellsOf' encR l)) ∧ (↑(List.length l) : Int) = (↑(List.length l) : Int) ∧ IntKind.wrap IntKind.i64 ((↑k : Int) + (1 : Int)) = (↑j : Int) ∧ True) ∧ True ∧ true = true) ∧ true = true ∧ (logFrom l j = true → (logFrom l k = true → true = true) ∧ (logFrom l k = false → true = false)) ∧ (logFrom l j = false → (logFrom l k = true → false = true) ∧ (logFrom l k = false → false = false)))))) ∧ (decide ((↑k : Int) < (↑(List.length l) : Int)) = false → (logFrom l k = true → ((b = b ∧ List.length l = List.length l ∧ contLe (List.length l) (5 : Nat) (cellsOf' encR l) (cellsOf' encR l)) ∧ True) ∧ True ∧ true = true) ∧ (logFrom l k = false → False))
set_option maxRecDepth 1000000 in
theorem vcLgL_eq (b : Bool) (l : List Rec) (k : Nat) : (loopVC Tryd.prog (hT _) 20 2 (fun k => l.length - k) (lgT b l) (fun _ => []) [0] (lgO l) (lgS b l) k) = vcLgL b l k := by kernel_rfl
noncomputable def lgH (b : Bool) (l : List Rec) : HintsT Tryd.prog := hh _ (lp1 20 2 (jobOf (lgT b l) (fun _ => []) [0] (lgO l) (lgS b l) 0) noLp) noCs noOp
def vcLg (b : Bool) (l : List Rec) : Prop :=
  (((b = b ∧ List.length l = List.length l ∧ contLe (List.length l) (5 : Nat) (cellsOf' encR l) (cellsOf' encR l)) ∧ false = false ∧ (b = b ∧ List.length l = List.length l ∧ contLe (List.length l) (5 : Nat) (cellsOf' encR l) (cellsOf' encR l)) ∧ (↑(List.length l) : Int) = (↑(List.length l) : Int) ∧ (0 : Int) = (0 : Int) ∧ True) ∧ True ∧ true = true) ∧ LoopOk Tryd.prog (20 : Nat) (2 : Nat) (loopAt Tryd.prog (20 : Nat) (2 : Nat)) { t := lgT b l (0 : Nat), m := [], mv := [] : St } (T.map (lout [(0 : Nat)] (lgS b l)) (lgO l (0 : Nat))) ∧ (logFrom l (0 : Nat) = true → decide ((↑(List.length l) : Int) ≤ (4096 : Int)) = isLog l ∧ True) ∧ (logFrom l (0 : Nat) = false → false = isLog l ∧ True)
set_option maxRecDepth 1000000 in
theorem vcLg_eq (b : Bool) (l : List Rec) : (ctrVC Tryd.prog (lgH b l) 20 [encRs b l] [] (boolR (isLog l))) = vcLg b l := by kernel_rfl
def lrT (b : Bool) (l : List Rec) (k : Nat) : List AV := mkT 39 [(0, encRs b l), (2, .s (.bool false)), (3, .y (.int .i64 k))]
def lrS (r : Bool) : Exit × List AV × List Blk := match r with
  | true => (.exit 0, mkT 39 [], [])
  | false => (.ret, mkT 39 [(2, .s (.bool false))], [])
def vcLrL (b : Bool) (l : List Rec) (k : Nat) : Prop :=
  (decide ((↑k : Int) < (↑(List.length l) : Int)) = true → (true && decide ((↑k : Int) < (↑(List.length l) : Int))) = true ∧ (((List.getD l (Int.toNat (↑k : Int)) (@default Rec instInhabitedRec)).off != IntKind.wrap IntKind.u64 (↑k : Int)) = true → (logFrom l k = true → False) ∧ (logFrom l k = false → (false = false ∧ True) ∧ True ∧ true = true)) ∧ (((List.getD l (Int.toNat (↑k : Int)) (@default Rec instInhabitedRec)).off != IntKind.wrap IntKind.u64 (↑k : Int)) = false → (true && decide ((↑k : Int) < (↑(List.length l) : Int))) = true ∧ (decide ((32 : Int) < (↑(ByteArray.size (List.getD l (Int.toNat (↑k : Int)) (@default Rec instInhabitedRec)).key) : Int)) = true → (logFrom l k = true → False) ∧ (logFrom l k = false → (false = false ∧ True) ∧ True ∧ true = true)) ∧ (decide ((32 : Int) < (↑(ByteArray.size (List.getD l (Int.toNat (↑k : Int)) (@default Rec instInhabitedRec)).key) : Int)) = false → (true && decide ((↑k : Int) < (↑(List.length l) : Int))) = true ∧ (decide ((256 : Int) < (↑(List.length (List.getD l (Int.toNat (↑k : Int)) (@default Rec instInhabitedRec)).val) : Int)) = true → (logFrom l k = true → False) ∧ (logFrom l k = false → (false = false ∧ True) ∧ True ∧ true = true)) ∧ (decide ((256 : Int) < (↑(List.length (List.getD l (Int.toNat (↑k : Int)) (@default Rec instInhabitedRec)).val) : Int)) = false → ∃ (j : Nat), List.length l - j < List.length l - k ∧ (((b = b ∧ List.length l = List.length l ∧ contLe (List.length l) (5 : Nat) (cellsOf' encR l) (cellsOf' encR l)) ∧ false = false ∧ IntKind.wrap IntKind.i64 ((↑k : Int) + (1 : Int)) = (↑j : Int) ∧ True) ∧ True ∧ true = true) ∧ true = true ∧ (logFrom l j = true → (logFrom l k = true → true = true) ∧ (logFrom l k = false → true = false)) ∧ (logFrom l j = false → (logFrom l k = true → false = true) ∧ (logFrom l k = false → false = false)))))) ∧ (decide ((↑k : Int) < (↑(List.length l) : Int)) = false → (logFrom l k = true → True ∧ True ∧ true = true) ∧ (logFrom l k = false → False))
set_option maxRecDepth 1000000 in
theorem vcLrL_eq (b : Bool) (l : List Rec) (k : Nat) : (loopVC Tryd.prog (hT _) 21 4 (fun k => l.length - k) (lrT b l) (fun _ => []) [0] (lgO l) lrS k) = vcLrL b l k := by kernel_rfl
noncomputable def lrH (b : Bool) (l : List Rec) : HintsT Tryd.prog := hh _ (lp1 21 4 (jobOf (lrT b l) (fun _ => []) [0] (lgO l) lrS 0) noLp) noCs noOp
def vcLr (b : Bool) (l : List Rec) : Prop :=
  (decide ((4096 : Int) < (↑(List.length l) : Int)) = true → false = isLog l ∧ True) ∧ (decide ((4096 : Int) < (↑(List.length l) : Int)) = false → (((b = b ∧ List.length l = List.length l ∧ contLe (List.length l) (5 : Nat) (cellsOf' encR l) (cellsOf' encR l)) ∧ false = false ∧ (0 : Int) = (0 : Int) ∧ True) ∧ True ∧ true = true) ∧ LoopOk Tryd.prog (21 : Nat) (4 : Nat) (loopAt Tryd.prog (21 : Nat) (4 : Nat)) { t := lrT b l (0 : Nat), m := [], mv := [] : St } (T.map (lout [(0 : Nat)] lrS) (lgO l (0 : Nat))) ∧ (logFrom l (0 : Nat) = true → true = isLog l ∧ True) ∧ (logFrom l (0 : Nat) = false → false = isLog l ∧ True))
set_option maxRecDepth 1000000 in
theorem vcLr_eq (b : Bool) (l : List Rec) : (ctrVC Tryd.prog (lrH b l) 21 [encRs b l] [] (boolR (isLog l))) = vcLr b l := by kernel_rfl
/-! one of the same producer with a lower number -/
def below (x y : Rec) : Bool := y.prod == x.prod && decide (y.seq < x.seq)
def lowR (l : List Rec) (x : Rec) : Bool := l.any (below x)
theorem low_nil (x : Rec) : lowR [] x = false := rfl
theorem low_cons (y : Rec) (l : List Rec) (x : Rec) : lowR (y :: l) x = (below x y || lowR l x) := rfl
def fnW (x : Rec) : AV := .fn (.func 64) [] [.ip false 5 (get (encR x))]
def ixT (b : Bool) (x : Rec) (l : List Rec) (k : Nat) : List AV := mkT 19 [(0, encRs b l), (1, fnW x), (4, .s (.int .i64 0)), (7, .y (.int .i64 l.length)), (8, .y (.int .i64 k))]
def ixS (r : Bool × Nat) : Exit × List AV × List Blk := match r.1 with
  | true => (.ret, mkT 19 [(4, .y (.int .i64 r.2))], [])
  | false => (.exit 0, mkT 19 [], [])
def ixO (l : List Rec) (x : Rec) (k : Nat) : T (Bool × Nat) := .ite (lowR (l.drop k) x) (.ret (true, k + (l.drop k).findIdx (below x))) (.ret (false, 0))
def vcIxL (b : Bool) (x : Rec) (l : List Rec) (k : Nat) : Prop :=
  (decide ((↑k : Int) < (↑(List.length l) : Int)) = true → (true && decide ((↑k : Int) < (↑(List.length l) : Int))) = true ∧ (((List.getD l (Int.toNat (↑k : Int)) (@default Rec instInhabitedRec)).prod == x.prod) = true → (decide ((List.getD l (Int.toNat (↑k : Int)) (@default Rec instInhabitedRec)).seq < x.seq) = true → (lowR (List.drop k l) x = true → ((↑k : Int) = (↑(k + List.findIdx (below x) (List.drop k l)) : Int) ∧ True) ∧ True ∧ true = true) ∧ (lowR (List.drop k l) x = false → False)) ∧ (decide ((List.getD l (Int.toNat (↑k : Int)) (@default Rec instInhabitedRec)).seq < x.seq) = false → ∃ (j : Nat), List.length l - j < List.length l - k ∧ (((b = b ∧ List.length l = List.length l ∧ contLe (List.length l) (5 : Nat) (cellsOf' encR l) (cellsOf' encR l)) ∧ (True ∧ (false = false ∧ (5 : Nat) ≤ (5 : Nat) ∧ cellLe (5 : Nat) (Ax.get [AV.y (Value.int IntKind.u64 x.off), AV.y (Value.string x.key), AV.ys true (1 : Nat) (List.length x.val) (cellsOf' encB x.val), AV.y (Value.int IntKind.u64 x.prod), AV.y (Value.int IntKind.u64 x.seq)]) (Ax.get [AV.y (Value.int IntKind.u64 x.off), AV.y (Value.string x.key), AV.ys true (1 : Nat) (List.length x.val) (cellsOf' encB x.val), AV.y (Value.int IntKind.u64 x.prod), AV.y (Value.int IntKind.u64 x.seq)])) ∧ True) ∧ (0 : Int) = (0 : Int) ∧ (↑(List.length l) : Int) = (↑(List.length l) : Int) ∧ IntKind.wrap IntKind.i64 ((↑k : Int) + (1 : Int)) = (↑j : Int) ∧ True) ∧ True ∧ true = true) ∧ true = true ∧ (lowR (List.drop j l) x = true → (lowR (List.drop k l) x = true → (true, j + List.findIdx (below x) (List.drop j l)) = (true, k + List.findIdx (below x) (List.drop k l))) ∧ (lowR (List.drop k l) x = false → (true, j + List.findIdx (below x) (List.drop j l)) = (false, (0 : Nat)))) ∧ (lowR (List.drop j l) x = false → (lowR (List.drop k l) x = true → (false, (0 : Nat)) = (true, k + List.findIdx (below x) (List.drop k l))) ∧ (lowR (List.drop k l) x = false → (false, (0 : Nat)) = (false, (0 : Nat)))))) ∧ (((List.getD l (Int.toNat (↑k : Int)) (@default Rec instInhabitedRec)).prod == x.prod) = false → ∃ (j : Nat), List.length l - j < List.length l - k ∧ (((b = b ∧ List.length l = List.length l ∧ contLe (List.length l) (5 : Nat) (cellsOf' encR l) (cellsOf' encR l)) ∧ (True ∧ (false = false ∧ (5 : Nat) ≤ (5 : Nat) ∧ cellLe (5 : Nat) (Ax.get [AV.y (Value.int IntKind.u64 x.off), AV.y (Value.string x.key), AV.ys true (1 : Nat) (List.length x.val) (cellsOf' encB x.val), AV.y (Value.int IntKind.u64 x.prod), AV.y (Value.int IntKind.u64 x.seq)]) (Ax.get [AV.y (Value.int IntKind.u64 x.off), AV.y (Value.string x.key), AV.ys true (1 : Nat) (List.length x.val) (cellsOf' encB x.val), AV.y (Value.int IntKind.u64 x.prod), AV.y (Value.int IntKind.u64 x.seq)])) ∧ True) ∧ (0 : Int) = (0 : Int) ∧ (↑(List.length l) : Int) = (↑(List.length l) : Int) ∧ IntKind.wrap IntKind.i64 ((↑k : Int) + (1 : Int)) = (↑j : Int) ∧ True) ∧ True ∧ true = true) ∧ true = true ∧ (lowR (List.drop j l) x = true → (lowR (List.drop k l) x = true → (true, j + List.findIdx (below x) (List.drop j l)) = (true, k + List.findIdx (below x) (List.drop k l))) ∧ (lowR (List.drop k l) x = false → (true, j + List.findIdx (below x) (List.drop j l)) = (false, (0 : Nat)))) ∧ (lowR (List.drop j l) x = false → (lowR (List.drop k l) x = true → (false, (0 : Nat)) = (true, k + List.findIdx (below x) (List.drop k l))) ∧ (lowR (List.drop k l) x = false → (false, (0 : Nat)) = (false, (0 : Nat)))))) ∧ (decide ((↑k : Int) < (↑(List.length l) : Int)) = false → (lowR (List.drop k l) x = true → False) ∧ (lowR (List.drop k l) x = false → True ∧ True ∧ true = true))
set_option maxRecDepth 1000000 in
theorem vcIxL_eq (b : Bool) (x : Rec) (l : List Rec) (k : Nat) : (loopVC Tryd.prog (hT _) 77 2 (fun k => l.length - k) (ixT b x l) (fun _ => []) [0] (ixO l x) ixS k) = vcIxL b x l k := by kernel_rfl
noncomputable def ixH (b : Bool) (x : Rec) (l : List Rec) : HintsT Tryd.prog := hh _ (lp1 77 2 (jobOf (ixT b x l) (fun _ => []) [0] (ixO l x) ixS 0) noLp) noCs noOp
def vcCf (b : Bool) (x : Rec) (l : List Rec) : Prop :=
  (((b = b ∧ List.length l = List.length l ∧ contLe (List.length l) (5 : Nat) (cellsOf' encR l) (cellsOf' encR l)) ∧ (True ∧ (false = false ∧ (5 : Nat) ≤ (5 : Nat) ∧ cellLe (5 : Nat) (Ax.get [AV.y (Value.int IntKind.u64 x.off), AV.y (Value.string x.key), AV.ys true (1 : Nat) (List.length x.val) (cellsOf' encB x.val), AV.y (Value.int IntKind.u64 x.prod), AV.y (Value.int IntKind.u64 x.seq)]) (Ax.get [AV.y (Value.int IntKind.u64 x.off), AV.y (Value.string x.key), AV.ys true (1 : Nat) (List.length x.val) (cellsOf' encB x.val), AV.y (Value.int IntKind.u64 x.prod), AV.y (Value.int IntKind.u64 x.seq)])) ∧ True) ∧ (0 : Int) = (0 : Int) ∧ (↑(List.length l) : Int) = (↑(List.length l) : Int) ∧ (0 : Int) = (0 : Int) ∧ True) ∧ True ∧ true = true) ∧ LoopOk Tryd.prog (77 : Nat) (2 : Nat) (loopAt Tryd.prog (77 : Nat) (2 : Nat)) { t := ixT b x l (0 : Nat), m := [], mv := [] : St } (T.map (lout [(0 : Nat)] ixS) (ixO l x (0 : Nat))) ∧ (lowR (List.drop (0 : Nat) l) x = true → true = lowR l x ∧ True) ∧ (lowR (List.drop (0 : Nat) l) x = false → false = lowR l x ∧ True)
set_option maxRecDepth 1000000 in
theorem vcCf_eq (b : Bool) (x : Rec) (l : List Rec) : (ctrVC Tryd.prog (ixH b x l) 63 [encRs b l, fnW x] [] (boolR (lowR l x))) = vcCf b x l := by kernel_rfl
def lwT (b : Bool) (l : List Rec) (k : Nat) : List AV := mkT 30 [(0, encRs b l), (3, .ptr 0 0 0 0), (4, .s (.bool false)), (5, .y (.int .i64 k))]
def lwM (x : Rec) : List Blk := [.box 27 (encR x)]
def lwS (x : Rec) (r : Bool) : Exit × List AV × List Blk := match r with
  | true => (.ret, mkT 30 [(4, .s (.bool true))], lwM x)
  | false => (.exit 0, mkT 30 [], lwM x)
def lwO (l : List Rec) (x : Rec) (k : Nat) : T Bool := .ite (lowR (l.drop k) x) (.ret true) (.ret false)
def vcLwL (b : Bool) (x : Rec) (l : List Rec) (k : Nat) : Prop :=
  (decide ((↑k : Int) < (↑(List.length l) : Int)) = true → (true && decide ((↑k : Int) < (↑(List.length l) : Int))) = true ∧ (((List.getD l (Int.toNat (↑k : Int)) (@default Rec instInhabitedRec)).prod == x.prod) = true → (true && decide ((↑k : Int) < (↑(List.length l) : Int))) = true ∧ (decide ((List.getD l (Int.toNat (↑k : Int)) (@default Rec instInhabitedRec)).seq < x.seq) = true → (lowR (List.drop k l) x = true → (true = true ∧ True) ∧ ((x.off = x.off ∧ x.key = x.key ∧ (true = true ∧ List.length x.val = List.length x.val ∧ contLe (List.length x.val) (1 : Nat) (cellsOf' encB x.val) (cellsOf' encB x.val)) ∧ x.prod = x.prod ∧ x.seq = x.seq ∧ True) ∧ True) ∧ true = true) ∧ (lowR (List.drop k l) x = false → False)) ∧ (decide ((List.getD l (Int.toNat (↑k : Int)) (@default Rec instInhabitedRec)).seq < x.seq) = false → ∃ (j : Nat), List.length l - j < List.length l - k ∧ (((b = b ∧ List.length l = List.length l ∧ contLe (List.length l) (5 : Nat) (cellsOf' encR l) (cellsOf' encR l)) ∧ ((0 : Nat) = (0 : Nat) ∧ (0 : Nat) = (0 : Nat)) ∧ false = false ∧ IntKind.wrap IntKind.i64 ((↑k : Int) + (1 : Int)) = (↑j : Int) ∧ True) ∧ ((x.off = x.off ∧ x.key = x.key ∧ (true = true ∧ List.length x.val = List.length x.val ∧ contLe (List.length x.val) (1 : Nat) (cellsOf' encB x.val) (cellsOf' encB x.val)) ∧ x.prod = x.prod ∧ x.seq = x.seq ∧ True) ∧ True) ∧ true = true) ∧ true = true ∧ (lowR (List.drop j l) x = true → (lowR (List.drop k l) x = true → true = true) ∧ (lowR (List.drop k l) x = false → true = false)) ∧ (lowR (List.drop j l) x = false → (lowR (List.drop k l) x = true → false = true) ∧ (lowR (List.drop k l) x = false → false = false)))) ∧ (((List.getD l (Int.toNat (↑k : Int)) (@default Rec instInhabitedRec)).prod == x.prod) = false → ∃ (j : Nat), List.length l - j < List.length l - k ∧ (((b = b ∧ List.length l = List.length l ∧ contLe (List.length l) (5 : Nat) (cellsOf' encR l) (cellsOf' encR l)) ∧ ((0 : Nat) = (0 : Nat) ∧ (0 : Nat) = (0 : Nat)) ∧ false = false ∧ IntKind.wrap IntKind.i64 ((↑k : Int) + (1 : Int)) = (↑j : Int) ∧ True) ∧ ((x.off = x.off ∧ x.key = x.key ∧ (true = true ∧ List.length x.val = List.length x.val ∧ contLe (List.length x.val) (1 : Nat) (cellsOf' encB x.val) (cellsOf' encB x.val)) ∧ x.prod = x.prod ∧ x.seq = x.seq ∧ True) ∧ True) ∧ true = true) ∧ true = true ∧ (lowR (List.drop j l) x = true → (lowR (List.drop k l) x = true → true = true) ∧ (lowR (List.drop k l) x = false → true = false)) ∧ (lowR (List.drop j l) x = false → (lowR (List.drop k l) x = true → false = true) ∧ (lowR (List.drop k l) x = false → false = false)))) ∧ (decide ((↑k : Int) < (↑(List.length l) : Int)) = false → (lowR (List.drop k l) x = true → False) ∧ (lowR (List.drop k l) x = false → True ∧ ((x.off = x.off ∧ x.key = x.key ∧ (true = true ∧ List.length x.val = List.length x.val ∧ contLe (List.length x.val) (1 : Nat) (cellsOf' encB x.val) (cellsOf' encB x.val)) ∧ x.prod = x.prod ∧ x.seq = x.seq ∧ True) ∧ True) ∧ true = true))
set_option maxRecDepth 1000000 in
theorem vcLwL_eq (b : Bool) (x : Rec) (l : List Rec) (k : Nat) : (loopVC Tryd.prog (hT _) 52 2 (fun k => l.length - k) (lwT b l) (fun _ => lwM x) [0, 1, 2] (lwO l x) (lwS x) k) = vcLwL b x l k := by kernel_rfl
noncomputable def lwH (b : Bool) (x : Rec) (l : List Rec) : HintsT Tryd.prog := hh _ (lp1 52 2 (jobOf (lwT b l) (fun _ => lwM x) [0, 1, 2] (lwO l x) (lwS x) 0) noLp) noCs noOp
def vcLw (b : Bool) (x : Rec) (l : List Rec) : Prop :=
  (((b = b ∧ List.length l = List.length l ∧ contLe (List.length l) (5 : Nat) (cellsOf' encR l) (cellsOf' encR l)) ∧ ((0 : Nat) = (0 : Nat) ∧ (0 : Nat) = (0 : Nat)) ∧ false = false ∧ (0 : Int) = (0 : Int) ∧ True) ∧ ((x.off = x.off ∧ x.key = x.key ∧ (true = true ∧ List.length x.val = List.length x.val ∧ contLe (List.length x.val) (1 : Nat) (cellsOf' encB x.val) (cellsOf' encB x.val)) ∧ x.prod = x.prod ∧ x.seq = x.seq ∧ True) ∧ True) ∧ true = true) ∧ LoopOk Tryd.prog (52 : Nat) (2 : Nat) (loopAt Tryd.prog (52 : Nat) (2 : Nat)) { t := lwT b l (0 : Nat), m := lwM x, mv := [] : St } (T.map (lout [(0 : Nat), (1 : Nat), (2 : Nat)] (lwS x)) (lwO l x (0 : Nat))) ∧ (lowR (List.drop (0 : Nat) l) x = true → true = lowR l x ∧ True) ∧ (lowR (List.drop (0 : Nat) l) x = false → false = lowR l x ∧ True)
set_option maxRecDepth 1000000 in
theorem vcLw_eq (b : Bool) (x : Rec) (l : List Rec) : (ctrVC Tryd.prog (lwH b x l) 52 [encRs b l, .agg (encR x)] [] (boolR (lowR l x))) = vcLw b x l := by kernel_rfl
end Go.Proofs.YtjmdejbijigfjaaDoor

/-! Records: the contracts of Log, wait, lower. -/
namespace Go.Proofs.YtjmdejbijigfjaaDoor
open Go.Ax
set_option maxRecDepth 1000000
theorem lg_loop (b : Bool) (l : List Rec) (hl : l.length ≤ 9223372036854775806) (k : Nat) : LoopOk Tryd.prog 20 2 (loopAt Tryd.prog 20 2) ⟨lgT b l k, [], []⟩ ((lgO l k).map (lout [0] (lgS b l))) := by
  refine loop_vc Tryd.mixed (fun _ => rfl) (fun k => (vcLgL_eq b l k).mpr ?_) k
  unfold vcLgL
  simp
  refine ⟨fun h => ?_, fun h => by simp [logFrom_end h]⟩
  rw [logFrom_step h]
  simp (disch := omega) only [wrap_i64]
  simp [okR, cast_succ_eq]
  generalize l[k]?.getD default = x
  grind
theorem lg_c (b : Bool) (l : List Rec) (hl : l.length ≤ 9223372036854775806) : (boolR (isLog l)).Sat (ACall' Tryd.prog 20 [encRs b l] []) := by
  refine ctr_vc (ht := lgH b l) Tryd.mixed rfl ?_
  rw [vcLg_eq b l]
  unfold vcLg
  have := lg_loop b l hl 0
  simp [this, isLog]
  grind
theorem lr_loop (b : Bool) (l : List Rec) (hl : l.length ≤ 9223372036854775806) (k : Nat) : LoopOk Tryd.prog 21 4 (loopAt Tryd.prog 21 4) ⟨lrT b l k, [], []⟩ ((lgO l k).map (lout [0] lrS)) := by
  refine loop_vc Tryd.mixed (fun _ => rfl) (fun k => (vcLrL_eq b l k).mpr ?_) k
  unfold vcLrL
  simp
  refine ⟨fun h => ?_, fun h => by simp [logFrom_end h]⟩
  rw [logFrom_step h]
  simp (disch := omega) only [wrap_i64]
  simp [okR, cast_succ_eq]
  generalize l[k]?.getD default = x
  grind
theorem lr_c (b : Bool) (l : List Rec) (hl : l.length ≤ 9223372036854775806) : (boolR (isLog l)).Sat (ACall' Tryd.prog 21 [encRs b l] []) := by
  refine ctr_vc (ht := lrH b l) Tryd.mixed rfl ?_
  rw [vcLr_eq b l]
  unfold vcLr
  have := lr_loop b l hl 0
  simp [this, isLog]
  grind
theorem ix_loop (b : Bool) (x : Rec) (l : List Rec) (hl : l.length ≤ 9223372036854775806) (k : Nat) : LoopOk Tryd.prog 77 2 (loopAt Tryd.prog 77 2) ⟨ixT b x l k, [], []⟩ ((ixO l x k).map (lout [0] ixS)) := by
  refine loop_vc Tryd.mixed (fun _ => rfl) (fun k => (vcIxL_eq b x l k).mpr ?_) k
  unfold vcIxL
  simp
  refine ⟨fun h => ?_, fun h => by simp [drop_end h, low_nil]⟩
  simp (disch := omega) only [wrap_i64]
  rw [drop_cons h]
  simp only [low_cons, List.findIdx_cons]
  generalize l[k]?.getD default = y
  by_cases h1 : y.prod = x.prod
  · by_cases h2 : y.seq < x.seq
    · simp [below, h1, h2, h]
      exact fun e => absurd e (by omega)
    · simp [below, h1, h2, h, cast_succ_eq]
      exact fun _ => ⟨k + 1, by omega, rfl, by grind⟩
  · simp [below, h1, h, cast_succ_eq]
    exact ⟨k + 1, by omega, rfl, by grind⟩
theorem cf_c (b : Bool) (x : Rec) (l : List Rec) (hl : l.length ≤ 9223372036854775806) : (boolR (lowR l x)).Sat (ACall' Tryd.prog 63 [encRs b l, fnW x] []) := by
  refine ctr_vc (ht := ixH b x l) Tryd.mixed rfl ?_
  rw [vcCf_eq b x l]
  unfold vcCf
  have := ix_loop b x l hl 0
  simp [this]
theorem lw_loop (b : Bool) (x : Rec) (l : List Rec) (hl : l.length ≤ 9223372036854775806) (k : Nat) : LoopOk Tryd.prog 52 2 (loopAt Tryd.prog 52 2) ⟨lwT b l k, lwM x, []⟩ ((lwO l x k).map (lout [0, 1, 2] (lwS x))) := by
  refine loop_vc (stM := fun _ => lwM x) Tryd.mixed (fun _ => rfl) (fun k => (vcLwL_eq b x l k).mpr ?_) k
  unfold vcLwL
  simp
  refine ⟨fun h => ?_, fun h => by simp [drop_end h, low_nil]⟩
  simp (disch := omega) only [wrap_i64]
  rw [drop_cons h]
  simp only [low_cons]
  generalize l[k]?.getD default = y
  by_cases h1 : y.prod = x.prod
  · by_cases h2 : y.seq < x.seq
    · simp [below, h1, h2, h]
      exact fun e => absurd e (by omega)
    · simp [below, h1, h2, h, cast_succ_eq]
      exact fun _ => ⟨k + 1, by omega, rfl, by grind⟩
  · simp [below, h1, h, cast_succ_eq]
    exact ⟨k + 1, by omega, rfl, by grind⟩
theorem lw_c (b : Bool) (x : Rec) (l : List Rec) (hl : l.length ≤ 9223372036854775806) : (boolR (lowR l x)).Sat (ACall' Tryd.prog 52 [encRs b l, .agg (encR x)] []) := by
  refine ctr_vc (ht := lwH b x l) Tryd.mixed rfl ?_
  rw [vcLw_eq b x l]
  unfold vcLw
  have := lw_loop b x l hl 0
  simp [this]
noncomputable def lgC (b : Bool) (l : List Rec) : Ctr Tryd.prog := ⟨20, [encRs b l], [], .need (l.length ≤ 9223372036854775806) (boolR (isLog l)), T.Sat.need fun h => lg_c b l h⟩
noncomputable def lrC (b : Bool) (l : List Rec) : Ctr Tryd.prog := ⟨21, [encRs b l], [], .need (l.length ≤ 9223372036854775806) (boolR (isLog l)), T.Sat.need fun h => lr_c b l h⟩
noncomputable def cfC (b : Bool) (x : Rec) (l : List Rec) : Ctr Tryd.prog := ⟨63, [encRs b l, fnW x], [], .need (l.length ≤ 9223372036854775806) (boolR (lowR l x)), T.Sat.need fun h => cf_c b x l h⟩
noncomputable def lwC (b : Bool) (x : Rec) (l : List Rec) : Ctr Tryd.prog := ⟨52, [encRs b l, .agg (encR x)], [], .need (l.length ≤ 9223372036854775806) (boolR (lowR l x)), T.Sat.need fun h => lw_c b x l h⟩
end Go.Proofs.YtjmdejbijigfjaaDoor
