import Derived.Test.YtjmdejbijigfjaaDoorProg
import Derived.KernelRfl
import Derived.Shelf.Strings.SlTrimAscii
import Derived.Test.YtjmdejbijigfjaaDoorE12
import Derived.Test.YtjmdejbijigfjaaDoorE13
set_option linter.unusedVariables false
set_option linter.unusedSimpArgs false
set_option linter.unusedSectionVars false
namespace Go.Proofs.YtjmdejbijigfjaaDoor
open Go.Ax
end Go.Proofs.YtjmdejbijigfjaaDoor

namespace Go.Proofs.YtjmdejbijigfjaaDoor
open Go.Ax
set_option maxRecDepth 1000000
structure Rec where
  off : Int
  key : ByteArray
  val : List Int
  prod : Int
  seq : Int
instance : Inhabited Rec := ⟨⟨0, ByteArray.empty, [], 0, 0⟩⟩
structure Rng where
  lo : ByteArray
  hi : ByteArray
instance : Inhabited Rng := ⟨⟨ByteArray.empty, ByteArray.empty⟩⟩
def encB (x : Int) : List AV := [.y (.int .u8 x)]
def encU (x : Int) : List AV := [.y (.int .u64 x)]
def encBs (b : Bool) (l : List Int) : AV := .ys b 1 l.length (cellsOf' encB l)
def encUs (b : Bool) (l : List Int) : AV := .ys b 1 l.length (cellsOf' encU l)
def encR (x : Rec) : List AV := [.y (.int .u64 x.off), .y (.string x.key), encBs true x.val, .y (.int .u64 x.prod), .y (.int .u64 x.seq)]
def encRs (b : Bool) (l : List Rec) : AV := .ys b 5 l.length (cellsOf' encR l)
def rowR (l : List Rec) : Blk := .row 27 5 l.length none (cellsOf' encR l)
theorem Tryd.mixed : Tryd.prog.follows .mixedOrders = true := by kernel_rfl
def boolR (b : Bool) : T An := .ret (.y (.bool b), [], [])
def clnR (n : Nat) (c : Nat → Nat → AV) : T An := .ret (.own 0 1 0 n, [.row 5 1 n none c], [])
noncomputable def clnH : HintsT Tryd.prog := hh _ noLp noCs (op1 62 2 0 (.row 5 1) noOp)
def vcClone0 (n : Nat) (c : Nat → Nat → AV) : Prop :=
  ((0 : Nat) = (0 : Nat) ∧ (0 : Nat) = n) ∧ ((0 : Nat) = n ∧ contLe (0 : Nat) (1 : Nat) (fun (x x_1 : Nat) => AV.junk) c) ∧ True
theorem vcClone0_eq (n : Nat) (c : Nat → Nat → AV) : (ctrVC Tryd.prog clnH 62 [.s (.slice none 0 0)] [] (clnR n c)) = vcClone0 n c := by kernel_rfl
def vcClone1 (b : Bool) (n : Nat) (c : Nat → Nat → AV) : Prop :=
  (decide ((0 : Nat) + n ≤ (9223372036854775807 : Nat)) && decide (((0 : Nat) + n) * (1 : Nat) ≤ (140737488355328 : Nat))) = true ∧ ((0 : Nat) = (0 : Nat) ∧ (0 : Nat) + n = n) ∧ ((0 : Nat) + n = n ∧ contLe ((0 : Nat) + n) (1 : Nat) (appRow (0 : Nat) (fun (k j : Nat) => AV.junk) c) c) ∧ True
theorem vcClone1_eq (b : Bool) (n : Nat) (c : Nat → Nat → AV) : (ctrVC Tryd.prog clnH 62 [.yn b 1 n c] [] (clnR n c)) = vcClone1 b n c := by kernel_rfl
theorem clone_c (b : Bool) (n : Nat) (c : Nat → Nat → AV) (hl : n ≤ 140737488355328) : (clnR n c).Sat (ACall' Tryd.prog 62 [.ys b 1 n c] []) := by
  refine nil_cases (pre := []) (post := []) (fun h0 => ?_) ?_ ⟨_, rfl⟩
  · refine ctr_vc (ht := clnH) Tryd.mixed rfl ?_
    rw [List.nil_append, vcClone0_eq n c]
    unfold vcClone0
    simp [h0]
  · refine ctr_vc (ht := clnH) Tryd.mixed rfl ?_
    rw [List.nil_append, vcClone1_eq b n c]
    unfold vcClone1
    simp
    omega
noncomputable def clnC (b : Bool) (n : Nat) (c : Nat → Nat → AV) : Ctr Tryd.prog := ⟨62, [.ys b 1 n c], [], .need (n ≤ 140737488355328) (clnR n c), T.Sat.need fun h => clone_c b n c h⟩
def Rec.to (x : Rec) (o : Int) : Rec := ⟨o, x.key, x.val, x.prod, x.seq⟩
def recR (x : Rec) : T An := .ret (.agg (encR x), [], [])
noncomputable def atH : HintsT Tryd.prog := withSh (hh _ noLp noCs noOp) (sh1 48 3 0 779 noSh)
def vcAt (x : Rec) (o : Int) : Prop :=
  (decide ((0 : Nat) + List.length x.val ≤ (9223372036854775807 : Nat)) && decide (((0 : Nat) + List.length x.val) * (1 : Nat) ≤ (140737488355328 : Nat))) = true ∧ (∀ (k : Nat), k < (0 : Nat) + List.length x.val → ∀ (j : Nat), j < (1 : Nat) → tagT (appRow (0 : Nat) (fun (k j : Nat) => AV.junk) (cellsOf' encB x.val) k j) = true) ∧ (IntKind.wrap IntKind.u64 o = IntKind.wrap IntKind.u64 o ∧ x.key = x.key ∧ (true = true ∧ (0 : Nat) + List.length x.val = List.length x.val ∧ contLe ((0 : Nat) + List.length x.val) (1 : Nat) (Ax.rowAt (0 : Nat) (appRow (0 : Nat) (fun (k j : Nat) => AV.junk) (cellsOf' encB x.val))) (cellsOf' encB x.val)) ∧ x.prod = x.prod ∧ x.seq = x.seq ∧ True) ∧ True
theorem vcAt_eq (x : Rec) (o : Int) : (ctrVC Tryd.prog atH 48 [.agg (encR x), .y (.int .i64 o)] [] (recR (x.to (IntKind.u64.wrap o)))) = vcAt x o := by kernel_rfl
def lt (a b : ByteArray) : Bool := Op.bytesLess a.data.toList b.data.toList
def chkK (r : Rng) : Int := if 32 < r.lo.size ∨ 32 < r.hi.size then 131 else if (!r.hi.data.toList == []) = true ∧ (lt r.hi r.lo || r.hi.data.toList == r.lo.data.toList) = true then 132 else 0
end Go.Proofs.YtjmdejbijigfjaaDoor

namespace Go.Proofs.YtjmdejbijigfjaaDoor
open Go.Ax
set_option maxRecDepth 1000000
theorem at_c (x : Rec) (o : Int) (h : x.val.length ≤ 140737488355328) : (recR (x.to (IntKind.u64.wrap o))).Sat (ACall' Tryd.prog 48 [.agg (encR x), .y (.int .i64 o)] []) := by
  refine ctr_vc (ht := atH) Tryd.mixed rfl ?_
  rw [vcAt_eq x o]
  unfold vcAt
  simp
  exact ⟨⟨by omega, by omega⟩, fun _ _ => rfl⟩
noncomputable def atC (x : Rec) (o : Int) : Ctr Tryd.prog := ⟨48, [.agg (encR x), .y (.int .i64 o)], [], .need (x.val.length ≤ 140737488355328) (recR (x.to (IntKind.u64.wrap o))), T.Sat.need fun h => at_c x o h⟩
def hasK (r : Rng) (k : ByteArray) : Bool := chkK r == 0 && (decide ((k.size : Int) ≤ 32) && ((lt r.lo k || r.lo.data.toList == k.data.toList) && (r.hi.data.toList == [] || lt k r.hi)))
end Go.Proofs.YtjmdejbijigfjaaDoor

namespace Go.Proofs.YtjmdejbijigfjaaDoor
open Go.Ax
set_option maxRecDepth 1000000
def okR (x : Rec) (k : Nat) : Bool := !(x.off != IntKind.u64.wrap k) && (decide (x.key.size ≤ 32) && decide (x.val.length ≤ 256))
def logFrom (l : List Rec) (k : Nat) : Bool := (List.range' k (l.length - k)).all fun j => okR (l.getD j default) j
theorem logFrom_end {l : List Rec} {k : Nat} (h : l.length ≤ k) : logFrom l k = true := by
  unfold logFrom
  rw [show l.length - k = 0 by omega]; rfl
theorem logFrom_step {l : List Rec} {k : Nat} (h : k < l.length) : logFrom l k = (okR (l.getD k default) k && logFrom l (k + 1)) := by
  unfold logFrom
  rw [show l.length - k = (l.length - (k + 1)) + 1 by omega, List.range'_succ]; rfl
def isLog (l : List Rec) : Bool := logFrom l 0 && decide (l.length ≤ 4096)
def lgT (b : Bool) (l : List Rec) (k : Nat) : List AV := mkT 33 [(0, encRs b l), (2, .s (.bool false)), (5, encRs b l), (6, .y (.int .i64 l.length)), (7, .y (.int .i64 k))]
def lgS (b : Bool) (l : List Rec) (r : Bool) : Exit × List AV × List Blk := match r with
  | true => (.exit 0, mkT 33 [(0, encRs b l)], [])
  | false => (.ret, mkT 33 [(2, .s (.bool false))], [])
def lgO (l : List Rec) (k : Nat) : T Bool := .ite (logFrom l k) (.ret true) (.ret false)
def vcLgL (b : Bool) (l : List Rec) (k : Nat) : Prop :=
  (decide ((↑k : Int) < (↑(List.length l) : Int)) = true → (true && decide ((↑k : Int) < (↑(List.length l) : Int))) = true ∧ (((List.getD l (Int.toNat (↑k : Int)) (@default Rec instInhabitedRec)).off != IntKind.wrap IntKind.u64 (↑k : Int)) = true → (logFrom l k = true → False) ∧ (logFrom l k = false → (false = false ∧ True) ∧ True ∧ true = true)) ∧ (((List.getD l (Int.toNat (↑k : Int)) (@default Rec instInhabitedRec)).off != IntKind.wrap IntKind.u64 (↑k : Int)) = false → (decide ((32 : Int) < (↑(ByteArray.size (List.getD l (Int.toNat (↑k : Int)) (@default Rec instInhabitedRec)).key) : Int)) = true → (logFrom l k = true → False) ∧ (logFrom l k = false → (false = false ∧ True) ∧ True ∧ true = true)) ∧ (decide ((32 : Int) < (↑(ByteArray.size (List.getD l (Int.toNat (↑k : Int)) (@default Rec instInhabitedRec)).key) : Int)) = false → (decide ((256 : Int) < (↑(List.length (List.getD l (Int.toNat (↑k : Int)) (@default Rec instInhabitedRec)).val) : Int)) = true → (logFrom l k = true → False) ∧ (logFrom l k = false → (false = false ∧ True) ∧ True ∧ true = true)) ∧ (decide ((256 : Int) < (↑(List.length (List.getD l (Int.toNat (↑k : Int)) (@default Rec instInhabitedRec)).val) : Int)) = false → ∃ (j : Nat), List.length l - j < List.length l - k ∧ (((b = b ∧ List.length l = List.length l ∧ contLe (List.length l) (5 : Nat) (cellsOf' encR l) (cellsOf' encR l)) ∧ false = false ∧ (b = b ∧ List.length l = List.length l ∧ contLe (List.length l) (5 : Nat) (cellsOf' encR l) (cellsOf' encR l)) ∧ (↑(List.length l) : Int) = (↑(List.length l) : Int) ∧ IntKind.wrap IntKind.i64 ((↑k : Int) + (1 : Int)) = (↑j : Int) ∧ True) ∧ True ∧ true = true) ∧ true = true ∧ (logFrom l j = true → (logFrom l k = true → true = true) ∧ (logFrom l k = false → true = false)) ∧ (logFrom l j = false → (logFrom l k = true → false = true) ∧ (logFrom l k = false → false = false)))))) ∧ (decide ((↑k : Int) < (↑(List.length l) : Int)) = false → (logFrom l k = true → ((b = b ∧ List.length l = List.length l ∧ contLe (List.length l) (5 : Nat) (cellsOf' encR l) (cellsOf' encR l)) ∧ True) ∧ True ∧ true = true) ∧ (logFrom l k = false → False))
theorem vcLgL_eq (b : Bool) (l : List Rec) (k : Nat) : (loopVC Tryd.prog (hT _) 20 2 (fun k => l.length - k) (lgT b l) (fun _ => []) [0] (lgO l) (lgS b l) k) = vcLgL b l k := by kernel_rfl
noncomputable def lgH (b : Bool) (l : List Rec) : HintsT Tryd.prog := hh _ (lp1 20 2 (jobOf (lgT b l) (fun _ => []) [0] (lgO l) (lgS b l) 0) noLp) noCs noOp
def vcLg (b : Bool) (l : List Rec) : Prop :=
  (((b = b ∧ List.length l = List.length l ∧ contLe (List.length l) (5 : Nat) (cellsOf' encR l) (cellsOf' encR l)) ∧ false = false ∧ (b = b ∧ List.length l = List.length l ∧ contLe (List.length l) (5 : Nat) (cellsOf' encR l) (cellsOf' encR l)) ∧ (↑(List.length l) : Int) = (↑(List.length l) : Int) ∧ (0 : Int) = (0 : Int) ∧ True) ∧ True ∧ true = true) ∧ LoopOk Tryd.prog (20 : Nat) (2 : Nat) (loopAt Tryd.prog (20 : Nat) (2 : Nat)) { t := lgT b l (0 : Nat), m := [], mv := [] : St } (T.map (lout [(0 : Nat)] (lgS b l)) (lgO l (0 : Nat))) ∧ (logFrom l (0 : Nat) = true → decide ((↑(List.length l) : Int) ≤ (4096 : Int)) = isLog l ∧ True) ∧ (logFrom l (0 : Nat) = false → false = isLog l ∧ True)
theorem vcLg_eq (b : Bool) (l : List Rec) : (ctrVC Tryd.prog (lgH b l) 20 [encRs b l] [] (boolR (isLog l))) = vcLg b l := by kernel_rfl
def lrT (b : Bool) (l : List Rec) (k : Nat) : List AV := mkT 39 [(0, encRs b l), (2, .s (.bool false)), (3, .y (.int .i64 k))]
def lrS (r : Bool) : Exit × List AV × List Blk := match r with
  | true => (.exit 0, mkT 39 [], [])
  | false => (.ret, mkT 39 [(2, .s (.bool false))], [])
def vcLrL (b : Bool) (l : List Rec) (k : Nat) : Prop :=
  (decide ((↑k : Int) < (↑(List.length l) : Int)) = true → (true && decide ((↑k : Int) < (↑(List.length l) : Int))) = true ∧ (((List.getD l (Int.toNat (↑k : Int)) (@default Rec instInhabitedRec)).off != IntKind.wrap IntKind.u64 (↑k : Int)) = true → (logFrom l k = true → False) ∧ (logFrom l k = false → (false = false ∧ True) ∧ True ∧ true = true)) ∧ (((List.getD l (Int.toNat (↑k : Int)) (@default Rec instInhabitedRec)).off != IntKind.wrap IntKind.u64 (↑k : Int)) = false → (true && decide ((↑k : Int) < (↑(List.length l) : Int))) = true ∧ (decide ((32 : Int) < (↑(ByteArray.size (List.getD l (Int.toNat (↑k : Int)) (@default Rec instInhabitedRec)).key) : Int)) = true → (logFrom l k = true → False) ∧ (logFrom l k = false → (false = false ∧ True) ∧ True ∧ true = true)) ∧ (decide ((32 : Int) < (↑(ByteArray.size (List.getD l (Int.toNat (↑k : Int)) (@default Rec instInhabitedRec)).key) : Int)) = false → (true && decide ((↑k : Int) < (↑(List.length l) : Int))) = true ∧ (decide ((256 : Int) < (↑(List.length (List.getD l (Int.toNat (↑k : Int)) (@default Rec instInhabitedRec)).val) : Int)) = true → (logFrom l k = true → False) ∧ (logFrom l k = false → (false = false ∧ True) ∧ True ∧ true = true)) ∧ (decide ((256 : Int) < (↑(List.length (List.getD l (Int.toNat (↑k : Int)) (@default Rec instInhabitedRec)).val) : Int)) = false → ∃ (j : Nat), List.length l - j < List.length l - k ∧ (((b = b ∧ List.length l = List.length l ∧ contLe (List.length l) (5 : Nat) (cellsOf' encR l) (cellsOf' encR l)) ∧ false = false ∧ IntKind.wrap IntKind.i64 ((↑k : Int) + (1 : Int)) = (↑j : Int) ∧ True) ∧ True ∧ true = true) ∧ true = true ∧ (logFrom l j = true → (logFrom l k = true → true = true) ∧ (logFrom l k = false → true = false)) ∧ (logFrom l j = false → (logFrom l k = true → false = true) ∧ (logFrom l k = false → false = false)))))) ∧ (decide ((↑k : Int) < (↑(List.length l) : Int)) = false → (logFrom l k = true → True ∧ True ∧ true = true) ∧ (logFrom l k = false → False))
theorem vcLrL_eq (b : Bool) (l : List Rec) (k : Nat) : (loopVC Tryd.prog (hT _) 21 4 (fun k => l.length - k) (lrT b l) (fun _ => []) [0] (lgO l) lrS k) = vcLrL b l k := by kernel_rfl
noncomputable def lrH (b : Bool) (l : List Rec) : HintsT Tryd.prog := hh _ (lp1 21 4 (jobOf (lrT b l) (fun _ => []) [0] (lgO l) lrS 0) noLp) noCs noOp
def vcLr (b : Bool) (l : List Rec) : Prop :=
  (decide ((4096 : Int) < (↑(List.length l) : Int)) = true → false = isLog l ∧ True) ∧ (decide ((4096 : Int) < (↑(List.length l) : Int)) = false → (((b = b ∧ List.length l = List.length l ∧ contLe (List.length l) (5 : Nat) (cellsOf' encR l) (cellsOf' encR l)) ∧ false = false ∧ (0 : Int) = (0 : Int) ∧ True) ∧ True ∧ true = true) ∧ LoopOk Tryd.prog (21 : Nat) (4 : Nat) (loopAt Tryd.prog (21 : Nat) (4 : Nat)) { t := lrT b l (0 : Nat), m := [], mv := [] : St } (T.map (lout [(0 : Nat)] lrS) (lgO l (0 : Nat))) ∧ (logFrom l (0 : Nat) = true → true = isLog l ∧ True) ∧ (logFrom l (0 : Nat) = false → false = isLog l ∧ True))
theorem vcLr_eq (b : Bool) (l : List Rec) : (ctrVC Tryd.prog (lrH b l) 21 [encRs b l] [] (boolR (isLog l))) = vcLr b l := by kernel_rfl
def below (x y : Rec) : Bool := y.prod == x.prod && decide (y.seq < x.seq)
def lowR (l : List Rec) (x : Rec) : Bool := l.any (below x)
end Go.Proofs.YtjmdejbijigfjaaDoor

namespace Go.Proofs.YtjmdejbijigfjaaDoor
open Go.Ax
set_option maxRecDepth 1000000
theorem lg_loop (b : Bool) (l : List Rec) (hl : l.length ≤ 9223372036854775806) (k : Nat) : LoopOk Tryd.prog 20 2 (loopAt Tryd.prog 20 2) ⟨lgT b l k, [], []⟩ ((lgO l k).map (lout [0] (lgS b l))) := by
  refine loop_vc Tryd.mixed (fun _ => rfl) (fun k => (vcLgL_eq b l k).mpr ?_) k
  unfold vcLgL
  simp
  refine ⟨fun h => ?_, fun h => by simp [logFrom_end h]⟩
  rw [logFrom_step h]
  simp (disch := omega) only [wrap_i64]
  simp [okR, cast_succ_eq]
  generalize l[k]?.getD default = x
  grind
theorem lg_c (b : Bool) (l : List Rec) (hl : l.length ≤ 9223372036854775806) : (boolR (isLog l)).Sat (ACall' Tryd.prog 20 [encRs b l] []) := by
  refine ctr_vc (ht := lgH b l) Tryd.mixed rfl ?_
  rw [vcLg_eq b l]
  unfold vcLg
  have := lg_loop b l hl 0
  simp [this, isLog]
  grind
theorem lr_loop (b : Bool) (l : List Rec) (hl : l.length ≤ 9223372036854775806) (k : Nat) : LoopOk Tryd.prog 21 4 (loopAt Tryd.prog 21 4) ⟨lrT b l k, [], []⟩ ((lgO l k).map (lout [0] lrS)) := by
  refine loop_vc Tryd.mixed (fun _ => rfl) (fun k => (vcLrL_eq b l k).mpr ?_) k
  unfold vcLrL
  simp
  refine ⟨fun h => ?_, fun h => by simp [logFrom_end h]⟩
  rw [logFrom_step h]
  simp (disch := omega) only [wrap_i64]
  simp [okR, cast_succ_eq]
  generalize l[k]?.getD default = x
  grind
theorem lr_c (b : Bool) (l : List Rec) (hl : l.length ≤ 9223372036854775806) : (boolR (isLog l)).Sat (ACall' Tryd.prog 21 [encRs b l] []) := by
  refine ctr_vc (ht := lrH b l) Tryd.mixed rfl ?_
  rw [vcLr_eq b l]
  unfold vcLr
  have := lr_loop b l hl 0
  simp [this, isLog]
  grind
noncomputable def lgC (b : Bool) (l : List Rec) : Ctr Tryd.prog := ⟨20, [encRs b l], [], .need (l.length ≤ 9223372036854775806) (boolR (isLog l)), T.Sat.need fun h => lg_c b l h⟩
noncomputable def lrC (b : Bool) (l : List Rec) : Ctr Tryd.prog := ⟨21, [encRs b l], [], .need (l.length ≤ 9223372036854775806) (boolR (isLog l)), T.Sat.need fun h => lr_c b l h⟩
end Go.Proofs.YtjmdejbijigfjaaDoor

namespace Go.Proofs.YtjmdejbijigfjaaDoor
open Go.Ax
set_option maxRecDepth 1000000
def hd (l : List Rec) : Rec := l.getD 0 default
structure Jo where
  (a b out : List Rec) (ta tb : List Int)
def Jo.tA (s : Jo) : Bool := !s.a.isEmpty && !lowR s.b (hd s.a)
def Jo.tB (s : Jo) : Bool := !s.b.isEmpty && !lowR s.a (hd s.b)
def Jo.at (s : Jo) : Int := IntKind.u64.wrap (s.out.length : Nat)
def Jo.goA (s : Jo) : Jo := ⟨s.a.tail, s.b, s.out ++ [(hd s.a).to s.at], s.ta ++ [s.at], s.tb⟩
def Jo.goB (s : Jo) : Jo := ⟨s.a, s.b.tail, s.out ++ [(hd s.b).to s.at], s.ta, s.tb ++ [s.at]⟩
def joinN : Nat → Jo → Option Jo
  | 0, s => some s
  | n + 1, s => if s.tA then joinN n s.goA else if s.tB then joinN n s.goB else none
def Jo.run (s : Jo) : Option Jo := joinN (s.a.length + s.b.length) s
structure Jo.Ok (s : Jo) : Prop where
  a : ∀ x ∈ s.a, x.val.length ≤ 256
  b : ∀ x ∈ s.b, x.val.length ≤ 256
  n : s.a.length + s.b.length + s.out.length ≤ 4096
  ta : s.ta.length ≤ s.out.length
  tb : s.tb.length ≤ s.out.length
def Jo.end (s : Jo) : Jo := ⟨s.a, s.b, s.out, s.ta ++ [s.at], s.tb ++ [s.at]⟩
end Go.Proofs.YtjmdejbijigfjaaDoor

namespace Go.Proofs.YtjmdejbijigfjaaDoor
open Go.Ax
set_option maxRecDepth 1000000
theorem rec_le {cs : List AV} {x : Rec} (h0 : le0 (get cs 0) (.y (.int .u64 x.off))) (h1 : le0 (get cs 1) (.y (.string x.key))) (h2 : le0 (get cs 2) (encBs true x.val)) (h3 : le0 (get cs 3) (.y (.int .u64 x.prod))) (h4 : le0 (get cs 4) (.y (.int .u64 x.seq))) : ∀ j, j < 5 → le0 (get cs j) (get (encR x) j) := by
  intro j hj
  match j, hj with
  | 0, _ => exact h0
  | 1, _ => exact h1
  | 2, _ => exact h2
  | 3, _ => exact h3
  | 4, _ => exact h4
end Go.Proofs.YtjmdejbijigfjaaDoor

namespace Go.Proofs.YtjmdejbijigfjaaDoor
open Go.Ax
set_option maxRecDepth 1000000
end Go.Proofs.YtjmdejbijigfjaaDoor

namespace Go.Proofs
open Go.Shelf
def Tryd.lays160_ren : Go.Shelf.Ren := ⟨fun | 160 => 61 | 232 => 71 | 231 => 70 | 227 => 72 | 234 => 74 | 233 => 73 | 236 => 76 | 235 => 75 | 228 => 81 | 271 => 84 | 151 => 83 | 197 => 82 | 120 => 88 | 152 => 87 | 260 => 86 | 137 => 90 | 119 => 91 | 224 => 92 | 225 => 93 | 217 => 94 | 266 => 95 | n => n, fun | 9 => 9 | 4 => 4 | 3 => 3 | 5 => 5 | 117 => 105 | 116 => 104 | 0 => 0 | 124 => 108 | 21 => 21 | 105 => 113 | 46 => 110 | 119 => 118 | 139 => 121 | 138 => 120 | n => n, fun | 3 => 0 | 4 => 1 | n => n⟩
theorem Tryd.lays160 : Go.Proofs.Lays.n160 Tryd.prog Tryd.lays160_ren := {
  mixed := by kernel_rfl
  f119 := Tryd.func91.trans (congrArg some (by kernel_rfl))
  f120 := Tryd.func88.trans (congrArg some (by kernel_rfl))
  f137 := Tryd.func90.trans (congrArg some (by kernel_rfl))
  f151 := Tryd.func83.trans (congrArg some (by kernel_rfl))
  f152 := Tryd.func87.trans (congrArg some (by kernel_rfl))
  f160 := Tryd.func61.trans (congrArg some (by kernel_rfl))
  f197 := Tryd.func82.trans (congrArg some (by kernel_rfl))
  f217 := Tryd.func94.trans (congrArg some (by kernel_rfl))
  f224 := Tryd.func92.trans (congrArg some (by kernel_rfl))
  f225 := Tryd.func93.trans (congrArg some (by kernel_rfl))
  f227 := Tryd.func72.trans (congrArg some (by kernel_rfl))
  f228 := Tryd.func81.trans (congrArg some (by kernel_rfl))
  f231 := Tryd.func70.trans (congrArg some (by kernel_rfl))
  f232 := Tryd.func71.trans (congrArg some (by kernel_rfl))
  f233 := Tryd.func73.trans (congrArg some (by kernel_rfl))
  f234 := Tryd.func74.trans (congrArg some (by kernel_rfl))
  f235 := Tryd.func75.trans (congrArg some (by kernel_rfl))
  f236 := Tryd.func76.trans (congrArg some (by kernel_rfl))
  f260 := Tryd.func86.trans (congrArg some (by kernel_rfl))
  f266 := Tryd.func95.trans (congrArg some (by kernel_rfl))
  f271 := Tryd.func84.trans (congrArg some (by kernel_rfl))
  t0 := Tryd.underlying0
  a0 := Tryd.isAgg0
  z0 := Tryd.sizeOf0
  v0 := Tryd.zeroValue0
  t3 := Tryd.underlying3
  a3 := Tryd.isAgg3
  z3 := Tryd.sizeOf3
  v3 := Tryd.zeroValue3
  t4 := Tryd.underlying4
  a4 := Tryd.isAgg4
  z4 := Tryd.sizeOf4
  v4 := Tryd.zeroValue4
  t5 := Tryd.underlying5
  a5 := Tryd.isAgg5
  z5 := Tryd.sizeOf5
  v5 := Tryd.zeroValue5
  t9 := Tryd.underlying9
  a9 := Tryd.isAgg9
  z9 := Tryd.sizeOf9
  v9 := Tryd.zeroValue9
  t21 := Tryd.underlying21
  a21 := Tryd.isAgg21
  z21 := Tryd.sizeOf21
  v21 := Tryd.zeroValue21
  t46 := Tryd.underlying110
  a46 := Tryd.isAgg110
  z46 := Tryd.sizeOf110
  v46 := Tryd.zeroValue110
  t105 := Tryd.underlying113
  a105 := Tryd.isAgg113
  z105 := Tryd.sizeOf113
  v105 := Tryd.zeroValue113
  t116 := Tryd.underlying104
  a116 := Tryd.isAgg104
  z116 := Tryd.sizeOf104
  t117 := Tryd.underlying105
  a117 := Tryd.isAgg105
  z117 := Tryd.sizeOf105
  v117 := Tryd.zeroValue105
  t119 := Tryd.underlying118
  a119 := Tryd.isAgg118
  z119 := Tryd.sizeOf118
  t124 := Tryd.underlying108
  a124 := Tryd.isAgg108
  z124 := Tryd.sizeOf108
  v124 := Tryd.zeroValue108
  t138 := Tryd.underlying120
  a138 := Tryd.isAgg120
  z138 := Tryd.sizeOf120
  v138 := Tryd.zeroValue120
  t139 := Tryd.underlying121
  a139 := Tryd.isAgg121
  z139 := Tryd.sizeOf121
  v139 := Tryd.zeroValue121
  g3 := by kernel_rfl
  g4 := by kernel_rfl }
end Go.Proofs
namespace Go.Proofs.YtjmdejbijigfjaaDoor
open Go.Ax
set_option maxRecDepth 1000000
def chars : List UInt8 := [97, 98, 99, 100, 101, 102, 103, 104, 105, 106, 107, 108, 109, 110, 111, 112, 113, 114, 115, 116, 117, 118, 119, 120, 121, 122, 48, 49, 50, 51, 52, 53, 54, 55, 56, 57, 45, 95, 46]
def isCh (b : UInt8) : Bool := chars.contains b
def nameOk (s : ByteArray) : Bool := !(s.data.toList == []) && (decide ((s.size : Int) ≤ 32) && s.data.toList.all isCh)
theorem drop_all {l : List UInt8} {p : UInt8 → Bool} : (l.dropWhile p == []) = l.all p := by
  induction l with
  | nil => rfl
  | cons a l ih =>
    rw [List.dropWhile_cons, List.all_cons]
    cases h : p a
    · simp
    · simpa using ih
theorem trim_all (l : List UInt8) : (Lib.trimS l chars == []) = l.all isCh := by
  unfold Lib.trimS Lib.trimLeftS Lib.trimRightS
  rw [drop_all]
  cases h : l.all isCh
  · rw [Bool.eq_false_iff]
    intro h2
    have h3 : ∀ m : List UInt8, (m.dropWhile isCh).all isCh = true → m.all isCh = true := by
      intro m
      induction m with
      | nil => exact fun _ => rfl
      | cons a m ih =>
        rw [List.dropWhile_cons]
        cases ha : isCh a
        · intro h; simp at h; simp [ha] at h
        · intro h; simp only [List.all_cons, ha, Bool.true_and]; exact ih h
    have h4 : (l.reverse.dropWhile isCh).all isCh = true := by
      rw [← List.all_reverse]; exact h2
    have h5 := h3 _ h4
    rw [List.all_reverse] at h5
    rw [h5] at h; cases h
  · rw [List.all_reverse]
    have : l.reverse.dropWhile isCh = [] := by
      have := drop_all (l := l.reverse) (p := isCh)
      rw [List.all_reverse, h] at this
      simpa using this
    have e : l.reverse.dropWhile (fun x => chars.contains x) = [] := this
    rw [e]; rfl
def trimR (s : ByteArray) : T An := .ret (.y (.string ⟨(Lib.trimS s.data.toList chars).toArray⟩), [], [])
theorem trim_c (s : ByteArray) (hs : s.size ≤ 9223372036854775807) : (trimR s).Sat (ACall' Tryd.prog 61 [.y (.string s), .s (.string ⟨chars.toArray⟩)] []) := by
  refine call_below fun w vals hv => ?_
  obtain ⟨H, E, v, l1, e1, hv1, v2, l2, e2, hv2, e3⟩ := hv
  have e3 : l2 = [] := e3
  subst e3
  subst e2
  obtain rfl := hv1.1
  obtain rfl := hv2.1
  have hvals : vals = #[.string s, .string ⟨chars.toArray⟩] := Array.ext' e1
  subst hvals
  refine (Any.strings_Trim_laid Tryd.lays160 (by kernel_rfl) s ⟨chars.toArray⟩ w hs (by decide) (Go.Proofs.ascii_of_all (by decide))).mono ?_
  rintro e w' ⟨rfl, hb⟩
  exact ⟨_, rfl, fun _ _ => ⟨rfl, rfl⟩, hb⟩
noncomputable def trimC (s : ByteArray) : Ctr Tryd.prog := ⟨61, [.y (.string s), .s (.string ⟨chars.toArray⟩)], [], .need (s.size ≤ 9223372036854775807) (trimR s), T.Sat.need fun h => trim_c s h⟩
noncomputable def nameH (s : ByteArray) : HintsT Tryd.prog := hh _ noLp (cs1 41 1 9 (trimC s) noCs) noOp
def vcName (s : ByteArray) : Prop :=
  ((!s.data.toList == []) = true → (decide ((↑(ByteArray.size s) : Int) ≤ (32 : Int)) = true → (s = s ∧ { data := #[(97 : UInt8), (98 : UInt8), (99 : UInt8), (100 : UInt8), (101 : UInt8), (102 : UInt8), (103 : UInt8), (104 : UInt8), (105 : UInt8), (106 : UInt8), (107 : UInt8), (108 : UInt8), (109 : UInt8), (110 : UInt8), (111 : UInt8), (112 : UInt8), (113 : UInt8), (114 : UInt8), (115 : UInt8), (116 : UInt8), (117 : UInt8), (118 : UInt8), (119 : UInt8), (120 : UInt8), (121 : UInt8), (122 : UInt8), (48 : UInt8), (49 : UInt8), (50 : UInt8), (51 : UInt8), (52 : UInt8), (53 : UInt8), (54 : UInt8), (55 : UInt8), (56 : UInt8), (57 : UInt8), (45 : UInt8), (95 : UInt8), (46 : UInt8)] : ByteArray } = { data := #[(97 : UInt8), (98 : UInt8), (99 : UInt8), (100 : UInt8), (101 : UInt8), (102 : UInt8), (103 : UInt8), (104 : UInt8), (105 : UInt8), (106 : UInt8), (107 : UInt8), (108 : UInt8), (109 : UInt8), (110 : UInt8), (111 : UInt8), (112 : UInt8), (113 : UInt8), (114 : UInt8), (115 : UInt8), (116 : UInt8), (117 : UInt8), (118 : UInt8), (119 : UInt8), (120 : UInt8), (121 : UInt8), (122 : UInt8), (48 : UInt8), (49 : UInt8), (50 : UInt8), (51 : UInt8), (52 : UInt8), (53 : UInt8), (54 : UInt8), (55 : UInt8), (56 : UInt8), (57 : UInt8), (45 : UInt8), (95 : UInt8), (46 : UInt8)] : ByteArray } ∧ True) ∧ True ∧ ByteArray.size s ≤ (9223372036854775807 : Nat) ∧ (Lib.trimS s.data.toList [(97 : UInt8), (98 : UInt8), (99 : UInt8), (100 : UInt8), (101 : UInt8), (102 : UInt8), (103 : UInt8), (104 : UInt8), (105 : UInt8), (106 : UInt8), (107 : UInt8), (108 : UInt8), (109 : UInt8), (110 : UInt8), (111 : UInt8), (112 : UInt8), (113 : UInt8), (114 : UInt8), (115 : UInt8), (116 : UInt8), (117 : UInt8), (118 : UInt8), (119 : UInt8), (120 : UInt8), (121 : UInt8), (122 : UInt8), (48 : UInt8), (49 : UInt8), (50 : UInt8), (51 : UInt8), (52 : UInt8), (53 : UInt8), (54 : UInt8), (55 : UInt8), (56 : UInt8), (57 : UInt8), (45 : UInt8), (95 : UInt8), (46 : UInt8)] == []) = nameOk s ∧ True) ∧ (decide ((↑(ByteArray.size s) : Int) ≤ (32 : Int)) = false → false = nameOk s ∧ True)) ∧ ((!s.data.toList == []) = false → false = nameOk s ∧ True)
theorem vcName_eq (s : ByteArray) : (ctrVC Tryd.prog (nameH s) 41 [.y (.string s)] [] (boolR (nameOk s))) = vcName s := by kernel_rfl
end Go.Proofs.YtjmdejbijigfjaaDoor

namespace Go.Proofs.YtjmdejbijigfjaaDoor
open Go.Ax
set_option maxRecDepth 1000000
theorem name_c (s : ByteArray) : (boolR (nameOk s)).Sat (ACall' Tryd.prog 41 [.y (.string s)] []) := by
  refine ctr_vc (ht := nameH s) Tryd.mixed rfl ?_
  rw [vcName_eq s]
  unfold vcName
  have e := trim_all s.data.toList
  unfold chars at e
  simp only [e, nameOk]
  generalize (s.data.toList == []) = a
  generalize hb : decide ((s.size : Int) ≤ 32) = b
  generalize s.data.toList.all isCh = c
  cases a <;> cases b <;> cases c <;> simp at hb ⊢ <;> omega
noncomputable def nameC (s : ByteArray) : Ctr Tryd.prog := ⟨41, [.y (.string s)], [], boolR (nameOk s), name_c s⟩
def a1 : ByteArray := ⟨#[97, 45, 49]⟩
noncomputable def livH : HintsT Tryd.prog := withSh (hh _ noLp (cs1 11 2 19 (nameC a1) noCs) noOp) (sh1 47 2 0 779 noSh)
def vcLives (u : Unit) : Prop :=
  ({ data := #[(97 : UInt8), (45 : UInt8), (49 : UInt8)] : ByteArray } = a1 ∧ True) ∧ True ∧ true = true ∧ True
theorem vcLives_eq (u : Unit) : (ctrVC Tryd.prog livH 11 [] [] (boolR true)) = vcLives u := by kernel_rfl
theorem lives_c : (boolR true).Sat (ACall' Tryd.prog 11 [] []) := by
  refine ctr_vc (ht := livH) Tryd.mixed rfl ?_
  rw [vcLives_eq ()]
  unfold vcLives
  exact ⟨⟨rfl, trivial⟩, trivial, rfl, trivial⟩
noncomputable def livesC : Ctr Tryd.prog := ⟨11, [], [], boolR true, lives_c⟩
end Go.Proofs.YtjmdejbijigfjaaDoor

namespace Go.Proofs.YtjmdejbijigfjaaDoor
open Go.Ax
set_option maxRecDepth 1000000
def smT (b1 b2 : Bool) (a : List Rec) (k : Nat) : List AV := mkT 82 [(0, encRs b1 a), (1, encRs b2 a), (5, .y (.int .i64 k))]
def smS (_ : Unit) : Exit × List AV × List Blk := (.exit 0, mkT 82 [], [])
def vcSameL (b1 : Bool) (b2 : Bool) (a : List Rec) (k : Nat) : Prop :=
  (decide ((↑k : Int) < (↑(List.length a) : Int)) = true → (true && decide ((↑k : Int) < (↑(List.length a) : Int))) = true ∧ (true && decide ((↑k : Int) < (↑(List.length a) : Int))) = true ∧ (((List.getD a (Int.toNat (↑k : Int)) (@default Rec instInhabitedRec)).off != (List.getD a (Int.toNat (↑k : Int)) (@default Rec instInhabitedRec)).off) = true → False) ∧ (((List.getD a (Int.toNat (↑k : Int)) (@default Rec instInhabitedRec)).off != (List.getD a (Int.toNat (↑k : Int)) (@default Rec instInhabitedRec)).off) = false → (true && decide ((↑k : Int) < (↑(List.length a) : Int))) = true ∧ (true && decide ((↑k : Int) < (↑(List.length a) : Int))) = true ∧ ((!(List.getD a (Int.toNat (↑k : Int)) (@default Rec instInhabitedRec)).key.data.toList == (List.getD a (Int.toNat (↑k : Int)) (@default Rec instInhabitedRec)).key.data.toList) = true → False) ∧ ((!(List.getD a (Int.toNat (↑k : Int)) (@default Rec instInhabitedRec)).key.data.toList == (List.getD a (Int.toNat (↑k : Int)) (@default Rec instInhabitedRec)).key.data.toList) = false → (true && decide ((↑k : Int) < (↑(List.length a) : Int))) = true ∧ (∀ (k_1 : Nat), k_1 < List.length (List.getD a (Int.toNat (↑k : Int)) (@default Rec instInhabitedRec)).val → true = true) ∧ (true && decide ((↑k : Int) < (↑(List.length a) : Int))) = true ∧ (∀ (k_1 : Nat), k_1 < List.length (List.getD a (Int.toNat (↑k : Int)) (@default Rec instInhabitedRec)).val → true = true) ∧ ((!List.map (fun (a : AV) => match match a with | AV.s (Value.int IntKind.u8 n) => some n | AV.y (Value.int IntKind.u8 n) => some n | x => none with | some n => UInt8.ofNat (Int.toNat n) | none => (0 : UInt8)) (List.map (fun (k_1 : Nat) => AV.y (Value.int IntKind.u8 (List.getD (List.getD a (Int.toNat (↑k : Int)) (@default Rec instInhabitedRec)).val k_1 (0 : Int)))) (List.range (List.length (List.getD a (Int.toNat (↑k : Int)) (@default Rec instInhabitedRec)).val))) == List.map (fun (a : AV) => match match a with | AV.s (Value.int IntKind.u8 n) => some n | AV.y (Value.int IntKind.u8 n) => some n | x => none with | some n => UInt8.ofNat (Int.toNat n) | none => (0 : UInt8)) (List.map (fun (k_1 : Nat) => AV.y (Value.int IntKind.u8 (List.getD (List.getD a (Int.toNat (↑k : Int)) (@default Rec instInhabitedRec)).val k_1 (0 : Int)))) (List.range (List.length (List.getD a (Int.toNat (↑k : Int)) (@default Rec instInhabitedRec)).val)))) = true → False) ∧ ((!List.map (fun (a : AV) => match match a with | AV.s (Value.int IntKind.u8 n) => some n | AV.y (Value.int IntKind.u8 n) => some n | x => none with | some n => UInt8.ofNat (Int.toNat n) | none => (0 : UInt8)) (List.map (fun (k_1 : Nat) => AV.y (Value.int IntKind.u8 (List.getD (List.getD a (Int.toNat (↑k : Int)) (@default Rec instInhabitedRec)).val k_1 (0 : Int)))) (List.range (List.length (List.getD a (Int.toNat (↑k : Int)) (@default Rec instInhabitedRec)).val))) == List.map (fun (a : AV) => match match a with | AV.s (Value.int IntKind.u8 n) => some n | AV.y (Value.int IntKind.u8 n) => some n | x => none with | some n => UInt8.ofNat (Int.toNat n) | none => (0 : UInt8)) (List.map (fun (k_1 : Nat) => AV.y (Value.int IntKind.u8 (List.getD (List.getD a (Int.toNat (↑k : Int)) (@default Rec instInhabitedRec)).val k_1 (0 : Int)))) (List.range (List.length (List.getD a (Int.toNat (↑k : Int)) (@default Rec instInhabitedRec)).val)))) = false → (true && decide ((↑k : Int) < (↑(List.length a) : Int))) = true ∧ (true && decide ((↑k : Int) < (↑(List.length a) : Int))) = true ∧ (((List.getD a (Int.toNat (↑k : Int)) (@default Rec instInhabitedRec)).prod != (List.getD a (Int.toNat (↑k : Int)) (@default Rec instInhabitedRec)).prod) = true → False) ∧ (((List.getD a (Int.toNat (↑k : Int)) (@default Rec instInhabitedRec)).prod != (List.getD a (Int.toNat (↑k : Int)) (@default Rec instInhabitedRec)).prod) = false → (true && decide ((↑k : Int) < (↑(List.length a) : Int))) = true ∧ (true && decide ((↑k : Int) < (↑(List.length a) : Int))) = true ∧ (((List.getD a (Int.toNat (↑k : Int)) (@default Rec instInhabitedRec)).seq != (List.getD a (Int.toNat (↑k : Int)) (@default Rec instInhabitedRec)).seq) = true → False) ∧ (((List.getD a (Int.toNat (↑k : Int)) (@default Rec instInhabitedRec)).seq != (List.getD a (Int.toNat (↑k : Int)) (@default Rec instInhabitedRec)).seq) = false → ∃ (j : Nat), List.length a - j < List.length a - k ∧ (((b1 = b1 ∧ List.length a = List.length a ∧ contLe (List.length a) (5 : Nat) (cellsOf' encR a) (cellsOf' encR a)) ∧ (b2 = b2 ∧ List.length a = List.length a ∧ contLe (List.length a) (5 : Nat) (cellsOf' encR a) (cellsOf' encR a)) ∧ IntKind.wrap IntKind.i64 ((↑k : Int) + (1 : Int)) = (↑j : Int) ∧ True) ∧ True ∧ true = true) ∧ true = true ∧ () = ())))))) ∧ (decide ((↑k : Int) < (↑(List.length a) : Int)) = false → True ∧ True ∧ true = true)
theorem vcSameL_eq (b1 : Bool) (b2 : Bool) (a : List Rec) (k : Nat) : (loopVC Tryd.prog (hT _) 16 4 (fun k => a.length - k) (smT b1 b2 a) (fun _ => []) [0] (fun _ => .ret ()) smS k) = vcSameL b1 b2 a k := by kernel_rfl
noncomputable def smH (b1 b2 : Bool) (a : List Rec) : HintsT Tryd.prog := hh _ (lp1 16 4 (jobOf (smT b1 b2 a) (fun _ => []) [0] (fun _ => .ret ()) smS 0) noLp) noCs noOp
def vcSame (b1 : Bool) (b2 : Bool) (a : List Rec) : Prop :=
  (((↑(List.length a) : Int) != (↑(List.length a) : Int)) = true → false = true ∧ True) ∧ (((↑(List.length a) : Int) != (↑(List.length a) : Int)) = false → (((b1 = b1 ∧ List.length a = List.length a ∧ contLe (List.length a) (5 : Nat) (cellsOf' encR a) (cellsOf' encR a)) ∧ (b2 = b2 ∧ List.length a = List.length a ∧ contLe (List.length a) (5 : Nat) (cellsOf' encR a) (cellsOf' encR a)) ∧ (0 : Int) = (0 : Int) ∧ True) ∧ True ∧ true = true) ∧ LoopOk Tryd.prog (16 : Nat) (4 : Nat) (loopAt Tryd.prog (16 : Nat) (4 : Nat)) { t := smT b1 b2 a (0 : Nat), m := [], mv := [] : St } (T.map (lout [(0 : Nat)] smS) ((fun (x : Nat) => T.ret ()) (0 : Nat))) ∧ true = true ∧ True)
theorem vcSame_eq (b1 : Bool) (b2 : Bool) (a : List Rec) : (ctrVC Tryd.prog (smH b1 b2 a) 16 [encRs b1 a, encRs b2 a] [] (boolR true)) = vcSame b1 b2 a := by kernel_rfl
def stT (b1 b2 : Bool) (a : List Int) (k : Nat) : List AV := mkT 26 [(0, encUs b1 a), (1, encUs b2 a), (5, .y (.int .i64 k))]
theorem same_loop (b1 b2 : Bool) (a : List Rec) (hl : a.length ≤ 9223372036854775806) (k : Nat) : LoopOk Tryd.prog 16 4 (loopAt Tryd.prog 16 4) ⟨smT b1 b2 a k, [], []⟩ (T.map (lout [0] smS) (.ret ())) := by
  refine loop_vc (o := fun _ => .ret ()) Tryd.mixed (fun _ => rfl) (fun k => (vcSameL_eq b1 b2 a k).mpr ?_) k
  unfold vcSameL
  simp
  intro h
  have hb : ∀ q : Nat, isU8 (cellsOf' encB (a[k]?.getD default).val q 0) = true := fun _ => rfl
  simp [h, hb]
  exact ⟨k + 1, by omega, by rw [wrap_i64 (by omega) (by omega)]; omega⟩
theorem same_c (b1 b2 : Bool) (a : List Rec) (hl : a.length ≤ 9223372036854775806) : (boolR true).Sat (ACall' Tryd.prog 16 [encRs b1 a, encRs b2 a] []) := by
  refine ctr_vc (ht := smH b1 b2 a) Tryd.mixed rfl ?_
  rw [vcSame_eq b1 b2 a]
  unfold vcSame
  simp [same_loop b1 b2 a hl 0]
noncomputable def sameC (b1 b2 : Bool) (a b : List Rec) : Ctr Tryd.prog := ⟨16, [encRs b1 a, encRs b2 b], [], .need (a.length ≤ 9223372036854775806 ∧ a = b) (boolR true), T.Sat.need fun h => by obtain ⟨h1, rfl⟩ := h; exact same_c b1 b2 a h1⟩
def kB : ByteArray := ⟨#[107]⟩
def grM (m : Int) : Int := (IntKind.i64.wrap m).tmod 4099
theorem grM_le (m : Int) : grM m < 4099 := by
  unfold grM
  have := Int.tmod_lt_of_pos (IntKind.i64.wrap m) (show (0 : Int) < 4099 by omega)
  omega
end Go.Proofs.YtjmdejbijigfjaaDoor

namespace Go.Proofs.YtjmdejbijigfjaaDoor
open Go.Ax
set_option maxRecDepth 1000000
theorem tagR (x : Rec) (j : Nat) (hj : j < 5) : tagT (Ax.get (encR x) j) = true := by
  match j, hj with
  | 0, _ => rfl
  | 1, _ => rfl
  | 2, _ => rfl
  | 3, _ => rfl
  | 4, _ => rfl
end Go.Proofs.YtjmdejbijigfjaaDoor

namespace Go.Proofs.YtjmdejbijigfjaaDoor.H
open Go.Ax Go.Proofs.YtjmdejbijigfjaaDoor
set_option maxRecDepth 1000000
def trRec (x : Rec) (j : Nat) : Tr := match j with
  | 0 => .av (.y (.int .u64 x.off))
  | 1 => .av (.y (.string x.key))
  | 2 => .frow 5 1 x.val.length (cellsOf' encB x.val)
  | 3 => .av (.y (.int .u64 x.prod))
  | 4 => .av (.y (.int .u64 x.seq))
  | _ => .av .junk
def trRs (l : List Rec) (k : Nat) : Nat → Tr := trRec (l.getD k default)
def zR : List Value := [.int .u64 0, .string ⟨#[]⟩, .slice none 0 0, .int .u64 0, .int .u64 0]
def towN (l : List Rec) (k : Nat) : Blk := .trow 27 5 k none (trRs l) [] zR
def towR (l : List Rec) : Blk := towN l l.length
def recW (x : Rec) : T An := .ret (.agg [.y (.int .u64 x.off), .y (.string x.key), .own 0 1 0 x.val.length, .y (.int .u64 x.prod), .y (.int .u64 x.seq)], [.row 5 1 x.val.length none (cellsOf' encB x.val)], [])
noncomputable def owwH (b : Bool) (x : Rec) : HintsT Tryd.prog := withSh (hh _ noLp (cs1 47 1 4 (clnC true x.val.length (cellsOf' encB x.val)) noCs) noOp) noSh
def vcOww (x : Rec) (o : Int) : Prop :=
  ((true = true ∧ List.length x.val = List.length x.val ∧ contLe (List.length x.val) (1 : Nat) (cellsOf' encB x.val) (cellsOf' encB x.val)) ∧ True) ∧ True ∧ List.length x.val ≤ (140737488355328 : Nat) ∧ (IntKind.wrap IntKind.u64 o = IntKind.wrap IntKind.u64 o ∧ x.key = x.key ∧ ((0 : Nat) = (0 : Nat) ∧ List.length x.val = List.length x.val) ∧ x.prod = x.prod ∧ x.seq = x.seq ∧ True) ∧ (List.length x.val = List.length x.val ∧ contLe (List.length x.val) (1 : Nat) (cellsOf' encB x.val) (cellsOf' encB x.val)) ∧ True
theorem vcOww_eq (x : Rec) (o : Int) : (ctrVC Tryd.prog (owwH true x) 47 [.agg (encR x), .y (.int .i64 o)] [] (recW (x.to (IntKind.u64.wrap o)))) = vcOww x o := by kernel_rfl
theorem oww_c (x : Rec) (o : Int) (h : x.val.length ≤ 140737488355328) : (recW (x.to (IntKind.u64.wrap o))).Sat (ACall' Tryd.prog 47 [.agg (encR x), .y (.int .i64 o)] []) := by
  refine ctr_vc (ht := owwH true x) Tryd.mixed rfl ?_
  rw [vcOww_eq x o]
  unfold vcOww
  simp [h, Rec.to]
noncomputable def owwC (x : Rec) (o : Int) : Ctr Tryd.prog := ⟨47, [.agg (encR x), .y (.int .i64 o)], [], .need (x.val.length ≤ 140737488355328) (recW (x.to (IntKind.u64.wrap o))), T.Sat.need fun h => oww_c x o h⟩
def owT (b : Bool) (l : List Rec) (k : Nat) : List AV := mkT 26 [(0, encRs b l), (3, .own 0 5 0 k), (10, encRs b l), (11, .y (.int .i64 l.length)), (12, .y (.int .i64 k))]
def owO (l : List Rec) (k : { k : Nat // k ≤ l.length }) : T Unit := .ret ()
def owS (l : List Rec) (r : Unit) : Exit × List AV × List Blk := (.exit 0, mkT 26 [(3, .own 0 5 0 l.length)], [towR l])
noncomputable def owLH (l : List Rec) (k : Nat) : HintsT Tryd.prog := withSh (hh _ noLp (cs1 46 5 5 (owwC (l.getD k default) (IntKind.i64.wrap (l.getD k default).off)) noCs) noOp) noSh
def vcOwL (b : Bool) (l : List Rec) (k : { k : Nat // k ≤ l.length }) : Prop :=
  (decide ((↑k.val : Int) < (↑(List.length l) : Int)) = true → (true && decide ((↑k.val : Int) < (↑(List.length l) : Int))) = true ∧ (((List.getD l (Int.toNat (↑k.val : Int)) (@default Rec instInhabitedRec)).off = (List.getD l k.val (@default Rec instInhabitedRec)).off ∧ (List.getD l (Int.toNat (↑k.val : Int)) (@default Rec instInhabitedRec)).key = (List.getD l k.val (@default Rec instInhabitedRec)).key ∧ (true = true ∧ List.length (List.getD l (Int.toNat (↑k.val : Int)) (@default Rec instInhabitedRec)).val = List.length (List.getD l k.val (@default Rec instInhabitedRec)).val ∧ contLe (List.length (List.getD l (Int.toNat (↑k.val : Int)) (@default Rec instInhabitedRec)).val) (1 : Nat) (cellsOf' encB (List.getD l (Int.toNat (↑k.val : Int)) (@default Rec instInhabitedRec)).val) (cellsOf' encB (List.getD l k.val (@default Rec instInhabitedRec)).val)) ∧ (List.getD l (Int.toNat (↑k.val : Int)) (@default Rec instInhabitedRec)).prod = (List.getD l k.val (@default Rec instInhabitedRec)).prod ∧ (List.getD l (Int.toNat (↑k.val : Int)) (@default Rec instInhabitedRec)).seq = (List.getD l k.val (@default Rec instInhabitedRec)).seq ∧ True) ∧ IntKind.wrap IntKind.i64 (List.getD l (Int.toNat (↑k.val : Int)) (@default Rec instInhabitedRec)).off = IntKind.wrap IntKind.i64 (List.getD l k.val (@default Rec instInhabitedRec)).off ∧ True) ∧ True ∧ List.length (List.getD l k.val (@default Rec instInhabitedRec)).val ≤ (140737488355328 : Nat) ∧ k.val = k.val ∧ k.val + (1 : Nat) ≤ (9223372036854775807 : Nat) ∧ (k.val + (1 : Nat)) * (64 : Nat) ≤ (140737488355328 : Nat) ∧ ∃ (j : { k : Nat // k ≤ List.length l }), List.length l - j.val < List.length l - k.val ∧ (((b = b ∧ List.length l = List.length l ∧ contLe (List.length l) (5 : Nat) (cellsOf' encR l) (cellsOf' encR l)) ∧ ((0 : Nat) = (0 : Nat) ∧ k.val + (1 : Nat) = j.val) ∧ (b = b ∧ List.length l = List.length l ∧ contLe (List.length l) (5 : Nat) (cellsOf' encR l) (cellsOf' encR l)) ∧ (↑(List.length l) : Int) = (↑(List.length l) : Int) ∧ IntKind.wrap IntKind.i64 ((↑k.val : Int) + (1 : Int)) = (↑j.val : Int) ∧ True) ∧ (((k.val + (1 : Nat) = j.val ∧ (((true = true ∧ IntKind.wrap IntKind.u64 (IntKind.wrap IntKind.i64 (List.getD l k.val (@default Rec instInhabitedRec)).off) = (List.getD l k.val (@default Rec instInhabitedRec)).off) ∧ (true = true ∧ (List.getD l k.val (@default Rec instInhabitedRec)).key = (List.getD l k.val (@default Rec instInhabitedRec)).key) ∧ (List.length (List.getD l k.val (@default Rec instInhabitedRec)).val = List.length (List.getD l k.val (@default Rec instInhabitedRec)).val ∧ contLe (List.length (List.getD l k.val (@default Rec instInhabitedRec)).val) (1 : Nat) (cellsOf' encB (List.getD l k.val (@default Rec instInhabitedRec)).val) (cellsOf' encB (List.getD l k.val (@default Rec instInhabitedRec)).val)) ∧ (true = true ∧ (List.getD l k.val (@default Rec instInhabitedRec)).prod = (List.getD l k.val (@default Rec instInhabitedRec)).prod) ∧ (true = true ∧ (List.getD l k.val (@default Rec instInhabitedRec)).seq = (List.getD l k.val (@default Rec instInhabitedRec)).seq) ∧ True) ∧ True) ∧ ∀ (k_1 : Nat), k_1 < k.val + (1 : Nat) → ¬k_1 = k.val → (List.getD l k_1 (@default Rec instInhabitedRec)).off = (List.getD l k_1 (@default Rec instInhabitedRec)).off ∧ (List.getD l k_1 (@default Rec instInhabitedRec)).key = (List.getD l k_1 (@default Rec instInhabitedRec)).key ∧ (List.length (List.getD l k_1 (@default Rec instInhabitedRec)).val = List.length (List.getD l k_1 (@default Rec instInhabitedRec)).val ∧ contLe (List.length (List.getD l k_1 (@default Rec instInhabitedRec)).val) (1 : Nat) (cellsOf' encB (List.getD l k_1 (@default Rec instInhabitedRec)).val) (cellsOf' encB (List.getD l k_1 (@default Rec instInhabitedRec)).val)) ∧ (List.getD l k_1 (@default Rec instInhabitedRec)).prod = (List.getD l k_1 (@default Rec instInhabitedRec)).prod ∧ (List.getD l k_1 (@default Rec instInhabitedRec)).seq = (List.getD l k_1 (@default Rec instInhabitedRec)).seq ∧ True) ∧ True) ∧ True) ∧ true = true) ∧ true = true ∧ () = ()) ∧ (decide ((↑k.val : Int) < (↑(List.length l) : Int)) = false → (((0 : Nat) = (0 : Nat) ∧ k.val = List.length l) ∧ True) ∧ ((k.val = List.length l ∧ ∀ (k_1 : Nat), k_1 < k.val → (List.getD l k_1 (@default Rec instInhabitedRec)).off = (List.getD l k_1 (@default Rec instInhabitedRec)).off ∧ (List.getD l k_1 (@default Rec instInhabitedRec)).key = (List.getD l k_1 (@default Rec instInhabitedRec)).key ∧ (List.length (List.getD l k_1 (@default Rec instInhabitedRec)).val = List.length (List.getD l k_1 (@default Rec instInhabitedRec)).val ∧ contLe (List.length (List.getD l k_1 (@default Rec instInhabitedRec)).val) (1 : Nat) (cellsOf' encB (List.getD l k_1 (@default Rec instInhabitedRec)).val) (cellsOf' encB (List.getD l k_1 (@default Rec instInhabitedRec)).val)) ∧ (List.getD l k_1 (@default Rec instInhabitedRec)).prod = (List.getD l k_1 (@default Rec instInhabitedRec)).prod ∧ (List.getD l k_1 (@default Rec instInhabitedRec)).seq = (List.getD l k_1 (@default Rec instInhabitedRec)).seq ∧ True) ∧ True) ∧ true = true)
theorem vcOwL_eq (b : Bool) (l : List Rec) (k : { k : Nat // k ≤ l.length }) : (loopVC Tryd.prog (owLH l k.1) 46 3 (fun (k : { k : Nat // k ≤ l.length }) => l.length - k.1) (fun k => owT b l k.1) (fun k => [towN l k.1]) [0, 1, 2, 3, 4, 5] (owO l) (owS l) k) = vcOwL b l k := by kernel_rfl
end Go.Proofs.YtjmdejbijigfjaaDoor.H

namespace Go.Proofs.YtjmdejbijigfjaaDoor
open Go.Ax
set_option maxRecDepth 1000000
structure Ke where
  (out : List Rec) (to : List Int)
def Ke.step (r : Rng) (s : Ke) (x : Rec) : Ke := ⟨if hasK r x.key then s.out ++ [x.to (IntKind.u64.wrap (s.out.length : Nat))] else s.out, s.to ++ [IntKind.u64.wrap (s.out.length : Nat)]⟩
def Ke.end (s : Ke) : Ke := ⟨s.out, s.to ++ [IntKind.u64.wrap (s.out.length : Nat)]⟩
end Go.Proofs.YtjmdejbijigfjaaDoor

namespace Go.Proofs.YtjmdejbijigfjaaDoor
open Go.Ax
set_option maxRecDepth 1000000
theorem log_val {l : List Rec} (h : isLog l = true) {k : Nat} (hk : k < l.length) : (l.getD k default).val.length ≤ 256 := by
  simp only [isLog, Bool.and_eq_true] at h
  have h1 := h.1
  unfold logFrom at h1
  rw [List.all_eq_true] at h1
  have h2 := h1 k (by simp; omega)
  simp only [okR, Bool.and_eq_true, decide_eq_true_eq] at h2
  exact h2.2.2
theorem log_len {l : List Rec} (h : isLog l = true) : l.length ≤ 4096 := by
  simp only [isLog, Bool.and_eq_true, decide_eq_true_eq] at h
  exact h.2
end Go.Proofs.YtjmdejbijigfjaaDoor

namespace Go.Proofs.YtjmdejbijigfjaaDoor
open Go.Ax
set_option maxRecDepth 1000000
theorem log_at {l : List Rec} (h : isLog l = true) {k : Nat} (hk : k < l.length) : (l.getD k default).off = IntKind.u64.wrap (k : Nat) ∧ (l.getD k default).key.size ≤ 32 := by
  simp only [isLog, Bool.and_eq_true] at h
  have h1 := h.1
  unfold logFrom at h1
  rw [List.all_eq_true] at h1
  have h2 := h1 k (by simp; omega)
  simp only [okR, Bool.and_eq_true, decide_eq_true_eq, Bool.not_eq_true', bne_eq_false_iff_eq] at h2
  exact ⟨h2.1, h2.2.1⟩
end Go.Proofs.YtjmdejbijigfjaaDoor

namespace Go.Proofs.YtjmdejbijigfjaaDoor.H
open Go.Ax Go.Proofs.YtjmdejbijigfjaaDoor
set_option maxRecDepth 1000000
structure OwOk (l : List Rec) : Prop where
  n : l.length ≤ 4096
  v : ∀ k, k < l.length → (l.getD k default).val.length ≤ 256
  o : ∀ k, k < l.length → IntKind.u64.wrap (IntKind.i64.wrap (l.getD k default).off) = (l.getD k default).off
theorem ow_loop (b : Bool) (l : List Rec) (h : OwOk l) (k : { k : Nat // k ≤ l.length }) : LoopOk Tryd.prog 46 3 (loopAt Tryd.prog 46 3) ⟨owT b l k.1, [towN l k.1], []⟩ ((owO l k).map (lout [0, 1, 2, 3, 4, 5] (owS l))) := by
  refine loop_vcH (o := owO l) (stT := fun k => owT b l k.1) (stM := fun k => [towN l k.1]) Tryd.mixed (fun _ => rfl) (fun k => (vcOwL_eq b l k).mpr ?_) k
  unfold vcOwL
  obtain ⟨k, hk⟩ := k
  have hn := h.n
  by_cases hkl : k < l.length
  · have hv := h.v k hkl
    have ho := h.o k hkl
    have hex : ∀ q : { k : Nat // k ≤ l.length } → Prop, q ⟨k + 1, hkl⟩ → ∃ j, q j := fun q hq => ⟨_, hq⟩
    have hw : IntKind.i64.wrap ((k : Int) + 1) = ((k + 1 : Nat) : Int) := by rw [wrap_i64 (by omega) (by omega)]; omega
    simp only [Int.toNat_natCast]
    generalize l.getD k default = x at hv ho ⊢
    refine ⟨fun _ => ?_, fun h => by simp at h; omega⟩
    repeat' with_reducible apply And.intro
    all_goals first
      | with_reducible rfl
      | exact trivial
      | omega
      | (simp; done)
      | (simp; omega)
      | exact contLe_refl _ _ _
      | (refine hex _ ?_; simp [ho, hw]; omega)
  · obtain rfl : k = l.length := by omega
    refine ⟨fun h => by simp at h, fun _ => ?_⟩
    simp
def owR (l : List Rec) : T An := .ret (.own 0 5 0 l.length, [towR l], [])
noncomputable def owH (b : Bool) (l : List Rec) : HintsT Tryd.prog := withSh (hh _ (lp1 46 3 (jobOf (fun (k : { k : Nat // k ≤ l.length }) => owT b l k.1) (fun k => [towN l k.1]) [0, 1, 2, 3, 4, 5] (owO l) (owS l) ⟨0, Nat.zero_le _⟩) noLp) noCs noOp) (sh1 46 1 3 787 noSh)
def vcOw (b : Bool) (l : List Rec) : Prop :=
  (0 : Int) = (0 : Int) ∧ (0 : Int) ≤ IntKind.wrap IntKind.i64 ((↑(List.length l) : Int) + (1 : Int)) ∧ (64 : Int) * IntKind.wrap IntKind.i64 ((↑(List.length l) : Int) + (1 : Int)) ≤ (281474976710656 : Int) ∧ IntKind.wrap IntKind.i64 ((↑(List.length l) : Int) + (1 : Int)) ≤ (9223372036854775807 : Int) ∧ (((b = b ∧ List.length l = List.length l ∧ contLe (List.length l) (5 : Nat) (cellsOf' encR l) (cellsOf' encR l)) ∧ ((0 : Nat) = (0 : Nat) ∧ (0 : Nat) = (0 : Nat)) ∧ (b = b ∧ List.length l = List.length l ∧ contLe (List.length l) (5 : Nat) (cellsOf' encR l) (cellsOf' encR l)) ∧ (↑(List.length l) : Int) = (↑(List.length l) : Int) ∧ (0 : Int) = (0 : Int) ∧ True) ∧ (((0 : Nat) = (0 : Nat) ∧ ∀ (k : Nat), k < (0 : Nat) → False ∧ False ∧ False ∧ False ∧ False ∧ True) ∧ True) ∧ true = true) ∧ LoopOk Tryd.prog (46 : Nat) (3 : Nat) (loopAt Tryd.prog (46 : Nat) (3 : Nat)) { t := owT b l (⟨(0 : Nat), owH._proof_1 l⟩ : { k : Nat // k ≤ List.length l }).val, m := [towN l (⟨(0 : Nat), owH._proof_1 l⟩ : { k : Nat // k ≤ List.length l }).val], mv := [] : St } (T.map (lout [(0 : Nat), (1 : Nat), (2 : Nat), (3 : Nat), (4 : Nat), (5 : Nat)] (owS l)) (owO l (⟨(0 : Nat), owH._proof_1 l⟩ : { k : Nat // k ≤ List.length l }))) ∧ ((0 : Nat) = (0 : Nat) ∧ List.length l = List.length l) ∧ (List.length l = List.length l ∧ ∀ (k : Nat), k < List.length l → (List.getD l k (@default Rec instInhabitedRec)).off = (List.getD l k (@default Rec instInhabitedRec)).off ∧ (List.getD l k (@default Rec instInhabitedRec)).key = (List.getD l k (@default Rec instInhabitedRec)).key ∧ (List.length (List.getD l k (@default Rec instInhabitedRec)).val = List.length (List.getD l k (@default Rec instInhabitedRec)).val ∧ contLe (List.length (List.getD l k (@default Rec instInhabitedRec)).val) (1 : Nat) (cellsOf' encB (List.getD l k (@default Rec instInhabitedRec)).val) (cellsOf' encB (List.getD l k (@default Rec instInhabitedRec)).val)) ∧ (List.getD l k (@default Rec instInhabitedRec)).prod = (List.getD l k (@default Rec instInhabitedRec)).prod ∧ (List.getD l k (@default Rec instInhabitedRec)).seq = (List.getD l k (@default Rec instInhabitedRec)).seq ∧ True) ∧ True
theorem vcOw_eq (b : Bool) (l : List Rec) : (ctrVC Tryd.prog (owH b l) 46 [encRs b l] [] (owR l)) = vcOw b l := by kernel_rfl
theorem ow_c (b : Bool) (l : List Rec) (h : OwOk l) : (owR l).Sat (ACall' Tryd.prog 46 [encRs b l] []) := by
  refine ctr_vc (ht := owH b l) Tryd.mixed rfl ?_
  rw [vcOw_eq b l]
  unfold vcOw
  have lp := ow_loop b l h ⟨0, Nat.zero_le _⟩
  have hn := h.n
  have hw : IntKind.i64.wrap ((l.length : Int) + 1) = (l.length : Int) + 1 := wrap_i64 (by omega) (by omega)
  simp [lp, hw]
  omega
noncomputable def owC (b : Bool) (l : List Rec) : Ctr Tryd.prog := ⟨46, [encRs b l], [], .need (OwOk l) (owR l), T.Sat.need fun h => ow_c b l h⟩
theorem log_ow {l : List Rec} (h : isLog l = true) (o : Nat) (m : Nat) : OwOk ((l.drop o).take m) := by
  have hn := log_len h
  have hl : ((l.drop o).take m).length ≤ l.length - o := by simp; omega
  have hg : ∀ k, k < ((l.drop o).take m).length → ((l.drop o).take m).getD k default = l.getD (o + k) default := by
    intro k hk
    have : k < m := by simp at hk; omega
    simp [List.getElem?_take, this, List.getElem?_drop]
  refine ⟨by omega, fun k hk => ?_, fun k hk => ?_⟩
  · rw [hg k hk]; exact log_val h (by omega)
  · rw [hg k hk, (log_at h (k := o + k) (by omega)).1]
    have e : IntKind.u64.wrap ((o + k : Nat) : Int) = ((o + k : Nat) : Int) := wrap_u64 (by omega) (by omega)
    rw [e, wrap_i64 (by omega) (by omega), e]
theorem log_ow0 {l : List Rec} (h : isLog l = true) : OwOk l := by
  have := log_ow h 0 l.length
  simpa using this
def apK (l : List Rec) (x : Rec) : Int := if isLog l = false then 1 else if 32 < x.key.size then 131 else if 256 < x.val.length then 144 else if l.length = 4096 then 143 else 0
def apY (l : List Rec) (x : Rec) : List Rec := if apK l x = 0 then l ++ [x.to (IntKind.u64.wrap l.length)] else []
def apN (l : List Rec) (x : Rec) : Int := if apK l x = 0 then IntKind.u64.wrap l.length else 0
def apT (l : List Rec) (x : Rec) : T An := .ret (.tup [.own 0 5 0 (apY l x).length, .y (.int .u64 (apN l x)), .y (.int .i64 (apK l x))], [towR (apY l x)], [1])
noncomputable def apH (b : Bool) (l : List Rec) (x : Rec) : HintsT Tryd.prog := withSh (hh _ noLp (cs1 14 1 1 (lgC b l) (cs1 14 9 1 (owC b l) (cs1 14 9 5 (owwC x l.length) noCs))) noOp)
  (sh1 14 2 0 (1000000 + 27) (sh1 14 4 0 (1000000 + 27) (sh1 14 6 0 (1000000 + 27) (sh1 14 8 0 (1000000 + 27) noSh))))
def vcAp (b : Bool) (l : List Rec) (x : Rec) : Prop :=
  ((b = b ∧ List.length l = List.length l ∧ contLe (List.length l) (5 : Nat) (cellsOf' encR l) (cellsOf' encR l)) ∧ True) ∧ True ∧ List.length l ≤ (9223372036854775806 : Nat) ∧ ((!isLog l) = true → (((0 : Nat) = (0 : Nat) ∧ (0 : Nat) = List.length (apY l x)) ∧ (0 : Int) = apN l x ∧ (1 : Int) = apK l x ∧ True) ∧ ((0 : Nat) = List.length (apY l x) ∧ ∀ (k : Nat), k < (0 : Nat) → False ∧ False ∧ False ∧ False ∧ False ∧ True) ∧ True) ∧ ((!isLog l) = false → (decide ((32 : Int) < (↑(ByteArray.size x.key) : Int)) = true → (((0 : Nat) = (0 : Nat) ∧ (0 : Nat) = List.length (apY l x)) ∧ (0 : Int) = apN l x ∧ (131 : Int) = apK l x ∧ True) ∧ ((0 : Nat) = List.length (apY l x) ∧ ∀ (k : Nat), k < (0 : Nat) → False ∧ False ∧ False ∧ False ∧ False ∧ True) ∧ True) ∧ (decide ((32 : Int) < (↑(ByteArray.size x.key) : Int)) = false → (decide ((256 : Int) < (↑(List.length x.val) : Int)) = true → (((0 : Nat) = (0 : Nat) ∧ (0 : Nat) = List.length (apY l x)) ∧ (0 : Int) = apN l x ∧ (144 : Int) = apK l x ∧ True) ∧ ((0 : Nat) = List.length (apY l x) ∧ ∀ (k : Nat), k < (0 : Nat) → False ∧ False ∧ False ∧ False ∧ False ∧ True) ∧ True) ∧ (decide ((256 : Int) < (↑(List.length x.val) : Int)) = false → (((↑(List.length l) : Int) == (4096 : Int)) = true → (((0 : Nat) = (0 : Nat) ∧ (0 : Nat) = List.length (apY l x)) ∧ (0 : Int) = apN l x ∧ (143 : Int) = apK l x ∧ True) ∧ ((0 : Nat) = List.length (apY l x) ∧ ∀ (k : Nat), k < (0 : Nat) → False ∧ False ∧ False ∧ False ∧ False ∧ True) ∧ True) ∧ (((↑(List.length l) : Int) == (4096 : Int)) = false → ((b = b ∧ List.length l = List.length l ∧ contLe (List.length l) (5 : Nat) (cellsOf' encR l) (cellsOf' encR l)) ∧ True) ∧ True ∧ OwOk l ∧ ((x.off = x.off ∧ x.key = x.key ∧ (true = true ∧ List.length x.val = List.length x.val ∧ contLe (List.length x.val) (1 : Nat) (cellsOf' encB x.val) (cellsOf' encB x.val)) ∧ x.prod = x.prod ∧ x.seq = x.seq ∧ True) ∧ (↑(List.length l) : Int) = (↑(List.length l) : Int) ∧ True) ∧ True ∧ List.length x.val ≤ (140737488355328 : Nat) ∧ List.length l = List.length l ∧ List.length l + (1 : Nat) ≤ (9223372036854775807 : Nat) ∧ (List.length l + (1 : Nat)) * (64 : Nat) ≤ (140737488355328 : Nat) ∧ (((0 : Nat) = (0 : Nat) ∧ List.length l + (1 : Nat) = List.length (apY l x)) ∧ IntKind.wrap IntKind.u64 (↑(List.length l) : Int) = apN l x ∧ (0 : Int) = apK l x ∧ True) ∧ ((List.length l + (1 : Nat) = List.length (apY l x) ∧ (((true = true ∧ IntKind.wrap IntKind.u64 (↑(List.length l) : Int) = (List.getD (apY l x) (List.length l) (@default Rec instInhabitedRec)).off) ∧ (true = true ∧ x.key = (List.getD (apY l x) (List.length l) (@default Rec instInhabitedRec)).key) ∧ (List.length (List.getD (apY l x) (List.length l) (@default Rec instInhabitedRec)).val = List.length x.val ∧ contLe (List.length (List.getD (apY l x) (List.length l) (@default Rec instInhabitedRec)).val) (1 : Nat) (cellsOf' encB x.val) (cellsOf' encB (List.getD (apY l x) (List.length l) (@default Rec instInhabitedRec)).val)) ∧ (true = true ∧ x.prod = (List.getD (apY l x) (List.length l) (@default Rec instInhabitedRec)).prod) ∧ (true = true ∧ x.seq = (List.getD (apY l x) (List.length l) (@default Rec instInhabitedRec)).seq) ∧ True) ∧ True) ∧ ∀ (k : Nat), k < List.length l + (1 : Nat) → ¬k = List.length l → (List.getD l k (@default Rec instInhabitedRec)).off = (List.getD (apY l x) k (@default Rec instInhabitedRec)).off ∧ (List.getD l k (@default Rec instInhabitedRec)).key = (List.getD (apY l x) k (@default Rec instInhabitedRec)).key ∧ (List.length (List.getD l k (@default Rec instInhabitedRec)).val = List.length (List.getD (apY l x) k (@default Rec instInhabitedRec)).val ∧ contLe (List.length (List.getD l k (@default Rec instInhabitedRec)).val) (1 : Nat) (cellsOf' encB (List.getD l k (@default Rec instInhabitedRec)).val) (cellsOf' encB (List.getD (apY l x) k (@default Rec instInhabitedRec)).val)) ∧ (List.getD l k (@default Rec instInhabitedRec)).prod = (List.getD (apY l x) k (@default Rec instInhabitedRec)).prod ∧ (List.getD l k (@default Rec instInhabitedRec)).seq = (List.getD (apY l x) k (@default Rec instInhabitedRec)).seq ∧ True) ∧ True) ∧ True))))
theorem vcAp_eq (b : Bool) (l : List Rec) (x : Rec) : (ctrVC Tryd.prog (apH b l x) 14 [encRs b l, .agg (encR x)] [] (apT l x)) = vcAp b l x := by kernel_rfl
def arT (l : List Rec) (x : Rec) : T An := .ret (.tup [.own 0 5 0 (apY l x).length, .y (.int .u64 (apN l x)), .y (.int .i64 (apK l x))], [rowR (apY l x)], [])
noncomputable def arH (b : Bool) (l : List Rec) (x : Rec) : HintsT Tryd.prog := withSh (hh _ noLp (cs1 15 1 1 (lrC b l) (cs1 15 11 4 (atC x l.length) noCs))
  (op1 15 3 0 (.row 27 5) (op1 15 5 0 (.row 27 5) (op1 15 7 0 (.row 27 5) (op1 15 9 0 (.row 27 5) noOp))))) noSh
def vcAr (b : Bool) (l : List Rec) (x : Rec) : Prop :=
  ((b = b ∧ List.length l = List.length l ∧ contLe (List.length l) (5 : Nat) (cellsOf' encR l) (cellsOf' encR l)) ∧ True) ∧ True ∧ List.length l ≤ (9223372036854775806 : Nat) ∧ ((!isLog l) = true → (((0 : Nat) = (0 : Nat) ∧ (0 : Nat) = List.length (apY l x)) ∧ (0 : Int) = apN l x ∧ (1 : Int) = apK l x ∧ True) ∧ ((0 : Nat) = List.length (apY l x) ∧ contLe (0 : Nat) (5 : Nat) (fun (x x_2 : Nat) => AV.junk) (cellsOf' encR (apY l x))) ∧ True) ∧ ((!isLog l) = false → (decide ((32 : Int) < (↑(ByteArray.size x.key) : Int)) = true → (((0 : Nat) = (0 : Nat) ∧ (0 : Nat) = List.length (apY l x)) ∧ (0 : Int) = apN l x ∧ (131 : Int) = apK l x ∧ True) ∧ ((0 : Nat) = List.length (apY l x) ∧ contLe (0 : Nat) (5 : Nat) (fun (x x_3 : Nat) => AV.junk) (cellsOf' encR (apY l x))) ∧ True) ∧ (decide ((32 : Int) < (↑(ByteArray.size x.key) : Int)) = false → (decide ((256 : Int) < (↑(List.length x.val) : Int)) = true → (((0 : Nat) = (0 : Nat) ∧ (0 : Nat) = List.length (apY l x)) ∧ (0 : Int) = apN l x ∧ (144 : Int) = apK l x ∧ True) ∧ ((0 : Nat) = List.length (apY l x) ∧ contLe (0 : Nat) (5 : Nat) (fun (x x_4 : Nat) => AV.junk) (cellsOf' encR (apY l x))) ∧ True) ∧ (decide ((256 : Int) < (↑(List.length x.val) : Int)) = false → (decide ((4096 : Int) ≤ (↑(List.length l) : Int)) = true → (((0 : Nat) = (0 : Nat) ∧ (0 : Nat) = List.length (apY l x)) ∧ (0 : Int) = apN l x ∧ (143 : Int) = apK l x ∧ True) ∧ ((0 : Nat) = List.length (apY l x) ∧ contLe (0 : Nat) (5 : Nat) (fun (x x_5 : Nat) => AV.junk) (cellsOf' encR (apY l x))) ∧ True) ∧ (decide ((4096 : Int) ≤ (↑(List.length l) : Int)) = false → (decide ((0 : Nat) + List.length l ≤ (9223372036854775807 : Nat)) && decide (((0 : Nat) + List.length l) * (64 : Nat) ≤ (140737488355328 : Nat))) = true ∧ ((x.off = x.off ∧ x.key = x.key ∧ (true = true ∧ List.length x.val = List.length x.val ∧ contLe (List.length x.val) (1 : Nat) (cellsOf' encB x.val) (cellsOf' encB x.val)) ∧ x.prod = x.prod ∧ x.seq = x.seq ∧ True) ∧ (↑(List.length l) : Int) = (↑(List.length l) : Int) ∧ True) ∧ True ∧ List.length x.val ≤ (140737488355328 : Nat) ∧ (decide ((0 : Nat) + List.length l = (0 : Nat) + List.length l) && decide ((0 : Nat) + List.length l + (1 : Nat) ≤ (9223372036854775807 : Nat)) && decide (((0 : Nat) + List.length l + (1 : Nat)) * (64 : Nat) ≤ (140737488355328 : Nat))) = true ∧ (((0 : Nat) = (0 : Nat) ∧ (0 : Nat) + List.length l + (1 : Nat) = List.length (apY l x)) ∧ IntKind.wrap IntKind.u64 (↑(List.length l) : Int) = apN l x ∧ (0 : Int) = apK l x ∧ True) ∧ ((0 : Nat) + List.length l + (1 : Nat) = List.length (apY l x) ∧ contLe ((0 : Nat) + List.length l + (1 : Nat)) (5 : Nat) (appRow ((0 : Nat) + List.length l) (appRow (0 : Nat) (fun (k j : Nat) => AV.junk) (cellsOf' encR l)) fun (k j : Nat) => Ax.get [AV.y (Value.int IntKind.u64 (IntKind.wrap IntKind.u64 (↑(List.length l) : Int))), AV.y (Value.string x.key), AV.ys true (1 : Nat) (List.length x.val) (cellsOf' encB x.val), AV.y (Value.int IntKind.u64 x.prod), AV.y (Value.int IntKind.u64 x.seq)] (k * (5 : Nat) + j)) (cellsOf' encR (apY l x))) ∧ True))))
theorem vcAr_eq (b : Bool) (l : List Rec) (x : Rec) : (ctrVC Tryd.prog (arH b l x) 15 [encRs b l, .agg (encR x)] [] (arT l x)) = vcAr b l x := by kernel_rfl
def feK (l : List Rec) (o : Int) : Int := if isLog l = false then 1 else if (l.length : Int) < o then 141 else 0
def feN (l : List Rec) (o m : Int) : Int := min (min (max m 0) 64) ((l.length : Int) - o)
def feY (l : List Rec) (o m : Int) : List Rec := if feK l o = 0 then (l.drop o.toNat).take (feN l o m).toNat else []
def feT (l : List Rec) (o m : Int) : T An := .ret (.tup [.own 0 5 0 (feY l o m).length, .y (.int .i64 (feK l o))], [towR (feY l o m)], [])
noncomputable def feH (b : Bool) (l : List Rec) (o m : Int) : HintsT Tryd.prog := withSh (hh _ noLp (cs1 18 1 1 (lgC b l) (cs1 18 6 7 (owC b (feY l o m)) noCs)) noOp)
  (sh1 18 2 0 (1000000 + 27) (sh1 18 4 0 (1000000 + 27) noSh))
def vcFe (b : Bool) (l : List Rec) (o : Int) (m : Int) : Prop :=
  ((b = b ∧ List.length l = List.length l ∧ contLe (List.length l) (5 : Nat) (cellsOf' encR l) (cellsOf' encR l)) ∧ True) ∧ True ∧ List.length l ≤ (9223372036854775806 : Nat) ∧ ((!isLog l) = true → (((0 : Nat) = (0 : Nat) ∧ (0 : Nat) = List.length (feY l o m)) ∧ (1 : Int) = feK l o ∧ True) ∧ ((0 : Nat) = List.length (feY l o m) ∧ ∀ (k : Nat), k < (0 : Nat) → False ∧ False ∧ False ∧ False ∧ False ∧ True) ∧ True) ∧ ((!isLog l) = false → (decide (IntKind.wrap IntKind.u64 (↑(List.length l) : Int) < o) = true → (((0 : Nat) = (0 : Nat) ∧ (0 : Nat) = List.length (feY l o m)) ∧ (141 : Int) = feK l o ∧ True) ∧ ((0 : Nat) = List.length (feY l o m) ∧ ∀ (k : Nat), k < (0 : Nat) → False ∧ False ∧ False ∧ False ∧ False ∧ True) ∧ True) ∧ (decide (IntKind.wrap IntKind.u64 (↑(List.length l) : Int) < o) = false → (decide ((0 : Int) ≤ o) && decide (o ≤ (↑(List.length l) : Int)) && decide ((↑(List.length l) : Int) ≤ (↑(List.length l) : Int))) = true ∧ (true && decide ((0 : Int) ≤ if (↑(Int.toNat (↑(List.length l) : Int) - Int.toNat o) : Int) < if (64 : Int) < if (0 : Int) > m then (0 : Int) else m then (64 : Int) else if (0 : Int) > m then (0 : Int) else m then (↑(Int.toNat (↑(List.length l) : Int) - Int.toNat o) : Int) else if (64 : Int) < if (0 : Int) > m then (0 : Int) else m then (64 : Int) else if (0 : Int) > m then (0 : Int) else m) && decide ((if (↑(Int.toNat (↑(List.length l) : Int) - Int.toNat o) : Int) < if (64 : Int) < if (0 : Int) > m then (0 : Int) else m then (64 : Int) else if (0 : Int) > m then (0 : Int) else m then (↑(Int.toNat (↑(List.length l) : Int) - Int.toNat o) : Int) else if (64 : Int) < if (0 : Int) > m then (0 : Int) else m then (64 : Int) else if (0 : Int) > m then (0 : Int) else m) ≤ (↑(Int.toNat (↑(List.length l) : Int) - Int.toNat o) : Int))) = true ∧ ((b = b ∧ Int.toNat (if (↑(Int.toNat (↑(List.length l) : Int) - Int.toNat o) : Int) < if (64 : Int) < if (0 : Int) > m then (0 : Int) else m then (64 : Int) else if (0 : Int) > m then (0 : Int) else m then (↑(Int.toNat (↑(List.length l) : Int) - Int.toNat o) : Int) else if (64 : Int) < if (0 : Int) > m then (0 : Int) else m then (64 : Int) else if (0 : Int) > m then (0 : Int) else m) - (0 : Nat) = List.length (feY l o m) ∧ contLe (Int.toNat (if (↑(Int.toNat (↑(List.length l) : Int) - Int.toNat o) : Int) < if (64 : Int) < if (0 : Int) > m then (0 : Int) else m then (64 : Int) else if (0 : Int) > m then (0 : Int) else m then (↑(Int.toNat (↑(List.length l) : Int) - Int.toNat o) : Int) else if (64 : Int) < if (0 : Int) > m then (0 : Int) else m then (64 : Int) else if (0 : Int) > m then (0 : Int) else m) - (0 : Nat)) (5 : Nat) (fun (k : Nat) => cellsOf' encR l (Int.toNat o + ((0 : Nat) + k))) (cellsOf' encR (feY l o m))) ∧ True) ∧ True ∧ OwOk (feY l o m) ∧ (((0 : Nat) = (0 : Nat) ∧ List.length (feY l o m) = List.length (feY l o m)) ∧ (0 : Int) = feK l o ∧ True) ∧ (List.length (feY l o m) = List.length (feY l o m) ∧ ∀ (k : Nat), k < List.length (feY l o m) → (List.getD (feY l o m) k (@default Rec instInhabitedRec)).off = (List.getD (feY l o m) k (@default Rec instInhabitedRec)).off ∧ (List.getD (feY l o m) k (@default Rec instInhabitedRec)).key = (List.getD (feY l o m) k (@default Rec instInhabitedRec)).key ∧ (List.length (List.getD (feY l o m) k (@default Rec instInhabitedRec)).val = List.length (List.getD (feY l o m) k (@default Rec instInhabitedRec)).val ∧ contLe (List.length (List.getD (feY l o m) k (@default Rec instInhabitedRec)).val) (1 : Nat) (cellsOf' encB (List.getD (feY l o m) k (@default Rec instInhabitedRec)).val) (cellsOf' encB (List.getD (feY l o m) k (@default Rec instInhabitedRec)).val)) ∧ (List.getD (feY l o m) k (@default Rec instInhabitedRec)).prod = (List.getD (feY l o m) k (@default Rec instInhabitedRec)).prod ∧ (List.getD (feY l o m) k (@default Rec instInhabitedRec)).seq = (List.getD (feY l o m) k (@default Rec instInhabitedRec)).seq ∧ True) ∧ True))
theorem vcFe_eq (b : Bool) (l : List Rec) (o : Int) (m : Int) : (ctrVC Tryd.prog (feH b l o m) 18 [encRs b l, .y (.int .u64 o), .y (.int .i64 m)] [] (feT l o m)) = vcFe b l o m := by kernel_rfl
def frT (l : List Rec) (o m : Int) : T An := .ret (.tup [.own 0 5 0 (feY l o m).length, .y (.int .i64 (feK l o))], [rowR (feY l o m)], [])
noncomputable def frH (b : Bool) (l : List Rec) (o m : Int) : HintsT Tryd.prog := withSh (hh _ noLp (cs1 19 1 1 (lrC b l) noCs)
  (op1 19 3 0 (.row 27 5) (op1 19 5 0 (.row 27 5) noOp))) noSh
def vcFr (b : Bool) (l : List Rec) (o : Int) (m : Int) : Prop :=
  ((b = b ∧ List.length l = List.length l ∧ contLe (List.length l) (5 : Nat) (cellsOf' encR l) (cellsOf' encR l)) ∧ True) ∧ True ∧ List.length l ≤ (9223372036854775806 : Nat) ∧ ((!isLog l) = true → (((0 : Nat) = (0 : Nat) ∧ (0 : Nat) = List.length (feY l o m)) ∧ (1 : Int) = feK l o ∧ True) ∧ ((0 : Nat) = List.length (feY l o m) ∧ contLe (0 : Nat) (5 : Nat) (fun (x x_1 : Nat) => AV.junk) (cellsOf' encR (feY l o m))) ∧ True) ∧ ((!isLog l) = false → (decide (IntKind.wrap IntKind.u64 (↑(List.length l) : Int) < o) = true → (((0 : Nat) = (0 : Nat) ∧ (0 : Nat) = List.length (feY l o m)) ∧ (141 : Int) = feK l o ∧ True) ∧ ((0 : Nat) = List.length (feY l o m) ∧ contLe (0 : Nat) (5 : Nat) (fun (x x_1 : Nat) => AV.junk) (cellsOf' encR (feY l o m))) ∧ True) ∧ (decide (IntKind.wrap IntKind.u64 (↑(List.length l) : Int) < o) = false → (decide ((0 : Int) ≤ IntKind.wrap IntKind.i64 o) && decide (IntKind.wrap IntKind.i64 o ≤ IntKind.wrap IntKind.i64 (IntKind.wrap IntKind.i64 o + if IntKind.wrap IntKind.i64 ((↑(List.length l) : Int) - IntKind.wrap IntKind.i64 o) < if (64 : Int) < if (0 : Int) > m then (0 : Int) else m then (64 : Int) else if (0 : Int) > m then (0 : Int) else m then IntKind.wrap IntKind.i64 ((↑(List.length l) : Int) - IntKind.wrap IntKind.i64 o) else if (64 : Int) < if (0 : Int) > m then (0 : Int) else m then (64 : Int) else if (0 : Int) > m then (0 : Int) else m)) && decide (IntKind.wrap IntKind.i64 (IntKind.wrap IntKind.i64 o + if IntKind.wrap IntKind.i64 ((↑(List.length l) : Int) - IntKind.wrap IntKind.i64 o) < if (64 : Int) < if (0 : Int) > m then (0 : Int) else m then (64 : Int) else if (0 : Int) > m then (0 : Int) else m then IntKind.wrap IntKind.i64 ((↑(List.length l) : Int) - IntKind.wrap IntKind.i64 o) else if (64 : Int) < if (0 : Int) > m then (0 : Int) else m then (64 : Int) else if (0 : Int) > m then (0 : Int) else m) ≤ (↑(List.length l) : Int))) = true ∧ (decide ((0 : Nat) + (Int.toNat (IntKind.wrap IntKind.i64 (IntKind.wrap IntKind.i64 o + if IntKind.wrap IntKind.i64 ((↑(List.length l) : Int) - IntKind.wrap IntKind.i64 o) < if (64 : Int) < if (0 : Int) > m then (0 : Int) else m then (64 : Int) else if (0 : Int) > m then (0 : Int) else m then IntKind.wrap IntKind.i64 ((↑(List.length l) : Int) - IntKind.wrap IntKind.i64 o) else if (64 : Int) < if (0 : Int) > m then (0 : Int) else m then (64 : Int) else if (0 : Int) > m then (0 : Int) else m)) - Int.toNat (IntKind.wrap IntKind.i64 o)) ≤ (9223372036854775807 : Nat)) && decide (((0 : Nat) + (Int.toNat (IntKind.wrap IntKind.i64 (IntKind.wrap IntKind.i64 o + if IntKind.wrap IntKind.i64 ((↑(List.length l) : Int) - IntKind.wrap IntKind.i64 o) < if (64 : Int) < if (0 : Int) > m then (0 : Int) else m then (64 : Int) else if (0 : Int) > m then (0 : Int) else m then IntKind.wrap IntKind.i64 ((↑(List.length l) : Int) - IntKind.wrap IntKind.i64 o) else if (64 : Int) < if (0 : Int) > m then (0 : Int) else m then (64 : Int) else if (0 : Int) > m then (0 : Int) else m)) - Int.toNat (IntKind.wrap IntKind.i64 o))) * (64 : Nat) ≤ (140737488355328 : Nat))) = true ∧ (((0 : Nat) = (0 : Nat) ∧ (0 : Nat) + (Int.toNat (IntKind.wrap IntKind.i64 (IntKind.wrap IntKind.i64 o + if IntKind.wrap IntKind.i64 ((↑(List.length l) : Int) - IntKind.wrap IntKind.i64 o) < if (64 : Int) < if (0 : Int) > m then (0 : Int) else m then (64 : Int) else if (0 : Int) > m then (0 : Int) else m then IntKind.wrap IntKind.i64 ((↑(List.length l) : Int) - IntKind.wrap IntKind.i64 o) else if (64 : Int) < if (0 : Int) > m then (0 : Int) else m then (64 : Int) else if (0 : Int) > m then (0 : Int) else m)) - Int.toNat (IntKind.wrap IntKind.i64 o)) = List.length (feY l o m)) ∧ (0 : Int) = feK l o ∧ True) ∧ ((0 : Nat) + (Int.toNat (IntKind.wrap IntKind.i64 (IntKind.wrap IntKind.i64 o + if IntKind.wrap IntKind.i64 ((↑(List.length l) : Int) - IntKind.wrap IntKind.i64 o) < if (64 : Int) < if (0 : Int) > m then (0 : Int) else m then (64 : Int) else if (0 : Int) > m then (0 : Int) else m then IntKind.wrap IntKind.i64 ((↑(List.length l) : Int) - IntKind.wrap IntKind.i64 o) else if (64 : Int) < if (0 : Int) > m then (0 : Int) else m then (64 : Int) else if (0 : Int) > m then (0 : Int) else m)) - Int.toNat (IntKind.wrap IntKind.i64 o)) = List.length (feY l o m) ∧ contLe ((0 : Nat) + (Int.toNat (IntKind.wrap IntKind.i64 (IntKind.wrap IntKind.i64 o + if IntKind.wrap IntKind.i64 ((↑(List.length l) : Int) - IntKind.wrap IntKind.i64 o) < if (64 : Int) < if (0 : Int) > m then (0 : Int) else m then (64 : Int) else if (0 : Int) > m then (0 : Int) else m then IntKind.wrap IntKind.i64 ((↑(List.length l) : Int) - IntKind.wrap IntKind.i64 o) else if (64 : Int) < if (0 : Int) > m then (0 : Int) else m then (64 : Int) else if (0 : Int) > m then (0 : Int) else m)) - Int.toNat (IntKind.wrap IntKind.i64 o))) (5 : Nat) (appRow (0 : Nat) (fun (k j : Nat) => AV.junk) fun (k : Nat) => cellsOf' encR l (Int.toNat (IntKind.wrap IntKind.i64 o) + k)) (cellsOf' encR (feY l o m))) ∧ True))
theorem vcFr_eq (b : Bool) (l : List Rec) (o : Int) (m : Int) : (ctrVC Tryd.prog (frH b l o m) 19 [encRs b l, .y (.int .u64 o), .y (.int .i64 m)] [] (frT l o m)) = vcFr b l o m := by kernel_rfl
theorem apY_log {l : List Rec} {x : Rec} (h : apK l x = 0) : isLog l = true ∧ x.val.length ≤ 256 ∧ l.length < 4096 := by
  unfold apK at h
  cases hl : isLog l with
  | false => simp [hl] at h
  | true =>
    simp only [hl, Bool.true_eq_false, if_false] at h
    have := log_len hl
    split at h
    · cases h
    · split at h
      · cases h
      · split at h
        · cases h
        · exact ⟨rfl, by omega, by omega⟩
theorem app_at {l : List Rec} {x : Rec} {k : Nat} : (l ++ [x]).getD k default = if k < l.length then l.getD k default else if k = l.length then x else default := by
  by_cases h : k < l.length
  · rw [if_pos h]; simp [List.getElem?_append_left h]
  · rw [if_neg h]
    by_cases h2 : k = l.length
    · subst h2; simp
    · rw [if_neg h2]
      simp [List.getElem?_append_right (by omega : l.length ≤ k), List.getElem?_eq_none (show ([x] : List Rec).length ≤ k - l.length by simp; omega)]
theorem ap_c (b : Bool) (l : List Rec) (x : Rec) (h0 : l.length ≤ 9223372036854775806) : (apT l x).Sat (ACall' Tryd.prog 14 [encRs b l, .agg (encR x)] []) := by
  refine ctr_vc (ht := apH b l x) Tryd.mixed rfl ?_
  rw [vcAp_eq b l x]
  unfold vcAp
  have hK : apK l x = if isLog l = false then 1 else if 32 < x.key.size then 131 else if 256 < x.val.length then 144 else if l.length = 4096 then 143 else 0 := rfl
  have hY : apK l x ≠ 0 → apY l x = [] := fun h => by unfold apY; rw [if_neg h]
  have hN : apK l x ≠ 0 → apN l x = 0 := fun h => by unfold apN; rw [if_neg h]
  refine ⟨by simp, trivial, h0, fun h => ?_, fun h => ⟨fun h2 => ?_, fun h2 => ⟨fun h3 => ?_, fun h3 => ⟨fun h4 => ?_, fun h4 => ?_⟩⟩⟩⟩
  · have hk : apK l x = 1 := by rw [hK]; simp at h; simp [h]
    simp [hY (by rw [hk]; omega), hN (by rw [hk]; omega), hk]
  · have hk : apK l x = 131 := by rw [hK]; simp at h h2; simp [h]; omega
    simp [hY (by rw [hk]; omega), hN (by rw [hk]; omega), hk]
  · have hk : apK l x = 144 := by rw [hK]; simp at h h2 h3; simp [h]; omega
    simp [hY (by rw [hk]; omega), hN (by rw [hk]; omega), hk]
  · have hk : apK l x = 143 := by rw [hK]; simp at h h2 h3 h4; simp [h]; omega
    simp [hY (by rw [hk]; omega), hN (by rw [hk]; omega), hk]
  · have hk : apK l x = 0 := by rw [hK]; simp at h h2 h3 h4; simp [h]; omega
    obtain ⟨g1, g2, g3⟩ := apY_log hk
    have hy : apY l x = l ++ [x.to (IntKind.u64.wrap l.length)] := by unfold apY; rw [if_pos hk]
    have hn : apN l x = IntKind.u64.wrap l.length := by unfold apN; rw [if_pos hk]
    rw [hy, hn, hk]
    have e1 : (l ++ [x.to (IntKind.u64.wrap l.length)]).getD l.length default = x.to (IntKind.u64.wrap l.length) := by rw [app_at]; simp
    rw [e1]
    refine ⟨by simp, trivial, log_ow0 g1, by simp, trivial, by omega, rfl, by omega, by omega, by simp, ⟨⟨by simp, by simp [Rec.to], fun k hk hne => ?_⟩, trivial⟩, trivial⟩
    have e2 : (l ++ [x.to (IntKind.u64.wrap l.length)]).getD k default = l.getD k default := by rw [app_at, if_pos (by omega)]
    rw [e2]
    simp
theorem ar_c (b : Bool) (l : List Rec) (x : Rec) (h0 : l.length ≤ 9223372036854775806) : (arT l x).Sat (ACall' Tryd.prog 15 [encRs b l, .agg (encR x)] []) := by
  refine ctr_vc (ht := arH b l x) Tryd.mixed rfl ?_
  rw [vcAr_eq b l x]
  unfold vcAr
  have hK : apK l x = if isLog l = false then 1 else if 32 < x.key.size then 131 else if 256 < x.val.length then 144 else if l.length = 4096 then 143 else 0 := rfl
  have hY : apK l x ≠ 0 → apY l x = [] := fun h => by unfold apY; rw [if_neg h]
  have hN : apK l x ≠ 0 → apN l x = 0 := fun h => by unfold apN; rw [if_neg h]
  refine ⟨by simp, trivial, h0, fun h => ?_, fun h => ⟨fun h2 => ?_, fun h2 => ⟨fun h3 => ?_, fun h3 => ⟨fun h4 => ?_, fun h4 => ?_⟩⟩⟩⟩
  · have hk : apK l x = 1 := by rw [hK]; simp at h; simp [h]
    simp [hY (by rw [hk]; omega), hN (by rw [hk]; omega), hk]
  · have hk : apK l x = 131 := by rw [hK]; simp at h h2; simp [h]; omega
    simp [hY (by rw [hk]; omega), hN (by rw [hk]; omega), hk]
  · have hk : apK l x = 144 := by rw [hK]; simp at h h2 h3; simp [h]; omega
    simp [hY (by rw [hk]; omega), hN (by rw [hk]; omega), hk]
  · have hk : apK l x = 143 := by
      rw [hK]; simp at h h2 h3 h4
      have := log_len h
      simp [h]; omega
    simp [hY (by rw [hk]; omega), hN (by rw [hk]; omega), hk]
  · have hk : apK l x = 0 := by rw [hK]; simp at h h2 h3 h4; simp [h]; omega
    obtain ⟨g1, g2, g3⟩ := apY_log hk
    have hy : apY l x = l ++ [x.to (IntKind.u64.wrap l.length)] := by unfold apY; rw [if_pos hk]
    have hn : apN l x = IntKind.u64.wrap l.length := by unfold apN; rw [if_pos hk]
    rw [hy, hn, hk]
    refine ⟨by simp; omega, by simp, trivial, by omega, by simp; omega, by simp, ⟨by simp, ?_⟩, trivial⟩
    have := app1_le (sz := 5) (enc := encR) (l := l) (n := l.length) (x := x.to (IntKind.u64.wrap l.length)) (cs := [AV.y (Value.int IntKind.u64 (IntKind.wrap IntKind.u64 (l.length : Int))), AV.y (Value.string x.key), AV.ys true (1 : Nat) (List.length x.val) (cellsOf' encB x.val), AV.y (Value.int IntKind.u64 x.prod), AV.y (Value.int IntKind.u64 x.seq)]) rfl (rec_le (le0_refl _) (le0_refl _) (le0_refl _) (le0_refl _) (le0_refl _))
    simpa using this
noncomputable def apC (b : Bool) (l : List Rec) (x : Rec) : Ctr Tryd.prog := ⟨14, [encRs b l, .agg (encR x)], [], .need (l.length ≤ 9223372036854775806) (apT l x), T.Sat.need fun h => ap_c b l x h⟩
noncomputable def arC (b : Bool) (l : List Rec) (x : Rec) : Ctr Tryd.prog := ⟨15, [encRs b l, .agg (encR x)], [], .need (l.length ≤ 9223372036854775806) (arT l x), T.Sat.need fun h => ar_c b l x h⟩
theorem feN_lim {l : List Rec} {o m : Int} (h : feK l o = 0) (h0 : 0 ≤ o) : isLog l = true ∧ o ≤ l.length ∧ 0 ≤ feN l o m ∧ feN l o m ≤ (l.length : Int) - o ∧ feN l o m ≤ 64 := by
  unfold feK at h
  cases hl : isLog l with
  | false => simp [hl] at h
  | true =>
    simp only [hl, Bool.true_eq_false, if_false] at h
    split at h
    · cases h
    · unfold feN; exact ⟨rfl, by omega, by omega, by omega, by omega⟩
theorem feY_at {l : List Rec} {o m : Int} (h : feK l o = 0) {k : Nat} (hk : k < (feN l o m).toNat) : (feY l o m).getD k default = l.getD (o.toNat + k) default := by
  unfold feY
  rw [if_pos h]
  simp [List.getElem?_take, hk, List.getElem?_drop]
theorem feY_len {l : List Rec} {o m : Int} (h : feK l o = 0) (h0 : 0 ≤ o) : (feY l o m).length = (feN l o m).toNat := by
  obtain ⟨_, h1, h2, h3, _⟩ := feN_lim (m := m) h h0
  unfold feY
  rw [if_pos h]
  simp
  omega
theorem feY_le {l : List Rec} {o m : Int} (h : feK l o = 0) (n : Nat) (hn : n = (feN l o m).toNat) (c : Nat → Nat → AV) (hc : ∀ k j, k < n → c k j = cellsOf' encR l (o.toNat + k) j) : contLe n 5 c (cellsOf' encR (feY l o m)) := by
  intro k hk j hj
  rw [hc k j hk]
  unfold cellsOf'
  rw [feY_at h (by omega)]
  exact le0_refl _
theorem fe_c (b : Bool) (l : List Rec) (o m : Int) (hl : l.length ≤ 9223372036854775806) (h0 : 0 ≤ o ∧ o ≤ 18446744073709551615) : (feT l o m).Sat (ACall' Tryd.prog 18 [encRs b l, .y (.int .u64 o), .y (.int .i64 m)] []) := by
  refine ctr_vc (ht := feH b l o m) Tryd.mixed rfl ?_
  rw [vcFe_eq b l o m]
  unfold vcFe
  have hw : IntKind.u64.wrap (l.length : Int) = l.length := wrap_u64 (by omega) (by omega)
  have hK : feK l o = if isLog l = false then 1 else if (l.length : Int) < o then 141 else 0 := rfl
  have hY : feK l o ≠ 0 → feY l o m = [] := fun h => by unfold feY; rw [if_neg h]
  rw [hw]
  refine ⟨by simp, trivial, hl, fun h => ?_, fun h => ⟨fun h2 => ?_, fun h2 => ?_⟩⟩
  · have hk : feK l o = 1 := by rw [hK]; simp at h; simp [h]
    simp [hY (by rw [hk]; omega), hk]
  · have hk : feK l o = 141 := by rw [hK]; simp at h h2; simp [h]; omega
    simp [hY (by rw [hk]; omega), hk]
  · have hk : feK l o = 0 := by rw [hK]; simp at h h2; simp [h]; omega
    obtain ⟨g1, g2, g3, g4, g5⟩ := feN_lim (m := m) hk h0.1
    have gl := feY_len (m := m) hk h0.1
    have go : OwOk (feY l o m) := by unfold feY; rw [if_pos hk]; exact log_ow g1 _ _
    have hn : (if (↑(Int.toNat (↑l.length : Int) - Int.toNat o) : Int) < if (64 : Int) < if (0 : Int) > m then (0 : Int) else m then (64 : Int) else if (0 : Int) > m then (0 : Int) else m then (↑(Int.toNat (↑l.length : Int) - Int.toNat o) : Int) else if (64 : Int) < if (0 : Int) > m then (0 : Int) else m then (64 : Int) else if (0 : Int) > m then (0 : Int) else m) = feN l o m := by
      unfold feN
      omega
    simp only [hn]
    refine ⟨by simp; omega, by simp; omega, ⟨⟨by simp, by omega, feY_le hk _ (by omega) _ fun k j _ => by rw [Nat.zero_add]⟩, trivial⟩, trivial, go, by simp [hk], by simp⟩
theorem fr_c (b : Bool) (l : List Rec) (o m : Int) (hl : l.length ≤ 9223372036854775806) (h0 : 0 ≤ o ∧ o ≤ 18446744073709551615) : (frT l o m).Sat (ACall' Tryd.prog 19 [encRs b l, .y (.int .u64 o), .y (.int .i64 m)] []) := by
  refine ctr_vc (ht := frH b l o m) Tryd.mixed rfl ?_
  rw [vcFr_eq b l o m]
  unfold vcFr
  have hw : IntKind.u64.wrap (l.length : Int) = l.length := wrap_u64 (by omega) (by omega)
  have hK : feK l o = if isLog l = false then 1 else if (l.length : Int) < o then 141 else 0 := rfl
  have hY : feK l o ≠ 0 → feY l o m = [] := fun h => by unfold feY; rw [if_neg h]
  rw [hw]
  refine ⟨by simp, trivial, hl, fun h => ?_, fun h => ⟨fun h2 => ?_, fun h2 => ?_⟩⟩
  · have hk : feK l o = 1 := by rw [hK]; simp at h; simp [h]
    simp [hY (by rw [hk]; omega), hk]
  · have hk : feK l o = 141 := by rw [hK]; simp at h h2; simp [h]; omega
    simp [hY (by rw [hk]; omega), hk]
  · have hk : feK l o = 0 := by rw [hK]; simp at h h2; simp [h]; omega
    obtain ⟨g1, g2, g3, g4, g5⟩ := feN_lim (m := m) hk h0.1
    have gl := feY_len (m := m) hk h0.1
    have g6 := log_len g1
    have hwo : IntKind.i64.wrap o = o := wrap_i64 (by omega) (by omega)
    have hwd : IntKind.i64.wrap ((l.length : Int) - o) = (l.length : Int) - o := wrap_i64 (by omega) (by omega)
    have hn : (if (l.length : Int) - o < if (64 : Int) < if (0 : Int) > m then (0 : Int) else m then (64 : Int) else if (0 : Int) > m then (0 : Int) else m then (l.length : Int) - o else if (64 : Int) < if (0 : Int) > m then (0 : Int) else m then (64 : Int) else if (0 : Int) > m then (0 : Int) else m) = feN l o m := by
      unfold feN
      omega
    have hwn : IntKind.i64.wrap (o + feN l o m) = o + feN l o m := wrap_i64 (by omega) (by omega)
    simp only [hwo, hwd, hn, hwn]
    refine ⟨by simp; omega, by simp; omega, by simp [hk]; omega, ⟨by omega, ?_⟩, trivial⟩
    have e : 0 + ((o + feN l o m).toNat - o.toNat) = (feN l o m).toNat := by omega
    rw [e, appRow_zero]
    exact feY_le hk _ rfl _ fun k j _ => rfl
noncomputable def feC (b : Bool) (l : List Rec) (o m : Int) : Ctr Tryd.prog := ⟨18, [encRs b l, .y (.int .u64 o), .y (.int .i64 m)], [], .need (l.length ≤ 9223372036854775806 ∧ 0 ≤ o ∧ o ≤ 18446744073709551615) (feT l o m), T.Sat.need fun h => fe_c b l o m h.1 h.2⟩
noncomputable def frC (b : Bool) (l : List Rec) (o m : Int) : Ctr Tryd.prog := ⟨19, [encRs b l, .y (.int .u64 o), .y (.int .i64 m)], [], .need (l.length ≤ 9223372036854775806 ∧ 0 ≤ o ∧ o ≤ 18446744073709551615) (frT l o m), T.Sat.need fun h => fr_c b l o m h.1 h.2⟩
end Go.Proofs.YtjmdejbijigfjaaDoor.H
