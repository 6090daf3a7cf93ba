import Derived.Test.YtnbhdjadlbhknaaGreatDoorW1
import Derived.Test.YtnbhdjadlbhknaaGreatDoorW3
set_option linter.unusedVariables false
set_option linter.unusedSimpArgs false
set_option linter.unusedSectionVars false
namespace Go.Proofs.YtnbhdjadlbhknaaGreatDoor.R
open Go.Ax
set_option maxRecDepth 1000000
structure Cmd where
  kind : Int
  epoch : Int
  prod : Int
  seq : Int
  key : ByteArray
  val : List Int
  off : Int
  most : Int
  name : ByteArray
  plan : Int
instance : Inhabited Cmd := ⟨⟨0, 0, 0, 0, ByteArray.empty, [], 0, 0, ByteArray.empty, 0⟩⟩
structure Res where
  err : Int
  off : Int
  old : Bool
  recs : List Rec
instance : Inhabited Res := ⟨⟨0, 0, false, []⟩⟩
def encCm (c : Cmd) : List AV := [.y (.int .i64 c.kind), .y (.int .u64 c.epoch), .y (.int .u64 c.prod), .y (.int .u64 c.seq), .y (.string c.key), encBs true c.val, .y (.int .u64 c.off), .y (.int .i64 c.most), .y (.string c.name), .y (.int .u64 c.plan)]
def cmLe (c d : Cmd) : Prop := c.kind = d.kind ∧ c.epoch = d.epoch ∧ c.prod = d.prod ∧ c.seq = d.seq ∧ c.key = d.key ∧ (true = true ∧ List.length c.val = List.length d.val ∧ contLe (List.length c.val) (1 : Nat) (cellsOf' encB c.val) (cellsOf' encB d.val)) ∧ c.off = d.off ∧ c.most = d.most ∧ c.name = d.name ∧ c.plan = d.plan ∧ True
@[simp] theorem cmLe_eq (c d : Cmd) : cmLe c d = (c.kind = d.kind ∧ c.epoch = d.epoch ∧ c.prod = d.prod ∧ c.seq = d.seq ∧ c.key = d.key ∧ (true = true ∧ List.length c.val = List.length d.val ∧ contLe (List.length c.val) (1 : Nat) (cellsOf' encB c.val) (cellsOf' encB d.val)) ∧ c.off = d.off ∧ c.most = d.most ∧ c.name = d.name ∧ c.plan = d.plan ∧ True) := rfl
def encX (x : Res) : List AV := [.y (.int .i64 x.err), .y (.int .u64 x.off), .y (.bool x.old), encRs true x.recs]
structure OwOk (l : List Rec) : Prop where
  n : l.length ≤ 4096
  o : ∀ k, k < l.length → 0 ≤ (l.getD k default).off ∧ (l.getD k default).off ≤ 9223372036854775807
  v : ∀ k, k < l.length → (l.getD k default).val.length ≤ 140737488355328
def owT (b : Bool) (l : List Rec) (k : Nat) : List AV := mkT 26 [(3, .own 0 5 0 (l.take k).length), (10, encRs b l), (11, .y (.int .i64 l.length)), (12, .y (.int .i64 k))]
def owM (l : List Rec) (k : Nat) : List Blk := [rowR (l.take k)]
def owS (l : List Rec) (_ : Unit) : Exit × List AV × List Blk := (.exit 0, mkT 26 [(3, .own 0 5 0 l.length)], [rowR l])
noncomputable def owH (l : List Rec) (k : Nat) : HintsT Tryz.prog := hh _ noLp (cs1 141 5 5 (ownC (l.getD k default) (IntKind.i64.wrap (l.getD k default).off)) noCs) noOp
def vcOwL (b : Bool) (l : List Rec) (k : Nat) : Prop :=
  (decide ((↑k : Int) < (↑(List.length l) : Int)) = true → (true && decide ((↑k : Int) < (↑(List.length l) : Int))) = true ∧ (((List.getD l (Int.toNat (↑k : Int)) (@default Rec instInhabitedRec)).off = (List.getD l k (@default Rec instInhabitedRec)).off ∧ (List.getD l (Int.toNat (↑k : Int)) (@default Rec instInhabitedRec)).key = (List.getD l k (@default Rec instInhabitedRec)).key ∧ (true = true ∧ List.length (List.getD l (Int.toNat (↑k : Int)) (@default Rec instInhabitedRec)).val = List.length (List.getD l k (@default Rec instInhabitedRec)).val ∧ contLe (List.length (List.getD l (Int.toNat (↑k : Int)) (@default Rec instInhabitedRec)).val) (1 : Nat) (cellsOf' encB (List.getD l (Int.toNat (↑k : Int)) (@default Rec instInhabitedRec)).val) (cellsOf' encB (List.getD l k (@default Rec instInhabitedRec)).val)) ∧ (List.getD l (Int.toNat (↑k : Int)) (@default Rec instInhabitedRec)).prod = (List.getD l k (@default Rec instInhabitedRec)).prod ∧ (List.getD l (Int.toNat (↑k : Int)) (@default Rec instInhabitedRec)).seq = (List.getD l k (@default Rec instInhabitedRec)).seq ∧ True) ∧ IntKind.wrap IntKind.i64 (List.getD l (Int.toNat (↑k : Int)) (@default Rec instInhabitedRec)).off = IntKind.wrap IntKind.i64 (List.getD l k (@default Rec instInhabitedRec)).off ∧ True) ∧ True ∧ List.length (List.getD l k (@default Rec instInhabitedRec)).val ≤ (140737488355328 : Nat) ∧ (decide (List.length (List.take k l) = List.length (List.take k l)) && decide (List.length (List.take k l) + (1 : Nat) ≤ (9223372036854775807 : Nat)) && decide ((List.length (List.take k l) + (1 : Nat)) * (64 : Nat) ≤ (140737488355328 : Nat))) = true ∧ ∃ (j : Nat), List.length l - j < List.length l - k ∧ ((((0 : Nat) = (0 : Nat) ∧ List.length (List.take k l) + (1 : Nat) = List.length (List.take j l)) ∧ (b = b ∧ List.length l = List.length l ∧ contLe (List.length l) (5 : Nat) (cellsOf' encR l) (cellsOf' encR l)) ∧ (↑(List.length l) : Int) = (↑(List.length l) : Int) ∧ IntKind.wrap IntKind.i64 ((↑k : Int) + (1 : Int)) = (↑j : Int) ∧ True) ∧ ((List.length (List.take k l) + (1 : Nat) = List.length (List.take j l) ∧ contLe (List.length (List.take k l) + (1 : Nat)) (5 : Nat) (appRow (List.length (List.take k l)) (cellsOf' encR (List.take k l)) fun (k_1 j : Nat) => Ax.get [AV.y (Value.int IntKind.u64 (IntKind.wrap IntKind.u64 (IntKind.wrap IntKind.i64 (List.getD l k (@default Rec instInhabitedRec)).off))), AV.y (Value.string (List.getD l k (@default Rec instInhabitedRec)).key), AV.ys true (1 : Nat) (List.length (List.getD l k (@default Rec instInhabitedRec)).val) (cellsOf' encB (List.getD l k (@default Rec instInhabitedRec)).val), AV.y (Value.int IntKind.u64 (List.getD l k (@default Rec instInhabitedRec)).prod), AV.y (Value.int IntKind.u64 (List.getD l k (@default Rec instInhabitedRec)).seq)] (k_1 * (5 : Nat) + j)) (cellsOf' encR (List.take j l))) ∧ True) ∧ true = true) ∧ true = true ∧ () = ()) ∧ (decide ((↑k : Int) < (↑(List.length l) : Int)) = false → (((0 : Nat) = (0 : Nat) ∧ List.length (List.take k l) = List.length l) ∧ True) ∧ ((List.length (List.take k l) = List.length l ∧ contLe (List.length (List.take k l)) (5 : Nat) (cellsOf' encR (List.take k l)) (cellsOf' encR l)) ∧ True) ∧ true = true)
theorem vcOwL_eq (b : Bool) (l : List Rec) (k : Nat) : (loopVC Tryz.prog (owH l k) 141 3 (fun k => l.length - k) (owT b l) (owM l) [0, 1, 2, 3, 4] (fun _ => .ret ()) (owS l) k) = vcOwL b l k := by kernel_rfl
def owR (l : List Rec) : T An := .ret (.own 0 5 0 l.length, [rowR l], [])
noncomputable def owdH (b : Bool) (l : List Rec) : HintsT Tryz.prog := hh _ (lp1 141 3 (jobOf (owT b l) (owM l) [0, 1, 2, 3, 4] (fun _ => .ret ()) (owS l) 0) noLp) noCs noOp
def vcOwd (b : Bool) (l : List Rec) : Prop :=
  (0 : Int) ≤ (0 : Int) ∧ (0 : Int) ≤ IntKind.wrap IntKind.i64 ((↑(List.length l) : Int) + (1 : Int)) ∧ (64 : Int) * IntKind.wrap IntKind.i64 ((↑(List.length l) : Int) + (1 : Int)) ≤ (281474976710656 : Int) ∧ IntKind.wrap IntKind.i64 ((↑(List.length l) : Int) + (1 : Int)) ≤ (9223372036854775807 : Int) ∧ ((((0 : Nat) = (0 : Nat) ∧ (0 : Nat) = (0 : Nat)) ∧ (b = b ∧ List.length l = List.length l ∧ contLe (List.length l) (5 : Nat) (cellsOf' encR l) (cellsOf' encR l)) ∧ (↑(List.length l) : Int) = (↑(List.length l) : Int) ∧ (0 : Int) = (0 : Int) ∧ True) ∧ (((0 : Nat) = (0 : Nat) ∧ contLe (0 : Nat) (5 : Nat) (fun (x j : Nat) => Ax.get [AV.s (Value.int IntKind.u64 (0 : Int)), AV.s (Value.string { data := #[] : ByteArray }), AV.s (Value.slice none (0 : Nat) (0 : Nat)), AV.s (Value.int IntKind.u64 (0 : Int)), AV.s (Value.int IntKind.u64 (0 : Int))] j) (cellsOf' encR [])) ∧ True) ∧ true = true) ∧ LoopOk Tryz.prog (141 : Nat) (3 : Nat) (loopAt Tryz.prog (141 : Nat) (3 : Nat)) { t := owT b l (0 : Nat), m := owM l (0 : Nat), mv := [] : St } (T.map (lout [(0 : Nat), (1 : Nat), (2 : Nat), (3 : Nat), (4 : Nat)] (owS l)) ((fun (x : Nat) => T.ret ()) (0 : Nat))) ∧ ((0 : Nat) = (0 : Nat) ∧ List.length l = List.length l) ∧ (List.length l = List.length l ∧ contLe (List.length l) (5 : Nat) (cellsOf' encR l) (cellsOf' encR l)) ∧ True
theorem vcOwd_eq (b : Bool) (l : List Rec) : (ctrVC Tryz.prog (owdH b l) 141 [encRs b l] [] (owR l)) = vcOwd b l := by kernel_rfl
end Go.Proofs.YtnbhdjadlbhknaaGreatDoor.R

namespace Go.Proofs.YtnbhdjadlbhknaaGreatDoor.J
open Go.Ax
set_option maxRecDepth 1000000
def rngB (r : Rng) : List Int := textB (strB (r.lo)) ++ textB (strB (r.hi))
def recB (x : Rec) : List Int := uintB (x.off) ++ textB (strB (x.key)) ++ textB (x.val) ++ uintB (x.prod) ++ uintB (x.seq)
def listB (l : List Rec) : List Int := uintB (l.length : Int) ++ l.flatMap recB
noncomputable def wgH (r : Rng) (l : List Int) : HintsT Tryz.prog := suW (hh _ noLp ((cs1 91 1 3 (wsC (r.lo) (l)) (cs1 91 2 3 (wsC (r.hi) (l ++ textB (strB (r.lo)))) noCs))) noOp)
def vcWg (r : Rng) (l : List Int) : Prop :=
  (((0 : Nat) = (0 : Nat) ∧ (0 : Nat) = (0 : Nat)) ∧ r.lo = r.lo ∧ True) ∧ (wmLe l l) ∧ WsOk r.lo l ∧ (((0 : Nat) = (0 : Nat) ∧ (0 : Nat) = (0 : Nat)) ∧ r.hi = r.hi ∧ True) ∧ (wmLe (l ++ textB (strB r.lo)) (l ++ textB (strB r.lo))) ∧ WsOk r.hi (l ++ textB (strB r.lo)) ∧ True ∧ (List.length (l ++ textB (strB r.lo) ++ textB (strB r.hi)) = List.length (l ++ rngB r) ∧ contLe (List.length (l ++ textB (strB r.lo) ++ textB (strB r.hi))) (1 : Nat) (cellsOf' encB (l ++ textB (strB r.lo) ++ textB (strB r.hi))) (cellsOf' encB (l ++ rngB r))) ∧ (((0 : Nat) = (0 : Nat) ∧ List.length (l ++ textB (strB r.lo) ++ textB (strB r.hi)) = List.length (l ++ rngB r)) ∧ True) ∧ True
theorem vcWg_eq (r : Rng) (l : List Int) : (ctrVCg Tryz.prog (wgH r l) 91 [wP, .agg (encG r)] (wM l) (wR2 (l ++ rngB r))) = vcWg r l := by kernel_rfl
noncomputable def wrH (x : Rec) (l : List Int) : HintsT Tryz.prog := suW (hh _ noLp ((cs1 130 1 3 (wuC (x.off) (l)) (cs1 130 2 3 (wsC (x.key) (l ++ uintB (x.off))) (cs1 130 3 3 (wyC true (x.val) (l ++ uintB (x.off) ++ textB (strB (x.key)))) (cs1 130 4 3 (wuC (x.prod) (l ++ uintB (x.off) ++ textB (strB (x.key)) ++ textB (x.val))) (cs1 130 5 3 (wuC (x.seq) (l ++ uintB (x.off) ++ textB (strB (x.key)) ++ textB (x.val) ++ uintB (x.prod))) noCs)))))) noOp)
def vcWr (x : Rec) (l : List Int) : Prop :=
  (((0 : Nat) = (0 : Nat) ∧ (0 : Nat) = (0 : Nat)) ∧ x.off = x.off ∧ True) ∧ (wmLe l l) ∧ WuOk x.off l ∧ (((0 : Nat) = (0 : Nat) ∧ (0 : Nat) = (0 : Nat)) ∧ x.key = x.key ∧ True) ∧ (wmLe (l ++ uintB x.off) (l ++ uintB x.off)) ∧ WsOk x.key (l ++ uintB x.off) ∧ (((0 : Nat) = (0 : Nat) ∧ (0 : Nat) = (0 : Nat)) ∧ (bsLe x.val x.val) ∧ True) ∧ (wmLe (l ++ uintB x.off ++ textB (strB x.key)) (l ++ uintB x.off ++ textB (strB x.key))) ∧ WyOk x.val (l ++ uintB x.off ++ textB (strB x.key)) ∧ (((0 : Nat) = (0 : Nat) ∧ (0 : Nat) = (0 : Nat)) ∧ x.prod = x.prod ∧ True) ∧ (wmLe (l ++ uintB x.off ++ textB (strB x.key) ++ textB x.val) (l ++ uintB x.off ++ textB (strB x.key) ++ textB x.val)) ∧ WuOk x.prod (l ++ uintB x.off ++ textB (strB x.key) ++ textB x.val) ∧ (((0 : Nat) = (0 : Nat) ∧ (0 : Nat) = (0 : Nat)) ∧ x.seq = x.seq ∧ True) ∧ (wmLe (l ++ uintB x.off ++ textB (strB x.key) ++ textB x.val ++ uintB x.prod) (l ++ uintB x.off ++ textB (strB x.key) ++ textB x.val ++ uintB x.prod)) ∧ WuOk x.seq (l ++ uintB x.off ++ textB (strB x.key) ++ textB x.val ++ uintB x.prod) ∧ True ∧ (List.length (l ++ uintB x.off ++ textB (strB x.key) ++ textB x.val ++ uintB x.prod ++ uintB x.seq) = List.length (l ++ recB x) ∧ contLe (List.length (l ++ uintB x.off ++ textB (strB x.key) ++ textB x.val ++ uintB x.prod ++ uintB x.seq)) (1 : Nat) (cellsOf' encB (l ++ uintB x.off ++ textB (strB x.key) ++ textB x.val ++ uintB x.prod ++ uintB x.seq)) (cellsOf' encB (l ++ recB x))) ∧ (((0 : Nat) = (0 : Nat) ∧ List.length (l ++ uintB x.off ++ textB (strB x.key) ++ textB x.val ++ uintB x.prod ++ uintB x.seq) = List.length (l ++ recB x)) ∧ True) ∧ True
theorem vcWr_eq (x : Rec) (l : List Int) : (ctrVCg Tryz.prog (wrH x l) 130 [wP, .agg (encR x)] (wM l) (wR2 (l ++ recB x))) = vcWr x l := by kernel_rfl
def dnR3 (l : List Int) : T An := .ret (encBs true l, wM l, [3])
def dnR (l : List Int) : T An := .ret (encBs true l, wM l, [])
noncomputable def dnH (l : List Int) : HintsT Tryz.prog := suW (withSh (hh _ noLp (cs1 80 1 4 (clnC false l.length (cellsOf' encB l)) noCs) noOp) (sh1 80 1 5 779 noSh))
def vcDn (l : List Int) : Prop :=
  ((false = false ∧ List.length l = List.length l ∧ contLe (List.length l) (1 : Nat) (Ax.rowAt (0 : Nat) (cellsOf' encB l)) (cellsOf' encB l)) ∧ True) ∧ True ∧ List.length l ≤ (140737488355328 : Nat) ∧ true = true ∧ ((∀ (k : Nat), k < List.length l → ∀ (j : Nat), j < (1 : Nat) → tagT (cellsOf' encB l k j) = true) ∧ True) ∧ (∀ (k : Nat), k < List.length l → ∀ (j : Nat), j < (1 : Nat) → tagT (cellsOf' encB l k j) = true) ∧ (true = true ∧ List.length l = List.length l ∧ contLe (List.length l) (1 : Nat) (Ax.rowAt (0 : Nat) (cellsOf' encB l)) (cellsOf' encB l)) ∧ (List.length l = List.length l ∧ contLe (List.length l) (1 : Nat) (cellsOf' encB l) (cellsOf' encB l)) ∧ (((0 : Nat) = (0 : Nat) ∧ List.length l = List.length l) ∧ True) ∧ True
theorem vcDn_eq (l : List Int) : (ctrVCg Tryz.prog (dnH l) 80 [wP] (wM l) (dnR3 l)) = vcDn l := by kernel_rfl
end Go.Proofs.YtnbhdjadlbhknaaGreatDoor.J

namespace Go.Proofs.YtnbhdjadlbhknaaGreatDoor.J
open Go.Ax
set_option maxRecDepth 1000000
theorem textB_len (t : List Int) : t.length ≤ (textB t).length ∧ (textB t).length ≤ t.length + 11 := by
  have := uintB_len (t.length : Int)
  unfold textB
  rw [List.length_append]
  omega
theorem textS_len (s : ByteArray) : s.size ≤ (textB (strB s)).length ∧ (textB (strB s)).length ≤ s.size + 11 := by
  have := textB_len (strB s)
  rw [strB_len] at this
  exact this
structure U64 (v : Int) : Prop where
  lo : 0 ≤ v
  hi : v < 18446744073709551616
structure I64 (v : Int) : Prop where
  lo : -9223372036854775808 ≤ v
  hi : v < 9223372036854775808
structure Lim (n : Nat) : Prop where
  h : n + 200 ≤ 140737488355327
structure RecU (x : Rec) : Prop where
  off : U64 x.off
  prod : U64 x.prod
  seq : U64 x.seq
theorem wuOk {v : Int} {l : List Int} (h : U64 v) (n : l.length + 20 ≤ 140737488355327) : WuOk v l := ⟨h.lo, h.hi, n⟩
theorem wiOk {v : Int} {l : List Int} (h : I64 v) (n : l.length + 20 ≤ 140737488355327) : WiOk v l := ⟨h.lo, h.hi, n⟩
theorem wg_c (r : Rng) (l : List Int) (h : Lim (l ++ rngB r).length) : (wR2 (l ++ rngB r)).Sat (ACall' Tryz.prog 91 [wP, .agg (encG r)] (wM l)) := by
  refine ctr_vcg (ht := wgH r l) Tryz.mixed rfl ?_
  rw [vcWg_eq r l]
  unfold vcWg
  have h1 := h.h
  have a1 := textS_len r.lo
  have a2 := textS_len r.hi
  simp only [rngB, List.length_append] at h1
  have b1 : WsOk r.lo l := ⟨by omega⟩
  have b2 : WsOk r.hi (l ++ textB (strB r.lo)) := ⟨by rw [List.length_append]; omega⟩
  simp [rngB, b1, b2]
noncomputable def wgC (r : Rng) (l : List Int) : Ctr Tryz.prog := ⟨91, [wP, .agg (encG r)], wM l, .need (Lim (l ++ rngB r).length) (wR2 (l ++ rngB r)), T.Sat.need fun h => wg_c r l h⟩
theorem wr_c (x : Rec) (l : List Int) (hx : RecU x) (h : Lim (l ++ recB x).length) : (wR2 (l ++ recB x)).Sat (ACall' Tryz.prog 130 [wP, .agg (encR x)] (wM l)) := by
  refine ctr_vcg (ht := wrH x l) Tryz.mixed rfl ?_
  rw [vcWr_eq x l]
  unfold vcWr
  have h1 := h.h
  have a2 := textS_len x.key
  have a3 := textB_len x.val
  simp only [recB, List.length_append] at h1
  have b1 : WuOk x.off l := wuOk hx.off (by omega)
  have b2 : WsOk x.key (l ++ uintB x.off) := ⟨by simp only [List.length_append]; omega⟩
  have b3 : WyOk x.val (l ++ uintB x.off ++ textB (strB x.key)) := ⟨by simp only [List.length_append]; omega⟩
  have b4 : WuOk x.prod (l ++ uintB x.off ++ textB (strB x.key) ++ textB x.val) := wuOk hx.prod (by simp only [List.length_append]; omega)
  have b5 : WuOk x.seq (l ++ uintB x.off ++ textB (strB x.key) ++ textB x.val ++ uintB x.prod) := wuOk hx.seq (by simp only [List.length_append]; omega)
  simp only [List.append_assoc] at b3 b4 b5
  simp [recB, b1, b2, b3, b4, b5]
structure WrOk (x : Rec) (l : List Int) : Prop where
  u : RecU x
  n : Lim (l ++ recB x).length
noncomputable def wrC (x : Rec) (l : List Int) : Ctr Tryz.prog := ⟨130, [wP, .agg (encR x)], wM l, .need (WrOk x l) (wR2 (l ++ recB x)), T.Sat.need fun h => wr_c x l h.u h.n⟩
theorem dn_c (l : List Int) (h : Lim l.length) : (dnR l).Sat (ACall' Tryz.prog 80 [wP] (wM l)) := by
  have h3 : (dnR3 l).Sat (ACall' Tryz.prog 80 [wP] (wM l)) := by
    refine ctr_vcg (ht := dnH l) Tryz.mixed rfl ?_
    rw [vcDn_eq l]
    unfold vcDn
    have h1 := h.h
    have ht : ∀ k, k < l.length → ∀ j, j < 1 → tagT (cellsOf' encB l k j) = true := by
      intro k hk j hj
      obtain rfl : j = 0 := by omega
      rfl
    have hr : contLe l.length 1 (Ax.rowAt 0 (cellsOf' encB l)) (cellsOf' encB l) := by
      intro k hk j hj
      exact le0_refl _
    simp [hr]
    exact ⟨by omega, fun k hk => ht k hk 0 (by decide)⟩
  have h1 : ACall' Tryz.prog 80 [wP] (wM l) (encBs true l, wM l, [3]) := of_retJ h3
  have h2 : ACall' Tryz.prog 80 [wP] (wM l) (encBs true l, wM l, []) := acall_mv h1 fun i hi => by
    obtain rfl := List.mem_singleton.1 hi
    exact .inr rfl
  exact T.Sat.ret h2
noncomputable def dnC (l : List Int) : Ctr Tryz.prog := ⟨80, [wP], wM l, .need (Lim l.length) (dnR l), T.Sat.need fun h => dn_c l h⟩
end Go.Proofs.YtnbhdjadlbhknaaGreatDoor.J

namespace Go.Proofs.YtnbhdjadlbhknaaGreatDoor.J
open Go.Ax
set_option maxRecDepth 1000000
def wlA (recs : List Rec) (l : List Int) (k : Nat) : List Int := l ++ uintB (recs.length : Int) ++ (recs.take k).flatMap recB
def wlT (f : Bool) (recs : List Rec) (k : Nat) : List AV := mkT 21 [(0, wP), (11, encRs f recs), (12, .y (.int .i64 recs.length)), (13, .y (.int .i64 k))]
def wlS (f : Bool) (recs : List Rec) (l : List Int) (_ : Unit) : Exit × List AV × List Blk := (.exit 0, wlT f recs recs.length, wM (wlA recs l recs.length))
abbrev Up (n : Nat) := {k : Nat // k ≤ n}
noncomputable def wlH (recs : List Rec) (l : List Int) (k : Nat) : HintsT Tryz.prog := suW (hh _ noLp (cs1 92 4 2 (wrC (recs.getD k default) (wlA recs l k)) noCs) noOp)
def vcWlL (f : Bool) (recs : List Rec) (l : List Int) (k : Up recs.length) : Prop :=
  (decide ((↑k.val : Int) < (↑(List.length recs) : Int)) = true → (true && decide ((↑k.val : Int) < (↑(List.length recs) : Int))) = true ∧ (((0 : Nat) = (0 : Nat) ∧ (0 : Nat) = (0 : Nat)) ∧ ((List.getD recs (Int.toNat (↑k.val : Int)) (@default Rec instInhabitedRec)).off = (List.getD recs k.val (@default Rec instInhabitedRec)).off ∧ (List.getD recs (Int.toNat (↑k.val : Int)) (@default Rec instInhabitedRec)).key = (List.getD recs k.val (@default Rec instInhabitedRec)).key ∧ (true = true ∧ List.length (List.getD recs (Int.toNat (↑k.val : Int)) (@default Rec instInhabitedRec)).val = List.length (List.getD recs k.val (@default Rec instInhabitedRec)).val ∧ contLe (List.length (List.getD recs (Int.toNat (↑k.val : Int)) (@default Rec instInhabitedRec)).val) (1 : Nat) (cellsOf' encB (List.getD recs (Int.toNat (↑k.val : Int)) (@default Rec instInhabitedRec)).val) (cellsOf' encB (List.getD recs k.val (@default Rec instInhabitedRec)).val)) ∧ (List.getD recs (Int.toNat (↑k.val : Int)) (@default Rec instInhabitedRec)).prod = (List.getD recs k.val (@default Rec instInhabitedRec)).prod ∧ (List.getD recs (Int.toNat (↑k.val : Int)) (@default Rec instInhabitedRec)).seq = (List.getD recs k.val (@default Rec instInhabitedRec)).seq ∧ True) ∧ True) ∧ (wmLe (wlA recs l k.val) (wlA recs l k.val)) ∧ WrOk (List.getD recs k.val (@default Rec instInhabitedRec)) (wlA recs l k.val) ∧ ∃ (j : Up (List.length recs)), List.length recs - j.val < List.length recs - k.val ∧ ((((0 : Nat) = (0 : Nat) ∧ (0 : Nat) = (0 : Nat)) ∧ (f = f ∧ List.length recs = List.length recs ∧ contLe (List.length recs) (5 : Nat) (cellsOf' encR recs) (cellsOf' encR recs)) ∧ (↑(List.length recs) : Int) = (↑(List.length recs) : Int) ∧ IntKind.wrap IntKind.i64 ((↑k.val : Int) + (1 : Int)) = (↑j.val : Int) ∧ True) ∧ (wmLe (wlA recs l k.val ++ recB (List.getD recs k.val (@default Rec instInhabitedRec))) (wlA recs l j.val)) ∧ true = true) ∧ true = true ∧ () = ()) ∧ (decide ((↑k.val : Int) < (↑(List.length recs) : Int)) = false → (((0 : Nat) = (0 : Nat) ∧ (0 : Nat) = (0 : Nat)) ∧ (f = f ∧ List.length recs = List.length recs ∧ contLe (List.length recs) (5 : Nat) (cellsOf' encR recs) (cellsOf' encR recs)) ∧ (↑(List.length recs) : Int) = (↑(List.length recs) : Int) ∧ (↑k.val : Int) = (↑(List.length recs) : Int) ∧ True) ∧ (wmLe (wlA recs l k.val) (wlA recs l (List.length recs))) ∧ true = true)
theorem vcWlL_eq (f : Bool) (recs : List Rec) (l : List Int) (k : Up recs.length) : (loopVC Tryz.prog (wlH recs l k.1) 92 2 (fun k : Up recs.length => recs.length - k.1) (fun k => wlT f recs k.1) (fun k => wM (wlA recs l k.1)) [1, 3] (fun _ => .ret ()) (wlS f recs l) k) = vcWlL f recs l k := by kernel_rfl
noncomputable def wlH2 (f : Bool) (recs : List Rec) (l : List Int) : HintsT Tryz.prog := suW (hh _ (lp1 92 2 (jobOf (fun k : Up recs.length => wlT f recs k.1) (fun k => wM (wlA recs l k.1)) [1, 3] (fun _ => .ret ()) (wlS f recs l) ⟨0, Nat.zero_le _⟩) noLp) (cs1 92 0 4 (wuC (recs.length : Int) l) noCs) noOp)
def vcWl (f : Bool) (recs : List Rec) (l : List Int) : Prop :=
  (((0 : Nat) = (0 : Nat) ∧ (0 : Nat) = (0 : Nat)) ∧ IntKind.wrap IntKind.u64 (↑(List.length recs) : Int) = (↑(List.length recs) : Int) ∧ True) ∧ (wmLe l l) ∧ WuOk (↑(List.length recs) : Int) l ∧ ((((0 : Nat) = (0 : Nat) ∧ (0 : Nat) = (0 : Nat)) ∧ (f = f ∧ List.length recs = List.length recs ∧ contLe (List.length recs) (5 : Nat) (cellsOf' encR recs) (cellsOf' encR recs)) ∧ (↑(List.length recs) : Int) = (↑(List.length recs) : Int) ∧ (0 : Int) = (0 : Int) ∧ True) ∧ (wmLe (l ++ uintB (↑(List.length recs) : Int)) (wlA recs l (0 : Nat))) ∧ true = true) ∧ LoopOk Tryz.prog (92 : Nat) (2 : Nat) (loopAt Tryz.prog (92 : Nat) (2 : Nat)) { t := wlT f recs (⟨(0 : Nat), wlH2._proof_1 recs⟩ : { k : Nat // k ≤ List.length recs }).val, m := wM (wlA recs l (⟨(0 : Nat), wlH2._proof_1 recs⟩ : { k : Nat // k ≤ List.length recs }).val), mv := [] : St } (T.map (lout [(1 : Nat), (3 : Nat)] (wlS f recs l)) ((fun (x : Up (List.length recs)) => T.ret ()) (⟨(0 : Nat), wlH2._proof_1 recs⟩ : { k : Nat // k ≤ List.length recs }))) ∧ True ∧ (List.length (wlA recs l (List.length recs)) = List.length (l ++ listB recs) ∧ contLe (List.length (wlA recs l (List.length recs))) (1 : Nat) (cellsOf' encB (wlA recs l (List.length recs))) (cellsOf' encB (l ++ listB recs))) ∧ (((0 : Nat) = (0 : Nat) ∧ List.length (wlA recs l (List.length recs)) = List.length (l ++ listB recs)) ∧ True) ∧ True
theorem vcWl_eq (f : Bool) (recs : List Rec) (l : List Int) : (ctrVCg Tryz.prog (wlH2 f recs l) 92 [wP, encRs f recs] (wM l) (wR (l ++ listB recs))) = vcWl f recs l := by kernel_rfl
def cmdB (c : R.Cmd) : List Int :=
  if c.kind = 1 then [] ++ intB (c.kind) ++ uintB (c.epoch) ++ uintB (c.prod) ++ uintB (c.seq) ++ textB (strB (c.key)) ++ textB (c.val) else if c.kind = 2 then [] ++ intB (c.kind) ++ uintB (c.epoch) ++ uintB (c.off) ++ intB (c.most) else if c.kind = 3 then [] ++ intB (c.kind) ++ uintB (c.epoch) ++ uintB (c.prod) ++ uintB (c.seq) ++ textB (strB (c.name)) ++ uintB (c.off) else if c.kind = 4 then [] ++ intB (c.kind) ++ uintB (c.epoch) ++ textB (strB (c.name)) else if c.kind = 5 ∨ c.kind = 6 then [] ++ intB (c.kind) ++ uintB (c.epoch) ++ uintB (c.plan) else []
def cab {P : Program} (f r p : Nat) (i : Nat) (C : Ctr P) (els : List AV → FuncId → Nat → Nat → Option (Ctr P)) : List AV → FuncId → Nat → Nat → Option (Ctr P) :=
  fun ts f' r' p' => match Nat.beq f f' && Nat.beq r r' && Nat.beq p p' with
    | true => (match get ts i with
      | .s (.bool true) => some C
      | _ => els ts f' r' p')
    | false => els ts f' r' p'
noncomputable def wcH (c : R.Cmd) : HintsT Tryz.prog := withCa (suW (withSh (hh _ noLp ((cs1 23 2 3 (wiC (c.kind) ([])) (cs1 23 3 3 (wuC (c.epoch) ([] ++ intB (c.kind))) (cs1 23 11 3 (wuC (c.prod) ([] ++ intB (c.kind) ++ uintB (c.epoch))) (cs1 23 12 3 (wuC (c.seq) ([] ++ intB (c.kind) ++ uintB (c.epoch) ++ uintB (c.prod))) (cs1 23 13 3 (wsC (c.key) ([] ++ intB (c.kind) ++ uintB (c.epoch) ++ uintB (c.prod) ++ uintB (c.seq))) (cs1 23 14 3 (wyC true (c.val) ([] ++ intB (c.kind) ++ uintB (c.epoch) ++ uintB (c.prod) ++ uintB (c.seq) ++ textB (strB (c.key)))) (cs1 23 15 3 (wuC (c.off) ([] ++ intB (c.kind) ++ uintB (c.epoch))) (cs1 23 16 3 (wiC (c.most) ([] ++ intB (c.kind) ++ uintB (c.epoch) ++ uintB (c.off))) (cs1 23 17 3 (wuC (c.prod) ([] ++ intB (c.kind) ++ uintB (c.epoch))) (cs1 23 18 3 (wuC (c.seq) ([] ++ intB (c.kind) ++ uintB (c.epoch) ++ uintB (c.prod))) (cs1 23 19 3 (wsC (c.name) ([] ++ intB (c.kind) ++ uintB (c.epoch) ++ uintB (c.prod) ++ uintB (c.seq))) (cs1 23 20 3 (wuC (c.off) ([] ++ intB (c.kind) ++ uintB (c.epoch) ++ uintB (c.prod) ++ uintB (c.seq) ++ textB (strB (c.name)))) (cs1 23 21 3 (wsC (c.name) ([] ++ intB (c.kind) ++ uintB (c.epoch))) (cs1 23 22 3 (wuC (c.plan) ([] ++ intB (c.kind) ++ uintB (c.epoch))) noCs))))))))))))))) noOp) (sh1 23 1 0 1001 noSh))) ((cab 23 24 1 16 (dnC ([] ++ intB (c.kind) ++ uintB (c.epoch) ++ uintB (c.prod) ++ uintB (c.seq) ++ textB (strB (c.key)) ++ textB (c.val))) (cab 23 24 1 18 (dnC ([] ++ intB (c.kind) ++ uintB (c.epoch) ++ uintB (c.off) ++ intB (c.most))) (cab 23 24 1 20 (dnC ([] ++ intB (c.kind) ++ uintB (c.epoch) ++ uintB (c.prod) ++ uintB (c.seq) ++ textB (strB (c.name)) ++ uintB (c.off))) (cab 23 24 1 22 (dnC ([] ++ intB (c.kind) ++ uintB (c.epoch) ++ textB (strB (c.name)))) (cab 23 24 1 24 (dnC ([] ++ intB (c.kind) ++ uintB (c.epoch) ++ uintB (c.plan))) (cab 23 24 1 26 (dnC ([] ++ intB (c.kind) ++ uintB (c.epoch) ++ uintB (c.plan))) noCa)))))))
def vcWc (c : R.Cmd) : Prop :=
  (((0 : Nat) = (0 : Nat) ∧ (0 : Nat) = (0 : Nat)) ∧ c.kind = c.kind ∧ True) ∧ (((0 : Nat) = (0 : Nat) ∧ contLe (0 : Nat) (1 : Nat) (fun (x x_1 : Nat) => AV.junk) (cellsOf' encB [])) ∧ (((0 : Nat) = (0 : Nat) ∧ (0 : Nat) = (0 : Nat)) ∧ True) ∧ True) ∧ WiOk c.kind [] ∧ (((0 : Nat) = (0 : Nat) ∧ (0 : Nat) = (0 : Nat)) ∧ c.epoch = c.epoch ∧ True) ∧ (wmLe ([] ++ intB c.kind) ([] ++ intB c.kind)) ∧ WuOk c.epoch ([] ++ intB c.kind) ∧ ((c.kind == (1 : Int)) = true → (((0 : Nat) = (0 : Nat) ∧ (0 : Nat) = (0 : Nat)) ∧ c.prod = c.prod ∧ True) ∧ (wmLe ([] ++ intB c.kind ++ uintB c.epoch) ([] ++ intB c.kind ++ uintB c.epoch)) ∧ WuOk c.prod ([] ++ intB c.kind ++ uintB c.epoch) ∧ (((0 : Nat) = (0 : Nat) ∧ (0 : Nat) = (0 : Nat)) ∧ c.seq = c.seq ∧ True) ∧ (wmLe ([] ++ intB c.kind ++ uintB c.epoch ++ uintB c.prod) ([] ++ intB c.kind ++ uintB c.epoch ++ uintB c.prod)) ∧ WuOk c.seq ([] ++ intB c.kind ++ uintB c.epoch ++ uintB c.prod) ∧ (((0 : Nat) = (0 : Nat) ∧ (0 : Nat) = (0 : Nat)) ∧ c.key = c.key ∧ True) ∧ (wmLe ([] ++ intB c.kind ++ uintB c.epoch ++ uintB c.prod ++ uintB c.seq) ([] ++ intB c.kind ++ uintB c.epoch ++ uintB c.prod ++ uintB c.seq)) ∧ WsOk c.key ([] ++ intB c.kind ++ uintB c.epoch ++ uintB c.prod ++ uintB c.seq) ∧ (((0 : Nat) = (0 : Nat) ∧ (0 : Nat) = (0 : Nat)) ∧ (bsLe c.val c.val) ∧ True) ∧ (wmLe ([] ++ intB c.kind ++ uintB c.epoch ++ uintB c.prod ++ uintB c.seq ++ textB (strB c.key)) ([] ++ intB c.kind ++ uintB c.epoch ++ uintB c.prod ++ uintB c.seq ++ textB (strB c.key))) ∧ WyOk c.val ([] ++ intB c.kind ++ uintB c.epoch ++ uintB c.prod ++ uintB c.seq ++ textB (strB c.key)) ∧ (((0 : Nat) = (0 : Nat) ∧ (0 : Nat) = (0 : Nat)) ∧ True) ∧ (wmLe ([] ++ intB c.kind ++ uintB c.epoch ++ uintB c.prod ++ uintB c.seq ++ textB (strB c.key) ++ textB c.val) ([] ++ intB c.kind ++ uintB c.epoch ++ uintB c.prod ++ uintB c.seq ++ textB (strB c.key) ++ textB c.val)) ∧ Lim (List.length ([] ++ intB c.kind ++ uintB c.epoch ++ uintB c.prod ++ uintB c.seq ++ textB (strB c.key) ++ textB c.val)) ∧ (bsLe ([] ++ intB c.kind ++ uintB c.epoch ++ uintB c.prod ++ uintB c.seq ++ textB (strB c.key) ++ textB c.val) (cmdB c)) ∧ True) ∧ ((c.kind == (1 : Int)) = false → ((c.kind == (2 : Int)) = true → (((0 : Nat) = (0 : Nat) ∧ (0 : Nat) = (0 : Nat)) ∧ c.off = c.off ∧ True) ∧ (wmLe ([] ++ intB c.kind ++ uintB c.epoch) ([] ++ intB c.kind ++ uintB c.epoch)) ∧ WuOk c.off ([] ++ intB c.kind ++ uintB c.epoch) ∧ (((0 : Nat) = (0 : Nat) ∧ (0 : Nat) = (0 : Nat)) ∧ c.most = c.most ∧ True) ∧ (wmLe ([] ++ intB c.kind ++ uintB c.epoch ++ uintB c.off) ([] ++ intB c.kind ++ uintB c.epoch ++ uintB c.off)) ∧ WiOk c.most ([] ++ intB c.kind ++ uintB c.epoch ++ uintB c.off) ∧ (((0 : Nat) = (0 : Nat) ∧ (0 : Nat) = (0 : Nat)) ∧ True) ∧ (wmLe ([] ++ intB c.kind ++ uintB c.epoch ++ uintB c.off ++ intB c.most) ([] ++ intB c.kind ++ uintB c.epoch ++ uintB c.off ++ intB c.most)) ∧ Lim (List.length ([] ++ intB c.kind ++ uintB c.epoch ++ uintB c.off ++ intB c.most)) ∧ (bsLe ([] ++ intB c.kind ++ uintB c.epoch ++ uintB c.off ++ intB c.most) (cmdB c)) ∧ True) ∧ ((c.kind == (2 : Int)) = false → ((c.kind == (3 : Int)) = true → (((0 : Nat) = (0 : Nat) ∧ (0 : Nat) = (0 : Nat)) ∧ c.prod = c.prod ∧ True) ∧ (wmLe ([] ++ intB c.kind ++ uintB c.epoch) ([] ++ intB c.kind ++ uintB c.epoch)) ∧ WuOk c.prod ([] ++ intB c.kind ++ uintB c.epoch) ∧ (((0 : Nat) = (0 : Nat) ∧ (0 : Nat) = (0 : Nat)) ∧ c.seq = c.seq ∧ True) ∧ (wmLe ([] ++ intB c.kind ++ uintB c.epoch ++ uintB c.prod) ([] ++ intB c.kind ++ uintB c.epoch ++ uintB c.prod)) ∧ WuOk c.seq ([] ++ intB c.kind ++ uintB c.epoch ++ uintB c.prod) ∧ (((0 : Nat) = (0 : Nat) ∧ (0 : Nat) = (0 : Nat)) ∧ c.name = c.name ∧ True) ∧ (wmLe ([] ++ intB c.kind ++ uintB c.epoch ++ uintB c.prod ++ uintB c.seq) ([] ++ intB c.kind ++ uintB c.epoch ++ uintB c.prod ++ uintB c.seq)) ∧ WsOk c.name ([] ++ intB c.kind ++ uintB c.epoch ++ uintB c.prod ++ uintB c.seq) ∧ (((0 : Nat) = (0 : Nat) ∧ (0 : Nat) = (0 : Nat)) ∧ c.off = c.off ∧ True) ∧ (wmLe ([] ++ intB c.kind ++ uintB c.epoch ++ uintB c.prod ++ uintB c.seq ++ textB (strB c.name)) ([] ++ intB c.kind ++ uintB c.epoch ++ uintB c.prod ++ uintB c.seq ++ textB (strB c.name))) ∧ WuOk c.off ([] ++ intB c.kind ++ uintB c.epoch ++ uintB c.prod ++ uintB c.seq ++ textB (strB c.name)) ∧ (((0 : Nat) = (0 : Nat) ∧ (0 : Nat) = (0 : Nat)) ∧ True) ∧ (wmLe ([] ++ intB c.kind ++ uintB c.epoch ++ uintB c.prod ++ uintB c.seq ++ textB (strB c.name) ++ uintB c.off) ([] ++ intB c.kind ++ uintB c.epoch ++ uintB c.prod ++ uintB c.seq ++ textB (strB c.name) ++ uintB c.off)) ∧ Lim (List.length ([] ++ intB c.kind ++ uintB c.epoch ++ uintB c.prod ++ uintB c.seq ++ textB (strB c.name) ++ uintB c.off)) ∧ (bsLe ([] ++ intB c.kind ++ uintB c.epoch ++ uintB c.prod ++ uintB c.seq ++ textB (strB c.name) ++ uintB c.off) (cmdB c)) ∧ True) ∧ ((c.kind == (3 : Int)) = false → ((c.kind == (4 : Int)) = true → (((0 : Nat) = (0 : Nat) ∧ (0 : Nat) = (0 : Nat)) ∧ c.name = c.name ∧ True) ∧ (wmLe ([] ++ intB c.kind ++ uintB c.epoch) ([] ++ intB c.kind ++ uintB c.epoch)) ∧ WsOk c.name ([] ++ intB c.kind ++ uintB c.epoch) ∧ (((0 : Nat) = (0 : Nat) ∧ (0 : Nat) = (0 : Nat)) ∧ True) ∧ (wmLe ([] ++ intB c.kind ++ uintB c.epoch ++ textB (strB c.name)) ([] ++ intB c.kind ++ uintB c.epoch ++ textB (strB c.name))) ∧ Lim (List.length ([] ++ intB c.kind ++ uintB c.epoch ++ textB (strB c.name))) ∧ (bsLe ([] ++ intB c.kind ++ uintB c.epoch ++ textB (strB c.name)) (cmdB c)) ∧ True) ∧ ((c.kind == (4 : Int)) = false → ((c.kind == (5 : Int)) = true → (((0 : Nat) = (0 : Nat) ∧ (0 : Nat) = (0 : Nat)) ∧ c.plan = c.plan ∧ True) ∧ (wmLe ([] ++ intB c.kind ++ uintB c.epoch) ([] ++ intB c.kind ++ uintB c.epoch)) ∧ WuOk c.plan ([] ++ intB c.kind ++ uintB c.epoch) ∧ (((0 : Nat) = (0 : Nat) ∧ (0 : Nat) = (0 : Nat)) ∧ True) ∧ (wmLe ([] ++ intB c.kind ++ uintB c.epoch ++ uintB c.plan) ([] ++ intB c.kind ++ uintB c.epoch ++ uintB c.plan)) ∧ Lim (List.length ([] ++ intB c.kind ++ uintB c.epoch ++ uintB c.plan)) ∧ (bsLe ([] ++ intB c.kind ++ uintB c.epoch ++ uintB c.plan) (cmdB c)) ∧ True) ∧ ((c.kind == (5 : Int)) = false → ((c.kind == (6 : Int)) = true → (((0 : Nat) = (0 : Nat) ∧ (0 : Nat) = (0 : Nat)) ∧ c.plan = c.plan ∧ True) ∧ (wmLe ([] ++ intB c.kind ++ uintB c.epoch) ([] ++ intB c.kind ++ uintB c.epoch)) ∧ WuOk c.plan ([] ++ intB c.kind ++ uintB c.epoch) ∧ (((0 : Nat) = (0 : Nat) ∧ (0 : Nat) = (0 : Nat)) ∧ True) ∧ (wmLe ([] ++ intB c.kind ++ uintB c.epoch ++ uintB c.plan) ([] ++ intB c.kind ++ uintB c.epoch ++ uintB c.plan)) ∧ Lim (List.length ([] ++ intB c.kind ++ uintB c.epoch ++ uintB c.plan)) ∧ (bsLe ([] ++ intB c.kind ++ uintB c.epoch ++ uintB c.plan) (cmdB c)) ∧ True) ∧ ((c.kind == (6 : Int)) = false → List.length (cmdB c) = (0 : Nat) ∧ True))))))
theorem vcWc_eq (c : R.Cmd) : (ctrVC Tryz.prog (wcH c) 23 [.agg (R.encCm c)] [] (.ret (encBs true (cmdB c), [], []))) = vcWc c := by kernel_rfl
end Go.Proofs.YtnbhdjadlbhknaaGreatDoor.J

namespace Go.Proofs.YtnbhdjadlbhknaaGreatDoor.J
open Go.Ax
set_option maxRecDepth 1000000
theorem take_flat {α β : Type} [Inhabited α] (f : α → List β) (l : List α) (k : Nat) (h : k < l.length) : (l.take (k + 1)).flatMap f = (l.take k).flatMap f ++ f (l.getD k default) := by
  rw [List.take_add_one, List.flatMap_append]
  simp [h]
theorem flat_le {α β : Type} (f : α → List β) (l : List α) (k : Nat) : ((l.take k).flatMap f).length ≤ (l.flatMap f).length := by
  have : l.flatMap f = (l.take k).flatMap f ++ (l.drop k).flatMap f := by rw [← List.flatMap_append, List.take_append_drop]
  rw [this, List.length_append]
  omega
theorem wlA_step {recs : List Rec} {l : List Int} {k : Nat} (h : k < recs.length) : wlA recs l (k + 1) = wlA recs l k ++ recB (recs.getD k default) := by
  unfold wlA
  rw [take_flat recB recs k h]
  simp only [List.append_assoc]
theorem wlA_end (recs : List Rec) (l : List Int) : wlA recs l recs.length = l ++ listB recs := by
  unfold wlA listB
  rw [List.take_length, List.append_assoc]
theorem wlA_lim {recs : List Rec} {l : List Int} (k : Nat) (h : Lim (l ++ listB recs).length) : Lim (wlA recs l k).length := by
  have h1 := h.h
  have h2 := flat_le recB recs k
  refine ⟨?_⟩
  unfold wlA
  unfold listB at h1
  simp only [List.length_append] at h1 ⊢
  omega
structure WlOk (recs : List Rec) (l : List Int) : Prop where
  u : ∀ k, k < recs.length → RecU (recs.getD k default)
  n : Lim (l ++ listB recs).length
theorem recB_pos (x : Rec) : 1 ≤ (recB x).length := by
  have h : 1 ≤ (uintB x.off).length := by
    unfold uintB vint
    split <;> simp
  unfold recB
  simp only [List.length_append]
  omega
theorem flat_ge (l : List Rec) : l.length ≤ (l.flatMap recB).length := by
  induction l with
  | nil => simp
  | cons a l ih =>
    have := recB_pos a
    simp only [List.flatMap_cons, List.length_append, List.length_cons]
    omega
theorem wl_loop (f : Bool) (recs : List Rec) (l : List Int) (hu : WlOk recs l) (k : Up recs.length) : LoopOk Tryz.prog 92 2 (loopAt Tryz.prog 92 2) ⟨wlT f recs k.1, wM (wlA recs l k.1), []⟩ (T.map (lout [1, 3] (wlS f recs l)) (.ret ())) := by
  have hb : recs.length ≤ 140737488355327 := by
    have h1 := hu.n.h
    have h2 := flat_ge recs
    unfold listB at h1
    simp only [List.length_append] at h1
    omega
  refine loop_vcH (P := Tryz.prog) (f := 92) (k := 2) (ι := Up recs.length) (μ := fun k => recs.length - k.1) (ht := fun k => wlH recs l k.1) (stT := fun k => wlT f recs k.1) (stM := fun k => wM (wlA recs l k.1)) (X := [1, 3]) (o := fun _ => .ret ()) (S := wlS f recs l) Tryz.mixed (fun _ => rfl) (fun k => ?_) k
  rw [vcWlL_eq f recs l k]
  unfold vcWlL
  obtain ⟨k, hk⟩ := k
  by_cases h : k < recs.length
  · have hd : decide ((k : Int) < (recs.length : Int)) = true := by simp; omega
    have hw : WrOk (recs.getD k default) (wlA recs l k) := ⟨hu.u k h, by rw [← wlA_step h]; exact wlA_lim _ hu.n⟩
    have h1 : IntKind.wrap IntKind.i64 ((k : Int) + 1) = (k : Int) + 1 := wrap_i64 (by omega) (by omega)
    simp only [hd, h1]
    simp
    have e := wlA_step (l := l) h
    simp at e
    refine ⟨by simpa using hw, k + 1, ?_⟩
    rw [e]
    simp
    omega
  · obtain rfl : k = recs.length := by omega
    simp
theorem wl_c (f : Bool) (recs : List Rec) (l : List Int) (h : WlOk recs l) : (wR (l ++ listB recs)).Sat (ACall' Tryz.prog 92 [wP, encRs f recs] (wM l)) := by
  have hb : recs.length ≤ 140737488355327 := by
    have h1 := h.n.h
    have h2 := flat_ge recs
    unfold listB at h1
    simp only [List.length_append] at h1
    omega
  have h1 := h.n.h
  simp only [List.length_append] at h1
  have lp := wl_loop f recs l h ⟨0, Nat.zero_le _⟩
  refine ctr_vcg (ht := wlH2 f recs l) Tryz.mixed rfl ?_
  rw [vcWl_eq f recs l]
  unfold vcWl
  have e1 : IntKind.wrap IntKind.u64 (recs.length : Int) = recs.length := wrap_u64 (by omega) (by omega)
  have e2 : WuOk (recs.length : Int) l := ⟨by omega, by omega, by omega⟩
  have e3 : wlA recs l 0 = l ++ uintB (recs.length : Int) := by unfold wlA; simp
  simp only [e1, e3, wlA_end]
  simp only [e3] at lp
  simp [e2, lp]
noncomputable def wlC (f : Bool) (recs : List Rec) (l : List Int) : Ctr Tryz.prog := ⟨92, [wP, encRs f recs], wM l, .need (WlOk recs l) (wR2 (l ++ listB recs)), T.Sat.need fun h => wR2_of (wl_c f recs l h)⟩
structure CmdU (c : R.Cmd) : Prop where
  kind : I64 c.kind
  epoch : U64 c.epoch
  prod : U64 c.prod
  seq : U64 c.seq
  off : U64 c.off
  most : I64 c.most
  plan : U64 c.plan
  n : c.key.size + c.val.length + c.name.size + 1000 ≤ 140737488355327
theorem intB_len (v : Int) : (intB v).length ≤ 11 := uintB_len (zig v)
theorem wc_c (c : R.Cmd) (h : CmdU c) : (T.ret (encBs true (cmdB c), [], []) : T An).Sat (ACall' Tryz.prog 23 [.agg (R.encCm c)] []) := by
  refine ctr_vc (ht := wcH c) Tryz.mixed rfl ?_
  rw [vcWc_eq c]
  unfold vcWc
  obtain ⟨h1, h2, h3, h4, h5, h6, h7, hn⟩ := h
  have a2 := uintB_len c.epoch
  have a3 := uintB_len c.prod
  have a4 := uintB_len c.seq
  have a5 := uintB_len c.off
  have a6 := textS_len c.key
  have a7 := textB_len c.val
  have a8 := textS_len c.name
  have a9 := intB_len c.most
  have a10 := uintB_len c.plan
  have a11 := intB_len c.kind
  have tg : ∀ l : List Int, ∀ k, k < l.length → ∀ j, j < 1 → tagT (cellsOf' encB l k j) = true := by
    intro l k hk j hj
    obtain rfl : j = 0 := by omega
    rfl
  by_cases k1 : c.kind = 1
  · rw [k1] at a11 h1
    simp [k1, cmdB]
    repeat' with_reducible apply And.intro
    all_goals first | exact wuOk (by assumption) (by first | omega | (simp only [List.length_append, List.length_nil]; omega)) | exact wiOk (by assumption) (by first | omega | (simp only [List.length_append, List.length_nil]; omega)) | exact ⟨by first | omega | (simp only [List.length_append, List.length_nil]; omega)⟩
  by_cases k2 : c.kind = 2
  · rw [k2] at a11 h1
    simp [k2, cmdB]
    repeat' with_reducible apply And.intro
    all_goals first | exact wuOk (by assumption) (by first | omega | (simp only [List.length_append, List.length_nil]; omega)) | exact wiOk (by assumption) (by first | omega | (simp only [List.length_append, List.length_nil]; omega)) | exact ⟨by first | omega | (simp only [List.length_append, List.length_nil]; omega)⟩
  by_cases k3 : c.kind = 3
  · rw [k3] at a11 h1
    simp [k3, cmdB]
    repeat' with_reducible apply And.intro
    all_goals first | exact wuOk (by assumption) (by first | omega | (simp only [List.length_append, List.length_nil]; omega)) | exact wiOk (by assumption) (by first | omega | (simp only [List.length_append, List.length_nil]; omega)) | exact ⟨by first | omega | (simp only [List.length_append, List.length_nil]; omega)⟩
  by_cases k4 : c.kind = 4
  · rw [k4] at a11 h1
    simp [k4, cmdB]
    repeat' with_reducible apply And.intro
    all_goals first | exact wuOk (by assumption) (by first | omega | (simp only [List.length_append, List.length_nil]; omega)) | exact wiOk (by assumption) (by first | omega | (simp only [List.length_append, List.length_nil]; omega)) | exact ⟨by first | omega | (simp only [List.length_append, List.length_nil]; omega)⟩
  by_cases k5 : c.kind = 5
  · rw [k5] at a11 h1
    simp [k5, cmdB]
    repeat' with_reducible apply And.intro
    all_goals first | exact wuOk (by assumption) (by first | omega | (simp only [List.length_append, List.length_nil]; omega)) | exact wiOk (by assumption) (by first | omega | (simp only [List.length_append, List.length_nil]; omega)) | exact ⟨by first | omega | (simp only [List.length_append, List.length_nil]; omega)⟩
  by_cases k6 : c.kind = 6
  · rw [k6] at a11 h1
    simp [k6, cmdB]
    repeat' with_reducible apply And.intro
    all_goals first | exact wuOk (by assumption) (by first | omega | (simp only [List.length_append, List.length_nil]; omega)) | exact wiOk (by assumption) (by first | omega | (simp only [List.length_append, List.length_nil]; omega)) | exact ⟨by first | omega | (simp only [List.length_append, List.length_nil]; omega)⟩
  · simp [k1, k2, k3, k4, k5, k6, cmdB]
    repeat' with_reducible apply And.intro
    all_goals first | exact wuOk (by assumption) (by first | omega | (simp only [List.length_append, List.length_nil]; omega)) | exact wiOk (by assumption) (by first | omega | (simp only [List.length_append, List.length_nil]; omega)) | exact ⟨by first | omega | (simp only [List.length_append, List.length_nil]; omega)⟩
noncomputable def wcC (c : R.Cmd) : Ctr Tryz.prog := ⟨23, [.agg (R.encCm c)], [], .need (CmdU c) (.ret (encBs true (cmdB c), [], [])), T.Sat.need fun h => wc_c c h⟩
end Go.Proofs.YtnbhdjadlbhknaaGreatDoor.J

namespace Go.Proofs.YtnbhdjadlbhknaaGreatDoor.J
open Go.Ax
set_option maxRecDepth 1000000
def resB (x : R.Res) : List Int := intB (x.err) ++ uintB (x.off) ++ boolB (x.old) ++ listB (x.recs)
noncomputable def wxH (x : R.Res) : HintsT Tryz.prog := suW (withSh (hh _ noLp ((cs1 31 2 3 (wiC (x.err) ([])) (cs1 31 3 3 (wuC (x.off) ([] ++ intB (x.err))) (cs1 31 4 3 (wbC (x.old) ([] ++ intB (x.err) ++ uintB (x.off))) (cs1 31 5 3 (wlC true (x.recs) ([] ++ intB (x.err) ++ uintB (x.off) ++ boolB (x.old))) (cs1 31 6 1 (dnC ([] ++ intB (x.err) ++ uintB (x.off) ++ boolB (x.old) ++ listB (x.recs))) noCs)))))) noOp) (sh1 31 1 0 1001 noSh))
def vcWx (x : R.Res) : Prop :=
  (((0 : Nat) = (0 : Nat) ∧ (0 : Nat) = (0 : Nat)) ∧ x.err = x.err ∧ True) ∧ (((0 : Nat) = (0 : Nat) ∧ contLe (0 : Nat) (1 : Nat) (fun (x x_1 : Nat) => AV.junk) (cellsOf' encB [])) ∧ (((0 : Nat) = (0 : Nat) ∧ (0 : Nat) = (0 : Nat)) ∧ True) ∧ True) ∧ WiOk x.err [] ∧ (((0 : Nat) = (0 : Nat) ∧ (0 : Nat) = (0 : Nat)) ∧ x.off = x.off ∧ True) ∧ (wmLe ([] ++ intB x.err) ([] ++ intB x.err)) ∧ WuOk x.off ([] ++ intB x.err) ∧ (((0 : Nat) = (0 : Nat) ∧ (0 : Nat) = (0 : Nat)) ∧ x.old = x.old ∧ True) ∧ (wmLe ([] ++ intB x.err ++ uintB x.off) ([] ++ intB x.err ++ uintB x.off)) ∧ WbOk ([] ++ intB x.err ++ uintB x.off) ∧ (((0 : Nat) = (0 : Nat) ∧ (0 : Nat) = (0 : Nat)) ∧ (true = true ∧ List.length x.recs = List.length x.recs ∧ contLe (List.length x.recs) (5 : Nat) (cellsOf' encR x.recs) (cellsOf' encR x.recs)) ∧ True) ∧ (wmLe ([] ++ intB x.err ++ uintB x.off ++ [if x.old = true then (1 : Int) else (0 : Int)]) ([] ++ intB x.err ++ uintB x.off ++ [if x.old = true then (1 : Int) else (0 : Int)])) ∧ WlOk x.recs ([] ++ intB x.err ++ uintB x.off ++ [if x.old = true then (1 : Int) else (0 : Int)]) ∧ (((0 : Nat) = (0 : Nat) ∧ (0 : Nat) = (0 : Nat)) ∧ True) ∧ (wmLe ([] ++ intB x.err ++ uintB x.off ++ [if x.old = true then (1 : Int) else (0 : Int)] ++ listB x.recs) ([] ++ intB x.err ++ uintB x.off ++ [if x.old = true then (1 : Int) else (0 : Int)] ++ listB x.recs)) ∧ Lim (List.length ([] ++ intB x.err ++ uintB x.off ++ [if x.old = true then (1 : Int) else (0 : Int)] ++ listB x.recs)) ∧ (bsLe ([] ++ intB x.err ++ uintB x.off ++ [if x.old = true then (1 : Int) else (0 : Int)] ++ listB x.recs) (resB x)) ∧ True
theorem vcWx_eq (x : R.Res) : (ctrVC Tryz.prog (wxH x) 31 [.agg (R.encX x)] [] (.ret (encBs true (resB x), [], []))) = vcWx x := by kernel_rfl
def prodB (x : P.Producer) : List Int := uintB (x.id) ++ uintB (x.seq) ++ boolB (x.here) ++ uintB (x.offset)
def conB (x : Con) : List Int := textB (strB (x.name)) ++ uintB (x.off)
def hdB (p : Part) : List Int := rngB (p.rng) ++ uintB (p.epoch) ++ uintB (p.frozen) ++ listB (p.recs)
def prodsB (l : List P.Producer) : List Int := uintB (l.length : Int) ++ l.flatMap prodB
def consB (l : List Con) : List Int := uintB (l.length : Int) ++ l.flatMap conB
def bytesB (p : Part) : List Int := hdB p ++ prodsB p.prods ++ consB p.cons
def wMp (b : Bool) (p : Part) (l : List Int) : List Blk := [.box 30 (encPt b p), .row 5 1 l.length none (cellsOf' encB l), .box 117 [.own 1 1 0 l.length]]
def bpA (p : Part) (k : Nat) : List Int := hdB p ++ uintB (p.prods.length : Int) ++ (p.prods.take k).flatMap prodB
def bcA (p : Part) (k : Nat) : List Int := hdB p ++ prodsB p.prods ++ uintB (p.cons.length : Int) ++ (p.cons.take k).flatMap conB
def bpT (b : Bool) (p : Part) (k : Nat) : List AV := mkT 80 [(1, .ptr 0 0 0 0), (3, wP), (33, P.encPs b p.prods), (34, .y (.int .i64 p.prods.length)), (35, .y (.int .i64 k))]
def bcT (b : Bool) (p : Part) (k : Nat) : List AV := mkT 80 [(1, .ptr 0 0 0 0), (3, wP), (63, encCs b p.cons), (64, .y (.int .i64 p.cons.length)), (65, .y (.int .i64 k))]
def bpS (b : Bool) (p : Part) (_ : Unit) : Exit × List AV × List Blk := (.exit 0, bpT b p p.prods.length, wMp b p (bpA p p.prods.length))
def bcS (b : Bool) (p : Part) (_ : Unit) : Exit × List AV × List Blk := (.exit 2, bcT b p p.cons.length, wMp b p (bcA p p.cons.length))
noncomputable def bpH (p : Part) (k : Nat) : HintsT Tryz.prog := suW (hh _ noLp ((cs1 28 10 3 (wuC ((p.prods.getD k default).id) (bpA p k)) (cs1 28 11 3 (wuC ((p.prods.getD k default).seq) (bpA p k ++ uintB ((p.prods.getD k default).id))) (cs1 28 12 3 (wbC ((p.prods.getD k default).here) (bpA p k ++ uintB ((p.prods.getD k default).id) ++ uintB ((p.prods.getD k default).seq))) (cs1 28 13 3 (wuC ((p.prods.getD k default).offset) (bpA p k ++ uintB ((p.prods.getD k default).id) ++ uintB ((p.prods.getD k default).seq) ++ boolB ((p.prods.getD k default).here))) noCs))))) noOp)
def vcBp (b : Bool) (p : Part) (k : Up p.prods.length) : Prop :=
  (decide ((↑k.val : Int) < (↑(List.length p.prods) : Int)) = true → (true && decide ((↑k.val : Int) < (↑(List.length p.prods) : Int))) = true ∧ (((0 : Nat) = (0 : Nat) ∧ (0 : Nat) = (0 : Nat)) ∧ (List.getD p.prods (Int.toNat (↑k.val : Int)) (@default P.Producer P.instInhabitedProducer)).id = (List.getD p.prods k.val (@default P.Producer P.instInhabitedProducer)).id ∧ True) ∧ (wmLe (bpA p k.val) (bpA p k.val)) ∧ WuOk (List.getD p.prods k.val (@default P.Producer P.instInhabitedProducer)).id (bpA p k.val) ∧ (((0 : Nat) = (0 : Nat) ∧ (0 : Nat) = (0 : Nat)) ∧ (List.getD p.prods (Int.toNat (↑k.val : Int)) (@default P.Producer P.instInhabitedProducer)).seq = (List.getD p.prods k.val (@default P.Producer P.instInhabitedProducer)).seq ∧ True) ∧ (wmLe (bpA p k.val ++ uintB (List.getD p.prods k.val (@default P.Producer P.instInhabitedProducer)).id) (bpA p k.val ++ uintB (List.getD p.prods k.val (@default P.Producer P.instInhabitedProducer)).id)) ∧ WuOk (List.getD p.prods k.val (@default P.Producer P.instInhabitedProducer)).seq (bpA p k.val ++ uintB (List.getD p.prods k.val (@default P.Producer P.instInhabitedProducer)).id) ∧ (((0 : Nat) = (0 : Nat) ∧ (0 : Nat) = (0 : Nat)) ∧ (List.getD p.prods (Int.toNat (↑k.val : Int)) (@default P.Producer P.instInhabitedProducer)).here = (List.getD p.prods k.val (@default P.Producer P.instInhabitedProducer)).here ∧ True) ∧ (wmLe (bpA p k.val ++ uintB (List.getD p.prods k.val (@default P.Producer P.instInhabitedProducer)).id ++ uintB (List.getD p.prods k.val (@default P.Producer P.instInhabitedProducer)).seq) (bpA p k.val ++ uintB (List.getD p.prods k.val (@default P.Producer P.instInhabitedProducer)).id ++ uintB (List.getD p.prods k.val (@default P.Producer P.instInhabitedProducer)).seq)) ∧ WbOk (bpA p k.val ++ uintB (List.getD p.prods k.val (@default P.Producer P.instInhabitedProducer)).id ++ uintB (List.getD p.prods k.val (@default P.Producer P.instInhabitedProducer)).seq) ∧ (((0 : Nat) = (0 : Nat) ∧ (0 : Nat) = (0 : Nat)) ∧ (List.getD p.prods (Int.toNat (↑k.val : Int)) (@default P.Producer P.instInhabitedProducer)).offset = (List.getD p.prods k.val (@default P.Producer P.instInhabitedProducer)).offset ∧ True) ∧ (wmLe (bpA p k.val ++ uintB (List.getD p.prods k.val (@default P.Producer P.instInhabitedProducer)).id ++ uintB (List.getD p.prods k.val (@default P.Producer P.instInhabitedProducer)).seq ++ [if (List.getD p.prods k.val (@default P.Producer P.instInhabitedProducer)).here = true then (1 : Int) else (0 : Int)]) (bpA p k.val ++ uintB (List.getD p.prods k.val (@default P.Producer P.instInhabitedProducer)).id ++ uintB (List.getD p.prods k.val (@default P.Producer P.instInhabitedProducer)).seq ++ [if (List.getD p.prods k.val (@default P.Producer P.instInhabitedProducer)).here = true then (1 : Int) else (0 : Int)])) ∧ WuOk (List.getD p.prods k.val (@default P.Producer P.instInhabitedProducer)).offset (bpA p k.val ++ uintB (List.getD p.prods k.val (@default P.Producer P.instInhabitedProducer)).id ++ uintB (List.getD p.prods k.val (@default P.Producer P.instInhabitedProducer)).seq ++ [if (List.getD p.prods k.val (@default P.Producer P.instInhabitedProducer)).here = true then (1 : Int) else (0 : Int)]) ∧ ∃ (j : Up (List.length p.prods)), List.length p.prods - j.val < List.length p.prods - k.val ∧ ((((0 : Nat) = (0 : Nat) ∧ (0 : Nat) = (0 : Nat)) ∧ ((0 : Nat) = (0 : Nat) ∧ (0 : Nat) = (0 : Nat)) ∧ (b = b ∧ List.length p.prods = List.length p.prods ∧ contLe (List.length p.prods) (4 : Nat) (cellsOf' P.encP p.prods) (cellsOf' P.encP p.prods)) ∧ (↑(List.length p.prods) : Int) = (↑(List.length p.prods) : Int) ∧ IntKind.wrap IntKind.i64 ((↑k.val : Int) + (1 : Int)) = (↑j.val : Int) ∧ True) ∧ ((ptLe b b p p) ∧ (List.length (bpA p k.val ++ uintB (List.getD p.prods k.val (@default P.Producer P.instInhabitedProducer)).id ++ uintB (List.getD p.prods k.val (@default P.Producer P.instInhabitedProducer)).seq ++ [if (List.getD p.prods k.val (@default P.Producer P.instInhabitedProducer)).here = true then (1 : Int) else (0 : Int)] ++ uintB (List.getD p.prods k.val (@default P.Producer P.instInhabitedProducer)).offset) = List.length (bpA p j.val) ∧ contLe (List.length (bpA p k.val ++ uintB (List.getD p.prods k.val (@default P.Producer P.instInhabitedProducer)).id ++ uintB (List.getD p.prods k.val (@default P.Producer P.instInhabitedProducer)).seq ++ [if (List.getD p.prods k.val (@default P.Producer P.instInhabitedProducer)).here = true then (1 : Int) else (0 : Int)] ++ uintB (List.getD p.prods k.val (@default P.Producer P.instInhabitedProducer)).offset)) (1 : Nat) (cellsOf' encB (bpA p k.val ++ uintB (List.getD p.prods k.val (@default P.Producer P.instInhabitedProducer)).id ++ uintB (List.getD p.prods k.val (@default P.Producer P.instInhabitedProducer)).seq ++ [if (List.getD p.prods k.val (@default P.Producer P.instInhabitedProducer)).here = true then (1 : Int) else (0 : Int)] ++ uintB (List.getD p.prods k.val (@default P.Producer P.instInhabitedProducer)).offset)) (cellsOf' encB (bpA p j.val))) ∧ (((0 : Nat) = (0 : Nat) ∧ List.length (bpA p k.val ++ uintB (List.getD p.prods k.val (@default P.Producer P.instInhabitedProducer)).id ++ uintB (List.getD p.prods k.val (@default P.Producer P.instInhabitedProducer)).seq ++ [if (List.getD p.prods k.val (@default P.Producer P.instInhabitedProducer)).here = true then (1 : Int) else (0 : Int)] ++ uintB (List.getD p.prods k.val (@default P.Producer P.instInhabitedProducer)).offset) = List.length (bpA p j.val)) ∧ True) ∧ True) ∧ true = true) ∧ true = true ∧ () = ()) ∧ (decide ((↑k.val : Int) < (↑(List.length p.prods) : Int)) = false → (((0 : Nat) = (0 : Nat) ∧ (0 : Nat) = (0 : Nat)) ∧ ((0 : Nat) = (0 : Nat) ∧ (0 : Nat) = (0 : Nat)) ∧ (b = b ∧ List.length p.prods = List.length p.prods ∧ contLe (List.length p.prods) (4 : Nat) (cellsOf' P.encP p.prods) (cellsOf' P.encP p.prods)) ∧ (↑(List.length p.prods) : Int) = (↑(List.length p.prods) : Int) ∧ (↑k.val : Int) = (↑(List.length p.prods) : Int) ∧ True) ∧ ((ptLe b b p p) ∧ (List.length (bpA p k.val) = List.length (bpA p (List.length p.prods)) ∧ contLe (List.length (bpA p k.val)) (1 : Nat) (cellsOf' encB (bpA p k.val)) (cellsOf' encB (bpA p (List.length p.prods)))) ∧ (((0 : Nat) = (0 : Nat) ∧ List.length (bpA p k.val) = List.length (bpA p (List.length p.prods))) ∧ True) ∧ True) ∧ true = true)
theorem vcBp_eq (b : Bool) (p : Part) (k : Up p.prods.length) : (loopVC Tryz.prog (bpH p k.1) 28 8 (fun k : Up p.prods.length => p.prods.length - k.1) (fun k => bpT b p k.1) (fun k => wMp b p (bpA p k.1)) [1, 3, 4] (fun _ => .ret ()) (bpS b p) k) = vcBp b p k := by kernel_rfl
noncomputable def bcH (p : Part) (k : Nat) : HintsT Tryz.prog := suW (hh _ noLp ((cs1 28 19 3 (wsC ((p.cons.getD k default).name) (bcA p k)) (cs1 28 20 3 (wuC ((p.cons.getD k default).off) (bcA p k ++ textB (strB ((p.cons.getD k default).name)))) noCs))) noOp)
def vcBc (b : Bool) (p : Part) (k : Up p.cons.length) : Prop :=
  (decide ((↑k.val : Int) < (↑(List.length p.cons) : Int)) = true → (true && decide ((↑k.val : Int) < (↑(List.length p.cons) : Int))) = true ∧ (((0 : Nat) = (0 : Nat) ∧ (0 : Nat) = (0 : Nat)) ∧ (List.getD p.cons (Int.toNat (↑k.val : Int)) (@default Con instInhabitedCon)).name = (List.getD p.cons k.val (@default Con instInhabitedCon)).name ∧ True) ∧ (wmLe (bcA p k.val) (bcA p k.val)) ∧ WsOk (List.getD p.cons k.val (@default Con instInhabitedCon)).name (bcA p k.val) ∧ (((0 : Nat) = (0 : Nat) ∧ (0 : Nat) = (0 : Nat)) ∧ (List.getD p.cons (Int.toNat (↑k.val : Int)) (@default Con instInhabitedCon)).off = (List.getD p.cons k.val (@default Con instInhabitedCon)).off ∧ True) ∧ (wmLe (bcA p k.val ++ textB (strB (List.getD p.cons k.val (@default Con instInhabitedCon)).name)) (bcA p k.val ++ textB (strB (List.getD p.cons k.val (@default Con instInhabitedCon)).name))) ∧ WuOk (List.getD p.cons k.val (@default Con instInhabitedCon)).off (bcA p k.val ++ textB (strB (List.getD p.cons k.val (@default Con instInhabitedCon)).name)) ∧ ∃ (j : Up (List.length p.cons)), List.length p.cons - j.val < List.length p.cons - k.val ∧ ((((0 : Nat) = (0 : Nat) ∧ (0 : Nat) = (0 : Nat)) ∧ ((0 : Nat) = (0 : Nat) ∧ (0 : Nat) = (0 : Nat)) ∧ (b = b ∧ List.length p.cons = List.length p.cons ∧ contLe (List.length p.cons) (2 : Nat) (cellsOf' encC p.cons) (cellsOf' encC p.cons)) ∧ (↑(List.length p.cons) : Int) = (↑(List.length p.cons) : Int) ∧ IntKind.wrap IntKind.i64 ((↑k.val : Int) + (1 : Int)) = (↑j.val : Int) ∧ True) ∧ ((ptLe b b p p) ∧ (List.length (bcA p k.val ++ textB (strB (List.getD p.cons k.val (@default Con instInhabitedCon)).name) ++ uintB (List.getD p.cons k.val (@default Con instInhabitedCon)).off) = List.length (bcA p j.val) ∧ contLe (List.length (bcA p k.val ++ textB (strB (List.getD p.cons k.val (@default Con instInhabitedCon)).name) ++ uintB (List.getD p.cons k.val (@default Con instInhabitedCon)).off)) (1 : Nat) (cellsOf' encB (bcA p k.val ++ textB (strB (List.getD p.cons k.val (@default Con instInhabitedCon)).name) ++ uintB (List.getD p.cons k.val (@default Con instInhabitedCon)).off)) (cellsOf' encB (bcA p j.val))) ∧ (((0 : Nat) = (0 : Nat) ∧ List.length (bcA p k.val ++ textB (strB (List.getD p.cons k.val (@default Con instInhabitedCon)).name) ++ uintB (List.getD p.cons k.val (@default Con instInhabitedCon)).off) = List.length (bcA p j.val)) ∧ True) ∧ True) ∧ true = true) ∧ true = true ∧ () = ()) ∧ (decide ((↑k.val : Int) < (↑(List.length p.cons) : Int)) = false → (((0 : Nat) = (0 : Nat) ∧ (0 : Nat) = (0 : Nat)) ∧ ((0 : Nat) = (0 : Nat) ∧ (0 : Nat) = (0 : Nat)) ∧ (b = b ∧ List.length p.cons = List.length p.cons ∧ contLe (List.length p.cons) (2 : Nat) (cellsOf' encC p.cons) (cellsOf' encC p.cons)) ∧ (↑(List.length p.cons) : Int) = (↑(List.length p.cons) : Int) ∧ (↑k.val : Int) = (↑(List.length p.cons) : Int) ∧ True) ∧ ((ptLe b b p p) ∧ (List.length (bcA p k.val) = List.length (bcA p (List.length p.cons)) ∧ contLe (List.length (bcA p k.val)) (1 : Nat) (cellsOf' encB (bcA p k.val)) (cellsOf' encB (bcA p (List.length p.cons)))) ∧ (((0 : Nat) = (0 : Nat) ∧ List.length (bcA p k.val) = List.length (bcA p (List.length p.cons))) ∧ True) ∧ True) ∧ true = true)
theorem vcBc_eq (b : Bool) (p : Part) (k : Up p.cons.length) : (loopVC Tryz.prog (bcH p k.1) 28 17 (fun k : Up p.cons.length => p.cons.length - k.1) (fun k => bcT b p k.1) (fun k => wMp b p (bcA p k.1)) [1, 3, 4] (fun _ => .ret ()) (bcS b p) k) = vcBc b p k := by kernel_rfl
noncomputable def byH (b : Bool) (p : Part) : HintsT Tryz.prog := suW (withSh (hh _ (lp1 28 8 (jobOf (fun k : Up p.prods.length => bpT b p k.1) (fun k => wMp b p (bpA p k.1)) [1, 3, 4] (fun _ => .ret ()) (bpS b p) ⟨0, Nat.zero_le _⟩) (lp1 28 17 (jobOf (fun k : Up p.cons.length => bcT b p k.1) (fun k => wMp b p (bcA p k.1)) [1, 3, 4] (fun _ => .ret ()) (bcS b p) ⟨0, Nat.zero_le _⟩) noLp)) ((cs1 28 2 3 (wgC (p.rng) ([])) (cs1 28 3 3 (wuC (p.epoch) ([] ++ rngB (p.rng))) (cs1 28 4 3 (wuC (p.frozen) ([] ++ rngB (p.rng) ++ uintB (p.epoch))) (cs1 28 5 3 (wlC b (p.recs) ([] ++ rngB (p.rng) ++ uintB (p.epoch) ++ uintB (p.frozen))) (cs1 28 6 5 (wuC ((p.prods.length : Int)) ([] ++ rngB (p.rng) ++ uintB (p.epoch) ++ uintB (p.frozen) ++ listB (p.recs))) (cs1 28 15 5 (wuC ((p.cons.length : Int)) (bpA p p.prods.length)) (cs1 28 22 1 (dnC (bcA p p.cons.length)) noCs)))))))) noOp) (sh1 28 1 0 1001 noSh))
def vcBy (b : Bool) (p : Part) : Prop :=
  (((0 : Nat) = (0 : Nat) ∧ (0 : Nat) = (0 : Nat)) ∧ (p.rng.lo = p.rng.lo ∧ p.rng.hi = p.rng.hi ∧ True) ∧ True) ∧ (((0 : Nat) = (0 : Nat) ∧ contLe (0 : Nat) (1 : Nat) (fun (x x_1 : Nat) => AV.junk) (cellsOf' encB [])) ∧ (((0 : Nat) = (0 : Nat) ∧ (0 : Nat) = (0 : Nat)) ∧ True) ∧ True) ∧ Lim (List.length ([] ++ rngB p.rng)) ∧ (((0 : Nat) = (0 : Nat) ∧ (0 : Nat) = (0 : Nat)) ∧ p.epoch = p.epoch ∧ True) ∧ (wmLe ([] ++ rngB p.rng) ([] ++ rngB p.rng)) ∧ WuOk p.epoch ([] ++ rngB p.rng) ∧ (((0 : Nat) = (0 : Nat) ∧ (0 : Nat) = (0 : Nat)) ∧ p.frozen = p.frozen ∧ True) ∧ (wmLe ([] ++ rngB p.rng ++ uintB p.epoch) ([] ++ rngB p.rng ++ uintB p.epoch)) ∧ WuOk p.frozen ([] ++ rngB p.rng ++ uintB p.epoch) ∧ (((0 : Nat) = (0 : Nat) ∧ (0 : Nat) = (0 : Nat)) ∧ (b = b ∧ List.length p.recs = List.length p.recs ∧ contLe (List.length p.recs) (5 : Nat) (cellsOf' encR p.recs) (cellsOf' encR p.recs)) ∧ True) ∧ (wmLe ([] ++ rngB p.rng ++ uintB p.epoch ++ uintB p.frozen) ([] ++ rngB p.rng ++ uintB p.epoch ++ uintB p.frozen)) ∧ WlOk p.recs ([] ++ rngB p.rng ++ uintB p.epoch ++ uintB p.frozen) ∧ (((0 : Nat) = (0 : Nat) ∧ (0 : Nat) = (0 : Nat)) ∧ IntKind.wrap IntKind.u64 (↑(List.length p.prods) : Int) = (↑(List.length p.prods) : Int) ∧ True) ∧ (wmLe ([] ++ rngB p.rng ++ uintB p.epoch ++ uintB p.frozen ++ listB p.recs) ([] ++ rngB p.rng ++ uintB p.epoch ++ uintB p.frozen ++ listB p.recs)) ∧ WuOk (↑(List.length p.prods) : Int) ([] ++ rngB p.rng ++ uintB p.epoch ++ uintB p.frozen ++ listB p.recs) ∧ ((((0 : Nat) = (0 : Nat) ∧ (0 : Nat) = (0 : Nat)) ∧ ((0 : Nat) = (0 : Nat) ∧ (0 : Nat) = (0 : Nat)) ∧ (b = b ∧ List.length p.prods = List.length p.prods ∧ contLe (List.length p.prods) (4 : Nat) (cellsOf' P.encP p.prods) (cellsOf' P.encP p.prods)) ∧ (↑(List.length p.prods) : Int) = (↑(List.length p.prods) : Int) ∧ (0 : Int) = (0 : Int) ∧ True) ∧ ((ptLe b b p p) ∧ (List.length ([] ++ rngB p.rng ++ uintB p.epoch ++ uintB p.frozen ++ listB p.recs ++ uintB (↑(List.length p.prods) : Int)) = List.length (bpA p (0 : Nat)) ∧ contLe (List.length ([] ++ rngB p.rng ++ uintB p.epoch ++ uintB p.frozen ++ listB p.recs ++ uintB (↑(List.length p.prods) : Int))) (1 : Nat) (cellsOf' encB ([] ++ rngB p.rng ++ uintB p.epoch ++ uintB p.frozen ++ listB p.recs ++ uintB (↑(List.length p.prods) : Int))) (cellsOf' encB (bpA p (0 : Nat)))) ∧ (((0 : Nat) = (0 : Nat) ∧ List.length ([] ++ rngB p.rng ++ uintB p.epoch ++ uintB p.frozen ++ listB p.recs ++ uintB (↑(List.length p.prods) : Int)) = List.length (bpA p (0 : Nat))) ∧ True) ∧ True) ∧ true = true) ∧ LoopOk Tryz.prog (28 : Nat) (8 : Nat) (loopAt Tryz.prog (28 : Nat) (8 : Nat)) { t := bpT b p (⟨(0 : Nat), byH._proof_1 p⟩ : { k : Nat // k ≤ List.length p.prods }).val, m := wMp b p (bpA p (⟨(0 : Nat), byH._proof_1 p⟩ : { k : Nat // k ≤ List.length p.prods }).val), mv := [] : St } (T.map (lout [(1 : Nat), (3 : Nat), (4 : Nat)] (bpS b p)) ((fun (x : Up (List.length p.prods)) => T.ret ()) (⟨(0 : Nat), byH._proof_1 p⟩ : { k : Nat // k ≤ List.length p.prods }))) ∧ (((0 : Nat) = (0 : Nat) ∧ (0 : Nat) = (0 : Nat)) ∧ IntKind.wrap IntKind.u64 (↑(List.length p.cons) : Int) = (↑(List.length p.cons) : Int) ∧ True) ∧ (wmLe (bpA p (List.length p.prods)) (bpA p (List.length p.prods))) ∧ WuOk (↑(List.length p.cons) : Int) (bpA p (List.length p.prods)) ∧ ((((0 : Nat) = (0 : Nat) ∧ (0 : Nat) = (0 : Nat)) ∧ ((0 : Nat) = (0 : Nat) ∧ (0 : Nat) = (0 : Nat)) ∧ (b = b ∧ List.length p.cons = List.length p.cons ∧ contLe (List.length p.cons) (2 : Nat) (cellsOf' encC p.cons) (cellsOf' encC p.cons)) ∧ (↑(List.length p.cons) : Int) = (↑(List.length p.cons) : Int) ∧ (0 : Int) = (0 : Int) ∧ True) ∧ ((ptLe b b p p) ∧ (List.length (bpA p (List.length p.prods) ++ uintB (↑(List.length p.cons) : Int)) = List.length (bcA p (0 : Nat)) ∧ contLe (List.length (bpA p (List.length p.prods) ++ uintB (↑(List.length p.cons) : Int))) (1 : Nat) (cellsOf' encB (bpA p (List.length p.prods) ++ uintB (↑(List.length p.cons) : Int))) (cellsOf' encB (bcA p (0 : Nat)))) ∧ (((0 : Nat) = (0 : Nat) ∧ List.length (bpA p (List.length p.prods) ++ uintB (↑(List.length p.cons) : Int)) = List.length (bcA p (0 : Nat))) ∧ True) ∧ True) ∧ true = true) ∧ LoopOk Tryz.prog (28 : Nat) (17 : Nat) (loopAt Tryz.prog (28 : Nat) (17 : Nat)) { t := bcT b p (⟨(0 : Nat), byH._proof_2 p⟩ : { k : Nat // k ≤ List.length p.cons }).val, m := wMp b p (bcA p (⟨(0 : Nat), byH._proof_2 p⟩ : { k : Nat // k ≤ List.length p.cons }).val), mv := [] : St } (T.map (lout [(1 : Nat), (3 : Nat), (4 : Nat)] (bcS b p)) ((fun (x : Up (List.length p.cons)) => T.ret ()) (⟨(0 : Nat), byH._proof_2 p⟩ : { k : Nat // k ≤ List.length p.cons }))) ∧ (((0 : Nat) = (0 : Nat) ∧ (0 : Nat) = (0 : Nat)) ∧ True) ∧ (wmLe (bcA p (List.length p.cons)) (bcA p (List.length p.cons))) ∧ Lim (List.length (bcA p (List.length p.cons))) ∧ (bsLe (bcA p (List.length p.cons)) (bytesB p)) ∧ True
theorem vcBy_eq (b : Bool) (p : Part) : (ctrVC Tryz.prog (byH b p) 28 [.agg (encPt b p)] [] (.ret (encBs true (bytesB p), [], []))) = vcBy b p := by kernel_rfl
end Go.Proofs.YtnbhdjadlbhknaaGreatDoor.J

namespace Go.Proofs.YtnbhdjadlbhknaaGreatDoor.J
open Go.Ax
set_option maxRecDepth 1000000
structure ResU (x : R.Res) : Prop where
  err : I64 x.err
  off : U64 x.off
  u : ∀ k, k < x.recs.length → RecU (x.recs.getD k default)
  n : Lim (resB x).length
theorem boolB_len (b : Bool) : (boolB b).length = 1 := rfl
theorem tagBs (l : List Int) : ∀ k, k < l.length → ∀ j, j < 1 → tagT (cellsOf' encB l k j) = true := by
  intro k hk j hj
  obtain rfl : j = 0 := by omega
  rfl
theorem wx_c (x : R.Res) (h : ResU x) : (T.ret (encBs true (resB x), [], []) : T An).Sat (ACall' Tryz.prog 31 [.agg (R.encX x)] []) := by
  refine ctr_vc (ht := wxH x) Tryz.mixed rfl ?_
  rw [vcWx_eq x]
  unfold vcWx
  obtain ⟨h1, h2, h3, h4⟩ := h
  have hn := h4.h
  have a1 := intB_len x.err
  have a2 := uintB_len x.off
  have a3 := boolB_len x.old
  simp only [resB, List.length_append] at hn
  have b4 : WlOk x.recs (intB x.err ++ (uintB x.off ++ boolB x.old)) := ⟨h3, ⟨by simp only [List.length_append]; omega⟩⟩
  simp only [boolB] at b4
  simp [resB, boolB]
  repeat' with_reducible apply And.intro
  all_goals first | exact b4 | exact wuOk (by assumption) (by first | omega | (simp only [List.length_append, List.length_cons, List.length_nil]; omega)) | exact wiOk (by assumption) (by first | omega | (simp only [List.length_append, List.length_cons, List.length_nil]; omega)) | exact ⟨by first | omega | (simp only [List.length_append, List.length_cons, List.length_nil]; omega)⟩
noncomputable def wxC (x : R.Res) : Ctr Tryz.prog := ⟨31, [.agg (R.encX x)], [], .need (ResU x) (.ret (encBs true (resB x), [], [])), T.Sat.need fun h => wx_c x h⟩
structure ProdU (x : P.Producer) : Prop where
  id : U64 x.id
  seq : U64 x.seq
  offset : U64 x.offset
structure PtU (p : Part) : Prop where
  epoch : U64 p.epoch
  frozen : U64 p.frozen
  recs : ∀ k, k < p.recs.length → RecU (p.recs.getD k default)
  prods : ∀ k, k < p.prods.length → ProdU (p.prods.getD k default)
  cons : ∀ k, k < p.cons.length → U64 (p.cons.getD k default).off
  n : Lim (bytesB p).length
theorem flat_le' {α β : Type} (f : α → List β) (l : List α) (k : Nat) : ((l.take k).flatMap f).length ≤ (l.flatMap f).length := by
  have : l.flatMap f = (l.take k).flatMap f ++ (l.drop k).flatMap f := by rw [← List.flatMap_append, List.take_append_drop]
  rw [this, List.length_append]
  omega
theorem flat_ge' {α β : Type} (f : α → List β) (hf : ∀ x, 1 ≤ (f x).length) (l : List α) : l.length ≤ (l.flatMap f).length := by
  induction l with
  | nil => simp
  | cons a l ih =>
    have := hf a
    simp only [List.flatMap_cons, List.length_append, List.length_cons]
    omega
theorem uintB_pos (v : Int) : 1 ≤ (uintB v).length := by
  unfold uintB vint
  split <;> simp
theorem prodB_pos (x : P.Producer) : 1 ≤ (prodB x).length := by
  have := uintB_pos x.id
  unfold prodB
  simp only [List.length_append]
  omega
theorem conB_pos (x : Con) : 1 ≤ (conB x).length := by
  have := uintB_pos x.off
  unfold conB
  simp only [List.length_append]
  omega
theorem bpA_step {p : Part} {k : Nat} (h : k < p.prods.length) : bpA p (k + 1) = bpA p k ++ prodB (p.prods.getD k default) := by
  unfold bpA
  rw [take_flat prodB p.prods k h]
  simp only [List.append_assoc]
theorem bcA_step {p : Part} {k : Nat} (h : k < p.cons.length) : bcA p (k + 1) = bcA p k ++ conB (p.cons.getD k default) := by
  unfold bcA
  rw [take_flat conB p.cons k h]
  simp only [List.append_assoc]
theorem bpA_end (p : Part) : bpA p p.prods.length = hdB p ++ prodsB p.prods := by
  unfold bpA prodsB
  rw [List.take_length, List.append_assoc]
theorem bcA_end (p : Part) : bcA p p.cons.length = bytesB p := by
  unfold bcA bytesB consB
  rw [List.take_length]
  simp only [List.append_assoc]
theorem bpA_lim (p : Part) (k : Nat) : (bpA p k).length ≤ (bytesB p).length := by
  have := flat_le' prodB p.prods k
  unfold bpA bytesB prodsB
  simp only [List.length_append]
  omega
theorem bcA_lim (p : Part) (k : Nat) : (bcA p k).length ≤ (bytesB p).length := by
  have := flat_le' conB p.cons k
  unfold bcA bytesB consB
  simp only [List.length_append]
  omega
theorem by_lens (p : Part) (h : PtU p) : p.prods.length ≤ 140737488355327 ∧ p.cons.length ≤ 140737488355327 ∧ p.recs.length ≤ 140737488355327 := by
  have hn := h.n.h
  have h1 := flat_ge' prodB prodB_pos p.prods
  have h2 := flat_ge' conB conB_pos p.cons
  have h3 := flat_ge p.recs
  simp only [bytesB, hdB, listB, prodsB, consB, List.length_append] at hn
  omega
theorem bp_loop (b : Bool) (p : Part) (hu : PtU p) (k : Up p.prods.length) : LoopOk Tryz.prog 28 8 (loopAt Tryz.prog 28 8) ⟨bpT b p k.1, wMp b p (bpA p k.1), []⟩ (T.map (lout [1, 3, 4] (bpS b p)) (.ret ())) := by
  have hb := (by_lens p hu).1
  have hn := hu.n.h
  refine loop_vcH (P := Tryz.prog) (f := 28) (k := 8) (ι := Up p.prods.length) (μ := fun k => p.prods.length - k.1) (ht := fun k => bpH p k.1) (stT := fun k => bpT b p k.1) (stM := fun k => wMp b p (bpA p k.1)) (X := [1, 3, 4]) (o := fun _ => .ret ()) (S := bpS b p) Tryz.mixed (fun _ => rfl) (fun k => ?_) k
  rw [vcBp_eq b p k]
  unfold vcBp
  obtain ⟨k, hk⟩ := k
  by_cases h : k < p.prods.length
  · have hd : decide ((k : Int) < (p.prods.length : Int)) = true := by simp; omega
    have h1 : IntKind.wrap IntKind.i64 ((k : Int) + 1) = (k : Int) + 1 := wrap_i64 (by omega) (by omega)
    have e := bpA_step h
    have hl := bpA_lim p (k + 1)
    obtain ⟨u1, u2, u3⟩ := hu.prods k h
    rw [e] at hl
    have a1 := uintB_len (p.prods.getD k default).id
    have a2 := uintB_len (p.prods.getD k default).seq
    have a3 := uintB_len (p.prods.getD k default).offset
    have a4 := boolB_len (p.prods.getD k default).here
    simp only [prodB, List.length_append] at hl
    simp only [hd, h1]
    simp at e hl a1 a2 a3 a4 u1 u2 u3
    simp
    repeat' with_reducible apply And.intro
    all_goals first | exact wuOk (by assumption) (by first | omega | (simp only [List.length_append, List.length_cons, List.length_nil]; omega)) | exact ⟨by first | omega | (simp only [List.length_append, List.length_cons, List.length_nil]; omega)⟩ | skip
    refine ⟨k + 1, ?_⟩
    rw [e]
    simp [prodB, boolB]
    omega
  · obtain rfl : k = p.prods.length := by omega
    simp
theorem bc_loop (b : Bool) (p : Part) (hu : PtU p) (k : Up p.cons.length) : LoopOk Tryz.prog 28 17 (loopAt Tryz.prog 28 17) ⟨bcT b p k.1, wMp b p (bcA p k.1), []⟩ (T.map (lout [1, 3, 4] (bcS b p)) (.ret ())) := by
  have hb := (by_lens p hu).2.1
  have hn := hu.n.h
  refine loop_vcH (P := Tryz.prog) (f := 28) (k := 17) (ι := Up p.cons.length) (μ := fun k => p.cons.length - k.1) (ht := fun k => bcH p k.1) (stT := fun k => bcT b p k.1) (stM := fun k => wMp b p (bcA p k.1)) (X := [1, 3, 4]) (o := fun _ => .ret ()) (S := bcS b p) Tryz.mixed (fun _ => rfl) (fun k => ?_) k
  rw [vcBc_eq b p k]
  unfold vcBc
  obtain ⟨k, hk⟩ := k
  by_cases h : k < p.cons.length
  · have hd : decide ((k : Int) < (p.cons.length : Int)) = true := by simp; omega
    have h1 : IntKind.wrap IntKind.i64 ((k : Int) + 1) = (k : Int) + 1 := wrap_i64 (by omega) (by omega)
    have e := bcA_step h
    have hl := bcA_lim p (k + 1)
    have u1 := hu.cons k h
    rw [e] at hl
    have a1 := uintB_len (p.cons.getD k default).off
    have a2 := textS_len (p.cons.getD k default).name
    simp only [conB, List.length_append] at hl
    simp only [hd, h1]
    simp at e hl a1 a2 u1
    simp
    repeat' with_reducible apply And.intro
    all_goals first | exact wuOk (by assumption) (by first | omega | (simp only [List.length_append, List.length_cons, List.length_nil]; omega)) | exact ⟨by first | omega | (simp only [List.length_append, List.length_cons, List.length_nil]; omega)⟩ | skip
    refine ⟨k + 1, ?_⟩
    rw [e]
    simp [conB]
    omega
  · obtain rfl : k = p.cons.length := by omega
    simp
theorem by_c (b : Bool) (p : Part) (hu : PtU p) : (T.ret (encBs true (bytesB p), [], []) : T An).Sat (ACall' Tryz.prog 28 [.agg (encPt b p)] []) := by
  have hb := by_lens p hu
  have hn := hu.n.h
  have lp := bp_loop b p hu ⟨0, Nat.zero_le _⟩
  have lc := bc_loop b p hu ⟨0, Nat.zero_le _⟩
  refine ctr_vc (ht := byH b p) Tryz.mixed rfl ?_
  rw [vcBy_eq b p]
  unfold vcBy
  have e1 : IntKind.wrap IntKind.u64 (p.prods.length : Int) = p.prods.length := wrap_u64 (by omega) (by omega)
  have e2 : IntKind.wrap IntKind.u64 (p.cons.length : Int) = p.cons.length := wrap_u64 (by omega) (by omega)
  have e3 : bpA p 0 = hdB p ++ uintB (p.prods.length : Int) := by unfold bpA; simp
  have e4 : bcA p 0 = hdB p ++ prodsB p.prods ++ uintB (p.cons.length : Int) := by unfold bcA; simp
  obtain ⟨h1, h2, h3, h4, h5, h6⟩ := hu
  have a1 := uintB_len p.epoch
  have a2 := uintB_len p.frozen
  have a3 := uintB_len (p.prods.length : Int)
  have a4 := uintB_len (p.cons.length : Int)
  have u1 : U64 (p.prods.length : Int) := ⟨by omega, by omega⟩
  have u2 : U64 (p.cons.length : Int) := ⟨by omega, by omega⟩
  have hm := hn
  simp only [bytesB, hdB, prodsB, consB, List.length_append] at hm
  simp only [e1, e2, e3, e4, bpA_end, bcA_end] at lp lc ⊢
  simp only [hdB, bytesB, prodsB, consB, List.append_assoc, List.nil_append] at lp lc ⊢
  have b5 : WlOk p.recs (rngB p.rng ++ (uintB p.epoch ++ uintB p.frozen)) := ⟨h3, ⟨by simp only [List.length_append]; omega⟩⟩
  simp [-List.length_flatMap]
  repeat' with_reducible apply And.intro
  all_goals first | exact b5 | exact lp | exact lc | exact wuOk (by assumption) (by first | omega | (simp only [List.length_append, List.length_cons, List.length_nil]; omega)) | exact ⟨by first | omega | (simp only [List.length_append, List.length_cons, List.length_nil]; omega)⟩
noncomputable def byC (b : Bool) (p : Part) : Ctr Tryz.prog := ⟨28, [.agg (encPt b p)], [], .need (PtU p) (.ret (encBs true (bytesB p), [], [])), T.Sat.need fun h => by_c b p h⟩
end Go.Proofs.YtnbhdjadlbhknaaGreatDoor.J

namespace Go.Proofs.YtnbhdjadlbhknaaGreatDoor.J
open Go.Ax
set_option maxRecDepth 1000000
structure RS where
  at_ : Nat
  e : Int
  bad : Int
instance : Inhabited RS := ⟨⟨0, 0, 0⟩⟩
def RS.f (s : RS) : Bool := s.e != 0
def rerr (s : RS) : AV := .ip true 2 (get [.y (.int .i64 s.bad), .ifc 31 (.y (.int .i64 s.e))])
def rmLe (l : List Int) (s t : RS) : Prop := (true = true ∧ List.length l = List.length l ∧ contLe (List.length l) (1 : Nat) (cellsOf' encB l) (cellsOf' encB l)) ∧ (↑s.at_ : Int) = (↑t.at_ : Int) ∧ (RS.f s = RS.f t ∧ true = true ∧ (2 : Nat) ≤ (2 : Nat) ∧ cellLe (2 : Nat) (Ax.get [AV.y (Value.int IntKind.i64 s.bad), AV.ifc (31 : Nat) (AV.y (Value.int IntKind.i64 s.e))]) (Ax.get [AV.y (Value.int IntKind.i64 t.bad), AV.ifc (31 : Nat) (AV.y (Value.int IntKind.i64 t.e))])) ∧ True
@[simp] theorem rmLe_eq (l : List Int) (s t : RS) : rmLe l s t = ((true = true ∧ List.length l = List.length l ∧ contLe (List.length l) (1 : Nat) (cellsOf' encB l) (cellsOf' encB l)) ∧ (↑s.at_ : Int) = (↑t.at_ : Int) ∧ (RS.f s = RS.f t ∧ true = true ∧ (2 : Nat) ≤ (2 : Nat) ∧ cellLe (2 : Nat) (Ax.get [AV.y (Value.int IntKind.i64 s.bad), AV.ifc (31 : Nat) (AV.y (Value.int IntKind.i64 s.e))]) (Ax.get [AV.y (Value.int IntKind.i64 t.bad), AV.ifc (31 : Nat) (AV.y (Value.int IntKind.i64 t.e))])) ∧ True) := rfl
def rM (l : List Int) (s : RS) : List Blk := [.dead, .box 175 [encBs true l, .y (.int .i64 s.at_), .opt s.f 206 (rerr s)]]
def rP : AV := .ptr 1 0 0 0
def failS (s : RS) (e : Int) (p : Nat) : RS := if s.e != 0 then s else ⟨p, e, p⟩
noncomputable def suR : HintsT Tryz.prog → HintsT Tryz.prog := fun h => withSub h [129, 125, 126, 86, 83, 82, 84, 90, 88, 87, 89, 127, 85, 41, 113]
def rR (l : List Int) (s : RS) (mv : List Nat) : T An := .ret (.tup [], rM l s, mv)
noncomputable def rfH : HintsT Tryz.prog := suR (withSh (hT _) (sh1 129 1 6 779 noSh))
def vcRf (l : List Int) (s : RS) (e : Int) (p : Nat) : Prop :=
  ((!RS.f s) = true → ((e != (0 : Int)) = true → True ∧ ((bsLe l l) ∧ (↑p : Int) = (↑(failS s e p).at_ : Int) ∧ (RS.f (failS s e p) = true ∧ true = true ∧ (2 : Nat) ≤ (2 : Nat) ∧ cellLe (2 : Nat) (Ax.get [AV.y (Value.int IntKind.i64 (↑p : Int)), AV.ifc (31 : Nat) (AV.y (Value.int IntKind.i64 e))]) (Ax.get [AV.y (Value.int IntKind.i64 (failS s e p).bad), AV.ifc (31 : Nat) (AV.y (Value.int IntKind.i64 (failS s e p).e))])) ∧ True) ∧ True) ∧ ((e != (0 : Int)) = false → True ∧ (rmLe l s (failS s e p)) ∧ True)) ∧ ((!RS.f s) = false → True ∧ (rmLe l s (failS s e p)) ∧ True)
theorem vcRf_eq (l : List Int) (s : RS) (e : Int) (p : Nat) : (ctrVCg Tryz.prog rfH 129 [rP, .y (.int .i64 e), .y (.int .i64 p)] (rM l s) (rR l (failS s e p) [2])) = vcRf l s e p := by kernel_rfl
def rMg (l : List Int) (s : RS) : List Blk := [.dead, .box 175 [encBs true l, .y (.int .i64 s.at_), .s .nilIface]]
def rMf (l : List Int) (s : RS) : List Blk := [.dead, .box 175 [encBs true l, .y (.int .i64 s.at_), .ifc 206 (rerr s)]]
def erR (l : List Int) (s : RS) (mv : List Nat) : T An := .ret (.tup [.y (.int .i64 s.e), .y (.int .i64 s.bad)], rM l s, mv)
def vcErG (l : List Int) (s : RS) : Prop :=
  ((0 : Int) = s.e ∧ (0 : Int) = s.bad ∧ True) ∧ ((bsLe l l) ∧ (↑s.at_ : Int) = (↑s.at_ : Int) ∧ RS.f s = false ∧ True) ∧ True
theorem vcErG_eq (l : List Int) (s : RS) : (ctrVCg Tryz.prog (suR (hT _)) 126 [rP] (rMg l s) (erR l s [2])) = vcErG l s := by kernel_rfl
def vcErF (l : List Int) (s : RS) : Prop :=
  (s.e = s.e ∧ s.bad = s.bad ∧ True) ∧ ((bsLe l l) ∧ (↑s.at_ : Int) = (↑s.at_ : Int) ∧ (RS.f s = true ∧ true = true ∧ (2 : Nat) ≤ (2 : Nat) ∧ cellLe (2 : Nat) (Ax.get [AV.y (Value.int IntKind.i64 s.bad), AV.ifc (31 : Nat) (AV.y (Value.int IntKind.i64 s.e))]) (Ax.get [AV.y (Value.int IntKind.i64 s.bad), AV.ifc (31 : Nat) (AV.y (Value.int IntKind.i64 s.e))])) ∧ True) ∧ True
theorem vcErF_eq (l : List Int) (s : RS) : (ctrVCg Tryz.prog (suR (hT _)) 126 [rP] (rMf l s) (erR l s [2])) = vcErF l s := by kernel_rfl
def nrR (l : List Int) : T An := .ret (.ptr 0 0 0 0, [.box 175 [encBs true l, .y (.int .i64 0), .opt false 206 (rerr default)]], [])
noncomputable def nrH (b : Bool) (l : List Int) : HintsT Tryz.prog := withSh (hh _ noLp (cs1 81 1 1 (clnC b l.length (cellsOf' encB l)) noCs) noOp) (sh1 81 1 2 779 noSh)
def vcNr (b : Bool) (l : List Int) : Prop :=
  ((b = b ∧ List.length l = List.length l ∧ contLe (List.length l) (1 : Nat) (cellsOf' encB l) (cellsOf' encB l)) ∧ True) ∧ True ∧ List.length l ≤ (140737488355328 : Nat) ∧ (∀ (k : Nat), k < List.length l → ∀ (j : Nat), j < (1 : Nat) → tagT (cellsOf' encB l k j) = true) ∧ ((0 : Nat) = (0 : Nat) ∧ (0 : Nat) = (0 : Nat)) ∧ ((true = true ∧ List.length l = List.length l ∧ contLe (List.length l) (1 : Nat) (Ax.rowAt (0 : Nat) (cellsOf' encB l)) (cellsOf' encB l)) ∧ (0 : Int) = (0 : Int) ∧ false = false ∧ True) ∧ True
theorem vcNr_eq (b : Bool) (l : List Int) : (ctrVC Tryz.prog (nrH b l) 81 [encBs b l] [] (nrR l)) = vcNr b l := by kernel_rfl
end Go.Proofs.YtnbhdjadlbhknaaGreatDoor.J

namespace Go.Proofs.YtnbhdjadlbhknaaGreatDoor.J
open Go.Ax
set_option maxRecDepth 1000000
theorem rf_c (l : List Int) (s : RS) (e : Int) (p : Nat) (he : e ≠ 0) : (rR l (failS s e p) []).Sat (ACall' Tryz.prog 129 [rP, .y (.int .i64 e), .y (.int .i64 p)] (rM l s)) := by
  have h3 : (rR l (failS s e p) [2]).Sat (ACall' Tryz.prog 129 [rP, .y (.int .i64 e), .y (.int .i64 p)] (rM l s)) := by
    refine ctr_vcg (ht := rfH) Tryz.mixed rfl ?_
    rw [vcRf_eq l s e p]
    unfold vcRf
    cases hf : s.f
    · have h1 : failS s e p = ⟨p, e, p⟩ := by unfold failS; rw [show (s.e != 0) = false from hf]; rfl
      have h2 : (e != 0) = true := by simpa using he
      rw [h1]
      simp [h2, RS.f]
    · have h1 : failS s e p = s := by unfold failS; rw [show (s.e != 0) = true from hf]; rfl
      rw [h1]
      simp [hf]
  have h1 : ACall' Tryz.prog 129 [rP, .y (.int .i64 e), .y (.int .i64 p)] (rM l s) (.tup [], rM l (failS s e p), [2]) := of_retJ h3
  have h2 : ACall' Tryz.prog 129 [rP, .y (.int .i64 e), .y (.int .i64 p)] (rM l s) (.tup [], rM l (failS s e p), []) := acall_mv h1 fun i hi => by
    obtain rfl := List.mem_singleton.1 hi
    exact .inr rfl
  exact T.Sat.ret h2
noncomputable def rfC (l : List Int) (s : RS) (e : Int) (p : Nat) : Ctr Tryz.prog := ⟨129, [rP, .y (.int .i64 e), .y (.int .i64 p)], rM l s, .need (e ≠ 0) (rR l (failS s e p) []), T.Sat.need fun h => rf_c l s e p h⟩
structure RSOk (s : RS) : Prop where
  bad : s.e = 0 → s.bad = 0
theorem er_mv {f : FuncId} {args : List AV} {M : List Blk} {l : List Int} {s : RS} (hM : getM M 2 = .dead) (h : (erR l s [2]).Sat (ACall' Tryz.prog f args M)) : (erR l s []).Sat (ACall' Tryz.prog f args M) := by
  have h1 : ACall' Tryz.prog f args M (.tup [.y (.int .i64 s.e), .y (.int .i64 s.bad)], rM l s, [2]) := of_retJ h
  have h2 : ACall' Tryz.prog f args M (.tup [.y (.int .i64 s.e), .y (.int .i64 s.bad)], rM l s, []) := acall_mv h1 fun i hi => by
    obtain rfl := List.mem_singleton.1 hi
    exact .inr hM
  exact T.Sat.ret h2
theorem er_g (l : List Int) (s : RS) (he : s.e = 0) (hb : s.bad = 0) : (erR l s []).Sat (ACall' Tryz.prog 126 [rP] (rMg l s)) := by
  refine er_mv rfl (ctr_vcg (ht := suR (hT _)) Tryz.mixed rfl ?_)
  rw [vcErG_eq l s]
  unfold vcErG
  simp [he, hb, RS.f]
theorem er_f (l : List Int) (s : RS) (he : s.f = true) : (erR l s []).Sat (ACall' Tryz.prog 126 [rP] (rMf l s)) := by
  refine er_mv rfl (ctr_vcg (ht := suR (hT _)) Tryz.mixed rfl ?_)
  rw [vcErF_eq l s]
  unfold vcErF
  simp [he]
noncomputable def erGC (l : List Int) (s : RS) (he : s.e = 0) (hb : s.bad = 0) : Ctr Tryz.prog := ⟨126, [rP], rMg l s, erR l s [], er_g l s he hb⟩
noncomputable def erFC (l : List Int) (s : RS) (he : s.f = true) : Ctr Tryz.prog := ⟨126, [rP], rMf l s, erR l s [], er_f l s he⟩
def vcUG (l : List Int) (s : RS) (he : s.e = 0) (hb : s.bad = 0) : Prop :=
  (((0 : Nat) = (0 : Nat) ∧ (0 : Nat) = (0 : Nat)) ∧ True) ∧ (((bsLe l l) ∧ (↑s.at_ : Int) = (↑s.at_ : Int) ∧ RS.f s = false ∧ True) ∧ True) ∧ (s.e = s.e ∧ s.bad = s.bad ∧ True) ∧ (rmLe l s s) ∧ True
theorem vcUG_eq (l : List Int) (s : RS) (he : s.e = 0) (hb : s.bad = 0) : ((useCtr (erGC l s he hb) 126 [rP] (rM l s)).post fun a => (erR l s []).post fun b => anLe a b) = vcUG l s he hb := by kernel_rfl
def vcUF (l : List Int) (s : RS) (he : s.f = true) : Prop :=
  (((0 : Nat) = (0 : Nat) ∧ (0 : Nat) = (0 : Nat)) ∧ True) ∧ (((bsLe l l) ∧ (↑s.at_ : Int) = (↑s.at_ : Int) ∧ (RS.f s = true ∧ true = true ∧ (2 : Nat) ≤ (2 : Nat) ∧ cellLe (2 : Nat) (Ax.get [AV.y (Value.int IntKind.i64 s.bad), AV.ifc (31 : Nat) (AV.y (Value.int IntKind.i64 s.e))]) (Ax.get [AV.y (Value.int IntKind.i64 s.bad), AV.ifc (31 : Nat) (AV.y (Value.int IntKind.i64 s.e))])) ∧ True) ∧ True) ∧ (s.e = s.e ∧ s.bad = s.bad ∧ True) ∧ (rmLe l s s) ∧ True
theorem vcUF_eq (l : List Int) (s : RS) (he : s.f = true) : ((useCtr (erFC l s he) 126 [rP] (rM l s)).post fun a => (erR l s []).post fun b => anLe a b) = vcUF l s he := by kernel_rfl
theorem er_c (l : List Int) (s : RS) (h : RSOk s) : (erR l s []).Sat (ACall' Tryz.prog 126 [rP] (rM l s)) := by
  cases hf : s.f
  · have he : s.e = 0 := by simpa [RS.f] using hf
    refine (useCtr_ok (erGC l s he (h.bad he))).of_post rfl (fun _ _ => anLe_ok) ?_
    rw [vcUG_eq l s he (h.bad he)]
    unfold vcUG
    simp [hf]
  · refine (useCtr_ok (erFC l s hf)).of_post rfl (fun _ _ => anLe_ok) ?_
    rw [vcUF_eq l s hf]
    unfold vcUF
    simp [hf]
noncomputable def erC (l : List Int) (s : RS) : Ctr Tryz.prog := ⟨126, [rP], rM l s, .need (RSOk s) (erR l s []), T.Sat.need fun h => er_c l s h⟩
structure LOk (l : List Int) : Prop where
  n : l.length ≤ 140737488355328
theorem nr_c (b : Bool) (l : List Int) (h : LOk l) : (nrR l).Sat (ACall' Tryz.prog 81 [encBs b l] []) := by
  refine ctr_vc (ht := nrH b l) Tryz.mixed rfl ?_
  rw [vcNr_eq b l]
  unfold vcNr
  have hr : contLe l.length 1 (Ax.rowAt 0 (cellsOf' encB l)) (cellsOf' encB l) := fun k hk j hj => le0_refl _
  have ht := tagBs l
  have hn := h.n
  simp [hr]
  exact ⟨hn, fun k hk => ht k hk 0 (by decide)⟩
noncomputable def nrC (b : Bool) (l : List Int) : Ctr Tryz.prog := ⟨81, [encBs b l], [], .need (LOk l) (nrR l), T.Sat.need fun h => nr_c b l h⟩
structure Bytes (l : List Int) : Prop where
  b : ∀ x ∈ l, 0 ≤ x ∧ x < 256
def uGo : List Int → Nat → Int → Int × Int × Nat
  | [], _, _ => (11, 0, 0)
  | c :: r, i, v => if i = 9 ∧ c ≠ 1 then (12, 0, 0) else if 128 ≤ c then uGo r (i + 1) (v + (c % 128) * 2 ^ (7 * i)) else if c = 0 ∧ 0 < i then (12, 0, 0) else (0, v + (c % 128) * 2 ^ (7 * i), i + 1)
def uRes (l : List Int) (s : RS) : Int × Int × Nat := uGo (l.drop s.at_) 0 0
def uintS (l : List Int) (s : RS) : Int × RS := if s.e != 0 then (0, s) else if (uRes l s).1 = 0 then ((uRes l s).2.1, ⟨s.at_ + (uRes l s).2.2, s.e, s.bad⟩) else (0, failS s (uRes l s).1 s.at_)
structure ROk (l : List Int) (s : RS) : Prop where
  n : l.length ≤ 140737488355328
  at_ : s.at_ ≤ l.length
  b : Bytes l
  bad : s.e = 0 → s.bad = 0
noncomputable def rFH (l : List Int) (s : RS) (e : Int) : HintsT Tryz.prog := suR (hh _ noLp (cs1 125 0 6 (rfC l s e s.at_) noCs) noOp)
end Go.Proofs.YtnbhdjadlbhknaaGreatDoor.J
