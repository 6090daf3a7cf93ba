/- PROVED: RecordsLogs, as the card states it: what is a log, what is appended and fetched is the document's, whatever the owner of an answer writes over it; no condition. -/
import Derived.Test.YtjmdejbijigfjaaDoorRows
import Derived.Test.YtjmdejbijigfjaaDoorTie
import Derived.Test.YtjmdejbijigfjaaDoorCards
import Derived.OpenShut
import Derived.Lay
import Derived.Handed
import Derived.SevenTiedAt
import Derived.Test.YtjmdejbijigfjaaDoorE13
import Derived.Test.YtjmdejbijigfjaaDoorW1
set_option linter.unusedVariables false
set_option linter.unusedSimpArgs false
set_option linter.unusedSectionVars false
namespace Go.Proofs.YtjmdejbijigfjaaDoor.H
open Go.Ax Go.Proofs.YtjmdejbijigfjaaDoor
set_option maxRecDepth 1000000
def encF (x : Rec) : List AV := [.y (.int .u64 x.off), .y (.string x.key), encBs false x.val, .y (.int .u64 x.prod), .y (.int .u64 x.seq)]
def encFs (b : Bool) (l : List Rec) : AV := .ys b 5 l.length (cellsOf' encF l)
def sfT (b1 b2 : Bool) (a : List Rec) (k : Nat) : List AV := mkT 82 [(0, encFs b1 a), (1, encRs b2 a), (5, .y (.int .i64 k))]
def sfS (_ : Unit) : Exit × List AV × List Blk := (.exit 0, mkT 82 [], [])
def vcSfL (b1 : Bool) (b2 : Bool) (a : List Rec) (k : Nat) : Prop :=
  (decide ((↑k : Int) < (↑(List.length a) : Int)) = true → (true && decide ((↑k : Int) < (↑(List.length a) : Int))) = true ∧ (true && decide ((↑k : Int) < (↑(List.length a) : Int))) = true ∧ (((List.getD a (Int.toNat (↑k : Int)) (@default Rec instInhabitedRec)).off != (List.getD a (Int.toNat (↑k : Int)) (@default Rec instInhabitedRec)).off) = true → False) ∧ (((List.getD a (Int.toNat (↑k : Int)) (@default Rec instInhabitedRec)).off != (List.getD a (Int.toNat (↑k : Int)) (@default Rec instInhabitedRec)).off) = false → (true && decide ((↑k : Int) < (↑(List.length a) : Int))) = true ∧ (true && decide ((↑k : Int) < (↑(List.length a) : Int))) = true ∧ ((!(List.getD a (Int.toNat (↑k : Int)) (@default Rec instInhabitedRec)).key.data.toList == (List.getD a (Int.toNat (↑k : Int)) (@default Rec instInhabitedRec)).key.data.toList) = true → False) ∧ ((!(List.getD a (Int.toNat (↑k : Int)) (@default Rec instInhabitedRec)).key.data.toList == (List.getD a (Int.toNat (↑k : Int)) (@default Rec instInhabitedRec)).key.data.toList) = false → (true && decide ((↑k : Int) < (↑(List.length a) : Int))) = true ∧ (∀ (k_1 : Nat), k_1 < List.length (List.getD a (Int.toNat (↑k : Int)) (@default Rec instInhabitedRec)).val → true = true) ∧ (true && decide ((↑k : Int) < (↑(List.length a) : Int))) = true ∧ (∀ (k_1 : Nat), k_1 < List.length (List.getD a (Int.toNat (↑k : Int)) (@default Rec instInhabitedRec)).val → true = true) ∧ ((!List.map (fun (a : AV) => match match a with | AV.s (Value.int IntKind.u8 n) => some n | AV.y (Value.int IntKind.u8 n) => some n | x => none with | some n => UInt8.ofNat (Int.toNat n) | none => (0 : UInt8)) (List.map (fun (k_1 : Nat) => AV.y (Value.int IntKind.u8 (List.getD (List.getD a (Int.toNat (↑k : Int)) (@default Rec instInhabitedRec)).val k_1 (0 : Int)))) (List.range (List.length (List.getD a (Int.toNat (↑k : Int)) (@default Rec instInhabitedRec)).val))) == List.map (fun (a : AV) => match match a with | AV.s (Value.int IntKind.u8 n) => some n | AV.y (Value.int IntKind.u8 n) => some n | x => none with | some n => UInt8.ofNat (Int.toNat n) | none => (0 : UInt8)) (List.map (fun (k_1 : Nat) => AV.y (Value.int IntKind.u8 (List.getD (List.getD a (Int.toNat (↑k : Int)) (@default Rec instInhabitedRec)).val k_1 (0 : Int)))) (List.range (List.length (List.getD a (Int.toNat (↑k : Int)) (@default Rec instInhabitedRec)).val)))) = true → False) ∧ ((!List.map (fun (a : AV) => match match a with | AV.s (Value.int IntKind.u8 n) => some n | AV.y (Value.int IntKind.u8 n) => some n | x => none with | some n => UInt8.ofNat (Int.toNat n) | none => (0 : UInt8)) (List.map (fun (k_1 : Nat) => AV.y (Value.int IntKind.u8 (List.getD (List.getD a (Int.toNat (↑k : Int)) (@default Rec instInhabitedRec)).val k_1 (0 : Int)))) (List.range (List.length (List.getD a (Int.toNat (↑k : Int)) (@default Rec instInhabitedRec)).val))) == List.map (fun (a : AV) => match match a with | AV.s (Value.int IntKind.u8 n) => some n | AV.y (Value.int IntKind.u8 n) => some n | x => none with | some n => UInt8.ofNat (Int.toNat n) | none => (0 : UInt8)) (List.map (fun (k_1 : Nat) => AV.y (Value.int IntKind.u8 (List.getD (List.getD a (Int.toNat (↑k : Int)) (@default Rec instInhabitedRec)).val k_1 (0 : Int)))) (List.range (List.length (List.getD a (Int.toNat (↑k : Int)) (@default Rec instInhabitedRec)).val)))) = false → (true && decide ((↑k : Int) < (↑(List.length a) : Int))) = true ∧ (true && decide ((↑k : Int) < (↑(List.length a) : Int))) = true ∧ (((List.getD a (Int.toNat (↑k : Int)) (@default Rec instInhabitedRec)).prod != (List.getD a (Int.toNat (↑k : Int)) (@default Rec instInhabitedRec)).prod) = true → False) ∧ (((List.getD a (Int.toNat (↑k : Int)) (@default Rec instInhabitedRec)).prod != (List.getD a (Int.toNat (↑k : Int)) (@default Rec instInhabitedRec)).prod) = false → (true && decide ((↑k : Int) < (↑(List.length a) : Int))) = true ∧ (true && decide ((↑k : Int) < (↑(List.length a) : Int))) = true ∧ (((List.getD a (Int.toNat (↑k : Int)) (@default Rec instInhabitedRec)).seq != (List.getD a (Int.toNat (↑k : Int)) (@default Rec instInhabitedRec)).seq) = true → False) ∧ (((List.getD a (Int.toNat (↑k : Int)) (@default Rec instInhabitedRec)).seq != (List.getD a (Int.toNat (↑k : Int)) (@default Rec instInhabitedRec)).seq) = false → ∃ (j : Nat), List.length a - j < List.length a - k ∧ (((b1 = b1 ∧ List.length a = List.length a ∧ contLe (List.length a) (5 : Nat) (cellsOf' encF a) (cellsOf' encF a)) ∧ (b2 = b2 ∧ List.length a = List.length a ∧ contLe (List.length a) (5 : Nat) (cellsOf' encR a) (cellsOf' encR a)) ∧ IntKind.wrap IntKind.i64 ((↑k : Int) + (1 : Int)) = (↑j : Int) ∧ True) ∧ True ∧ true = true) ∧ true = true ∧ () = ())))))) ∧ (decide ((↑k : Int) < (↑(List.length a) : Int)) = false → True ∧ True ∧ true = true)
theorem vcSfL_eq (b1 : Bool) (b2 : Bool) (a : List Rec) (k : Nat) : (loopVC Tryd.prog (hT _) 16 4 (fun k => a.length - k) (sfT b1 b2 a) (fun _ => []) [0] (fun _ => .ret ()) sfS k) = vcSfL b1 b2 a k := by kernel_rfl
noncomputable def sfH (b1 b2 : Bool) (a : List Rec) : HintsT Tryd.prog := hh _ (lp1 16 4 (jobOf (sfT b1 b2 a) (fun _ => []) [0] (fun _ => .ret ()) sfS 0) noLp) noCs noOp
def vcSf (b1 : Bool) (b2 : Bool) (a : List Rec) : Prop :=
  (((↑(List.length a) : Int) != (↑(List.length a) : Int)) = true → false = true ∧ True) ∧ (((↑(List.length a) : Int) != (↑(List.length a) : Int)) = false → (((b1 = b1 ∧ List.length a = List.length a ∧ contLe (List.length a) (5 : Nat) (cellsOf' encF a) (cellsOf' encF a)) ∧ (b2 = b2 ∧ List.length a = List.length a ∧ contLe (List.length a) (5 : Nat) (cellsOf' encR a) (cellsOf' encR a)) ∧ (0 : Int) = (0 : Int) ∧ True) ∧ True ∧ true = true) ∧ LoopOk Tryd.prog (16 : Nat) (4 : Nat) (loopAt Tryd.prog (16 : Nat) (4 : Nat)) { t := sfT b1 b2 a (0 : Nat), m := [], mv := [] : St } (T.map (lout [(0 : Nat)] sfS) ((fun (x : Nat) => T.ret ()) (0 : Nat))) ∧ true = true ∧ True)
theorem vcSf_eq (b1 : Bool) (b2 : Bool) (a : List Rec) : (ctrVC Tryd.prog (sfH b1 b2 a) 16 [encFs b1 a, encRs b2 a] [] (boolR true)) = vcSf b1 b2 a := by kernel_rfl
theorem sf_loop (b1 b2 : Bool) (a : List Rec) (hl : a.length ≤ 9223372036854775806) (k : Nat) : LoopOk Tryd.prog 16 4 (loopAt Tryd.prog 16 4) ⟨sfT b1 b2 a k, [], []⟩ (T.map (lout [0] sfS) (.ret ())) := by
  refine loop_vc (o := fun _ => .ret ()) Tryd.mixed (fun _ => rfl) (fun k => (vcSfL_eq b1 b2 a k).mpr ?_) k
  unfold vcSfL
  simp
  intro h
  have hb : ∀ q : Nat, isU8 (cellsOf' encB (a[k]?.getD default).val q 0) = true := fun _ => rfl
  simp [h, hb]
  exact ⟨k + 1, by omega, by rw [wrap_i64 (by omega) (by omega)]; omega⟩
theorem sf_c (b1 b2 : Bool) (a : List Rec) (hl : a.length ≤ 9223372036854775806) : (boolR true).Sat (ACall' Tryd.prog 16 [encFs b1 a, encRs b2 a] []) := by
  refine ctr_vc (ht := sfH b1 b2 a) Tryd.mixed rfl ?_
  rw [vcSf_eq b1 b2 a]
  unfold vcSf
  simp [sf_loop b1 b2 a hl 0]
noncomputable def sfC (b1 b2 : Bool) (a b : List Rec) : Ctr Tryd.prog := ⟨16, [encFs b1 a, encRs b2 b], [], .need (a.length ≤ 9223372036854775806 ∧ a = b) (boolR true), T.Sat.need fun h => by obtain ⟨h1, rfl⟩ := h; exact sf_c b1 b2 a h1⟩
def rowN (l : List Rec) (k : Nat) : Blk := .row 27 5 k none (cellsOf' encR l)
def loT (b : Bool) (l : List Rec) (k : Nat) : List AV := mkT 30 [(0, encRs b l), (3, .own 0 5 0 k), (4, .y (.int .i64 k))]
def loS (l : List Rec) (_ : Unit) : Exit × List AV × List Blk := (.exit 0, mkT 30 [(3, .own 0 5 0 l.length)], [rowR l])
noncomputable def loLH : HintsT Tryd.prog := withSh (hh _ noLp noCs noOp) (sh1 13 7 1 779 noSh)
def vcLoL (b : Bool) (l : List Rec) (k : { k : Nat // k ≤ l.length }) : Prop :=
  (decide ((↑k.val : Int) < (↑(List.length l) : Int)) = true → (true && decide ((↑k.val : Int) < (↑(List.length l) : Int))) = true ∧ (decide ((0 : Nat) + List.length (List.getD l (Int.toNat (↑k.val : Int)) (@default Rec instInhabitedRec)).val ≤ (9223372036854775807 : Nat)) && decide (((0 : Nat) + List.length (List.getD l (Int.toNat (↑k.val : Int)) (@default Rec instInhabitedRec)).val) * (1 : Nat) ≤ (140737488355328 : Nat))) = true ∧ (∀ (k_1 : Nat), k_1 < (0 : Nat) + List.length (List.getD l (Int.toNat (↑k.val : Int)) (@default Rec instInhabitedRec)).val → ∀ (j : Nat), j < (1 : Nat) → tagT (appRow (0 : Nat) (fun (k j : Nat) => AV.junk) (cellsOf' encB (List.getD l (Int.toNat (↑k.val : Int)) (@default Rec instInhabitedRec)).val) k_1 j) = true) ∧ (decide (k.val = k.val) && decide (k.val + (1 : Nat) ≤ (9223372036854775807 : Nat)) && decide ((k.val + (1 : Nat)) * (64 : Nat) ≤ (140737488355328 : Nat))) = true ∧ ∃ (j : { k : Nat // k ≤ List.length l }), List.length l - j.val < List.length l - k.val ∧ (((b = b ∧ List.length l = List.length l ∧ contLe (List.length l) (5 : Nat) (cellsOf' encR l) (cellsOf' encR l)) ∧ ((0 : Nat) = (0 : Nat) ∧ k.val + (1 : Nat) = j.val) ∧ IntKind.wrap IntKind.i64 ((↑k.val : Int) + (1 : Int)) = (↑j.val : Int) ∧ True) ∧ ((k.val + (1 : Nat) = j.val ∧ contLe (k.val + (1 : Nat)) (5 : Nat) (appRow k.val (cellsOf' encR l) fun (k_1 j : Nat) => Ax.get [AV.y (Value.int IntKind.u64 (List.getD l (Int.toNat (↑k.val : Int)) (@default Rec instInhabitedRec)).off), AV.y (Value.string (List.getD l (Int.toNat (↑k.val : Int)) (@default Rec instInhabitedRec)).key), AV.ys true (1 : Nat) ((0 : Nat) + List.length (List.getD l (Int.toNat (↑k.val : Int)) (@default Rec instInhabitedRec)).val) (Ax.rowAt (0 : Nat) (appRow (0 : Nat) (fun (k j : Nat) => AV.junk) (cellsOf' encB (List.getD l (Int.toNat (↑k.val : Int)) (@default Rec instInhabitedRec)).val))), AV.y (Value.int IntKind.u64 (List.getD l (Int.toNat (↑k.val : Int)) (@default Rec instInhabitedRec)).prod), AV.y (Value.int IntKind.u64 (List.getD l (Int.toNat (↑k.val : Int)) (@default Rec instInhabitedRec)).seq)] (k_1 * (5 : Nat) + j)) (cellsOf' encR l)) ∧ True) ∧ true = true) ∧ true = true ∧ () = ()) ∧ (decide ((↑k.val : Int) < (↑(List.length l) : Int)) = false → (((0 : Nat) = (0 : Nat) ∧ k.val = List.length l) ∧ True) ∧ ((k.val = List.length l ∧ contLe k.val (5 : Nat) (cellsOf' encR l) (cellsOf' encR l)) ∧ True) ∧ true = true)
theorem vcLoL_eq (b : Bool) (l : List Rec) (k : { k : Nat // k ≤ l.length }) : (loopVC Tryd.prog loLH 13 3 (fun (k : { k : Nat // k ≤ l.length }) => l.length - k.1) (fun k => loT b l k.1) (fun k => [rowN l k.1]) [0, 1, 2, 3, 4, 5] (fun _ => .ret ()) (loS l) k) = vcLoL b l k := by kernel_rfl
noncomputable def loH (b : Bool) (l : List Rec) : HintsT Tryd.prog := hh _ (lp1 13 3 (jobOf (fun (k : { k : Nat // k ≤ l.length }) => loT b l k.1) (fun k => [rowN l k.1]) [0, 1, 2, 3, 4, 5] (fun _ => .ret ()) (loS l) ⟨0, Nat.zero_le _⟩) noLp) noCs noOp
def loR (l : List Rec) : T An := .ret (.own 0 5 0 l.length, [rowR l], [])
def vcLo (b : Bool) (l : List Rec) : Prop :=
  (0 : Int) ≤ (0 : Int) ∧ (0 : Int) ≤ IntKind.wrap IntKind.i64 ((↑(List.length l) : Int) + (1 : Int)) ∧ (64 : Int) * IntKind.wrap IntKind.i64 ((↑(List.length l) : Int) + (1 : Int)) ≤ (281474976710656 : Int) ∧ IntKind.wrap IntKind.i64 ((↑(List.length l) : Int) + (1 : Int)) ≤ (9223372036854775807 : Int) ∧ (((b = b ∧ List.length l = List.length l ∧ contLe (List.length l) (5 : Nat) (cellsOf' encR l) (cellsOf' encR l)) ∧ ((0 : Nat) = (0 : Nat) ∧ (0 : Nat) = (0 : Nat)) ∧ (0 : Int) = (0 : Int) ∧ True) ∧ (((0 : Nat) = (0 : Nat) ∧ contLe (0 : Nat) (5 : Nat) (fun (x j : Nat) => Ax.get [AV.s (Value.int IntKind.u64 (0 : Int)), AV.s (Value.string { data := #[] : ByteArray }), AV.s (Value.slice none (0 : Nat) (0 : Nat)), AV.s (Value.int IntKind.u64 (0 : Int)), AV.s (Value.int IntKind.u64 (0 : Int))] j) (cellsOf' encR l)) ∧ True) ∧ true = true) ∧ LoopOk Tryd.prog (13 : Nat) (3 : Nat) (loopAt Tryd.prog (13 : Nat) (3 : Nat)) { t := loT b l (⟨(0 : Nat), loH._proof_1 l⟩ : { k : Nat // k ≤ List.length l }).val, m := [rowN l (⟨(0 : Nat), loH._proof_1 l⟩ : { k : Nat // k ≤ List.length l }).val], mv := [] : St } (T.map (lout [(0 : Nat), (1 : Nat), (2 : Nat), (3 : Nat), (4 : Nat), (5 : Nat)] (loS l)) ((fun (x : { k : Nat // k ≤ List.length l }) => T.ret ()) (⟨(0 : Nat), loH._proof_1 l⟩ : { k : Nat // k ≤ List.length l }))) ∧ ((0 : Nat) = (0 : Nat) ∧ List.length l = List.length l) ∧ (List.length l = List.length l ∧ contLe (List.length l) (5 : Nat) (cellsOf' encR l) (cellsOf' encR l)) ∧ True
theorem vcLo_eq (b : Bool) (l : List Rec) : (ctrVC Tryd.prog (loH b l) 13 [encRs b l] [] (loR l)) = vcLo b l := by kernel_rfl
def gxR (L : List Rec) (q : Nat) : Rec := ⟨IntKind.u64.wrap ((L.length + q : Nat) : Int), kB, [], 9, IntKind.u64.wrap q⟩
def gxL (L : List Rec) (k : Nat) : List Rec := L ++ (List.range k).map (gxR L)
def gxN (L : List Rec) (m : Int) : Nat := min (grM m).toNat (4098 - L.length)
def gxT (L : List Rec) (m : Int) (k : Nat) : List AV := mkT 34 [(5, .own 0 5 0 (gxL L k).length), (6, .y (.int .i64 (grM m))), (7, .y (.int .i64 k))]
def gxS (L : List Rec) (m : Int) (_ : Unit) : Exit × List AV × List Blk := (.exit 0, mkT 34 [(5, .own 0 5 0 (gxL L (gxN L m)).length)], [rowR (gxL L (gxN L m))])
def vcGxL (L : List Rec) (m : Int) (k : { k : Nat // k ≤ gxN L m }) : Prop :=
  (decide ((↑k.val : Int) < grM m) = true → (decide ((↑(List.length (gxL L k.val)) : Int) < (4098 : Int)) = true → (decide (List.length (gxL L k.val) = List.length (gxL L k.val)) && decide (List.length (gxL L k.val) + (1 : Nat) ≤ (9223372036854775807 : Nat)) && decide ((List.length (gxL L k.val) + (1 : Nat)) * (64 : Nat) ≤ (140737488355328 : Nat))) = true ∧ ∃ (j : { k : Nat // k ≤ gxN L m }), gxN L m - j.val < gxN L m - k.val ∧ ((((0 : Nat) = (0 : Nat) ∧ List.length (gxL L k.val) + (1 : Nat) = List.length (gxL L j.val)) ∧ grM m = grM m ∧ IntKind.wrap IntKind.i64 ((↑k.val : Int) + (1 : Int)) = (↑j.val : Int) ∧ True) ∧ ((List.length (gxL L k.val) + (1 : Nat) = List.length (gxL L j.val) ∧ contLe (List.length (gxL L k.val) + (1 : Nat)) (5 : Nat) (appRow (List.length (gxL L k.val)) (cellsOf' encR (gxL L k.val)) fun (k_1 j : Nat) => Ax.get [AV.y (Value.int IntKind.u64 (IntKind.wrap IntKind.u64 (↑(List.length (gxL L k.val)) : Int))), AV.s (Value.string { data := #[(107 : UInt8)] : ByteArray }), AV.s (Value.slice none (0 : Nat) (0 : Nat)), AV.s (Value.int IntKind.u64 (9 : Int)), AV.y (Value.int IntKind.u64 (IntKind.wrap IntKind.u64 (↑k.val : Int)))] (k_1 * (5 : Nat) + j)) (cellsOf' encR (gxL L j.val))) ∧ True) ∧ true = true) ∧ true = true ∧ () = ()) ∧ (decide ((↑(List.length (gxL L k.val)) : Int) < (4098 : Int)) = false → (((0 : Nat) = (0 : Nat) ∧ List.length (gxL L k.val) = List.length (gxL L (gxN L m))) ∧ True) ∧ ((List.length (gxL L k.val) = List.length (gxL L (gxN L m)) ∧ contLe (List.length (gxL L k.val)) (5 : Nat) (cellsOf' encR (gxL L k.val)) (cellsOf' encR (gxL L (gxN L m)))) ∧ True) ∧ true = true)) ∧ (decide ((↑k.val : Int) < grM m) = false → (((0 : Nat) = (0 : Nat) ∧ List.length (gxL L k.val) = List.length (gxL L (gxN L m))) ∧ True) ∧ ((List.length (gxL L k.val) = List.length (gxL L (gxN L m)) ∧ contLe (List.length (gxL L k.val)) (5 : Nat) (cellsOf' encR (gxL L k.val)) (cellsOf' encR (gxL L (gxN L m)))) ∧ True) ∧ true = true)
theorem vcGxL_eq (L : List Rec) (m : Int) (k : { k : Nat // k ≤ gxN L m }) : (loopVC Tryd.prog (hT _) 12 4 (fun (k : { k : Nat // k ≤ gxN L m }) => gxN L m - k.1) (fun k => gxT L m k.1) (fun k => [rowR (gxL L k.1)]) [0, 1, 2, 3] (fun _ => .ret ()) (gxS L m) k) = vcGxL L m k := by kernel_rfl
noncomputable def gxH (L : List Rec) (m : Int) : HintsT Tryd.prog := hh _ (lp1 12 4 (jobOf (fun (k : { k : Nat // k ≤ gxN L m }) => gxT L m k.1) (fun k => [rowR (gxL L k.1)]) [0, 1, 2, 3] (fun _ => .ret ()) (gxS L m) ⟨0, Nat.zero_le _⟩) noLp) noCs noOp
def gxW (L : List Rec) (m : Int) : T An := .ret (.own 0 5 0 (gxL L (gxN L m)).length, [rowR (gxL L (gxN L m))], [])
def vcGx (b : Bool) (L : List Rec) (m : Int) : Prop :=
  (decide ((0 : Nat) + List.length L ≤ (9223372036854775807 : Nat)) && decide (((0 : Nat) + List.length L) * (64 : Nat) ≤ (140737488355328 : Nat))) = true ∧ true = true ∧ ((((0 : Nat) = (0 : Nat) ∧ (0 : Nat) + List.length L = List.length (gxL L (0 : Nat))) ∧ Int.tmod (IntKind.wrap IntKind.i64 m) (4099 : Int) = grM m ∧ (0 : Int) = (0 : Int) ∧ True) ∧ (((0 : Nat) + List.length L = List.length (gxL L (0 : Nat)) ∧ contLe ((0 : Nat) + List.length L) (5 : Nat) (appRow (0 : Nat) (fun (k j : Nat) => AV.junk) (cellsOf' encR L)) (cellsOf' encR (gxL L (0 : Nat)))) ∧ True) ∧ true = true) ∧ LoopOk Tryd.prog (12 : Nat) (4 : Nat) (loopAt Tryd.prog (12 : Nat) (4 : Nat)) { t := gxT L m (⟨(0 : Nat), gxH._proof_1 L m⟩ : { k : Nat // k ≤ gxN L m }).val, m := [rowR (gxL L (⟨(0 : Nat), gxH._proof_1 L m⟩ : { k : Nat // k ≤ gxN L m }).val)], mv := [] : St } (T.map (lout [(0 : Nat), (1 : Nat), (2 : Nat), (3 : Nat)] (gxS L m)) ((fun (x : { k : Nat // k ≤ gxN L m }) => T.ret ()) (⟨(0 : Nat), gxH._proof_1 L m⟩ : { k : Nat // k ≤ gxN L m }))) ∧ ((0 : Nat) = (0 : Nat) ∧ List.length (gxL L (gxN L m)) = List.length (gxL L (gxN L m))) ∧ (List.length (gxL L (gxN L m)) = List.length (gxL L (gxN L m)) ∧ contLe (List.length (gxL L (gxN L m))) (5 : Nat) (cellsOf' encR (gxL L (gxN L m))) (cellsOf' encR (gxL L (gxN L m)))) ∧ True
theorem vcGx_eq (b : Bool) (L : List Rec) (m : Int) : (ctrVC Tryd.prog (gxH L m) 12 [encRs b L, .y (.int .u16 m)] [] (gxW L m)) = vcGx b L m := by kernel_rfl
def r77 : Rec := ⟨77, ByteArray.empty, [], 0, 0⟩
def r0 : Rec := ⟨0, ByteArray.empty, [], 0, 0⟩
def incR (x : Rec) (k : Nat) : Rec := ⟨x.off, x.key, (x.val.take k).map (fun v => IntKind.u8.wrap (v + 1)) ++ x.val.drop k, x.prod, x.seq⟩
def towF (q : Nat) (f : Nat → Rec) : Blk := .trow 27 5 q none (fun k => trRec (f k)) [] []
def spM (d : Nat) (B : Blk) : List Blk := match d with
  | 0 => [B]
  | d + 1 => .dead :: spM d B
def incF (f : Nat → Rec) (i k : Nat) : Nat → Rec := fun p => if p = i then incR (f i) k else f p
def siT (d q i k : Nat) : List AV := mkT 38 [(0, .own d 5 0 q), (2, .y (.int .i64 i)), (3, .y (.int .i64 k))]
noncomputable def siH : HintsT Tryd.prog := withSh (hh _ noLp noCs noOp) (sh1 17 5 3 786 noSh)
def siS (d q i : Nat) (f : Nat → Rec) (_ : Unit) : Exit × List AV × List Blk := (.exit 2, mkT 38 [(0, .own d 5 0 q), (2, .y (.int .i64 i))], spM d (towF q (incF f i (f i).val.length)))
def vcSi8 (q : Nat) (i : Nat) (f : Nat → Rec) (k : { k : Nat // k ≤ (f i).val.length }) : Prop :=
  (0 : Int) ≤ (↑i : Int) ∧ (↑i : Int) < (↑q : Int) ∧ decide (Int.toNat (↑i : Int) = Int.toNat (↑i : Int)) = true ∧ (decide ((↑k.val : Int) < (↑(List.length (incF f i k.val (Int.toNat (↑i : Int))).val) : Int)) = true → (true && decide ((↑i : Int) < (↑q : Int))) = true ∧ decide ((0 : Nat) + Int.toNat (↑i : Int) = Int.toNat (↑i : Int)) = true ∧ (true && decide ((↑k.val : Int) < (↑(List.length (incF f i k.val (Int.toNat (↑i : Int))).val) : Int))) = true ∧ decide ((0 : Nat) + Int.toNat (↑k.val : Int) < List.length (incF f i k.val (Int.toNat (↑i : Int))).val) = true ∧ (true && decide ((↑k.val : Int) < (↑(List.length (incF f i k.val (Int.toNat (↑i : Int))).val) : Int))) = true ∧ decide ((0 : Nat) + Int.toNat (↑k.val : Int) < List.length (incF f i k.val (Int.toNat (↑i : Int))).val) = true ∧ ∃ (j : { k : Nat // k ≤ List.length (f i).val }), List.length (f i).val - j.val < List.length (f i).val - k.val ∧ ((((0 : Nat) = (0 : Nat) ∧ q = q) ∧ (↑i : Int) = (↑i : Int) ∧ IntKind.wrap IntKind.i64 ((↑k.val : Int) + (1 : Int)) = (↑j.val : Int) ∧ True) ∧ (((q = q ∧ (((true = true ∧ (incF f i k.val (Int.toNat (↑i : Int))).off = (incF f i j.val (Int.toNat (↑i : Int))).off) ∧ (true = true ∧ (incF f i k.val (Int.toNat (↑i : Int))).key = (incF f i j.val (Int.toNat (↑i : Int))).key) ∧ (List.length (incF f i j.val (Int.toNat (↑i : Int))).val = List.length (incF f i k.val (Int.toNat (↑i : Int))).val ∧ contLe (List.length (incF f i j.val (Int.toNat (↑i : Int))).val) (1 : Nat) (wrRow (cellsOf' encB (incF f i k.val (Int.toNat (↑i : Int))).val) ((0 : Nat) + Int.toNat (↑k.val : Int)) (0 : Nat) [AV.y (Value.int IntKind.u8 (IntKind.wrap IntKind.u8 (List.getD (incF f i k.val (Int.toNat (↑i : Int))).val ((0 : Nat) + Int.toNat (↑k.val : Int)) (0 : Int) + (1 : Int))))]) (cellsOf' encB (incF f i j.val (Int.toNat (↑i : Int))).val)) ∧ (true = true ∧ (incF f i k.val (Int.toNat (↑i : Int))).prod = (incF f i j.val (Int.toNat (↑i : Int))).prod) ∧ (true = true ∧ (incF f i k.val (Int.toNat (↑i : Int))).seq = (incF f i j.val (Int.toNat (↑i : Int))).seq) ∧ True) ∧ True) ∧ ∀ (k_1 : Nat), k_1 < q → ¬k_1 = Int.toNat (↑i : Int) → (incF f i k.val k_1).off = (incF f i j.val k_1).off ∧ (incF f i k.val k_1).key = (incF f i j.val k_1).key ∧ (List.length (incF f i k.val k_1).val = List.length (incF f i j.val k_1).val ∧ contLe (List.length (incF f i k.val k_1).val) (1 : Nat) (cellsOf' encB (incF f i k.val k_1).val) (cellsOf' encB (incF f i j.val k_1).val)) ∧ (incF f i k.val k_1).prod = (incF f i j.val k_1).prod ∧ (incF f i k.val k_1).seq = (incF f i j.val k_1).seq ∧ True) ∧ True) ∧ True) ∧ true = true) ∧ true = true ∧ () = ()) ∧ (decide ((↑k.val : Int) < (↑(List.length (incF f i k.val (Int.toNat (↑i : Int))).val) : Int)) = false → (((0 : Nat) = (0 : Nat) ∧ q = q) ∧ (↑i : Int) = (↑i : Int) ∧ True) ∧ (((q = q ∧ (((true = true ∧ (incF f i k.val (Int.toNat (↑i : Int))).off = (incF f i (List.length (f i).val) (Int.toNat (↑i : Int))).off) ∧ (true = true ∧ (incF f i k.val (Int.toNat (↑i : Int))).key = (incF f i (List.length (f i).val) (Int.toNat (↑i : Int))).key) ∧ (List.length (incF f i (List.length (f i).val) (Int.toNat (↑i : Int))).val = List.length (incF f i k.val (Int.toNat (↑i : Int))).val ∧ contLe (List.length (incF f i (List.length (f i).val) (Int.toNat (↑i : Int))).val) (1 : Nat) (cellsOf' encB (incF f i k.val (Int.toNat (↑i : Int))).val) (cellsOf' encB (incF f i (List.length (f i).val) (Int.toNat (↑i : Int))).val)) ∧ (true = true ∧ (incF f i k.val (Int.toNat (↑i : Int))).prod = (incF f i (List.length (f i).val) (Int.toNat (↑i : Int))).prod) ∧ (true = true ∧ (incF f i k.val (Int.toNat (↑i : Int))).seq = (incF f i (List.length (f i).val) (Int.toNat (↑i : Int))).seq) ∧ True) ∧ True) ∧ ∀ (k_1 : Nat), k_1 < q → ¬k_1 = Int.toNat (↑i : Int) → (incF f i k.val k_1).off = (incF f i (List.length (f i).val) k_1).off ∧ (incF f i k.val k_1).key = (incF f i (List.length (f i).val) k_1).key ∧ (List.length (incF f i k.val k_1).val = List.length (incF f i (List.length (f i).val) k_1).val ∧ contLe (List.length (incF f i k.val k_1).val) (1 : Nat) (cellsOf' encB (incF f i k.val k_1).val) (cellsOf' encB (incF f i (List.length (f i).val) k_1).val)) ∧ (incF f i k.val k_1).prod = (incF f i (List.length (f i).val) k_1).prod ∧ (incF f i k.val k_1).seq = (incF f i (List.length (f i).val) k_1).seq ∧ True) ∧ True) ∧ True) ∧ true = true)
theorem vcSi8_eq (q : Nat) (i : Nat) (f : Nat → Rec) (k : { k : Nat // k ≤ (f i).val.length }) : (loopVC Tryd.prog siH 17 5 (fun (k : { k : Nat // k ≤ (f i).val.length }) => (f i).val.length - k.1) (fun k => siT 8 q i k.1) (fun k => spM 8 (towF q (incF f i k.1))) [0, 1, 2, 3, 4, 5, 6, 7, 8, 9, 10, 11, 12, 13] (fun _ => .ret ()) (siS 8 q i f) k) = vcSi8 q i f k := by kernel_rfl
end Go.Proofs.YtjmdejbijigfjaaDoor.H

namespace Go.Proofs.YtjmdejbijigfjaaDoor.H
open Go.Ax Go.Proofs.YtjmdejbijigfjaaDoor
set_option maxRecDepth 1000000
structure LoOk (l : List Rec) : Prop where
  n : l.length * 64 ≤ 140737488355328
  v : ∀ k, k < l.length → (l.getD k default).val.length ≤ 140737488355328
theorem appN_le {l : List Rec} {k : Nat} {cs : List AV} (h : ∀ j, j < 5 → le0 (get cs j) (get (encR (l.getD k default)) j)) : contLe (k + 1) 5 (appRow k (cellsOf' encR l) (fun k' j => get cs (k' * 5 + j))) (cellsOf' encR l) := by
  intro p hp j hj
  unfold appRow
  by_cases h1 : p < k
  · rw [if_pos h1]; exact le0_refl _
  · obtain rfl : p = k := by omega
    rw [if_neg h1]
    simp only [Nat.sub_self, Nat.zero_mul, Nat.zero_add]
    exact h j hj
theorem lo_loop (b : Bool) (l : List Rec) (h : LoOk l) (k : { k : Nat // k ≤ l.length }) : LoopOk Tryd.prog 13 3 (loopAt Tryd.prog 13 3) ⟨loT b l k.1, [rowN l k.1], []⟩ (T.map (lout [0, 1, 2, 3, 4, 5] (loS l)) (.ret ())) := by
  refine loop_vcH (o := fun _ => .ret ()) (stT := fun (k : { k : Nat // k ≤ l.length }) => loT b l k.1) (stM := fun k => [rowN l k.1]) Tryd.mixed (fun _ => rfl) (fun k => (vcLoL_eq b l k).mpr ?_) k
  unfold vcLoL
  obtain ⟨k, hk⟩ := k
  have hn := h.n
  by_cases hkl : k < l.length
  · have hv := h.v k hkl
    have hex : ∀ q : { k : Nat // k ≤ l.length } → Prop, q ⟨k + 1, hkl⟩ → ∃ j, q j := fun q hq => ⟨_, hq⟩
    have hw : IntKind.i64.wrap ((k : Int) + 1) = ((k + 1 : Nat) : Int) := by rw [wrap_i64 (by omega) (by omega)]; omega
    have hc : ∀ x : Rec, x = l.getD k default → contLe (k + 1) 5 (appRow k (cellsOf' encR l) (fun k' j => Ax.get [AV.y (Value.int IntKind.u64 x.off), AV.y (Value.string x.key), AV.ys true (1 : Nat) x.val.length (cellsOf' encB x.val), AV.y (Value.int IntKind.u64 x.prod), AV.y (Value.int IntKind.u64 x.seq)] (k' * 5 + j))) (cellsOf' encR l) := by
      rintro x rfl
      exact appN_le (rec_le (le0_refl _) (le0_refl _) (le0_refl _) (le0_refl _) (le0_refl _))
    have hc := hc _ rfl
    simp only [Int.toNat_natCast, Nat.zero_add, appRow_zero, rowAt_zero]
    generalize l.getD k default = x at hv hc ⊢
    refine ⟨fun _ => ⟨by simp; omega, by simp; omega, fun _ _ j hj => by (obtain rfl : j = 0 := by omega); rfl, by simp; omega, hex _ ?_⟩, fun h => by simp at h; omega⟩
    simp [hw, hc]
    omega
  · obtain rfl : k = l.length := by omega
    refine ⟨fun h => by simp at h, fun _ => ?_⟩
    simp
theorem lo_c (b : Bool) (l : List Rec) (h : LoOk l) : (loR l).Sat (ACall' Tryd.prog 13 [encRs b l] []) := by
  refine ctr_vc (ht := loH b l) Tryd.mixed rfl ?_
  rw [vcLo_eq b l]
  unfold vcLo
  have lp := lo_loop b l h ⟨0, Nat.zero_le _⟩
  have hn := h.n
  have hw : IntKind.i64.wrap ((l.length : Int) + 1) = (l.length : Int) + 1 := wrap_i64 (by omega) (by omega)
  simp [lp, hw]
  omega
noncomputable def loC (b : Bool) (l : List Rec) : Ctr Tryd.prog := ⟨13, [encRs b l], [], .need (LoOk l) (loR l), T.Sat.need fun h => lo_c b l h⟩
theorem gx_len (L : List Rec) (k : Nat) : (gxL L k).length = L.length + k := by simp [gxL]
theorem gx_step (L : List Rec) (k : Nat) : gxL L (k + 1) = gxL L k ++ [gxR L k] := by simp [gxL, List.range_succ]
theorem gx_loop (L : List Rec) (m : Int) (hL : L.length * 64 ≤ 140737488355328) (k : { k : Nat // k ≤ gxN L m }) : LoopOk Tryd.prog 12 4 (loopAt Tryd.prog 12 4) ⟨gxT L m k.1, [rowR (gxL L k.1)], []⟩ (T.map (lout [0, 1, 2, 3] (gxS L m)) (.ret ())) := by
  refine loop_vcH (o := fun _ => .ret ()) (stT := fun (k : { k : Nat // k ≤ gxN L m }) => gxT L m k.1) (stM := fun k => [rowR (gxL L k.1)]) Tryd.mixed (fun _ => rfl) (fun k => (vcGxL_eq L m k).mpr ?_) k
  unfold vcGxL
  obtain ⟨k, hk⟩ := k
  have hm := grM_le m
  have hN : gxN L m = min (grM m).toNat (4098 - L.length) := rfl
  have hex : ∀ (h : k < gxN L m) (q : { k : Nat // k ≤ gxN L m } → Prop), q ⟨k + 1, h⟩ → ∃ j, q j := fun h q hq => ⟨_, hq⟩
  have hend : ∀ (h : ¬ k < gxN L m), k = gxN L m := fun h => by omega
  have hw : IntKind.i64.wrap ((k : Int) + 1) = ((k + 1 : Nat) : Int) := by rw [wrap_i64 (by omega) (by omega)]; omega
  refine ⟨fun h1 => ⟨fun h2 => ?_, fun h2 => ?_⟩, fun h1 => ?_⟩
  · simp only [gx_len, decide_eq_true_eq] at h1 h2
    have hlt : k < gxN L m := by omega
    have hc := app1_le (sz := 5) (enc := encR) (l := gxL L k) (n := (gxL L k).length) (x := gxR L k) (cs := [AV.y (Value.int IntKind.u64 (IntKind.wrap IntKind.u64 (↑(List.length (gxL L k)) : Int))), AV.s (Value.string { data := #[(107 : UInt8)] : ByteArray }), AV.s (Value.slice none (0 : Nat) (0 : Nat)), AV.s (Value.int IntKind.u64 (9 : Int)), AV.y (Value.int IntKind.u64 (IntKind.wrap IntKind.u64 (↑k : Int)))]) rfl (rec_le (by simp [gxR, gx_len]) (by simp [gxR, kB]) (by rfl) (by simp [gxR]) (le0_refl _))
    rw [← gx_step] at hc
    refine ⟨by simp only [gx_len]; simp; omega, hex hlt _ ?_⟩
    have e1 : (gxL L k).length + 1 = (gxL L (k + 1)).length := by rw [gx_len, gx_len]; omega
    refine ⟨by show gxN L m - (k + 1) < gxN L m - k; omega, ⟨⟨⟨rfl, e1⟩, rfl, hw, trivial⟩, ⟨⟨e1, hc⟩, trivial⟩, rfl⟩, rfl, rfl⟩
  · simp only [gx_len, decide_eq_true_eq, decide_eq_false_iff_not] at h1 h2
    obtain rfl := hend (by omega)
    simp
  · simp only [gx_len, decide_eq_true_eq, decide_eq_false_iff_not] at h1
    obtain rfl := hend (by omega)
    simp
theorem gx_c (b : Bool) (L : List Rec) (m : Int) (hL : L.length * 64 ≤ 140737488355328) : (gxW L m).Sat (ACall' Tryd.prog 12 [encRs b L, .y (.int .u16 m)] []) := by
  refine ctr_vc (ht := gxH L m) Tryd.mixed rfl ?_
  rw [vcGx_eq b L m]
  unfold vcGx
  have lp := gx_loop L m hL ⟨0, Nat.zero_le _⟩
  have e : gxL L 0 = L := by simp [gxL]
  refine ⟨by simp; omega, rfl, ?_, lp, ⟨rfl, rfl⟩, ⟨rfl, contLe_refl _ _ _⟩, trivial⟩
  simp [e, grM]
noncomputable def gxC (b : Bool) (L : List Rec) (m : Int) : Ctr Tryd.prog := ⟨12, [encRs b L, .y (.int .u16 m)], [], .need (L.length * 64 ≤ 140737488355328) (gxW L m), T.Sat.need fun h => gx_c b L m h⟩
theorem incR_len (x : Rec) (k : Nat) : (incR x k).val.length = x.val.length := by simp [incR]; omega
theorem incR_set (x : Rec) {k : Nat} (h : k < x.val.length) : (incR x (k + 1)).val = (incR x k).val.set k (IntKind.u8.wrap ((incR x k).val.getD k 0 + 1)) := by
  refine List.ext_getElem? fun q => ?_
  simp only [incR, List.getElem?_set, List.getElem?_append, List.length_map, List.length_take, List.length_append, List.length_drop, List.getElem?_map, List.getElem?_take, List.getElem?_drop, List.getD_eq_getElem?_getD]
  have hm : min k x.val.length = k := by omega
  have hm1 : min (k + 1) x.val.length = k + 1 := by omega
  rw [hm, hm1]
  by_cases h1 : q < k
  · have : q ≠ k := by omega
    have h2 : q < k + 1 := by omega
    simp [h1, h2, Ne.symm this]
  · by_cases h2 : q = k
    · subst h2
      have h3 : q < q + (x.val.length - q) := by omega
      simp [h, h3]
    · have h3 : ¬ q < k + 1 := by omega
      simp [h1, h3, Ne.symm h2]
      congr 1
      omega
theorem incF_at (f : Nat → Rec) (i k : Nat) : incF f i k i = incR (f i) k := if_pos rfl
theorem incF_ne (f : Nat → Rec) {i k p : Nat} (h : ¬ p = i) : incF f i k p = f p := if_neg h
theorem si8_loop (q i : Nat) (f : Nat → Rec) (hi : i < q) (hl : (f i).val.length ≤ 140737488355328) (k : { k : Nat // k ≤ (f i).val.length }) : LoopOk Tryd.prog 17 5 (loopAt Tryd.prog 17 5) ⟨siT 8 q i k.1, spM 8 (towF q (incF f i k.1)), []⟩ (T.map (lout [0, 1, 2, 3, 4, 5, 6, 7, 8, 9, 10, 11, 12, 13] (siS 8 q i f)) (.ret ())) := by
  refine loop_vcH (o := fun _ => .ret ()) (stT := fun (k : { k : Nat // k ≤ (f i).val.length }) => siT 8 q i k.1) (stM := fun k => spM 8 (towF q (incF f i k.1))) Tryd.mixed (fun _ => rfl) (fun k => (vcSi8_eq q i f k).mpr ?_) k
  unfold vcSi8
  obtain ⟨k, hk⟩ := k
  simp only [Int.toNat_natCast, Nat.zero_add, incF_at, incR_len]
  refine ⟨by omega, by omega, by simp, fun h1 => ?_, fun h1 => ?_⟩
  · have hkl : k < (f i).val.length := by simpa using h1
    have hex : ∀ p : { k : Nat // k ≤ (f i).val.length } → Prop, p ⟨k + 1, hkl⟩ → ∃ j, p j := fun p hp => ⟨_, hp⟩
    have hw : IntKind.i64.wrap ((k : Int) + 1) = ((k + 1 : Nat) : Int) := by rw [wrap_i64 (by omega) (by omega)]; omega
    have hwr := wr_le (enc := encB) (l := (incR (f i) k).val) (i := k) (sz := 1) (n := (f i).val.length) (cs := [AV.y (Value.int IntKind.u8 (IntKind.wrap IntKind.u8 (List.getD (incR (f i) k).val k (0 : Int) + (1 : Int))))]) (x := IntKind.wrap IntKind.u8 (List.getD (incR (f i) k).val k (0 : Int) + (1 : Int))) (by rw [incR_len]) (by rw [incR_len]; exact hkl) rfl (fun j hj => by (obtain rfl : j = 0 := by omega); exact le0_refl _)
    rw [← incR_set (f i) hkl] at hwr
    refine ⟨by simp; omega, by simp, by simpa using hkl, by simpa using hkl, by simpa using hkl, by simpa using hkl, hex _ ?_⟩
    have hne : ∀ p, ¬ p = i → incF f i k p = incF f i (k + 1) p := fun p h => by rw [incF_ne _ h, incF_ne _ h]
    repeat' with_reducible apply And.intro
    all_goals first
      | with_reducible rfl
      | exact trivial
      | exact hw
      | exact hwr
      | (show _ - (k + 1) < _ - k; omega)
      | (intro p hp hq; rw [hne p hq]; simp)
      | exact rfl
  · have hkl : k = (f i).val.length := by simp at h1; omega
    subst hkl
    simp
def spF (g : Nat → Rec) (i : Nat) : Nat → Rec := fun p => if p < i then r77 else g p
def soT (d q i : Nat) : List AV := mkT 38 [(0, .own d 5 0 q), (2, .y (.int .i64 i))]
def soS (_ : Unit) : Exit × List AV × List Blk := (.exit 0, mkT 38 [], [])
noncomputable def soH8 (q i : Nat) (g : Nat → Rec) : HintsT Tryd.prog := withSh (hh _ (lp1 17 5 (jobOf (fun (k : { k : Nat // k ≤ (spF g i i).val.length }) => siT 8 q i k.1) (fun k => spM 8 (towF q (incF (spF g i) i k.1))) [0, 1, 2, 3, 4, 5, 6, 7, 8, 9, 10, 11, 12, 13] (fun _ => .ret ()) (siS 8 q i (spF g i)) ⟨0, Nat.zero_le _⟩) noLp) noCs noOp) (sh1 17 8 3 786 noSh)
def vcSo8 (q : Nat) (g : Nat → Rec) (i : { i : Nat // i ≤ q }) : Prop :=
  (decide ((↑i.val : Int) < (↑q : Int)) = true → ((((0 : Nat) = (0 : Nat) ∧ q = q) ∧ (↑i.val : Int) = (↑i.val : Int) ∧ (0 : Int) = (0 : Int) ∧ True) ∧ ((q = q ∧ ∀ (k : Nat), k < q → (spF g i.val k).off = (incF (spF g i.val) i.val (0 : Nat) k).off ∧ (spF g i.val k).key = (incF (spF g i.val) i.val (0 : Nat) k).key ∧ (List.length (spF g i.val k).val = List.length (incF (spF g i.val) i.val (0 : Nat) k).val ∧ contLe (List.length (spF g i.val k).val) (1 : Nat) (cellsOf' encB (spF g i.val k).val) (cellsOf' encB (incF (spF g i.val) i.val (0 : Nat) k).val)) ∧ (spF g i.val k).prod = (incF (spF g i.val) i.val (0 : Nat) k).prod ∧ (spF g i.val k).seq = (incF (spF g i.val) i.val (0 : Nat) k).seq ∧ True) ∧ True) ∧ true = true) ∧ LoopOk Tryd.prog (17 : Nat) (5 : Nat) (loopAt Tryd.prog (17 : Nat) (5 : Nat)) { t := siT (8 : Nat) q i.val (⟨(0 : Nat), soH8._proof_1 i.val g⟩ : { k : Nat // k ≤ List.length (spF g i.val i.val).val }).val, m := spM (8 : Nat) (towF q (incF (spF g i.val) i.val (⟨(0 : Nat), soH8._proof_1 i.val g⟩ : { k : Nat // k ≤ List.length (spF g i.val i.val).val }).val)), mv := [] : St } (T.map (lout [(0 : Nat), (1 : Nat), (2 : Nat), (3 : Nat), (4 : Nat), (5 : Nat), (6 : Nat), (7 : Nat), (8 : Nat), (9 : Nat), (10 : Nat), (11 : Nat), (12 : Nat), (13 : Nat)] (siS (8 : Nat) q i.val (spF g i.val))) ((fun (x : { k : Nat // k ≤ List.length (spF g i.val i.val).val }) => T.ret ()) (⟨(0 : Nat), soH8._proof_1 i.val g⟩ : { k : Nat // k ≤ List.length (spF g i.val i.val).val }))) ∧ (0 : Int) ≤ (↑i.val : Int) ∧ (↑i.val : Int) < (↑q : Int) ∧ decide (Int.toNat (↑i.val : Int) = Int.toNat (↑i.val : Int)) = true ∧ ∃ (j : { i : Nat // i ≤ q }), q - j.val < q - i.val ∧ ((((0 : Nat) = (0 : Nat) ∧ q = q) ∧ IntKind.wrap IntKind.i64 ((↑i.val : Int) + (1 : Int)) = (↑j.val : Int) ∧ True) ∧ (((q = q ∧ (((true = true ∧ (77 : Int) = (spF g j.val (Int.toNat (↑i.val : Int))).off) ∧ (true = true ∧ { data := #[] : ByteArray } = (spF g j.val (Int.toNat (↑i.val : Int))).key) ∧ List.length (spF g j.val (Int.toNat (↑i.val : Int))).val = (0 : Nat) ∧ (true = true ∧ (0 : Int) = (spF g j.val (Int.toNat (↑i.val : Int))).prod) ∧ (true = true ∧ (0 : Int) = (spF g j.val (Int.toNat (↑i.val : Int))).seq) ∧ True) ∧ True) ∧ ∀ (k : Nat), k < q → ¬k = Int.toNat (↑i.val : Int) → (incF (spF g i.val) i.val (List.length (spF g i.val i.val).val) k).off = (spF g j.val k).off ∧ (incF (spF g i.val) i.val (List.length (spF g i.val i.val).val) k).key = (spF g j.val k).key ∧ (List.length (incF (spF g i.val) i.val (List.length (spF g i.val i.val).val) k).val = List.length (spF g j.val k).val ∧ contLe (List.length (incF (spF g i.val) i.val (List.length (spF g i.val i.val).val) k).val) (1 : Nat) (cellsOf' encB (incF (spF g i.val) i.val (List.length (spF g i.val i.val).val) k).val) (cellsOf' encB (spF g j.val k).val)) ∧ (incF (spF g i.val) i.val (List.length (spF g i.val i.val).val) k).prod = (spF g j.val k).prod ∧ (incF (spF g i.val) i.val (List.length (spF g i.val i.val).val) k).seq = (spF g j.val k).seq ∧ True) ∧ True) ∧ True) ∧ true = true) ∧ true = true ∧ () = ()) ∧ (decide ((↑i.val : Int) < (↑q : Int)) = false → True ∧ True ∧ true = true)
theorem vcSo8_eq (q : Nat) (g : Nat → Rec) (i : { i : Nat // i ≤ q }) : (loopVC Tryd.prog (soH8 q i.1 g) 17 2 (fun (i : { i : Nat // i ≤ q }) => q - i.1) (fun i => soT 8 q i.1) (fun i => spM 8 (towF q (spF g i.1))) [0, 1, 2, 3, 4, 5, 6, 7, 8, 9, 10, 11, 12, 13] (fun _ => .ret ()) soS i) = vcSo8 q g i := by kernel_rfl
def g0 (l : List Rec) : Nat → Rec := fun p => if p < l.length then l.getD p default else r0
noncomputable def spH8 (l : List Rec) (q : Nat) : HintsT Tryd.prog := withSh (hh _ (lp1 17 2 (jobOf (fun (i : { i : Nat // i ≤ q }) => soT 8 q i.1) (fun i => spM 8 (towF q (spF (g0 l) i.1))) [0, 1, 2, 3, 4, 5, 6, 7, 8, 9, 10, 11, 12, 13] (fun _ => .ret ()) soS ⟨0, Nat.zero_le _⟩) noLp) noCs noOp) (sh1 17 0 3 781 noSh)
def spR : T An := .ret (.tup [], [], [0, 1, 2, 3, 4, 5, 6, 7, 8, 9, 10, 11, 12, 13])
def vcSp8 (l : List Rec) (q : Nat) : Prop :=
  (↑(q - (0 : Nat)) : Int) = (↑q : Int) ∧ ((((0 : Nat) = (0 : Nat) ∧ q = q) ∧ (0 : Int) = (0 : Int) ∧ True) ∧ ((q = q ∧ ∀ (k : Nat), k < q → (if k < List.length l then (List.getD l k (@default Rec instInhabitedRec)).off else (0 : Int)) = (spF (g0 l) (0 : Nat) k).off ∧ (if k < List.length l then (List.getD l k (@default Rec instInhabitedRec)).key else { data := #[] : ByteArray }) = (spF (g0 l) (0 : Nat) k).key ∧ ((if k < List.length l then List.length (List.getD l k (@default Rec instInhabitedRec)).val else (0 : Nat)) = List.length (spF (g0 l) (0 : Nat) k).val ∧ contLe (if k < List.length l then List.length (List.getD l k (@default Rec instInhabitedRec)).val else (0 : Nat)) (1 : Nat) (cellsOf' encB (List.getD l k (@default Rec instInhabitedRec)).val) (cellsOf' encB (spF (g0 l) (0 : Nat) k).val)) ∧ (if k < List.length l then (List.getD l k (@default Rec instInhabitedRec)).prod else (0 : Int)) = (spF (g0 l) (0 : Nat) k).prod ∧ (if k < List.length l then (List.getD l k (@default Rec instInhabitedRec)).seq else (0 : Int)) = (spF (g0 l) (0 : Nat) k).seq ∧ True) ∧ True) ∧ true = true) ∧ LoopOk Tryd.prog (17 : Nat) (2 : Nat) (loopAt Tryd.prog (17 : Nat) (2 : Nat)) { t := soT (8 : Nat) q (⟨(0 : Nat), Nat.zero_le q⟩ : { i : Nat // i ≤ q }).val, m := spM (8 : Nat) (towF q (spF (g0 l) (⟨(0 : Nat), Nat.zero_le q⟩ : { i : Nat // i ≤ q }).val)), mv := [] : St } (T.map (lout [(0 : Nat), (1 : Nat), (2 : Nat), (3 : Nat), (4 : Nat), (5 : Nat), (6 : Nat), (7 : Nat), (8 : Nat), (9 : Nat), (10 : Nat), (11 : Nat), (12 : Nat), (13 : Nat)] soS) ((fun (x : { i : Nat // i ≤ q }) => T.ret ()) (⟨(0 : Nat), Nat.zero_le q⟩ : { i : Nat // i ≤ q }))) ∧ True ∧ True
theorem vcSp8_eq (l : List Rec) (q : Nat) : (ctrVC Tryd.prog (spH8 l q) 17 [.own 8 5 0 l.length] (spM 8 (.trow 27 5 l.length (some q) (trRs l) [] zR)) spR) = vcSp8 l q := by kernel_rfl
theorem spF_lt (g : Nat → Rec) {i p : Nat} (h : p < i) : spF g i p = r77 := if_pos h
theorem spF_ge (g : Nat → Rec) {i p : Nat} (h : ¬ p < i) : spF g i p = g p := if_neg h
theorem so8_loop (q : Nat) (g : Nat → Rec) (hq : q ≤ 9223372036854775807) (hg : ∀ p, p < q → (g p).val.length ≤ 140737488355328) (i : { i : Nat // i ≤ q }) : LoopOk Tryd.prog 17 2 (loopAt Tryd.prog 17 2) ⟨soT 8 q i.1, spM 8 (towF q (spF g i.1)), []⟩ (T.map (lout [0, 1, 2, 3, 4, 5, 6, 7, 8, 9, 10, 11, 12, 13] soS) (.ret ())) := by
  refine loop_vcH (o := fun _ => .ret ()) (stT := fun (i : { i : Nat // i ≤ q }) => soT 8 q i.1) (stM := fun i => spM 8 (towF q (spF g i.1))) Tryd.mixed (fun _ => rfl) (fun i => (vcSo8_eq q g i).mpr ?_) i
  unfold vcSo8
  obtain ⟨i, hi⟩ := i
  refine ⟨fun h1 => ?_, fun h1 => ⟨trivial, trivial, rfl⟩⟩
  have hlt : i < q := by simpa using h1
  have hex : ∀ p : { i : Nat // i ≤ q } → Prop, p ⟨i + 1, hlt⟩ → ∃ j, p j := fun p hp => ⟨_, hp⟩
  have hw : IntKind.i64.wrap ((i : Int) + 1) = ((i + 1 : Nat) : Int) := by rw [wrap_i64 (by omega) (by omega)]; omega
  have e0 : ∀ p, incF (spF g i) i 0 p = spF g i p := fun p => by
    by_cases h : p = i
    · subst h; rw [incF_at]; simp [incR]
    · rw [incF_ne _ h]
  have e1 : spF g (i + 1) i = r77 := spF_lt g (by omega)
  have e2 : ∀ p, ¬ p = i → incF (spF g i) i (spF g i i).val.length p = spF g (i + 1) p := fun p h => by
    rw [incF_ne _ h]
    by_cases h2 : p < i
    · rw [spF_lt g h2, spF_lt g (by omega)]
    · rw [spF_ge g h2, spF_ge g (by omega)]
  have hl : (spF g i i).val.length ≤ 140737488355328 := by rw [spF_ge g (by omega)]; exact hg i hlt
  have lp := si8_loop q i (spF g i) hlt hl ⟨0, Nat.zero_le _⟩
  simp only [Int.toNat_natCast, e0]
  refine ⟨by simp, by simpa only [e0] using lp, by omega, by omega, by simp, hex _ ?_⟩
  simp only [e1]
  repeat' with_reducible apply And.intro
  all_goals first
    | with_reducible rfl
    | exact trivial
    | exact hw
    | (show _ - (i + 1) < _ - i; omega)
    | (intro p hp hq; rw [e2 p hq]; simp)
    | (simp [r77]; done)
    | exact rfl
theorem sp8_q (l : List Rec) (q : Nat) (hlq : l.length ≤ q) (hq : q ≤ 9223372036854775807) (hv : ∀ k, k < l.length → (l.getD k default).val.length ≤ 140737488355328) : spR.Sat (ACall' Tryd.prog 17 [.own 8 5 0 l.length] (spM 8 (.trow 27 5 l.length (some q) (trRs l) [] zR))) := by
  refine ctr_vc (ht := spH8 l q) Tryd.mixed rfl ?_
  rw [vcSp8_eq l q]
  unfold vcSp8
  have hg : ∀ p, p < q → (g0 l p).val.length ≤ 140737488355328 := fun p _ => by
    unfold g0
    split
    · exact hv p (by assumption)
    · simp [r0]
  have lp := so8_loop q (g0 l) hq hg ⟨0, Nat.zero_le _⟩
  have e : ∀ k, spF (g0 l) 0 k = g0 l k := fun k => spF_ge _ (by omega)
  simp only [e]
  refine ⟨by simp, ⟨by simp, ⟨⟨by simp, fun k hk => ?_⟩, trivial⟩, by simp⟩, by simpa only [e] using lp, trivial, trivial⟩
  unfold g0
  by_cases h : k < l.length
  · simp [h]
  · simp [h, r0]
    rfl
structure SpOk (l : List Rec) : Prop where
  v : ∀ k, k < l.length → (l.getD k default).val.length ≤ 140737488355328
theorem sp8_c (l : List Rec) (h : SpOk l) : spR.Sat (ACall' Tryd.prog 17 [.own 8 5 0 l.length] (spM 8 (towR l))) := by
  refine T.Sat.ret ?_
  refine ACall.anyCap (d := 8) (M := []) (c := trRs l) (zs := zR) fun q h1 h2 => ?_
  obtain ⟨a, ha, rfl⟩ := sp8_q l q h1 h2 h.v (fun a => a = (.tup [], [], [0, 1, 2, 3, 4, 5, 6, 7, 8, 9, 10, 11, 12, 13])) rfl
  exact ha
noncomputable def spC8 (l : List Rec) : Ctr Tryd.prog := ⟨17, [.own 8 5 0 l.length], spM 8 (towR l), .need (SpOk l) spR, T.Sat.need fun h => sp8_c l h⟩
end Go.Proofs.YtjmdejbijigfjaaDoor.H

namespace Go.Proofs.YtjmdejbijigfjaaDoor.H
open Go.Ax Go.Proofs.YtjmdejbijigfjaaDoor
set_option maxRecDepth 1000000
structure Lgs where
  (L : List Rec) (m : Int) (x : Rec) (o most : Int)
def encLgs (s : Lgs) : List AV := [encRs true s.L, .y (.int .u16 s.m), .y (.int .u64 s.x.off), .y (.string s.x.key), encBs true s.x.val, .y (.int .u64 s.x.prod), .y (.int .u64 s.x.seq), .y (.int .u64 s.o), .y (.int .i64 s.most)]
noncomputable def lgaH (s : Lgs) (A Y Z : List Rec) : HintsT Tryd.prog := withSub (withSh (hh _ noLp
  (cs1 3 1 0 livesC (cs1 3 2 4 (gxC true s.L s.m) (cs1 3 3 1 (loC false A) (cs1 3 4 3 (apC false A s.x) (cs1 3 5 3 (arC false A s.x)
  (cs1 3 6 2 (sfC false false Y Y) (cs1 3 7 1 (spC8 Y) (cs1 3 8 5 (feC false A s.o s.most) (cs1 3 9 5 (frC false A s.o s.most)
  (cs1 3 10 2 (sfC false false Z Z) (cs1 3 11 1 (spC8 Z) (cs1 3 12 2 (sameC false false A A) (cs1 3 13 27 (lgC false A) (cs1 3 13 29 (lrC false A) noCs)))))))))))))) noOp)
  (sh1 3 4 8 10 (sh1 3 8 9 10 noSh))) [17]
def vcLga_q1 (s : Lgs) (A : List Rec) : Prop := (false = false ∧ List.length (gxL s.L (gxN s.L s.m)) = List.length A ∧ contLe (List.length (gxL s.L (gxN s.L s.m))) (5 : Nat) (Ax.rowAt (0 : Nat) (cellsOf' encR (gxL s.L (gxN s.L s.m)))) (cellsOf' encR A))
def vcLga_q2 (A : List Rec) : Prop := (false = false ∧ List.length A = List.length A ∧ contLe (List.length A) (5 : Nat) (Ax.rowAt (0 : Nat) (cellsOf' encR A)) (cellsOf' encR A))
def vcLga (s : Lgs) (A : List Rec) (Y : List Rec) (Z : List Rec) : Prop :=
  True ∧ True ∧ ((true = true ∧ List.length s.L = List.length s.L ∧ contLe (List.length s.L) (5 : Nat) (cellsOf' encR s.L) (cellsOf' encR s.L)) ∧ s.m = s.m ∧ True) ∧ True ∧ List.length s.L * (64 : Nat) ≤ (140737488355328 : Nat) ∧ ((vcLga_q1 s A) ∧ True) ∧ True ∧ LoOk A ∧ true = true ∧ ((∀ (k : Nat), k < List.length A → ∀ (j : Nat), j < (5 : Nat) → tagT (cellsOf' encR A k j) = true) ∧ True) ∧ ((vcLga_q2 A) ∧ (s.x.off = s.x.off ∧ s.x.key = s.x.key ∧ (true = true ∧ List.length s.x.val = List.length s.x.val ∧ contLe (List.length s.x.val) (1 : Nat) (cellsOf' encB s.x.val) (cellsOf' encB s.x.val)) ∧ s.x.prod = s.x.prod ∧ s.x.seq = s.x.seq ∧ True) ∧ True) ∧ True ∧ List.length A ≤ (9223372036854775806 : Nat) ∧ true = true ∧ ((True ∧ ∀ (k : Nat), k < List.length (apY A s.x) → true = true ∧ true = true ∧ (∀ (k_1 : Nat), k_1 < List.length (List.getD (apY A s.x) k (@default Rec instInhabitedRec)).val → ∀ (j : Nat), j < (1 : Nat) → tagT (cellsOf' encB (List.getD (apY A s.x) k (@default Rec instInhabitedRec)).val k_1 j) = true) ∧ true = true ∧ true = true ∧ True) ∧ True) ∧ ((vcLga_q1 s A) ∧ (s.x.off = s.x.off ∧ s.x.key = s.x.key ∧ (true = true ∧ List.length s.x.val = List.length s.x.val ∧ contLe (List.length s.x.val) (1 : Nat) (cellsOf' encB s.x.val) (cellsOf' encB s.x.val)) ∧ s.x.prod = s.x.prod ∧ s.x.seq = s.x.seq ∧ True) ∧ True) ∧ True ∧ List.length A ≤ (9223372036854775806 : Nat) ∧ true = true ∧ ((∀ (k : Nat), k < List.length (apY A s.x) → ∀ (j : Nat), j < (5 : Nat) → tagT (cellsOf' encR (apY A s.x) k j) = true) ∧ True) ∧ ((false = false ∧ List.length (apY A s.x) = List.length Y ∧ contLe (List.length (apY A s.x)) (5 : Nat) (Ax.rowAt (0 : Nat) fun (k j : Nat) => trV (trRs (apY A s.x) k j)) (cellsOf' encF Y)) ∧ (false = false ∧ List.length (apY A s.x) = List.length Y ∧ contLe (List.length (apY A s.x)) (5 : Nat) (Ax.rowAt (0 : Nat) (cellsOf' encR (apY A s.x))) (cellsOf' encR Y)) ∧ True) ∧ True ∧ (List.length Y ≤ (9223372036854775806 : Nat) ∧ Y = Y) ∧ true = true ∧ True ∧ (((0 : Nat) = (0 : Nat) ∧ List.length (apY A s.x) = List.length Y) ∧ True) ∧ ((List.length (apY A s.x) = List.length Y ∧ ∀ (k : Nat), k < List.length (apY A s.x) → (List.getD (apY A s.x) k (@default Rec instInhabitedRec)).off = (List.getD Y k (@default Rec instInhabitedRec)).off ∧ (List.getD (apY A s.x) k (@default Rec instInhabitedRec)).key = (List.getD Y k (@default Rec instInhabitedRec)).key ∧ (List.length (List.getD (apY A s.x) k (@default Rec instInhabitedRec)).val = List.length (List.getD Y k (@default Rec instInhabitedRec)).val ∧ contLe (List.length (List.getD (apY A s.x) k (@default Rec instInhabitedRec)).val) (1 : Nat) (cellsOf' encB (List.getD (apY A s.x) k (@default Rec instInhabitedRec)).val) (cellsOf' encB (List.getD Y k (@default Rec instInhabitedRec)).val)) ∧ (List.getD (apY A s.x) k (@default Rec instInhabitedRec)).prod = (List.getD Y k (@default Rec instInhabitedRec)).prod ∧ (List.getD (apY A s.x) k (@default Rec instInhabitedRec)).seq = (List.getD Y k (@default Rec instInhabitedRec)).seq ∧ True) ∧ True) ∧ SpOk Y ∧ ((vcLga_q2 A) ∧ s.o = s.o ∧ s.most = s.most ∧ True) ∧ True ∧ (List.length A ≤ (9223372036854775806 : Nat) ∧ (0 : Int) ≤ s.o ∧ s.o ≤ (18446744073709551615 : Int)) ∧ true = true ∧ ((True ∧ ∀ (k : Nat), k < List.length (feY A s.o s.most) → true = true ∧ true = true ∧ (∀ (k_1 : Nat), k_1 < List.length (List.getD (feY A s.o s.most) k (@default Rec instInhabitedRec)).val → ∀ (j : Nat), j < (1 : Nat) → tagT (cellsOf' encB (List.getD (feY A s.o s.most) k (@default Rec instInhabitedRec)).val k_1 j) = true) ∧ true = true ∧ true = true ∧ True) ∧ True) ∧ ((vcLga_q1 s A) ∧ s.o = s.o ∧ s.most = s.most ∧ True) ∧ True ∧ (List.length A ≤ (9223372036854775806 : Nat) ∧ (0 : Int) ≤ s.o ∧ s.o ≤ (18446744073709551615 : Int)) ∧ true = true ∧ ((∀ (k : Nat), k < List.length (feY A s.o s.most) → ∀ (j : Nat), j < (5 : Nat) → tagT (cellsOf' encR (feY A s.o s.most) k j) = true) ∧ True) ∧ ((false = false ∧ List.length (feY A s.o s.most) = List.length Z ∧ contLe (List.length (feY A s.o s.most)) (5 : Nat) (Ax.rowAt (0 : Nat) fun (k j : Nat) => trV (trRs (feY A s.o s.most) k j)) (cellsOf' encF Z)) ∧ (false = false ∧ List.length (feY A s.o s.most) = List.length Z ∧ contLe (List.length (feY A s.o s.most)) (5 : Nat) (Ax.rowAt (0 : Nat) (cellsOf' encR (feY A s.o s.most))) (cellsOf' encR Z)) ∧ True) ∧ True ∧ (List.length Z ≤ (9223372036854775806 : Nat) ∧ Z = Z) ∧ true = true ∧ True ∧ (((0 : Nat) = (0 : Nat) ∧ List.length (feY A s.o s.most) = List.length Z) ∧ True) ∧ ((List.length (feY A s.o s.most) = List.length Z ∧ ∀ (k : Nat), k < List.length (feY A s.o s.most) → (List.getD (feY A s.o s.most) k (@default Rec instInhabitedRec)).off = (List.getD Z k (@default Rec instInhabitedRec)).off ∧ (List.getD (feY A s.o s.most) k (@default Rec instInhabitedRec)).key = (List.getD Z k (@default Rec instInhabitedRec)).key ∧ (List.length (List.getD (feY A s.o s.most) k (@default Rec instInhabitedRec)).val = List.length (List.getD Z k (@default Rec instInhabitedRec)).val ∧ contLe (List.length (List.getD (feY A s.o s.most) k (@default Rec instInhabitedRec)).val) (1 : Nat) (cellsOf' encB (List.getD (feY A s.o s.most) k (@default Rec instInhabitedRec)).val) (cellsOf' encB (List.getD Z k (@default Rec instInhabitedRec)).val)) ∧ (List.getD (feY A s.o s.most) k (@default Rec instInhabitedRec)).prod = (List.getD Z k (@default Rec instInhabitedRec)).prod ∧ (List.getD (feY A s.o s.most) k (@default Rec instInhabitedRec)).seq = (List.getD Z k (@default Rec instInhabitedRec)).seq ∧ True) ∧ True) ∧ SpOk Z ∧ ((vcLga_q2 A) ∧ (vcLga_q1 s A) ∧ True) ∧ True ∧ (List.length A ≤ (9223372036854775806 : Nat) ∧ A = A) ∧ true = true ∧ True ∧ (true = true → (true = true → (true = true → (true = true → ((apN A s.x == apN A s.x) = true → ((apK A s.x == apK A s.x) = true → ((feK A s.o == feK A s.o) = true → ((vcLga_q2 A) ∧ True) ∧ True ∧ List.length A ≤ (9223372036854775806 : Nat) ∧ true = true ∧ True ∧ ((vcLga_q1 s A) ∧ True) ∧ True ∧ List.length A ≤ (9223372036854775806 : Nat) ∧ true = true ∧ True ∧ (isLog A == isLog A) = true ∧ True) ∧ ((feK A s.o == feK A s.o) = false → false = true ∧ True)) ∧ ((apK A s.x == apK A s.x) = false → false = true ∧ True)) ∧ ((apN A s.x == apN A s.x) = false → false = true ∧ True)) ∧ (true = false → false = true ∧ True)) ∧ (true = false → false = true ∧ True)) ∧ (true = false → false = true ∧ True)) ∧ (true = false → false = true ∧ True)
theorem vcLga_eq (s : Lgs) (A : List Rec) (Y : List Rec) (Z : List Rec) : (ctrVC Tryd.prog (lgaH s A Y Z) 3 [.agg (encLgs s)] [] (boolR true)) = vcLga s A Y Z := by kernel_rfl
theorem trV_at (x : Rec) (j : Nat) (hj : j < 5) : trV (trRec x j) = Ax.get (encF x) j := by
  match j, hj with
  | 0, _ => rfl
  | 1, _ => rfl
  | 2, _ => rfl
  | 3, _ => rfl
  | 4, _ => rfl
theorem trV_le (l : List Rec) (n : Nat) : contLe n 5 (fun k j => trV (trRs l k j)) (cellsOf' encF l) := by
  intro k _ j hj
  show le0 (trV (trRec (l.getD k default) j)) (Ax.get (encF (l.getD k default)) j)
  rw [trV_at _ j hj]
  exact le0_refl _
theorem tagB (l : List Int) (k j : Nat) (hj : j < 1) : tagT (cellsOf' encB l k j) = true := by
  obtain rfl : j = 0 := by omega
  rfl
structure LgsOk (s : Lgs) : Prop where
  n : s.L.length * 64 ≤ 140737488355328
  v : ∀ k, k < s.L.length → (s.L.getD k default).val.length ≤ 140737488355328
  o : 0 ≤ s.o ∧ s.o ≤ 18446744073709551615
theorem gx_at (L : List Rec) (N k : Nat) : ((gxL L N).getD k default).val.length ≤ ((L.getD k default).val.length) := by
  by_cases h : k < L.length
  · simp [gxL, List.getElem?_append_left h]
  · by_cases h2 : k < L.length + N
    · have : (gxL L N).getD k default = gxR L (k - L.length) := by
        simp [gxL, List.getElem?_append_right (by omega : L.length ≤ k), List.getElem?_range (by omega : k - L.length < N)]
      rw [this]
      simp [gxR]
    · have : (gxL L N).getD k default = default := by
        simp [gxL, List.getElem?_append_right (by omega : L.length ≤ k), List.getElem?_eq_none (show (List.range N).length ≤ k - L.length by simp; omega)]
      rw [this]
      simp [show (default : Rec).val = [] from rfl]
theorem gx_ok {s : Lgs} (h : LgsOk s) : LoOk (gxL s.L (gxN s.L s.m)) := by
  have h1 := h.n
  refine ⟨?_, fun k hk => ?_⟩
  · rw [gx_len]
    unfold gxN
    omega
  · refine Nat.le_trans (gx_at _ _ _) ?_
    by_cases hk : k < s.L.length
    · exact h.v k hk
    · have : s.L.getD k default = default := by simp [List.getElem?_eq_none (show s.L.length ≤ k by omega)]
      rw [this]
      simp [show (default : Rec).val = [] from rfl]
theorem y_ok (A : List Rec) (x : Rec) : SpOk (apY A x) := by
  refine ⟨fun k hk => ?_⟩
  by_cases h : apK A x = 0
  · obtain ⟨g1, g2, g3⟩ := apY_log h
    unfold apY at hk ⊢
    rw [if_pos h] at hk ⊢
    rw [app_at]
    split
    · have := log_val g1 (k := k) (by assumption); omega
    · split
      · simp [Rec.to]; omega
      · simp [show (default : Rec).val = [] from rfl]
  · unfold apY at hk
    rw [if_neg h] at hk
    simp at hk
theorem z_ok (A : List Rec) (o m : Int) (h0 : 0 ≤ o) : SpOk (feY A o m) := by
  refine ⟨fun k hk => ?_⟩
  by_cases h : feK A o = 0
  · obtain ⟨g1, _⟩ := feN_lim (m := m) h h0
    have : OwOk (feY A o m) := by unfold feY; rw [if_pos h]; exact log_ow g1 _ _
    have := this.v k hk
    omega
  · unfold feY at hk
    rw [if_neg h] at hk
    simp at hk
theorem y_len (A : List Rec) (x : Rec) : (apY A x).length ≤ 4096 := by
  unfold apY
  split
  · rename_i h
    obtain ⟨g1, g2, g3⟩ := apY_log h
    simp; omega
  · simp
theorem z_len (A : List Rec) (o m : Int) (h0 : 0 ≤ o) : (feY A o m).length ≤ 64 := by
  by_cases h : feK A o = 0
  · rw [feY_len h h0]
    have := (feN_lim (m := m) h h0).2.2.2.2
    omega
  · unfold feY
    rw [if_neg h]; simp
theorem lga_c (s : Lgs) (h : LgsOk s) : (boolR true).Sat (ACall' Tryd.prog 3 [.agg (encLgs s)] []) := by
  have hA := gx_ok h
  generalize hAe : gxL s.L (gxN s.L s.m) = A at hA
  have hY := y_ok A s.x
  have hZ := z_ok A s.o s.most h.o.1
  have hyl := y_len A s.x
  have hzl := z_len A s.o s.most h.o.1
  refine ctr_vc (ht := lgaH s A (apY A s.x) (feY A s.o s.most)) Tryd.mixed rfl ?_
  rw [vcLga_eq s A (apY A s.x) (feY A s.o s.most)]
  unfold vcLga vcLga_q2 vcLga_q1
  have hn := h.n
  have ho := h.o
  have hn2 := hA.n
  simp only [hAe, rowAt_zero, contLe_refl, trV_le, beq_self_eq_true, and_self, true_and, and_true, forall_const, Bool.true_eq_false, Bool.false_eq_true, false_implies, implies_true]
  repeat' with_reducible apply And.intro
  all_goals first
    | with_reducible rfl
    | exact trivial
    | omega
    | assumption
    | (intro k _ j hj; exact tagR _ j hj)
    | (intro k _ q _ j hj; exact tagB _ q j hj)
    | (intro k _; simp; done)
end Go.Proofs.YtjmdejbijigfjaaDoor.H

namespace Go.Proofs.YtjmdejbijigfjaaDoor
open Go.Ax Go.Shelf Go.RowKit Go.ChangeShapes Go.WideShapes Go.ChangeAt
set_option maxRecDepth 1000000
def toI {K : Type} : DataW K → Int
  | .lit (.int _ a) => a
  | _ => 0
def toS {K : Type} : DataW K → ByteArray
  | .lit (.string l) => ⟨l.toArray⟩
  | _ => ByteArray.empty
theorem encI_ok {K : Type} {k : IntKind} {d : DataW K} (h : (Sh.int k).wf d) : (Sh.int k).enc d = [.y (.int k (toI d))] := by
  obtain ⟨k', n, rfl, _⟩ := h
  rfl
theorem encS_ok {K : Type} {d : DataW K} (h : Sh.str.wf d) : Sh.str.enc d = [.y (.string (toS d))] := by
  obtain ⟨l, rfl, _⟩ := h
  rfl
theorem enc_st {K : Type} (fs : List Sh) (ds : List (DataW K)) : (Sh.st fs).enc (.agg ds) = Sh.encL fs ds := by simp only [Sh.enc]
theorem enc_cons {K : Type} (s : Sh) (r : List Sh) (d : DataW K) (ds : List (DataW K)) : Sh.encL (s :: r) (d :: ds) = s.enc d ++ Sh.encL r ds := by simp only [Sh.encL]
theorem enc_nil {K : Type} (l : List (DataW K)) : Sh.encL [] l = [] := by simp only [Sh.encL]
theorem relA {P : Program} {W : World} {r : Reach} {base : Nat} {t : TypeId} {v : Value} {fs : Array Field} {l : List AV} {H : HH} {E : Env} (hu : P.underlying t = some (.struct fs)) (hv : Value.okWide P W r base t v) (h : RelL l H E v.cells.toList) : Rel (.agg l) H E v := by
  obtain ⟨cs, rfl, _⟩ := okWide_struct hu hv
  exact ⟨cs, rfl, h⟩
theorem Tryd.own : ownKnob Tryd.prog.godebug = Option.none := by kernel_rfl
theorem Tryd.laidOut : laidOutB Tryd.prog = true := by kernel_rfl
theorem Tryd.mapsRowed : mapsRowed Tryd.prog = true := by kernel_rfl
theorem Tryd.slicesOk : slicesOk Tryd.prog = true := by kernel_rfl
theorem underBool : Tryd.prog.underlying 4 = some .bool := by kernel_rfl
end Go.Proofs.YtjmdejbijigfjaaDoor

namespace Go.Proofs.YtjmdejbijigfjaaDoor
open Go.Ax Go.Shelf Go.RowKit Go.ChangeShapes Go.WideShapes Go.ChangeAt
set_option maxRecDepth 1000000
def shRec : Sh := .st [.int .u64, .str, .sl (.int .u8), .int .u64, .int .u64]
def toRec {K : Type} : DataW K → Rec
  | .agg [a, b, c, d, e] => ⟨toI a, toS b, listOf toI c, toI d, toI e⟩
  | _ => default
theorem relB {K : Type} {d : DataW K} (hd : (Sh.sl (.int .u8)).wf d) {H : HH} {E : Env} {v : Value} (h : Rel (slAV (.int .u8) d) H E v) : Rel (encBs true (listOf toI d)) H E v := conv_sl (encA := encB) (fun x hx => encI_ok hx) hd h
theorem rec_enc {K : Type} {d : DataW K} (hd : shRec.wf d) : ∃ a b c e f, d = .agg [a, b, c, e, f] ∧ (Sh.sl (.int .u8)).wf c ∧ shRec.enc d = [.y (.int .u64 (toI a)), .y (.string (toS b)), slAV (.int .u8) c, .y (.int .u64 (toI e)), .y (.int .u64 (toI f))] := by
  obtain ⟨ds, rfl, d1, r1, rfl, w1, d2, r2, rfl, w2, d3, r3, rfl, w3, d4, r4, rfl, w4, d5, r5, rfl, w5, rfl⟩ := hd
  refine ⟨d1, d2, d3, d4, d5, rfl, w3, ?_⟩
  simp only [shRec, enc_st, enc_cons, enc_nil, encI_ok w1, encS_ok w2, slAV_eq, encI_ok w4, encI_ok w5]
  rfl
theorem rec_conv {K : Type} {d : DataW K} (hd : shRec.wf d) (j : Nat) (hj : j < 5) (H : HH) (E : Env) (v : Value) (h : Rel (Ax.get (shRec.enc d) j) H E v) : Rel (Ax.get (encR (toRec d)) j) H E v := by
  obtain ⟨a, b, c, e, f, rfl, wc, he⟩ := rec_enc hd
  rw [he] at h
  match j, hj with
  | 0, _ => exact h
  | 1, _ => exact h
  | 2, _ => exact relB wc h
  | 3, _ => exact h
  | 4, _ => exact h
theorem relRs {K : Type} {d : DataW K} (hd : (Sh.sl shRec).wf d) {H : HH} {E : Env} {v : Value} (h : Rel (slAV shRec d) H E v) : Rel (encRs true (listOf toRec d)) H E v :=
  conv_slR (encA := encR) (fun x hx j hj H E v => rec_conv hx j hj H E v) hd h
theorem undRs : Tryd.prog.underlying 22 = some (.slice 27) := by kernel_rfl
theorem bytesR : Tryd.prog.bytesOf 27 = 64 := by kernel_rfl
theorem rs_sized {K : Type} {d : DataW K} (hw : (d.weights Tryd.prog 22).all (· ≤ reachBytes) = true) : (listOf toRec d).length * 64 ≤ 140737488351232 := by
  have := weights_slice toRec undRs hw
  rwa [bytesR] at this
end Go.Proofs.YtjmdejbijigfjaaDoor

namespace Go.Proofs.YtjmdejbijigfjaaDoor
open Go.Ax Go.Shelf Go.RowKit Go.ChangeShapes Go.WideShapes Go.ChangeAt Go.Proofs.YtjmdejbijigfjaaDoor.H
set_option maxRecDepth 1000000
def structTypes (P : Program) (t : TypeId) : Option (List TypeId) := match P.underlying t with | some (.struct fs) => some (fs.toList.map (·.type)) | _ => Option.none
theorem structTypes_ok {P : Program} {t : TypeId} {l : List TypeId} (h : structTypes P t = some l) : ∃ fs, P.underlying t = some (.struct fs) ∧ fs.toList.map (·.type) = l := by
  unfold structTypes at h
  split at h
  · rename_i fs hu
    exact ⟨fs, hu, Option.some.inj h⟩
  · cases h
theorem u64_of {K : Type} {d : DataW K} (h : (Sh.int .u64).wf d) : 0 ≤ toI d ∧ toI d ≤ 18446744073709551615 := by
  obtain ⟨k, n, rfl, w⟩ := h
  show 0 ≤ n ∧ n ≤ _
  simp only [Lit.wf, Bool.and_eq_true, decide_eq_true_eq] at w
  have e1 : IntKind.u64.min = 0 := by rfl
  have e2 : IntKind.u64.max = 18446744073709551615 := by rfl
  rw [e1, e2] at w
  omega
theorem weights_elem {K : Type} {P : Program} {u : TypeId} : ∀ {xs : List (DataW K)}, (DataW.weightsAll P u xs).all (· ≤ reachBytes) = true → ∀ x ∈ xs, (x.weights P u).all (· ≤ reachBytes) = true
  | [], _, _, h => by cases h
  | y :: xs, h, x, hx => by
    rw [DataW.weightsAll, List.all_append, Bool.and_eq_true] at h
    rcases List.mem_cons.1 hx with rfl | hx
    · exact h.1
    · exact weights_elem h.2 x hx
theorem weights_elems {K : Type} {P : Program} {t u : TypeId} {xs r : List (DataW K)} (hu : P.underlying t = some (.slice u)) (h : ((DataW.slice xs r).weights P t).all (· ≤ reachBytes) = true) : ∀ x ∈ xs, (x.weights P u).all (· ≤ reachBytes) = true := by
  rw [DataW.weights, hu] at h
  simp only [List.all_cons, Bool.and_eq_true, List.all_append] at h
  exact weights_elem h.2.1
theorem undBs : Tryd.prog.underlying 25 = some (.slice 5) := by kernel_rfl
theorem bytesB : Tryd.prog.bytesOf 5 = 1 := by kernel_rfl
theorem bs_sized {K : Type} {d : DataW K} (hw : (d.weights Tryd.prog 25).all (· ≤ reachBytes) = true) : (listOf toI d).length ≤ 140737488351232 := by
  have := weights_slice toI undBs hw
  rwa [bytesB, Nat.mul_one] at this
theorem undRec : ∃ fs, Tryd.prog.underlying 27 = some (.struct fs) ∧ fs.toList.map (·.type) = [24, 9, 25, 24, 24] := structTypes_ok (by kernel_rfl)
theorem rec_sized {K : Type} {d : DataW K} (hd : shRec.wf d) (hw : (d.weights Tryd.prog 27).all (· ≤ reachBytes) = true) : (toRec d).val.length ≤ 140737488355328 := by
  obtain ⟨a, b, c, e, f, rfl, wc, he⟩ := rec_enc hd
  obtain ⟨fs, hf, ht⟩ := undRec
  have h := weights_struct hf hw
  rw [ht] at h
  obtain ⟨_, h⟩ := weights_cons h
  obtain ⟨_, h⟩ := weights_cons h
  obtain ⟨h3, _⟩ := weights_cons h
  have := bs_sized h3
  show (listOf toI c).length ≤ _
  omega
theorem recs_sized {K : Type} {d : DataW K} (hd : (Sh.sl shRec).wf d) (hw : (d.weights Tryd.prog 22).all (· ≤ reachBytes) = true) : LoOk (listOf toRec d) := by
  have h1 := rs_sized hw
  refine ⟨by omega, ?_⟩
  have key : ∀ x ∈ listOf toRec d, x.val.length ≤ 140737488355328 := by
    rcases hd with rfl | ⟨xs, r, rfl, hx⟩
    · intro y hy; cases hy
    · intro y hy
      obtain ⟨x, hx', rfl⟩ := List.mem_map.1 hy
      exact rec_sized (hx x hx') (weights_elems undRs hw x hx')
  intro k hk
  refine key _ ?_
  rw [List.getD_eq_getElem?_getD, List.getElem?_eq_getElem hk]
  exact List.getElem_mem hk
def shLgs : Sh := .st [.sl shRec, .int .u16, shRec, .int .u64, .int .i64]
def toLgs {K : Type} : DataW K → Lgs
  | .agg [a, b, c, d, e] => ⟨listOf toRec a, toI b, toRec c, toI d, toI e⟩
  | _ => ⟨[], 0, default, 0, 0⟩
theorem relLgs {K : Type} {d : DataW K} (hd : shLgs.wf d) {H : HH} {E : Env} {vs : List Value} (h : RelL (shLgs.enc d) H E vs) : RelL (encLgs (toLgs d)) H E vs := by
  obtain ⟨ds, rfl, d1, r1, rfl, w1, d2, r2, rfl, w2, d3, r3, rfl, w3, d4, r4, rfl, w4, d5, r5, rfl, w5, rfl⟩ := hd
  obtain ⟨a, b, c, e, f, rfl, wc, he⟩ := rec_enc w3
  have e : shLgs.enc (DataW.agg [d1, d2, .agg [a, b, c, e, f], d4, d5]) = [slAV shRec d1, .y (.int .u16 (toI d2)), .y (.int .u64 (toI a)), .y (.string (toS b)), slAV (.int .u8) c, .y (.int .u64 (toI e)), .y (.int .u64 (toI f)), .y (.int .u64 (toI d4)), .y (.int .i64 (toI d5))] := by
    simp only [shLgs, enc_st, enc_cons, enc_nil, slAV_eq, he, encI_ok w2, encI_ok w4, encI_ok w5]
    rfl
  rw [e] at h
  obtain ⟨v1, x1, rfl, h1, v2, x2, rfl, h2, v3, x3, rfl, h3, v4, x4, rfl, h4, v5, x5, rfl, h5, v6, x6, rfl, h6, v7, x7, rfl, h7, v8, x8, rfl, h8, v9, x9, rfl, h9, rfl⟩ := h
  exact ⟨_, _, rfl, relRs w1 h1, _, _, rfl, h2, _, _, rfl, h3, _, _, rfl, h4, _, _, rfl, relB wc h5, _, _, rfl, h6, _, _, rfl, h7, _, _, rfl, h8, _, _, rfl, h9, rfl⟩
theorem undLgs : ∃ fs, Tryd.prog.underlying 29 = some (.struct fs) ∧ fs.toList.map (·.type) = [22, 23, 27, 24, 3] := structTypes_ok (by kernel_rfl)
theorem lgs_call {K : Type} {d : DataW K} (hd : shLgs.wf d) (hw : (d.weights Tryd.prog 29).all (· ≤ reachBytes) = true) : (boolR true).Sat (ACall' Tryd.prog 3 [.agg (encLgs (toLgs d))] []) := by
  obtain ⟨ds, rfl, d1, r1, rfl, w1, d2, r2, rfl, w2, d3, r3, rfl, w3, d4, r4, rfl, w4, d5, r5, rfl, w5, rfl⟩ := hd
  obtain ⟨fs, hf, ht⟩ := undLgs
  have h := weights_struct hf hw
  rw [ht] at h
  obtain ⟨h1, h⟩ := weights_cons h
  have k1 := recs_sized w1 h1
  exact lga_c _ ⟨k1.n, k1.v, u64_of w4⟩
def recordsLogs_laidL : List (String × DataW Unit) := Rows.recordsLogsRow.laid
noncomputable def recordsLogs_layW (os : Os) : World := World.laidAll Tryd.prog os recordsLogs_laidL
theorem recordsLogs_lay_met (os : Os) (args : Array Value) : laidMetH Tryd.prog recordsLogs_laidL ((recordsLogs_layW os).forCall (fun _ _ => 0) ⟨#[], args, []⟩).memory := by
  have e : ∀ w, laidMetH Tryd.prog recordsLogs_laidL w = laidMet Tryd.prog recordsLogs_laidL w := fun w => by kernel_rfl
  rw [e]
  exact laidMet_laidAll args (by kernel_rfl) (by kernel_rfl)
theorem recordsLogs_lifted (os : Os) (started : os.Started) (K : Type) (enc : TypeId × Value → K) :
    ReturnsInHanded {} Tryd.checked os 3 .any (fun w args => (Rows.recordsLogsSpec.pre enc Tryd.prog Tryd.f3 [] false w args ∧ laidMetH Tryd.prog recordsLogs_laidL w) ∧ sizedMet enc Tryd.prog Tryd.f3 (OpenSpec.ofChange Rows.recordsLogsSpec) false w args)
      (Rows.recordsLogsSpec.post enc Tryd.prog Tryd.f3 false true false false) := by
  refine returnsInHanded_of_change_and (C := Tryd.checked) (X := fun w _ => laidMetH Tryd.prog recordsLogs_laidL w) (fun _ _ _ hh h => h.of_heap hh) Tryd.own started (by kernel_rfl) Tryd.func3
    (ChangeSpec.witness_at (enc := enc) (C := Tryd.checked) (os := os) (X := fun w _ => laidMetH Tryd.prog recordsLogs_laidL w) false (recordsLogs_layW os) #[.agg #[.slice Option.none 0 0, .int .u16 0, .int .u64 0, .string ⟨#[]⟩, .slice Option.none 0 0, .int .u64 0, .int .u64 0, .int .u64 0, .int .i64 0]] 8 rfl (by kernel_rfl) (by kernel_rfl) (by kernel_rfl) (by kernel_rfl) (by kernel_rfl) (recordsLogs_lay_met os _)) ?_
  intro W base args ds gs before hval0 hW hcnd hsz hL _
  have hps : Tryd.f3.params.toList = [29] := by kernel_rfl
  obtain ⟨p, q, hA, hV, hbef, hfz, hnd⟩ := id hW
  rw [hps] at hA hsz
  have ⟨hr, hwf⟩ := lift_all [shLgs] (by kernel_rfl) hA
  obtain ⟨v1, d1, e1, rfl, _⟩ := trodAll_one hA
  obtain ⟨_, _, g1, w1, _⟩ := hwf
  obtain ⟨rfl, _⟩ := List.cons.inj g1
  subst e1
  obtain ⟨h1, hs1⟩ := weights_cons (P := Tryd.prog) (t := 29) (d := d1) hsz
  have r1 := hr.1
  obtain ⟨fs1, hf1, _⟩ := undLgs
  have r1 := relA hf1 (hval0 0 _ _ (by kernel_rfl) rfl) (relLgs w1 r1)
  refine open_calls (call_of (lgs_call w1 h1)) (t := 4) (ds := [d1]) ⟨_, _, rfl, r1, rfl⟩ (by kernel_rfl) underBool rfl rfl Tryd.laidOut Tryd.mapsRowed Tryd.slicesOk (by rw [hps]; intro t ht; simp only [List.mem_cons, List.not_mem_nil, or_false] at ht; rcases ht with rfl <;> exact of_decide_eq_true (by kernel_rfl)) hW
theorem recordsLogs_holds : Rows.RecordsLogsSaid :=
  OpenClaim.holds_of_wide 3 Tryd.f3 rfl rfl rfl rfl rfl rfl rfl ⟨rfl, rfl, rfl, rfl, rfl⟩ rfl rfl rfl rfl rfl (by kernel_rfl) Tryd.func3 (by kernel_rfl)
    (of_decide_eq_true (by kernel_rfl)) (by unfold Func.isWrapper; first | (rw [if_pos (by decide +kernel)]; kernel_rfl) | (rw [if_neg (by decide +kernel)]; exact ⟨rfl, rfl⟩))
    (fun os started H enc _ => recordsLogs_lifted os started H enc)
theorem logs_said : Rows.RecordsLogsCardSaid :=
  Claim7.holds_tied_plain_at .later [] [.data, .pinned] true (true, "c6216772fa23618345da0e61fb6b64e81834fe3c41d4c2546afdeda0683467e7") false
    recordsLogs_holds (fun _ h => by cases h) (by kernel_rfl) (fun _ h => by cases h) recordsLogs_row_tie rfl ⟨rfl, rfl⟩ (by kernel_rfl) rfl
    (fun f fn hf hfn => by
      obtain rfl : f = 3 := Option.some.inj ((show Tryd.prog.funcNamed "gazette/gazettelaw14.RecordsLogs" = some 3 by kernel_rfl).symm.trans hf) |>.symm
      obtain rfl : fn = Tryd.f3 := (Option.some.inj (Tryd.func3.symm.trans hfn)).symm
      exact ⟨by kernel_rfl, fun j t ht => by
        rw [show Tryd.f3.params = #[29] by kernel_rfl] at ht
        have h3 : t = 29 := by
          rcases j with _ | j
          · exact (by simpa using ht.symm)
          · simp at ht
        rcases h3 with rfl
        · exact (show Tryd.prog.wantsStandIn 29 = false by kernel_rfl)⟩)
    (by kernel_rfl)
end Go.Proofs.YtjmdejbijigfjaaDoor
