import Derived.Test.YtckklclehofddaaDoorE10
import Derived.Test.YtckklclehofddaaDoorW1
set_option linter.unusedVariables false
set_option linter.unusedSimpArgs false
set_option linter.unusedSectionVars false
/-! Records: what is kept of a log. -/
namespace Go.Proofs.YtckklclehofddaaDoor
open Go.Ax
set_option maxRecDepth 1000000
noncomputable def hasC (r : Rng) (k : ByteArray) : Ctr Tryd.prog := ⟨33, [.agg (encG r), .y (.string k)], [], boolR (hasK r k), has_c r k⟩
noncomputable def has2C (r : Rng) (k : ByteArray) : Ctr Tryd.prog := ⟨41, [.agg (encG r), .y (.string k)], [], boolR (hasK r k), has2_c r k⟩
structure Ke where
  (out : List Rec) (to : List Int)
def Ke.step (r : Rng) (s : Ke) (x : Rec) : Ke := ⟨if hasK r x.key then s.out ++ [x.to (IntKind.u64.wrap (s.out.length : Nat))] else s.out, s.to ++ [IntKind.u64.wrap (s.out.length : Nat)]⟩
def ke (r : Rng) (l : List Rec) : Ke := l.foldl (Ke.step r) ⟨[], []⟩
theorem ke_step {r : Rng} {l : List Rec} {k : Nat} (h : k < l.length) : ke r (l.take (k + 1)) = (ke r (l.take k)).step r (l.getD k default) := by
  unfold ke
  rw [List.take_add_one, List.foldl_append, List.getElem?_eq_getElem h]
  simp [List.getElem?_eq_getElem h]
def kpM (r : Rng) (s : Ke) : List Blk := [.box 23 (encG r), rowR s.out, rowU s.to]
def kpT (b : Bool) (l : List Rec) (s : Ke) (k : Nat) : List AV := mkT 53 [(3, .ptr 0 0 0 0), (6, .own 1 5 0 s.out.length), (7, .own 2 1 0 s.to.length), (22, encRs b l), (23, .y (.int .i64 l.length)), (24, .y (.int .i64 k))]
def kpS (r : Rng) (s : Ke) (_ : Unit) : Exit × List AV × List Blk := (.exit 0, mkT 53 [(6, .own 1 5 0 s.out.length), (7, .own 2 1 0 s.to.length)], kpM r s)
noncomputable def kpH (r : Rng) (l : List Rec) (k : Nat) : HintsT Tryd.prog := hh _ noLp (cs1 20 9 3 (hasC r (l.getD k default).key) (cs1 20 10 4 (ownC (l.getD k default) (ke r (l.take k)).out.length) noCs)) noOp
def vcKpL (b : Bool) (r : Rng) (l : List Rec) (k : Nat) : Prop :=
  (decide ((↑k : Int) < (↑(List.length l) : Int)) = true → (true && decide ((↑k : Int) < (↑(List.length l) : Int))) = true ∧ (decide (List.length (ke r (List.take k l)).to = List.length (ke r (List.take k l)).to) && decide (List.length (ke r (List.take k l)).to + (1 : Nat) ≤ (9223372036854775807 : Nat)) && decide ((List.length (ke r (List.take k l)).to + (1 : Nat)) * (8 : Nat) ≤ (140737488355328 : Nat))) = true ∧ ((r.lo = r.lo ∧ r.hi = r.hi ∧ True) ∧ (List.getD l (Int.toNat (↑k : Int)) (@default Rec instInhabitedRec)).key = (List.getD l k (@default Rec instInhabitedRec)).key ∧ True) ∧ True ∧ (hasK r (List.getD l k (@default Rec instInhabitedRec)).key = true → (((List.getD l (Int.toNat (↑k : Int)) (@default Rec instInhabitedRec)).off = (List.getD l k (@default Rec instInhabitedRec)).off ∧ (List.getD l (Int.toNat (↑k : Int)) (@default Rec instInhabitedRec)).key = (List.getD l k (@default Rec instInhabitedRec)).key ∧ (true = true ∧ List.length (List.getD l (Int.toNat (↑k : Int)) (@default Rec instInhabitedRec)).val = List.length (List.getD l k (@default Rec instInhabitedRec)).val ∧ contLe (List.length (List.getD l (Int.toNat (↑k : Int)) (@default Rec instInhabitedRec)).val) (1 : Nat) (cellsOf' encB (List.getD l (Int.toNat (↑k : Int)) (@default Rec instInhabitedRec)).val) (cellsOf' encB (List.getD l k (@default Rec instInhabitedRec)).val)) ∧ (List.getD l (Int.toNat (↑k : Int)) (@default Rec instInhabitedRec)).prod = (List.getD l k (@default Rec instInhabitedRec)).prod ∧ (List.getD l (Int.toNat (↑k : Int)) (@default Rec instInhabitedRec)).seq = (List.getD l k (@default Rec instInhabitedRec)).seq ∧ True) ∧ (↑(List.length (ke r (List.take k l)).out) : Int) = (↑(List.length (ke r (List.take k l)).out) : Int) ∧ True) ∧ True ∧ List.length (List.getD l k (@default Rec instInhabitedRec)).val ≤ (140737488355328 : Nat) ∧ (decide (List.length (ke r (List.take k l)).out = List.length (ke r (List.take k l)).out) && decide (List.length (ke r (List.take k l)).out + (1 : Nat) ≤ (9223372036854775807 : Nat)) && decide ((List.length (ke r (List.take k l)).out + (1 : Nat)) * (64 : Nat) ≤ (140737488355328 : Nat))) = true ∧ ∃ (j : Nat), List.length l - j < List.length l - k ∧ ((((0 : Nat) = (0 : Nat) ∧ (0 : Nat) = (0 : Nat)) ∧ ((0 : Nat) = (0 : Nat) ∧ List.length (ke r (List.take k l)).out + (1 : Nat) = List.length (ke r (List.take j l)).out) ∧ ((0 : Nat) = (0 : Nat) ∧ List.length (ke r (List.take k l)).to + (1 : Nat) = List.length (ke r (List.take j l)).to) ∧ (b = b ∧ List.length l = List.length l ∧ contLe (List.length l) (5 : Nat) (cellsOf' encR l) (cellsOf' encR l)) ∧ (↑(List.length l) : Int) = (↑(List.length l) : Int) ∧ IntKind.wrap IntKind.i64 ((↑k : Int) + (1 : Int)) = (↑j : Int) ∧ True) ∧ ((r.lo = r.lo ∧ r.hi = r.hi ∧ True) ∧ (List.length (ke r (List.take k l)).out + (1 : Nat) = List.length (ke r (List.take j l)).out ∧ contLe (List.length (ke r (List.take k l)).out + (1 : Nat)) (5 : Nat) (appRow (List.length (ke r (List.take k l)).out) (cellsOf' encR (ke r (List.take k l)).out) fun (k_1 j : Nat) => Ax.get [AV.y (Value.int IntKind.u64 (IntKind.wrap IntKind.u64 (↑(List.length (ke r (List.take k l)).out) : Int))), AV.y (Value.string (List.getD l k (@default Rec instInhabitedRec)).key), AV.ys true (1 : Nat) (List.length (List.getD l k (@default Rec instInhabitedRec)).val) (cellsOf' encB (List.getD l k (@default Rec instInhabitedRec)).val), AV.y (Value.int IntKind.u64 (List.getD l k (@default Rec instInhabitedRec)).prod), AV.y (Value.int IntKind.u64 (List.getD l k (@default Rec instInhabitedRec)).seq)] (k_1 * (5 : Nat) + j)) (cellsOf' encR (ke r (List.take j l)).out)) ∧ (List.length (ke r (List.take k l)).to + (1 : Nat) = List.length (ke r (List.take j l)).to ∧ contLe (List.length (ke r (List.take k l)).to + (1 : Nat)) (1 : Nat) (appRow (List.length (ke r (List.take k l)).to) (cellsOf' encU (ke r (List.take k l)).to) fun (k_1 j : Nat) => Ax.get [AV.y (Value.int IntKind.u64 (IntKind.wrap IntKind.u64 (↑(List.length (ke r (List.take k l)).out) : Int)))] (k_1 * (1 : Nat) + j)) (cellsOf' encU (ke r (List.take j l)).to)) ∧ True) ∧ true = true) ∧ true = true ∧ () = ()) ∧ (hasK r (List.getD l k (@default Rec instInhabitedRec)).key = false → ∃ (j : Nat), List.length l - j < List.length l - k ∧ ((((0 : Nat) = (0 : Nat) ∧ (0 : Nat) = (0 : Nat)) ∧ ((0 : Nat) = (0 : Nat) ∧ List.length (ke r (List.take k l)).out = List.length (ke r (List.take j l)).out) ∧ ((0 : Nat) = (0 : Nat) ∧ List.length (ke r (List.take k l)).to + (1 : Nat) = List.length (ke r (List.take j l)).to) ∧ (b = b ∧ List.length l = List.length l ∧ contLe (List.length l) (5 : Nat) (cellsOf' encR l) (cellsOf' encR l)) ∧ (↑(List.length l) : Int) = (↑(List.length l) : Int) ∧ IntKind.wrap IntKind.i64 ((↑k : Int) + (1 : Int)) = (↑j : Int) ∧ True) ∧ ((r.lo = r.lo ∧ r.hi = r.hi ∧ True) ∧ (List.length (ke r (List.take k l)).out = List.length (ke r (List.take j l)).out ∧ contLe (List.length (ke r (List.take k l)).out) (5 : Nat) (cellsOf' encR (ke r (List.take k l)).out) (cellsOf' encR (ke r (List.take j l)).out)) ∧ (List.length (ke r (List.take k l)).to + (1 : Nat) = List.length (ke r (List.take j l)).to ∧ contLe (List.length (ke r (List.take k l)).to + (1 : Nat)) (1 : Nat) (appRow (List.length (ke r (List.take k l)).to) (cellsOf' encU (ke r (List.take k l)).to) fun (k_1 j : Nat) => Ax.get [AV.y (Value.int IntKind.u64 (IntKind.wrap IntKind.u64 (↑(List.length (ke r (List.take k l)).out) : Int)))] (k_1 * (1 : Nat) + j)) (cellsOf' encU (ke r (List.take j l)).to)) ∧ True) ∧ true = true) ∧ true = true ∧ () = ())) ∧ (decide ((↑k : Int) < (↑(List.length l) : Int)) = false → (((0 : Nat) = (0 : Nat) ∧ List.length (ke r (List.take k l)).out = List.length (ke r l).out) ∧ ((0 : Nat) = (0 : Nat) ∧ List.length (ke r (List.take k l)).to = List.length (ke r l).to) ∧ True) ∧ ((r.lo = r.lo ∧ r.hi = r.hi ∧ True) ∧ (List.length (ke r (List.take k l)).out = List.length (ke r l).out ∧ contLe (List.length (ke r (List.take k l)).out) (5 : Nat) (cellsOf' encR (ke r (List.take k l)).out) (cellsOf' encR (ke r l).out)) ∧ (List.length (ke r (List.take k l)).to = List.length (ke r l).to ∧ contLe (List.length (ke r (List.take k l)).to) (1 : Nat) (cellsOf' encU (ke r (List.take k l)).to) (cellsOf' encU (ke r l).to)) ∧ True) ∧ true = true)
set_option maxRecDepth 1000000 in
theorem vcKpL_eq (b : Bool) (r : Rng) (l : List Rec) (k : Nat) : (loopVC Tryd.prog (kpH r l k) 20 6 (fun k => l.length - k) (fun k => kpT b l (ke r (l.take k)) k) (fun k => kpM r (ke r (l.take k))) jX (fun _ => .ret ()) (kpS r (ke r l)) k) = vcKpL b r l k := by kernel_rfl
def keR (s : Ke) : T An := .ret (.tup [.own 0 5 0 s.out.length, .own 1 1 0 s.to.length], [rowR s.out, rowU s.to], [])
def Ke.end (s : Ke) : Ke := ⟨s.out, s.to ++ [IntKind.u64.wrap (s.out.length : Nat)]⟩
def keT (r : Rng) (l : List Rec) : T An := .ite (isLog l && chkK r == 0) (keR (ke r l).end) (.ret (.tup [.s (.slice none 0 0), .s (.slice none 0 0)], [], []))
noncomputable def keH (b : Bool) (r : Rng) (l : List Rec) : HintsT Tryd.prog := hh _ (lp1 20 6 (jobOf (fun k => kpT b l (ke r (l.take k)) k) (fun k => kpM r (ke r (l.take k))) jX (fun _ => .ret ()) (kpS r (ke r l)) 0) noLp) (cs1 20 1 1 (lgC b l) (cs1 20 1 5 (chkC r) noCs)) (op1 20 3 0 (.row 38 5) noOp)
def vcKeep (b : Bool) (r : Rng) (l : List Rec) : Prop :=
  ((b = b ∧ List.length l = List.length l ∧ contLe (List.length l) (5 : Nat) (cellsOf' encR l) (cellsOf' encR l)) ∧ True) ∧ True ∧ List.length l ≤ (9223372036854775806 : Nat) ∧ ((!isLog l) = true → ((isLog l && chkK r == (0 : Int)) = true → (False ∧ False ∧ True) ∧ False) ∧ ((isLog l && chkK r == (0 : Int)) = false → (True ∧ True ∧ True) ∧ True)) ∧ ((!isLog l) = false → ((r.lo = r.lo ∧ r.hi = r.hi ∧ True) ∧ True) ∧ True ∧ ((chkK r != (0 : Int)) = true → ((isLog l && chkK r == (0 : Int)) = true → (False ∧ False ∧ True) ∧ False) ∧ ((isLog l && chkK r == (0 : Int)) = false → (True ∧ True ∧ True) ∧ True)) ∧ ((chkK r != (0 : Int)) = false → (0 : Int) ≤ (0 : Int) ∧ (0 : Int) ≤ IntKind.wrap IntKind.i64 ((↑(List.length l) : Int) + (1 : Int)) ∧ (8 : Int) * IntKind.wrap IntKind.i64 ((↑(List.length l) : Int) + (1 : Int)) ≤ (281474976710656 : Int) ∧ IntKind.wrap IntKind.i64 ((↑(List.length l) : Int) + (1 : Int)) ≤ (9223372036854775807 : Int) ∧ ((((0 : Nat) = (0 : Nat) ∧ (0 : Nat) = (0 : Nat)) ∧ ((0 : Nat) = (0 : Nat) ∧ (0 : Nat) = (0 : Nat)) ∧ ((0 : Nat) = (0 : Nat) ∧ (0 : Nat) = (0 : Nat)) ∧ (b = b ∧ List.length l = List.length l ∧ contLe (List.length l) (5 : Nat) (cellsOf' encR l) (cellsOf' encR l)) ∧ (↑(List.length l) : Int) = (↑(List.length l) : Int) ∧ (0 : Int) = (0 : Int) ∧ True) ∧ ((r.lo = r.lo ∧ r.hi = r.hi ∧ True) ∧ ((0 : Nat) = (0 : Nat) ∧ contLe (0 : Nat) (5 : Nat) (fun (x x_1 : Nat) => AV.junk) (cellsOf' encR [])) ∧ ((0 : Nat) = (0 : Nat) ∧ contLe (0 : Nat) (1 : Nat) (fun (x j : Nat) => Ax.get [AV.s (Value.int IntKind.u64 (0 : Int))] j) (cellsOf' encU [])) ∧ True) ∧ true = true) ∧ LoopOk Tryd.prog (20 : Nat) (6 : Nat) (loopAt Tryd.prog (20 : Nat) (6 : Nat)) { t := kpT b l (ke r (List.take (0 : Nat) l)) (0 : Nat), m := kpM r (ke r (List.take (0 : Nat) l)), mv := [] : St } (T.map (lout jX (kpS r (ke r l))) ((fun (x : Nat) => T.ret ()) (0 : Nat))) ∧ (decide (List.length (ke r l).to = List.length (ke r l).to) && decide (List.length (ke r l).to + (1 : Nat) ≤ (9223372036854775807 : Nat)) && decide ((List.length (ke r l).to + (1 : Nat)) * (8 : Nat) ≤ (140737488355328 : Nat))) = true ∧ ((isLog l && chkK r == (0 : Int)) = true → (((0 : Nat) = (0 : Nat) ∧ List.length (ke r l).out = List.length (ke r l).out) ∧ ((0 : Nat) = (0 : Nat) ∧ List.length (ke r l).to + (1 : Nat) = List.length ((ke r l).to ++ [IntKind.wrap IntKind.u64 (↑(List.length (ke r l).out) : Int)])) ∧ True) ∧ (List.length (ke r l).out = List.length (ke r l).out ∧ contLe (List.length (ke r l).out) (5 : Nat) (cellsOf' encR (ke r l).out) (cellsOf' encR (ke r l).out)) ∧ (List.length (ke r l).to + (1 : Nat) = List.length ((ke r l).to ++ [IntKind.wrap IntKind.u64 (↑(List.length (ke r l).out) : Int)]) ∧ contLe (List.length (ke r l).to + (1 : Nat)) (1 : Nat) (appRow (List.length (ke r l).to) (cellsOf' encU (ke r l).to) fun (k j : Nat) => Ax.get [AV.y (Value.int IntKind.u64 (IntKind.wrap IntKind.u64 (↑(List.length (ke r l).out) : Int)))] (k * (1 : Nat) + j)) (cellsOf' encU ((ke r l).to ++ [IntKind.wrap IntKind.u64 (↑(List.length (ke r l).out) : Int)]))) ∧ True) ∧ ((isLog l && chkK r == (0 : Int)) = false → False)))
set_option maxRecDepth 1000000 in
theorem vcKeep_eq (b : Bool) (r : Rng) (l : List Rec) : (ctrVC Tryd.prog (keH b r l) 20 [encRs b l, .agg (encG r)] [] (keT r l)) = vcKeep b r l := by kernel_rfl
def krT (b : Bool) (l : List Rec) (s : Ke) (k : Nat) : List AV := mkT 57 [(0, encRs b l), (3, .ptr 0 0 0 0), (7, .own 1 5 0 s.out.length), (8, .own 2 1 0 s.to.length), (9, .y (.int .i64 k))]
def krS (r : Rng) (s : Ke) (_ : Unit) : Exit × List AV × List Blk := (.exit 0, mkT 57 [(7, .own 1 5 0 s.out.length), (8, .own 2 1 0 s.to.length)], kpM r s)
noncomputable def krH (r : Rng) (l : List Rec) (k : Nat) : HintsT Tryd.prog := hh _ noLp (cs1 43 10 6 (has2C r (l.getD k default).key) (cs1 43 12 7 (atC (l.getD k default) (ke r (l.take k)).out.length) noCs)) noOp
def vcKrL (b : Bool) (r : Rng) (l : List Rec) (k : Nat) : Prop :=
  (decide ((↑k : Int) < (↑(List.length l) : Int)) = true → (decide (List.length (ke r (List.take k l)).to = List.length (ke r (List.take k l)).to) && decide (List.length (ke r (List.take k l)).to + (1 : Nat) ≤ (9223372036854775807 : Nat)) && decide ((List.length (ke r (List.take k l)).to + (1 : Nat)) * (8 : Nat) ≤ (140737488355328 : Nat))) = true ∧ (true && decide ((↑k : Int) < (↑(List.length l) : Int))) = true ∧ ((r.lo = r.lo ∧ r.hi = r.hi ∧ True) ∧ (List.getD l (Int.toNat (↑k : Int)) (@default Rec instInhabitedRec)).key = (List.getD l k (@default Rec instInhabitedRec)).key ∧ True) ∧ True ∧ (hasK r (List.getD l k (@default Rec instInhabitedRec)).key = true → (true && decide ((↑k : Int) < (↑(List.length l) : Int))) = true ∧ (((List.getD l (Int.toNat (↑k : Int)) (@default Rec instInhabitedRec)).off = (List.getD l k (@default Rec instInhabitedRec)).off ∧ (List.getD l (Int.toNat (↑k : Int)) (@default Rec instInhabitedRec)).key = (List.getD l k (@default Rec instInhabitedRec)).key ∧ (true = true ∧ List.length (List.getD l (Int.toNat (↑k : Int)) (@default Rec instInhabitedRec)).val = List.length (List.getD l k (@default Rec instInhabitedRec)).val ∧ contLe (List.length (List.getD l (Int.toNat (↑k : Int)) (@default Rec instInhabitedRec)).val) (1 : Nat) (cellsOf' encB (List.getD l (Int.toNat (↑k : Int)) (@default Rec instInhabitedRec)).val) (cellsOf' encB (List.getD l k (@default Rec instInhabitedRec)).val)) ∧ (List.getD l (Int.toNat (↑k : Int)) (@default Rec instInhabitedRec)).prod = (List.getD l k (@default Rec instInhabitedRec)).prod ∧ (List.getD l (Int.toNat (↑k : Int)) (@default Rec instInhabitedRec)).seq = (List.getD l k (@default Rec instInhabitedRec)).seq ∧ True) ∧ (↑(List.length (ke r (List.take k l)).out) : Int) = (↑(List.length (ke r (List.take k l)).out) : Int) ∧ True) ∧ True ∧ List.length (List.getD l k (@default Rec instInhabitedRec)).val ≤ (140737488355328 : Nat) ∧ (decide (List.length (ke r (List.take k l)).out = List.length (ke r (List.take k l)).out) && decide (List.length (ke r (List.take k l)).out + (1 : Nat) ≤ (9223372036854775807 : Nat)) && decide ((List.length (ke r (List.take k l)).out + (1 : Nat)) * (64 : Nat) ≤ (140737488355328 : Nat))) = true ∧ ∃ (j : Nat), List.length l - j < List.length l - k ∧ (((b = b ∧ List.length l = List.length l ∧ contLe (List.length l) (5 : Nat) (cellsOf' encR l) (cellsOf' encR l)) ∧ ((0 : Nat) = (0 : Nat) ∧ (0 : Nat) = (0 : Nat)) ∧ ((0 : Nat) = (0 : Nat) ∧ List.length (ke r (List.take k l)).out + (1 : Nat) = List.length (ke r (List.take j l)).out) ∧ ((0 : Nat) = (0 : Nat) ∧ List.length (ke r (List.take k l)).to + (1 : Nat) = List.length (ke r (List.take j l)).to) ∧ IntKind.wrap IntKind.i64 ((↑k : Int) + (1 : Int)) = (↑j : Int) ∧ True) ∧ ((r.lo = r.lo ∧ r.hi = r.hi ∧ True) ∧ (List.length (ke r (List.take k l)).out + (1 : Nat) = List.length (ke r (List.take j l)).out ∧ contLe (List.length (ke r (List.take k l)).out + (1 : Nat)) (5 : Nat) (appRow (List.length (ke r (List.take k l)).out) (cellsOf' encR (ke r (List.take k l)).out) fun (k_1 j : Nat) => Ax.get [AV.y (Value.int IntKind.u64 (IntKind.wrap IntKind.u64 (↑(List.length (ke r (List.take k l)).out) : Int))), AV.y (Value.string (List.getD l k (@default Rec instInhabitedRec)).key), AV.ys true (1 : Nat) (List.length (List.getD l k (@default Rec instInhabitedRec)).val) (cellsOf' encB (List.getD l k (@default Rec instInhabitedRec)).val), AV.y (Value.int IntKind.u64 (List.getD l k (@default Rec instInhabitedRec)).prod), AV.y (Value.int IntKind.u64 (List.getD l k (@default Rec instInhabitedRec)).seq)] (k_1 * (5 : Nat) + j)) (cellsOf' encR (ke r (List.take j l)).out)) ∧ (List.length (ke r (List.take k l)).to + (1 : Nat) = List.length (ke r (List.take j l)).to ∧ contLe (List.length (ke r (List.take k l)).to + (1 : Nat)) (1 : Nat) (appRow (List.length (ke r (List.take k l)).to) (cellsOf' encU (ke r (List.take k l)).to) fun (k_1 j : Nat) => Ax.get [AV.y (Value.int IntKind.u64 (IntKind.wrap IntKind.u64 (↑(List.length (ke r (List.take k l)).out) : Int)))] (k_1 * (1 : Nat) + j)) (cellsOf' encU (ke r (List.take j l)).to)) ∧ True) ∧ true = true) ∧ true = true ∧ () = ()) ∧ (hasK r (List.getD l k (@default Rec instInhabitedRec)).key = false → ∃ (j : Nat), List.length l - j < List.length l - k ∧ (((b = b ∧ List.length l = List.length l ∧ contLe (List.length l) (5 : Nat) (cellsOf' encR l) (cellsOf' encR l)) ∧ ((0 : Nat) = (0 : Nat) ∧ (0 : Nat) = (0 : Nat)) ∧ ((0 : Nat) = (0 : Nat) ∧ List.length (ke r (List.take k l)).out = List.length (ke r (List.take j l)).out) ∧ ((0 : Nat) = (0 : Nat) ∧ List.length (ke r (List.take k l)).to + (1 : Nat) = List.length (ke r (List.take j l)).to) ∧ IntKind.wrap IntKind.i64 ((↑k : Int) + (1 : Int)) = (↑j : Int) ∧ True) ∧ ((r.lo = r.lo ∧ r.hi = r.hi ∧ True) ∧ (List.length (ke r (List.take k l)).out = List.length (ke r (List.take j l)).out ∧ contLe (List.length (ke r (List.take k l)).out) (5 : Nat) (cellsOf' encR (ke r (List.take k l)).out) (cellsOf' encR (ke r (List.take j l)).out)) ∧ (List.length (ke r (List.take k l)).to + (1 : Nat) = List.length (ke r (List.take j l)).to ∧ contLe (List.length (ke r (List.take k l)).to + (1 : Nat)) (1 : Nat) (appRow (List.length (ke r (List.take k l)).to) (cellsOf' encU (ke r (List.take k l)).to) fun (k_1 j : Nat) => Ax.get [AV.y (Value.int IntKind.u64 (IntKind.wrap IntKind.u64 (↑(List.length (ke r (List.take k l)).out) : Int)))] (k_1 * (1 : Nat) + j)) (cellsOf' encU (ke r (List.take j l)).to)) ∧ True) ∧ true = true) ∧ true = true ∧ () = ())) ∧ (decide ((↑k : Int) < (↑(List.length l) : Int)) = false → (((0 : Nat) = (0 : Nat) ∧ List.length (ke r (List.take k l)).out = List.length (ke r l).out) ∧ ((0 : Nat) = (0 : Nat) ∧ List.length (ke r (List.take k l)).to = List.length (ke r l).to) ∧ True) ∧ ((r.lo = r.lo ∧ r.hi = r.hi ∧ True) ∧ (List.length (ke r (List.take k l)).out = List.length (ke r l).out ∧ contLe (List.length (ke r (List.take k l)).out) (5 : Nat) (cellsOf' encR (ke r (List.take k l)).out) (cellsOf' encR (ke r l).out)) ∧ (List.length (ke r (List.take k l)).to = List.length (ke r l).to ∧ contLe (List.length (ke r (List.take k l)).to) (1 : Nat) (cellsOf' encU (ke r (List.take k l)).to) (cellsOf' encU (ke r l).to)) ∧ True) ∧ true = true)
set_option maxRecDepth 1000000 in
theorem vcKrL_eq (b : Bool) (r : Rng) (l : List Rec) (k : Nat) : (loopVC Tryd.prog (krH r l k) 43 7 (fun k => l.length - k) (fun k => krT b l (ke r (l.take k)) k) (fun k => kpM r (ke r (l.take k))) jX (fun _ => .ret ()) (krS r (ke r l)) k) = vcKrL b r l k := by kernel_rfl
noncomputable def keH2 (b : Bool) (r : Rng) (l : List Rec) : HintsT Tryd.prog := hh _ (lp1 43 7 (jobOf (fun k => krT b l (ke r (l.take k)) k) (fun k => kpM r (ke r (l.take k))) jX (fun _ => .ret ()) (krS r (ke r l)) 0) noLp) (cs1 43 1 1 (lrC b l) (cs1 43 2 4 (chk2C r) noCs)) (op1 43 4 0 (.row 38 5) (op1 43 5 0 (.row 24 1) noOp))
def vcKeep2 (b : Bool) (r : Rng) (l : List Rec) : Prop :=
  ((b = b ∧ List.length l = List.length l ∧ contLe (List.length l) (5 : Nat) (cellsOf' encR l) (cellsOf' encR l)) ∧ True) ∧ True ∧ List.length l ≤ (9223372036854775806 : Nat) ∧ ((!isLog l) = true → ((isLog l && chkK r == (0 : Int)) = true → (False ∧ False ∧ True) ∧ False) ∧ ((isLog l && chkK r == (0 : Int)) = false → (True ∧ True ∧ True) ∧ True)) ∧ ((!isLog l) = false → ((r.lo = r.lo ∧ r.hi = r.hi ∧ True) ∧ True) ∧ True ∧ ((chkK r != (0 : Int)) = true → ((isLog l && chkK r == (0 : Int)) = true → (False ∧ False ∧ True) ∧ False) ∧ ((isLog l && chkK r == (0 : Int)) = false → (True ∧ True ∧ True) ∧ True)) ∧ ((chkK r != (0 : Int)) = false → (((b = b ∧ List.length l = List.length l ∧ contLe (List.length l) (5 : Nat) (cellsOf' encR l) (cellsOf' encR l)) ∧ ((0 : Nat) = (0 : Nat) ∧ (0 : Nat) = (0 : Nat)) ∧ ((0 : Nat) = (0 : Nat) ∧ (0 : Nat) = (0 : Nat)) ∧ ((0 : Nat) = (0 : Nat) ∧ (0 : Nat) = (0 : Nat)) ∧ (0 : Int) = (0 : Int) ∧ True) ∧ ((r.lo = r.lo ∧ r.hi = r.hi ∧ True) ∧ ((0 : Nat) = (0 : Nat) ∧ contLe (0 : Nat) (5 : Nat) (fun (x x_1 : Nat) => AV.junk) (cellsOf' encR [])) ∧ ((0 : Nat) = (0 : Nat) ∧ contLe (0 : Nat) (1 : Nat) (fun (x x_1 : Nat) => AV.junk) (cellsOf' encU [])) ∧ True) ∧ true = true) ∧ LoopOk Tryd.prog (43 : Nat) (7 : Nat) (loopAt Tryd.prog (43 : Nat) (7 : Nat)) { t := krT b l (ke r (List.take (0 : Nat) l)) (0 : Nat), m := kpM r (ke r (List.take (0 : Nat) l)), mv := [] : St } (T.map (lout jX (krS r (ke r l))) ((fun (x : Nat) => T.ret ()) (0 : Nat))) ∧ (decide (List.length (ke r l).to = List.length (ke r l).to) && decide (List.length (ke r l).to + (1 : Nat) ≤ (9223372036854775807 : Nat)) && decide ((List.length (ke r l).to + (1 : Nat)) * (8 : Nat) ≤ (140737488355328 : Nat))) = true ∧ ((isLog l && chkK r == (0 : Int)) = true → (((0 : Nat) = (0 : Nat) ∧ List.length (ke r l).out = List.length (ke r l).out) ∧ ((0 : Nat) = (0 : Nat) ∧ List.length (ke r l).to + (1 : Nat) = List.length ((ke r l).to ++ [IntKind.wrap IntKind.u64 (↑(List.length (ke r l).out) : Int)])) ∧ True) ∧ (List.length (ke r l).out = List.length (ke r l).out ∧ contLe (List.length (ke r l).out) (5 : Nat) (cellsOf' encR (ke r l).out) (cellsOf' encR (ke r l).out)) ∧ (List.length (ke r l).to + (1 : Nat) = List.length ((ke r l).to ++ [IntKind.wrap IntKind.u64 (↑(List.length (ke r l).out) : Int)]) ∧ contLe (List.length (ke r l).to + (1 : Nat)) (1 : Nat) (appRow (List.length (ke r l).to) (cellsOf' encU (ke r l).to) fun (k j : Nat) => Ax.get [AV.y (Value.int IntKind.u64 (IntKind.wrap IntKind.u64 (↑(List.length (ke r l).out) : Int)))] (k * (1 : Nat) + j)) (cellsOf' encU ((ke r l).to ++ [IntKind.wrap IntKind.u64 (↑(List.length (ke r l).out) : Int)]))) ∧ True) ∧ ((isLog l && chkK r == (0 : Int)) = false → False)))
set_option maxRecDepth 1000000 in
theorem vcKeep2_eq (b : Bool) (r : Rng) (l : List Rec) : (ctrVC Tryd.prog (keH2 b r l) 43 [encRs b l, .agg (encG r)] [] (keT r l)) = vcKeep2 b r l := by kernel_rfl
end Go.Proofs.YtckklclehofddaaDoor

/-! Records: the contracts of Keep. -/
namespace Go.Proofs.YtckklclehofddaaDoor
open Go.Ax
set_option maxRecDepth 1000000
theorem log_val {l : List Rec} (h : isLog l = true) {k : Nat} (hk : k < l.length) : (l.getD k default).val.length ≤ 256 := by
  simp only [isLog, Bool.and_eq_true] at h
  have h1 := h.1
  unfold logFrom at h1
  rw [List.all_eq_true] at h1
  have h2 := h1 k (by simp; omega)
  simp only [okR, Bool.and_eq_true, decide_eq_true_eq] at h2
  exact h2.2.2
theorem log_len {l : List Rec} (h : isLog l = true) : l.length ≤ 4096 := by
  simp only [isLog, Bool.and_eq_true, decide_eq_true_eq] at h
  exact h.2
theorem ke_len (r : Rng) (l : List Rec) : ∀ k, k ≤ l.length → (ke r (l.take k)).to.length = k ∧ (ke r (l.take k)).out.length ≤ k := by
  intro k
  induction k with
  | zero => intro _; simp [ke]
  | succ k ih =>
    intro hk
    obtain ⟨h1, h2⟩ := ih (by omega)
    rw [ke_step (by omega)]
    unfold Ke.step
    constructor
    · simp [h1]
    · dsimp only
      split
      · simp; omega
      · omega
theorem ke_len' (r : Rng) (l : List Rec) : (ke r l).to.length = l.length ∧ (ke r l).out.length ≤ l.length := by
  have := ke_len r l l.length (Nat.le_refl _)
  rwa [List.take_length] at this
theorem kp_loop (b : Bool) (r : Rng) (l : List Rec) (hl : isLog l = true) (k : Nat) : LoopOk Tryd.prog 20 6 (loopAt Tryd.prog 20 6) ⟨kpT b l (ke r (l.take k)) k, kpM r (ke r (l.take k)), []⟩ (T.map (lout jX (kpS r (ke r l))) (.ret ())) := by
  refine loop_vcH (o := fun _ => .ret ()) (stT := fun k => kpT b l (ke r (l.take k)) k) (stM := fun k => kpM r (ke r (l.take k))) Tryd.mixed (fun _ => rfl) (fun k => (vcKpL_eq b r l k).mpr ?_) k
  unfold vcKpL
  have hn := log_len hl
  by_cases h : k < l.length
  · obtain ⟨h1, h2⟩ := ke_len r l k (by omega)
    have hz : decide ((k : Int) < l.length) = true := by simp; omega
    have hv := log_val hl h
    have hs := ke_step (r := r) h
    have hw : IntKind.i64.wrap ((k : Int) + 1) = ((k + 1 : Nat) : Int) := by rw [wrap_i64 (by omega) (by omega)]; omega
    simp only [hz, Int.toNat_natCast]
    generalize l.getD k default = x at *
    generalize ke r (l.take k) = s at *
    simp
    refine ⟨⟨by omega, by omega⟩, fun hh => ⟨by omega, ⟨by omega, by omega⟩, Exists.intro (k + 1) ?_⟩, fun hh => Exists.intro (k + 1) ?_⟩
    · have a1 : contLe (s.to.length + 1) 1 (appRow s.to.length (cellsOf' encU s.to) fun k j => Ax.get [AV.y (Value.int IntKind.u64 (IntKind.u64.wrap ↑s.out.length))] (k + j)) (cellsOf' encU (s.to ++ [IntKind.u64.wrap ↑s.out.length])) := app1_le1 (le0_refl _)
      rw [hs]
      simp [Ke.step, hh]
      refine ⟨by omega, hw, app1_le rfl (rec_le (le0_refl _) (le0_refl _) (le0_refl _) (le0_refl _) (le0_refl _)), a1⟩
    · have a1 : contLe (s.to.length + 1) 1 (appRow s.to.length (cellsOf' encU s.to) fun k j => Ax.get [AV.y (Value.int IntKind.u64 (IntKind.u64.wrap ↑s.out.length))] (k + j)) (cellsOf' encU (s.to ++ [IntKind.u64.wrap ↑s.out.length])) := app1_le1 (le0_refl _)
      rw [hs]
      simp [Ke.step, hh]
      refine ⟨by omega, hw, a1⟩
  · have hz : decide ((k : Int) < l.length) = false := by simp; omega
    rw [List.take_of_length_le (by omega)]
    simp [hz]
    exact fun e => absurd e h
theorem kr_loop (b : Bool) (r : Rng) (l : List Rec) (hl : isLog l = true) (k : Nat) : LoopOk Tryd.prog 43 7 (loopAt Tryd.prog 43 7) ⟨krT b l (ke r (l.take k)) k, kpM r (ke r (l.take k)), []⟩ (T.map (lout jX (krS r (ke r l))) (.ret ())) := by
  refine loop_vcH (o := fun _ => .ret ()) (stT := fun k => krT b l (ke r (l.take k)) k) (stM := fun k => kpM r (ke r (l.take k))) Tryd.mixed (fun _ => rfl) (fun k => (vcKrL_eq b r l k).mpr ?_) k
  unfold vcKrL
  have hn := log_len hl
  by_cases h : k < l.length
  · obtain ⟨h1, h2⟩ := ke_len r l k (by omega)
    have hz : decide ((k : Int) < l.length) = true := by simp; omega
    have hv := log_val hl h
    have hs := ke_step (r := r) h
    have hw : IntKind.i64.wrap ((k : Int) + 1) = ((k + 1 : Nat) : Int) := by rw [wrap_i64 (by omega) (by omega)]; omega
    simp only [hz, Int.toNat_natCast]
    generalize l.getD k default = x at *
    generalize ke r (l.take k) = s at *
    simp
    refine ⟨⟨by omega, by omega⟩, fun hh => ⟨by omega, ⟨by omega, by omega⟩, Exists.intro (k + 1) ?_⟩, fun hh => Exists.intro (k + 1) ?_⟩
    · have a1 : contLe (s.to.length + 1) 1 (appRow s.to.length (cellsOf' encU s.to) fun k j => Ax.get [AV.y (Value.int IntKind.u64 (IntKind.u64.wrap ↑s.out.length))] (k + j)) (cellsOf' encU (s.to ++ [IntKind.u64.wrap ↑s.out.length])) := app1_le1 (le0_refl _)
      rw [hs]
      simp [Ke.step, hh]
      refine ⟨by omega, hw, app1_le rfl (rec_le (le0_refl _) (le0_refl _) (le0_refl _) (le0_refl _) (le0_refl _)), a1⟩
    · have a1 : contLe (s.to.length + 1) 1 (appRow s.to.length (cellsOf' encU s.to) fun k j => Ax.get [AV.y (Value.int IntKind.u64 (IntKind.u64.wrap ↑s.out.length))] (k + j)) (cellsOf' encU (s.to ++ [IntKind.u64.wrap ↑s.out.length])) := app1_le1 (le0_refl _)
      rw [hs]
      simp [Ke.step, hh]
      refine ⟨by omega, hw, a1⟩
  · have hz : decide ((k : Int) < l.length) = false := by simp; omega
    rw [List.take_of_length_le (by omega)]
    simp [hz]
    exact fun e => absurd e h
theorem keep_c (b : Bool) (r : Rng) (l : List Rec) (h1 : l.length ≤ 4611686018427387903) : (keT r l).Sat (ACall' Tryd.prog 20 [encRs b l, .agg (encG r)] []) := by
  refine ctr_vc (ht := keH b r l) Tryd.mixed rfl ?_
  rw [vcKeep_eq b r l]
  unfold vcKeep
  cases hl : isLog l
  · simp; omega
  · have hn := log_len hl
    have lp := kp_loop b r l hl 0
    rw [List.take_zero] at lp
    obtain ⟨q1, q2⟩ := ke_len' r l
    have hw : IntKind.i64.wrap ((l.length : Int) + 1) = (l.length : Int) + 1 := wrap_i64 (by omega) (by omega)
    have a1 : contLe ((ke r l).to.length + 1) 1 (appRow (ke r l).to.length (cellsOf' encU (ke r l).to) fun k j => Ax.get [AV.y (Value.int IntKind.u64 (IntKind.u64.wrap ↑(ke r l).out.length))] (k + j)) (cellsOf' encU ((ke r l).to ++ [IntKind.u64.wrap ↑(ke r l).out.length])) := app1_le1 (le0_refl _)
    simp only [hw]
    by_cases hc : chkK r = 0
    · simp [hc, lp, Ke.end, a1]
      omega
    · simp [hc]; omega
theorem keepr_c (b : Bool) (r : Rng) (l : List Rec) (h1 : l.length ≤ 4611686018427387903) : (keT r l).Sat (ACall' Tryd.prog 43 [encRs b l, .agg (encG r)] []) := by
  refine ctr_vc (ht := keH2 b r l) Tryd.mixed rfl ?_
  rw [vcKeep2_eq b r l]
  unfold vcKeep2
  cases hl : isLog l
  · simp; omega
  · have hn := log_len hl
    have lp := kr_loop b r l hl 0
    rw [List.take_zero] at lp
    obtain ⟨q1, q2⟩ := ke_len' r l
    have a1 : contLe ((ke r l).to.length + 1) 1 (appRow (ke r l).to.length (cellsOf' encU (ke r l).to) fun k j => Ax.get [AV.y (Value.int IntKind.u64 (IntKind.u64.wrap ↑(ke r l).out.length))] (k + j)) (cellsOf' encU ((ke r l).to ++ [IntKind.u64.wrap ↑(ke r l).out.length])) := app1_le1 (le0_refl _)
    by_cases hc : chkK r = 0
    · simp [hc, lp, Ke.end, a1]
      omega
    · simp [hc]; omega
end Go.Proofs.YtckklclehofddaaDoor

/-! Records: the law RecordsWhole. -/
namespace Go.Proofs.YtckklclehofddaaDoor
open Go.Ax
set_option maxRecDepth 1000000
def emB : ByteArray := ByteArray.empty
def allG : Rng := ⟨emB, emB⟩
def toL (n : Nat) : List Int := (List.range n).map fun (k : Nat) => IntKind.u64.wrap k
theorem to_len (n : Nat) : (toL n).length = n := by simp [toL]
theorem to_step (n : Nat) : toL (n + 1) = toL n ++ [IntKind.u64.wrap (n : Nat)] := by simp [toL, List.range_succ]
theorem to_at {n k : Nat} (h : k < n) : (toL n).getD k 0 = IntKind.u64.wrap (k : Nat) := by simp [toL, List.getElem?_eq_getElem, h]
theorem log_at {l : List Rec} (h : isLog l = true) {k : Nat} (hk : k < l.length) : (l.getD k default).off = IntKind.u64.wrap (k : Nat) ∧ (l.getD k default).key.size ≤ 32 := by
  simp only [isLog, Bool.and_eq_true] at h
  have h1 := h.1
  unfold logFrom at h1
  rw [List.all_eq_true] at h1
  have h2 := h1 k (by simp; omega)
  simp only [okR, Bool.and_eq_true, decide_eq_true_eq, Bool.not_eq_true', bne_eq_false_iff_eq] at h2
  exact ⟨h2.1, h2.2.1⟩
theorem to_self {x : Rec} {o : Int} (h : x.off = o) : x.to o = x := by
  cases x
  simp [Rec.to] at h ⊢
  exact h.symm
theorem take_one {l : List Rec} {k : Nat} (h : k < l.length) : l.take (k + 1) = l.take k ++ [l.getD k default] := by
  rw [List.take_add_one, List.getElem?_eq_getElem h]
  simp [List.getElem?_eq_getElem h]
theorem has_all (k : ByteArray) (h : k.size ≤ 32) : hasK allG k = true := by
  have h1 : chkK allG = 0 := by decide
  have h2 : decide ((k.size : Int) ≤ 32) = true := by simp; omega
  have h3 : (lt allG.lo k || allG.lo.data.toList == k.data.toList) = true := by
    show (Op.bytesLess [] k.data.toList || ([] : List UInt8) == k.data.toList) = true
    cases k.data.toList <;> rfl
  have h4 : (allG.hi.data.toList == []) = true := rfl
  unfold hasK
  rw [h1, h2, h3, h4]
  rfl
theorem ke_all {l : List Rec} (h : isLog l = true) : ∀ k, k ≤ l.length → ke allG (l.take k) = ⟨l.take k, toL k⟩ := by
  intro k
  induction k with
  | zero => intro _; rfl
  | succ k ih =>
    intro hk
    obtain ⟨h1, h2⟩ := log_at h (show k < l.length by omega)
    rw [ke_step (by omega), ih (by omega), take_one (by omega), to_step]
    unfold Ke.step
    have hl : (l.take k).length = k := by rw [List.length_take]; omega
    simp only [has_all _ h2, if_true, hl]
    rw [to_self h1]
theorem joinA {l : List Rec} (h : isLog l = true) (tb : List Int) : ∀ n k, n + k = l.length → joinN n ⟨l.drop k, [], l.take k, toL k, tb⟩ = some ⟨[], [], l, toL l.length, tb⟩
  | 0, k, hk => by
    obtain rfl : k = l.length := by omega
    rw [joinN]
    simp
  | n + 1, k, hk => by
    rw [joinN]
    have hne : l.drop k = l.getD k default :: l.drop (k + 1) := by
      have := drop_cons (l := l) (k := k) (by omega)
      simpa using this
    have htA : Jo.tA ⟨l.drop k, [], l.take k, toL k, tb⟩ = true := by unfold Jo.tA; rw [hne]; rfl
    rw [if_pos htA]
    have hl : (l.take k).length = k := by rw [List.length_take]; omega
    obtain ⟨h1, _⟩ := log_at h (show k < l.length by omega)
    have : Jo.goA ⟨l.drop k, [], l.take k, toL k, tb⟩ = ⟨l.drop (k + 1), [], l.take (k + 1), toL (k + 1), tb⟩ := by
      unfold Jo.goA Jo.at
      rw [take_one (by omega), to_step, hl]
      congr 1
      · simp
      · congr 2
        rw [hne]
        exact to_self h1
    rw [this]
    exact joinA h tb n (k + 1) (by omega)
theorem joinB {l : List Rec} (h : isLog l = true) (ta : List Int) : ∀ n k, n + k = l.length → joinN n ⟨[], l.drop k, l.take k, ta, toL k⟩ = some ⟨[], [], l, ta, toL l.length⟩
  | 0, k, hk => by
    obtain rfl : k = l.length := by omega
    rw [joinN]
    simp
  | n + 1, k, hk => by
    rw [joinN]
    have hne : l.drop k = l.getD k default :: l.drop (k + 1) := by
      have := drop_cons (l := l) (k := k) (by omega)
      simpa using this
    have htA : Jo.tA ⟨[], l.drop k, l.take k, ta, toL k⟩ = false := by unfold Jo.tA; rfl
    have htB : Jo.tB ⟨[], l.drop k, l.take k, ta, toL k⟩ = true := by unfold Jo.tB; rw [hne]; rfl
    rw [if_neg (by simp [htA]), if_pos htB]
    have hl : (l.take k).length = k := by rw [List.length_take]; omega
    obtain ⟨h1, _⟩ := log_at h (show k < l.length by omega)
    have : Jo.goB ⟨[], l.drop k, l.take k, ta, toL k⟩ = ⟨[], l.drop (k + 1), l.take (k + 1), ta, toL (k + 1)⟩ := by
      unfold Jo.goB Jo.at
      rw [take_one (by omega), to_step, hl]
      congr 1
      · simp
      · congr 2
        rw [hne]
        exact to_self h1
    rw [this]
    exact joinB h ta n (k + 1) (by omega)
theorem run_l0 {l : List Rec} (h : isLog l = true) : (jo0 l []).run = some ⟨[], [], l, toL l.length, []⟩ := by
  have := joinA h [] l.length 0 (by omega)
  simpa [Jo.run, jo0, toL] using this
theorem run_0l {l : List Rec} (h : isLog l = true) : (jo0 [] l).run = some ⟨[], [], l, [], toL l.length⟩ := by
  have := joinB h [] l.length 0 (by omega)
  simpa [Jo.run, jo0, toL] using this
/-! the contracts, by the case -/
def wkT (i : Bool) (l : List Rec) : T An := match i with
  | true => keR ⟨l, toL (l.length + 1)⟩
  | false => .ret (.tup [.s (.slice none 0 0), .s (.slice none 0 0)], [], [])
def waT (i : Bool) (l : List Rec) : T An := match i with
  | true => joR ⟨[], [], l, toL (l.length + 1), [IntKind.u64.wrap (l.length : Nat)]⟩
  | false => joE 1
def wbT (i : Bool) (l : List Rec) : T An := match i with
  | true => joR ⟨[], [], l, [IntKind.u64.wrap (l.length : Nat)], toL (l.length + 1)⟩
  | false => joE 1
theorem nil_log : isLog [] = true := rfl
theorem wk_c (i : Bool) (b : Bool) (l : List Rec) (h : l.length ≤ 4611686018427387903) (hi : isLog l = i) : (wkT i l).Sat (ACall' Tryd.prog 20 [encRs b l, .agg (encG allG)] []) := by
  intro Q hq
  refine keep_c b allG l h Q ?_
  cases i
  · exact ⟨fun e => by rw [hi] at e; simp at e, fun _ => hq⟩
  · have e : ke allG l = ⟨l, toL l.length⟩ := by have := ke_all hi l.length (Nat.le_refl _); rwa [List.take_length] at this
    refine ⟨fun _ => ?_, fun e => by rw [hi] at e; exact absurd e (by decide)⟩
    show (keR (ke allG l).end).post Q
    rw [e]
    unfold Ke.end
    dsimp only
    rw [← to_step]
    exact hq
noncomputable def wkC (i : Bool) (b : Bool) (l : List Rec) : Ctr Tryd.prog := ⟨20, [encRs b l, .agg (encG allG)], [], .need (l.length ≤ 4611686018427387903 ∧ isLog l = i) (wkT i l), T.Sat.need fun h => wk_c i b l h.1 h.2⟩
end Go.Proofs.YtckklclehofddaaDoor

/-! Records: consumers: the conditions. -/
namespace Go.Proofs.YtckklclehofddaaDoor
open Go.Ax
set_option maxRecDepth 1000000
def coOk (l : List Con) (k : Nat) : Bool := nameOk (l.getD k default).name && !(decide (0 < k) && !lt (l.getD (k - 1) default).name (l.getD k default).name)
def coFrom (l : List Con) (k : Nat) : Bool := (List.range' k (l.length - k)).all fun j => coOk l j
theorem coFrom_end {l : List Con} {k : Nat} (h : l.length ≤ k) : coFrom l k = true := by
  unfold coFrom
  rw [show l.length - k = 0 by omega]; rfl
theorem coFrom_step {l : List Con} {k : Nat} (h : k < l.length) : coFrom l k = (coOk l k && coFrom l (k + 1)) := by
  unfold coFrom
  rw [show l.length - k = (l.length - (k + 1)) + 1 by omega, List.range'_succ]; rfl
def isCons (l : List Con) : Bool := coFrom l 0 && decide (l.length ≤ 64)
def coT (b : Bool) (l : List Con) (k : Nat) : List AV := mkT 35 [(0, encCs b l), (2, .s (.bool false)), (5, encCs b l), (6, .y (.int .i64 l.length)), (7, .y (.int .i64 k))]
def coS (b : Bool) (l : List Con) (r : Bool) : Exit × List AV × List Blk := match r with
  | true => (.exit 0, mkT 35 [(0, encCs b l)], [])
  | false => (.ret, mkT 35 [(2, .s (.bool false))], [])
def coO (l : List Con) (k : Nat) : T Bool := .ite (coFrom l k) (.ret true) (.ret false)
noncomputable def coHL (l : List Con) (k : Nat) : HintsT Tryd.prog := hh _ noLp (cs1 49 4 2 (nameC (l.getD k default).name) noCs) noOp
def vcCoL (b : Bool) (l : List Con) (k : Nat) : Prop :=
  (decide ((↑k : Int) < (↑(List.length l) : Int)) = true → (true && decide ((↑k : Int) < (↑(List.length l) : Int))) = true ∧ ((List.getD l (Int.toNat (↑k : Int)) (@default Con instInhabitedCon)).name = (List.getD l k (@default Con instInhabitedCon)).name ∧ True) ∧ True ∧ ((!nameOk (List.getD l k (@default Con instInhabitedCon)).name) = true → (coFrom l k = true → False) ∧ (coFrom l k = false → (false = false ∧ True) ∧ True ∧ true = true)) ∧ ((!nameOk (List.getD l k (@default Con instInhabitedCon)).name) = false → (decide ((0 : Int) < (↑k : Int)) = true → (decide ((0 : Int) ≤ IntKind.wrap IntKind.i64 ((↑k : Int) - (1 : Int))) && decide (IntKind.wrap IntKind.i64 ((↑k : Int) - (1 : Int)) < (↑(List.length l) : Int))) = true ∧ ((!Op.bytesLess (List.getD l (Int.toNat (IntKind.wrap IntKind.i64 ((↑k : Int) - (1 : Int)))) (@default Con instInhabitedCon)).name.data.toList (List.getD l (Int.toNat (↑k : Int)) (@default Con instInhabitedCon)).name.data.toList) = true → (coFrom l k = true → False) ∧ (coFrom l k = false → (false = false ∧ True) ∧ True ∧ true = true)) ∧ ((!Op.bytesLess (List.getD l (Int.toNat (IntKind.wrap IntKind.i64 ((↑k : Int) - (1 : Int)))) (@default Con instInhabitedCon)).name.data.toList (List.getD l (Int.toNat (↑k : Int)) (@default Con instInhabitedCon)).name.data.toList) = false → ∃ (j : Nat), List.length l - j < List.length l - k ∧ (((b = b ∧ List.length l = List.length l ∧ contLe (List.length l) (2 : Nat) (cellsOf' encC l) (cellsOf' encC l)) ∧ false = false ∧ (b = b ∧ List.length l = List.length l ∧ contLe (List.length l) (2 : Nat) (cellsOf' encC l) (cellsOf' encC l)) ∧ (↑(List.length l) : Int) = (↑(List.length l) : Int) ∧ IntKind.wrap IntKind.i64 ((↑k : Int) + (1 : Int)) = (↑j : Int) ∧ True) ∧ True ∧ true = true) ∧ true = true ∧ (coFrom l j = true → (coFrom l k = true → true = true) ∧ (coFrom l k = false → true = false)) ∧ (coFrom l j = false → (coFrom l k = true → false = true) ∧ (coFrom l k = false → false = false)))) ∧ (decide ((0 : Int) < (↑k : Int)) = false → ∃ (j : Nat), List.length l - j < List.length l - k ∧ (((b = b ∧ List.length l = List.length l ∧ contLe (List.length l) (2 : Nat) (cellsOf' encC l) (cellsOf' encC l)) ∧ false = false ∧ (b = b ∧ List.length l = List.length l ∧ contLe (List.length l) (2 : Nat) (cellsOf' encC l) (cellsOf' encC l)) ∧ (↑(List.length l) : Int) = (↑(List.length l) : Int) ∧ IntKind.wrap IntKind.i64 ((↑k : Int) + (1 : Int)) = (↑j : Int) ∧ True) ∧ True ∧ true = true) ∧ true = true ∧ (coFrom l j = true → (coFrom l k = true → true = true) ∧ (coFrom l k = false → true = false)) ∧ (coFrom l j = false → (coFrom l k = true → false = true) ∧ (coFrom l k = false → false = false))))) ∧ (decide ((↑k : Int) < (↑(List.length l) : Int)) = false → (coFrom l k = true → ((b = b ∧ List.length l = List.length l ∧ contLe (List.length l) (2 : Nat) (cellsOf' encC l) (cellsOf' encC l)) ∧ True) ∧ True ∧ true = true) ∧ (coFrom l k = false → False))
set_option maxRecDepth 1000000 in
theorem vcCoL_eq (b : Bool) (l : List Con) (k : Nat) : (loopVC Tryd.prog (coHL l k) 49 2 (fun k => l.length - k) (coT b l) (fun _ => []) [0] (coO l) (coS b l) k) = vcCoL b l k := by kernel_rfl
noncomputable def coH (b : Bool) (l : List Con) : HintsT Tryd.prog := hh _ (lp1 49 2 (jobOf (coT b l) (fun _ => []) [0] (coO l) (coS b l) 0) noLp) noCs noOp
def vcCo (b : Bool) (l : List Con) : Prop :=
  (((b = b ∧ List.length l = List.length l ∧ contLe (List.length l) (2 : Nat) (cellsOf' encC l) (cellsOf' encC l)) ∧ false = false ∧ (b = b ∧ List.length l = List.length l ∧ contLe (List.length l) (2 : Nat) (cellsOf' encC l) (cellsOf' encC l)) ∧ (↑(List.length l) : Int) = (↑(List.length l) : Int) ∧ (0 : Int) = (0 : Int) ∧ True) ∧ True ∧ true = true) ∧ LoopOk Tryd.prog (49 : Nat) (2 : Nat) (loopAt Tryd.prog (49 : Nat) (2 : Nat)) { t := coT b l (0 : Nat), m := [], mv := [] : St } (T.map (lout [(0 : Nat)] (coS b l)) (coO l (0 : Nat))) ∧ (coFrom l (0 : Nat) = true → decide ((↑(List.length l) : Int) ≤ (64 : Int)) = isCons l ∧ True) ∧ (coFrom l (0 : Nat) = false → false = isCons l ∧ True)
set_option maxRecDepth 1000000 in
theorem vcCo_eq (b : Bool) (l : List Con) : (ctrVC Tryd.prog (coH b l) 49 [encCs b l] [] (boolR (isCons l))) = vcCo b l := by kernel_rfl
def crT (b : Bool) (l : List Con) (k : Nat) : List AV := mkT 40 [(0, encCs b l), (2, .s (.bool false)), (3, .y (.int .i64 k))]
def crS (r : Bool) : Exit × List AV × List Blk := match r with
  | true => (.exit 0, mkT 40 [], [])
  | false => (.ret, mkT 40 [(2, .s (.bool false))], [])
noncomputable def crHL (l : List Con) (k : Nat) : HintsT Tryd.prog := hh _ noLp (cs1 39 6 5 (nmC (l.getD k default).name) noCs) noOp
def vcCrL (b : Bool) (l : List Con) (k : Nat) : Prop :=
  (decide ((↑k : Int) < (↑(List.length l) : Int)) = true → (true && decide ((↑k : Int) < (↑(List.length l) : Int))) = true ∧ ((List.getD l (Int.toNat (↑k : Int)) (@default Con instInhabitedCon)).name = (List.getD l k (@default Con instInhabitedCon)).name ∧ True) ∧ True ∧ ((!nameOk (List.getD l k (@default Con instInhabitedCon)).name) = true → (coFrom l k = true → False) ∧ (coFrom l k = false → (false = false ∧ True) ∧ True ∧ true = true)) ∧ ((!nameOk (List.getD l k (@default Con instInhabitedCon)).name) = false → (decide ((0 : Int) < (↑k : Int)) = true → (decide ((0 : Int) ≤ IntKind.wrap IntKind.i64 ((↑k : Int) - (1 : Int))) && decide (IntKind.wrap IntKind.i64 ((↑k : Int) - (1 : Int)) < (↑(List.length l) : Int))) = true ∧ (true && decide ((↑k : Int) < (↑(List.length l) : Int))) = true ∧ ((!Op.bytesLess (List.getD l (Int.toNat (IntKind.wrap IntKind.i64 ((↑k : Int) - (1 : Int)))) (@default Con instInhabitedCon)).name.data.toList (List.getD l (Int.toNat (↑k : Int)) (@default Con instInhabitedCon)).name.data.toList) = true → (coFrom l k = true → False) ∧ (coFrom l k = false → (false = false ∧ True) ∧ True ∧ true = true)) ∧ ((!Op.bytesLess (List.getD l (Int.toNat (IntKind.wrap IntKind.i64 ((↑k : Int) - (1 : Int)))) (@default Con instInhabitedCon)).name.data.toList (List.getD l (Int.toNat (↑k : Int)) (@default Con instInhabitedCon)).name.data.toList) = false → ∃ (j : Nat), List.length l - j < List.length l - k ∧ (((b = b ∧ List.length l = List.length l ∧ contLe (List.length l) (2 : Nat) (cellsOf' encC l) (cellsOf' encC l)) ∧ false = false ∧ IntKind.wrap IntKind.i64 ((↑k : Int) + (1 : Int)) = (↑j : Int) ∧ True) ∧ True ∧ true = true) ∧ true = true ∧ (coFrom l j = true → (coFrom l k = true → true = true) ∧ (coFrom l k = false → true = false)) ∧ (coFrom l j = false → (coFrom l k = true → false = true) ∧ (coFrom l k = false → false = false)))) ∧ (decide ((0 : Int) < (↑k : Int)) = false → ∃ (j : Nat), List.length l - j < List.length l - k ∧ (((b = b ∧ List.length l = List.length l ∧ contLe (List.length l) (2 : Nat) (cellsOf' encC l) (cellsOf' encC l)) ∧ false = false ∧ IntKind.wrap IntKind.i64 ((↑k : Int) + (1 : Int)) = (↑j : Int) ∧ True) ∧ True ∧ true = true) ∧ true = true ∧ (coFrom l j = true → (coFrom l k = true → true = true) ∧ (coFrom l k = false → true = false)) ∧ (coFrom l j = false → (coFrom l k = true → false = true) ∧ (coFrom l k = false → false = false))))) ∧ (decide ((↑k : Int) < (↑(List.length l) : Int)) = false → (coFrom l k = true → True ∧ True ∧ true = true) ∧ (coFrom l k = false → False))
set_option maxRecDepth 1000000 in
theorem vcCrL_eq (b : Bool) (l : List Con) (k : Nat) : (loopVC Tryd.prog (crHL l k) 39 4 (fun k => l.length - k) (crT b l) (fun _ => []) [0] (coO l) crS k) = vcCrL b l k := by kernel_rfl
noncomputable def crH (b : Bool) (l : List Con) : HintsT Tryd.prog := hh _ (lp1 39 4 (jobOf (crT b l) (fun _ => []) [0] (coO l) crS 0) noLp) noCs noOp
def vcCr (b : Bool) (l : List Con) : Prop :=
  (decide ((64 : Int) < (↑(List.length l) : Int)) = true → false = isCons l ∧ True) ∧ (decide ((64 : Int) < (↑(List.length l) : Int)) = false → (((b = b ∧ List.length l = List.length l ∧ contLe (List.length l) (2 : Nat) (cellsOf' encC l) (cellsOf' encC l)) ∧ false = false ∧ (0 : Int) = (0 : Int) ∧ True) ∧ True ∧ true = true) ∧ LoopOk Tryd.prog (39 : Nat) (4 : Nat) (loopAt Tryd.prog (39 : Nat) (4 : Nat)) { t := crT b l (0 : Nat), m := [], mv := [] : St } (T.map (lout [(0 : Nat)] crS) (coO l (0 : Nat))) ∧ (coFrom l (0 : Nat) = true → true = isCons l ∧ True) ∧ (coFrom l (0 : Nat) = false → false = isCons l ∧ True))
set_option maxRecDepth 1000000 in
theorem vcCr_eq (b : Bool) (l : List Con) : (ctrVC Tryd.prog (crH b l) 39 [encCs b l] [] (boolR (isCons l))) = vcCr b l := by kernel_rfl
/-! Read -/
def eqN (a b : ByteArray) : Bool := a.data.toList == b.data.toList
def findC (l : List Con) (s : ByteArray) : Option Con := l.find? fun x => eqN x.name s
def rxS (r : Bool × Nat) : Exit × List AV × List Blk := match r.1 with
  | true => (.ret, mkT 19 [(4, .y (.int .i64 r.2))], [])
  | false => (.exit 0, mkT 19 [], [])
def inC (l : List Con) (s : ByteArray) : Bool := l.any fun x => eqN x.name s
def rxO (l : List Con) (s : ByteArray) (k : Nat) : T (Bool × Nat) := .ite (inC (l.drop k) s) (.ret (true, k + (l.drop k).findIdx fun x => eqN x.name s)) (.ret (false, 0))
def readO (l : List Con) (s : ByteArray) : Int := ((findC l s).getD default).off
def rdR (l : List Con) (s : ByteArray) : T An := .ret (.tup [.y (.int .u64 (readO l s)), .y (.bool (inC l s))], [], [])
def rrT (b : Bool) (s : ByteArray) (l : List Con) (k : Nat) : List AV := mkT 25 [(0, encCs b l), (1, .y (.string s)), (6, .y (.int .i64 k))]
def rrS (r : Bool × Int) : Exit × List AV × List Blk := match r.1 with
  | true => (.ret, mkT 25 [(4, .y (.int .u64 r.2)), (5, .s (.bool true))], [])
  | false => (.exit 0, mkT 25 [], [])
def rrO (l : List Con) (s : ByteArray) (k : Nat) : T (Bool × Int) := .ite (inC (l.drop k) s) (.ret (true, readO (l.drop k) s)) (.ret (false, 0))
/-! where one reads on who read on at an offset -/
def elemO (to : List Int) (o : Int) : Int := to.getD (min o (to.length - 1)).toNat 0
def u64R (k : Int) : T An := .ret (.y (.int .u64 k), [], [])
def vcOf (b : Bool) (to : List Int) (o : Int) : Prop :=
  (decide ((0 : Int) ≤ if IntKind.wrap IntKind.u64 (IntKind.wrap IntKind.i64 ((↑(List.length to) : Int) - (1 : Int))) < o then IntKind.wrap IntKind.u64 (IntKind.wrap IntKind.i64 ((↑(List.length to) : Int) - (1 : Int))) else o) && decide ((if IntKind.wrap IntKind.u64 (IntKind.wrap IntKind.i64 ((↑(List.length to) : Int) - (1 : Int))) < o then IntKind.wrap IntKind.u64 (IntKind.wrap IntKind.i64 ((↑(List.length to) : Int) - (1 : Int))) else o) < (↑(List.length to) : Int))) = true ∧ List.getD to (Int.toNat (if IntKind.wrap IntKind.u64 (IntKind.wrap IntKind.i64 ((↑(List.length to) : Int) - (1 : Int))) < o then IntKind.wrap IntKind.u64 (IntKind.wrap IntKind.i64 ((↑(List.length to) : Int) - (1 : Int))) else o)) (0 : Int) = elemO to o ∧ True
set_option maxRecDepth 1000000 in
theorem vcOf_eq (b : Bool) (to : List Int) (o : Int) : (ctrVC Tryd.prog (hT _) 36 [encUs b to, .y (.int .u64 o)] [] (u64R (elemO to o))) = vcOf b to o := by kernel_rfl
def vcEl (b : Bool) (to : List Int) (o : Int) : Prop :=
  (decide (IntKind.wrap IntKind.u64 (↑(List.length to) : Int) ≤ o) = true → (decide ((0 : Int) ≤ IntKind.wrap IntKind.i64 ((↑(List.length to) : Int) - (1 : Int))) && decide (IntKind.wrap IntKind.i64 ((↑(List.length to) : Int) - (1 : Int)) < (↑(List.length to) : Int))) = true ∧ List.getD to (Int.toNat (IntKind.wrap IntKind.i64 ((↑(List.length to) : Int) - (1 : Int)))) (0 : Int) = elemO to o ∧ True) ∧ (decide (IntKind.wrap IntKind.u64 (↑(List.length to) : Int) ≤ o) = false → (decide ((0 : Int) ≤ IntKind.wrap IntKind.i64 o) && decide (IntKind.wrap IntKind.i64 o < (↑(List.length to) : Int))) = true ∧ List.getD to (Int.toNat (IntKind.wrap IntKind.i64 o)) (0 : Int) = elemO to o ∧ True)
set_option maxRecDepth 1000000 in
theorem vcEl_eq (b : Bool) (to : List Int) (o : Int) : (ctrVC Tryd.prog (hT _) 59 [encUs b to, .y (.int .u64 o)] [] (u64R (elemO to o))) = vcEl b to o := by kernel_rfl
end Go.Proofs.YtckklclehofddaaDoor

/-! Records: consumers: the contracts. -/
namespace Go.Proofs.YtckklclehofddaaDoor
open Go.Ax
set_option maxRecDepth 1000000
theorem co_loop (b : Bool) (l : List Con) (hl : l.length ≤ 9223372036854775806) (k : Nat) : LoopOk Tryd.prog 49 2 (loopAt Tryd.prog 49 2) ⟨coT b l k, [], []⟩ ((coO l k).map (lout [0] (coS b l))) := by
  refine loop_vcH (ht := coHL l) Tryd.mixed (fun _ => rfl) (fun k => (vcCoL_eq b l k).mpr ?_) k
  unfold vcCoL
  simp
  refine ⟨fun h => ?_, fun h => by simp [coFrom_end h]⟩
  rw [coFrom_step h]
  have e1 : IntKind.i64.wrap ((k : Int) + 1) = ((k + 1 : Nat) : Int) := by rw [wrap_i64 (by omega) (by omega)]; omega
  rw [e1]
  rcases Nat.eq_zero_or_pos k with rfl | hk
  · simp [coOk]
    generalize l[0]?.getD default = x
    cases nameOk x.name <;> simp
    all_goals repeat' with_reducible apply And.intro
    all_goals first | omega | exact ⟨1, by omega, by simp, by grind⟩
  · have e2 : IntKind.i64.wrap ((k : Int) - 1) = ((k - 1 : Nat) : Int) := by rw [wrap_i64 (by omega) (by omega)]; omega
    rw [e2]
    simp [coOk, lt, hk]
    generalize l[k]?.getD default = x
    generalize l[k - 1]?.getD default = y
    generalize Op.bytesLess y.name.data.toList x.name.data.toList = q
    cases nameOk x.name <;> cases q <;> simp <;> (try omega)
    all_goals repeat' with_reducible apply And.intro
    all_goals first | omega | (intro h0; exact absurd h0 (by omega)) | exact ⟨k + 1, by omega, by simp, by grind⟩
theorem co_c (b : Bool) (l : List Con) (hl : l.length ≤ 9223372036854775806) : (boolR (isCons l)).Sat (ACall' Tryd.prog 49 [encCs b l] []) := by
  refine ctr_vc (ht := coH b l) Tryd.mixed rfl ?_
  rw [vcCo_eq b l]
  unfold vcCo
  have := co_loop b l hl 0
  simp [this, isCons]
  grind
theorem cr_loop (b : Bool) (l : List Con) (hl : l.length ≤ 9223372036854775806) (k : Nat) : LoopOk Tryd.prog 39 4 (loopAt Tryd.prog 39 4) ⟨crT b l k, [], []⟩ ((coO l k).map (lout [0] crS)) := by
  refine loop_vcH (ht := crHL l) Tryd.mixed (fun _ => rfl) (fun k => (vcCrL_eq b l k).mpr ?_) k
  unfold vcCrL
  simp
  refine ⟨fun h => ?_, fun h => by simp [coFrom_end h]⟩
  rw [coFrom_step h]
  have e1 : IntKind.i64.wrap ((k : Int) + 1) = ((k + 1 : Nat) : Int) := by rw [wrap_i64 (by omega) (by omega)]; omega
  rw [e1]
  rcases Nat.eq_zero_or_pos k with rfl | hk
  · simp [coOk]
    generalize l[0]?.getD default = x
    cases nameOk x.name <;> simp
    all_goals repeat' with_reducible apply And.intro
    all_goals first | omega | exact ⟨1, by omega, by simp, by grind⟩
  · have e2 : IntKind.i64.wrap ((k : Int) - 1) = ((k - 1 : Nat) : Int) := by rw [wrap_i64 (by omega) (by omega)]; omega
    rw [e2]
    simp [coOk, lt, hk]
    generalize l[k]?.getD default = x
    generalize l[k - 1]?.getD default = y
    generalize Op.bytesLess y.name.data.toList x.name.data.toList = q
    cases nameOk x.name <;> cases q <;> simp <;> (try omega)
    all_goals repeat' with_reducible apply And.intro
    all_goals first | omega | (intro h0; exact absurd h0 (by omega)) | exact ⟨k + 1, by omega, by simp, by grind⟩
theorem cr_c (b : Bool) (l : List Con) (hl : l.length ≤ 9223372036854775806) : (boolR (isCons l)).Sat (ACall' Tryd.prog 39 [encCs b l] []) := by
  refine ctr_vc (ht := crH b l) Tryd.mixed rfl ?_
  rw [vcCr_eq b l]
  unfold vcCr
  have := cr_loop b l hl 0
  simp [this, isCons]
  grind
theorem inC_nil (s : ByteArray) : inC [] s = false := rfl
theorem inC_cons (y : Con) (l : List Con) (s : ByteArray) : inC (y :: l) s = (eqN y.name s || inC l s) := rfl
theorem readO_cons (y : Con) (l : List Con) (s : ByteArray) : readO (y :: l) s = if eqN y.name s then y.off else readO l s := by
  unfold readO findC
  rw [List.find?_cons]
  split <;> simp_all
theorem at_find : ∀ (l : List Con) (s : ByteArray), inC l s = true → (l.findIdx fun x => eqN x.name s) < l.length ∧ (l.getD (l.findIdx fun x => eqN x.name s) default).off = readO l s
  | [], s, h => by simp [inC_nil] at h
  | y :: l, s, h => by
    rw [inC_cons] at h
    rw [readO_cons, List.findIdx_cons]
    cases hy : eqN y.name s
    · rw [hy, Bool.false_or] at h
      have := at_find l s h
      simpa using this
    · simp
theorem read_none : ∀ (l : List Con) (s : ByteArray), inC l s = false → readO l s = 0
  | [], s, _ => rfl
  | y :: l, s, h => by
    rw [inC_cons, Bool.or_eq_false_iff] at h
    rw [readO_cons, h.1]
    simpa using read_none l s h.2
def offOk (o : Int) : Prop := 0 ≤ o ∧ o < 18446744073709551616
theorem of_c (b : Bool) (to : List Int) (o : Int) (h0 : 0 < to.length) (hl : to.length ≤ 9223372036854775806) (ho : offOk o) : (u64R (elemO to o)).Sat (ACall' Tryd.prog 36 [encUs b to, .y (.int .u64 o)] []) := by
  refine ctr_vc (ht := hT _) Tryd.mixed rfl ?_
  rw [vcOf_eq b to o]
  unfold vcOf
  have h1 := ho.1
  have h2 := ho.2
  have e : IntKind.u64.wrap (IntKind.i64.wrap ((to.length : Int) - 1)) = (to.length : Int) - 1 := by
    rw [wrap_i64 (by omega) (by omega), wrap_u64 (by omega) (by omega)]
  rw [e]
  unfold elemO
  have hm : (if (to.length : Int) - 1 < o then (to.length : Int) - 1 else o) = min o (to.length - 1) := by
    rw [Int.min_def]; split <;> split <;> omega
  rw [hm]
  have h3 : (0 : Int) ≤ min o (to.length - 1) := by rw [Int.min_def]; split <;> omega
  have h4 : min o ((to.length : Int) - 1) < to.length := by rw [Int.min_def]; split <;> omega
  refine ⟨?_, rfl, trivial⟩
  rw [decide_eq_true h3, decide_eq_true h4]; rfl
theorem el_c (b : Bool) (to : List Int) (o : Int) (h0 : 0 < to.length) (hl : to.length ≤ 9223372036854775806) (ho : offOk o) : (u64R (elemO to o)).Sat (ACall' Tryd.prog 59 [encUs b to, .y (.int .u64 o)] []) := by
  refine ctr_vc (ht := hT _) Tryd.mixed rfl ?_
  rw [vcEl_eq b to o]
  unfold vcEl
  have h1 := ho.1
  have h2 := ho.2
  have e : IntKind.u64.wrap (to.length : Int) = to.length := by rw [wrap_u64 (by omega) (by omega)]
  have e1 : IntKind.i64.wrap ((to.length : Int) - 1) = (to.length : Int) - 1 := by rw [wrap_i64 (by omega) (by omega)]
  rw [e, e1]
  unfold elemO
  refine ⟨fun h => ?_, fun h => ?_⟩
  · have h := of_decide_eq_true h
    have hm : min o ((to.length : Int) - 1) = to.length - 1 := by rw [Int.min_def]; split <;> omega
    rw [hm]
    refine ⟨?_, rfl, trivial⟩
    rw [decide_eq_true (by omega), decide_eq_true (by omega)]; rfl
  · have h := of_decide_eq_false h
    have hm : min o ((to.length : Int) - 1) = o := by rw [Int.min_def]; split <;> omega
    have e2 : IntKind.i64.wrap o = o := by rw [wrap_i64 (by omega) (by omega)]
    rw [hm, e2]
    refine ⟨?_, rfl, trivial⟩
    rw [decide_eq_true (by omega), decide_eq_true (by omega)]; rfl
noncomputable def coC (b : Bool) (l : List Con) : Ctr Tryd.prog := ⟨49, [encCs b l], [], .need (l.length ≤ 9223372036854775806) (boolR (isCons l)), T.Sat.need fun h => co_c b l h⟩
noncomputable def crC (b : Bool) (l : List Con) : Ctr Tryd.prog := ⟨39, [encCs b l], [], .need (l.length ≤ 9223372036854775806) (boolR (isCons l)), T.Sat.need fun h => cr_c b l h⟩
noncomputable def ofC (b : Bool) (to : List Int) (o : Int) : Ctr Tryd.prog := ⟨36, [encUs b to, .y (.int .u64 o)], [], .need (0 < to.length ∧ to.length ≤ 9223372036854775806 ∧ offOk o) (u64R (elemO to o)), T.Sat.need fun h => of_c b to o h.1 h.2.1 h.2.2⟩
noncomputable def elC (b : Bool) (to : List Int) (o : Int) : Ctr Tryd.prog := ⟨59, [encUs b to, .y (.int .u64 o)], [], .need (0 < to.length ∧ to.length ≤ 9223372036854775806 ∧ offOk o) (u64R (elemO to o)), T.Sat.need fun h => el_c b to o h.1 h.2.1 h.2.2⟩
end Go.Proofs.YtckklclehofddaaDoor

/-! Records: slices.Clone, BinarySearchFunc of consumers. -/
namespace Go.Proofs.YtckklclehofddaaDoor
open Go.Ax
set_option maxRecDepth 1000000
theorem less_trans : ∀ (a b c : List UInt8), Op.bytesLess a b = true → Op.bytesLess b c = true → Op.bytesLess a c = true
  | [], [], c, h, _ => by simp [Op.bytesLess] at h
  | [], _ :: _, [], _, h => by simp [Op.bytesLess] at h
  | [], _ :: _, _ :: _, _, _ => rfl
  | _ :: _, [], _, h, _ => by simp [Op.bytesLess] at h
  | _ :: _, _ :: _, [], _, h => by simp [Op.bytesLess] at h
  | a :: l, b :: m, c :: n, h1, h2 => by
    simp only [Op.bytesLess, Bool.or_eq_true, Bool.and_eq_true, decide_eq_true_eq, beq_iff_eq] at h1 h2 ⊢
    rcases h1 with h1 | ⟨rfl, h1⟩
    · rcases h2 with h2 | ⟨rfl, h2⟩
      · exact Or.inl (UInt8.lt_trans h1 h2)
      · exact Or.inl h1
    · rcases h2 with h2 | ⟨rfl, h2⟩
      · exact Or.inl h2
      · exact Or.inr ⟨rfl, less_trans l m n h1 h2⟩
theorem lt_trans' {a b c : ByteArray} (h1 : lt a b = true) (h2 : lt b c = true) : lt a c = true := less_trans _ _ _ h1 h2
/-- names rise -/
def risC (l : List Con) : Prop := ∀ i j, i < j → j < l.length → lt (l.getD i default).name (l.getD j default).name = true
def belC (l : List Con) (s : ByteArray) : Nat := (l.takeWhile (fun y => lt y.name s)).length
theorem belC_eq {l : List Con} {s : ByteArray} {i : Nat} (h : i ≤ l.length) (lo : ∀ k, k < i → lt (l.getD k default).name s = true) (hi : ∀ k, i ≤ k → k < l.length → lt (l.getD k default).name s = false) : belC l s = i := by
  unfold belC
  have e : l = l.take i ++ l.drop i := (List.take_append_drop i l).symm
  have h1 : ∀ a ∈ l.take i, lt a.name s = true := by
    intro a ha
    obtain ⟨k, hk, rfl⟩ := List.mem_iff_getElem.1 ha
    simp only [List.length_take] at hk
    have := lo k (by omega)
    have hkl : k < l.length := by omega
    simp [hkl] at this
    simpa using this
  have h2 : (l.drop i).takeWhile (fun y => lt y.name s) = [] := by
    cases hd : l.drop i with
    | nil => rfl
    | cons y r =>
      have hil : i < l.length := by
        have := congrArg List.length hd
        simp at this; omega
      have := hi i (Nat.le_refl _) hil
      rw [List.drop_eq_getElem_cons hil] at hd
      cases hd
      simp [hil] at this
      rw [List.takeWhile_cons_of_neg]
      simpa using this
  rw [e, List.takeWhile_append_of_pos h1, h2, List.append_nil, List.length_take]
  omega
theorem belC_le (l : List Con) (s : ByteArray) : belC l s ≤ l.length := (List.takeWhile_sublist _).length_le
theorem ris_lo {l : List Con} {s : ByteArray} (hr : risC l) {m k : Nat} (hm : m < l.length) (hk : k ≤ m) (h : lt (l.getD m default).name s = true) : lt (l.getD k default).name s = true := by
  rcases Nat.lt_or_ge k m with h1 | h1
  · exact lt_trans' (hr k m h1 hm) h
  · obtain rfl : k = m := by omega
    exact h
theorem ris_hi {l : List Con} {s : ByteArray} (hr : risC l) {m k : Nat} (hk : m ≤ k) (hl : k < l.length) (h : lt (l.getD m default).name s = false) : lt (l.getD k default).name s = false := by
  cases hc : lt (l.getD k default).name s
  · rfl
  · rw [ris_lo hr hl hk hc] at h; exact h
structure BS (l : List Con) (x : Con) where
  i : Nat
  j : Nat
  ij : i ≤ j
  jl : j ≤ l.length
  lo : ∀ k, k < i → lt (l.getD k default).name x.name = true
  hi : ∀ k, j ≤ k → k < l.length → lt (l.getD k default).name x.name = false
def BS.up {l : List Con} {x : Con} (hr : risC l) (q : BS l x) (m : Nat) (h2 : m < q.j) (hx : lt (l.getD m default).name x.name = true) : BS l x where
  i := m + 1
  j := q.j
  ij := by omega
  jl := q.jl
  lo := fun k hk => ris_lo hr (m := m) (by have := q.jl; omega) (by omega) hx
  hi := q.hi
def BS.down {l : List Con} {x : Con} (hr : risC l) (q : BS l x) (m : Nat) (h1 : q.i ≤ m) (h2 : m < q.j) (hx : lt (l.getD m default).name x.name = false) : BS l x where
  i := q.i
  j := m
  ij := h1
  jl := by have := q.jl; omega
  lo := q.lo
  hi := fun k hk hl => ris_hi hr hk hl hx
def BS.start (l : List Con) (x : Con) : BS l x := ⟨0, l.length, Nat.zero_le _, Nat.le_refl _, fun _ h => absurd h (Nat.not_lt_zero _), fun k h1 h2 => absurd h2 (by omega)⟩
def cmpV (a b : ByteArray) : Int := if lt a b then -1 else if lt b a then 1 else 0
def bsM (x : Con) : List Blk := [.box 50 (encC x)]
def bsF (l : List Con) (x : Con) : Bool := decide (belC l x.name < l.length) && (cmpV (l.getD (belC l x.name) default).name x.name == 0)
def bsR (l : List Con) (x : Con) : T An := .ret (.tup [.y (.int .i64 (belC l x.name)), .y (.bool (bsF l x))], [], [])
/-! slices.Clone -/
def ccR (l : List Con) : T An := .ret (.own 0 2 0 l.length, [rowC l], [])
theorem cmp_le {a b : ByteArray} (h : lt a b = false) : (decide (cmpV a b < 0)) = false := by
  unfold cmpV; rw [h]; simp; split <;> omega
theorem cmp_lt {a b : ByteArray} (h : lt a b = true) : (decide (cmpV a b < 0)) = true := by
  unfold cmpV; rw [h]; rfl
end Go.Proofs.YtckklclehofddaaDoor

/-! Records: put, the program's and the document's: the conditions. -/
namespace Go.Proofs.YtckklclehofddaaDoor
open Go.Ax
set_option maxRecDepth 1000000
def putL (l : List Con) (x : Con) : List Con := if bsF l x then l.set (belC l x.name) x else l.take (belC l x.name) ++ x :: l.drop (belC l x.name)
def conR (l : List Con) : T An := .ret (.own 0 2 0 l.length, [rowC l], [])
/-! the document's put -/
def stp (x : Con) (s : Bool × List Con) (y : Con) : Bool × List Con :=
  let s1 := if (!lt y.name x.name && !s.1) = true then (true, s.2 ++ [x]) else s
  if y.name.data = x.name.data then s1 else (s1.1, s1.2 ++ [y])
def rst (l : List Con) (x : Con) (k : Nat) : Bool × List Con := (l.take k).foldl (stp x) (false, [])
def rput (l : List Con) (x : Con) : List Con := if (rst l x l.length).1 then (rst l x l.length).2 else (rst l x l.length).2 ++ [x]
def rpT (b : Bool) (l : List Con) (x : Con) (k : Nat) : List AV := mkT 52 [(0, encCs b l), (3, .ptr 0 0 0 0), (5, .own 1 2 0 (rst l x k).2.length), (6, .y (.bool (rst l x k).1)), (7, .y (.int .i64 k))]
def rpM (l : List Con) (x : Con) (k : Nat) : List Blk := [.box 50 (encC x), .row 50 2 (rst l x k).2.length none (cellsOf' encC (rst l x k).2)]
def rpS (l : List Con) (x : Con) (_ : Unit) : Exit × List AV × List Blk := (.exit 0, mkT 52 [(3, .ptr 0 0 0 0), (5, .own 1 2 0 (rst l x l.length).2.length), (6, .y (.bool (rst l x l.length).1))], rpM l x l.length)
/-! alike -/
def scT (b1 b2 : Bool) (a : List Con) (k : Nat) : List AV := mkT 26 [(0, encCs b1 a), (1, encCs b2 a), (5, .y (.int .i64 k))]
def scS (_ : Unit) : Exit × List AV × List Blk := (.exit 0, mkT 26 [], [])
def vcScL (b1 : Bool) (b2 : Bool) (a : List Con) (k : Nat) : Prop :=
  (decide ((↑k : Int) < (↑(List.length a) : Int)) = true → (true && decide ((↑k : Int) < (↑(List.length a) : Int))) = true ∧ (true && decide ((↑k : Int) < (↑(List.length a) : Int))) = true ∧ ((!((List.getD a (Int.toNat (↑k : Int)) (@default Con instInhabitedCon)).name.data.toList == (List.getD a (Int.toNat (↑k : Int)) (@default Con instInhabitedCon)).name.data.toList && ((List.getD a (Int.toNat (↑k : Int)) (@default Con instInhabitedCon)).off == (List.getD a (Int.toNat (↑k : Int)) (@default Con instInhabitedCon)).off && true))) = true → False) ∧ ((!((List.getD a (Int.toNat (↑k : Int)) (@default Con instInhabitedCon)).name.data.toList == (List.getD a (Int.toNat (↑k : Int)) (@default Con instInhabitedCon)).name.data.toList && ((List.getD a (Int.toNat (↑k : Int)) (@default Con instInhabitedCon)).off == (List.getD a (Int.toNat (↑k : Int)) (@default Con instInhabitedCon)).off && true))) = false → ∃ (j : Nat), List.length a - j < List.length a - k ∧ (((b1 = b1 ∧ List.length a = List.length a ∧ contLe (List.length a) (2 : Nat) (cellsOf' encC a) (cellsOf' encC a)) ∧ (b2 = b2 ∧ List.length a = List.length a ∧ contLe (List.length a) (2 : Nat) (cellsOf' encC a) (cellsOf' encC a)) ∧ IntKind.wrap IntKind.i64 ((↑k : Int) + (1 : Int)) = (↑j : Int) ∧ True) ∧ True ∧ true = true) ∧ true = true ∧ () = ())) ∧ (decide ((↑k : Int) < (↑(List.length a) : Int)) = false → True ∧ True ∧ true = true)
set_option maxRecDepth 1000000 in
theorem vcScL_eq (b1 : Bool) (b2 : Bool) (a : List Con) (k : Nat) : (loopVC Tryd.prog (hT _) 28 4 (fun k => a.length - k) (scT b1 b2 a) (fun _ => []) [0] (fun _ => .ret ()) scS k) = vcScL b1 b2 a k := by kernel_rfl
noncomputable def scH (b1 b2 : Bool) (a : List Con) : HintsT Tryd.prog := hh _ (lp1 28 4 (jobOf (scT b1 b2 a) (fun _ => []) [0] (fun _ => .ret ()) scS 0) noLp) noCs noOp
def vcSc (b1 : Bool) (b2 : Bool) (a : List Con) : Prop :=
  (((↑(List.length a) : Int) != (↑(List.length a) : Int)) = true → false = true ∧ True) ∧ (((↑(List.length a) : Int) != (↑(List.length a) : Int)) = false → (((b1 = b1 ∧ List.length a = List.length a ∧ contLe (List.length a) (2 : Nat) (cellsOf' encC a) (cellsOf' encC a)) ∧ (b2 = b2 ∧ List.length a = List.length a ∧ contLe (List.length a) (2 : Nat) (cellsOf' encC a) (cellsOf' encC a)) ∧ (0 : Int) = (0 : Int) ∧ True) ∧ True ∧ true = true) ∧ LoopOk Tryd.prog (28 : Nat) (4 : Nat) (loopAt Tryd.prog (28 : Nat) (4 : Nat)) { t := scT b1 b2 a (0 : Nat), m := [], mv := [] : St } (T.map (lout [(0 : Nat)] scS) ((fun (x : Nat) => T.ret ()) (0 : Nat))) ∧ true = true ∧ True)
set_option maxRecDepth 1000000 in
theorem vcSc_eq (b1 : Bool) (b2 : Bool) (a : List Con) : (ctrVC Tryd.prog (scH b1 b2 a) 28 [encCs b1 a, encCs b2 a] [] (boolR true)) = vcSc b1 b2 a := by kernel_rfl
end Go.Proofs.YtckklclehofddaaDoor

/-! Records: put, the program's and the document's: the contracts; the same on rising names. -/
namespace Go.Proofs.YtckklclehofddaaDoor
open Go.Ax
set_option maxRecDepth 1000000
theorem enc_le (x : Con) : ∀ j, j < 2 → le0 (Ax.get [.y (.string x.name), .y (.int .u64 x.off)] j) (Ax.get (encC x) j) := fun j hj => by
  match j, hj with
  | 0, _ => simp [encC]
  | 1, _ => simp [encC]
/-! alike -/
theorem sc_loop (b1 b2 : Bool) (a : List Con) (hl : a.length ≤ 9223372036854775806) (k : Nat) : LoopOk Tryd.prog 28 4 (loopAt Tryd.prog 28 4) ⟨scT b1 b2 a k, [], []⟩ (T.map (lout [0] scS) (.ret ())) := by
  refine loop_vc (o := fun _ => .ret ()) Tryd.mixed (fun _ => rfl) (fun k => (vcScL_eq b1 b2 a k).mpr ?_) k
  unfold vcScL
  simp
  intro h
  exact ⟨h, k + 1, by omega, by rw [wrap_i64 (by omega) (by omega)]; omega⟩
theorem sc_c (b1 b2 : Bool) (a : List Con) (hl : a.length ≤ 9223372036854775806) : (boolR true).Sat (ACall' Tryd.prog 28 [encCs b1 a, encCs b2 a] []) := by
  refine ctr_vc (ht := scH b1 b2 a) Tryd.mixed rfl ?_
  rw [vcSc_eq b1 b2 a]
  unfold vcSc
  simp [sc_loop b1 b2 a hl 0]
noncomputable def scC (b1 b2 : Bool) (a b : List Con) : Ctr Tryd.prog := ⟨28, [encCs b1 a, encCs b2 b], [], .need (a.length ≤ 9223372036854775806 ∧ a = b) (boolR true), T.Sat.need fun h => by obtain ⟨h1, rfl⟩ := h; exact sc_c b1 b2 a h1⟩
/-! the document's put -/
theorem rst_step {l : List Con} {x : Con} {k : Nat} (h : k < l.length) : rst l x (k + 1) = stp x (rst l x k) (l[k]?.getD default) := by
  unfold rst
  have : l.take (k + 1) = l.take k ++ [l[k]?.getD default] := by
    rw [List.take_add_one, List.getElem?_eq_getElem h]; rfl
  rw [this, List.foldl_append]; rfl
theorem rst_end {l : List Con} {x : Con} {k : Nat} (h : l.length ≤ k) : rst l x k = rst l x l.length := by
  unfold rst
  rw [List.take_of_length_le h, List.take_length]
theorem rst_len (l : List Con) (x : Con) : ∀ k, (rst l x k).2.length ≤ k + (if (rst l x k).1 then 1 else 0) := by
  intro k
  induction k with
  | zero => simp [rst]
  | succ k ih =>
    rcases Nat.lt_or_ge k l.length with h | h
    · rw [rst_step h]
      rcases hs : rst l x k with ⟨d, o⟩
      rw [hs] at ih
      generalize l[k]?.getD default = y
      cases h1 : lt y.name x.name <;> cases d <;> by_cases h2 : y.name.data = x.name.data <;> simp [stp, h1, h2] at ih ⊢ <;> omega
    · rw [rst_end (k := k + 1) (by omega), ← rst_end h]
      omega
/-! they are the same -/
theorem putL_cons (y : Con) (t : List Con) (x : Con) : putL (y :: t) x = if lt y.name x.name then y :: putL t x else if y.name.data = x.name.data then x :: t else x :: y :: t := by
  cases h : lt y.name x.name
  · have hb : belC (y :: t) x.name = 0 := by unfold belC; rw [List.takeWhile_cons_of_neg (by simp [h])]; rfl
    by_cases h2 : y.name.data = x.name.data
    · have hc : cmpV y.name x.name = 0 := by
        unfold cmpV lt
        rw [h2, less_irr]; rfl
      simp [putL, bsF, hb, h2, hc]
    · have hc : ¬ cmpV y.name x.name = 0 := by
        unfold cmpV
        rw [h]
        cases h3 : lt x.name y.name
        · exact absurd (Array.toList_inj.1 (less_total _ _ h h3)) h2
        · simp
      simp [putL, bsF, hb, h2, hc]
  · have hb : belC (y :: t) x.name = belC t x.name + 1 := by unfold belC; rw [List.takeWhile_cons_of_pos (by simp [h])]; rfl
    have hf : bsF (y :: t) x = bsF t x := by
      unfold bsF
      rw [hb]; simp
    unfold putL
    rw [hf, hb]
    cases bsF t x <;> simp
def oth (l : List Con) (x : Con) : List Con := l.filter fun y => decide (¬ y.name.data = x.name.data)
theorem oth_cons (y : Con) (t : List Con) (x : Con) : oth (y :: t) x = if y.name.data = x.name.data then oth t x else y :: oth t x := by
  unfold oth
  by_cases h : y.name.data = x.name.data <;> simp [h]
theorem fold_done (x : Con) : ∀ (l o : List Con), l.foldl (stp x) (true, o) = (true, o ++ oth l x) := by
  intro l
  induction l with
  | nil => intro o; simp [oth]
  | cons y t ih =>
    intro o
    by_cases h : y.name.data = x.name.data
    · simp [stp, h, ih, oth_cons]
    · simp [stp, h, ih, oth_cons]
theorem oth_self {x y : Con} {t : List Con} (h : lt y.name x.name = false) (ht : ∀ z ∈ t, lt y.name z.name = true) : oth t x = t := by
  unfold oth
  rw [List.filter_eq_self]
  intro z hz
  have := ht z hz
  simp only [decide_not, Bool.not_eq_true', decide_eq_false_iff_not]
  intro e
  have e2 : lt y.name x.name = true := by unfold lt at this ⊢; rw [← e]; exact this
  rw [h] at e2; exact absurd e2 (by simp)
theorem fold_put (x : Con) : ∀ (l o : List Con), l.Pairwise (fun a b => lt a.name b.name = true) → (if (l.foldl (stp x) (false, o)).1 then (l.foldl (stp x) (false, o)).2 else (l.foldl (stp x) (false, o)).2 ++ [x]) = o ++ putL l x := by
  intro l
  induction l with
  | nil => intro o _; simp [putL, bsF, belC]
  | cons y t ih =>
    intro o hp
    rw [List.pairwise_cons] at hp
    rw [putL_cons]
    cases h : lt y.name x.name
    · have h3 := oth_self h hp.1
      by_cases h2 : y.name.data = x.name.data
      · simp [stp, h, h2, fold_done, h3]
      · simp [stp, h, h2, fold_done, h3]
    · have h2 : ¬ y.name.data = x.name.data := fun e => by unfold lt at h; rw [e, less_irr] at h; exact absurd h (by simp)
      have := ih (o ++ [y]) hp.2
      simp only [List.foldl_cons, stp, h, h2, Bool.not_true, Bool.false_and, Bool.false_eq_true, if_false, if_true]
      rw [this]; simp
theorem risC_pw (r : List Con) : risC r ↔ r.Pairwise (fun a b => lt a.name b.name = true) := by
  rw [List.pairwise_iff_getElem]
  constructor
  · intro h i j hi hj hij
    have := h i j hij hj
    simpa [hi, hj] using this
  · intro h i j hij hj
    have := h i j (by omega) hj hij
    simpa [show i < r.length by omega, hj] using this
theorem rput_putL {l : List Con} {x : Con} (h : risC l) : rput l x = putL l x := by
  have := fold_put x l [] ((risC_pw l).1 h)
  simpa [rput, rst] using this
theorem put_mem {x : Con} {P : Con → Prop} (hx : P x) : ∀ (l : List Con), (∀ z ∈ l, P z) → ∀ z ∈ putL l x, P z
  | [], _, z, hz => by
    simp [putL, bsF, belC] at hz
    rw [hz]; exact hx
  | y :: t, h, z, hz => by
    rw [putL_cons] at hz
    have h1 := h y List.mem_cons_self
    have h2 := fun z hz => h z (List.mem_cons_of_mem y hz)
    have ih := put_mem hx t h2 z
    split at hz
    · rcases List.mem_cons.1 hz with rfl | hz
      · exact h1
      · exact ih hz
    · split at hz
      · rcases List.mem_cons.1 hz with rfl | hz
        · exact hx
        · exact h2 z hz
      · rcases List.mem_cons.1 hz with rfl | hz
        · exact hx
        · rcases List.mem_cons.1 hz with rfl | hz
          · exact h1
          · exact h2 z hz
theorem put_pw (x : Con) : ∀ (l : List Con), l.Pairwise (fun a b => lt a.name b.name = true) → (putL l x).Pairwise (fun a b => lt a.name b.name = true)
  | [], _ => by simp [putL, bsF, belC]
  | y :: t, h => by
    rw [List.pairwise_cons] at h
    rw [putL_cons]
    cases h1 : lt y.name x.name
    · by_cases h2 : y.name.data = x.name.data
      · simp only [Bool.false_eq_true, if_false, h2, if_true]
        refine List.pairwise_cons.2 ⟨fun z hz => ?_, h.2⟩
        have := h.1 z hz
        unfold lt at this ⊢
        rw [← h2]; exact this
      · simp only [Bool.false_eq_true, if_false, h2]
        have h3 : lt x.name y.name = true := by
          cases h3 : lt x.name y.name
          · exact absurd (Array.toList_inj.1 (less_total _ _ h1 h3)) h2
          · rfl
        refine List.pairwise_cons.2 ⟨fun z hz => ?_, List.pairwise_cons.2 ⟨h.1, h.2⟩⟩
        rcases List.mem_cons.1 hz with rfl | hz
        · exact h3
        · exact lt_trans' h3 (h.1 z hz)
    · simp only [if_true]
      exact List.pairwise_cons.2 ⟨put_mem (P := fun z => lt y.name z.name = true) h1 t h.1, put_pw x t h.2⟩
theorem put_ris {l : List Con} {x : Con} (h : risC l) : risC (putL l x) := (risC_pw _).2 (put_pw x l ((risC_pw l).1 h))
theorem put_len (l : List Con) (x : Con) : (putL l x).length ≤ l.length + 1 := by
  have := belC_le l x.name
  unfold putL
  split <;> simp <;> omega
end Go.Proofs.YtckklclehofddaaDoor

/-! Records: Map: the conditions. -/
namespace Go.Proofs.YtckklclehofddaaDoor
open Go.Ax
set_option maxRecDepth 1000000
def movC (to : List Int) (x : Con) : Con := ⟨x.name, elemO to x.off⟩
def mapU (l : List Con) (to : List Int) (k : Nat) : List Con := if to.length = 0 then [] else (l.take k).map (movC to)
def fnO (b : Bool) (to : List Int) : AV := .fn (.func 36) [encUs b to] []
def mpT (b1 b2 : Bool) (l : List Con) (to : List Int) (k : Nat) : List AV := mkT 32 [(5, fnO b2 to), (6, .own 0 2 0 (mapU l to k).length), (14, encCs b1 l), (15, .y (.int .i64 l.length)), (16, .y (.int .i64 k))]
def mpM (l : List Con) (to : List Int) (k : Nat) : List Blk := [rowC (mapU l to k)]
def mpS (l : List Con) (to : List Int) (_ : Unit) : Exit × List AV × List Blk := (.exit 0, mkT 32 [(6, .own 0 2 0 (mapU l to l.length).length)], mpM l to l.length)
noncomputable def mpHL (b2 : Bool) (l : List Con) (to : List Int) (k : Nat) : HintsT Tryd.prog := hh _ noLp (cs1 22 8 6 (ofC b2 to (l.getD k default).off) noCs) noOp
def vcMpL (b1 : Bool) (b2 : Bool) (l : List Con) (to : List Int) (k : Nat) : Prop :=
  (decide ((↑k : Int) < (↑(List.length l) : Int)) = true → (true && decide ((↑k : Int) < (↑(List.length l) : Int))) = true ∧ ((b2 = b2 ∧ List.length to = List.length to ∧ contLe (List.length to) (1 : Nat) (cellsOf' encU to) (cellsOf' encU to)) ∧ (List.getD l (Int.toNat (↑k : Int)) (@default Con instInhabitedCon)).off = (List.getD l k (@default Con instInhabitedCon)).off ∧ True) ∧ True ∧ ((0 : Nat) < List.length to ∧ List.length to ≤ (9223372036854775806 : Nat) ∧ (0 : Int) ≤ (List.getD l k (@default Con instInhabitedCon)).off ∧ (List.getD l k (@default Con instInhabitedCon)).off < (18446744073709551616 : Int)) ∧ (decide (List.length (mapU l to k) = List.length (mapU l to k)) && decide (List.length (mapU l to k) + (1 : Nat) ≤ (9223372036854775807 : Nat)) && decide ((List.length (mapU l to k) + (1 : Nat)) * (24 : Nat) ≤ (140737488355328 : Nat))) = true ∧ ∃ (j : Nat), List.length l - j < List.length l - k ∧ (((((b2 = b2 ∧ List.length to = List.length to ∧ contLe (List.length to) (1 : Nat) (cellsOf' encU to) (cellsOf' encU to)) ∧ True) ∧ True) ∧ ((0 : Nat) = (0 : Nat) ∧ List.length (mapU l to k) + (1 : Nat) = List.length (mapU l to j)) ∧ (b1 = b1 ∧ List.length l = List.length l ∧ contLe (List.length l) (2 : Nat) (cellsOf' encC l) (cellsOf' encC l)) ∧ (↑(List.length l) : Int) = (↑(List.length l) : Int) ∧ IntKind.wrap IntKind.i64 ((↑k : Int) + (1 : Int)) = (↑j : Int) ∧ True) ∧ ((List.length (mapU l to k) + (1 : Nat) = List.length (mapU l to j) ∧ contLe (List.length (mapU l to k) + (1 : Nat)) (2 : Nat) (appRow (List.length (mapU l to k)) (cellsOf' encC (mapU l to k)) fun (k_1 j : Nat) => Ax.get [AV.y (Value.string (List.getD l (Int.toNat (↑k : Int)) (@default Con instInhabitedCon)).name), AV.y (Value.int IntKind.u64 (elemO to (List.getD l k (@default Con instInhabitedCon)).off))] (k_1 * (2 : Nat) + j)) (cellsOf' encC (mapU l to j))) ∧ True) ∧ true = true) ∧ true = true ∧ () = ()) ∧ (decide ((↑k : Int) < (↑(List.length l) : Int)) = false → (((0 : Nat) = (0 : Nat) ∧ List.length (mapU l to k) = List.length (mapU l to (List.length l))) ∧ True) ∧ ((List.length (mapU l to k) = List.length (mapU l to (List.length l)) ∧ contLe (List.length (mapU l to k)) (2 : Nat) (cellsOf' encC (mapU l to k)) (cellsOf' encC (mapU l to (List.length l)))) ∧ True) ∧ true = true)
set_option maxRecDepth 1000000 in
theorem vcMpL_eq (b1 : Bool) (b2 : Bool) (l : List Con) (to : List Int) (k : Nat) : (loopVC Tryd.prog (mpHL b2 l to k) 22 6 (fun k => l.length - k) (mpT b1 b2 l to) (mpM l to) [0, 1, 2, 3, 4, 5] (fun _ => .ret ()) (mpS l to) k) = vcMpL b1 b2 l to k := by kernel_rfl
noncomputable def mpH (b1 b2 : Bool) (l : List Con) (to : List Int) : HintsT Tryd.prog :=
  hh _ (lp1 22 6 (jobOf (mpT b1 b2 l to) (mpM l to) [0, 1, 2, 3, 4, 5] (fun _ => .ret ()) (mpS l to) 0) noLp) noCs (op1 22 4 0 (.row 50 2) (op1 22 2 0 (.row 50 2) noOp))
def vcMp (b1 : Bool) (b2 : Bool) (l : List Con) (to : List Int) : Prop :=
  (((↑(List.length to) : Int) == (0 : Int)) = true → ((0 : Nat) = (0 : Nat) ∧ (0 : Nat) = List.length (mapU l to (List.length l))) ∧ ((0 : Nat) = List.length (mapU l to (List.length l)) ∧ contLe (0 : Nat) (2 : Nat) (fun (x x_1 : Nat) => AV.junk) (cellsOf' encC (mapU l to (List.length l)))) ∧ True) ∧ (((↑(List.length to) : Int) == (0 : Int)) = false → (((((b2 = b2 ∧ List.length to = List.length to ∧ contLe (List.length to) (1 : Nat) (cellsOf' encU to) (cellsOf' encU to)) ∧ True) ∧ True) ∧ ((0 : Nat) = (0 : Nat) ∧ (0 : Nat) = List.length (mapU l to (0 : Nat))) ∧ (b1 = b1 ∧ List.length l = List.length l ∧ contLe (List.length l) (2 : Nat) (cellsOf' encC l) (cellsOf' encC l)) ∧ (↑(List.length l) : Int) = (↑(List.length l) : Int) ∧ (0 : Int) = (0 : Int) ∧ True) ∧ (((0 : Nat) = List.length (mapU l to (0 : Nat)) ∧ contLe (0 : Nat) (2 : Nat) (fun (x x_1 : Nat) => AV.junk) (cellsOf' encC (mapU l to (0 : Nat)))) ∧ True) ∧ true = true) ∧ LoopOk Tryd.prog (22 : Nat) (6 : Nat) (loopAt Tryd.prog (22 : Nat) (6 : Nat)) { t := mpT b1 b2 l to (0 : Nat), m := mpM l to (0 : Nat), mv := [] : St } (T.map (lout [(0 : Nat), (1 : Nat), (2 : Nat), (3 : Nat), (4 : Nat), (5 : Nat)] (mpS l to)) ((fun (x : Nat) => T.ret ()) (0 : Nat))) ∧ ((0 : Nat) = (0 : Nat) ∧ List.length (mapU l to (List.length l)) = List.length (mapU l to (List.length l))) ∧ (List.length (mapU l to (List.length l)) = List.length (mapU l to (List.length l)) ∧ contLe (List.length (mapU l to (List.length l))) (2 : Nat) (cellsOf' encC (mapU l to (List.length l))) (cellsOf' encC (mapU l to (List.length l)))) ∧ True)
set_option maxRecDepth 1000000 in
theorem vcMp_eq (b1 : Bool) (b2 : Bool) (l : List Con) (to : List Int) : (ctrVC Tryd.prog (mpH b1 b2 l to) 22 [encCs b1 l, encUs b2 to] [] (conR (mapU l to l.length))) = vcMp b1 b2 l to := by kernel_rfl
def mrT (b1 b2 : Bool) (l : List Con) (to : List Int) (k : Nat) : List AV := mkT 35 [(0, encCs b1 l), (1, encUs b2 to), (5, .own 0 2 0 (mapU l to k).length), (6, .y (.int .i64 k))]
def mrS (l : List Con) (to : List Int) (_ : Unit) : Exit × List AV × List Blk := (.exit 0, mkT 35 [(5, .own 0 2 0 (mapU l to l.length).length)], mpM l to l.length)
noncomputable def mrHL (b2 : Bool) (l : List Con) (to : List Int) (k : Nat) : HintsT Tryd.prog := hh _ noLp (cs1 45 5 12 (elC b2 to (l.getD k default).off) noCs) noOp
def vcMrL (b1 : Bool) (b2 : Bool) (l : List Con) (to : List Int) (k : Nat) : Prop :=
  (decide ((↑k : Int) < (↑(List.length l) : Int)) = true → (decide ((0 : Int) < (↑(List.length to) : Int)) = true → (true && decide ((↑k : Int) < (↑(List.length l) : Int))) = true ∧ (true && decide ((↑k : Int) < (↑(List.length l) : Int))) = true ∧ ((b2 = b2 ∧ List.length to = List.length to ∧ contLe (List.length to) (1 : Nat) (cellsOf' encU to) (cellsOf' encU to)) ∧ (List.getD l (Int.toNat (↑k : Int)) (@default Con instInhabitedCon)).off = (List.getD l k (@default Con instInhabitedCon)).off ∧ True) ∧ True ∧ ((0 : Nat) < List.length to ∧ List.length to ≤ (9223372036854775806 : Nat) ∧ (0 : Int) ≤ (List.getD l k (@default Con instInhabitedCon)).off ∧ (List.getD l k (@default Con instInhabitedCon)).off < (18446744073709551616 : Int)) ∧ (decide (List.length (mapU l to k) = List.length (mapU l to k)) && decide (List.length (mapU l to k) + (1 : Nat) ≤ (9223372036854775807 : Nat)) && decide ((List.length (mapU l to k) + (1 : Nat)) * (24 : Nat) ≤ (140737488355328 : Nat))) = true ∧ ∃ (j : Nat), List.length l - j < List.length l - k ∧ (((b1 = b1 ∧ List.length l = List.length l ∧ contLe (List.length l) (2 : Nat) (cellsOf' encC l) (cellsOf' encC l)) ∧ (b2 = b2 ∧ List.length to = List.length to ∧ contLe (List.length to) (1 : Nat) (cellsOf' encU to) (cellsOf' encU to)) ∧ ((0 : Nat) = (0 : Nat) ∧ List.length (mapU l to k) + (1 : Nat) = List.length (mapU l to j)) ∧ IntKind.wrap IntKind.i64 ((↑k : Int) + (1 : Int)) = (↑j : Int) ∧ True) ∧ ((List.length (mapU l to k) + (1 : Nat) = List.length (mapU l to j) ∧ contLe (List.length (mapU l to k) + (1 : Nat)) (2 : Nat) (appRow (List.length (mapU l to k)) (cellsOf' encC (mapU l to k)) fun (k_1 j : Nat) => Ax.get [AV.y (Value.string (List.getD l (Int.toNat (↑k : Int)) (@default Con instInhabitedCon)).name), AV.y (Value.int IntKind.u64 (elemO to (List.getD l k (@default Con instInhabitedCon)).off))] (k_1 * (2 : Nat) + j)) (cellsOf' encC (mapU l to j))) ∧ True) ∧ true = true) ∧ true = true ∧ () = ()) ∧ (decide ((0 : Int) < (↑(List.length to) : Int)) = false → (((0 : Nat) = (0 : Nat) ∧ List.length (mapU l to k) = List.length (mapU l to (List.length l))) ∧ True) ∧ ((List.length (mapU l to k) = List.length (mapU l to (List.length l)) ∧ contLe (List.length (mapU l to k)) (2 : Nat) (cellsOf' encC (mapU l to k)) (cellsOf' encC (mapU l to (List.length l)))) ∧ True) ∧ true = true)) ∧ (decide ((↑k : Int) < (↑(List.length l) : Int)) = false → (((0 : Nat) = (0 : Nat) ∧ List.length (mapU l to k) = List.length (mapU l to (List.length l))) ∧ True) ∧ ((List.length (mapU l to k) = List.length (mapU l to (List.length l)) ∧ contLe (List.length (mapU l to k)) (2 : Nat) (cellsOf' encC (mapU l to k)) (cellsOf' encC (mapU l to (List.length l)))) ∧ True) ∧ true = true)
set_option maxRecDepth 1000000 in
theorem vcMrL_eq (b1 : Bool) (b2 : Bool) (l : List Con) (to : List Int) (k : Nat) : (loopVC Tryd.prog (mrHL b2 l to k) 45 3 (fun k => l.length - k) (mrT b1 b2 l to) (mpM l to) [0, 1, 2, 3, 4, 5] (fun _ => .ret ()) (mrS l to) k) = vcMrL b1 b2 l to k := by kernel_rfl
noncomputable def mrH (b1 b2 : Bool) (l : List Con) (to : List Int) : HintsT Tryd.prog :=
  hh _ (lp1 45 3 (jobOf (mrT b1 b2 l to) (mpM l to) [0, 1, 2, 3, 4, 5] (fun _ => .ret ()) (mrS l to) 0) noLp) noCs (op1 45 1 0 (.row 50 2) noOp)
def vcMr (b1 : Bool) (b2 : Bool) (l : List Con) (to : List Int) : Prop :=
  (((b1 = b1 ∧ List.length l = List.length l ∧ contLe (List.length l) (2 : Nat) (cellsOf' encC l) (cellsOf' encC l)) ∧ (b2 = b2 ∧ List.length to = List.length to ∧ contLe (List.length to) (1 : Nat) (cellsOf' encU to) (cellsOf' encU to)) ∧ ((0 : Nat) = (0 : Nat) ∧ (0 : Nat) = List.length (mapU l to (0 : Nat))) ∧ (0 : Int) = (0 : Int) ∧ True) ∧ (((0 : Nat) = List.length (mapU l to (0 : Nat)) ∧ contLe (0 : Nat) (2 : Nat) (fun (x x_1 : Nat) => AV.junk) (cellsOf' encC (mapU l to (0 : Nat)))) ∧ True) ∧ true = true) ∧ LoopOk Tryd.prog (45 : Nat) (3 : Nat) (loopAt Tryd.prog (45 : Nat) (3 : Nat)) { t := mrT b1 b2 l to (0 : Nat), m := mpM l to (0 : Nat), mv := [] : St } (T.map (lout [(0 : Nat), (1 : Nat), (2 : Nat), (3 : Nat), (4 : Nat), (5 : Nat)] (mrS l to)) ((fun (x : Nat) => T.ret ()) (0 : Nat))) ∧ ((0 : Nat) = (0 : Nat) ∧ List.length (mapU l to (List.length l)) = List.length (mapU l to (List.length l))) ∧ (List.length (mapU l to (List.length l)) = List.length (mapU l to (List.length l)) ∧ contLe (List.length (mapU l to (List.length l))) (2 : Nat) (cellsOf' encC (mapU l to (List.length l))) (cellsOf' encC (mapU l to (List.length l)))) ∧ True
set_option maxRecDepth 1000000 in
theorem vcMr_eq (b1 : Bool) (b2 : Bool) (l : List Con) (to : List Int) : (ctrVC Tryd.prog (mrH b1 b2 l to) 45 [encCs b1 l, encUs b2 to] [] (conR (mapU l to l.length))) = vcMr b1 b2 l to := by kernel_rfl
/-! Concat of two -/
def catA (b1 b2 : Bool) (a b : List Con) : AV := .ys false 1 2 (fun k j => get [encCs b1 a, encCs b2 b] (k * 1 + j))
end Go.Proofs.YtckklclehofddaaDoor
