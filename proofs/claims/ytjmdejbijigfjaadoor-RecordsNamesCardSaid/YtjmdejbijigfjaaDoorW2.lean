import Derived.Test.YtjmdejbijigfjaaDoorW1
set_option linter.unusedVariables false
set_option linter.unusedSimpArgs false
/-! Records: two logs as one. -/
namespace Go.Proofs.YtjmdejbijigfjaaDoor
open Go.Ax
set_option maxRecDepth 1000000
def hd (l : List Rec) : Rec := l.getD 0 default
structure Jo where
  (a b out : List Rec) (ta tb : List Int)
def Jo.tA (s : Jo) : Bool := !s.a.isEmpty && !lowR s.b (hd s.a)
def Jo.tB (s : Jo) : Bool := !s.b.isEmpty && !lowR s.a (hd s.b)
def Jo.at (s : Jo) : Int := IntKind.u64.wrap (s.out.length : Nat)
def Jo.goA (s : Jo) : Jo := ⟨s.a.tail, s.b, s.out ++ [(hd s.a).to s.at], s.ta ++ [s.at], s.tb⟩
def Jo.goB (s : Jo) : Jo := ⟨s.a, s.b.tail, s.out ++ [(hd s.b).to s.at], s.ta, s.tb ++ [s.at]⟩
def joinN : Nat → Jo → Option Jo
  | 0, s => some s
  | n + 1, s => if s.tA then joinN n s.goA else if s.tB then joinN n s.goB else none
def Jo.run (s : Jo) : Option Jo := joinN (s.a.length + s.b.length) s
def sideV (b : Bool) (l : List Rec) : AV := .ip false 2 (get [encRs b l, .junk])
noncomputable def waitH (b1 b2 : Bool) (a b : List Rec) : HintsT Tryd.prog := hh _ noLp (cs1 49 2 5 (cfC b2 (hd a) b) noCs) noOp
def vcWait (b1 : Bool) (b2 : Bool) (a : List Rec) (b : List Rec) : Prop :=
  (true && decide ((0 : Int) < (↑(List.length a) : Int))) = true ∧ ((b2 = b2 ∧ List.length b = List.length b ∧ contLe (List.length b) (5 : Nat) (cellsOf' encR b) (cellsOf' encR b)) ∧ (True ∧ (false = false ∧ (5 : Nat) ≤ (5 : Nat) ∧ cellLe (5 : Nat) (fun (j : Nat) => Ax.get [AV.y (Value.int IntKind.u64 (List.getD a (0 : Nat) (@default Rec instInhabitedRec)).off), AV.y (Value.string (List.getD a (0 : Nat) (@default Rec instInhabitedRec)).key), AV.ys true (1 : Nat) (List.length (List.getD a (0 : Nat) (@default Rec instInhabitedRec)).val) (cellsOf' encB (List.getD a (0 : Nat) (@default Rec instInhabitedRec)).val), AV.y (Value.int IntKind.u64 (List.getD a (0 : Nat) (@default Rec instInhabitedRec)).prod), AV.y (Value.int IntKind.u64 (List.getD a (0 : Nat) (@default Rec instInhabitedRec)).seq)] ((0 : Nat) + j)) (Ax.get [AV.y (Value.int IntKind.u64 (hd a).off), AV.y (Value.string (hd a).key), AV.ys true (1 : Nat) (List.length (hd a).val) (cellsOf' encB (hd a).val), AV.y (Value.int IntKind.u64 (hd a).prod), AV.y (Value.int IntKind.u64 (hd a).seq)])) ∧ True) ∧ True) ∧ True ∧ List.length b ≤ (9223372036854775806 : Nat) ∧ true = true ∧ True ∧ lowR b (hd a) = lowR b (hd a) ∧ True
set_option maxRecDepth 1000000 in
theorem vcWait_eq (b1 : Bool) (b2 : Bool) (a : List Rec) (b : List Rec) : (ctrVC Tryd.prog (waitH b1 b2 a b) 49 [sideV b1 a, sideV b2 b] [] (boolR (lowR b (hd a)))) = vcWait b1 b2 a b := by kernel_rfl
theorem wait_c (b1 b2 : Bool) (a b : List Rec) (h0 : 0 < a.length) (hl : b.length ≤ 9223372036854775806) : (boolR (lowR b (hd a))).Sat (ACall' Tryd.prog 49 [sideV b1 a, sideV b2 b] []) := by
  refine ctr_vc (ht := waitH b1 b2 a b) Tryd.mixed rfl ?_
  rw [vcWait_eq b1 b2 a b]
  unfold vcWait
  have e : a.getD 0 default = hd a := rfl
  simp only [e]
  simp [h0, hl]
noncomputable def waitC (b1 b2 : Bool) (a b : List Rec) : Ctr Tryd.prog := ⟨49, [sideV b1 a, sideV b2 b], [], .need (0 < a.length ∧ b.length ≤ 9223372036854775806) (boolR (lowR b (hd a))), T.Sat.need fun h => wait_c b1 b2 a b h.1 h.2⟩
/-! the program's loop -/
def jM (b1 b2 : Bool) (s : Jo) : List Blk := [rowU s.ta, .box 79 [encRs b1 s.a, .own 0 1 0 s.ta.length], rowU s.tb, .box 79 [encRs b2 s.b, .own 2 1 0 s.tb.length], rowR s.out]
def jT (s : Jo) : List AV := mkT 121 [(8, .ptr 1 0 0 0), (9, .ptr 3 0 0 0), (10, .own 4 5 0 s.out.length)]
inductive JR where
  | ok (s : Jo)
  | bad
def jO (s : Jo) : T JR := .ite s.run.isSome (.ret (.ok (s.run.getD s))) (.ret .bad)
def jS (b1 b2 : Bool) (r : JR) : Exit × List AV × List Blk := match r with
  | .ok s => (.exit 1, jT s, jM b1 b2 s)
  | .bad => (.ret, mkT 121 [(4, .s (.slice none 0 0)), (5, .s (.slice none 0 0)), (6, .s (.slice none 0 0)), (7, .s (.int .i64 145))], [])
noncomputable def jH (b1 b2 : Bool) (s : Jo) (h : Rec) : HintsT Tryd.prog := hh _ noLp (cs1 22 9 9 (waitC b1 b2 s.a s.b) (cs1 22 11 9 (waitC b2 b1 s.b s.a) (cs1 22 14 9 (ownC h s.out.length) noCs))) noOp
structure Jo.Ok (s : Jo) : Prop where
  a : ∀ x ∈ s.a, x.val.length ≤ 256
  b : ∀ x ∈ s.b, x.val.length ≤ 256
  n : s.a.length + s.b.length + s.out.length ≤ 4096
  ta : s.ta.length ≤ s.out.length
  tb : s.tb.length ≤ s.out.length
def jX : List Nat := [0, 1, 2, 3, 4, 5, 6, 7, 8, 9, 10]
def vcJ (b1 : Bool) (b2 : Bool) (s : { s : Jo // s.Ok }) (c : Bool) : Prop :=
  (decide ((0 : Int) < IntKind.wrap IntKind.i64 ((↑(List.length s.val.a) : Int) + (↑(List.length s.val.b) : Int))) = true → (((↑(List.length s.val.a) : Int) == (0 : Int)) = true → (((↑(List.length s.val.b) : Int) == (0 : Int)) = true → (Option.isSome (Jo.run s.val) = true → False) ∧ (Option.isSome (Jo.run s.val) = false → (True ∧ True ∧ True ∧ (145 : Int) = (145 : Int) ∧ True) ∧ True ∧ true = true)) ∧ (((↑(List.length s.val.b) : Int) == (0 : Int)) = false → ((false = false ∧ (2 : Nat) ≤ (2 : Nat) ∧ cellLe (2 : Nat) (fun (j : Nat) => Ax.get [AV.ys b2 (5 : Nat) (List.length s.val.b) (cellsOf' encR s.val.b), AV.ys false (1 : Nat) (List.length s.val.tb) (Ax.rowAt (0 : Nat) (cellsOf' encU s.val.tb))] ((0 : Nat) + j)) (Ax.get [AV.ys b2 (5 : Nat) (List.length s.val.b) (cellsOf' encR s.val.b), AV.junk])) ∧ (false = false ∧ (2 : Nat) ≤ (2 : Nat) ∧ cellLe (2 : Nat) (fun (j : Nat) => Ax.get [AV.ys b1 (5 : Nat) (List.length s.val.a) (cellsOf' encR s.val.a), AV.ys false (1 : Nat) (List.length s.val.ta) (Ax.rowAt (0 : Nat) (cellsOf' encU s.val.ta))] ((0 : Nat) + j)) (Ax.get [AV.ys b1 (5 : Nat) (List.length s.val.a) (cellsOf' encR s.val.a), AV.junk])) ∧ True) ∧ True ∧ ((0 : Nat) < List.length s.val.b ∧ List.length s.val.a ≤ (9223372036854775806 : Nat)) ∧ true = true ∧ True ∧ (lowR s.val.a (hd s.val.b) = true → (Option.isSome (Jo.run s.val) = true → False) ∧ (Option.isSome (Jo.run s.val) = false → (True ∧ True ∧ True ∧ (145 : Int) = (145 : Int) ∧ True) ∧ True ∧ true = true)) ∧ (lowR s.val.a (hd s.val.b) = false → (decide (List.length s.val.tb = List.length s.val.tb) && decide (List.length s.val.tb + (1 : Nat) ≤ (9223372036854775807 : Nat)) && decide ((List.length s.val.tb + (1 : Nat)) * (8 : Nat) ≤ (140737488355328 : Nat))) = true ∧ (true && decide ((0 : Int) < (↑(List.length s.val.b) : Int))) = true ∧ (((List.getD s.val.b (0 : Nat) (@default Rec instInhabitedRec)).off = (if c = true then hd s.val.a else hd s.val.b).off ∧ (List.getD s.val.b (0 : Nat) (@default Rec instInhabitedRec)).key = (if c = true then hd s.val.a else hd s.val.b).key ∧ (true = true ∧ List.length (List.getD s.val.b (0 : Nat) (@default Rec instInhabitedRec)).val = List.length (if c = true then hd s.val.a else hd s.val.b).val ∧ contLe (List.length (List.getD s.val.b (0 : Nat) (@default Rec instInhabitedRec)).val) (1 : Nat) (cellsOf' encB (List.getD s.val.b (0 : Nat) (@default Rec instInhabitedRec)).val) (cellsOf' encB (if c = true then hd s.val.a else hd s.val.b).val)) ∧ (List.getD s.val.b (0 : Nat) (@default Rec instInhabitedRec)).prod = (if c = true then hd s.val.a else hd s.val.b).prod ∧ (List.getD s.val.b (0 : Nat) (@default Rec instInhabitedRec)).seq = (if c = true then hd s.val.a else hd s.val.b).seq ∧ True) ∧ (↑(List.length s.val.out) : Int) = (↑(List.length s.val.out) : Int) ∧ True) ∧ True ∧ List.length (if c = true then hd s.val.a else hd s.val.b).val ≤ (140737488355328 : Nat) ∧ (decide (List.length s.val.out = List.length s.val.out) && decide (List.length s.val.out + (1 : Nat) ≤ (9223372036854775807 : Nat)) && decide ((List.length s.val.out + (1 : Nat)) * (64 : Nat) ≤ (140737488355328 : Nat))) = true ∧ (true && decide ((1 : Int) ≤ (↑(List.length s.val.b) : Int)) && decide ((↑(List.length s.val.b) : Int) ≤ (↑(List.length s.val.b) : Int))) = true ∧ ∃ (j : { s : Jo // Jo.Ok s }), List.length j.val.a + List.length j.val.b < List.length s.val.a + List.length s.val.b ∧ ((((0 : Nat) = (0 : Nat) ∧ (0 : Nat) = (0 : Nat)) ∧ ((0 : Nat) = (0 : Nat) ∧ (0 : Nat) = (0 : Nat)) ∧ ((0 : Nat) = (0 : Nat) ∧ List.length s.val.out + (1 : Nat) = List.length j.val.out) ∧ True) ∧ ((List.length s.val.ta = List.length j.val.ta ∧ contLe (List.length s.val.ta) (1 : Nat) (cellsOf' encU s.val.ta) (cellsOf' encU j.val.ta)) ∧ ((b1 = b1 ∧ List.length s.val.a = List.length j.val.a ∧ contLe (List.length s.val.a) (5 : Nat) (cellsOf' encR s.val.a) (cellsOf' encR j.val.a)) ∧ ((0 : Nat) = (0 : Nat) ∧ List.length s.val.ta = List.length j.val.ta) ∧ True) ∧ (List.length s.val.tb + (1 : Nat) = List.length j.val.tb ∧ contLe (List.length s.val.tb + (1 : Nat)) (1 : Nat) (appRow (List.length s.val.tb) (cellsOf' encU s.val.tb) fun (k j : Nat) => Ax.get [AV.y (Value.int IntKind.u64 (IntKind.wrap IntKind.u64 (↑(List.length s.val.out) : Int)))] (k * (1 : Nat) + j)) (cellsOf' encU j.val.tb)) ∧ ((b2 = b2 ∧ Int.toNat (↑(List.length s.val.b) : Int) - (1 : Nat) = List.length j.val.b ∧ contLe (Int.toNat (↑(List.length s.val.b) : Int) - (1 : Nat)) (5 : Nat) (fun (k : Nat) => cellsOf' encR s.val.b ((1 : Nat) + k)) (cellsOf' encR j.val.b)) ∧ ((0 : Nat) = (0 : Nat) ∧ List.length s.val.tb + (1 : Nat) = List.length j.val.tb) ∧ True) ∧ (List.length s.val.out + (1 : Nat) = List.length j.val.out ∧ contLe (List.length s.val.out + (1 : Nat)) (5 : Nat) (appRow (List.length s.val.out) (cellsOf' encR s.val.out) fun (k j : Nat) => Ax.get [AV.y (Value.int IntKind.u64 (IntKind.wrap IntKind.u64 (↑(List.length s.val.out) : Int))), AV.y (Value.string (if c = true then hd s.val.a else hd s.val.b).key), AV.ys true (1 : Nat) (List.length (if c = true then hd s.val.a else hd s.val.b).val) (cellsOf' encB (if c = true then hd s.val.a else hd s.val.b).val), AV.y (Value.int IntKind.u64 (if c = true then hd s.val.a else hd s.val.b).prod), AV.y (Value.int IntKind.u64 (if c = true then hd s.val.a else hd s.val.b).seq)] (k * (5 : Nat) + j)) (cellsOf' encR j.val.out)) ∧ True) ∧ true = true) ∧ true = true ∧ (Option.isSome (Jo.run j.val) = true → (Option.isSome (Jo.run s.val) = true → JR.ok (Option.getD (Jo.run j.val) j.val) = JR.ok (Option.getD (Jo.run s.val) s.val)) ∧ (Option.isSome (Jo.run s.val) = false → JR.ok (Option.getD (Jo.run j.val) j.val) = JR.bad)) ∧ (Option.isSome (Jo.run j.val) = false → (Option.isSome (Jo.run s.val) = true → JR.bad = JR.ok (Option.getD (Jo.run s.val) s.val)) ∧ (Option.isSome (Jo.run s.val) = false → JR.bad = JR.bad))))) ∧ (((↑(List.length s.val.a) : Int) == (0 : Int)) = false → ((false = false ∧ (2 : Nat) ≤ (2 : Nat) ∧ cellLe (2 : Nat) (fun (j : Nat) => Ax.get [AV.ys b1 (5 : Nat) (List.length s.val.a) (cellsOf' encR s.val.a), AV.ys false (1 : Nat) (List.length s.val.ta) (Ax.rowAt (0 : Nat) (cellsOf' encU s.val.ta))] ((0 : Nat) + j)) (Ax.get [AV.ys b1 (5 : Nat) (List.length s.val.a) (cellsOf' encR s.val.a), AV.junk])) ∧ (false = false ∧ (2 : Nat) ≤ (2 : Nat) ∧ cellLe (2 : Nat) (fun (j : Nat) => Ax.get [AV.ys b2 (5 : Nat) (List.length s.val.b) (cellsOf' encR s.val.b), AV.ys false (1 : Nat) (List.length s.val.tb) (Ax.rowAt (0 : Nat) (cellsOf' encU s.val.tb))] ((0 : Nat) + j)) (Ax.get [AV.ys b2 (5 : Nat) (List.length s.val.b) (cellsOf' encR s.val.b), AV.junk])) ∧ True) ∧ True ∧ ((0 : Nat) < List.length s.val.a ∧ List.length s.val.b ≤ (9223372036854775806 : Nat)) ∧ true = true ∧ True ∧ (lowR s.val.b (hd s.val.a) = true → (((↑(List.length s.val.b) : Int) == (0 : Int)) = true → (Option.isSome (Jo.run s.val) = true → False) ∧ (Option.isSome (Jo.run s.val) = false → (True ∧ True ∧ True ∧ (145 : Int) = (145 : Int) ∧ True) ∧ True ∧ true = true)) ∧ (((↑(List.length s.val.b) : Int) == (0 : Int)) = false → ((false = false ∧ (2 : Nat) ≤ (2 : Nat) ∧ cellLe (2 : Nat) (fun (j : Nat) => Ax.get [AV.ys b2 (5 : Nat) (List.length s.val.b) (cellsOf' encR s.val.b), AV.ys false (1 : Nat) (List.length s.val.tb) (Ax.rowAt (0 : Nat) (cellsOf' encU s.val.tb))] ((0 : Nat) + j)) (Ax.get [AV.ys b2 (5 : Nat) (List.length s.val.b) (cellsOf' encR s.val.b), AV.junk])) ∧ (false = false ∧ (2 : Nat) ≤ (2 : Nat) ∧ cellLe (2 : Nat) (fun (j : Nat) => Ax.get [AV.ys b1 (5 : Nat) (List.length s.val.a) (cellsOf' encR s.val.a), AV.ys false (1 : Nat) (List.length s.val.ta) (Ax.rowAt (0 : Nat) (cellsOf' encU s.val.ta))] ((0 : Nat) + j)) (Ax.get [AV.ys b1 (5 : Nat) (List.length s.val.a) (cellsOf' encR s.val.a), AV.junk])) ∧ True) ∧ True ∧ ((0 : Nat) < List.length s.val.b ∧ List.length s.val.a ≤ (9223372036854775806 : Nat)) ∧ true = true ∧ True ∧ (lowR s.val.a (hd s.val.b) = true → (Option.isSome (Jo.run s.val) = true → False) ∧ (Option.isSome (Jo.run s.val) = false → (True ∧ True ∧ True ∧ (145 : Int) = (145 : Int) ∧ True) ∧ True ∧ true = true)) ∧ (lowR s.val.a (hd s.val.b) = false → (decide (List.length s.val.tb = List.length s.val.tb) && decide (List.length s.val.tb + (1 : Nat) ≤ (9223372036854775807 : Nat)) && decide ((List.length s.val.tb + (1 : Nat)) * (8 : Nat) ≤ (140737488355328 : Nat))) = true ∧ (true && decide ((0 : Int) < (↑(List.length s.val.b) : Int))) = true ∧ (((List.getD s.val.b (0 : Nat) (@default Rec instInhabitedRec)).off = (if c = true then hd s.val.a else hd s.val.b).off ∧ (List.getD s.val.b (0 : Nat) (@default Rec instInhabitedRec)).key = (if c = true then hd s.val.a else hd s.val.b).key ∧ (true = true ∧ List.length (List.getD s.val.b (0 : Nat) (@default Rec instInhabitedRec)).val = List.length (if c = true then hd s.val.a else hd s.val.b).val ∧ contLe (List.length (List.getD s.val.b (0 : Nat) (@default Rec instInhabitedRec)).val) (1 : Nat) (cellsOf' encB (List.getD s.val.b (0 : Nat) (@default Rec instInhabitedRec)).val) (cellsOf' encB (if c = true then hd s.val.a else hd s.val.b).val)) ∧ (List.getD s.val.b (0 : Nat) (@default Rec instInhabitedRec)).prod = (if c = true then hd s.val.a else hd s.val.b).prod ∧ (List.getD s.val.b (0 : Nat) (@default Rec instInhabitedRec)).seq = (if c = true then hd s.val.a else hd s.val.b).seq ∧ True) ∧ (↑(List.length s.val.out) : Int) = (↑(List.length s.val.out) : Int) ∧ True) ∧ True ∧ List.length (if c = true then hd s.val.a else hd s.val.b).val ≤ (140737488355328 : Nat) ∧ (decide (List.length s.val.out = List.length s.val.out) && decide (List.length s.val.out + (1 : Nat) ≤ (9223372036854775807 : Nat)) && decide ((List.length s.val.out + (1 : Nat)) * (64 : Nat) ≤ (140737488355328 : Nat))) = true ∧ (true && decide ((1 : Int) ≤ (↑(List.length s.val.b) : Int)) && decide ((↑(List.length s.val.b) : Int) ≤ (↑(List.length s.val.b) : Int))) = true ∧ ∃ (j : { s : Jo // Jo.Ok s }), List.length j.val.a + List.length j.val.b < List.length s.val.a + List.length s.val.b ∧ ((((0 : Nat) = (0 : Nat) ∧ (0 : Nat) = (0 : Nat)) ∧ ((0 : Nat) = (0 : Nat) ∧ (0 : Nat) = (0 : Nat)) ∧ ((0 : Nat) = (0 : Nat) ∧ List.length s.val.out + (1 : Nat) = List.length j.val.out) ∧ True) ∧ ((List.length s.val.ta = List.length j.val.ta ∧ contLe (List.length s.val.ta) (1 : Nat) (cellsOf' encU s.val.ta) (cellsOf' encU j.val.ta)) ∧ ((b1 = b1 ∧ List.length s.val.a = List.length j.val.a ∧ contLe (List.length s.val.a) (5 : Nat) (cellsOf' encR s.val.a) (cellsOf' encR j.val.a)) ∧ ((0 : Nat) = (0 : Nat) ∧ List.length s.val.ta = List.length j.val.ta) ∧ True) ∧ (List.length s.val.tb + (1 : Nat) = List.length j.val.tb ∧ contLe (List.length s.val.tb + (1 : Nat)) (1 : Nat) (appRow (List.length s.val.tb) (cellsOf' encU s.val.tb) fun (k j : Nat) => Ax.get [AV.y (Value.int IntKind.u64 (IntKind.wrap IntKind.u64 (↑(List.length s.val.out) : Int)))] (k * (1 : Nat) + j)) (cellsOf' encU j.val.tb)) ∧ ((b2 = b2 ∧ Int.toNat (↑(List.length s.val.b) : Int) - (1 : Nat) = List.length j.val.b ∧ contLe (Int.toNat (↑(List.length s.val.b) : Int) - (1 : Nat)) (5 : Nat) (fun (k : Nat) => cellsOf' encR s.val.b ((1 : Nat) + k)) (cellsOf' encR j.val.b)) ∧ ((0 : Nat) = (0 : Nat) ∧ List.length s.val.tb + (1 : Nat) = List.length j.val.tb) ∧ True) ∧ (List.length s.val.out + (1 : Nat) = List.length j.val.out ∧ contLe (List.length s.val.out + (1 : Nat)) (5 : Nat) (appRow (List.length s.val.out) (cellsOf' encR s.val.out) fun (k j : Nat) => Ax.get [AV.y (Value.int IntKind.u64 (IntKind.wrap IntKind.u64 (↑(List.length s.val.out) : Int))), AV.y (Value.string (if c = true then hd s.val.a else hd s.val.b).key), AV.ys true (1 : Nat) (List.length (if c = true then hd s.val.a else hd s.val.b).val) (cellsOf' encB (if c = true then hd s.val.a else hd s.val.b).val), AV.y (Value.int IntKind.u64 (if c = true then hd s.val.a else hd s.val.b).prod), AV.y (Value.int IntKind.u64 (if c = true then hd s.val.a else hd s.val.b).seq)] (k * (5 : Nat) + j)) (cellsOf' encR j.val.out)) ∧ True) ∧ true = true) ∧ true = true ∧ (Option.isSome (Jo.run j.val) = true → (Option.isSome (Jo.run s.val) = true → JR.ok (Option.getD (Jo.run j.val) j.val) = JR.ok (Option.getD (Jo.run s.val) s.val)) ∧ (Option.isSome (Jo.run s.val) = false → JR.ok (Option.getD (Jo.run j.val) j.val) = JR.bad)) ∧ (Option.isSome (Jo.run j.val) = false → (Option.isSome (Jo.run s.val) = true → JR.bad = JR.ok (Option.getD (Jo.run s.val) s.val)) ∧ (Option.isSome (Jo.run s.val) = false → JR.bad = JR.bad))))) ∧ (lowR s.val.b (hd s.val.a) = false → (decide (List.length s.val.ta = List.length s.val.ta) && decide (List.length s.val.ta + (1 : Nat) ≤ (9223372036854775807 : Nat)) && decide ((List.length s.val.ta + (1 : Nat)) * (8 : Nat) ≤ (140737488355328 : Nat))) = true ∧ (true && decide ((0 : Int) < (↑(List.length s.val.a) : Int))) = true ∧ (((List.getD s.val.a (0 : Nat) (@default Rec instInhabitedRec)).off = (if c = true then hd s.val.a else hd s.val.b).off ∧ (List.getD s.val.a (0 : Nat) (@default Rec instInhabitedRec)).key = (if c = true then hd s.val.a else hd s.val.b).key ∧ (true = true ∧ List.length (List.getD s.val.a (0 : Nat) (@default Rec instInhabitedRec)).val = List.length (if c = true then hd s.val.a else hd s.val.b).val ∧ contLe (List.length (List.getD s.val.a (0 : Nat) (@default Rec instInhabitedRec)).val) (1 : Nat) (cellsOf' encB (List.getD s.val.a (0 : Nat) (@default Rec instInhabitedRec)).val) (cellsOf' encB (if c = true then hd s.val.a else hd s.val.b).val)) ∧ (List.getD s.val.a (0 : Nat) (@default Rec instInhabitedRec)).prod = (if c = true then hd s.val.a else hd s.val.b).prod ∧ (List.getD s.val.a (0 : Nat) (@default Rec instInhabitedRec)).seq = (if c = true then hd s.val.a else hd s.val.b).seq ∧ True) ∧ (↑(List.length s.val.out) : Int) = (↑(List.length s.val.out) : Int) ∧ True) ∧ True ∧ List.length (if c = true then hd s.val.a else hd s.val.b).val ≤ (140737488355328 : Nat) ∧ (decide (List.length s.val.out = List.length s.val.out) && decide (List.length s.val.out + (1 : Nat) ≤ (9223372036854775807 : Nat)) && decide ((List.length s.val.out + (1 : Nat)) * (64 : Nat) ≤ (140737488355328 : Nat))) = true ∧ (true && decide ((1 : Int) ≤ (↑(List.length s.val.a) : Int)) && decide ((↑(List.length s.val.a) : Int) ≤ (↑(List.length s.val.a) : Int))) = true ∧ ∃ (j : { s : Jo // Jo.Ok s }), List.length j.val.a + List.length j.val.b < List.length s.val.a + List.length s.val.b ∧ ((((0 : Nat) = (0 : Nat) ∧ (0 : Nat) = (0 : Nat)) ∧ ((0 : Nat) = (0 : Nat) ∧ (0 : Nat) = (0 : Nat)) ∧ ((0 : Nat) = (0 : Nat) ∧ List.length s.val.out + (1 : Nat) = List.length j.val.out) ∧ True) ∧ ((List.length s.val.ta + (1 : Nat) = List.length j.val.ta ∧ contLe (List.length s.val.ta + (1 : Nat)) (1 : Nat) (appRow (List.length s.val.ta) (cellsOf' encU s.val.ta) fun (k j : Nat) => Ax.get [AV.y (Value.int IntKind.u64 (IntKind.wrap IntKind.u64 (↑(List.length s.val.out) : Int)))] (k * (1 : Nat) + j)) (cellsOf' encU j.val.ta)) ∧ ((b1 = b1 ∧ Int.toNat (↑(List.length s.val.a) : Int) - (1 : Nat) = List.length j.val.a ∧ contLe (Int.toNat (↑(List.length s.val.a) : Int) - (1 : Nat)) (5 : Nat) (fun (k : Nat) => cellsOf' encR s.val.a ((1 : Nat) + k)) (cellsOf' encR j.val.a)) ∧ ((0 : Nat) = (0 : Nat) ∧ List.length s.val.ta + (1 : Nat) = List.length j.val.ta) ∧ True) ∧ (List.length s.val.tb = List.length j.val.tb ∧ contLe (List.length s.val.tb) (1 : Nat) (cellsOf' encU s.val.tb) (cellsOf' encU j.val.tb)) ∧ ((b2 = b2 ∧ List.length s.val.b = List.length j.val.b ∧ contLe (List.length s.val.b) (5 : Nat) (cellsOf' encR s.val.b) (cellsOf' encR j.val.b)) ∧ ((0 : Nat) = (0 : Nat) ∧ List.length s.val.tb = List.length j.val.tb) ∧ True) ∧ (List.length s.val.out + (1 : Nat) = List.length j.val.out ∧ contLe (List.length s.val.out + (1 : Nat)) (5 : Nat) (appRow (List.length s.val.out) (cellsOf' encR s.val.out) fun (k j : Nat) => Ax.get [AV.y (Value.int IntKind.u64 (IntKind.wrap IntKind.u64 (↑(List.length s.val.out) : Int))), AV.y (Value.string (if c = true then hd s.val.a else hd s.val.b).key), AV.ys true (1 : Nat) (List.length (if c = true then hd s.val.a else hd s.val.b).val) (cellsOf' encB (if c = true then hd s.val.a else hd s.val.b).val), AV.y (Value.int IntKind.u64 (if c = true then hd s.val.a else hd s.val.b).prod), AV.y (Value.int IntKind.u64 (if c = true then hd s.val.a else hd s.val.b).seq)] (k * (5 : Nat) + j)) (cellsOf' encR j.val.out)) ∧ True) ∧ true = true) ∧ true = true ∧ (Option.isSome (Jo.run j.val) = true → (Option.isSome (Jo.run s.val) = true → JR.ok (Option.getD (Jo.run j.val) j.val) = JR.ok (Option.getD (Jo.run s.val) s.val)) ∧ (Option.isSome (Jo.run s.val) = false → JR.ok (Option.getD (Jo.run j.val) j.val) = JR.bad)) ∧ (Option.isSome (Jo.run j.val) = false → (Option.isSome (Jo.run s.val) = true → JR.bad = JR.ok (Option.getD (Jo.run s.val) s.val)) ∧ (Option.isSome (Jo.run s.val) = false → JR.bad = JR.bad))))) ∧ (decide ((0 : Int) < IntKind.wrap IntKind.i64 ((↑(List.length s.val.a) : Int) + (↑(List.length s.val.b) : Int))) = false → (Option.isSome (Jo.run s.val) = true → (((0 : Nat) = (0 : Nat) ∧ (0 : Nat) = (0 : Nat)) ∧ ((0 : Nat) = (0 : Nat) ∧ (0 : Nat) = (0 : Nat)) ∧ ((0 : Nat) = (0 : Nat) ∧ List.length s.val.out = List.length (Option.getD (Jo.run s.val) s.val).out) ∧ True) ∧ ((List.length s.val.ta = List.length (Option.getD (Jo.run s.val) s.val).ta ∧ contLe (List.length s.val.ta) (1 : Nat) (cellsOf' encU s.val.ta) (cellsOf' encU (Option.getD (Jo.run s.val) s.val).ta)) ∧ ((b1 = b1 ∧ List.length s.val.a = List.length (Option.getD (Jo.run s.val) s.val).a ∧ contLe (List.length s.val.a) (5 : Nat) (cellsOf' encR s.val.a) (cellsOf' encR (Option.getD (Jo.run s.val) s.val).a)) ∧ ((0 : Nat) = (0 : Nat) ∧ List.length s.val.ta = List.length (Option.getD (Jo.run s.val) s.val).ta) ∧ True) ∧ (List.length s.val.tb = List.length (Option.getD (Jo.run s.val) s.val).tb ∧ contLe (List.length s.val.tb) (1 : Nat) (cellsOf' encU s.val.tb) (cellsOf' encU (Option.getD (Jo.run s.val) s.val).tb)) ∧ ((b2 = b2 ∧ List.length s.val.b = List.length (Option.getD (Jo.run s.val) s.val).b ∧ contLe (List.length s.val.b) (5 : Nat) (cellsOf' encR s.val.b) (cellsOf' encR (Option.getD (Jo.run s.val) s.val).b)) ∧ ((0 : Nat) = (0 : Nat) ∧ List.length s.val.tb = List.length (Option.getD (Jo.run s.val) s.val).tb) ∧ True) ∧ (List.length s.val.out = List.length (Option.getD (Jo.run s.val) s.val).out ∧ contLe (List.length s.val.out) (5 : Nat) (cellsOf' encR s.val.out) (cellsOf' encR (Option.getD (Jo.run s.val) s.val).out)) ∧ True) ∧ true = true) ∧ (Option.isSome (Jo.run s.val) = false → False))
set_option maxRecDepth 1000000 in
theorem vcJ_eq (b1 : Bool) (b2 : Bool) (s : { s : Jo // s.Ok }) (c : Bool) : (loopVC Tryd.prog (jH b1 b2 s.1 (if c then hd s.1.a else hd s.1.b)) 22 7 (fun (s : { s : Jo // s.Ok }) => s.1.a.length + s.1.b.length) (fun s => jT s.1) (fun s => jM b1 b2 s.1) jX (fun s => jO s.1) (jS b1 b2) s) = vcJ b1 b2 s c := by kernel_rfl
/-! the document's loop -/
def kM (s : Jo) : List Blk := [rowR s.out, rowU s.ta, rowU s.tb]
def kT (b1 b2 : Bool) (s : Jo) : List AV := mkT 114 [(0, encRs b1 s.a), (1, encRs b2 s.b), (10, .own 0 5 0 s.out.length), (11, .own 1 1 0 s.ta.length), (12, .own 2 1 0 s.tb.length)]
def kS (b1 b2 : Bool) (r : JR) : Exit × List AV × List Blk := match r with
  | .ok s => (.exit 0, kT b1 b2 s, kM s)
  | .bad => (.ret, mkT 114 [(4, .s (.slice none 0 0)), (5, .s (.slice none 0 0)), (6, .s (.slice none 0 0)), (7, .s (.int .i64 145))], [])
noncomputable def kH (b1 b2 : Bool) (s : Jo) : HintsT Tryd.prog := hh _ noLp (cs1 26 14 4 (lwC b2 (hd s.a) s.b) (cs1 26 17 4 (lwC b1 (hd s.b) s.a) (cs1 26 22 6 (atC (hd s.a) s.out.length) (cs1 26 26 6 (atC (hd s.b) s.out.length) noCs)))) noOp
def vcK (b1 : Bool) (b2 : Bool) (s : { s : Jo // s.Ok }) : Prop :=
  (decide ((0 : Int) < IntKind.wrap IntKind.i64 ((↑(List.length s.val.a) : Int) + (↑(List.length s.val.b) : Int))) = true → (decide ((0 : Int) < (↑(List.length s.val.a) : Int)) = true → (true && decide ((0 : Int) < (↑(List.length s.val.a) : Int))) = true ∧ ((b2 = b2 ∧ List.length s.val.b = List.length s.val.b ∧ contLe (List.length s.val.b) (5 : Nat) (cellsOf' encR s.val.b) (cellsOf' encR s.val.b)) ∧ ((List.getD s.val.a (0 : Nat) (@default Rec instInhabitedRec)).off = (hd s.val.a).off ∧ (List.getD s.val.a (0 : Nat) (@default Rec instInhabitedRec)).key = (hd s.val.a).key ∧ (true = true ∧ List.length (List.getD s.val.a (0 : Nat) (@default Rec instInhabitedRec)).val = List.length (hd s.val.a).val ∧ contLe (List.length (List.getD s.val.a (0 : Nat) (@default Rec instInhabitedRec)).val) (1 : Nat) (cellsOf' encB (List.getD s.val.a (0 : Nat) (@default Rec instInhabitedRec)).val) (cellsOf' encB (hd s.val.a).val)) ∧ (List.getD s.val.a (0 : Nat) (@default Rec instInhabitedRec)).prod = (hd s.val.a).prod ∧ (List.getD s.val.a (0 : Nat) (@default Rec instInhabitedRec)).seq = (hd s.val.a).seq ∧ True) ∧ True) ∧ True ∧ List.length s.val.b ≤ (9223372036854775806 : Nat) ∧ ((!!lowR s.val.b (hd s.val.a)) = true → (decide ((0 : Int) < (↑(List.length s.val.b) : Int)) = true → (true && decide ((0 : Int) < (↑(List.length s.val.b) : Int))) = true ∧ ((b1 = b1 ∧ List.length s.val.a = List.length s.val.a ∧ contLe (List.length s.val.a) (5 : Nat) (cellsOf' encR s.val.a) (cellsOf' encR s.val.a)) ∧ ((List.getD s.val.b (0 : Nat) (@default Rec instInhabitedRec)).off = (hd s.val.b).off ∧ (List.getD s.val.b (0 : Nat) (@default Rec instInhabitedRec)).key = (hd s.val.b).key ∧ (true = true ∧ List.length (List.getD s.val.b (0 : Nat) (@default Rec instInhabitedRec)).val = List.length (hd s.val.b).val ∧ contLe (List.length (List.getD s.val.b (0 : Nat) (@default Rec instInhabitedRec)).val) (1 : Nat) (cellsOf' encB (List.getD s.val.b (0 : Nat) (@default Rec instInhabitedRec)).val) (cellsOf' encB (hd s.val.b).val)) ∧ (List.getD s.val.b (0 : Nat) (@default Rec instInhabitedRec)).prod = (hd s.val.b).prod ∧ (List.getD s.val.b (0 : Nat) (@default Rec instInhabitedRec)).seq = (hd s.val.b).seq ∧ True) ∧ True) ∧ True ∧ List.length s.val.a ≤ (9223372036854775806 : Nat) ∧ ((!lowR s.val.b (hd s.val.a)) = true → (decide (List.length s.val.ta = List.length s.val.ta) && decide (List.length s.val.ta + (1 : Nat) ≤ (9223372036854775807 : Nat)) && decide ((List.length s.val.ta + (1 : Nat)) * (8 : Nat) ≤ (140737488355328 : Nat))) = true ∧ (true && decide ((0 : Int) < (↑(List.length s.val.a) : Int))) = true ∧ (((List.getD s.val.a (0 : Nat) (@default Rec instInhabitedRec)).off = (hd s.val.a).off ∧ (List.getD s.val.a (0 : Nat) (@default Rec instInhabitedRec)).key = (hd s.val.a).key ∧ (true = true ∧ List.length (List.getD s.val.a (0 : Nat) (@default Rec instInhabitedRec)).val = List.length (hd s.val.a).val ∧ contLe (List.length (List.getD s.val.a (0 : Nat) (@default Rec instInhabitedRec)).val) (1 : Nat) (cellsOf' encB (List.getD s.val.a (0 : Nat) (@default Rec instInhabitedRec)).val) (cellsOf' encB (hd s.val.a).val)) ∧ (List.getD s.val.a (0 : Nat) (@default Rec instInhabitedRec)).prod = (hd s.val.a).prod ∧ (List.getD s.val.a (0 : Nat) (@default Rec instInhabitedRec)).seq = (hd s.val.a).seq ∧ True) ∧ (↑(List.length s.val.out) : Int) = (↑(List.length s.val.out) : Int) ∧ True) ∧ True ∧ List.length (hd s.val.a).val ≤ (140737488355328 : Nat) ∧ (decide (List.length s.val.out = List.length s.val.out) && decide (List.length s.val.out + (1 : Nat) ≤ (9223372036854775807 : Nat)) && decide ((List.length s.val.out + (1 : Nat)) * (64 : Nat) ≤ (140737488355328 : Nat))) = true ∧ (true && decide ((1 : Int) ≤ (↑(List.length s.val.a) : Int)) && decide ((↑(List.length s.val.a) : Int) ≤ (↑(List.length s.val.a) : Int))) = true ∧ ∃ (j : { s : Jo // Jo.Ok s }), List.length j.val.a + List.length j.val.b < List.length s.val.a + List.length s.val.b ∧ (((b1 = b1 ∧ Int.toNat (↑(List.length s.val.a) : Int) - (1 : Nat) = List.length j.val.a ∧ contLe (Int.toNat (↑(List.length s.val.a) : Int) - (1 : Nat)) (5 : Nat) (fun (k : Nat) => cellsOf' encR s.val.a ((1 : Nat) + k)) (cellsOf' encR j.val.a)) ∧ (b2 = b2 ∧ List.length s.val.b = List.length j.val.b ∧ contLe (List.length s.val.b) (5 : Nat) (cellsOf' encR s.val.b) (cellsOf' encR j.val.b)) ∧ ((0 : Nat) = (0 : Nat) ∧ List.length s.val.out + (1 : Nat) = List.length j.val.out) ∧ ((0 : Nat) = (0 : Nat) ∧ List.length s.val.ta + (1 : Nat) = List.length j.val.ta) ∧ ((0 : Nat) = (0 : Nat) ∧ List.length s.val.tb = List.length j.val.tb) ∧ True) ∧ ((List.length s.val.out + (1 : Nat) = List.length j.val.out ∧ contLe (List.length s.val.out + (1 : Nat)) (5 : Nat) (appRow (List.length s.val.out) (cellsOf' encR s.val.out) fun (k j : Nat) => Ax.get [AV.y (Value.int IntKind.u64 (IntKind.wrap IntKind.u64 (↑(List.length s.val.out) : Int))), AV.y (Value.string (hd s.val.a).key), AV.ys true (1 : Nat) (List.length (hd s.val.a).val) (cellsOf' encB (hd s.val.a).val), AV.y (Value.int IntKind.u64 (hd s.val.a).prod), AV.y (Value.int IntKind.u64 (hd s.val.a).seq)] (k * (5 : Nat) + j)) (cellsOf' encR j.val.out)) ∧ (List.length s.val.ta + (1 : Nat) = List.length j.val.ta ∧ contLe (List.length s.val.ta + (1 : Nat)) (1 : Nat) (appRow (List.length s.val.ta) (cellsOf' encU s.val.ta) fun (k j : Nat) => Ax.get [AV.y (Value.int IntKind.u64 (IntKind.wrap IntKind.u64 (↑(List.length s.val.out) : Int)))] (k * (1 : Nat) + j)) (cellsOf' encU j.val.ta)) ∧ (List.length s.val.tb = List.length j.val.tb ∧ contLe (List.length s.val.tb) (1 : Nat) (cellsOf' encU s.val.tb) (cellsOf' encU j.val.tb)) ∧ True) ∧ true = true) ∧ true = true ∧ (Option.isSome (Jo.run j.val) = true → (Option.isSome (Jo.run s.val) = true → JR.ok (Option.getD (Jo.run j.val) j.val) = JR.ok (Option.getD (Jo.run s.val) s.val)) ∧ (Option.isSome (Jo.run s.val) = false → JR.ok (Option.getD (Jo.run j.val) j.val) = JR.bad)) ∧ (Option.isSome (Jo.run j.val) = false → (Option.isSome (Jo.run s.val) = true → JR.bad = JR.ok (Option.getD (Jo.run s.val) s.val)) ∧ (Option.isSome (Jo.run s.val) = false → JR.bad = JR.bad))) ∧ ((!lowR s.val.b (hd s.val.a)) = false → ((!lowR s.val.a (hd s.val.b)) = true → (decide (List.length s.val.tb = List.length s.val.tb) && decide (List.length s.val.tb + (1 : Nat) ≤ (9223372036854775807 : Nat)) && decide ((List.length s.val.tb + (1 : Nat)) * (8 : Nat) ≤ (140737488355328 : Nat))) = true ∧ (true && decide ((0 : Int) < (↑(List.length s.val.b) : Int))) = true ∧ (((List.getD s.val.b (0 : Nat) (@default Rec instInhabitedRec)).off = (hd s.val.b).off ∧ (List.getD s.val.b (0 : Nat) (@default Rec instInhabitedRec)).key = (hd s.val.b).key ∧ (true = true ∧ List.length (List.getD s.val.b (0 : Nat) (@default Rec instInhabitedRec)).val = List.length (hd s.val.b).val ∧ contLe (List.length (List.getD s.val.b (0 : Nat) (@default Rec instInhabitedRec)).val) (1 : Nat) (cellsOf' encB (List.getD s.val.b (0 : Nat) (@default Rec instInhabitedRec)).val) (cellsOf' encB (hd s.val.b).val)) ∧ (List.getD s.val.b (0 : Nat) (@default Rec instInhabitedRec)).prod = (hd s.val.b).prod ∧ (List.getD s.val.b (0 : Nat) (@default Rec instInhabitedRec)).seq = (hd s.val.b).seq ∧ True) ∧ (↑(List.length s.val.out) : Int) = (↑(List.length s.val.out) : Int) ∧ True) ∧ True ∧ List.length (hd s.val.b).val ≤ (140737488355328 : Nat) ∧ (decide (List.length s.val.out = List.length s.val.out) && decide (List.length s.val.out + (1 : Nat) ≤ (9223372036854775807 : Nat)) && decide ((List.length s.val.out + (1 : Nat)) * (64 : Nat) ≤ (140737488355328 : Nat))) = true ∧ (true && decide ((1 : Int) ≤ (↑(List.length s.val.b) : Int)) && decide ((↑(List.length s.val.b) : Int) ≤ (↑(List.length s.val.b) : Int))) = true ∧ ∃ (j : { s : Jo // Jo.Ok s }), List.length j.val.a + List.length j.val.b < List.length s.val.a + List.length s.val.b ∧ (((b1 = b1 ∧ List.length s.val.a = List.length j.val.a ∧ contLe (List.length s.val.a) (5 : Nat) (cellsOf' encR s.val.a) (cellsOf' encR j.val.a)) ∧ (b2 = b2 ∧ Int.toNat (↑(List.length s.val.b) : Int) - (1 : Nat) = List.length j.val.b ∧ contLe (Int.toNat (↑(List.length s.val.b) : Int) - (1 : Nat)) (5 : Nat) (fun (k : Nat) => cellsOf' encR s.val.b ((1 : Nat) + k)) (cellsOf' encR j.val.b)) ∧ ((0 : Nat) = (0 : Nat) ∧ List.length s.val.out + (1 : Nat) = List.length j.val.out) ∧ ((0 : Nat) = (0 : Nat) ∧ List.length s.val.ta = List.length j.val.ta) ∧ ((0 : Nat) = (0 : Nat) ∧ List.length s.val.tb + (1 : Nat) = List.length j.val.tb) ∧ True) ∧ ((List.length s.val.out + (1 : Nat) = List.length j.val.out ∧ contLe (List.length s.val.out + (1 : Nat)) (5 : Nat) (appRow (List.length s.val.out) (cellsOf' encR s.val.out) fun (k j : Nat) => Ax.get [AV.y (Value.int IntKind.u64 (IntKind.wrap IntKind.u64 (↑(List.length s.val.out) : Int))), AV.y (Value.string (hd s.val.b).key), AV.ys true (1 : Nat) (List.length (hd s.val.b).val) (cellsOf' encB (hd s.val.b).val), AV.y (Value.int IntKind.u64 (hd s.val.b).prod), AV.y (Value.int IntKind.u64 (hd s.val.b).seq)] (k * (5 : Nat) + j)) (cellsOf' encR j.val.out)) ∧ (List.length s.val.ta = List.length j.val.ta ∧ contLe (List.length s.val.ta) (1 : Nat) (cellsOf' encU s.val.ta) (cellsOf' encU j.val.ta)) ∧ (List.length s.val.tb + (1 : Nat) = List.length j.val.tb ∧ contLe (List.length s.val.tb + (1 : Nat)) (1 : Nat) (appRow (List.length s.val.tb) (cellsOf' encU s.val.tb) fun (k j : Nat) => Ax.get [AV.y (Value.int IntKind.u64 (IntKind.wrap IntKind.u64 (↑(List.length s.val.out) : Int)))] (k * (1 : Nat) + j)) (cellsOf' encU j.val.tb)) ∧ True) ∧ true = true) ∧ true = true ∧ (Option.isSome (Jo.run j.val) = true → (Option.isSome (Jo.run s.val) = true → JR.ok (Option.getD (Jo.run j.val) j.val) = JR.ok (Option.getD (Jo.run s.val) s.val)) ∧ (Option.isSome (Jo.run s.val) = false → JR.ok (Option.getD (Jo.run j.val) j.val) = JR.bad)) ∧ (Option.isSome (Jo.run j.val) = false → (Option.isSome (Jo.run s.val) = true → JR.bad = JR.ok (Option.getD (Jo.run s.val) s.val)) ∧ (Option.isSome (Jo.run s.val) = false → JR.bad = JR.bad))) ∧ ((!lowR s.val.a (hd s.val.b)) = false → (Option.isSome (Jo.run s.val) = true → False) ∧ (Option.isSome (Jo.run s.val) = false → (True ∧ True ∧ True ∧ (145 : Int) = (145 : Int) ∧ True) ∧ True ∧ true = true)))) ∧ (decide ((0 : Int) < (↑(List.length s.val.b) : Int)) = false → ((!lowR s.val.b (hd s.val.a)) = true → (decide (List.length s.val.ta = List.length s.val.ta) && decide (List.length s.val.ta + (1 : Nat) ≤ (9223372036854775807 : Nat)) && decide ((List.length s.val.ta + (1 : Nat)) * (8 : Nat) ≤ (140737488355328 : Nat))) = true ∧ (true && decide ((0 : Int) < (↑(List.length s.val.a) : Int))) = true ∧ (((List.getD s.val.a (0 : Nat) (@default Rec instInhabitedRec)).off = (hd s.val.a).off ∧ (List.getD s.val.a (0 : Nat) (@default Rec instInhabitedRec)).key = (hd s.val.a).key ∧ (true = true ∧ List.length (List.getD s.val.a (0 : Nat) (@default Rec instInhabitedRec)).val = List.length (hd s.val.a).val ∧ contLe (List.length (List.getD s.val.a (0 : Nat) (@default Rec instInhabitedRec)).val) (1 : Nat) (cellsOf' encB (List.getD s.val.a (0 : Nat) (@default Rec instInhabitedRec)).val) (cellsOf' encB (hd s.val.a).val)) ∧ (List.getD s.val.a (0 : Nat) (@default Rec instInhabitedRec)).prod = (hd s.val.a).prod ∧ (List.getD s.val.a (0 : Nat) (@default Rec instInhabitedRec)).seq = (hd s.val.a).seq ∧ True) ∧ (↑(List.length s.val.out) : Int) = (↑(List.length s.val.out) : Int) ∧ True) ∧ True ∧ List.length (hd s.val.a).val ≤ (140737488355328 : Nat) ∧ (decide (List.length s.val.out = List.length s.val.out) && decide (List.length s.val.out + (1 : Nat) ≤ (9223372036854775807 : Nat)) && decide ((List.length s.val.out + (1 : Nat)) * (64 : Nat) ≤ (140737488355328 : Nat))) = true ∧ (true && decide ((1 : Int) ≤ (↑(List.length s.val.a) : Int)) && decide ((↑(List.length s.val.a) : Int) ≤ (↑(List.length s.val.a) : Int))) = true ∧ ∃ (j : { s : Jo // Jo.Ok s }), List.length j.val.a + List.length j.val.b < List.length s.val.a + List.length s.val.b ∧ (((b1 = b1 ∧ Int.toNat (↑(List.length s.val.a) : Int) - (1 : Nat) = List.length j.val.a ∧ contLe (Int.toNat (↑(List.length s.val.a) : Int) - (1 : Nat)) (5 : Nat) (fun (k : Nat) => cellsOf' encR s.val.a ((1 : Nat) + k)) (cellsOf' encR j.val.a)) ∧ (b2 = b2 ∧ List.length s.val.b = List.length j.val.b ∧ contLe (List.length s.val.b) (5 : Nat) (cellsOf' encR s.val.b) (cellsOf' encR j.val.b)) ∧ ((0 : Nat) = (0 : Nat) ∧ List.length s.val.out + (1 : Nat) = List.length j.val.out) ∧ ((0 : Nat) = (0 : Nat) ∧ List.length s.val.ta + (1 : Nat) = List.length j.val.ta) ∧ ((0 : Nat) = (0 : Nat) ∧ List.length s.val.tb = List.length j.val.tb) ∧ True) ∧ ((List.length s.val.out + (1 : Nat) = List.length j.val.out ∧ contLe (List.length s.val.out + (1 : Nat)) (5 : Nat) (appRow (List.length s.val.out) (cellsOf' encR s.val.out) fun (k j : Nat) => Ax.get [AV.y (Value.int IntKind.u64 (IntKind.wrap IntKind.u64 (↑(List.length s.val.out) : Int))), AV.y (Value.string (hd s.val.a).key), AV.ys true (1 : Nat) (List.length (hd s.val.a).val) (cellsOf' encB (hd s.val.a).val), AV.y (Value.int IntKind.u64 (hd s.val.a).prod), AV.y (Value.int IntKind.u64 (hd s.val.a).seq)] (k * (5 : Nat) + j)) (cellsOf' encR j.val.out)) ∧ (List.length s.val.ta + (1 : Nat) = List.length j.val.ta ∧ contLe (List.length s.val.ta + (1 : Nat)) (1 : Nat) (appRow (List.length s.val.ta) (cellsOf' encU s.val.ta) fun (k j : Nat) => Ax.get [AV.y (Value.int IntKind.u64 (IntKind.wrap IntKind.u64 (↑(List.length s.val.out) : Int)))] (k * (1 : Nat) + j)) (cellsOf' encU j.val.ta)) ∧ (List.length s.val.tb = List.length j.val.tb ∧ contLe (List.length s.val.tb) (1 : Nat) (cellsOf' encU s.val.tb) (cellsOf' encU j.val.tb)) ∧ True) ∧ true = true) ∧ true = true ∧ (Option.isSome (Jo.run j.val) = true → (Option.isSome (Jo.run s.val) = true → JR.ok (Option.getD (Jo.run j.val) j.val) = JR.ok (Option.getD (Jo.run s.val) s.val)) ∧ (Option.isSome (Jo.run s.val) = false → JR.ok (Option.getD (Jo.run j.val) j.val) = JR.bad)) ∧ (Option.isSome (Jo.run j.val) = false → (Option.isSome (Jo.run s.val) = true → JR.bad = JR.ok (Option.getD (Jo.run s.val) s.val)) ∧ (Option.isSome (Jo.run s.val) = false → JR.bad = JR.bad))) ∧ ((!lowR s.val.b (hd s.val.a)) = false → (Option.isSome (Jo.run s.val) = true → False) ∧ (Option.isSome (Jo.run s.val) = false → (True ∧ True ∧ True ∧ (145 : Int) = (145 : Int) ∧ True) ∧ True ∧ true = true)))) ∧ ((!!lowR s.val.b (hd s.val.a)) = false → ((!lowR s.val.b (hd s.val.a)) = true → (decide (List.length s.val.ta = List.length s.val.ta) && decide (List.length s.val.ta + (1 : Nat) ≤ (9223372036854775807 : Nat)) && decide ((List.length s.val.ta + (1 : Nat)) * (8 : Nat) ≤ (140737488355328 : Nat))) = true ∧ (true && decide ((0 : Int) < (↑(List.length s.val.a) : Int))) = true ∧ (((List.getD s.val.a (0 : Nat) (@default Rec instInhabitedRec)).off = (hd s.val.a).off ∧ (List.getD s.val.a (0 : Nat) (@default Rec instInhabitedRec)).key = (hd s.val.a).key ∧ (true = true ∧ List.length (List.getD s.val.a (0 : Nat) (@default Rec instInhabitedRec)).val = List.length (hd s.val.a).val ∧ contLe (List.length (List.getD s.val.a (0 : Nat) (@default Rec instInhabitedRec)).val) (1 : Nat) (cellsOf' encB (List.getD s.val.a (0 : Nat) (@default Rec instInhabitedRec)).val) (cellsOf' encB (hd s.val.a).val)) ∧ (List.getD s.val.a (0 : Nat) (@default Rec instInhabitedRec)).prod = (hd s.val.a).prod ∧ (List.getD s.val.a (0 : Nat) (@default Rec instInhabitedRec)).seq = (hd s.val.a).seq ∧ True) ∧ (↑(List.length s.val.out) : Int) = (↑(List.length s.val.out) : Int) ∧ True) ∧ True ∧ List.length (hd s.val.a).val ≤ (140737488355328 : Nat) ∧ (decide (List.length s.val.out = List.length s.val.out) && decide (List.length s.val.out + (1 : Nat) ≤ (9223372036854775807 : Nat)) && decide ((List.length s.val.out + (1 : Nat)) * (64 : Nat) ≤ (140737488355328 : Nat))) = true ∧ (true && decide ((1 : Int) ≤ (↑(List.length s.val.a) : Int)) && decide ((↑(List.length s.val.a) : Int) ≤ (↑(List.length s.val.a) : Int))) = true ∧ ∃ (j : { s : Jo // Jo.Ok s }), List.length j.val.a + List.length j.val.b < List.length s.val.a + List.length s.val.b ∧ (((b1 = b1 ∧ Int.toNat (↑(List.length s.val.a) : Int) - (1 : Nat) = List.length j.val.a ∧ contLe (Int.toNat (↑(List.length s.val.a) : Int) - (1 : Nat)) (5 : Nat) (fun (k : Nat) => cellsOf' encR s.val.a ((1 : Nat) + k)) (cellsOf' encR j.val.a)) ∧ (b2 = b2 ∧ List.length s.val.b = List.length j.val.b ∧ contLe (List.length s.val.b) (5 : Nat) (cellsOf' encR s.val.b) (cellsOf' encR j.val.b)) ∧ ((0 : Nat) = (0 : Nat) ∧ List.length s.val.out + (1 : Nat) = List.length j.val.out) ∧ ((0 : Nat) = (0 : Nat) ∧ List.length s.val.ta + (1 : Nat) = List.length j.val.ta) ∧ ((0 : Nat) = (0 : Nat) ∧ List.length s.val.tb = List.length j.val.tb) ∧ True) ∧ ((List.length s.val.out + (1 : Nat) = List.length j.val.out ∧ contLe (List.length s.val.out + (1 : Nat)) (5 : Nat) (appRow (List.length s.val.out) (cellsOf' encR s.val.out) fun (k j : Nat) => Ax.get [AV.y (Value.int IntKind.u64 (IntKind.wrap IntKind.u64 (↑(List.length s.val.out) : Int))), AV.y (Value.string (hd s.val.a).key), AV.ys true (1 : Nat) (List.length (hd s.val.a).val) (cellsOf' encB (hd s.val.a).val), AV.y (Value.int IntKind.u64 (hd s.val.a).prod), AV.y (Value.int IntKind.u64 (hd s.val.a).seq)] (k * (5 : Nat) + j)) (cellsOf' encR j.val.out)) ∧ (List.length s.val.ta + (1 : Nat) = List.length j.val.ta ∧ contLe (List.length s.val.ta + (1 : Nat)) (1 : Nat) (appRow (List.length s.val.ta) (cellsOf' encU s.val.ta) fun (k j : Nat) => Ax.get [AV.y (Value.int IntKind.u64 (IntKind.wrap IntKind.u64 (↑(List.length s.val.out) : Int)))] (k * (1 : Nat) + j)) (cellsOf' encU j.val.ta)) ∧ (List.length s.val.tb = List.length j.val.tb ∧ contLe (List.length s.val.tb) (1 : Nat) (cellsOf' encU s.val.tb) (cellsOf' encU j.val.tb)) ∧ True) ∧ true = true) ∧ true = true ∧ (Option.isSome (Jo.run j.val) = true → (Option.isSome (Jo.run s.val) = true → JR.ok (Option.getD (Jo.run j.val) j.val) = JR.ok (Option.getD (Jo.run s.val) s.val)) ∧ (Option.isSome (Jo.run s.val) = false → JR.ok (Option.getD (Jo.run j.val) j.val) = JR.bad)) ∧ (Option.isSome (Jo.run j.val) = false → (Option.isSome (Jo.run s.val) = true → JR.bad = JR.ok (Option.getD (Jo.run s.val) s.val)) ∧ (Option.isSome (Jo.run s.val) = false → JR.bad = JR.bad))) ∧ ((!lowR s.val.b (hd s.val.a)) = false → (Option.isSome (Jo.run s.val) = true → False) ∧ (Option.isSome (Jo.run s.val) = false → (True ∧ True ∧ True ∧ (145 : Int) = (145 : Int) ∧ True) ∧ True ∧ true = true)))) ∧ (decide ((0 : Int) < (↑(List.length s.val.a) : Int)) = false → (decide ((0 : Int) < (↑(List.length s.val.b) : Int)) = true → (true && decide ((0 : Int) < (↑(List.length s.val.b) : Int))) = true ∧ ((b1 = b1 ∧ List.length s.val.a = List.length s.val.a ∧ contLe (List.length s.val.a) (5 : Nat) (cellsOf' encR s.val.a) (cellsOf' encR s.val.a)) ∧ ((List.getD s.val.b (0 : Nat) (@default Rec instInhabitedRec)).off = (hd s.val.b).off ∧ (List.getD s.val.b (0 : Nat) (@default Rec instInhabitedRec)).key = (hd s.val.b).key ∧ (true = true ∧ List.length (List.getD s.val.b (0 : Nat) (@default Rec instInhabitedRec)).val = List.length (hd s.val.b).val ∧ contLe (List.length (List.getD s.val.b (0 : Nat) (@default Rec instInhabitedRec)).val) (1 : Nat) (cellsOf' encB (List.getD s.val.b (0 : Nat) (@default Rec instInhabitedRec)).val) (cellsOf' encB (hd s.val.b).val)) ∧ (List.getD s.val.b (0 : Nat) (@default Rec instInhabitedRec)).prod = (hd s.val.b).prod ∧ (List.getD s.val.b (0 : Nat) (@default Rec instInhabitedRec)).seq = (hd s.val.b).seq ∧ True) ∧ True) ∧ True ∧ List.length s.val.a ≤ (9223372036854775806 : Nat) ∧ ((!lowR s.val.a (hd s.val.b)) = true → (decide (List.length s.val.tb = List.length s.val.tb) && decide (List.length s.val.tb + (1 : Nat) ≤ (9223372036854775807 : Nat)) && decide ((List.length s.val.tb + (1 : Nat)) * (8 : Nat) ≤ (140737488355328 : Nat))) = true ∧ (true && decide ((0 : Int) < (↑(List.length s.val.b) : Int))) = true ∧ (((List.getD s.val.b (0 : Nat) (@default Rec instInhabitedRec)).off = (hd s.val.b).off ∧ (List.getD s.val.b (0 : Nat) (@default Rec instInhabitedRec)).key = (hd s.val.b).key ∧ (true = true ∧ List.length (List.getD s.val.b (0 : Nat) (@default Rec instInhabitedRec)).val = List.length (hd s.val.b).val ∧ contLe (List.length (List.getD s.val.b (0 : Nat) (@default Rec instInhabitedRec)).val) (1 : Nat) (cellsOf' encB (List.getD s.val.b (0 : Nat) (@default Rec instInhabitedRec)).val) (cellsOf' encB (hd s.val.b).val)) ∧ (List.getD s.val.b (0 : Nat) (@default Rec instInhabitedRec)).prod = (hd s.val.b).prod ∧ (List.getD s.val.b (0 : Nat) (@default Rec instInhabitedRec)).seq = (hd s.val.b).seq ∧ True) ∧ (↑(List.length s.val.out) : Int) = (↑(List.length s.val.out) : Int) ∧ True) ∧ True ∧ List.length (hd s.val.b).val ≤ (140737488355328 : Nat) ∧ (decide (List.length s.val.out = List.length s.val.out) && decide (List.length s.val.out + (1 : Nat) ≤ (9223372036854775807 : Nat)) && decide ((List.length s.val.out + (1 : Nat)) * (64 : Nat) ≤ (140737488355328 : Nat))) = true ∧ (true && decide ((1 : Int) ≤ (↑(List.length s.val.b) : Int)) && decide ((↑(List.length s.val.b) : Int) ≤ (↑(List.length s.val.b) : Int))) = true ∧ ∃ (j : { s : Jo // Jo.Ok s }), List.length j.val.a + List.length j.val.b < List.length s.val.a + List.length s.val.b ∧ (((b1 = b1 ∧ List.length s.val.a = List.length j.val.a ∧ contLe (List.length s.val.a) (5 : Nat) (cellsOf' encR s.val.a) (cellsOf' encR j.val.a)) ∧ (b2 = b2 ∧ Int.toNat (↑(List.length s.val.b) : Int) - (1 : Nat) = List.length j.val.b ∧ contLe (Int.toNat (↑(List.length s.val.b) : Int) - (1 : Nat)) (5 : Nat) (fun (k : Nat) => cellsOf' encR s.val.b ((1 : Nat) + k)) (cellsOf' encR j.val.b)) ∧ ((0 : Nat) = (0 : Nat) ∧ List.length s.val.out + (1 : Nat) = List.length j.val.out) ∧ ((0 : Nat) = (0 : Nat) ∧ List.length s.val.ta = List.length j.val.ta) ∧ ((0 : Nat) = (0 : Nat) ∧ List.length s.val.tb + (1 : Nat) = List.length j.val.tb) ∧ True) ∧ ((List.length s.val.out + (1 : Nat) = List.length j.val.out ∧ contLe (List.length s.val.out + (1 : Nat)) (5 : Nat) (appRow (List.length s.val.out) (cellsOf' encR s.val.out) fun (k j : Nat) => Ax.get [AV.y (Value.int IntKind.u64 (IntKind.wrap IntKind.u64 (↑(List.length s.val.out) : Int))), AV.y (Value.string (hd s.val.b).key), AV.ys true (1 : Nat) (List.length (hd s.val.b).val) (cellsOf' encB (hd s.val.b).val), AV.y (Value.int IntKind.u64 (hd s.val.b).prod), AV.y (Value.int IntKind.u64 (hd s.val.b).seq)] (k * (5 : Nat) + j)) (cellsOf' encR j.val.out)) ∧ (List.length s.val.ta = List.length j.val.ta ∧ contLe (List.length s.val.ta) (1 : Nat) (cellsOf' encU s.val.ta) (cellsOf' encU j.val.ta)) ∧ (List.length s.val.tb + (1 : Nat) = List.length j.val.tb ∧ contLe (List.length s.val.tb + (1 : Nat)) (1 : Nat) (appRow (List.length s.val.tb) (cellsOf' encU s.val.tb) fun (k j : Nat) => Ax.get [AV.y (Value.int IntKind.u64 (IntKind.wrap IntKind.u64 (↑(List.length s.val.out) : Int)))] (k * (1 : Nat) + j)) (cellsOf' encU j.val.tb)) ∧ True) ∧ true = true) ∧ true = true ∧ (Option.isSome (Jo.run j.val) = true → (Option.isSome (Jo.run s.val) = true → JR.ok (Option.getD (Jo.run j.val) j.val) = JR.ok (Option.getD (Jo.run s.val) s.val)) ∧ (Option.isSome (Jo.run s.val) = false → JR.ok (Option.getD (Jo.run j.val) j.val) = JR.bad)) ∧ (Option.isSome (Jo.run j.val) = false → (Option.isSome (Jo.run s.val) = true → JR.bad = JR.ok (Option.getD (Jo.run s.val) s.val)) ∧ (Option.isSome (Jo.run s.val) = false → JR.bad = JR.bad))) ∧ ((!lowR s.val.a (hd s.val.b)) = false → (Option.isSome (Jo.run s.val) = true → False) ∧ (Option.isSome (Jo.run s.val) = false → (True ∧ True ∧ True ∧ (145 : Int) = (145 : Int) ∧ True) ∧ True ∧ true = true))) ∧ (decide ((0 : Int) < (↑(List.length s.val.b) : Int)) = false → (Option.isSome (Jo.run s.val) = true → False) ∧ (Option.isSome (Jo.run s.val) = false → (True ∧ True ∧ True ∧ (145 : Int) = (145 : Int) ∧ True) ∧ True ∧ true = true)))) ∧ (decide ((0 : Int) < IntKind.wrap IntKind.i64 ((↑(List.length s.val.a) : Int) + (↑(List.length s.val.b) : Int))) = false → (Option.isSome (Jo.run s.val) = true → ((b1 = b1 ∧ List.length s.val.a = List.length (Option.getD (Jo.run s.val) s.val).a ∧ contLe (List.length s.val.a) (5 : Nat) (cellsOf' encR s.val.a) (cellsOf' encR (Option.getD (Jo.run s.val) s.val).a)) ∧ (b2 = b2 ∧ List.length s.val.b = List.length (Option.getD (Jo.run s.val) s.val).b ∧ contLe (List.length s.val.b) (5 : Nat) (cellsOf' encR s.val.b) (cellsOf' encR (Option.getD (Jo.run s.val) s.val).b)) ∧ ((0 : Nat) = (0 : Nat) ∧ List.length s.val.out = List.length (Option.getD (Jo.run s.val) s.val).out) ∧ ((0 : Nat) = (0 : Nat) ∧ List.length s.val.ta = List.length (Option.getD (Jo.run s.val) s.val).ta) ∧ ((0 : Nat) = (0 : Nat) ∧ List.length s.val.tb = List.length (Option.getD (Jo.run s.val) s.val).tb) ∧ True) ∧ ((List.length s.val.out = List.length (Option.getD (Jo.run s.val) s.val).out ∧ contLe (List.length s.val.out) (5 : Nat) (cellsOf' encR s.val.out) (cellsOf' encR (Option.getD (Jo.run s.val) s.val).out)) ∧ (List.length s.val.ta = List.length (Option.getD (Jo.run s.val) s.val).ta ∧ contLe (List.length s.val.ta) (1 : Nat) (cellsOf' encU s.val.ta) (cellsOf' encU (Option.getD (Jo.run s.val) s.val).ta)) ∧ (List.length s.val.tb = List.length (Option.getD (Jo.run s.val) s.val).tb ∧ contLe (List.length s.val.tb) (1 : Nat) (cellsOf' encU s.val.tb) (cellsOf' encU (Option.getD (Jo.run s.val) s.val).tb)) ∧ True) ∧ true = true) ∧ (Option.isSome (Jo.run s.val) = false → False))
set_option maxRecDepth 1000000 in
theorem vcK_eq (b1 : Bool) (b2 : Bool) (s : { s : Jo // s.Ok }) : (loopVC Tryd.prog (kH b1 b2 s.1) 26 10 (fun (s : { s : Jo // s.Ok }) => s.1.a.length + s.1.b.length) (fun s => kT b1 b2 s.1) (fun s => kM s.1) jX (fun s => jO s.1) (kS b1 b2) s) = vcK b1 b2 s := by kernel_rfl
def joR (s : Jo) : T An := .ret (.tup [.own 0 5 0 s.out.length, .own 1 1 0 s.ta.length, .own 2 1 0 s.tb.length, .s (.int .i64 0)], [rowR s.out, rowU s.ta, rowU s.tb], [])
def Jo.end (s : Jo) : Jo := ⟨s.a, s.b, s.out, s.ta ++ [s.at], s.tb ++ [s.at]⟩
def jo0 (a b : List Rec) : Jo := ⟨a, b, [], [], []⟩
def joE (k : Int) : T An := .ret (.tup [.s (.slice none 0 0), .s (.slice none 0 0), .s (.slice none 0 0), .s (.int .i64 k)], [], [])
def joinT (a b : List Rec) : T An := .ite (isLog a && isLog b) (.ite (decide (a.length + b.length ≤ 4096)) (.ite (jo0 a b).run.isSome (joR ((jo0 a b).run.getD (jo0 a b)).end) (joE 145)) (joE 143)) (joE 1)
noncomputable def joH (b1 b2 : Bool) (a b : List Rec) : HintsT Tryd.prog := withSh (hh _ (lp1 22 7 (jobOf jT (jM b1 b2) jX jO (jS b1 b2) (jo0 a b)) noLp) (cs1 22 1 1 (lgC b1 a) (cs1 22 1 5 (lgC b2 b) noCs)) (op1 22 6 0 (.row 27 5) noOp))
  (sh1 22 5 1 1002 (sh1 22 5 4 1002 noSh))
def vcJoin (b1 : Bool) (b2 : Bool) (a : List Rec) (b : List Rec) : Prop :=
  ((b1 = b1 ∧ List.length a = List.length a ∧ contLe (List.length a) (5 : Nat) (cellsOf' encR a) (cellsOf' encR a)) ∧ True) ∧ True ∧ List.length a ≤ (9223372036854775806 : Nat) ∧ ((!isLog a) = true → ((isLog a && isLog b) = true → (decide (List.length a + List.length b ≤ (4096 : Nat)) = true → (Option.isSome (Jo.run (jo0 a b)) = true → (False ∧ False ∧ False ∧ (1 : Int) = (0 : Int) ∧ True) ∧ False) ∧ (Option.isSome (Jo.run (jo0 a b)) = false → (True ∧ True ∧ True ∧ (1 : Int) = (145 : Int) ∧ True) ∧ True)) ∧ (decide (List.length a + List.length b ≤ (4096 : Nat)) = false → (True ∧ True ∧ True ∧ (1 : Int) = (143 : Int) ∧ True) ∧ True)) ∧ ((isLog a && isLog b) = false → (True ∧ True ∧ True ∧ (1 : Int) = (1 : Int) ∧ True) ∧ True)) ∧ ((!isLog a) = false → ((b2 = b2 ∧ List.length b = List.length b ∧ contLe (List.length b) (5 : Nat) (cellsOf' encR b) (cellsOf' encR b)) ∧ True) ∧ True ∧ List.length b ≤ (9223372036854775806 : Nat) ∧ ((!isLog b) = true → ((isLog a && isLog b) = true → (decide (List.length a + List.length b ≤ (4096 : Nat)) = true → (Option.isSome (Jo.run (jo0 a b)) = true → (False ∧ False ∧ False ∧ (1 : Int) = (0 : Int) ∧ True) ∧ False) ∧ (Option.isSome (Jo.run (jo0 a b)) = false → (True ∧ True ∧ True ∧ (1 : Int) = (145 : Int) ∧ True) ∧ True)) ∧ (decide (List.length a + List.length b ≤ (4096 : Nat)) = false → (True ∧ True ∧ True ∧ (1 : Int) = (143 : Int) ∧ True) ∧ True)) ∧ ((isLog a && isLog b) = false → (True ∧ True ∧ True ∧ (1 : Int) = (1 : Int) ∧ True) ∧ True)) ∧ ((!isLog b) = false → (decide ((4096 : Int) < IntKind.wrap IntKind.i64 ((↑(List.length a) : Int) + (↑(List.length b) : Int))) = true → ((isLog a && isLog b) = true → (decide (List.length a + List.length b ≤ (4096 : Nat)) = true → (Option.isSome (Jo.run (jo0 a b)) = true → (False ∧ False ∧ False ∧ (143 : Int) = (0 : Int) ∧ True) ∧ False) ∧ (Option.isSome (Jo.run (jo0 a b)) = false → (True ∧ True ∧ True ∧ (143 : Int) = (145 : Int) ∧ True) ∧ True)) ∧ (decide (List.length a + List.length b ≤ (4096 : Nat)) = false → (True ∧ True ∧ True ∧ (143 : Int) = (143 : Int) ∧ True) ∧ True)) ∧ ((isLog a && isLog b) = false → (True ∧ True ∧ True ∧ (143 : Int) = (1 : Int) ∧ True) ∧ True)) ∧ (decide ((4096 : Int) < IntKind.wrap IntKind.i64 ((↑(List.length a) : Int) + (↑(List.length b) : Int))) = false → ((((0 : Nat) = (0 : Nat) ∧ (0 : Nat) = (0 : Nat)) ∧ ((0 : Nat) = (0 : Nat) ∧ (0 : Nat) = (0 : Nat)) ∧ ((0 : Nat) = (0 : Nat) ∧ (0 : Nat) = (0 : Nat)) ∧ True) ∧ (((0 : Nat) = (0 : Nat) ∧ contLe (0 : Nat) (1 : Nat) (fun (x x_1 : Nat) => AV.junk) (cellsOf' encU [])) ∧ ((b1 = b1 ∧ List.length a = List.length a ∧ contLe (List.length a) (5 : Nat) (cellsOf' encR a) (cellsOf' encR a)) ∧ ((0 : Nat) = (0 : Nat) ∧ (0 : Nat) = (0 : Nat)) ∧ True) ∧ ((0 : Nat) = (0 : Nat) ∧ contLe (0 : Nat) (1 : Nat) (fun (x x_1 : Nat) => AV.junk) (cellsOf' encU [])) ∧ ((b2 = b2 ∧ List.length b = List.length b ∧ contLe (List.length b) (5 : Nat) (cellsOf' encR b) (cellsOf' encR b)) ∧ ((0 : Nat) = (0 : Nat) ∧ (0 : Nat) = (0 : Nat)) ∧ True) ∧ ((0 : Nat) = (0 : Nat) ∧ contLe (0 : Nat) (5 : Nat) (fun (x x_1 : Nat) => AV.junk) (cellsOf' encR [])) ∧ True) ∧ true = true) ∧ LoopOk Tryd.prog (22 : Nat) (7 : Nat) (loopAt Tryd.prog (22 : Nat) (7 : Nat)) { t := jT (jo0 a b), m := jM b1 b2 (jo0 a b), mv := [] : St } (T.map (lout jX (jS b1 b2)) (jO (jo0 a b))) ∧ (Option.isSome (Jo.run (jo0 a b)) = true → (decide (List.length (Option.getD (Jo.run (jo0 a b)) (jo0 a b)).ta = List.length (Option.getD (Jo.run (jo0 a b)) (jo0 a b)).ta) && decide (List.length (Option.getD (Jo.run (jo0 a b)) (jo0 a b)).ta + (1 : Nat) ≤ (9223372036854775807 : Nat)) && decide ((List.length (Option.getD (Jo.run (jo0 a b)) (jo0 a b)).ta + (1 : Nat)) * (8 : Nat) ≤ (140737488355328 : Nat))) = true ∧ (decide (List.length (Option.getD (Jo.run (jo0 a b)) (jo0 a b)).tb = List.length (Option.getD (Jo.run (jo0 a b)) (jo0 a b)).tb) && decide (List.length (Option.getD (Jo.run (jo0 a b)) (jo0 a b)).tb + (1 : Nat) ≤ (9223372036854775807 : Nat)) && decide ((List.length (Option.getD (Jo.run (jo0 a b)) (jo0 a b)).tb + (1 : Nat)) * (8 : Nat) ≤ (140737488355328 : Nat))) = true ∧ ((isLog a && isLog b) = true → (decide (List.length a + List.length b ≤ (4096 : Nat)) = true → (Option.isSome (Jo.run (jo0 a b)) = true → (((0 : Nat) = (0 : Nat) ∧ List.length (Option.getD (Jo.run (jo0 a b)) (jo0 a b)).out = List.length (Option.getD (Jo.run (jo0 a b)) (jo0 a b)).out) ∧ ((0 : Nat) = (0 : Nat) ∧ List.length (Option.getD (Jo.run (jo0 a b)) (jo0 a b)).ta + (1 : Nat) = List.length ((Option.getD (Jo.run (jo0 a b)) (jo0 a b)).ta ++ [Jo.at (Option.getD (Jo.run (jo0 a b)) (jo0 a b))])) ∧ ((0 : Nat) = (0 : Nat) ∧ List.length (Option.getD (Jo.run (jo0 a b)) (jo0 a b)).tb + (1 : Nat) = List.length ((Option.getD (Jo.run (jo0 a b)) (jo0 a b)).tb ++ [Jo.at (Option.getD (Jo.run (jo0 a b)) (jo0 a b))])) ∧ (0 : Int) = (0 : Int) ∧ True) ∧ (List.length (Option.getD (Jo.run (jo0 a b)) (jo0 a b)).out = List.length (Option.getD (Jo.run (jo0 a b)) (jo0 a b)).out ∧ contLe (List.length (Option.getD (Jo.run (jo0 a b)) (jo0 a b)).out) (5 : Nat) (cellsOf' encR (Option.getD (Jo.run (jo0 a b)) (jo0 a b)).out) (cellsOf' encR (Option.getD (Jo.run (jo0 a b)) (jo0 a b)).out)) ∧ (List.length (Option.getD (Jo.run (jo0 a b)) (jo0 a b)).ta + (1 : Nat) = List.length ((Option.getD (Jo.run (jo0 a b)) (jo0 a b)).ta ++ [Jo.at (Option.getD (Jo.run (jo0 a b)) (jo0 a b))]) ∧ contLe (List.length (Option.getD (Jo.run (jo0 a b)) (jo0 a b)).ta + (1 : Nat)) (1 : Nat) (appRow (List.length (Option.getD (Jo.run (jo0 a b)) (jo0 a b)).ta) (cellsOf' encU (Option.getD (Jo.run (jo0 a b)) (jo0 a b)).ta) fun (k j : Nat) => Ax.get [AV.y (Value.int IntKind.u64 (IntKind.wrap IntKind.u64 (↑(List.length (Option.getD (Jo.run (jo0 a b)) (jo0 a b)).out) : Int)))] (k * (1 : Nat) + j)) (cellsOf' encU ((Option.getD (Jo.run (jo0 a b)) (jo0 a b)).ta ++ [Jo.at (Option.getD (Jo.run (jo0 a b)) (jo0 a b))]))) ∧ (List.length (Option.getD (Jo.run (jo0 a b)) (jo0 a b)).tb + (1 : Nat) = List.length ((Option.getD (Jo.run (jo0 a b)) (jo0 a b)).tb ++ [Jo.at (Option.getD (Jo.run (jo0 a b)) (jo0 a b))]) ∧ contLe (List.length (Option.getD (Jo.run (jo0 a b)) (jo0 a b)).tb + (1 : Nat)) (1 : Nat) (appRow (List.length (Option.getD (Jo.run (jo0 a b)) (jo0 a b)).tb) (cellsOf' encU (Option.getD (Jo.run (jo0 a b)) (jo0 a b)).tb) fun (k j : Nat) => Ax.get [AV.y (Value.int IntKind.u64 (IntKind.wrap IntKind.u64 (↑(List.length (Option.getD (Jo.run (jo0 a b)) (jo0 a b)).out) : Int)))] (k * (1 : Nat) + j)) (cellsOf' encU ((Option.getD (Jo.run (jo0 a b)) (jo0 a b)).tb ++ [Jo.at (Option.getD (Jo.run (jo0 a b)) (jo0 a b))]))) ∧ True) ∧ (Option.isSome (Jo.run (jo0 a b)) = false → False)) ∧ (decide (List.length a + List.length b ≤ (4096 : Nat)) = false → False)) ∧ ((isLog a && isLog b) = false → False)) ∧ (Option.isSome (Jo.run (jo0 a b)) = false → ((isLog a && isLog b) = true → (decide (List.length a + List.length b ≤ (4096 : Nat)) = true → (Option.isSome (Jo.run (jo0 a b)) = true → (False ∧ False ∧ False ∧ (145 : Int) = (0 : Int) ∧ True) ∧ False) ∧ (Option.isSome (Jo.run (jo0 a b)) = false → (True ∧ True ∧ True ∧ (145 : Int) = (145 : Int) ∧ True) ∧ True)) ∧ (decide (List.length a + List.length b ≤ (4096 : Nat)) = false → (True ∧ True ∧ True ∧ (145 : Int) = (143 : Int) ∧ True) ∧ True)) ∧ ((isLog a && isLog b) = false → (True ∧ True ∧ True ∧ (145 : Int) = (1 : Int) ∧ True) ∧ True)))))
set_option maxRecDepth 1000000 in
theorem vcJoin_eq (b1 : Bool) (b2 : Bool) (a : List Rec) (b : List Rec) : (ctrVC Tryd.prog (joH b1 b2 a b) 22 [encRs b1 a, encRs b2 b] [] (joinT a b)) = vcJoin b1 b2 a b := by kernel_rfl
noncomputable def koH (b1 b2 : Bool) (a b : List Rec) : HintsT Tryd.prog := hh _ (lp1 26 10 (jobOf (kT b1 b2) kM jX jO (kS b1 b2) (jo0 a b)) noLp) (cs1 26 1 1 (lrC b1 a) (cs1 26 2 1 (lrC b2 b) noCs)) (op1 26 7 0 (.row 27 5) (op1 26 8 0 (.row 24 1) (op1 26 9 0 (.row 24 1) noOp)))
def vcJoinR (b1 : Bool) (b2 : Bool) (a : List Rec) (b : List Rec) : Prop :=
  ((b1 = b1 ∧ List.length a = List.length a ∧ contLe (List.length a) (5 : Nat) (cellsOf' encR a) (cellsOf' encR a)) ∧ True) ∧ True ∧ List.length a ≤ (9223372036854775806 : Nat) ∧ ((b2 = b2 ∧ List.length b = List.length b ∧ contLe (List.length b) (5 : Nat) (cellsOf' encR b) (cellsOf' encR b)) ∧ True) ∧ True ∧ List.length b ≤ (9223372036854775806 : Nat) ∧ ((!isLog a) = true → ((isLog a && isLog b) = true → (decide (List.length a + List.length b ≤ (4096 : Nat)) = true → (Option.isSome (Jo.run (jo0 a b)) = true → (False ∧ False ∧ False ∧ (1 : Int) = (0 : Int) ∧ True) ∧ False) ∧ (Option.isSome (Jo.run (jo0 a b)) = false → (True ∧ True ∧ True ∧ (1 : Int) = (145 : Int) ∧ True) ∧ True)) ∧ (decide (List.length a + List.length b ≤ (4096 : Nat)) = false → (True ∧ True ∧ True ∧ (1 : Int) = (143 : Int) ∧ True) ∧ True)) ∧ ((isLog a && isLog b) = false → (True ∧ True ∧ True ∧ (1 : Int) = (1 : Int) ∧ True) ∧ True)) ∧ ((!isLog a) = false → ((!isLog b) = true → ((isLog a && isLog b) = true → (decide (List.length a + List.length b ≤ (4096 : Nat)) = true → (Option.isSome (Jo.run (jo0 a b)) = true → (False ∧ False ∧ False ∧ (1 : Int) = (0 : Int) ∧ True) ∧ False) ∧ (Option.isSome (Jo.run (jo0 a b)) = false → (True ∧ True ∧ True ∧ (1 : Int) = (145 : Int) ∧ True) ∧ True)) ∧ (decide (List.length a + List.length b ≤ (4096 : Nat)) = false → (True ∧ True ∧ True ∧ (1 : Int) = (143 : Int) ∧ True) ∧ True)) ∧ ((isLog a && isLog b) = false → (True ∧ True ∧ True ∧ (1 : Int) = (1 : Int) ∧ True) ∧ True)) ∧ ((!isLog b) = false → (decide ((4096 : Int) < IntKind.wrap IntKind.i64 ((↑(List.length a) : Int) + (↑(List.length b) : Int))) = true → ((isLog a && isLog b) = true → (decide (List.length a + List.length b ≤ (4096 : Nat)) = true → (Option.isSome (Jo.run (jo0 a b)) = true → (False ∧ False ∧ False ∧ (143 : Int) = (0 : Int) ∧ True) ∧ False) ∧ (Option.isSome (Jo.run (jo0 a b)) = false → (True ∧ True ∧ True ∧ (143 : Int) = (145 : Int) ∧ True) ∧ True)) ∧ (decide (List.length a + List.length b ≤ (4096 : Nat)) = false → (True ∧ True ∧ True ∧ (143 : Int) = (143 : Int) ∧ True) ∧ True)) ∧ ((isLog a && isLog b) = false → (True ∧ True ∧ True ∧ (143 : Int) = (1 : Int) ∧ True) ∧ True)) ∧ (decide ((4096 : Int) < IntKind.wrap IntKind.i64 ((↑(List.length a) : Int) + (↑(List.length b) : Int))) = false → (((b1 = b1 ∧ List.length a = List.length a ∧ contLe (List.length a) (5 : Nat) (cellsOf' encR a) (cellsOf' encR a)) ∧ (b2 = b2 ∧ List.length b = List.length b ∧ contLe (List.length b) (5 : Nat) (cellsOf' encR b) (cellsOf' encR b)) ∧ ((0 : Nat) = (0 : Nat) ∧ (0 : Nat) = (0 : Nat)) ∧ ((0 : Nat) = (0 : Nat) ∧ (0 : Nat) = (0 : Nat)) ∧ ((0 : Nat) = (0 : Nat) ∧ (0 : Nat) = (0 : Nat)) ∧ True) ∧ (((0 : Nat) = (0 : Nat) ∧ contLe (0 : Nat) (5 : Nat) (fun (x x_1 : Nat) => AV.junk) (cellsOf' encR [])) ∧ ((0 : Nat) = (0 : Nat) ∧ contLe (0 : Nat) (1 : Nat) (fun (x x_1 : Nat) => AV.junk) (cellsOf' encU [])) ∧ ((0 : Nat) = (0 : Nat) ∧ contLe (0 : Nat) (1 : Nat) (fun (x x_1 : Nat) => AV.junk) (cellsOf' encU [])) ∧ True) ∧ true = true) ∧ LoopOk Tryd.prog (26 : Nat) (10 : Nat) (loopAt Tryd.prog (26 : Nat) (10 : Nat)) { t := kT b1 b2 (jo0 a b), m := kM (jo0 a b), mv := [] : St } (T.map (lout jX (kS b1 b2)) (jO (jo0 a b))) ∧ (Option.isSome (Jo.run (jo0 a b)) = true → (decide (List.length (Option.getD (Jo.run (jo0 a b)) (jo0 a b)).ta = List.length (Option.getD (Jo.run (jo0 a b)) (jo0 a b)).ta) && decide (List.length (Option.getD (Jo.run (jo0 a b)) (jo0 a b)).ta + (1 : Nat) ≤ (9223372036854775807 : Nat)) && decide ((List.length (Option.getD (Jo.run (jo0 a b)) (jo0 a b)).ta + (1 : Nat)) * (8 : Nat) ≤ (140737488355328 : Nat))) = true ∧ (decide (List.length (Option.getD (Jo.run (jo0 a b)) (jo0 a b)).tb = List.length (Option.getD (Jo.run (jo0 a b)) (jo0 a b)).tb) && decide (List.length (Option.getD (Jo.run (jo0 a b)) (jo0 a b)).tb + (1 : Nat) ≤ (9223372036854775807 : Nat)) && decide ((List.length (Option.getD (Jo.run (jo0 a b)) (jo0 a b)).tb + (1 : Nat)) * (8 : Nat) ≤ (140737488355328 : Nat))) = true ∧ ((isLog a && isLog b) = true → (decide (List.length a + List.length b ≤ (4096 : Nat)) = true → (Option.isSome (Jo.run (jo0 a b)) = true → (((0 : Nat) = (0 : Nat) ∧ List.length (Option.getD (Jo.run (jo0 a b)) (jo0 a b)).out = List.length (Option.getD (Jo.run (jo0 a b)) (jo0 a b)).out) ∧ ((0 : Nat) = (0 : Nat) ∧ List.length (Option.getD (Jo.run (jo0 a b)) (jo0 a b)).ta + (1 : Nat) = List.length ((Option.getD (Jo.run (jo0 a b)) (jo0 a b)).ta ++ [Jo.at (Option.getD (Jo.run (jo0 a b)) (jo0 a b))])) ∧ ((0 : Nat) = (0 : Nat) ∧ List.length (Option.getD (Jo.run (jo0 a b)) (jo0 a b)).tb + (1 : Nat) = List.length ((Option.getD (Jo.run (jo0 a b)) (jo0 a b)).tb ++ [Jo.at (Option.getD (Jo.run (jo0 a b)) (jo0 a b))])) ∧ (0 : Int) = (0 : Int) ∧ True) ∧ (List.length (Option.getD (Jo.run (jo0 a b)) (jo0 a b)).out = List.length (Option.getD (Jo.run (jo0 a b)) (jo0 a b)).out ∧ contLe (List.length (Option.getD (Jo.run (jo0 a b)) (jo0 a b)).out) (5 : Nat) (cellsOf' encR (Option.getD (Jo.run (jo0 a b)) (jo0 a b)).out) (cellsOf' encR (Option.getD (Jo.run (jo0 a b)) (jo0 a b)).out)) ∧ (List.length (Option.getD (Jo.run (jo0 a b)) (jo0 a b)).ta + (1 : Nat) = List.length ((Option.getD (Jo.run (jo0 a b)) (jo0 a b)).ta ++ [Jo.at (Option.getD (Jo.run (jo0 a b)) (jo0 a b))]) ∧ contLe (List.length (Option.getD (Jo.run (jo0 a b)) (jo0 a b)).ta + (1 : Nat)) (1 : Nat) (appRow (List.length (Option.getD (Jo.run (jo0 a b)) (jo0 a b)).ta) (cellsOf' encU (Option.getD (Jo.run (jo0 a b)) (jo0 a b)).ta) fun (k j : Nat) => Ax.get [AV.y (Value.int IntKind.u64 (IntKind.wrap IntKind.u64 (↑(List.length (Option.getD (Jo.run (jo0 a b)) (jo0 a b)).out) : Int)))] (k * (1 : Nat) + j)) (cellsOf' encU ((Option.getD (Jo.run (jo0 a b)) (jo0 a b)).ta ++ [Jo.at (Option.getD (Jo.run (jo0 a b)) (jo0 a b))]))) ∧ (List.length (Option.getD (Jo.run (jo0 a b)) (jo0 a b)).tb + (1 : Nat) = List.length ((Option.getD (Jo.run (jo0 a b)) (jo0 a b)).tb ++ [Jo.at (Option.getD (Jo.run (jo0 a b)) (jo0 a b))]) ∧ contLe (List.length (Option.getD (Jo.run (jo0 a b)) (jo0 a b)).tb + (1 : Nat)) (1 : Nat) (appRow (List.length (Option.getD (Jo.run (jo0 a b)) (jo0 a b)).tb) (cellsOf' encU (Option.getD (Jo.run (jo0 a b)) (jo0 a b)).tb) fun (k j : Nat) => Ax.get [AV.y (Value.int IntKind.u64 (IntKind.wrap IntKind.u64 (↑(List.length (Option.getD (Jo.run (jo0 a b)) (jo0 a b)).out) : Int)))] (k * (1 : Nat) + j)) (cellsOf' encU ((Option.getD (Jo.run (jo0 a b)) (jo0 a b)).tb ++ [Jo.at (Option.getD (Jo.run (jo0 a b)) (jo0 a b))]))) ∧ True) ∧ (Option.isSome (Jo.run (jo0 a b)) = false → False)) ∧ (decide (List.length a + List.length b ≤ (4096 : Nat)) = false → False)) ∧ ((isLog a && isLog b) = false → False)) ∧ (Option.isSome (Jo.run (jo0 a b)) = false → ((isLog a && isLog b) = true → (decide (List.length a + List.length b ≤ (4096 : Nat)) = true → (Option.isSome (Jo.run (jo0 a b)) = true → (False ∧ False ∧ False ∧ (145 : Int) = (0 : Int) ∧ True) ∧ False) ∧ (Option.isSome (Jo.run (jo0 a b)) = false → (True ∧ True ∧ True ∧ (145 : Int) = (145 : Int) ∧ True) ∧ True)) ∧ (decide (List.length a + List.length b ≤ (4096 : Nat)) = false → (True ∧ True ∧ True ∧ (145 : Int) = (143 : Int) ∧ True) ∧ True)) ∧ ((isLog a && isLog b) = false → (True ∧ True ∧ True ∧ (145 : Int) = (1 : Int) ∧ True) ∧ True)))))
set_option maxRecDepth 1000000 in
theorem vcJoinR_eq (b1 : Bool) (b2 : Bool) (a : List Rec) (b : List Rec) : (ctrVC Tryd.prog (koH b1 b2 a b) 26 [encRs b1 a, encRs b2 b] [] (joinT a b)) = vcJoinR b1 b2 a b := by kernel_rfl
end Go.Proofs.YtjmdejbijigfjaaDoor

/-! Records: the contracts of Join. -/
namespace Go.Proofs.YtjmdejbijigfjaaDoor
open Go.Ax
set_option maxRecDepth 1000000
theorem hdE (l : List Rec) : l.getD 0 default = hd l := rfl
theorem tail_le (b : List Rec) (n : Nat) : contLe n 5 (fun k => cellsOf' encR b (1 + k)) (cellsOf' encR b.tail) := by
  intro k hk j hj
  have : b.tail.getD k default = b.getD (1 + k) default := by
    cases b with
    | nil => simp
    | cons x r => simp [Nat.add_comm 1 k]
  unfold cellsOf'
  rw [this]
  exact le0_refl _
theorem run_A {s : Jo} (h : s.tA = true) : s.run = s.goA.run := by
  have ha : s.a ≠ [] := by unfold Jo.tA at h; intro e; rw [e] at h; simp at h
  obtain ⟨x, r, hx⟩ := List.exists_cons_of_ne_nil ha
  have h1 : s.goA.a.length + s.goA.b.length + 1 = s.a.length + s.b.length := by
    simp [Jo.goA, hx]; omega
  unfold Jo.run
  rw [← h1, joinN, if_pos h]
theorem run_B {s : Jo} (h0 : s.tA = false) (h : s.tB = true) : s.run = s.goB.run := by
  have ha : s.b ≠ [] := by unfold Jo.tB at h; intro e; rw [e] at h; simp at h
  obtain ⟨x, r, hx⟩ := List.exists_cons_of_ne_nil ha
  have h1 : s.goB.a.length + s.goB.b.length + 1 = s.a.length + s.b.length := by
    simp [Jo.goB, hx]; omega
  unfold Jo.run
  rw [← h1, joinN, if_neg (by simp [h0]), if_pos h]
theorem run_no {s : Jo} (h0 : s.tA = false) (h : s.tB = false) (hn : 0 < s.a.length + s.b.length) : s.run = none := by
  obtain ⟨n, hn⟩ : ∃ n, s.a.length + s.b.length = n + 1 := ⟨s.a.length + s.b.length - 1, by omega⟩
  unfold Jo.run
  rw [hn, joinN, if_neg (by simp [h0]), if_neg (by simp [h])]
theorem run_end {s : Jo} (hn : s.a.length + s.b.length = 0) : s.run = some s := by
  unfold Jo.run
  rw [hn, joinN]
theorem ok_A {s : Jo} (h : s.Ok) (ht : s.tA = true) : s.goA.Ok := by
  have ha : s.a ≠ [] := by unfold Jo.tA at ht; intro e; rw [e] at ht; simp at ht
  obtain ⟨x, r, hx⟩ := List.exists_cons_of_ne_nil ha
  have h1 := h.n
  have h2 := h.ta
  have h3 := h.tb
  refine ⟨fun y hy => h.a y (List.mem_of_mem_tail hy), h.b, ?_, ?_, ?_⟩ <;> simp [Jo.goA, hx] at * <;> omega
theorem ok_B {s : Jo} (h : s.Ok) (ht : s.tB = true) : s.goB.Ok := by
  have ha : s.b ≠ [] := by unfold Jo.tB at ht; intro e; rw [e] at ht; simp at ht
  obtain ⟨x, r, hx⟩ := List.exists_cons_of_ne_nil ha
  have h1 := h.n
  have h2 := h.ta
  have h3 := h.tb
  refine ⟨h.a, fun y hy => h.b y (List.mem_of_mem_tail hy), ?_, ?_, ?_⟩ <;> simp [Jo.goB, hx] at * <;> omega
theorem app1_le1 {α : Type} [Inhabited α] {enc : α → List AV} {l : List α} {cs : List AV} {x : α} (h : le0 (get cs 0) (get (enc x) 0)) :
    contLe (l.length + 1) 1 (appRow l.length (cellsOf' enc l) (fun k j => get cs (k + j))) (cellsOf' enc (l ++ [x])) := by
  have := app1_le (enc := enc) (l := l) (n := l.length) (sz := 1) (cs := cs) (x := x) rfl fun j hj => by
    obtain rfl : j = 0 := by omega
    exact h
  simpa using this
theorem rec_le {cs : List AV} {x : Rec} (h0 : le0 (get cs 0) (.y (.int .u64 x.off))) (h1 : le0 (get cs 1) (.y (.string x.key))) (h2 : le0 (get cs 2) (encBs true x.val)) (h3 : le0 (get cs 3) (.y (.int .u64 x.prod))) (h4 : le0 (get cs 4) (.y (.int .u64 x.seq))) : ∀ j, j < 5 → le0 (get cs j) (get (encR x) j) := by
  intro j hj
  match j, hj with
  | 0, _ => exact h0
  | 1, _ => exact h1
  | 2, _ => exact h2
  | 3, _ => exact h3
  | 4, _ => exact h4
theorem hd_mem {l : List Rec} (h : 0 < l.length) : hd l ∈ l := by
  cases l with
  | nil => simp at h
  | cons x r => exact List.mem_cons_self
theorem getD_any (o : Option Jo) (x y : Jo) (h : o.isSome = true) : o.getD x = o.getD y := by
  cases o with
  | none => cases h
  | some z => rfl
theorem side_le (x y : AV) : cellLe 2 (fun j => Ax.get [x, y] (0 + j)) (Ax.get [x, .junk]) := by
  intro j hj
  match j, hj with
  | 0, _ => exact le0_refl _
  | 1, _ => exact le0_junk _
theorem j_loop (b1 b2 : Bool) (s : { s : Jo // s.Ok }) : LoopOk Tryd.prog 22 7 (loopAt Tryd.prog 22 7) ⟨jT s.1, jM b1 b2 s.1, []⟩ ((jO s.1).map (lout jX (jS b1 b2))) := by
  refine loop_vcH (o := fun (s : { s : Jo // s.Ok }) => jO s.1) Tryd.mixed (fun _ => rfl) (fun s => (vcJ_eq b1 b2 s s.1.tA).mpr ?_) s
  unfold vcJ
  obtain ⟨s, hs⟩ := s
  have hn := hs.n
  have hta := hs.ta
  have htb := hs.tb
  have hw : IntKind.i64.wrap ((s.a.length : Int) + s.b.length) = (s.a.length : Int) + s.b.length := wrap_i64 (by omega) (by omega)
  simp only [hdE, hw]
  have hsd : ∀ x y : AV, cellLe 2 (fun j => Ax.get [x, y] (0 + j)) (Ax.get [x, .junk]) := side_le
  simp only [hsd]
  rcases Nat.eq_zero_or_pos (s.a.length + s.b.length) with h0 | h0
  · have ha : s.a = [] := List.length_eq_zero_iff.1 (by omega)
    have hb : s.b = [] := List.length_eq_zero_iff.1 (by omega)
    simp [run_end h0, ha, hb]
  cases hA : s.tA
  · cases hB : s.tB
    · have hr := run_no hA hB h0
      have h1 : s.a = [] ∨ lowR s.b (hd s.a) = true := by unfold Jo.tA at hA; cases ha : s.a <;> simp [ha] at hA ⊢; exact hA
      have h2 : s.b = [] ∨ lowR s.a (hd s.b) = true := by unfold Jo.tB at hB; cases hb : s.b <;> simp [hb] at hB ⊢; exact hB
      have hz2 : (0 : Int) < (s.a.length : Int) + s.b.length := by omega
      rcases Nat.eq_zero_or_pos s.a.length with ha | ha
      · have ha' : s.a = [] := List.length_eq_zero_iff.1 ha
        have hb : 0 < s.b.length := by omega
        have hbn : s.b ≠ [] := List.ne_nil_of_length_pos hb
        rw [ha'] at h2
        simp [lowR, hbn] at h2
      · have han : s.a ≠ [] := List.ne_nil_of_length_pos ha
        have hl := h1.resolve_left han
        rcases Nat.eq_zero_or_pos s.b.length with hb | hb
        · have hb' : s.b = [] := List.length_eq_zero_iff.1 hb
          rw [hb'] at hl
          simp [lowR] at hl
        · have hbn : s.b ≠ [] := List.ne_nil_of_length_pos hb
          have hl2 := h2.resolve_left hbn
          simp [hz2, han, hbn, ha, hb, hl, hl2, hr]
          omega
    · have hne : s.b ≠ [] := by unfold Jo.tB at hB; intro e; rw [e] at hB; simp at hB
      have hpos : 0 < s.b.length := List.length_pos_iff.2 hne
      have hlow : lowR s.a (hd s.b) = false := by unfold Jo.tB at hB; simp at hB; exact hB.2
      have h256 : (hd s.b).val.length ≤ 256 := hs.b _ (hd_mem hpos)
      have hok := ok_B hs hB
      have hrun := run_B hA hB
      have hz : ¬ ((s.b.length : Int) = 0) := by omega
      have hz1 : (1 : Int) ≤ s.b.length := by omega
      have hz2 : (0 : Int) < (s.a.length : Int) + s.b.length := by omega
      have h1 : s.a = [] ∨ lowR s.b (hd s.a) = true := by unfold Jo.tA at hA; cases ha : s.a <;> simp [ha] at hA ⊢; exact hA
      simp only [Bool.false_eq_true, if_false]
      rcases Nat.eq_zero_or_pos s.a.length with ha | ha
      · have ha' : s.a = [] := List.length_eq_zero_iff.1 ha
        have hla : lowR ([] : List Rec) (hd s.b) = false := rfl
        simp [hz, hz1, hz2, hlow, hla, hpos, hrun, hne, ha']
        refine ⟨⟨by omega, by omega⟩, by omega, ⟨by omega, by omega⟩, s.goB, ?_, ⟨?_, ⟨rfl, contLe_refl _ _ _⟩, ⟨?_, rfl⟩, ⟨?_, ?_⟩, ⟨⟨?_, ?_⟩, ?_⟩, ?_, ?_⟩, ⟨fun h1 => ⟨fun _ => getD_any _ _ _ h1, fun h2 => by rw [h2] at h1; cases h1⟩, hok, fun h => h⟩⟩
        · simp [Jo.goB, ha']; omega
        · simp [Jo.goB]
        · simp [Jo.goB, ha']
        · simp [Jo.goB]
        · exact app1_le1 (le0_refl _)
        · simp [Jo.goB]
        · exact tail_le _ _
        · simp [Jo.goB]
        · simp [Jo.goB]
        · exact app1_le rfl (rec_le (le0_refl _) (le0_refl _) (le0_refl _) (le0_refl _) (le0_refl _))
      · have han : s.a ≠ [] := List.ne_nil_of_length_pos ha
        have hl := h1.resolve_left han
        simp [hz, hz1, hz2, hlow, hpos, hrun, hne, han, ha, hl]
        refine ⟨by omega, by omega, ⟨by omega, by omega⟩, by omega, ⟨by omega, by omega⟩, s.goB, ?_, ⟨?_, ⟨rfl, contLe_refl _ _ _⟩, ⟨⟨rfl, contLe_refl _ _ _⟩, rfl⟩, ⟨?_, ?_⟩, ⟨⟨?_, ?_⟩, ?_⟩, ?_, ?_⟩, ⟨fun h1 => ⟨fun _ => getD_any _ _ _ h1, fun h2 => by rw [h2] at h1; cases h1⟩, hok, fun h => h⟩⟩
        · simp [Jo.goB]; omega
        · simp [Jo.goB]
        · simp [Jo.goB]
        · exact app1_le1 (le0_refl _)
        · simp [Jo.goB]
        · exact tail_le _ _
        · simp [Jo.goB]
        · simp [Jo.goB]
        · exact app1_le rfl (rec_le (le0_refl _) (le0_refl _) (le0_refl _) (le0_refl _) (le0_refl _))
  · have hne : s.a ≠ [] := by unfold Jo.tA at hA; intro e; rw [e] at hA; simp at hA
    have hpos : 0 < s.a.length := List.length_pos_iff.2 hne
    have hlow : lowR s.b (hd s.a) = false := by unfold Jo.tA at hA; simp at hA; exact hA.2
    have h256 : (hd s.a).val.length ≤ 256 := hs.a _ (hd_mem hpos)
    have hok := ok_A hs hA
    have hrun := run_A hA
    have hz : ¬ ((s.a.length : Int) = 0) := by omega
    have hz1 : (1 : Int) ≤ s.a.length := by omega
    have hz2 : (0 : Int) < (s.a.length : Int) + s.b.length := by omega
    simp [hz, hz1, hz2, hlow, hpos, hrun, hne]
    refine ⟨by omega, ⟨by omega, by omega⟩, by omega, ⟨by omega, by omega⟩, s.goA, ?_, ⟨?_, ⟨?_, ?_⟩, ⟨⟨?_, ?_⟩, ?_⟩, ⟨rfl, contLe_refl _ _ _⟩, ⟨⟨rfl, contLe_refl _ _ _⟩, rfl⟩, ?_, ?_⟩, ⟨fun h1 => ⟨fun _ => getD_any _ _ _ h1, fun h2 => by rw [h2] at h1; cases h1⟩, hok, fun h => h⟩⟩
    · simp [Jo.goA]; omega
    · simp [Jo.goA]
    · simp [Jo.goA]
    · exact app1_le1 (le0_refl _)
    · simp [Jo.goA]
    · exact tail_le _ _
    · simp [Jo.goA]
    · simp [Jo.goA]
    · exact app1_le rfl (rec_le (le0_refl _) (le0_refl _) (le0_refl _) (le0_refl _) (le0_refl _))
end Go.Proofs.YtjmdejbijigfjaaDoor

/-! Records: the contracts of Join: the document's loop; both. -/
namespace Go.Proofs.YtjmdejbijigfjaaDoor
open Go.Ax
set_option maxRecDepth 1000000
theorem k_loop (b1 b2 : Bool) (s : { s : Jo // s.Ok }) : LoopOk Tryd.prog 26 10 (loopAt Tryd.prog 26 10) ⟨kT b1 b2 s.1, kM s.1, []⟩ ((jO s.1).map (lout jX (kS b1 b2))) := by
  refine loop_vcH (o := fun (s : { s : Jo // s.Ok }) => jO s.1) Tryd.mixed (fun _ => rfl) (fun s => (vcK_eq b1 b2 s).mpr ?_) s
  unfold vcK
  obtain ⟨s, hs⟩ := s
  have hn := hs.n
  have hta := hs.ta
  have htb := hs.tb
  have hw : IntKind.i64.wrap ((s.a.length : Int) + s.b.length) = (s.a.length : Int) + s.b.length := wrap_i64 (by omega) (by omega)
  simp only [hdE, hw]
  rcases Nat.eq_zero_or_pos (s.a.length + s.b.length) with h0 | h0
  · have ha : s.a = [] := List.length_eq_zero_iff.1 (by omega)
    have hb : s.b = [] := List.length_eq_zero_iff.1 (by omega)
    simp [run_end h0, ha, hb]
  have hz2 : (0 : Int) < (s.a.length : Int) + s.b.length := by omega
  cases hA : s.tA
  · cases hB : s.tB
    · have hr := run_no hA hB h0
      have h1 : s.a = [] ∨ lowR s.b (hd s.a) = true := by unfold Jo.tA at hA; cases ha : s.a <;> simp [ha] at hA ⊢; exact hA
      have h2 : s.b = [] ∨ lowR s.a (hd s.b) = true := by unfold Jo.tB at hB; cases hb : s.b <;> simp [hb] at hB ⊢; exact hB
      rcases Nat.eq_zero_or_pos s.a.length with ha | ha
      · have ha' : s.a = [] := List.length_eq_zero_iff.1 ha
        have hb : 0 < s.b.length := by omega
        have hbn : s.b ≠ [] := List.ne_nil_of_length_pos hb
        rw [ha'] at h2
        simp [lowR, hbn] at h2
      · have han : s.a ≠ [] := List.ne_nil_of_length_pos ha
        have hl := h1.resolve_left han
        rcases Nat.eq_zero_or_pos s.b.length with hb | hb
        · have hb' : s.b = [] := List.length_eq_zero_iff.1 hb
          rw [hb'] at hl
          simp [lowR] at hl
        · have hbn : s.b ≠ [] := List.ne_nil_of_length_pos hb
          have hl2 := h2.resolve_left hbn
          have ha2 : (0 : Int) < s.a.length := by omega
          have hb2 : (0 : Int) < s.b.length := by omega
          simp [hz2, han, hbn, ha, hb, ha2, hb2, hl, hl2, hr]
          omega
    · have hne : s.b ≠ [] := by unfold Jo.tB at hB; intro e; rw [e] at hB; simp at hB
      have hpos : 0 < s.b.length := List.length_pos_iff.2 hne
      have hlow : lowR s.a (hd s.b) = false := by unfold Jo.tB at hB; simp at hB; exact hB.2
      have h256 : (hd s.b).val.length ≤ 256 := hs.b _ (hd_mem hpos)
      have hok := ok_B hs hB
      have hrun := run_B hA hB
      have hz1 : (1 : Int) ≤ s.b.length := by omega
      have hb2 : (0 : Int) < s.b.length := by omega
      have h1 : s.a = [] ∨ lowR s.b (hd s.a) = true := by unfold Jo.tA at hA; cases ha : s.a <;> simp [ha] at hA ⊢; exact hA
      rcases Nat.eq_zero_or_pos s.a.length with ha | ha
      · have ha' : s.a = [] := List.length_eq_zero_iff.1 ha
        have hla : lowR ([] : List Rec) (hd s.b) = false := rfl
        simp [hz1, hz2, hb2, hlow, hla, hpos, hrun, hne, ha']
        refine ⟨⟨by omega, by omega⟩, by omega, ⟨by omega, by omega⟩, s.goB, ?_⟩
        repeat' with_reducible apply And.intro
        all_goals first
          | omega
          | exact contLe_refl _ _ _
          | (simp [Jo.goB, ha']; done)
          | (simp [Jo.goB, ha']; omega)
          | exact app1_le1 (le0_refl _)
          | exact tail_le _ _
          | exact app1_le rfl (rec_le (le0_refl _) (le0_refl _) (le0_refl _) (le0_refl _) (le0_refl _))
          | exact hok
          | exact fun h1 => ⟨fun _ => getD_any _ _ _ h1, fun h2 => by rw [h2] at h1; cases h1⟩
      · have han : s.a ≠ [] := List.ne_nil_of_length_pos ha
        have hl := h1.resolve_left han
        have ha2 : (0 : Int) < s.a.length := by omega
        simp [hz1, hz2, hb2, ha2, hlow, hpos, hrun, hne, han, ha, hl]
        refine ⟨by omega, by omega, ⟨by omega, by omega⟩, by omega, ⟨by omega, by omega⟩, s.goB, ?_⟩
        repeat' with_reducible apply And.intro
        all_goals first
          | omega
          | exact contLe_refl _ _ _
          | (simp [Jo.goB]; done)
          | (simp [Jo.goB]; omega)
          | exact app1_le1 (le0_refl _)
          | exact tail_le _ _
          | exact app1_le rfl (rec_le (le0_refl _) (le0_refl _) (le0_refl _) (le0_refl _) (le0_refl _))
          | exact hok
          | exact fun h1 => ⟨fun _ => getD_any _ _ _ h1, fun h2 => by rw [h2] at h1; cases h1⟩
  · have hne : s.a ≠ [] := by unfold Jo.tA at hA; intro e; rw [e] at hA; simp at hA
    have hpos : 0 < s.a.length := List.length_pos_iff.2 hne
    have hlow : lowR s.b (hd s.a) = false := by unfold Jo.tA at hA; simp at hA; exact hA.2
    have h256 : (hd s.a).val.length ≤ 256 := hs.a _ (hd_mem hpos)
    have hok := ok_A hs hA
    have hrun := run_A hA
    have hz1 : (1 : Int) ≤ s.a.length := by omega
    have ha2 : (0 : Int) < s.a.length := by omega
    simp [ha2, hz1, hz2, hlow, hpos, hrun, hne]
    refine ⟨by omega, ⟨by omega, by omega⟩, by omega, ⟨by omega, by omega⟩, s.goA, ?_⟩
    repeat' with_reducible apply And.intro
    all_goals first
      | omega
      | exact contLe_refl _ _ _
      | (simp [Jo.goA]; done)
      | (simp [Jo.goA]; omega)
      | exact app1_le1 (le0_refl _)
      | exact tail_le _ _
      | exact app1_le rfl (rec_le (le0_refl _) (le0_refl _) (le0_refl _) (le0_refl _) (le0_refl _))
      | exact hok
      | exact fun h1 => ⟨fun _ => getD_any _ _ _ h1, fun h2 => by rw [h2] at h1; cases h1⟩
theorem log_ok {a b : List Rec} (ha : isLog a = true) (hb : isLog b = true) (hn : a.length + b.length ≤ 4096) : (jo0 a b).Ok := by
  have key : ∀ l : List Rec, isLog l = true → ∀ x ∈ l, x.val.length ≤ 256 := by
    intro l hl x hx
    obtain ⟨k, hk, rfl⟩ := List.getElem_of_mem hx
    simp only [isLog, Bool.and_eq_true] at hl
    have h := hl.1
    unfold logFrom at h
    rw [List.all_eq_true] at h
    have h2 := h k (by simp; omega)
    simp [okR, hk] at h2
    exact h2.2.2
  exact ⟨key a ha, key b hb, by simp [jo0]; omega, by simp [jo0], by simp [jo0]⟩
theorem run_ok : ∀ (n : Nat) (s r : Jo), s.Ok → joinN n s = some r → s.a.length + s.b.length ≤ n → r.Ok ∧ r.out.length = s.out.length + (s.a.length + s.b.length) ∧ r.a = [] ∧ r.b = []
  | 0, s, r, hs, h, hn => by
    simp only [joinN] at h
    cases h
    have ha : s.a = [] := List.length_eq_zero_iff.1 (by omega)
    have hb : s.b = [] := List.length_eq_zero_iff.1 (by omega)
    exact ⟨hs, by simp [ha, hb], ha, hb⟩
  | n + 1, s, r, hs, h, hn => by
    simp only [joinN] at h
    split at h
    · rename_i hA
      have hne : s.a ≠ [] := by unfold Jo.tA at hA; intro e; rw [e] at hA; simp at hA
      obtain ⟨x, q, hx⟩ := List.exists_cons_of_ne_nil hne
      obtain ⟨h1, h2, h3⟩ := run_ok n _ r (ok_A hs hA) h (by simp [Jo.goA, hx] at hn ⊢; omega)
      refine ⟨h1, ?_, h3⟩
      rw [h2]
      simp [Jo.goA, hx]; omega
    · split at h
      · rename_i hB
        have hne : s.b ≠ [] := by unfold Jo.tB at hB; intro e; rw [e] at hB; simp at hB
        obtain ⟨x, q, hx⟩ := List.exists_cons_of_ne_nil hne
        obtain ⟨h1, h2, h3⟩ := run_ok n _ r (ok_B hs hB) h (by simp [Jo.goB, hx] at hn ⊢; omega)
        refine ⟨h1, ?_, h3⟩
        rw [h2]
        simp [Jo.goB, hx]; omega
      · cases h
theorem fin_ok {a b : List Rec} (hok : (jo0 a b).Ok) {r : Jo} (hr : (jo0 a b).run = some r) (h1 : a.length ≤ 4611686018427387903) (h2 : b.length ≤ 4611686018427387903) : a.length ≤ 9223372036854775806 ∧
    b.length ≤ 9223372036854775806 ∧
      (r.ta.length ≤ 9223372036854775806 ∧ (r.ta.length + 1) * 8 ≤ 140737488355328) ∧
        (r.tb.length ≤ 9223372036854775806 ∧ (r.tb.length + 1) * 8 ≤ 140737488355328) ∧
          contLe (r.ta.length + 1) 1
              (appRow r.ta.length (cellsOf' encU r.ta) fun k j =>
                Ax.get [AV.y (Value.int IntKind.u64 (IntKind.u64.wrap ↑r.out.length))] (k + j))
              (cellsOf' encU (r.ta ++ [r.at])) ∧
            contLe (r.tb.length + 1) 1
              (appRow r.tb.length (cellsOf' encU r.tb) fun k j =>
                Ax.get [AV.y (Value.int IntKind.u64 (IntKind.u64.wrap ↑r.out.length))] (k + j))
              (cellsOf' encU (r.tb ++ [r.at])) := by
  obtain ⟨ho, _⟩ := run_ok _ _ r hok hr (Nat.le_refl _)
  have := ho.n
  have := ho.ta
  have := ho.tb
  exact ⟨by omega, by omega, ⟨by omega, by omega⟩, ⟨by omega, by omega⟩, app1_le1 (le0_refl _), app1_le1 (le0_refl _)⟩
theorem join_c (b1 b2 : Bool) (a b : List Rec) (h1 : a.length ≤ 4611686018427387903) (h2 : b.length ≤ 4611686018427387903) : (joinT a b).Sat (ACall' Tryd.prog 22 [encRs b1 a, encRs b2 b] []) := by
  refine ctr_vc (ht := joH b1 b2 a b) Tryd.mixed rfl ?_
  rw [vcJoin_eq b1 b2 a b]
  unfold vcJoin
  have hw : IntKind.i64.wrap ((a.length : Int) + b.length) = (a.length : Int) + b.length := wrap_i64 (by omega) (by omega)
  simp only [hw]
  cases ha : isLog a
  · simp; omega
  · cases hb : isLog b
    · simp; omega
    · by_cases hn : a.length + b.length ≤ 4096
      · have hok := log_ok ha hb hn
        have lp := j_loop b1 b2 ⟨_, hok⟩
        have hn2 : ¬ ((4096 : Int) < (a.length : Int) + b.length) := by omega
        cases hr : (jo0 a b).run with
        | none => 
          simp [hn, hn2, lp, hr]
          omega
        | some r =>
          simp [hn, hn2, lp, hr]
          exact fin_ok hok hr h1 h2
      · have hn2 : (4096 : Int) < (a.length : Int) + b.length := by omega
        simp [hn, hn2]
        omega
theorem joinr_c (b1 b2 : Bool) (a b : List Rec) (h1 : a.length ≤ 4611686018427387903) (h2 : b.length ≤ 4611686018427387903) : (joinT a b).Sat (ACall' Tryd.prog 26 [encRs b1 a, encRs b2 b] []) := by
  refine ctr_vc (ht := koH b1 b2 a b) Tryd.mixed rfl ?_
  rw [vcJoinR_eq b1 b2 a b]
  unfold vcJoinR
  have hw : IntKind.i64.wrap ((a.length : Int) + b.length) = (a.length : Int) + b.length := wrap_i64 (by omega) (by omega)
  simp only [hw]
  cases ha : isLog a
  · simp; omega
  · cases hb : isLog b
    · simp; omega
    · by_cases hn : a.length + b.length ≤ 4096
      · have hok := log_ok ha hb hn
        have lp := k_loop b1 b2 ⟨_, hok⟩
        have hn2 : ¬ ((4096 : Int) < (a.length : Int) + b.length) := by omega
        cases hr : (jo0 a b).run with
        | none => 
          simp [hn, hn2, lp, hr]
          omega
        | some r =>
          simp [hn, hn2, lp, hr]
          exact fin_ok hok hr h1 h2
      · have hn2 : (4096 : Int) < (a.length : Int) + b.length := by omega
        simp [hn, hn2]
        omega
noncomputable def joinC (b1 b2 : Bool) (a b : List Rec) : Ctr Tryd.prog := ⟨22, [encRs b1 a, encRs b2 b], [], .need (a.length ≤ 4611686018427387903 ∧ b.length ≤ 4611686018427387903) (joinT a b), T.Sat.need fun h => join_c b1 b2 a b h.1 h.2⟩
noncomputable def joinrC (b1 b2 : Bool) (a b : List Rec) : Ctr Tryd.prog := ⟨26, [encRs b1 a, encRs b2 b], [], .need (a.length ≤ 4611686018427387903 ∧ b.length ≤ 4611686018427387903) (joinT a b), T.Sat.need fun h => joinr_c b1 b2 a b h.1 h.2⟩
end Go.Proofs.YtjmdejbijigfjaaDoor
