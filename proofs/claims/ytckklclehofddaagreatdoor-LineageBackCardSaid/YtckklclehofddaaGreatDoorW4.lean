import Derived.Test.YtckklclehofddaaGreatDoorE10
import Derived.Test.YtckklclehofddaaGreatDoorW3
set_option linter.unusedVariables false
set_option linter.unusedSimpArgs false
set_option linter.unusedSectionVars false
/-! Producers: the document's put, Accept, Pass; alike. -/
namespace Go.Proofs.YtckklclehofddaaGreatDoor.P
open Go.Ax
set_option maxRecDepth 1000000
/-! alike -/
def eqP (x y : Producer) : Bool := x.id == y.id && (x.seq == y.seq && (x.here == y.here && (x.offset == y.offset && true)))
def sameFrom (a b : List Producer) (k : Nat) : Bool := (List.range' k (a.length - k)).all fun j => eqP (a.getD j default) (b.getD j default)
def sameP (a b : List Producer) : Bool := a.length == b.length && sameFrom a b 0
theorem sameFrom_end {a b : List Producer} {k : Nat} (h : a.length ≤ k) : sameFrom a b k = true := by
  unfold sameFrom
  rw [show a.length - k = 0 by omega]; rfl
theorem sameFrom_step {a b : List Producer} {k : Nat} (h : k < a.length) : sameFrom a b k = (eqP (a.getD k default) (b.getD k default) && sameFrom a b (k + 1)) := by
  unfold sameFrom
  rw [show a.length - k = (a.length - (k + 1)) + 1 by omega, List.range'_succ]; rfl
def smT (b1 b2 : Bool) (a b : List Producer) (k : Nat) : List AV := mkT 26 [(0, encPs b1 a), (1, encPs b2 b), (4, .s (.bool false)), (5, .y (.int .i64 k))]
def smS (r : Bool) : Exit × List AV × List Blk := match r with
  | true => (.exit 0, mkT 26 [], [])
  | false => (.ret, mkT 26 [(4, .s (.bool false))], [])
def smO (a b : List Producer) (k : Nat) : T Bool := .ite (sameFrom a b k) (.ret true) (.ret false)
def vcSameL (b1 : Bool) (b2 : Bool) (a : List Producer) (b : List Producer) (k : Nat) : Prop :=
  (decide ((↑k : Int) < (↑(List.length a) : Int)) = true → (true && decide ((↑k : Int) < (↑(List.length a) : Int))) = true ∧ (true && decide ((↑k : Int) < (↑(List.length b) : Int))) = true ∧ ((!((List.getD a (Int.toNat (↑k : Int)) (@default Producer instInhabitedProducer)).id == (List.getD b (Int.toNat (↑k : Int)) (@default Producer instInhabitedProducer)).id && ((List.getD a (Int.toNat (↑k : Int)) (@default Producer instInhabitedProducer)).seq == (List.getD b (Int.toNat (↑k : Int)) (@default Producer instInhabitedProducer)).seq && ((List.getD a (Int.toNat (↑k : Int)) (@default Producer instInhabitedProducer)).here == (List.getD b (Int.toNat (↑k : Int)) (@default Producer instInhabitedProducer)).here && ((List.getD a (Int.toNat (↑k : Int)) (@default Producer instInhabitedProducer)).offset == (List.getD b (Int.toNat (↑k : Int)) (@default Producer instInhabitedProducer)).offset && true))))) = true → (sameFrom a b k = true → False) ∧ (sameFrom a b k = false → (false = false ∧ True) ∧ True ∧ true = true)) ∧ ((!((List.getD a (Int.toNat (↑k : Int)) (@default Producer instInhabitedProducer)).id == (List.getD b (Int.toNat (↑k : Int)) (@default Producer instInhabitedProducer)).id && ((List.getD a (Int.toNat (↑k : Int)) (@default Producer instInhabitedProducer)).seq == (List.getD b (Int.toNat (↑k : Int)) (@default Producer instInhabitedProducer)).seq && ((List.getD a (Int.toNat (↑k : Int)) (@default Producer instInhabitedProducer)).here == (List.getD b (Int.toNat (↑k : Int)) (@default Producer instInhabitedProducer)).here && ((List.getD a (Int.toNat (↑k : Int)) (@default Producer instInhabitedProducer)).offset == (List.getD b (Int.toNat (↑k : Int)) (@default Producer instInhabitedProducer)).offset && true))))) = false → ∃ (j : Nat), List.length a - j < List.length a - k ∧ (((b1 = b1 ∧ List.length a = List.length a ∧ contLe (List.length a) (4 : Nat) (cellsOf' encP a) (cellsOf' encP a)) ∧ (b2 = b2 ∧ List.length b = List.length b ∧ contLe (List.length b) (4 : Nat) (cellsOf' encP b) (cellsOf' encP b)) ∧ false = false ∧ IntKind.wrap IntKind.i64 ((↑k : Int) + (1 : Int)) = (↑j : Int) ∧ True) ∧ True ∧ true = true) ∧ true = true ∧ (sameFrom a b j = true → (sameFrom a b k = true → true = true) ∧ (sameFrom a b k = false → true = false)) ∧ (sameFrom a b j = false → (sameFrom a b k = true → false = true) ∧ (sameFrom a b k = false → false = false)))) ∧ (decide ((↑k : Int) < (↑(List.length a) : Int)) = false → (sameFrom a b k = true → True ∧ True ∧ true = true) ∧ (sameFrom a b k = false → False))
set_option maxRecDepth 1000000 in
theorem vcSameL_eq (b1 : Bool) (b2 : Bool) (a : List Producer) (b : List Producer) (k : Nat) : (loopVC Tryz.prog (hT _) 26 4 (fun k => a.length - k) (smT b1 b2 a b) (fun _ => []) [] (smO a b) smS k) = vcSameL b1 b2 a b k := by kernel_rfl
theorem same_loop (b1 b2 : Bool) (a b : List Producer) (hl : a.length ≤ 9223372036854775806) (he : a.length = b.length) (k : Nat) : LoopOk Tryz.prog 26 4 (loopAt Tryz.prog 26 4) ⟨smT b1 b2 a b k, [], []⟩ ((smO a b k).map (lout [] smS)) := by
  refine loop_vc Tryz.mixed (fun _ => rfl) (fun k => (vcSameL_eq b1 b2 a b k).mpr ?_) k
  unfold vcSameL
  simp
  refine ⟨fun h => ?_, fun h => by simp [sameFrom_end h]⟩
  rw [sameFrom_step h]
  simp (disch := omega) only [wrap_i64]
  simp [eqP, cast_succ_eq]
  generalize a[k]?.getD default = x
  generalize b[k]?.getD default = y
  grind
def smR (a b : List Producer) : T An := .ret (.y (.bool (sameP a b)), [], [])
noncomputable def smH (b1 b2 : Bool) (a b : List Producer) : HintsT Tryz.prog := hh _ (lp1 26 4 (jobOf (smT b1 b2 a b) (fun _ => []) [] (smO a b) smS 0) noLp) noCs noOp
def vcSame (b1 : Bool) (b2 : Bool) (a : List Producer) (b : List Producer) : Prop :=
  (((↑(List.length a) : Int) != (↑(List.length b) : Int)) = true → false = sameP a b ∧ True) ∧ (((↑(List.length a) : Int) != (↑(List.length b) : Int)) = false → (((b1 = b1 ∧ List.length a = List.length a ∧ contLe (List.length a) (4 : Nat) (cellsOf' encP a) (cellsOf' encP a)) ∧ (b2 = b2 ∧ List.length b = List.length b ∧ contLe (List.length b) (4 : Nat) (cellsOf' encP b) (cellsOf' encP b)) ∧ false = false ∧ (0 : Int) = (0 : Int) ∧ True) ∧ True ∧ true = true) ∧ LoopOk Tryz.prog (26 : Nat) (4 : Nat) (loopAt Tryz.prog (26 : Nat) (4 : Nat)) { t := smT b1 b2 a b (0 : Nat), m := [], mv := [] : St } (T.map (lout [] smS) (smO a b (0 : Nat))) ∧ (sameFrom a b (0 : Nat) = true → true = sameP a b ∧ True) ∧ (sameFrom a b (0 : Nat) = false → false = sameP a b ∧ True))
set_option maxRecDepth 1000000 in
theorem vcSame_eq (b1 : Bool) (b2 : Bool) (a : List Producer) (b : List Producer) : (ctrVC Tryz.prog (smH b1 b2 a b) 26 [encPs b1 a, encPs b2 b] [] (smR a b)) = vcSame b1 b2 a b := by kernel_rfl
theorem same_c (b1 b2 : Bool) (a b : List Producer) (hl : a.length ≤ 9223372036854775806) : (smR a b).Sat (ACall' Tryz.prog 26 [encPs b1 a, encPs b2 b] []) := by
  refine ctr_vc (ht := smH b1 b2 a b) Tryz.mixed rfl ?_
  rw [vcSame_eq b1 b2 a b]
  unfold vcSame
  by_cases he : a.length = b.length
  · have := same_loop b1 b2 a b hl he 0
    simp [sameP, he, this]
  · have he' : ¬ ((a.length : Int) = b.length) := by omega
    simp [sameP, he, he']
/-! the document's put -/
def stp (x : Producer) (s : Bool × List Producer) (y : Producer) : Bool × List Producer :=
  let s1 := if (decide (x.id ≤ y.id) && !s.1) = true then (true, s.2 ++ [x]) else s
  if y.id = x.id then s1 else (s1.1, s1.2 ++ [y])
end Go.Proofs.YtckklclehofddaaGreatDoor.P

/-! Producers: the document's put is the program's, on tables; the document's Accept and Pass. -/
namespace Go.Proofs.YtckklclehofddaaGreatDoor.P
open Go.Ax
set_option maxRecDepth 1000000
theorem oth_cons (y : Producer) (t : List Producer) (x : Producer) : oth (y :: t) x = if y.id = x.id then oth t x else y :: oth t x := by
  by_cases h : y.id = x.id
  · rw [if_pos h]; unfold oth; rw [List.filter_cons_of_neg (by simp [keep, h])]
  · rw [if_neg h]; unfold oth; rw [List.filter_cons_of_pos (by simp [keep, h])]
theorem putL_cons_lt {y : Producer} {t : List Producer} {x : Producer} (h : y.id < x.id) : putL (y :: t) x = y :: putL t x := by
  have h' : ¬ y.id = x.id := by omega
  simp [putL, oth_cons, below, h, h']
theorem putL_ge {y : Producer} {t : List Producer} {x : Producer} (h : x.id ≤ y.id) (ht : ∀ z ∈ t, y.id < z.id) : putL (y :: t) x = x :: oth (y :: t) x := by
  have : below (oth (y :: t) x) x.id = 0 := by
    unfold below
    rw [List.length_eq_zero_iff]
    cases hd : oth (y :: t) x with
    | nil => rfl
    | cons z r =>
      have hz : z ∈ oth (y :: t) x := by rw [hd]; exact List.mem_cons_self
      have hz' : z ∈ y :: t := (List.mem_filter.1 hz).1
      have hlt : ¬ z.id < x.id := by
        rcases List.mem_cons.1 hz' with h1 | h1
        · rw [h1]; omega
        · have := ht z h1; omega
      rw [List.takeWhile_cons_of_neg]
      simpa using hlt
  rw [putL, this]; rfl
theorem rising_pw (r : List Producer) : rising r ↔ r.Pairwise (fun a b => a.id < b.id) := by
  rw [List.pairwise_iff_getElem]
  constructor
  · intro h i j hi hj hij
    have := h i j hij hj
    simpa [hi, hj] using this
  · intro h i j hij hj
    have := h i j (by omega) hj hij
    simpa [show i < r.length by omega, hj] using this
end Go.Proofs.YtckklclehofddaaGreatDoor.P

/-! Producers: Move. -/
namespace Go.Proofs.YtckklclehofddaaGreatDoor.P
open Go.Ax
set_option maxRecDepth 1000000
def encI (x : Int) : List AV := [.y (.int .u64 x)]
def encU (b : Bool) (l : List Int) : AV := .ys b 1 l.length (cellsOf' encI l)
def mvOk (x : Producer) (to : List Int) : Bool := x.here && (decide (1 < to.length) && (decide (x.offset ≤ (to.length : Int) - 2) && decide (to.getD x.offset.toNat default < to.getD (x.offset.toNat + 1) default)))
def mvP (to : List Int) (x : Producer) : Producer := if mvOk x to then ⟨x.id, x.seq, true, to.getD x.offset.toNat default⟩ else ⟨x.id, x.seq, false, 0⟩
def moveL (l : List Producer) (to : List Int) : List Producer := l.map (mvP to)
def mvM (l : List Producer) (to : List Int) (k : Nat) : List Blk := [.row 39 4 (l.take k).length none (cellsOf' encP (moveL (l.take k) to))]
def mvT (b1 b2 : Bool) (l : List Producer) (to : List Int) (k : Nat) : List AV := mkT 64 [(1, encU b2 to), (5, .own 0 4 0 (l.take k).length), (9, encPs b1 l), (10, .y (.int .i64 l.length)), (11, .y (.int .i64 k))]
def mvS (b2 : Bool) (l : List Producer) (to : List Int) (_ : Unit) : Exit × List AV × List Blk := (.exit 0, mkT 64 [(1, encU b2 to), (5, .own 0 4 0 l.length)], [.row 39 4 l.length none (cellsOf' encP (moveL l to))])
def vcMvL (b1 : Bool) (b2 : Bool) (l : List Producer) (to : List Int) (k : Nat) : Prop :=
  (decide ((↑k : Int) < (↑(List.length l) : Int)) = true → (true && decide ((↑k : Int) < (↑(List.length l) : Int))) = true ∧ ((List.getD l (Int.toNat (↑k : Int)) (@default Producer instInhabitedProducer)).here = true → (decide ((1 : Int) < IntKind.wrap IntKind.u64 (↑(List.length to) : Int)) = true → (decide ((List.getD l (Int.toNat (↑k : Int)) (@default Producer instInhabitedProducer)).offset ≤ IntKind.wrap IntKind.u64 (IntKind.wrap IntKind.i64 ((↑(List.length to) : Int) - (2 : Int)))) = true → (decide ((0 : Int) ≤ IntKind.wrap IntKind.u64 ((List.getD l (Int.toNat (↑k : Int)) (@default Producer instInhabitedProducer)).offset + (1 : Int))) && decide (IntKind.wrap IntKind.u64 ((List.getD l (Int.toNat (↑k : Int)) (@default Producer instInhabitedProducer)).offset + (1 : Int)) < (↑(List.length to) : Int))) = true ∧ (decide ((0 : Int) ≤ (List.getD l (Int.toNat (↑k : Int)) (@default Producer instInhabitedProducer)).offset) && decide ((List.getD l (Int.toNat (↑k : Int)) (@default Producer instInhabitedProducer)).offset < (↑(List.length to) : Int))) = true ∧ (decide (List.getD to (Int.toNat (List.getD l (Int.toNat (↑k : Int)) (@default Producer instInhabitedProducer)).offset) (0 : Int) < List.getD to (Int.toNat (IntKind.wrap IntKind.u64 ((List.getD l (Int.toNat (↑k : Int)) (@default Producer instInhabitedProducer)).offset + (1 : Int)))) (0 : Int)) = true → (decide ((0 : Int) ≤ (List.getD l (Int.toNat (↑k : Int)) (@default Producer instInhabitedProducer)).offset) && decide ((List.getD l (Int.toNat (↑k : Int)) (@default Producer instInhabitedProducer)).offset < (↑(List.length to) : Int))) = true ∧ (decide (List.length (List.take k l) = List.length (List.take k l)) && decide (List.length (List.take k l) + (1 : Nat) ≤ (9223372036854775807 : Nat)) && decide ((List.length (List.take k l) + (1 : Nat)) * (32 : Nat) ≤ (140737488355328 : Nat))) = true ∧ ∃ (j : Nat), List.length l - j < List.length l - k ∧ (((b2 = b2 ∧ List.length to = List.length to ∧ contLe (List.length to) (1 : Nat) (cellsOf' encI to) (cellsOf' encI to)) ∧ ((0 : Nat) = (0 : Nat) ∧ List.length (List.take k l) + (1 : Nat) = List.length (List.take j l)) ∧ (b1 = b1 ∧ List.length l = List.length l ∧ contLe (List.length l) (4 : Nat) (cellsOf' encP l) (cellsOf' encP l)) ∧ (↑(List.length l) : Int) = (↑(List.length l) : Int) ∧ IntKind.wrap IntKind.i64 ((↑k : Int) + (1 : Int)) = (↑j : Int) ∧ True) ∧ ((List.length (List.take k l) + (1 : Nat) = List.length (List.take j l) ∧ contLe (List.length (List.take k l) + (1 : Nat)) (4 : Nat) (appRow (List.length (List.take k l)) (cellsOf' encP (moveL (List.take k l) to)) fun (k_1 j : Nat) => Ax.get [AV.y (Value.int IntKind.u64 (List.getD l (Int.toNat (↑k : Int)) (@default Producer instInhabitedProducer)).id), AV.y (Value.int IntKind.u64 (List.getD l (Int.toNat (↑k : Int)) (@default Producer instInhabitedProducer)).seq), AV.s (Value.bool true), AV.y (Value.int IntKind.u64 (List.getD to (Int.toNat (List.getD l (Int.toNat (↑k : Int)) (@default Producer instInhabitedProducer)).offset) (0 : Int)))] (k_1 * (4 : Nat) + j)) (cellsOf' encP (moveL (List.take j l) to))) ∧ True) ∧ true = true) ∧ true = true ∧ () = ()) ∧ (decide (List.getD to (Int.toNat (List.getD l (Int.toNat (↑k : Int)) (@default Producer instInhabitedProducer)).offset) (0 : Int) < List.getD to (Int.toNat (IntKind.wrap IntKind.u64 ((List.getD l (Int.toNat (↑k : Int)) (@default Producer instInhabitedProducer)).offset + (1 : Int)))) (0 : Int)) = false → (decide (List.length (List.take k l) = List.length (List.take k l)) && decide (List.length (List.take k l) + (1 : Nat) ≤ (9223372036854775807 : Nat)) && decide ((List.length (List.take k l) + (1 : Nat)) * (32 : Nat) ≤ (140737488355328 : Nat))) = true ∧ ∃ (j : Nat), List.length l - j < List.length l - k ∧ (((b2 = b2 ∧ List.length to = List.length to ∧ contLe (List.length to) (1 : Nat) (cellsOf' encI to) (cellsOf' encI to)) ∧ ((0 : Nat) = (0 : Nat) ∧ List.length (List.take k l) + (1 : Nat) = List.length (List.take j l)) ∧ (b1 = b1 ∧ List.length l = List.length l ∧ contLe (List.length l) (4 : Nat) (cellsOf' encP l) (cellsOf' encP l)) ∧ (↑(List.length l) : Int) = (↑(List.length l) : Int) ∧ IntKind.wrap IntKind.i64 ((↑k : Int) + (1 : Int)) = (↑j : Int) ∧ True) ∧ ((List.length (List.take k l) + (1 : Nat) = List.length (List.take j l) ∧ contLe (List.length (List.take k l) + (1 : Nat)) (4 : Nat) (appRow (List.length (List.take k l)) (cellsOf' encP (moveL (List.take k l) to)) fun (k_1 j : Nat) => Ax.get [AV.y (Value.int IntKind.u64 (List.getD l (Int.toNat (↑k : Int)) (@default Producer instInhabitedProducer)).id), AV.y (Value.int IntKind.u64 (List.getD l (Int.toNat (↑k : Int)) (@default Producer instInhabitedProducer)).seq), AV.s (Value.bool false), AV.s (Value.int IntKind.u64 (0 : Int))] (k_1 * (4 : Nat) + j)) (cellsOf' encP (moveL (List.take j l) to))) ∧ True) ∧ true = true) ∧ true = true ∧ () = ())) ∧ (decide ((List.getD l (Int.toNat (↑k : Int)) (@default Producer instInhabitedProducer)).offset ≤ IntKind.wrap IntKind.u64 (IntKind.wrap IntKind.i64 ((↑(List.length to) : Int) - (2 : Int)))) = false → (decide (List.length (List.take k l) = List.length (List.take k l)) && decide (List.length (List.take k l) + (1 : Nat) ≤ (9223372036854775807 : Nat)) && decide ((List.length (List.take k l) + (1 : Nat)) * (32 : Nat) ≤ (140737488355328 : Nat))) = true ∧ ∃ (j : Nat), List.length l - j < List.length l - k ∧ (((b2 = b2 ∧ List.length to = List.length to ∧ contLe (List.length to) (1 : Nat) (cellsOf' encI to) (cellsOf' encI to)) ∧ ((0 : Nat) = (0 : Nat) ∧ List.length (List.take k l) + (1 : Nat) = List.length (List.take j l)) ∧ (b1 = b1 ∧ List.length l = List.length l ∧ contLe (List.length l) (4 : Nat) (cellsOf' encP l) (cellsOf' encP l)) ∧ (↑(List.length l) : Int) = (↑(List.length l) : Int) ∧ IntKind.wrap IntKind.i64 ((↑k : Int) + (1 : Int)) = (↑j : Int) ∧ True) ∧ ((List.length (List.take k l) + (1 : Nat) = List.length (List.take j l) ∧ contLe (List.length (List.take k l) + (1 : Nat)) (4 : Nat) (appRow (List.length (List.take k l)) (cellsOf' encP (moveL (List.take k l) to)) fun (k_1 j : Nat) => Ax.get [AV.y (Value.int IntKind.u64 (List.getD l (Int.toNat (↑k : Int)) (@default Producer instInhabitedProducer)).id), AV.y (Value.int IntKind.u64 (List.getD l (Int.toNat (↑k : Int)) (@default Producer instInhabitedProducer)).seq), AV.s (Value.bool false), AV.s (Value.int IntKind.u64 (0 : Int))] (k_1 * (4 : Nat) + j)) (cellsOf' encP (moveL (List.take j l) to))) ∧ True) ∧ true = true) ∧ true = true ∧ () = ())) ∧ (decide ((1 : Int) < IntKind.wrap IntKind.u64 (↑(List.length to) : Int)) = false → (decide (List.length (List.take k l) = List.length (List.take k l)) && decide (List.length (List.take k l) + (1 : Nat) ≤ (9223372036854775807 : Nat)) && decide ((List.length (List.take k l) + (1 : Nat)) * (32 : Nat) ≤ (140737488355328 : Nat))) = true ∧ ∃ (j : Nat), List.length l - j < List.length l - k ∧ (((b2 = b2 ∧ List.length to = List.length to ∧ contLe (List.length to) (1 : Nat) (cellsOf' encI to) (cellsOf' encI to)) ∧ ((0 : Nat) = (0 : Nat) ∧ List.length (List.take k l) + (1 : Nat) = List.length (List.take j l)) ∧ (b1 = b1 ∧ List.length l = List.length l ∧ contLe (List.length l) (4 : Nat) (cellsOf' encP l) (cellsOf' encP l)) ∧ (↑(List.length l) : Int) = (↑(List.length l) : Int) ∧ IntKind.wrap IntKind.i64 ((↑k : Int) + (1 : Int)) = (↑j : Int) ∧ True) ∧ ((List.length (List.take k l) + (1 : Nat) = List.length (List.take j l) ∧ contLe (List.length (List.take k l) + (1 : Nat)) (4 : Nat) (appRow (List.length (List.take k l)) (cellsOf' encP (moveL (List.take k l) to)) fun (k_1 j : Nat) => Ax.get [AV.y (Value.int IntKind.u64 (List.getD l (Int.toNat (↑k : Int)) (@default Producer instInhabitedProducer)).id), AV.y (Value.int IntKind.u64 (List.getD l (Int.toNat (↑k : Int)) (@default Producer instInhabitedProducer)).seq), AV.s (Value.bool false), AV.s (Value.int IntKind.u64 (0 : Int))] (k_1 * (4 : Nat) + j)) (cellsOf' encP (moveL (List.take j l) to))) ∧ True) ∧ true = true) ∧ true = true ∧ () = ())) ∧ ((List.getD l (Int.toNat (↑k : Int)) (@default Producer instInhabitedProducer)).here = false → (decide (List.length (List.take k l) = List.length (List.take k l)) && decide (List.length (List.take k l) + (1 : Nat) ≤ (9223372036854775807 : Nat)) && decide ((List.length (List.take k l) + (1 : Nat)) * (32 : Nat) ≤ (140737488355328 : Nat))) = true ∧ ∃ (j : Nat), List.length l - j < List.length l - k ∧ (((b2 = b2 ∧ List.length to = List.length to ∧ contLe (List.length to) (1 : Nat) (cellsOf' encI to) (cellsOf' encI to)) ∧ ((0 : Nat) = (0 : Nat) ∧ List.length (List.take k l) + (1 : Nat) = List.length (List.take j l)) ∧ (b1 = b1 ∧ List.length l = List.length l ∧ contLe (List.length l) (4 : Nat) (cellsOf' encP l) (cellsOf' encP l)) ∧ (↑(List.length l) : Int) = (↑(List.length l) : Int) ∧ IntKind.wrap IntKind.i64 ((↑k : Int) + (1 : Int)) = (↑j : Int) ∧ True) ∧ ((List.length (List.take k l) + (1 : Nat) = List.length (List.take j l) ∧ contLe (List.length (List.take k l) + (1 : Nat)) (4 : Nat) (appRow (List.length (List.take k l)) (cellsOf' encP (moveL (List.take k l) to)) fun (k_1 j : Nat) => Ax.get [AV.y (Value.int IntKind.u64 (List.getD l (Int.toNat (↑k : Int)) (@default Producer instInhabitedProducer)).id), AV.y (Value.int IntKind.u64 (List.getD l (Int.toNat (↑k : Int)) (@default Producer instInhabitedProducer)).seq), AV.s (Value.bool false), AV.s (Value.int IntKind.u64 (0 : Int))] (k_1 * (4 : Nat) + j)) (cellsOf' encP (moveL (List.take j l) to))) ∧ True) ∧ true = true) ∧ true = true ∧ () = ())) ∧ (decide ((↑k : Int) < (↑(List.length l) : Int)) = false → ((b2 = b2 ∧ List.length to = List.length to ∧ contLe (List.length to) (1 : Nat) (cellsOf' encI to) (cellsOf' encI to)) ∧ ((0 : Nat) = (0 : Nat) ∧ List.length (List.take k l) = List.length l) ∧ True) ∧ ((List.length (List.take k l) = List.length l ∧ contLe (List.length (List.take k l)) (4 : Nat) (cellsOf' encP (moveL (List.take k l) to)) (cellsOf' encP (moveL l to))) ∧ True) ∧ true = true)
set_option maxRecDepth 1000000 in
theorem vcMvL_eq (b1 : Bool) (b2 : Bool) (l : List Producer) (to : List Int) (k : Nat) : (loopVC Tryz.prog (hT _) 23 3 (fun k => l.length - k) (mvT b1 b2 l to) (mvM l to) [0, 1, 2, 3, 4] (fun _ => .ret ()) (mvS b2 l to) k) = vcMvL b1 b2 l to k := by kernel_rfl
theorem mv_loop (b1 b2 : Bool) (l : List Producer) (to : List Int) (hl : l.length * 32 ≤ 140737488355200) (ht : to.length ≤ 9223372036854775806) (ho : ∀ x ∈ l, 0 ≤ x.offset ∧ x.offset < 18446744073709551616) (k : Nat) (hk : k ≤ l.length) : LoopOk Tryz.prog 23 3 (loopAt Tryz.prog 23 3) ⟨mvT b1 b2 l to k, mvM l to k, []⟩ (T.map (lout [0, 1, 2, 3, 4] (mvS b2 l to)) (.ret ())) := by
  refine loop_vc (o := fun _ => .ret ()) Tryz.mixed (fun _ => rfl) (fun k => (vcMvL_eq b1 b2 l to k).mpr ?_) k
  unfold vcMvL
  simp
  refine ⟨fun h => ⟨h, ?_⟩, fun h => ?_⟩
  · have hy : 0 ≤ (l[k]?.getD default).offset ∧ (l[k]?.getD default).offset < 18446744073709551616 := by
      have := ho l[k] (List.getElem_mem h)
      simpa [h] using this
    have hm : min k l.length = k := by omega
    have hst : moveL (l.take (k + 1)) to = moveL (l.take k) to ++ [mvP to (l[k]?.getD default)] := by rw [take_snoc l k h]; simp [moveL]
    have hlen : (moveL (l.take k) to).length = k := by simp [moveL, hm]
    have hw := wrap_i64 (n := (k : Int) + 1) (by omega) (by omega)
    rw [hw]
    generalize l[k]?.getD default = y at *
    rw [hm]
    have fin : ∀ e : List AV, (∀ j, j < 4 → le0 (Ax.get e j) (Ax.get (encP (mvP to y)) j)) → (k ≤ 9223372036854775806 ∧ (k + 1) * 32 ≤ 140737488355328) ∧ ∃ j, l.length - j < l.length - k ∧ (k + 1 = min j l.length ∧ (k : Int) + 1 = (j : Int)) ∧ k + 1 = min j l.length ∧ contLe (k + 1) 4 (appRow k (cellsOf' encP (moveL (List.take k l) to)) fun k_1 j => Ax.get e (k_1 * 4 + j)) (cellsOf' encP (moveL (List.take j l) to)) := by
      intro e he
      refine ⟨⟨by omega, by omega⟩, k + 1, by omega, ⟨by omega, by omega⟩, by omega, ?_⟩
      rw [hst]
      exact app_le (contLe_refl _ _ _) hlen.symm he
    have f0 : mvOk y to = false → _ := fun hm => fin [.y (.int .u64 y.id), .y (.int .u64 y.seq), .s (.bool false), .s (.int .u64 0)] fun j hj => by
      match j, hj with
      | 0, _ => simp [mvP, hm, encP]
      | 1, _ => simp [mvP, hm, encP]
      | 2, _ => simp [mvP, hm, encP]
      | 3, _ => simp [mvP, hm, encP]
    have f1 : mvOk y to = true → _ := fun hm => fin [.y (.int .u64 y.id), .y (.int .u64 y.seq), .s (.bool true), .y (.int .u64 (to[y.offset.toNat]?.getD 0))] fun j hj => by
      match j, hj with
      | 0, _ => simp [mvP, hm, encP]
      | 1, _ => simp [mvP, hm, encP]
      | 2, _ => simp [mvP, hm, encP]
      | 3, _ => simp [mvP, hm, encP]
    have hu : IntKind.u64.wrap (to.length : Int) = to.length := wrap_u64 (by omega) (by omega)
    rw [hu]
    refine ⟨fun hh => ⟨fun h1 => ?_, fun h1 => f0 ?_⟩, fun hh => f0 ?_⟩
    · have hs2 : IntKind.u64.wrap (IntKind.i64.wrap ((to.length : Int) - 2)) = (to.length : Int) - 2 := by
        rw [wrap_i64 (by omega) (by omega), wrap_u64 (by omega) (by omega)]
      rw [hs2]
      refine ⟨fun h2 => ?_, fun h2 => f0 ?_⟩
      · have hs3 : IntKind.u64.wrap (y.offset + 1) = y.offset + 1 := wrap_u64 (by omega) (by omega)
        have hs4 : (y.offset + 1).toNat = y.offset.toNat + 1 := by omega
        rw [hs3, hs4]
        refine ⟨⟨by omega, by omega⟩, ⟨by omega, by omega⟩, fun h3 => ⟨⟨by omega, by omega⟩, f1 ?_⟩, fun h3 => f0 ?_⟩
        · simp [mvOk, hh]
          exact ⟨by omega, h2, h3⟩
        · simp [mvOk]
          intro _ _ _
          exact h3
      · simp [mvOk]
        intro _ _ h3
        omega
    · simp [mvOk]
      intro _ h3
      omega
    · simp [mvOk, hh]
  · rw [List.take_of_length_le h]
    simp [moveL]
    omega
noncomputable def mvH (b1 b2 : Bool) (l : List Producer) (to : List Int) : HintsT Tryz.prog :=
  hh _ (lp1 23 3 (jobOf (mvT b1 b2 l to) (mvM l to) [0, 1, 2, 3, 4] (fun _ => .ret ()) (mvS b2 l to) 0) noLp) noCs (op1 23 1 0 (.row 39 4) noOp)
def rowR (r : List Producer) : T An := .ret (.own 0 4 0 r.length, [.row 39 4 r.length none (cellsOf' encP r)], [])
def vcMv (b1 : Bool) (b2 : Bool) (l : List Producer) (to : List Int) : Prop :=
  (((b2 = b2 ∧ List.length to = List.length to ∧ contLe (List.length to) (1 : Nat) (cellsOf' encI to) (cellsOf' encI to)) ∧ ((0 : Nat) = (0 : Nat) ∧ (0 : Nat) = (0 : Nat)) ∧ (b1 = b1 ∧ List.length l = List.length l ∧ contLe (List.length l) (4 : Nat) (cellsOf' encP l) (cellsOf' encP l)) ∧ (↑(List.length l) : Int) = (↑(List.length l) : Int) ∧ (0 : Int) = (0 : Int) ∧ True) ∧ (((0 : Nat) = (0 : Nat) ∧ contLe (0 : Nat) (4 : Nat) (fun (x x_1 : Nat) => AV.junk) (cellsOf' encP [])) ∧ True) ∧ true = true) ∧ LoopOk Tryz.prog (23 : Nat) (3 : Nat) (loopAt Tryz.prog (23 : Nat) (3 : Nat)) { t := mvT b1 b2 l to (0 : Nat), m := mvM l to (0 : Nat), mv := [] : St } (T.map (lout [(0 : Nat), (1 : Nat), (2 : Nat), (3 : Nat), (4 : Nat)] (mvS b2 l to)) ((fun (x : Nat) => T.ret ()) (0 : Nat))) ∧ ((0 : Nat) = (0 : Nat) ∧ List.length l = List.length (moveL l to)) ∧ (List.length l = List.length (moveL l to) ∧ contLe (List.length l) (4 : Nat) (cellsOf' encP (moveL l to)) (cellsOf' encP (moveL l to))) ∧ True
set_option maxRecDepth 1000000 in
theorem vcMv_eq (b1 : Bool) (b2 : Bool) (l : List Producer) (to : List Int) : (ctrVC Tryz.prog (mvH b1 b2 l to) 23 [encPs b1 l, encU b2 to] [] (rowR (moveL l to))) = vcMv b1 b2 l to := by kernel_rfl
theorem move_c (b1 b2 : Bool) (l : List Producer) (to : List Int) (hl : l.length * 32 ≤ 140737488355200) (ht : to.length ≤ 9223372036854775806) (ho : ∀ x ∈ l, 0 ≤ x.offset ∧ x.offset < 18446744073709551616) : (rowR (moveL l to)).Sat (ACall' Tryz.prog 23 [encPs b1 l, encU b2 to] []) := by
  refine ctr_vc (ht := mvH b1 b2 l to) Tryz.mixed rfl ?_
  rw [vcMv_eq b1 b2 l to]
  unfold vcMv
  have hL := mv_loop b1 b2 l to hl ht ho 0 (Nat.zero_le _)
  simp [hL, moveL]
end Go.Proofs.YtckklclehofddaaGreatDoor.P

/-! Producers: the document's Move; later. -/
namespace Go.Proofs.YtckklclehofddaaGreatDoor.P
open Go.Ax
set_option maxRecDepth 1000000
def lat (x y : Producer) : Bool := decide (y.seq < x.seq) || (x.seq == y.seq && (x.here && !y.here))
def boolR (b : Bool) : T An := .ret (.y (.bool b), [], [])
def vcLat (x : Producer) (y : Producer) : Prop :=
  (decide (y.seq < x.seq) = true → true = lat x y ∧ True) ∧ (decide (y.seq < x.seq) = false → ((x.seq == y.seq) = true → (x.here = true → (!y.here) = lat x y ∧ True) ∧ (x.here = false → false = lat x y ∧ True)) ∧ ((x.seq == y.seq) = false → false = lat x y ∧ True))
set_option maxRecDepth 1000000 in
theorem vcLat_eq (x : Producer) (y : Producer) : (ctrVC Tryz.prog (hT _) 87 [.agg (encP x), .agg (encP y)] [] (boolR (lat x y))) = vcLat x y := by kernel_rfl
theorem later_c (x y : Producer) : (boolR (lat x y)).Sat (ACall' Tryz.prog 87 [.agg (encP x), .agg (encP y)] []) := by
  refine ctr_vc (ht := hT _) Tryz.mixed rfl ?_
  rw [vcLat_eq x y]
  unfold vcLat
  simp [lat]
  grind
end Go.Proofs.YtckklclehofddaaGreatDoor.P

/-! Producers: Both. -/
namespace Go.Proofs.YtckklclehofddaaGreatDoor.P
open Go.Ax
set_option maxRecDepth 1000000
noncomputable def findN (b : Bool) (l : List Producer) (id : Int) : Ctr Tryz.prog := ⟨49, [encPs b l, .y (.int .u64 id)], [], .need (l.length ≤ 9223372036854775806) (findR l id), T.Sat.need fun h => find_c b l id h⟩
noncomputable def latC (x y : Producer) : Ctr Tryz.prog := ⟨87, [.agg (encP x), .agg (encP y)], [], boolR (lat x y), later_c x y⟩
def bst (s : List Producer) (x : Producer) : List Producer := if !findI s x.id || lat x (findD s x.id) then putL s x else s
def both (s m : List Producer) (k : Nat) : List Producer := (m.take k).foldl bst s
theorem both_step {s m : List Producer} {k : Nat} (h : k < m.length) : both s m (k + 1) = bst (both s m k) (m[k]?.getD default) := by
  unfold both
  rw [take_snoc m k h, List.foldl_append]; rfl
theorem both_end {s m : List Producer} {k : Nat} (h : m.length ≤ k) : both s m k = both s m m.length := by
  unfold both
  rw [List.take_of_length_le h, List.take_length]
theorem mem_putL {l : List Producer} {x z : Producer} (h : z ∈ putL l x) : z = x ∨ z ∈ l := by
  unfold putL at h
  rw [List.mem_append, List.mem_cons] at h
  rcases h with h | h | h
  · exact Or.inr (List.mem_filter.1 (List.mem_of_mem_take h)).1
  · exact Or.inl h
  · exact Or.inr (List.mem_filter.1 (List.mem_of_mem_drop h)).1
theorem putL_pw (x : Producer) : ∀ l : List Producer, l.Pairwise (fun a b => a.id < b.id) → (putL l x).Pairwise (fun a b => a.id < b.id) := by
  intro l
  induction l with
  | nil => intro _; simp [putL, oth, below]
  | cons y t ih =>
    intro h
    have hp := List.pairwise_cons.1 h
    by_cases h1 : x.id ≤ y.id
    · rw [putL_ge h1 hp.1, List.pairwise_cons]
      refine ⟨fun z hz => ?_, h.filter _⟩
      have hz' := List.mem_filter.1 hz
      have h2 : ¬ z.id = x.id := by simpa [keep] using hz'.2
      rcases List.mem_cons.1 hz'.1 with h3 | h3
      · rw [h3] at h2 ⊢; omega
      · have := hp.1 z h3; omega
    · rw [putL_cons_lt (by omega), List.pairwise_cons]
      refine ⟨fun z hz => ?_, ih hp.2⟩
      rcases mem_putL hz with h3 | h3
      · rw [h3]; omega
      · exact hp.1 z h3
theorem putL_rising {l : List Producer} {x : Producer} (h : rising l) : rising (putL l x) := (rising_pw _).2 (putL_pw x l ((rising_pw l).1 h))
theorem both_inv {s m : List Producer} (h : rising s) : ∀ k, rising (both s m k) ∧ (both s m k).length ≤ s.length + k := by
  intro k
  induction k with
  | zero => exact ⟨h, by simp [both]⟩
  | succ k ih =>
    rcases Nat.lt_or_ge k m.length with hk | hk
    · rw [both_step hk]
      unfold bst
      split
      · refine ⟨putL_rising ih.1, ?_⟩
        have : (oth (both s m k) (m[k]?.getD default)).length ≤ (both s m k).length := List.length_filter_le _ _
        rw [putL_len]; omega
      · exact ⟨ih.1, by omega⟩
    · rw [both_end (k := k + 1) (by omega), ← both_end hk]
      exact ⟨ih.1, by omega⟩
theorem move_rising {l : List Producer} {to : List Int} (h : rising l) : rising (moveL l to) := by
  rw [rising_pw] at h ⊢
  unfold moveL
  rw [List.pairwise_map]
  refine h.imp fun {a b} hab => ?_
  have key : ∀ x, (mvP to x).id = x.id := fun x => by unfold mvP; split <;> rfl
  rw [key, key]; exact hab
theorem tag_encP (l : List Producer) (k j : Nat) (h : j < 4) : tagT (cellsOf' encP l k j) = true := by
  match j, h with
  | 0, _ => rfl
  | 1, _ => rfl
  | 2, _ => rfl
  | 3, _ => rfl
def boT (s m : List Producer) (k : Nat) : List AV := mkT 56 [(10, .own 0 4 0 (both s m k).length), (28, .own 1 4 0 m.length), (29, .y (.int .i64 m.length)), (30, .y (.int .i64 k))]
def boM (s m : List Producer) (k : Nat) : List Blk := [.row 39 4 (both s m k).length none (cellsOf' encP (both s m k)), .row 39 4 m.length none (cellsOf' encP m)]
def boS (s m : List Producer) (_ : Unit) : Exit × List AV × List Blk := (.exit 0, mkT 56 [(10, .own 0 4 0 (both s m m.length).length)], [.row 39 4 (both s m m.length).length none (cellsOf' encP (both s m m.length))])
noncomputable def boH (s m : List Producer) (k : Nat) : HintsT Tryz.prog :=
  withSh (hh _ noLp (cs1 59 7 3 (findN false (both s m k) (m.getD k default).id) (cs1 59 8 5 (latC (m.getD k default) (findD (both s m k) (m.getD k default).id)) (cs1 59 9 2 (putN false (both s m k) (m.getD k default)) noCs))) noOp) (sh1 59 9 3 2 noSh)
def vcBoL (s : List Producer) (m : List Producer) (k : Nat) : Prop :=
  (decide ((↑k : Int) < (↑(List.length m) : Int)) = true → (true && decide ((↑k : Int) < (↑(List.length m) : Int))) = true ∧ decide ((0 : Nat) + Int.toNat (↑k : Int) < List.length m) = true ∧ ((false = false ∧ List.length (both s m k) = List.length (both s m k) ∧ contLe (List.length (both s m k)) (4 : Nat) (Ax.rowAt (0 : Nat) (cellsOf' encP (both s m k))) (cellsOf' encP (both s m k))) ∧ (List.getD m ((0 : Nat) + Int.toNat (↑k : Int)) (@default Producer instInhabitedProducer)).id = (List.getD m k (@default Producer instInhabitedProducer)).id ∧ True) ∧ True ∧ List.length (both s m k) ≤ (9223372036854775806 : Nat) ∧ true = true ∧ True ∧ ((!findI (both s m k) (List.getD m k (@default Producer instInhabitedProducer)).id) = true → ((false = false ∧ List.length (both s m k) = List.length (both s m k) ∧ contLe (List.length (both s m k)) (4 : Nat) (Ax.rowAt (0 : Nat) (cellsOf' encP (both s m k))) (cellsOf' encP (both s m k))) ∧ ((List.getD m ((0 : Nat) + Int.toNat (↑k : Int)) (@default Producer instInhabitedProducer)).id = (List.getD m k (@default Producer instInhabitedProducer)).id ∧ (List.getD m ((0 : Nat) + Int.toNat (↑k : Int)) (@default Producer instInhabitedProducer)).seq = (List.getD m k (@default Producer instInhabitedProducer)).seq ∧ (List.getD m ((0 : Nat) + Int.toNat (↑k : Int)) (@default Producer instInhabitedProducer)).here = (List.getD m k (@default Producer instInhabitedProducer)).here ∧ (List.getD m ((0 : Nat) + Int.toNat (↑k : Int)) (@default Producer instInhabitedProducer)).offset = (List.getD m k (@default Producer instInhabitedProducer)).offset ∧ True) ∧ True) ∧ True ∧ (List.length (both s m k) * (32 : Nat) ≤ (140737488355296 : Nat) ∧ ∀ (i j : Nat), i < j → j < List.length (both s m k) → (List.getD (both s m k) i (@default Producer instInhabitedProducer)).id < (List.getD (both s m k) j (@default Producer instInhabitedProducer)).id) ∧ true = true ∧ ((∀ (k_1 : Nat), k_1 < List.length (putL (both s m k) (List.getD m k (@default Producer instInhabitedProducer))) → ∀ (j : Nat), j < (4 : Nat) → tagT (cellsOf' encP (putL (both s m k) (List.getD m k (@default Producer instInhabitedProducer))) k_1 j) = true) ∧ True) ∧ ∃ (j : Nat), List.length m - j < List.length m - k ∧ ((((0 : Nat) = (0 : Nat) ∧ List.length (putL (both s m k) (List.getD m k (@default Producer instInhabitedProducer))) = List.length (both s m j)) ∧ ((0 : Nat) = (0 : Nat) ∧ List.length m = List.length m) ∧ (↑(List.length m) : Int) = (↑(List.length m) : Int) ∧ IntKind.wrap IntKind.i64 ((↑k : Int) + (1 : Int)) = (↑j : Int) ∧ True) ∧ ((List.length (putL (both s m k) (List.getD m k (@default Producer instInhabitedProducer))) = List.length (both s m j) ∧ contLe (List.length (putL (both s m k) (List.getD m k (@default Producer instInhabitedProducer)))) (4 : Nat) (cellsOf' encP (putL (both s m k) (List.getD m k (@default Producer instInhabitedProducer)))) (cellsOf' encP (both s m j))) ∧ (List.length m = List.length m ∧ contLe (List.length m) (4 : Nat) (cellsOf' encP m) (cellsOf' encP m)) ∧ True) ∧ true = true) ∧ true = true ∧ () = ()) ∧ ((!findI (both s m k) (List.getD m k (@default Producer instInhabitedProducer)).id) = false → (((List.getD m ((0 : Nat) + Int.toNat (↑k : Int)) (@default Producer instInhabitedProducer)).id = (List.getD m k (@default Producer instInhabitedProducer)).id ∧ (List.getD m ((0 : Nat) + Int.toNat (↑k : Int)) (@default Producer instInhabitedProducer)).seq = (List.getD m k (@default Producer instInhabitedProducer)).seq ∧ (List.getD m ((0 : Nat) + Int.toNat (↑k : Int)) (@default Producer instInhabitedProducer)).here = (List.getD m k (@default Producer instInhabitedProducer)).here ∧ (List.getD m ((0 : Nat) + Int.toNat (↑k : Int)) (@default Producer instInhabitedProducer)).offset = (List.getD m k (@default Producer instInhabitedProducer)).offset ∧ True) ∧ ((findD (both s m k) (List.getD m k (@default Producer instInhabitedProducer)).id).id = (findD (both s m k) (List.getD m k (@default Producer instInhabitedProducer)).id).id ∧ (findD (both s m k) (List.getD m k (@default Producer instInhabitedProducer)).id).seq = (findD (both s m k) (List.getD m k (@default Producer instInhabitedProducer)).id).seq ∧ (findD (both s m k) (List.getD m k (@default Producer instInhabitedProducer)).id).here = (findD (both s m k) (List.getD m k (@default Producer instInhabitedProducer)).id).here ∧ (findD (both s m k) (List.getD m k (@default Producer instInhabitedProducer)).id).offset = (findD (both s m k) (List.getD m k (@default Producer instInhabitedProducer)).id).offset ∧ True) ∧ True) ∧ True ∧ (lat (List.getD m k (@default Producer instInhabitedProducer)) (findD (both s m k) (List.getD m k (@default Producer instInhabitedProducer)).id) = true → ((false = false ∧ List.length (both s m k) = List.length (both s m k) ∧ contLe (List.length (both s m k)) (4 : Nat) (Ax.rowAt (0 : Nat) (cellsOf' encP (both s m k))) (cellsOf' encP (both s m k))) ∧ ((List.getD m ((0 : Nat) + Int.toNat (↑k : Int)) (@default Producer instInhabitedProducer)).id = (List.getD m k (@default Producer instInhabitedProducer)).id ∧ (List.getD m ((0 : Nat) + Int.toNat (↑k : Int)) (@default Producer instInhabitedProducer)).seq = (List.getD m k (@default Producer instInhabitedProducer)).seq ∧ (List.getD m ((0 : Nat) + Int.toNat (↑k : Int)) (@default Producer instInhabitedProducer)).here = (List.getD m k (@default Producer instInhabitedProducer)).here ∧ (List.getD m ((0 : Nat) + Int.toNat (↑k : Int)) (@default Producer instInhabitedProducer)).offset = (List.getD m k (@default Producer instInhabitedProducer)).offset ∧ True) ∧ True) ∧ True ∧ (List.length (both s m k) * (32 : Nat) ≤ (140737488355296 : Nat) ∧ ∀ (i j : Nat), i < j → j < List.length (both s m k) → (List.getD (both s m k) i (@default Producer instInhabitedProducer)).id < (List.getD (both s m k) j (@default Producer instInhabitedProducer)).id) ∧ true = true ∧ ((∀ (k_1 : Nat), k_1 < List.length (putL (both s m k) (List.getD m k (@default Producer instInhabitedProducer))) → ∀ (j : Nat), j < (4 : Nat) → tagT (cellsOf' encP (putL (both s m k) (List.getD m k (@default Producer instInhabitedProducer))) k_1 j) = true) ∧ True) ∧ ∃ (j : Nat), List.length m - j < List.length m - k ∧ ((((0 : Nat) = (0 : Nat) ∧ List.length (putL (both s m k) (List.getD m k (@default Producer instInhabitedProducer))) = List.length (both s m j)) ∧ ((0 : Nat) = (0 : Nat) ∧ List.length m = List.length m) ∧ (↑(List.length m) : Int) = (↑(List.length m) : Int) ∧ IntKind.wrap IntKind.i64 ((↑k : Int) + (1 : Int)) = (↑j : Int) ∧ True) ∧ ((List.length (putL (both s m k) (List.getD m k (@default Producer instInhabitedProducer))) = List.length (both s m j) ∧ contLe (List.length (putL (both s m k) (List.getD m k (@default Producer instInhabitedProducer)))) (4 : Nat) (cellsOf' encP (putL (both s m k) (List.getD m k (@default Producer instInhabitedProducer)))) (cellsOf' encP (both s m j))) ∧ (List.length m = List.length m ∧ contLe (List.length m) (4 : Nat) (cellsOf' encP m) (cellsOf' encP m)) ∧ True) ∧ true = true) ∧ true = true ∧ () = ()) ∧ (lat (List.getD m k (@default Producer instInhabitedProducer)) (findD (both s m k) (List.getD m k (@default Producer instInhabitedProducer)).id) = false → ∃ (j : Nat), List.length m - j < List.length m - k ∧ ((((0 : Nat) = (0 : Nat) ∧ List.length (both s m k) = List.length (both s m j)) ∧ ((0 : Nat) = (0 : Nat) ∧ List.length m = List.length m) ∧ (↑(List.length m) : Int) = (↑(List.length m) : Int) ∧ IntKind.wrap IntKind.i64 ((↑k : Int) + (1 : Int)) = (↑j : Int) ∧ True) ∧ ((List.length (both s m k) = List.length (both s m j) ∧ contLe (List.length (both s m k)) (4 : Nat) (cellsOf' encP (both s m k)) (cellsOf' encP (both s m j))) ∧ (List.length m = List.length m ∧ contLe (List.length m) (4 : Nat) (cellsOf' encP m) (cellsOf' encP m)) ∧ True) ∧ true = true) ∧ true = true ∧ () = ()))) ∧ (decide ((↑k : Int) < (↑(List.length m) : Int)) = false → (((0 : Nat) = (0 : Nat) ∧ List.length (both s m k) = List.length (both s m (List.length m))) ∧ True) ∧ ((List.length (both s m k) = List.length (both s m (List.length m)) ∧ contLe (List.length (both s m k)) (4 : Nat) (cellsOf' encP (both s m k)) (cellsOf' encP (both s m (List.length m)))) ∧ True) ∧ true = true)
set_option maxRecDepth 1000000 in
theorem vcBoL_eq (s : List Producer) (m : List Producer) (k : Nat) : (loopVC Tryz.prog (boH s m k) 59 5 (fun k => m.length - k) (boT s m) (boM s m) [0, 1, 2, 3, 4, 5, 6, 7] (fun _ => .ret ()) (boS s m) k) = vcBoL s m k := by kernel_rfl
theorem bo_loop (s m : List Producer) (hs : rising s) (h1 : s.length ≤ 256) (h2 : m.length ≤ 256) (k : Nat) : LoopOk Tryz.prog 59 5 (loopAt Tryz.prog 59 5) ⟨boT s m k, boM s m k, []⟩ (T.map (lout [0, 1, 2, 3, 4, 5, 6, 7] (boS s m)) (.ret ())) := by
  refine loop_vcH (o := fun _ => .ret ()) Tryz.mixed (fun _ => rfl) (fun k => (vcBoL_eq s m k).mpr ?_) k
  unfold vcBoL
  simp
  have hinv := both_inv (s := s) (m := m) hs k
  refine ⟨fun h => ?_, fun h => ?_⟩
  · have hst := both_step (s := s) (m := m) h
    have hw := wrap_i64 (n := (k : Int) + 1) (by omega) (by omega)
    rw [hw]
    have hr := hinv.1
    unfold rising at hr
    simp only [List.getD_eq_getElem?_getD] at hr
    unfold bst at hst
    generalize m[k]?.getD default = x at *
    by_cases hf : findI (both s m k) x.id = true
    · by_cases hl : lat x (findD (both s m k) x.id) = true
      · simp [hf, hl] at hst ⊢
        refine ⟨h, by omega, ⟨by omega, hr⟩, fun k _ j hj => tag_encP _ k j hj, k + 1, by omega, ⟨by rw [hst], by omega⟩, by rw [hst], ?_⟩
        rw [hst]; exact contLe_refl _ _ _
      · simp [hf, hl] at hst ⊢
        refine ⟨h, by omega, k + 1, by omega, ⟨by rw [hst], by omega⟩, by rw [hst], ?_⟩
        rw [hst]; exact contLe_refl _ _ _
    · simp [hf] at hst ⊢
      refine ⟨h, by omega, ⟨by omega, hr⟩, fun k _ j hj => tag_encP _ k j hj, k + 1, by omega, ⟨by rw [hst], by omega⟩, by rw [hst], ?_⟩
      rw [hst]; exact contLe_refl _ _ _
  · rw [both_end h]
    exact ⟨rfl, contLe_refl _ _ _⟩
/-- what Both answers: the error's number -/
def bothL (a b : List Producer) (ta tb : List Int) : List Producer := both (moveL a ta) (moveL b tb) (moveL b tb).length
def bothE (a b : List Producer) (ta tb : List Int) : Int := if !(isTable a && isTable b) then 1 else if decide (256 < (bothL a b ta tb).length) then 153 else 0
def rowE (r : List Producer) (e : Int) : T An := .ite (e == 0)
  (.ret (.tup [.own 0 4 0 r.length, .s (.int .i64 0)], [.row 39 4 r.length none (cellsOf' encP r)], []))
  (.ret (.tup [.s (.slice none 0 0), .y (.int .i64 e)], [], []))
noncomputable def moveN (b1 b2 : Bool) (l : List Producer) (to : List Int) : Ctr Tryz.prog := ⟨23, [encPs b1 l, encU b2 to], [], .need (l.length * 32 ≤ 140737488355200 ∧ to.length ≤ 9223372036854775806 ∧ ∀ x ∈ l, 0 ≤ x.offset ∧ x.offset < 18446744073709551616) (rowR (moveL l to)), T.Sat.need fun h => move_c b1 b2 l to h.1 h.2.1 h.2.2⟩
noncomputable def tabN (b : Bool) (l : List Producer) : Ctr Tryz.prog := ⟨43, [encPs b l], [], .need (l.length ≤ 9223372036854775806) (tabR l), T.Sat.need fun h => table_c b l h⟩
noncomputable def bothH (b1 b2 b3 b4 : Bool) (a b : List Producer) (ta tb : List Int) : HintsT Tryz.prog :=
  hh _ (lp1 59 5 (jobOf (boT (moveL a ta) (moveL b tb)) (boM (moveL a ta) (moveL b tb)) [0, 1, 2, 3, 4, 5, 6, 7] (fun _ => .ret ()) (boS (moveL a ta) (moveL b tb)) 0) noLp)
    (cs1 59 1 1 (tabN b1 a) (cs1 59 1 5 (tabN b2 b) (cs1 59 3 2 (moveN b1 b3 a ta) (cs1 59 4 2 (moveN b2 b4 b tb) noCs)))) noOp
def vcBo (b1 : Bool) (b2 : Bool) (b3 : Bool) (b4 : Bool) (a : List Producer) (b : List Producer) (ta : List Int) (tb : List Int) : Prop :=
  ((b1 = b1 ∧ List.length a = List.length a ∧ contLe (List.length a) (4 : Nat) (cellsOf' encP a) (cellsOf' encP a)) ∧ True) ∧ True ∧ List.length a ≤ (9223372036854775806 : Nat) ∧ ((!isTable a) = true → ((bothE a b ta tb == (0 : Int)) = true → (False ∧ (1 : Int) = (0 : Int) ∧ True) ∧ False) ∧ ((bothE a b ta tb == (0 : Int)) = false → (True ∧ (1 : Int) = bothE a b ta tb ∧ True) ∧ True)) ∧ ((!isTable a) = false → ((b2 = b2 ∧ List.length b = List.length b ∧ contLe (List.length b) (4 : Nat) (cellsOf' encP b) (cellsOf' encP b)) ∧ True) ∧ True ∧ List.length b ≤ (9223372036854775806 : Nat) ∧ ((!isTable b) = true → ((bothE a b ta tb == (0 : Int)) = true → (False ∧ (1 : Int) = (0 : Int) ∧ True) ∧ False) ∧ ((bothE a b ta tb == (0 : Int)) = false → (True ∧ (1 : Int) = bothE a b ta tb ∧ True) ∧ True)) ∧ ((!isTable b) = false → ((b1 = b1 ∧ List.length a = List.length a ∧ contLe (List.length a) (4 : Nat) (cellsOf' encP a) (cellsOf' encP a)) ∧ (b3 = b3 ∧ List.length ta = List.length ta ∧ contLe (List.length ta) (1 : Nat) (cellsOf' encI ta) (cellsOf' encI ta)) ∧ True) ∧ True ∧ (List.length a * (32 : Nat) ≤ (140737488355200 : Nat) ∧ List.length ta ≤ (9223372036854775806 : Nat) ∧ ∀ (x : Producer), x ∈ a → (0 : Int) ≤ x.offset ∧ x.offset < (18446744073709551616 : Int)) ∧ ((b2 = b2 ∧ List.length b = List.length b ∧ contLe (List.length b) (4 : Nat) (cellsOf' encP b) (cellsOf' encP b)) ∧ (b4 = b4 ∧ List.length tb = List.length tb ∧ contLe (List.length tb) (1 : Nat) (cellsOf' encI tb) (cellsOf' encI tb)) ∧ True) ∧ True ∧ (List.length b * (32 : Nat) ≤ (140737488355200 : Nat) ∧ List.length tb ≤ (9223372036854775806 : Nat) ∧ ∀ (x : Producer), x ∈ b → (0 : Int) ≤ x.offset ∧ x.offset < (18446744073709551616 : Int)) ∧ ((((0 : Nat) = (0 : Nat) ∧ List.length (moveL a ta) = List.length (both (moveL a ta) (moveL b tb) (0 : Nat))) ∧ ((0 : Nat) = (0 : Nat) ∧ List.length (moveL b tb) = List.length (moveL b tb)) ∧ (↑(List.length (moveL b tb)) : Int) = (↑(List.length (moveL b tb)) : Int) ∧ (0 : Int) = (0 : Int) ∧ True) ∧ ((List.length (moveL a ta) = List.length (both (moveL a ta) (moveL b tb) (0 : Nat)) ∧ contLe (List.length (moveL a ta)) (4 : Nat) (cellsOf' encP (moveL a ta)) (cellsOf' encP (both (moveL a ta) (moveL b tb) (0 : Nat)))) ∧ (List.length (moveL b tb) = List.length (moveL b tb) ∧ contLe (List.length (moveL b tb)) (4 : Nat) (cellsOf' encP (moveL b tb)) (cellsOf' encP (moveL b tb))) ∧ True) ∧ true = true) ∧ LoopOk Tryz.prog (59 : Nat) (5 : Nat) (loopAt Tryz.prog (59 : Nat) (5 : Nat)) { t := boT (moveL a ta) (moveL b tb) (0 : Nat), m := boM (moveL a ta) (moveL b tb) (0 : Nat), mv := [] : St } (T.map (lout [(0 : Nat), (1 : Nat), (2 : Nat), (3 : Nat), (4 : Nat), (5 : Nat), (6 : Nat), (7 : Nat)] (boS (moveL a ta) (moveL b tb))) ((fun (x : Nat) => T.ret ()) (0 : Nat))) ∧ (decide ((256 : Int) < (↑(List.length (both (moveL a ta) (moveL b tb) (List.length (moveL b tb)))) : Int)) = true → ((bothE a b ta tb == (0 : Int)) = true → (False ∧ (153 : Int) = (0 : Int) ∧ True) ∧ False) ∧ ((bothE a b ta tb == (0 : Int)) = false → (True ∧ (153 : Int) = bothE a b ta tb ∧ True) ∧ True)) ∧ (decide ((256 : Int) < (↑(List.length (both (moveL a ta) (moveL b tb) (List.length (moveL b tb)))) : Int)) = false → ((bothE a b ta tb == (0 : Int)) = true → (((0 : Nat) = (0 : Nat) ∧ List.length (both (moveL a ta) (moveL b tb) (List.length (moveL b tb))) = List.length (bothL a b ta tb)) ∧ (0 : Int) = (0 : Int) ∧ True) ∧ (List.length (both (moveL a ta) (moveL b tb) (List.length (moveL b tb))) = List.length (bothL a b ta tb) ∧ contLe (List.length (both (moveL a ta) (moveL b tb) (List.length (moveL b tb)))) (4 : Nat) (cellsOf' encP (both (moveL a ta) (moveL b tb) (List.length (moveL b tb)))) (cellsOf' encP (bothL a b ta tb))) ∧ True) ∧ ((bothE a b ta tb == (0 : Int)) = false → False))))
set_option maxRecDepth 1000000 in
theorem vcBo_eq (b1 : Bool) (b2 : Bool) (b3 : Bool) (b4 : Bool) (a : List Producer) (b : List Producer) (ta : List Int) (tb : List Int) : (ctrVC Tryz.prog (bothH b1 b2 b3 b4 a b ta tb) 59 [encPs b1 a, encPs b2 b, encU b3 ta, encU b4 tb] [] (rowE (bothL a b ta tb) (bothE a b ta tb))) = vcBo b1 b2 b3 b4 a b ta tb := by kernel_rfl
theorem both_c (b1 b2 b3 b4 : Bool) (a b : List Producer) (ta tb : List Int) (h1 : a.length * 32 ≤ 140737488355200) (h2 : b.length * 32 ≤ 140737488355200) (h3 : ta.length ≤ 9223372036854775806) (h4 : tb.length ≤ 9223372036854775806) (ha : ∀ x ∈ a, 0 ≤ x.offset ∧ x.offset < 18446744073709551616) (hb : ∀ x ∈ b, 0 ≤ x.offset ∧ x.offset < 18446744073709551616) : (rowE (bothL a b ta tb) (bothE a b ta tb)).Sat (ACall' Tryz.prog 59 [encPs b1 a, encPs b2 b, encU b3 ta, encU b4 tb] []) := by
  refine ctr_vc (ht := bothH b1 b2 b3 b4 a b ta tb) Tryz.mixed rfl ?_
  rw [vcBo_eq b1 b2 b3 b4 a b ta tb]
  unfold vcBo
  have hA : isTable a = true → a.length ≤ 256 := by unfold isTable; simp
  have hB : isTable b = true → b.length ≤ 256 := by unfold isTable; simp
  by_cases ht : isTable a = true
  · by_cases ht2 : isTable b = true
    · have hL := bo_loop (moveL a ta) (moveL b tb) (move_rising (table_rising ht)) (by simpa [moveL] using hA ht) (by simpa [moveL] using hB ht2) 0
      simp [bothE, bothL, ht, ht2]
      refine ⟨by omega, by omega, ⟨h1, h3, ha⟩, ⟨h2, h4, hb⟩, ⟨rfl, contLe_refl _ _ _⟩, hL, fun h => ?_, fun h => ?_⟩
      · have : 256 < (both (moveL a ta) (moveL b tb) (moveL b tb).length).length := by omega
        simp [this]
      · have : ¬ 256 < (both (moveL a ta) (moveL b tb) (moveL b tb).length).length := by omega
        simp [this]
    · simp [bothE, ht, ht2]
      omega
  · simp [bothE, ht]
    omega
/-! the document's -/
end Go.Proofs.YtckklclehofddaaGreatDoor.P

/-! Shards' states: may one be? the conditions. -/
namespace Go.Proofs.YtckklclehofddaaGreatDoor
open Go.Ax
set_option maxRecDepth 1000000
structure Part where
  rng : Rng
  epoch : Int
  frozen : Int
  recs : List Rec
  prods : List P.Producer
  cons : List Con
instance : Inhabited Part := ⟨⟨default, 0, 0, [], [], []⟩⟩
def encPt (b : Bool) (p : Part) : List AV := [.y (.string p.rng.lo), .y (.string p.rng.hi), .y (.int .u64 p.epoch), .y (.int .u64 p.frozen), encRs b p.recs, P.encPs b p.prods, encCs b p.cons]
/-! what is known of each producer -/
abbrev Kn := (Int → Bool) × (Int → Int)
abbrev Kn.put (s : Kn) (a b : Int) : Kn := (updHas s.1 a, updC s.2 a b)
abbrev Kn.sel (s : Kn) (a : Int) : Int := selI (s.1 a) (s.2 a)
def kn0 : Kn := (fun _ => false, fun _ => 0)
def knP (l : List P.Producer) : Kn := l.foldl (fun s x => s.put x.id x.seq) kn0
def knR (l : List Rec) : Kn := l.foldl (fun s x => s.put x.prod x.seq) kn0
theorem knP_step {l : List P.Producer} {k : Nat} (h : k < l.length) : knP (l.take (k + 1)) = (knP (l.take k)).put (l.getD k default).id (l.getD k default).seq := by
  unfold knP
  rw [List.take_add_one, List.foldl_append, List.getElem?_eq_getElem h]
  simp [List.getElem?_eq_getElem h]
theorem knR_step {l : List Rec} {k : Nat} (h : k < l.length) : knR (l.take (k + 1)) = (knR (l.take k)).put (l.getD k default).prod (l.getD k default).seq := by
  unfold knR
  rw [List.take_add_one, List.foldl_append, List.getElem?_eq_getElem h]
  simp [List.getElem?_eq_getElem h]
def mapB (s : Kn) : Blk := .mi .u64 .u64 s.1 s.2
def orM1 (b : Bool) (p : Part) (s : Kn) : List Blk := [.box 30 (encPt b p), mapB s]
def orT1 (b : Bool) (p : Part) (k : Nat) : List AV := mkT 61 [(1, .ptr 0 0 0 0), (3, .mref 1), (11, P.encPs b p.prods), (12, .y (.int .i64 p.prods.length)), (13, .y (.int .i64 k))]
def orS1 (b : Bool) (p : Part) (_ : Unit) : Exit × List AV × List Blk := (.exit 0, mkT 61 [(1, .ptr 0 0 0 0), (3, .mref 1)], orM1 b p (knP p.prods))
def jX9 : List Nat := [0, 1, 2, 3, 4, 5, 6, 7, 8, 9]
def vcOr1 (b : Bool) (p : Part) (k : Nat) : Prop :=
  (decide ((↑k : Int) < (↑(List.length p.prods) : Int)) = true → (true && decide ((↑k : Int) < (↑(List.length p.prods) : Int))) = true ∧ ∃ (j : Nat), List.length p.prods - j < List.length p.prods - k ∧ ((((0 : Nat) = (0 : Nat) ∧ (0 : Nat) = (0 : Nat)) ∧ True ∧ (b = b ∧ List.length p.prods = List.length p.prods ∧ contLe (List.length p.prods) (4 : Nat) (cellsOf' P.encP p.prods) (cellsOf' P.encP p.prods)) ∧ (↑(List.length p.prods) : Int) = (↑(List.length p.prods) : Int) ∧ IntKind.wrap IntKind.i64 ((↑k : Int) + (1 : Int)) = (↑j : Int) ∧ True) ∧ ((p.rng.lo = p.rng.lo ∧ p.rng.hi = p.rng.hi ∧ p.epoch = p.epoch ∧ p.frozen = p.frozen ∧ (b = b ∧ List.length p.recs = List.length p.recs ∧ contLe (List.length p.recs) (5 : Nat) (cellsOf' encR p.recs) (cellsOf' encR p.recs)) ∧ (b = b ∧ List.length p.prods = List.length p.prods ∧ contLe (List.length p.prods) (4 : Nat) (cellsOf' P.encP p.prods) (cellsOf' P.encP p.prods)) ∧ (b = b ∧ List.length p.cons = List.length p.cons ∧ contLe (List.length p.cons) (2 : Nat) (cellsOf' encC p.cons) (cellsOf' encC p.cons)) ∧ True) ∧ (IntKind.u64 = IntKind.u64 ∧ IntKind.u64 = IntKind.u64 ∧ ∀ (x : Int), updHas (knP (List.take k p.prods)).fst (List.getD p.prods (Int.toNat (↑k : Int)) (@default P.Producer P.instInhabitedProducer)).id x = (knP (List.take j p.prods)).fst x ∧ (updHas (knP (List.take k p.prods)).fst (List.getD p.prods (Int.toNat (↑k : Int)) (@default P.Producer P.instInhabitedProducer)).id x = true → updC (knP (List.take k p.prods)).snd (List.getD p.prods (Int.toNat (↑k : Int)) (@default P.Producer P.instInhabitedProducer)).id (List.getD p.prods (Int.toNat (↑k : Int)) (@default P.Producer P.instInhabitedProducer)).seq x = (knP (List.take j p.prods)).snd x)) ∧ True) ∧ true = true) ∧ true = true ∧ () = ()) ∧ (decide ((↑k : Int) < (↑(List.length p.prods) : Int)) = false → (((0 : Nat) = (0 : Nat) ∧ (0 : Nat) = (0 : Nat)) ∧ True ∧ True) ∧ ((p.rng.lo = p.rng.lo ∧ p.rng.hi = p.rng.hi ∧ p.epoch = p.epoch ∧ p.frozen = p.frozen ∧ (b = b ∧ List.length p.recs = List.length p.recs ∧ contLe (List.length p.recs) (5 : Nat) (cellsOf' encR p.recs) (cellsOf' encR p.recs)) ∧ (b = b ∧ List.length p.prods = List.length p.prods ∧ contLe (List.length p.prods) (4 : Nat) (cellsOf' P.encP p.prods) (cellsOf' P.encP p.prods)) ∧ (b = b ∧ List.length p.cons = List.length p.cons ∧ contLe (List.length p.cons) (2 : Nat) (cellsOf' encC p.cons) (cellsOf' encC p.cons)) ∧ True) ∧ (IntKind.u64 = IntKind.u64 ∧ IntKind.u64 = IntKind.u64 ∧ ∀ (x : Int), (knP (List.take k p.prods)).fst x = (knP p.prods).fst x ∧ ((knP (List.take k p.prods)).fst x = true → (knP (List.take k p.prods)).snd x = (knP p.prods).snd x)) ∧ True) ∧ true = true)
set_option maxRecDepth 1000000 in
theorem vcOr1_eq (b : Bool) (p : Part) (k : Nat) : (loopVC Tryz.prog (hT _) 45 3 (fun k => p.prods.length - k) (orT1 b p) (fun k => orM1 b p (knP (p.prods.take k))) jX9 (fun _ => .ret ()) (orS1 b p) k) = vcOr1 b p k := by kernel_rfl
def orM2 (b : Bool) (p : Part) (k : Nat) : List Blk := [.box 30 (encPt b p), mapB (knP p.prods), mapB (knR (p.recs.take k))]
def orT2 (b : Bool) (p : Part) (k : Nat) : List AV := mkT 61 [(1, .ptr 0 0 0 0), (3, .mref 1), (6, .mref 2), (25, encRs b p.recs), (26, .y (.int .i64 p.recs.length)), (27, .y (.int .i64 k))]
def orS2 (r : Bool) : Exit × List AV × List Blk := match r with
  | true => (.exit 2, mkT 61 [], [])
  | false => (.ret, mkT 61 [(2, .s (.bool false))], [])
def okO (p : Part) (k : Nat) : Bool :=
  let x := p.recs.getD k default
  hasK p.rng x.key && (!decide (x.seq ≤ (knR (p.recs.take k)).sel x.prod) && !decide ((knP p.prods).sel x.prod < x.seq))
def orFrom (p : Part) (k : Nat) : Bool := (List.range' k (p.recs.length - k)).all fun j => okO p j
theorem orFrom_end {p : Part} {k : Nat} (h : p.recs.length ≤ k) : orFrom p k = true := by
  unfold orFrom
  rw [show p.recs.length - k = 0 by omega]; rfl
theorem orFrom_step {p : Part} {k : Nat} (h : k < p.recs.length) : orFrom p k = (okO p k && orFrom p (k + 1)) := by
  unfold orFrom
  rw [show p.recs.length - k = (p.recs.length - (k + 1)) + 1 by omega, List.range'_succ]; rfl
def orO (p : Part) (k : Nat) : T Bool := .ite (orFrom p k) (.ret true) (.ret false)
noncomputable def orH2 (p : Part) (k : Nat) : HintsT Tryz.prog := hh _ noLp (cs1 45 11 4 (hasC p.rng (p.recs.getD k default).key) noCs) noOp
def vcOr2 (b : Bool) (p : Part) (k : Nat) : Prop :=
  (decide ((↑k : Int) < (↑(List.length p.recs) : Int)) = true → (true && decide ((↑k : Int) < (↑(List.length p.recs) : Int))) = true ∧ ((p.rng.lo = p.rng.lo ∧ p.rng.hi = p.rng.hi ∧ True) ∧ (List.getD p.recs (Int.toNat (↑k : Int)) (@default Rec instInhabitedRec)).key = (List.getD p.recs k (@default Rec instInhabitedRec)).key ∧ True) ∧ True ∧ ((!hasK p.rng (List.getD p.recs k (@default Rec instInhabitedRec)).key) = true → (orFrom p k = true → False) ∧ (orFrom p k = false → (false = false ∧ True) ∧ True ∧ true = true)) ∧ ((!hasK p.rng (List.getD p.recs k (@default Rec instInhabitedRec)).key) = false → (decide ((List.getD p.recs (Int.toNat (↑k : Int)) (@default Rec instInhabitedRec)).seq ≤ selI ((knR (List.take k p.recs)).fst (List.getD p.recs (Int.toNat (↑k : Int)) (@default Rec instInhabitedRec)).prod) ((knR (List.take k p.recs)).snd (List.getD p.recs (Int.toNat (↑k : Int)) (@default Rec instInhabitedRec)).prod)) = true → (orFrom p k = true → False) ∧ (orFrom p k = false → (false = false ∧ True) ∧ True ∧ true = true)) ∧ (decide ((List.getD p.recs (Int.toNat (↑k : Int)) (@default Rec instInhabitedRec)).seq ≤ selI ((knR (List.take k p.recs)).fst (List.getD p.recs (Int.toNat (↑k : Int)) (@default Rec instInhabitedRec)).prod) ((knR (List.take k p.recs)).snd (List.getD p.recs (Int.toNat (↑k : Int)) (@default Rec instInhabitedRec)).prod)) = false → (decide (selI ((knP p.prods).fst (List.getD p.recs (Int.toNat (↑k : Int)) (@default Rec instInhabitedRec)).prod) ((knP p.prods).snd (List.getD p.recs (Int.toNat (↑k : Int)) (@default Rec instInhabitedRec)).prod) < (List.getD p.recs (Int.toNat (↑k : Int)) (@default Rec instInhabitedRec)).seq) = true → (orFrom p k = true → False) ∧ (orFrom p k = false → (false = false ∧ True) ∧ True ∧ true = true)) ∧ (decide (selI ((knP p.prods).fst (List.getD p.recs (Int.toNat (↑k : Int)) (@default Rec instInhabitedRec)).prod) ((knP p.prods).snd (List.getD p.recs (Int.toNat (↑k : Int)) (@default Rec instInhabitedRec)).prod) < (List.getD p.recs (Int.toNat (↑k : Int)) (@default Rec instInhabitedRec)).seq) = false → ∃ (j : Nat), List.length p.recs - j < List.length p.recs - k ∧ ((((0 : Nat) = (0 : Nat) ∧ (0 : Nat) = (0 : Nat)) ∧ True ∧ True ∧ (b = b ∧ List.length p.recs = List.length p.recs ∧ contLe (List.length p.recs) (5 : Nat) (cellsOf' encR p.recs) (cellsOf' encR p.recs)) ∧ (↑(List.length p.recs) : Int) = (↑(List.length p.recs) : Int) ∧ IntKind.wrap IntKind.i64 ((↑k : Int) + (1 : Int)) = (↑j : Int) ∧ True) ∧ ((p.rng.lo = p.rng.lo ∧ p.rng.hi = p.rng.hi ∧ p.epoch = p.epoch ∧ p.frozen = p.frozen ∧ (b = b ∧ List.length p.recs = List.length p.recs ∧ contLe (List.length p.recs) (5 : Nat) (cellsOf' encR p.recs) (cellsOf' encR p.recs)) ∧ (b = b ∧ List.length p.prods = List.length p.prods ∧ contLe (List.length p.prods) (4 : Nat) (cellsOf' P.encP p.prods) (cellsOf' P.encP p.prods)) ∧ (b = b ∧ List.length p.cons = List.length p.cons ∧ contLe (List.length p.cons) (2 : Nat) (cellsOf' encC p.cons) (cellsOf' encC p.cons)) ∧ True) ∧ (IntKind.u64 = IntKind.u64 ∧ IntKind.u64 = IntKind.u64 ∧ ∀ (x : Int), (knP p.prods).fst x = (knP p.prods).fst x ∧ ((knP p.prods).fst x = true → (knP p.prods).snd x = (knP p.prods).snd x)) ∧ (IntKind.u64 = IntKind.u64 ∧ IntKind.u64 = IntKind.u64 ∧ ∀ (x : Int), updHas (knR (List.take k p.recs)).fst (List.getD p.recs (Int.toNat (↑k : Int)) (@default Rec instInhabitedRec)).prod x = (knR (List.take j p.recs)).fst x ∧ (updHas (knR (List.take k p.recs)).fst (List.getD p.recs (Int.toNat (↑k : Int)) (@default Rec instInhabitedRec)).prod x = true → updC (knR (List.take k p.recs)).snd (List.getD p.recs (Int.toNat (↑k : Int)) (@default Rec instInhabitedRec)).prod (List.getD p.recs (Int.toNat (↑k : Int)) (@default Rec instInhabitedRec)).seq x = (knR (List.take j p.recs)).snd x)) ∧ True) ∧ true = true) ∧ true = true ∧ (orFrom p j = true → (orFrom p k = true → true = true) ∧ (orFrom p k = false → true = false)) ∧ (orFrom p j = false → (orFrom p k = true → false = true) ∧ (orFrom p k = false → false = false)))))) ∧ (decide ((↑k : Int) < (↑(List.length p.recs) : Int)) = false → (orFrom p k = true → True ∧ True ∧ true = true) ∧ (orFrom p k = false → False))
set_option maxRecDepth 1000000 in
theorem vcOr2_eq (b : Bool) (p : Part) (k : Nat) : (loopVC Tryz.prog (orH2 p k) 45 9 (fun k => p.recs.length - k) (orT2 b p) (orM2 b p) jX9 (orO p) orS2 k) = vcOr2 b p k := by kernel_rfl
noncomputable def orH (b : Bool) (p : Part) : HintsT Tryz.prog := hh _ (lp1 45 3 (jobOf (orT1 b p) (fun k => orM1 b p (knP (p.prods.take k))) jX9 (fun _ => .ret ()) (orS1 b p) 0) (lp1 45 9 (jobOf (orT2 b p) (orM2 b p) jX9 (orO p) orS2 0) noLp)) noCs noOp
def vcOr (b : Bool) (p : Part) : Prop :=
  ((((0 : Nat) = (0 : Nat) ∧ (0 : Nat) = (0 : Nat)) ∧ True ∧ (b = b ∧ List.length p.prods = List.length p.prods ∧ contLe (List.length p.prods) (4 : Nat) (cellsOf' P.encP p.prods) (cellsOf' P.encP p.prods)) ∧ (↑(List.length p.prods) : Int) = (↑(List.length p.prods) : Int) ∧ (0 : Int) = (0 : Int) ∧ True) ∧ ((p.rng.lo = p.rng.lo ∧ p.rng.hi = p.rng.hi ∧ p.epoch = p.epoch ∧ p.frozen = p.frozen ∧ (b = b ∧ List.length p.recs = List.length p.recs ∧ contLe (List.length p.recs) (5 : Nat) (cellsOf' encR p.recs) (cellsOf' encR p.recs)) ∧ (b = b ∧ List.length p.prods = List.length p.prods ∧ contLe (List.length p.prods) (4 : Nat) (cellsOf' P.encP p.prods) (cellsOf' P.encP p.prods)) ∧ (b = b ∧ List.length p.cons = List.length p.cons ∧ contLe (List.length p.cons) (2 : Nat) (cellsOf' encC p.cons) (cellsOf' encC p.cons)) ∧ True) ∧ (∀ (x : Int), false = false) ∧ True) ∧ true = true) ∧ LoopOk Tryz.prog (45 : Nat) (3 : Nat) (loopAt Tryz.prog (45 : Nat) (3 : Nat)) { t := orT1 b p (0 : Nat), m := orM1 b p (knP (List.take (0 : Nat) p.prods)), mv := [] : St } (T.map (lout jX9 (orS1 b p)) ((fun (x : Nat) => T.ret ()) (0 : Nat))) ∧ ((((0 : Nat) = (0 : Nat) ∧ (0 : Nat) = (0 : Nat)) ∧ True ∧ True ∧ (b = b ∧ List.length p.recs = List.length p.recs ∧ contLe (List.length p.recs) (5 : Nat) (cellsOf' encR p.recs) (cellsOf' encR p.recs)) ∧ (↑(List.length p.recs) : Int) = (↑(List.length p.recs) : Int) ∧ (0 : Int) = (0 : Int) ∧ True) ∧ ((p.rng.lo = p.rng.lo ∧ p.rng.hi = p.rng.hi ∧ p.epoch = p.epoch ∧ p.frozen = p.frozen ∧ (b = b ∧ List.length p.recs = List.length p.recs ∧ contLe (List.length p.recs) (5 : Nat) (cellsOf' encR p.recs) (cellsOf' encR p.recs)) ∧ (b = b ∧ List.length p.prods = List.length p.prods ∧ contLe (List.length p.prods) (4 : Nat) (cellsOf' P.encP p.prods) (cellsOf' P.encP p.prods)) ∧ (b = b ∧ List.length p.cons = List.length p.cons ∧ contLe (List.length p.cons) (2 : Nat) (cellsOf' encC p.cons) (cellsOf' encC p.cons)) ∧ True) ∧ (IntKind.u64 = IntKind.u64 ∧ IntKind.u64 = IntKind.u64 ∧ ∀ (x : Int), (knP p.prods).fst x = (knP p.prods).fst x ∧ ((knP p.prods).fst x = true → (knP p.prods).snd x = (knP p.prods).snd x)) ∧ (∀ (x : Int), false = false) ∧ True) ∧ true = true) ∧ LoopOk Tryz.prog (45 : Nat) (9 : Nat) (loopAt Tryz.prog (45 : Nat) (9 : Nat)) { t := orT2 b p (0 : Nat), m := orM2 b p (0 : Nat), mv := [] : St } (T.map (lout jX9 orS2) (orO p (0 : Nat))) ∧ (orFrom p (0 : Nat) = true → true = orFrom p (0 : Nat) ∧ True) ∧ (orFrom p (0 : Nat) = false → false = orFrom p (0 : Nat) ∧ True)
set_option maxRecDepth 1000000 in
theorem vcOr_eq (b : Bool) (p : Part) : (ctrVC Tryz.prog (orH b p) 45 [.agg (encPt b p)] [] (boolR (orFrom p 0))) = vcOr b p := by kernel_rfl
end Go.Proofs.YtckklclehofddaaGreatDoor

/-! Shards' states: do records stand as their producers' numbers rise? the contract. -/
namespace Go.Proofs.YtckklclehofddaaGreatDoor
open Go.Ax
set_option maxRecDepth 1000000
theorem or1_loop (b : Bool) (p : Part) (hl : p.prods.length ≤ 9223372036854775806) (k : Nat) : LoopOk Tryz.prog 45 3 (loopAt Tryz.prog 45 3) ⟨orT1 b p k, orM1 b p (knP (p.prods.take k)), []⟩ (T.map (lout jX9 (orS1 b p)) (.ret ())) := by
  refine loop_vc (o := fun _ => .ret ()) (stT := fun k => orT1 b p k) (stM := fun k => orM1 b p (knP (p.prods.take k))) Tryz.mixed (fun _ => rfl) (fun k => (vcOr1_eq b p k).mpr ?_) k
  unfold vcOr1
  by_cases h : k < p.prods.length
  · have hw : IntKind.i64.wrap ((k : Int) + 1) = ((k + 1 : Nat) : Int) := by rw [wrap_i64 (by omega) (by omega)]; omega
    have hs := knP_step h
    have hz : decide ((k : Int) < p.prods.length) = true := by simp; omega
    rw [Int.toNat_natCast]
    simp only [hz]
    generalize p.prods.getD k default = x at *
    generalize knP (p.prods.take k) = s at *
    simp
    refine Exists.intro (k + 1) ?_
    rw [hs]
    refine ⟨by omega, hw, fun y => ⟨rfl, fun _ => rfl⟩⟩
  · have hz : decide ((k : Int) < p.prods.length) = false := by simp; omega
    rw [List.take_of_length_le (by omega)]
    simp [hz]
    exact fun e => absurd e h
theorem or2_loop (b : Bool) (p : Part) (hl : p.recs.length ≤ 9223372036854775806) (k : Nat) : LoopOk Tryz.prog 45 9 (loopAt Tryz.prog 45 9) ⟨orT2 b p k, orM2 b p k, []⟩ ((orO p k).map (lout jX9 orS2)) := by
  refine loop_vcH (o := orO p) (stT := orT2 b p) (stM := orM2 b p) Tryz.mixed (fun _ => rfl) (fun k => (vcOr2_eq b p k).mpr ?_) k
  unfold vcOr2
  by_cases h : k < p.recs.length
  · have hw : IntKind.i64.wrap ((k : Int) + 1) = ((k + 1 : Nat) : Int) := by rw [wrap_i64 (by omega) (by omega)]; omega
    have hs := knR_step h
    have hf := orFrom_step h
    have hz : decide ((k : Int) < p.recs.length) = true := by simp; omega
    have ho : okO p k = (hasK p.rng (p.recs.getD k default).key && (!decide ((p.recs.getD k default).seq ≤ (knR (p.recs.take k)).sel (p.recs.getD k default).prod) && !decide ((knP p.prods).sel (p.recs.getD k default).prod < (p.recs.getD k default).seq))) := rfl
    rw [Int.toNat_natCast]
    simp only [hz, hf, ho]
    generalize p.recs.getD k default = x at *
    generalize knR (p.recs.take k) = s at *
    cases h1 : hasK p.rng x.key
    · simp
    · by_cases h2 : x.seq ≤ s.sel x.prod
      · simp [h2]
      · by_cases h3 : (knP p.prods).sel x.prod < x.seq
        · simp [h2, h3]
        · simp [h2, h3]
          refine Exists.intro (k + 1) ?_
          rw [hs]
          refine ⟨by omega, ⟨hw, fun y => ⟨rfl, fun _ => rfl⟩⟩, ?_⟩
          cases orFrom p (k + 1) <;> simp
  · have hz : decide ((k : Int) < p.recs.length) = false := by simp; omega
    simp only [hz, orFrom_end (p := p) (k := k) (by omega)]
    simp
theorem or_c (b : Bool) (p : Part) (h1 : p.prods.length ≤ 9223372036854775806) (h2 : p.recs.length ≤ 9223372036854775806) : (boolR (orFrom p 0)).Sat (ACall' Tryz.prog 45 [.agg (encPt b p)] []) := by
  refine ctr_vc (ht := orH b p) Tryz.mixed rfl ?_
  rw [vcOr_eq b p]
  unfold vcOr
  have l1 := or1_loop b p h1 0
  have l2 := or2_loop b p h2 0
  rw [List.take_zero] at l1
  simp [l1, l2]
noncomputable def orC (b : Bool) (p : Part) : Ctr Tryz.prog := ⟨45, [.agg (encPt b p)], [], .need (p.prods.length ≤ 9223372036854775806 ∧ p.recs.length ≤ 9223372036854775806) (boolR (orFrom p 0)), T.Sat.need fun h => or_c b p h.1 h.2⟩
end Go.Proofs.YtckklclehofddaaGreatDoor

/-! Shards' states: producers without their record, consumers ahead. -/
namespace Go.Proofs.YtckklclehofddaaGreatDoor
open Go.Ax
set_option maxRecDepth 1000000
def lostB (p : Part) (x : P.Producer) : Bool := x.here && (decide ((p.recs.length : Int) ≤ x.offset) || ((p.recs.getD x.offset.toNat default).prod != x.id || (p.recs.getD x.offset.toNat default).seq != x.seq))
def lostE (b : Bool) (p : Part) : List AV := [.ip false 1 (get [.y (.int .u64 (IntKind.u64.wrap p.recs.length))]), .ip false 7 (get (encPt b p))]
def vcLost (b : Bool) (p : Part) (x : P.Producer) : Prop :=
  (x.here = true → (decide (IntKind.wrap IntKind.u64 (↑(List.length p.recs) : Int) ≤ x.offset) = true → true = lostB p x ∧ True) ∧ (decide (IntKind.wrap IntKind.u64 (↑(List.length p.recs) : Int) ≤ x.offset) = false → (decide ((0 : Int) ≤ x.offset) && decide (x.offset < (↑(List.length p.recs) : Int))) = true ∧ (((List.getD p.recs (Int.toNat x.offset) (@default Rec instInhabitedRec)).prod != x.id) = true → true = lostB p x ∧ True) ∧ (((List.getD p.recs (Int.toNat x.offset) (@default Rec instInhabitedRec)).prod != x.id) = false → (decide ((0 : Int) ≤ x.offset) && decide (x.offset < (↑(List.length p.recs) : Int))) = true ∧ ((List.getD p.recs (Int.toNat x.offset) (@default Rec instInhabitedRec)).seq != x.seq) = lostB p x ∧ True))) ∧ (x.here = false → false = lostB p x ∧ True)
set_option maxRecDepth 1000000 in
theorem vcLost_eq (b : Bool) (p : Part) (x : P.Producer) : (ctrVC Tryz.prog (hT _) 39 ([.agg (P.encP x)] ++ lostE b p) [] (boolR (lostB p x))) = vcLost b p x := by kernel_rfl
def aheadB (n : Nat) (x : Con) : Bool := decide ((n : Int) < x.off)
def aheadE (n : Nat) : List AV := [.ip false 1 (get [.y (.int .u64 (IntKind.u64.wrap n))])]
def vcAhead (n : Nat) (x : Con) : Prop :=
  decide (IntKind.wrap IntKind.u64 (↑n : Int) < x.off) = aheadB n x ∧ True
set_option maxRecDepth 1000000 in
theorem vcAhead_eq (n : Nat) (x : Con) : (ctrVC Tryz.prog (hT _) 40 ([.agg (encC x)] ++ aheadE n) [] (boolR (aheadB n x))) = vcAhead n x := by kernel_rfl
theorem lost_c (b : Bool) (p : Part) (x : P.Producer) (h1 : p.recs.length ≤ 9223372036854775806) (h2 : 0 ≤ x.offset) : (boolR (lostB p x)).Sat (ACall' Tryz.prog 39 ([.agg (P.encP x)] ++ lostE b p) []) := by
  refine ctr_vc (ht := hT _) Tryz.mixed rfl ?_
  rw [vcLost_eq b p x]
  unfold vcLost
  have hw : IntKind.u64.wrap (p.recs.length : Int) = p.recs.length := wrap_u64 (by omega) (by omega)
  simp only [hw]
  unfold lostB
  generalize p.recs.getD x.offset.toNat default = y
  cases hh : x.here
  · simp
  · by_cases h3 : (p.recs.length : Int) ≤ x.offset
    · simp [h3]
    · have h4 : x.offset < p.recs.length := by omega
      by_cases h5 : y.prod = x.id <;> by_cases h6 : y.seq = x.seq <;> simp [h3, h4, h2, h5, h6]
theorem ahead_c (n : Nat) (x : Con) (h1 : n ≤ 9223372036854775806) : (boolR (aheadB n x)).Sat (ACall' Tryz.prog 40 ([.agg (encC x)] ++ aheadE n) []) := by
  refine ctr_vc (ht := hT _) Tryz.mixed rfl ?_
  rw [vcAhead_eq n x]
  unfold vcAhead
  have hw : IntKind.u64.wrap (n : Int) = n := wrap_u64 (by omega) (by omega)
  simp [hw, aheadB]
/-! slices.IndexFunc, ContainsFunc over gazette/api.Producer by partfsm.Check$1 -/
def loFn (b : Bool) (p : Part) : AV := .fn (.func 39) [] (lostE b p)
def loAny (b : Bool) (p : Part) (l : List P.Producer) : Bool := l.any (lostB p)
theorem loAny_nil (b : Bool) (p : Part) : loAny b p [] = false := rfl
theorem loAny_cons (b : Bool) (p : Part) (y : P.Producer) (l : List P.Producer) : loAny b p (y :: l) = (lostB p y || loAny b p l) := rfl
noncomputable def loC (b : Bool) (p : Part) (x : P.Producer) : Ctr Tryz.prog := ⟨39, [.agg (P.encP x)] ++ (lostE b p), [], .need (p.recs.length ≤ 9223372036854775806 ∧ 0 ≤ x.offset) (boolR (lostB p x)), T.Sat.need fun h => lost_c b p x h.1 h.2⟩
def loT (b : Bool) (p : Part) (bb : Bool) (l : List P.Producer) (k : Nat) : List AV := mkT 19 [(0, .ys bb 4 l.length (cellsOf' P.encP l)), (1, loFn b p), (4, .s (.int .i64 0)), (7, .y (.int .i64 l.length)), (8, .y (.int .i64 k))]
def loS (r : Bool × Nat) : Exit × List AV × List Blk := match r.1 with
  | true => (.ret, mkT 19 [(4, .y (.int .i64 r.2))], [])
  | false => (.exit 0, mkT 19 [], [])
def loO (b : Bool) (p : Part) (l : List P.Producer) (k : Nat) : T (Bool × Nat) := .ite (loAny b p (l.drop k)) (.ret (true, k + (l.drop k).findIdx (lostB p))) (.ret (false, 0))
noncomputable def loHL (b : Bool) (p : Part) (l : List P.Producer) (k : Nat) : HintsT Tryz.prog := hh _ noLp (cs1 79 4 5 (loC b p (l.getD k default)) noCs) noOp
def vcloL (b : Bool) (p : Part) (bb : Bool) (l : List P.Producer) (k : Nat) : Prop :=
  (decide ((↑k : Int) < (↑(List.length l) : Int)) = true → (true && decide ((↑k : Int) < (↑(List.length l) : Int))) = true ∧ (((List.getD l (Int.toNat (↑k : Int)) (@default P.Producer P.instInhabitedProducer)).id = (List.getD l k (@default P.Producer P.instInhabitedProducer)).id ∧ (List.getD l (Int.toNat (↑k : Int)) (@default P.Producer P.instInhabitedProducer)).seq = (List.getD l k (@default P.Producer P.instInhabitedProducer)).seq ∧ (List.getD l (Int.toNat (↑k : Int)) (@default P.Producer P.instInhabitedProducer)).here = (List.getD l k (@default P.Producer P.instInhabitedProducer)).here ∧ (List.getD l (Int.toNat (↑k : Int)) (@default P.Producer P.instInhabitedProducer)).offset = (List.getD l k (@default P.Producer P.instInhabitedProducer)).offset ∧ True) ∧ (false = false ∧ (1 : Nat) ≤ (1 : Nat) ∧ cellLe (1 : Nat) (Ax.get [AV.y (Value.int IntKind.u64 (IntKind.wrap IntKind.u64 (↑(List.length p.recs) : Int)))]) (Ax.get [AV.y (Value.int IntKind.u64 (IntKind.wrap IntKind.u64 (↑(List.length p.recs) : Int)))])) ∧ (false = false ∧ (7 : Nat) ≤ (7 : Nat) ∧ cellLe (7 : Nat) (Ax.get [AV.y (Value.string p.rng.lo), AV.y (Value.string p.rng.hi), AV.y (Value.int IntKind.u64 p.epoch), AV.y (Value.int IntKind.u64 p.frozen), AV.ys b (5 : Nat) (List.length p.recs) (cellsOf' encR p.recs), AV.ys b (4 : Nat) (List.length p.prods) (cellsOf' P.encP p.prods), AV.ys b (2 : Nat) (List.length p.cons) (cellsOf' encC p.cons)]) (Ax.get [AV.y (Value.string p.rng.lo), AV.y (Value.string p.rng.hi), AV.y (Value.int IntKind.u64 p.epoch), AV.y (Value.int IntKind.u64 p.frozen), AV.ys b (5 : Nat) (List.length p.recs) (cellsOf' encR p.recs), AV.ys b (4 : Nat) (List.length p.prods) (cellsOf' P.encP p.prods), AV.ys b (2 : Nat) (List.length p.cons) (cellsOf' encC p.cons)])) ∧ True) ∧ True ∧ (List.length p.recs ≤ (9223372036854775806 : Nat) ∧ (0 : Int) ≤ (List.getD l k (@default P.Producer P.instInhabitedProducer)).offset) ∧ (lostB p (List.getD l k (@default P.Producer P.instInhabitedProducer)) = true → (loAny b p (List.drop k l) = true → ((↑k : Int) = (↑(k + List.findIdx (lostB p) (List.drop k l)) : Int) ∧ True) ∧ True ∧ true = true) ∧ (loAny b p (List.drop k l) = false → False)) ∧ (lostB p (List.getD l k (@default P.Producer P.instInhabitedProducer)) = false → ∃ (j : Nat), List.length l - j < List.length l - k ∧ (((bb = bb ∧ List.length l = List.length l ∧ contLe (List.length l) (4 : Nat) (cellsOf' P.encP l) (cellsOf' P.encP l)) ∧ (True ∧ (false = false ∧ (1 : Nat) ≤ (1 : Nat) ∧ cellLe (1 : Nat) (Ax.get [AV.y (Value.int IntKind.u64 (IntKind.wrap IntKind.u64 (↑(List.length p.recs) : Int)))]) (Ax.get [AV.y (Value.int IntKind.u64 (IntKind.wrap IntKind.u64 (↑(List.length p.recs) : Int)))])) ∧ (false = false ∧ (7 : Nat) ≤ (7 : Nat) ∧ cellLe (7 : Nat) (Ax.get [AV.y (Value.string p.rng.lo), AV.y (Value.string p.rng.hi), AV.y (Value.int IntKind.u64 p.epoch), AV.y (Value.int IntKind.u64 p.frozen), AV.ys b (5 : Nat) (List.length p.recs) (cellsOf' encR p.recs), AV.ys b (4 : Nat) (List.length p.prods) (cellsOf' P.encP p.prods), AV.ys b (2 : Nat) (List.length p.cons) (cellsOf' encC p.cons)]) (Ax.get [AV.y (Value.string p.rng.lo), AV.y (Value.string p.rng.hi), AV.y (Value.int IntKind.u64 p.epoch), AV.y (Value.int IntKind.u64 p.frozen), AV.ys b (5 : Nat) (List.length p.recs) (cellsOf' encR p.recs), AV.ys b (4 : Nat) (List.length p.prods) (cellsOf' P.encP p.prods), AV.ys b (2 : Nat) (List.length p.cons) (cellsOf' encC p.cons)])) ∧ True) ∧ (0 : Int) = (0 : Int) ∧ (↑(List.length l) : Int) = (↑(List.length l) : Int) ∧ IntKind.wrap IntKind.i64 ((↑k : Int) + (1 : Int)) = (↑j : Int) ∧ True) ∧ True ∧ true = true) ∧ true = true ∧ (loAny b p (List.drop j l) = true → (loAny b p (List.drop k l) = true → (true, j + List.findIdx (lostB p) (List.drop j l)) = (true, k + List.findIdx (lostB p) (List.drop k l))) ∧ (loAny b p (List.drop k l) = false → (true, j + List.findIdx (lostB p) (List.drop j l)) = (false, (0 : Nat)))) ∧ (loAny b p (List.drop j l) = false → (loAny b p (List.drop k l) = true → (false, (0 : Nat)) = (true, k + List.findIdx (lostB p) (List.drop k l))) ∧ (loAny b p (List.drop k l) = false → (false, (0 : Nat)) = (false, (0 : Nat)))))) ∧ (decide ((↑k : Int) < (↑(List.length l) : Int)) = false → (loAny b p (List.drop k l) = true → False) ∧ (loAny b p (List.drop k l) = false → True ∧ True ∧ true = true))
set_option maxRecDepth 1000000 in
theorem vcloL_eq (b : Bool) (p : Part) (bb : Bool) (l : List P.Producer) (k : Nat) : (loopVC Tryz.prog (loHL b p l k) 79 2 (fun k => l.length - k) (loT b p bb l) (fun _ => []) [0] (loO b p l) loS k) = vcloL b p bb l k := by kernel_rfl
theorem lo_loop (b : Bool) (p : Part) (bb : Bool) (l : List P.Producer) (hl : l.length ≤ 9223372036854775806) (hn : ∀ k, k < l.length → (p.recs.length ≤ 9223372036854775806 ∧ 0 ≤ (l.getD k default).offset)) (k : Nat) : LoopOk Tryz.prog 79 2 (loopAt Tryz.prog 79 2) ⟨loT b p bb l k, [], []⟩ ((loO b p l k).map (lout [0] loS)) := by
  refine loop_vcH (ht := fun k => loHL b p l k) Tryz.mixed (fun _ => rfl) (fun k => (vcloL_eq b p bb l k).mpr ?_) k
  unfold vcloL
  by_cases h : k < l.length
  · have hw : IntKind.i64.wrap ((k : Int) + 1) = ((k + 1 : Nat) : Int) := by rw [wrap_i64 (by omega) (by omega)]; omega
    have hz : decide ((k : Int) < l.length) = true := by simp; omega
    have hd : l.drop k = l.getD k default :: l.drop (k + 1) := by rw [drop_cons h]; simp
    have hk := hn k h
    rw [Int.toNat_natCast]
    simp only [hz, hd, loAny_cons, List.findIdx_cons]
    generalize l.getD k default = y at *
    cases hp : lostB p y
    · simp [hw, hk]
      exact ⟨k + 1, by omega, by omega, by grind⟩
    · simp [hk]
  · have hz : decide ((k : Int) < l.length) = false := by simp; omega
    simp only [hz, drop_end (Nat.le_of_not_lt h), loAny_nil]
    simp
noncomputable def loH (b : Bool) (p : Part) (bb : Bool) (l : List P.Producer) : HintsT Tryz.prog := hh _ (lp1 79 2 (jobOf (loT b p bb l) (fun _ => []) [0] (loO b p l) loS 0) noLp) noCs noOp
def vcloF (b : Bool) (p : Part) (bb : Bool) (l : List P.Producer) : Prop :=
  (((bb = bb ∧ List.length l = List.length l ∧ contLe (List.length l) (4 : Nat) (cellsOf' P.encP l) (cellsOf' P.encP l)) ∧ (True ∧ (false = false ∧ (1 : Nat) ≤ (1 : Nat) ∧ cellLe (1 : Nat) (Ax.get [AV.y (Value.int IntKind.u64 (IntKind.wrap IntKind.u64 (↑(List.length p.recs) : Int)))]) (Ax.get [AV.y (Value.int IntKind.u64 (IntKind.wrap IntKind.u64 (↑(List.length p.recs) : Int)))])) ∧ (false = false ∧ (7 : Nat) ≤ (7 : Nat) ∧ cellLe (7 : Nat) (Ax.get [AV.y (Value.string p.rng.lo), AV.y (Value.string p.rng.hi), AV.y (Value.int IntKind.u64 p.epoch), AV.y (Value.int IntKind.u64 p.frozen), AV.ys b (5 : Nat) (List.length p.recs) (cellsOf' encR p.recs), AV.ys b (4 : Nat) (List.length p.prods) (cellsOf' P.encP p.prods), AV.ys b (2 : Nat) (List.length p.cons) (cellsOf' encC p.cons)]) (Ax.get [AV.y (Value.string p.rng.lo), AV.y (Value.string p.rng.hi), AV.y (Value.int IntKind.u64 p.epoch), AV.y (Value.int IntKind.u64 p.frozen), AV.ys b (5 : Nat) (List.length p.recs) (cellsOf' encR p.recs), AV.ys b (4 : Nat) (List.length p.prods) (cellsOf' P.encP p.prods), AV.ys b (2 : Nat) (List.length p.cons) (cellsOf' encC p.cons)])) ∧ True) ∧ (0 : Int) = (0 : Int) ∧ (↑(List.length l) : Int) = (↑(List.length l) : Int) ∧ (0 : Int) = (0 : Int) ∧ True) ∧ True ∧ true = true) ∧ LoopOk Tryz.prog (79 : Nat) (2 : Nat) (loopAt Tryz.prog (79 : Nat) (2 : Nat)) { t := loT b p bb l (0 : Nat), m := [], mv := [] : St } (T.map (lout [(0 : Nat)] loS) (loO b p l (0 : Nat))) ∧ (loAny b p (List.drop (0 : Nat) l) = true → true = loAny b p l ∧ True) ∧ (loAny b p (List.drop (0 : Nat) l) = false → false = loAny b p l ∧ True)
set_option maxRecDepth 1000000 in
theorem vcloF_eq (b : Bool) (p : Part) (bb : Bool) (l : List P.Producer) : (ctrVC Tryz.prog (loH b p bb l) 46 [.ys bb 4 l.length (cellsOf' P.encP l), loFn b p] [] (boolR (loAny b p l))) = vcloF b p bb l := by kernel_rfl
theorem lo_has (b : Bool) (p : Part) (bb : Bool) (l : List P.Producer) (hl : l.length ≤ 9223372036854775806) (hn : ∀ k, k < l.length → (p.recs.length ≤ 9223372036854775806 ∧ 0 ≤ (l.getD k default).offset)) : (boolR (loAny b p l)).Sat (ACall' Tryz.prog 46 [.ys bb 4 l.length (cellsOf' P.encP l), loFn b p] []) := by
  refine ctr_vc (ht := loH b p bb l) Tryz.mixed rfl ?_
  rw [vcloF_eq b p bb l]
  unfold vcloF
  have := lo_loop b p bb l hl hn 0
  simp [this]
noncomputable def loHas (b : Bool) (p : Part) (bb : Bool) (l : List P.Producer) : Ctr Tryz.prog := ⟨46, [.ys bb 4 l.length (cellsOf' P.encP l), loFn b p], [], .need (l.length ≤ 9223372036854775806 ∧ ∀ k, k < l.length → (p.recs.length ≤ 9223372036854775806 ∧ 0 ≤ (l.getD k default).offset)) (boolR (loAny b p l)), T.Sat.need fun h => lo_has b p bb l h.1 h.2⟩
/-! slices.IndexFunc, ContainsFunc over gazette/api.Consumer by partfsm.Check$2 -/
def ahFn (m : Nat) : AV := .fn (.func 40) [] (aheadE m)
def ahAny (m : Nat) (l : List Con) : Bool := l.any (aheadB m)
theorem ahAny_nil (m : Nat) : ahAny m [] = false := rfl
theorem ahAny_cons (m : Nat) (y : Con) (l : List Con) : ahAny m (y :: l) = (aheadB m y || ahAny m l) := rfl
noncomputable def ahC (m : Nat) (x : Con) : Ctr Tryz.prog := ⟨40, [.agg (encC x)] ++ (aheadE m), [], .need (m ≤ 9223372036854775806) (boolR (aheadB m x)), T.Sat.need fun h => ahead_c m x h⟩
def ahT (m : Nat) (bb : Bool) (l : List Con) (k : Nat) : List AV := mkT 19 [(0, .ys bb 2 l.length (cellsOf' encC l)), (1, ahFn m), (4, .s (.int .i64 0)), (7, .y (.int .i64 l.length)), (8, .y (.int .i64 k))]
def ahS (r : Bool × Nat) : Exit × List AV × List Blk := match r.1 with
  | true => (.ret, mkT 19 [(4, .y (.int .i64 r.2))], [])
  | false => (.exit 0, mkT 19 [], [])
def ahO (m : Nat) (l : List Con) (k : Nat) : T (Bool × Nat) := .ite (ahAny m (l.drop k)) (.ret (true, k + (l.drop k).findIdx (aheadB m))) (.ret (false, 0))
noncomputable def ahHL (m : Nat) (l : List Con) (k : Nat) : HintsT Tryz.prog := hh _ noLp (cs1 80 4 5 (ahC m (l.getD k default)) noCs) noOp
def vcahL (m : Nat) (bb : Bool) (l : List Con) (k : Nat) : Prop :=
  (decide ((↑k : Int) < (↑(List.length l) : Int)) = true → (true && decide ((↑k : Int) < (↑(List.length l) : Int))) = true ∧ (((List.getD l (Int.toNat (↑k : Int)) (@default Con instInhabitedCon)).name = (List.getD l k (@default Con instInhabitedCon)).name ∧ (List.getD l (Int.toNat (↑k : Int)) (@default Con instInhabitedCon)).off = (List.getD l k (@default Con instInhabitedCon)).off ∧ True) ∧ (false = false ∧ (1 : Nat) ≤ (1 : Nat) ∧ cellLe (1 : Nat) (Ax.get [AV.y (Value.int IntKind.u64 (IntKind.wrap IntKind.u64 (↑m : Int)))]) (Ax.get [AV.y (Value.int IntKind.u64 (IntKind.wrap IntKind.u64 (↑m : Int)))])) ∧ True) ∧ True ∧ m ≤ (9223372036854775806 : Nat) ∧ (aheadB m (List.getD l k (@default Con instInhabitedCon)) = true → (ahAny m (List.drop k l) = true → ((↑k : Int) = (↑(k + List.findIdx (aheadB m) (List.drop k l)) : Int) ∧ True) ∧ True ∧ true = true) ∧ (ahAny m (List.drop k l) = false → False)) ∧ (aheadB m (List.getD l k (@default Con instInhabitedCon)) = false → ∃ (j : Nat), List.length l - j < List.length l - k ∧ (((bb = bb ∧ List.length l = List.length l ∧ contLe (List.length l) (2 : Nat) (cellsOf' encC l) (cellsOf' encC l)) ∧ (True ∧ (false = false ∧ (1 : Nat) ≤ (1 : Nat) ∧ cellLe (1 : Nat) (Ax.get [AV.y (Value.int IntKind.u64 (IntKind.wrap IntKind.u64 (↑m : Int)))]) (Ax.get [AV.y (Value.int IntKind.u64 (IntKind.wrap IntKind.u64 (↑m : Int)))])) ∧ True) ∧ (0 : Int) = (0 : Int) ∧ (↑(List.length l) : Int) = (↑(List.length l) : Int) ∧ IntKind.wrap IntKind.i64 ((↑k : Int) + (1 : Int)) = (↑j : Int) ∧ True) ∧ True ∧ true = true) ∧ true = true ∧ (ahAny m (List.drop j l) = true → (ahAny m (List.drop k l) = true → (true, j + List.findIdx (aheadB m) (List.drop j l)) = (true, k + List.findIdx (aheadB m) (List.drop k l))) ∧ (ahAny m (List.drop k l) = false → (true, j + List.findIdx (aheadB m) (List.drop j l)) = (false, (0 : Nat)))) ∧ (ahAny m (List.drop j l) = false → (ahAny m (List.drop k l) = true → (false, (0 : Nat)) = (true, k + List.findIdx (aheadB m) (List.drop k l))) ∧ (ahAny m (List.drop k l) = false → (false, (0 : Nat)) = (false, (0 : Nat)))))) ∧ (decide ((↑k : Int) < (↑(List.length l) : Int)) = false → (ahAny m (List.drop k l) = true → False) ∧ (ahAny m (List.drop k l) = false → True ∧ True ∧ true = true))
set_option maxRecDepth 1000000 in
theorem vcahL_eq (m : Nat) (bb : Bool) (l : List Con) (k : Nat) : (loopVC Tryz.prog (ahHL m l k) 80 2 (fun k => l.length - k) (ahT m bb l) (fun _ => []) [0] (ahO m l) ahS k) = vcahL m bb l k := by kernel_rfl
theorem ah_loop (m : Nat) (bb : Bool) (l : List Con) (hl : l.length ≤ 9223372036854775806) (hn : ∀ k, k < l.length → (m ≤ 9223372036854775806)) (k : Nat) : LoopOk Tryz.prog 80 2 (loopAt Tryz.prog 80 2) ⟨ahT m bb l k, [], []⟩ ((ahO m l k).map (lout [0] ahS)) := by
  refine loop_vcH (ht := fun k => ahHL m l k) Tryz.mixed (fun _ => rfl) (fun k => (vcahL_eq m bb l k).mpr ?_) k
  unfold vcahL
  by_cases h : k < l.length
  · have hw : IntKind.i64.wrap ((k : Int) + 1) = ((k + 1 : Nat) : Int) := by rw [wrap_i64 (by omega) (by omega)]; omega
    have hz : decide ((k : Int) < l.length) = true := by simp; omega
    have hd : l.drop k = l.getD k default :: l.drop (k + 1) := by rw [drop_cons h]; simp
    have hk := hn k h
    rw [Int.toNat_natCast]
    simp only [hz, hd, ahAny_cons, List.findIdx_cons]
    generalize l.getD k default = y at *
    cases hp : aheadB m y
    · simp [hw, hk]
      exact ⟨k + 1, by omega, by omega, by grind⟩
    · simp [hk]
  · have hz : decide ((k : Int) < l.length) = false := by simp; omega
    simp only [hz, drop_end (Nat.le_of_not_lt h), ahAny_nil]
    simp
noncomputable def ahH (m : Nat) (bb : Bool) (l : List Con) : HintsT Tryz.prog := hh _ (lp1 80 2 (jobOf (ahT m bb l) (fun _ => []) [0] (ahO m l) ahS 0) noLp) noCs noOp
def vcahF (m : Nat) (bb : Bool) (l : List Con) : Prop :=
  (((bb = bb ∧ List.length l = List.length l ∧ contLe (List.length l) (2 : Nat) (cellsOf' encC l) (cellsOf' encC l)) ∧ (True ∧ (false = false ∧ (1 : Nat) ≤ (1 : Nat) ∧ cellLe (1 : Nat) (Ax.get [AV.y (Value.int IntKind.u64 (IntKind.wrap IntKind.u64 (↑m : Int)))]) (Ax.get [AV.y (Value.int IntKind.u64 (IntKind.wrap IntKind.u64 (↑m : Int)))])) ∧ True) ∧ (0 : Int) = (0 : Int) ∧ (↑(List.length l) : Int) = (↑(List.length l) : Int) ∧ (0 : Int) = (0 : Int) ∧ True) ∧ True ∧ true = true) ∧ LoopOk Tryz.prog (80 : Nat) (2 : Nat) (loopAt Tryz.prog (80 : Nat) (2 : Nat)) { t := ahT m bb l (0 : Nat), m := [], mv := [] : St } (T.map (lout [(0 : Nat)] ahS) (ahO m l (0 : Nat))) ∧ (ahAny m (List.drop (0 : Nat) l) = true → true = ahAny m l ∧ True) ∧ (ahAny m (List.drop (0 : Nat) l) = false → false = ahAny m l ∧ True)
set_option maxRecDepth 1000000 in
theorem vcahF_eq (m : Nat) (bb : Bool) (l : List Con) : (ctrVC Tryz.prog (ahH m bb l) 47 [.ys bb 2 l.length (cellsOf' encC l), ahFn m] [] (boolR (ahAny m l))) = vcahF m bb l := by kernel_rfl
theorem ah_has (m : Nat) (bb : Bool) (l : List Con) (hl : l.length ≤ 9223372036854775806) (hn : ∀ k, k < l.length → (m ≤ 9223372036854775806)) : (boolR (ahAny m l)).Sat (ACall' Tryz.prog 47 [.ys bb 2 l.length (cellsOf' encC l), ahFn m] []) := by
  refine ctr_vc (ht := ahH m bb l) Tryz.mixed rfl ?_
  rw [vcahF_eq m bb l]
  unfold vcahF
  have := ah_loop m bb l hl hn 0
  simp [this]
noncomputable def ahHas (m : Nat) (bb : Bool) (l : List Con) : Ctr Tryz.prog := ⟨47, [.ys bb 2 l.length (cellsOf' encC l), ahFn m], [], .need (l.length ≤ 9223372036854775806 ∧ ∀ k, k < l.length → (m ≤ 9223372036854775806)) (boolR (ahAny m l)), T.Sat.need fun h => ah_has m bb l h.1 h.2⟩
end Go.Proofs.YtckklclehofddaaGreatDoor
