import Derived.Test.YtjdnbdgekkdlgaaQf
/-! Producers: the document's put, Accept, Pass; alike. -/
namespace Go.Proofs.Ytjdnbdgekkdlgaa
open Go.Ax
set_option maxRecDepth 1000000
/-! alike -/
def eqP (x y : Producer) : Bool := x.id == y.id && (x.seq == y.seq && (x.here == y.here && (x.offset == y.offset && true)))
theorem eqP_iff {x y : Producer} : eqP x y = true ↔ x = y := by
  cases x; cases y
  simp [eqP]
def sameFrom (a b : List Producer) (k : Nat) : Bool := (List.range' k (a.length - k)).all fun j => eqP (a.getD j default) (b.getD j default)
def sameP (a b : List Producer) : Bool := a.length == b.length && sameFrom a b 0
theorem sameFrom_end {a b : List Producer} {k : Nat} (h : a.length ≤ k) : sameFrom a b k = true := by
  unfold sameFrom
  rw [show a.length - k = 0 by omega]; rfl
theorem sameFrom_step {a b : List Producer} {k : Nat} (h : k < a.length) : sameFrom a b k = (eqP (a.getD k default) (b.getD k default) && sameFrom a b (k + 1)) := by
  unfold sameFrom
  rw [show a.length - k = (a.length - (k + 1)) + 1 by omega, List.range'_succ]; rfl
theorem sameP_iff {a b : List Producer} : sameP a b = true ↔ a = b := by
  unfold sameP sameFrom
  rw [Bool.and_eq_true, beq_iff_eq, List.all_eq_true]
  constructor
  · rintro ⟨h1, h2⟩
    refine List.ext_getElem h1 fun k h3 h4 => ?_
    have := eqP_iff.1 (h2 k (by simp; omega))
    simpa [h3, h4] using this
  · rintro rfl
    exact ⟨rfl, fun k _ => eqP_iff.2 rfl⟩
def smT (b1 b2 : Bool) (a b : List Producer) (k : Nat) : List AV := mkT 26 [(0, encPs b1 a), (1, encPs b2 b), (4, .s (.bool false)), (5, .y (.int .i64 k))]
def smS (r : Bool) : Exit × List AV × List Blk := match r with
  | true => (.exit 0, mkT 26 [], [])
  | false => (.ret, mkT 26 [(4, .s (.bool false))], [])
def smO (a b : List Producer) (k : Nat) : T Bool := .ite (sameFrom a b k) (.ret true) (.ret false)
def vcSameL (b1 : Bool) (b2 : Bool) (a : List Producer) (b : List Producer) (k : Nat) : Prop :=
  (decide ((↑k : Int) < (↑(List.length a) : Int)) = true → (true && decide ((↑k : Int) < (↑(List.length a) : Int))) = true ∧ (true && decide ((↑k : Int) < (↑(List.length b) : Int))) = true ∧ ((!((List.getD a (Int.toNat (↑k : Int)) (@default Producer instInhabitedProducer)).id == (List.getD b (Int.toNat (↑k : Int)) (@default Producer instInhabitedProducer)).id && ((List.getD a (Int.toNat (↑k : Int)) (@default Producer instInhabitedProducer)).seq == (List.getD b (Int.toNat (↑k : Int)) (@default Producer instInhabitedProducer)).seq && ((List.getD a (Int.toNat (↑k : Int)) (@default Producer instInhabitedProducer)).here == (List.getD b (Int.toNat (↑k : Int)) (@default Producer instInhabitedProducer)).here && ((List.getD a (Int.toNat (↑k : Int)) (@default Producer instInhabitedProducer)).offset == (List.getD b (Int.toNat (↑k : Int)) (@default Producer instInhabitedProducer)).offset && true))))) = true → (sameFrom a b k = true → False) ∧ (sameFrom a b k = false → (false = false ∧ True) ∧ True ∧ true = true)) ∧ ((!((List.getD a (Int.toNat (↑k : Int)) (@default Producer instInhabitedProducer)).id == (List.getD b (Int.toNat (↑k : Int)) (@default Producer instInhabitedProducer)).id && ((List.getD a (Int.toNat (↑k : Int)) (@default Producer instInhabitedProducer)).seq == (List.getD b (Int.toNat (↑k : Int)) (@default Producer instInhabitedProducer)).seq && ((List.getD a (Int.toNat (↑k : Int)) (@default Producer instInhabitedProducer)).here == (List.getD b (Int.toNat (↑k : Int)) (@default Producer instInhabitedProducer)).here && ((List.getD a (Int.toNat (↑k : Int)) (@default Producer instInhabitedProducer)).offset == (List.getD b (Int.toNat (↑k : Int)) (@default Producer instInhabitedProducer)).offset && true))))) = false → ∃ (j : Nat), List.length a - j < List.length a - k ∧ (((b1 = b1 ∧ List.length a = List.length a ∧ contLe (List.length a) (4 : Nat) (cellsOf' encP a) (cellsOf' encP a)) ∧ (b2 = b2 ∧ List.length b = List.length b ∧ contLe (List.length b) (4 : Nat) (cellsOf' encP b) (cellsOf' encP b)) ∧ false = false ∧ IntKind.wrap IntKind.i64 ((↑k : Int) + (1 : Int)) = (↑j : Int) ∧ True) ∧ True ∧ true = true) ∧ true = true ∧ (sameFrom a b j = true → (sameFrom a b k = true → true = true) ∧ (sameFrom a b k = false → true = false)) ∧ (sameFrom a b j = false → (sameFrom a b k = true → false = true) ∧ (sameFrom a b k = false → false = false)))) ∧ (decide ((↑k : Int) < (↑(List.length a) : Int)) = false → (sameFrom a b k = true → True ∧ True ∧ true = true) ∧ (sameFrom a b k = false → False))
set_option maxRecDepth 1000000 in
theorem vcSameL_eq (b1 : Bool) (b2 : Bool) (a : List Producer) (b : List Producer) (k : Nat) : (loopVC Try.prog (hT _) 13 4 (fun k => a.length - k) (smT b1 b2 a b) (fun _ => []) [] (smO a b) smS k) = vcSameL b1 b2 a b k := by kernel_rfl
theorem same_loop (b1 b2 : Bool) (a b : List Producer) (hl : a.length ≤ 9223372036854775806) (he : a.length = b.length) (k : Nat) : LoopOk Try.prog 13 4 (loopAt Try.prog 13 4) ⟨smT b1 b2 a b k, [], []⟩ ((smO a b k).map (lout [] smS)) := by
  refine loop_vc Try.mixed (fun _ => rfl) (fun k => (vcSameL_eq b1 b2 a b k).mpr ?_) k
  unfold vcSameL
  simp
  refine ⟨fun h => ?_, fun h => by simp [sameFrom_end h]⟩
  rw [sameFrom_step h]
  simp (disch := omega) only [wrap_i64]
  simp [eqP, cast_succ_eq]
  generalize a[k]?.getD default = x
  generalize b[k]?.getD default = y
  grind
def smR (a b : List Producer) : T An := .ret (.y (.bool (sameP a b)), [], [])
noncomputable def smH (b1 b2 : Bool) (a b : List Producer) : HintsT Try.prog := hh _ (lp1 13 4 (jobOf (smT b1 b2 a b) (fun _ => []) [] (smO a b) smS 0) noLp) noCs noOp
def vcSame (b1 : Bool) (b2 : Bool) (a : List Producer) (b : List Producer) : Prop :=
  (((↑(List.length a) : Int) != (↑(List.length b) : Int)) = true → false = sameP a b ∧ True) ∧ (((↑(List.length a) : Int) != (↑(List.length b) : Int)) = false → (((b1 = b1 ∧ List.length a = List.length a ∧ contLe (List.length a) (4 : Nat) (cellsOf' encP a) (cellsOf' encP a)) ∧ (b2 = b2 ∧ List.length b = List.length b ∧ contLe (List.length b) (4 : Nat) (cellsOf' encP b) (cellsOf' encP b)) ∧ false = false ∧ (0 : Int) = (0 : Int) ∧ True) ∧ True ∧ true = true) ∧ LoopOk Try.prog (13 : Nat) (4 : Nat) (loopAt Try.prog (13 : Nat) (4 : Nat)) { t := smT b1 b2 a b (0 : Nat), m := [], mv := [] } (T.map (lout [] smS) (smO a b (0 : Nat))) ∧ (sameFrom a b (0 : Nat) = true → true = sameP a b ∧ True) ∧ (sameFrom a b (0 : Nat) = false → false = sameP a b ∧ True))
set_option maxRecDepth 1000000 in
theorem vcSame_eq (b1 : Bool) (b2 : Bool) (a : List Producer) (b : List Producer) : (ctrVC Try.prog (smH b1 b2 a b) 13 [encPs b1 a, encPs b2 b] [] (smR a b)) = vcSame b1 b2 a b := by kernel_rfl
theorem same_c (b1 b2 : Bool) (a b : List Producer) (hl : a.length ≤ 9223372036854775806) : (smR a b).Sat (ACall' Try.prog 13 [encPs b1 a, encPs b2 b] []) := by
  refine ctr_vc (ht := smH b1 b2 a b) Try.mixed rfl ?_
  rw [vcSame_eq b1 b2 a b]
  unfold vcSame
  by_cases he : a.length = b.length
  · have := same_loop b1 b2 a b hl he 0
    simp [sameP, he, this]
  · have he' : ¬ ((a.length : Int) = b.length) := by omega
    simp [sameP, he, he']
noncomputable def sameC' (b1 b2 : Bool) (a b : List Producer) (hl : a.length ≤ 9223372036854775806) : Ctr Try.prog := ⟨13, [encPs b1 a, encPs b2 b], [], smR a b, same_c b1 b2 a b hl⟩
/-! the document's put -/
def stp (x : Producer) (s : Bool × List Producer) (y : Producer) : Bool × List Producer :=
  let s1 := if (decide (x.id ≤ y.id) && !s.1) = true then (true, s.2 ++ [x]) else s
  if y.id = x.id then s1 else (s1.1, s1.2 ++ [y])
def rst (l : List Producer) (x : Producer) (k : Nat) : Bool × List Producer := (l.take k).foldl (stp x) (false, [])
theorem rst_step {l : List Producer} {x : Producer} {k : Nat} (h : k < l.length) : rst l x (k + 1) = stp x (rst l x k) (l[k]?.getD default) := by
  unfold rst
  rw [take_snoc l k h, List.foldl_append]; rfl
theorem rst_end {l : List Producer} {x : Producer} {k : Nat} (h : l.length ≤ k) : rst l x k = rst l x l.length := by
  unfold rst
  rw [List.take_of_length_le h, List.take_length]
theorem rst_len (l : List Producer) (x : Producer) : ∀ k, (rst l x k).2.length ≤ k + (if (rst l x k).1 then 1 else 0) := by
  intro k
  induction k with
  | zero => simp [rst]
  | succ k ih =>
    rcases Nat.lt_or_ge k l.length with h | h
    · rw [rst_step h]
      rcases hs : rst l x k with ⟨d, o⟩
      rw [hs] at ih
      generalize l[k]?.getD default = y
      by_cases h1 : x.id ≤ y.id <;> cases d <;> by_cases h2 : y.id = x.id <;> simp [stp, h1, h2] at ih ⊢ <;> omega
    · rw [rst_end (k := k + 1) (by omega), ← rst_end h]
      omega
def rput (l : List Producer) (x : Producer) : List Producer := if (rst l x l.length).1 then (rst l x l.length).2 else (rst l x l.length).2 ++ [x]
def rpT (b : Bool) (l : List Producer) (x : Producer) (k : Nat) : List AV := mkT 52 [(0, encPs b l), (3, .ptr 0 0 0 0), (5, .own 1 4 0 (rst l x k).2.length), (6, .y (.bool (rst l x k).1)), (7, .y (.int .i64 k))]
def rpM (l : List Producer) (x : Producer) (k : Nat) : List Blk := [.box 39 (encP x), .row 39 4 (rst l x k).2.length none (cellsOf' encP (rst l x k).2)]
def rpS (l : List Producer) (x : Producer) (_ : Unit) : Exit × List AV × List Blk := (.exit 0, mkT 52 [(3, .ptr 0 0 0 0), (5, .own 1 4 0 (rst l x l.length).2.length), (6, .y (.bool (rst l x l.length).1))], rpM l x l.length)
def vcRpL (b : Bool) (l : List Producer) (x : Producer) (k : Nat) : Prop :=
  (decide ((↑k : Int) < (↑(List.length l) : Int)) = true → (true && decide ((↑k : Int) < (↑(List.length l) : Int))) = true ∧ (decide (x.id ≤ (List.getD l (Int.toNat (↑k : Int)) (@default Producer instInhabitedProducer)).id) = true → ((!(rst l x k).fst) = true → (decide (List.length (rst l x k).snd = List.length (rst l x k).snd) && decide (List.length (rst l x k).snd + (1 : Nat) ≤ (9223372036854775807 : Nat)) && decide ((List.length (rst l x k).snd + (1 : Nat)) * (32 : Nat) ≤ (140737488355328 : Nat))) = true ∧ (true && decide ((↑k : Int) < (↑(List.length l) : Int))) = true ∧ (((List.getD l (Int.toNat (↑k : Int)) (@default Producer instInhabitedProducer)).id != x.id) = true → (true && decide ((↑k : Int) < (↑(List.length l) : Int))) = true ∧ (decide (List.length (rst l x k).snd + (1 : Nat) = List.length (rst l x k).snd + (1 : Nat)) && decide (List.length (rst l x k).snd + (1 : Nat) + (1 : Nat) ≤ (9223372036854775807 : Nat)) && decide ((List.length (rst l x k).snd + (1 : Nat) + (1 : Nat)) * (32 : Nat) ≤ (140737488355328 : Nat))) = true ∧ ∃ (j : Nat), List.length l - j < List.length l - k ∧ (((b = b ∧ List.length l = List.length l ∧ contLe (List.length l) (4 : Nat) (cellsOf' encP l) (cellsOf' encP l)) ∧ ((0 : Nat) = (0 : Nat) ∧ (0 : Nat) = (0 : Nat)) ∧ ((0 : Nat) = (0 : Nat) ∧ List.length (rst l x k).snd + (1 : Nat) + (1 : Nat) = List.length (rst l x j).snd) ∧ true = (rst l x j).fst ∧ IntKind.wrap IntKind.i64 ((↑k : Int) + (1 : Int)) = (↑j : Int) ∧ True) ∧ ((x.id = x.id ∧ x.seq = x.seq ∧ x.here = x.here ∧ x.offset = x.offset ∧ True) ∧ (List.length (rst l x k).snd + (1 : Nat) + (1 : Nat) = List.length (rst l x j).snd ∧ contLe (List.length (rst l x k).snd + (1 : Nat) + (1 : Nat)) (4 : Nat) (appRow (List.length (rst l x k).snd + (1 : Nat)) (appRow (List.length (rst l x k).snd) (cellsOf' encP (rst l x k).snd) fun (k j : Nat) => Ax.get [AV.y (Value.int IntKind.u64 x.id), AV.y (Value.int IntKind.u64 x.seq), AV.y (Value.bool x.here), AV.y (Value.int IntKind.u64 x.offset)] (k * (4 : Nat) + j)) fun (k_1 j : Nat) => Ax.get [AV.y (Value.int IntKind.u64 (List.getD l (Int.toNat (↑k : Int)) (@default Producer instInhabitedProducer)).id), AV.y (Value.int IntKind.u64 (List.getD l (Int.toNat (↑k : Int)) (@default Producer instInhabitedProducer)).seq), AV.y (Value.bool (List.getD l (Int.toNat (↑k : Int)) (@default Producer instInhabitedProducer)).here), AV.y (Value.int IntKind.u64 (List.getD l (Int.toNat (↑k : Int)) (@default Producer instInhabitedProducer)).offset)] (k_1 * (4 : Nat) + j)) (cellsOf' encP (rst l x j).snd)) ∧ True) ∧ true = true) ∧ true = true ∧ () = ()) ∧ (((List.getD l (Int.toNat (↑k : Int)) (@default Producer instInhabitedProducer)).id != x.id) = false → ∃ (j : Nat), List.length l - j < List.length l - k ∧ (((b = b ∧ List.length l = List.length l ∧ contLe (List.length l) (4 : Nat) (cellsOf' encP l) (cellsOf' encP l)) ∧ ((0 : Nat) = (0 : Nat) ∧ (0 : Nat) = (0 : Nat)) ∧ ((0 : Nat) = (0 : Nat) ∧ List.length (rst l x k).snd + (1 : Nat) = List.length (rst l x j).snd) ∧ true = (rst l x j).fst ∧ IntKind.wrap IntKind.i64 ((↑k : Int) + (1 : Int)) = (↑j : Int) ∧ True) ∧ ((x.id = x.id ∧ x.seq = x.seq ∧ x.here = x.here ∧ x.offset = x.offset ∧ True) ∧ (List.length (rst l x k).snd + (1 : Nat) = List.length (rst l x j).snd ∧ contLe (List.length (rst l x k).snd + (1 : Nat)) (4 : Nat) (appRow (List.length (rst l x k).snd) (cellsOf' encP (rst l x k).snd) fun (k j : Nat) => Ax.get [AV.y (Value.int IntKind.u64 x.id), AV.y (Value.int IntKind.u64 x.seq), AV.y (Value.bool x.here), AV.y (Value.int IntKind.u64 x.offset)] (k * (4 : Nat) + j)) (cellsOf' encP (rst l x j).snd)) ∧ True) ∧ true = true) ∧ true = true ∧ () = ())) ∧ ((!(rst l x k).fst) = false → (true && decide ((↑k : Int) < (↑(List.length l) : Int))) = true ∧ (((List.getD l (Int.toNat (↑k : Int)) (@default Producer instInhabitedProducer)).id != x.id) = true → (true && decide ((↑k : Int) < (↑(List.length l) : Int))) = true ∧ (decide (List.length (rst l x k).snd = List.length (rst l x k).snd) && decide (List.length (rst l x k).snd + (1 : Nat) ≤ (9223372036854775807 : Nat)) && decide ((List.length (rst l x k).snd + (1 : Nat)) * (32 : Nat) ≤ (140737488355328 : Nat))) = true ∧ ∃ (j : Nat), List.length l - j < List.length l - k ∧ (((b = b ∧ List.length l = List.length l ∧ contLe (List.length l) (4 : Nat) (cellsOf' encP l) (cellsOf' encP l)) ∧ ((0 : Nat) = (0 : Nat) ∧ (0 : Nat) = (0 : Nat)) ∧ ((0 : Nat) = (0 : Nat) ∧ List.length (rst l x k).snd + (1 : Nat) = List.length (rst l x j).snd) ∧ (rst l x k).fst = (rst l x j).fst ∧ IntKind.wrap IntKind.i64 ((↑k : Int) + (1 : Int)) = (↑j : Int) ∧ True) ∧ ((x.id = x.id ∧ x.seq = x.seq ∧ x.here = x.here ∧ x.offset = x.offset ∧ True) ∧ (List.length (rst l x k).snd + (1 : Nat) = List.length (rst l x j).snd ∧ contLe (List.length (rst l x k).snd + (1 : Nat)) (4 : Nat) (appRow (List.length (rst l x k).snd) (cellsOf' encP (rst l x k).snd) fun (k_1 j : Nat) => Ax.get [AV.y (Value.int IntKind.u64 (List.getD l (Int.toNat (↑k : Int)) (@default Producer instInhabitedProducer)).id), AV.y (Value.int IntKind.u64 (List.getD l (Int.toNat (↑k : Int)) (@default Producer instInhabitedProducer)).seq), AV.y (Value.bool (List.getD l (Int.toNat (↑k : Int)) (@default Producer instInhabitedProducer)).here), AV.y (Value.int IntKind.u64 (List.getD l (Int.toNat (↑k : Int)) (@default Producer instInhabitedProducer)).offset)] (k_1 * (4 : Nat) + j)) (cellsOf' encP (rst l x j).snd)) ∧ True) ∧ true = true) ∧ true = true ∧ () = ()) ∧ (((List.getD l (Int.toNat (↑k : Int)) (@default Producer instInhabitedProducer)).id != x.id) = false → ∃ (j : Nat), List.length l - j < List.length l - k ∧ (((b = b ∧ List.length l = List.length l ∧ contLe (List.length l) (4 : Nat) (cellsOf' encP l) (cellsOf' encP l)) ∧ ((0 : Nat) = (0 : Nat) ∧ (0 : Nat) = (0 : Nat)) ∧ ((0 : Nat) = (0 : Nat) ∧ List.length (rst l x k).snd = List.length (rst l x j).snd) ∧ (rst l x k).fst = (rst l x j).fst ∧ IntKind.wrap IntKind.i64 ((↑k : Int) + (1 : Int)) = (↑j : Int) ∧ True) ∧ ((x.id = x.id ∧ x.seq = x.seq ∧ x.here = x.here ∧ x.offset = x.offset ∧ True) ∧ (List.length (rst l x k).snd = List.length (rst l x j).snd ∧ contLe (List.length (rst l x k).snd) (4 : Nat) (cellsOf' encP (rst l x k).snd) (cellsOf' encP (rst l x j).snd)) ∧ True) ∧ true = true) ∧ true = true ∧ () = ()))) ∧ (decide (x.id ≤ (List.getD l (Int.toNat (↑k : Int)) (@default Producer instInhabitedProducer)).id) = false → (true && decide ((↑k : Int) < (↑(List.length l) : Int))) = true ∧ (((List.getD l (Int.toNat (↑k : Int)) (@default Producer instInhabitedProducer)).id != x.id) = true → (true && decide ((↑k : Int) < (↑(List.length l) : Int))) = true ∧ (decide (List.length (rst l x k).snd = List.length (rst l x k).snd) && decide (List.length (rst l x k).snd + (1 : Nat) ≤ (9223372036854775807 : Nat)) && decide ((List.length (rst l x k).snd + (1 : Nat)) * (32 : Nat) ≤ (140737488355328 : Nat))) = true ∧ ∃ (j : Nat), List.length l - j < List.length l - k ∧ (((b = b ∧ List.length l = List.length l ∧ contLe (List.length l) (4 : Nat) (cellsOf' encP l) (cellsOf' encP l)) ∧ ((0 : Nat) = (0 : Nat) ∧ (0 : Nat) = (0 : Nat)) ∧ ((0 : Nat) = (0 : Nat) ∧ List.length (rst l x k).snd + (1 : Nat) = List.length (rst l x j).snd) ∧ (rst l x k).fst = (rst l x j).fst ∧ IntKind.wrap IntKind.i64 ((↑k : Int) + (1 : Int)) = (↑j : Int) ∧ True) ∧ ((x.id = x.id ∧ x.seq = x.seq ∧ x.here = x.here ∧ x.offset = x.offset ∧ True) ∧ (List.length (rst l x k).snd + (1 : Nat) = List.length (rst l x j).snd ∧ contLe (List.length (rst l x k).snd + (1 : Nat)) (4 : Nat) (appRow (List.length (rst l x k).snd) (cellsOf' encP (rst l x k).snd) fun (k_1 j : Nat) => Ax.get [AV.y (Value.int IntKind.u64 (List.getD l (Int.toNat (↑k : Int)) (@default Producer instInhabitedProducer)).id), AV.y (Value.int IntKind.u64 (List.getD l (Int.toNat (↑k : Int)) (@default Producer instInhabitedProducer)).seq), AV.y (Value.bool (List.getD l (Int.toNat (↑k : Int)) (@default Producer instInhabitedProducer)).here), AV.y (Value.int IntKind.u64 (List.getD l (Int.toNat (↑k : Int)) (@default Producer instInhabitedProducer)).offset)] (k_1 * (4 : Nat) + j)) (cellsOf' encP (rst l x j).snd)) ∧ True) ∧ true = true) ∧ true = true ∧ () = ()) ∧ (((List.getD l (Int.toNat (↑k : Int)) (@default Producer instInhabitedProducer)).id != x.id) = false → ∃ (j : Nat), List.length l - j < List.length l - k ∧ (((b = b ∧ List.length l = List.length l ∧ contLe (List.length l) (4 : Nat) (cellsOf' encP l) (cellsOf' encP l)) ∧ ((0 : Nat) = (0 : Nat) ∧ (0 : Nat) = (0 : Nat)) ∧ ((0 : Nat) = (0 : Nat) ∧ List.length (rst l x k).snd = List.length (rst l x j).snd) ∧ (rst l x k).fst = (rst l x j).fst ∧ IntKind.wrap IntKind.i64 ((↑k : Int) + (1 : Int)) = (↑j : Int) ∧ True) ∧ ((x.id = x.id ∧ x.seq = x.seq ∧ x.here = x.here ∧ x.offset = x.offset ∧ True) ∧ (List.length (rst l x k).snd = List.length (rst l x j).snd ∧ contLe (List.length (rst l x k).snd) (4 : Nat) (cellsOf' encP (rst l x k).snd) (cellsOf' encP (rst l x j).snd)) ∧ True) ∧ true = true) ∧ true = true ∧ () = ()))) ∧ (decide ((↑k : Int) < (↑(List.length l) : Int)) = false → (((0 : Nat) = (0 : Nat) ∧ (0 : Nat) = (0 : Nat)) ∧ ((0 : Nat) = (0 : Nat) ∧ List.length (rst l x k).snd = List.length (rst l x (List.length l)).snd) ∧ (rst l x k).fst = (rst l x (List.length l)).fst ∧ True) ∧ ((x.id = x.id ∧ x.seq = x.seq ∧ x.here = x.here ∧ x.offset = x.offset ∧ True) ∧ (List.length (rst l x k).snd = List.length (rst l x (List.length l)).snd ∧ contLe (List.length (rst l x k).snd) (4 : Nat) (cellsOf' encP (rst l x k).snd) (cellsOf' encP (rst l x (List.length l)).snd)) ∧ True) ∧ true = true)
set_option maxRecDepth 1000000 in
theorem vcRpL_eq (b : Bool) (l : List Producer) (x : Producer) (k : Nat) : (loopVC Try.prog (hT _) 28 4 (fun k => l.length - k) (rpT b l x) (rpM l x) [1, 2, 3, 4, 5] (fun _ => .ret ()) (rpS l x) k) = vcRpL b l x k := by kernel_rfl
theorem rp_loop (b : Bool) (l : List Producer) (x : Producer) (hl : l.length * 32 ≤ 140737488355200) (k : Nat) (hk : k ≤ l.length) : LoopOk Try.prog 28 4 (loopAt Try.prog 28 4) ⟨rpT b l x k, rpM l x k, []⟩ (T.map (lout [1, 2, 3, 4, 5] (rpS l x)) (.ret ())) := by
  refine loop_vc (o := fun _ => .ret ()) Try.mixed (fun _ => rfl) (fun k => (vcRpL_eq b l x k).mpr ?_) k
  unfold vcRpL
  have hlen := rst_len l x k
  have hc : ∀ y : Producer, ∀ j, j < 4 → le0 (Ax.get [.y (.int .u64 y.id), .y (.int .u64 y.seq), .y (.bool y.here), .y (.int .u64 y.offset)] j) (Ax.get (encP y) j) := fun y j hj => by
    match j, hj with
    | 0, _ => simp [encP]
    | 1, _ => simp [encP]
    | 2, _ => simp [encP]
    | 3, _ => simp [encP]
  simp
  refine ⟨fun h => ?_, fun h => ?_⟩
  · have hst := rst_step (x := x) h
    have hw := wrap_i64 (n := (k : Int) + 1) (by omega) (by omega)
    rw [hw]
    rcases hs : rst l x k with ⟨d, o⟩
    rw [hs] at hlen hst
    generalize l[k]?.getD default = y at *
    by_cases h1 : x.id ≤ y.id <;> cases d <;> by_cases h2 : y.id = x.id <;> simp [stp, h1, h2] at hst <;> simp [h, h1, h2] <;> simp at hlen
    all_goals repeat' first | apply And.intro | refine Exists.intro (k + 1) ?_ | with_reducible intro _
    all_goals try rw [hst]
    all_goals first
      | omega
      | (simp; done)
      | exact contLe_refl _ _ _
      | exact app_le (contLe_refl _ _ _) rfl (hc _)
      | (show contLe _ _ _ (cellsOf' encP (o ++ [x, y])); rw [show o ++ [x, y] = o ++ [x] ++ [y] by simp]; exact app_le (app_le (contLe_refl _ _ _) rfl (hc _)) (by simp) (hc _))
  · rw [rst_end h]; simp
end Go.Proofs.Ytjdnbdgekkdlgaa
