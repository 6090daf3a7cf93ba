import Derived.Test.YtjdnbdgekkdlgaaQd
/-! Producers: slices.BinarySearchFunc at their type; put. -/
namespace Go.Proofs.Ytjdnbdgekkdlgaa
open Go.Ax
set_option maxRecDepth 1000000
/-- numbers rise -/
def rising (l : List Producer) : Prop := ∀ i j, i < j → j < l.length → (l.getD i default).id < (l.getD j default).id
def below (l : List Producer) (id : Int) : Nat := (l.takeWhile (fun y => decide (y.id < id))).length
theorem below_eq {l : List Producer} {id : Int} {i : Nat} (h : i ≤ l.length) (lo : ∀ k, k < i → (l.getD k default).id < id) (hi : ∀ k, i ≤ k → k < l.length → id ≤ (l.getD k default).id) : below l id = i := by
  unfold below
  have e : l = l.take i ++ l.drop i := (List.take_append_drop i l).symm
  have h1 : ∀ a ∈ l.take i, decide (a.id < id) = true := by
    intro a ha
    obtain ⟨k, hk, rfl⟩ := List.mem_iff_getElem.1 ha
    simp only [List.length_take] at hk
    have := lo k (by omega)
    have hkl : k < l.length := by omega
    simp [hkl] at this
    simpa using this
  have h2 : (l.drop i).takeWhile (fun y => decide (y.id < id)) = [] := by
    cases hd : l.drop i with
    | nil => rfl
    | cons y r =>
      have hil : i < l.length := by
        have := congrArg List.length hd
        simp at this; omega
      have := hi i (Nat.le_refl _) hil
      rw [List.drop_eq_getElem_cons hil] at hd
      cases hd
      simp [hil] at this
      rw [List.takeWhile_cons_of_neg]
      simpa using this
  rw [e, List.takeWhile_append_of_pos h1, h2, List.append_nil, List.length_take]
  omega
theorem rising_le {l : List Producer} (h : rising l) {i j : Nat} (hij : i ≤ j) (hj : j < l.length) : (l.getD i default).id ≤ (l.getD j default).id := by
  rcases Nat.lt_or_ge i j with h1 | h1
  · exact Int.le_of_lt (h i j h1 hj)
  · obtain rfl : i = j := by omega
    exact Int.le_refl _
structure BS (l : List Producer) (x : Producer) where
  i : Nat
  j : Nat
  ij : i ≤ j
  jl : j ≤ l.length
  lo : ∀ k, k < i → (l.getD k default).id < x.id
  hi : ∀ k, j ≤ k → k < l.length → x.id ≤ (l.getD k default).id
def BS.up {l : List Producer} {x : Producer} (hr : rising l) (q : BS l x) (m : Nat) (h2 : m < q.j) (hx : (l.getD m default).id < x.id) : BS l x where
  i := m + 1
  j := q.j
  ij := by omega
  jl := q.jl
  lo := fun k hk => by
    have := q.jl
    have := rising_le hr (i := k) (j := m) (by omega) (by omega)
    omega
  hi := q.hi
def BS.down {l : List Producer} {x : Producer} (hr : rising l) (q : BS l x) (m : Nat) (h1 : q.i ≤ m) (h2 : m < q.j) (hx : x.id ≤ (l.getD m default).id) : BS l x where
  i := q.i
  j := m
  ij := h1
  jl := by have := q.jl; omega
  lo := q.lo
  hi := fun k hk hl => by
    have := rising_le hr (i := m) (j := k) hk hl
    omega
def bsT (b : Bool) (l : List Producer) (x : Producer) (q : BS l x) : List AV := mkT 49 [(0, encPs b l), (2, .fn (.func 38) [] []), (4, .ptr 0 0 0 0), (6, .s (.int .i64 0)), (7, .s (.bool false)), (8, .y (.int .i64 l.length)), (9, .y (.int .i64 q.i)), (10, .y (.int .i64 q.j))]
def bsM (x : Producer) : List Blk := [.box 39 (encP x)]
def bsS (b : Bool) (l : List Producer) (x : Producer) (_ : Unit) : Exit × List AV × List Blk := (.exit 0, mkT 49 [(0, encPs b l), (2, .fn (.func 38) [] []), (4, .ptr 0 0 0 0), (8, .y (.int .i64 l.length)), (9, .y (.int .i64 (below l x.id)))], bsM x)
def vcBsL (b : Bool) (l : List Producer) (x : Producer) (q : BS l x) : Prop :=
  (decide ((↑q.i : Int) < (↑q.j : Int)) = true → (decide ((0 : Int) ≤ IntKind.wrap IntKind.i64 (IntKind.wrap IntKind.u64 (IntKind.wrap IntKind.i64 ((↑q.i : Int) + (↑q.j : Int))) / (2 : Int))) && decide (IntKind.wrap IntKind.i64 (IntKind.wrap IntKind.u64 (IntKind.wrap IntKind.i64 ((↑q.i : Int) + (↑q.j : Int))) / (2 : Int)) < (↑(List.length l) : Int))) = true ∧ (((List.getD l (Int.toNat (IntKind.wrap IntKind.i64 (IntKind.wrap IntKind.u64 (IntKind.wrap IntKind.i64 ((↑q.i : Int) + (↑q.j : Int))) / (2 : Int)))) (@default Producer instInhabitedProducer)).id != (List.getD l (Int.toNat (IntKind.wrap IntKind.i64 (IntKind.wrap IntKind.u64 (IntKind.wrap IntKind.i64 ((↑q.i : Int) + (↑q.j : Int))) / (2 : Int)))) (@default Producer instInhabitedProducer)).id) = true → ((x.id != x.id) = true → ∃ (j : BS l x), j.j - j.i < q.j - q.i ∧ (((b = b ∧ List.length l = List.length l ∧ contLe (List.length l) (4 : Nat) (cellsOf' encP l) (cellsOf' encP l)) ∧ (True ∧ True) ∧ ((0 : Nat) = (0 : Nat) ∧ (0 : Nat) = (0 : Nat)) ∧ (0 : Int) = (0 : Int) ∧ false = false ∧ (↑(List.length l) : Int) = (↑(List.length l) : Int) ∧ (↑q.i : Int) = (↑j.i : Int) ∧ IntKind.wrap IntKind.i64 (IntKind.wrap IntKind.u64 (IntKind.wrap IntKind.i64 ((↑q.i : Int) + (↑q.j : Int))) / (2 : Int)) = (↑j.j : Int) ∧ True) ∧ ((x.id = x.id ∧ x.seq = x.seq ∧ x.here = x.here ∧ x.offset = x.offset ∧ True) ∧ True) ∧ true = true) ∧ true = true ∧ () = ()) ∧ ((x.id != x.id) = false → ∃ (j : BS l x), j.j - j.i < q.j - q.i ∧ (((b = b ∧ List.length l = List.length l ∧ contLe (List.length l) (4 : Nat) (cellsOf' encP l) (cellsOf' encP l)) ∧ (True ∧ True) ∧ ((0 : Nat) = (0 : Nat) ∧ (0 : Nat) = (0 : Nat)) ∧ (0 : Int) = (0 : Int) ∧ false = false ∧ (↑(List.length l) : Int) = (↑(List.length l) : Int) ∧ IntKind.wrap IntKind.i64 (IntKind.wrap IntKind.i64 (IntKind.wrap IntKind.u64 (IntKind.wrap IntKind.i64 ((↑q.i : Int) + (↑q.j : Int))) / (2 : Int)) + (1 : Int)) = (↑j.i : Int) ∧ (↑q.j : Int) = (↑j.j : Int) ∧ True) ∧ ((x.id = x.id ∧ x.seq = x.seq ∧ x.here = x.here ∧ x.offset = x.offset ∧ True) ∧ True) ∧ true = true) ∧ true = true ∧ () = ())) ∧ (((List.getD l (Int.toNat (IntKind.wrap IntKind.i64 (IntKind.wrap IntKind.u64 (IntKind.wrap IntKind.i64 ((↑q.i : Int) + (↑q.j : Int))) / (2 : Int)))) (@default Producer instInhabitedProducer)).id != (List.getD l (Int.toNat (IntKind.wrap IntKind.i64 (IntKind.wrap IntKind.u64 (IntKind.wrap IntKind.i64 ((↑q.i : Int) + (↑q.j : Int))) / (2 : Int)))) (@default Producer instInhabitedProducer)).id) = false → ((x.id != x.id) = true → ∃ (j : BS l x), j.j - j.i < q.j - q.i ∧ (((b = b ∧ List.length l = List.length l ∧ contLe (List.length l) (4 : Nat) (cellsOf' encP l) (cellsOf' encP l)) ∧ (True ∧ True) ∧ ((0 : Nat) = (0 : Nat) ∧ (0 : Nat) = (0 : Nat)) ∧ (0 : Int) = (0 : Int) ∧ false = false ∧ (↑(List.length l) : Int) = (↑(List.length l) : Int) ∧ (↑q.i : Int) = (↑j.i : Int) ∧ IntKind.wrap IntKind.i64 (IntKind.wrap IntKind.u64 (IntKind.wrap IntKind.i64 ((↑q.i : Int) + (↑q.j : Int))) / (2 : Int)) = (↑j.j : Int) ∧ True) ∧ ((x.id = x.id ∧ x.seq = x.seq ∧ x.here = x.here ∧ x.offset = x.offset ∧ True) ∧ True) ∧ true = true) ∧ true = true ∧ () = ()) ∧ ((x.id != x.id) = false → (decide ((List.getD l (Int.toNat (IntKind.wrap IntKind.i64 (IntKind.wrap IntKind.u64 (IntKind.wrap IntKind.i64 ((↑q.i : Int) + (↑q.j : Int))) / (2 : Int)))) (@default Producer instInhabitedProducer)).id < x.id) = true → ∃ (j : BS l x), j.j - j.i < q.j - q.i ∧ (((b = b ∧ List.length l = List.length l ∧ contLe (List.length l) (4 : Nat) (cellsOf' encP l) (cellsOf' encP l)) ∧ (True ∧ True) ∧ ((0 : Nat) = (0 : Nat) ∧ (0 : Nat) = (0 : Nat)) ∧ (0 : Int) = (0 : Int) ∧ false = false ∧ (↑(List.length l) : Int) = (↑(List.length l) : Int) ∧ IntKind.wrap IntKind.i64 (IntKind.wrap IntKind.i64 (IntKind.wrap IntKind.u64 (IntKind.wrap IntKind.i64 ((↑q.i : Int) + (↑q.j : Int))) / (2 : Int)) + (1 : Int)) = (↑j.i : Int) ∧ (↑q.j : Int) = (↑j.j : Int) ∧ True) ∧ ((x.id = x.id ∧ x.seq = x.seq ∧ x.here = x.here ∧ x.offset = x.offset ∧ True) ∧ True) ∧ true = true) ∧ true = true ∧ () = ()) ∧ (decide ((List.getD l (Int.toNat (IntKind.wrap IntKind.i64 (IntKind.wrap IntKind.u64 (IntKind.wrap IntKind.i64 ((↑q.i : Int) + (↑q.j : Int))) / (2 : Int)))) (@default Producer instInhabitedProducer)).id < x.id) = false → (decide (x.id < (List.getD l (Int.toNat (IntKind.wrap IntKind.i64 (IntKind.wrap IntKind.u64 (IntKind.wrap IntKind.i64 ((↑q.i : Int) + (↑q.j : Int))) / (2 : Int)))) (@default Producer instInhabitedProducer)).id) = true → ∃ (j : BS l x), j.j - j.i < q.j - q.i ∧ (((b = b ∧ List.length l = List.length l ∧ contLe (List.length l) (4 : Nat) (cellsOf' encP l) (cellsOf' encP l)) ∧ (True ∧ True) ∧ ((0 : Nat) = (0 : Nat) ∧ (0 : Nat) = (0 : Nat)) ∧ (0 : Int) = (0 : Int) ∧ false = false ∧ (↑(List.length l) : Int) = (↑(List.length l) : Int) ∧ (↑q.i : Int) = (↑j.i : Int) ∧ IntKind.wrap IntKind.i64 (IntKind.wrap IntKind.u64 (IntKind.wrap IntKind.i64 ((↑q.i : Int) + (↑q.j : Int))) / (2 : Int)) = (↑j.j : Int) ∧ True) ∧ ((x.id = x.id ∧ x.seq = x.seq ∧ x.here = x.here ∧ x.offset = x.offset ∧ True) ∧ True) ∧ true = true) ∧ true = true ∧ () = ()) ∧ (decide (x.id < (List.getD l (Int.toNat (IntKind.wrap IntKind.i64 (IntKind.wrap IntKind.u64 (IntKind.wrap IntKind.i64 ((↑q.i : Int) + (↑q.j : Int))) / (2 : Int)))) (@default Producer instInhabitedProducer)).id) = false → ∃ (j : BS l x), j.j - j.i < q.j - q.i ∧ (((b = b ∧ List.length l = List.length l ∧ contLe (List.length l) (4 : Nat) (cellsOf' encP l) (cellsOf' encP l)) ∧ (True ∧ True) ∧ ((0 : Nat) = (0 : Nat) ∧ (0 : Nat) = (0 : Nat)) ∧ (0 : Int) = (0 : Int) ∧ false = false ∧ (↑(List.length l) : Int) = (↑(List.length l) : Int) ∧ (↑q.i : Int) = (↑j.i : Int) ∧ IntKind.wrap IntKind.i64 (IntKind.wrap IntKind.u64 (IntKind.wrap IntKind.i64 ((↑q.i : Int) + (↑q.j : Int))) / (2 : Int)) = (↑j.j : Int) ∧ True) ∧ ((x.id = x.id ∧ x.seq = x.seq ∧ x.here = x.here ∧ x.offset = x.offset ∧ True) ∧ True) ∧ true = true) ∧ true = true ∧ () = ()))))) ∧ (decide ((↑q.i : Int) < (↑q.j : Int)) = false → ((b = b ∧ List.length l = List.length l ∧ contLe (List.length l) (4 : Nat) (cellsOf' encP l) (cellsOf' encP l)) ∧ (True ∧ True) ∧ ((0 : Nat) = (0 : Nat) ∧ (0 : Nat) = (0 : Nat)) ∧ (↑(List.length l) : Int) = (↑(List.length l) : Int) ∧ (↑q.i : Int) = (↑(below l x.id) : Int) ∧ True) ∧ ((x.id = x.id ∧ x.seq = x.seq ∧ x.here = x.here ∧ x.offset = x.offset ∧ True) ∧ True) ∧ true = true)
set_option maxRecDepth 1000000 in
theorem vcBsL_eq (b : Bool) (l : List Producer) (x : Producer) (q : BS l x) : (loopVC Try.prog (hT _) 37 3 (fun q : BS l x => q.j - q.i) (bsT b l x) (fun _ => bsM x) [1, 2, 3, 4] (fun _ => .ret ()) (bsS b l x) q) = vcBsL b l x q := by kernel_rfl
theorem bs_loop (b : Bool) (l : List Producer) (x : Producer) (hl : l.length ≤ 4611686018427387900) (hr : rising l) (q : BS l x) : LoopOk Try.prog 37 3 (loopAt Try.prog 37 3) ⟨bsT b l x q, bsM x, []⟩ (T.map (lout [1, 2, 3, 4] (bsS b l x)) (.ret ())) := by
  refine loop_vc (o := fun _ => .ret ()) Try.mixed (fun _ => rfl) (fun q => (vcBsL_eq b l x q).mpr ?_) q
  unfold vcBsL
  have h1 := q.ij
  have h2 := q.jl
  obtain ⟨m, hm⟩ : ∃ m, m = (q.i + q.j) / 2 := ⟨_, rfl⟩
  have hw : IntKind.i64.wrap (IntKind.u64.wrap (IntKind.i64.wrap (↑q.i + ↑q.j)) / 2) = (m : Int) := by
    rw [wrap_i64 (n := ↑q.i + ↑q.j) (by omega) (by omega), wrap_u64 (by omega) (by omega), wrap_i64 (by omega) (by omega)]; omega
  simp [hw]
  refine ⟨fun h => ⟨by omega, fun hx => ⟨q.up hr m (by omega) (by simpa using hx), ?_, ?_, rfl⟩, fun hx => ⟨fun _ => ⟨q.down hr m (by omega) (by omega) (by simpa using hx), ?_, rfl, rfl⟩, fun _ => ⟨q.down hr m (by omega) (by omega) (by simpa using hx), ?_, rfl, rfl⟩⟩⟩, fun h => ?_⟩
  · show q.j - (m + 1) < q.j - q.i; omega
  · show IntKind.i64.wrap (m + 1) = ((m + 1 : Nat) : Int)
    rw [wrap_i64 (by omega) (by omega)]; omega
  · show m - q.i < q.j - q.i; omega
  · show m - q.i < q.j - q.i; omega
  · have := below_eq (i := q.i) (by omega) q.lo fun k hk hl => q.hi k (by omega) hl
    omega
def BS.start (l : List Producer) (x : Producer) : BS l x := ⟨0, l.length, Nat.zero_le _, Nat.le_refl _, fun _ h => absurd h (Nat.not_lt_zero _), fun k h1 h2 => absurd h2 (by omega)⟩
noncomputable def bsH (b : Bool) (l : List Producer) (x : Producer) : HintsT Try.prog := hh _ (lp1 37 3 (jobOf (bsT b l x) (fun _ => bsM x) [1, 2, 3, 4] (fun _ => .ret ()) (bsS b l x) (BS.start l x)) noLp) noCs noOp
def bsF (l : List Producer) (x : Producer) : Bool := decide (below l x.id < l.length) && (l.getD (below l x.id) default).id == x.id
def bsR (l : List Producer) (x : Producer) : T An := .ret (.tup [.y (.int .i64 (below l x.id)), .y (.bool (bsF l x))], [], [])
def vcBs (b : Bool) (l : List Producer) (x : Producer) : Prop :=
  (((b = b ∧ List.length l = List.length l ∧ contLe (List.length l) (4 : Nat) (cellsOf' encP l) (cellsOf' encP l)) ∧ (True ∧ True) ∧ ((0 : Nat) = (0 : Nat) ∧ (0 : Nat) = (0 : Nat)) ∧ (0 : Int) = (0 : Int) ∧ false = false ∧ (↑(List.length l) : Int) = (↑(List.length l) : Int) ∧ (0 : Int) = (0 : Int) ∧ (↑(List.length l) : Int) = (↑(List.length l) : Int) ∧ True) ∧ ((x.id = x.id ∧ x.seq = x.seq ∧ x.here = x.here ∧ x.offset = x.offset ∧ True) ∧ True) ∧ true = true) ∧ LoopOk Try.prog (37 : Nat) (3 : Nat) (loopAt Try.prog (37 : Nat) (3 : Nat)) { t := bsT b l x (BS.start l x), m := bsM x, mv := [] } (T.map (lout [(1 : Nat), (2 : Nat), (3 : Nat), (4 : Nat)] (bsS b l x)) ((fun (x : BS l x) => T.ret ()) (BS.start l x))) ∧ (decide ((↑(below l x.id) : Int) < (↑(List.length l) : Int)) = true → (true && decide ((↑(below l x.id) : Int) < (↑(List.length l) : Int))) = true ∧ (((List.getD l (Int.toNat (↑(below l x.id) : Int)) (@default Producer instInhabitedProducer)).id != (List.getD l (Int.toNat (↑(below l x.id) : Int)) (@default Producer instInhabitedProducer)).id) = true → ((x.id != x.id) = true → ((↑(below l x.id) : Int) = (↑(below l x.id) : Int) ∧ true = bsF l x ∧ True) ∧ True) ∧ ((x.id != x.id) = false → ((↑(below l x.id) : Int) = (↑(below l x.id) : Int) ∧ false = bsF l x ∧ True) ∧ True)) ∧ (((List.getD l (Int.toNat (↑(below l x.id) : Int)) (@default Producer instInhabitedProducer)).id != (List.getD l (Int.toNat (↑(below l x.id) : Int)) (@default Producer instInhabitedProducer)).id) = false → ((x.id != x.id) = true → ((↑(below l x.id) : Int) = (↑(below l x.id) : Int) ∧ false = bsF l x ∧ True) ∧ True) ∧ ((x.id != x.id) = false → (decide ((List.getD l (Int.toNat (↑(below l x.id) : Int)) (@default Producer instInhabitedProducer)).id < x.id) = true → ((↑(below l x.id) : Int) = (↑(below l x.id) : Int) ∧ false = bsF l x ∧ True) ∧ True) ∧ (decide ((List.getD l (Int.toNat (↑(below l x.id) : Int)) (@default Producer instInhabitedProducer)).id < x.id) = false → (decide (x.id < (List.getD l (Int.toNat (↑(below l x.id) : Int)) (@default Producer instInhabitedProducer)).id) = true → ((↑(below l x.id) : Int) = (↑(below l x.id) : Int) ∧ false = bsF l x ∧ True) ∧ True) ∧ (decide (x.id < (List.getD l (Int.toNat (↑(below l x.id) : Int)) (@default Producer instInhabitedProducer)).id) = false → ((↑(below l x.id) : Int) = (↑(below l x.id) : Int) ∧ true = bsF l x ∧ True) ∧ True))))) ∧ (decide ((↑(below l x.id) : Int) < (↑(List.length l) : Int)) = false → ((↑(below l x.id) : Int) = (↑(below l x.id) : Int) ∧ false = bsF l x ∧ True) ∧ True)
set_option maxRecDepth 1000000 in
theorem vcBs_eq (b : Bool) (l : List Producer) (x : Producer) : (ctrVC Try.prog (bsH b l x) 37 [encPs b l, .agg (encP x), .fn (.func 38) [] []] [] (bsR l x)) = vcBs b l x := by kernel_rfl
theorem bs_c (b : Bool) (l : List Producer) (x : Producer) (hl : l.length ≤ 4611686018427387900) (hr : rising l) : (bsR l x).Sat (ACall' Try.prog 37 [encPs b l, .agg (encP x), .fn (.func 38) [] []] []) := by
  refine ctr_vc (ht := bsH b l x) Try.mixed rfl ?_
  rw [vcBs_eq b l x]
  unfold vcBs
  have := bs_loop b l x hl hr (BS.start l x)
  simp [bsF, this]
  grind
noncomputable def bsC (b : Bool) (l : List Producer) (x : Producer) (hl : l.length ≤ 4611686018427387900) (hr : rising l) : Ctr Try.prog := ⟨37, [encPs b l, .agg (encP x), .fn (.func 38) [] []], [], bsR l x, bs_c b l x hl hr⟩
/-! put -/
noncomputable def clnC (b : Bool) (l : List Producer) (hl : l.length * 32 ≤ 140737488355328) : Ctr Try.prog := ⟨35, [encPs b l], [], clnR l, clone_c b l hl⟩
noncomputable def delC (l : List Producer) (x : Producer) (hl : l.length ≤ 9223372036854775806) : Ctr Try.prog := ⟨34, [.own 1 4 0 l.length, .fn (.func 36) [] [.ptr 0 0 0 0]], delMs l x, delR l x, del_c l x hl⟩
theorem oth_rising {l : List Producer} (h : rising l) (x : Producer) : rising (oth l x) := by
  have key : ∀ r : List Producer, rising r ↔ r.Pairwise (fun a b => a.id < b.id) := by
    intro r
    rw [List.pairwise_iff_getElem]
    constructor
    · intro h i j hi hj hij
      have := h i j hij hj
      simpa [hi, hj] using this
    · intro h i j hij hj
      have := h i j (by omega) hj hij
      simpa [show i < r.length by omega, hj] using this
  rw [key] at h ⊢
  exact h.filter _
def putL (l : List Producer) (x : Producer) : List Producer := (oth l x).take (below (oth l x) x.id) ++ x :: (oth l x).drop (below (oth l x) x.id)
theorem putL_len (l : List Producer) (x : Producer) : (putL l x).length = (oth l x).length + 1 := by
  unfold putL
  have : below (oth l x) x.id ≤ (oth l x).length := (List.takeWhile_sublist _).length_le
  simp; omega
def rho : Go.Shelf.Ren := ⟨fun f => match f with | 22 => 40 | 29 => 43 | 30 => 44 | x => x, fun t => match t with | 24 => 24 | 9 => 39 | x => x, fun x => x⟩
theorem lay : InsLay Try.prog rho 4 32 ((Try.prog.info? 39).bind (·.zero) |>.getD undef) "slices.Insert[[]gazette/api.Producer,gazette/api.Producer]" where
  mixed := by kernel_rfl
  f22 := by kernel_rfl
  ov := fun w args => by
    rw [show rho.f 29 = 43 from rfl, run_callFunc_extern (P := Try.prog) (f := 43) (fn := Try.f43) Try.func43 (by kernel_rfl) (by kernel_rfl) (by kernel_rfl) (e := Extern.SlicesOverlaps.overlaps #[24, 24] #[4]) (by kernel_rfl)]
    rfl
  t0 := by kernel_rfl
  a0 := fun w => by kernel_rfl
  z0 := fun w => by kernel_rfl
  v0 := fun w => by kernel_rfl
  t3 := by kernel_rfl
  a3 := fun w => by kernel_rfl
  z3 := fun w => by kernel_rfl
  v3 := fun w => by kernel_rfl
  t4 := by kernel_rfl
  a4 := fun w => by kernel_rfl
  z4 := fun w => by kernel_rfl
  v4 := fun w => by kernel_rfl
  t24 := by kernel_rfl
  a24 := fun w => by kernel_rfl
  z24 := fun w => by kernel_rfl
  v24 := fun w => by kernel_rfl
  z9 := fun w => by kernel_rfl
  i9s := by kernel_rfl
  i9 := by kernel_rfl
  pos := by decide
  zc := by kernel_rfl
noncomputable def putH (b : Bool) (l : List Producer) (x : Producer) (hl : l.length * 32 ≤ 140737488355296) (hr : rising l) : HintsT Try.prog :=
  withIns (withSub (hh _ noLp (cs1 30 1 1 (clnC b l (by omega)) (cs1 30 1 3 (delC l x (by omega)) (cs1 30 2 2 (bsC false (oth l x) x (by have := List.length_filter_le (keep x) l; unfold oth; omega) (oth_rising hr x)) noCs))) noOp) [34, 40]) lay
def putR (l : List Producer) (x : Producer) : T An := .ret (.own 0 4 0 (putL l x).length, [.row 39 4 (putL l x).length none (cellsOf' encP (putL l x))], [])
def vcPut (b : Bool) (l : List Producer) (x : Producer) (hl : l.length * 32 ≤ 140737488355296) (hr : rising l) : Prop :=
  ((b = b ∧ List.length l = List.length l ∧ contLe (List.length l) (4 : Nat) (cellsOf' encP l) (cellsOf' encP l)) ∧ True) ∧ True ∧ (((0 : Nat) = (0 : Nat) ∧ List.length l = List.length l) ∧ (True ∧ ((0 : Nat) = (0 : Nat) ∧ (0 : Nat) = (0 : Nat)) ∧ True) ∧ True) ∧ ((x.id = x.id ∧ x.seq = x.seq ∧ x.here = x.here ∧ x.offset = x.offset ∧ True) ∧ (List.length l = List.length l ∧ contLe (List.length l) (4 : Nat) (cellsOf' encP l) (cellsOf' encP l)) ∧ True) ∧ ((false = false ∧ List.length (oth l x) = List.length (oth l x) ∧ contLe (List.length (oth l x)) (4 : Nat) (Ax.rowAt (0 : Nat) (cellsOf' encP (oth l x))) (cellsOf' encP (oth l x))) ∧ (x.id = x.id ∧ x.seq = x.seq ∧ x.here = x.here ∧ x.offset = x.offset ∧ True) ∧ (True ∧ True) ∧ True) ∧ True ∧ true = true ∧ True ∧ (List.length (oth l x) = List.length (oth l x) ∧ (0 : Int) ≤ (↑(below (oth l x) x.id) : Int) ∧ (↑(below (oth l x) x.id) : Int) ≤ (↑(List.length (oth l x)) : Int) ∧ List.length (oth l x) + (1 : Nat) ≤ (9223372036854775807 : Nat) ∧ (List.length (oth l x) + (1 : Nat)) * (32 : Nat) ≤ (140737488355328 : Nat)) ∧ ((0 : Nat) = (0 : Nat) ∧ List.length (oth l x) + (1 : Nat) = List.length (putL l x)) ∧ (List.length (oth l x) + (1 : Nat) = List.length (putL l x) ∧ contLe (List.length (oth l x) + (1 : Nat)) (4 : Nat) (insRow (Int.toNat (↑(below (oth l x) x.id) : Int)) (1 : Nat) (cellsOf' encP (oth l x)) fun (k j : Nat) => Ax.get [AV.y (Value.int IntKind.u64 x.id), AV.y (Value.int IntKind.u64 x.seq), AV.y (Value.bool x.here), AV.y (Value.int IntKind.u64 x.offset)] (k * (4 : Nat) + j)) (cellsOf' encP (putL l x))) ∧ True
set_option maxRecDepth 1000000 in
theorem vcPut_eq (b : Bool) (l : List Producer) (x : Producer) (hl : l.length * 32 ≤ 140737488355296) (hr : rising l) : (ctrVC Try.prog (putH b l x hl hr) 30 [encPs b l, .agg (encP x)] [] (putR l x)) = vcPut b l x hl hr := by kernel_rfl
theorem put_c (b : Bool) (l : List Producer) (x : Producer) (hl : l.length * 32 ≤ 140737488355296) (hr : rising l) : (putR l x).Sat (ACall' Try.prog 30 [encPs b l, .agg (encP x)] []) := by
  refine ctr_vc (ht := putH b l x hl hr) Try.mixed rfl ?_
  rw [vcPut_eq b l x hl hr]
  unfold vcPut
  have h1 : (oth l x).length ≤ l.length := List.length_filter_le _ _
  have h2 : below (oth l x) x.id ≤ (oth l x).length := (List.takeWhile_sublist _).length_le
  simp [encP, putL_len]
  refine ⟨⟨h2, by omega, by omega⟩, ins_le rfl h2 fun j hj => ?_⟩
  match j, hj with
  | 0, _ => simp [encP]
  | 1, _ => simp [encP]
  | 2, _ => simp [encP]
  | 3, _ => simp [encP]
noncomputable def putC (b : Bool) (l : List Producer) (x : Producer) (hl : l.length * 32 ≤ 140737488355296) (hr : rising l) : Ctr Try.prog := ⟨30, [encPs b l, .agg (encP x)], [], putR l x, put_c b l x hl hr⟩
end Go.Proofs.Ytjdnbdgekkdlgaa
