import Derived.Test.YtnbhdjadlbhknaaGreatDoorE11
import Derived.Test.YtnbhdjadlbhknaaGreatDoorW2
set_option linter.unusedVariables false
set_option linter.unusedSimpArgs false
set_option linter.unusedSectionVars false
namespace Go.Proofs.YtnbhdjadlbhknaaGreatDoor.P
open Go.Ax
set_option maxRecDepth 1000000
def rising (l : List Producer) : Prop := ∀ i j, i < j → j < l.length → (l.getD i default).id < (l.getD j default).id
def below (l : List Producer) (id : Int) : Nat := (l.takeWhile (fun y => decide (y.id < id))).length
theorem below_eq {l : List Producer} {id : Int} {i : Nat} (h : i ≤ l.length) (lo : ∀ k, k < i → (l.getD k default).id < id) (hi : ∀ k, i ≤ k → k < l.length → id ≤ (l.getD k default).id) : below l id = i := by
  unfold below
  have e : l = l.take i ++ l.drop i := (List.take_append_drop i l).symm
  have h1 : ∀ a ∈ l.take i, decide (a.id < id) = true := by
    intro a ha
    obtain ⟨k, hk, rfl⟩ := List.mem_iff_getElem.1 ha
    simp only [List.length_take] at hk
    have := lo k (by omega)
    have hkl : k < l.length := by omega
    simp [hkl] at this
    simpa using this
  have h2 : (l.drop i).takeWhile (fun y => decide (y.id < id)) = [] := by
    cases hd : l.drop i with
    | nil => rfl
    | cons y r =>
      have hil : i < l.length := by
        have := congrArg List.length hd
        simp at this; omega
      have := hi i (Nat.le_refl _) hil
      rw [List.drop_eq_getElem_cons hil] at hd
      cases hd
      simp [hil] at this
      rw [List.takeWhile_cons_of_neg]
      simpa using this
  rw [e, List.takeWhile_append_of_pos h1, h2, List.append_nil, List.length_take]
  omega
theorem rising_le {l : List Producer} (h : rising l) {i j : Nat} (hij : i ≤ j) (hj : j < l.length) : (l.getD i default).id ≤ (l.getD j default).id := by
  rcases Nat.lt_or_ge i j with h1 | h1
  · exact Int.le_of_lt (h i j h1 hj)
  · obtain rfl : i = j := by omega
    exact Int.le_refl _
structure BS (l : List Producer) (x : Producer) where
  i : Nat
  j : Nat
  ij : i ≤ j
  jl : j ≤ l.length
  lo : ∀ k, k < i → (l.getD k default).id < x.id
  hi : ∀ k, j ≤ k → k < l.length → x.id ≤ (l.getD k default).id
def BS.up {l : List Producer} {x : Producer} (hr : rising l) (q : BS l x) (m : Nat) (h2 : m < q.j) (hx : (l.getD m default).id < x.id) : BS l x where
  i := m + 1
  j := q.j
  ij := by omega
  jl := q.jl
  lo := fun k hk => by
    have := q.jl
    have := rising_le hr (i := k) (j := m) (by omega) (by omega)
    omega
  hi := q.hi
def BS.down {l : List Producer} {x : Producer} (hr : rising l) (q : BS l x) (m : Nat) (h1 : q.i ≤ m) (h2 : m < q.j) (hx : x.id ≤ (l.getD m default).id) : BS l x where
  i := q.i
  j := m
  ij := h1
  jl := by have := q.jl; omega
  lo := q.lo
  hi := fun k hk hl => by
    have := rising_le hr (i := m) (j := k) hk hl
    omega
def bsT (b : Bool) (l : List Producer) (x : Producer) (q : BS l x) : List AV := mkT 49 [(0, encPs b l), (2, .fn (.func 175) [] []), (4, .ptr 0 0 0 0), (6, .s (.int .i64 0)), (7, .s (.bool false)), (8, .y (.int .i64 l.length)), (9, .y (.int .i64 q.i)), (10, .y (.int .i64 q.j))]
def bsM (x : Producer) : List Blk := [.box 80 (encP x)]
def bsS (b : Bool) (l : List Producer) (x : Producer) (_ : Unit) : Exit × List AV × List Blk := (.exit 0, mkT 49 [(0, encPs b l), (2, .fn (.func 175) [] []), (4, .ptr 0 0 0 0), (8, .y (.int .i64 l.length)), (9, .y (.int .i64 (below l x.id)))], bsM x)
def vcBsL_q2 (b : Bool) (l : List Producer) : Prop := (b = b ∧ List.length l = List.length l ∧ contLe (List.length l) (4 : Nat) (cellsOf' encP l) (cellsOf' encP l))
def vcBsL_q3 (x : Producer) : Prop := ((x.id = x.id ∧ x.seq = x.seq ∧ x.here = x.here ∧ x.offset = x.offset ∧ True) ∧ True)
def vcBsL_q1 (b : Bool) (l : List Producer) (x : Producer) (q : BS l x) : Prop := ((x.id != x.id) = true → ∃ (j : BS l x), j.j - j.i < q.j - q.i ∧ (((vcBsL_q2 b l) ∧ (True ∧ True) ∧ ((0 : Nat) = (0 : Nat) ∧ (0 : Nat) = (0 : Nat)) ∧ (0 : Int) = (0 : Int) ∧ false = false ∧ (↑(List.length l) : Int) = (↑(List.length l) : Int) ∧ (↑q.i : Int) = (↑j.i : Int) ∧ IntKind.wrap IntKind.i64 (IntKind.wrap IntKind.u64 (IntKind.wrap IntKind.i64 ((↑q.i : Int) + (↑q.j : Int))) / (2 : Int)) = (↑j.j : Int) ∧ True) ∧ (vcBsL_q3 x) ∧ true = true) ∧ true = true ∧ () = ())
def vcBsL (b : Bool) (l : List Producer) (x : Producer) (q : BS l x) : Prop :=
  (decide ((↑q.i : Int) < (↑q.j : Int)) = true → (decide ((0 : Int) ≤ IntKind.wrap IntKind.i64 (IntKind.wrap IntKind.u64 (IntKind.wrap IntKind.i64 ((↑q.i : Int) + (↑q.j : Int))) / (2 : Int))) && decide (IntKind.wrap IntKind.i64 (IntKind.wrap IntKind.u64 (IntKind.wrap IntKind.i64 ((↑q.i : Int) + (↑q.j : Int))) / (2 : Int)) < (↑(List.length l) : Int))) = true ∧ (((List.getD l (Int.toNat (IntKind.wrap IntKind.i64 (IntKind.wrap IntKind.u64 (IntKind.wrap IntKind.i64 ((↑q.i : Int) + (↑q.j : Int))) / (2 : Int)))) (@default Producer instInhabitedProducer)).id != (List.getD l (Int.toNat (IntKind.wrap IntKind.i64 (IntKind.wrap IntKind.u64 (IntKind.wrap IntKind.i64 ((↑q.i : Int) + (↑q.j : Int))) / (2 : Int)))) (@default Producer instInhabitedProducer)).id) = true → (vcBsL_q1 b l x q) ∧ ((x.id != x.id) = false → ∃ (j : BS l x), j.j - j.i < q.j - q.i ∧ (((vcBsL_q2 b l) ∧ (True ∧ True) ∧ ((0 : Nat) = (0 : Nat) ∧ (0 : Nat) = (0 : Nat)) ∧ (0 : Int) = (0 : Int) ∧ false = false ∧ (↑(List.length l) : Int) = (↑(List.length l) : Int) ∧ IntKind.wrap IntKind.i64 (IntKind.wrap IntKind.i64 (IntKind.wrap IntKind.u64 (IntKind.wrap IntKind.i64 ((↑q.i : Int) + (↑q.j : Int))) / (2 : Int)) + (1 : Int)) = (↑j.i : Int) ∧ (↑q.j : Int) = (↑j.j : Int) ∧ True) ∧ (vcBsL_q3 x) ∧ true = true) ∧ true = true ∧ () = ())) ∧ (((List.getD l (Int.toNat (IntKind.wrap IntKind.i64 (IntKind.wrap IntKind.u64 (IntKind.wrap IntKind.i64 ((↑q.i : Int) + (↑q.j : Int))) / (2 : Int)))) (@default Producer instInhabitedProducer)).id != (List.getD l (Int.toNat (IntKind.wrap IntKind.i64 (IntKind.wrap IntKind.u64 (IntKind.wrap IntKind.i64 ((↑q.i : Int) + (↑q.j : Int))) / (2 : Int)))) (@default Producer instInhabitedProducer)).id) = false → (vcBsL_q1 b l x q) ∧ ((x.id != x.id) = false → (decide ((List.getD l (Int.toNat (IntKind.wrap IntKind.i64 (IntKind.wrap IntKind.u64 (IntKind.wrap IntKind.i64 ((↑q.i : Int) + (↑q.j : Int))) / (2 : Int)))) (@default Producer instInhabitedProducer)).id < x.id) = true → ∃ (j : BS l x), j.j - j.i < q.j - q.i ∧ (((vcBsL_q2 b l) ∧ (True ∧ True) ∧ ((0 : Nat) = (0 : Nat) ∧ (0 : Nat) = (0 : Nat)) ∧ (0 : Int) = (0 : Int) ∧ false = false ∧ (↑(List.length l) : Int) = (↑(List.length l) : Int) ∧ IntKind.wrap IntKind.i64 (IntKind.wrap IntKind.i64 (IntKind.wrap IntKind.u64 (IntKind.wrap IntKind.i64 ((↑q.i : Int) + (↑q.j : Int))) / (2 : Int)) + (1 : Int)) = (↑j.i : Int) ∧ (↑q.j : Int) = (↑j.j : Int) ∧ True) ∧ (vcBsL_q3 x) ∧ true = true) ∧ true = true ∧ () = ()) ∧ (decide ((List.getD l (Int.toNat (IntKind.wrap IntKind.i64 (IntKind.wrap IntKind.u64 (IntKind.wrap IntKind.i64 ((↑q.i : Int) + (↑q.j : Int))) / (2 : Int)))) (@default Producer instInhabitedProducer)).id < x.id) = false → (decide (x.id < (List.getD l (Int.toNat (IntKind.wrap IntKind.i64 (IntKind.wrap IntKind.u64 (IntKind.wrap IntKind.i64 ((↑q.i : Int) + (↑q.j : Int))) / (2 : Int)))) (@default Producer instInhabitedProducer)).id) = true → ∃ (j : BS l x), j.j - j.i < q.j - q.i ∧ (((vcBsL_q2 b l) ∧ (True ∧ True) ∧ ((0 : Nat) = (0 : Nat) ∧ (0 : Nat) = (0 : Nat)) ∧ (0 : Int) = (0 : Int) ∧ false = false ∧ (↑(List.length l) : Int) = (↑(List.length l) : Int) ∧ (↑q.i : Int) = (↑j.i : Int) ∧ IntKind.wrap IntKind.i64 (IntKind.wrap IntKind.u64 (IntKind.wrap IntKind.i64 ((↑q.i : Int) + (↑q.j : Int))) / (2 : Int)) = (↑j.j : Int) ∧ True) ∧ (vcBsL_q3 x) ∧ true = true) ∧ true = true ∧ () = ()) ∧ (decide (x.id < (List.getD l (Int.toNat (IntKind.wrap IntKind.i64 (IntKind.wrap IntKind.u64 (IntKind.wrap IntKind.i64 ((↑q.i : Int) + (↑q.j : Int))) / (2 : Int)))) (@default Producer instInhabitedProducer)).id) = false → ∃ (j : BS l x), j.j - j.i < q.j - q.i ∧ (((vcBsL_q2 b l) ∧ (True ∧ True) ∧ ((0 : Nat) = (0 : Nat) ∧ (0 : Nat) = (0 : Nat)) ∧ (0 : Int) = (0 : Int) ∧ false = false ∧ (↑(List.length l) : Int) = (↑(List.length l) : Int) ∧ (↑q.i : Int) = (↑j.i : Int) ∧ IntKind.wrap IntKind.i64 (IntKind.wrap IntKind.u64 (IntKind.wrap IntKind.i64 ((↑q.i : Int) + (↑q.j : Int))) / (2 : Int)) = (↑j.j : Int) ∧ True) ∧ (vcBsL_q3 x) ∧ true = true) ∧ true = true ∧ () = ()))))) ∧ (decide ((↑q.i : Int) < (↑q.j : Int)) = false → ((vcBsL_q2 b l) ∧ (True ∧ True) ∧ ((0 : Nat) = (0 : Nat) ∧ (0 : Nat) = (0 : Nat)) ∧ (↑(List.length l) : Int) = (↑(List.length l) : Int) ∧ (↑q.i : Int) = (↑(below l x.id) : Int) ∧ True) ∧ (vcBsL_q3 x) ∧ true = true)
theorem vcBsL_eq (b : Bool) (l : List Producer) (x : Producer) (q : BS l x) : (loopVC Tryz.prog (hT _) 174 3 (fun q : BS l x => q.j - q.i) (bsT b l x) (fun _ => bsM x) [1, 2, 3, 4] (fun _ => .ret ()) (bsS b l x) q) = vcBsL b l x q := by kernel_rfl
theorem bs_loop (b : Bool) (l : List Producer) (x : Producer) (hl : l.length ≤ 4611686018427387900) (hr : rising l) (q : BS l x) : LoopOk Tryz.prog 174 3 (loopAt Tryz.prog 174 3) ⟨bsT b l x q, bsM x, []⟩ (T.map (lout [1, 2, 3, 4] (bsS b l x)) (.ret ())) := by
  refine loop_vc (o := fun _ => .ret ()) Tryz.mixed (fun _ => rfl) (fun q => (vcBsL_eq b l x q).mpr ?_) q
  unfold vcBsL vcBsL_q1 vcBsL_q3 vcBsL_q2
  have h1 := q.ij
  have h2 := q.jl
  obtain ⟨m, hm⟩ : ∃ m, m = (q.i + q.j) / 2 := ⟨_, rfl⟩
  have hw : IntKind.i64.wrap (IntKind.u64.wrap (IntKind.i64.wrap (↑q.i + ↑q.j)) / 2) = (m : Int) := by
    rw [wrap_i64 (n := ↑q.i + ↑q.j) (by omega) (by omega), wrap_u64 (by omega) (by omega), wrap_i64 (by omega) (by omega)]; omega
  simp [hw]
  refine ⟨fun h => ⟨by omega, fun hx => ⟨q.up hr m (by omega) (by simpa using hx), ?_, ?_, rfl⟩, fun hx => ⟨fun _ => ⟨q.down hr m (by omega) (by omega) (by simpa using hx), ?_, rfl, rfl⟩, fun _ => ⟨q.down hr m (by omega) (by omega) (by simpa using hx), ?_, rfl, rfl⟩⟩⟩, fun h => ?_⟩
  · show q.j - (m + 1) < q.j - q.i; omega
  · show IntKind.i64.wrap (m + 1) = ((m + 1 : Nat) : Int)
    rw [wrap_i64 (by omega) (by omega)]; omega
  · show m - q.i < q.j - q.i; omega
  · show m - q.i < q.j - q.i; omega
  · have := below_eq (i := q.i) (by omega) q.lo fun k hk hl => q.hi k (by omega) hl
    omega
def BS.start (l : List Producer) (x : Producer) : BS l x := ⟨0, l.length, Nat.zero_le _, Nat.le_refl _, fun _ h => absurd h (Nat.not_lt_zero _), fun k h1 h2 => absurd h2 (by omega)⟩
noncomputable def bsH (b : Bool) (l : List Producer) (x : Producer) : HintsT Tryz.prog := hh _ (lp1 174 3 (jobOf (bsT b l x) (fun _ => bsM x) [1, 2, 3, 4] (fun _ => .ret ()) (bsS b l x) (BS.start l x)) noLp) noCs noOp
def bsF (l : List Producer) (x : Producer) : Bool := decide (below l x.id < l.length) && (l.getD (below l x.id) default).id == x.id
def bsR (l : List Producer) (x : Producer) : T An := .ret (.tup [.y (.int .i64 (below l x.id)), .y (.bool (bsF l x))], [], [])
def vcBs (b : Bool) (l : List Producer) (x : Producer) : Prop :=
  (((b = b ∧ List.length l = List.length l ∧ contLe (List.length l) (4 : Nat) (cellsOf' encP l) (cellsOf' encP l)) ∧ (True ∧ True) ∧ ((0 : Nat) = (0 : Nat) ∧ (0 : Nat) = (0 : Nat)) ∧ (0 : Int) = (0 : Int) ∧ false = false ∧ (↑(List.length l) : Int) = (↑(List.length l) : Int) ∧ (0 : Int) = (0 : Int) ∧ (↑(List.length l) : Int) = (↑(List.length l) : Int) ∧ True) ∧ ((x.id = x.id ∧ x.seq = x.seq ∧ x.here = x.here ∧ x.offset = x.offset ∧ True) ∧ True) ∧ true = true) ∧ LoopOk Tryz.prog (174 : Nat) (3 : Nat) (loopAt Tryz.prog (174 : Nat) (3 : Nat)) { t := bsT b l x (BS.start l x), m := bsM x, mv := [] : St } (T.map (lout [(1 : Nat), (2 : Nat), (3 : Nat), (4 : Nat)] (bsS b l x)) ((fun (x : BS l x) => T.ret ()) (BS.start l x))) ∧ (decide ((↑(below l x.id) : Int) < (↑(List.length l) : Int)) = true → (true && decide ((↑(below l x.id) : Int) < (↑(List.length l) : Int))) = true ∧ (((List.getD l (Int.toNat (↑(below l x.id) : Int)) (@default Producer instInhabitedProducer)).id != (List.getD l (Int.toNat (↑(below l x.id) : Int)) (@default Producer instInhabitedProducer)).id) = true → ((x.id != x.id) = true → ((↑(below l x.id) : Int) = (↑(below l x.id) : Int) ∧ true = bsF l x ∧ True) ∧ True) ∧ ((x.id != x.id) = false → ((↑(below l x.id) : Int) = (↑(below l x.id) : Int) ∧ false = bsF l x ∧ True) ∧ True)) ∧ (((List.getD l (Int.toNat (↑(below l x.id) : Int)) (@default Producer instInhabitedProducer)).id != (List.getD l (Int.toNat (↑(below l x.id) : Int)) (@default Producer instInhabitedProducer)).id) = false → ((x.id != x.id) = true → ((↑(below l x.id) : Int) = (↑(below l x.id) : Int) ∧ false = bsF l x ∧ True) ∧ True) ∧ ((x.id != x.id) = false → (decide ((List.getD l (Int.toNat (↑(below l x.id) : Int)) (@default Producer instInhabitedProducer)).id < x.id) = true → ((↑(below l x.id) : Int) = (↑(below l x.id) : Int) ∧ false = bsF l x ∧ True) ∧ True) ∧ (decide ((List.getD l (Int.toNat (↑(below l x.id) : Int)) (@default Producer instInhabitedProducer)).id < x.id) = false → (decide (x.id < (List.getD l (Int.toNat (↑(below l x.id) : Int)) (@default Producer instInhabitedProducer)).id) = true → ((↑(below l x.id) : Int) = (↑(below l x.id) : Int) ∧ false = bsF l x ∧ True) ∧ True) ∧ (decide (x.id < (List.getD l (Int.toNat (↑(below l x.id) : Int)) (@default Producer instInhabitedProducer)).id) = false → ((↑(below l x.id) : Int) = (↑(below l x.id) : Int) ∧ true = bsF l x ∧ True) ∧ True))))) ∧ (decide ((↑(below l x.id) : Int) < (↑(List.length l) : Int)) = false → ((↑(below l x.id) : Int) = (↑(below l x.id) : Int) ∧ false = bsF l x ∧ True) ∧ True)
theorem vcBs_eq (b : Bool) (l : List Producer) (x : Producer) : (ctrVC Tryz.prog (bsH b l x) 174 [encPs b l, .agg (encP x), .fn (.func 175) [] []] [] (bsR l x)) = vcBs b l x := by kernel_rfl
theorem bs_c (b : Bool) (l : List Producer) (x : Producer) (hl : l.length ≤ 4611686018427387900) (hr : rising l) : (bsR l x).Sat (ACall' Tryz.prog 174 [encPs b l, .agg (encP x), .fn (.func 175) [] []] []) := by
  refine ctr_vc (ht := bsH b l x) Tryz.mixed rfl ?_
  rw [vcBs_eq b l x]
  unfold vcBs
  have := bs_loop b l x hl hr (BS.start l x)
  simp [bsF, this]
  grind
noncomputable def bsC (b : Bool) (l : List Producer) (x : Producer) (hl : l.length ≤ 4611686018427387900) (hr : rising l) : Ctr Tryz.prog := ⟨174, [encPs b l, .agg (encP x), .fn (.func 175) [] []], [], bsR l x, bs_c b l x hl hr⟩
noncomputable def clnC (b : Bool) (l : List Producer) (hl : l.length * 32 ≤ 140737488355328) : Ctr Tryz.prog := ⟨101, [encPs b l], [], clnR l, clone_c b l hl⟩
noncomputable def delC (l : List Producer) (x : Producer) (hl : l.length ≤ 9223372036854775806) : Ctr Tryz.prog := ⟨172, [.own 1 4 0 l.length, .fn (.func 173) [] [.ptr 0 0 0 0]], delMs l x, delR l x, del_c l x hl⟩
theorem oth_rising {l : List Producer} (h : rising l) (x : Producer) : rising (oth l x) := by
  have key : ∀ r : List Producer, rising r ↔ r.Pairwise (fun a b => a.id < b.id) := by
    intro r
    rw [List.pairwise_iff_getElem]
    constructor
    · intro h i j hi hj hij
      have := h i j hij hj
      simpa [hi, hj] using this
    · intro h i j hij hj
      have := h i j (by omega) hj hij
      simpa [show i < r.length by omega, hj] using this
  rw [key] at h ⊢
  exact h.filter _
def putL (l : List Producer) (x : Producer) : List Producer := (oth l x).take (below (oth l x) x.id) ++ x :: (oth l x).drop (below (oth l x) x.id)
theorem putL_len (l : List Producer) (x : Producer) : (putL l x).length = (oth l x).length + 1 := by
  unfold putL
  have : below (oth l x) x.id ≤ (oth l x).length := (List.takeWhile_sublist _).length_le
  simp; omega
def rho : Go.Shelf.Ren := ⟨fun f => match f with | 22 => 177 | 29 => 186 | 30 => 187 | x => x, fun t => match t with | 24 => 27 | 9 => 80 | x => x, fun x => x⟩
theorem lay : InsLay Tryz.prog rho 4 32 ((Tryz.prog.info? 80).bind (·.zero) |>.getD undef) "slices.Insert[[]gazette/api.Producer,gazette/api.Producer]" where
  mixed := by kernel_rfl
  f22 := by kernel_rfl
  ov := fun w args => by
    rw [show rho.f 29 = 186 from rfl, run_callFunc_extern (P := Tryz.prog) (f := 186) (fn := Tryz.f186) Tryz.func186 (by kernel_rfl) (by kernel_rfl) (by kernel_rfl) (e := Extern.SlicesOverlaps.overlaps #[27, 27] #[4]) (by kernel_rfl)]
    rfl
  t0 := by kernel_rfl
  a0 := fun w => by kernel_rfl
  z0 := fun w => by kernel_rfl
  v0 := fun w => by kernel_rfl
  t3 := by kernel_rfl
  a3 := fun w => by kernel_rfl
  z3 := fun w => by kernel_rfl
  v3 := fun w => by kernel_rfl
  t4 := by kernel_rfl
  a4 := fun w => by kernel_rfl
  z4 := fun w => by kernel_rfl
  v4 := fun w => by kernel_rfl
  t24 := by kernel_rfl
  a24 := fun w => by kernel_rfl
  z24 := fun w => by kernel_rfl
  v24 := fun w => by kernel_rfl
  z9 := fun w => by kernel_rfl
  i9s := by kernel_rfl
  i9 := by kernel_rfl
  pos := by decide
  zc := by kernel_rfl
noncomputable def putH (b : Bool) (l : List Producer) (x : Producer) (hl : l.length * 32 ≤ 140737488355296) (hr : rising l) : HintsT Tryz.prog :=
  withIns (withSub (hh _ noLp (cs1 165 1 1 (clnC b l (by omega)) (cs1 165 1 3 (delC l x (by omega)) (cs1 165 2 2 (bsC false (oth l x) x (by have := List.length_filter_le (keep x) l; unfold oth; omega) (oth_rising hr x)) noCs))) noOp) [172, 177]) lay
def putR (l : List Producer) (x : Producer) : T An := .ret (.own 0 4 0 (putL l x).length, [.row 80 4 (putL l x).length none (cellsOf' encP (putL l x))], [])
def vcPut (b : Bool) (l : List Producer) (x : Producer) (hl : l.length * 32 ≤ 140737488355296) (hr : rising l) : Prop :=
  ((b = b ∧ List.length l = List.length l ∧ contLe (List.length l) (4 : Nat) (cellsOf' encP l) (cellsOf' encP l)) ∧ True) ∧ True ∧ (((0 : Nat) = (0 : Nat) ∧ List.length l = List.length l) ∧ (True ∧ ((0 : Nat) = (0 : Nat) ∧ (0 : Nat) = (0 : Nat)) ∧ True) ∧ True) ∧ ((x.id = x.id ∧ x.seq = x.seq ∧ x.here = x.here ∧ x.offset = x.offset ∧ True) ∧ (List.length l = List.length l ∧ contLe (List.length l) (4 : Nat) (cellsOf' encP l) (cellsOf' encP l)) ∧ True) ∧ ((false = false ∧ List.length (oth l x) = List.length (oth l x) ∧ contLe (List.length (oth l x)) (4 : Nat) (Ax.rowAt (0 : Nat) (cellsOf' encP (oth l x))) (cellsOf' encP (oth l x))) ∧ (x.id = x.id ∧ x.seq = x.seq ∧ x.here = x.here ∧ x.offset = x.offset ∧ True) ∧ (True ∧ True) ∧ True) ∧ True ∧ true = true ∧ True ∧ (List.length (oth l x) = List.length (oth l x) ∧ (0 : Int) ≤ (↑(below (oth l x) x.id) : Int) ∧ (↑(below (oth l x) x.id) : Int) ≤ (↑(List.length (oth l x)) : Int) ∧ List.length (oth l x) + (1 : Nat) ≤ (9223372036854775807 : Nat) ∧ (List.length (oth l x) + (1 : Nat)) * (32 : Nat) ≤ (140737488355328 : Nat)) ∧ ((0 : Nat) = (0 : Nat) ∧ List.length (oth l x) + (1 : Nat) = List.length (putL l x)) ∧ (List.length (oth l x) + (1 : Nat) = List.length (putL l x) ∧ contLe (List.length (oth l x) + (1 : Nat)) (4 : Nat) (insRow (Int.toNat (↑(below (oth l x) x.id) : Int)) (1 : Nat) (cellsOf' encP (oth l x)) fun (k j : Nat) => Ax.get [AV.y (Value.int IntKind.u64 x.id), AV.y (Value.int IntKind.u64 x.seq), AV.y (Value.bool x.here), AV.y (Value.int IntKind.u64 x.offset)] (k * (4 : Nat) + j)) (cellsOf' encP (putL l x))) ∧ True
theorem vcPut_eq (b : Bool) (l : List Producer) (x : Producer) (hl : l.length * 32 ≤ 140737488355296) (hr : rising l) : (ctrVC Tryz.prog (putH b l x hl hr) 165 [encPs b l, .agg (encP x)] [] (putR l x)) = vcPut b l x hl hr := by kernel_rfl
theorem put_c (b : Bool) (l : List Producer) (x : Producer) (hl : l.length * 32 ≤ 140737488355296) (hr : rising l) : (putR l x).Sat (ACall' Tryz.prog 165 [encPs b l, .agg (encP x)] []) := by
  refine ctr_vc (ht := putH b l x hl hr) Tryz.mixed rfl ?_
  rw [vcPut_eq b l x hl hr]
  unfold vcPut
  have h1 : (oth l x).length ≤ l.length := List.length_filter_le _ _
  have h2 : below (oth l x) x.id ≤ (oth l x).length := (List.takeWhile_sublist _).length_le
  simp [encP, putL_len]
  refine ⟨⟨h2, by omega, by omega⟩, ins_le rfl h2 fun j hj => ?_⟩
  match j, hj with
  | 0, _ => simp [encP]
  | 1, _ => simp [encP]
  | 2, _ => simp [encP]
  | 3, _ => simp [encP]
noncomputable def putC (b : Bool) (l : List Producer) (x : Producer) (hl : l.length * 32 ≤ 140737488355296) (hr : rising l) : Ctr Tryz.prog := ⟨165, [encPs b l, .agg (encP x)], [], putR l x, put_c b l x hl hr⟩
end Go.Proofs.YtnbhdjadlbhknaaGreatDoor.P

namespace Go.Proofs.YtnbhdjadlbhknaaGreatDoor.P
open Go.Ax
set_option maxRecDepth 1000000
theorem okFrom_all {l : List Producer} : ∀ (n k : Nat), l.length - k = n → okFrom l k = true → ∀ j, k ≤ j → j < l.length → okP l j = true := by
  intro n
  induction n with
  | zero => intro k hk _ j h1 h2; omega
  | succ n ih =>
    intro k hk h j h1 h2
    rw [okFrom_step (by omega), Bool.and_eq_true] at h
    rcases Nat.lt_or_ge k j with h3 | h3
    · exact ih (k + 1) (by omega) h.2 j (by omega) h2
    · obtain rfl : j = k := by omega
      exact h.1
theorem table_rising {l : List Producer} (h : isTable l = true) : rising l := by
  unfold isTable at h
  rw [Bool.and_eq_true] at h
  have key : ∀ j, 0 < j → j < l.length → (l.getD (j - 1) default).id < (l.getD j default).id := by
    intro j h1 h2
    have := okFrom_all _ 0 rfl h.1 j (Nat.zero_le _) h2
    simp [okP] at this
    rcases this.2 with h3 | h3
    · omega
    · simpa using h3
  have : ∀ d i, i + d + 1 < l.length → (l.getD i default).id < (l.getD (i + d + 1) default).id := by
    intro d
    induction d with
    | zero => intro i hi; exact key (i + 1) (by omega) hi
    | succ d ih => intro i hi; exact Int.lt_trans (ih i (by omega)) (key (i + (d + 1) + 1) (by omega) hi)
  intro i j hij hj
  obtain ⟨d, rfl⟩ : ∃ d, j = i + d + 1 := ⟨j - i - 1, by omega⟩
  exact this d i hj
noncomputable def putN (b : Bool) (l : List Producer) (x : Producer) : Ctr Tryz.prog := ⟨165, [encPs b l, .agg (encP x)], [], .need (l.length * 32 ≤ 140737488355296 ∧ rising l) (putR l x), T.Sat.need fun h => put_c b l x h.1 h.2⟩
noncomputable def judgeC (b : Bool) (l : List Producer) (id seq : Int) (hl : l.length ≤ 9223372036854775806) : Ctr Tryz.prog := ⟨98, [encPs b l, .y (.int .u64 id), .y (.int .u64 seq)], [], judgeR l id seq, judge_c b l id seq hl⟩
def takeE (l : List Producer) (x : Producer) : Int :=
  if !isTable l then 1 else if judgeV l x.id x.seq == 4 then 151 else if !(judgeV l x.id x.seq == 1) then 152 else if !findI l x.id && l.length == 256 then 153 else 0
def takeR (l : List Producer) (x : Producer) : T An := .ite (takeE l x == 0)
  (.ret (.tup [.own 0 4 0 (putL l x).length, .s (.int .i64 0)], [.row 80 4 (putL l x).length none (cellsOf' encP (putL l x))], []))
  (.ret (.tup [.s (.slice none 0 0), .y (.int .i64 (takeE l x))], [], []))
noncomputable def takeH (b : Bool) (l : List Producer) (x : Producer) (hl : l.length ≤ 9223372036854775806) : HintsT Tryz.prog :=
  hh _ noLp (cs1 158 1 3 (findC b l x.id hl) (cs1 158 2 5 (judgeC b l x.id x.seq hl) (cs1 158 3 1 (tabC b l hl) (cs1 158 11 2 (putN b l x) noCs)))) noOp
def vcTake (b : Bool) (l : List Producer) (x : Producer) (hl : l.length ≤ 9223372036854775806) : Prop :=
  ((b = b ∧ List.length l = List.length l ∧ contLe (List.length l) (4 : Nat) (cellsOf' encP l) (cellsOf' encP l)) ∧ x.id = x.id ∧ True) ∧ True ∧ ((b = b ∧ List.length l = List.length l ∧ contLe (List.length l) (4 : Nat) (cellsOf' encP l) (cellsOf' encP l)) ∧ x.id = x.id ∧ x.seq = x.seq ∧ True) ∧ True ∧ ((b = b ∧ List.length l = List.length l ∧ contLe (List.length l) (4 : Nat) (cellsOf' encP l) (cellsOf' encP l)) ∧ True) ∧ True ∧ ((!isTable l) = true → ((takeE l x == (0 : Int)) = true → (False ∧ (1 : Int) = (0 : Int) ∧ True) ∧ False) ∧ ((takeE l x == (0 : Int)) = false → (True ∧ (1 : Int) = takeE l x ∧ True) ∧ True)) ∧ ((!isTable l) = false → ((judgeV l x.id x.seq == (4 : Int)) = true → ((takeE l x == (0 : Int)) = true → (False ∧ (151 : Int) = (0 : Int) ∧ True) ∧ False) ∧ ((takeE l x == (0 : Int)) = false → (True ∧ (151 : Int) = takeE l x ∧ True) ∧ True)) ∧ ((judgeV l x.id x.seq == (4 : Int)) = false → ((judgeV l x.id x.seq != (1 : Int)) = true → ((takeE l x == (0 : Int)) = true → (False ∧ (152 : Int) = (0 : Int) ∧ True) ∧ False) ∧ ((takeE l x == (0 : Int)) = false → (True ∧ (152 : Int) = takeE l x ∧ True) ∧ True)) ∧ ((judgeV l x.id x.seq != (1 : Int)) = false → ((!findI l x.id) = true → (((↑(List.length l) : Int) == (256 : Int)) = true → ((takeE l x == (0 : Int)) = true → (False ∧ (153 : Int) = (0 : Int) ∧ True) ∧ False) ∧ ((takeE l x == (0 : Int)) = false → (True ∧ (153 : Int) = takeE l x ∧ True) ∧ True)) ∧ (((↑(List.length l) : Int) == (256 : Int)) = false → ((b = b ∧ List.length l = List.length l ∧ contLe (List.length l) (4 : Nat) (cellsOf' encP l) (cellsOf' encP l)) ∧ (x.id = x.id ∧ x.seq = x.seq ∧ x.here = x.here ∧ x.offset = x.offset ∧ True) ∧ True) ∧ True ∧ (List.length l * (32 : Nat) ≤ (140737488355296 : Nat) ∧ ∀ (i j : Nat), i < j → j < List.length l → (List.getD l i (@default Producer instInhabitedProducer)).id < (List.getD l j (@default Producer instInhabitedProducer)).id) ∧ ((takeE l x == (0 : Int)) = true → (((0 : Nat) = (0 : Nat) ∧ List.length (putL l x) = List.length (putL l x)) ∧ (0 : Int) = (0 : Int) ∧ True) ∧ (List.length (putL l x) = List.length (putL l x) ∧ contLe (List.length (putL l x)) (4 : Nat) (cellsOf' encP (putL l x)) (cellsOf' encP (putL l x))) ∧ True) ∧ ((takeE l x == (0 : Int)) = false → False))) ∧ ((!findI l x.id) = false → ((b = b ∧ List.length l = List.length l ∧ contLe (List.length l) (4 : Nat) (cellsOf' encP l) (cellsOf' encP l)) ∧ (x.id = x.id ∧ x.seq = x.seq ∧ x.here = x.here ∧ x.offset = x.offset ∧ True) ∧ True) ∧ True ∧ (List.length l * (32 : Nat) ≤ (140737488355296 : Nat) ∧ ∀ (i j : Nat), i < j → j < List.length l → (List.getD l i (@default Producer instInhabitedProducer)).id < (List.getD l j (@default Producer instInhabitedProducer)).id) ∧ ((takeE l x == (0 : Int)) = true → (((0 : Nat) = (0 : Nat) ∧ List.length (putL l x) = List.length (putL l x)) ∧ (0 : Int) = (0 : Int) ∧ True) ∧ (List.length (putL l x) = List.length (putL l x) ∧ contLe (List.length (putL l x)) (4 : Nat) (cellsOf' encP (putL l x)) (cellsOf' encP (putL l x))) ∧ True) ∧ ((takeE l x == (0 : Int)) = false → False)))))
theorem vcTake_eq (b : Bool) (l : List Producer) (x : Producer) (hl : l.length ≤ 9223372036854775806) : (ctrVC Tryz.prog (takeH b l x hl) 158 [encPs b l, .agg (encP x)] [] (takeR l x)) = vcTake b l x hl := by kernel_rfl
theorem take_c (b : Bool) (l : List Producer) (x : Producer) (hl : l.length ≤ 9223372036854775806) : (takeR l x).Sat (ACall' Tryz.prog 158 [encPs b l, .agg (encP x)] []) := by
  refine ctr_vc (ht := takeH b l x hl) Tryz.mixed rfl ?_
  rw [vcTake_eq b l x hl]
  unfold vcTake
  have h1 : isTable l = true → l.length ≤ 256 := by unfold isTable; simp
  by_cases ht : isTable l = true
  · have h2 := h1 ht
    have h3 := table_rising ht
    by_cases h4 : judgeV l x.id x.seq = 4
    · simp [takeE, ht, h4]
    · by_cases h5 : judgeV l x.id x.seq = 1
      · cases hf : findI l x.id
        · by_cases hn : l.length = 256
          · simp [takeE, ht, h5, hf, hn]
          · have hn' : ¬ ((l.length : Int) = 256) := by omega
            simp [takeE, ht, h5, hf, hn, hn']
            exact ⟨by omega, h3⟩
        · simp [takeE, ht, h5, hf]
          exact ⟨by omega, h3⟩
      · simp [takeE, ht, h4, h5]
  · simp [takeE, ht]
def mkP (id seq : Int) (here : Bool) (offset : Int) : Producer := ⟨id, seq, here, offset⟩
noncomputable def takeC (b : Bool) (l : List Producer) (x : Producer) (hl : l.length ≤ 9223372036854775806) : Ctr Tryz.prog := ⟨158, [encPs b l, .agg (encP x)], [], takeR l x, take_c b l x hl⟩
noncomputable def accH (b : Bool) (l : List Producer) (x : Producer) (hl : l.length ≤ 9223372036854775806) : HintsT Tryz.prog := hh _ noLp (cs1 135 1 5 (takeC b l x hl) (cs1 139 1 4 (takeC b l x hl) noCs)) noOp
def vcAcc (b : Bool) (l : List Producer) (id : Int) (seq : Int) (o : Int) (hl : l.length ≤ 9223372036854775806) : Prop :=
  ((b = b ∧ List.length l = List.length l ∧ contLe (List.length l) (4 : Nat) (cellsOf' encP l) (cellsOf' encP l)) ∧ (id = id ∧ seq = seq ∧ true = true ∧ o = o ∧ True) ∧ True) ∧ True ∧ ((takeE l (mkP id seq true o) == (0 : Int)) = true → ((takeE l (mkP id seq true o) == (0 : Int)) = true → (((0 : Nat) = (0 : Nat) ∧ List.length (putL l (mkP id seq true o)) = List.length (putL l (mkP id seq true o))) ∧ (0 : Int) = (0 : Int) ∧ True) ∧ (List.length (putL l (mkP id seq true o)) = List.length (putL l (mkP id seq true o)) ∧ contLe (List.length (putL l (mkP id seq true o))) (4 : Nat) (cellsOf' encP (putL l (mkP id seq true o))) (cellsOf' encP (putL l (mkP id seq true o)))) ∧ True) ∧ ((takeE l (mkP id seq true o) == (0 : Int)) = false → False)) ∧ ((takeE l (mkP id seq true o) == (0 : Int)) = false → ((takeE l (mkP id seq true o) == (0 : Int)) = true → (False ∧ takeE l (mkP id seq true o) = (0 : Int) ∧ True) ∧ False) ∧ ((takeE l (mkP id seq true o) == (0 : Int)) = false → (True ∧ takeE l (mkP id seq true o) = takeE l (mkP id seq true o) ∧ True) ∧ True))
theorem vcAcc_eq (b : Bool) (l : List Producer) (id : Int) (seq : Int) (o : Int) (hl : l.length ≤ 9223372036854775806) : (ctrVC Tryz.prog (accH b l (mkP id seq true o) hl) 135 [encPs b l, .y (.int .u64 id), .y (.int .u64 seq), .y (.int .u64 o)] [] (takeR l (mkP id seq true o))) = vcAcc b l id seq o hl := by kernel_rfl
theorem acc_c (b : Bool) (l : List Producer) (id seq o : Int) (hl : l.length ≤ 9223372036854775806) : (takeR l (mkP id seq true o)).Sat (ACall' Tryz.prog 135 [encPs b l, .y (.int .u64 id), .y (.int .u64 seq), .y (.int .u64 o)] []) := by
  refine ctr_vc (ht := accH b l (mkP id seq true o) hl) Tryz.mixed rfl ?_
  rw [vcAcc_eq b l id seq o hl]
  unfold vcAcc
  simp [mkP]
def vcPass (b : Bool) (l : List Producer) (id : Int) (seq : Int) (hl : l.length ≤ 9223372036854775806) : Prop :=
  ((b = b ∧ List.length l = List.length l ∧ contLe (List.length l) (4 : Nat) (cellsOf' encP l) (cellsOf' encP l)) ∧ (id = id ∧ seq = seq ∧ false = false ∧ (0 : Int) = (0 : Int) ∧ True) ∧ True) ∧ True ∧ ((takeE l (mkP id seq false (0 : Int)) == (0 : Int)) = true → ((takeE l (mkP id seq false (0 : Int)) == (0 : Int)) = true → (((0 : Nat) = (0 : Nat) ∧ List.length (putL l (mkP id seq false (0 : Int))) = List.length (putL l (mkP id seq false (0 : Int)))) ∧ (0 : Int) = (0 : Int) ∧ True) ∧ (List.length (putL l (mkP id seq false (0 : Int))) = List.length (putL l (mkP id seq false (0 : Int))) ∧ contLe (List.length (putL l (mkP id seq false (0 : Int)))) (4 : Nat) (cellsOf' encP (putL l (mkP id seq false (0 : Int)))) (cellsOf' encP (putL l (mkP id seq false (0 : Int))))) ∧ True) ∧ ((takeE l (mkP id seq false (0 : Int)) == (0 : Int)) = false → False)) ∧ ((takeE l (mkP id seq false (0 : Int)) == (0 : Int)) = false → ((takeE l (mkP id seq false (0 : Int)) == (0 : Int)) = true → (False ∧ takeE l (mkP id seq false (0 : Int)) = (0 : Int) ∧ True) ∧ False) ∧ ((takeE l (mkP id seq false (0 : Int)) == (0 : Int)) = false → (True ∧ takeE l (mkP id seq false (0 : Int)) = takeE l (mkP id seq false (0 : Int)) ∧ True) ∧ True))
theorem vcPass_eq (b : Bool) (l : List Producer) (id : Int) (seq : Int) (hl : l.length ≤ 9223372036854775806) : (ctrVC Tryz.prog (accH b l (mkP id seq false 0) hl) 139 [encPs b l, .y (.int .u64 id), .y (.int .u64 seq)] [] (takeR l (mkP id seq false 0))) = vcPass b l id seq hl := by kernel_rfl
theorem pass_c (b : Bool) (l : List Producer) (id seq : Int) (hl : l.length ≤ 9223372036854775806) : (takeR l (mkP id seq false 0)).Sat (ACall' Tryz.prog 139 [encPs b l, .y (.int .u64 id), .y (.int .u64 seq)] []) := by
  refine ctr_vc (ht := accH b l (mkP id seq false 0) hl) Tryz.mixed rfl ?_
  rw [vcPass_eq b l id seq hl]
  unfold vcPass
  simp [mkP]
end Go.Proofs.YtnbhdjadlbhknaaGreatDoor.P

namespace Go.Proofs.YtnbhdjadlbhknaaGreatDoor.P
open Go.Ax
set_option maxRecDepth 1000000
def eqP (x y : Producer) : Bool := x.id == y.id && (x.seq == y.seq && (x.here == y.here && (x.offset == y.offset && true)))
def sameFrom (a b : List Producer) (k : Nat) : Bool := (List.range' k (a.length - k)).all fun j => eqP (a.getD j default) (b.getD j default)
def sameP (a b : List Producer) : Bool := a.length == b.length && sameFrom a b 0
theorem sameFrom_end {a b : List Producer} {k : Nat} (h : a.length ≤ k) : sameFrom a b k = true := by
  unfold sameFrom
  rw [show a.length - k = 0 by omega]; rfl
theorem sameFrom_step {a b : List Producer} {k : Nat} (h : k < a.length) : sameFrom a b k = (eqP (a.getD k default) (b.getD k default) && sameFrom a b (k + 1)) := by
  unfold sameFrom
  rw [show a.length - k = (a.length - (k + 1)) + 1 by omega, List.range'_succ]; rfl
def smT (b1 b2 : Bool) (a b : List Producer) (k : Nat) : List AV := mkT 26 [(0, encPs b1 a), (1, encPs b2 b), (4, .s (.bool false)), (5, .y (.int .i64 k))]
def smS (r : Bool) : Exit × List AV × List Blk := match r with
  | true => (.exit 0, mkT 26 [], [])
  | false => (.ret, mkT 26 [(4, .s (.bool false))], [])
def smO (a b : List Producer) (k : Nat) : T Bool := .ite (sameFrom a b k) (.ret true) (.ret false)
def vcSameL (b1 : Bool) (b2 : Bool) (a : List Producer) (b : List Producer) (k : Nat) : Prop :=
  (decide ((↑k : Int) < (↑(List.length a) : Int)) = true → (true && decide ((↑k : Int) < (↑(List.length a) : Int))) = true ∧ (true && decide ((↑k : Int) < (↑(List.length b) : Int))) = true ∧ ((!((List.getD a (Int.toNat (↑k : Int)) (@default Producer instInhabitedProducer)).id == (List.getD b (Int.toNat (↑k : Int)) (@default Producer instInhabitedProducer)).id && ((List.getD a (Int.toNat (↑k : Int)) (@default Producer instInhabitedProducer)).seq == (List.getD b (Int.toNat (↑k : Int)) (@default Producer instInhabitedProducer)).seq && ((List.getD a (Int.toNat (↑k : Int)) (@default Producer instInhabitedProducer)).here == (List.getD b (Int.toNat (↑k : Int)) (@default Producer instInhabitedProducer)).here && ((List.getD a (Int.toNat (↑k : Int)) (@default Producer instInhabitedProducer)).offset == (List.getD b (Int.toNat (↑k : Int)) (@default Producer instInhabitedProducer)).offset && true))))) = true → (sameFrom a b k = true → False) ∧ (sameFrom a b k = false → (false = false ∧ True) ∧ True ∧ true = true)) ∧ ((!((List.getD a (Int.toNat (↑k : Int)) (@default Producer instInhabitedProducer)).id == (List.getD b (Int.toNat (↑k : Int)) (@default Producer instInhabitedProducer)).id && ((List.getD a (Int.toNat (↑k : Int)) (@default Producer instInhabitedProducer)).seq == (List.getD b (Int.toNat (↑k : Int)) (@default Producer instInhabitedProducer)).seq && ((List.getD a (Int.toNat (↑k : Int)) (@default Producer instInhabitedProducer)).here == (List.getD b (Int.toNat (↑k : Int)) (@default Producer instInhabitedProducer)).here && ((List.getD a (Int.toNat (↑k : Int)) (@default Producer instInhabitedProducer)).offset == (List.getD b (Int.toNat (↑k : Int)) (@default Producer instInhabitedProducer)).offset && true))))) = false → ∃ (j : Nat), List.length a - j < List.length a - k ∧ (((b1 = b1 ∧ List.length a = List.length a ∧ contLe (List.length a) (4 : Nat) (cellsOf' encP a) (cellsOf' encP a)) ∧ (b2 = b2 ∧ List.length b = List.length b ∧ contLe (List.length b) (4 : Nat) (cellsOf' encP b) (cellsOf' encP b)) ∧ false = false ∧ IntKind.wrap IntKind.i64 ((↑k : Int) + (1 : Int)) = (↑j : Int) ∧ True) ∧ True ∧ true = true) ∧ true = true ∧ (sameFrom a b j = true → (sameFrom a b k = true → true = true) ∧ (sameFrom a b k = false → true = false)) ∧ (sameFrom a b j = false → (sameFrom a b k = true → false = true) ∧ (sameFrom a b k = false → false = false)))) ∧ (decide ((↑k : Int) < (↑(List.length a) : Int)) = false → (sameFrom a b k = true → True ∧ True ∧ true = true) ∧ (sameFrom a b k = false → False))
theorem vcSameL_eq (b1 : Bool) (b2 : Bool) (a : List Producer) (b : List Producer) (k : Nat) : (loopVC Tryz.prog (hT _) 74 4 (fun k => a.length - k) (smT b1 b2 a b) (fun _ => []) [] (smO a b) smS k) = vcSameL b1 b2 a b k := by kernel_rfl
theorem same_loop (b1 b2 : Bool) (a b : List Producer) (hl : a.length ≤ 9223372036854775806) (he : a.length = b.length) (k : Nat) : LoopOk Tryz.prog 74 4 (loopAt Tryz.prog 74 4) ⟨smT b1 b2 a b k, [], []⟩ ((smO a b k).map (lout [] smS)) := by
  refine loop_vc Tryz.mixed (fun _ => rfl) (fun k => (vcSameL_eq b1 b2 a b k).mpr ?_) k
  unfold vcSameL
  simp
  refine ⟨fun h => ?_, fun h => by simp [sameFrom_end h]⟩
  rw [sameFrom_step h]
  simp (disch := omega) only [wrap_i64]
  simp [eqP, cast_succ_eq]
  generalize a[k]?.getD default = x
  generalize b[k]?.getD default = y
  grind
def smR (a b : List Producer) : T An := .ret (.y (.bool (sameP a b)), [], [])
noncomputable def smH (b1 b2 : Bool) (a b : List Producer) : HintsT Tryz.prog := hh _ (lp1 74 4 (jobOf (smT b1 b2 a b) (fun _ => []) [] (smO a b) smS 0) noLp) noCs noOp
def vcSame (b1 : Bool) (b2 : Bool) (a : List Producer) (b : List Producer) : Prop :=
  (((↑(List.length a) : Int) != (↑(List.length b) : Int)) = true → false = sameP a b ∧ True) ∧ (((↑(List.length a) : Int) != (↑(List.length b) : Int)) = false → (((b1 = b1 ∧ List.length a = List.length a ∧ contLe (List.length a) (4 : Nat) (cellsOf' encP a) (cellsOf' encP a)) ∧ (b2 = b2 ∧ List.length b = List.length b ∧ contLe (List.length b) (4 : Nat) (cellsOf' encP b) (cellsOf' encP b)) ∧ false = false ∧ (0 : Int) = (0 : Int) ∧ True) ∧ True ∧ true = true) ∧ LoopOk Tryz.prog (74 : Nat) (4 : Nat) (loopAt Tryz.prog (74 : Nat) (4 : Nat)) { t := smT b1 b2 a b (0 : Nat), m := [], mv := [] : St } (T.map (lout [] smS) (smO a b (0 : Nat))) ∧ (sameFrom a b (0 : Nat) = true → true = sameP a b ∧ True) ∧ (sameFrom a b (0 : Nat) = false → false = sameP a b ∧ True))
theorem vcSame_eq (b1 : Bool) (b2 : Bool) (a : List Producer) (b : List Producer) : (ctrVC Tryz.prog (smH b1 b2 a b) 74 [encPs b1 a, encPs b2 b] [] (smR a b)) = vcSame b1 b2 a b := by kernel_rfl
theorem same_c (b1 b2 : Bool) (a b : List Producer) (hl : a.length ≤ 9223372036854775806) : (smR a b).Sat (ACall' Tryz.prog 74 [encPs b1 a, encPs b2 b] []) := by
  refine ctr_vc (ht := smH b1 b2 a b) Tryz.mixed rfl ?_
  rw [vcSame_eq b1 b2 a b]
  unfold vcSame
  by_cases he : a.length = b.length
  · have := same_loop b1 b2 a b hl he 0
    simp [sameP, he, this]
  · have he' : ¬ ((a.length : Int) = b.length) := by omega
    simp [sameP, he, he']
def stp (x : Producer) (s : Bool × List Producer) (y : Producer) : Bool × List Producer :=
  let s1 := if (decide (x.id ≤ y.id) && !s.1) = true then (true, s.2 ++ [x]) else s
  if y.id = x.id then s1 else (s1.1, s1.2 ++ [y])
end Go.Proofs.YtnbhdjadlbhknaaGreatDoor.P

namespace Go.Proofs.YtnbhdjadlbhknaaGreatDoor.P
open Go.Ax
set_option maxRecDepth 1000000
theorem oth_cons (y : Producer) (t : List Producer) (x : Producer) : oth (y :: t) x = if y.id = x.id then oth t x else y :: oth t x := by
  by_cases h : y.id = x.id
  · rw [if_pos h]; unfold oth; rw [List.filter_cons_of_neg (by simp [keep, h])]
  · rw [if_neg h]; unfold oth; rw [List.filter_cons_of_pos (by simp [keep, h])]
theorem putL_cons_lt {y : Producer} {t : List Producer} {x : Producer} (h : y.id < x.id) : putL (y :: t) x = y :: putL t x := by
  have h' : ¬ y.id = x.id := by omega
  simp [putL, oth_cons, below, h, h']
theorem putL_ge {y : Producer} {t : List Producer} {x : Producer} (h : x.id ≤ y.id) (ht : ∀ z ∈ t, y.id < z.id) : putL (y :: t) x = x :: oth (y :: t) x := by
  have : below (oth (y :: t) x) x.id = 0 := by
    unfold below
    rw [List.length_eq_zero_iff]
    cases hd : oth (y :: t) x with
    | nil => rfl
    | cons z r =>
      have hz : z ∈ oth (y :: t) x := by rw [hd]; exact List.mem_cons_self
      have hz' : z ∈ y :: t := (List.mem_filter.1 hz).1
      have hlt : ¬ z.id < x.id := by
        rcases List.mem_cons.1 hz' with h1 | h1
        · rw [h1]; omega
        · have := ht z h1; omega
      rw [List.takeWhile_cons_of_neg]
      simpa using hlt
  rw [putL, this]; rfl
theorem rising_pw (r : List Producer) : rising r ↔ r.Pairwise (fun a b => a.id < b.id) := by
  rw [List.pairwise_iff_getElem]
  constructor
  · intro h i j hi hj hij
    have := h i j hij hj
    simpa [hi, hj] using this
  · intro h i j hij hj
    have := h i j (by omega) hj hij
    simpa [show i < r.length by omega, hj] using this
end Go.Proofs.YtnbhdjadlbhknaaGreatDoor.P

namespace Go.Proofs.YtnbhdjadlbhknaaGreatDoor.P
open Go.Ax
set_option maxRecDepth 1000000
def encI (x : Int) : List AV := [.y (.int .u64 x)]
def encU (b : Bool) (l : List Int) : AV := .ys b 1 l.length (cellsOf' encI l)
def rowR (r : List Producer) : T An := .ret (.own 0 4 0 r.length, [.row 80 4 r.length none (cellsOf' encP r)], [])
end Go.Proofs.YtnbhdjadlbhknaaGreatDoor.P

namespace Go.Proofs.YtnbhdjadlbhknaaGreatDoor.P
open Go.Ax
set_option maxRecDepth 1000000
def lat (x y : Producer) : Bool := decide (y.seq < x.seq) || (x.seq == y.seq && (x.here && !y.here))
def boolR (b : Bool) : T An := .ret (.y (.bool b), [], [])
end Go.Proofs.YtnbhdjadlbhknaaGreatDoor.P

namespace Go.Proofs.YtnbhdjadlbhknaaGreatDoor.P
open Go.Ax
set_option maxRecDepth 1000000
def bst (s : List Producer) (x : Producer) : List Producer := if !findI s x.id || lat x (findD s x.id) then putL s x else s
def both (s m : List Producer) (k : Nat) : List Producer := (m.take k).foldl bst s
theorem mem_putL {l : List Producer} {x z : Producer} (h : z ∈ putL l x) : z = x ∨ z ∈ l := by
  unfold putL at h
  rw [List.mem_append, List.mem_cons] at h
  rcases h with h | h | h
  · exact Or.inr (List.mem_filter.1 (List.mem_of_mem_take h)).1
  · exact Or.inl h
  · exact Or.inr (List.mem_filter.1 (List.mem_of_mem_drop h)).1
theorem putL_pw (x : Producer) : ∀ l : List Producer, l.Pairwise (fun a b => a.id < b.id) → (putL l x).Pairwise (fun a b => a.id < b.id) := by
  intro l
  induction l with
  | nil => intro _; simp [putL, oth, below]
  | cons y t ih =>
    intro h
    have hp := List.pairwise_cons.1 h
    by_cases h1 : x.id ≤ y.id
    · rw [putL_ge h1 hp.1, List.pairwise_cons]
      refine ⟨fun z hz => ?_, h.filter _⟩
      have hz' := List.mem_filter.1 hz
      have h2 : ¬ z.id = x.id := by simpa [keep] using hz'.2
      rcases List.mem_cons.1 hz'.1 with h3 | h3
      · rw [h3] at h2 ⊢; omega
      · have := hp.1 z h3; omega
    · rw [putL_cons_lt (by omega), List.pairwise_cons]
      refine ⟨fun z hz => ?_, ih hp.2⟩
      rcases mem_putL hz with h3 | h3
      · rw [h3]; omega
      · exact hp.1 z h3
theorem putL_rising {l : List Producer} {x : Producer} (h : rising l) : rising (putL l x) := (rising_pw _).2 (putL_pw x l ((rising_pw l).1 h))
def rowE (r : List Producer) (e : Int) : T An := .ite (e == 0)
  (.ret (.tup [.own 0 4 0 r.length, .s (.int .i64 0)], [.row 80 4 r.length none (cellsOf' encP r)], []))
  (.ret (.tup [.s (.slice none 0 0), .y (.int .i64 e)], [], []))
noncomputable def tabN (b : Bool) (l : List Producer) : Ctr Tryz.prog := ⟨45, [encPs b l], [], .need (l.length ≤ 9223372036854775806) (tabR l), T.Sat.need fun h => table_c b l h⟩
end Go.Proofs.YtnbhdjadlbhknaaGreatDoor.P

namespace Go.Proofs.YtnbhdjadlbhknaaGreatDoor
open Go.Ax
set_option maxRecDepth 1000000
structure Part where
  rng : Rng
  epoch : Int
  frozen : Int
  recs : List Rec
  prods : List P.Producer
  cons : List Con
instance : Inhabited Part := ⟨⟨default, 0, 0, [], [], []⟩⟩
def encPt (b : Bool) (p : Part) : List AV := [.y (.string p.rng.lo), .y (.string p.rng.hi), .y (.int .u64 p.epoch), .y (.int .u64 p.frozen), encRs b p.recs, P.encPs b p.prods, encCs b p.cons]
def ptLe (x y : Bool) (p q : Part) : Prop := p.rng.lo = q.rng.lo ∧ p.rng.hi = q.rng.hi ∧ p.epoch = q.epoch ∧ p.frozen = q.frozen ∧ (x = y ∧ List.length p.recs = List.length q.recs ∧ contLe (List.length p.recs) (5 : Nat) (cellsOf' encR p.recs) (cellsOf' encR q.recs)) ∧ (x = y ∧ List.length p.prods = List.length q.prods ∧ contLe (List.length p.prods) (4 : Nat) (cellsOf' P.encP p.prods) (cellsOf' P.encP q.prods)) ∧ (x = y ∧ List.length p.cons = List.length q.cons ∧ contLe (List.length p.cons) (2 : Nat) (cellsOf' encC p.cons) (cellsOf' encC q.cons)) ∧ True
@[simp] theorem ptLe_eq (x y : Bool) (p q : Part) : ptLe x y p q = (p.rng.lo = q.rng.lo ∧ p.rng.hi = q.rng.hi ∧ p.epoch = q.epoch ∧ p.frozen = q.frozen ∧ (x = y ∧ List.length p.recs = List.length q.recs ∧ contLe (List.length p.recs) (5 : Nat) (cellsOf' encR p.recs) (cellsOf' encR q.recs)) ∧ (x = y ∧ List.length p.prods = List.length q.prods ∧ contLe (List.length p.prods) (4 : Nat) (cellsOf' P.encP p.prods) (cellsOf' P.encP q.prods)) ∧ (x = y ∧ List.length p.cons = List.length q.cons ∧ contLe (List.length p.cons) (2 : Nat) (cellsOf' encC p.cons) (cellsOf' encC q.cons)) ∧ True) := rfl
abbrev Kn := (Int → Bool) × (Int → Int)
abbrev Kn.put (s : Kn) (a b : Int) : Kn := (updHas s.1 a, updC s.2 a b)
abbrev Kn.sel (s : Kn) (a : Int) : Int := selI (s.1 a) (s.2 a)
def kn0 : Kn := (fun _ => false, fun _ => 0)
def knP (l : List P.Producer) : Kn := l.foldl (fun s x => s.put x.id x.seq) kn0
def knR (l : List Rec) : Kn := l.foldl (fun s x => s.put x.prod x.seq) kn0
theorem knP_step {l : List P.Producer} {k : Nat} (h : k < l.length) : knP (l.take (k + 1)) = (knP (l.take k)).put (l.getD k default).id (l.getD k default).seq := by
  unfold knP
  rw [List.take_add_one, List.foldl_append, List.getElem?_eq_getElem h]
  simp [List.getElem?_eq_getElem h]
theorem knR_step {l : List Rec} {k : Nat} (h : k < l.length) : knR (l.take (k + 1)) = (knR (l.take k)).put (l.getD k default).prod (l.getD k default).seq := by
  unfold knR
  rw [List.take_add_one, List.foldl_append, List.getElem?_eq_getElem h]
  simp [List.getElem?_eq_getElem h]
def mapB (s : Kn) : Blk := .mi .u64 .u64 s.1 s.2
def orM1 (b : Bool) (p : Part) (s : Kn) : List Blk := [.box 30 (encPt b p), mapB s]
def orT1 (b : Bool) (p : Part) (k : Nat) : List AV := mkT 61 [(1, .ptr 0 0 0 0), (3, .mref 1), (11, P.encPs b p.prods), (12, .y (.int .i64 p.prods.length)), (13, .y (.int .i64 k))]
def orS1 (b : Bool) (p : Part) (_ : Unit) : Exit × List AV × List Blk := (.exit 0, mkT 61 [(1, .ptr 0 0 0 0), (3, .mref 1)], orM1 b p (knP p.prods))
def jX9 : List Nat := [0, 1, 2, 3, 4, 5, 6, 7, 8, 9]
def vcOr1 (b : Bool) (p : Part) (k : Nat) : Prop :=
  (decide ((↑k : Int) < (↑(List.length p.prods) : Int)) = true → (true && decide ((↑k : Int) < (↑(List.length p.prods) : Int))) = true ∧ ∃ (j : Nat), List.length p.prods - j < List.length p.prods - k ∧ ((((0 : Nat) = (0 : Nat) ∧ (0 : Nat) = (0 : Nat)) ∧ True ∧ (b = b ∧ List.length p.prods = List.length p.prods ∧ contLe (List.length p.prods) (4 : Nat) (cellsOf' P.encP p.prods) (cellsOf' P.encP p.prods)) ∧ (↑(List.length p.prods) : Int) = (↑(List.length p.prods) : Int) ∧ IntKind.wrap IntKind.i64 ((↑k : Int) + (1 : Int)) = (↑j : Int) ∧ True) ∧ ((ptLe b b p p) ∧ (IntKind.u64 = IntKind.u64 ∧ IntKind.u64 = IntKind.u64 ∧ ∀ (x : Int), updHas (knP (List.take k p.prods)).fst (List.getD p.prods (Int.toNat (↑k : Int)) (@default P.Producer P.instInhabitedProducer)).id x = (knP (List.take j p.prods)).fst x ∧ (updHas (knP (List.take k p.prods)).fst (List.getD p.prods (Int.toNat (↑k : Int)) (@default P.Producer P.instInhabitedProducer)).id x = true → updC (knP (List.take k p.prods)).snd (List.getD p.prods (Int.toNat (↑k : Int)) (@default P.Producer P.instInhabitedProducer)).id (List.getD p.prods (Int.toNat (↑k : Int)) (@default P.Producer P.instInhabitedProducer)).seq x = (knP (List.take j p.prods)).snd x)) ∧ True) ∧ true = true) ∧ true = true ∧ () = ()) ∧ (decide ((↑k : Int) < (↑(List.length p.prods) : Int)) = false → (((0 : Nat) = (0 : Nat) ∧ (0 : Nat) = (0 : Nat)) ∧ True ∧ True) ∧ ((ptLe b b p p) ∧ (IntKind.u64 = IntKind.u64 ∧ IntKind.u64 = IntKind.u64 ∧ ∀ (x : Int), (knP (List.take k p.prods)).fst x = (knP p.prods).fst x ∧ ((knP (List.take k p.prods)).fst x = true → (knP (List.take k p.prods)).snd x = (knP p.prods).snd x)) ∧ True) ∧ true = true)
theorem vcOr1_eq (b : Bool) (p : Part) (k : Nat) : (loopVC Tryz.prog (hT _) 47 3 (fun k => p.prods.length - k) (orT1 b p) (fun k => orM1 b p (knP (p.prods.take k))) jX9 (fun _ => .ret ()) (orS1 b p) k) = vcOr1 b p k := by kernel_rfl
def orM2 (b : Bool) (p : Part) (k : Nat) : List Blk := [.box 30 (encPt b p), mapB (knP p.prods), mapB (knR (p.recs.take k))]
def orT2 (b : Bool) (p : Part) (k : Nat) : List AV := mkT 61 [(1, .ptr 0 0 0 0), (3, .mref 1), (6, .mref 2), (25, encRs b p.recs), (26, .y (.int .i64 p.recs.length)), (27, .y (.int .i64 k))]
def orS2 (r : Bool) : Exit × List AV × List Blk := match r with
  | true => (.exit 2, mkT 61 [], [])
  | false => (.ret, mkT 61 [(2, .s (.bool false))], [])
def okO (p : Part) (k : Nat) : Bool :=
  let x := p.recs.getD k default
  hasK p.rng x.key && (!decide (x.seq ≤ (knR (p.recs.take k)).sel x.prod) && !decide ((knP p.prods).sel x.prod < x.seq))
def orFrom (p : Part) (k : Nat) : Bool := (List.range' k (p.recs.length - k)).all fun j => okO p j
theorem orFrom_end {p : Part} {k : Nat} (h : p.recs.length ≤ k) : orFrom p k = true := by
  unfold orFrom
  rw [show p.recs.length - k = 0 by omega]; rfl
theorem orFrom_step {p : Part} {k : Nat} (h : k < p.recs.length) : orFrom p k = (okO p k && orFrom p (k + 1)) := by
  unfold orFrom
  rw [show p.recs.length - k = (p.recs.length - (k + 1)) + 1 by omega, List.range'_succ]; rfl
def orO (p : Part) (k : Nat) : T Bool := .ite (orFrom p k) (.ret true) (.ret false)
noncomputable def orH2 (p : Part) (k : Nat) : HintsT Tryz.prog := hh _ noLp (cs1 47 11 4 (hasC p.rng (p.recs.getD k default).key) noCs) noOp
def vcOr2 (b : Bool) (p : Part) (k : Nat) : Prop :=
  (decide ((↑k : Int) < (↑(List.length p.recs) : Int)) = true → (true && decide ((↑k : Int) < (↑(List.length p.recs) : Int))) = true ∧ ((p.rng.lo = p.rng.lo ∧ p.rng.hi = p.rng.hi ∧ True) ∧ (List.getD p.recs (Int.toNat (↑k : Int)) (@default Rec instInhabitedRec)).key = (List.getD p.recs k (@default Rec instInhabitedRec)).key ∧ True) ∧ True ∧ ((!hasK p.rng (List.getD p.recs k (@default Rec instInhabitedRec)).key) = true → (orFrom p k = true → False) ∧ (orFrom p k = false → (false = false ∧ True) ∧ True ∧ true = true)) ∧ ((!hasK p.rng (List.getD p.recs k (@default Rec instInhabitedRec)).key) = false → (decide ((List.getD p.recs (Int.toNat (↑k : Int)) (@default Rec instInhabitedRec)).seq ≤ selI ((knR (List.take k p.recs)).fst (List.getD p.recs (Int.toNat (↑k : Int)) (@default Rec instInhabitedRec)).prod) ((knR (List.take k p.recs)).snd (List.getD p.recs (Int.toNat (↑k : Int)) (@default Rec instInhabitedRec)).prod)) = true → (orFrom p k = true → False) ∧ (orFrom p k = false → (false = false ∧ True) ∧ True ∧ true = true)) ∧ (decide ((List.getD p.recs (Int.toNat (↑k : Int)) (@default Rec instInhabitedRec)).seq ≤ selI ((knR (List.take k p.recs)).fst (List.getD p.recs (Int.toNat (↑k : Int)) (@default Rec instInhabitedRec)).prod) ((knR (List.take k p.recs)).snd (List.getD p.recs (Int.toNat (↑k : Int)) (@default Rec instInhabitedRec)).prod)) = false → (decide (selI ((knP p.prods).fst (List.getD p.recs (Int.toNat (↑k : Int)) (@default Rec instInhabitedRec)).prod) ((knP p.prods).snd (List.getD p.recs (Int.toNat (↑k : Int)) (@default Rec instInhabitedRec)).prod) < (List.getD p.recs (Int.toNat (↑k : Int)) (@default Rec instInhabitedRec)).seq) = true → (orFrom p k = true → False) ∧ (orFrom p k = false → (false = false ∧ True) ∧ True ∧ true = true)) ∧ (decide (selI ((knP p.prods).fst (List.getD p.recs (Int.toNat (↑k : Int)) (@default Rec instInhabitedRec)).prod) ((knP p.prods).snd (List.getD p.recs (Int.toNat (↑k : Int)) (@default Rec instInhabitedRec)).prod) < (List.getD p.recs (Int.toNat (↑k : Int)) (@default Rec instInhabitedRec)).seq) = false → ∃ (j : Nat), List.length p.recs - j < List.length p.recs - k ∧ ((((0 : Nat) = (0 : Nat) ∧ (0 : Nat) = (0 : Nat)) ∧ True ∧ True ∧ (b = b ∧ List.length p.recs = List.length p.recs ∧ contLe (List.length p.recs) (5 : Nat) (cellsOf' encR p.recs) (cellsOf' encR p.recs)) ∧ (↑(List.length p.recs) : Int) = (↑(List.length p.recs) : Int) ∧ IntKind.wrap IntKind.i64 ((↑k : Int) + (1 : Int)) = (↑j : Int) ∧ True) ∧ ((ptLe b b p p) ∧ (IntKind.u64 = IntKind.u64 ∧ IntKind.u64 = IntKind.u64 ∧ ∀ (x : Int), (knP p.prods).fst x = (knP p.prods).fst x ∧ ((knP p.prods).fst x = true → (knP p.prods).snd x = (knP p.prods).snd x)) ∧ (IntKind.u64 = IntKind.u64 ∧ IntKind.u64 = IntKind.u64 ∧ ∀ (x : Int), updHas (knR (List.take k p.recs)).fst (List.getD p.recs (Int.toNat (↑k : Int)) (@default Rec instInhabitedRec)).prod x = (knR (List.take j p.recs)).fst x ∧ (updHas (knR (List.take k p.recs)).fst (List.getD p.recs (Int.toNat (↑k : Int)) (@default Rec instInhabitedRec)).prod x = true → updC (knR (List.take k p.recs)).snd (List.getD p.recs (Int.toNat (↑k : Int)) (@default Rec instInhabitedRec)).prod (List.getD p.recs (Int.toNat (↑k : Int)) (@default Rec instInhabitedRec)).seq x = (knR (List.take j p.recs)).snd x)) ∧ True) ∧ true = true) ∧ true = true ∧ (orFrom p j = true → (orFrom p k = true → true = true) ∧ (orFrom p k = false → true = false)) ∧ (orFrom p j = false → (orFrom p k = true → false = true) ∧ (orFrom p k = false → false = false)))))) ∧ (decide ((↑k : Int) < (↑(List.length p.recs) : Int)) = false → (orFrom p k = true → True ∧ True ∧ true = true) ∧ (orFrom p k = false → False))
theorem vcOr2_eq (b : Bool) (p : Part) (k : Nat) : (loopVC Tryz.prog (orH2 p k) 47 9 (fun k => p.recs.length - k) (orT2 b p) (orM2 b p) jX9 (orO p) orS2 k) = vcOr2 b p k := by kernel_rfl
noncomputable def orH (b : Bool) (p : Part) : HintsT Tryz.prog := hh _ (lp1 47 3 (jobOf (orT1 b p) (fun k => orM1 b p (knP (p.prods.take k))) jX9 (fun _ => .ret ()) (orS1 b p) 0) (lp1 47 9 (jobOf (orT2 b p) (orM2 b p) jX9 (orO p) orS2 0) noLp)) noCs noOp
def vcOr (b : Bool) (p : Part) : Prop :=
  ((((0 : Nat) = (0 : Nat) ∧ (0 : Nat) = (0 : Nat)) ∧ True ∧ (b = b ∧ List.length p.prods = List.length p.prods ∧ contLe (List.length p.prods) (4 : Nat) (cellsOf' P.encP p.prods) (cellsOf' P.encP p.prods)) ∧ (↑(List.length p.prods) : Int) = (↑(List.length p.prods) : Int) ∧ (0 : Int) = (0 : Int) ∧ True) ∧ ((ptLe b b p p) ∧ (∀ (x : Int), false = false) ∧ True) ∧ true = true) ∧ LoopOk Tryz.prog (47 : Nat) (3 : Nat) (loopAt Tryz.prog (47 : Nat) (3 : Nat)) { t := orT1 b p (0 : Nat), m := orM1 b p (knP (List.take (0 : Nat) p.prods)), mv := [] : St } (T.map (lout jX9 (orS1 b p)) ((fun (x : Nat) => T.ret ()) (0 : Nat))) ∧ ((((0 : Nat) = (0 : Nat) ∧ (0 : Nat) = (0 : Nat)) ∧ True ∧ True ∧ (b = b ∧ List.length p.recs = List.length p.recs ∧ contLe (List.length p.recs) (5 : Nat) (cellsOf' encR p.recs) (cellsOf' encR p.recs)) ∧ (↑(List.length p.recs) : Int) = (↑(List.length p.recs) : Int) ∧ (0 : Int) = (0 : Int) ∧ True) ∧ ((ptLe b b p p) ∧ (IntKind.u64 = IntKind.u64 ∧ IntKind.u64 = IntKind.u64 ∧ ∀ (x : Int), (knP p.prods).fst x = (knP p.prods).fst x ∧ ((knP p.prods).fst x = true → (knP p.prods).snd x = (knP p.prods).snd x)) ∧ (∀ (x : Int), false = false) ∧ True) ∧ true = true) ∧ LoopOk Tryz.prog (47 : Nat) (9 : Nat) (loopAt Tryz.prog (47 : Nat) (9 : Nat)) { t := orT2 b p (0 : Nat), m := orM2 b p (0 : Nat), mv := [] : St } (T.map (lout jX9 orS2) (orO p (0 : Nat))) ∧ (orFrom p (0 : Nat) = true → true = orFrom p (0 : Nat) ∧ True) ∧ (orFrom p (0 : Nat) = false → false = orFrom p (0 : Nat) ∧ True)
theorem vcOr_eq (b : Bool) (p : Part) : (ctrVC Tryz.prog (orH b p) 47 [.agg (encPt b p)] [] (boolR (orFrom p 0))) = vcOr b p := by kernel_rfl
end Go.Proofs.YtnbhdjadlbhknaaGreatDoor

namespace Go.Proofs.YtnbhdjadlbhknaaGreatDoor
open Go.Ax
set_option maxRecDepth 1000000
theorem or1_loop (b : Bool) (p : Part) (hl : p.prods.length ≤ 9223372036854775806) (k : Nat) : LoopOk Tryz.prog 47 3 (loopAt Tryz.prog 47 3) ⟨orT1 b p k, orM1 b p (knP (p.prods.take k)), []⟩ (T.map (lout jX9 (orS1 b p)) (.ret ())) := by
  refine loop_vc (o := fun _ => .ret ()) (stT := fun k => orT1 b p k) (stM := fun k => orM1 b p (knP (p.prods.take k))) Tryz.mixed (fun _ => rfl) (fun k => (vcOr1_eq b p k).mpr ?_) k
  unfold vcOr1
  by_cases h : k < p.prods.length
  · have hw : IntKind.i64.wrap ((k : Int) + 1) = ((k + 1 : Nat) : Int) := by rw [wrap_i64 (by omega) (by omega)]; omega
    have hs := knP_step h
    have hz : decide ((k : Int) < p.prods.length) = true := by simp; omega
    rw [Int.toNat_natCast]
    simp only [hz]
    generalize p.prods.getD k default = x at *
    generalize knP (p.prods.take k) = s at *
    simp
    refine Exists.intro (k + 1) ?_
    rw [hs]
    refine ⟨by omega, hw, fun y => ⟨rfl, fun _ => rfl⟩⟩
  · have hz : decide ((k : Int) < p.prods.length) = false := by simp; omega
    rw [List.take_of_length_le (by omega)]
    simp [hz]
    exact fun e => absurd e h
theorem or2_loop (b : Bool) (p : Part) (hl : p.recs.length ≤ 9223372036854775806) (k : Nat) : LoopOk Tryz.prog 47 9 (loopAt Tryz.prog 47 9) ⟨orT2 b p k, orM2 b p k, []⟩ ((orO p k).map (lout jX9 orS2)) := by
  refine loop_vcH (o := orO p) (stT := orT2 b p) (stM := orM2 b p) Tryz.mixed (fun _ => rfl) (fun k => (vcOr2_eq b p k).mpr ?_) k
  unfold vcOr2
  by_cases h : k < p.recs.length
  · have hw : IntKind.i64.wrap ((k : Int) + 1) = ((k + 1 : Nat) : Int) := by rw [wrap_i64 (by omega) (by omega)]; omega
    have hs := knR_step h
    have hf := orFrom_step h
    have hz : decide ((k : Int) < p.recs.length) = true := by simp; omega
    have ho : okO p k = (hasK p.rng (p.recs.getD k default).key && (!decide ((p.recs.getD k default).seq ≤ (knR (p.recs.take k)).sel (p.recs.getD k default).prod) && !decide ((knP p.prods).sel (p.recs.getD k default).prod < (p.recs.getD k default).seq))) := rfl
    rw [Int.toNat_natCast]
    simp only [hz, hf, ho]
    generalize p.recs.getD k default = x at *
    generalize knR (p.recs.take k) = s at *
    cases h1 : hasK p.rng x.key
    · simp
    · by_cases h2 : x.seq ≤ s.sel x.prod
      · simp [h2]
      · by_cases h3 : (knP p.prods).sel x.prod < x.seq
        · simp [h2, h3]
        · simp [h2, h3]
          refine Exists.intro (k + 1) ?_
          rw [hs]
          refine ⟨by omega, ⟨hw, fun y => ⟨rfl, fun _ => rfl⟩⟩, ?_⟩
          cases orFrom p (k + 1) <;> simp
  · have hz : decide ((k : Int) < p.recs.length) = false := by simp; omega
    simp only [hz, orFrom_end (p := p) (k := k) (by omega)]
    simp
theorem or_c (b : Bool) (p : Part) (h1 : p.prods.length ≤ 9223372036854775806) (h2 : p.recs.length ≤ 9223372036854775806) : (boolR (orFrom p 0)).Sat (ACall' Tryz.prog 47 [.agg (encPt b p)] []) := by
  refine ctr_vc (ht := orH b p) Tryz.mixed rfl ?_
  rw [vcOr_eq b p]
  unfold vcOr
  have l1 := or1_loop b p h1 0
  have l2 := or2_loop b p h2 0
  rw [List.take_zero] at l1
  simp [l1, l2]
noncomputable def orC (b : Bool) (p : Part) : Ctr Tryz.prog := ⟨47, [.agg (encPt b p)], [], .need (p.prods.length ≤ 9223372036854775806 ∧ p.recs.length ≤ 9223372036854775806) (boolR (orFrom p 0)), T.Sat.need fun h => or_c b p h.1 h.2⟩
end Go.Proofs.YtnbhdjadlbhknaaGreatDoor

namespace Go.Proofs.YtnbhdjadlbhknaaGreatDoor
open Go.Ax
set_option maxRecDepth 1000000
def lostB (p : Part) (x : P.Producer) : Bool := x.here && (decide ((p.recs.length : Int) ≤ x.offset) || ((p.recs.getD x.offset.toNat default).prod != x.id || (p.recs.getD x.offset.toNat default).seq != x.seq))
def lostE (b : Bool) (p : Part) : List AV := [.ip false 1 (get [.y (.int .u64 (IntKind.u64.wrap p.recs.length))]), .ip false 7 (get (encPt b p))]
def vcLost (b : Bool) (p : Part) (x : P.Producer) : Prop :=
  (x.here = true → (decide (IntKind.wrap IntKind.u64 (↑(List.length p.recs) : Int) ≤ x.offset) = true → true = lostB p x ∧ True) ∧ (decide (IntKind.wrap IntKind.u64 (↑(List.length p.recs) : Int) ≤ x.offset) = false → (decide ((0 : Int) ≤ x.offset) && decide (x.offset < (↑(List.length p.recs) : Int))) = true ∧ (((List.getD p.recs (Int.toNat x.offset) (@default Rec instInhabitedRec)).prod != x.id) = true → true = lostB p x ∧ True) ∧ (((List.getD p.recs (Int.toNat x.offset) (@default Rec instInhabitedRec)).prod != x.id) = false → (decide ((0 : Int) ≤ x.offset) && decide (x.offset < (↑(List.length p.recs) : Int))) = true ∧ ((List.getD p.recs (Int.toNat x.offset) (@default Rec instInhabitedRec)).seq != x.seq) = lostB p x ∧ True))) ∧ (x.here = false → false = lostB p x ∧ True)
theorem vcLost_eq (b : Bool) (p : Part) (x : P.Producer) : (ctrVC Tryz.prog (hT _) 42 ([.agg (P.encP x)] ++ lostE b p) [] (boolR (lostB p x))) = vcLost b p x := by kernel_rfl
def aheadB (n : Nat) (x : Con) : Bool := decide ((n : Int) < x.off)
def aheadE (n : Nat) : List AV := [.ip false 1 (get [.y (.int .u64 (IntKind.u64.wrap n))])]
def vcAhead (n : Nat) (x : Con) : Prop :=
  decide (IntKind.wrap IntKind.u64 (↑n : Int) < x.off) = aheadB n x ∧ True
theorem vcAhead_eq (n : Nat) (x : Con) : (ctrVC Tryz.prog (hT _) 43 ([.agg (encC x)] ++ aheadE n) [] (boolR (aheadB n x))) = vcAhead n x := by kernel_rfl
theorem lost_c (b : Bool) (p : Part) (x : P.Producer) (h1 : p.recs.length ≤ 9223372036854775806) (h2 : 0 ≤ x.offset) : (boolR (lostB p x)).Sat (ACall' Tryz.prog 42 ([.agg (P.encP x)] ++ lostE b p) []) := by
  refine ctr_vc (ht := hT _) Tryz.mixed rfl ?_
  rw [vcLost_eq b p x]
  unfold vcLost
  have hw : IntKind.u64.wrap (p.recs.length : Int) = p.recs.length := wrap_u64 (by omega) (by omega)
  simp only [hw]
  unfold lostB
  generalize p.recs.getD x.offset.toNat default = y
  cases hh : x.here
  · simp
  · by_cases h3 : (p.recs.length : Int) ≤ x.offset
    · simp [h3]
    · have h4 : x.offset < p.recs.length := by omega
      by_cases h5 : y.prod = x.id <;> by_cases h6 : y.seq = x.seq <;> simp [h3, h4, h2, h5, h6]
theorem ahead_c (n : Nat) (x : Con) (h1 : n ≤ 9223372036854775806) : (boolR (aheadB n x)).Sat (ACall' Tryz.prog 43 ([.agg (encC x)] ++ aheadE n) []) := by
  refine ctr_vc (ht := hT _) Tryz.mixed rfl ?_
  rw [vcAhead_eq n x]
  unfold vcAhead
  have hw : IntKind.u64.wrap (n : Int) = n := wrap_u64 (by omega) (by omega)
  simp [hw, aheadB]
def loFn (b : Bool) (p : Part) : AV := .fn (.func 42) [] (lostE b p)
def loAny (b : Bool) (p : Part) (l : List P.Producer) : Bool := l.any (lostB p)
theorem loAny_nil (b : Bool) (p : Part) : loAny b p [] = false := rfl
theorem loAny_cons (b : Bool) (p : Part) (y : P.Producer) (l : List P.Producer) : loAny b p (y :: l) = (lostB p y || loAny b p l) := rfl
noncomputable def loC (b : Bool) (p : Part) (x : P.Producer) : Ctr Tryz.prog := ⟨42, [.agg (P.encP x)] ++ (lostE b p), [], .need (p.recs.length ≤ 9223372036854775806 ∧ 0 ≤ x.offset) (boolR (lostB p x)), T.Sat.need fun h => lost_c b p x h.1 h.2⟩
def loT (b : Bool) (p : Part) (bb : Bool) (l : List P.Producer) (k : Nat) : List AV := mkT 19 [(0, .ys bb 4 l.length (cellsOf' P.encP l)), (1, loFn b p), (4, .s (.int .i64 0)), (7, .y (.int .i64 l.length)), (8, .y (.int .i64 k))]
def loS (r : Bool × Nat) : Exit × List AV × List Blk := match r.1 with
  | true => (.ret, mkT 19 [(4, .y (.int .i64 r.2))], [])
  | false => (.exit 0, mkT 19 [], [])
def loO (b : Bool) (p : Part) (l : List P.Producer) (k : Nat) : T (Bool × Nat) := .ite (loAny b p (l.drop k)) (.ret (true, k + (l.drop k).findIdx (lostB p))) (.ret (false, 0))
noncomputable def loHL (b : Bool) (p : Part) (l : List P.Producer) (k : Nat) : HintsT Tryz.prog := hh _ noLp (cs1 116 4 5 (loC b p (l.getD k default)) noCs) noOp
def vcloL (b : Bool) (p : Part) (bb : Bool) (l : List P.Producer) (k : Nat) : Prop :=
  (decide ((↑k : Int) < (↑(List.length l) : Int)) = true → (true && decide ((↑k : Int) < (↑(List.length l) : Int))) = true ∧ (((List.getD l (Int.toNat (↑k : Int)) (@default P.Producer P.instInhabitedProducer)).id = (List.getD l k (@default P.Producer P.instInhabitedProducer)).id ∧ (List.getD l (Int.toNat (↑k : Int)) (@default P.Producer P.instInhabitedProducer)).seq = (List.getD l k (@default P.Producer P.instInhabitedProducer)).seq ∧ (List.getD l (Int.toNat (↑k : Int)) (@default P.Producer P.instInhabitedProducer)).here = (List.getD l k (@default P.Producer P.instInhabitedProducer)).here ∧ (List.getD l (Int.toNat (↑k : Int)) (@default P.Producer P.instInhabitedProducer)).offset = (List.getD l k (@default P.Producer P.instInhabitedProducer)).offset ∧ True) ∧ (false = false ∧ (1 : Nat) ≤ (1 : Nat) ∧ cellLe (1 : Nat) (Ax.get [AV.y (Value.int IntKind.u64 (IntKind.wrap IntKind.u64 (↑(List.length p.recs) : Int)))]) (Ax.get [AV.y (Value.int IntKind.u64 (IntKind.wrap IntKind.u64 (↑(List.length p.recs) : Int)))])) ∧ (false = false ∧ (7 : Nat) ≤ (7 : Nat) ∧ cellLe (7 : Nat) (Ax.get [AV.y (Value.string p.rng.lo), AV.y (Value.string p.rng.hi), AV.y (Value.int IntKind.u64 p.epoch), AV.y (Value.int IntKind.u64 p.frozen), AV.ys b (5 : Nat) (List.length p.recs) (cellsOf' encR p.recs), AV.ys b (4 : Nat) (List.length p.prods) (cellsOf' P.encP p.prods), AV.ys b (2 : Nat) (List.length p.cons) (cellsOf' encC p.cons)]) (Ax.get [AV.y (Value.string p.rng.lo), AV.y (Value.string p.rng.hi), AV.y (Value.int IntKind.u64 p.epoch), AV.y (Value.int IntKind.u64 p.frozen), AV.ys b (5 : Nat) (List.length p.recs) (cellsOf' encR p.recs), AV.ys b (4 : Nat) (List.length p.prods) (cellsOf' P.encP p.prods), AV.ys b (2 : Nat) (List.length p.cons) (cellsOf' encC p.cons)])) ∧ True) ∧ True ∧ (List.length p.recs ≤ (9223372036854775806 : Nat) ∧ (0 : Int) ≤ (List.getD l k (@default P.Producer P.instInhabitedProducer)).offset) ∧ (lostB p (List.getD l k (@default P.Producer P.instInhabitedProducer)) = true → (loAny b p (List.drop k l) = true → ((↑k : Int) = (↑(k + List.findIdx (lostB p) (List.drop k l)) : Int) ∧ True) ∧ True ∧ true = true) ∧ (loAny b p (List.drop k l) = false → False)) ∧ (lostB p (List.getD l k (@default P.Producer P.instInhabitedProducer)) = false → ∃ (j : Nat), List.length l - j < List.length l - k ∧ (((bb = bb ∧ List.length l = List.length l ∧ contLe (List.length l) (4 : Nat) (cellsOf' P.encP l) (cellsOf' P.encP l)) ∧ (True ∧ (false = false ∧ (1 : Nat) ≤ (1 : Nat) ∧ cellLe (1 : Nat) (Ax.get [AV.y (Value.int IntKind.u64 (IntKind.wrap IntKind.u64 (↑(List.length p.recs) : Int)))]) (Ax.get [AV.y (Value.int IntKind.u64 (IntKind.wrap IntKind.u64 (↑(List.length p.recs) : Int)))])) ∧ (false = false ∧ (7 : Nat) ≤ (7 : Nat) ∧ cellLe (7 : Nat) (Ax.get [AV.y (Value.string p.rng.lo), AV.y (Value.string p.rng.hi), AV.y (Value.int IntKind.u64 p.epoch), AV.y (Value.int IntKind.u64 p.frozen), AV.ys b (5 : Nat) (List.length p.recs) (cellsOf' encR p.recs), AV.ys b (4 : Nat) (List.length p.prods) (cellsOf' P.encP p.prods), AV.ys b (2 : Nat) (List.length p.cons) (cellsOf' encC p.cons)]) (Ax.get [AV.y (Value.string p.rng.lo), AV.y (Value.string p.rng.hi), AV.y (Value.int IntKind.u64 p.epoch), AV.y (Value.int IntKind.u64 p.frozen), AV.ys b (5 : Nat) (List.length p.recs) (cellsOf' encR p.recs), AV.ys b (4 : Nat) (List.length p.prods) (cellsOf' P.encP p.prods), AV.ys b (2 : Nat) (List.length p.cons) (cellsOf' encC p.cons)])) ∧ True) ∧ (0 : Int) = (0 : Int) ∧ (↑(List.length l) : Int) = (↑(List.length l) : Int) ∧ IntKind.wrap IntKind.i64 ((↑k : Int) + (1 : Int)) = (↑j : Int) ∧ True) ∧ True ∧ true = true) ∧ true = true ∧ (loAny b p (List.drop j l) = true → (loAny b p (List.drop k l) = true → (true, j + List.findIdx (lostB p) (List.drop j l)) = (true, k + List.findIdx (lostB p) (List.drop k l))) ∧ (loAny b p (List.drop k l) = false → (true, j + List.findIdx (lostB p) (List.drop j l)) = (false, (0 : Nat)))) ∧ (loAny b p (List.drop j l) = false → (loAny b p (List.drop k l) = true → (false, (0 : Nat)) = (true, k + List.findIdx (lostB p) (List.drop k l))) ∧ (loAny b p (List.drop k l) = false → (false, (0 : Nat)) = (false, (0 : Nat)))))) ∧ (decide ((↑k : Int) < (↑(List.length l) : Int)) = false → (loAny b p (List.drop k l) = true → False) ∧ (loAny b p (List.drop k l) = false → True ∧ True ∧ true = true))
theorem vcloL_eq (b : Bool) (p : Part) (bb : Bool) (l : List P.Producer) (k : Nat) : (loopVC Tryz.prog (loHL b p l k) 116 2 (fun k => l.length - k) (loT b p bb l) (fun _ => []) [0] (loO b p l) loS k) = vcloL b p bb l k := by kernel_rfl
theorem lo_loop (b : Bool) (p : Part) (bb : Bool) (l : List P.Producer) (hl : l.length ≤ 9223372036854775806) (hn : ∀ k, k < l.length → (p.recs.length ≤ 9223372036854775806 ∧ 0 ≤ (l.getD k default).offset)) (k : Nat) : LoopOk Tryz.prog 116 2 (loopAt Tryz.prog 116 2) ⟨loT b p bb l k, [], []⟩ ((loO b p l k).map (lout [0] loS)) := by
  refine loop_vcH (ht := fun k => loHL b p l k) Tryz.mixed (fun _ => rfl) (fun k => (vcloL_eq b p bb l k).mpr ?_) k
  unfold vcloL
  by_cases h : k < l.length
  · have hw : IntKind.i64.wrap ((k : Int) + 1) = ((k + 1 : Nat) : Int) := by rw [wrap_i64 (by omega) (by omega)]; omega
    have hz : decide ((k : Int) < l.length) = true := by simp; omega
    have hd : l.drop k = l.getD k default :: l.drop (k + 1) := by rw [drop_cons h]; simp
    have hk := hn k h
    rw [Int.toNat_natCast]
    simp only [hz, hd, loAny_cons, List.findIdx_cons]
    generalize l.getD k default = y at *
    cases hp : lostB p y
    · simp [hw, hk]
      exact ⟨k + 1, by omega, by omega, by grind⟩
    · simp [hk]
  · have hz : decide ((k : Int) < l.length) = false := by simp; omega
    simp only [hz, drop_end (Nat.le_of_not_lt h), loAny_nil]
    simp
noncomputable def loH (b : Bool) (p : Part) (bb : Bool) (l : List P.Producer) : HintsT Tryz.prog := hh _ (lp1 116 2 (jobOf (loT b p bb l) (fun _ => []) [0] (loO b p l) loS 0) noLp) noCs noOp
def vcloF (b : Bool) (p : Part) (bb : Bool) (l : List P.Producer) : Prop :=
  (((bb = bb ∧ List.length l = List.length l ∧ contLe (List.length l) (4 : Nat) (cellsOf' P.encP l) (cellsOf' P.encP l)) ∧ (True ∧ (false = false ∧ (1 : Nat) ≤ (1 : Nat) ∧ cellLe (1 : Nat) (Ax.get [AV.y (Value.int IntKind.u64 (IntKind.wrap IntKind.u64 (↑(List.length p.recs) : Int)))]) (Ax.get [AV.y (Value.int IntKind.u64 (IntKind.wrap IntKind.u64 (↑(List.length p.recs) : Int)))])) ∧ (false = false ∧ (7 : Nat) ≤ (7 : Nat) ∧ cellLe (7 : Nat) (Ax.get [AV.y (Value.string p.rng.lo), AV.y (Value.string p.rng.hi), AV.y (Value.int IntKind.u64 p.epoch), AV.y (Value.int IntKind.u64 p.frozen), AV.ys b (5 : Nat) (List.length p.recs) (cellsOf' encR p.recs), AV.ys b (4 : Nat) (List.length p.prods) (cellsOf' P.encP p.prods), AV.ys b (2 : Nat) (List.length p.cons) (cellsOf' encC p.cons)]) (Ax.get [AV.y (Value.string p.rng.lo), AV.y (Value.string p.rng.hi), AV.y (Value.int IntKind.u64 p.epoch), AV.y (Value.int IntKind.u64 p.frozen), AV.ys b (5 : Nat) (List.length p.recs) (cellsOf' encR p.recs), AV.ys b (4 : Nat) (List.length p.prods) (cellsOf' P.encP p.prods), AV.ys b (2 : Nat) (List.length p.cons) (cellsOf' encC p.cons)])) ∧ True) ∧ (0 : Int) = (0 : Int) ∧ (↑(List.length l) : Int) = (↑(List.length l) : Int) ∧ (0 : Int) = (0 : Int) ∧ True) ∧ True ∧ true = true) ∧ LoopOk Tryz.prog (116 : Nat) (2 : Nat) (loopAt Tryz.prog (116 : Nat) (2 : Nat)) { t := loT b p bb l (0 : Nat), m := [], mv := [] : St } (T.map (lout [(0 : Nat)] loS) (loO b p l (0 : Nat))) ∧ (loAny b p (List.drop (0 : Nat) l) = true → true = loAny b p l ∧ True) ∧ (loAny b p (List.drop (0 : Nat) l) = false → false = loAny b p l ∧ True)
theorem vcloF_eq (b : Bool) (p : Part) (bb : Bool) (l : List P.Producer) : (ctrVC Tryz.prog (loH b p bb l) 48 [.ys bb 4 l.length (cellsOf' P.encP l), loFn b p] [] (boolR (loAny b p l))) = vcloF b p bb l := by kernel_rfl
theorem lo_has (b : Bool) (p : Part) (bb : Bool) (l : List P.Producer) (hl : l.length ≤ 9223372036854775806) (hn : ∀ k, k < l.length → (p.recs.length ≤ 9223372036854775806 ∧ 0 ≤ (l.getD k default).offset)) : (boolR (loAny b p l)).Sat (ACall' Tryz.prog 48 [.ys bb 4 l.length (cellsOf' P.encP l), loFn b p] []) := by
  refine ctr_vc (ht := loH b p bb l) Tryz.mixed rfl ?_
  rw [vcloF_eq b p bb l]
  unfold vcloF
  have := lo_loop b p bb l hl hn 0
  simp [this]
noncomputable def loHas (b : Bool) (p : Part) (bb : Bool) (l : List P.Producer) : Ctr Tryz.prog := ⟨48, [.ys bb 4 l.length (cellsOf' P.encP l), loFn b p], [], .need (l.length ≤ 9223372036854775806 ∧ ∀ k, k < l.length → (p.recs.length ≤ 9223372036854775806 ∧ 0 ≤ (l.getD k default).offset)) (boolR (loAny b p l)), T.Sat.need fun h => lo_has b p bb l h.1 h.2⟩
def ahFn (m : Nat) : AV := .fn (.func 43) [] (aheadE m)
def ahAny (m : Nat) (l : List Con) : Bool := l.any (aheadB m)
theorem ahAny_nil (m : Nat) : ahAny m [] = false := rfl
theorem ahAny_cons (m : Nat) (y : Con) (l : List Con) : ahAny m (y :: l) = (aheadB m y || ahAny m l) := rfl
noncomputable def ahC (m : Nat) (x : Con) : Ctr Tryz.prog := ⟨43, [.agg (encC x)] ++ (aheadE m), [], .need (m ≤ 9223372036854775806) (boolR (aheadB m x)), T.Sat.need fun h => ahead_c m x h⟩
def ahT (m : Nat) (bb : Bool) (l : List Con) (k : Nat) : List AV := mkT 19 [(0, .ys bb 2 l.length (cellsOf' encC l)), (1, ahFn m), (4, .s (.int .i64 0)), (7, .y (.int .i64 l.length)), (8, .y (.int .i64 k))]
def ahS (r : Bool × Nat) : Exit × List AV × List Blk := match r.1 with
  | true => (.ret, mkT 19 [(4, .y (.int .i64 r.2))], [])
  | false => (.exit 0, mkT 19 [], [])
def ahO (m : Nat) (l : List Con) (k : Nat) : T (Bool × Nat) := .ite (ahAny m (l.drop k)) (.ret (true, k + (l.drop k).findIdx (aheadB m))) (.ret (false, 0))
noncomputable def ahHL (m : Nat) (l : List Con) (k : Nat) : HintsT Tryz.prog := hh _ noLp (cs1 117 4 5 (ahC m (l.getD k default)) noCs) noOp
def vcahL (m : Nat) (bb : Bool) (l : List Con) (k : Nat) : Prop :=
  (decide ((↑k : Int) < (↑(List.length l) : Int)) = true → (true && decide ((↑k : Int) < (↑(List.length l) : Int))) = true ∧ (((List.getD l (Int.toNat (↑k : Int)) (@default Con instInhabitedCon)).name = (List.getD l k (@default Con instInhabitedCon)).name ∧ (List.getD l (Int.toNat (↑k : Int)) (@default Con instInhabitedCon)).off = (List.getD l k (@default Con instInhabitedCon)).off ∧ True) ∧ (false = false ∧ (1 : Nat) ≤ (1 : Nat) ∧ cellLe (1 : Nat) (Ax.get [AV.y (Value.int IntKind.u64 (IntKind.wrap IntKind.u64 (↑m : Int)))]) (Ax.get [AV.y (Value.int IntKind.u64 (IntKind.wrap IntKind.u64 (↑m : Int)))])) ∧ True) ∧ True ∧ m ≤ (9223372036854775806 : Nat) ∧ (aheadB m (List.getD l k (@default Con instInhabitedCon)) = true → (ahAny m (List.drop k l) = true → ((↑k : Int) = (↑(k + List.findIdx (aheadB m) (List.drop k l)) : Int) ∧ True) ∧ True ∧ true = true) ∧ (ahAny m (List.drop k l) = false → False)) ∧ (aheadB m (List.getD l k (@default Con instInhabitedCon)) = false → ∃ (j : Nat), List.length l - j < List.length l - k ∧ (((bb = bb ∧ List.length l = List.length l ∧ contLe (List.length l) (2 : Nat) (cellsOf' encC l) (cellsOf' encC l)) ∧ (True ∧ (false = false ∧ (1 : Nat) ≤ (1 : Nat) ∧ cellLe (1 : Nat) (Ax.get [AV.y (Value.int IntKind.u64 (IntKind.wrap IntKind.u64 (↑m : Int)))]) (Ax.get [AV.y (Value.int IntKind.u64 (IntKind.wrap IntKind.u64 (↑m : Int)))])) ∧ True) ∧ (0 : Int) = (0 : Int) ∧ (↑(List.length l) : Int) = (↑(List.length l) : Int) ∧ IntKind.wrap IntKind.i64 ((↑k : Int) + (1 : Int)) = (↑j : Int) ∧ True) ∧ True ∧ true = true) ∧ true = true ∧ (ahAny m (List.drop j l) = true → (ahAny m (List.drop k l) = true → (true, j + List.findIdx (aheadB m) (List.drop j l)) = (true, k + List.findIdx (aheadB m) (List.drop k l))) ∧ (ahAny m (List.drop k l) = false → (true, j + List.findIdx (aheadB m) (List.drop j l)) = (false, (0 : Nat)))) ∧ (ahAny m (List.drop j l) = false → (ahAny m (List.drop k l) = true → (false, (0 : Nat)) = (true, k + List.findIdx (aheadB m) (List.drop k l))) ∧ (ahAny m (List.drop k l) = false → (false, (0 : Nat)) = (false, (0 : Nat)))))) ∧ (decide ((↑k : Int) < (↑(List.length l) : Int)) = false → (ahAny m (List.drop k l) = true → False) ∧ (ahAny m (List.drop k l) = false → True ∧ True ∧ true = true))
theorem vcahL_eq (m : Nat) (bb : Bool) (l : List Con) (k : Nat) : (loopVC Tryz.prog (ahHL m l k) 117 2 (fun k => l.length - k) (ahT m bb l) (fun _ => []) [0] (ahO m l) ahS k) = vcahL m bb l k := by kernel_rfl
theorem ah_loop (m : Nat) (bb : Bool) (l : List Con) (hl : l.length ≤ 9223372036854775806) (hn : ∀ k, k < l.length → (m ≤ 9223372036854775806)) (k : Nat) : LoopOk Tryz.prog 117 2 (loopAt Tryz.prog 117 2) ⟨ahT m bb l k, [], []⟩ ((ahO m l k).map (lout [0] ahS)) := by
  refine loop_vcH (ht := fun k => ahHL m l k) Tryz.mixed (fun _ => rfl) (fun k => (vcahL_eq m bb l k).mpr ?_) k
  unfold vcahL
  by_cases h : k < l.length
  · have hw : IntKind.i64.wrap ((k : Int) + 1) = ((k + 1 : Nat) : Int) := by rw [wrap_i64 (by omega) (by omega)]; omega
    have hz : decide ((k : Int) < l.length) = true := by simp; omega
    have hd : l.drop k = l.getD k default :: l.drop (k + 1) := by rw [drop_cons h]; simp
    have hk := hn k h
    rw [Int.toNat_natCast]
    simp only [hz, hd, ahAny_cons, List.findIdx_cons]
    generalize l.getD k default = y at *
    cases hp : aheadB m y
    · simp [hw, hk]
      exact ⟨k + 1, by omega, by omega, by grind⟩
    · simp [hk]
  · have hz : decide ((k : Int) < l.length) = false := by simp; omega
    simp only [hz, drop_end (Nat.le_of_not_lt h), ahAny_nil]
    simp
noncomputable def ahH (m : Nat) (bb : Bool) (l : List Con) : HintsT Tryz.prog := hh _ (lp1 117 2 (jobOf (ahT m bb l) (fun _ => []) [0] (ahO m l) ahS 0) noLp) noCs noOp
def vcahF (m : Nat) (bb : Bool) (l : List Con) : Prop :=
  (((bb = bb ∧ List.length l = List.length l ∧ contLe (List.length l) (2 : Nat) (cellsOf' encC l) (cellsOf' encC l)) ∧ (True ∧ (false = false ∧ (1 : Nat) ≤ (1 : Nat) ∧ cellLe (1 : Nat) (Ax.get [AV.y (Value.int IntKind.u64 (IntKind.wrap IntKind.u64 (↑m : Int)))]) (Ax.get [AV.y (Value.int IntKind.u64 (IntKind.wrap IntKind.u64 (↑m : Int)))])) ∧ True) ∧ (0 : Int) = (0 : Int) ∧ (↑(List.length l) : Int) = (↑(List.length l) : Int) ∧ (0 : Int) = (0 : Int) ∧ True) ∧ True ∧ true = true) ∧ LoopOk Tryz.prog (117 : Nat) (2 : Nat) (loopAt Tryz.prog (117 : Nat) (2 : Nat)) { t := ahT m bb l (0 : Nat), m := [], mv := [] : St } (T.map (lout [(0 : Nat)] ahS) (ahO m l (0 : Nat))) ∧ (ahAny m (List.drop (0 : Nat) l) = true → true = ahAny m l ∧ True) ∧ (ahAny m (List.drop (0 : Nat) l) = false → false = ahAny m l ∧ True)
theorem vcahF_eq (m : Nat) (bb : Bool) (l : List Con) : (ctrVC Tryz.prog (ahH m bb l) 49 [.ys bb 2 l.length (cellsOf' encC l), ahFn m] [] (boolR (ahAny m l))) = vcahF m bb l := by kernel_rfl
theorem ah_has (m : Nat) (bb : Bool) (l : List Con) (hl : l.length ≤ 9223372036854775806) (hn : ∀ k, k < l.length → (m ≤ 9223372036854775806)) : (boolR (ahAny m l)).Sat (ACall' Tryz.prog 49 [.ys bb 2 l.length (cellsOf' encC l), ahFn m] []) := by
  refine ctr_vc (ht := ahH m bb l) Tryz.mixed rfl ?_
  rw [vcahF_eq m bb l]
  unfold vcahF
  have := ah_loop m bb l hl hn 0
  simp [this]
noncomputable def ahHas (m : Nat) (bb : Bool) (l : List Con) : Ctr Tryz.prog := ⟨49, [.ys bb 2 l.length (cellsOf' encC l), ahFn m], [], .need (l.length ≤ 9223372036854775806 ∧ ∀ k, k < l.length → (m ≤ 9223372036854775806)) (boolR (ahAny m l)), T.Sat.need fun h => ah_has m bb l h.1 h.2⟩
end Go.Proofs.YtnbhdjadlbhknaaGreatDoor

namespace Go.Proofs.YtnbhdjadlbhknaaGreatDoor
open Go.Ax
set_option maxRecDepth 1000000
def partOk (p : Part) : Bool := (chkK p.rng == 0) && (!(p.epoch == 0) && (isLog p.recs && (P.isTable p.prods && (isCons p.cons && (orFrom p 0 && (!p.prods.any (lostB p) && !p.cons.any (aheadB p.recs.length)))))))
def errR (b : Bool) (e : Int) : T An := .ite b (.ret (.s (.int .i64 0), [], [])) (.ret (.s (.int .i64 e), [], []))
noncomputable def pcH (b : Bool) (p : Part) : HintsT Tryz.prog := hh _ noLp
  (cs1 14 4 2 (chkC p.rng) (cs1 14 6 2 (lgC b p.recs) (cs1 14 7 2 (P.tabN b p.prods) (cs1 14 8 2 (coC b p.cons)
  (cs1 14 10 1 (orC b p) (cs1 14 11 3 (loHas b p b p.prods) (cs1 14 12 3 (ahHas p.recs.length b p.cons) noCs))))))) noOp
def vcPc (b : Bool) (p : Part) : Prop :=
  ((p.rng.lo = p.rng.lo ∧ p.rng.hi = p.rng.hi ∧ True) ∧ True) ∧ True ∧ ((chkK p.rng != (0 : Int)) = true → (partOk p = true → (165 : Int) = (0 : Int) ∧ True) ∧ (partOk p = false → (165 : Int) = (165 : Int) ∧ True)) ∧ ((chkK p.rng != (0 : Int)) = false → ((p.epoch == (0 : Int)) = true → (partOk p = true → (165 : Int) = (0 : Int) ∧ True) ∧ (partOk p = false → (165 : Int) = (165 : Int) ∧ True)) ∧ ((p.epoch == (0 : Int)) = false → ((b = b ∧ List.length p.recs = List.length p.recs ∧ contLe (List.length p.recs) (5 : Nat) (cellsOf' encR p.recs) (cellsOf' encR p.recs)) ∧ True) ∧ True ∧ List.length p.recs ≤ (9223372036854775806 : Nat) ∧ ((!isLog p.recs) = true → (partOk p = true → (165 : Int) = (0 : Int) ∧ True) ∧ (partOk p = false → (165 : Int) = (165 : Int) ∧ True)) ∧ ((!isLog p.recs) = false → ((b = b ∧ List.length p.prods = List.length p.prods ∧ contLe (List.length p.prods) (4 : Nat) (cellsOf' P.encP p.prods) (cellsOf' P.encP p.prods)) ∧ True) ∧ True ∧ List.length p.prods ≤ (9223372036854775806 : Nat) ∧ ((!P.isTable p.prods) = true → (partOk p = true → (165 : Int) = (0 : Int) ∧ True) ∧ (partOk p = false → (165 : Int) = (165 : Int) ∧ True)) ∧ ((!P.isTable p.prods) = false → ((b = b ∧ List.length p.cons = List.length p.cons ∧ contLe (List.length p.cons) (2 : Nat) (cellsOf' encC p.cons) (cellsOf' encC p.cons)) ∧ True) ∧ True ∧ List.length p.cons ≤ (9223372036854775806 : Nat) ∧ ((!isCons p.cons) = true → (partOk p = true → (165 : Int) = (0 : Int) ∧ True) ∧ (partOk p = false → (165 : Int) = (165 : Int) ∧ True)) ∧ ((!isCons p.cons) = false → ((ptLe b b p p) ∧ True) ∧ True ∧ (List.length p.prods ≤ (9223372036854775806 : Nat) ∧ List.length p.recs ≤ (9223372036854775806 : Nat)) ∧ ((!orFrom p (0 : Nat)) = true → (partOk p = true → (165 : Int) = (0 : Int) ∧ True) ∧ (partOk p = false → (165 : Int) = (165 : Int) ∧ True)) ∧ ((!orFrom p (0 : Nat)) = false → ((b = b ∧ List.length p.prods = List.length p.prods ∧ contLe (List.length p.prods) (4 : Nat) (cellsOf' P.encP p.prods) (cellsOf' P.encP p.prods)) ∧ (True ∧ (false = false ∧ (1 : Nat) ≤ (1 : Nat) ∧ cellLe (1 : Nat) (fun (j : Nat) => Ax.get [AV.y (Value.int IntKind.u64 (IntKind.wrap IntKind.u64 (↑(List.length p.recs) : Int)))] ((0 : Nat) + j)) (Ax.get [AV.y (Value.int IntKind.u64 (IntKind.wrap IntKind.u64 (↑(List.length p.recs) : Int)))])) ∧ (false = false ∧ (7 : Nat) ≤ (7 : Nat) ∧ cellLe (7 : Nat) (fun (j : Nat) => Ax.get [AV.y (Value.string p.rng.lo), AV.y (Value.string p.rng.hi), AV.y (Value.int IntKind.u64 p.epoch), AV.y (Value.int IntKind.u64 p.frozen), AV.ys b (5 : Nat) (List.length p.recs) (cellsOf' encR p.recs), AV.ys b (4 : Nat) (List.length p.prods) (cellsOf' P.encP p.prods), AV.ys b (2 : Nat) (List.length p.cons) (cellsOf' encC p.cons)] ((0 : Nat) + j)) (Ax.get [AV.y (Value.string p.rng.lo), AV.y (Value.string p.rng.hi), AV.y (Value.int IntKind.u64 p.epoch), AV.y (Value.int IntKind.u64 p.frozen), AV.ys b (5 : Nat) (List.length p.recs) (cellsOf' encR p.recs), AV.ys b (4 : Nat) (List.length p.prods) (cellsOf' P.encP p.prods), AV.ys b (2 : Nat) (List.length p.cons) (cellsOf' encC p.cons)])) ∧ True) ∧ True) ∧ True ∧ (List.length p.prods ≤ (9223372036854775806 : Nat) ∧ ∀ (k : Nat), k < List.length p.prods → List.length p.recs ≤ (9223372036854775806 : Nat) ∧ (0 : Int) ≤ (List.getD p.prods k (@default P.Producer P.instInhabitedProducer)).offset) ∧ true = true ∧ True ∧ (loAny b p p.prods = true → (partOk p = true → (165 : Int) = (0 : Int) ∧ True) ∧ (partOk p = false → (165 : Int) = (165 : Int) ∧ True)) ∧ (loAny b p p.prods = false → ((b = b ∧ List.length p.cons = List.length p.cons ∧ contLe (List.length p.cons) (2 : Nat) (cellsOf' encC p.cons) (cellsOf' encC p.cons)) ∧ (True ∧ (false = false ∧ (1 : Nat) ≤ (1 : Nat) ∧ cellLe (1 : Nat) (fun (j : Nat) => Ax.get [AV.y (Value.int IntKind.u64 (IntKind.wrap IntKind.u64 (↑(List.length p.recs) : Int)))] ((0 : Nat) + j)) (Ax.get [AV.y (Value.int IntKind.u64 (IntKind.wrap IntKind.u64 (↑(List.length p.recs) : Int)))])) ∧ True) ∧ True) ∧ True ∧ (List.length p.cons ≤ (9223372036854775806 : Nat) ∧ ∀ (k : Nat), k < List.length p.cons → List.length p.recs ≤ (9223372036854775806 : Nat)) ∧ true = true ∧ True ∧ (ahAny (List.length p.recs) p.cons = true → (partOk p = true → (165 : Int) = (0 : Int) ∧ True) ∧ (partOk p = false → (165 : Int) = (165 : Int) ∧ True)) ∧ (ahAny (List.length p.recs) p.cons = false → (partOk p = true → (0 : Int) = (0 : Int) ∧ True) ∧ (partOk p = false → (0 : Int) = (165 : Int) ∧ True)))))))))
theorem vcPc_eq (b : Bool) (p : Part) : (ctrVC Tryz.prog (pcH b p) 14 [.agg (encPt b p)] [] (errR (partOk p) 165)) = vcPc b p := by kernel_rfl
structure PartIn (p : Part) : Prop where
  rl : p.recs.length ≤ 4611686018427387903
  pl : p.prods.length ≤ 4611686018427387903
  cl : p.cons.length ≤ 4611686018427387903
  po : ∀ k, k < p.prods.length → 0 ≤ (p.prods.getD k default).offset
theorem pc_c (b : Bool) (p : Part) (h : PartIn p) : (errR (partOk p) 165).Sat (ACall' Tryz.prog 14 [.agg (encPt b p)] []) := by
  refine ctr_vc (ht := pcH b p) Tryz.mixed rfl ?_
  rw [vcPc_eq b p]
  unfold vcPc
  obtain ⟨h1, h2, h3, h4⟩ := h
  have e1 : loAny b p p.prods = p.prods.any (lostB p) := rfl
  have e2 : ahAny p.recs.length p.cons = p.cons.any (aheadB p.recs.length) := rfl
  have hw : IntKind.u64.wrap (p.recs.length : Int) = p.recs.length := wrap_u64 (by omega) (by omega)
  simp only [e1, e2, hw]
  unfold partOk
  have g1 : p.recs.length ≤ 9223372036854775806 := by omega
  have g2 : p.prods.length ≤ 9223372036854775806 := by omega
  have g3 : p.cons.length ≤ 9223372036854775806 := by omega
  generalize orFrom p 0 = a1
  generalize p.prods.any (lostB p) = a2
  generalize p.cons.any (aheadB p.recs.length) = a3
  generalize isLog p.recs = a4
  generalize P.isTable p.prods = a5
  generalize isCons p.cons = a6
  by_cases c1 : chkK p.rng = 0 <;> by_cases c2 : p.epoch = 0 <;> cases a1 <;> cases a2 <;> cases a3 <;> cases a4 <;> cases a5 <;> cases a6 <;> simp [c1, c2, g1, g2, g3] <;> exact h4
noncomputable def pcC (b : Bool) (p : Part) : Ctr Tryz.prog := ⟨14, [.agg (encPt b p)], [], .need (PartIn p) (errR (partOk p) 165), T.Sat.need fun h => pc_c b p h⟩
end Go.Proofs.YtnbhdjadlbhknaaGreatDoor
