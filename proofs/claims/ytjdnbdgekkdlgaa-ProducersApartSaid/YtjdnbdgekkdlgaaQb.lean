import Derived.Test.YtjdnbdgekkdlgaaQa
/-! Producers: what is found, what is said of a number. -/
namespace Go.Proofs.Ytjdnbdgekkdlgaa
open Go.Ax
set_option maxRecDepth 1000000
def has (id : Int) (x : Producer) : Bool := x.id == id
def findD (l : List Producer) (id : Int) : Producer := (l.find? (has id)).getD default
def findI (l : List Producer) (id : Int) : Bool := (l.find? (has id)).isSome
theorem findI_cons (x : Producer) (r : List Producer) (id : Int) : findI (x :: r) id = (x.id == id || findI r id) := by
  simp only [findI, List.find?_cons, has]
  cases h : x.id == id <;> simp
theorem findD_cons (x : Producer) (r : List Producer) (id : Int) : findD (x :: r) id = if x.id = id then x else findD r id := by
  simp only [findD, List.find?_cons, has]
  by_cases h : x.id = id
  · simp [h]
  · have h' : (x.id == id) = false := by simpa using h
    simp [h, h']
theorem idx_cons (x : Producer) (r : List Producer) (id : Int) : (x :: r).findIdx (has id) = if x.id = id then 0 else r.findIdx (has id) + 1 := by
  simp only [List.findIdx_cons, has]
  by_cases h : x.id = id
  · simp [h]
  · have h' : (x.id == id) = false := by simpa using h
    simp [h, h']
def zeroP : List AV := [.s (.int .u64 0), .s (.int .u64 0), .s (.bool false), .s (.int .u64 0)]
def fstT (b : Bool) (id : Int) (l : List Producer) (k : Nat) : List AV := mkT 21 [(1, .fn (.func 33) [] [.ip false 1 (fun _ => .y (.int .u64 id))]), (4, .ptr 0 0 0 0), (5, .s (.bool false)), (9, encPs b l), (10, .y (.int .i64 l.length)), (11, .y (.int .i64 k))]
def fstM : List Blk := [.box 39 zeroP]
def fstS (r : Bool × Producer) : Exit × List AV × List Blk := match r.1 with
  | true => (.ret, mkT 21 [(4, .ptr 0 0 0 0), (5, .s (.bool true))], [.box 39 (encP r.2)])
  | false => (.exit 0, mkT 21 [(4, .ptr 0 0 0 0), (5, .s (.bool false))], fstM)
def fstO (id : Int) (l : List Producer) (k : Nat) : T (Bool × Producer) := .ite (findI (l.drop k) id) (.ret (true, findD (l.drop k) id)) (.ret (false, default))
def vcFirstL (b : Bool) (id : Int) (l : List Producer) (k : Nat) : Prop :=
  (decide ((↑k : Int) < (↑(List.length l) : Int)) = true → (true && decide ((↑k : Int) < (↑(List.length l) : Int))) = true ∧ (((List.getD l (Int.toNat (↑k : Int)) (@default Producer instInhabitedProducer)).id == id) = true → (findI (List.drop k l) id = true → (((0 : Nat) = (0 : Nat) ∧ (0 : Nat) = (0 : Nat)) ∧ true = true ∧ True) ∧ (((List.getD l (Int.toNat (↑k : Int)) (@default Producer instInhabitedProducer)).id = (findD (List.drop k l) id).id ∧ (List.getD l (Int.toNat (↑k : Int)) (@default Producer instInhabitedProducer)).seq = (findD (List.drop k l) id).seq ∧ (List.getD l (Int.toNat (↑k : Int)) (@default Producer instInhabitedProducer)).here = (findD (List.drop k l) id).here ∧ (List.getD l (Int.toNat (↑k : Int)) (@default Producer instInhabitedProducer)).offset = (findD (List.drop k l) id).offset ∧ True) ∧ True) ∧ true = true) ∧ (findI (List.drop k l) id = false → False)) ∧ (((List.getD l (Int.toNat (↑k : Int)) (@default Producer instInhabitedProducer)).id == id) = false → ∃ (j : Nat), List.length l - j < List.length l - k ∧ (((True ∧ (false = false ∧ (1 : Nat) ≤ (1 : Nat) ∧ cellLe (1 : Nat) (fun (x : Nat) => AV.y (Value.int IntKind.u64 id)) fun (x : Nat) => AV.y (Value.int IntKind.u64 id)) ∧ True) ∧ ((0 : Nat) = (0 : Nat) ∧ (0 : Nat) = (0 : Nat)) ∧ false = false ∧ (b = b ∧ List.length l = List.length l ∧ contLe (List.length l) (4 : Nat) (cellsOf' encP l) (cellsOf' encP l)) ∧ (↑(List.length l) : Int) = (↑(List.length l) : Int) ∧ IntKind.wrap IntKind.i64 ((↑k : Int) + (1 : Int)) = (↑j : Int) ∧ True) ∧ (((0 : Int) = (0 : Int) ∧ (0 : Int) = (0 : Int) ∧ false = false ∧ (0 : Int) = (0 : Int) ∧ True) ∧ True) ∧ true = true) ∧ true = true ∧ (findI (List.drop j l) id = true → (findI (List.drop k l) id = true → (true, findD (List.drop j l) id) = (true, findD (List.drop k l) id)) ∧ (findI (List.drop k l) id = false → (true, findD (List.drop j l) id) = (false, @default Producer instInhabitedProducer))) ∧ (findI (List.drop j l) id = false → (findI (List.drop k l) id = true → (false, @default Producer instInhabitedProducer) = (true, findD (List.drop k l) id)) ∧ (findI (List.drop k l) id = false → (false, @default Producer instInhabitedProducer) = (false, @default Producer instInhabitedProducer))))) ∧ (decide ((↑k : Int) < (↑(List.length l) : Int)) = false → (findI (List.drop k l) id = true → False) ∧ (findI (List.drop k l) id = false → (((0 : Nat) = (0 : Nat) ∧ (0 : Nat) = (0 : Nat)) ∧ false = false ∧ True) ∧ (((0 : Int) = (0 : Int) ∧ (0 : Int) = (0 : Int) ∧ false = false ∧ (0 : Int) = (0 : Int) ∧ True) ∧ True) ∧ true = true))
set_option maxRecDepth 1000000 in
theorem vcFirstL_eq (b : Bool) (id : Int) (l : List Producer) (k : Nat) : (loopVC Try.prog (hT _) 32 2 (fun k => l.length - k) (fstT b id l) (fun _ => fstM) [0, 1, 2, 3] (fstO id l) fstS k) = vcFirstL b id l k := by kernel_rfl
theorem first_loop (b : Bool) (id : Int) (l : List Producer) (hl : l.length ≤ 9223372036854775806)  (k : Nat) : LoopOk Try.prog 32 2 (loopAt Try.prog 32 2) ⟨fstT b id l k, fstM, []⟩ ((fstO id l k).map (lout [0, 1, 2, 3] fstS)) := by
  refine loop_vc Try.mixed (fun _ => rfl) (fun k => (vcFirstL_eq b id l k).mpr ?_) k
  unfold vcFirstL
  simp
  refine ⟨fun h => ?_, fun h => by simp [findI, drop_end h]⟩
  simp (disch := omega) only [wrap_i64]
  rw [drop_cons h]
  simp only [findI_cons, findD_cons]
  generalize l[k]?.getD default = x
  by_cases hx : x.id = id <;> simp [hx, h, cast_succ_eq]
  refine ⟨k + 1, by omega, rfl, ?_⟩
  grind
noncomputable def findH (b : Bool) (l : List Producer) (id : Int) : HintsT Try.prog := hh _ (lp1 32 2 (jobOf (fstT b id l) (fun _ => fstM) [0, 1, 2, 3] (fstO id l) fstS 0) noLp) noCs noOp
def findR (l : List Producer) (id : Int) : T An := .ret (.tup [.agg (encP (findD l id)), .y (.bool (findI l id))], [], [])
def vcFind (b : Bool) (l : List Producer) (id : Int) : Prop :=
  (((True ∧ (false = false ∧ (1 : Nat) ≤ (1 : Nat) ∧ cellLe (1 : Nat) (fun (j : Nat) => Ax.get [AV.y (Value.int IntKind.u64 id)] ((0 : Nat) + j)) fun (x : Nat) => AV.y (Value.int IntKind.u64 id)) ∧ True) ∧ ((0 : Nat) = (0 : Nat) ∧ (0 : Nat) = (0 : Nat)) ∧ false = false ∧ (b = b ∧ List.length l = List.length l ∧ contLe (List.length l) (4 : Nat) (cellsOf' encP l) (cellsOf' encP l)) ∧ (↑(List.length l) : Int) = (↑(List.length l) : Int) ∧ (0 : Int) = (0 : Int) ∧ True) ∧ (((0 : Int) = (0 : Int) ∧ (0 : Int) = (0 : Int) ∧ false = false ∧ (0 : Int) = (0 : Int) ∧ True) ∧ True) ∧ true = true) ∧ LoopOk Try.prog (32 : Nat) (2 : Nat) (loopAt Try.prog (32 : Nat) (2 : Nat)) { t := fstT b id l (0 : Nat), m := fstM, mv := [] } (T.map (lout [(0 : Nat), (1 : Nat), (2 : Nat), (3 : Nat)] fstS) (fstO id l (0 : Nat))) ∧ (findI (List.drop (0 : Nat) l) id = true → true = true ∧ True ∧ (((findD (List.drop (0 : Nat) l) id).id = (findD l id).id ∧ (findD (List.drop (0 : Nat) l) id).seq = (findD l id).seq ∧ (findD (List.drop (0 : Nat) l) id).here = (findD l id).here ∧ (findD (List.drop (0 : Nat) l) id).offset = (findD l id).offset ∧ True) ∧ true = findI l id ∧ True) ∧ True) ∧ (findI (List.drop (0 : Nat) l) id = false → true = true ∧ True ∧ (((0 : Int) = (findD l id).id ∧ (0 : Int) = (findD l id).seq ∧ false = (findD l id).here ∧ (0 : Int) = (findD l id).offset ∧ True) ∧ false = findI l id ∧ True) ∧ True)
set_option maxRecDepth 1000000 in
theorem vcFind_eq (b : Bool) (l : List Producer) (id : Int) : (ctrVC Try.prog (findH b l id) 25 [encPs b l, .y (.int .u64 id)] [] (findR l id)) = vcFind b l id := by kernel_rfl
theorem find_c (b : Bool) (l : List Producer) (id : Int) (hl : l.length ≤ 9223372036854775806) : (findR l id).Sat (ACall' Try.prog 25 [encPs b l, .y (.int .u64 id)] []) := by
  refine ctr_vc (ht := (findH b l id)) Try.mixed rfl ?_
  rw [vcFind_eq b l id]
  unfold vcFind
  have := first_loop b id l hl 0
  simp [this]
  by_cases hf : findI l id = true
  · simp [hf]
  · have e : l.find? (has id) = none := by simpa [findI] using hf
    simp [hf, findD, e]
    exact ⟨rfl, rfl, rfl, rfl⟩
noncomputable def findC (b : Bool) (l : List Producer) (id : Int) (hl : l.length ≤ 9223372036854775806) : Ctr Try.prog := ⟨25, [encPs b l, .y (.int .u64 id)], [], findR l id, find_c b l id hl⟩
def badN (id seq : Int) : Bool := id == 0 || !(decide (1 ≤ seq) && decide (seq ≤ 9223372036854775807))
def judgeV (l : List Producer) (id seq : Int) : Int :=
  if badN id seq then 4 else if !findI l id || decide ((findD l id).seq < seq) then 1 else if seq == (findD l id).seq && (findD l id).here then 2 else 3
def judgeO (l : List Producer) (id seq : Int) : Int :=
  if badN id seq then 0 else if !findI l id || decide ((findD l id).seq < seq) then 0 else if seq == (findD l id).seq && (findD l id).here then (findD l id).offset else 0
def judgeR (l : List Producer) (id seq : Int) : T An := .ret (.tup [.y (.int .i64 (judgeV l id seq)), .y (.int .u64 (judgeO l id seq))], [], [])
noncomputable def judgeH (b : Bool) (l : List Producer) (id : Int) (hl : l.length ≤ 9223372036854775806) : HintsT Try.prog := hh _ noLp (cs1 10 3 2 (findC b l id hl) noCs) noOp
def vcJudge (b : Bool) (l : List Producer) (id : Int) (seq : Int) (hl : l.length ≤ 9223372036854775806) : Prop :=
  ((id == (0 : Int)) = true → ((4 : Int) = judgeV l id seq ∧ (0 : Int) = judgeO l id seq ∧ True) ∧ True) ∧ ((id == (0 : Int)) = false → (decide ((1 : Int) ≤ seq) = true → ((!decide (seq ≤ (9223372036854775807 : Int))) = true → ((4 : Int) = judgeV l id seq ∧ (0 : Int) = judgeO l id seq ∧ True) ∧ True) ∧ ((!decide (seq ≤ (9223372036854775807 : Int))) = false → ((b = b ∧ List.length l = List.length l ∧ contLe (List.length l) (4 : Nat) (cellsOf' encP l) (cellsOf' encP l)) ∧ id = id ∧ True) ∧ True ∧ ((!findI l id) = true → ((1 : Int) = judgeV l id seq ∧ (0 : Int) = judgeO l id seq ∧ True) ∧ True) ∧ ((!findI l id) = false → (decide ((findD l id).seq < seq) = true → ((1 : Int) = judgeV l id seq ∧ (0 : Int) = judgeO l id seq ∧ True) ∧ True) ∧ (decide ((findD l id).seq < seq) = false → ((seq == (findD l id).seq) = true → ((findD l id).here = true → ((2 : Int) = judgeV l id seq ∧ (findD l id).offset = judgeO l id seq ∧ True) ∧ True) ∧ ((findD l id).here = false → ((3 : Int) = judgeV l id seq ∧ (0 : Int) = judgeO l id seq ∧ True) ∧ True)) ∧ ((seq == (findD l id).seq) = false → ((3 : Int) = judgeV l id seq ∧ (0 : Int) = judgeO l id seq ∧ True) ∧ True))))) ∧ (decide ((1 : Int) ≤ seq) = false → ((4 : Int) = judgeV l id seq ∧ (0 : Int) = judgeO l id seq ∧ True) ∧ True))
set_option maxRecDepth 1000000 in
theorem vcJudge_eq (b : Bool) (l : List Producer) (id : Int) (seq : Int) (hl : l.length ≤ 9223372036854775806) : (ctrVC Try.prog (judgeH b l id hl) 10 [encPs b l, .y (.int .u64 id), .y (.int .u64 seq)] [] (judgeR l id seq)) = vcJudge b l id seq hl := by kernel_rfl
theorem judge_c (b : Bool) (l : List Producer) (id seq : Int) (hl : l.length ≤ 9223372036854775806) : (judgeR l id seq).Sat (ACall' Try.prog 10 [encPs b l, .y (.int .u64 id), .y (.int .u64 seq)] []) := by
  refine ctr_vc (ht := (judgeH b l id hl)) Try.mixed rfl ?_
  rw [vcJudge_eq b l id seq hl]
  unfold vcJudge
  simp [judgeV, judgeO, badN]
  grind
/-! the document's -/
def idxT (b : Bool) (id : Int) (l : List Producer) (k : Nat) : List AV := mkT 20 [(0, encPs b l), (1, .y (.int .u64 id)), (4, .s (.int .i64 0)), (5, .y (.int .i64 k))]
def idxS (r : Bool × Nat) : Exit × List AV × List Blk := match r.1 with
  | true => (.ret, mkT 20 [(4, .y (.int .i64 r.2))], [])
  | false => (.exit 0, mkT 20 [], [])
def idxO (id : Int) (l : List Producer) (k : Nat) : T (Bool × Nat) := .ite (findI (l.drop k) id) (.ret (true, k + (l.drop k).findIdx (has id))) (.ret (false, 0))
def vcIdxL (b : Bool) (id : Int) (l : List Producer) (k : Nat) : Prop :=
  (decide ((↑k : Int) < (↑(List.length l) : Int)) = true → (true && decide ((↑k : Int) < (↑(List.length l) : Int))) = true ∧ (((List.getD l (Int.toNat (↑k : Int)) (@default Producer instInhabitedProducer)).id == id) = true → (findI (List.drop k l) id = true → ((↑k : Int) = (↑(k + List.findIdx (has id) (List.drop k l)) : Int) ∧ True) ∧ True ∧ true = true) ∧ (findI (List.drop k l) id = false → False)) ∧ (((List.getD l (Int.toNat (↑k : Int)) (@default Producer instInhabitedProducer)).id == id) = false → ∃ (j : Nat), List.length l - j < List.length l - k ∧ (((b = b ∧ List.length l = List.length l ∧ contLe (List.length l) (4 : Nat) (cellsOf' encP l) (cellsOf' encP l)) ∧ id = id ∧ (0 : Int) = (0 : Int) ∧ IntKind.wrap IntKind.i64 ((↑k : Int) + (1 : Int)) = (↑j : Int) ∧ True) ∧ True ∧ true = true) ∧ true = true ∧ (findI (List.drop j l) id = true → (findI (List.drop k l) id = true → (true, j + List.findIdx (has id) (List.drop j l)) = (true, k + List.findIdx (has id) (List.drop k l))) ∧ (findI (List.drop k l) id = false → (true, j + List.findIdx (has id) (List.drop j l)) = (false, (0 : Nat)))) ∧ (findI (List.drop j l) id = false → (findI (List.drop k l) id = true → (false, (0 : Nat)) = (true, k + List.findIdx (has id) (List.drop k l))) ∧ (findI (List.drop k l) id = false → (false, (0 : Nat)) = (false, (0 : Nat)))))) ∧ (decide ((↑k : Int) < (↑(List.length l) : Int)) = false → (findI (List.drop k l) id = true → False) ∧ (findI (List.drop k l) id = false → True ∧ True ∧ true = true))
set_option maxRecDepth 1000000 in
theorem vcIdxL_eq (b : Bool) (id : Int) (l : List Producer) (k : Nat) : (loopVC Try.prog (hT _) 27 2 (fun k => l.length - k) (idxT b id l) (fun _ => []) [] (idxO id l) idxS k) = vcIdxL b id l k := by kernel_rfl
theorem idx_loop (b : Bool) (id : Int) (l : List Producer) (hl : l.length ≤ 9223372036854775806)  (k : Nat) : LoopOk Try.prog 27 2 (loopAt Try.prog 27 2) ⟨idxT b id l k, [], []⟩ ((idxO id l k).map (lout [] idxS)) := by
  refine loop_vc Try.mixed (fun _ => rfl) (fun k => (vcIdxL_eq b id l k).mpr ?_) k
  unfold vcIdxL
  simp
  refine ⟨fun h => ?_, fun h => by simp [findI, drop_end h]⟩
  simp (disch := omega) only [wrap_i64]
  rw [drop_cons h]
  simp only [findI_cons, idx_cons]
  generalize l[k]?.getD default = x
  by_cases hx : x.id = id <;> simp [hx, h, cast_succ_eq]
  refine ⟨k + 1, by omega, rfl, ?_⟩
  grind
def idxZ (l : List Producer) (id : Int) : Int := if findI l id then (l.findIdx (has id) : Nat) else -1
noncomputable def idxH (b : Bool) (l : List Producer) (id : Int) : HintsT Try.prog := hh _ (lp1 27 2 (jobOf (idxT b id l) (fun _ => []) [] (idxO id l) idxS 0) noLp) noCs noOp
def idxR (l : List Producer) (id : Int) : T An := .ret (.y (.int .i64 (idxZ l id)), [], [])
def vcIdx (b : Bool) (l : List Producer) (id : Int) : Prop :=
  (((b = b ∧ List.length l = List.length l ∧ contLe (List.length l) (4 : Nat) (cellsOf' encP l) (cellsOf' encP l)) ∧ id = id ∧ (0 : Int) = (0 : Int) ∧ (0 : Int) = (0 : Int) ∧ True) ∧ True ∧ true = true) ∧ LoopOk Try.prog (27 : Nat) (2 : Nat) (loopAt Try.prog (27 : Nat) (2 : Nat)) { t := idxT b id l (0 : Nat), m := [], mv := [] } (T.map (lout [] idxS) (idxO id l (0 : Nat))) ∧ (findI (List.drop (0 : Nat) l) id = true → (↑((0 : Nat) + List.findIdx (has id) (List.drop (0 : Nat) l)) : Int) = idxZ l id ∧ True) ∧ (findI (List.drop (0 : Nat) l) id = false → (-1 : Int) = idxZ l id ∧ True)
set_option maxRecDepth 1000000 in
theorem vcIdx_eq (b : Bool) (l : List Producer) (id : Int) : (ctrVC Try.prog (idxH b l id) 27 [encPs b l, .y (.int .u64 id)] [] (idxR l id)) = vcIdx b l id := by kernel_rfl
theorem idx_c (b : Bool) (l : List Producer) (id : Int) (hl : l.length ≤ 9223372036854775806) : (idxR l id).Sat (ACall' Try.prog 27 [encPs b l, .y (.int .u64 id)] []) := by
  refine ctr_vc (ht := (idxH b l id)) Try.mixed rfl ?_
  rw [vcIdx_eq b l id]
  unfold vcIdx
  have := idx_loop b id l hl 0
  simp [this, idxZ]
noncomputable def idxC (b : Bool) (l : List Producer) (id : Int) (hl : l.length ≤ 9223372036854775806) : Ctr Try.prog := ⟨27, [encPs b l, .y (.int .u64 id)], [], idxR l id, idx_c b l id hl⟩
noncomputable def judgeH2 (b : Bool) (l : List Producer) (id : Int) (hl : l.length ≤ 9223372036854775806) : HintsT Try.prog := hh _ noLp (cs1 15 3 2 (idxC b l id hl) noCs) noOp
theorem idx_lt {l : List Producer} {id : Int} (h : findI l id = true) : l.findIdx (has id) < l.length := by
  rw [List.findIdx_lt_length]
  simpa [findI, List.find?_isSome] using h
theorem idx_at {l : List Producer} {id : Int} (h : findI l id = true) : l[l.findIdx (has id)]?.getD default = findD l id := by
  have hlt := idx_lt h
  unfold findD
  rw [List.getElem?_eq_getElem hlt]
  simp [List.find?_eq_getElem?_findIdx, hlt]
def vcJudge2 (b : Bool) (l : List Producer) (id : Int) (seq : Int) (hl : l.length ≤ 9223372036854775806) : Prop :=
  ((id == (0 : Int)) = true → ((4 : Int) = judgeV l id seq ∧ (0 : Int) = judgeO l id seq ∧ True) ∧ True) ∧ ((id == (0 : Int)) = false → (decide (seq < (1 : Int)) = true → ((4 : Int) = judgeV l id seq ∧ (0 : Int) = judgeO l id seq ∧ True) ∧ True) ∧ (decide (seq < (1 : Int)) = false → (decide ((9223372036854775807 : Int) < seq) = true → ((4 : Int) = judgeV l id seq ∧ (0 : Int) = judgeO l id seq ∧ True) ∧ True) ∧ (decide ((9223372036854775807 : Int) < seq) = false → ((b = b ∧ List.length l = List.length l ∧ contLe (List.length l) (4 : Nat) (cellsOf' encP l) (cellsOf' encP l)) ∧ id = id ∧ True) ∧ True ∧ (decide (idxZ l id < (0 : Int)) = true → ((1 : Int) = judgeV l id seq ∧ (0 : Int) = judgeO l id seq ∧ True) ∧ True) ∧ (decide (idxZ l id < (0 : Int)) = false → (decide ((0 : Int) ≤ idxZ l id) && decide (idxZ l id < (↑(List.length l) : Int))) = true ∧ (decide ((List.getD l (Int.toNat (idxZ l id)) (@default Producer instInhabitedProducer)).seq < seq) = true → ((1 : Int) = judgeV l id seq ∧ (0 : Int) = judgeO l id seq ∧ True) ∧ True) ∧ (decide ((List.getD l (Int.toNat (idxZ l id)) (@default Producer instInhabitedProducer)).seq < seq) = false → (decide ((0 : Int) ≤ idxZ l id) && decide (idxZ l id < (↑(List.length l) : Int))) = true ∧ ((seq == (List.getD l (Int.toNat (idxZ l id)) (@default Producer instInhabitedProducer)).seq) = true → (decide ((0 : Int) ≤ idxZ l id) && decide (idxZ l id < (↑(List.length l) : Int))) = true ∧ ((List.getD l (Int.toNat (idxZ l id)) (@default Producer instInhabitedProducer)).here = true → (decide ((0 : Int) ≤ idxZ l id) && decide (idxZ l id < (↑(List.length l) : Int))) = true ∧ ((2 : Int) = judgeV l id seq ∧ (List.getD l (Int.toNat (idxZ l id)) (@default Producer instInhabitedProducer)).offset = judgeO l id seq ∧ True) ∧ True) ∧ ((List.getD l (Int.toNat (idxZ l id)) (@default Producer instInhabitedProducer)).here = false → ((3 : Int) = judgeV l id seq ∧ (0 : Int) = judgeO l id seq ∧ True) ∧ True)) ∧ ((seq == (List.getD l (Int.toNat (idxZ l id)) (@default Producer instInhabitedProducer)).seq) = false → ((3 : Int) = judgeV l id seq ∧ (0 : Int) = judgeO l id seq ∧ True) ∧ True))))))
set_option maxRecDepth 1000000 in
theorem vcJudge2_eq (b : Bool) (l : List Producer) (id : Int) (seq : Int) (hl : l.length ≤ 9223372036854775806) : (ctrVC Try.prog (judgeH2 b l id hl) 15 [encPs b l, .y (.int .u64 id), .y (.int .u64 seq)] [] (judgeR l id seq)) = vcJudge2 b l id seq hl := by kernel_rfl
theorem judge2_c (b : Bool) (l : List Producer) (id seq : Int) (hl : l.length ≤ 9223372036854775806) : (judgeR l id seq).Sat (ACall' Try.prog 15 [encPs b l, .y (.int .u64 id), .y (.int .u64 seq)] []) := by
  refine ctr_vc (ht := (judgeH2 b l id hl)) Try.mixed rfl ?_
  rw [vcJudge2_eq b l id seq hl]
  unfold vcJudge2
  by_cases hf : findI l id = true
  · have h1 := idx_at hf
    have h2 := idx_lt hf
    simp [judgeV, judgeO, badN, idxZ, hf, h1]
    grind
  · simp [judgeV, judgeO, badN, idxZ, hf]
    grind
end Go.Proofs.Ytjdnbdgekkdlgaa
