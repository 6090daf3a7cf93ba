import Derived.Test.YtjdnbdgekkdlgaaQb
/-! Producers: slices.Clone, IndexFunc, DeleteFunc at their type. -/
namespace Go.Proofs.Ytjdnbdgekkdlgaa
open Go.Ax
set_option maxRecDepth 1000000
def clnR (l : List Producer) : T An := .ret (.own 0 4 0 l.length, [.row 39 4 l.length none (cellsOf' encP l)], [])
noncomputable def clnH : HintsT Try.prog := hh _ noLp noCs (op1 35 2 0 (.row 39 4) noOp)
def vcClone0 (l : List Producer) : Prop :=
  ((0 : Nat) = (0 : Nat) ∧ (0 : Nat) = List.length l) ∧ ((0 : Nat) = List.length l ∧ contLe (0 : Nat) (4 : Nat) (fun (x x_1 : Nat) => AV.junk) (cellsOf' encP l)) ∧ True
set_option maxRecDepth 1000000 in
theorem vcClone0_eq (l : List Producer) : (ctrVC Try.prog clnH 35 [.s (.slice none 0 0)] [] (clnR l)) = vcClone0 l := by kernel_rfl
def vcClone1 (b : Bool) (l : List Producer) : Prop :=
  (decide ((0 : Nat) + List.length l ≤ (9223372036854775807 : Nat)) && decide (((0 : Nat) + List.length l) * (32 : Nat) ≤ (140737488355328 : Nat))) = true ∧ ((0 : Nat) = (0 : Nat) ∧ (0 : Nat) + List.length l = List.length l) ∧ ((0 : Nat) + List.length l = List.length l ∧ contLe ((0 : Nat) + List.length l) (4 : Nat) (appRow (0 : Nat) (fun (k j : Nat) => AV.junk) (cellsOf' encP l)) (cellsOf' encP l)) ∧ True
set_option maxRecDepth 1000000 in
theorem vcClone1_eq (b : Bool) (l : List Producer) : (ctrVC Try.prog clnH 35 [.yn b 4 l.length (cellsOf' encP l)] [] (clnR l)) = vcClone1 b l := by kernel_rfl
theorem clone_c (b : Bool) (l : List Producer) (hl : l.length * 32 ≤ 140737488355328) : (clnR l).Sat (ACall' Try.prog 35 [encPs b l] []) := by
  refine nil_cases (pre := []) (post := []) (fun h0 => ?_) ?_ ⟨_, rfl⟩
  · refine ctr_vc (ht := clnH) Try.mixed rfl ?_
    rw [List.nil_append, vcClone0_eq l]
    unfold vcClone0
    simp [h0]
  · refine ctr_vc (ht := clnH) Try.mixed rfl ?_
    rw [List.nil_append, vcClone1_eq b l]
    unfold vcClone1
    simp
    omega
def ixT (b : Bool) (x : Producer) (l : List Producer) (k : Nat) : List AV := mkT 19 [(0, encPs b l), (1, .fn (.func 36) [] [.ip false 4 (get (encP x))]), (4, .s (.int .i64 0)), (7, .y (.int .i64 l.length)), (8, .y (.int .i64 k))]
def ixS (r : Bool × Nat) : Exit × List AV × List Blk := match r.1 with
  | true => (.ret, mkT 19 [(4, .y (.int .i64 r.2))], [])
  | false => (.exit 0, mkT 19 [], [])
def vcIxL (b : Bool) (x : Producer) (l : List Producer) (k : Nat) : Prop :=
  (decide ((↑k : Int) < (↑(List.length l) : Int)) = true → (true && decide ((↑k : Int) < (↑(List.length l) : Int))) = true ∧ (((List.getD l (Int.toNat (↑k : Int)) (@default Producer instInhabitedProducer)).id == x.id) = true → (findI (List.drop k l) x.id = true → ((↑k : Int) = (↑(k + List.findIdx (has x.id) (List.drop k l)) : Int) ∧ True) ∧ True ∧ true = true) ∧ (findI (List.drop k l) x.id = false → False)) ∧ (((List.getD l (Int.toNat (↑k : Int)) (@default Producer instInhabitedProducer)).id == x.id) = false → ∃ (j : Nat), List.length l - j < List.length l - k ∧ (((b = b ∧ List.length l = List.length l ∧ contLe (List.length l) (4 : Nat) (cellsOf' encP l) (cellsOf' encP l)) ∧ (True ∧ (false = false ∧ (4 : Nat) ≤ (4 : Nat) ∧ cellLe (4 : Nat) (Ax.get [AV.y (Value.int IntKind.u64 x.id), AV.y (Value.int IntKind.u64 x.seq), AV.y (Value.bool x.here), AV.y (Value.int IntKind.u64 x.offset)]) (Ax.get [AV.y (Value.int IntKind.u64 x.id), AV.y (Value.int IntKind.u64 x.seq), AV.y (Value.bool x.here), AV.y (Value.int IntKind.u64 x.offset)])) ∧ True) ∧ (0 : Int) = (0 : Int) ∧ (↑(List.length l) : Int) = (↑(List.length l) : Int) ∧ IntKind.wrap IntKind.i64 ((↑k : Int) + (1 : Int)) = (↑j : Int) ∧ True) ∧ True ∧ true = true) ∧ true = true ∧ (findI (List.drop j l) x.id = true → (findI (List.drop k l) x.id = true → (true, j + List.findIdx (has x.id) (List.drop j l)) = (true, k + List.findIdx (has x.id) (List.drop k l))) ∧ (findI (List.drop k l) x.id = false → (true, j + List.findIdx (has x.id) (List.drop j l)) = (false, (0 : Nat)))) ∧ (findI (List.drop j l) x.id = false → (findI (List.drop k l) x.id = true → (false, (0 : Nat)) = (true, k + List.findIdx (has x.id) (List.drop k l))) ∧ (findI (List.drop k l) x.id = false → (false, (0 : Nat)) = (false, (0 : Nat)))))) ∧ (decide ((↑k : Int) < (↑(List.length l) : Int)) = false → (findI (List.drop k l) x.id = true → False) ∧ (findI (List.drop k l) x.id = false → True ∧ True ∧ true = true))
set_option maxRecDepth 1000000 in
theorem vcIxL_eq (b : Bool) (x : Producer) (l : List Producer) (k : Nat) : (loopVC Try.prog (hT _) 41 2 (fun k => l.length - k) (ixT b x l) (fun _ => []) [] (idxO x.id l) ixS k) = vcIxL b x l k := by kernel_rfl
theorem ix_loop (b : Bool) (x : Producer) (l : List Producer) (hl : l.length ≤ 9223372036854775806) (k : Nat) : LoopOk Try.prog 41 2 (loopAt Try.prog 41 2) ⟨ixT b x l k, [], []⟩ ((idxO x.id l k).map (lout [] ixS)) := by
  refine loop_vc Try.mixed (fun _ => rfl) (fun k => (vcIxL_eq b x l k).mpr ?_) k
  unfold vcIxL
  simp
  refine ⟨fun h => ?_, fun h => by simp [findI, drop_end h]⟩
  simp (disch := omega) only [wrap_i64]
  rw [drop_cons h]
  simp only [findI_cons, idx_cons]
  generalize l[k]?.getD default = y
  by_cases hx : y.id = x.id <;> simp [hx, h, cast_succ_eq]
  refine ⟨k + 1, by omega, rfl, ?_⟩
  grind
noncomputable def ixH (b : Bool) (x : Producer) (l : List Producer) : HintsT Try.prog := hh _ (lp1 41 2 (jobOf (ixT b x l) (fun _ => []) [] (idxO x.id l) ixS 0) noLp) noCs noOp
def vcIx (b : Bool) (x : Producer) (l : List Producer) : Prop :=
  (((b = b ∧ List.length l = List.length l ∧ contLe (List.length l) (4 : Nat) (cellsOf' encP l) (cellsOf' encP l)) ∧ (True ∧ (false = false ∧ (4 : Nat) ≤ (4 : Nat) ∧ cellLe (4 : Nat) (Ax.get [AV.y (Value.int IntKind.u64 x.id), AV.y (Value.int IntKind.u64 x.seq), AV.y (Value.bool x.here), AV.y (Value.int IntKind.u64 x.offset)]) (Ax.get [AV.y (Value.int IntKind.u64 x.id), AV.y (Value.int IntKind.u64 x.seq), AV.y (Value.bool x.here), AV.y (Value.int IntKind.u64 x.offset)])) ∧ True) ∧ (0 : Int) = (0 : Int) ∧ (↑(List.length l) : Int) = (↑(List.length l) : Int) ∧ (0 : Int) = (0 : Int) ∧ True) ∧ True ∧ true = true) ∧ LoopOk Try.prog (41 : Nat) (2 : Nat) (loopAt Try.prog (41 : Nat) (2 : Nat)) { t := ixT b x l (0 : Nat), m := [], mv := [] } (T.map (lout [] ixS) (idxO x.id l (0 : Nat))) ∧ (findI (List.drop (0 : Nat) l) x.id = true → (↑((0 : Nat) + List.findIdx (has x.id) (List.drop (0 : Nat) l)) : Int) = idxZ l x.id ∧ True) ∧ (findI (List.drop (0 : Nat) l) x.id = false → (-1 : Int) = idxZ l x.id ∧ True)
set_option maxRecDepth 1000000 in
theorem vcIx_eq (b : Bool) (x : Producer) (l : List Producer) : (ctrVC Try.prog (ixH b x l) 41 [encPs b l, .fn (.func 36) [] [.ip false 4 (get (encP x))]] [] (idxR l x.id)) = vcIx b x l := by kernel_rfl
theorem ix_c (b : Bool) (x : Producer) (l : List Producer) (hl : l.length ≤ 9223372036854775806) : (idxR l x.id).Sat (ACall' Try.prog 41 [encPs b l, .fn (.func 36) [] [.ip false 4 (get (encP x))]] []) := by
  refine ctr_vc (ht := ixH b x l) Try.mixed rfl ?_
  rw [vcIx_eq b x l]
  unfold vcIx
  have := ix_loop b x l hl 0
  simp [this, idxZ]
noncomputable def ixC (b : Bool) (x : Producer) (l : List Producer) (hl : l.length ≤ 9223372036854775806) : Ctr Try.prog := ⟨41, [encPs b l, .fn (.func 36) [] [.ip false 4 (get (encP x))]], [], idxR l x.id, ix_c b x l hl⟩
end Go.Proofs.Ytjdnbdgekkdlgaa
