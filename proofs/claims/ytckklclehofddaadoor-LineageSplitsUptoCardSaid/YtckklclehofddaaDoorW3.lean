import Derived.Test.YtckklclehofddaaDoorE12
import Derived.Test.YtckklclehofddaaDoorW2
set_option linter.unusedVariables false
set_option linter.unusedSimpArgs false
set_option linter.unusedSectionVars false
namespace Go.Proofs.YtckklclehofddaaDoor.P
open Go.Ax
set_option maxRecDepth 1000000
def encI (x : Int) : List AV := [.y (.int .u64 x)]
def encU (b : Bool) (l : List Int) : AV := .ys b 1 l.length (cellsOf' encI l)
def mvOk (x : Producer) (to : List Int) : Bool := x.here && (decide (1 < to.length) && (decide (x.offset ≤ (to.length : Int) - 2) && decide (to.getD x.offset.toNat default < to.getD (x.offset.toNat + 1) default)))
def mvP (to : List Int) (x : Producer) : Producer := if mvOk x to then ⟨x.id, x.seq, true, to.getD x.offset.toNat default⟩ else ⟨x.id, x.seq, false, 0⟩
def moveL (l : List Producer) (to : List Int) : List Producer := l.map (mvP to)
def mvM (l : List Producer) (to : List Int) (k : Nat) : List Blk := [.row 46 4 (l.take k).length none (cellsOf' encP (moveL (l.take k) to))]
def mvT (b1 b2 : Bool) (l : List Producer) (to : List Int) (k : Nat) : List AV := mkT 64 [(1, encU b2 to), (5, .own 0 4 0 (l.take k).length), (9, encPs b1 l), (10, .y (.int .i64 l.length)), (11, .y (.int .i64 k))]
def mvS (b2 : Bool) (l : List Producer) (to : List Int) (_ : Unit) : Exit × List AV × List Blk := (.exit 0, mkT 64 [(1, encU b2 to), (5, .own 0 4 0 l.length)], [.row 46 4 l.length none (cellsOf' encP (moveL l to))])
def vcMvL (b1 : Bool) (b2 : Bool) (l : List Producer) (to : List Int) (k : Nat) : Prop :=
  (decide ((↑k : Int) < (↑(List.length l) : Int)) = true → (true && decide ((↑k : Int) < (↑(List.length l) : Int))) = true ∧ ((List.getD l (Int.toNat (↑k : Int)) (@default Producer instInhabitedProducer)).here = true → (decide ((1 : Int) < IntKind.wrap IntKind.u64 (↑(List.length to) : Int)) = true → (decide ((List.getD l (Int.toNat (↑k : Int)) (@default Producer instInhabitedProducer)).offset ≤ IntKind.wrap IntKind.u64 (IntKind.wrap IntKind.i64 ((↑(List.length to) : Int) - (2 : Int)))) = true → (decide ((0 : Int) ≤ IntKind.wrap IntKind.u64 ((List.getD l (Int.toNat (↑k : Int)) (@default Producer instInhabitedProducer)).offset + (1 : Int))) && decide (IntKind.wrap IntKind.u64 ((List.getD l (Int.toNat (↑k : Int)) (@default Producer instInhabitedProducer)).offset + (1 : Int)) < (↑(List.length to) : Int))) = true ∧ (decide ((0 : Int) ≤ (List.getD l (Int.toNat (↑k : Int)) (@default Producer instInhabitedProducer)).offset) && decide ((List.getD l (Int.toNat (↑k : Int)) (@default Producer instInhabitedProducer)).offset < (↑(List.length to) : Int))) = true ∧ (decide (List.getD to (Int.toNat (List.getD l (Int.toNat (↑k : Int)) (@default Producer instInhabitedProducer)).offset) (0 : Int) < List.getD to (Int.toNat (IntKind.wrap IntKind.u64 ((List.getD l (Int.toNat (↑k : Int)) (@default Producer instInhabitedProducer)).offset + (1 : Int)))) (0 : Int)) = true → (decide ((0 : Int) ≤ (List.getD l (Int.toNat (↑k : Int)) (@default Producer instInhabitedProducer)).offset) && decide ((List.getD l (Int.toNat (↑k : Int)) (@default Producer instInhabitedProducer)).offset < (↑(List.length to) : Int))) = true ∧ (decide (List.length (List.take k l) = List.length (List.take k l)) && decide (List.length (List.take k l) + (1 : Nat) ≤ (9223372036854775807 : Nat)) && decide ((List.length (List.take k l) + (1 : Nat)) * (32 : Nat) ≤ (140737488355328 : Nat))) = true ∧ ∃ (j : Nat), List.length l - j < List.length l - k ∧ (((b2 = b2 ∧ List.length to = List.length to ∧ contLe (List.length to) (1 : Nat) (cellsOf' encI to) (cellsOf' encI to)) ∧ ((0 : Nat) = (0 : Nat) ∧ List.length (List.take k l) + (1 : Nat) = List.length (List.take j l)) ∧ (b1 = b1 ∧ List.length l = List.length l ∧ contLe (List.length l) (4 : Nat) (cellsOf' encP l) (cellsOf' encP l)) ∧ (↑(List.length l) : Int) = (↑(List.length l) : Int) ∧ IntKind.wrap IntKind.i64 ((↑k : Int) + (1 : Int)) = (↑j : Int) ∧ True) ∧ ((List.length (List.take k l) + (1 : Nat) = List.length (List.take j l) ∧ contLe (List.length (List.take k l) + (1 : Nat)) (4 : Nat) (appRow (List.length (List.take k l)) (cellsOf' encP (moveL (List.take k l) to)) fun (k_1 j : Nat) => Ax.get [AV.y (Value.int IntKind.u64 (List.getD l (Int.toNat (↑k : Int)) (@default Producer instInhabitedProducer)).id), AV.y (Value.int IntKind.u64 (List.getD l (Int.toNat (↑k : Int)) (@default Producer instInhabitedProducer)).seq), AV.s (Value.bool true), AV.y (Value.int IntKind.u64 (List.getD to (Int.toNat (List.getD l (Int.toNat (↑k : Int)) (@default Producer instInhabitedProducer)).offset) (0 : Int)))] (k_1 * (4 : Nat) + j)) (cellsOf' encP (moveL (List.take j l) to))) ∧ True) ∧ true = true) ∧ true = true ∧ () = ()) ∧ (decide (List.getD to (Int.toNat (List.getD l (Int.toNat (↑k : Int)) (@default Producer instInhabitedProducer)).offset) (0 : Int) < List.getD to (Int.toNat (IntKind.wrap IntKind.u64 ((List.getD l (Int.toNat (↑k : Int)) (@default Producer instInhabitedProducer)).offset + (1 : Int)))) (0 : Int)) = false → (decide (List.length (List.take k l) = List.length (List.take k l)) && decide (List.length (List.take k l) + (1 : Nat) ≤ (9223372036854775807 : Nat)) && decide ((List.length (List.take k l) + (1 : Nat)) * (32 : Nat) ≤ (140737488355328 : Nat))) = true ∧ ∃ (j : Nat), List.length l - j < List.length l - k ∧ (((b2 = b2 ∧ List.length to = List.length to ∧ contLe (List.length to) (1 : Nat) (cellsOf' encI to) (cellsOf' encI to)) ∧ ((0 : Nat) = (0 : Nat) ∧ List.length (List.take k l) + (1 : Nat) = List.length (List.take j l)) ∧ (b1 = b1 ∧ List.length l = List.length l ∧ contLe (List.length l) (4 : Nat) (cellsOf' encP l) (cellsOf' encP l)) ∧ (↑(List.length l) : Int) = (↑(List.length l) : Int) ∧ IntKind.wrap IntKind.i64 ((↑k : Int) + (1 : Int)) = (↑j : Int) ∧ True) ∧ ((List.length (List.take k l) + (1 : Nat) = List.length (List.take j l) ∧ contLe (List.length (List.take k l) + (1 : Nat)) (4 : Nat) (appRow (List.length (List.take k l)) (cellsOf' encP (moveL (List.take k l) to)) fun (k_1 j : Nat) => Ax.get [AV.y (Value.int IntKind.u64 (List.getD l (Int.toNat (↑k : Int)) (@default Producer instInhabitedProducer)).id), AV.y (Value.int IntKind.u64 (List.getD l (Int.toNat (↑k : Int)) (@default Producer instInhabitedProducer)).seq), AV.s (Value.bool false), AV.s (Value.int IntKind.u64 (0 : Int))] (k_1 * (4 : Nat) + j)) (cellsOf' encP (moveL (List.take j l) to))) ∧ True) ∧ true = true) ∧ true = true ∧ () = ())) ∧ (decide ((List.getD l (Int.toNat (↑k : Int)) (@default Producer instInhabitedProducer)).offset ≤ IntKind.wrap IntKind.u64 (IntKind.wrap IntKind.i64 ((↑(List.length to) : Int) - (2 : Int)))) = false → (decide (List.length (List.take k l) = List.length (List.take k l)) && decide (List.length (List.take k l) + (1 : Nat) ≤ (9223372036854775807 : Nat)) && decide ((List.length (List.take k l) + (1 : Nat)) * (32 : Nat) ≤ (140737488355328 : Nat))) = true ∧ ∃ (j : Nat), List.length l - j < List.length l - k ∧ (((b2 = b2 ∧ List.length to = List.length to ∧ contLe (List.length to) (1 : Nat) (cellsOf' encI to) (cellsOf' encI to)) ∧ ((0 : Nat) = (0 : Nat) ∧ List.length (List.take k l) + (1 : Nat) = List.length (List.take j l)) ∧ (b1 = b1 ∧ List.length l = List.length l ∧ contLe (List.length l) (4 : Nat) (cellsOf' encP l) (cellsOf' encP l)) ∧ (↑(List.length l) : Int) = (↑(List.length l) : Int) ∧ IntKind.wrap IntKind.i64 ((↑k : Int) + (1 : Int)) = (↑j : Int) ∧ True) ∧ ((List.length (List.take k l) + (1 : Nat) = List.length (List.take j l) ∧ contLe (List.length (List.take k l) + (1 : Nat)) (4 : Nat) (appRow (List.length (List.take k l)) (cellsOf' encP (moveL (List.take k l) to)) fun (k_1 j : Nat) => Ax.get [AV.y (Value.int IntKind.u64 (List.getD l (Int.toNat (↑k : Int)) (@default Producer instInhabitedProducer)).id), AV.y (Value.int IntKind.u64 (List.getD l (Int.toNat (↑k : Int)) (@default Producer instInhabitedProducer)).seq), AV.s (Value.bool false), AV.s (Value.int IntKind.u64 (0 : Int))] (k_1 * (4 : Nat) + j)) (cellsOf' encP (moveL (List.take j l) to))) ∧ True) ∧ true = true) ∧ true = true ∧ () = ())) ∧ (decide ((1 : Int) < IntKind.wrap IntKind.u64 (↑(List.length to) : Int)) = false → (decide (List.length (List.take k l) = List.length (List.take k l)) && decide (List.length (List.take k l) + (1 : Nat) ≤ (9223372036854775807 : Nat)) && decide ((List.length (List.take k l) + (1 : Nat)) * (32 : Nat) ≤ (140737488355328 : Nat))) = true ∧ ∃ (j : Nat), List.length l - j < List.length l - k ∧ (((b2 = b2 ∧ List.length to = List.length to ∧ contLe (List.length to) (1 : Nat) (cellsOf' encI to) (cellsOf' encI to)) ∧ ((0 : Nat) = (0 : Nat) ∧ List.length (List.take k l) + (1 : Nat) = List.length (List.take j l)) ∧ (b1 = b1 ∧ List.length l = List.length l ∧ contLe (List.length l) (4 : Nat) (cellsOf' encP l) (cellsOf' encP l)) ∧ (↑(List.length l) : Int) = (↑(List.length l) : Int) ∧ IntKind.wrap IntKind.i64 ((↑k : Int) + (1 : Int)) = (↑j : Int) ∧ True) ∧ ((List.length (List.take k l) + (1 : Nat) = List.length (List.take j l) ∧ contLe (List.length (List.take k l) + (1 : Nat)) (4 : Nat) (appRow (List.length (List.take k l)) (cellsOf' encP (moveL (List.take k l) to)) fun (k_1 j : Nat) => Ax.get [AV.y (Value.int IntKind.u64 (List.getD l (Int.toNat (↑k : Int)) (@default Producer instInhabitedProducer)).id), AV.y (Value.int IntKind.u64 (List.getD l (Int.toNat (↑k : Int)) (@default Producer instInhabitedProducer)).seq), AV.s (Value.bool false), AV.s (Value.int IntKind.u64 (0 : Int))] (k_1 * (4 : Nat) + j)) (cellsOf' encP (moveL (List.take j l) to))) ∧ True) ∧ true = true) ∧ true = true ∧ () = ())) ∧ ((List.getD l (Int.toNat (↑k : Int)) (@default Producer instInhabitedProducer)).here = false → (decide (List.length (List.take k l) = List.length (List.take k l)) && decide (List.length (List.take k l) + (1 : Nat) ≤ (9223372036854775807 : Nat)) && decide ((List.length (List.take k l) + (1 : Nat)) * (32 : Nat) ≤ (140737488355328 : Nat))) = true ∧ ∃ (j : Nat), List.length l - j < List.length l - k ∧ (((b2 = b2 ∧ List.length to = List.length to ∧ contLe (List.length to) (1 : Nat) (cellsOf' encI to) (cellsOf' encI to)) ∧ ((0 : Nat) = (0 : Nat) ∧ List.length (List.take k l) + (1 : Nat) = List.length (List.take j l)) ∧ (b1 = b1 ∧ List.length l = List.length l ∧ contLe (List.length l) (4 : Nat) (cellsOf' encP l) (cellsOf' encP l)) ∧ (↑(List.length l) : Int) = (↑(List.length l) : Int) ∧ IntKind.wrap IntKind.i64 ((↑k : Int) + (1 : Int)) = (↑j : Int) ∧ True) ∧ ((List.length (List.take k l) + (1 : Nat) = List.length (List.take j l) ∧ contLe (List.length (List.take k l) + (1 : Nat)) (4 : Nat) (appRow (List.length (List.take k l)) (cellsOf' encP (moveL (List.take k l) to)) fun (k_1 j : Nat) => Ax.get [AV.y (Value.int IntKind.u64 (List.getD l (Int.toNat (↑k : Int)) (@default Producer instInhabitedProducer)).id), AV.y (Value.int IntKind.u64 (List.getD l (Int.toNat (↑k : Int)) (@default Producer instInhabitedProducer)).seq), AV.s (Value.bool false), AV.s (Value.int IntKind.u64 (0 : Int))] (k_1 * (4 : Nat) + j)) (cellsOf' encP (moveL (List.take j l) to))) ∧ True) ∧ true = true) ∧ true = true ∧ () = ())) ∧ (decide ((↑k : Int) < (↑(List.length l) : Int)) = false → ((b2 = b2 ∧ List.length to = List.length to ∧ contLe (List.length to) (1 : Nat) (cellsOf' encI to) (cellsOf' encI to)) ∧ ((0 : Nat) = (0 : Nat) ∧ List.length (List.take k l) = List.length l) ∧ True) ∧ ((List.length (List.take k l) = List.length l ∧ contLe (List.length (List.take k l)) (4 : Nat) (cellsOf' encP (moveL (List.take k l) to)) (cellsOf' encP (moveL l to))) ∧ True) ∧ true = true)
theorem vcMvL_eq (b1 : Bool) (b2 : Bool) (l : List Producer) (to : List Int) (k : Nat) : (loopVC Tryd.prog (hT _) 21 3 (fun k => l.length - k) (mvT b1 b2 l to) (mvM l to) [0, 1, 2, 3, 4] (fun _ => .ret ()) (mvS b2 l to) k) = vcMvL b1 b2 l to k := by kernel_rfl
theorem mv_loop (b1 b2 : Bool) (l : List Producer) (to : List Int) (hl : l.length * 32 ≤ 140737488355200) (ht : to.length ≤ 9223372036854775806) (ho : ∀ x ∈ l, 0 ≤ x.offset ∧ x.offset < 18446744073709551616) (k : Nat) (hk : k ≤ l.length) : LoopOk Tryd.prog 21 3 (loopAt Tryd.prog 21 3) ⟨mvT b1 b2 l to k, mvM l to k, []⟩ (T.map (lout [0, 1, 2, 3, 4] (mvS b2 l to)) (.ret ())) := by
  refine loop_vc (o := fun _ => .ret ()) Tryd.mixed (fun _ => rfl) (fun k => (vcMvL_eq b1 b2 l to k).mpr ?_) k
  unfold vcMvL
  simp
  refine ⟨fun h => ⟨h, ?_⟩, fun h => ?_⟩
  · have hy : 0 ≤ (l[k]?.getD default).offset ∧ (l[k]?.getD default).offset < 18446744073709551616 := by
      have := ho l[k] (List.getElem_mem h)
      simpa [h] using this
    have hm : min k l.length = k := by omega
    have hst : moveL (l.take (k + 1)) to = moveL (l.take k) to ++ [mvP to (l[k]?.getD default)] := by rw [take_snoc l k h]; simp [moveL]
    have hlen : (moveL (l.take k) to).length = k := by simp [moveL, hm]
    have hw := wrap_i64 (n := (k : Int) + 1) (by omega) (by omega)
    rw [hw]
    generalize l[k]?.getD default = y at *
    rw [hm]
    have fin : ∀ e : List AV, (∀ j, j < 4 → le0 (Ax.get e j) (Ax.get (encP (mvP to y)) j)) → (k ≤ 9223372036854775806 ∧ (k + 1) * 32 ≤ 140737488355328) ∧ ∃ j, l.length - j < l.length - k ∧ (k + 1 = min j l.length ∧ (k : Int) + 1 = (j : Int)) ∧ k + 1 = min j l.length ∧ contLe (k + 1) 4 (appRow k (cellsOf' encP (moveL (List.take k l) to)) fun k_1 j => Ax.get e (k_1 * 4 + j)) (cellsOf' encP (moveL (List.take j l) to)) := by
      intro e he
      refine ⟨⟨by omega, by omega⟩, k + 1, by omega, ⟨by omega, by omega⟩, by omega, ?_⟩
      rw [hst]
      exact app_le (contLe_refl _ _ _) hlen.symm he
    have f0 : mvOk y to = false → _ := fun hm => fin [.y (.int .u64 y.id), .y (.int .u64 y.seq), .s (.bool false), .s (.int .u64 0)] fun j hj => by
      match j, hj with
      | 0, _ => simp [mvP, hm, encP]
      | 1, _ => simp [mvP, hm, encP]
      | 2, _ => simp [mvP, hm, encP]
      | 3, _ => simp [mvP, hm, encP]
    have f1 : mvOk y to = true → _ := fun hm => fin [.y (.int .u64 y.id), .y (.int .u64 y.seq), .s (.bool true), .y (.int .u64 (to[y.offset.toNat]?.getD 0))] fun j hj => by
      match j, hj with
      | 0, _ => simp [mvP, hm, encP]
      | 1, _ => simp [mvP, hm, encP]
      | 2, _ => simp [mvP, hm, encP]
      | 3, _ => simp [mvP, hm, encP]
    have hu : IntKind.u64.wrap (to.length : Int) = to.length := wrap_u64 (by omega) (by omega)
    rw [hu]
    refine ⟨fun hh => ⟨fun h1 => ?_, fun h1 => f0 ?_⟩, fun hh => f0 ?_⟩
    · have hs2 : IntKind.u64.wrap (IntKind.i64.wrap ((to.length : Int) - 2)) = (to.length : Int) - 2 := by
        rw [wrap_i64 (by omega) (by omega), wrap_u64 (by omega) (by omega)]
      rw [hs2]
      refine ⟨fun h2 => ?_, fun h2 => f0 ?_⟩
      · have hs3 : IntKind.u64.wrap (y.offset + 1) = y.offset + 1 := wrap_u64 (by omega) (by omega)
        have hs4 : (y.offset + 1).toNat = y.offset.toNat + 1 := by omega
        rw [hs3, hs4]
        refine ⟨⟨by omega, by omega⟩, ⟨by omega, by omega⟩, fun h3 => ⟨⟨by omega, by omega⟩, f1 ?_⟩, fun h3 => f0 ?_⟩
        · simp [mvOk, hh]
          exact ⟨by omega, h2, h3⟩
        · simp [mvOk]
          intro _ _ _
          exact h3
      · simp [mvOk]
        intro _ _ h3
        omega
    · simp [mvOk]
      intro _ h3
      omega
    · simp [mvOk, hh]
  · rw [List.take_of_length_le h]
    simp [moveL]
    omega
noncomputable def mvH (b1 b2 : Bool) (l : List Producer) (to : List Int) : HintsT Tryd.prog :=
  hh _ (lp1 21 3 (jobOf (mvT b1 b2 l to) (mvM l to) [0, 1, 2, 3, 4] (fun _ => .ret ()) (mvS b2 l to) 0) noLp) noCs (op1 21 1 0 (.row 46 4) noOp)
def rowR (r : List Producer) : T An := .ret (.own 0 4 0 r.length, [.row 46 4 r.length none (cellsOf' encP r)], [])
def vcMv (b1 : Bool) (b2 : Bool) (l : List Producer) (to : List Int) : Prop :=
  (((b2 = b2 ∧ List.length to = List.length to ∧ contLe (List.length to) (1 : Nat) (cellsOf' encI to) (cellsOf' encI to)) ∧ ((0 : Nat) = (0 : Nat) ∧ (0 : Nat) = (0 : Nat)) ∧ (b1 = b1 ∧ List.length l = List.length l ∧ contLe (List.length l) (4 : Nat) (cellsOf' encP l) (cellsOf' encP l)) ∧ (↑(List.length l) : Int) = (↑(List.length l) : Int) ∧ (0 : Int) = (0 : Int) ∧ True) ∧ (((0 : Nat) = (0 : Nat) ∧ contLe (0 : Nat) (4 : Nat) (fun (x x_1 : Nat) => AV.junk) (cellsOf' encP [])) ∧ True) ∧ true = true) ∧ LoopOk Tryd.prog (21 : Nat) (3 : Nat) (loopAt Tryd.prog (21 : Nat) (3 : Nat)) { t := mvT b1 b2 l to (0 : Nat), m := mvM l to (0 : Nat), mv := [] : St } (T.map (lout [(0 : Nat), (1 : Nat), (2 : Nat), (3 : Nat), (4 : Nat)] (mvS b2 l to)) ((fun (x : Nat) => T.ret ()) (0 : Nat))) ∧ ((0 : Nat) = (0 : Nat) ∧ List.length l = List.length (moveL l to)) ∧ (List.length l = List.length (moveL l to) ∧ contLe (List.length l) (4 : Nat) (cellsOf' encP (moveL l to)) (cellsOf' encP (moveL l to))) ∧ True
theorem vcMv_eq (b1 : Bool) (b2 : Bool) (l : List Producer) (to : List Int) : (ctrVC Tryd.prog (mvH b1 b2 l to) 21 [encPs b1 l, encU b2 to] [] (rowR (moveL l to))) = vcMv b1 b2 l to := by kernel_rfl
theorem move_c (b1 b2 : Bool) (l : List Producer) (to : List Int) (hl : l.length * 32 ≤ 140737488355200) (ht : to.length ≤ 9223372036854775806) (ho : ∀ x ∈ l, 0 ≤ x.offset ∧ x.offset < 18446744073709551616) : (rowR (moveL l to)).Sat (ACall' Tryd.prog 21 [encPs b1 l, encU b2 to] []) := by
  refine ctr_vc (ht := mvH b1 b2 l to) Tryd.mixed rfl ?_
  rw [vcMv_eq b1 b2 l to]
  unfold vcMv
  have hL := mv_loop b1 b2 l to hl ht ho 0 (Nat.zero_le _)
  simp [hL, moveL]
end Go.Proofs.YtckklclehofddaaDoor.P

namespace Go.Proofs.YtckklclehofddaaDoor.P
open Go.Ax
set_option maxRecDepth 1000000
def oneR (x : Producer) : T An := .ret (.agg (encP x), [], [])
def vcMd (b : Bool) (x : Producer) (to : List Int) : Prop :=
  (x.here = true → (decide ((0 : Int) < (↑(List.length to) : Int)) = true → (decide (x.offset < IntKind.wrap IntKind.u64 (IntKind.wrap IntKind.i64 ((↑(List.length to) : Int) - (1 : Int)))) = true → (decide ((0 : Int) ≤ IntKind.wrap IntKind.i64 (IntKind.wrap IntKind.i64 x.offset + (1 : Int))) && decide (IntKind.wrap IntKind.i64 (IntKind.wrap IntKind.i64 x.offset + (1 : Int)) < (↑(List.length to) : Int))) = true ∧ (decide ((0 : Int) ≤ IntKind.wrap IntKind.i64 x.offset) && decide (IntKind.wrap IntKind.i64 x.offset < (↑(List.length to) : Int))) = true ∧ (decide (List.getD to (Int.toNat (IntKind.wrap IntKind.i64 x.offset)) (0 : Int) < List.getD to (Int.toNat (IntKind.wrap IntKind.i64 (IntKind.wrap IntKind.i64 x.offset + (1 : Int)))) (0 : Int)) = true → (decide ((0 : Int) ≤ IntKind.wrap IntKind.i64 x.offset) && decide (IntKind.wrap IntKind.i64 x.offset < (↑(List.length to) : Int))) = true ∧ (x.id = (mvP to x).id ∧ x.seq = (mvP to x).seq ∧ true = (mvP to x).here ∧ List.getD to (Int.toNat (IntKind.wrap IntKind.i64 x.offset)) (0 : Int) = (mvP to x).offset ∧ True) ∧ True) ∧ (decide (List.getD to (Int.toNat (IntKind.wrap IntKind.i64 x.offset)) (0 : Int) < List.getD to (Int.toNat (IntKind.wrap IntKind.i64 (IntKind.wrap IntKind.i64 x.offset + (1 : Int)))) (0 : Int)) = false → (x.id = (mvP to x).id ∧ x.seq = (mvP to x).seq ∧ false = (mvP to x).here ∧ (0 : Int) = (mvP to x).offset ∧ True) ∧ True)) ∧ (decide (x.offset < IntKind.wrap IntKind.u64 (IntKind.wrap IntKind.i64 ((↑(List.length to) : Int) - (1 : Int)))) = false → (x.id = (mvP to x).id ∧ x.seq = (mvP to x).seq ∧ false = (mvP to x).here ∧ (0 : Int) = (mvP to x).offset ∧ True) ∧ True)) ∧ (decide ((0 : Int) < (↑(List.length to) : Int)) = false → (x.id = (mvP to x).id ∧ x.seq = (mvP to x).seq ∧ false = (mvP to x).here ∧ (0 : Int) = (mvP to x).offset ∧ True) ∧ True)) ∧ (x.here = false → (x.id = (mvP to x).id ∧ x.seq = (mvP to x).seq ∧ false = (mvP to x).here ∧ (0 : Int) = (mvP to x).offset ∧ True) ∧ True)
theorem vcMd_eq (b : Bool) (x : Producer) (to : List Int) : (ctrVC Tryd.prog (hT _) 58 [.agg (encP x), encU b to] [] (oneR (mvP to x))) = vcMd b x to := by kernel_rfl
theorem moved_c (b : Bool) (y : Producer) (to : List Int) (ht : to.length ≤ 9223372036854775806) (ho : 0 ≤ y.offset ∧ y.offset < 18446744073709551616) : (oneR (mvP to y)).Sat (ACall' Tryd.prog 58 [.agg (encP y), encU b to] []) := by
  refine ctr_vc (ht := hT _) Tryd.mixed rfl ?_
  rw [vcMd_eq b y to]
  unfold vcMd
  simp [encP]
  have h0 : mvOk y to = false → y.id = (mvP to y).id ∧ y.seq = (mvP to y).seq ∧ (mvP to y).here = false ∧ 0 = (mvP to y).offset := fun h => by simp [mvP, h]
  refine ⟨fun hh => ⟨fun h1 => ?_, fun h1 => h0 ?_⟩, fun hh => h0 ?_⟩
  · have hs2 : IntKind.u64.wrap (IntKind.i64.wrap ((to.length : Int) - 1)) = (to.length : Int) - 1 := by
      rw [wrap_i64 (by omega) (by omega), wrap_u64 (by omega) (by omega)]
    rw [hs2]
    refine ⟨fun h2 => ?_, fun h2 => h0 ?_⟩
    · have hs3 : IntKind.i64.wrap y.offset = y.offset := wrap_i64 (by omega) (by omega)
      have hs5 : IntKind.i64.wrap (y.offset + 1) = y.offset + 1 := wrap_i64 (by omega) (by omega)
      have hs4 : (y.offset + 1).toNat = y.offset.toNat + 1 := by omega
      rw [hs3, hs5, hs4]
      refine ⟨⟨by omega, by omega⟩, ⟨by omega, by omega⟩, fun h3 => ⟨⟨by omega, by omega⟩, ?_⟩, fun h3 => h0 ?_⟩
      · have : mvOk y to = true := by
          simp [mvOk, hh]
          exact ⟨by omega, by omega, h3⟩
        simp [mvP, this]
      · simp [mvOk]
        intro _ _ _
        exact h3
    · simp [mvOk]
      intro _ h3 h4
      omega
  · simp [mvOk, h1]
  · simp [mvOk, hh]
noncomputable def movedN (b : Bool) (x : Producer) (to : List Int) : Ctr Tryd.prog := ⟨58, [.agg (encP x), encU b to], [], .need (to.length ≤ 9223372036854775806 ∧ 0 ≤ x.offset ∧ x.offset < 18446744073709551616) (oneR (mvP to x)), T.Sat.need fun h => moved_c b x to h.1 h.2⟩
def rmT (b1 b2 : Bool) (l : List Producer) (to : List Int) (k : Nat) : List AV := mkT 23 [(0, encPs b1 l), (1, encU b2 to), (5, .own 0 4 0 (l.take k).length), (6, .y (.int .i64 k))]
def rmS (b1 b2 : Bool) (l : List Producer) (to : List Int) (_ : Unit) : Exit × List AV × List Blk := (.exit 0, mkT 23 [(0, encPs b1 l), (1, encU b2 to), (5, .own 0 4 0 l.length)], [.row 46 4 l.length none (cellsOf' encP (moveL l to))])
noncomputable def rmH (b2 : Bool) (l : List Producer) (to : List Int) (k : Nat) : HintsT Tryd.prog := hh _ noLp (cs1 44 5 6 (movedN b2 (l.getD k default) to) noCs) noOp
def vcRmL (b1 : Bool) (b2 : Bool) (l : List Producer) (to : List Int) (k : Nat) : Prop :=
  (decide ((↑k : Int) < (↑(List.length l) : Int)) = true → (true && decide ((↑k : Int) < (↑(List.length l) : Int))) = true ∧ (((List.getD l (Int.toNat (↑k : Int)) (@default Producer instInhabitedProducer)).id = (List.getD l k (@default Producer instInhabitedProducer)).id ∧ (List.getD l (Int.toNat (↑k : Int)) (@default Producer instInhabitedProducer)).seq = (List.getD l k (@default Producer instInhabitedProducer)).seq ∧ (List.getD l (Int.toNat (↑k : Int)) (@default Producer instInhabitedProducer)).here = (List.getD l k (@default Producer instInhabitedProducer)).here ∧ (List.getD l (Int.toNat (↑k : Int)) (@default Producer instInhabitedProducer)).offset = (List.getD l k (@default Producer instInhabitedProducer)).offset ∧ True) ∧ (b2 = b2 ∧ List.length to = List.length to ∧ contLe (List.length to) (1 : Nat) (cellsOf' encI to) (cellsOf' encI to)) ∧ True) ∧ True ∧ (List.length to ≤ (9223372036854775806 : Nat) ∧ (0 : Int) ≤ (List.getD l k (@default Producer instInhabitedProducer)).offset ∧ (List.getD l k (@default Producer instInhabitedProducer)).offset < (18446744073709551616 : Int)) ∧ (decide (List.length (List.take k l) = List.length (List.take k l)) && decide (List.length (List.take k l) + (1 : Nat) ≤ (9223372036854775807 : Nat)) && decide ((List.length (List.take k l) + (1 : Nat)) * (32 : Nat) ≤ (140737488355328 : Nat))) = true ∧ ∃ (j : Nat), List.length l - j < List.length l - k ∧ (((b1 = b1 ∧ List.length l = List.length l ∧ contLe (List.length l) (4 : Nat) (cellsOf' encP l) (cellsOf' encP l)) ∧ (b2 = b2 ∧ List.length to = List.length to ∧ contLe (List.length to) (1 : Nat) (cellsOf' encI to) (cellsOf' encI to)) ∧ ((0 : Nat) = (0 : Nat) ∧ List.length (List.take k l) + (1 : Nat) = List.length (List.take j l)) ∧ IntKind.wrap IntKind.i64 ((↑k : Int) + (1 : Int)) = (↑j : Int) ∧ True) ∧ ((List.length (List.take k l) + (1 : Nat) = List.length (List.take j l) ∧ contLe (List.length (List.take k l) + (1 : Nat)) (4 : Nat) (appRow (List.length (List.take k l)) (cellsOf' encP (moveL (List.take k l) to)) fun (k_1 j : Nat) => Ax.get [AV.y (Value.int IntKind.u64 (mvP to (List.getD l k (@default Producer instInhabitedProducer))).id), AV.y (Value.int IntKind.u64 (mvP to (List.getD l k (@default Producer instInhabitedProducer))).seq), AV.y (Value.bool (mvP to (List.getD l k (@default Producer instInhabitedProducer))).here), AV.y (Value.int IntKind.u64 (mvP to (List.getD l k (@default Producer instInhabitedProducer))).offset)] (k_1 * (4 : Nat) + j)) (cellsOf' encP (moveL (List.take j l) to))) ∧ True) ∧ true = true) ∧ true = true ∧ () = ()) ∧ (decide ((↑k : Int) < (↑(List.length l) : Int)) = false → ((b1 = b1 ∧ List.length l = List.length l ∧ contLe (List.length l) (4 : Nat) (cellsOf' encP l) (cellsOf' encP l)) ∧ (b2 = b2 ∧ List.length to = List.length to ∧ contLe (List.length to) (1 : Nat) (cellsOf' encI to) (cellsOf' encI to)) ∧ ((0 : Nat) = (0 : Nat) ∧ List.length (List.take k l) = List.length l) ∧ True) ∧ ((List.length (List.take k l) = List.length l ∧ contLe (List.length (List.take k l)) (4 : Nat) (cellsOf' encP (moveL (List.take k l) to)) (cellsOf' encP (moveL l to))) ∧ True) ∧ true = true)
theorem vcRmL_eq (b1 : Bool) (b2 : Bool) (l : List Producer) (to : List Int) (k : Nat) : (loopVC Tryd.prog (rmH b2 l to k) 44 3 (fun k => l.length - k) (rmT b1 b2 l to) (mvM l to) [0, 1, 2, 3, 4] (fun _ => .ret ()) (rmS b1 b2 l to) k) = vcRmL b1 b2 l to k := by kernel_rfl
theorem rm_loop (b1 b2 : Bool) (l : List Producer) (to : List Int) (hl : l.length * 32 ≤ 140737488355200) (ht : to.length ≤ 9223372036854775806) (ho : ∀ x ∈ l, 0 ≤ x.offset ∧ x.offset < 18446744073709551616) (k : Nat) : LoopOk Tryd.prog 44 3 (loopAt Tryd.prog 44 3) ⟨rmT b1 b2 l to k, mvM l to k, []⟩ (T.map (lout [0, 1, 2, 3, 4] (rmS b1 b2 l to)) (.ret ())) := by
  refine loop_vcH (o := fun _ => .ret ()) Tryd.mixed (fun _ => rfl) (fun k => (vcRmL_eq b1 b2 l to k).mpr ?_) k
  unfold vcRmL
  simp
  refine ⟨fun h => ⟨h, ?_⟩, fun h => ?_⟩
  · have hy : 0 ≤ (l[k]?.getD default).offset ∧ (l[k]?.getD default).offset < 18446744073709551616 := by
      have := ho l[k] (List.getElem_mem h)
      simpa [h] using this
    have hm : min k l.length = k := by omega
    have hst : moveL (l.take (k + 1)) to = moveL (l.take k) to ++ [mvP to (l[k]?.getD default)] := by rw [take_snoc l k h]; simp [moveL]
    have hlen : (moveL (l.take k) to).length = k := by simp [moveL, hm]
    have hw := wrap_i64 (n := (k : Int) + 1) (by omega) (by omega)
    rw [hw]
    generalize l[k]?.getD default = y at *
    rw [hm]
    refine ⟨⟨ht, hy⟩, ⟨by omega, by omega⟩, k + 1, by omega, ⟨by omega, by omega⟩, by omega, ?_⟩
    rw [hst]
    refine app_le (contLe_refl _ _ _) hlen.symm fun j hj => ?_
    match j, hj with
    | 0, _ => simp [encP]
    | 1, _ => simp [encP]
    | 2, _ => simp [encP]
    | 3, _ => simp [encP]
  · rw [List.take_of_length_le h]
    simp [moveL]
    omega
def lat (x y : Producer) : Bool := decide (y.seq < x.seq) || (x.seq == y.seq && (x.here && !y.here))
def boolR (b : Bool) : T An := .ret (.y (.bool b), [], [])
noncomputable def rmvH (b1 b2 : Bool) (l : List Producer) (to : List Int) : HintsT Tryd.prog :=
  hh _ (lp1 44 3 (jobOf (rmT b1 b2 l to) (mvM l to) [0, 1, 2, 3, 4] (fun _ => .ret ()) (rmS b1 b2 l to) 0) noLp) noCs (op1 44 1 0 (.row 46 4) noOp)
def vcRmv (b1 : Bool) (b2 : Bool) (l : List Producer) (to : List Int) : Prop :=
  (((b1 = b1 ∧ List.length l = List.length l ∧ contLe (List.length l) (4 : Nat) (cellsOf' encP l) (cellsOf' encP l)) ∧ (b2 = b2 ∧ List.length to = List.length to ∧ contLe (List.length to) (1 : Nat) (cellsOf' encI to) (cellsOf' encI to)) ∧ ((0 : Nat) = (0 : Nat) ∧ (0 : Nat) = (0 : Nat)) ∧ (0 : Int) = (0 : Int) ∧ True) ∧ (((0 : Nat) = (0 : Nat) ∧ contLe (0 : Nat) (4 : Nat) (fun (x x_1 : Nat) => AV.junk) (cellsOf' encP [])) ∧ True) ∧ true = true) ∧ LoopOk Tryd.prog (44 : Nat) (3 : Nat) (loopAt Tryd.prog (44 : Nat) (3 : Nat)) { t := rmT b1 b2 l to (0 : Nat), m := mvM l to (0 : Nat), mv := [] : St } (T.map (lout [(0 : Nat), (1 : Nat), (2 : Nat), (3 : Nat), (4 : Nat)] (rmS b1 b2 l to)) ((fun (x : Nat) => T.ret ()) (0 : Nat))) ∧ ((0 : Nat) = (0 : Nat) ∧ List.length l = List.length (moveL l to)) ∧ (List.length l = List.length (moveL l to) ∧ contLe (List.length l) (4 : Nat) (cellsOf' encP (moveL l to)) (cellsOf' encP (moveL l to))) ∧ True
theorem vcRmv_eq (b1 : Bool) (b2 : Bool) (l : List Producer) (to : List Int) : (ctrVC Tryd.prog (rmvH b1 b2 l to) 44 [encPs b1 l, encU b2 to] [] (rowR (moveL l to))) = vcRmv b1 b2 l to := by kernel_rfl
theorem rmove_c (b1 b2 : Bool) (l : List Producer) (to : List Int) (hl : l.length * 32 ≤ 140737488355200) (ht : to.length ≤ 9223372036854775806) (ho : ∀ x ∈ l, 0 ≤ x.offset ∧ x.offset < 18446744073709551616) : (rowR (moveL l to)).Sat (ACall' Tryd.prog 44 [encPs b1 l, encU b2 to] []) := by
  refine ctr_vc (ht := rmvH b1 b2 l to) Tryd.mixed rfl ?_
  rw [vcRmv_eq b1 b2 l to]
  unfold vcRmv
  have hL := rm_loop b1 b2 l to hl ht ho 0
  simp [hL, moveL]
end Go.Proofs.YtckklclehofddaaDoor.P

namespace Go.Proofs.YtckklclehofddaaDoor.P
open Go.Ax
set_option maxRecDepth 1000000
def bst (s : List Producer) (x : Producer) : List Producer := if !findI s x.id || lat x (findD s x.id) then putL s x else s
def both (s m : List Producer) (k : Nat) : List Producer := (m.take k).foldl bst s
noncomputable def moveN (b1 b2 : Bool) (l : List Producer) (to : List Int) : Ctr Tryd.prog := ⟨21, [encPs b1 l, encU b2 to], [], .need (l.length * 32 ≤ 140737488355200 ∧ to.length ≤ 9223372036854775806 ∧ ∀ x ∈ l, 0 ≤ x.offset ∧ x.offset < 18446744073709551616) (rowR (moveL l to)), T.Sat.need fun h => move_c b1 b2 l to h.1 h.2.1 h.2.2⟩
noncomputable def rmoveN (b1 b2 : Bool) (l : List Producer) (to : List Int) : Ctr Tryd.prog := ⟨44, [encPs b1 l, encU b2 to], [], .need (l.length * 32 ≤ 140737488355200 ∧ to.length ≤ 9223372036854775806 ∧ ∀ x ∈ l, 0 ≤ x.offset ∧ x.offset < 18446744073709551616) (rowR (moveL l to)), T.Sat.need fun h => rmove_c b1 b2 l to h.1 h.2.1 h.2.2⟩
noncomputable def tabN (b : Bool) (l : List Producer) : Ctr Tryd.prog := ⟨48, [encPs b l], [], .need (l.length ≤ 9223372036854775806) (tabR l), T.Sat.need fun h => table_c b l h⟩
noncomputable def tabN2 (b : Bool) (l : List Producer) : Ctr Tryd.prog := ⟨38, [encPs b l], [], .need (l.length ≤ 9223372036854775806) (tabR l), T.Sat.need fun h => table2_c b l h⟩
end Go.Proofs.YtckklclehofddaaDoor.P

namespace Go.Proofs.YtckklclehofddaaDoor
open Go.Ax
set_option maxRecDepth 1000000
structure Part where
  rng : Rng
  epoch : Int
  frozen : Int
  recs : List Rec
  prods : List P.Producer
  cons : List Con
instance : Inhabited Part := ⟨⟨default, 0, 0, [], [], []⟩⟩
def encPt (b : Bool) (p : Part) : List AV := [.y (.string p.rng.lo), .y (.string p.rng.hi), .y (.int .u64 p.epoch), .y (.int .u64 p.frozen), encRs b p.recs, P.encPs b p.prods, encCs b p.cons]
abbrev Kn := (Int → Bool) × (Int → Int)
abbrev Kn.put (s : Kn) (a b : Int) : Kn := (updHas s.1 a, updC s.2 a b)
abbrev Kn.sel (s : Kn) (a : Int) : Int := selI (s.1 a) (s.2 a)
def kn0 : Kn := (fun _ => false, fun _ => 0)
def knP (l : List P.Producer) : Kn := l.foldl (fun s x => s.put x.id x.seq) kn0
def knR (l : List Rec) : Kn := l.foldl (fun s x => s.put x.prod x.seq) kn0
theorem knP_step {l : List P.Producer} {k : Nat} (h : k < l.length) : knP (l.take (k + 1)) = (knP (l.take k)).put (l.getD k default).id (l.getD k default).seq := by
  unfold knP
  rw [List.take_add_one, List.foldl_append, List.getElem?_eq_getElem h]
  simp [List.getElem?_eq_getElem h]
theorem knR_step {l : List Rec} {k : Nat} (h : k < l.length) : knR (l.take (k + 1)) = (knR (l.take k)).put (l.getD k default).prod (l.getD k default).seq := by
  unfold knR
  rw [List.take_add_one, List.foldl_append, List.getElem?_eq_getElem h]
  simp [List.getElem?_eq_getElem h]
def mapB (s : Kn) : Blk := .mi .u64 .u64 s.1 s.2
def orM1 (b : Bool) (p : Part) (s : Kn) : List Blk := [.box 29 (encPt b p), mapB s]
def orT1 (b : Bool) (p : Part) (k : Nat) : List AV := mkT 61 [(1, .ptr 0 0 0 0), (3, .mref 1), (11, P.encPs b p.prods), (12, .y (.int .i64 p.prods.length)), (13, .y (.int .i64 k))]
def orS1 (b : Bool) (p : Part) (_ : Unit) : Exit × List AV × List Blk := (.exit 0, mkT 61 [(1, .ptr 0 0 0 0), (3, .mref 1)], orM1 b p (knP p.prods))
def jX9 : List Nat := [0, 1, 2, 3, 4, 5, 6, 7, 8, 9]
def vcOr1 (b : Bool) (p : Part) (k : Nat) : Prop :=
  (decide ((↑k : Int) < (↑(List.length p.prods) : Int)) = true → (true && decide ((↑k : Int) < (↑(List.length p.prods) : Int))) = true ∧ ∃ (j : Nat), List.length p.prods - j < List.length p.prods - k ∧ ((((0 : Nat) = (0 : Nat) ∧ (0 : Nat) = (0 : Nat)) ∧ True ∧ (b = b ∧ List.length p.prods = List.length p.prods ∧ contLe (List.length p.prods) (4 : Nat) (cellsOf' P.encP p.prods) (cellsOf' P.encP p.prods)) ∧ (↑(List.length p.prods) : Int) = (↑(List.length p.prods) : Int) ∧ IntKind.wrap IntKind.i64 ((↑k : Int) + (1 : Int)) = (↑j : Int) ∧ True) ∧ ((p.rng.lo = p.rng.lo ∧ p.rng.hi = p.rng.hi ∧ p.epoch = p.epoch ∧ p.frozen = p.frozen ∧ (b = b ∧ List.length p.recs = List.length p.recs ∧ contLe (List.length p.recs) (5 : Nat) (cellsOf' encR p.recs) (cellsOf' encR p.recs)) ∧ (b = b ∧ List.length p.prods = List.length p.prods ∧ contLe (List.length p.prods) (4 : Nat) (cellsOf' P.encP p.prods) (cellsOf' P.encP p.prods)) ∧ (b = b ∧ List.length p.cons = List.length p.cons ∧ contLe (List.length p.cons) (2 : Nat) (cellsOf' encC p.cons) (cellsOf' encC p.cons)) ∧ True) ∧ (IntKind.u64 = IntKind.u64 ∧ IntKind.u64 = IntKind.u64 ∧ ∀ (x : Int), updHas (knP (List.take k p.prods)).fst (List.getD p.prods (Int.toNat (↑k : Int)) (@default P.Producer P.instInhabitedProducer)).id x = (knP (List.take j p.prods)).fst x ∧ (updHas (knP (List.take k p.prods)).fst (List.getD p.prods (Int.toNat (↑k : Int)) (@default P.Producer P.instInhabitedProducer)).id x = true → updC (knP (List.take k p.prods)).snd (List.getD p.prods (Int.toNat (↑k : Int)) (@default P.Producer P.instInhabitedProducer)).id (List.getD p.prods (Int.toNat (↑k : Int)) (@default P.Producer P.instInhabitedProducer)).seq x = (knP (List.take j p.prods)).snd x)) ∧ True) ∧ true = true) ∧ true = true ∧ () = ()) ∧ (decide ((↑k : Int) < (↑(List.length p.prods) : Int)) = false → (((0 : Nat) = (0 : Nat) ∧ (0 : Nat) = (0 : Nat)) ∧ True ∧ True) ∧ ((p.rng.lo = p.rng.lo ∧ p.rng.hi = p.rng.hi ∧ p.epoch = p.epoch ∧ p.frozen = p.frozen ∧ (b = b ∧ List.length p.recs = List.length p.recs ∧ contLe (List.length p.recs) (5 : Nat) (cellsOf' encR p.recs) (cellsOf' encR p.recs)) ∧ (b = b ∧ List.length p.prods = List.length p.prods ∧ contLe (List.length p.prods) (4 : Nat) (cellsOf' P.encP p.prods) (cellsOf' P.encP p.prods)) ∧ (b = b ∧ List.length p.cons = List.length p.cons ∧ contLe (List.length p.cons) (2 : Nat) (cellsOf' encC p.cons) (cellsOf' encC p.cons)) ∧ True) ∧ (IntKind.u64 = IntKind.u64 ∧ IntKind.u64 = IntKind.u64 ∧ ∀ (x : Int), (knP (List.take k p.prods)).fst x = (knP p.prods).fst x ∧ ((knP (List.take k p.prods)).fst x = true → (knP (List.take k p.prods)).snd x = (knP p.prods).snd x)) ∧ True) ∧ true = true)
theorem vcOr1_eq (b : Bool) (p : Part) (k : Nat) : (loopVC Tryd.prog (hT _) 50 3 (fun k => p.prods.length - k) (orT1 b p) (fun k => orM1 b p (knP (p.prods.take k))) jX9 (fun _ => .ret ()) (orS1 b p) k) = vcOr1 b p k := by kernel_rfl
def orM2 (b : Bool) (p : Part) (k : Nat) : List Blk := [.box 29 (encPt b p), mapB (knP p.prods), mapB (knR (p.recs.take k))]
def orT2 (b : Bool) (p : Part) (k : Nat) : List AV := mkT 61 [(1, .ptr 0 0 0 0), (3, .mref 1), (6, .mref 2), (25, encRs b p.recs), (26, .y (.int .i64 p.recs.length)), (27, .y (.int .i64 k))]
def orS2 (r : Bool) : Exit × List AV × List Blk := match r with
  | true => (.exit 2, mkT 61 [], [])
  | false => (.ret, mkT 61 [(2, .s (.bool false))], [])
def okO (p : Part) (k : Nat) : Bool :=
  let x := p.recs.getD k default
  hasK p.rng x.key && (!decide (x.seq ≤ (knR (p.recs.take k)).sel x.prod) && !decide ((knP p.prods).sel x.prod < x.seq))
def orFrom (p : Part) (k : Nat) : Bool := (List.range' k (p.recs.length - k)).all fun j => okO p j
theorem orFrom_end {p : Part} {k : Nat} (h : p.recs.length ≤ k) : orFrom p k = true := by
  unfold orFrom
  rw [show p.recs.length - k = 0 by omega]; rfl
theorem orFrom_step {p : Part} {k : Nat} (h : k < p.recs.length) : orFrom p k = (okO p k && orFrom p (k + 1)) := by
  unfold orFrom
  rw [show p.recs.length - k = (p.recs.length - (k + 1)) + 1 by omega, List.range'_succ]; rfl
def orO (p : Part) (k : Nat) : T Bool := .ite (orFrom p k) (.ret true) (.ret false)
noncomputable def orH2 (p : Part) (k : Nat) : HintsT Tryd.prog := hh _ noLp (cs1 50 11 4 (hasC p.rng (p.recs.getD k default).key) noCs) noOp
def vcOr2 (b : Bool) (p : Part) (k : Nat) : Prop :=
  (decide ((↑k : Int) < (↑(List.length p.recs) : Int)) = true → (true && decide ((↑k : Int) < (↑(List.length p.recs) : Int))) = true ∧ ((p.rng.lo = p.rng.lo ∧ p.rng.hi = p.rng.hi ∧ True) ∧ (List.getD p.recs (Int.toNat (↑k : Int)) (@default Rec instInhabitedRec)).key = (List.getD p.recs k (@default Rec instInhabitedRec)).key ∧ True) ∧ True ∧ ((!hasK p.rng (List.getD p.recs k (@default Rec instInhabitedRec)).key) = true → (orFrom p k = true → False) ∧ (orFrom p k = false → (false = false ∧ True) ∧ True ∧ true = true)) ∧ ((!hasK p.rng (List.getD p.recs k (@default Rec instInhabitedRec)).key) = false → (decide ((List.getD p.recs (Int.toNat (↑k : Int)) (@default Rec instInhabitedRec)).seq ≤ selI ((knR (List.take k p.recs)).fst (List.getD p.recs (Int.toNat (↑k : Int)) (@default Rec instInhabitedRec)).prod) ((knR (List.take k p.recs)).snd (List.getD p.recs (Int.toNat (↑k : Int)) (@default Rec instInhabitedRec)).prod)) = true → (orFrom p k = true → False) ∧ (orFrom p k = false → (false = false ∧ True) ∧ True ∧ true = true)) ∧ (decide ((List.getD p.recs (Int.toNat (↑k : Int)) (@default Rec instInhabitedRec)).seq ≤ selI ((knR (List.take k p.recs)).fst (List.getD p.recs (Int.toNat (↑k : Int)) (@default Rec instInhabitedRec)).prod) ((knR (List.take k p.recs)).snd (List.getD p.recs (Int.toNat (↑k : Int)) (@default Rec instInhabitedRec)).prod)) = false → (decide (selI ((knP p.prods).fst (List.getD p.recs (Int.toNat (↑k : Int)) (@default Rec instInhabitedRec)).prod) ((knP p.prods).snd (List.getD p.recs (Int.toNat (↑k : Int)) (@default Rec instInhabitedRec)).prod) < (List.getD p.recs (Int.toNat (↑k : Int)) (@default Rec instInhabitedRec)).seq) = true → (orFrom p k = true → False) ∧ (orFrom p k = false → (false = false ∧ True) ∧ True ∧ true = true)) ∧ (decide (selI ((knP p.prods).fst (List.getD p.recs (Int.toNat (↑k : Int)) (@default Rec instInhabitedRec)).prod) ((knP p.prods).snd (List.getD p.recs (Int.toNat (↑k : Int)) (@default Rec instInhabitedRec)).prod) < (List.getD p.recs (Int.toNat (↑k : Int)) (@default Rec instInhabitedRec)).seq) = false → ∃ (j : Nat), List.length p.recs - j < List.length p.recs - k ∧ ((((0 : Nat) = (0 : Nat) ∧ (0 : Nat) = (0 : Nat)) ∧ True ∧ True ∧ (b = b ∧ List.length p.recs = List.length p.recs ∧ contLe (List.length p.recs) (5 : Nat) (cellsOf' encR p.recs) (cellsOf' encR p.recs)) ∧ (↑(List.length p.recs) : Int) = (↑(List.length p.recs) : Int) ∧ IntKind.wrap IntKind.i64 ((↑k : Int) + (1 : Int)) = (↑j : Int) ∧ True) ∧ ((p.rng.lo = p.rng.lo ∧ p.rng.hi = p.rng.hi ∧ p.epoch = p.epoch ∧ p.frozen = p.frozen ∧ (b = b ∧ List.length p.recs = List.length p.recs ∧ contLe (List.length p.recs) (5 : Nat) (cellsOf' encR p.recs) (cellsOf' encR p.recs)) ∧ (b = b ∧ List.length p.prods = List.length p.prods ∧ contLe (List.length p.prods) (4 : Nat) (cellsOf' P.encP p.prods) (cellsOf' P.encP p.prods)) ∧ (b = b ∧ List.length p.cons = List.length p.cons ∧ contLe (List.length p.cons) (2 : Nat) (cellsOf' encC p.cons) (cellsOf' encC p.cons)) ∧ True) ∧ (IntKind.u64 = IntKind.u64 ∧ IntKind.u64 = IntKind.u64 ∧ ∀ (x : Int), (knP p.prods).fst x = (knP p.prods).fst x ∧ ((knP p.prods).fst x = true → (knP p.prods).snd x = (knP p.prods).snd x)) ∧ (IntKind.u64 = IntKind.u64 ∧ IntKind.u64 = IntKind.u64 ∧ ∀ (x : Int), updHas (knR (List.take k p.recs)).fst (List.getD p.recs (Int.toNat (↑k : Int)) (@default Rec instInhabitedRec)).prod x = (knR (List.take j p.recs)).fst x ∧ (updHas (knR (List.take k p.recs)).fst (List.getD p.recs (Int.toNat (↑k : Int)) (@default Rec instInhabitedRec)).prod x = true → updC (knR (List.take k p.recs)).snd (List.getD p.recs (Int.toNat (↑k : Int)) (@default Rec instInhabitedRec)).prod (List.getD p.recs (Int.toNat (↑k : Int)) (@default Rec instInhabitedRec)).seq x = (knR (List.take j p.recs)).snd x)) ∧ True) ∧ true = true) ∧ true = true ∧ (orFrom p j = true → (orFrom p k = true → true = true) ∧ (orFrom p k = false → true = false)) ∧ (orFrom p j = false → (orFrom p k = true → false = true) ∧ (orFrom p k = false → false = false)))))) ∧ (decide ((↑k : Int) < (↑(List.length p.recs) : Int)) = false → (orFrom p k = true → True ∧ True ∧ true = true) ∧ (orFrom p k = false → False))
theorem vcOr2_eq (b : Bool) (p : Part) (k : Nat) : (loopVC Tryd.prog (orH2 p k) 50 9 (fun k => p.recs.length - k) (orT2 b p) (orM2 b p) jX9 (orO p) orS2 k) = vcOr2 b p k := by kernel_rfl
noncomputable def orH (b : Bool) (p : Part) : HintsT Tryd.prog := hh _ (lp1 50 3 (jobOf (orT1 b p) (fun k => orM1 b p (knP (p.prods.take k))) jX9 (fun _ => .ret ()) (orS1 b p) 0) (lp1 50 9 (jobOf (orT2 b p) (orM2 b p) jX9 (orO p) orS2 0) noLp)) noCs noOp
def vcOr (b : Bool) (p : Part) : Prop :=
  ((((0 : Nat) = (0 : Nat) ∧ (0 : Nat) = (0 : Nat)) ∧ True ∧ (b = b ∧ List.length p.prods = List.length p.prods ∧ contLe (List.length p.prods) (4 : Nat) (cellsOf' P.encP p.prods) (cellsOf' P.encP p.prods)) ∧ (↑(List.length p.prods) : Int) = (↑(List.length p.prods) : Int) ∧ (0 : Int) = (0 : Int) ∧ True) ∧ ((p.rng.lo = p.rng.lo ∧ p.rng.hi = p.rng.hi ∧ p.epoch = p.epoch ∧ p.frozen = p.frozen ∧ (b = b ∧ List.length p.recs = List.length p.recs ∧ contLe (List.length p.recs) (5 : Nat) (cellsOf' encR p.recs) (cellsOf' encR p.recs)) ∧ (b = b ∧ List.length p.prods = List.length p.prods ∧ contLe (List.length p.prods) (4 : Nat) (cellsOf' P.encP p.prods) (cellsOf' P.encP p.prods)) ∧ (b = b ∧ List.length p.cons = List.length p.cons ∧ contLe (List.length p.cons) (2 : Nat) (cellsOf' encC p.cons) (cellsOf' encC p.cons)) ∧ True) ∧ (∀ (x : Int), false = false) ∧ True) ∧ true = true) ∧ LoopOk Tryd.prog (50 : Nat) (3 : Nat) (loopAt Tryd.prog (50 : Nat) (3 : Nat)) { t := orT1 b p (0 : Nat), m := orM1 b p (knP (List.take (0 : Nat) p.prods)), mv := [] : St } (T.map (lout jX9 (orS1 b p)) ((fun (x : Nat) => T.ret ()) (0 : Nat))) ∧ ((((0 : Nat) = (0 : Nat) ∧ (0 : Nat) = (0 : Nat)) ∧ True ∧ True ∧ (b = b ∧ List.length p.recs = List.length p.recs ∧ contLe (List.length p.recs) (5 : Nat) (cellsOf' encR p.recs) (cellsOf' encR p.recs)) ∧ (↑(List.length p.recs) : Int) = (↑(List.length p.recs) : Int) ∧ (0 : Int) = (0 : Int) ∧ True) ∧ ((p.rng.lo = p.rng.lo ∧ p.rng.hi = p.rng.hi ∧ p.epoch = p.epoch ∧ p.frozen = p.frozen ∧ (b = b ∧ List.length p.recs = List.length p.recs ∧ contLe (List.length p.recs) (5 : Nat) (cellsOf' encR p.recs) (cellsOf' encR p.recs)) ∧ (b = b ∧ List.length p.prods = List.length p.prods ∧ contLe (List.length p.prods) (4 : Nat) (cellsOf' P.encP p.prods) (cellsOf' P.encP p.prods)) ∧ (b = b ∧ List.length p.cons = List.length p.cons ∧ contLe (List.length p.cons) (2 : Nat) (cellsOf' encC p.cons) (cellsOf' encC p.cons)) ∧ True) ∧ (IntKind.u64 = IntKind.u64 ∧ IntKind.u64 = IntKind.u64 ∧ ∀ (x : Int), (knP p.prods).fst x = (knP p.prods).fst x ∧ ((knP p.prods).fst x = true → (knP p.prods).snd x = (knP p.prods).snd x)) ∧ (∀ (x : Int), false = false) ∧ True) ∧ true = true) ∧ LoopOk Tryd.prog (50 : Nat) (9 : Nat) (loopAt Tryd.prog (50 : Nat) (9 : Nat)) { t := orT2 b p (0 : Nat), m := orM2 b p (0 : Nat), mv := [] : St } (T.map (lout jX9 orS2) (orO p (0 : Nat))) ∧ (orFrom p (0 : Nat) = true → true = orFrom p (0 : Nat) ∧ True) ∧ (orFrom p (0 : Nat) = false → false = orFrom p (0 : Nat) ∧ True)
theorem vcOr_eq (b : Bool) (p : Part) : (ctrVC Tryd.prog (orH b p) 50 [.agg (encPt b p)] [] (boolR (orFrom p 0))) = vcOr b p := by kernel_rfl
end Go.Proofs.YtckklclehofddaaDoor

namespace Go.Proofs.YtckklclehofddaaDoor
open Go.Ax
set_option maxRecDepth 1000000
theorem or1_loop (b : Bool) (p : Part) (hl : p.prods.length ≤ 9223372036854775806) (k : Nat) : LoopOk Tryd.prog 50 3 (loopAt Tryd.prog 50 3) ⟨orT1 b p k, orM1 b p (knP (p.prods.take k)), []⟩ (T.map (lout jX9 (orS1 b p)) (.ret ())) := by
  refine loop_vc (o := fun _ => .ret ()) (stT := fun k => orT1 b p k) (stM := fun k => orM1 b p (knP (p.prods.take k))) Tryd.mixed (fun _ => rfl) (fun k => (vcOr1_eq b p k).mpr ?_) k
  unfold vcOr1
  by_cases h : k < p.prods.length
  · have hw : IntKind.i64.wrap ((k : Int) + 1) = ((k + 1 : Nat) : Int) := by rw [wrap_i64 (by omega) (by omega)]; omega
    have hs := knP_step h
    have hz : decide ((k : Int) < p.prods.length) = true := by simp; omega
    rw [Int.toNat_natCast]
    simp only [hz]
    generalize p.prods.getD k default = x at *
    generalize knP (p.prods.take k) = s at *
    simp
    refine Exists.intro (k + 1) ?_
    rw [hs]
    refine ⟨by omega, hw, fun y => ⟨rfl, fun _ => rfl⟩⟩
  · have hz : decide ((k : Int) < p.prods.length) = false := by simp; omega
    rw [List.take_of_length_le (by omega)]
    simp [hz]
    exact fun e => absurd e h
theorem or2_loop (b : Bool) (p : Part) (hl : p.recs.length ≤ 9223372036854775806) (k : Nat) : LoopOk Tryd.prog 50 9 (loopAt Tryd.prog 50 9) ⟨orT2 b p k, orM2 b p k, []⟩ ((orO p k).map (lout jX9 orS2)) := by
  refine loop_vcH (o := orO p) (stT := orT2 b p) (stM := orM2 b p) Tryd.mixed (fun _ => rfl) (fun k => (vcOr2_eq b p k).mpr ?_) k
  unfold vcOr2
  by_cases h : k < p.recs.length
  · have hw : IntKind.i64.wrap ((k : Int) + 1) = ((k + 1 : Nat) : Int) := by rw [wrap_i64 (by omega) (by omega)]; omega
    have hs := knR_step h
    have hf := orFrom_step h
    have hz : decide ((k : Int) < p.recs.length) = true := by simp; omega
    have ho : okO p k = (hasK p.rng (p.recs.getD k default).key && (!decide ((p.recs.getD k default).seq ≤ (knR (p.recs.take k)).sel (p.recs.getD k default).prod) && !decide ((knP p.prods).sel (p.recs.getD k default).prod < (p.recs.getD k default).seq))) := rfl
    rw [Int.toNat_natCast]
    simp only [hz, hf, ho]
    generalize p.recs.getD k default = x at *
    generalize knR (p.recs.take k) = s at *
    cases h1 : hasK p.rng x.key
    · simp
    · by_cases h2 : x.seq ≤ s.sel x.prod
      · simp [h2]
      · by_cases h3 : (knP p.prods).sel x.prod < x.seq
        · simp [h2, h3]
        · simp [h2, h3]
          refine Exists.intro (k + 1) ?_
          rw [hs]
          refine ⟨by omega, ⟨hw, fun y => ⟨rfl, fun _ => rfl⟩⟩, ?_⟩
          cases orFrom p (k + 1) <;> simp
  · have hz : decide ((k : Int) < p.recs.length) = false := by simp; omega
    simp only [hz, orFrom_end (p := p) (k := k) (by omega)]
    simp
theorem or_c (b : Bool) (p : Part) (h1 : p.prods.length ≤ 9223372036854775806) (h2 : p.recs.length ≤ 9223372036854775806) : (boolR (orFrom p 0)).Sat (ACall' Tryd.prog 50 [.agg (encPt b p)] []) := by
  refine ctr_vc (ht := orH b p) Tryd.mixed rfl ?_
  rw [vcOr_eq b p]
  unfold vcOr
  have l1 := or1_loop b p h1 0
  have l2 := or2_loop b p h2 0
  rw [List.take_zero] at l1
  simp [l1, l2]
noncomputable def orC (b : Bool) (p : Part) : Ctr Tryd.prog := ⟨50, [.agg (encPt b p)], [], .need (p.prods.length ≤ 9223372036854775806 ∧ p.recs.length ≤ 9223372036854775806) (boolR (orFrom p 0)), T.Sat.need fun h => or_c b p h.1 h.2⟩
end Go.Proofs.YtckklclehofddaaDoor

namespace Go.Proofs.YtckklclehofddaaDoor
open Go.Ax
set_option maxRecDepth 1000000
def lostB (p : Part) (x : P.Producer) : Bool := x.here && (decide ((p.recs.length : Int) ≤ x.offset) || ((p.recs.getD x.offset.toNat default).prod != x.id || (p.recs.getD x.offset.toNat default).seq != x.seq))
def lostE (b : Bool) (p : Part) : List AV := [.ip false 1 (get [.y (.int .u64 (IntKind.u64.wrap p.recs.length))]), .ip false 7 (get (encPt b p))]
def vcLost (b : Bool) (p : Part) (x : P.Producer) : Prop :=
  (x.here = true → (decide (IntKind.wrap IntKind.u64 (↑(List.length p.recs) : Int) ≤ x.offset) = true → true = lostB p x ∧ True) ∧ (decide (IntKind.wrap IntKind.u64 (↑(List.length p.recs) : Int) ≤ x.offset) = false → (decide ((0 : Int) ≤ x.offset) && decide (x.offset < (↑(List.length p.recs) : Int))) = true ∧ (((List.getD p.recs (Int.toNat x.offset) (@default Rec instInhabitedRec)).prod != x.id) = true → true = lostB p x ∧ True) ∧ (((List.getD p.recs (Int.toNat x.offset) (@default Rec instInhabitedRec)).prod != x.id) = false → (decide ((0 : Int) ≤ x.offset) && decide (x.offset < (↑(List.length p.recs) : Int))) = true ∧ ((List.getD p.recs (Int.toNat x.offset) (@default Rec instInhabitedRec)).seq != x.seq) = lostB p x ∧ True))) ∧ (x.here = false → false = lostB p x ∧ True)
theorem vcLost_eq (b : Bool) (p : Part) (x : P.Producer) : (ctrVC Tryd.prog (hT _) 46 ([.agg (P.encP x)] ++ lostE b p) [] (boolR (lostB p x))) = vcLost b p x := by kernel_rfl
def aheadB (n : Nat) (x : Con) : Bool := decide ((n : Int) < x.off)
def aheadE (n : Nat) : List AV := [.ip false 1 (get [.y (.int .u64 (IntKind.u64.wrap n))])]
def vcAhead (n : Nat) (x : Con) : Prop :=
  decide (IntKind.wrap IntKind.u64 (↑n : Int) < x.off) = aheadB n x ∧ True
theorem vcAhead_eq (n : Nat) (x : Con) : (ctrVC Tryd.prog (hT _) 47 ([.agg (encC x)] ++ aheadE n) [] (boolR (aheadB n x))) = vcAhead n x := by kernel_rfl
theorem lost_c (b : Bool) (p : Part) (x : P.Producer) (h1 : p.recs.length ≤ 9223372036854775806) (h2 : 0 ≤ x.offset) : (boolR (lostB p x)).Sat (ACall' Tryd.prog 46 ([.agg (P.encP x)] ++ lostE b p) []) := by
  refine ctr_vc (ht := hT _) Tryd.mixed rfl ?_
  rw [vcLost_eq b p x]
  unfold vcLost
  have hw : IntKind.u64.wrap (p.recs.length : Int) = p.recs.length := wrap_u64 (by omega) (by omega)
  simp only [hw]
  unfold lostB
  generalize p.recs.getD x.offset.toNat default = y
  cases hh : x.here
  · simp
  · by_cases h3 : (p.recs.length : Int) ≤ x.offset
    · simp [h3]
    · have h4 : x.offset < p.recs.length := by omega
      by_cases h5 : y.prod = x.id <;> by_cases h6 : y.seq = x.seq <;> simp [h3, h4, h2, h5, h6]
theorem ahead_c (n : Nat) (x : Con) (h1 : n ≤ 9223372036854775806) : (boolR (aheadB n x)).Sat (ACall' Tryd.prog 47 ([.agg (encC x)] ++ aheadE n) []) := by
  refine ctr_vc (ht := hT _) Tryd.mixed rfl ?_
  rw [vcAhead_eq n x]
  unfold vcAhead
  have hw : IntKind.u64.wrap (n : Int) = n := wrap_u64 (by omega) (by omega)
  simp [hw, aheadB]
def loFn (b : Bool) (p : Part) : AV := .fn (.func 46) [] (lostE b p)
def loAny (b : Bool) (p : Part) (l : List P.Producer) : Bool := l.any (lostB p)
theorem loAny_nil (b : Bool) (p : Part) : loAny b p [] = false := rfl
theorem loAny_cons (b : Bool) (p : Part) (y : P.Producer) (l : List P.Producer) : loAny b p (y :: l) = (lostB p y || loAny b p l) := rfl
noncomputable def loC (b : Bool) (p : Part) (x : P.Producer) : Ctr Tryd.prog := ⟨46, [.agg (P.encP x)] ++ (lostE b p), [], .need (p.recs.length ≤ 9223372036854775806 ∧ 0 ≤ x.offset) (boolR (lostB p x)), T.Sat.need fun h => lost_c b p x h.1 h.2⟩
def loT (b : Bool) (p : Part) (bb : Bool) (l : List P.Producer) (k : Nat) : List AV := mkT 19 [(0, .ys bb 4 l.length (cellsOf' P.encP l)), (1, loFn b p), (4, .s (.int .i64 0)), (7, .y (.int .i64 l.length)), (8, .y (.int .i64 k))]
def loS (r : Bool × Nat) : Exit × List AV × List Blk := match r.1 with
  | true => (.ret, mkT 19 [(4, .y (.int .i64 r.2))], [])
  | false => (.exit 0, mkT 19 [], [])
def loO (b : Bool) (p : Part) (l : List P.Producer) (k : Nat) : T (Bool × Nat) := .ite (loAny b p (l.drop k)) (.ret (true, k + (l.drop k).findIdx (lostB p))) (.ret (false, 0))
noncomputable def loHL (b : Bool) (p : Part) (l : List P.Producer) (k : Nat) : HintsT Tryd.prog := hh _ noLp (cs1 62 4 5 (loC b p (l.getD k default)) noCs) noOp
def vcloL (b : Bool) (p : Part) (bb : Bool) (l : List P.Producer) (k : Nat) : Prop :=
  (decide ((↑k : Int) < (↑(List.length l) : Int)) = true → (true && decide ((↑k : Int) < (↑(List.length l) : Int))) = true ∧ (((List.getD l (Int.toNat (↑k : Int)) (@default P.Producer P.instInhabitedProducer)).id = (List.getD l k (@default P.Producer P.instInhabitedProducer)).id ∧ (List.getD l (Int.toNat (↑k : Int)) (@default P.Producer P.instInhabitedProducer)).seq = (List.getD l k (@default P.Producer P.instInhabitedProducer)).seq ∧ (List.getD l (Int.toNat (↑k : Int)) (@default P.Producer P.instInhabitedProducer)).here = (List.getD l k (@default P.Producer P.instInhabitedProducer)).here ∧ (List.getD l (Int.toNat (↑k : Int)) (@default P.Producer P.instInhabitedProducer)).offset = (List.getD l k (@default P.Producer P.instInhabitedProducer)).offset ∧ True) ∧ (false = false ∧ (1 : Nat) ≤ (1 : Nat) ∧ cellLe (1 : Nat) (Ax.get [AV.y (Value.int IntKind.u64 (IntKind.wrap IntKind.u64 (↑(List.length p.recs) : Int)))]) (Ax.get [AV.y (Value.int IntKind.u64 (IntKind.wrap IntKind.u64 (↑(List.length p.recs) : Int)))])) ∧ (false = false ∧ (7 : Nat) ≤ (7 : Nat) ∧ cellLe (7 : Nat) (Ax.get [AV.y (Value.string p.rng.lo), AV.y (Value.string p.rng.hi), AV.y (Value.int IntKind.u64 p.epoch), AV.y (Value.int IntKind.u64 p.frozen), AV.ys b (5 : Nat) (List.length p.recs) (cellsOf' encR p.recs), AV.ys b (4 : Nat) (List.length p.prods) (cellsOf' P.encP p.prods), AV.ys b (2 : Nat) (List.length p.cons) (cellsOf' encC p.cons)]) (Ax.get [AV.y (Value.string p.rng.lo), AV.y (Value.string p.rng.hi), AV.y (Value.int IntKind.u64 p.epoch), AV.y (Value.int IntKind.u64 p.frozen), AV.ys b (5 : Nat) (List.length p.recs) (cellsOf' encR p.recs), AV.ys b (4 : Nat) (List.length p.prods) (cellsOf' P.encP p.prods), AV.ys b (2 : Nat) (List.length p.cons) (cellsOf' encC p.cons)])) ∧ True) ∧ True ∧ (List.length p.recs ≤ (9223372036854775806 : Nat) ∧ (0 : Int) ≤ (List.getD l k (@default P.Producer P.instInhabitedProducer)).offset) ∧ (lostB p (List.getD l k (@default P.Producer P.instInhabitedProducer)) = true → (loAny b p (List.drop k l) = true → ((↑k : Int) = (↑(k + List.findIdx (lostB p) (List.drop k l)) : Int) ∧ True) ∧ True ∧ true = true) ∧ (loAny b p (List.drop k l) = false → False)) ∧ (lostB p (List.getD l k (@default P.Producer P.instInhabitedProducer)) = false → ∃ (j : Nat), List.length l - j < List.length l - k ∧ (((bb = bb ∧ List.length l = List.length l ∧ contLe (List.length l) (4 : Nat) (cellsOf' P.encP l) (cellsOf' P.encP l)) ∧ (True ∧ (false = false ∧ (1 : Nat) ≤ (1 : Nat) ∧ cellLe (1 : Nat) (Ax.get [AV.y (Value.int IntKind.u64 (IntKind.wrap IntKind.u64 (↑(List.length p.recs) : Int)))]) (Ax.get [AV.y (Value.int IntKind.u64 (IntKind.wrap IntKind.u64 (↑(List.length p.recs) : Int)))])) ∧ (false = false ∧ (7 : Nat) ≤ (7 : Nat) ∧ cellLe (7 : Nat) (Ax.get [AV.y (Value.string p.rng.lo), AV.y (Value.string p.rng.hi), AV.y (Value.int IntKind.u64 p.epoch), AV.y (Value.int IntKind.u64 p.frozen), AV.ys b (5 : Nat) (List.length p.recs) (cellsOf' encR p.recs), AV.ys b (4 : Nat) (List.length p.prods) (cellsOf' P.encP p.prods), AV.ys b (2 : Nat) (List.length p.cons) (cellsOf' encC p.cons)]) (Ax.get [AV.y (Value.string p.rng.lo), AV.y (Value.string p.rng.hi), AV.y (Value.int IntKind.u64 p.epoch), AV.y (Value.int IntKind.u64 p.frozen), AV.ys b (5 : Nat) (List.length p.recs) (cellsOf' encR p.recs), AV.ys b (4 : Nat) (List.length p.prods) (cellsOf' P.encP p.prods), AV.ys b (2 : Nat) (List.length p.cons) (cellsOf' encC p.cons)])) ∧ True) ∧ (0 : Int) = (0 : Int) ∧ (↑(List.length l) : Int) = (↑(List.length l) : Int) ∧ IntKind.wrap IntKind.i64 ((↑k : Int) + (1 : Int)) = (↑j : Int) ∧ True) ∧ True ∧ true = true) ∧ true = true ∧ (loAny b p (List.drop j l) = true → (loAny b p (List.drop k l) = true → (true, j + List.findIdx (lostB p) (List.drop j l)) = (true, k + List.findIdx (lostB p) (List.drop k l))) ∧ (loAny b p (List.drop k l) = false → (true, j + List.findIdx (lostB p) (List.drop j l)) = (false, (0 : Nat)))) ∧ (loAny b p (List.drop j l) = false → (loAny b p (List.drop k l) = true → (false, (0 : Nat)) = (true, k + List.findIdx (lostB p) (List.drop k l))) ∧ (loAny b p (List.drop k l) = false → (false, (0 : Nat)) = (false, (0 : Nat)))))) ∧ (decide ((↑k : Int) < (↑(List.length l) : Int)) = false → (loAny b p (List.drop k l) = true → False) ∧ (loAny b p (List.drop k l) = false → True ∧ True ∧ true = true))
theorem vcloL_eq (b : Bool) (p : Part) (bb : Bool) (l : List P.Producer) (k : Nat) : (loopVC Tryd.prog (loHL b p l k) 62 2 (fun k => l.length - k) (loT b p bb l) (fun _ => []) [0] (loO b p l) loS k) = vcloL b p bb l k := by kernel_rfl
theorem lo_loop (b : Bool) (p : Part) (bb : Bool) (l : List P.Producer) (hl : l.length ≤ 9223372036854775806) (hn : ∀ k, k < l.length → (p.recs.length ≤ 9223372036854775806 ∧ 0 ≤ (l.getD k default).offset)) (k : Nat) : LoopOk Tryd.prog 62 2 (loopAt Tryd.prog 62 2) ⟨loT b p bb l k, [], []⟩ ((loO b p l k).map (lout [0] loS)) := by
  refine loop_vcH (ht := fun k => loHL b p l k) Tryd.mixed (fun _ => rfl) (fun k => (vcloL_eq b p bb l k).mpr ?_) k
  unfold vcloL
  by_cases h : k < l.length
  · have hw : IntKind.i64.wrap ((k : Int) + 1) = ((k + 1 : Nat) : Int) := by rw [wrap_i64 (by omega) (by omega)]; omega
    have hz : decide ((k : Int) < l.length) = true := by simp; omega
    have hd : l.drop k = l.getD k default :: l.drop (k + 1) := by rw [drop_cons h]; simp
    have hk := hn k h
    rw [Int.toNat_natCast]
    simp only [hz, hd, loAny_cons, List.findIdx_cons]
    generalize l.getD k default = y at *
    cases hp : lostB p y
    · simp [hw, hk]
      exact ⟨k + 1, by omega, by omega, by grind⟩
    · simp [hk]
  · have hz : decide ((k : Int) < l.length) = false := by simp; omega
    simp only [hz, drop_end (Nat.le_of_not_lt h), loAny_nil]
    simp
noncomputable def loH (b : Bool) (p : Part) (bb : Bool) (l : List P.Producer) : HintsT Tryd.prog := hh _ (lp1 62 2 (jobOf (loT b p bb l) (fun _ => []) [0] (loO b p l) loS 0) noLp) noCs noOp
def vcloF (b : Bool) (p : Part) (bb : Bool) (l : List P.Producer) : Prop :=
  (((bb = bb ∧ List.length l = List.length l ∧ contLe (List.length l) (4 : Nat) (cellsOf' P.encP l) (cellsOf' P.encP l)) ∧ (True ∧ (false = false ∧ (1 : Nat) ≤ (1 : Nat) ∧ cellLe (1 : Nat) (Ax.get [AV.y (Value.int IntKind.u64 (IntKind.wrap IntKind.u64 (↑(List.length p.recs) : Int)))]) (Ax.get [AV.y (Value.int IntKind.u64 (IntKind.wrap IntKind.u64 (↑(List.length p.recs) : Int)))])) ∧ (false = false ∧ (7 : Nat) ≤ (7 : Nat) ∧ cellLe (7 : Nat) (Ax.get [AV.y (Value.string p.rng.lo), AV.y (Value.string p.rng.hi), AV.y (Value.int IntKind.u64 p.epoch), AV.y (Value.int IntKind.u64 p.frozen), AV.ys b (5 : Nat) (List.length p.recs) (cellsOf' encR p.recs), AV.ys b (4 : Nat) (List.length p.prods) (cellsOf' P.encP p.prods), AV.ys b (2 : Nat) (List.length p.cons) (cellsOf' encC p.cons)]) (Ax.get [AV.y (Value.string p.rng.lo), AV.y (Value.string p.rng.hi), AV.y (Value.int IntKind.u64 p.epoch), AV.y (Value.int IntKind.u64 p.frozen), AV.ys b (5 : Nat) (List.length p.recs) (cellsOf' encR p.recs), AV.ys b (4 : Nat) (List.length p.prods) (cellsOf' P.encP p.prods), AV.ys b (2 : Nat) (List.length p.cons) (cellsOf' encC p.cons)])) ∧ True) ∧ (0 : Int) = (0 : Int) ∧ (↑(List.length l) : Int) = (↑(List.length l) : Int) ∧ (0 : Int) = (0 : Int) ∧ True) ∧ True ∧ true = true) ∧ LoopOk Tryd.prog (62 : Nat) (2 : Nat) (loopAt Tryd.prog (62 : Nat) (2 : Nat)) { t := loT b p bb l (0 : Nat), m := [], mv := [] : St } (T.map (lout [(0 : Nat)] loS) (loO b p l (0 : Nat))) ∧ (loAny b p (List.drop (0 : Nat) l) = true → true = loAny b p l ∧ True) ∧ (loAny b p (List.drop (0 : Nat) l) = false → false = loAny b p l ∧ True)
theorem vcloF_eq (b : Bool) (p : Part) (bb : Bool) (l : List P.Producer) : (ctrVC Tryd.prog (loH b p bb l) 51 [.ys bb 4 l.length (cellsOf' P.encP l), loFn b p] [] (boolR (loAny b p l))) = vcloF b p bb l := by kernel_rfl
theorem lo_has (b : Bool) (p : Part) (bb : Bool) (l : List P.Producer) (hl : l.length ≤ 9223372036854775806) (hn : ∀ k, k < l.length → (p.recs.length ≤ 9223372036854775806 ∧ 0 ≤ (l.getD k default).offset)) : (boolR (loAny b p l)).Sat (ACall' Tryd.prog 51 [.ys bb 4 l.length (cellsOf' P.encP l), loFn b p] []) := by
  refine ctr_vc (ht := loH b p bb l) Tryd.mixed rfl ?_
  rw [vcloF_eq b p bb l]
  unfold vcloF
  have := lo_loop b p bb l hl hn 0
  simp [this]
noncomputable def loHas (b : Bool) (p : Part) (bb : Bool) (l : List P.Producer) : Ctr Tryd.prog := ⟨51, [.ys bb 4 l.length (cellsOf' P.encP l), loFn b p], [], .need (l.length ≤ 9223372036854775806 ∧ ∀ k, k < l.length → (p.recs.length ≤ 9223372036854775806 ∧ 0 ≤ (l.getD k default).offset)) (boolR (loAny b p l)), T.Sat.need fun h => lo_has b p bb l h.1 h.2⟩
def ahFn (m : Nat) : AV := .fn (.func 47) [] (aheadE m)
def ahAny (m : Nat) (l : List Con) : Bool := l.any (aheadB m)
theorem ahAny_nil (m : Nat) : ahAny m [] = false := rfl
theorem ahAny_cons (m : Nat) (y : Con) (l : List Con) : ahAny m (y :: l) = (aheadB m y || ahAny m l) := rfl
noncomputable def ahC (m : Nat) (x : Con) : Ctr Tryd.prog := ⟨47, [.agg (encC x)] ++ (aheadE m), [], .need (m ≤ 9223372036854775806) (boolR (aheadB m x)), T.Sat.need fun h => ahead_c m x h⟩
def ahT (m : Nat) (bb : Bool) (l : List Con) (k : Nat) : List AV := mkT 19 [(0, .ys bb 2 l.length (cellsOf' encC l)), (1, ahFn m), (4, .s (.int .i64 0)), (7, .y (.int .i64 l.length)), (8, .y (.int .i64 k))]
def ahS (r : Bool × Nat) : Exit × List AV × List Blk := match r.1 with
  | true => (.ret, mkT 19 [(4, .y (.int .i64 r.2))], [])
  | false => (.exit 0, mkT 19 [], [])
def ahO (m : Nat) (l : List Con) (k : Nat) : T (Bool × Nat) := .ite (ahAny m (l.drop k)) (.ret (true, k + (l.drop k).findIdx (aheadB m))) (.ret (false, 0))
noncomputable def ahHL (m : Nat) (l : List Con) (k : Nat) : HintsT Tryd.prog := hh _ noLp (cs1 63 4 5 (ahC m (l.getD k default)) noCs) noOp
def vcahL (m : Nat) (bb : Bool) (l : List Con) (k : Nat) : Prop :=
  (decide ((↑k : Int) < (↑(List.length l) : Int)) = true → (true && decide ((↑k : Int) < (↑(List.length l) : Int))) = true ∧ (((List.getD l (Int.toNat (↑k : Int)) (@default Con instInhabitedCon)).name = (List.getD l k (@default Con instInhabitedCon)).name ∧ (List.getD l (Int.toNat (↑k : Int)) (@default Con instInhabitedCon)).off = (List.getD l k (@default Con instInhabitedCon)).off ∧ True) ∧ (false = false ∧ (1 : Nat) ≤ (1 : Nat) ∧ cellLe (1 : Nat) (Ax.get [AV.y (Value.int IntKind.u64 (IntKind.wrap IntKind.u64 (↑m : Int)))]) (Ax.get [AV.y (Value.int IntKind.u64 (IntKind.wrap IntKind.u64 (↑m : Int)))])) ∧ True) ∧ True ∧ m ≤ (9223372036854775806 : Nat) ∧ (aheadB m (List.getD l k (@default Con instInhabitedCon)) = true → (ahAny m (List.drop k l) = true → ((↑k : Int) = (↑(k + List.findIdx (aheadB m) (List.drop k l)) : Int) ∧ True) ∧ True ∧ true = true) ∧ (ahAny m (List.drop k l) = false → False)) ∧ (aheadB m (List.getD l k (@default Con instInhabitedCon)) = false → ∃ (j : Nat), List.length l - j < List.length l - k ∧ (((bb = bb ∧ List.length l = List.length l ∧ contLe (List.length l) (2 : Nat) (cellsOf' encC l) (cellsOf' encC l)) ∧ (True ∧ (false = false ∧ (1 : Nat) ≤ (1 : Nat) ∧ cellLe (1 : Nat) (Ax.get [AV.y (Value.int IntKind.u64 (IntKind.wrap IntKind.u64 (↑m : Int)))]) (Ax.get [AV.y (Value.int IntKind.u64 (IntKind.wrap IntKind.u64 (↑m : Int)))])) ∧ True) ∧ (0 : Int) = (0 : Int) ∧ (↑(List.length l) : Int) = (↑(List.length l) : Int) ∧ IntKind.wrap IntKind.i64 ((↑k : Int) + (1 : Int)) = (↑j : Int) ∧ True) ∧ True ∧ true = true) ∧ true = true ∧ (ahAny m (List.drop j l) = true → (ahAny m (List.drop k l) = true → (true, j + List.findIdx (aheadB m) (List.drop j l)) = (true, k + List.findIdx (aheadB m) (List.drop k l))) ∧ (ahAny m (List.drop k l) = false → (true, j + List.findIdx (aheadB m) (List.drop j l)) = (false, (0 : Nat)))) ∧ (ahAny m (List.drop j l) = false → (ahAny m (List.drop k l) = true → (false, (0 : Nat)) = (true, k + List.findIdx (aheadB m) (List.drop k l))) ∧ (ahAny m (List.drop k l) = false → (false, (0 : Nat)) = (false, (0 : Nat)))))) ∧ (decide ((↑k : Int) < (↑(List.length l) : Int)) = false → (ahAny m (List.drop k l) = true → False) ∧ (ahAny m (List.drop k l) = false → True ∧ True ∧ true = true))
theorem vcahL_eq (m : Nat) (bb : Bool) (l : List Con) (k : Nat) : (loopVC Tryd.prog (ahHL m l k) 63 2 (fun k => l.length - k) (ahT m bb l) (fun _ => []) [0] (ahO m l) ahS k) = vcahL m bb l k := by kernel_rfl
theorem ah_loop (m : Nat) (bb : Bool) (l : List Con) (hl : l.length ≤ 9223372036854775806) (hn : ∀ k, k < l.length → (m ≤ 9223372036854775806)) (k : Nat) : LoopOk Tryd.prog 63 2 (loopAt Tryd.prog 63 2) ⟨ahT m bb l k, [], []⟩ ((ahO m l k).map (lout [0] ahS)) := by
  refine loop_vcH (ht := fun k => ahHL m l k) Tryd.mixed (fun _ => rfl) (fun k => (vcahL_eq m bb l k).mpr ?_) k
  unfold vcahL
  by_cases h : k < l.length
  · have hw : IntKind.i64.wrap ((k : Int) + 1) = ((k + 1 : Nat) : Int) := by rw [wrap_i64 (by omega) (by omega)]; omega
    have hz : decide ((k : Int) < l.length) = true := by simp; omega
    have hd : l.drop k = l.getD k default :: l.drop (k + 1) := by rw [drop_cons h]; simp
    have hk := hn k h
    rw [Int.toNat_natCast]
    simp only [hz, hd, ahAny_cons, List.findIdx_cons]
    generalize l.getD k default = y at *
    cases hp : aheadB m y
    · simp [hw, hk]
      exact ⟨k + 1, by omega, by omega, by grind⟩
    · simp [hk]
  · have hz : decide ((k : Int) < l.length) = false := by simp; omega
    simp only [hz, drop_end (Nat.le_of_not_lt h), ahAny_nil]
    simp
noncomputable def ahH (m : Nat) (bb : Bool) (l : List Con) : HintsT Tryd.prog := hh _ (lp1 63 2 (jobOf (ahT m bb l) (fun _ => []) [0] (ahO m l) ahS 0) noLp) noCs noOp
def vcahF (m : Nat) (bb : Bool) (l : List Con) : Prop :=
  (((bb = bb ∧ List.length l = List.length l ∧ contLe (List.length l) (2 : Nat) (cellsOf' encC l) (cellsOf' encC l)) ∧ (True ∧ (false = false ∧ (1 : Nat) ≤ (1 : Nat) ∧ cellLe (1 : Nat) (Ax.get [AV.y (Value.int IntKind.u64 (IntKind.wrap IntKind.u64 (↑m : Int)))]) (Ax.get [AV.y (Value.int IntKind.u64 (IntKind.wrap IntKind.u64 (↑m : Int)))])) ∧ True) ∧ (0 : Int) = (0 : Int) ∧ (↑(List.length l) : Int) = (↑(List.length l) : Int) ∧ (0 : Int) = (0 : Int) ∧ True) ∧ True ∧ true = true) ∧ LoopOk Tryd.prog (63 : Nat) (2 : Nat) (loopAt Tryd.prog (63 : Nat) (2 : Nat)) { t := ahT m bb l (0 : Nat), m := [], mv := [] : St } (T.map (lout [(0 : Nat)] ahS) (ahO m l (0 : Nat))) ∧ (ahAny m (List.drop (0 : Nat) l) = true → true = ahAny m l ∧ True) ∧ (ahAny m (List.drop (0 : Nat) l) = false → false = ahAny m l ∧ True)
theorem vcahF_eq (m : Nat) (bb : Bool) (l : List Con) : (ctrVC Tryd.prog (ahH m bb l) 52 [.ys bb 2 l.length (cellsOf' encC l), ahFn m] [] (boolR (ahAny m l))) = vcahF m bb l := by kernel_rfl
theorem ah_has (m : Nat) (bb : Bool) (l : List Con) (hl : l.length ≤ 9223372036854775806) (hn : ∀ k, k < l.length → (m ≤ 9223372036854775806)) : (boolR (ahAny m l)).Sat (ACall' Tryd.prog 52 [.ys bb 2 l.length (cellsOf' encC l), ahFn m] []) := by
  refine ctr_vc (ht := ahH m bb l) Tryd.mixed rfl ?_
  rw [vcahF_eq m bb l]
  unfold vcahF
  have := ah_loop m bb l hl hn 0
  simp [this]
noncomputable def ahHas (m : Nat) (bb : Bool) (l : List Con) : Ctr Tryd.prog := ⟨52, [.ys bb 2 l.length (cellsOf' encC l), ahFn m], [], .need (l.length ≤ 9223372036854775806 ∧ ∀ k, k < l.length → (m ≤ 9223372036854775806)) (boolR (ahAny m l)), T.Sat.need fun h => ah_has m bb l h.1 h.2⟩
end Go.Proofs.YtckklclehofddaaDoor

namespace Go.Proofs.YtckklclehofddaaDoor
open Go.Ax
set_option maxRecDepth 1000000
def partOk (p : Part) : Bool := (chkK p.rng == 0) && (!(p.epoch == 0) && (isLog p.recs && (P.isTable p.prods && (isCons p.cons && (orFrom p 0 && (!p.prods.any (lostB p) && !p.cons.any (aheadB p.recs.length)))))))
def errR (b : Bool) (e : Int) : T An := .ite b (.ret (.s (.int .i64 0), [], [])) (.ret (.s (.int .i64 e), [], []))
noncomputable def pcH (b : Bool) (p : Part) : HintsT Tryd.prog := hh _ noLp
  (cs1 30 4 2 (chkC p.rng) (cs1 30 6 2 (lgC b p.recs) (cs1 30 7 2 (P.tabN b p.prods) (cs1 30 8 2 (coC b p.cons)
  (cs1 30 10 1 (orC b p) (cs1 30 11 3 (loHas b p b p.prods) (cs1 30 12 3 (ahHas p.recs.length b p.cons) noCs))))))) noOp
def vcPc (b : Bool) (p : Part) : Prop :=
  ((p.rng.lo = p.rng.lo ∧ p.rng.hi = p.rng.hi ∧ True) ∧ True) ∧ True ∧ ((chkK p.rng != (0 : Int)) = true → (partOk p = true → (165 : Int) = (0 : Int) ∧ True) ∧ (partOk p = false → (165 : Int) = (165 : Int) ∧ True)) ∧ ((chkK p.rng != (0 : Int)) = false → ((p.epoch == (0 : Int)) = true → (partOk p = true → (165 : Int) = (0 : Int) ∧ True) ∧ (partOk p = false → (165 : Int) = (165 : Int) ∧ True)) ∧ ((p.epoch == (0 : Int)) = false → ((b = b ∧ List.length p.recs = List.length p.recs ∧ contLe (List.length p.recs) (5 : Nat) (cellsOf' encR p.recs) (cellsOf' encR p.recs)) ∧ True) ∧ True ∧ List.length p.recs ≤ (9223372036854775806 : Nat) ∧ ((!isLog p.recs) = true → (partOk p = true → (165 : Int) = (0 : Int) ∧ True) ∧ (partOk p = false → (165 : Int) = (165 : Int) ∧ True)) ∧ ((!isLog p.recs) = false → ((b = b ∧ List.length p.prods = List.length p.prods ∧ contLe (List.length p.prods) (4 : Nat) (cellsOf' P.encP p.prods) (cellsOf' P.encP p.prods)) ∧ True) ∧ True ∧ List.length p.prods ≤ (9223372036854775806 : Nat) ∧ ((!P.isTable p.prods) = true → (partOk p = true → (165 : Int) = (0 : Int) ∧ True) ∧ (partOk p = false → (165 : Int) = (165 : Int) ∧ True)) ∧ ((!P.isTable p.prods) = false → ((b = b ∧ List.length p.cons = List.length p.cons ∧ contLe (List.length p.cons) (2 : Nat) (cellsOf' encC p.cons) (cellsOf' encC p.cons)) ∧ True) ∧ True ∧ List.length p.cons ≤ (9223372036854775806 : Nat) ∧ ((!isCons p.cons) = true → (partOk p = true → (165 : Int) = (0 : Int) ∧ True) ∧ (partOk p = false → (165 : Int) = (165 : Int) ∧ True)) ∧ ((!isCons p.cons) = false → ((p.rng.lo = p.rng.lo ∧ p.rng.hi = p.rng.hi ∧ p.epoch = p.epoch ∧ p.frozen = p.frozen ∧ (b = b ∧ List.length p.recs = List.length p.recs ∧ contLe (List.length p.recs) (5 : Nat) (cellsOf' encR p.recs) (cellsOf' encR p.recs)) ∧ (b = b ∧ List.length p.prods = List.length p.prods ∧ contLe (List.length p.prods) (4 : Nat) (cellsOf' P.encP p.prods) (cellsOf' P.encP p.prods)) ∧ (b = b ∧ List.length p.cons = List.length p.cons ∧ contLe (List.length p.cons) (2 : Nat) (cellsOf' encC p.cons) (cellsOf' encC p.cons)) ∧ True) ∧ True) ∧ True ∧ (List.length p.prods ≤ (9223372036854775806 : Nat) ∧ List.length p.recs ≤ (9223372036854775806 : Nat)) ∧ ((!orFrom p (0 : Nat)) = true → (partOk p = true → (165 : Int) = (0 : Int) ∧ True) ∧ (partOk p = false → (165 : Int) = (165 : Int) ∧ True)) ∧ ((!orFrom p (0 : Nat)) = false → ((b = b ∧ List.length p.prods = List.length p.prods ∧ contLe (List.length p.prods) (4 : Nat) (cellsOf' P.encP p.prods) (cellsOf' P.encP p.prods)) ∧ (True ∧ (false = false ∧ (1 : Nat) ≤ (1 : Nat) ∧ cellLe (1 : Nat) (fun (j : Nat) => Ax.get [AV.y (Value.int IntKind.u64 (IntKind.wrap IntKind.u64 (↑(List.length p.recs) : Int)))] ((0 : Nat) + j)) (Ax.get [AV.y (Value.int IntKind.u64 (IntKind.wrap IntKind.u64 (↑(List.length p.recs) : Int)))])) ∧ (false = false ∧ (7 : Nat) ≤ (7 : Nat) ∧ cellLe (7 : Nat) (fun (j : Nat) => Ax.get [AV.y (Value.string p.rng.lo), AV.y (Value.string p.rng.hi), AV.y (Value.int IntKind.u64 p.epoch), AV.y (Value.int IntKind.u64 p.frozen), AV.ys b (5 : Nat) (List.length p.recs) (cellsOf' encR p.recs), AV.ys b (4 : Nat) (List.length p.prods) (cellsOf' P.encP p.prods), AV.ys b (2 : Nat) (List.length p.cons) (cellsOf' encC p.cons)] ((0 : Nat) + j)) (Ax.get [AV.y (Value.string p.rng.lo), AV.y (Value.string p.rng.hi), AV.y (Value.int IntKind.u64 p.epoch), AV.y (Value.int IntKind.u64 p.frozen), AV.ys b (5 : Nat) (List.length p.recs) (cellsOf' encR p.recs), AV.ys b (4 : Nat) (List.length p.prods) (cellsOf' P.encP p.prods), AV.ys b (2 : Nat) (List.length p.cons) (cellsOf' encC p.cons)])) ∧ True) ∧ True) ∧ True ∧ (List.length p.prods ≤ (9223372036854775806 : Nat) ∧ ∀ (k : Nat), k < List.length p.prods → List.length p.recs ≤ (9223372036854775806 : Nat) ∧ (0 : Int) ≤ (List.getD p.prods k (@default P.Producer P.instInhabitedProducer)).offset) ∧ true = true ∧ True ∧ (loAny b p p.prods = true → (partOk p = true → (165 : Int) = (0 : Int) ∧ True) ∧ (partOk p = false → (165 : Int) = (165 : Int) ∧ True)) ∧ (loAny b p p.prods = false → ((b = b ∧ List.length p.cons = List.length p.cons ∧ contLe (List.length p.cons) (2 : Nat) (cellsOf' encC p.cons) (cellsOf' encC p.cons)) ∧ (True ∧ (false = false ∧ (1 : Nat) ≤ (1 : Nat) ∧ cellLe (1 : Nat) (fun (j : Nat) => Ax.get [AV.y (Value.int IntKind.u64 (IntKind.wrap IntKind.u64 (↑(List.length p.recs) : Int)))] ((0 : Nat) + j)) (Ax.get [AV.y (Value.int IntKind.u64 (IntKind.wrap IntKind.u64 (↑(List.length p.recs) : Int)))])) ∧ True) ∧ True) ∧ True ∧ (List.length p.cons ≤ (9223372036854775806 : Nat) ∧ ∀ (k : Nat), k < List.length p.cons → List.length p.recs ≤ (9223372036854775806 : Nat)) ∧ true = true ∧ True ∧ (ahAny (List.length p.recs) p.cons = true → (partOk p = true → (165 : Int) = (0 : Int) ∧ True) ∧ (partOk p = false → (165 : Int) = (165 : Int) ∧ True)) ∧ (ahAny (List.length p.recs) p.cons = false → (partOk p = true → (0 : Int) = (0 : Int) ∧ True) ∧ (partOk p = false → (0 : Int) = (165 : Int) ∧ True)))))))))
theorem vcPc_eq (b : Bool) (p : Part) : (ctrVC Tryd.prog (pcH b p) 30 [.agg (encPt b p)] [] (errR (partOk p) 165)) = vcPc b p := by kernel_rfl
structure PartIn (p : Part) : Prop where
  rl : p.recs.length ≤ 4611686018427387903
  pl : p.prods.length ≤ 4611686018427387903
  cl : p.cons.length ≤ 4611686018427387903
  po : ∀ k, k < p.prods.length → 0 ≤ (p.prods.getD k default).offset
theorem pc_c (b : Bool) (p : Part) (h : PartIn p) : (errR (partOk p) 165).Sat (ACall' Tryd.prog 30 [.agg (encPt b p)] []) := by
  refine ctr_vc (ht := pcH b p) Tryd.mixed rfl ?_
  rw [vcPc_eq b p]
  unfold vcPc
  obtain ⟨h1, h2, h3, h4⟩ := h
  have e1 : loAny b p p.prods = p.prods.any (lostB p) := rfl
  have e2 : ahAny p.recs.length p.cons = p.cons.any (aheadB p.recs.length) := rfl
  have hw : IntKind.u64.wrap (p.recs.length : Int) = p.recs.length := wrap_u64 (by omega) (by omega)
  simp only [e1, e2, hw]
  unfold partOk
  have g1 : p.recs.length ≤ 9223372036854775806 := by omega
  have g2 : p.prods.length ≤ 9223372036854775806 := by omega
  have g3 : p.cons.length ≤ 9223372036854775806 := by omega
  generalize orFrom p 0 = a1
  generalize p.prods.any (lostB p) = a2
  generalize p.cons.any (aheadB p.recs.length) = a3
  generalize isLog p.recs = a4
  generalize P.isTable p.prods = a5
  generalize isCons p.cons = a6
  by_cases c1 : chkK p.rng = 0 <;> by_cases c2 : p.epoch = 0 <;> cases a1 <;> cases a2 <;> cases a3 <;> cases a4 <;> cases a5 <;> cases a6 <;> simp [c1, c2, g1, g2, g3] <;> exact h4
noncomputable def pcC (b : Bool) (p : Part) : Ctr Tryd.prog := ⟨30, [.agg (encPt b p)], [], .need (PartIn p) (errR (partOk p) 165), T.Sat.need fun h => pc_c b p h⟩
end Go.Proofs.YtckklclehofddaaDoor

namespace Go.Proofs.YtckklclehofddaaDoor.D
open Go.Ax
set_option maxRecDepth 1000000
def beqB (a b : ByteArray) : Bool := a.data.toList == b.data.toList
def splE (r : Rng) (k : ByteArray) : Int := if !(chkK r == 0) then chkK r else if 32 < k.size then 131 else if (beqB k r.lo || !hasK r k) = true then 132 else 0
def rLow (r : Rng) (k : ByteArray) : Rng := ⟨r.lo, k⟩
def rHigh (r : Rng) (k : ByteArray) : Rng := ⟨k, r.hi⟩
def splT (r : Rng) (k : ByteArray) : T An := .ite (splE r k == 0)
  (.ret (.tup [.agg (encG (rLow r k)), .agg (encG (rHigh r k)), .s (.int .i64 0)], [], []))
  (.ret (.tup [.agg (encG default), .agg (encG default), .y (.int .i64 (splE r k))], [], []))
noncomputable def ksH (r : Rng) (k : ByteArray) : HintsT Tryd.prog := hh _ noLp (cs1 18 1 1 (chkC r) (cs1 18 6 7 (hasC r k) noCs)) noOp
def vcKs (r : Rng) (k : ByteArray) : Prop :=
  ((r.lo = r.lo ∧ r.hi = r.hi ∧ True) ∧ True) ∧ True ∧ ((chkK r != (0 : Int)) = true → ((splE r k == (0 : Int)) = true → (({ data := #[] : ByteArray } = r.lo ∧ { data := #[] : ByteArray } = k ∧ True) ∧ ({ data := #[] : ByteArray } = k ∧ { data := #[] : ByteArray } = r.hi ∧ True) ∧ chkK r = (0 : Int) ∧ True) ∧ True) ∧ ((splE r k == (0 : Int)) = false → (({ data := #[] : ByteArray } = ByteArray.empty ∧ { data := #[] : ByteArray } = ByteArray.empty ∧ True) ∧ ({ data := #[] : ByteArray } = ByteArray.empty ∧ { data := #[] : ByteArray } = ByteArray.empty ∧ True) ∧ chkK r = splE r k ∧ True) ∧ True)) ∧ ((chkK r != (0 : Int)) = false → (decide ((32 : Int) < (↑(ByteArray.size k) : Int)) = true → ((splE r k == (0 : Int)) = true → (({ data := #[] : ByteArray } = r.lo ∧ { data := #[] : ByteArray } = k ∧ True) ∧ ({ data := #[] : ByteArray } = k ∧ { data := #[] : ByteArray } = r.hi ∧ True) ∧ (131 : Int) = (0 : Int) ∧ True) ∧ True) ∧ ((splE r k == (0 : Int)) = false → (({ data := #[] : ByteArray } = ByteArray.empty ∧ { data := #[] : ByteArray } = ByteArray.empty ∧ True) ∧ ({ data := #[] : ByteArray } = ByteArray.empty ∧ { data := #[] : ByteArray } = ByteArray.empty ∧ True) ∧ (131 : Int) = splE r k ∧ True) ∧ True)) ∧ (decide ((32 : Int) < (↑(ByteArray.size k) : Int)) = false → ((k.data.toList == r.lo.data.toList) = true → ((splE r k == (0 : Int)) = true → (({ data := #[] : ByteArray } = r.lo ∧ { data := #[] : ByteArray } = k ∧ True) ∧ ({ data := #[] : ByteArray } = k ∧ { data := #[] : ByteArray } = r.hi ∧ True) ∧ (132 : Int) = (0 : Int) ∧ True) ∧ True) ∧ ((splE r k == (0 : Int)) = false → (({ data := #[] : ByteArray } = ByteArray.empty ∧ { data := #[] : ByteArray } = ByteArray.empty ∧ True) ∧ ({ data := #[] : ByteArray } = ByteArray.empty ∧ { data := #[] : ByteArray } = ByteArray.empty ∧ True) ∧ (132 : Int) = splE r k ∧ True) ∧ True)) ∧ ((k.data.toList == r.lo.data.toList) = false → ((r.lo = r.lo ∧ r.hi = r.hi ∧ True) ∧ k = k ∧ True) ∧ True ∧ ((!hasK r k) = true → ((splE r k == (0 : Int)) = true → (({ data := #[] : ByteArray } = r.lo ∧ { data := #[] : ByteArray } = k ∧ True) ∧ ({ data := #[] : ByteArray } = k ∧ { data := #[] : ByteArray } = r.hi ∧ True) ∧ (132 : Int) = (0 : Int) ∧ True) ∧ True) ∧ ((splE r k == (0 : Int)) = false → (({ data := #[] : ByteArray } = ByteArray.empty ∧ { data := #[] : ByteArray } = ByteArray.empty ∧ True) ∧ ({ data := #[] : ByteArray } = ByteArray.empty ∧ { data := #[] : ByteArray } = ByteArray.empty ∧ True) ∧ (132 : Int) = splE r k ∧ True) ∧ True)) ∧ ((!hasK r k) = false → ((splE r k == (0 : Int)) = true → ((r.lo = r.lo ∧ k = k ∧ True) ∧ (k = k ∧ r.hi = r.hi ∧ True) ∧ (0 : Int) = (0 : Int) ∧ True) ∧ True) ∧ ((splE r k == (0 : Int)) = false → ((r.lo = ByteArray.empty ∧ k = ByteArray.empty ∧ True) ∧ (k = ByteArray.empty ∧ r.hi = ByteArray.empty ∧ True) ∧ (0 : Int) = splE r k ∧ True) ∧ True)))))
theorem vcKs_eq (r : Rng) (k : ByteArray) : (ctrVC Tryd.prog (ksH r k) 18 [.agg (encG r), .y (.string k)] [] (splT r k)) = vcKs r k := by kernel_rfl
def toOf (r : Rng) (l : List Rec) : List Int := (ke r l).end.to
def outOf (r : Rng) (l : List Rec) : List Rec := (ke r l).end.out
def keepT (r : Rng) (l : List Rec) : T An := keR (ke r l).end
theorem keep1_c (b : Bool) (r : Rng) (l : List Rec) (h1 : isLog l = true) (h2 : chkK r = 0) : (keepT r l).Sat (ACall' Tryd.prog 20 [encRs b l, .agg (encG r)] []) := by
  have hl := log_len h1
  have := keep_c b r l (by omega)
  unfold keT at this
  rw [h1, h2] at this
  intro Q hq
  exact this Q ⟨fun _ => hq, fun e => by simp at e⟩
noncomputable def keepC1 (b : Bool) (r : Rng) (l : List Rec) : Ctr Tryd.prog := ⟨20, [encRs b l, .agg (encG r)], [], .need (isLog l = true ∧ chkK r = 0) (keepT r l), T.Sat.need fun h => keep1_c b r l h.1 h.2⟩
def partOf (p : Part) (r : Rng) : Part := ⟨r, IntKind.u64.wrap (p.epoch + 1), 0, outOf r p.recs, P.moveL p.prods (toOf r p.recs), mapU p.cons (toOf r p.recs) p.cons.length⟩
noncomputable def dofH (p : Part) (r : Rng) : HintsT Tryd.prog := withSh (hh _ noLp (cs1 19 1 3 (keepC1 true r p.recs) (cs1 19 2 8 (P.moveN true false p.prods (toOf r p.recs)) (cs1 19 2 12 (mpC true false p.cons (toOf r p.recs)) noCs))) noOp) (sh1 19 2 13 779 noSh)
def partR (p : Part) : T An := .ret (.agg (encPt true p), [], [])
def vcDof (p : Part) (r : Rng) : Prop :=
  ((true = true ∧ List.length p.recs = List.length p.recs ∧ contLe (List.length p.recs) (5 : Nat) (cellsOf' encR p.recs) (cellsOf' encR p.recs)) ∧ (r.lo = r.lo ∧ r.hi = r.hi ∧ True) ∧ True) ∧ True ∧ (isLog p.recs = true ∧ chkK r = (0 : Int)) ∧ ((true = true ∧ List.length p.prods = List.length p.prods ∧ contLe (List.length p.prods) (4 : Nat) (cellsOf' P.encP p.prods) (cellsOf' P.encP p.prods)) ∧ (false = false ∧ List.length ((ke r p.recs).to ++ [IntKind.wrap IntKind.u64 (↑(List.length (ke r p.recs).out) : Int)]) = List.length (toOf r p.recs) ∧ contLe (List.length ((ke r p.recs).to ++ [IntKind.wrap IntKind.u64 (↑(List.length (ke r p.recs).out) : Int)])) (1 : Nat) (Ax.rowAt (0 : Nat) (cellsOf' encU ((ke r p.recs).to ++ [IntKind.wrap IntKind.u64 (↑(List.length (ke r p.recs).out) : Int)]))) (cellsOf' P.encI (toOf r p.recs))) ∧ True) ∧ True ∧ (List.length p.prods * (32 : Nat) ≤ (140737488355200 : Nat) ∧ List.length (toOf r p.recs) ≤ (9223372036854775806 : Nat) ∧ ∀ (x : P.Producer), x ∈ p.prods → (0 : Int) ≤ x.offset ∧ x.offset < (18446744073709551616 : Int)) ∧ true = true ∧ ((∀ (k : Nat), k < List.length (P.moveL p.prods (toOf r p.recs)) → ∀ (j : Nat), j < (4 : Nat) → tagT (cellsOf' P.encP (P.moveL p.prods (toOf r p.recs)) k j) = true) ∧ True) ∧ ((true = true ∧ List.length p.cons = List.length p.cons ∧ contLe (List.length p.cons) (2 : Nat) (cellsOf' encC p.cons) (cellsOf' encC p.cons)) ∧ (false = false ∧ List.length ((ke r p.recs).to ++ [IntKind.wrap IntKind.u64 (↑(List.length (ke r p.recs).out) : Int)]) = List.length (toOf r p.recs) ∧ contLe (List.length ((ke r p.recs).to ++ [IntKind.wrap IntKind.u64 (↑(List.length (ke r p.recs).out) : Int)])) (1 : Nat) (Ax.rowAt (0 : Nat) (cellsOf' encU ((ke r p.recs).to ++ [IntKind.wrap IntKind.u64 (↑(List.length (ke r p.recs).out) : Int)]))) (cellsOf' encU (toOf r p.recs))) ∧ True) ∧ True ∧ (List.length (toOf r p.recs) ≤ (9223372036854775806 : Nat) ∧ List.length p.cons * (24 : Nat) ≤ (140737488355200 : Nat) ∧ ∀ (x : Con), x ∈ p.cons → (0 : Int) ≤ x.off ∧ x.off < (18446744073709551616 : Int)) ∧ true = true ∧ ((∀ (k : Nat), k < List.length (mapU p.cons (toOf r p.recs) (List.length p.cons)) → ∀ (j : Nat), j < (2 : Nat) → tagT (cellsOf' encC (mapU p.cons (toOf r p.recs) (List.length p.cons)) k j) = true) ∧ True) ∧ (∀ (k : Nat), k < List.length (ke r p.recs).out → ∀ (j : Nat), j < (5 : Nat) → tagT (cellsOf' encR (ke r p.recs).out k j) = true) ∧ (∀ (k : Nat), k < List.length (P.moveL p.prods (toOf r p.recs)) → ∀ (j : Nat), j < (4 : Nat) → tagT (cellsOf' P.encP (P.moveL p.prods (toOf r p.recs)) k j) = true) ∧ (∀ (k : Nat), k < List.length (mapU p.cons (toOf r p.recs) (List.length p.cons)) → ∀ (j : Nat), j < (2 : Nat) → tagT (cellsOf' encC (mapU p.cons (toOf r p.recs) (List.length p.cons)) k j) = true) ∧ (r.lo = r.lo ∧ r.hi = r.hi ∧ IntKind.wrap IntKind.u64 (p.epoch + (1 : Int)) = IntKind.wrap IntKind.u64 (p.epoch + (1 : Int)) ∧ (0 : Int) = (0 : Int) ∧ (true = true ∧ List.length (ke r p.recs).out = List.length (outOf r p.recs) ∧ contLe (List.length (ke r p.recs).out) (5 : Nat) (Ax.rowAt (0 : Nat) (cellsOf' encR (ke r p.recs).out)) (cellsOf' encR (outOf r p.recs))) ∧ (true = true ∧ List.length (P.moveL p.prods (toOf r p.recs)) = List.length (P.moveL p.prods (toOf r p.recs)) ∧ contLe (List.length (P.moveL p.prods (toOf r p.recs))) (4 : Nat) (Ax.rowAt (0 : Nat) (cellsOf' P.encP (P.moveL p.prods (toOf r p.recs)))) (cellsOf' P.encP (P.moveL p.prods (toOf r p.recs)))) ∧ (true = true ∧ List.length (mapU p.cons (toOf r p.recs) (List.length p.cons)) = List.length (mapU p.cons (toOf r p.recs) (List.length p.cons)) ∧ contLe (List.length (mapU p.cons (toOf r p.recs) (List.length p.cons))) (2 : Nat) (Ax.rowAt (0 : Nat) (cellsOf' encC (mapU p.cons (toOf r p.recs) (List.length p.cons)))) (cellsOf' encC (mapU p.cons (toOf r p.recs) (List.length p.cons)))) ∧ True) ∧ True
theorem vcDof_eq (p : Part) (r : Rng) : (ctrVC Tryd.prog (dofH p r) 19 [.agg (encG r), .ip false 7 (get (encPt true p))] [] (partR (partOf p r))) = vcDof p r := by kernel_rfl
theorem ks_c (r : Rng) (k : ByteArray) (hk : k.size ≤ 9223372036854775807) : (splT r k).Sat (ACall' Tryd.prog 18 [.agg (encG r), .y (.string k)] []) := by
  refine ctr_vc (ht := ksH r k) Tryd.mixed rfl ?_
  rw [vcKs_eq r k]
  unfold vcKs
  unfold splE beqB
  by_cases h1 : chkK r = 0
  · by_cases h2 : 32 < k.size
    · have h3 : (32 : Int) < k.size := by omega
      simp [h1, h2, h3]
      rfl
    · have h3 : ¬ (32 : Int) < k.size := by omega
      generalize (k.data.toList == r.lo.data.toList) = q
      cases q <;> cases hasK r k <;> simp [h1, h2, h3] <;> first | done | rfl
  · simp [h1]
    rfl
noncomputable def ksC (r : Rng) (k : ByteArray) : Ctr Tryd.prog := ⟨18, [.agg (encG r), .y (.string k)], [], .need (k.size ≤ 9223372036854775807) (splT r k), T.Sat.need fun h => ks_c r k h⟩
structure PartTy (p : Part) : Prop where
  rl : p.recs.length ≤ 4611686018427387903
  pl : p.prods.length ≤ 4611686018427387903
  cl : p.cons.length ≤ 4611686018427387903
  po : ∀ x ∈ p.prods, 0 ≤ x.offset ∧ x.offset < 18446744073709551616
  co : wfC p.cons
theorem PartTy.isIn {p : Part} (h : PartTy p) : PartIn p := ⟨h.rl, h.pl, h.cl, fun k hk => (h.po _ (by simp [hk])).1⟩
theorem tagP (x : P.Producer) (j : Nat) (hj : j < 4) : tagT (Ax.get (P.encP x) j) = true := by
  match j, hj with
  | 0, _ => rfl
  | 1, _ => rfl
  | 2, _ => rfl
  | 3, _ => rfl
theorem tagC (x : Con) (j : Nat) (hj : j < 2) : tagT (Ax.get (encC x) j) = true := by
  match j, hj with
  | 0, _ => rfl
  | 1, _ => rfl
theorem dof_c (p : Part) (r : Rng) (h : PartTy p) (h1 : isLog p.recs = true) (h2 : P.isTable p.prods = true) (h3 : isCons p.cons = true) (h4 : chkK r = 0) : (partR (partOf p r)).Sat (ACall' Tryd.prog 19 [.agg (encG r), .ip false 7 (get (encPt true p))] []) := by
  refine ctr_vc (ht := dofH p r) Tryd.mixed rfl ?_
  rw [vcDof_eq p r]
  unfold vcDof
  have q1 := log_len h1
  have q2 : p.prods.length ≤ 256 := by simp [P.isTable] at h2; exact h2.2
  have q3 : p.cons.length ≤ 64 := by simp [isCons] at h3; exact h3.2
  obtain ⟨q4, q5⟩ := ke_len' r p.recs
  have e1 : (ke r p.recs).to ++ [IntKind.u64.wrap ((ke r p.recs).out.length : Nat)] = toOf r p.recs := rfl
  have e2 : (ke r p.recs).out = outOf r p.recs := rfl
  have e3 : (toOf r p.recs).length = p.recs.length + 1 := by rw [← e1]; simp [q4]
  have e4 : cellsOf' P.encI (toOf r p.recs) = cellsOf' encU (toOf r p.recs) := rfl
  have e5 : (P.moveL p.prods (toOf r p.recs)).length = p.prods.length := by simp [P.moveL]
  rw [e1]
  simp only [h1, h4, e2, e4, rowAt_zero]
  have t1 : ∀ (k : Nat), k < (outOf r p.recs).length → ∀ (j : Nat), j < 5 → tagT (cellsOf' encR (outOf r p.recs) k j) = true := fun k _ j hj => tagR _ j hj
  have t2 : ∀ (k : Nat), k < (P.moveL p.prods (toOf r p.recs)).length → ∀ (j : Nat), j < 4 → tagT (cellsOf' P.encP (P.moveL p.prods (toOf r p.recs)) k j) = true := fun k _ j hj => tagP _ j hj
  have t3 : ∀ (k : Nat), k < (mapU p.cons (toOf r p.recs) p.cons.length).length → ∀ (j : Nat), j < 2 → tagT (cellsOf' encC (mapU p.cons (toOf r p.recs) p.cons.length) k j) = true := fun k _ j hj => tagC _ j hj
  have g1 : p.prods.length * 32 ≤ 140737488355200 := by omega
  have g2 : (toOf r p.recs).length ≤ 9223372036854775806 := by omega
  have g3 : p.cons.length * 24 ≤ 140737488355200 := by omega
  have g4 := h.po
  have g5 : ∀ (x : Con), x ∈ p.cons → (0 : Int) ≤ x.off ∧ x.off < 18446744073709551616 := h.co
  simp only [contLe_refl, partOf, and_true, true_and]
  repeat' with_reducible apply And.intro
  all_goals first | rfl | trivial | assumption | skip
end Go.Proofs.YtckklclehofddaaDoor.D
