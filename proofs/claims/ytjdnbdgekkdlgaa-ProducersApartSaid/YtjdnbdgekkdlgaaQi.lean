import Derived.Test.YtjdnbdgekkdlgaaQh
import Derived.Test.YtjdnbdgekkdlgaaTxH
/-! Producers: Move. -/
namespace Go.Proofs.Ytjdnbdgekkdlgaa
open Go.Ax
set_option maxRecDepth 1000000
def encI (x : Int) : List AV := [.y (.int .u64 x)]
def encU (b : Bool) (l : List Int) : AV := .ys b 1 l.length (cellsOf' encI l)
def mvOk (x : Producer) (to : List Int) : Bool := x.here && (decide (1 < to.length) && (decide (x.offset ≤ (to.length : Int) - 2) && decide (to.getD x.offset.toNat default < to.getD (x.offset.toNat + 1) default)))
def mvP (to : List Int) (x : Producer) : Producer := if mvOk x to then ⟨x.id, x.seq, true, to.getD x.offset.toNat default⟩ else ⟨x.id, x.seq, false, 0⟩
def moveL (l : List Producer) (to : List Int) : List Producer := l.map (mvP to)
def mvM (l : List Producer) (to : List Int) (k : Nat) : List Blk := [.row 39 4 (l.take k).length none (cellsOf' encP (moveL (l.take k) to))]
def mvT (b1 b2 : Bool) (l : List Producer) (to : List Int) (k : Nat) : List AV := mkT 64 [(1, encU b2 to), (5, .own 0 4 0 (l.take k).length), (9, encPs b1 l), (10, .y (.int .i64 l.length)), (11, .y (.int .i64 k))]
def mvS (b2 : Bool) (l : List Producer) (to : List Int) (_ : Unit) : Exit × List AV × List Blk := (.exit 0, mkT 64 [(1, encU b2 to), (5, .own 0 4 0 l.length)], [.row 39 4 l.length none (cellsOf' encP (moveL l to))])
def vcMvL (b1 : Bool) (b2 : Bool) (l : List Producer) (to : List Int) (k : Nat) : Prop :=
  (decide ((↑k : Int) < (↑(List.length l) : Int)) = true → (true && decide ((↑k : Int) < (↑(List.length l) : Int))) = true ∧ ((List.getD l (Int.toNat (↑k : Int)) (@default Producer instInhabitedProducer)).here = true → (decide ((1 : Int) < IntKind.wrap IntKind.u64 (↑(List.length to) : Int)) = true → (decide ((List.getD l (Int.toNat (↑k : Int)) (@default Producer instInhabitedProducer)).offset ≤ IntKind.wrap IntKind.u64 (IntKind.wrap IntKind.i64 ((↑(List.length to) : Int) - (2 : Int)))) = true → (decide ((0 : Int) ≤ IntKind.wrap IntKind.u64 ((List.getD l (Int.toNat (↑k : Int)) (@default Producer instInhabitedProducer)).offset + (1 : Int))) && decide (IntKind.wrap IntKind.u64 ((List.getD l (Int.toNat (↑k : Int)) (@default Producer instInhabitedProducer)).offset + (1 : Int)) < (↑(List.length to) : Int))) = true ∧ (decide ((0 : Int) ≤ (List.getD l (Int.toNat (↑k : Int)) (@default Producer instInhabitedProducer)).offset) && decide ((List.getD l (Int.toNat (↑k : Int)) (@default Producer instInhabitedProducer)).offset < (↑(List.length to) : Int))) = true ∧ (decide (List.getD to (Int.toNat (List.getD l (Int.toNat (↑k : Int)) (@default Producer instInhabitedProducer)).offset) (0 : Int) < List.getD to (Int.toNat (IntKind.wrap IntKind.u64 ((List.getD l (Int.toNat (↑k : Int)) (@default Producer instInhabitedProducer)).offset + (1 : Int)))) (0 : Int)) = true → (decide ((0 : Int) ≤ (List.getD l (Int.toNat (↑k : Int)) (@default Producer instInhabitedProducer)).offset) && decide ((List.getD l (Int.toNat (↑k : Int)) (@default Producer instInhabitedProducer)).offset < (↑(List.length to) : Int))) = true ∧ (decide (List.length (List.take k l) = List.length (List.take k l)) && decide (List.length (List.take k l) + (1 : Nat) ≤ (9223372036854775807 : Nat)) && decide ((List.length (List.take k l) + (1 : Nat)) * (32 : Nat) ≤ (140737488355328 : Nat))) = true ∧ ∃ (j : Nat), List.length l - j < List.length l - k ∧ (((b2 = b2 ∧ List.length to = List.length to ∧ contLe (List.length to) (1 : Nat) (cellsOf' encI to) (cellsOf' encI to)) ∧ ((0 : Nat) = (0 : Nat) ∧ List.length (List.take k l) + (1 : Nat) = List.length (List.take j l)) ∧ (b1 = b1 ∧ List.length l = List.length l ∧ contLe (List.length l) (4 : Nat) (cellsOf' encP l) (cellsOf' encP l)) ∧ (↑(List.length l) : Int) = (↑(List.length l) : Int) ∧ IntKind.wrap IntKind.i64 ((↑k : Int) + (1 : Int)) = (↑j : Int) ∧ True) ∧ ((List.length (List.take k l) + (1 : Nat) = List.length (List.take j l) ∧ contLe (List.length (List.take k l) + (1 : Nat)) (4 : Nat) (appRow (List.length (List.take k l)) (cellsOf' encP (moveL (List.take k l) to)) fun (k_1 j : Nat) => Ax.get [AV.y (Value.int IntKind.u64 (List.getD l (Int.toNat (↑k : Int)) (@default Producer instInhabitedProducer)).id), AV.y (Value.int IntKind.u64 (List.getD l (Int.toNat (↑k : Int)) (@default Producer instInhabitedProducer)).seq), AV.s (Value.bool true), AV.y (Value.int IntKind.u64 (List.getD to (Int.toNat (List.getD l (Int.toNat (↑k : Int)) (@default Producer instInhabitedProducer)).offset) (0 : Int)))] (k_1 * (4 : Nat) + j)) (cellsOf' encP (moveL (List.take j l) to))) ∧ True) ∧ true = true) ∧ true = true ∧ () = ()) ∧ (decide (List.getD to (Int.toNat (List.getD l (Int.toNat (↑k : Int)) (@default Producer instInhabitedProducer)).offset) (0 : Int) < List.getD to (Int.toNat (IntKind.wrap IntKind.u64 ((List.getD l (Int.toNat (↑k : Int)) (@default Producer instInhabitedProducer)).offset + (1 : Int)))) (0 : Int)) = false → (decide (List.length (List.take k l) = List.length (List.take k l)) && decide (List.length (List.take k l) + (1 : Nat) ≤ (9223372036854775807 : Nat)) && decide ((List.length (List.take k l) + (1 : Nat)) * (32 : Nat) ≤ (140737488355328 : Nat))) = true ∧ ∃ (j : Nat), List.length l - j < List.length l - k ∧ (((b2 = b2 ∧ List.length to = List.length to ∧ contLe (List.length to) (1 : Nat) (cellsOf' encI to) (cellsOf' encI to)) ∧ ((0 : Nat) = (0 : Nat) ∧ List.length (List.take k l) + (1 : Nat) = List.length (List.take j l)) ∧ (b1 = b1 ∧ List.length l = List.length l ∧ contLe (List.length l) (4 : Nat) (cellsOf' encP l) (cellsOf' encP l)) ∧ (↑(List.length l) : Int) = (↑(List.length l) : Int) ∧ IntKind.wrap IntKind.i64 ((↑k : Int) + (1 : Int)) = (↑j : Int) ∧ True) ∧ ((List.length (List.take k l) + (1 : Nat) = List.length (List.take j l) ∧ contLe (List.length (List.take k l) + (1 : Nat)) (4 : Nat) (appRow (List.length (List.take k l)) (cellsOf' encP (moveL (List.take k l) to)) fun (k_1 j : Nat) => Ax.get [AV.y (Value.int IntKind.u64 (List.getD l (Int.toNat (↑k : Int)) (@default Producer instInhabitedProducer)).id), AV.y (Value.int IntKind.u64 (List.getD l (Int.toNat (↑k : Int)) (@default Producer instInhabitedProducer)).seq), AV.s (Value.bool false), AV.s (Value.int IntKind.u64 (0 : Int))] (k_1 * (4 : Nat) + j)) (cellsOf' encP (moveL (List.take j l) to))) ∧ True) ∧ true = true) ∧ true = true ∧ () = ())) ∧ (decide ((List.getD l (Int.toNat (↑k : Int)) (@default Producer instInhabitedProducer)).offset ≤ IntKind.wrap IntKind.u64 (IntKind.wrap IntKind.i64 ((↑(List.length to) : Int) - (2 : Int)))) = false → (decide (List.length (List.take k l) = List.length (List.take k l)) && decide (List.length (List.take k l) + (1 : Nat) ≤ (9223372036854775807 : Nat)) && decide ((List.length (List.take k l) + (1 : Nat)) * (32 : Nat) ≤ (140737488355328 : Nat))) = true ∧ ∃ (j : Nat), List.length l - j < List.length l - k ∧ (((b2 = b2 ∧ List.length to = List.length to ∧ contLe (List.length to) (1 : Nat) (cellsOf' encI to) (cellsOf' encI to)) ∧ ((0 : Nat) = (0 : Nat) ∧ List.length (List.take k l) + (1 : Nat) = List.length (List.take j l)) ∧ (b1 = b1 ∧ List.length l = List.length l ∧ contLe (List.length l) (4 : Nat) (cellsOf' encP l) (cellsOf' encP l)) ∧ (↑(List.length l) : Int) = (↑(List.length l) : Int) ∧ IntKind.wrap IntKind.i64 ((↑k : Int) + (1 : Int)) = (↑j : Int) ∧ True) ∧ ((List.length (List.take k l) + (1 : Nat) = List.length (List.take j l) ∧ contLe (List.length (List.take k l) + (1 : Nat)) (4 : Nat) (appRow (List.length (List.take k l)) (cellsOf' encP (moveL (List.take k l) to)) fun (k_1 j : Nat) => Ax.get [AV.y (Value.int IntKind.u64 (List.getD l (Int.toNat (↑k : Int)) (@default Producer instInhabitedProducer)).id), AV.y (Value.int IntKind.u64 (List.getD l (Int.toNat (↑k : Int)) (@default Producer instInhabitedProducer)).seq), AV.s (Value.bool false), AV.s (Value.int IntKind.u64 (0 : Int))] (k_1 * (4 : Nat) + j)) (cellsOf' encP (moveL (List.take j l) to))) ∧ True) ∧ true = true) ∧ true = true ∧ () = ())) ∧ (decide ((1 : Int) < IntKind.wrap IntKind.u64 (↑(List.length to) : Int)) = false → (decide (List.length (List.take k l) = List.length (List.take k l)) && decide (List.length (List.take k l) + (1 : Nat) ≤ (9223372036854775807 : Nat)) && decide ((List.length (List.take k l) + (1 : Nat)) * (32 : Nat) ≤ (140737488355328 : Nat))) = true ∧ ∃ (j : Nat), List.length l - j < List.length l - k ∧ (((b2 = b2 ∧ List.length to = List.length to ∧ contLe (List.length to) (1 : Nat) (cellsOf' encI to) (cellsOf' encI to)) ∧ ((0 : Nat) = (0 : Nat) ∧ List.length (List.take k l) + (1 : Nat) = List.length (List.take j l)) ∧ (b1 = b1 ∧ List.length l = List.length l ∧ contLe (List.length l) (4 : Nat) (cellsOf' encP l) (cellsOf' encP l)) ∧ (↑(List.length l) : Int) = (↑(List.length l) : Int) ∧ IntKind.wrap IntKind.i64 ((↑k : Int) + (1 : Int)) = (↑j : Int) ∧ True) ∧ ((List.length (List.take k l) + (1 : Nat) = List.length (List.take j l) ∧ contLe (List.length (List.take k l) + (1 : Nat)) (4 : Nat) (appRow (List.length (List.take k l)) (cellsOf' encP (moveL (List.take k l) to)) fun (k_1 j : Nat) => Ax.get [AV.y (Value.int IntKind.u64 (List.getD l (Int.toNat (↑k : Int)) (@default Producer instInhabitedProducer)).id), AV.y (Value.int IntKind.u64 (List.getD l (Int.toNat (↑k : Int)) (@default Producer instInhabitedProducer)).seq), AV.s (Value.bool false), AV.s (Value.int IntKind.u64 (0 : Int))] (k_1 * (4 : Nat) + j)) (cellsOf' encP (moveL (List.take j l) to))) ∧ True) ∧ true = true) ∧ true = true ∧ () = ())) ∧ ((List.getD l (Int.toNat (↑k : Int)) (@default Producer instInhabitedProducer)).here = false → (decide (List.length (List.take k l) = List.length (List.take k l)) && decide (List.length (List.take k l) + (1 : Nat) ≤ (9223372036854775807 : Nat)) && decide ((List.length (List.take k l) + (1 : Nat)) * (32 : Nat) ≤ (140737488355328 : Nat))) = true ∧ ∃ (j : Nat), List.length l - j < List.length l - k ∧ (((b2 = b2 ∧ List.length to = List.length to ∧ contLe (List.length to) (1 : Nat) (cellsOf' encI to) (cellsOf' encI to)) ∧ ((0 : Nat) = (0 : Nat) ∧ List.length (List.take k l) + (1 : Nat) = List.length (List.take j l)) ∧ (b1 = b1 ∧ List.length l = List.length l ∧ contLe (List.length l) (4 : Nat) (cellsOf' encP l) (cellsOf' encP l)) ∧ (↑(List.length l) : Int) = (↑(List.length l) : Int) ∧ IntKind.wrap IntKind.i64 ((↑k : Int) + (1 : Int)) = (↑j : Int) ∧ True) ∧ ((List.length (List.take k l) + (1 : Nat) = List.length (List.take j l) ∧ contLe (List.length (List.take k l) + (1 : Nat)) (4 : Nat) (appRow (List.length (List.take k l)) (cellsOf' encP (moveL (List.take k l) to)) fun (k_1 j : Nat) => Ax.get [AV.y (Value.int IntKind.u64 (List.getD l (Int.toNat (↑k : Int)) (@default Producer instInhabitedProducer)).id), AV.y (Value.int IntKind.u64 (List.getD l (Int.toNat (↑k : Int)) (@default Producer instInhabitedProducer)).seq), AV.s (Value.bool false), AV.s (Value.int IntKind.u64 (0 : Int))] (k_1 * (4 : Nat) + j)) (cellsOf' encP (moveL (List.take j l) to))) ∧ True) ∧ true = true) ∧ true = true ∧ () = ())) ∧ (decide ((↑k : Int) < (↑(List.length l) : Int)) = false → ((b2 = b2 ∧ List.length to = List.length to ∧ contLe (List.length to) (1 : Nat) (cellsOf' encI to) (cellsOf' encI to)) ∧ ((0 : Nat) = (0 : Nat) ∧ List.length (List.take k l) = List.length l) ∧ True) ∧ ((List.length (List.take k l) = List.length l ∧ contLe (List.length (List.take k l)) (4 : Nat) (cellsOf' encP (moveL (List.take k l) to)) (cellsOf' encP (moveL l to))) ∧ True) ∧ true = true)
set_option maxRecDepth 1000000 in
theorem vcMvL_eq (b1 : Bool) (b2 : Bool) (l : List Producer) (to : List Int) (k : Nat) : (loopVC Try.prog (hT _) 19 3 (fun k => l.length - k) (mvT b1 b2 l to) (mvM l to) [0, 1, 2, 3, 4] (fun _ => .ret ()) (mvS b2 l to) k) = vcMvL b1 b2 l to k := by kernel_rfl
theorem mv_loop (b1 b2 : Bool) (l : List Producer) (to : List Int) (hl : l.length * 32 ≤ 140737488355200) (ht : to.length ≤ 9223372036854775806) (ho : ∀ x ∈ l, 0 ≤ x.offset ∧ x.offset < 18446744073709551616) (k : Nat) (hk : k ≤ l.length) : LoopOk Try.prog 19 3 (loopAt Try.prog 19 3) ⟨mvT b1 b2 l to k, mvM l to k, []⟩ (T.map (lout [0, 1, 2, 3, 4] (mvS b2 l to)) (.ret ())) := by
  refine loop_vc (o := fun _ => .ret ()) Try.mixed (fun _ => rfl) (fun k => (vcMvL_eq b1 b2 l to k).mpr ?_) k
  unfold vcMvL
  simp
  refine ⟨fun h => ⟨h, ?_⟩, fun h => ?_⟩
  · have hy : 0 ≤ (l[k]?.getD default).offset ∧ (l[k]?.getD default).offset < 18446744073709551616 := by
      have := ho l[k] (List.getElem_mem h)
      simpa [h] using this
    have hm : min k l.length = k := by omega
    have hst : moveL (l.take (k + 1)) to = moveL (l.take k) to ++ [mvP to (l[k]?.getD default)] := by rw [take_snoc l k h]; simp [moveL]
    have hlen : (moveL (l.take k) to).length = k := by simp [moveL, hm]
    have hw := wrap_i64 (n := (k : Int) + 1) (by omega) (by omega)
    rw [hw]
    generalize l[k]?.getD default = y at *
    rw [hm]
    have fin : ∀ e : List AV, (∀ j, j < 4 → le0 (Ax.get e j) (Ax.get (encP (mvP to y)) j)) → (k ≤ 9223372036854775806 ∧ (k + 1) * 32 ≤ 140737488355328) ∧ ∃ j, l.length - j < l.length - k ∧ (k + 1 = min j l.length ∧ (k : Int) + 1 = (j : Int)) ∧ k + 1 = min j l.length ∧ contLe (k + 1) 4 (appRow k (cellsOf' encP (moveL (List.take k l) to)) fun k_1 j => Ax.get e (k_1 * 4 + j)) (cellsOf' encP (moveL (List.take j l) to)) := by
      intro e he
      refine ⟨⟨by omega, by omega⟩, k + 1, by omega, ⟨by omega, by omega⟩, by omega, ?_⟩
      rw [hst]
      exact app_le (contLe_refl _ _ _) hlen.symm he
    have f0 : mvOk y to = false → _ := fun hm => fin [.y (.int .u64 y.id), .y (.int .u64 y.seq), .s (.bool false), .s (.int .u64 0)] fun j hj => by
      match j, hj with
      | 0, _ => simp [mvP, hm, encP]
      | 1, _ => simp [mvP, hm, encP]
      | 2, _ => simp [mvP, hm, encP]
      | 3, _ => simp [mvP, hm, encP]
    have f1 : mvOk y to = true → _ := fun hm => fin [.y (.int .u64 y.id), .y (.int .u64 y.seq), .s (.bool true), .y (.int .u64 (to[y.offset.toNat]?.getD 0))] fun j hj => by
      match j, hj with
      | 0, _ => simp [mvP, hm, encP]
      | 1, _ => simp [mvP, hm, encP]
      | 2, _ => simp [mvP, hm, encP]
      | 3, _ => simp [mvP, hm, encP]
    have hu : IntKind.u64.wrap (to.length : Int) = to.length := wrap_u64 (by omega) (by omega)
    rw [hu]
    refine ⟨fun hh => ⟨fun h1 => ?_, fun h1 => f0 ?_⟩, fun hh => f0 ?_⟩
    · have hs2 : IntKind.u64.wrap (IntKind.i64.wrap ((to.length : Int) - 2)) = (to.length : Int) - 2 := by
        rw [wrap_i64 (by omega) (by omega), wrap_u64 (by omega) (by omega)]
      rw [hs2]
      refine ⟨fun h2 => ?_, fun h2 => f0 ?_⟩
      · have hs3 : IntKind.u64.wrap (y.offset + 1) = y.offset + 1 := wrap_u64 (by omega) (by omega)
        have hs4 : (y.offset + 1).toNat = y.offset.toNat + 1 := by omega
        rw [hs3, hs4]
        refine ⟨⟨by omega, by omega⟩, ⟨by omega, by omega⟩, fun h3 => ⟨⟨by omega, by omega⟩, f1 ?_⟩, fun h3 => f0 ?_⟩
        · simp [mvOk, hh]
          exact ⟨by omega, h2, h3⟩
        · simp [mvOk]
          intro _ _ _
          exact h3
      · simp [mvOk]
        intro _ _ h3
        omega
    · simp [mvOk]
      intro _ h3
      omega
    · simp [mvOk, hh]
  · rw [List.take_of_length_le h]
    simp [moveL]
    omega
noncomputable def mvH (b1 b2 : Bool) (l : List Producer) (to : List Int) : HintsT Try.prog :=
  hh _ (lp1 19 3 (jobOf (mvT b1 b2 l to) (mvM l to) [0, 1, 2, 3, 4] (fun _ => .ret ()) (mvS b2 l to) 0) noLp) noCs (op1 19 1 0 (.row 39 4) noOp)
def rowR (r : List Producer) : T An := .ret (.own 0 4 0 r.length, [.row 39 4 r.length none (cellsOf' encP r)], [])
def vcMv (b1 : Bool) (b2 : Bool) (l : List Producer) (to : List Int) : Prop :=
  (((b2 = b2 ∧ List.length to = List.length to ∧ contLe (List.length to) (1 : Nat) (cellsOf' encI to) (cellsOf' encI to)) ∧ ((0 : Nat) = (0 : Nat) ∧ (0 : Nat) = (0 : Nat)) ∧ (b1 = b1 ∧ List.length l = List.length l ∧ contLe (List.length l) (4 : Nat) (cellsOf' encP l) (cellsOf' encP l)) ∧ (↑(List.length l) : Int) = (↑(List.length l) : Int) ∧ (0 : Int) = (0 : Int) ∧ True) ∧ (((0 : Nat) = (0 : Nat) ∧ contLe (0 : Nat) (4 : Nat) (fun (x x_1 : Nat) => AV.junk) (cellsOf' encP [])) ∧ True) ∧ true = true) ∧ LoopOk Try.prog (19 : Nat) (3 : Nat) (loopAt Try.prog (19 : Nat) (3 : Nat)) { t := mvT b1 b2 l to (0 : Nat), m := mvM l to (0 : Nat), mv := [] } (T.map (lout [(0 : Nat), (1 : Nat), (2 : Nat), (3 : Nat), (4 : Nat)] (mvS b2 l to)) ((fun (x : Nat) => T.ret ()) (0 : Nat))) ∧ ((0 : Nat) = (0 : Nat) ∧ List.length l = List.length (moveL l to)) ∧ (List.length l = List.length (moveL l to) ∧ contLe (List.length l) (4 : Nat) (cellsOf' encP (moveL l to)) (cellsOf' encP (moveL l to))) ∧ True
set_option maxRecDepth 1000000 in
theorem vcMv_eq (b1 : Bool) (b2 : Bool) (l : List Producer) (to : List Int) : (ctrVC Try.prog (mvH b1 b2 l to) 19 [encPs b1 l, encU b2 to] [] (rowR (moveL l to))) = vcMv b1 b2 l to := by kernel_rfl
theorem move_c (b1 b2 : Bool) (l : List Producer) (to : List Int) (hl : l.length * 32 ≤ 140737488355200) (ht : to.length ≤ 9223372036854775806) (ho : ∀ x ∈ l, 0 ≤ x.offset ∧ x.offset < 18446744073709551616) : (rowR (moveL l to)).Sat (ACall' Try.prog 19 [encPs b1 l, encU b2 to] []) := by
  refine ctr_vc (ht := mvH b1 b2 l to) Try.mixed rfl ?_
  rw [vcMv_eq b1 b2 l to]
  unfold vcMv
  have hL := mv_loop b1 b2 l to hl ht ho 0 (Nat.zero_le _)
  simp [hL, moveL]
end Go.Proofs.Ytjdnbdgekkdlgaa
