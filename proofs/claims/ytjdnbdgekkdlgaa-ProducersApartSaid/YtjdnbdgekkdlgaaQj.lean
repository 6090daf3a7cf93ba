import Derived.Test.YtjdnbdgekkdlgaaQi
/-! Producers: the document's Move; later. -/
namespace Go.Proofs.Ytjdnbdgekkdlgaa
open Go.Ax
set_option maxRecDepth 1000000
def oneR (x : Producer) : T An := .ret (.agg (encP x), [], [])
def vcMd (b : Bool) (x : Producer) (to : List Int) : Prop :=
  (x.here = true → (decide ((0 : Int) < (↑(List.length to) : Int)) = true → (decide (x.offset < IntKind.wrap IntKind.u64 (IntKind.wrap IntKind.i64 ((↑(List.length to) : Int) - (1 : Int)))) = true → (decide ((0 : Int) ≤ IntKind.wrap IntKind.i64 (IntKind.wrap IntKind.i64 x.offset + (1 : Int))) && decide (IntKind.wrap IntKind.i64 (IntKind.wrap IntKind.i64 x.offset + (1 : Int)) < (↑(List.length to) : Int))) = true ∧ (decide ((0 : Int) ≤ IntKind.wrap IntKind.i64 x.offset) && decide (IntKind.wrap IntKind.i64 x.offset < (↑(List.length to) : Int))) = true ∧ (decide (List.getD to (Int.toNat (IntKind.wrap IntKind.i64 x.offset)) (0 : Int) < List.getD to (Int.toNat (IntKind.wrap IntKind.i64 (IntKind.wrap IntKind.i64 x.offset + (1 : Int)))) (0 : Int)) = true → (decide ((0 : Int) ≤ IntKind.wrap IntKind.i64 x.offset) && decide (IntKind.wrap IntKind.i64 x.offset < (↑(List.length to) : Int))) = true ∧ (x.id = (mvP to x).id ∧ x.seq = (mvP to x).seq ∧ true = (mvP to x).here ∧ List.getD to (Int.toNat (IntKind.wrap IntKind.i64 x.offset)) (0 : Int) = (mvP to x).offset ∧ True) ∧ True) ∧ (decide (List.getD to (Int.toNat (IntKind.wrap IntKind.i64 x.offset)) (0 : Int) < List.getD to (Int.toNat (IntKind.wrap IntKind.i64 (IntKind.wrap IntKind.i64 x.offset + (1 : Int)))) (0 : Int)) = false → (x.id = (mvP to x).id ∧ x.seq = (mvP to x).seq ∧ false = (mvP to x).here ∧ (0 : Int) = (mvP to x).offset ∧ True) ∧ True)) ∧ (decide (x.offset < IntKind.wrap IntKind.u64 (IntKind.wrap IntKind.i64 ((↑(List.length to) : Int) - (1 : Int)))) = false → (x.id = (mvP to x).id ∧ x.seq = (mvP to x).seq ∧ false = (mvP to x).here ∧ (0 : Int) = (mvP to x).offset ∧ True) ∧ True)) ∧ (decide ((0 : Int) < (↑(List.length to) : Int)) = false → (x.id = (mvP to x).id ∧ x.seq = (mvP to x).seq ∧ false = (mvP to x).here ∧ (0 : Int) = (mvP to x).offset ∧ True) ∧ True)) ∧ (x.here = false → (x.id = (mvP to x).id ∧ x.seq = (mvP to x).seq ∧ false = (mvP to x).here ∧ (0 : Int) = (mvP to x).offset ∧ True) ∧ True)
set_option maxRecDepth 1000000 in
theorem vcMd_eq (b : Bool) (x : Producer) (to : List Int) : (ctrVC Try.prog (hT _) 31 [.agg (encP x), encU b to] [] (oneR (mvP to x))) = vcMd b x to := by kernel_rfl
theorem moved_c (b : Bool) (y : Producer) (to : List Int) (ht : to.length ≤ 9223372036854775806) (ho : 0 ≤ y.offset ∧ y.offset < 18446744073709551616) : (oneR (mvP to y)).Sat (ACall' Try.prog 31 [.agg (encP y), encU b to] []) := by
  refine ctr_vc (ht := hT _) Try.mixed rfl ?_
  rw [vcMd_eq b y to]
  unfold vcMd
  simp [encP]
  have h0 : mvOk y to = false → y.id = (mvP to y).id ∧ y.seq = (mvP to y).seq ∧ (mvP to y).here = false ∧ 0 = (mvP to y).offset := fun h => by simp [mvP, h]
  refine ⟨fun hh => ⟨fun h1 => ?_, fun h1 => h0 ?_⟩, fun hh => h0 ?_⟩
  · have hs2 : IntKind.u64.wrap (IntKind.i64.wrap ((to.length : Int) - 1)) = (to.length : Int) - 1 := by
      rw [wrap_i64 (by omega) (by omega), wrap_u64 (by omega) (by omega)]
    rw [hs2]
    refine ⟨fun h2 => ?_, fun h2 => h0 ?_⟩
    · have hs3 : IntKind.i64.wrap y.offset = y.offset := wrap_i64 (by omega) (by omega)
      have hs5 : IntKind.i64.wrap (y.offset + 1) = y.offset + 1 := wrap_i64 (by omega) (by omega)
      have hs4 : (y.offset + 1).toNat = y.offset.toNat + 1 := by omega
      rw [hs3, hs5, hs4]
      refine ⟨⟨by omega, by omega⟩, ⟨by omega, by omega⟩, fun h3 => ⟨⟨by omega, by omega⟩, ?_⟩, fun h3 => h0 ?_⟩
      · have : mvOk y to = true := by
          simp [mvOk, hh]
          exact ⟨by omega, by omega, h3⟩
        simp [mvP, this]
      · simp [mvOk]
        intro _ _ _
        exact h3
    · simp [mvOk]
      intro _ h3 h4
      omega
  · simp [mvOk, h1]
  · simp [mvOk, hh]
noncomputable def movedN (b : Bool) (x : Producer) (to : List Int) : Ctr Try.prog := ⟨31, [.agg (encP x), encU b to], [], .need (to.length ≤ 9223372036854775806 ∧ 0 ≤ x.offset ∧ x.offset < 18446744073709551616) (oneR (mvP to x)), T.Sat.need fun h => moved_c b x to h.1 h.2⟩
def rmT (b1 b2 : Bool) (l : List Producer) (to : List Int) (k : Nat) : List AV := mkT 23 [(0, encPs b1 l), (1, encU b2 to), (5, .own 0 4 0 (l.take k).length), (6, .y (.int .i64 k))]
def rmS (b1 b2 : Bool) (l : List Producer) (to : List Int) (_ : Unit) : Exit × List AV × List Blk := (.exit 0, mkT 23 [(0, encPs b1 l), (1, encU b2 to), (5, .own 0 4 0 l.length)], [.row 39 4 l.length none (cellsOf' encP (moveL l to))])
noncomputable def rmH (b2 : Bool) (l : List Producer) (to : List Int) (k : Nat) : HintsT Try.prog := hh _ noLp (cs1 22 5 6 (movedN b2 (l.getD k default) to) noCs) noOp
def vcRmL (b1 : Bool) (b2 : Bool) (l : List Producer) (to : List Int) (k : Nat) : Prop :=
  (decide ((↑k : Int) < (↑(List.length l) : Int)) = true → (true && decide ((↑k : Int) < (↑(List.length l) : Int))) = true ∧ (((List.getD l (Int.toNat (↑k : Int)) (@default Producer instInhabitedProducer)).id = (List.getD l k (@default Producer instInhabitedProducer)).id ∧ (List.getD l (Int.toNat (↑k : Int)) (@default Producer instInhabitedProducer)).seq = (List.getD l k (@default Producer instInhabitedProducer)).seq ∧ (List.getD l (Int.toNat (↑k : Int)) (@default Producer instInhabitedProducer)).here = (List.getD l k (@default Producer instInhabitedProducer)).here ∧ (List.getD l (Int.toNat (↑k : Int)) (@default Producer instInhabitedProducer)).offset = (List.getD l k (@default Producer instInhabitedProducer)).offset ∧ True) ∧ (b2 = b2 ∧ List.length to = List.length to ∧ contLe (List.length to) (1 : Nat) (cellsOf' encI to) (cellsOf' encI to)) ∧ True) ∧ True ∧ (List.length to ≤ (9223372036854775806 : Nat) ∧ (0 : Int) ≤ (List.getD l k (@default Producer instInhabitedProducer)).offset ∧ (List.getD l k (@default Producer instInhabitedProducer)).offset < (18446744073709551616 : Int)) ∧ (decide (List.length (List.take k l) = List.length (List.take k l)) && decide (List.length (List.take k l) + (1 : Nat) ≤ (9223372036854775807 : Nat)) && decide ((List.length (List.take k l) + (1 : Nat)) * (32 : Nat) ≤ (140737488355328 : Nat))) = true ∧ ∃ (j : Nat), List.length l - j < List.length l - k ∧ (((b1 = b1 ∧ List.length l = List.length l ∧ contLe (List.length l) (4 : Nat) (cellsOf' encP l) (cellsOf' encP l)) ∧ (b2 = b2 ∧ List.length to = List.length to ∧ contLe (List.length to) (1 : Nat) (cellsOf' encI to) (cellsOf' encI to)) ∧ ((0 : Nat) = (0 : Nat) ∧ List.length (List.take k l) + (1 : Nat) = List.length (List.take j l)) ∧ IntKind.wrap IntKind.i64 ((↑k : Int) + (1 : Int)) = (↑j : Int) ∧ True) ∧ ((List.length (List.take k l) + (1 : Nat) = List.length (List.take j l) ∧ contLe (List.length (List.take k l) + (1 : Nat)) (4 : Nat) (appRow (List.length (List.take k l)) (cellsOf' encP (moveL (List.take k l) to)) fun (k_1 j : Nat) => Ax.get [AV.y (Value.int IntKind.u64 (mvP to (List.getD l k (@default Producer instInhabitedProducer))).id), AV.y (Value.int IntKind.u64 (mvP to (List.getD l k (@default Producer instInhabitedProducer))).seq), AV.y (Value.bool (mvP to (List.getD l k (@default Producer instInhabitedProducer))).here), AV.y (Value.int IntKind.u64 (mvP to (List.getD l k (@default Producer instInhabitedProducer))).offset)] (k_1 * (4 : Nat) + j)) (cellsOf' encP (moveL (List.take j l) to))) ∧ True) ∧ true = true) ∧ true = true ∧ () = ()) ∧ (decide ((↑k : Int) < (↑(List.length l) : Int)) = false → ((b1 = b1 ∧ List.length l = List.length l ∧ contLe (List.length l) (4 : Nat) (cellsOf' encP l) (cellsOf' encP l)) ∧ (b2 = b2 ∧ List.length to = List.length to ∧ contLe (List.length to) (1 : Nat) (cellsOf' encI to) (cellsOf' encI to)) ∧ ((0 : Nat) = (0 : Nat) ∧ List.length (List.take k l) = List.length l) ∧ True) ∧ ((List.length (List.take k l) = List.length l ∧ contLe (List.length (List.take k l)) (4 : Nat) (cellsOf' encP (moveL (List.take k l) to)) (cellsOf' encP (moveL l to))) ∧ True) ∧ true = true)
set_option maxRecDepth 1000000 in
theorem vcRmL_eq (b1 : Bool) (b2 : Bool) (l : List Producer) (to : List Int) (k : Nat) : (loopVC Try.prog (rmH b2 l to k) 22 3 (fun k => l.length - k) (rmT b1 b2 l to) (mvM l to) [0, 1, 2, 3, 4] (fun _ => .ret ()) (rmS b1 b2 l to) k) = vcRmL b1 b2 l to k := by kernel_rfl
theorem rm_loop (b1 b2 : Bool) (l : List Producer) (to : List Int) (hl : l.length * 32 ≤ 140737488355200) (ht : to.length ≤ 9223372036854775806) (ho : ∀ x ∈ l, 0 ≤ x.offset ∧ x.offset < 18446744073709551616) (k : Nat) : LoopOk Try.prog 22 3 (loopAt Try.prog 22 3) ⟨rmT b1 b2 l to k, mvM l to k, []⟩ (T.map (lout [0, 1, 2, 3, 4] (rmS b1 b2 l to)) (.ret ())) := by
  refine loop_vcH (o := fun _ => .ret ()) Try.mixed (fun _ => rfl) (fun k => (vcRmL_eq b1 b2 l to k).mpr ?_) k
  unfold vcRmL
  simp
  refine ⟨fun h => ⟨h, ?_⟩, fun h => ?_⟩
  · have hy : 0 ≤ (l[k]?.getD default).offset ∧ (l[k]?.getD default).offset < 18446744073709551616 := by
      have := ho l[k] (List.getElem_mem h)
      simpa [h] using this
    have hm : min k l.length = k := by omega
    have hst : moveL (l.take (k + 1)) to = moveL (l.take k) to ++ [mvP to (l[k]?.getD default)] := by rw [take_snoc l k h]; simp [moveL]
    have hlen : (moveL (l.take k) to).length = k := by simp [moveL, hm]
    have hw := wrap_i64 (n := (k : Int) + 1) (by omega) (by omega)
    rw [hw]
    generalize l[k]?.getD default = y at *
    rw [hm]
    refine ⟨⟨ht, hy⟩, ⟨by omega, by omega⟩, k + 1, by omega, ⟨by omega, by omega⟩, by omega, ?_⟩
    rw [hst]
    refine app_le (contLe_refl _ _ _) hlen.symm fun j hj => ?_
    match j, hj with
    | 0, _ => simp [encP]
    | 1, _ => simp [encP]
    | 2, _ => simp [encP]
    | 3, _ => simp [encP]
  · rw [List.take_of_length_le h]
    simp [moveL]
    omega
def lat (x y : Producer) : Bool := decide (y.seq < x.seq) || (x.seq == y.seq && (x.here && !y.here))
def boolR (b : Bool) : T An := .ret (.y (.bool b), [], [])
def vcLat (x : Producer) (y : Producer) : Prop :=
  (decide (y.seq < x.seq) = true → true = lat x y ∧ True) ∧ (decide (y.seq < x.seq) = false → ((x.seq == y.seq) = true → (x.here = true → (!y.here) = lat x y ∧ True) ∧ (x.here = false → false = lat x y ∧ True)) ∧ ((x.seq == y.seq) = false → false = lat x y ∧ True))
set_option maxRecDepth 1000000 in
theorem vcLat_eq (x : Producer) (y : Producer) : (ctrVC Try.prog (hT _) 29 [.agg (encP x), .agg (encP y)] [] (boolR (lat x y))) = vcLat x y := by kernel_rfl
theorem later_c (x y : Producer) : (boolR (lat x y)).Sat (ACall' Try.prog 29 [.agg (encP x), .agg (encP y)] []) := by
  refine ctr_vc (ht := hT _) Try.mixed rfl ?_
  rw [vcLat_eq x y]
  unfold vcLat
  simp [lat]
  grind
noncomputable def rmvH (b1 b2 : Bool) (l : List Producer) (to : List Int) : HintsT Try.prog :=
  hh _ (lp1 22 3 (jobOf (rmT b1 b2 l to) (mvM l to) [0, 1, 2, 3, 4] (fun _ => .ret ()) (rmS b1 b2 l to) 0) noLp) noCs (op1 22 1 0 (.row 39 4) noOp)
def vcRmv (b1 : Bool) (b2 : Bool) (l : List Producer) (to : List Int) : Prop :=
  (((b1 = b1 ∧ List.length l = List.length l ∧ contLe (List.length l) (4 : Nat) (cellsOf' encP l) (cellsOf' encP l)) ∧ (b2 = b2 ∧ List.length to = List.length to ∧ contLe (List.length to) (1 : Nat) (cellsOf' encI to) (cellsOf' encI to)) ∧ ((0 : Nat) = (0 : Nat) ∧ (0 : Nat) = (0 : Nat)) ∧ (0 : Int) = (0 : Int) ∧ True) ∧ (((0 : Nat) = (0 : Nat) ∧ contLe (0 : Nat) (4 : Nat) (fun (x x_1 : Nat) => AV.junk) (cellsOf' encP [])) ∧ True) ∧ true = true) ∧ LoopOk Try.prog (22 : Nat) (3 : Nat) (loopAt Try.prog (22 : Nat) (3 : Nat)) { t := rmT b1 b2 l to (0 : Nat), m := mvM l to (0 : Nat), mv := [] } (T.map (lout [(0 : Nat), (1 : Nat), (2 : Nat), (3 : Nat), (4 : Nat)] (rmS b1 b2 l to)) ((fun (x : Nat) => T.ret ()) (0 : Nat))) ∧ ((0 : Nat) = (0 : Nat) ∧ List.length l = List.length (moveL l to)) ∧ (List.length l = List.length (moveL l to) ∧ contLe (List.length l) (4 : Nat) (cellsOf' encP (moveL l to)) (cellsOf' encP (moveL l to))) ∧ True
set_option maxRecDepth 1000000 in
theorem vcRmv_eq (b1 : Bool) (b2 : Bool) (l : List Producer) (to : List Int) : (ctrVC Try.prog (rmvH b1 b2 l to) 22 [encPs b1 l, encU b2 to] [] (rowR (moveL l to))) = vcRmv b1 b2 l to := by kernel_rfl
theorem rmove_c (b1 b2 : Bool) (l : List Producer) (to : List Int) (hl : l.length * 32 ≤ 140737488355200) (ht : to.length ≤ 9223372036854775806) (ho : ∀ x ∈ l, 0 ≤ x.offset ∧ x.offset < 18446744073709551616) : (rowR (moveL l to)).Sat (ACall' Try.prog 22 [encPs b1 l, encU b2 to] []) := by
  refine ctr_vc (ht := rmvH b1 b2 l to) Try.mixed rfl ?_
  rw [vcRmv_eq b1 b2 l to]
  unfold vcRmv
  have hL := rm_loop b1 b2 l to hl ht ho 0
  simp [hL, moveL]
end Go.Proofs.Ytjdnbdgekkdlgaa
