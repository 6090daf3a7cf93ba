import Derived.Test.YtdpbogaldcpfeaaDoorRows
import Derived.Test.YtdpbogaldcpfeaaDoorTie
import Derived.Test.YtdpbogaldcpfeaaDoorCards
import Derived.OpenShut
import Derived.Lay
import Derived.Handed
import Derived.SevenTiedAt
import Derived.Test.YtdpbogaldcpfeaaDoorE10
import Derived.Test.YtdpbogaldcpfeaaDoorW1
import Derived.Test.YtdpbogaldcpfeaaDoorW5
set_option linter.unusedVariables false
set_option linter.unusedSimpArgs false
set_option linter.unusedSectionVars false
/-! A client: a reply is like itself. -/
namespace Go.Proofs.YtdpbogaldcpfeaaDoor.C
open Go.Ax
set_option maxRecDepth 1000000
def iqT (b1 b2 : Bool) (a : List Int) (k : Nat) : List AV := mkT 26 [(0, encIs b1 a), (1, encIs b2 a), (5, .y (.int .i64 k))]
def iqS (_ : Unit) : Exit × List AV × List Blk := (.exit 0, mkT 26 [], [])
def vcInL (b1 : Bool) (b2 : Bool) (a : List Int) (k : Nat) : Prop :=
  (decide ((↑k : Int) < (↑(List.length a) : Int)) = true → (true && decide ((↑k : Int) < (↑(List.length a) : Int))) = true ∧ (true && decide ((↑k : Int) < (↑(List.length a) : Int))) = true ∧ ((List.getD a (Int.toNat (↑k : Int)) (0 : Int) != List.getD a (Int.toNat (↑k : Int)) (0 : Int)) = true → False) ∧ ((List.getD a (Int.toNat (↑k : Int)) (0 : Int) != List.getD a (Int.toNat (↑k : Int)) (0 : Int)) = false → ∃ (j : Nat), List.length a - j < List.length a - k ∧ (((b1 = b1 ∧ List.length a = List.length a ∧ contLe (List.length a) (1 : Nat) (cellsOf' encI a) (cellsOf' encI a)) ∧ (b2 = b2 ∧ List.length a = List.length a ∧ contLe (List.length a) (1 : Nat) (cellsOf' encI a) (cellsOf' encI a)) ∧ IntKind.wrap IntKind.i64 ((↑k : Int) + (1 : Int)) = (↑j : Int) ∧ True) ∧ True ∧ true = true) ∧ true = true ∧ () = ())) ∧ (decide ((↑k : Int) < (↑(List.length a) : Int)) = false → True ∧ True ∧ true = true)
set_option maxRecDepth 1000000 in
theorem vcInL_eq (b1 : Bool) (b2 : Bool) (a : List Int) (k : Nat) : (loopVC Tryd.prog (hT _) 23 4 (fun k => a.length - k) (iqT b1 b2 a) (fun _ => []) [0] (fun _ => .ret ()) iqS k) = vcInL b1 b2 a k := by kernel_rfl
noncomputable def iqH (b1 b2 : Bool) (a : List Int) : HintsT Tryd.prog := hh _ (lp1 23 4 (jobOf (iqT b1 b2 a) (fun _ => []) [0] (fun _ => .ret ()) iqS 0) noLp) noCs noOp
def vcIns (b1 : Bool) (b2 : Bool) (a : List Int) : Prop :=
  (((↑(List.length a) : Int) != (↑(List.length a) : Int)) = true → false = true ∧ True) ∧ (((↑(List.length a) : Int) != (↑(List.length a) : Int)) = false → (((b1 = b1 ∧ List.length a = List.length a ∧ contLe (List.length a) (1 : Nat) (cellsOf' encI a) (cellsOf' encI a)) ∧ (b2 = b2 ∧ List.length a = List.length a ∧ contLe (List.length a) (1 : Nat) (cellsOf' encI a) (cellsOf' encI a)) ∧ (0 : Int) = (0 : Int) ∧ True) ∧ True ∧ true = true) ∧ LoopOk Tryd.prog (23 : Nat) (4 : Nat) (loopAt Tryd.prog (23 : Nat) (4 : Nat)) { t := iqT b1 b2 a (0 : Nat), m := [], mv := [] : St } (T.map (lout [(0 : Nat)] iqS) ((fun (x : Nat) => T.ret ()) (0 : Nat))) ∧ true = true ∧ True)
set_option maxRecDepth 1000000 in
theorem vcIns_eq (b1 : Bool) (b2 : Bool) (a : List Int) : (ctrVC Tryd.prog (iqH b1 b2 a) 23 [encIs b1 a, encIs b2 a] [] (boolR true)) = vcIns b1 b2 a := by kernel_rfl
theorem iq_loop (b1 b2 : Bool) (a : List Int) (hl : a.length ≤ 9223372036854775806) (k : Nat) : LoopOk Tryd.prog 23 4 (loopAt Tryd.prog 23 4) ⟨iqT b1 b2 a k, [], []⟩ (T.map (lout [0] iqS) (.ret ())) := by
  refine loop_vc (o := fun _ => .ret ()) Tryd.mixed (fun _ => rfl) (fun k => (vcInL_eq b1 b2 a k).mpr ?_) k
  unfold vcInL
  simp
  intro h
  simp [h]
  exact ⟨k + 1, by omega, by rw [wrap_i64 (by omega) (by omega)]; omega⟩
theorem iq_c (b1 b2 : Bool) (a : List Int) (hl : a.length ≤ 9223372036854775806) : (boolR true).Sat (ACall' Tryd.prog 23 [encIs b1 a, encIs b2 a] []) := by
  refine ctr_vc (ht := iqH b1 b2 a) Tryd.mixed rfl ?_
  rw [vcIns_eq b1 b2 a]
  unfold vcIns
  simp [iq_loop b1 b2 a hl 0]
noncomputable def iqC (b1 b2 : Bool) (a b : List Int) : Ctr Tryd.prog := ⟨23, [encIs b1 a, encIs b2 b], [], .need (a.length ≤ 9223372036854775806 ∧ a = b) (boolR true), T.Sat.need fun h => by obtain ⟨h1, rfl⟩ := h; exact iq_c b1 b2 a h1⟩
/-! records -/
def sr2T (b1 b2 : Bool) (a : List Rec) (k : Nat) : List AV := mkT 82 [(0, encRs b1 a), (1, encRs b2 a), (5, .y (.int .i64 k))]
def sr2S (_ : Unit) : Exit × List AV × List Blk := (.exit 0, mkT 82 [], [])
def vcSrL (b1 : Bool) (b2 : Bool) (a : List Rec) (k : Nat) : Prop :=
  (decide ((↑k : Int) < (↑(List.length a) : Int)) = true →
      (true && decide ((↑k : Int) < (↑(List.length a) : Int))) = true ∧
        (true && decide ((↑k : Int) < (↑(List.length a) : Int))) = true ∧
          (((List.getD a (Int.toNat (↑k : Int)) (@default Rec instInhabitedRec)).off != (List.getD a (Int.toNat (↑k : Int)) (@default Rec instInhabitedRec)).off) = true → False) ∧
            (((List.getD a (Int.toNat (↑k : Int)) (@default Rec instInhabitedRec)).off != (List.getD a (Int.toNat (↑k : Int)) (@default Rec instInhabitedRec)).off) = false →
              (true && decide ((↑k : Int) < (↑(List.length a) : Int))) = true ∧
                (true && decide ((↑k : Int) < (↑(List.length a) : Int))) = true ∧
                  ((!(List.getD a (Int.toNat (↑k : Int)) (@default Rec instInhabitedRec)).key.data.toList == (List.getD a (Int.toNat (↑k : Int)) (@default Rec instInhabitedRec)).key.data.toList) = true → False) ∧
                    ((!(List.getD a (Int.toNat (↑k : Int)) (@default Rec instInhabitedRec)).key.data.toList == (List.getD a (Int.toNat (↑k : Int)) (@default Rec instInhabitedRec)).key.data.toList) = false →
                      (true && decide ((↑k : Int) < (↑(List.length a) : Int))) = true ∧
                        (∀ (k_1 : Nat), k_1 < List.length (List.getD a (Int.toNat (↑k : Int)) (@default Rec instInhabitedRec)).val → true = true) ∧
                          (true && decide ((↑k : Int) < (↑(List.length a) : Int))) = true ∧
                            (∀ (k_1 : Nat), k_1 < List.length (List.getD a (Int.toNat (↑k : Int)) (@default Rec instInhabitedRec)).val → true = true) ∧
                              ((!List.map
                                          (fun (a : AV) =>
                                            match
                                              match a with
                                              | AV.s (Value.int IntKind.u8 n) => some n
                                              | AV.y (Value.int IntKind.u8 n) => some n
                                              | x => none with
                                            | some n => UInt8.ofNat (Int.toNat n)
                                            | none => (0 : UInt8))
                                          (List.map (fun (k_1 : Nat) => AV.y (Value.int IntKind.u8 (List.getD (List.getD a (Int.toNat (↑k : Int)) (@default Rec instInhabitedRec)).val k_1 (0 : Int)))) (List.range (List.length (List.getD a (Int.toNat (↑k : Int)) (@default Rec instInhabitedRec)).val))) ==
                                        List.map
                                          (fun (a : AV) =>
                                            match
                                              match a with
                                              | AV.s (Value.int IntKind.u8 n) => some n
                                              | AV.y (Value.int IntKind.u8 n) => some n
                                              | x => none with
                                            | some n => UInt8.ofNat (Int.toNat n)
                                            | none => (0 : UInt8))
                                          (List.map (fun (k_1 : Nat) => AV.y (Value.int IntKind.u8 (List.getD (List.getD a (Int.toNat (↑k : Int)) (@default Rec instInhabitedRec)).val k_1 (0 : Int)))) (List.range (List.length (List.getD a (Int.toNat (↑k : Int)) (@default Rec instInhabitedRec)).val)))) =
                                    true →
                                  False) ∧
                                ((!List.map
                                          (fun (a : AV) =>
                                            match
                                              match a with
                                              | AV.s (Value.int IntKind.u8 n) => some n
                                              | AV.y (Value.int IntKind.u8 n) => some n
                                              | x => none with
                                            | some n => UInt8.ofNat (Int.toNat n)
                                            | none => (0 : UInt8))
                                          (List.map (fun (k_1 : Nat) => AV.y (Value.int IntKind.u8 (List.getD (List.getD a (Int.toNat (↑k : Int)) (@default Rec instInhabitedRec)).val k_1 (0 : Int)))) (List.range (List.length (List.getD a (Int.toNat (↑k : Int)) (@default Rec instInhabitedRec)).val))) ==
                                        List.map
                                          (fun (a : AV) =>
                                            match
                                              match a with
                                              | AV.s (Value.int IntKind.u8 n) => some n
                                              | AV.y (Value.int IntKind.u8 n) => some n
                                              | x => none with
                                            | some n => UInt8.ofNat (Int.toNat n)
                                            | none => (0 : UInt8))
                                          (List.map (fun (k_1 : Nat) => AV.y (Value.int IntKind.u8 (List.getD (List.getD a (Int.toNat (↑k : Int)) (@default Rec instInhabitedRec)).val k_1 (0 : Int)))) (List.range (List.length (List.getD a (Int.toNat (↑k : Int)) (@default Rec instInhabitedRec)).val)))) =
                                    false →
                                  (true && decide ((↑k : Int) < (↑(List.length a) : Int))) = true ∧ (true && decide ((↑k : Int) < (↑(List.length a) : Int))) = true ∧ (((List.getD a (Int.toNat (↑k : Int)) (@default Rec instInhabitedRec)).prod != (List.getD a (Int.toNat (↑k : Int)) (@default Rec instInhabitedRec)).prod) = true → False) ∧ (((List.getD a (Int.toNat (↑k : Int)) (@default Rec instInhabitedRec)).prod != (List.getD a (Int.toNat (↑k : Int)) (@default Rec instInhabitedRec)).prod) = false → (true && decide ((↑k : Int) < (↑(List.length a) : Int))) = true ∧ (true && decide ((↑k : Int) < (↑(List.length a) : Int))) = true ∧ (((List.getD a (Int.toNat (↑k : Int)) (@default Rec instInhabitedRec)).seq != (List.getD a (Int.toNat (↑k : Int)) (@default Rec instInhabitedRec)).seq) = true → False) ∧ (((List.getD a (Int.toNat (↑k : Int)) (@default Rec instInhabitedRec)).seq != (List.getD a (Int.toNat (↑k : Int)) (@default Rec instInhabitedRec)).seq) = false → ∃ (j : Nat), List.length a - j < List.length a - k ∧ (((b1 = b1 ∧ List.length a = List.length a ∧ contLe (List.length a) (5 : Nat) (cellsOf' encR a) (cellsOf' encR a)) ∧ (b2 = b2 ∧ List.length a = List.length a ∧ contLe (List.length a) (5 : Nat) (cellsOf' encR a) (cellsOf' encR a)) ∧ IntKind.wrap IntKind.i64 ((↑k : Int) + (1 : Int)) = (↑j : Int) ∧ True) ∧ True ∧ true = true) ∧ true = true ∧ () = ())))))) ∧
    (decide ((↑k : Int) < (↑(List.length a) : Int)) = false → True ∧ True ∧ true = true)
set_option maxRecDepth 1000000 in
theorem vcSrL_eq (b1 : Bool) (b2 : Bool) (a : List Rec) (k : Nat) : (loopVC Tryd.prog (hT _) 73 4 (fun k => a.length - k) (sr2T b1 b2 a) (fun _ => []) [0] (fun _ => .ret ()) sr2S k) = vcSrL b1 b2 a k := by kernel_rfl
noncomputable def sr2H (b1 b2 : Bool) (a : List Rec) : HintsT Tryd.prog := hh _ (lp1 73 4 (jobOf (sr2T b1 b2 a) (fun _ => []) [0] (fun _ => .ret ()) sr2S 0) noLp) noCs noOp
def vcSrr (b1 : Bool) (b2 : Bool) (a : List Rec) : Prop :=
  (((↑(List.length a) : Int) != (↑(List.length a) : Int)) = true → false = true ∧ True) ∧ (((↑(List.length a) : Int) != (↑(List.length a) : Int)) = false → (((b1 = b1 ∧ List.length a = List.length a ∧ contLe (List.length a) (5 : Nat) (cellsOf' encR a) (cellsOf' encR a)) ∧ (b2 = b2 ∧ List.length a = List.length a ∧ contLe (List.length a) (5 : Nat) (cellsOf' encR a) (cellsOf' encR a)) ∧ (0 : Int) = (0 : Int) ∧ True) ∧ True ∧ true = true) ∧ LoopOk Tryd.prog (73 : Nat) (4 : Nat) (loopAt Tryd.prog (73 : Nat) (4 : Nat)) { t := sr2T b1 b2 a (0 : Nat), m := [], mv := [] : St } (T.map (lout [(0 : Nat)] sr2S) ((fun (x : Nat) => T.ret ()) (0 : Nat))) ∧ true = true ∧ True)
set_option maxRecDepth 1000000 in
theorem vcSrr_eq (b1 : Bool) (b2 : Bool) (a : List Rec) : (ctrVC Tryd.prog (sr2H b1 b2 a) 73 [encRs b1 a, encRs b2 a] [] (boolR true)) = vcSrr b1 b2 a := by kernel_rfl
theorem sr2_loop (b1 b2 : Bool) (a : List Rec) (hl : a.length ≤ 9223372036854775806) (k : Nat) : LoopOk Tryd.prog 73 4 (loopAt Tryd.prog 73 4) ⟨sr2T b1 b2 a k, [], []⟩ (T.map (lout [0] sr2S) (.ret ())) := by
  refine loop_vc (o := fun _ => .ret ()) Tryd.mixed (fun _ => rfl) (fun k => (vcSrL_eq b1 b2 a k).mpr ?_) k
  unfold vcSrL
  simp
  intro h
  have hb : ∀ q : Nat, isU8 (cellsOf' encB (a[k]?.getD default).val q 0) = true := fun _ => rfl
  simp [h, hb]
  exact ⟨k + 1, by omega, by rw [wrap_i64 (by omega) (by omega)]; omega⟩
theorem sr2_c (b1 b2 : Bool) (a : List Rec) (hl : a.length ≤ 9223372036854775806) : (boolR true).Sat (ACall' Tryd.prog 73 [encRs b1 a, encRs b2 a] []) := by
  refine ctr_vc (ht := sr2H b1 b2 a) Tryd.mixed rfl ?_
  rw [vcSrr_eq b1 b2 a]
  unfold vcSrr
  simp [sr2_loop b1 b2 a hl 0]
noncomputable def sr2C (b1 b2 : Bool) (a b : List Rec) : Ctr Tryd.prog := ⟨73, [encRs b1 a, encRs b2 b], [], .need (a.length ≤ 9223372036854775806 ∧ a = b) (boolR true), T.Sat.need fun h => by obtain ⟨h1, rfl⟩ := h; exact sr2_c b1 b2 a h1⟩
/-! shards -/
structure ShIn (s : Shd) : Prop where
  n : s.nodes.length ≤ 9223372036854775806
  p : s.past.length ≤ 9223372036854775806
def ss2T (b1 b2 : Bool) (a : List Shd) (k : Nat) : List AV := mkT 99 [(0, encShs b1 a), (1, encShs b2 a), (5, .y (.int .i64 k))]
def ss2S (_ : Unit) : Exit × List AV × List Blk := (.exit 0, mkT 99 [], [])
noncomputable def ss2H (s : Shd) : HintsT Tryd.prog := hh _ noLp (cs1 24 6 10 (iqC true true s.nodes s.nodes) (cs1 24 7 10 (iqC true true s.past s.past) noCs)) noOp
def vcSsL (b1 : Bool) (b2 : Bool) (a : List Shd) (k : Nat) : Prop :=
  (decide ((↑k : Int) < (↑(List.length a) : Int)) = true → (true && decide ((↑k : Int) < (↑(List.length a) : Int))) = true ∧ (true && decide ((↑k : Int) < (↑(List.length a) : Int))) = true ∧ ((true = true ∧ List.length (List.getD a (Int.toNat (↑k : Int)) (@default Shd instInhabitedShd)).nodes = List.length (Option.getD a[k]? (@default Shd instInhabitedShd)).nodes ∧ contLe (List.length (List.getD a (Int.toNat (↑k : Int)) (@default Shd instInhabitedShd)).nodes) (1 : Nat) (cellsOf' encI (List.getD a (Int.toNat (↑k : Int)) (@default Shd instInhabitedShd)).nodes) (cellsOf' encI (Option.getD a[k]? (@default Shd instInhabitedShd)).nodes)) ∧ (true = true ∧ List.length (List.getD a (Int.toNat (↑k : Int)) (@default Shd instInhabitedShd)).nodes = List.length (Option.getD a[k]? (@default Shd instInhabitedShd)).nodes ∧ contLe (List.length (List.getD a (Int.toNat (↑k : Int)) (@default Shd instInhabitedShd)).nodes) (1 : Nat) (cellsOf' encI (List.getD a (Int.toNat (↑k : Int)) (@default Shd instInhabitedShd)).nodes) (cellsOf' encI (Option.getD a[k]? (@default Shd instInhabitedShd)).nodes)) ∧ True) ∧ True ∧ (List.length (Option.getD a[k]? (@default Shd instInhabitedShd)).nodes ≤ (9223372036854775806 : Nat) ∧ (Option.getD a[k]? (@default Shd instInhabitedShd)).nodes = (Option.getD a[k]? (@default Shd instInhabitedShd)).nodes) ∧ (true && decide ((↑k : Int) < (↑(List.length a) : Int))) = true ∧ (true && decide ((↑k : Int) < (↑(List.length a) : Int))) = true ∧ ((true = true ∧ List.length (List.getD a (Int.toNat (↑k : Int)) (@default Shd instInhabitedShd)).past = List.length (Option.getD a[k]? (@default Shd instInhabitedShd)).past ∧ contLe (List.length (List.getD a (Int.toNat (↑k : Int)) (@default Shd instInhabitedShd)).past) (1 : Nat) (cellsOf' encI (List.getD a (Int.toNat (↑k : Int)) (@default Shd instInhabitedShd)).past) (cellsOf' encI (Option.getD a[k]? (@default Shd instInhabitedShd)).past)) ∧ (true = true ∧ List.length (List.getD a (Int.toNat (↑k : Int)) (@default Shd instInhabitedShd)).past = List.length (Option.getD a[k]? (@default Shd instInhabitedShd)).past ∧ contLe (List.length (List.getD a (Int.toNat (↑k : Int)) (@default Shd instInhabitedShd)).past) (1 : Nat) (cellsOf' encI (List.getD a (Int.toNat (↑k : Int)) (@default Shd instInhabitedShd)).past) (cellsOf' encI (Option.getD a[k]? (@default Shd instInhabitedShd)).past)) ∧ True) ∧ True ∧ (List.length (Option.getD a[k]? (@default Shd instInhabitedShd)).past ≤ (9223372036854775806 : Nat) ∧ (Option.getD a[k]? (@default Shd instInhabitedShd)).past = (Option.getD a[k]? (@default Shd instInhabitedShd)).past) ∧ (false = true → False) ∧ (false = false → (false = true → False) ∧ (false = false → (true && decide ((↑k : Int) < (↑(List.length a) : Int))) = true ∧ (true && decide ((↑k : Int) < (↑(List.length a) : Int))) = true ∧ (((List.getD a (Int.toNat (↑k : Int)) (@default Shd instInhabitedShd)).group != (List.getD a (Int.toNat (↑k : Int)) (@default Shd instInhabitedShd)).group) = true → False) ∧ (((List.getD a (Int.toNat (↑k : Int)) (@default Shd instInhabitedShd)).group != (List.getD a (Int.toNat (↑k : Int)) (@default Shd instInhabitedShd)).group) = false → (true && decide ((↑k : Int) < (↑(List.length a) : Int))) = true ∧ (true && decide ((↑k : Int) < (↑(List.length a) : Int))) = true ∧ ((!((List.getD a (Int.toNat (↑k : Int)) (@default Shd instInhabitedShd)).rng.lo.data.toList == (List.getD a (Int.toNat (↑k : Int)) (@default Shd instInhabitedShd)).rng.lo.data.toList && ((List.getD a (Int.toNat (↑k : Int)) (@default Shd instInhabitedShd)).rng.hi.data.toList == (List.getD a (Int.toNat (↑k : Int)) (@default Shd instInhabitedShd)).rng.hi.data.toList && true))) = true → False) ∧ ((!((List.getD a (Int.toNat (↑k : Int)) (@default Shd instInhabitedShd)).rng.lo.data.toList == (List.getD a (Int.toNat (↑k : Int)) (@default Shd instInhabitedShd)).rng.lo.data.toList && ((List.getD a (Int.toNat (↑k : Int)) (@default Shd instInhabitedShd)).rng.hi.data.toList == (List.getD a (Int.toNat (↑k : Int)) (@default Shd instInhabitedShd)).rng.hi.data.toList && true))) = false → (true && decide ((↑k : Int) < (↑(List.length a) : Int))) = true ∧ (true && decide ((↑k : Int) < (↑(List.length a) : Int))) = true ∧ (((List.getD a (Int.toNat (↑k : Int)) (@default Shd instInhabitedShd)).epoch != (List.getD a (Int.toNat (↑k : Int)) (@default Shd instInhabitedShd)).epoch) = true → False) ∧ (((List.getD a (Int.toNat (↑k : Int)) (@default Shd instInhabitedShd)).epoch != (List.getD a (Int.toNat (↑k : Int)) (@default Shd instInhabitedShd)).epoch) = false → (true && decide ((↑k : Int) < (↑(List.length a) : Int))) = true ∧ (true && decide ((↑k : Int) < (↑(List.length a) : Int))) = true ∧ (((List.getD a (Int.toNat (↑k : Int)) (@default Shd instInhabitedShd)).plan != (List.getD a (Int.toNat (↑k : Int)) (@default Shd instInhabitedShd)).plan) = true → False) ∧ (((List.getD a (Int.toNat (↑k : Int)) (@default Shd instInhabitedShd)).plan != (List.getD a (Int.toNat (↑k : Int)) (@default Shd instInhabitedShd)).plan) = false → ∃ (j : Nat), List.length a - j < List.length a - k ∧ (((b1 = b1 ∧ List.length a = List.length a ∧ contLe (List.length a) (7 : Nat) (cellsOf' encSh a) (cellsOf' encSh a)) ∧ (b2 = b2 ∧ List.length a = List.length a ∧ contLe (List.length a) (7 : Nat) (cellsOf' encSh a) (cellsOf' encSh a)) ∧ IntKind.wrap IntKind.i64 ((↑k : Int) + (1 : Int)) = (↑j : Int) ∧ True) ∧ True ∧ true = true) ∧ true = true ∧ () = ()))))))) ∧ (decide ((↑k : Int) < (↑(List.length a) : Int)) = false → True ∧ True ∧ true = true)
set_option maxRecDepth 1000000 in
theorem vcSsL_eq (b1 : Bool) (b2 : Bool) (a : List Shd) (k : Nat) : (loopVC Tryd.prog (ss2H (a[k]?.getD default)) 24 4 (fun k => a.length - k) (ss2T b1 b2 a) (fun _ => []) [0] (fun _ => .ret ()) ss2S k) = vcSsL b1 b2 a k := by kernel_rfl
noncomputable def ss3H (b1 b2 : Bool) (a : List Shd) : HintsT Tryd.prog := hh _ (lp1 24 4 (jobOf (ss2T b1 b2 a) (fun _ => []) [0] (fun _ => .ret ()) ss2S 0) noLp) noCs noOp
def vcSss (b1 : Bool) (b2 : Bool) (a : List Shd) : Prop :=
  (((↑(List.length a) : Int) != (↑(List.length a) : Int)) = true → false = true ∧ True) ∧ (((↑(List.length a) : Int) != (↑(List.length a) : Int)) = false → (((b1 = b1 ∧ List.length a = List.length a ∧ contLe (List.length a) (7 : Nat) (cellsOf' encSh a) (cellsOf' encSh a)) ∧ (b2 = b2 ∧ List.length a = List.length a ∧ contLe (List.length a) (7 : Nat) (cellsOf' encSh a) (cellsOf' encSh a)) ∧ (0 : Int) = (0 : Int) ∧ True) ∧ True ∧ true = true) ∧ LoopOk Tryd.prog (24 : Nat) (4 : Nat) (loopAt Tryd.prog (24 : Nat) (4 : Nat)) { t := ss2T b1 b2 a (0 : Nat), m := [], mv := [] : St } (T.map (lout [(0 : Nat)] ss2S) ((fun (x : Nat) => T.ret ()) (0 : Nat))) ∧ true = true ∧ True)
set_option maxRecDepth 1000000 in
theorem vcSss_eq (b1 : Bool) (b2 : Bool) (a : List Shd) : (ctrVC Tryd.prog (ss3H b1 b2 a) 24 [encShs b1 a, encShs b2 a] [] (boolR true)) = vcSss b1 b2 a := by kernel_rfl
theorem ss2_loop (b1 b2 : Bool) (a : List Shd) (hl : a.length ≤ 9223372036854775806) (hs : ∀ x ∈ a, ShIn x) (k : Nat) : LoopOk Tryd.prog 24 4 (loopAt Tryd.prog 24 4) ⟨ss2T b1 b2 a k, [], []⟩ (T.map (lout [0] ss2S) (.ret ())) := by
  refine loop_vcH (ht := fun k => ss2H (a[k]?.getD default)) (o := fun _ => .ret ()) Tryd.mixed (fun _ => rfl) (fun k => (vcSsL_eq b1 b2 a k).mpr ?_) k
  unfold vcSsL
  simp
  intro h
  have hx := hs (a[k]'h) (List.getElem_mem h)
  have e : a[k]?.getD default = a[k]'h := by simp [h]
  rw [e]
  simp [h, hx.n, hx.p]
  exact ⟨k + 1, by omega, by rw [wrap_i64 (by omega) (by omega)]; omega⟩
theorem ss2_c (b1 b2 : Bool) (a : List Shd) (hl : a.length ≤ 9223372036854775806) (hs : ∀ x ∈ a, ShIn x) : (boolR true).Sat (ACall' Tryd.prog 24 [encShs b1 a, encShs b2 a] []) := by
  refine ctr_vc (ht := ss3H b1 b2 a) Tryd.mixed rfl ?_
  rw [vcSss_eq b1 b2 a]
  unfold vcSss
  simp [ss2_loop b1 b2 a hl hs 0]
structure ShsIn (a b : List Shd) : Prop where
  l : a.length ≤ 9223372036854775806
  s : ∀ x ∈ a, ShIn x
  e : a = b
noncomputable def ss2C (b1 b2 : Bool) (a b : List Shd) : Ctr Tryd.prog := ⟨24, [encShs b1 a, encShs b2 b], [], .need (ShsIn a b) (boolR true), T.Sat.need fun h => by obtain ⟨h1, h2, rfl⟩ := h; exact ss2_c b1 b2 a h1 h2⟩
/-! replies -/
def encRR (r : Rep) : List AV := [.y (.int .i64 r.rerr), .y (.int .u64 r.roff), .y (.bool r.rold), encRs true r.recs]
noncomputable def rrH (r : Rep) : HintsT Tryd.prog := hh _ noLp (cs1 45 1 4 (sr2C true true r.recs r.recs) noCs) noOp
def vcRr (r : Rep) : Prop :=
  ((true = true ∧ List.length r.recs = List.length r.recs ∧ contLe (List.length r.recs) (5 : Nat) (cellsOf' encR r.recs) (cellsOf' encR r.recs)) ∧ (true = true ∧ List.length r.recs = List.length r.recs ∧ contLe (List.length r.recs) (5 : Nat) (cellsOf' encR r.recs) (cellsOf' encR r.recs)) ∧ True) ∧ True ∧ (List.length r.recs ≤ (9223372036854775806 : Nat) ∧ r.recs = r.recs) ∧ (true = true → ((r.rerr == r.rerr) = true → ((r.roff == r.roff) = true → (r.rold == r.rold) = true ∧ True) ∧ ((r.roff == r.roff) = false → false = true ∧ True)) ∧ ((r.rerr == r.rerr) = false → false = true ∧ True)) ∧ (true = false → false = true ∧ True)
set_option maxRecDepth 1000000 in
theorem vcRr_eq (r : Rep) : (ctrVC Tryd.prog (rrH r) 45 [.agg (encRR r), .agg (encRR r)] [] (boolR true)) = vcRr r := by kernel_rfl
theorem rr_c (r : Rep) (h : r.recs.length ≤ 9223372036854775806) : (boolR true).Sat (ACall' Tryd.prog 45 [.agg (encRR r), .agg (encRR r)] []) := by
  refine ctr_vc (ht := rrH r) Tryd.mixed rfl ?_
  rw [vcRr_eq r]
  unfold vcRr
  simp [h]
noncomputable def rrC (r : Rep) : Ctr Tryd.prog := ⟨45, [.agg (encRR r), .agg (encRR r)], [], .need (r.recs.length ≤ 9223372036854775806) (boolR true), T.Sat.need fun h => rr_c r h⟩
structure RepIn (r : Rep) : Prop where
  n : r.recs.length ≤ 9223372036854775806
  s : ShsIn r.shards r.shards
noncomputable def sp2H (r : Rep) : HintsT Tryd.prog := hh _ noLp (cs1 30 1 4 (rrC r) (cs1 30 2 4 (ss2C true true r.shards r.shards) noCs)) noOp
def vcSp2 (r : Rep) : Prop :=
  ((r.rerr = r.rerr ∧ r.roff = r.roff ∧ r.rold = r.rold ∧ (true = true ∧ List.length r.recs = List.length r.recs ∧ contLe (List.length r.recs) (5 : Nat) (cellsOf' encR r.recs) (cellsOf' encR r.recs)) ∧ True) ∧ (r.rerr = r.rerr ∧ r.roff = r.roff ∧ r.rold = r.rold ∧ (true = true ∧ List.length r.recs = List.length r.recs ∧ contLe (List.length r.recs) (5 : Nat) (cellsOf' encR r.recs) (cellsOf' encR r.recs)) ∧ True) ∧ True) ∧ True ∧ List.length r.recs ≤ (9223372036854775806 : Nat) ∧ ((true = true ∧ List.length r.shards = List.length r.shards ∧ contLe (List.length r.shards) (7 : Nat) (cellsOf' encSh r.shards) (cellsOf' encSh r.shards)) ∧ (true = true ∧ List.length r.shards = List.length r.shards ∧ contLe (List.length r.shards) (7 : Nat) (cellsOf' encSh r.shards) (cellsOf' encSh r.shards)) ∧ True) ∧ True ∧ ShsIn r.shards r.shards ∧ (true = true → (true = true → ((r.id == r.id) = true → ((r.err == r.err) = true → ((r.leader == r.leader) = true → ((r.number == r.number) = true → ((r.group == r.group) = true → ((r.index == r.index) = true → (r.term == r.term) = true ∧ True) ∧ ((r.index == r.index) = false → false = true ∧ True)) ∧ ((r.group == r.group) = false → false = true ∧ True)) ∧ ((r.number == r.number) = false → false = true ∧ True)) ∧ ((r.leader == r.leader) = false → false = true ∧ True)) ∧ ((r.err == r.err) = false → false = true ∧ True)) ∧ ((r.id == r.id) = false → false = true ∧ True)) ∧ (true = false → false = true ∧ True)) ∧ (true = false → false = true ∧ True)
set_option maxRecDepth 1000000 in
theorem vcSp2_eq (r : Rep) : (ctrVC Tryd.prog (sp2H r) 30 [.agg (encRp r), .agg (encRp r)] [] (boolR true)) = vcSp2 r := by kernel_rfl
theorem sp2_c (r : Rep) (h : RepIn r) : (boolR true).Sat (ACall' Tryd.prog 30 [.agg (encRp r), .agg (encRp r)] []) := by
  refine ctr_vc (ht := sp2H r) Tryd.mixed rfl ?_
  rw [vcSp2_eq r]
  unfold vcSp2
  simp [h.n, h.s]
noncomputable def sp2C (r : Rep) : Ctr Tryd.prog := ⟨30, [.agg (encRp r), .agg (encRp r)], [], .need (RepIn r) (boolR true), T.Sat.need fun h => sp2_c r h⟩
noncomputable def sp1H (r : Rep) : HintsT Tryd.prog := hh _ noLp (cs1 15 1 2 (sp2C r) noCs) noOp
def vcSp1 (r : Rep) : Prop :=
  ((r.id = r.id ∧ r.err = r.err ∧ r.leader = r.leader ∧ r.rerr = r.rerr ∧ r.roff = r.roff ∧ r.rold = r.rold ∧ (true = true ∧ List.length r.recs = List.length r.recs ∧ contLe (List.length r.recs) (5 : Nat) (cellsOf' encR r.recs) (cellsOf' encR r.recs)) ∧ r.number = r.number ∧ (true = true ∧ List.length r.shards = List.length r.shards ∧ contLe (List.length r.shards) (7 : Nat) (cellsOf' encSh r.shards) (cellsOf' encSh r.shards)) ∧ r.group = r.group ∧ r.index = r.index ∧ r.term = r.term ∧ True) ∧ (r.id = r.id ∧ r.err = r.err ∧ r.leader = r.leader ∧ r.rerr = r.rerr ∧ r.roff = r.roff ∧ r.rold = r.rold ∧ (true = true ∧ List.length r.recs = List.length r.recs ∧ contLe (List.length r.recs) (5 : Nat) (cellsOf' encR r.recs) (cellsOf' encR r.recs)) ∧ r.number = r.number ∧ (true = true ∧ List.length r.shards = List.length r.shards ∧ contLe (List.length r.shards) (7 : Nat) (cellsOf' encSh r.shards) (cellsOf' encSh r.shards)) ∧ r.group = r.group ∧ r.index = r.index ∧ r.term = r.term ∧ True) ∧ True) ∧ True ∧ RepIn r ∧ true = true ∧ True
set_option maxRecDepth 1000000 in
theorem vcSp1_eq (r : Rep) : (ctrVC Tryd.prog (sp1H r) 15 [.agg (encRp r), .agg (encRp r)] [] (boolR true)) = vcSp1 r := by kernel_rfl
theorem sp1_c (r : Rep) (h : RepIn r) : (boolR true).Sat (ACall' Tryd.prog 15 [.agg (encRp r), .agg (encRp r)] []) := by
  refine ctr_vc (ht := sp1H r) Tryd.mixed rfl ?_
  rw [vcSp1_eq r]
  unfold vcSp1
  simp [h]
structure RepEq (q r : Rep) : Prop where
  i : RepIn r
  e : q = r
/-- the reply that was handed on and the reply itself -/
noncomputable def spC (q r : Rep) : Ctr Tryd.prog := ⟨15, [.agg (encRp q), .agg (encRp r)], [], .need (RepEq q r) (boolR true), T.Sat.need fun h => by obtain ⟨h1, rfl⟩ := h; exact sp1_c q h1⟩
end Go.Proofs.YtdpbogaldcpfeaaDoor.C

/-! A client finds the shard: the conditions. -/
namespace Go.Proofs.YtdpbogaldcpfeaaDoor.C
open Go.Ax
set_option maxRecDepth 1000000
structure Fnd where
  k : Cal
  l : List Shd
  r : Rep
  y1 : Nod
  e1 : Int
  r1 : Rep
  y2 : Nod
  r2 : Rep
  y3 : Nod
theorem h90 : (9 : Int) ≠ 0 := by decide
/-- the first of the last `n` shards that has the key -/
def atQ' (key : ByteArray) (l : List Shd) (n : Nat) : Nat → Int
  | 0 => -1
  | k + 1 => if hasK (l.getD (n - (k + 1)) default).rng key = true then ((n - (k + 1) : Nat) : Int) else atQ' key l n k
noncomputable def fsT (o : Fnd) (a : Int) (k : { k : Nat // k ≤ o.l.length }) : List AV := mkT 176 [(1, encShs true o.l), (3, .ptr 0 0 0 0), (5, .ptr 1 0 0 0), (8, .ptr 3 0 0 0), (10, .ptr 6 0 0 0), (12, .y (.int .i64 a)), (13, .y (.int .i64 ((o.l.length - k.1 : Nat) - 1 : Int)))]
noncomputable def fsM (o : Fnd) : List Blk := [.box 33 (encCl o.k), .box 52 (encRp o.r), .dead, .box 35 (encCt (.own 7 2 0 o.y2.c.topics.length) (.own 8 2 0 o.y2.c.leaders.length) o.y2.c), .dead, .dead, .box 54 (encOu o.y2.o), rwT o.y2.c.topics, rwS o.y2.c.leaders]
noncomputable def fsS (o : Fnd) (a : Int) (_ : Unit) : Exit × List AV × List Blk := (.exit 0, mkT 176 [(1, encShs true o.l), (3, .ptr 0 0 0 0), (5, .ptr 1 0 0 0), (8, .ptr 3 0 0 0), (10, .ptr 6 0 0 0), (12, .y (.int .i64 a))], fsM o)
noncomputable def fsLH (o : Fnd) (s : Shd) : HintsT Tryd.prog := hh _ noLp (cs1 6 13 7 (has2C s.rng o.k.key) noCs) noOp
def vcFnL_q1 (o : Fnd) : Prop := ((o.k.kind = o.k.kind ∧ o.k.topic = o.k.topic ∧ o.k.key = o.k.key ∧ (true = true ∧ List.length o.k.val = List.length o.k.val ∧ contLe (List.length o.k.val) (1 : Nat) (cellsOf' encB o.k.val) (cellsOf' encB o.k.val)) ∧ o.k.off = o.k.off ∧ o.k.most = o.k.most ∧ o.k.name = o.k.name ∧ o.k.adm.kind = o.k.adm.kind ∧ o.k.adm.prod = o.k.adm.prod ∧ o.k.adm.seq = o.k.adm.seq ∧ o.k.adm.topic = o.k.adm.topic ∧ (true = true ∧ List.length o.k.adm.nodes = List.length o.k.adm.nodes ∧ contLe (List.length o.k.adm.nodes) (1 : Nat) (cellsOf' encI o.k.adm.nodes) (cellsOf' encI o.k.adm.nodes)) ∧ o.k.adm.group = o.k.adm.group ∧ o.k.adm.other = o.k.adm.other ∧ o.k.adm.key = o.k.adm.key ∧ o.k.adm.fr = o.k.adm.fr ∧ o.k.adm.to = o.k.adm.to ∧ o.k.adm.plan = o.k.adm.plan ∧ o.k.adm.step = o.k.adm.step ∧ True) ∧ (o.r.id = o.r.id ∧ o.r.err = o.r.err ∧ o.r.leader = o.r.leader ∧ o.r.rerr = o.r.rerr ∧ o.r.roff = o.r.roff ∧ o.r.rold = o.r.rold ∧ (true = true ∧ List.length o.r.recs = List.length o.r.recs ∧ contLe (List.length o.r.recs) (5 : Nat) (cellsOf' encR o.r.recs) (cellsOf' encR o.r.recs)) ∧ o.r.number = o.r.number ∧ (true = true ∧ List.length o.r.shards = List.length o.r.shards ∧ contLe (List.length o.r.shards) (7 : Nat) (cellsOf' encSh o.r.shards) (cellsOf' encSh o.r.shards)) ∧ o.r.group = o.r.group ∧ o.r.index = o.r.index ∧ o.r.term = o.r.term ∧ True) ∧ (o.y2.c.id = o.y2.c.id ∧ (true = true ∧ List.length o.y2.c.servers = List.length o.y2.c.servers ∧ contLe (List.length o.y2.c.servers) (1 : Nat) (cellsOf' encI o.y2.c.servers) (cellsOf' encI o.y2.c.servers)) ∧ o.y2.c.prod = o.y2.c.prod ∧ o.y2.c.seq = o.y2.c.seq ∧ ((0 : Nat) = (0 : Nat) ∧ List.length o.y2.c.topics = List.length o.y2.c.topics) ∧ ((0 : Nat) = (0 : Nat) ∧ List.length o.y2.c.leaders = List.length o.y2.c.leaders) ∧ o.y2.c.busy = o.y2.c.busy ∧ o.y2.c.call.kind = o.y2.c.call.kind ∧ o.y2.c.call.topic = o.y2.c.call.topic ∧ o.y2.c.call.key = o.y2.c.call.key ∧ (true = true ∧ List.length o.y2.c.call.val = List.length o.y2.c.call.val ∧ contLe (List.length o.y2.c.call.val) (1 : Nat) (cellsOf' encB o.y2.c.call.val) (cellsOf' encB o.y2.c.call.val)) ∧ o.y2.c.call.off = o.y2.c.call.off ∧ o.y2.c.call.most = o.y2.c.call.most ∧ o.y2.c.call.name = o.y2.c.call.name ∧ o.y2.c.call.adm.kind = o.y2.c.call.adm.kind ∧ o.y2.c.call.adm.prod = o.y2.c.call.adm.prod ∧ o.y2.c.call.adm.seq = o.y2.c.call.adm.seq ∧ o.y2.c.call.adm.topic = o.y2.c.call.adm.topic ∧ (true = true ∧ List.length o.y2.c.call.adm.nodes = List.length o.y2.c.call.adm.nodes ∧ contLe (List.length o.y2.c.call.adm.nodes) (1 : Nat) (cellsOf' encI o.y2.c.call.adm.nodes) (cellsOf' encI o.y2.c.call.adm.nodes)) ∧ o.y2.c.call.adm.group = o.y2.c.call.adm.group ∧ o.y2.c.call.adm.other = o.y2.c.call.adm.other ∧ o.y2.c.call.adm.key = o.y2.c.call.adm.key ∧ o.y2.c.call.adm.fr = o.y2.c.call.adm.fr ∧ o.y2.c.call.adm.to = o.y2.c.call.adm.to ∧ o.y2.c.call.adm.plan = o.y2.c.call.adm.plan ∧ o.y2.c.call.adm.step = o.y2.c.call.adm.step ∧ o.y2.c.number = o.y2.c.number ∧ o.y2.c.route = o.y2.c.route ∧ o.y2.c.group = o.y2.c.group ∧ o.y2.c.tries = o.y2.c.tries ∧ o.y2.c.waited = o.y2.c.waited ∧ o.y2.c.again = o.y2.c.again ∧ o.y2.c.at' = o.y2.c.at' ∧ True) ∧ (o.y2.o.send = o.y2.o.send ∧ o.y2.o.to = o.y2.o.to ∧ o.y2.o.req.id = o.y2.o.req.id ∧ o.y2.o.req.kind = o.y2.o.req.kind ∧ o.y2.o.req.group = o.y2.o.req.group ∧ o.y2.o.req.part.kind = o.y2.o.req.part.kind ∧ o.y2.o.req.part.epoch = o.y2.o.req.part.epoch ∧ o.y2.o.req.part.prod = o.y2.o.req.part.prod ∧ o.y2.o.req.part.seq = o.y2.o.req.part.seq ∧ o.y2.o.req.part.key = o.y2.o.req.part.key ∧ (true = true ∧ List.length o.y2.o.req.part.val = List.length o.y2.o.req.part.val ∧ contLe (List.length o.y2.o.req.part.val) (1 : Nat) (cellsOf' encB o.y2.o.req.part.val) (cellsOf' encB o.y2.o.req.part.val)) ∧ o.y2.o.req.part.off = o.y2.o.req.part.off ∧ o.y2.o.req.part.most = o.y2.o.req.part.most ∧ o.y2.o.req.part.name = o.y2.o.req.part.name ∧ o.y2.o.req.part.plan = o.y2.o.req.part.plan ∧ o.y2.o.req.adm.kind = o.y2.o.req.adm.kind ∧ o.y2.o.req.adm.prod = o.y2.o.req.adm.prod ∧ o.y2.o.req.adm.seq = o.y2.o.req.adm.seq ∧ o.y2.o.req.adm.topic = o.y2.o.req.adm.topic ∧ (true = true ∧ List.length o.y2.o.req.adm.nodes = List.length o.y2.o.req.adm.nodes ∧ contLe (List.length o.y2.o.req.adm.nodes) (1 : Nat) (cellsOf' encI o.y2.o.req.adm.nodes) (cellsOf' encI o.y2.o.req.adm.nodes)) ∧ o.y2.o.req.adm.group = o.y2.o.req.adm.group ∧ o.y2.o.req.adm.other = o.y2.o.req.adm.other ∧ o.y2.o.req.adm.key = o.y2.o.req.adm.key ∧ o.y2.o.req.adm.fr = o.y2.o.req.adm.fr ∧ o.y2.o.req.adm.to = o.y2.o.req.adm.to ∧ o.y2.o.req.adm.plan = o.y2.o.req.adm.plan ∧ o.y2.o.req.adm.step = o.y2.o.req.adm.step ∧ o.y2.o.req.topic = o.y2.o.req.topic ∧ o.y2.o.done = o.y2.o.done ∧ o.y2.o.rep.id = o.y2.o.rep.id ∧ o.y2.o.rep.err = o.y2.o.rep.err ∧ o.y2.o.rep.leader = o.y2.o.rep.leader ∧ o.y2.o.rep.rerr = o.y2.o.rep.rerr ∧ o.y2.o.rep.roff = o.y2.o.rep.roff ∧ o.y2.o.rep.rold = o.y2.o.rep.rold ∧ (true = true ∧ List.length o.y2.o.rep.recs = List.length o.y2.o.rep.recs ∧ contLe (List.length o.y2.o.rep.recs) (5 : Nat) (cellsOf' encR o.y2.o.rep.recs) (cellsOf' encR o.y2.o.rep.recs)) ∧ o.y2.o.rep.number = o.y2.o.rep.number ∧ (true = true ∧ List.length o.y2.o.rep.shards = List.length o.y2.o.rep.shards ∧ contLe (List.length o.y2.o.rep.shards) (7 : Nat) (cellsOf' encSh o.y2.o.rep.shards) (cellsOf' encSh o.y2.o.rep.shards)) ∧ o.y2.o.rep.group = o.y2.o.rep.group ∧ o.y2.o.rep.index = o.y2.o.rep.index ∧ o.y2.o.rep.term = o.y2.o.rep.term ∧ True) ∧ (List.length o.y2.c.topics = List.length o.y2.c.topics ∧ contLe (List.length o.y2.c.topics) (2 : Nat) (cellsOf' encTp o.y2.c.topics) (cellsOf' encTp o.y2.c.topics)) ∧ (List.length o.y2.c.leaders = List.length o.y2.c.leaders ∧ contLe (List.length o.y2.c.leaders) (2 : Nat) (cellsOf' encSi o.y2.c.leaders) (cellsOf' encSi o.y2.c.leaders)) ∧ True)
def vcFnL (o : Fnd) (s : Shd) (a : Int) (f : Nat → Int) (k : { k : Nat // k ≤ o.l.length }) : Prop :=
  (decide ((0 : Int) ≤ (↑(List.length o.l - k.val) : Int) - (1 : Int)) = true → (decide ((0 : Int) ≤ (↑(List.length o.l - k.val) : Int) - (1 : Int)) && decide ((↑(List.length o.l - k.val) : Int) - (1 : Int) < (↑(List.length o.l) : Int))) = true ∧ (((List.getD o.l (Int.toNat ((↑(List.length o.l - k.val) : Int) - (1 : Int))) (@default Shd instInhabitedShd)).rng.lo = s.rng.lo ∧ (List.getD o.l (Int.toNat ((↑(List.length o.l - k.val) : Int) - (1 : Int))) (@default Shd instInhabitedShd)).rng.hi = s.rng.hi ∧ True) ∧ o.k.key = o.k.key ∧ True) ∧ True ∧ (hasK s.rng o.k.key = true → ∃ (j : { k : Nat // k ≤ List.length o.l }), List.length o.l - j.val < List.length o.l - k.val ∧ (((true = true ∧ List.length o.l = List.length o.l ∧ contLe (List.length o.l) (7 : Nat) (cellsOf' encSh o.l) (cellsOf' encSh o.l)) ∧ ((0 : Nat) = (0 : Nat) ∧ (0 : Nat) = (0 : Nat)) ∧ ((0 : Nat) = (0 : Nat) ∧ (0 : Nat) = (0 : Nat)) ∧ ((0 : Nat) = (0 : Nat) ∧ (0 : Nat) = (0 : Nat)) ∧ ((0 : Nat) = (0 : Nat) ∧ (0 : Nat) = (0 : Nat)) ∧ (↑(List.length o.l - k.val) : Int) - (1 : Int) = f j.val ∧ IntKind.wrap IntKind.i64 ((↑(List.length o.l - k.val) : Int) - (1 : Int) - (1 : Int)) = (↑(List.length o.l - j.val) : Int) - (1 : Int) ∧ True) ∧ (vcFnL_q1 o) ∧ true = true) ∧ true = true ∧ () = ()) ∧ (hasK s.rng o.k.key = false → ∃ (j : { k : Nat // k ≤ List.length o.l }), List.length o.l - j.val < List.length o.l - k.val ∧ (((true = true ∧ List.length o.l = List.length o.l ∧ contLe (List.length o.l) (7 : Nat) (cellsOf' encSh o.l) (cellsOf' encSh o.l)) ∧ ((0 : Nat) = (0 : Nat) ∧ (0 : Nat) = (0 : Nat)) ∧ ((0 : Nat) = (0 : Nat) ∧ (0 : Nat) = (0 : Nat)) ∧ ((0 : Nat) = (0 : Nat) ∧ (0 : Nat) = (0 : Nat)) ∧ ((0 : Nat) = (0 : Nat) ∧ (0 : Nat) = (0 : Nat)) ∧ f k.val = f j.val ∧ IntKind.wrap IntKind.i64 ((↑(List.length o.l - k.val) : Int) - (1 : Int) - (1 : Int)) = (↑(List.length o.l - j.val) : Int) - (1 : Int) ∧ True) ∧ (vcFnL_q1 o) ∧ true = true) ∧ true = true ∧ () = ())) ∧ (decide ((0 : Int) ≤ (↑(List.length o.l - k.val) : Int) - (1 : Int)) = false → ((true = true ∧ List.length o.l = List.length o.l ∧ contLe (List.length o.l) (7 : Nat) (cellsOf' encSh o.l) (cellsOf' encSh o.l)) ∧ ((0 : Nat) = (0 : Nat) ∧ (0 : Nat) = (0 : Nat)) ∧ ((0 : Nat) = (0 : Nat) ∧ (0 : Nat) = (0 : Nat)) ∧ ((0 : Nat) = (0 : Nat) ∧ (0 : Nat) = (0 : Nat)) ∧ ((0 : Nat) = (0 : Nat) ∧ (0 : Nat) = (0 : Nat)) ∧ f k.val = a ∧ True) ∧ (vcFnL_q1 o) ∧ true = true)
set_option maxRecDepth 1000000 in
theorem vcFnL_eq (o : Fnd) (s : Shd) (a : Int) (f : Nat → Int) (k : { k : Nat // k ≤ o.l.length }) : (loopVC Tryd.prog (fsLH o s) 6 11 (fun k => o.l.length - k.1) (fun k => fsT o (f k.1) k) (fun _ => fsM o) [] (fun _ => .ret ()) (fsS o a) k) = vcFnL o s a f k := by kernel_rfl
noncomputable def fsH (o : Fnd) (a : Int) : HintsT Tryd.prog := hh _ (lp1 6 11 (jobOf (fun k => fsT o (-1) k) (fun _ => fsM o) [] (fun _ => .ret ()) (fsS o a) ⟨0, Nat.zero_le _⟩) noLp) (cs1 6 1 0 hdC (cs1 6 2 1 (newC 9 h90) (cs1 6 3 3 (stAO true (clt0 9) o.k o.y1 o.e1) (cs1 6 8 6 (stRO false o.y1.c o.r1 o.y2) (cs1 6 22 3 (stRO false o.y2.c o.r2 o.y3) (cs1 6 23 16 (spC o.y3.o.rep o.r2) noCs)))))) noOp
def vcFn (o : Fnd) (a : Int) : Prop :=
  True ∧ True ∧ ((4 : Int) = (4 : Int) ∧ (false = false ∧ (3 : Nat) = (3 : Nat) ∧ contLe (3 : Nat) (1 : Nat) (fun (k j : Nat) => Ax.get [AV.s (Value.int IntKind.i64 (1 : Int)), AV.s (Value.int IntKind.i64 (2 : Int)), AV.s (Value.int IntKind.i64 (3 : Int))] (((0 : Nat) + k) * (1 : Nat) + j)) (cellsOf' encI [(1 : Int), (2 : Int), (3 : Int)])) ∧ (9 : Int) = (9 : Int) ∧ True) ∧ True ∧ true = true ∧ True ∧ (((4 : Int) = (4 : Int) ∧ (true = true ∧ (3 : Nat) = (3 : Nat) ∧ contLe (3 : Nat) (1 : Nat) (cellsOf' encI [(1 : Int), (2 : Int), (3 : Int)]) (cellsOf' encI [(1 : Int), (2 : Int), (3 : Int)])) ∧ (9 : Int) = (9 : Int) ∧ (0 : Int) = (0 : Int) ∧ (true = true ∧ (0 : Nat) = (0 : Nat) ∧ contLe (0 : Nat) (2 : Nat) (cellsOf' encTp []) (cellsOf' encTp [])) ∧ (true = true ∧ (0 : Nat) = (0 : Nat) ∧ contLe (0 : Nat) (2 : Nat) (cellsOf' encSi []) (cellsOf' encSi [])) ∧ false = false ∧ (0 : Int) = (0 : Int) ∧ ByteArray.empty = ByteArray.empty ∧ ByteArray.empty = ByteArray.empty ∧ (true = true ∧ (0 : Nat) = (0 : Nat) ∧ contLe (0 : Nat) (1 : Nat) (cellsOf' encB []) (cellsOf' encB [])) ∧ (0 : Int) = (0 : Int) ∧ (0 : Int) = (0 : Int) ∧ ByteArray.empty = ByteArray.empty ∧ (0 : Int) = (0 : Int) ∧ (0 : Int) = (0 : Int) ∧ (0 : Int) = (0 : Int) ∧ ByteArray.empty = ByteArray.empty ∧ (true = true ∧ (0 : Nat) = (0 : Nat) ∧ contLe (0 : Nat) (1 : Nat) (cellsOf' encI []) (cellsOf' encI [])) ∧ (0 : Int) = (0 : Int) ∧ (0 : Int) = (0 : Int) ∧ ByteArray.empty = ByteArray.empty ∧ (0 : Int) = (0 : Int) ∧ (0 : Int) = (0 : Int) ∧ (0 : Int) = (0 : Int) ∧ (0 : Int) = (0 : Int) ∧ (0 : Int) = (0 : Int) ∧ false = false ∧ (0 : Int) = (0 : Int) ∧ (0 : Int) = (0 : Int) ∧ (0 : Int) = (0 : Int) ∧ false = false ∧ (0 : Int) = (0 : Int) ∧ True) ∧ ((1 : Int) = (1 : Int) ∧ o.k.kind = o.k.kind ∧ o.k.topic = o.k.topic ∧ o.k.key = o.k.key ∧ (true = true ∧ List.length o.k.val = List.length o.k.val ∧ contLe (List.length o.k.val) (1 : Nat) (cellsOf' encB o.k.val) (cellsOf' encB o.k.val)) ∧ o.k.off = o.k.off ∧ o.k.most = o.k.most ∧ o.k.name = o.k.name ∧ o.k.adm.kind = o.k.adm.kind ∧ o.k.adm.prod = o.k.adm.prod ∧ o.k.adm.seq = o.k.adm.seq ∧ o.k.adm.topic = o.k.adm.topic ∧ (true = true ∧ List.length o.k.adm.nodes = List.length o.k.adm.nodes ∧ contLe (List.length o.k.adm.nodes) (1 : Nat) (cellsOf' encI o.k.adm.nodes) (cellsOf' encI o.k.adm.nodes)) ∧ o.k.adm.group = o.k.adm.group ∧ o.k.adm.other = o.k.adm.other ∧ o.k.adm.key = o.k.adm.key ∧ o.k.adm.fr = o.k.adm.fr ∧ o.k.adm.to = o.k.adm.to ∧ o.k.adm.plan = o.k.adm.plan ∧ o.k.adm.step = o.k.adm.step ∧ (0 : Int) = (0 : Int) ∧ (0 : Int) = (0 : Int) ∧ (0 : Int) = (0 : Int) ∧ (0 : Int) = (0 : Int) ∧ (0 : Int) = (0 : Int) ∧ false = false ∧ (0 : Nat) = (0 : Nat) ∧ (0 : Int) = (0 : Int) ∧ (0 : Nat) = (0 : Nat) ∧ (0 : Int) = (0 : Int) ∧ (0 : Int) = (0 : Int) ∧ (0 : Int) = (0 : Int) ∧ True) ∧ True) ∧ True ∧ StA (clt0 (9 : Int)) o.k o.y1 o.e1 ∧ (false = true → (true = true → true = true ∧ True) ∧ (true = false → false = true ∧ True)) ∧ (false = false → ((o.e1 != (0 : Int)) = true → (true = true → true = true ∧ True) ∧ (true = false → false = true ∧ True)) ∧ ((o.e1 != (0 : Int)) = false → ((o.k.kind == (5 : Int)) = true → (true = true → true = true ∧ True) ∧ (true = false → false = true ∧ True)) ∧ ((o.k.kind == (5 : Int)) = false → ((o.k.kind == (6 : Int)) = true → (true = true → true = true ∧ True) ∧ (true = false → false = true ∧ True)) ∧ ((o.k.kind == (6 : Int)) = false → ((!o.y1.o.send) = true → false = true ∧ True) ∧ ((!o.y1.o.send) = false → ((o.y1.o.req.kind != (6 : Int)) = true → false = true ∧ True) ∧ ((o.y1.o.req.kind != (6 : Int)) = false → ((!o.y1.o.req.topic.data.toList == o.k.topic.data.toList) = true → false = true ∧ True) ∧ ((!o.y1.o.req.topic.data.toList == o.k.topic.data.toList) = false → ((o.y1.c.id = o.y1.c.id ∧ (true = true ∧ List.length o.y1.c.servers = List.length o.y1.c.servers ∧ contLe (List.length o.y1.c.servers) (1 : Nat) (cellsOf' encI o.y1.c.servers) (cellsOf' encI o.y1.c.servers)) ∧ o.y1.c.prod = o.y1.c.prod ∧ o.y1.c.seq = o.y1.c.seq ∧ (false = false ∧ List.length o.y1.c.topics = List.length o.y1.c.topics ∧ contLe (List.length o.y1.c.topics) (2 : Nat) (Ax.rowAt (0 : Nat) (cellsOf' encTp o.y1.c.topics)) (cellsOf' encTp o.y1.c.topics)) ∧ (false = false ∧ List.length o.y1.c.leaders = List.length o.y1.c.leaders ∧ contLe (List.length o.y1.c.leaders) (2 : Nat) (Ax.rowAt (0 : Nat) (cellsOf' encSi o.y1.c.leaders)) (cellsOf' encSi o.y1.c.leaders)) ∧ o.y1.c.busy = o.y1.c.busy ∧ o.y1.c.call.kind = o.y1.c.call.kind ∧ o.y1.c.call.topic = o.y1.c.call.topic ∧ o.y1.c.call.key = o.y1.c.call.key ∧ (true = true ∧ List.length o.y1.c.call.val = List.length o.y1.c.call.val ∧ contLe (List.length o.y1.c.call.val) (1 : Nat) (cellsOf' encB o.y1.c.call.val) (cellsOf' encB o.y1.c.call.val)) ∧ o.y1.c.call.off = o.y1.c.call.off ∧ o.y1.c.call.most = o.y1.c.call.most ∧ o.y1.c.call.name = o.y1.c.call.name ∧ o.y1.c.call.adm.kind = o.y1.c.call.adm.kind ∧ o.y1.c.call.adm.prod = o.y1.c.call.adm.prod ∧ o.y1.c.call.adm.seq = o.y1.c.call.adm.seq ∧ o.y1.c.call.adm.topic = o.y1.c.call.adm.topic ∧ (true = true ∧ List.length o.y1.c.call.adm.nodes = List.length o.y1.c.call.adm.nodes ∧ contLe (List.length o.y1.c.call.adm.nodes) (1 : Nat) (cellsOf' encI o.y1.c.call.adm.nodes) (cellsOf' encI o.y1.c.call.adm.nodes)) ∧ o.y1.c.call.adm.group = o.y1.c.call.adm.group ∧ o.y1.c.call.adm.other = o.y1.c.call.adm.other ∧ o.y1.c.call.adm.key = o.y1.c.call.adm.key ∧ o.y1.c.call.adm.fr = o.y1.c.call.adm.fr ∧ o.y1.c.call.adm.to = o.y1.c.call.adm.to ∧ o.y1.c.call.adm.plan = o.y1.c.call.adm.plan ∧ o.y1.c.call.adm.step = o.y1.c.call.adm.step ∧ o.y1.c.number = o.y1.c.number ∧ o.y1.c.route = o.y1.c.route ∧ o.y1.c.group = o.y1.c.group ∧ o.y1.c.tries = o.y1.c.tries ∧ o.y1.c.waited = o.y1.c.waited ∧ o.y1.c.again = o.y1.c.again ∧ o.y1.c.at' = o.y1.c.at' ∧ True) ∧ ((2 : Int) = (2 : Int) ∧ (0 : Int) = (0 : Int) ∧ { data := #[] : ByteArray } = ByteArray.empty ∧ { data := #[] : ByteArray } = ByteArray.empty ∧ (0 : Nat) = (0 : Nat) ∧ (0 : Int) = (0 : Int) ∧ (0 : Int) = (0 : Int) ∧ { data := #[] : ByteArray } = ByteArray.empty ∧ (0 : Int) = (0 : Int) ∧ (0 : Int) = (0 : Int) ∧ (0 : Int) = (0 : Int) ∧ { data := #[] : ByteArray } = ByteArray.empty ∧ (0 : Nat) = (0 : Nat) ∧ (0 : Int) = (0 : Int) ∧ (0 : Int) = (0 : Int) ∧ { data := #[] : ByteArray } = ByteArray.empty ∧ (0 : Int) = (0 : Int) ∧ (0 : Int) = (0 : Int) ∧ (0 : Int) = (0 : Int) ∧ (0 : Int) = (0 : Int) ∧ o.y1.c.number = o.r1.id ∧ (0 : Int) = (0 : Int) ∧ (0 : Int) = o.r1.leader ∧ (0 : Int) = o.r1.rerr ∧ (0 : Int) = o.r1.roff ∧ false = o.r1.rold ∧ List.length o.r1.recs = (0 : Nat) ∧ (0 : Int) = o.r1.number ∧ (true = true ∧ List.length o.l = List.length o.r1.shards ∧ contLe (List.length o.l) (7 : Nat) (cellsOf' encSh o.l) (cellsOf' encSh o.r1.shards)) ∧ (0 : Int) = o.r1.group ∧ (0 : Int) = o.r1.index ∧ (0 : Int) = o.r1.term ∧ True) ∧ True) ∧ True ∧ StR o.y1.c o.r1 o.y2 ∧ true = true ∧ ((∀ (k : Nat), k < List.length o.y2.c.topics → ∀ (j : Nat), j < (2 : Nat) → tagT (cellsOf' encTp o.y2.c.topics k j) = true) ∧ (∀ (k : Nat), k < List.length o.y2.c.leaders → ∀ (j : Nat), j < (2 : Nat) → tagT (cellsOf' encSi o.y2.c.leaders k j) = true) ∧ True) ∧ (((true = true ∧ List.length o.l = List.length o.l ∧ contLe (List.length o.l) (7 : Nat) (cellsOf' encSh o.l) (cellsOf' encSh o.l)) ∧ ((0 : Nat) = (0 : Nat) ∧ (0 : Nat) = (0 : Nat)) ∧ ((0 : Nat) = (0 : Nat) ∧ (0 : Nat) = (0 : Nat)) ∧ ((0 : Nat) = (0 : Nat) ∧ (0 : Nat) = (0 : Nat)) ∧ ((0 : Nat) = (0 : Nat) ∧ (0 : Nat) = (0 : Nat)) ∧ (-1 : Int) = (-1 : Int) ∧ IntKind.wrap IntKind.i64 ((↑(List.length o.l) : Int) - (1 : Int)) = (↑(List.length o.l - (0 : Nat)) : Int) - (1 : Int) ∧ True) ∧ ((o.k.kind = o.k.kind ∧ o.k.topic = o.k.topic ∧ o.k.key = o.k.key ∧ (true = true ∧ List.length o.k.val = List.length o.k.val ∧ contLe (List.length o.k.val) (1 : Nat) (cellsOf' encB o.k.val) (cellsOf' encB o.k.val)) ∧ o.k.off = o.k.off ∧ o.k.most = o.k.most ∧ o.k.name = o.k.name ∧ o.k.adm.kind = o.k.adm.kind ∧ o.k.adm.prod = o.k.adm.prod ∧ o.k.adm.seq = o.k.adm.seq ∧ o.k.adm.topic = o.k.adm.topic ∧ (true = true ∧ List.length o.k.adm.nodes = List.length o.k.adm.nodes ∧ contLe (List.length o.k.adm.nodes) (1 : Nat) (cellsOf' encI o.k.adm.nodes) (cellsOf' encI o.k.adm.nodes)) ∧ o.k.adm.group = o.k.adm.group ∧ o.k.adm.other = o.k.adm.other ∧ o.k.adm.key = o.k.adm.key ∧ o.k.adm.fr = o.k.adm.fr ∧ o.k.adm.to = o.k.adm.to ∧ o.k.adm.plan = o.k.adm.plan ∧ o.k.adm.step = o.k.adm.step ∧ True) ∧ (o.r.id = o.r.id ∧ o.r.err = o.r.err ∧ o.r.leader = o.r.leader ∧ o.r.rerr = o.r.rerr ∧ o.r.roff = o.r.roff ∧ o.r.rold = o.r.rold ∧ (true = true ∧ List.length o.r.recs = List.length o.r.recs ∧ contLe (List.length o.r.recs) (5 : Nat) (cellsOf' encR o.r.recs) (cellsOf' encR o.r.recs)) ∧ o.r.number = o.r.number ∧ (true = true ∧ List.length o.r.shards = List.length o.r.shards ∧ contLe (List.length o.r.shards) (7 : Nat) (cellsOf' encSh o.r.shards) (cellsOf' encSh o.r.shards)) ∧ o.r.group = o.r.group ∧ o.r.index = o.r.index ∧ o.r.term = o.r.term ∧ True) ∧ (o.y2.c.id = o.y2.c.id ∧ (true = true ∧ List.length o.y2.c.servers = List.length o.y2.c.servers ∧ contLe (List.length o.y2.c.servers) (1 : Nat) (cellsOf' encI o.y2.c.servers) (cellsOf' encI o.y2.c.servers)) ∧ o.y2.c.prod = o.y2.c.prod ∧ o.y2.c.seq = o.y2.c.seq ∧ ((0 : Nat) = (0 : Nat) ∧ List.length o.y2.c.topics = List.length o.y2.c.topics) ∧ ((0 : Nat) = (0 : Nat) ∧ List.length o.y2.c.leaders = List.length o.y2.c.leaders) ∧ o.y2.c.busy = o.y2.c.busy ∧ o.y2.c.call.kind = o.y2.c.call.kind ∧ o.y2.c.call.topic = o.y2.c.call.topic ∧ o.y2.c.call.key = o.y2.c.call.key ∧ (true = true ∧ List.length o.y2.c.call.val = List.length o.y2.c.call.val ∧ contLe (List.length o.y2.c.call.val) (1 : Nat) (cellsOf' encB o.y2.c.call.val) (cellsOf' encB o.y2.c.call.val)) ∧ o.y2.c.call.off = o.y2.c.call.off ∧ o.y2.c.call.most = o.y2.c.call.most ∧ o.y2.c.call.name = o.y2.c.call.name ∧ o.y2.c.call.adm.kind = o.y2.c.call.adm.kind ∧ o.y2.c.call.adm.prod = o.y2.c.call.adm.prod ∧ o.y2.c.call.adm.seq = o.y2.c.call.adm.seq ∧ o.y2.c.call.adm.topic = o.y2.c.call.adm.topic ∧ (true = true ∧ List.length o.y2.c.call.adm.nodes = List.length o.y2.c.call.adm.nodes ∧ contLe (List.length o.y2.c.call.adm.nodes) (1 : Nat) (cellsOf' encI o.y2.c.call.adm.nodes) (cellsOf' encI o.y2.c.call.adm.nodes)) ∧ o.y2.c.call.adm.group = o.y2.c.call.adm.group ∧ o.y2.c.call.adm.other = o.y2.c.call.adm.other ∧ o.y2.c.call.adm.key = o.y2.c.call.adm.key ∧ o.y2.c.call.adm.fr = o.y2.c.call.adm.fr ∧ o.y2.c.call.adm.to = o.y2.c.call.adm.to ∧ o.y2.c.call.adm.plan = o.y2.c.call.adm.plan ∧ o.y2.c.call.adm.step = o.y2.c.call.adm.step ∧ o.y2.c.number = o.y2.c.number ∧ o.y2.c.route = o.y2.c.route ∧ o.y2.c.group = o.y2.c.group ∧ o.y2.c.tries = o.y2.c.tries ∧ o.y2.c.waited = o.y2.c.waited ∧ o.y2.c.again = o.y2.c.again ∧ o.y2.c.at' = o.y2.c.at' ∧ True) ∧ (o.y2.o.send = o.y2.o.send ∧ o.y2.o.to = o.y2.o.to ∧ o.y2.o.req.id = o.y2.o.req.id ∧ o.y2.o.req.kind = o.y2.o.req.kind ∧ o.y2.o.req.group = o.y2.o.req.group ∧ o.y2.o.req.part.kind = o.y2.o.req.part.kind ∧ o.y2.o.req.part.epoch = o.y2.o.req.part.epoch ∧ o.y2.o.req.part.prod = o.y2.o.req.part.prod ∧ o.y2.o.req.part.seq = o.y2.o.req.part.seq ∧ o.y2.o.req.part.key = o.y2.o.req.part.key ∧ (true = true ∧ List.length o.y2.o.req.part.val = List.length o.y2.o.req.part.val ∧ contLe (List.length o.y2.o.req.part.val) (1 : Nat) (cellsOf' encB o.y2.o.req.part.val) (cellsOf' encB o.y2.o.req.part.val)) ∧ o.y2.o.req.part.off = o.y2.o.req.part.off ∧ o.y2.o.req.part.most = o.y2.o.req.part.most ∧ o.y2.o.req.part.name = o.y2.o.req.part.name ∧ o.y2.o.req.part.plan = o.y2.o.req.part.plan ∧ o.y2.o.req.adm.kind = o.y2.o.req.adm.kind ∧ o.y2.o.req.adm.prod = o.y2.o.req.adm.prod ∧ o.y2.o.req.adm.seq = o.y2.o.req.adm.seq ∧ o.y2.o.req.adm.topic = o.y2.o.req.adm.topic ∧ (true = true ∧ List.length o.y2.o.req.adm.nodes = List.length o.y2.o.req.adm.nodes ∧ contLe (List.length o.y2.o.req.adm.nodes) (1 : Nat) (cellsOf' encI o.y2.o.req.adm.nodes) (cellsOf' encI o.y2.o.req.adm.nodes)) ∧ o.y2.o.req.adm.group = o.y2.o.req.adm.group ∧ o.y2.o.req.adm.other = o.y2.o.req.adm.other ∧ o.y2.o.req.adm.key = o.y2.o.req.adm.key ∧ o.y2.o.req.adm.fr = o.y2.o.req.adm.fr ∧ o.y2.o.req.adm.to = o.y2.o.req.adm.to ∧ o.y2.o.req.adm.plan = o.y2.o.req.adm.plan ∧ o.y2.o.req.adm.step = o.y2.o.req.adm.step ∧ o.y2.o.req.topic = o.y2.o.req.topic ∧ o.y2.o.done = o.y2.o.done ∧ o.y2.o.rep.id = o.y2.o.rep.id ∧ o.y2.o.rep.err = o.y2.o.rep.err ∧ o.y2.o.rep.leader = o.y2.o.rep.leader ∧ o.y2.o.rep.rerr = o.y2.o.rep.rerr ∧ o.y2.o.rep.roff = o.y2.o.rep.roff ∧ o.y2.o.rep.rold = o.y2.o.rep.rold ∧ (true = true ∧ List.length o.y2.o.rep.recs = List.length o.y2.o.rep.recs ∧ contLe (List.length o.y2.o.rep.recs) (5 : Nat) (cellsOf' encR o.y2.o.rep.recs) (cellsOf' encR o.y2.o.rep.recs)) ∧ o.y2.o.rep.number = o.y2.o.rep.number ∧ (true = true ∧ List.length o.y2.o.rep.shards = List.length o.y2.o.rep.shards ∧ contLe (List.length o.y2.o.rep.shards) (7 : Nat) (cellsOf' encSh o.y2.o.rep.shards) (cellsOf' encSh o.y2.o.rep.shards)) ∧ o.y2.o.rep.group = o.y2.o.rep.group ∧ o.y2.o.rep.index = o.y2.o.rep.index ∧ o.y2.o.rep.term = o.y2.o.rep.term ∧ True) ∧ (List.length o.y2.c.topics = List.length o.y2.c.topics ∧ contLe (List.length o.y2.c.topics) (2 : Nat) (cellsOf' encTp o.y2.c.topics) (cellsOf' encTp o.y2.c.topics)) ∧ (List.length o.y2.c.leaders = List.length o.y2.c.leaders ∧ contLe (List.length o.y2.c.leaders) (2 : Nat) (cellsOf' encSi o.y2.c.leaders) (cellsOf' encSi o.y2.c.leaders)) ∧ True) ∧ true = true) ∧ LoopOk Tryd.prog (6 : Nat) (11 : Nat) (loopAt Tryd.prog (6 : Nat) (11 : Nat)) { t := fsT o (-1 : Int) (⟨(0 : Nat), fsH._proof_1 o⟩ : { k : Nat // k ≤ List.length o.l }), m := fsM o, mv := [] : St } (T.map (lout [] (fsS o a)) ((fun (x : { k : Nat // k ≤ List.length o.l }) => T.ret ()) (⟨(0 : Nat), fsH._proof_1 o⟩ : { k : Nat // k ≤ List.length o.l }))) ∧ (decide (a < (0 : Int)) = true → ((!o.y2.o.send) = true → (o.y2.c.busy = true → o.y2.c.again = true ∧ True) ∧ (o.y2.c.busy = false → false = true ∧ True)) ∧ ((!o.y2.o.send) = false → false = true ∧ True)) ∧ (decide (a < (0 : Int)) = false → ((!o.y2.o.send) = true → false = true ∧ True) ∧ ((!o.y2.o.send) = false → ((o.y2.o.req.kind != o.k.kind) = true → false = true ∧ True) ∧ ((o.y2.o.req.kind != o.k.kind) = false → (decide ((0 : Int) ≤ a) && decide (a < (↑(List.length o.l) : Int))) = true ∧ ((o.y2.o.req.group != (List.getD o.l (Int.toNat a) (@default Shd instInhabitedShd)).group) = true → false = true ∧ True) ∧ ((o.y2.o.req.group != (List.getD o.l (Int.toNat a) (@default Shd instInhabitedShd)).group) = false → (decide ((0 : Int) ≤ a) && decide (a < (↑(List.length o.l) : Int))) = true ∧ ((o.y2.o.req.part.epoch != (List.getD o.l (Int.toNat a) (@default Shd instInhabitedShd)).epoch) = true → false = true ∧ True) ∧ ((o.y2.o.req.part.epoch != (List.getD o.l (Int.toNat a) (@default Shd instInhabitedShd)).epoch) = false → ((o.y2.c.id = o.y2.c.id ∧ (true = true ∧ List.length o.y2.c.servers = List.length o.y2.c.servers ∧ contLe (List.length o.y2.c.servers) (1 : Nat) (cellsOf' encI o.y2.c.servers) (cellsOf' encI o.y2.c.servers)) ∧ o.y2.c.prod = o.y2.c.prod ∧ o.y2.c.seq = o.y2.c.seq ∧ (false = false ∧ List.length o.y2.c.topics = List.length o.y2.c.topics ∧ contLe (List.length o.y2.c.topics) (2 : Nat) (Ax.rowAt (0 : Nat) (cellsOf' encTp o.y2.c.topics)) (cellsOf' encTp o.y2.c.topics)) ∧ (false = false ∧ List.length o.y2.c.leaders = List.length o.y2.c.leaders ∧ contLe (List.length o.y2.c.leaders) (2 : Nat) (Ax.rowAt (0 : Nat) (cellsOf' encSi o.y2.c.leaders)) (cellsOf' encSi o.y2.c.leaders)) ∧ o.y2.c.busy = o.y2.c.busy ∧ o.y2.c.call.kind = o.y2.c.call.kind ∧ o.y2.c.call.topic = o.y2.c.call.topic ∧ o.y2.c.call.key = o.y2.c.call.key ∧ (true = true ∧ List.length o.y2.c.call.val = List.length o.y2.c.call.val ∧ contLe (List.length o.y2.c.call.val) (1 : Nat) (cellsOf' encB o.y2.c.call.val) (cellsOf' encB o.y2.c.call.val)) ∧ o.y2.c.call.off = o.y2.c.call.off ∧ o.y2.c.call.most = o.y2.c.call.most ∧ o.y2.c.call.name = o.y2.c.call.name ∧ o.y2.c.call.adm.kind = o.y2.c.call.adm.kind ∧ o.y2.c.call.adm.prod = o.y2.c.call.adm.prod ∧ o.y2.c.call.adm.seq = o.y2.c.call.adm.seq ∧ o.y2.c.call.adm.topic = o.y2.c.call.adm.topic ∧ (true = true ∧ List.length o.y2.c.call.adm.nodes = List.length o.y2.c.call.adm.nodes ∧ contLe (List.length o.y2.c.call.adm.nodes) (1 : Nat) (cellsOf' encI o.y2.c.call.adm.nodes) (cellsOf' encI o.y2.c.call.adm.nodes)) ∧ o.y2.c.call.adm.group = o.y2.c.call.adm.group ∧ o.y2.c.call.adm.other = o.y2.c.call.adm.other ∧ o.y2.c.call.adm.key = o.y2.c.call.adm.key ∧ o.y2.c.call.adm.fr = o.y2.c.call.adm.fr ∧ o.y2.c.call.adm.to = o.y2.c.call.adm.to ∧ o.y2.c.call.adm.plan = o.y2.c.call.adm.plan ∧ o.y2.c.call.adm.step = o.y2.c.call.adm.step ∧ o.y2.c.number = o.y2.c.number ∧ o.y2.c.route = o.y2.c.route ∧ o.y2.c.group = o.y2.c.group ∧ o.y2.c.tries = o.y2.c.tries ∧ o.y2.c.waited = o.y2.c.waited ∧ o.y2.c.again = o.y2.c.again ∧ o.y2.c.at' = o.y2.c.at' ∧ True) ∧ ((2 : Int) = (2 : Int) ∧ (0 : Int) = (0 : Int) ∧ { data := #[] : ByteArray } = ByteArray.empty ∧ { data := #[] : ByteArray } = ByteArray.empty ∧ (0 : Nat) = (0 : Nat) ∧ (0 : Int) = (0 : Int) ∧ (0 : Int) = (0 : Int) ∧ { data := #[] : ByteArray } = ByteArray.empty ∧ (0 : Int) = (0 : Int) ∧ (0 : Int) = (0 : Int) ∧ (0 : Int) = (0 : Int) ∧ { data := #[] : ByteArray } = ByteArray.empty ∧ (0 : Nat) = (0 : Nat) ∧ (0 : Int) = (0 : Int) ∧ (0 : Int) = (0 : Int) ∧ { data := #[] : ByteArray } = ByteArray.empty ∧ (0 : Int) = (0 : Int) ∧ (0 : Int) = (0 : Int) ∧ (0 : Int) = (0 : Int) ∧ (0 : Int) = (0 : Int) ∧ o.y2.c.number = o.r2.id ∧ (0 : Int) = (0 : Int) ∧ o.r.leader = o.r2.leader ∧ o.r.rerr = o.r2.rerr ∧ o.r.roff = o.r2.roff ∧ o.r.rold = o.r2.rold ∧ (true = true ∧ List.length o.r.recs = List.length o.r2.recs ∧ contLe (List.length o.r.recs) (5 : Nat) (cellsOf' encR o.r.recs) (cellsOf' encR o.r2.recs)) ∧ o.r.number = o.r2.number ∧ (true = true ∧ List.length o.r.shards = List.length o.r2.shards ∧ contLe (List.length o.r.shards) (7 : Nat) (cellsOf' encSh o.r.shards) (cellsOf' encSh o.r2.shards)) ∧ o.r.group = o.r2.group ∧ o.r.index = o.r2.index ∧ o.r.term = o.r2.term ∧ True) ∧ True) ∧ True ∧ StR o.y2.c o.r2 o.y3 ∧ true = true ∧ ((∀ (k : Nat), k < List.length o.y3.c.topics → ∀ (j : Nat), j < (2 : Nat) → tagT (cellsOf' encTp o.y3.c.topics k j) = true) ∧ (∀ (k : Nat), k < List.length o.y3.c.leaders → ∀ (j : Nat), j < (2 : Nat) → tagT (cellsOf' encSi o.y3.c.leaders k j) = true) ∧ True) ∧ (o.y3.o.done = true → ((!o.y3.o.send) = true → ((!o.y3.c.busy) = true → ((o.y3.o.rep.id = o.y3.o.rep.id ∧ o.y3.o.rep.err = o.y3.o.rep.err ∧ o.y3.o.rep.leader = o.y3.o.rep.leader ∧ o.y3.o.rep.rerr = o.y3.o.rep.rerr ∧ o.y3.o.rep.roff = o.y3.o.rep.roff ∧ o.y3.o.rep.rold = o.y3.o.rep.rold ∧ (true = true ∧ List.length o.y3.o.rep.recs = List.length o.y3.o.rep.recs ∧ contLe (List.length o.y3.o.rep.recs) (5 : Nat) (cellsOf' encR o.y3.o.rep.recs) (cellsOf' encR o.y3.o.rep.recs)) ∧ o.y3.o.rep.number = o.y3.o.rep.number ∧ (true = true ∧ List.length o.y3.o.rep.shards = List.length o.y3.o.rep.shards ∧ contLe (List.length o.y3.o.rep.shards) (7 : Nat) (cellsOf' encSh o.y3.o.rep.shards) (cellsOf' encSh o.y3.o.rep.shards)) ∧ o.y3.o.rep.group = o.y3.o.rep.group ∧ o.y3.o.rep.index = o.y3.o.rep.index ∧ o.y3.o.rep.term = o.y3.o.rep.term ∧ True) ∧ (o.y2.c.number = o.r2.id ∧ (0 : Int) = o.r2.err ∧ o.r.leader = o.r2.leader ∧ o.r.rerr = o.r2.rerr ∧ o.r.roff = o.r2.roff ∧ o.r.rold = o.r2.rold ∧ (true = true ∧ List.length o.r.recs = List.length o.r2.recs ∧ contLe (List.length o.r.recs) (5 : Nat) (cellsOf' encR o.r.recs) (cellsOf' encR o.r2.recs)) ∧ o.r.number = o.r2.number ∧ (true = true ∧ List.length o.r.shards = List.length o.r2.shards ∧ contLe (List.length o.r.shards) (7 : Nat) (cellsOf' encSh o.r.shards) (cellsOf' encSh o.r2.shards)) ∧ o.r.group = o.r2.group ∧ o.r.index = o.r2.index ∧ o.r.term = o.r2.term ∧ True) ∧ True) ∧ True ∧ RepEq o.y3.o.rep o.r2 ∧ true = true ∧ True) ∧ ((!o.y3.c.busy) = false → false = true ∧ True)) ∧ ((!o.y3.o.send) = false → false = true ∧ True)) ∧ (o.y3.o.done = false → false = true ∧ True)))))))))))))
set_option maxRecDepth 1000000 in
theorem vcFn_eq (o : Fnd) (a : Int) : (ctrVC Tryd.prog (fsH o a) 6 [.agg (encCl o.k), encShs true o.l, .agg (encRp o.r)] [] (boolR true)) = vcFn o a := by kernel_rfl
end Go.Proofs.YtdpbogaldcpfeaaDoor.C

/-! A client finds the shard: the code. -/
namespace Go.Proofs.YtdpbogaldcpfeaaDoor.C
open Go.Ax
set_option maxRecDepth 1000000
structure FnC (o : Fnd) (s : Shd) : Prop where
  s2 : o.y2.o.send = true
  kd : o.y2.o.req.kind = o.k.kind
  gr : o.y2.o.req.group = s.group
  ep : o.y2.o.req.part.epoch = s.epoch
  r2 : o.r2 = { o.r with id := o.y2.c.number, err := 0 }
  st : StR o.y2.c o.r2 o.y3
  dn : o.y3.o.done = true
  s3 : o.y3.o.send = false
  bs : o.y3.c.busy = false
  eq : RepEq o.y3.o.rep o.r2
structure FnB (o : Fnd) (a : Int) : Prop where
  s1 : o.y1.o.send = true
  kd : o.y1.o.req.kind = 6
  tp : o.y1.o.req.topic = o.k.topic
  r1 : o.r1 = { (default : Rep) with id := o.y1.c.number, shards := o.l }
  st : StR o.y1.c o.r1 o.y2
  c : (a < 0 ∧ o.y2.o.send = false ∧ o.y2.c.busy = true ∧ o.y2.c.again = true) ∨ (0 ≤ a ∧ a < o.l.length ∧ FnC o (o.l.getD a.toNat default))
structure FnOk (o : Fnd) (a : Int) : Prop where
  sa : StA (clt0 9) o.k o.y1 o.e1
  n : o.l.length ≤ 4611686018427387904
  q : a = atQ' o.k.key o.l o.l.length o.l.length
  g : o.e1 = 0 → o.k.kind ≠ 5 → o.k.kind ≠ 6 → FnB o a
theorem fs_loop (o : Fnd) (hn : o.l.length ≤ 4611686018427387904) (k : { k : Nat // k ≤ o.l.length }) : LoopOk Tryd.prog 6 11 (loopAt Tryd.prog 6 11) ⟨fsT o (atQ' o.k.key o.l o.l.length k.1) k, fsM o, []⟩ (T.map (lout [] (fsS o (atQ' o.k.key o.l o.l.length o.l.length))) (.ret ())) := by
  refine loop_vcH (P := Tryd.prog) (f := 6) (k := 11) (ι := { k : Nat // k ≤ o.l.length }) (μ := fun k => o.l.length - k.1) (ht := fun k => fsLH o (o.l.getD (o.l.length - (k.1 + 1)) default)) (stT := fun k => fsT o (atQ' o.k.key o.l o.l.length k.1) k) (stM := fun _ => fsM o) (X := []) (o := fun _ => .ret ()) (S := fsS o (atQ' o.k.key o.l o.l.length o.l.length)) Tryd.mixed (fun _ => rfl) (fun k => ?_) k
  rw [vcFnL_eq o (o.l.getD (o.l.length - (k.1 + 1)) default) (atQ' o.k.key o.l o.l.length o.l.length) (atQ' o.k.key o.l o.l.length) k]
  unfold vcFnL vcFnL_q1
  obtain ⟨k, hk⟩ := k
  by_cases h : k < o.l.length
  · have hz : decide ((0 : Int) ≤ ((o.l.length - k : Nat) : Int) - 1) = true := by simp; omega
    have hz2 : decide (((o.l.length - k : Nat) : Int) - 1 < (o.l.length : Int)) = true := by simp; omega
    have ht : Int.toNat (((o.l.length - k : Nat) : Int) - 1) = o.l.length - (k + 1) := by omega
    have hw : IntKind.wrap IntKind.i64 (((o.l.length - k : Nat) : Int) - 1 - 1) = ((o.l.length - (k + 1) : Nat) : Int) - 1 := by rw [wrap_i64 (by omega) (by omega)]; omega
    have hi : ((o.l.length - k : Nat) : Int) - 1 = ((o.l.length - (k + 1) : Nat) : Int) := by omega
    have ha : atQ' o.k.key o.l o.l.length (k + 1) = if hasK (o.l.getD (o.l.length - (k + 1)) default).rng o.k.key = true then ((o.l.length - (k + 1) : Nat) : Int) else atQ' o.k.key o.l o.l.length k := rfl
    simp only [hz, hz2, ht, hw]
    generalize o.l.getD (o.l.length - (k + 1)) default = s at *
    cases hp : hasK s.rng o.k.key
    · rw [hp] at ha
      simp only [Bool.false_eq_true, if_false] at ha
      simp
      exact ⟨k + 1, by omega, ha.symm, by omega, rfl⟩
    · rw [hp] at ha
      simp only [if_true] at ha
      simp
      exact ⟨k + 1, by omega, by rw [ha, hi], by omega, rfl⟩
  · have hz : decide ((0 : Int) ≤ ((o.l.length - k : Nat) : Int) - 1) = false := by simp; omega
    obtain rfl : k = o.l.length := by omega
    simp only [hz]
    simp
theorem c3L : contLe 3 1 (fun k j => Ax.get [AV.s (Value.int IntKind.i64 1), AV.s (Value.int IntKind.i64 2), AV.s (Value.int IntKind.i64 3)] (k + j)) (cellsOf' encI [1, 2, 3]) := by
  intro k hk j hj
  obtain rfl : j = 0 := by omega
  match k, hk with
  | 0, _ => exact rfl
  | 1, _ => exact rfl
  | 2, _ => exact rfl
theorem tagTp (l : List Tpc) : ∀ (k : Nat), k < l.length → ∀ (j : Nat), j < 2 → tagT (cellsOf' encTp l k j) = true := by
  intro k _ j hj
  match j, hj with
  | 0, _ => exact rfl
  | 1, _ => exact rfl
theorem tagSi (l : List Sit) : ∀ (k : Nat), k < l.length → ∀ (j : Nat), j < 2 → tagT (cellsOf' encSi l k j) = true := by
  intro k _ j hj
  match j, hj with
  | 0, _ => exact rfl
  | 1, _ => exact rfl
theorem fn_c (o : Fnd) (a : Int) (h : FnOk o a) : (boolR true).Sat (ACall' Tryd.prog 6 [.agg (encCl o.k), encShs true o.l, .agg (encRp o.r)] []) := by
  refine ctr_vc (ht := fsH o a) Tryd.mixed rfl ?_
  rw [vcFn_eq o a]
  unfold vcFn
  obtain ⟨ha, hn, hq, hg⟩ := h
  have lp := fs_loop o hn ⟨0, Nat.zero_le _⟩
  rw [← hq] at lp
  have lp' : LoopOk Tryd.prog 6 11 (loopAt Tryd.prog 6 11) ⟨fsT o (-1) ⟨0, Nat.zero_le _⟩, fsM o, []⟩ (T.map (lout [] (fsS o a)) (.ret ())) := lp
  have h3l := c3L
  have hw : IntKind.wrap IntKind.i64 ((o.l.length : Int) - 1) = (o.l.length : Int) - 1 := wrap_i64 (by omega) (by omega)
  by_cases h1 : o.e1 = 0
  · rw [h1] at ha
    by_cases h2 : o.k.kind = 5
    · simp [ha, h1, h2, h3l]
    · by_cases h3 : o.k.kind = 6
      · simp [ha, h1, h3, h3l]
      · obtain ⟨s1, kd, tp, r1, st, hc⟩ := hg h1 h2 h3
        rcases hc with ⟨c1, c2, c3, c4⟩ | ⟨c1, c2, hC⟩
        · have hz : decide (a < 0) = true := by simp; omega
          simp [ha, h1, h2, h3, h3l, s1, kd, tp, st, lp', hw, hz, c1, c2, c3, c4]
          rw [r1]
          repeat' with_reducible apply And.intro
          all_goals first | rfl | exact tagTp _ | exact tagSi _ | exact contLe_refl _ _ _
        · have hz : decide (a < 0) = false := by simp; omega
          obtain ⟨s2, kd2, gr, ep, r2, st2, dn, s3, bs, eq⟩ := hC
          simp [ha, h1, h2, h3, h3l, s1, kd, tp, st, lp', hw, hz, c1, c2, s2, kd2, gr, ep, st2, dn, s3, bs, eq]
          rw [r1, r2]
          repeat' with_reducible apply And.intro
          all_goals first | rfl | exact tagTp _ | exact tagSi _ | exact contLe_refl _ _ _
  · simp [ha, h1, h3l]
end Go.Proofs.YtdpbogaldcpfeaaDoor.C

/-! A client finds the shard: the plain law. -/
namespace Go.Proofs.YtdpbogaldcpfeaaDoor.C
open Go.Ax
set_option maxRecDepth 1000000
theorem at_find (key : ByteArray) (l : List Shd) : ∀ k, k ≤ l.length → ((l.drop (l.length - k)).any (inS key) = false ∧ atQ' key l l.length k = -1) ∨ ((l.drop (l.length - k)).any (inS key) = true ∧ 0 ≤ atQ' key l l.length k ∧ atQ' key l l.length k < l.length ∧ l.getD (atQ' key l l.length k).toNat default = ((l.drop (l.length - k)).find? (inS key)).getD default)
  | 0, _ => by
    left
    have e : l.drop (l.length - 0) = [] := by simp
    rw [e]
    exact ⟨rfl, rfl⟩
  | k + 1, h => by
    have ih := at_find key l k (by omega)
    have hlt : l.length - (k + 1) < l.length := by omega
    have hd : l.drop (l.length - (k + 1)) = l.getD (l.length - (k + 1)) default :: l.drop (l.length - k) := by
      rw [List.drop_eq_getElem_cons hlt]
      have : l.length - (k + 1) + 1 = l.length - k := by omega
      rw [this]
      simp [hlt]
    have ha : atQ' key l l.length (k + 1) = if hasK (l.getD (l.length - (k + 1)) default).rng key = true then ((l.length - (k + 1) : Nat) : Int) else atQ' key l l.length k := rfl
    rw [hd, List.any_cons, List.find?_cons, ha]
    have e : inS key (l.getD (l.length - (k + 1)) default) = hasK (l.getD (l.length - (k + 1)) default).rng key := rfl
    rw [e]
    cases hp : hasK (l.getD (l.length - (k + 1)) default).rng key
    · simp only [Bool.false_or, Bool.false_eq_true, if_false]
      exact ih
    · right
      simp only [Bool.true_or, if_true, Int.toNat_natCast, Option.getD_some]
      exact ⟨trivial, by omega, by omega, trivial⟩
theorem cmdQ_epoch (x : Nod) (e : Int) : (cmdQ x e).epoch = e := by
  unfold cmdQ
  repeat' split
  all_goals rfl
structure FiOk (k : Cal) (l : List Shd) (r : Rep) : Prop where
  ck : CalOk k
  n : l.length * 104 ≤ 140737488355328
  s : ∀ x ∈ l, ShOk x
  rc : r.recs.length ≤ 9223372036854775806
  rl : r.shards.length * 104 ≤ 140737488355328
  rs : ∀ x ∈ r.shards, ShOk x
noncomputable def fdX (k : Cal) : Nod := beg1 ⟨clt0 9, default⟩ k
noncomputable def fd1 (k : Cal) : Nod := begQ ⟨clt0 9, default⟩ k
noncomputable def fdr1 (k : Cal) (l : List Shd) : Rep := { (default : Rep) with id := (fd1 k).c.number, shards := l }
noncomputable def fd2 (k : Cal) (l : List Shd) : Nod := heaN ⟨(fd1 k).c, default⟩ (fdr1 k l)
noncomputable def fdr2 (k : Cal) (l : List Shd) (r : Rep) : Rep := { r with id := (fd2 k l).c.number, err := 0 }
noncomputable def fd3 (k : Cal) (l : List Shd) (r : Rep) : Nod := heaN ⟨(fd2 k l).c, default⟩ (fdr2 k l r)
noncomputable def fnd (k : Cal) (l : List Shd) (r : Rep) : Fnd := ⟨k, l, r, fd1 k, begE ⟨clt0 9, default⟩ k, fdr1 k l, fd2 k l, fdr2 k l r, fd3 k l r⟩
/-- behind the first request -/
def cR (k : Cal) : Clt := { clt0 9 with busy := true, call := k, seq := if k.kind = 1 ∨ k.kind = 3 ∨ k.kind = 5 then IntKind.u64.wrap (0 + 1) else 0, tries := 1, number := 1, route := true }
theorem fd1_eq (k : Cal) (he : begE ⟨clt0 9, default⟩ k = 0) (h5 : k.kind ≠ 5) (h6 : k.kind ≠ 6) : fd1 k = ⟨cR k, ouS 1 ⟨1, 6, 0, default, default, k.topic⟩⟩ := by
  have e : fd1 k = sendN (fdX k) := if_pos he
  rw [e]
  have b : shdB (fdX k) = false := rfl
  have t : ¬ 24 ≤ (fdX k).c.tries := by show ¬ (24 : Int) ≤ 0; omega
  have k5 : ¬ (fdX k).c.call.kind = 5 := h5
  have k6 : ((fdX k).c.call.kind == (6 : Int)) = false := by
    show (k.kind == (6 : Int)) = false
    simp [h6]
  unfold sendN
  rw [if_neg t, if_neg k5, if_pos (Or.inr b), k6]
  rfl
/-- behind its answer -/
def xL (k : Cal) (l : List Shd) : Nod := ⟨{ cR k with topics := [⟨k.topic, l⟩] }, default⟩
theorem xL_top (k : Cal) (l : List Shd) : topA (xL k l) = true := by
  show (isT k.topic ⟨k.topic, l⟩ || false) = true
  simp [isT]
theorem xL_shs (k : Cal) (l : List Shd) : tpShs (xL k l) = l := by
  unfold tpShs
  have h := top_lt (xL_top k l)
  have h0 : topI (xL k l) = 0 := by
    have : topI (xL k l) < 1 := h
    omega
  rw [h0]
  rfl
theorem xL_b (k : Cal) (l : List Shd) : shdB (xL k l) = l.any (inS k.key) := by
  unfold shdB
  rw [xL_top, xL_shs]
  rfl
theorem xL_s (k : Cal) (l : List Shd) : shdS (xL k l) = (l.find? (inS k.key)).getD default := by
  unfold shdS
  rw [xL_top, xL_shs]
  rfl
theorem fin1 (k : Cal) (l : List Shd) (r : Rep) (hr : r.shards = l) : finL ⟨cR k, default⟩ r = xL k l := by
  have c : (⟨cR k, default⟩ : Nod).c.route = true ∨ (⟨cR k, default⟩ : Nod).c.call.kind = 6 := Or.inl rfl
  unfold finL
  rw [if_pos c, hr]
  rfl
theorem fd2_eq (k : Cal) (l : List Shd) (he : begE ⟨clt0 9, default⟩ k = 0) (h5 : k.kind ≠ 5) (h6 : k.kind ≠ 6) : fd2 k l = if shdB (xL k l) = true then sendN (xL k l) else laterN (nxtN (xL k l)) := by
  unfold fd2 fdr1
  rw [fd1_eq k he h5 h6]
  show heaN ⟨cR k, default⟩ { (default : Rep) with id := 1, shards := l } = _
  have hb : heaB ⟨cR k, default⟩ { (default : Rep) with id := 1, shards := l } = true := rfl
  unfold heaN
  rw [if_pos hb]
  unfold finN
  rw [fin1 k l _ rfl]
  rfl
def cS (k : Cal) (l : List Shd) : Clt := { cR k with topics := [⟨k.topic, l⟩], tries := 2, number := 2, route := false, group := (shdS (xL k l)).group }
theorem snd2 (k : Cal) (l : List Shd) (h5 : k.kind ≠ 5) (h6 : k.kind ≠ 6) (hb : shdB (xL k l) = true) : sendN (xL k l) = ⟨cS k l, ouS (toQ (xL k l) (shdS (xL k l)).group) (rqP (xL k l) (shdS (xL k l)))⟩ := by
  have t : ¬ 24 ≤ (xL k l).c.tries := by show ¬ (24 : Int) ≤ 1; omega
  have k5 : ¬ (xL k l).c.call.kind = 5 := h5
  have k6 : ¬ ((xL k l).c.call.kind = 6 ∨ shdB (xL k l) = false) := by
    rw [hb]
    intro h
    rcases h with h | h
    · exact h6 h
    · cases h
  unfold sendN
  rw [if_neg t, if_neg k5, if_neg k6]
  rfl
theorem fd3_eq (k : Cal) (l : List Shd) (r : Rep) (he : begE ⟨clt0 9, default⟩ k = 0) (h5 : k.kind ≠ 5) (h6 : k.kind ≠ 6) (hb : shdB (xL k l) = true) : fd3 k l r = endN ⟨cS k l, default⟩ (fdr2 k l r) := by
  have e2 : fd2 k l = ⟨cS k l, ouS (toQ (xL k l) (shdS (xL k l)).group) (rqP (xL k l) (shdS (xL k l)))⟩ := by rw [fd2_eq k l he h5 h6, if_pos hb, snd2 k l h5 h6 hb]
  unfold fd3 fdr2
  rw [e2]
  have hh : heaB ⟨cS k l, default⟩ { r with id := (cS k l).number, err := 0 } = true := rfl
  unfold heaN
  rw [if_pos hh]
  unfold finN
  have c : ¬ ((⟨cS k l, default⟩ : Nod).c.route = true ∨ (⟨cS k l, default⟩ : Nod).c.call.kind = 6) := by
    intro h
    rcases h with h | h
    · cases h
    · exact h6 h
  have f : finL ⟨cS k l, default⟩ { r with id := (cS k l).number, err := 0 } = ⟨cS k l, default⟩ := if_neg c
  rw [f]
  rfl
theorem shs_in {l : List Shd} (h : ∀ x ∈ l, ShOk x) : ∀ x ∈ l, ShIn x := fun x hx => ⟨by have := (h x hx).n; omega, by have := (h x hx).p; omega⟩
theorem xL_snd (k : Cal) (l : List Shd) (hk : CalOk k) (hl : l.length * 104 ≤ 140737488355328) : SndOk (xL k l) := by
  refine ⟨⟨(by show 1 ≤ _; omega), fun t ht => ?_⟩, hk, (by show 0 ≤ _; omega), (by show (0 : Int) ≤ 0; omega), (by show (0 : Int) < ((3 : Nat) : Int); omega)⟩
  have : t = ⟨k.topic, l⟩ := by
    have : t ∈ [(⟨k.topic, l⟩ : Tpc)] := ht
    simpa using this
  rw [this]
  show l.length ≤ _
  omega
theorem finS (k : Cal) (l : List Shd) (r : Rep) (h6 : k.kind ≠ 6) : finL ⟨cS k l, default⟩ r = ⟨cS k l, default⟩ := by
  have c : ¬ ((⟨cS k l, default⟩ : Nod).c.route = true ∨ (⟨cS k l, default⟩ : Nod).c.call.kind = 6) := by
    intro h
    rcases h with h | h
    · cases h
    · exact h6 h
  exact if_neg c
theorem cS_in (k : Cal) (l : List Shd) (hl : l.length * 104 ≤ 140737488355328) : NodIn ⟨cS k l, default⟩ := by
  refine ⟨(by show 1 ≤ _; omega), fun t ht => ?_⟩
  have ht' : t ∈ [(⟨k.topic, l⟩ : Tpc)] := ht
  obtain rfl : t = ⟨k.topic, l⟩ := by simpa using ht'
  show l.length ≤ _
  omega
theorem fnd_ok (k : Cal) (l : List Shd) (r : Rep) (h : FiOk k l r) : FnOk (fnd k l r) (atQ' k.key l l.length l.length) := by
  have hl := h.n
  refine ⟨⟨rfl, rfl, clt0_ok 9, snd0_ok 9 k h.ck⟩, by show l.length ≤ _; omega, rfl, fun he h5 h6 => ?_⟩
  have he' : begE ⟨clt0 9, default⟩ k = 0 := he
  have h5' : k.kind ≠ 5 := h5
  have h6' : k.kind ≠ 6 := h6
  have e1 := fd1_eq k he' h5' h6'
  have e2 := fd2_eq k l he' h5' h6'
  have hr1 : fdr1 k l = { (default : Rep) with id := 1, shards := l } := by unfold fdr1; rw [e1]; rfl
  refine ⟨?_, ?_, ?_, rfl, ⟨rfl, ?_, ⟨fun _ => ⟨⟨?_, ?_, ?_⟩, ?_, ?_⟩, rfl⟩⟩, ?_⟩
  · show (fd1 k).o.send = true
    rw [e1]; rfl
  · show (fd1 k).o.req.kind = 6
    rw [e1]; rfl
  · show (fd1 k).o.req.topic = k.topic
    rw [e1]; rfl
  · show CltOk (fd1 k).c
    rw [e1]
    exact ⟨(by show 3 * 8 ≤ _; omega), (by show 0 * 16 ≤ _; omega), h.ck, (by show 0 * 40 ≤ _; omega), fun x hx => (by cases hx)⟩
  · show ((fd1 k).c.topics.length + 1) * 40 ≤ _
    rw [e1]
    show (0 + 1) * 40 ≤ _
    omega
  · show l.length * 104 ≤ _
    omega
  · exact h.s
  · show NodIn (finL ⟨(fd1 k).c, default⟩ (fdr1 k l))
    rw [e1]
    show NodIn (finL ⟨cR k, default⟩ (fdr1 k l))
    rw [fin1 k l _ rfl]
    exact (xL_snd k l h.ck hl).i
  · show SndOk (finL ⟨(fd1 k).c, default⟩ (fdr1 k l))
    rw [e1]
    show SndOk (finL ⟨cR k, default⟩ (fdr1 k l))
    rw [fin1 k l _ rfl]
    exact xL_snd k l h.ck hl
  · have hf := at_find k.key l l.length (Nat.le_refl _)
    rw [Nat.sub_self, List.drop_zero] at hf
    rcases hf with ⟨f1, f2⟩ | ⟨f1, f2, f3, f4⟩
    · left
      have hb : ¬ shdB (xL k l) = true := by rw [xL_b, f1]; simp
      rw [if_neg hb] at e2
      refine ⟨by show atQ' k.key l l.length l.length < 0; omega, ?_, ?_, ?_⟩
      · show (fd2 k l).o.send = false
        rw [e2]; rfl
      · show (fd2 k l).c.busy = true
        rw [e2]; rfl
      · show (fd2 k l).c.again = true
        rw [e2]; rfl
    · right
      have hb : shdB (xL k l) = true := by rw [xL_b, f1]
      rw [if_pos hb, snd2 k l h5' h6' hb] at e2
      have e3 := fd3_eq k l r he' h5' h6' hb
      rw [← xL_s] at f4
      refine ⟨f2, f3, ?_⟩
      show FnC (fnd k l r) (l.getD (atQ' k.key l l.length l.length).toNat default)
      rw [f4]
      refine ⟨?_, ?_, ?_, ?_, rfl, ⟨rfl, ?_, ⟨fun _ => ⟨⟨?_, ?_, ?_⟩, ?_, ?_⟩, rfl⟩⟩, ?_, ?_, ?_, ⟨⟨?_, ⟨?_, ?_, rfl⟩⟩, ?_⟩⟩
      · show (fd2 k l).o.send = true
        rw [e2]; rfl
      · show (fd2 k l).o.req.kind = k.kind
        rw [e2]; rfl
      · show (fd2 k l).o.req.group = _
        rw [e2]; rfl
      · show (fd2 k l).o.req.part.epoch = _
        rw [e2]
        exact cmdQ_epoch _ _
      · show CltOk (fd2 k l).c
        rw [e2]
        refine ⟨(by show 3 * 8 ≤ _; omega), (by show 0 * 16 ≤ _; omega), h.ck, (by show 1 * 40 ≤ _; omega), fun x hx => ?_⟩
        have hx' : x ∈ [(⟨k.topic, l⟩ : Tpc)] := hx
        obtain rfl : x = ⟨k.topic, l⟩ := by simpa using hx'
        exact ⟨by show l.length * 104 ≤ _; omega, h.s⟩
      · show ((fd2 k l).c.topics.length + 1) * 40 ≤ _
        rw [e2]
        show (1 + 1) * 40 ≤ _
        omega
      · show r.shards.length * 104 ≤ _
        have := h.rl
        omega
      · exact h.rs
      · show NodIn (finL ⟨(fd2 k l).c, default⟩ (fdr2 k l r))
        rw [e2]
        show NodIn (finL ⟨cS k l, default⟩ (fdr2 k l r))
        rw [finS k l _ h6']
        exact cS_in k l hl
      · show SndOk (finL ⟨(fd2 k l).c, default⟩ (fdr2 k l r))
        rw [e2]
        show SndOk (finL ⟨cS k l, default⟩ (fdr2 k l r))
        rw [finS k l _ h6']
        exact ⟨cS_in k l hl, h.ck, (by show 0 ≤ _; omega), (by show (0 : Int) ≤ 0; omega), (by show (0 : Int) < ((3 : Nat) : Int); omega)⟩
      · show (fd3 k l r).o.done = true
        rw [e3]; rfl
      · show (fd3 k l r).o.send = false
        rw [e3]; rfl
      · show (fd3 k l r).c.busy = false
        rw [e3]; rfl
      · show r.recs.length ≤ _
        exact h.rc
      · show r.shards.length ≤ _
        have := h.rl
        omega
      · exact shs_in h.rs
      · show (fd3 k l r).o.rep = fdr2 k l r
        rw [e3]; rfl
theorem finds_c (k : Cal) (l : List Shd) (r : Rep) (h : FiOk k l r) : (boolR true).Sat (ACall' Tryd.prog 6 [.agg (encCl k), encShs true l, .agg (encRp r)] []) := fn_c (fnd k l r) _ (fnd_ok k l r h)
end Go.Proofs.YtdpbogaldcpfeaaDoor.C

/-! From the statements to the laws: the data. -/
namespace Go.Proofs.YtdpbogaldcpfeaaDoor
open Go.Ax Go.Shelf Go.RowKit Go.ChangeShapes Go.WideShapes Go.ChangeAt
set_option maxRecDepth 1000000
def toI {K : Type} : DataW K → Int
  | .lit (.int _ a) => a
  | _ => 0
def toS {K : Type} : DataW K → ByteArray
  | .lit (.string l) => ⟨l.toArray⟩
  | _ => ByteArray.empty
def toB {K : Type} : DataW K → Bool
  | .lit (.bool b) => b
  | _ => false
theorem encI_ok {K : Type} {k : IntKind} {d : DataW K} (h : (Sh.int k).wf d) : (Sh.int k).enc d = [.y (.int k (toI d))] := by
  obtain ⟨k', n, rfl, _⟩ := h
  rfl
theorem encS_ok {K : Type} {d : DataW K} (h : Sh.str.wf d) : Sh.str.enc d = [.y (.string (toS d))] := by
  obtain ⟨l, rfl, _⟩ := h
  rfl
theorem encO_ok {K : Type} {d : DataW K} (h : Sh.bool.wf d) : Sh.bool.enc d = [.y (.bool (toB d))] := by
  obtain ⟨l, rfl⟩ := h
  rfl
theorem enc_st {K : Type} (fs : List Sh) (ds : List (DataW K)) : (Sh.st fs).enc (.agg ds) = Sh.encL fs ds := by simp only [Sh.enc]
theorem enc_cons {K : Type} (s : Sh) (r : List Sh) (d : DataW K) (ds : List (DataW K)) : Sh.encL (s :: r) (d :: ds) = s.enc d ++ Sh.encL r ds := by simp only [Sh.encL]
theorem enc_nil {K : Type} (l : List (DataW K)) : Sh.encL [] l = [] := by simp only [Sh.encL]
theorem relA {P : Program} {W : World} {r : Reach} {base : Nat} {t : TypeId} {v : Value} {fs : Array Field} {l : List AV} {H : HH} {E : Env} (hu : P.underlying t = some (.struct fs)) (hv : Value.okWide P W r base t v) (h : RelL l H E v.cells.toList) : Rel (.agg l) H E v := by
  obtain ⟨cs, rfl, _⟩ := okWide_struct hu hv
  exact ⟨cs, rfl, h⟩
theorem Tryd.own : ownKnob Tryd.prog.godebug = Option.none := by kernel_rfl
theorem Tryd.laidOut : laidOutB Tryd.prog = true := by kernel_rfl
theorem Tryd.mapsRowed : mapsRowed Tryd.prog = true := by kernel_rfl
theorem Tryd.slicesOk : slicesOk Tryd.prog = true := by kernel_rfl
theorem underBool : Tryd.prog.underlying 4 = some .bool := by kernel_rfl
def structTypes (P : Program) (t : TypeId) : Option (List TypeId) := match P.underlying t with | some (.struct fs) => some (fs.toList.map (·.type)) | _ => Option.none
theorem structTypes_ok {P : Program} {t : TypeId} {l : List TypeId} (h : structTypes P t = some l) : ∃ fs, P.underlying t = some (.struct fs) ∧ fs.toList.map (·.type) = l := by
  unfold structTypes at h
  split at h
  · rename_i fs hu
    exact ⟨fs, hu, Option.some.inj h⟩
  · cases h
end Go.Proofs.YtdpbogaldcpfeaaDoor
