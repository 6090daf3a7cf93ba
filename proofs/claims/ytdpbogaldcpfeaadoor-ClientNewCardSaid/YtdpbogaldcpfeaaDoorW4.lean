import Derived.Shelf.Sort.Plain
import Derived.Shelf.Slices.CompactI
import Derived.Sort.OwnSortedInts
import Derived.Test.YtdpbogaldcpfeaaDoorRows
import Derived.Test.YtdpbogaldcpfeaaDoorTie
import Derived.Test.YtdpbogaldcpfeaaDoorCards
import Derived.OpenShut
import Derived.Lay
import Derived.Handed
import Derived.SevenTiedAt
import Derived.Test.YtdpbogaldcpfeaaDoorE10
import Derived.Test.YtdpbogaldcpfeaaDoorW3
set_option linter.unusedVariables false
set_option linter.unusedSimpArgs false
set_option linter.unusedSectionVars false
/-! A client: New of three servers: the conditions. -/
namespace Go.Proofs.YtdpbogaldcpfeaaDoor.C
open Go.Ax
set_option maxRecDepth 1000000
def i3 : List Int := [1, 2, 3]
def o2 : AV := .own 2 1 0 3
def M2 : List Blk := [.dead, .dead, .row 3 1 3 none (cellsOf' encI i3)]
def uM2 : T An := .ret (.tup [], M2, [])
def vcLen (u : Unit) : Prop :=
  (2 : Int) = (2 : Int) ∧ True
set_option maxRecDepth 1000000 in
theorem vcLen_eq (u : Unit) : (ctrVC Tryd.prog (hT _) 32 [.s (.int .u64 3)] [] (.ret (.s (.int .i64 2), [], []))) = vcLen u := by kernel_rfl
theorem len_c : (T.ret (.s (.int .i64 2), [], []) : T An).Sat (ACall' Tryd.prog 32 [.s (.int .u64 3)] []) := by
  refine ctr_vc (ht := hT _) Tryd.mixed rfl ?_
  rw [vcLen_eq ()]
  unfold vcLen
  simp
noncomputable def lenK : Ctr Tryd.prog := ⟨32, [.s (.int .u64 3)], [], .ret (.s (.int .i64 2), [], []), len_c⟩
noncomputable def pdqH : HintsT Tryd.prog := withSub (hT _) [46]
def vcPdq_q5 : Prop := ((3 : Nat) = (3 : Nat) ∧ contLe (3 : Nat) (1 : Nat) (wrRow (wrRow (wrRow (wrRow (wrRow (wrRow (cellsOf' encI [(1 : Int), (2 : Int), (3 : Int)]) (1 : Nat) (0 : Nat) [AV.y (Value.int IntKind.i64 (1 : Int))]) (0 : Nat) (0 : Nat) [AV.y (Value.int IntKind.i64 (2 : Int))]) (2 : Nat) (0 : Nat) [AV.y (Value.int IntKind.i64 (1 : Int))]) (1 : Nat) (0 : Nat) [AV.y (Value.int IntKind.i64 (3 : Int))]) (1 : Nat) (0 : Nat) [AV.y (Value.int IntKind.i64 (2 : Int))]) (0 : Nat) (0 : Nat) [AV.y (Value.int IntKind.i64 (3 : Int))]) (cellsOf' encI [(1 : Int), (2 : Int), (3 : Int)]))
def vcPdq_q10 : Prop := (false = true → true = true ∧ true = true ∧ true = true ∧ true = true ∧ true = true ∧ true = true ∧ true = true ∧ true = true ∧ True ∧ (vcPdq_q5) ∧ True)
def vcPdq_q7 : Prop := (false = false → True ∧ ((3 : Nat) = (3 : Nat) ∧ contLe (3 : Nat) (1 : Nat) (wrRow (wrRow (wrRow (wrRow (cellsOf' encI [(1 : Int), (2 : Int), (3 : Int)]) (1 : Nat) (0 : Nat) [AV.y (Value.int IntKind.i64 (1 : Int))]) (0 : Nat) (0 : Nat) [AV.y (Value.int IntKind.i64 (2 : Int))]) (2 : Nat) (0 : Nat) [AV.y (Value.int IntKind.i64 (1 : Int))]) (1 : Nat) (0 : Nat) [AV.y (Value.int IntKind.i64 (3 : Int))]) (cellsOf' encI [(1 : Int), (2 : Int), (3 : Int)])) ∧ True)
def vcPdq_q1 : Prop := (false = true → true = true ∧ true = true ∧ true = true ∧ true = true ∧ true = true ∧ true = true ∧ true = true ∧ true = true ∧ true = true ∧ true = true ∧ true = true ∧ true = true ∧ (false = true → (true = true → true = true ∧ true = true ∧ true = true ∧ true = true ∧ true = true ∧ true = true ∧ true = true ∧ true = true ∧ True ∧ (vcPdq_q5) ∧ True) ∧ (true = false → (vcPdq_q10) ∧ (vcPdq_q7))) ∧ (false = false → (vcPdq_q10) ∧ (vcPdq_q7)))
def vcPdq_q4 : Prop := ((3 : Nat) = (3 : Nat) ∧ contLe (3 : Nat) (1 : Nat) (wrRow (wrRow (wrRow (wrRow (cellsOf' encI [(1 : Int), (2 : Int), (3 : Int)]) (2 : Nat) (0 : Nat) [AV.y (Value.int IntKind.i64 (2 : Int))]) (1 : Nat) (0 : Nat) [AV.y (Value.int IntKind.i64 (3 : Int))]) (1 : Nat) (0 : Nat) [AV.y (Value.int IntKind.i64 (1 : Int))]) (0 : Nat) (0 : Nat) [AV.y (Value.int IntKind.i64 (3 : Int))]) (cellsOf' encI [(1 : Int), (2 : Int), (3 : Int)]))
def vcPdq_q11 : Prop := (false = true → true = true ∧ true = true ∧ true = true ∧ true = true ∧ true = true ∧ true = true ∧ true = true ∧ true = true ∧ True ∧ (vcPdq_q4) ∧ True)
def vcPdq_q6 : Prop := (false = false → True ∧ ((3 : Nat) = (3 : Nat) ∧ contLe (3 : Nat) (1 : Nat) (wrRow (wrRow (cellsOf' encI [(1 : Int), (2 : Int), (3 : Int)]) (2 : Nat) (0 : Nat) [AV.y (Value.int IntKind.i64 (2 : Int))]) (1 : Nat) (0 : Nat) [AV.y (Value.int IntKind.i64 (3 : Int))]) (cellsOf' encI [(1 : Int), (2 : Int), (3 : Int)])) ∧ True)
def vcPdq_q9 : Prop := (false = true → true = true ∧ true = true ∧ true = true ∧ true = true ∧ true = true ∧ true = true ∧ true = true ∧ true = true ∧ true = true ∧ true = true ∧ true = true ∧ true = true ∧ (false = true → (true = true → true = true ∧ true = true ∧ true = true ∧ true = true ∧ true = true ∧ true = true ∧ true = true ∧ true = true ∧ True ∧ (vcPdq_q4) ∧ True) ∧ (true = false → (vcPdq_q11) ∧ (vcPdq_q6))) ∧ (false = false → (vcPdq_q11) ∧ (vcPdq_q6)))
def vcPdq_q2 : Prop := (false = false → true = true ∧ true = true ∧ true = true ∧ true = true ∧ (false = true → (true = true → true = true ∧ true = true ∧ true = true ∧ true = true ∧ true = true ∧ true = true ∧ true = true ∧ true = true ∧ true = true ∧ true = true ∧ true = true ∧ true = true ∧ (false = true → (true = true → true = true ∧ true = true ∧ true = true ∧ true = true ∧ true = true ∧ true = true ∧ true = true ∧ true = true ∧ True ∧ (vcPdq_q4) ∧ True) ∧ (true = false → (vcPdq_q11) ∧ (vcPdq_q6))) ∧ (false = false → (vcPdq_q11) ∧ (vcPdq_q6))) ∧ (true = false → (vcPdq_q9) ∧ (false = false → True ∧ ((3 : Nat) = (3 : Nat) ∧ contLe (3 : Nat) (1 : Nat) (cellsOf' encI [(1 : Int), (2 : Int), (3 : Int)]) (cellsOf' encI [(1 : Int), (2 : Int), (3 : Int)])) ∧ True))) ∧ (false = false → (vcPdq_q9) ∧ (false = false → True ∧ ((3 : Nat) = (3 : Nat) ∧ contLe (3 : Nat) (1 : Nat) (cellsOf' encI [(1 : Int), (2 : Int), (3 : Int)]) (cellsOf' encI [(1 : Int), (2 : Int), (3 : Int)])) ∧ True)))
def vcPdq_q8 : Prop := (false = false → True ∧ ((3 : Nat) = (3 : Nat) ∧ contLe (3 : Nat) (1 : Nat) (wrRow (wrRow (cellsOf' encI [(1 : Int), (2 : Int), (3 : Int)]) (1 : Nat) (0 : Nat) [AV.y (Value.int IntKind.i64 (1 : Int))]) (0 : Nat) (0 : Nat) [AV.y (Value.int IntKind.i64 (2 : Int))]) (cellsOf' encI [(1 : Int), (2 : Int), (3 : Int)])) ∧ True)
def vcPdq_q3 : Prop := (false = true → (true = true → true = true ∧ true = true ∧ true = true ∧ true = true ∧ true = true ∧ true = true ∧ true = true ∧ true = true ∧ true = true ∧ true = true ∧ true = true ∧ true = true ∧ (false = true → (true = true → true = true ∧ true = true ∧ true = true ∧ true = true ∧ true = true ∧ true = true ∧ true = true ∧ true = true ∧ True ∧ (vcPdq_q5) ∧ True) ∧ (true = false → (vcPdq_q10) ∧ (vcPdq_q7))) ∧ (false = false → (vcPdq_q10) ∧ (vcPdq_q7))) ∧ (true = false → (vcPdq_q1) ∧ (vcPdq_q8)))
def vcPdq (u : Unit) : Prop :=
  true = true ∧ true = true ∧ true = true ∧ true = true ∧ (false = true → (true = true → true = true ∧ true = true ∧ true = true ∧ true = true ∧ true = true ∧ true = true ∧ true = true ∧ true = true ∧ true = true ∧ true = true ∧ true = true ∧ true = true ∧ (vcPdq_q3) ∧ (false = false → (vcPdq_q1) ∧ (vcPdq_q8))) ∧ (true = false → (false = true → true = true ∧ true = true ∧ true = true ∧ true = true ∧ true = true ∧ true = true ∧ true = true ∧ true = true ∧ true = true ∧ true = true ∧ true = true ∧ true = true ∧ (vcPdq_q3) ∧ (false = false → (vcPdq_q1) ∧ (vcPdq_q8))) ∧ (vcPdq_q2))) ∧ (false = false → (false = true → true = true ∧ true = true ∧ true = true ∧ true = true ∧ true = true ∧ true = true ∧ true = true ∧ true = true ∧ true = true ∧ true = true ∧ true = true ∧ true = true ∧ (vcPdq_q3) ∧ (false = false → (vcPdq_q1) ∧ (vcPdq_q8))) ∧ (vcPdq_q2))
set_option maxRecDepth 1000000 in
theorem vcPdq_eq (u : Unit) : (ctrVCg Tryd.prog pdqH 31 [o2, .s (.int .i64 0), .s (.int .i64 3), .s (.int .i64 2)] M2 uM2) = vcPdq u := by kernel_rfl
end Go.Proofs.YtdpbogaldcpfeaaDoor.C

/-! A client: New of three servers: sorted, compact: the conditions. -/
namespace Go.Proofs.YtdpbogaldcpfeaaDoor.C
open Go.Ax
set_option maxRecDepth 1000000
theorem pdq_c : uM2.Sat (ACall' Tryd.prog 31 [o2, .s (.int .i64 0), .s (.int .i64 3), .s (.int .i64 2)] M2) := by
  refine ctr_vcg (ht := pdqH) Tryd.mixed rfl ?_
  rw [vcPdq_eq ()]
  unfold vcPdq vcPdq_q3 vcPdq_q8 vcPdq_q2 vcPdq_q9 vcPdq_q6 vcPdq_q11 vcPdq_q4 vcPdq_q1 vcPdq_q7 vcPdq_q10 vcPdq_q5
  simp
noncomputable def pdqK : Ctr Tryd.prog := ⟨31, [o2, .s (.int .i64 0), .s (.int .i64 3), .s (.int .i64 2)], M2, uM2, pdq_c⟩
noncomputable def srtH : HintsT Tryd.prog := withSub (hh _ noLp (cs1 17 1 4 lenK (cs1 17 1 5 pdqK noCs)) noOp) [31]
def vcSrt (u : Unit) : Prop :=
  ((3 : Int) = (3 : Int) ∧ True) ∧ True ∧ (((0 : Nat) = (0 : Nat) ∧ (3 : Nat) = (3 : Nat)) ∧ (0 : Int) = (0 : Int) ∧ (3 : Int) = (3 : Int) ∧ (2 : Int) = (2 : Int) ∧ True) ∧ (((3 : Nat) = (3 : Nat) ∧ contLe (3 : Nat) (1 : Nat) (cellsOf' encI [(1 : Int), (2 : Int), (3 : Int)]) (cellsOf' encI [(1 : Int), (2 : Int), (3 : Int)])) ∧ True) ∧ True ∧ ((3 : Nat) = (3 : Nat) ∧ contLe (3 : Nat) (1 : Nat) (cellsOf' encI [(1 : Int), (2 : Int), (3 : Int)]) (cellsOf' encI [(1 : Int), (2 : Int), (3 : Int)])) ∧ True
set_option maxRecDepth 1000000 in
theorem vcSrt_eq (u : Unit) : (ctrVCg Tryd.prog srtH 17 [o2] M2 uM2) = vcSrt u := by kernel_rfl
theorem srt_c : uM2.Sat (ACall' Tryd.prog 17 [o2] M2) := by
  refine ctr_vcg (ht := srtH) Tryd.mixed rfl ?_
  rw [vcSrt_eq ()]
  unfold vcSrt
  simp
noncomputable def srtK : Ctr Tryd.prog := ⟨17, [o2], M2, uM2, srt_c⟩
/-! no two neighbours are equal -/
def cpT (k : Nat) : List AV := mkT 61 [(0, o2), (3, .y (.int .i64 ((k + 1 : Nat) : Int)))]
def cpM (_ : Nat) : List Blk := M2
def cpS (_ : Unit) : Exit × List AV × List Blk := (.exit 0, mkT 61 [(0, o2)], M2)
noncomputable def cpH (_ : Nat) : HintsT Tryd.prog := hh _ (lp1 21 9 (jobOf (fun _ : Nat => mkT 61 []) (fun _ => []) [0, 1, 2, 3, 4, 5] (fun _ => .ret ()) (fun _ => (.exit 2, mkT 61 [], [])) 0) noLp) noCs noOp
def vcCpL (k : Nat) : Prop :=
  (decide ((↑(k + (1 : Nat)) : Int) < (3 : Int)) = true → (true && decide ((↑(k + (1 : Nat)) : Int) < (3 : Int))) = true ∧ decide ((0 : Nat) + Int.toNat (↑(k + (1 : Nat)) : Int) < (3 : Nat)) = true ∧ (decide ((0 : Int) ≤ IntKind.wrap IntKind.i64 ((↑(k + (1 : Nat)) : Int) - (1 : Int))) && decide (IntKind.wrap IntKind.i64 ((↑(k + (1 : Nat)) : Int) - (1 : Int)) < (3 : Int))) = true ∧ decide ((0 : Nat) + Int.toNat (IntKind.wrap IntKind.i64 ((↑(k + (1 : Nat)) : Int) - (1 : Int))) < (3 : Nat)) = true ∧ ((List.getD [(1 : Int), (2 : Int), (3 : Int)] ((0 : Nat) + Int.toNat (↑(k + (1 : Nat)) : Int)) (0 : Int) == List.getD [(1 : Int), (2 : Int), (3 : Int)] ((0 : Nat) + Int.toNat (IntKind.wrap IntKind.i64 ((↑(k + (1 : Nat)) : Int) - (1 : Int)))) (0 : Int)) = true → (true && decide ((↑(k + (1 : Nat)) : Int) ≤ (3 : Int)) && true) = true ∧ (True ∧ True ∧ true = true) ∧ LoopOk Tryd.prog (21 : Nat) (9 : Nat) (loopAt Tryd.prog (21 : Nat) (9 : Nat)) { t := mkT (61 : Nat) [], m := [], mv := [] : St } (T.map (lout [(0 : Nat), (1 : Nat), (2 : Nat), (3 : Nat), (4 : Nat), (5 : Nat)] fun (x : Unit) => (Exit.exit (2 : Nat), mkT (61 : Nat) [], [])) ((fun (x : Nat) => T.ret ()) (0 : Nat))) ∧ False) ∧ ((List.getD [(1 : Int), (2 : Int), (3 : Int)] ((0 : Nat) + Int.toNat (↑(k + (1 : Nat)) : Int)) (0 : Int) == List.getD [(1 : Int), (2 : Int), (3 : Int)] ((0 : Nat) + Int.toNat (IntKind.wrap IntKind.i64 ((↑(k + (1 : Nat)) : Int) - (1 : Int)))) (0 : Int)) = false → ∃ (j : Nat), (3 : Nat) - j < (3 : Nat) - k ∧ ((((0 : Nat) = (0 : Nat) ∧ (3 : Nat) = (3 : Nat)) ∧ IntKind.wrap IntKind.i64 ((↑(k + (1 : Nat)) : Int) + (1 : Int)) = (↑(j + (1 : Nat)) : Int) ∧ True) ∧ (((3 : Nat) = (3 : Nat) ∧ contLe (3 : Nat) (1 : Nat) (cellsOf' encI [(1 : Int), (2 : Int), (3 : Int)]) (cellsOf' encI [(1 : Int), (2 : Int), (3 : Int)])) ∧ True) ∧ true = true) ∧ true = true ∧ () = ())) ∧ (decide ((↑(k + (1 : Nat)) : Int) < (3 : Int)) = false → (((0 : Nat) = (0 : Nat) ∧ (3 : Nat) = (3 : Nat)) ∧ True) ∧ (((3 : Nat) = (3 : Nat) ∧ contLe (3 : Nat) (1 : Nat) (cellsOf' encI [(1 : Int), (2 : Int), (3 : Int)]) (cellsOf' encI [(1 : Int), (2 : Int), (3 : Int)])) ∧ True) ∧ true = true)
set_option maxRecDepth 1000000 in
theorem vcCpL_eq (k : Nat) : (loopVC Tryd.prog (cpH k) 21 4 (fun k => 3 - k) cpT cpM [] (fun _ => .ret ()) cpS k) = vcCpL k := by kernel_rfl
noncomputable def cmpH : HintsT Tryd.prog := hh _ (lp1 21 4 (jobOf cpT cpM [] (fun _ => .ret ()) cpS 0) noLp) noCs noOp
def cmpR : T An := .ret (o2, M2, [])
def vcCmp (u : Unit) : Prop :=
  (false = true → ((0 : Nat) = (0 : Nat) ∧ (3 : Nat) = (3 : Nat)) ∧ ((3 : Nat) = (3 : Nat) ∧ contLe (3 : Nat) (1 : Nat) (cellsOf' encI [(1 : Int), (2 : Int), (3 : Int)]) (cellsOf' encI [(1 : Int), (2 : Int), (3 : Int)])) ∧ True) ∧ (false = false → ((((0 : Nat) = (0 : Nat) ∧ (3 : Nat) = (3 : Nat)) ∧ (1 : Int) = (1 : Int) ∧ True) ∧ (((3 : Nat) = (3 : Nat) ∧ contLe (3 : Nat) (1 : Nat) (cellsOf' encI [(1 : Int), (2 : Int), (3 : Int)]) (cellsOf' encI [(1 : Int), (2 : Int), (3 : Int)])) ∧ True) ∧ true = true) ∧ LoopOk Tryd.prog (21 : Nat) (4 : Nat) (loopAt Tryd.prog (21 : Nat) (4 : Nat)) { t := cpT (0 : Nat), m := cpM (0 : Nat), mv := [] : St } (T.map (lout [] cpS) ((fun (x : Nat) => T.ret ()) (0 : Nat))) ∧ ((0 : Nat) = (0 : Nat) ∧ (3 : Nat) = (3 : Nat)) ∧ ((3 : Nat) = (3 : Nat) ∧ contLe (3 : Nat) (1 : Nat) (cellsOf' encI [(1 : Int), (2 : Int), (3 : Int)]) (cellsOf' encI [(1 : Int), (2 : Int), (3 : Int)])) ∧ True)
set_option maxRecDepth 1000000 in
theorem vcCmp_eq (u : Unit) : (ctrVCg Tryd.prog cmpH 21 [o2] M2 cmpR) = vcCmp u := by kernel_rfl
/-! are all servers? -/
def srvB (id n : Int) : Bool := !(decide (1 ≤ n) && (decide (n ≤ 7) && !(n == id)))
def nwE (id : Int) : List AV := [.ip false 1 (get [.y (.int .i64 id)])]
def vcNw1 (id : Int) (n : Int) : Prop :=
  (decide ((1 : Int) ≤ n) = true → (decide (n ≤ (7 : Int)) = true → (!n != id) = srvB id n ∧ True) ∧ (decide (n ≤ (7 : Int)) = false → true = srvB id n ∧ True)) ∧ (decide ((1 : Int) ≤ n) = false → true = srvB id n ∧ True)
set_option maxRecDepth 1000000 in
theorem vcNw1_eq (id : Int) (n : Int) : (ctrVC Tryd.prog (hT _) 19 ([.y (.int .i64 n)] ++ nwE id) [] (boolR (srvB id n))) = vcNw1 id n := by kernel_rfl
theorem nw1_c (id n : Int) : (boolR (srvB id n)).Sat (ACall' Tryd.prog 19 ([.y (.int .i64 n)] ++ nwE id) []) := by
  refine ctr_vc (ht := hT _) Tryd.mixed rfl ?_
  rw [vcNw1_eq id n]
  unfold vcNw1 srvB
  by_cases h1 : 1 ≤ n <;> by_cases h2 : n ≤ 7 <;> by_cases h3 : n = id <;> (simp [h1, h2, h3]; try rfl)
/-! slices.IndexFunc, ContainsFunc over int by gazette/client.New$1 -/
def nwFn (id : Int) : AV := .fn (.func 19) [] (nwE id)
def nwAny (id : Int) (l : List Int) : Bool := l.any (srvB id)
theorem nwAny_nil (id : Int) : nwAny id [] = false := rfl
theorem nwAny_cons (id : Int) (y : Int) (l : List Int) : nwAny id (y :: l) = (srvB id y || nwAny id l) := rfl
noncomputable def nwC (id : Int) (x : Int) : Ctr Tryd.prog := ⟨19, [.y (.int .i64 x)] ++ (nwE id), [], .need (True) (boolR (srvB id x)), T.Sat.need fun h => nw1_c id x⟩
def nwT (id : Int) (bb : Bool) (l : List Int) (k : Nat) : List AV := mkT 19 [(0, .ys bb 1 l.length (cellsOf' encI l)), (1, nwFn id), (4, .s (.int .i64 0)), (7, .y (.int .i64 l.length)), (8, .y (.int .i64 k))]
def nwS (r : Bool × Nat) : Exit × List AV × List Blk := match r.1 with
  | true => (.ret, mkT 19 [(4, .y (.int .i64 r.2))], [])
  | false => (.exit 0, mkT 19 [], [])
def nwO (id : Int) (l : List Int) (k : Nat) : T (Bool × Nat) := .ite (nwAny id (l.drop k)) (.ret (true, k + (l.drop k).findIdx (srvB id))) (.ret (false, 0))
noncomputable def nwHL (id : Int) (l : List Int) (k : Nat) : HintsT Tryd.prog := hh _ noLp (cs1 33 4 5 (nwC id (l.getD k default)) noCs) noOp
def vcnwL (id : Int) (bb : Bool) (l : List Int) (k : Nat) : Prop :=
  (decide ((↑k : Int) < (↑(List.length l) : Int)) = true → (true && decide ((↑k : Int) < (↑(List.length l) : Int))) = true ∧ (List.getD l (Int.toNat (↑k : Int)) (0 : Int) = List.getD l k (0 : Int) ∧ (false = false ∧ (1 : Nat) ≤ (1 : Nat) ∧ cellLe (1 : Nat) (Ax.get [AV.y (Value.int IntKind.i64 id)]) (Ax.get [AV.y (Value.int IntKind.i64 id)])) ∧ True) ∧ True ∧ True ∧ (srvB id (List.getD l k (0 : Int)) = true → (nwAny id (List.drop k l) = true → ((↑k : Int) = (↑(k + List.findIdx (srvB id) (List.drop k l)) : Int) ∧ True) ∧ True ∧ true = true) ∧ (nwAny id (List.drop k l) = false → False)) ∧ (srvB id (List.getD l k (0 : Int)) = false → ∃ (j : Nat), List.length l - j < List.length l - k ∧ (((bb = bb ∧ List.length l = List.length l ∧ contLe (List.length l) (1 : Nat) (cellsOf' encI l) (cellsOf' encI l)) ∧ (True ∧ (false = false ∧ (1 : Nat) ≤ (1 : Nat) ∧ cellLe (1 : Nat) (Ax.get [AV.y (Value.int IntKind.i64 id)]) (Ax.get [AV.y (Value.int IntKind.i64 id)])) ∧ True) ∧ (0 : Int) = (0 : Int) ∧ (↑(List.length l) : Int) = (↑(List.length l) : Int) ∧ IntKind.wrap IntKind.i64 ((↑k : Int) + (1 : Int)) = (↑j : Int) ∧ True) ∧ True ∧ true = true) ∧ true = true ∧ (nwAny id (List.drop j l) = true → (nwAny id (List.drop k l) = true → (true, j + List.findIdx (srvB id) (List.drop j l)) = (true, k + List.findIdx (srvB id) (List.drop k l))) ∧ (nwAny id (List.drop k l) = false → (true, j + List.findIdx (srvB id) (List.drop j l)) = (false, (0 : Nat)))) ∧ (nwAny id (List.drop j l) = false → (nwAny id (List.drop k l) = true → (false, (0 : Nat)) = (true, k + List.findIdx (srvB id) (List.drop k l))) ∧ (nwAny id (List.drop k l) = false → (false, (0 : Nat)) = (false, (0 : Nat)))))) ∧ (decide ((↑k : Int) < (↑(List.length l) : Int)) = false → (nwAny id (List.drop k l) = true → False) ∧ (nwAny id (List.drop k l) = false → True ∧ True ∧ true = true))
set_option maxRecDepth 1000000 in
theorem vcnwL_eq (id : Int) (bb : Bool) (l : List Int) (k : Nat) : (loopVC Tryd.prog (nwHL id l k) 33 2 (fun k => l.length - k) (nwT id bb l) (fun _ => []) [0] (nwO id l) nwS k) = vcnwL id bb l k := by kernel_rfl
theorem nw_loop (id : Int) (bb : Bool) (l : List Int) (hl : l.length ≤ 9223372036854775806) (hn : ∀ k, k < l.length → True) (k : Nat) : LoopOk Tryd.prog 33 2 (loopAt Tryd.prog 33 2) ⟨nwT id bb l k, [], []⟩ ((nwO id l k).map (lout [0] nwS)) := by
  refine loop_vcH (ht := fun k => nwHL id l k) Tryd.mixed (fun _ => rfl) (fun k => (vcnwL_eq id bb l k).mpr ?_) k
  unfold vcnwL
  by_cases h : k < l.length
  · have hw : IntKind.i64.wrap ((k : Int) + 1) = ((k + 1 : Nat) : Int) := by rw [wrap_i64 (by omega) (by omega)]; omega
    have hz : decide ((k : Int) < l.length) = true := by simp; omega
    have hd : l.drop k = l.getD k default :: l.drop (k + 1) := by rw [drop_cons h]; simp
    have hk := hn k h
    rw [Int.toNat_natCast]
    simp only [hz, hd, nwAny_cons, List.findIdx_cons]
    generalize l.getD k default = y at *
    cases hp : srvB id y
    · simp [hw, hk]
      exact ⟨k + 1, by omega, by omega, by grind⟩
    · simp [hk]
  · have hz : decide ((k : Int) < l.length) = false := by simp; omega
    simp only [hz, drop_end (Nat.le_of_not_lt h), nwAny_nil]
    simp
noncomputable def nwH (id : Int) (bb : Bool) (l : List Int) : HintsT Tryd.prog := hh _ (lp1 33 2 (jobOf (nwT id bb l) (fun _ => []) [0] (nwO id l) nwS 0) noLp) noCs noOp
def vcnwF (id : Int) (bb : Bool) (l : List Int) : Prop :=
  (((bb = bb ∧ List.length l = List.length l ∧ contLe (List.length l) (1 : Nat) (cellsOf' encI l) (cellsOf' encI l)) ∧ (True ∧ (false = false ∧ (1 : Nat) ≤ (1 : Nat) ∧ cellLe (1 : Nat) (Ax.get [AV.y (Value.int IntKind.i64 id)]) (Ax.get [AV.y (Value.int IntKind.i64 id)])) ∧ True) ∧ (0 : Int) = (0 : Int) ∧ (↑(List.length l) : Int) = (↑(List.length l) : Int) ∧ (0 : Int) = (0 : Int) ∧ True) ∧ True ∧ true = true) ∧ LoopOk Tryd.prog (33 : Nat) (2 : Nat) (loopAt Tryd.prog (33 : Nat) (2 : Nat)) { t := nwT id bb l (0 : Nat), m := [], mv := [] : St } (T.map (lout [(0 : Nat)] nwS) (nwO id l (0 : Nat))) ∧ (nwAny id (List.drop (0 : Nat) l) = true → true = nwAny id l ∧ True) ∧ (nwAny id (List.drop (0 : Nat) l) = false → false = nwAny id l ∧ True)
set_option maxRecDepth 1000000 in
theorem vcnwF_eq (id : Int) (bb : Bool) (l : List Int) : (ctrVC Tryd.prog (nwH id bb l) 18 [.ys bb 1 l.length (cellsOf' encI l), nwFn id] [] (boolR (nwAny id l))) = vcnwF id bb l := by kernel_rfl
theorem nw_has (id : Int) (bb : Bool) (l : List Int) (hl : l.length ≤ 9223372036854775806) (hn : ∀ k, k < l.length → True) : (boolR (nwAny id l)).Sat (ACall' Tryd.prog 18 [.ys bb 1 l.length (cellsOf' encI l), nwFn id] []) := by
  refine ctr_vc (ht := nwH id bb l) Tryd.mixed rfl ?_
  rw [vcnwF_eq id bb l]
  unfold vcnwF
  have := nw_loop id bb l hl hn 0
  simp [this]
noncomputable def nwHas (id : Int) (bb : Bool) (l : List Int) : Ctr Tryd.prog := ⟨18, [.ys bb 1 l.length (cellsOf' encI l), nwFn id], [], .need (l.length ≤ 9223372036854775806 ∧ ∀ k, k < l.length → True) (boolR (nwAny id l)), T.Sat.need fun h => nw_has id bb l h.1 h.2⟩
end Go.Proofs.YtdpbogaldcpfeaaDoor.C

/-! A client: New of three servers. -/
namespace Go.Proofs.YtdpbogaldcpfeaaDoor.C
open Go.Ax
set_option maxRecDepth 1000000
theorem cp_loop (k : Nat) : LoopOk Tryd.prog 21 4 (loopAt Tryd.prog 21 4) ⟨cpT k, cpM k, []⟩ (T.map (lout [] cpS) (.ret ())) := by
  refine loop_vcH (P := Tryd.prog) (f := 21) (k := 4) (ι := Nat) (μ := fun k => 3 - k) (o := fun _ => .ret ()) (ht := cpH) (stT := cpT) (stM := cpM) (X := []) (S := cpS) Tryd.mixed (fun _ => rfl) (fun k => ?_) k
  rw [vcCpL_eq k]
  unfold vcCpL
  have w0 : IntKind.i64.wrap 0 = 0 := by decide
  have w1 : IntKind.i64.wrap 1 = 1 := by decide
  have w2 : IntKind.i64.wrap 2 = 2 := by decide
  have w3 : IntKind.i64.wrap 3 = 3 := by decide
  by_cases hk : k < 2
  · have h01 : k = 0 ∨ k = 1 := by omega
    rcases h01 with rfl | rfl
    · simp [w0, w1, w2, w3]
      exact ⟨1, by omega, by omega⟩
    · simp [w0, w1, w2, w3]
      exact ⟨2, by omega, by omega⟩
  · have hz : decide (((k + 1 : Nat) : Int) < 3) = false := by simp; omega
    simp only [hz]
    simp
theorem cmp_c : cmpR.Sat (ACall' Tryd.prog 21 [o2] M2) := by
  refine ctr_vcg (ht := cmpH) Tryd.mixed rfl ?_
  rw [vcCmp_eq ()]
  unfold vcCmp
  have lp := cp_loop 0
  simp [lp]
noncomputable def cmpK : Ctr Tryd.prog := ⟨21, [o2], M2, cmpR, cmp_c⟩
def l3 : AV := .ys false 1 3 (cellsOf' encI i3)
def clt0 (p : Int) : Clt := { (default : Clt) with id := 4, servers := i3, prod := p }
def newR (p : Int) : T An := .ret (.tup [.agg (encC0 true (clt0 p)), .s (.int .i64 0)], [], [])
noncomputable def newH : HintsT Tryd.prog := withSub (hh _ noLp (cs1 9 2 1 srtK (cs1 9 7 2 (nwHas 4 false i3) (cs1 9 8 1 cmpK (cs1 9 10 2 (clI false i3) noCs)))) noOp) [17, 21]
def vcNew_q1 (p : Int) : Prop := (((0 : Int) = (4 : Int) ∧ (3 : Nat) = (0 : Nat) ∧ (0 : Int) = p ∧ (0 : Int) = (0 : Int) ∧ (0 : Nat) = (0 : Nat) ∧ (0 : Nat) = (0 : Nat) ∧ false = false ∧ (0 : Int) = (0 : Int) ∧ { data := #[] : ByteArray } = ByteArray.empty ∧ { data := #[] : ByteArray } = ByteArray.empty ∧ (0 : Nat) = (0 : Nat) ∧ (0 : Int) = (0 : Int) ∧ (0 : Int) = (0 : Int) ∧ { data := #[] : ByteArray } = ByteArray.empty ∧ (0 : Int) = (0 : Int) ∧ (0 : Int) = (0 : Int) ∧ (0 : Int) = (0 : Int) ∧ { data := #[] : ByteArray } = ByteArray.empty ∧ (0 : Nat) = (0 : Nat) ∧ (0 : Int) = (0 : Int) ∧ (0 : Int) = (0 : Int) ∧ { data := #[] : ByteArray } = ByteArray.empty ∧ (0 : Int) = (0 : Int) ∧ (0 : Int) = (0 : Int) ∧ (0 : Int) = (0 : Int) ∧ (0 : Int) = (0 : Int) ∧ (0 : Int) = (0 : Int) ∧ false = false ∧ (0 : Int) = (0 : Int) ∧ (0 : Int) = (0 : Int) ∧ (0 : Int) = (0 : Int) ∧ false = false ∧ (0 : Int) = (0 : Int) ∧ True) ∧ (1 : Int) = (0 : Int) ∧ True)
def vcNew (p : Int) : Prop :=
  (false = true → (False ∧ True) ∧ False ∧ (vcNew_q1 p) ∧ True) ∧ (false = false → true = true ∧ (((0 : Nat) = (0 : Nat) ∧ (3 : Nat) = (3 : Nat)) ∧ True) ∧ (((3 : Nat) = (3 : Nat) ∧ contLe (3 : Nat) (1 : Nat) (appRow (0 : Nat) (fun (k j : Nat) => AV.junk) (cellsOf' encI [(1 : Int), (2 : Int), (3 : Int)])) (cellsOf' encI [(1 : Int), (2 : Int), (3 : Int)])) ∧ True) ∧ (false = true → (vcNew_q1 p) ∧ True) ∧ (false = false → ((p == (0 : Int)) = true → (vcNew_q1 p) ∧ True) ∧ ((p == (0 : Int)) = false → ((false = false ∧ (3 : Nat) = (3 : Nat) ∧ contLe (3 : Nat) (1 : Nat) (Ax.rowAt (0 : Nat) (cellsOf' encI [(1 : Int), (2 : Int), (3 : Int)])) (cellsOf' encI [(1 : Int), (2 : Int), (3 : Int)])) ∧ (True ∧ (false = false ∧ (1 : Nat) ≤ (1 : Nat) ∧ cellLe (1 : Nat) (fun (j : Nat) => Ax.get [AV.s (Value.int IntKind.i64 (4 : Int))] ((0 : Nat) + j)) (Ax.get [AV.y (Value.int IntKind.i64 (4 : Int))])) ∧ True) ∧ True) ∧ True ∧ ((3 : Nat) ≤ (9223372036854775806 : Nat) ∧ ∀ (k : Nat), k < (3 : Nat) → True) ∧ true = true ∧ True ∧ (false = true → (vcNew_q1 p) ∧ True) ∧ (false = false → (((0 : Nat) = (0 : Nat) ∧ (3 : Nat) = (3 : Nat)) ∧ True) ∧ (((3 : Nat) = (3 : Nat) ∧ contLe (3 : Nat) (1 : Nat) (cellsOf' encI [(1 : Int), (2 : Int), (3 : Int)]) (cellsOf' encI [(1 : Int), (2 : Int), (3 : Int)])) ∧ True) ∧ (false = true → (vcNew_q1 p) ∧ True) ∧ (false = false → ((false = false ∧ (3 : Nat) = (3 : Nat) ∧ contLe (3 : Nat) (1 : Nat) (cellsOf' encI [(1 : Int), (2 : Int), (3 : Int)]) (cellsOf' encI [(1 : Int), (2 : Int), (3 : Int)])) ∧ True) ∧ True ∧ (24 : Nat) ≤ (140737488355328 : Nat) ∧ (((4 : Int) = (4 : Int) ∧ (true = true ∧ (3 : Nat) = (3 : Nat) ∧ contLe (3 : Nat) (1 : Nat) (cellsOf' encI [(1 : Int), (2 : Int), (3 : Int)]) (cellsOf' encI [(1 : Int), (2 : Int), (3 : Int)])) ∧ p = p ∧ (0 : Int) = (0 : Int) ∧ (0 : Nat) = (0 : Nat) ∧ (0 : Nat) = (0 : Nat) ∧ false = false ∧ (0 : Int) = (0 : Int) ∧ { data := #[] : ByteArray } = ByteArray.empty ∧ { data := #[] : ByteArray } = ByteArray.empty ∧ (0 : Nat) = (0 : Nat) ∧ (0 : Int) = (0 : Int) ∧ (0 : Int) = (0 : Int) ∧ { data := #[] : ByteArray } = ByteArray.empty ∧ (0 : Int) = (0 : Int) ∧ (0 : Int) = (0 : Int) ∧ (0 : Int) = (0 : Int) ∧ { data := #[] : ByteArray } = ByteArray.empty ∧ (0 : Nat) = (0 : Nat) ∧ (0 : Int) = (0 : Int) ∧ (0 : Int) = (0 : Int) ∧ { data := #[] : ByteArray } = ByteArray.empty ∧ (0 : Int) = (0 : Int) ∧ (0 : Int) = (0 : Int) ∧ (0 : Int) = (0 : Int) ∧ (0 : Int) = (0 : Int) ∧ (0 : Int) = (0 : Int) ∧ false = false ∧ (0 : Int) = (0 : Int) ∧ (0 : Int) = (0 : Int) ∧ (0 : Int) = (0 : Int) ∧ false = false ∧ (0 : Int) = (0 : Int) ∧ True) ∧ (0 : Int) = (0 : Int) ∧ True) ∧ True)))))
set_option maxRecDepth 1000000 in
theorem vcNew_eq (p : Int) : (ctrVC Tryd.prog newH 9 [.s (.int .i64 4), l3, .y (.int .u64 p)] [] (newR p)) = vcNew p := by kernel_rfl
theorem new_c (p : Int) (hp : p ≠ 0) : (newR p).Sat (ACall' Tryd.prog 9 [.s (.int .i64 4), l3, .y (.int .u64 p)] []) := by
  refine ctr_vc (ht := newH) Tryd.mixed rfl ?_
  rw [vcNew_eq p]
  unfold vcNew vcNew_q1
  simp [hp]
  rfl
noncomputable def newC (p : Int) (hp : p ≠ 0) : Ctr Tryd.prog := ⟨9, [.s (.int .i64 4), l3, .y (.int .u64 p)], [], newR p, new_c p hp⟩
end Go.Proofs.YtdpbogaldcpfeaaDoor.C

/-! A client: the live question. -/
namespace Go.Proofs.YtdpbogaldcpfeaaDoor.C
open Go.Ax
set_option maxRecDepth 1000000
structure StA (c : Clt) (k : Cal) (y : Nod) (e : Int) : Prop where
  y : y = begQ ⟨c, default⟩ k
  e : e = begE ⟨c, default⟩ k
  co : CltOk c
  s : SndOk (beg1 ⟨c, default⟩ k)
noncomputable def stAO (b : Bool) (c : Clt) (k : Cal) (y : Nod) (e : Int) : Ctr Tryd.prog := ⟨12, [.agg (encC0 b c), .agg (inA k)], [], .need (StA c k y e) (stpR y e), T.Sat.need fun h => by
  obtain ⟨rfl, rfl, h1, h2⟩ := h
  exact stA_c b c k h1 h2⟩
def tB : ByteArray := ⟨#[116]⟩
def kB : ByteArray := ⟨#[107]⟩
def kal : Cal := ⟨1, tB, kB, [], 0, 0, ByteArray.empty, default⟩
def y1 : Nod := begQ ⟨clt0 4, default⟩ kal
noncomputable def hdH (y : Nod) (e : Int) : HintsT Tryd.prog := hh _ noLp (cs1 8 1 1 (newC 4 (by decide)) (cs1 8 2 3 (stAO true (clt0 4) kal y e) noCs)) noOp
def vcHd (y : Nod) (e : Int) : Prop :=
  ((4 : Int) = (4 : Int) ∧ (false = false ∧ (3 : Nat) = (3 : Nat) ∧ contLe (3 : Nat) (1 : Nat) (fun (k j : Nat) => Ax.get [AV.s (Value.int IntKind.i64 (1 : Int)), AV.s (Value.int IntKind.i64 (2 : Int)), AV.s (Value.int IntKind.i64 (3 : Int))] (((0 : Nat) + k) * (1 : Nat) + j)) (cellsOf' encI [(1 : Int), (2 : Int), (3 : Int)])) ∧ (4 : Int) = (4 : Int) ∧ True) ∧ True ∧ true = true ∧ True ∧ (((4 : Int) = (4 : Int) ∧ (true = true ∧ (3 : Nat) = (3 : Nat) ∧ contLe (3 : Nat) (1 : Nat) (cellsOf' encI [(1 : Int), (2 : Int), (3 : Int)]) (cellsOf' encI [(1 : Int), (2 : Int), (3 : Int)])) ∧ (4 : Int) = (4 : Int) ∧ (0 : Int) = (0 : Int) ∧ (true = true ∧ (0 : Nat) = (0 : Nat) ∧ contLe (0 : Nat) (2 : Nat) (cellsOf' encTp []) (cellsOf' encTp [])) ∧ (true = true ∧ (0 : Nat) = (0 : Nat) ∧ contLe (0 : Nat) (2 : Nat) (cellsOf' encSi []) (cellsOf' encSi [])) ∧ false = false ∧ (0 : Int) = (0 : Int) ∧ ByteArray.empty = ByteArray.empty ∧ ByteArray.empty = ByteArray.empty ∧ (true = true ∧ (0 : Nat) = (0 : Nat) ∧ contLe (0 : Nat) (1 : Nat) (cellsOf' encB []) (cellsOf' encB [])) ∧ (0 : Int) = (0 : Int) ∧ (0 : Int) = (0 : Int) ∧ ByteArray.empty = ByteArray.empty ∧ (0 : Int) = (0 : Int) ∧ (0 : Int) = (0 : Int) ∧ (0 : Int) = (0 : Int) ∧ ByteArray.empty = ByteArray.empty ∧ (true = true ∧ (0 : Nat) = (0 : Nat) ∧ contLe (0 : Nat) (1 : Nat) (cellsOf' encI []) (cellsOf' encI [])) ∧ (0 : Int) = (0 : Int) ∧ (0 : Int) = (0 : Int) ∧ ByteArray.empty = ByteArray.empty ∧ (0 : Int) = (0 : Int) ∧ (0 : Int) = (0 : Int) ∧ (0 : Int) = (0 : Int) ∧ (0 : Int) = (0 : Int) ∧ (0 : Int) = (0 : Int) ∧ false = false ∧ (0 : Int) = (0 : Int) ∧ (0 : Int) = (0 : Int) ∧ (0 : Int) = (0 : Int) ∧ false = false ∧ (0 : Int) = (0 : Int) ∧ True) ∧ ((1 : Int) = (1 : Int) ∧ (1 : Int) = (1 : Int) ∧ { data := #[(116 : UInt8)] : ByteArray } = tB ∧ { data := #[(107 : UInt8)] : ByteArray } = kB ∧ (0 : Nat) = (0 : Nat) ∧ (0 : Int) = (0 : Int) ∧ (0 : Int) = (0 : Int) ∧ { data := #[] : ByteArray } = ByteArray.empty ∧ (0 : Int) = (0 : Int) ∧ (0 : Int) = (0 : Int) ∧ (0 : Int) = (0 : Int) ∧ { data := #[] : ByteArray } = ByteArray.empty ∧ (0 : Nat) = (0 : Nat) ∧ (0 : Int) = (0 : Int) ∧ (0 : Int) = (0 : Int) ∧ { data := #[] : ByteArray } = ByteArray.empty ∧ (0 : Int) = (0 : Int) ∧ (0 : Int) = (0 : Int) ∧ (0 : Int) = (0 : Int) ∧ (0 : Int) = (0 : Int) ∧ (0 : Int) = (0 : Int) ∧ (0 : Int) = (0 : Int) ∧ (0 : Int) = (0 : Int) ∧ (0 : Int) = (0 : Int) ∧ (0 : Int) = (0 : Int) ∧ false = false ∧ (0 : Nat) = (0 : Nat) ∧ (0 : Int) = (0 : Int) ∧ (0 : Nat) = (0 : Nat) ∧ (0 : Int) = (0 : Int) ∧ (0 : Int) = (0 : Int) ∧ (0 : Int) = (0 : Int) ∧ True) ∧ True) ∧ True ∧ StA (clt0 (4 : Int)) kal y e ∧ ((e == (0 : Int)) = true → ((y.c.seq == (1 : Int)) = true → (y.c.busy = true → (y.o.send = true → ((y.o.to == (1 : Int)) = true → ((y.o.req.kind == (6 : Int)) = true → ((y.o.req.topic.data.toList == [(116 : UInt8)]) = true → (y.o.req.id == (1 : Int)) = true ∧ True) ∧ ((y.o.req.topic.data.toList == [(116 : UInt8)]) = false → false = true ∧ True)) ∧ ((y.o.req.kind == (6 : Int)) = false → false = true ∧ True)) ∧ ((y.o.to == (1 : Int)) = false → false = true ∧ True)) ∧ (y.o.send = false → false = true ∧ True)) ∧ (y.c.busy = false → false = true ∧ True)) ∧ ((y.c.seq == (1 : Int)) = false → false = true ∧ True)) ∧ ((e == (0 : Int)) = false → false = true ∧ True)
set_option maxRecDepth 1000000 in
theorem vcHd_eq (y : Nod) (e : Int) : (ctrVC Tryd.prog (hdH y e) 8 [] [] (boolR true)) = vcHd y e := by kernel_rfl
theorem clt0_ok (p : Int) : CltOk (clt0 p) := ⟨(by show 3 * 8 ≤ _; omega), (by show 0 * 16 ≤ _; omega), ⟨(by show 0 ≤ _; omega), (by show 0 * 8 ≤ _; omega)⟩, (by show 0 * 40 ≤ _; omega), fun x hx => (by cases hx)⟩
theorem snd0_ok (p : Int) (k : Cal) (h : CalOk k) : SndOk (beg1 ⟨clt0 p, default⟩ k) := ⟨⟨(by show 0 ≤ _; omega), fun x hx => (by cases hx)⟩, h, (by show 0 ≤ _; omega), (by show (0 : Int) ≤ 0; omega), (by show (0 : Int) < ((3 : Nat) : Int); omega)⟩
theorem y1_e : begE ⟨clt0 4, default⟩ kal = 0 := by kernel_rfl
theorem y1_f : y1.c.seq = 1 ∧ y1.c.busy = true ∧ y1.o.send = true ∧ y1.o.to = 1 ∧ y1.o.req.kind = 6 ∧ y1.o.req.topic = tB ∧ y1.o.req.id = 1 := ⟨by kernel_rfl, by kernel_rfl, by kernel_rfl, by kernel_rfl, by kernel_rfl, by kernel_rfl, by kernel_rfl⟩
theorem hd_c : (boolR true).Sat (ACall' Tryd.prog 8 [] []) := by
  refine ctr_vc (ht := hdH y1 (begE ⟨clt0 4, default⟩ kal)) Tryd.mixed rfl ?_
  rw [vcHd_eq y1 (begE ⟨clt0 4, default⟩ kal)]
  unfold vcHd
  have h1 : StA (clt0 4) kal y1 (begE ⟨clt0 4, default⟩ kal) := ⟨rfl, rfl, clt0_ok 4, snd0_ok 4 kal ⟨by decide, by decide⟩⟩
  rw [y1_e] at h1 ⊢
  obtain ⟨f1, f2, f3, f4, f5, f6, f7⟩ := y1_f
  generalize y1 = y at *
  simp [h1, f1, f2, f3, f4, f5, f6, f7]
  refine ⟨fun k hk j hj => ?_, ⟨rfl, rfl, rfl⟩, rfl⟩
  obtain rfl : j = 0 := by omega
  match k, hk with
  | 0, _ => exact rfl
  | 1, _ => exact rfl
  | 2, _ => exact rfl
noncomputable def hdC : Ctr Tryd.prog := ⟨8, [], [], boolR true, hd_c⟩
end Go.Proofs.YtdpbogaldcpfeaaDoor.C

/-! A client gives up who led a group: the conditions. -/
namespace Go.Proofs.YtdpbogaldcpfeaaDoor.C
open Go.Ax
set_option maxRecDepth 1000000
/-- a list of which what is kept is moved to the front -/
structure FS {α : Type} [Inhabited α] (p : α → Bool) (l : List α) where
  i : Nat
  j : Nat
  L : List α
  len : L.length = l.length
  ij : i ≤ j
  jl : j ≤ l.length
  pre : L.take i = (l.take j).filter p
  suf : L.drop j = l.drop j
theorem FS.at {α : Type} [Inhabited α] {p : α → Bool} {l : List α} (q : FS p l) : q.L[q.j]? = l[q.j]? := by
  have := congrArg (fun r : List α => r[0]?) q.suf
  simpa [List.getElem?_drop] using this
theorem take_snocG {α : Type} [Inhabited α] (l : List α) (j : Nat) (h : j < l.length) : l.take (j + 1) = l.take j ++ [l[j]?.getD default] := by
  rw [List.take_succ_eq_append_getElem h]; simp [h]
def FS.put {α : Type} [Inhabited α] {p : α → Bool} {l : List α} (q : FS p l) (h : q.j < l.length) (hk : p (l[q.j]?.getD default) = true) : FS p l where
  i := q.i + 1
  j := q.j + 1
  L := q.L.set q.i (l[q.j]?.getD default)
  len := by simp [q.len]
  ij := by have := q.ij; omega
  jl := by omega
  pre := by
    have h1 := q.ij
    have h2 := q.len
    have h3 : q.i < q.L.length := by omega
    rw [take_snocG l q.j h, List.filter_append, ← q.pre, List.take_succ_eq_append_getElem (by simpa using h3), List.filter_cons_of_pos hk, List.filter_nil]
    simp [List.take_set_of_le]
  suf := by
    have h1 := q.ij
    have h2 := congrArg (fun r : List α => r.drop 1) q.suf
    simp only [List.drop_drop] at h2
    rw [List.drop_set_of_lt (by omega)]
    exact h2
def FS.skip {α : Type} [Inhabited α] {p : α → Bool} {l : List α} (q : FS p l) (h : q.j < l.length) (hk : p (l[q.j]?.getD default) = false) : FS p l where
  i := q.i
  j := q.j + 1
  L := q.L
  len := q.len
  ij := by have := q.ij; omega
  jl := by omega
  pre := by
    have hk' : ¬ p (l[q.j]?.getD default) = true := by simp [hk]
    rw [take_snocG l q.j h, List.filter_append, ← q.pre, List.filter_cons_of_neg hk', List.filter_nil, List.append_nil]
  suf := by
    have h2 := congrArg (fun r : List α => r.drop 1) q.suf
    simpa only [List.drop_drop] using h2
/-! is a number among numbers? -/
/-! a topic is taken out -/
end Go.Proofs.YtdpbogaldcpfeaaDoor.C

/-! A client gives up who led a group; takes out a topic; turns: the conditions. -/
namespace Go.Proofs.YtdpbogaldcpfeaaDoor.C
open Go.Ax
set_option maxRecDepth 1000000
end Go.Proofs.YtdpbogaldcpfeaaDoor.C

/-! A client turns: the conditions. -/
namespace Go.Proofs.YtdpbogaldcpfeaaDoor.C
open Go.Ax
set_option maxRecDepth 1000000
end Go.Proofs.YtdpbogaldcpfeaaDoor.C

/-! A client is answered; ticks: the conditions. -/
namespace Go.Proofs.YtdpbogaldcpfeaaDoor.C
open Go.Ax
set_option maxRecDepth 1000000
/-! nodes as they are -/
def fdNd (a : Nod) (b : Nod) : Prop :=
  a.c.id = b.c.id ∧ (true = true ∧ List.length a.c.servers = List.length b.c.servers ∧ contLe (List.length a.c.servers) (1 : Nat) (cellsOf' encI a.c.servers) (cellsOf' encI b.c.servers)) ∧ a.c.prod = b.c.prod ∧ a.c.seq = b.c.seq ∧ ((0 : Nat) = (0 : Nat) ∧ List.length a.c.topics = List.length b.c.topics) ∧ ((0 : Nat) = (0 : Nat) ∧ List.length a.c.leaders = List.length b.c.leaders) ∧ a.c.busy = b.c.busy ∧ a.c.call.kind = b.c.call.kind ∧ a.c.call.topic = b.c.call.topic ∧ a.c.call.key = b.c.call.key ∧ (true = true ∧ List.length a.c.call.val = List.length b.c.call.val ∧ contLe (List.length a.c.call.val) (1 : Nat) (cellsOf' encB a.c.call.val) (cellsOf' encB b.c.call.val)) ∧ a.c.call.off = b.c.call.off ∧ a.c.call.most = b.c.call.most ∧ a.c.call.name = b.c.call.name ∧ a.c.call.adm.kind = b.c.call.adm.kind ∧ a.c.call.adm.prod = b.c.call.adm.prod ∧ a.c.call.adm.seq = b.c.call.adm.seq ∧ a.c.call.adm.topic = b.c.call.adm.topic ∧ (true = true ∧ List.length a.c.call.adm.nodes = List.length b.c.call.adm.nodes ∧ contLe (List.length a.c.call.adm.nodes) (1 : Nat) (cellsOf' encI a.c.call.adm.nodes) (cellsOf' encI b.c.call.adm.nodes)) ∧ a.c.call.adm.group = b.c.call.adm.group ∧ a.c.call.adm.other = b.c.call.adm.other ∧ a.c.call.adm.key = b.c.call.adm.key ∧ a.c.call.adm.fr = b.c.call.adm.fr ∧ a.c.call.adm.to = b.c.call.adm.to ∧ a.c.call.adm.plan = b.c.call.adm.plan ∧ a.c.call.adm.step = b.c.call.adm.step ∧ a.c.number = b.c.number ∧ a.c.route = b.c.route ∧ a.c.group = b.c.group ∧ a.c.tries = b.c.tries ∧ a.c.waited = b.c.waited ∧ a.c.again = b.c.again ∧ a.c.at' = b.c.at' ∧ a.o.send = b.o.send ∧ a.o.to = b.o.to ∧ a.o.req.id = b.o.req.id ∧ a.o.req.kind = b.o.req.kind ∧ a.o.req.group = b.o.req.group ∧ a.o.req.part.kind = b.o.req.part.kind ∧ a.o.req.part.epoch = b.o.req.part.epoch ∧ a.o.req.part.prod = b.o.req.part.prod ∧ a.o.req.part.seq = b.o.req.part.seq ∧ a.o.req.part.key = b.o.req.part.key ∧ (true = true ∧ List.length a.o.req.part.val = List.length b.o.req.part.val ∧ contLe (List.length a.o.req.part.val) (1 : Nat) (cellsOf' encB a.o.req.part.val) (cellsOf' encB b.o.req.part.val)) ∧ a.o.req.part.off = b.o.req.part.off ∧ a.o.req.part.most = b.o.req.part.most ∧ a.o.req.part.name = b.o.req.part.name ∧ a.o.req.part.plan = b.o.req.part.plan ∧ a.o.req.adm.kind = b.o.req.adm.kind ∧ a.o.req.adm.prod = b.o.req.adm.prod ∧ a.o.req.adm.seq = b.o.req.adm.seq ∧ a.o.req.adm.topic = b.o.req.adm.topic ∧ (true = true ∧ List.length a.o.req.adm.nodes = List.length b.o.req.adm.nodes ∧ contLe (List.length a.o.req.adm.nodes) (1 : Nat) (cellsOf' encI a.o.req.adm.nodes) (cellsOf' encI b.o.req.adm.nodes)) ∧ a.o.req.adm.group = b.o.req.adm.group ∧ a.o.req.adm.other = b.o.req.adm.other ∧ a.o.req.adm.key = b.o.req.adm.key ∧ a.o.req.adm.fr = b.o.req.adm.fr ∧ a.o.req.adm.to = b.o.req.adm.to ∧ a.o.req.adm.plan = b.o.req.adm.plan ∧ a.o.req.adm.step = b.o.req.adm.step ∧ a.o.req.topic = b.o.req.topic ∧ a.o.done = b.o.done ∧ a.o.rep.id = b.o.rep.id ∧ a.o.rep.err = b.o.rep.err ∧ a.o.rep.leader = b.o.rep.leader ∧ a.o.rep.rerr = b.o.rep.rerr ∧ a.o.rep.roff = b.o.rep.roff ∧ a.o.rep.rold = b.o.rep.rold ∧ (true = true ∧ List.length a.o.rep.recs = List.length b.o.rep.recs ∧ contLe (List.length a.o.rep.recs) (5 : Nat) (cellsOf' encR a.o.rep.recs) (cellsOf' encR b.o.rep.recs)) ∧ a.o.rep.number = b.o.rep.number ∧ (true = true ∧ List.length a.o.rep.shards = List.length b.o.rep.shards ∧ contLe (List.length a.o.rep.shards) (7 : Nat) (cellsOf' encSh a.o.rep.shards) (cellsOf' encSh b.o.rep.shards)) ∧ a.o.rep.group = b.o.rep.group ∧ a.o.rep.index = b.o.rep.index ∧ a.o.rep.term = b.o.rep.term ∧ True
def fdRp (a : Rep) (b : Rep) : Prop :=
  a.id = b.id ∧ a.err = b.err ∧ a.leader = b.leader ∧ a.rerr = b.rerr ∧ a.roff = b.roff ∧ a.rold = b.rold ∧ (true = true ∧ List.length a.recs = List.length b.recs ∧ contLe (List.length a.recs) (5 : Nat) (cellsOf' encR a.recs) (cellsOf' encR b.recs)) ∧ a.number = b.number ∧ (true = true ∧ List.length a.shards = List.length b.shards ∧ contLe (List.length a.shards) (7 : Nat) (cellsOf' encSh a.shards) (cellsOf' encSh b.shards)) ∧ a.group = b.group ∧ a.index = b.index ∧ a.term = b.term ∧ True
end Go.Proofs.YtdpbogaldcpfeaaDoor.C

/-! A client is answered: the conditions. -/
--fold
namespace Go.Proofs.YtdpbogaldcpfeaaDoor.C
open Go.Ax
set_option maxRecDepth 1000000
@[simp] theorem fdNd_refl (a : Nod) : fdNd a a := by
  unfold fdNd
  simp
@[simp] theorem fdRp_refl (a : Rep) : fdRp a a := by
  unfold fdRp
  simp
end Go.Proofs.YtdpbogaldcpfeaaDoor.C

/-! A client is answered. -/
--fold
namespace Go.Proofs.YtdpbogaldcpfeaaDoor.C
open Go.Ax
set_option maxRecDepth 1000000
/-! hears, ticks -/
end Go.Proofs.YtdpbogaldcpfeaaDoor.C

/-! A client: a step of any kind: the conditions. -/
--fold
namespace Go.Proofs.YtdpbogaldcpfeaaDoor.C
open Go.Ax
set_option maxRecDepth 1000000
end Go.Proofs.YtdpbogaldcpfeaaDoor.C

/-! A client: a step of any kind. -/
--fold
namespace Go.Proofs.YtdpbogaldcpfeaaDoor.C
open Go.Ax
set_option maxRecDepth 1000000
end Go.Proofs.YtdpbogaldcpfeaaDoor.C

/-! A client's New: sorted and compact, by the library's contracts. -/
namespace Go.Proofs
open Go.Shelf
def Tryd.lays189_ren : Go.Shelf.Ren := ⟨fun | 189 => 17 | 125 => 32 | 257 => 31 | 128 => 55 | 129 => 56 | 294 => 46 | 295 => 47 | 296 => 48 | 297 => 49 | 298 => 50 | 299 => 51 | 216 => 52 | 300 => 53 | 301 => 54 | 328 => 74 | 329 => 75 | 330 => 76 | 331 => 77 | 332 => 78 | 215 => 79 | 343 => 93 | n => n, fun | 28 => 22 | 3 => 3 | 46 => 95 | 0 => 0 | 51 => 113 | 53 => 23 | 4 => 4 | 183 => 106 | 182 => 105 | 131 => 110 | 5 => 5 | 9 => 9 | 218 => 131 | 222 => 135 | 228 => 150 | 229 => 151 | n => n, fun | n => n⟩
theorem Tryd.lays189 : Go.Proofs.Lays.n189 Tryd.prog Tryd.lays189_ren := {
  mixed := by kernel_rfl
  f125 := Tryd.func32.trans (congrArg some (by kernel_rfl))
  f128 := Tryd.func55.trans (congrArg some (by kernel_rfl))
  f129 := Tryd.func56.trans (congrArg some (by kernel_rfl))
  f189 := Tryd.func17.trans (congrArg some (by kernel_rfl))
  f215 := Tryd.func79.trans (congrArg some (by kernel_rfl))
  f216 := Tryd.func52.trans (congrArg some (by kernel_rfl))
  f257 := Tryd.func31.trans (congrArg some (by kernel_rfl))
  f294 := Tryd.func46.trans (congrArg some (by kernel_rfl))
  f295 := Tryd.func47.trans (congrArg some (by kernel_rfl))
  f296 := Tryd.func48.trans (congrArg some (by kernel_rfl))
  f297 := Tryd.func49.trans (congrArg some (by kernel_rfl))
  f298 := Tryd.func50.trans (congrArg some (by kernel_rfl))
  f299 := Tryd.func51.trans (congrArg some (by kernel_rfl))
  f300 := Tryd.func53.trans (congrArg some (by kernel_rfl))
  f301 := Tryd.func54.trans (congrArg some (by kernel_rfl))
  f328 := Tryd.func74.trans (congrArg some (by kernel_rfl))
  f329 := Tryd.func75.trans (congrArg some (by kernel_rfl))
  f330 := Tryd.func76.trans (congrArg some (by kernel_rfl))
  f331 := Tryd.func77.trans (congrArg some (by kernel_rfl))
  f332 := Tryd.func78.trans (congrArg some (by kernel_rfl))
  f343 := Tryd.func93.trans (congrArg some (by kernel_rfl))
  t0 := Tryd.underlying0
  a0 := Tryd.isAgg0
  z0 := Tryd.sizeOf0
  v0 := Tryd.zeroValue0
  t3 := Tryd.underlying3
  a3 := Tryd.isAgg3
  z3 := Tryd.sizeOf3
  v3 := Tryd.zeroValue3
  t4 := Tryd.underlying4
  a4 := Tryd.isAgg4
  z4 := Tryd.sizeOf4
  v4 := Tryd.zeroValue4
  t5 := Tryd.underlying5
  a5 := Tryd.isAgg5
  z5 := Tryd.sizeOf5
  v5 := Tryd.zeroValue5
  t9 := Tryd.underlying9
  a9 := Tryd.isAgg9
  z9 := Tryd.sizeOf9
  v9 := Tryd.zeroValue9
  t28 := Tryd.underlying22
  a28 := Tryd.isAgg22
  z28 := Tryd.sizeOf22
  v28 := Tryd.zeroValue22
  t46 := Tryd.underlying95
  a46 := Tryd.isAgg95
  z46 := Tryd.sizeOf95
  v46 := Tryd.zeroValue95
  t51 := Tryd.underlying113
  a51 := Tryd.isAgg113
  z51 := Tryd.sizeOf113
  v51 := Tryd.zeroValue113
  t53 := Tryd.underlying23
  a53 := Tryd.isAgg23
  z53 := Tryd.sizeOf23
  v53 := Tryd.zeroValue23
  t131 := Tryd.underlying110
  a131 := Tryd.isAgg110
  z131 := Tryd.sizeOf110
  v131 := Tryd.zeroValue110
  t182 := Tryd.underlying105
  a182 := Tryd.isAgg105
  z182 := Tryd.sizeOf105
  v182 := Tryd.zeroValue105
  t183 := Tryd.underlying106
  a183 := Tryd.isAgg106
  z183 := Tryd.sizeOf106
  v183 := Tryd.zeroValue106
  t218 := Tryd.underlying131
  a218 := Tryd.isAgg131
  z218 := Tryd.sizeOf131
  v218 := Tryd.zeroValue131
  t222 := Tryd.underlying135
  a222 := Tryd.isAgg135
  z222 := Tryd.sizeOf135
  v222 := Tryd.zeroValue135
  t228 := Tryd.underlying150
  a228 := Tryd.isAgg150
  z228 := Tryd.sizeOf150
  v228 := Tryd.zeroValue150
  t229 := Tryd.underlying151
  a229 := Tryd.isAgg151
  z229 := Tryd.sizeOf151
  v229 := Tryd.zeroValue151 }
def Tryd.lays20_ren : Go.Shelf.Ren := ⟨fun | 20 => 21 | n => n, fun | 22 => 22 | 3 => 3 | 4 => 4 | 0 => 0 | n => n, fun | n => n⟩
theorem Tryd.lays20 : Go.Proofs.Lays2.n20 Tryd.prog Tryd.lays20_ren := {
  mixed := by kernel_rfl
  f20 := Tryd.func21.trans (congrArg some (by kernel_rfl))
  t0 := Tryd.underlying0
  a0 := Tryd.isAgg0
  z0 := Tryd.sizeOf0
  v0 := Tryd.zeroValue0
  t3 := Tryd.underlying3
  a3 := Tryd.isAgg3
  z3 := Tryd.sizeOf3
  v3 := Tryd.zeroValue3
  t4 := Tryd.underlying4
  a4 := Tryd.isAgg4
  z4 := Tryd.sizeOf4
  v4 := Tryd.zeroValue4
  t22 := Tryd.underlying22
  a22 := Tryd.isAgg22
  z22 := Tryd.sizeOf22
  v22 := Tryd.zeroValue22
  i3 := by kernel_rfl }
end Go.Proofs
namespace Go.Proofs.YtdpbogaldcpfeaaDoor.C
open Go.Ax
set_option maxRecDepth 1000000
theorem upd_grown {H : HH} {E : Env} {w w' : World} {M : List Blk} (h : Conc H E w M) {i b : Nat} {B : Blk} (hl : E.lv i = true) (hb : E.ι i = some b) (hu : w.grownBy w' (some b)) (hB : BlkOk H E w' i B) : Conc H E w' (putM M i B) ∧ Evol [] H E w H E w' := by
  have hlt : ∀ j c, E.lv j = true → E.ι j = some c → c < w.heap.size := fun j c hj hc => h.lt hj hc
  refine ⟨⟨fun c x hx => ?_, h.tf, fun j => ?_, h.inj, h.sep⟩, ⟨hu.os, hu.tape, hu.output, hu.size, fun c hc hn => hu.block c hc fun e => ?_, fun j c hj hc => .inl ⟨j, hj, hc⟩, HH.le_refl _, fun _ _ _ hx => .inl hx, fun _ hx _ => ⟨hx, rfl, rfl, rfl⟩⟩⟩
  · rw [hu.block c (IH.lt_of h.imm hx) fun e => by cases e; rw [h.sep i _ hl hb] at hx; cases hx]
    exact h.imm c x hx
  · by_cases hj : i = j
    · subst hj; rw [getM_put_same]; exact hB
    · rw [getM_put_ne _ _ _ _ hj]
      have := (h.blk j).move (f := some) (H' := H) (E' := E) (w' := w') (i' := j) (HH.le_refl _) (fun a c hc hl => by cases hc; exact ⟨hl, rfl, rfl, rfl⟩) rfl rfl rfl rfl fun c hlj hc => hu.block c (hlt j c hlj hc) fun e => by
        cases e
        exact hj (h.inj i j _ hl hlj hb hc)
      rwa [renB_some] at this
  · cases e
    exact hn i hl hb
theorem ints_at {H : HH} {E : Env} {w : World} {i b : Nat} {ty : TypeId} {cap : Option Nat} {l : List Int} (hB : BlkOk H E w i (.row ty 1 l.length cap (cellsOf' encI l))) (hb : E.ι i = some b) :
    ∃ vs : Array Value, w.heap[b]? = some (.cells vs ty (0, 0)) ∧ vs.size = E.κ i * 1 ∧ l.length ≤ E.κ i ∧ vs.toList.take l.length = l.map (Value.int .i64) := by
  obtain ⟨_, hn, _, _, hm⟩ := hB
  rw [hb] at hm
  obtain ⟨vs, g1, g2, g3, g4⟩ := hm
  refine ⟨vs, g1, g3, by omega, ?_⟩
  apply List.ext_getElem?
  intro j
  by_cases hj : j < l.length
  · obtain ⟨x, hx, hr⟩ := g4 j hj 0 (by omega)
    have hr : x = Value.int .i64 (l.getD j default) := hr.1
    rw [List.getElem?_take_of_lt hj, Array.getElem?_toList, List.getElem?_map, List.getElem?_eq_getElem hj]
    have e : j * 1 + 0 = j := by omega
    rw [e] at hx
    rw [hx, hr]
    simp [hj]
  · rw [List.getElem?_take_eq_none (by omega), List.getElem?_eq_none (by simp; omega)]
theorem ints_put {H : HH} {E : Env} {w : World} {M : List Blk} {i b q : Nat} {os : Array Obj} {ty : TypeId} {cap : Option Nat} {l d : List Int} (hC : Conc H E w M) (hg : getM M i = .row ty 1 l.length cap (cellsOf' encI l)) (hb : E.ι i = some b) (hd : d.length = l.length) :
    Conc H E (Go.Sort.grow (Go.Sort.putRow (Value.int .i64) (Go.Sort.ahead w q) b 0 d.toArray) os) (putM M i (.row ty 1 l.length cap (cellsOf' encI d))) ∧ Evol [] H E w H E (Go.Sort.grow (Go.Sort.putRow (Value.int .i64) (Go.Sort.ahead w q) b 0 d.toArray) os) := by
  have hB := hC.blk i
  rw [hg] at hB
  obtain ⟨vs, g1, g2, g3, g4⟩ := ints_at hB hb
  obtain ⟨hlv, hn, hκ, hcap, _⟩ := hB
  have ht := Go.take_putCellsI vs d (by omega)
  refine upd_grown hC hlv hb (Go.grownBy_sortedI _) ⟨hlv, hn, hκ, hcap, ?_⟩
  rw [hb]
  refine ⟨_, Go.heap_sortedI _ g1, fun y hy => ?_, by simpa [Go.Sort.putCells] using g2, fun k hk j hj => ?_⟩
  · rw [Nat.mul_one, ← hd, ht] at hy
    obtain ⟨z, _, rfl⟩ := List.mem_map.1 hy
    rfl
  · obtain rfl : j = 0 := by omega
    have e : k * 1 + 0 = k := by omega
    have h1 : ((Go.Sort.putCells (Value.int .i64) 0 d.toArray vs).toList.take d.length)[k]? = (d.map (Value.int .i64))[k]? := by rw [ht]
    rw [List.getElem?_take_of_lt (by omega), Array.getElem?_toList, List.getElem?_map, List.getElem?_eq_getElem (by omega)] at h1
    rw [e]
    refine ⟨_, h1, ?_⟩
    show Rel (.y (.int .i64 (d.getD k default))) _ _ _
    refine ⟨?_, rfl⟩
    simp [show k < d.length by omega]
def srM (l : List Int) : List Blk := [.dead, .dead, .row 3 1 l.length none (cellsOf' encI l)]
def srt (l : List Int) : List Int := l.mergeSort fun x y => decide (x ≤ y)
theorem srt_len (l : List Int) : (srt l).length = l.length := List.length_mergeSort l
def vcSr0 (u : Unit) : Prop :=
  True ∧ ((0 : Nat) = (0 : Nat) ∧ contLe (0 : Nat) (1 : Nat) (cellsOf' encI []) (cellsOf' encI [])) ∧ True
set_option maxRecDepth 1000000 in
theorem vcSr0_eq (u : Unit) : (ctrVC Tryd.prog (hT _) 17 [.s (.slice none 0 0)] (srM []) (.ret (.tup [], srM [], []))) = vcSr0 u := by kernel_rfl
def cloR (l : List Int) : T An := .ret (.own 0 1 0 l.length, [.row 3 1 l.length none (cellsOf' encI l)], [])
noncomputable def cloH : HintsT Tryd.prog := hh _ noLp noCs (op1 16 2 0 (.row 3 1) noOp)
def vcClo0 (l : List Int) : Prop :=
  ((0 : Nat) = (0 : Nat) ∧ (0 : Nat) = List.length l) ∧ ((0 : Nat) = List.length l ∧ contLe (0 : Nat) (1 : Nat) (fun (x x_1 : Nat) => AV.junk) (cellsOf' encI l)) ∧ True
set_option maxRecDepth 1000000 in
theorem vcClo0_eq (l : List Int) : (ctrVC Tryd.prog cloH 16 [.s (.slice none 0 0)] [] (cloR l)) = vcClo0 l := by kernel_rfl
def vcClo1 (b : Bool) (l : List Int) : Prop :=
  (decide ((0 : Nat) + List.length l ≤ (9223372036854775807 : Nat)) && decide (((0 : Nat) + List.length l) * (8 : Nat) ≤ (140737488355328 : Nat))) = true ∧ ((0 : Nat) = (0 : Nat) ∧ (0 : Nat) + List.length l = List.length l) ∧ ((0 : Nat) + List.length l = List.length l ∧ contLe ((0 : Nat) + List.length l) (1 : Nat) (appRow (0 : Nat) (fun (k j : Nat) => AV.junk) (cellsOf' encI l)) (cellsOf' encI l)) ∧ True
set_option maxRecDepth 1000000 in
theorem vcClo1_eq (b : Bool) (l : List Int) : (ctrVC Tryd.prog cloH 16 [.yn b 1 l.length (cellsOf' encI l)] [] (cloR l)) = vcClo1 b l := by kernel_rfl
theorem clo_c (b : Bool) (l : List Int) (hl : l.length * 8 ≤ 140737488355328) : (cloR l).Sat (ACall' Tryd.prog 16 [encIs b l] []) := by
  refine nil_cases (pre := []) (post := []) (fun h0 => ?_) ?_ ⟨_, rfl⟩
  · refine ctr_vc (ht := cloH) Tryd.mixed rfl ?_
    rw [List.nil_append, vcClo0_eq l]
    unfold vcClo0
    simp [h0]
  · refine ctr_vc (ht := cloH) Tryd.mixed rfl ?_
    rw [List.nil_append, vcClo1_eq b l]
    unfold vcClo1
    simp
    omega
theorem sr0_c : (T.ret (.tup [], srM [], []) : T An).Sat (ACall' Tryd.prog 17 [.s (.slice none 0 0)] (srM [])) := by
  refine ctr_vc (ht := hT _) Tryd.mixed rfl ?_
  rw [vcSr0_eq ()]
  unfold vcSr0
  simp
theorem of_ret {P : Program} {f : FuncId} {args : List AV} {M : List Blk} {a : An} (h : (T.ret a : T An).Sat (ACall' P f args M)) : ACall' P f args M a := by
  obtain ⟨a', ha, e⟩ := h (fun x => x = a) rfl
  rw [← e]; exact ha
theorem srG_c (l : List Int) (hl : l.length < 4611686018427387904) : (T.ret (.tup [], srM (srt l), []) : T An).Sat (ACall' Tryd.prog 17 [.own 2 1 0 l.length] (srM l)) := by
  refine T.Sat.ret fun H E w vals hC hargs => ?_
  obtain ⟨v, r, e1, hv, e2⟩ := hargs
  have e2 : r = [] := e2
  subst e2
  have hvals : vals = #[v] := Array.ext' e1
  subst hvals
  obtain ⟨hlv, hη, hm⟩ := hv
  have hB := hC.blk 2
  cases hb : E.ι 2 with
  | none =>
    rw [hb] at hm
    obtain ⟨_, h0, rfl⟩ := hm
    have hl0 : l = [] := List.eq_nil_of_length_eq_zero h0
    subst hl0
    have e0 : srt [] = [] := by unfold srt; simp
    rw [e0]
    exact of_ret sr0_c H E w #[.slice none 0 0] hC ⟨_, _, rfl, ⟨rfl, rfl⟩, rfl⟩
  | some b =>
    rw [hb] at hm
    obtain ⟨ad, rfl, had⟩ := hm
    have had := had.1 (.inl rfl)
    rw [Nat.zero_mul] at had
    subst had
    obtain ⟨vs, g1, g2, g3, g4⟩ := ints_at hB hb
    refine (Any.slices_Sort_int Tryd.lays189 b 0 _ l w (Go.holds_of_blockI g1 g4) (Array.getElem?_eq_some_iff.1 g1).1 hl).mono ?_
    rintro e w' ⟨rfl, n, os, rfl⟩
    obtain ⟨c1, c2⟩ := ints_put (q := n) (os := os) (d := srt l) hC (i := 2) rfl hb (srt_len l)
    refine ⟨_, H, E, rfl, ⟨#[], rfl, rfl⟩, ?_, c2⟩
    have e : srM (srt l) = putM (srM l) 2 (.row 3 1 l.length none (cellsOf' encI (srt l))) := by
      unfold srM
      rw [srt_len]
      rfl
    rw [e]
    exact c1
def cmpM (l : List Int) : List Blk := [.dead, .dead, .row 3 1 l.length none (cellsOf' encI (Lib.compact l ++ List.replicate (l.length - (Lib.compact l).length) 0))]
theorem compact_le (l : List Int) : (Lib.compact l).length ≤ l.length := by
  unfold Lib.compact Lib.compactUpTo
  rw [List.length_map]
  refine Nat.le_trans (List.length_filter_le _ _) ?_
  simp
theorem cmG_c (l : List Int) (hl : l.length ≤ 9223372036854775807) (h0 : 0 < l.length) : (T.ret (.own 2 1 0 (Lib.compact l).length, cmpM l, []) : T An).Sat (ACall' Tryd.prog 21 [.own 2 1 0 l.length] (srM l)) := by
  refine T.Sat.ret fun H E w vals hC hargs => ?_
  obtain ⟨v, r, e1, hv, e2⟩ := hargs
  have e2 : r = [] := e2
  subst e2
  have hvals : vals = #[v] := Array.ext' e1
  subst hvals
  obtain ⟨hlv, hη, hm⟩ := hv
  have hB := hC.blk 2
  have hcl := compact_le l
  cases hb : E.ι 2 with
  | none =>
    rw [hb] at hm
    obtain ⟨_, h1, _⟩ := hm
    omega
  | some b =>
    rw [hb] at hm
    obtain ⟨ad, rfl, had⟩ := hm
    have had := had.1 (.inl rfl)
    rw [Nat.zero_mul] at had
    subst had
    obtain ⟨vs, g1, g2, g3, g4⟩ := ints_at hB hb
    refine (Any.slices_Compact_int Tryd.lays20 b 0 (E.κ 2 - 0) l w (Go.holds_of_blockI g1 g4) hl (by omega)).mono ?_
    rintro e w' ⟨rfl, q, rfl⟩
    obtain ⟨c1, c2⟩ := ints_put (q := q) (os := #[]) (d := Lib.compact l ++ List.replicate (l.length - (Lib.compact l).length) 0) hC (i := 2) rfl hb (by simp; omega)
    rw [Go.Sort.grow_empty] at c1 c2
    refine ⟨_, H, E, rfl, ⟨hlv, by omega, ?_⟩, c1, c2⟩
    rw [hb]
    exact ⟨_, rfl, ⟨fun _ => by simp, by simp⟩⟩
noncomputable def cloC (b : Bool) (l : List Int) : Ctr Tryd.prog := ⟨16, [encIs b l], [], .need (l.length * 8 ≤ 140737488355328) (cloR l), T.Sat.need fun h => clo_c b l h⟩
structure SrtQ (l s : List Int) : Prop where
  s : s = srt l
  n : l.length < 4611686018427387904
noncomputable def srG (l s : List Int) : Ctr Tryd.prog := ⟨17, [.own 2 1 0 l.length], srM l, .need (SrtQ l s) (.ret (.tup [], srM s, [])), T.Sat.need fun h => by obtain ⟨rfl, h⟩ := h; exact srG_c l h⟩
structure CmpQ (l m : List Int) : Prop where
  m : m = Lib.compact l
  n : l.length ≤ 9223372036854775807
  z : 0 < l.length
noncomputable def cmG (l m : List Int) : Ctr Tryd.prog := ⟨21, [.own 2 1 0 l.length], srM l, .need (CmpQ l m) (.ret (.own 2 1 0 m.length, cmpM l, [])), T.Sat.need fun h => by obtain ⟨rfl, h1, h2⟩ := h; exact cmG_c l h1 h2⟩
/-! New -/
noncomputable def nwgH (id : Int) (b : Bool) (l s m : List Int) : HintsT Tryd.prog := withSub (hh _ noLp (cs1 9 1 1 (cloC b l) (cs1 9 2 1 (srG l s) (cs1 9 7 2 (nwHas id false s) (cs1 9 8 1 (cmG s m) (cs1 9 10 2 (clI b l) noCs))))) noOp) [17, 21]
def newQ (id : Int) (l : List Int) (p : Int) : Clt := { (default : Clt) with id := id, servers := l, prod := p }
def nwgR (c : Clt) (e : Int) : T An := .ret (.tup [.agg (encC0 true c), .y (.int .i64 e)], [], [])
def vcNwg_q1 (c : Clt) (e : Int) : Prop := (((0 : Int) = c.id ∧ List.length c.servers = (0 : Nat) ∧ (0 : Int) = c.prod ∧ (0 : Int) = c.seq ∧ List.length c.topics = (0 : Nat) ∧ List.length c.leaders = (0 : Nat) ∧ false = c.busy ∧ (0 : Int) = c.call.kind ∧ { data := #[] : ByteArray } = c.call.topic ∧ { data := #[] : ByteArray } = c.call.key ∧ List.length c.call.val = (0 : Nat) ∧ (0 : Int) = c.call.off ∧ (0 : Int) = c.call.most ∧ { data := #[] : ByteArray } = c.call.name ∧ (0 : Int) = c.call.adm.kind ∧ (0 : Int) = c.call.adm.prod ∧ (0 : Int) = c.call.adm.seq ∧ { data := #[] : ByteArray } = c.call.adm.topic ∧ List.length c.call.adm.nodes = (0 : Nat) ∧ (0 : Int) = c.call.adm.group ∧ (0 : Int) = c.call.adm.other ∧ { data := #[] : ByteArray } = c.call.adm.key ∧ (0 : Int) = c.call.adm.fr ∧ (0 : Int) = c.call.adm.to ∧ (0 : Int) = c.call.adm.plan ∧ (0 : Int) = c.call.adm.step ∧ (0 : Int) = c.number ∧ false = c.route ∧ (0 : Int) = c.group ∧ (0 : Int) = c.tries ∧ (0 : Int) = c.waited ∧ false = c.again ∧ (0 : Int) = c.at' ∧ True) ∧ (1 : Int) = e ∧ True)
def vcNwg (id : Int) (b : Bool) (l : List Int) (s : List Int) (m : List Int) (p : Int) (c : Clt) (e : Int) : Prop :=
  ((b = b ∧ List.length l = List.length l ∧ contLe (List.length l) (1 : Nat) (cellsOf' encI l) (cellsOf' encI l)) ∧ True) ∧ True ∧ List.length l * (8 : Nat) ≤ (140737488355328 : Nat) ∧ (((0 : Nat) = (0 : Nat) ∧ List.length l = List.length l) ∧ True) ∧ ((List.length l = List.length l ∧ contLe (List.length l) (1 : Nat) (cellsOf' encI l) (cellsOf' encI l)) ∧ True) ∧ SrtQ l s ∧ (decide (id < (1 : Int)) = true → (vcNwg_q1 c e) ∧ True) ∧ (decide (id < (1 : Int)) = false → (decide ((7 : Int) < id) = true → (vcNwg_q1 c e) ∧ True) ∧ (decide ((7 : Int) < id) = false → (((↑(List.length l) : Int) == (0 : Int)) = true → (vcNwg_q1 c e) ∧ True) ∧ (((↑(List.length l) : Int) == (0 : Int)) = false → ((p == (0 : Int)) = true → (vcNwg_q1 c e) ∧ True) ∧ ((p == (0 : Int)) = false → ((false = false ∧ List.length l = List.length s ∧ contLe (List.length l) (1 : Nat) (Ax.rowAt (0 : Nat) (cellsOf' encI s)) (cellsOf' encI s)) ∧ (True ∧ (false = false ∧ (1 : Nat) ≤ (1 : Nat) ∧ cellLe (1 : Nat) (fun (j : Nat) => Ax.get [AV.y (Value.int IntKind.i64 id)] ((0 : Nat) + j)) (Ax.get [AV.y (Value.int IntKind.i64 id)])) ∧ True) ∧ True) ∧ True ∧ (List.length s ≤ (9223372036854775806 : Nat) ∧ ∀ (k : Nat), k < List.length s → True) ∧ true = true ∧ True ∧ (nwAny id s = true → (vcNwg_q1 c e) ∧ True) ∧ (nwAny id s = false → (((0 : Nat) = (0 : Nat) ∧ List.length l = List.length s) ∧ True) ∧ ((List.length s = List.length s ∧ contLe (List.length s) (1 : Nat) (cellsOf' encI s) (cellsOf' encI s)) ∧ True) ∧ CmpQ s m ∧ (((↑(List.length m) : Int) != (↑(List.length l) : Int)) = true → (vcNwg_q1 c e) ∧ True) ∧ (((↑(List.length m) : Int) != (↑(List.length l) : Int)) = false → ((b = b ∧ List.length l = List.length l ∧ contLe (List.length l) (1 : Nat) (cellsOf' encI l) (cellsOf' encI l)) ∧ True) ∧ True ∧ List.length l * (8 : Nat) ≤ (140737488355328 : Nat) ∧ ((id = c.id ∧ (true = true ∧ List.length l = List.length c.servers ∧ contLe (List.length l) (1 : Nat) (cellsOf' encI l) (cellsOf' encI c.servers)) ∧ p = c.prod ∧ (0 : Int) = c.seq ∧ List.length c.topics = (0 : Nat) ∧ List.length c.leaders = (0 : Nat) ∧ false = c.busy ∧ (0 : Int) = c.call.kind ∧ { data := #[] : ByteArray } = c.call.topic ∧ { data := #[] : ByteArray } = c.call.key ∧ List.length c.call.val = (0 : Nat) ∧ (0 : Int) = c.call.off ∧ (0 : Int) = c.call.most ∧ { data := #[] : ByteArray } = c.call.name ∧ (0 : Int) = c.call.adm.kind ∧ (0 : Int) = c.call.adm.prod ∧ (0 : Int) = c.call.adm.seq ∧ { data := #[] : ByteArray } = c.call.adm.topic ∧ List.length c.call.adm.nodes = (0 : Nat) ∧ (0 : Int) = c.call.adm.group ∧ (0 : Int) = c.call.adm.other ∧ { data := #[] : ByteArray } = c.call.adm.key ∧ (0 : Int) = c.call.adm.fr ∧ (0 : Int) = c.call.adm.to ∧ (0 : Int) = c.call.adm.plan ∧ (0 : Int) = c.call.adm.step ∧ (0 : Int) = c.number ∧ false = c.route ∧ (0 : Int) = c.group ∧ (0 : Int) = c.tries ∧ (0 : Int) = c.waited ∧ false = c.again ∧ (0 : Int) = c.at' ∧ True) ∧ (0 : Int) = e ∧ True) ∧ True))))))
set_option maxRecDepth 1000000 in
theorem vcNwg_eq (id : Int) (b : Bool) (l : List Int) (s : List Int) (m : List Int) (p : Int) (c : Clt) (e : Int) : (ctrVC Tryd.prog (nwgH id b l s m) 9 [.y (.int .i64 id), encIs b l, .y (.int .u64 p)] [] (nwgR c e)) = vcNwg id b l s m p c e := by kernel_rfl
end Go.Proofs.YtdpbogaldcpfeaaDoor.C

/-! A client's New. -/
namespace Go.Proofs.YtdpbogaldcpfeaaDoor.C
open Go.Ax
set_option maxRecDepth 1000000
def newB (id : Int) (l : List Int) (p : Int) : Bool := !(decide (id < 1)) && (!(decide (7 < id)) && (!(l.length == 0) && (!(p == 0) && (!(nwAny id (srt l)) && (Lib.compact (srt l)).length == l.length))))
def newK (id : Int) (l : List Int) (p : Int) : Clt := if newB id l p = true then newQ id l p else default
def newE (id : Int) (l : List Int) (p : Int) : Int := if newB id l p = true then 0 else 1
structure NewQ (id : Int) (l : List Int) (p : Int) (c : Clt) (e : Int) : Prop where
  c : c = newK id l p
  e : e = newE id l p
  n : l.length * 8 ≤ 140737488355328
theorem nwg_c (id : Int) (b : Bool) (l : List Int) (p : Int) (c : Clt) (e : Int) (h : NewQ id l p c e) : (nwgR c e).Sat (ACall' Tryd.prog 9 [.y (.int .i64 id), encIs b l, .y (.int .u64 p)] []) := by
  refine ctr_vc (ht := nwgH id b l (srt l) (Lib.compact (srt l))) Tryd.mixed rfl ?_
  rw [vcNwg_eq id b l (srt l) (Lib.compact (srt l)) p c e]
  unfold vcNwg vcNwg_q1
  obtain ⟨hc, he, hn⟩ := h
  have hsl := srt_len l
  have q1 : SrtQ l (srt l) := ⟨rfl, by omega⟩
  have q00 : SrtQ [] (srt []) := ⟨rfl, by decide⟩
  have eb : ({ data := #[] } : ByteArray) = ByteArray.empty := rfl
  have ok0 : newB id l p = false → c = default ∧ e = 1 := fun h => ⟨by rw [hc]; unfold newK; simp [h], by rw [he]; unfold newE; simp [h]⟩
  have ok1 : newB id l p = true → c = newQ id l p ∧ e = 0 := fun h => ⟨by rw [hc]; unfold newK; simp [h], by rw [he]; unfold newE; simp [h]⟩
  by_cases h1 : id < 1
  · obtain ⟨rfl, rfl⟩ := ok0 (by unfold newB; simp [h1])
    simp [hn, q1, h1]
    repeat' apply And.intro
    all_goals rfl
  · by_cases h2 : 7 < id
    · obtain ⟨rfl, rfl⟩ := ok0 (by unfold newB; simp [h2])
      simp [hn, q1, h1, h2]
      repeat' apply And.intro
      all_goals rfl
    · by_cases h3 : l.length = 0
      · obtain ⟨rfl, rfl⟩ := ok0 (by unfold newB; simp [h3])
        have h3' : l = [] := List.eq_nil_of_length_eq_zero h3
        simp [hn, q1, h1, h2, h3']
        repeat' apply And.intro
        all_goals first | rfl | exact contLe_refl _ _ _ | exact q00 | omega
      · have q2 : CmpQ (srt l) (Lib.compact (srt l)) := ⟨rfl, by omega, by omega⟩
        have h3' : ¬ l = [] := fun e => h3 (by rw [e]; rfl)
        by_cases h4 : p = 0
        · obtain ⟨rfl, rfl⟩ := ok0 (by unfold newB; simp [h4])
          simp [hn, q1, h1, h2, h3', h4]
          repeat' apply And.intro
          all_goals first | rfl | exact contLe_refl _ _ _ | exact q00 | omega
        · generalize hs : srt l = s at *
          cases h5 : nwAny id s
          · by_cases h6 : (Lib.compact s).length = l.length
            · obtain ⟨rfl, rfl⟩ := ok1 (by unfold newB; simp [h1, h2, h3, h4, hs, h5, h6])
              simp [hn, q1, q2, h1, h2, h3', h4, h5, h6, hsl]
              repeat' apply And.intro
              all_goals first | rfl | exact contLe_refl _ _ _ | exact q00 | omega
            · obtain ⟨rfl, rfl⟩ := ok0 (by unfold newB; simp [hs, h6])
              simp [hn, q1, q2, h1, h2, h3', h4, h5, h6, hsl]
              refine ⟨by omega, fun hh => ?_, fun hh => ?_⟩
              · first | (repeat' apply And.intro) <;> first | rfl | exact contLe_refl _ _ _ | omega
              · first | exact absurd hh (by omega) | (repeat' apply And.intro) <;> first | rfl | exact contLe_refl _ _ _ | omega
          · obtain ⟨rfl, rfl⟩ := ok0 (by unfold newB; simp [hs, h5])
            simp [hn, q1, q2, h1, h2, h3', h4, h5, hsl]
            repeat' apply And.intro
            all_goals first | rfl | exact contLe_refl _ _ _ | exact q00 | omega
noncomputable def nwG (id : Int) (b : Bool) (l : List Int) (p : Int) (c : Clt) (e : Int) : Ctr Tryd.prog := ⟨9, [.y (.int .i64 id), encIs b l, .y (.int .u64 p)], [], .need (NewQ id l p c e) (nwgR c e), T.Sat.need fun h => nwg_c id b l p c e h⟩
end Go.Proofs.YtdpbogaldcpfeaaDoor.C

/-! A client: what stays so from step to step. -/
namespace Go.Proofs.YtdpbogaldcpfeaaDoor.C
open Go.Ax
structure Inv (n : Nat) (c : Clt) : Prop where
  s : c.servers.length * 8 ≤ 140737488355328
  a0 : 0 ≤ c.at'
  a1 : c.at' < c.servers.length
  tl : c.topics.length ≤ n
  ll : c.leaders.length ≤ n
  k : CalOk c.call
  t : ∀ x ∈ c.topics, TpOk x
theorem calOk_default : CalOk default := ⟨by decide, by decide⟩
theorem Inv.mono {n m : Nat} {c : Clt} (h : Inv n c) (hm : n ≤ m) : Inv m c := ⟨h.s, h.a0, h.a1, Nat.le_trans h.tl hm, Nat.le_trans h.ll hm, h.k, h.t⟩
/-! the contract's conditions -/
/-! New -/
theorem inv_new {id p : Int} {l : List Int} (hn : l.length * 8 ≤ 140737488355328) (h : newE id l p = 0) : Inv 0 (newK id l p) := by
  have hb : newB id l p = true := by
    cases hb : newB id l p
    · unfold newE at h; simp [hb] at h
    · rfl
  have h0 : ¬ l.length = 0 := by
    intro e
    unfold newB at hb
    simp [e] at hb
  unfold newK
  rw [if_pos hb]
  exact ⟨hn, Int.le_refl 0, (by show (0 : Int) < (l.length : Int); omega), Nat.le_refl 0, Nat.le_refl 0, calOk_default, fun x hx => by cases hx⟩
end Go.Proofs.YtdpbogaldcpfeaaDoor.C

/-! From the statements to the laws: the data. -/
namespace Go.Proofs.YtdpbogaldcpfeaaDoor
open Go.Ax Go.Shelf Go.RowKit Go.ChangeShapes Go.WideShapes Go.ChangeAt
set_option maxRecDepth 1000000
def toI {K : Type} : DataW K → Int
  | .lit (.int _ a) => a
  | _ => 0
theorem encI_ok {K : Type} {k : IntKind} {d : DataW K} (h : (Sh.int k).wf d) : (Sh.int k).enc d = [.y (.int k (toI d))] := by
  obtain ⟨k', n, rfl, _⟩ := h
  rfl
theorem Tryd.own : ownKnob Tryd.prog.godebug = Option.none := by kernel_rfl
theorem Tryd.laidOut : laidOutB Tryd.prog = true := by kernel_rfl
theorem Tryd.mapsRowed : mapsRowed Tryd.prog = true := by kernel_rfl
theorem Tryd.slicesOk : slicesOk Tryd.prog = true := by kernel_rfl
theorem underBool : Tryd.prog.underlying 4 = some .bool := by kernel_rfl
end Go.Proofs.YtdpbogaldcpfeaaDoor

/-! From the statements to the laws: calls, shards, replies. -/
namespace Go.Proofs.YtdpbogaldcpfeaaDoor
open Go.Ax Go.Shelf Go.RowKit Go.ChangeShapes Go.WideShapes Go.ChangeAt
set_option maxRecDepth 1000000
theorem relIs {K : Type} {d : DataW K} (hd : (Sh.sl (.int .i64)).wf d) {H : HH} {E : Env} {v : Value} (h : Rel (slAV (.int .i64) d) H E v) : Rel (C.encIs true (listOf toI d)) H E v := conv_sl (encA := encI) (fun x hx => encI_ok hx) hd h
theorem undIs : Tryd.prog.underlying 22 = some (.slice 3) := by kernel_rfl
theorem bytesI : Tryd.prog.bytesOf 3 = 8 := by kernel_rfl
theorem is_sized {K : Type} {d : DataW K} (hw : (d.weights Tryd.prog 22).all (· ≤ reachBytes) = true) : (listOf toI d).length * 8 ≤ 140737488351232 := by
  have := weights_slice toI undIs hw
  rwa [bytesI] at this
/-! shards -/
/-! calls -/
/-! replies -/
/-! inputs -/
end Go.Proofs.YtdpbogaldcpfeaaDoor

/-! A client: a reply is like itself. -/
namespace Go.Proofs.YtdpbogaldcpfeaaDoor.C
open Go.Ax
set_option maxRecDepth 1000000
def iqT (b1 b2 : Bool) (a : List Int) (k : Nat) : List AV := mkT 26 [(0, encIs b1 a), (1, encIs b2 a), (5, .y (.int .i64 k))]
def iqS (_ : Unit) : Exit × List AV × List Blk := (.exit 0, mkT 26 [], [])
def vcInL (b1 : Bool) (b2 : Bool) (a : List Int) (k : Nat) : Prop :=
  (decide ((↑k : Int) < (↑(List.length a) : Int)) = true → (true && decide ((↑k : Int) < (↑(List.length a) : Int))) = true ∧ (true && decide ((↑k : Int) < (↑(List.length a) : Int))) = true ∧ ((List.getD a (Int.toNat (↑k : Int)) (0 : Int) != List.getD a (Int.toNat (↑k : Int)) (0 : Int)) = true → False) ∧ ((List.getD a (Int.toNat (↑k : Int)) (0 : Int) != List.getD a (Int.toNat (↑k : Int)) (0 : Int)) = false → ∃ (j : Nat), List.length a - j < List.length a - k ∧ (((b1 = b1 ∧ List.length a = List.length a ∧ contLe (List.length a) (1 : Nat) (cellsOf' encI a) (cellsOf' encI a)) ∧ (b2 = b2 ∧ List.length a = List.length a ∧ contLe (List.length a) (1 : Nat) (cellsOf' encI a) (cellsOf' encI a)) ∧ IntKind.wrap IntKind.i64 ((↑k : Int) + (1 : Int)) = (↑j : Int) ∧ True) ∧ True ∧ true = true) ∧ true = true ∧ () = ())) ∧ (decide ((↑k : Int) < (↑(List.length a) : Int)) = false → True ∧ True ∧ true = true)
set_option maxRecDepth 1000000 in
theorem vcInL_eq (b1 : Bool) (b2 : Bool) (a : List Int) (k : Nat) : (loopVC Tryd.prog (hT _) 23 4 (fun k => a.length - k) (iqT b1 b2 a) (fun _ => []) [0] (fun _ => .ret ()) iqS k) = vcInL b1 b2 a k := by kernel_rfl
noncomputable def iqH (b1 b2 : Bool) (a : List Int) : HintsT Tryd.prog := hh _ (lp1 23 4 (jobOf (iqT b1 b2 a) (fun _ => []) [0] (fun _ => .ret ()) iqS 0) noLp) noCs noOp
def vcIns (b1 : Bool) (b2 : Bool) (a : List Int) : Prop :=
  (((↑(List.length a) : Int) != (↑(List.length a) : Int)) = true → false = true ∧ True) ∧ (((↑(List.length a) : Int) != (↑(List.length a) : Int)) = false → (((b1 = b1 ∧ List.length a = List.length a ∧ contLe (List.length a) (1 : Nat) (cellsOf' encI a) (cellsOf' encI a)) ∧ (b2 = b2 ∧ List.length a = List.length a ∧ contLe (List.length a) (1 : Nat) (cellsOf' encI a) (cellsOf' encI a)) ∧ (0 : Int) = (0 : Int) ∧ True) ∧ True ∧ true = true) ∧ LoopOk Tryd.prog (23 : Nat) (4 : Nat) (loopAt Tryd.prog (23 : Nat) (4 : Nat)) { t := iqT b1 b2 a (0 : Nat), m := [], mv := [] : St } (T.map (lout [(0 : Nat)] iqS) ((fun (x : Nat) => T.ret ()) (0 : Nat))) ∧ true = true ∧ True)
set_option maxRecDepth 1000000 in
theorem vcIns_eq (b1 : Bool) (b2 : Bool) (a : List Int) : (ctrVC Tryd.prog (iqH b1 b2 a) 23 [encIs b1 a, encIs b2 a] [] (boolR true)) = vcIns b1 b2 a := by kernel_rfl
theorem iq_loop (b1 b2 : Bool) (a : List Int) (hl : a.length ≤ 9223372036854775806) (k : Nat) : LoopOk Tryd.prog 23 4 (loopAt Tryd.prog 23 4) ⟨iqT b1 b2 a k, [], []⟩ (T.map (lout [0] iqS) (.ret ())) := by
  refine loop_vc (o := fun _ => .ret ()) Tryd.mixed (fun _ => rfl) (fun k => (vcInL_eq b1 b2 a k).mpr ?_) k
  unfold vcInL
  simp
  intro h
  simp [h]
  exact ⟨k + 1, by omega, by rw [wrap_i64 (by omega) (by omega)]; omega⟩
theorem iq_c (b1 b2 : Bool) (a : List Int) (hl : a.length ≤ 9223372036854775806) : (boolR true).Sat (ACall' Tryd.prog 23 [encIs b1 a, encIs b2 a] []) := by
  refine ctr_vc (ht := iqH b1 b2 a) Tryd.mixed rfl ?_
  rw [vcIns_eq b1 b2 a]
  unfold vcIns
  simp [iq_loop b1 b2 a hl 0]
noncomputable def iqC (b1 b2 : Bool) (a b : List Int) : Ctr Tryd.prog := ⟨23, [encIs b1 a, encIs b2 b], [], .need (a.length ≤ 9223372036854775806 ∧ a = b) (boolR true), T.Sat.need fun h => by obtain ⟨h1, rfl⟩ := h; exact iq_c b1 b2 a h1⟩
/-! records -/
/-! shards -/
structure ShIn (s : Shd) : Prop where
  n : s.nodes.length ≤ 9223372036854775806
  p : s.past.length ≤ 9223372036854775806
def ss2T (b1 b2 : Bool) (a : List Shd) (k : Nat) : List AV := mkT 99 [(0, encShs b1 a), (1, encShs b2 a), (5, .y (.int .i64 k))]
def ss2S (_ : Unit) : Exit × List AV × List Blk := (.exit 0, mkT 99 [], [])
noncomputable def ss2H (s : Shd) : HintsT Tryd.prog := hh _ noLp (cs1 24 6 10 (iqC true true s.nodes s.nodes) (cs1 24 7 10 (iqC true true s.past s.past) noCs)) noOp
def vcSsL (b1 : Bool) (b2 : Bool) (a : List Shd) (k : Nat) : Prop :=
  (decide ((↑k : Int) < (↑(List.length a) : Int)) = true → (true && decide ((↑k : Int) < (↑(List.length a) : Int))) = true ∧ (true && decide ((↑k : Int) < (↑(List.length a) : Int))) = true ∧ ((true = true ∧ List.length (List.getD a (Int.toNat (↑k : Int)) (@default Shd instInhabitedShd)).nodes = List.length (Option.getD a[k]? (@default Shd instInhabitedShd)).nodes ∧ contLe (List.length (List.getD a (Int.toNat (↑k : Int)) (@default Shd instInhabitedShd)).nodes) (1 : Nat) (cellsOf' encI (List.getD a (Int.toNat (↑k : Int)) (@default Shd instInhabitedShd)).nodes) (cellsOf' encI (Option.getD a[k]? (@default Shd instInhabitedShd)).nodes)) ∧ (true = true ∧ List.length (List.getD a (Int.toNat (↑k : Int)) (@default Shd instInhabitedShd)).nodes = List.length (Option.getD a[k]? (@default Shd instInhabitedShd)).nodes ∧ contLe (List.length (List.getD a (Int.toNat (↑k : Int)) (@default Shd instInhabitedShd)).nodes) (1 : Nat) (cellsOf' encI (List.getD a (Int.toNat (↑k : Int)) (@default Shd instInhabitedShd)).nodes) (cellsOf' encI (Option.getD a[k]? (@default Shd instInhabitedShd)).nodes)) ∧ True) ∧ True ∧ (List.length (Option.getD a[k]? (@default Shd instInhabitedShd)).nodes ≤ (9223372036854775806 : Nat) ∧ (Option.getD a[k]? (@default Shd instInhabitedShd)).nodes = (Option.getD a[k]? (@default Shd instInhabitedShd)).nodes) ∧ (true && decide ((↑k : Int) < (↑(List.length a) : Int))) = true ∧ (true && decide ((↑k : Int) < (↑(List.length a) : Int))) = true ∧ ((true = true ∧ List.length (List.getD a (Int.toNat (↑k : Int)) (@default Shd instInhabitedShd)).past = List.length (Option.getD a[k]? (@default Shd instInhabitedShd)).past ∧ contLe (List.length (List.getD a (Int.toNat (↑k : Int)) (@default Shd instInhabitedShd)).past) (1 : Nat) (cellsOf' encI (List.getD a (Int.toNat (↑k : Int)) (@default Shd instInhabitedShd)).past) (cellsOf' encI (Option.getD a[k]? (@default Shd instInhabitedShd)).past)) ∧ (true = true ∧ List.length (List.getD a (Int.toNat (↑k : Int)) (@default Shd instInhabitedShd)).past = List.length (Option.getD a[k]? (@default Shd instInhabitedShd)).past ∧ contLe (List.length (List.getD a (Int.toNat (↑k : Int)) (@default Shd instInhabitedShd)).past) (1 : Nat) (cellsOf' encI (List.getD a (Int.toNat (↑k : Int)) (@default Shd instInhabitedShd)).past) (cellsOf' encI (Option.getD a[k]? (@default Shd instInhabitedShd)).past)) ∧ True) ∧ True ∧ (List.length (Option.getD a[k]? (@default Shd instInhabitedShd)).past ≤ (9223372036854775806 : Nat) ∧ (Option.getD a[k]? (@default Shd instInhabitedShd)).past = (Option.getD a[k]? (@default Shd instInhabitedShd)).past) ∧ (false = true → False) ∧ (false = false → (false = true → False) ∧ (false = false → (true && decide ((↑k : Int) < (↑(List.length a) : Int))) = true ∧ (true && decide ((↑k : Int) < (↑(List.length a) : Int))) = true ∧ (((List.getD a (Int.toNat (↑k : Int)) (@default Shd instInhabitedShd)).group != (List.getD a (Int.toNat (↑k : Int)) (@default Shd instInhabitedShd)).group) = true → False) ∧ (((List.getD a (Int.toNat (↑k : Int)) (@default Shd instInhabitedShd)).group != (List.getD a (Int.toNat (↑k : Int)) (@default Shd instInhabitedShd)).group) = false → (true && decide ((↑k : Int) < (↑(List.length a) : Int))) = true ∧ (true && decide ((↑k : Int) < (↑(List.length a) : Int))) = true ∧ ((!((List.getD a (Int.toNat (↑k : Int)) (@default Shd instInhabitedShd)).rng.lo.data.toList == (List.getD a (Int.toNat (↑k : Int)) (@default Shd instInhabitedShd)).rng.lo.data.toList && ((List.getD a (Int.toNat (↑k : Int)) (@default Shd instInhabitedShd)).rng.hi.data.toList == (List.getD a (Int.toNat (↑k : Int)) (@default Shd instInhabitedShd)).rng.hi.data.toList && true))) = true → False) ∧ ((!((List.getD a (Int.toNat (↑k : Int)) (@default Shd instInhabitedShd)).rng.lo.data.toList == (List.getD a (Int.toNat (↑k : Int)) (@default Shd instInhabitedShd)).rng.lo.data.toList && ((List.getD a (Int.toNat (↑k : Int)) (@default Shd instInhabitedShd)).rng.hi.data.toList == (List.getD a (Int.toNat (↑k : Int)) (@default Shd instInhabitedShd)).rng.hi.data.toList && true))) = false → (true && decide ((↑k : Int) < (↑(List.length a) : Int))) = true ∧ (true && decide ((↑k : Int) < (↑(List.length a) : Int))) = true ∧ (((List.getD a (Int.toNat (↑k : Int)) (@default Shd instInhabitedShd)).epoch != (List.getD a (Int.toNat (↑k : Int)) (@default Shd instInhabitedShd)).epoch) = true → False) ∧ (((List.getD a (Int.toNat (↑k : Int)) (@default Shd instInhabitedShd)).epoch != (List.getD a (Int.toNat (↑k : Int)) (@default Shd instInhabitedShd)).epoch) = false → (true && decide ((↑k : Int) < (↑(List.length a) : Int))) = true ∧ (true && decide ((↑k : Int) < (↑(List.length a) : Int))) = true ∧ (((List.getD a (Int.toNat (↑k : Int)) (@default Shd instInhabitedShd)).plan != (List.getD a (Int.toNat (↑k : Int)) (@default Shd instInhabitedShd)).plan) = true → False) ∧ (((List.getD a (Int.toNat (↑k : Int)) (@default Shd instInhabitedShd)).plan != (List.getD a (Int.toNat (↑k : Int)) (@default Shd instInhabitedShd)).plan) = false → ∃ (j : Nat), List.length a - j < List.length a - k ∧ (((b1 = b1 ∧ List.length a = List.length a ∧ contLe (List.length a) (7 : Nat) (cellsOf' encSh a) (cellsOf' encSh a)) ∧ (b2 = b2 ∧ List.length a = List.length a ∧ contLe (List.length a) (7 : Nat) (cellsOf' encSh a) (cellsOf' encSh a)) ∧ IntKind.wrap IntKind.i64 ((↑k : Int) + (1 : Int)) = (↑j : Int) ∧ True) ∧ True ∧ true = true) ∧ true = true ∧ () = ()))))))) ∧ (decide ((↑k : Int) < (↑(List.length a) : Int)) = false → True ∧ True ∧ true = true)
set_option maxRecDepth 1000000 in
theorem vcSsL_eq (b1 : Bool) (b2 : Bool) (a : List Shd) (k : Nat) : (loopVC Tryd.prog (ss2H (a[k]?.getD default)) 24 4 (fun k => a.length - k) (ss2T b1 b2 a) (fun _ => []) [0] (fun _ => .ret ()) ss2S k) = vcSsL b1 b2 a k := by kernel_rfl
noncomputable def ss3H (b1 b2 : Bool) (a : List Shd) : HintsT Tryd.prog := hh _ (lp1 24 4 (jobOf (ss2T b1 b2 a) (fun _ => []) [0] (fun _ => .ret ()) ss2S 0) noLp) noCs noOp
def vcSss (b1 : Bool) (b2 : Bool) (a : List Shd) : Prop :=
  (((↑(List.length a) : Int) != (↑(List.length a) : Int)) = true → false = true ∧ True) ∧ (((↑(List.length a) : Int) != (↑(List.length a) : Int)) = false → (((b1 = b1 ∧ List.length a = List.length a ∧ contLe (List.length a) (7 : Nat) (cellsOf' encSh a) (cellsOf' encSh a)) ∧ (b2 = b2 ∧ List.length a = List.length a ∧ contLe (List.length a) (7 : Nat) (cellsOf' encSh a) (cellsOf' encSh a)) ∧ (0 : Int) = (0 : Int) ∧ True) ∧ True ∧ true = true) ∧ LoopOk Tryd.prog (24 : Nat) (4 : Nat) (loopAt Tryd.prog (24 : Nat) (4 : Nat)) { t := ss2T b1 b2 a (0 : Nat), m := [], mv := [] : St } (T.map (lout [(0 : Nat)] ss2S) ((fun (x : Nat) => T.ret ()) (0 : Nat))) ∧ true = true ∧ True)
set_option maxRecDepth 1000000 in
theorem vcSss_eq (b1 : Bool) (b2 : Bool) (a : List Shd) : (ctrVC Tryd.prog (ss3H b1 b2 a) 24 [encShs b1 a, encShs b2 a] [] (boolR true)) = vcSss b1 b2 a := by kernel_rfl
theorem ss2_loop (b1 b2 : Bool) (a : List Shd) (hl : a.length ≤ 9223372036854775806) (hs : ∀ x ∈ a, ShIn x) (k : Nat) : LoopOk Tryd.prog 24 4 (loopAt Tryd.prog 24 4) ⟨ss2T b1 b2 a k, [], []⟩ (T.map (lout [0] ss2S) (.ret ())) := by
  refine loop_vcH (ht := fun k => ss2H (a[k]?.getD default)) (o := fun _ => .ret ()) Tryd.mixed (fun _ => rfl) (fun k => (vcSsL_eq b1 b2 a k).mpr ?_) k
  unfold vcSsL
  simp
  intro h
  have hx := hs (a[k]'h) (List.getElem_mem h)
  have e : a[k]?.getD default = a[k]'h := by simp [h]
  rw [e]
  simp [h, hx.n, hx.p]
  exact ⟨k + 1, by omega, by rw [wrap_i64 (by omega) (by omega)]; omega⟩
theorem ss2_c (b1 b2 : Bool) (a : List Shd) (hl : a.length ≤ 9223372036854775806) (hs : ∀ x ∈ a, ShIn x) : (boolR true).Sat (ACall' Tryd.prog 24 [encShs b1 a, encShs b2 a] []) := by
  refine ctr_vc (ht := ss3H b1 b2 a) Tryd.mixed rfl ?_
  rw [vcSss_eq b1 b2 a]
  unfold vcSss
  simp [ss2_loop b1 b2 a hl hs 0]
structure ShsIn (a b : List Shd) : Prop where
  l : a.length ≤ 9223372036854775806
  s : ∀ x ∈ a, ShIn x
  e : a = b
noncomputable def ss2C (b1 b2 : Bool) (a b : List Shd) : Ctr Tryd.prog := ⟨24, [encShs b1 a, encShs b2 b], [], .need (ShsIn a b) (boolR true), T.Sat.need fun h => by obtain ⟨h1, h2, rfl⟩ := h; exact ss2_c b1 b2 a h1 h2⟩
/-! replies -/
end Go.Proofs.YtdpbogaldcpfeaaDoor.C
