import Derived.Test.YtjmdejbijigfjaaDoorW5
set_option linter.unusedVariables false
set_option linter.unusedSimpArgs false
/-! Records: Both, Commit: the conditions. -/
namespace Go.Proofs.YtjmdejbijigfjaaDoor
open Go.Ax
set_option maxRecDepth 1000000
noncomputable def catC (b1 b2 : Bool) (a b : List Con) : Ctr Tryd.prog := ⟨60, [catA b1 b2 a b], [], .need (a.length ≤ 100000 ∧ b.length ≤ 100000) (conR (a ++ b)), T.Sat.need fun h => cat_c b1 b2 a b h.1 h.2⟩
def miN (x y : Int) : Int := if y < x then y else x
def joC (a b : List Con) (ta tb : List Int) (x : Con) : Con := ⟨x.name, miN (elemO ta (readO a x.name)) (elemO tb (readO b x.name))⟩
def boU (a b : List Con) (ta tb : List Int) (k : Nat) : List Con := ((a ++ b).take k).foldl (fun s x => putL s (joC a b ta tb x)) []
def boT (b1 b2 b3 b4 : Bool) (a b : List Con) (ta tb : List Int) (k : Nat) : List AV := mkT 81 [(0, encCs b1 a), (1, encCs b2 b), (10, fnO b3 ta), (11, fnO b4 tb), (12, .own 0 2 0 (boU a b ta tb k).length), (44, .own 2 2 0 (a ++ b).length), (45, .y (.int .i64 (a ++ b).length)), (46, .y (.int .i64 k))]
def boM (a b : List Con) (ta tb : List Int) (k : Nat) : List Blk := [rowC (boU a b ta tb k), .dead, rowC (a ++ b)]
def boS (a b : List Con) (ta tb : List Int) (_ : Unit) : Exit × List AV × List Blk := (.exit 0, mkT 81 [(12, .own 0 2 0 (boU a b ta tb (a ++ b).length).length)], [rowC (boU a b ta tb (a ++ b).length)])
def boX : List Nat := [0, 1, 2, 3, 4, 5, 6, 7, 8]
noncomputable def boHL (b1 b2 b3 b4 : Bool) (a b : List Con) (ta tb : List Int) (k : Nat) : HintsT Tryd.prog :=
  withSh (hh _ noLp (cs1 39 8 3 (rdC b1 a ((a ++ b).getD k default).name) (cs1 39 9 3 (rdC b2 b ((a ++ b).getD k default).name) (cs1 39 10 5 (ofC b3 ta (readO a ((a ++ b).getD k default).name)) (cs1 39 10 8 (ofC b4 tb (readO b ((a ++ b).getD k default).name)) (cs1 39 10 11 (putC false (boU a b ta tb k) (joC a b ta tb ((a ++ b).getD k default))) noCs))))) noOp) (sh1 39 10 12 2 noSh)
def vcBoL (b1 : Bool) (b2 : Bool) (b3 : Bool) (b4 : Bool) (a : List Con) (b : List Con) (ta : List Int) (tb : List Int) (k : Nat) : Prop :=
  (decide ((↑k : Int) < (↑(List.length (a ++ b)) : Int)) = true → (true && decide ((↑k : Int) < (↑(List.length (a ++ b)) : Int))) = true ∧ decide ((0 : Nat) + Int.toNat (↑k : Int) < List.length (a ++ b)) = true ∧ ((b1 = b1 ∧ List.length a = List.length a ∧ contLe (List.length a) (2 : Nat) (cellsOf' encC a) (cellsOf' encC a)) ∧ (List.getD (a ++ b) ((0 : Nat) + Int.toNat (↑k : Int)) (@default Con instInhabitedCon)).name = (List.getD (a ++ b) k (@default Con instInhabitedCon)).name ∧ True) ∧ True ∧ List.length a ≤ (9223372036854775806 : Nat) ∧ ((b2 = b2 ∧ List.length b = List.length b ∧ contLe (List.length b) (2 : Nat) (cellsOf' encC b) (cellsOf' encC b)) ∧ (List.getD (a ++ b) ((0 : Nat) + Int.toNat (↑k : Int)) (@default Con instInhabitedCon)).name = (List.getD (a ++ b) k (@default Con instInhabitedCon)).name ∧ True) ∧ True ∧ List.length b ≤ (9223372036854775806 : Nat) ∧ ((b3 = b3 ∧ List.length ta = List.length ta ∧ contLe (List.length ta) (1 : Nat) (cellsOf' encU ta) (cellsOf' encU ta)) ∧ readO a (List.getD (a ++ b) k (@default Con instInhabitedCon)).name = readO a (List.getD (a ++ b) k (@default Con instInhabitedCon)).name ∧ True) ∧ True ∧ ((0 : Nat) < List.length ta ∧ List.length ta ≤ (9223372036854775806 : Nat) ∧ (0 : Int) ≤ readO a (List.getD (a ++ b) k (@default Con instInhabitedCon)).name ∧ readO a (List.getD (a ++ b) k (@default Con instInhabitedCon)).name < (18446744073709551616 : Int)) ∧ ((b4 = b4 ∧ List.length tb = List.length tb ∧ contLe (List.length tb) (1 : Nat) (cellsOf' encU tb) (cellsOf' encU tb)) ∧ readO b (List.getD (a ++ b) k (@default Con instInhabitedCon)).name = readO b (List.getD (a ++ b) k (@default Con instInhabitedCon)).name ∧ True) ∧ True ∧ ((0 : Nat) < List.length tb ∧ List.length tb ≤ (9223372036854775806 : Nat) ∧ (0 : Int) ≤ readO b (List.getD (a ++ b) k (@default Con instInhabitedCon)).name ∧ readO b (List.getD (a ++ b) k (@default Con instInhabitedCon)).name < (18446744073709551616 : Int)) ∧ ((false = false ∧ List.length (boU a b ta tb k) = List.length (boU a b ta tb k) ∧ contLe (List.length (boU a b ta tb k)) (2 : Nat) (Ax.rowAt (0 : Nat) (cellsOf' encC (boU a b ta tb k))) (cellsOf' encC (boU a b ta tb k))) ∧ ((List.getD (a ++ b) ((0 : Nat) + Int.toNat (↑k : Int)) (@default Con instInhabitedCon)).name = (List.getD (a ++ b) k (@default Con instInhabitedCon)).name ∧ (if elemO tb (readO b (List.getD (a ++ b) k (@default Con instInhabitedCon)).name) < elemO ta (readO a (List.getD (a ++ b) k (@default Con instInhabitedCon)).name) then elemO tb (readO b (List.getD (a ++ b) k (@default Con instInhabitedCon)).name) else elemO ta (readO a (List.getD (a ++ b) k (@default Con instInhabitedCon)).name)) = miN (elemO ta (readO a (List.getD (a ++ b) k (@default Con instInhabitedCon)).name)) (elemO tb (readO b (List.getD (a ++ b) k (@default Con instInhabitedCon)).name)) ∧ True) ∧ (True ∧ True) ∧ True) ∧ True ∧ (List.length (boU a b ta tb k) * (24 : Nat) ≤ (140737488355200 : Nat) ∧ ∀ (i j : Nat), i < j → j < List.length (boU a b ta tb k) → lt (List.getD (boU a b ta tb k) i (@default Con instInhabitedCon)).name (List.getD (boU a b ta tb k) j (@default Con instInhabitedCon)).name = true) ∧ true = true ∧ ((∀ (k_1 : Nat), k_1 < List.length (putL (boU a b ta tb k) (joC a b ta tb (List.getD (a ++ b) k (@default Con instInhabitedCon)))) → ∀ (j : Nat), j < (2 : Nat) → tagT (cellsOf' encC (putL (boU a b ta tb k) (joC a b ta tb (List.getD (a ++ b) k (@default Con instInhabitedCon)))) k_1 j) = true) ∧ True) ∧ ∃ (j : Nat), List.length (a ++ b) - j < List.length (a ++ b) - k ∧ (((b1 = b1 ∧ List.length a = List.length a ∧ contLe (List.length a) (2 : Nat) (cellsOf' encC a) (cellsOf' encC a)) ∧ (b2 = b2 ∧ List.length b = List.length b ∧ contLe (List.length b) (2 : Nat) (cellsOf' encC b) (cellsOf' encC b)) ∧ (((b3 = b3 ∧ List.length ta = List.length ta ∧ contLe (List.length ta) (1 : Nat) (cellsOf' encU ta) (cellsOf' encU ta)) ∧ True) ∧ True) ∧ (((b4 = b4 ∧ List.length tb = List.length tb ∧ contLe (List.length tb) (1 : Nat) (cellsOf' encU tb) (cellsOf' encU tb)) ∧ True) ∧ True) ∧ ((0 : Nat) = (0 : Nat) ∧ List.length (putL (boU a b ta tb k) (joC a b ta tb (List.getD (a ++ b) k (@default Con instInhabitedCon)))) = List.length (boU a b ta tb j)) ∧ ((0 : Nat) = (0 : Nat) ∧ List.length (a ++ b) = List.length (a ++ b)) ∧ (↑(List.length (a ++ b)) : Int) = (↑(List.length (a ++ b)) : Int) ∧ IntKind.wrap IntKind.i64 ((↑k : Int) + (1 : Int)) = (↑j : Int) ∧ True) ∧ ((List.length (putL (boU a b ta tb k) (joC a b ta tb (List.getD (a ++ b) k (@default Con instInhabitedCon)))) = List.length (boU a b ta tb j) ∧ contLe (List.length (putL (boU a b ta tb k) (joC a b ta tb (List.getD (a ++ b) k (@default Con instInhabitedCon))))) (2 : Nat) (cellsOf' encC (putL (boU a b ta tb k) (joC a b ta tb (List.getD (a ++ b) k (@default Con instInhabitedCon))))) (cellsOf' encC (boU a b ta tb j))) ∧ (List.length (a ++ b) = List.length (a ++ b) ∧ contLe (List.length (a ++ b)) (2 : Nat) (cellsOf' encC (a ++ b)) (cellsOf' encC (a ++ b))) ∧ True) ∧ true = true) ∧ true = true ∧ () = ()) ∧ (decide ((↑k : Int) < (↑(List.length (a ++ b)) : Int)) = false → (((0 : Nat) = (0 : Nat) ∧ List.length (boU a b ta tb k) = List.length (boU a b ta tb (List.length (a ++ b)))) ∧ True) ∧ ((List.length (boU a b ta tb k) = List.length (boU a b ta tb (List.length (a ++ b))) ∧ contLe (List.length (boU a b ta tb k)) (2 : Nat) (cellsOf' encC (boU a b ta tb k)) (cellsOf' encC (boU a b ta tb (List.length (a ++ b))))) ∧ True) ∧ true = true)
set_option maxRecDepth 1000000 in
theorem vcBoL_eq (b1 : Bool) (b2 : Bool) (b3 : Bool) (b4 : Bool) (a : List Con) (b : List Con) (ta : List Int) (tb : List Int) (k : Nat) : (loopVC Tryd.prog (boHL b1 b2 b3 b4 a b ta tb k) 39 6 (fun k => (a ++ b).length - k) (boT b1 b2 b3 b4 a b ta tb) (boM a b ta tb) boX (fun _ => .ret ()) (boS a b ta tb) k) = vcBoL b1 b2 b3 b4 a b ta tb k := by kernel_rfl
def bothE (a b : List Con) (ta tb : List Int) : Int := if !isCons a || !isCons b || decide (ta.length = 0) || decide (tb.length = 0) then 1 else if decide (64 < (boU a b ta tb (a ++ b).length).length) then 143 else 0
def rowE (r : List Con) (e : Int) : T An := .ite (e == 0) (.ret (.tup [.own 0 2 0 r.length, .s (.int .i64 0)], [rowC r], [])) (.ret (.tup [.s (.slice none 0 0), .y (.int .i64 e)], [], []))
noncomputable def boH (b1 b2 b3 b4 : Bool) (a b : List Con) (ta tb : List Int) : HintsT Tryd.prog :=
  hh _ (lp1 39 6 (jobOf (boT b1 b2 b3 b4 a b ta tb) (boM a b ta tb) boX (fun _ => .ret ()) (boS a b ta tb) 0) noLp) (cs1 39 1 1 (coC b1 a) (cs1 39 1 5 (coC b2 b) (cs1 39 5 3 (catC b1 b2 a b) noCs))) (op1 39 4 0 (.row 59 2) noOp)
def vcBp (b1 : Bool) (b2 : Bool) (b3 : Bool) (b4 : Bool) (a : List Con) (b : List Con) (ta : List Int) (tb : List Int) : Prop :=
  ((b1 = b1 ∧ List.length a = List.length a ∧ contLe (List.length a) (2 : Nat) (cellsOf' encC a) (cellsOf' encC a)) ∧ True) ∧ True ∧ List.length a ≤ (9223372036854775806 : Nat) ∧ ((!isCons a) = true → ((bothE a b ta tb == (0 : Int)) = true → (False ∧ (1 : Int) = (0 : Int) ∧ True) ∧ False) ∧ ((bothE a b ta tb == (0 : Int)) = false → (True ∧ (1 : Int) = bothE a b ta tb ∧ True) ∧ True)) ∧ ((!isCons a) = false → ((b2 = b2 ∧ List.length b = List.length b ∧ contLe (List.length b) (2 : Nat) (cellsOf' encC b) (cellsOf' encC b)) ∧ True) ∧ True ∧ List.length b ≤ (9223372036854775806 : Nat) ∧ ((!isCons b) = true → ((bothE a b ta tb == (0 : Int)) = true → (False ∧ (1 : Int) = (0 : Int) ∧ True) ∧ False) ∧ ((bothE a b ta tb == (0 : Int)) = false → (True ∧ (1 : Int) = bothE a b ta tb ∧ True) ∧ True)) ∧ ((!isCons b) = false → (((↑(List.length ta) : Int) == (0 : Int)) = true → ((bothE a b ta tb == (0 : Int)) = true → (False ∧ (1 : Int) = (0 : Int) ∧ True) ∧ False) ∧ ((bothE a b ta tb == (0 : Int)) = false → (True ∧ (1 : Int) = bothE a b ta tb ∧ True) ∧ True)) ∧ (((↑(List.length ta) : Int) == (0 : Int)) = false → (((↑(List.length tb) : Int) == (0 : Int)) = true → ((bothE a b ta tb == (0 : Int)) = true → (False ∧ (1 : Int) = (0 : Int) ∧ True) ∧ False) ∧ ((bothE a b ta tb == (0 : Int)) = false → (True ∧ (1 : Int) = bothE a b ta tb ∧ True) ∧ True)) ∧ (((↑(List.length tb) : Int) == (0 : Int)) = false → ((false = false ∧ (2 : Nat) = (2 : Nat) ∧ contLe (2 : Nat) (1 : Nat) (fun (k j : Nat) => Ax.get [AV.ys b1 (2 : Nat) (List.length a) (cellsOf' encC a), AV.ys b2 (2 : Nat) (List.length b) (cellsOf' encC b)] (((0 : Nat) + k) * (1 : Nat) + j)) fun (k j : Nat) => Ax.get [AV.ys b1 (2 : Nat) (List.length a) (cellsOf' encC a), AV.ys b2 (2 : Nat) (List.length b) (cellsOf' encC b)] (k * (1 : Nat) + j)) ∧ True) ∧ True ∧ (List.length a ≤ (100000 : Nat) ∧ List.length b ≤ (100000 : Nat)) ∧ true = true ∧ ((∀ (k : Nat), k < List.length (a ++ b) → ∀ (j : Nat), j < (2 : Nat) → tagT (cellsOf' encC (a ++ b) k j) = true) ∧ True) ∧ (((b1 = b1 ∧ List.length a = List.length a ∧ contLe (List.length a) (2 : Nat) (cellsOf' encC a) (cellsOf' encC a)) ∧ (b2 = b2 ∧ List.length b = List.length b ∧ contLe (List.length b) (2 : Nat) (cellsOf' encC b) (cellsOf' encC b)) ∧ (((b3 = b3 ∧ List.length ta = List.length ta ∧ contLe (List.length ta) (1 : Nat) (cellsOf' encU ta) (cellsOf' encU ta)) ∧ True) ∧ True) ∧ (((b4 = b4 ∧ List.length tb = List.length tb ∧ contLe (List.length tb) (1 : Nat) (cellsOf' encU tb) (cellsOf' encU tb)) ∧ True) ∧ True) ∧ ((0 : Nat) = (0 : Nat) ∧ (0 : Nat) = (0 : Nat)) ∧ ((0 : Nat) = (0 : Nat) ∧ List.length (a ++ b) = List.length (a ++ b)) ∧ (↑(List.length (a ++ b)) : Int) = (↑(List.length (a ++ b)) : Int) ∧ (0 : Int) = (0 : Int) ∧ True) ∧ (((0 : Nat) = (0 : Nat) ∧ contLe (0 : Nat) (2 : Nat) (fun (x x_1 : Nat) => AV.junk) (cellsOf' encC [])) ∧ (List.length (a ++ b) = List.length (a ++ b) ∧ contLe (List.length (a ++ b)) (2 : Nat) (cellsOf' encC (a ++ b)) (cellsOf' encC (a ++ b))) ∧ True) ∧ true = true) ∧ LoopOk Tryd.prog (39 : Nat) (6 : Nat) (loopAt Tryd.prog (39 : Nat) (6 : Nat)) { t := boT b1 b2 b3 b4 a b ta tb (0 : Nat), m := boM a b ta tb (0 : Nat), mv := [] : St } (T.map (lout boX (boS a b ta tb)) ((fun (x : Nat) => T.ret ()) (0 : Nat))) ∧ (decide ((64 : Int) < (↑(List.length (boU a b ta tb (List.length (a ++ b)))) : Int)) = true → ((bothE a b ta tb == (0 : Int)) = true → (False ∧ (143 : Int) = (0 : Int) ∧ True) ∧ False) ∧ ((bothE a b ta tb == (0 : Int)) = false → (True ∧ (143 : Int) = bothE a b ta tb ∧ True) ∧ True)) ∧ (decide ((64 : Int) < (↑(List.length (boU a b ta tb (List.length (a ++ b)))) : Int)) = false → ((bothE a b ta tb == (0 : Int)) = true → (((0 : Nat) = (0 : Nat) ∧ List.length (boU a b ta tb (List.length (a ++ b))) = List.length (boU a b ta tb (List.length (a ++ b)))) ∧ (0 : Int) = (0 : Int) ∧ True) ∧ (List.length (boU a b ta tb (List.length (a ++ b))) = List.length (boU a b ta tb (List.length (a ++ b))) ∧ contLe (List.length (boU a b ta tb (List.length (a ++ b)))) (2 : Nat) (cellsOf' encC (boU a b ta tb (List.length (a ++ b)))) (cellsOf' encC (boU a b ta tb (List.length (a ++ b))))) ∧ True) ∧ ((bothE a b ta tb == (0 : Int)) = false → False))))))
set_option maxRecDepth 1000000 in
theorem vcBp_eq (b1 : Bool) (b2 : Bool) (b3 : Bool) (b4 : Bool) (a : List Con) (b : List Con) (ta : List Int) (tb : List Int) : (ctrVC Tryd.prog (boH b1 b2 b3 b4 a b ta tb) 39 [encCs b1 a, encCs b2 b, encUs b3 ta, encUs b4 tb] [] (rowE (boU a b ta tb (a ++ b).length) (bothE a b ta tb))) = vcBp b1 b2 b3 b4 a b ta tb := by kernel_rfl
def rbT (b1 b2 b3 b4 : Bool) (a b : List Con) (ta tb : List Int) (k : Nat) : List AV := mkT 89 [(0, encCs b1 a), (1, encCs b2 b), (2, encUs b3 ta), (3, encUs b4 tb), (12, .own 0 2 0 (boU a b ta tb k).length), (13, .own 1 2 0 (a ++ b).length), (14, .y (.int .i64 k))]
def rbM (a b : List Con) (ta tb : List Int) (k : Nat) : List Blk := [rowC (boU a b ta tb k), rowC (a ++ b)]
def rbS (a b : List Con) (ta tb : List Int) (_ : Unit) : Exit × List AV × List Blk := (.exit 0, mkT 89 [(12, .own 0 2 0 (boU a b ta tb (a ++ b).length).length)], [rowC (boU a b ta tb (a ++ b).length)])
noncomputable def rbHL (b1 b2 b3 b4 : Bool) (a b : List Con) (ta tb : List Int) (k : Nat) : HintsT Tryd.prog :=
  withSh (hh _ noLp (cs1 40 10 6 (rrC b1 a ((a ++ b).getD k default).name) (cs1 40 11 6 (rrC b2 b ((a ++ b).getD k default).name) (cs1 40 12 8 (elC b3 ta (readO a ((a ++ b).getD k default).name)) (cs1 40 12 11 (elC b4 tb (readO b ((a ++ b).getD k default).name)) (cs1 40 12 14 (rputC false (boU a b ta tb k) (joC a b ta tb ((a ++ b).getD k default))) noCs))))) noOp) (sh1 40 12 15 2 noSh)
def vcRbL (b1 : Bool) (b2 : Bool) (b3 : Bool) (b4 : Bool) (a : List Con) (b : List Con) (ta : List Int) (tb : List Int) (k : Nat) : Prop :=
  (decide ((↑k : Int) < (↑(List.length (a ++ b)) : Int)) = true → (true && decide ((↑k : Int) < (↑(List.length (a ++ b)) : Int))) = true ∧ decide ((0 : Nat) + Int.toNat (↑k : Int) < List.length (a ++ b)) = true ∧ ((b1 = b1 ∧ List.length a = List.length a ∧ contLe (List.length a) (2 : Nat) (cellsOf' encC a) (cellsOf' encC a)) ∧ (List.getD (a ++ b) ((0 : Nat) + Int.toNat (↑k : Int)) (@default Con instInhabitedCon)).name = (List.getD (a ++ b) k (@default Con instInhabitedCon)).name ∧ True) ∧ True ∧ List.length a ≤ (9223372036854775806 : Nat) ∧ (true && decide ((↑k : Int) < (↑(List.length (a ++ b)) : Int))) = true ∧ decide ((0 : Nat) + Int.toNat (↑k : Int) < List.length (a ++ b)) = true ∧ ((b2 = b2 ∧ List.length b = List.length b ∧ contLe (List.length b) (2 : Nat) (cellsOf' encC b) (cellsOf' encC b)) ∧ (List.getD (a ++ b) ((0 : Nat) + Int.toNat (↑k : Int)) (@default Con instInhabitedCon)).name = (List.getD (a ++ b) k (@default Con instInhabitedCon)).name ∧ True) ∧ True ∧ List.length b ≤ (9223372036854775806 : Nat) ∧ (true && decide ((↑k : Int) < (↑(List.length (a ++ b)) : Int))) = true ∧ decide ((0 : Nat) + Int.toNat (↑k : Int) < List.length (a ++ b)) = true ∧ ((b3 = b3 ∧ List.length ta = List.length ta ∧ contLe (List.length ta) (1 : Nat) (cellsOf' encU ta) (cellsOf' encU ta)) ∧ readO a (List.getD (a ++ b) k (@default Con instInhabitedCon)).name = readO a (List.getD (a ++ b) k (@default Con instInhabitedCon)).name ∧ True) ∧ True ∧ ((0 : Nat) < List.length ta ∧ List.length ta ≤ (9223372036854775806 : Nat) ∧ (0 : Int) ≤ readO a (List.getD (a ++ b) k (@default Con instInhabitedCon)).name ∧ readO a (List.getD (a ++ b) k (@default Con instInhabitedCon)).name < (18446744073709551616 : Int)) ∧ ((b4 = b4 ∧ List.length tb = List.length tb ∧ contLe (List.length tb) (1 : Nat) (cellsOf' encU tb) (cellsOf' encU tb)) ∧ readO b (List.getD (a ++ b) k (@default Con instInhabitedCon)).name = readO b (List.getD (a ++ b) k (@default Con instInhabitedCon)).name ∧ True) ∧ True ∧ ((0 : Nat) < List.length tb ∧ List.length tb ≤ (9223372036854775806 : Nat) ∧ (0 : Int) ≤ readO b (List.getD (a ++ b) k (@default Con instInhabitedCon)).name ∧ readO b (List.getD (a ++ b) k (@default Con instInhabitedCon)).name < (18446744073709551616 : Int)) ∧ ((false = false ∧ List.length (boU a b ta tb k) = List.length (boU a b ta tb k) ∧ contLe (List.length (boU a b ta tb k)) (2 : Nat) (Ax.rowAt (0 : Nat) (cellsOf' encC (boU a b ta tb k))) (cellsOf' encC (boU a b ta tb k))) ∧ ((List.getD (a ++ b) ((0 : Nat) + Int.toNat (↑k : Int)) (@default Con instInhabitedCon)).name = (List.getD (a ++ b) k (@default Con instInhabitedCon)).name ∧ (if elemO tb (readO b (List.getD (a ++ b) k (@default Con instInhabitedCon)).name) < elemO ta (readO a (List.getD (a ++ b) k (@default Con instInhabitedCon)).name) then elemO tb (readO b (List.getD (a ++ b) k (@default Con instInhabitedCon)).name) else elemO ta (readO a (List.getD (a ++ b) k (@default Con instInhabitedCon)).name)) = miN (elemO ta (readO a (List.getD (a ++ b) k (@default Con instInhabitedCon)).name)) (elemO tb (readO b (List.getD (a ++ b) k (@default Con instInhabitedCon)).name)) ∧ True) ∧ True) ∧ True ∧ (List.length (boU a b ta tb k) * (24 : Nat) ≤ (140737488355200 : Nat) ∧ ∀ (i j : Nat), i < j → j < List.length (boU a b ta tb k) → lt (List.getD (boU a b ta tb k) i (@default Con instInhabitedCon)).name (List.getD (boU a b ta tb k) j (@default Con instInhabitedCon)).name = true) ∧ true = true ∧ ((∀ (k_1 : Nat), k_1 < List.length (putL (boU a b ta tb k) (joC a b ta tb (List.getD (a ++ b) k (@default Con instInhabitedCon)))) → ∀ (j : Nat), j < (2 : Nat) → tagT (cellsOf' encC (putL (boU a b ta tb k) (joC a b ta tb (List.getD (a ++ b) k (@default Con instInhabitedCon)))) k_1 j) = true) ∧ True) ∧ ∃ (j : Nat), List.length (a ++ b) - j < List.length (a ++ b) - k ∧ (((b1 = b1 ∧ List.length a = List.length a ∧ contLe (List.length a) (2 : Nat) (cellsOf' encC a) (cellsOf' encC a)) ∧ (b2 = b2 ∧ List.length b = List.length b ∧ contLe (List.length b) (2 : Nat) (cellsOf' encC b) (cellsOf' encC b)) ∧ (b3 = b3 ∧ List.length ta = List.length ta ∧ contLe (List.length ta) (1 : Nat) (cellsOf' encU ta) (cellsOf' encU ta)) ∧ (b4 = b4 ∧ List.length tb = List.length tb ∧ contLe (List.length tb) (1 : Nat) (cellsOf' encU tb) (cellsOf' encU tb)) ∧ ((0 : Nat) = (0 : Nat) ∧ List.length (putL (boU a b ta tb k) (joC a b ta tb (List.getD (a ++ b) k (@default Con instInhabitedCon)))) = List.length (boU a b ta tb j)) ∧ ((0 : Nat) = (0 : Nat) ∧ List.length (a ++ b) = List.length (a ++ b)) ∧ IntKind.wrap IntKind.i64 ((↑k : Int) + (1 : Int)) = (↑j : Int) ∧ True) ∧ ((List.length (putL (boU a b ta tb k) (joC a b ta tb (List.getD (a ++ b) k (@default Con instInhabitedCon)))) = List.length (boU a b ta tb j) ∧ contLe (List.length (putL (boU a b ta tb k) (joC a b ta tb (List.getD (a ++ b) k (@default Con instInhabitedCon))))) (2 : Nat) (cellsOf' encC (putL (boU a b ta tb k) (joC a b ta tb (List.getD (a ++ b) k (@default Con instInhabitedCon))))) (cellsOf' encC (boU a b ta tb j))) ∧ (List.length (a ++ b) = List.length (a ++ b) ∧ contLe (List.length (a ++ b)) (2 : Nat) (cellsOf' encC (a ++ b)) (cellsOf' encC (a ++ b))) ∧ True) ∧ true = true) ∧ true = true ∧ () = ()) ∧ (decide ((↑k : Int) < (↑(List.length (a ++ b)) : Int)) = false → (((0 : Nat) = (0 : Nat) ∧ List.length (boU a b ta tb k) = List.length (boU a b ta tb (List.length (a ++ b)))) ∧ True) ∧ ((List.length (boU a b ta tb k) = List.length (boU a b ta tb (List.length (a ++ b))) ∧ contLe (List.length (boU a b ta tb k)) (2 : Nat) (cellsOf' encC (boU a b ta tb k)) (cellsOf' encC (boU a b ta tb (List.length (a ++ b))))) ∧ True) ∧ true = true)
set_option maxRecDepth 1000000 in
theorem vcRbL_eq (b1 : Bool) (b2 : Bool) (b3 : Bool) (b4 : Bool) (a : List Con) (b : List Con) (ta : List Int) (tb : List Int) (k : Nat) : (loopVC Tryd.prog (rbHL b1 b2 b3 b4 a b ta tb k) 40 8 (fun k => (a ++ b).length - k) (rbT b1 b2 b3 b4 a b ta tb) (rbM a b ta tb) boX (fun _ => .ret ()) (rbS a b ta tb) k) = vcRbL b1 b2 b3 b4 a b ta tb k := by kernel_rfl
noncomputable def rbH (b1 b2 b3 b4 : Bool) (a b : List Con) (ta tb : List Int) : HintsT Tryd.prog :=
  hh _ (lp1 40 8 (jobOf (rbT b1 b2 b3 b4 a b ta tb) (rbM a b ta tb) boX (fun _ => .ret ()) (rbS a b ta tb) 0) noLp) (cs1 40 1 1 (crC b1 a) (cs1 40 2 1 (crC b2 b) noCs)) (op1 40 5 0 (.row 59 2) noOp)
def vcRb (b1 : Bool) (b2 : Bool) (b3 : Bool) (b4 : Bool) (a : List Con) (b : List Con) (ta : List Int) (tb : List Int) : Prop :=
  ((b1 = b1 ∧ List.length a = List.length a ∧ contLe (List.length a) (2 : Nat) (cellsOf' encC a) (cellsOf' encC a)) ∧ True) ∧ True ∧ List.length a ≤ (9223372036854775806 : Nat) ∧ ((b2 = b2 ∧ List.length b = List.length b ∧ contLe (List.length b) (2 : Nat) (cellsOf' encC b) (cellsOf' encC b)) ∧ True) ∧ True ∧ List.length b ≤ (9223372036854775806 : Nat) ∧ ((!isCons a) = true → ((bothE a b ta tb == (0 : Int)) = true → (False ∧ (1 : Int) = (0 : Int) ∧ True) ∧ False) ∧ ((bothE a b ta tb == (0 : Int)) = false → (True ∧ (1 : Int) = bothE a b ta tb ∧ True) ∧ True)) ∧ ((!isCons a) = false → ((!isCons b) = true → ((bothE a b ta tb == (0 : Int)) = true → (False ∧ (1 : Int) = (0 : Int) ∧ True) ∧ False) ∧ ((bothE a b ta tb == (0 : Int)) = false → (True ∧ (1 : Int) = bothE a b ta tb ∧ True) ∧ True)) ∧ ((!isCons b) = false → (((↑(List.length ta) : Int) == (0 : Int)) = true → ((bothE a b ta tb == (0 : Int)) = true → (False ∧ (1 : Int) = (0 : Int) ∧ True) ∧ False) ∧ ((bothE a b ta tb == (0 : Int)) = false → (True ∧ (1 : Int) = bothE a b ta tb ∧ True) ∧ True)) ∧ (((↑(List.length ta) : Int) == (0 : Int)) = false → (((↑(List.length tb) : Int) == (0 : Int)) = true → ((bothE a b ta tb == (0 : Int)) = true → (False ∧ (1 : Int) = (0 : Int) ∧ True) ∧ False) ∧ ((bothE a b ta tb == (0 : Int)) = false → (True ∧ (1 : Int) = bothE a b ta tb ∧ True) ∧ True)) ∧ (((↑(List.length tb) : Int) == (0 : Int)) = false → (decide ((0 : Nat) + List.length a ≤ (9223372036854775807 : Nat)) && decide (((0 : Nat) + List.length a) * (24 : Nat) ≤ (140737488355328 : Nat))) = true ∧ (decide ((0 : Nat) + List.length a = (0 : Nat) + List.length a) && decide ((0 : Nat) + List.length a + List.length b ≤ (9223372036854775807 : Nat)) && decide (((0 : Nat) + List.length a + List.length b) * (24 : Nat) ≤ (140737488355328 : Nat))) = true ∧ (((b1 = b1 ∧ List.length a = List.length a ∧ contLe (List.length a) (2 : Nat) (cellsOf' encC a) (cellsOf' encC a)) ∧ (b2 = b2 ∧ List.length b = List.length b ∧ contLe (List.length b) (2 : Nat) (cellsOf' encC b) (cellsOf' encC b)) ∧ (b3 = b3 ∧ List.length ta = List.length ta ∧ contLe (List.length ta) (1 : Nat) (cellsOf' encU ta) (cellsOf' encU ta)) ∧ (b4 = b4 ∧ List.length tb = List.length tb ∧ contLe (List.length tb) (1 : Nat) (cellsOf' encU tb) (cellsOf' encU tb)) ∧ ((0 : Nat) = (0 : Nat) ∧ (0 : Nat) = (0 : Nat)) ∧ ((0 : Nat) = (0 : Nat) ∧ (0 : Nat) + List.length a + List.length b = List.length (a ++ b)) ∧ (0 : Int) = (0 : Int) ∧ True) ∧ (((0 : Nat) = (0 : Nat) ∧ contLe (0 : Nat) (2 : Nat) (fun (x x_1 : Nat) => AV.junk) (cellsOf' encC [])) ∧ ((0 : Nat) + List.length a + List.length b = List.length (a ++ b) ∧ contLe ((0 : Nat) + List.length a + List.length b) (2 : Nat) (appRow ((0 : Nat) + List.length a) (appRow (0 : Nat) (fun (k j : Nat) => AV.junk) (cellsOf' encC a)) (cellsOf' encC b)) (cellsOf' encC (a ++ b))) ∧ True) ∧ true = true) ∧ LoopOk Tryd.prog (40 : Nat) (8 : Nat) (loopAt Tryd.prog (40 : Nat) (8 : Nat)) { t := rbT b1 b2 b3 b4 a b ta tb (0 : Nat), m := rbM a b ta tb (0 : Nat), mv := [] : St } (T.map (lout boX (rbS a b ta tb)) ((fun (x : Nat) => T.ret ()) (0 : Nat))) ∧ (decide ((64 : Int) < (↑(List.length (boU a b ta tb (List.length (a ++ b)))) : Int)) = true → ((bothE a b ta tb == (0 : Int)) = true → (False ∧ (143 : Int) = (0 : Int) ∧ True) ∧ False) ∧ ((bothE a b ta tb == (0 : Int)) = false → (True ∧ (143 : Int) = bothE a b ta tb ∧ True) ∧ True)) ∧ (decide ((64 : Int) < (↑(List.length (boU a b ta tb (List.length (a ++ b)))) : Int)) = false → ((bothE a b ta tb == (0 : Int)) = true → (((0 : Nat) = (0 : Nat) ∧ List.length (boU a b ta tb (List.length (a ++ b))) = List.length (boU a b ta tb (List.length (a ++ b)))) ∧ (0 : Int) = (0 : Int) ∧ True) ∧ (List.length (boU a b ta tb (List.length (a ++ b))) = List.length (boU a b ta tb (List.length (a ++ b))) ∧ contLe (List.length (boU a b ta tb (List.length (a ++ b)))) (2 : Nat) (cellsOf' encC (boU a b ta tb (List.length (a ++ b)))) (cellsOf' encC (boU a b ta tb (List.length (a ++ b))))) ∧ True) ∧ ((bothE a b ta tb == (0 : Int)) = false → False))))))
set_option maxRecDepth 1000000 in
theorem vcRb_eq (b1 : Bool) (b2 : Bool) (b3 : Bool) (b4 : Bool) (a : List Con) (b : List Con) (ta : List Int) (tb : List Int) : (ctrVC Tryd.prog (rbH b1 b2 b3 b4 a b ta tb) 40 [encCs b1 a, encCs b2 b, encUs b3 ta, encUs b4 tb] [] (rowE (boU a b ta tb (a ++ b).length) (bothE a b ta tb))) = vcRb b1 b2 b3 b4 a b ta tb := by kernel_rfl
/-! Commit -/
def comE (l : List Con) (x : Con) (e : Int) : Int := if !isCons l then 1 else if !nameOk x.name then 142 else if decide (e < x.off) then 141 else if !inC l x.name && decide (l.length = 64) then 143 else 0
noncomputable def cmH (b : Bool) (l : List Con) (x : Con) : HintsT Tryd.prog := hh _ noLp (cs1 32 1 3 (rdC b l x.name) (cs1 32 2 1 (coC b l) (cs1 32 4 2 (nameC x.name) (cs1 32 10 2 (putC b l x) noCs)))) noOp
def vcCm (b : Bool) (l : List Con) (x : Con) (e : Int) : Prop :=
  ((b = b ∧ List.length l = List.length l ∧ contLe (List.length l) (2 : Nat) (cellsOf' encC l) (cellsOf' encC l)) ∧ x.name = x.name ∧ True) ∧ True ∧ List.length l ≤ (9223372036854775806 : Nat) ∧ ((b = b ∧ List.length l = List.length l ∧ contLe (List.length l) (2 : Nat) (cellsOf' encC l) (cellsOf' encC l)) ∧ True) ∧ True ∧ List.length l ≤ (9223372036854775806 : Nat) ∧ ((!isCons l) = true → ((comE l x e == (0 : Int)) = true → (False ∧ (1 : Int) = (0 : Int) ∧ True) ∧ False) ∧ ((comE l x e == (0 : Int)) = false → (True ∧ (1 : Int) = comE l x e ∧ True) ∧ True)) ∧ ((!isCons l) = false → (x.name = x.name ∧ True) ∧ True ∧ ((!nameOk x.name) = true → ((comE l x e == (0 : Int)) = true → (False ∧ (142 : Int) = (0 : Int) ∧ True) ∧ False) ∧ ((comE l x e == (0 : Int)) = false → (True ∧ (142 : Int) = comE l x e ∧ True) ∧ True)) ∧ ((!nameOk x.name) = false → (decide (e < x.off) = true → ((comE l x e == (0 : Int)) = true → (False ∧ (141 : Int) = (0 : Int) ∧ True) ∧ False) ∧ ((comE l x e == (0 : Int)) = false → (True ∧ (141 : Int) = comE l x e ∧ True) ∧ True)) ∧ (decide (e < x.off) = false → ((!inC l x.name) = true → (((↑(List.length l) : Int) == (64 : Int)) = true → ((comE l x e == (0 : Int)) = true → (False ∧ (143 : Int) = (0 : Int) ∧ True) ∧ False) ∧ ((comE l x e == (0 : Int)) = false → (True ∧ (143 : Int) = comE l x e ∧ True) ∧ True)) ∧ (((↑(List.length l) : Int) == (64 : Int)) = false → ((b = b ∧ List.length l = List.length l ∧ contLe (List.length l) (2 : Nat) (cellsOf' encC l) (cellsOf' encC l)) ∧ (x.name = x.name ∧ x.off = x.off ∧ True) ∧ (True ∧ True) ∧ True) ∧ True ∧ (List.length l * (24 : Nat) ≤ (140737488355200 : Nat) ∧ ∀ (i j : Nat), i < j → j < List.length l → lt (List.getD l i (@default Con instInhabitedCon)).name (List.getD l j (@default Con instInhabitedCon)).name = true) ∧ ((comE l x e == (0 : Int)) = true → (((0 : Nat) = (0 : Nat) ∧ List.length (putL l x) = List.length (putL l x)) ∧ (0 : Int) = (0 : Int) ∧ True) ∧ (List.length (putL l x) = List.length (putL l x) ∧ contLe (List.length (putL l x)) (2 : Nat) (cellsOf' encC (putL l x)) (cellsOf' encC (putL l x))) ∧ True) ∧ ((comE l x e == (0 : Int)) = false → False))) ∧ ((!inC l x.name) = false → ((b = b ∧ List.length l = List.length l ∧ contLe (List.length l) (2 : Nat) (cellsOf' encC l) (cellsOf' encC l)) ∧ (x.name = x.name ∧ x.off = x.off ∧ True) ∧ (True ∧ True) ∧ True) ∧ True ∧ (List.length l * (24 : Nat) ≤ (140737488355200 : Nat) ∧ ∀ (i j : Nat), i < j → j < List.length l → lt (List.getD l i (@default Con instInhabitedCon)).name (List.getD l j (@default Con instInhabitedCon)).name = true) ∧ ((comE l x e == (0 : Int)) = true → (((0 : Nat) = (0 : Nat) ∧ List.length (putL l x) = List.length (putL l x)) ∧ (0 : Int) = (0 : Int) ∧ True) ∧ (List.length (putL l x) = List.length (putL l x) ∧ contLe (List.length (putL l x)) (2 : Nat) (cellsOf' encC (putL l x)) (cellsOf' encC (putL l x))) ∧ True) ∧ ((comE l x e == (0 : Int)) = false → False)))))
set_option maxRecDepth 1000000 in
theorem vcCm_eq (b : Bool) (l : List Con) (x : Con) (e : Int) : (ctrVC Tryd.prog (cmH b l x) 32 [encCs b l, .agg (encC x), .y (.int .u64 e)] [] (rowE (putL l x) (comE l x e))) = vcCm b l x e := by kernel_rfl
noncomputable def ckH (b : Bool) (l : List Con) (x : Con) : HintsT Tryd.prog := hh _ noLp (cs1 33 1 1 (crC b l) (cs1 33 2 2 (nmC x.name) (cs1 33 3 3 (rrC b l x.name) (cs1 33 12 2 (rputC b l x) noCs)))) noOp
def vcCk (b : Bool) (l : List Con) (x : Con) (e : Int) : Prop :=
  ((b = b ∧ List.length l = List.length l ∧ contLe (List.length l) (2 : Nat) (cellsOf' encC l) (cellsOf' encC l)) ∧ True) ∧ True ∧ List.length l ≤ (9223372036854775806 : Nat) ∧ (x.name = x.name ∧ True) ∧ True ∧ ((b = b ∧ List.length l = List.length l ∧ contLe (List.length l) (2 : Nat) (cellsOf' encC l) (cellsOf' encC l)) ∧ x.name = x.name ∧ True) ∧ True ∧ List.length l ≤ (9223372036854775806 : Nat) ∧ ((!isCons l) = true → ((comE l x e == (0 : Int)) = true → (False ∧ (1 : Int) = (0 : Int) ∧ True) ∧ False) ∧ ((comE l x e == (0 : Int)) = false → (True ∧ (1 : Int) = comE l x e ∧ True) ∧ True)) ∧ ((!isCons l) = false → ((!nameOk x.name) = true → ((comE l x e == (0 : Int)) = true → (False ∧ (142 : Int) = (0 : Int) ∧ True) ∧ False) ∧ ((comE l x e == (0 : Int)) = false → (True ∧ (142 : Int) = comE l x e ∧ True) ∧ True)) ∧ ((!nameOk x.name) = false → (decide (e < x.off) = true → ((comE l x e == (0 : Int)) = true → (False ∧ (141 : Int) = (0 : Int) ∧ True) ∧ False) ∧ ((comE l x e == (0 : Int)) = false → (True ∧ (141 : Int) = comE l x e ∧ True) ∧ True)) ∧ (decide (e < x.off) = false → ((!inC l x.name) = true → (decide ((64 : Int) ≤ (↑(List.length l) : Int)) = true → ((comE l x e == (0 : Int)) = true → (False ∧ (143 : Int) = (0 : Int) ∧ True) ∧ False) ∧ ((comE l x e == (0 : Int)) = false → (True ∧ (143 : Int) = comE l x e ∧ True) ∧ True)) ∧ (decide ((64 : Int) ≤ (↑(List.length l) : Int)) = false → ((b = b ∧ List.length l = List.length l ∧ contLe (List.length l) (2 : Nat) (cellsOf' encC l) (cellsOf' encC l)) ∧ (x.name = x.name ∧ x.off = x.off ∧ True) ∧ True) ∧ True ∧ (List.length l * (24 : Nat) ≤ (140737488355200 : Nat) ∧ ∀ (i j : Nat), i < j → j < List.length l → lt (List.getD l i (@default Con instInhabitedCon)).name (List.getD l j (@default Con instInhabitedCon)).name = true) ∧ ((comE l x e == (0 : Int)) = true → (((0 : Nat) = (0 : Nat) ∧ List.length (putL l x) = List.length (putL l x)) ∧ (0 : Int) = (0 : Int) ∧ True) ∧ (List.length (putL l x) = List.length (putL l x) ∧ contLe (List.length (putL l x)) (2 : Nat) (cellsOf' encC (putL l x)) (cellsOf' encC (putL l x))) ∧ True) ∧ ((comE l x e == (0 : Int)) = false → False))) ∧ ((!inC l x.name) = false → ((b = b ∧ List.length l = List.length l ∧ contLe (List.length l) (2 : Nat) (cellsOf' encC l) (cellsOf' encC l)) ∧ (x.name = x.name ∧ x.off = x.off ∧ True) ∧ True) ∧ True ∧ (List.length l * (24 : Nat) ≤ (140737488355200 : Nat) ∧ ∀ (i j : Nat), i < j → j < List.length l → lt (List.getD l i (@default Con instInhabitedCon)).name (List.getD l j (@default Con instInhabitedCon)).name = true) ∧ ((comE l x e == (0 : Int)) = true → (((0 : Nat) = (0 : Nat) ∧ List.length (putL l x) = List.length (putL l x)) ∧ (0 : Int) = (0 : Int) ∧ True) ∧ (List.length (putL l x) = List.length (putL l x) ∧ contLe (List.length (putL l x)) (2 : Nat) (cellsOf' encC (putL l x)) (cellsOf' encC (putL l x))) ∧ True) ∧ ((comE l x e == (0 : Int)) = false → False)))))
set_option maxRecDepth 1000000 in
theorem vcCk_eq (b : Bool) (l : List Con) (x : Con) (e : Int) : (ctrVC Tryd.prog (ckH b l x) 33 [encCs b l, .agg (encC x), .y (.int .u64 e)] [] (rowE (putL l x) (comE l x e))) = vcCk b l x e := by kernel_rfl
end Go.Proofs.YtjmdejbijigfjaaDoor

/-! Records: Both, Commit: the contracts. -/
namespace Go.Proofs.YtjmdejbijigfjaaDoor
open Go.Ax
set_option maxRecDepth 1000000
theorem cons_all {l : List Con} : ∀ (n k : Nat), l.length - k = n → coFrom l k = true → ∀ j, k ≤ j → j < l.length → coOk l j = true := by
  intro n
  induction n with
  | zero => intro k hk _ j h1 h2; omega
  | succ n ih =>
    intro k hk h j h1 h2
    rw [coFrom_step (by omega), Bool.and_eq_true] at h
    rcases Nat.lt_or_ge k j with h3 | h3
    · exact ih (k + 1) (by omega) h.2 j (by omega) h2
    · obtain rfl : j = k := by omega
      exact h.1
theorem cons_len {l : List Con} (h : isCons l = true) : l.length ≤ 64 := by
  unfold isCons at h
  rw [Bool.and_eq_true] at h
  exact of_decide_eq_true h.2
theorem cons_ris {l : List Con} (h : isCons l = true) : risC l := by
  unfold isCons at h
  rw [Bool.and_eq_true] at h
  have key : ∀ j, 0 < j → j < l.length → lt (l.getD (j - 1) default).name (l.getD j default).name = true := by
    intro j h1 h2
    have := cons_all _ 0 rfl h.1 j (Nat.zero_le _) h2
    unfold coOk at this
    rw [Bool.and_eq_true, decide_eq_true h1] at this
    simpa using this.2
  have : ∀ d i, i + d + 1 < l.length → lt (l.getD i default).name (l.getD (i + d + 1) default).name = true := by
    intro d
    induction d with
    | zero => intro i hi; exact key (i + 1) (by omega) hi
    | succ d ih => intro i hi; exact lt_trans' (ih i (by omega)) (key (i + (d + 1) + 1) (by omega) hi)
  intro i j hij hj
  obtain ⟨d, rfl⟩ : ∃ d, j = i + d + 1 := ⟨j - i - 1, by omega⟩
  exact this d i hj
theorem read_ok : ∀ {l : List Con} (s : ByteArray), wfC l → offOk (readO l s)
  | [], s, _ => by
    rw [read_none [] s rfl]; exact ⟨by omega, by omega⟩
  | y :: l, s, h => by
    rw [readO_cons]
    split
    · exact h y List.mem_cons_self
    · exact read_ok s fun x hx => h x (List.mem_cons_of_mem y hx)
theorem boU_step {a b : List Con} {ta tb : List Int} {k : Nat} (h : k < (a ++ b).length) : boU a b ta tb (k + 1) = putL (boU a b ta tb k) (joC a b ta tb ((a ++ b)[k]?.getD default)) := by
  unfold boU
  have : (a ++ b).take (k + 1) = (a ++ b).take k ++ [(a ++ b)[k]?.getD default] := by
    rw [List.take_add_one, List.getElem?_eq_getElem h]; rfl
  rw [this, List.foldl_append]; rfl
theorem boU_end {a b : List Con} {ta tb : List Int} {k : Nat} (h : (a ++ b).length ≤ k) : boU a b ta tb k = boU a b ta tb (a ++ b).length := by
  unfold boU
  rw [List.take_of_length_le h, List.take_length]
theorem boU_zero (a b : List Con) (ta tb : List Int) : boU a b ta tb 0 = [] := by unfold boU; simp
theorem boU_ris (a b : List Con) (ta tb : List Int) : ∀ k, risC (boU a b ta tb k)
  | 0 => by rw [boU_zero]; intro i j _ h; simp at h
  | k + 1 => by
    rcases Nat.lt_or_ge k (a ++ b).length with h | h
    · rw [boU_step h]; exact put_ris (boU_ris a b ta tb k)
    · rw [boU_end (by omega), ← boU_end h]; exact boU_ris a b ta tb k
theorem boU_len (a b : List Con) (ta tb : List Int) : ∀ k, (boU a b ta tb k).length ≤ (a ++ b).length ∧ (boU a b ta tb k).length ≤ k
  | 0 => by rw [boU_zero]; simp
  | k + 1 => by
    have ih := boU_len a b ta tb k
    rcases Nat.lt_or_ge k (a ++ b).length with h | h
    · rw [boU_step h]
      have := put_len (boU a b ta tb k) (joC a b ta tb ((a ++ b)[k]?.getD default))
      omega
    · rw [boU_end (k := k + 1) (by omega), ← boU_end h]; omega
theorem tagC (l : List Con) : ∀ k, k < l.length → ∀ j, j < 2 → tagT (cellsOf' encC l k j) = true := fun k _ j hj => by
  match j, hj with
  | 0, _ => rfl
  | 1, _ => rfl
theorem bo_loop (b1 b2 b3 b4 : Bool) (a b : List Con) (ta tb : List Int) (ha : a.length ≤ 64) (hb : b.length ≤ 64) (wa : wfC a) (wb : wfC b) (hta : 0 < ta.length) (htb : 0 < tb.length) (hta' : ta.length ≤ 9223372036854775806) (htb' : tb.length ≤ 9223372036854775806) (k : Nat) : LoopOk Tryd.prog 39 6 (loopAt Tryd.prog 39 6) ⟨boT b1 b2 b3 b4 a b ta tb k, boM a b ta tb k, []⟩ (T.map (lout boX (boS a b ta tb)) (.ret ())) := by
  refine loop_vcH (ht := boHL b1 b2 b3 b4 a b ta tb) (o := fun _ => .ret ()) Tryd.mixed (fun _ => rfl) (fun k => (vcBoL_eq b1 b2 b3 b4 a b ta tb k).mpr ?_) k
  unfold vcBoL
  have hlen := boU_len a b ta tb k
  have hris := boU_ris a b ta tb k
  have hst := @boU_step a b ta tb k
  have hend := @boU_end a b ta tb k
  have hab : (a ++ b).length ≤ 128 := by simp; omega
  generalize a ++ b = m at *
  have htag := tagC (putL (boU a b ta tb k) (joC a b ta tb (m.getD k default)))
  simp at htag
  simp
  refine ⟨fun h => ?_, fun h => ?_⟩
  · have e1 : IntKind.i64.wrap ((k : Int) + 1) = ((k + 1 : Nat) : Int) := by rw [wrap_i64 (by omega) (by omega)]; omega
    rw [e1]
    have r1 := read_ok (l := a) (m[k]?.getD default).name wa
    have r2 := read_ok (l := b) (m[k]?.getD default).name wb
    have hst := hst h
    unfold risC at hris
    simp at hris
    repeat' first | apply And.intro | refine Exists.intro (k + 1) ?_
    all_goals try rw [hst]
    all_goals first
      | omega
      | exact r1.1
      | exact r1.2
      | exact r2.1
      | exact r2.2
      | rfl
      | exact htag
      | exact hris
      | exact contLe_refl _ _ _
  · rw [hend h]
    exact ⟨rfl, contLe_refl _ _ _⟩
theorem both_c (b1 b2 b3 b4 : Bool) (a b : List Con) (ta tb : List Int) (la : a.length ≤ 9223372036854775806) (lb : b.length ≤ 9223372036854775806) (wa : wfC a) (wb : wfC b) (hta' : ta.length ≤ 9223372036854775806) (htb' : tb.length ≤ 9223372036854775806) : (rowE (boU a b ta tb (a ++ b).length) (bothE a b ta tb)).Sat (ACall' Tryd.prog 39 [encCs b1 a, encCs b2 b, encUs b3 ta, encUs b4 tb] []) := by
  refine ctr_vc (ht := boH b1 b2 b3 b4 a b ta tb) Tryd.mixed rfl ?_
  rw [vcBp_eq b1 b2 b3 b4 a b ta tb]
  unfold vcBp
  have ca := @cons_len a
  have cb := @cons_len b
  have e0 := boU_zero a b ta tb
  have htag := tagC (a ++ b)
  have hL := bo_loop b1 b2 b3 b4 a b ta tb
  cases h1 : isCons a
  · simp [bothE, h1, la]
  · cases h2 : isCons b
    · simp [bothE, h1, h2, la, lb]
    · rcases Nat.eq_zero_or_pos ta.length with h3 | h3
      · simp [bothE, h1, h2, h3, la, lb]
      · have h3' : ¬ ta = [] := fun h => by rw [h] at h3; exact absurd h3 (by simp)
        rcases Nat.eq_zero_or_pos tb.length with h4 | h4
        · simp [bothE, h1, h2, h4, la, lb]
        · have h4' : ¬ tb = [] := fun h => by rw [h] at h4; exact absurd h4 (by simp)
          have hL := hL (ca h1) (cb h2) wa wb h3 h4 hta' htb' 0
          have ca := ca h1
          have cb := cb h2
          have n3 : ¬ (ta.length = 0) := by omega
          have n4 : ¬ (tb.length = 0) := by omega
          generalize hz : boU a b ta tb (a ++ b).length = z at *
          have hE : bothE a b ta tb = if decide (64 < z.length) then 143 else 0 := by
            unfold bothE; rw [hz, h1, h2, decide_eq_false n3, decide_eq_false n4]; rfl
          rw [hE]
          generalize a ++ b = m at *
          by_cases h5 : 64 < z.length
          · have h5' : (64 : Int) < z.length := by omega
            simp [h1, h2, h3', h4', la, lb, h5, h5', hL, e0]
            exact ⟨⟨by omega, by omega⟩, htag⟩
          · have h5' : ¬ (64 : Int) < z.length := by omega
            simp [h1, h2, h3', h4', la, lb, h5, h5', hL, e0]
            exact ⟨⟨by omega, by omega⟩, htag⟩
theorem rb_loop (b1 b2 b3 b4 : Bool) (a b : List Con) (ta tb : List Int) (ha : a.length ≤ 64) (hb : b.length ≤ 64) (wa : wfC a) (wb : wfC b) (hta : 0 < ta.length) (htb : 0 < tb.length) (hta' : ta.length ≤ 9223372036854775806) (htb' : tb.length ≤ 9223372036854775806) (k : Nat) : LoopOk Tryd.prog 40 8 (loopAt Tryd.prog 40 8) ⟨rbT b1 b2 b3 b4 a b ta tb k, rbM a b ta tb k, []⟩ (T.map (lout boX (rbS a b ta tb)) (.ret ())) := by
  refine loop_vcH (ht := rbHL b1 b2 b3 b4 a b ta tb) (o := fun _ => .ret ()) Tryd.mixed (fun _ => rfl) (fun k => (vcRbL_eq b1 b2 b3 b4 a b ta tb k).mpr ?_) k
  unfold vcRbL
  have hlen := boU_len a b ta tb k
  have hris := boU_ris a b ta tb k
  have hst := @boU_step a b ta tb k
  have hend := @boU_end a b ta tb k
  have hab : (a ++ b).length ≤ 128 := by simp; omega
  generalize a ++ b = m at *
  have htag := tagC (putL (boU a b ta tb k) (joC a b ta tb (m.getD k default)))
  simp at htag
  simp
  refine ⟨fun h => ?_, fun h => ?_⟩
  · have e1 : IntKind.i64.wrap ((k : Int) + 1) = ((k + 1 : Nat) : Int) := by rw [wrap_i64 (by omega) (by omega)]; omega
    rw [e1]
    have r1 := read_ok (l := a) (m[k]?.getD default).name wa
    have r2 := read_ok (l := b) (m[k]?.getD default).name wb
    have hst := hst h
    unfold risC at hris
    simp at hris
    repeat' first | apply And.intro | refine Exists.intro (k + 1) ?_
    all_goals try rw [hst]
    all_goals first
      | omega
      | exact r1.1
      | exact r1.2
      | exact r2.1
      | exact r2.2
      | rfl
      | exact htag
      | exact hris
      | exact contLe_refl _ _ _
  · rw [hend h]
    exact ⟨rfl, contLe_refl _ _ _⟩
theorem rb_c (b1 b2 b3 b4 : Bool) (a b : List Con) (ta tb : List Int) (la : a.length ≤ 9223372036854775806) (lb : b.length ≤ 9223372036854775806) (wa : wfC a) (wb : wfC b) (hta' : ta.length ≤ 9223372036854775806) (htb' : tb.length ≤ 9223372036854775806) : (rowE (boU a b ta tb (a ++ b).length) (bothE a b ta tb)).Sat (ACall' Tryd.prog 40 [encCs b1 a, encCs b2 b, encUs b3 ta, encUs b4 tb] []) := by
  refine ctr_vc (ht := rbH b1 b2 b3 b4 a b ta tb) Tryd.mixed rfl ?_
  rw [vcRb_eq b1 b2 b3 b4 a b ta tb]
  unfold vcRb
  have ca := @cons_len a
  have cb := @cons_len b
  have e0 := boU_zero a b ta tb
  have hL := rb_loop b1 b2 b3 b4 a b ta tb
  cases h1 : isCons a
  · simp [bothE, h1, la, lb]
  · cases h2 : isCons b
    · simp [bothE, h1, h2, la, lb]
    · rcases Nat.eq_zero_or_pos ta.length with h3 | h3
      · simp [bothE, h1, h2, h3, la, lb]
      · have h3' : ¬ ta = [] := fun h => by rw [h] at h3; exact absurd h3 (by simp)
        rcases Nat.eq_zero_or_pos tb.length with h4 | h4
        · simp [bothE, h1, h2, h4, la, lb]
        · have h4' : ¬ tb = [] := fun h => by rw [h] at h4; exact absurd h4 (by simp)
          have hL := hL (ca h1) (cb h2) wa wb h3 h4 hta' htb' 0
          have ca := ca h1
          have cb := cb h2
          have n3 : ¬ (ta.length = 0) := by omega
          have n4 : ¬ (tb.length = 0) := by omega
          have hcat : contLe (a.length + b.length) 2 (appRow a.length (cellsOf' encC a) (cellsOf' encC b)) (cellsOf' encC (a ++ b)) := cat2_le (contLe_refl _ _ _) rfl
          have hln : a.length + b.length = (a ++ b).length := by simp
          generalize hz : boU a b ta tb (a ++ b).length = z at *
          have hE : bothE a b ta tb = if decide (64 < z.length) then 143 else 0 := by
            unfold bothE; rw [hz, h1, h2, decide_eq_false n3, decide_eq_false n4]; rfl
          rw [hE]
          generalize a ++ b = m at *
          by_cases h5 : 64 < z.length
          · have h5' : (64 : Int) < z.length := by omega
            simp [h1, h2, h3', h4', la, lb, h5, h5', hL, e0]
            repeat' apply And.intro
            all_goals first | omega | exact hcat
          · have h5' : ¬ (64 : Int) < z.length := by omega
            simp [h1, h2, h3', h4', la, lb, h5, h5', hL, e0]
            repeat' apply And.intro
            all_goals first | omega | exact hcat
theorem cm_c (b : Bool) (l : List Con) (x : Con) (e : Int) (hl : l.length ≤ 9223372036854775806) : (rowE (putL l x) (comE l x e)).Sat (ACall' Tryd.prog 32 [encCs b l, .agg (encC x), .y (.int .u64 e)] []) := by
  refine ctr_vc (ht := cmH b l x) Tryd.mixed rfl ?_
  rw [vcCm_eq b l x e]
  unfold vcCm
  have ca := @cons_len l
  have cr := @cons_ris l
  cases h1 : isCons l
  · simp [comE, h1, hl]
  · have ca := ca h1
    have cr := cr h1
    unfold risC at cr
    simp at cr
    cases h2 : nameOk x.name
    · simp [comE, h1, h2, hl]
    · by_cases h3 : e < x.off
      · simp [comE, h1, h2, h3, hl]
      · cases h4 : inC l x.name
        · by_cases h5 : l.length = 64
          · simp [comE, h1, h2, h3, h4, h5, hl]
          · have h5' : ¬ ((l.length : Int) = 64) := by omega
            simp [comE, h1, h2, h3, h4, h5, h5', hl]
            exact ⟨by omega, cr⟩
        · simp [comE, h1, h2, h3, h4, hl]
          exact ⟨by omega, cr⟩
theorem ck_c (b : Bool) (l : List Con) (x : Con) (e : Int) (hl : l.length ≤ 9223372036854775806) : (rowE (putL l x) (comE l x e)).Sat (ACall' Tryd.prog 33 [encCs b l, .agg (encC x), .y (.int .u64 e)] []) := by
  refine ctr_vc (ht := ckH b l x) Tryd.mixed rfl ?_
  rw [vcCk_eq b l x e]
  unfold vcCk
  have ca := @cons_len l
  have cr := @cons_ris l
  cases h1 : isCons l
  · simp [comE, h1, hl]
  · have ca := ca h1
    have cr := cr h1
    unfold risC at cr
    simp at cr
    cases h2 : nameOk x.name
    · simp [comE, h1, h2, hl]
    · by_cases h3 : e < x.off
      · simp [comE, h1, h2, h3, hl]
      · cases h4 : inC l x.name
        · by_cases h5 : l.length = 64
          · simp [comE, h1, h2, h3, h4, h5, hl]
          · have h5' : ¬ ((64 : Int) ≤ l.length) := by omega
            simp [comE, h1, h2, h3, h4, h5, h5', hl]
            exact ⟨by omega, cr⟩
        · simp [comE, h1, h2, h3, h4, hl]
          exact ⟨by omega, cr⟩
noncomputable def bothC (b1 b2 b3 b4 : Bool) (a b : List Con) (ta tb : List Int) : Ctr Tryd.prog := ⟨39, [encCs b1 a, encCs b2 b, encUs b3 ta, encUs b4 tb], [], .need (a.length ≤ 9223372036854775806 ∧ b.length ≤ 9223372036854775806 ∧ wfC a ∧ wfC b ∧ ta.length ≤ 9223372036854775806 ∧ tb.length ≤ 9223372036854775806) (rowE (boU a b ta tb (a ++ b).length) (bothE a b ta tb)), T.Sat.need fun ⟨h1, h2, h3, h4, h5, h6⟩ => both_c b1 b2 b3 b4 a b ta tb h1 h2 h3 h4 h5 h6⟩
noncomputable def rbC (b1 b2 b3 b4 : Bool) (a b : List Con) (ta tb : List Int) : Ctr Tryd.prog := ⟨40, [encCs b1 a, encCs b2 b, encUs b3 ta, encUs b4 tb], [], .need (a.length ≤ 9223372036854775806 ∧ b.length ≤ 9223372036854775806 ∧ wfC a ∧ wfC b ∧ ta.length ≤ 9223372036854775806 ∧ tb.length ≤ 9223372036854775806) (rowE (boU a b ta tb (a ++ b).length) (bothE a b ta tb)), T.Sat.need fun ⟨h1, h2, h3, h4, h5, h6⟩ => rb_c b1 b2 b3 b4 a b ta tb h1 h2 h3 h4 h5 h6⟩
noncomputable def cmC (b : Bool) (l : List Con) (x : Con) (e : Int) : Ctr Tryd.prog := ⟨32, [encCs b l, .agg (encC x), .y (.int .u64 e)], [], .need (l.length ≤ 9223372036854775806) (rowE (putL l x) (comE l x e)), T.Sat.need fun h => cm_c b l x e h⟩
noncomputable def ckC (b : Bool) (l : List Con) (x : Con) (e : Int) : Ctr Tryd.prog := ⟨33, [encCs b l, .agg (encC x), .y (.int .u64 e)], [], .need (l.length ≤ 9223372036854775806) (rowE (putL l x) (comE l x e)), T.Sat.need fun h => ck_c b l x e h⟩
noncomputable def mpC (b1 b2 : Bool) (l : List Con) (to : List Int) : Ctr Tryd.prog := ⟨37, [encCs b1 l, encUs b2 to], [], .need (to.length ≤ 9223372036854775806 ∧ l.length * 24 ≤ 140737488355200 ∧ wfC l) (conR (mapU l to l.length)), T.Sat.need fun h => mp_c b1 b2 l to h.1 h.2.1 h.2.2⟩
noncomputable def mrC (b1 b2 : Bool) (l : List Con) (to : List Int) : Ctr Tryd.prog := ⟨38, [encCs b1 l, encUs b2 to], [], .need (to.length ≤ 9223372036854775806 ∧ l.length * 24 ≤ 140737488355200 ∧ wfC l) (conR (mapU l to l.length)), T.Sat.need fun h => mr_c b1 b2 l to h.1 h.2.1 h.2.2⟩
end Go.Proofs.YtjmdejbijigfjaaDoor
