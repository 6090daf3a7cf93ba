import Derived.Test.YtghhkabankbkoaaQb
set_option linter.unusedVariables false
set_option linter.unusedSimpArgs false
/-! Plans: which plans may be; how many steps. -/
namespace Go.Proofs.Ytghhkabankbkoaa
open Go.Ax
set_option maxRecDepth 1000000
theorem sat_le {P : Program} {g : FuncId} {args args' : List AV} {M : List Blk} {t : T An} (hl : leL args args') (h : t.Sat (ACall' P g args' M)) : t.Sat (ACall' P g args M) :=
  h.mono fun _ hc H E w vals hC hargs => hc H E w vals hC (relL_le _ hl hargs)
def okN (l : List Int) (k : Nat) : Bool := !(decide (l.getD k default < 1) || decide (7 < l.getD k default) || decide (0 < k) && decide (l.getD k default ≤ l.getD (k - 1) default))
def okNs (l : List Int) (k : Nat) : Bool := (List.range' k (l.length - k)).all (okN l)
theorem okNs_end {l : List Int} {k : Nat} (h : l.length ≤ k) : okNs l k = true := by
  unfold okNs
  rw [show l.length - k = 0 by omega]; rfl
theorem okNs_step {l : List Int} {k : Nat} (h : k < l.length) : okNs l k = (okN l k && okNs l (k + 1)) := by
  unfold okNs
  rw [show l.length - k = (l.length - (k + 1)) + 1 by omega, List.range'_succ]; rfl
theorem okNs_len {l : List Int} (h : okNs l 0 = true) : l.length ≤ 7 := by
  have key : ∀ k, k < l.length → okN l k = true := by
    intro k hk
    unfold okNs at h
    rw [List.all_eq_true] at h
    exact h k (by simp; omega)
  have lo : ∀ k : Nat, k < l.length → (k : Int) + 1 ≤ l.getD k default := by
    intro k
    induction k with
    | zero => intro hk; have := key 0 hk; simp [okN] at this; simp; omega
    | succ k ih =>
      intro hk
      have h1 := ih (by omega)
      have h2 := key (k + 1) hk
      simp [okN] at h2
      simp at h1 ⊢
      omega
  rcases Nat.lt_or_ge 7 l.length with h7 | h7
  · have h1 := lo 7 h7
    have h2 := key 7 h7
    simp [okN] at h2
    simp at h1
    omega
  · exact h7
def nodesOk (l : List Int) : Bool := decide (0 < l.length) && okNs l 0
def stepsOf (k : Int) : Int := if k = 1 then 4 else if k = 2 then 5 else if k = 3 then 5 else 0
def manyOf (k : Int) : Int := if k = 1 then 2 else if k = 2 then 1 else 0
def isPlan (p : Plan) : Bool := okNs p.nodes 0 && (decide (0 ≤ p.step) && decide (p.step < stepsOf p.kind) && decide (0 < p.nodes.length) && decide ((p.into.length : Int) = manyOf p.kind))
/-! the document's Nodes, Steps -/
def ndT (b : Bool) (l : List Int) (k : Nat) : List AV := mkT 46 [(0, encIs b l), (2, .s (.bool false)), (3, .y (.int .i64 k))]
def ndS (r : Bool) : Exit × List AV × List Blk := match r with
  | true => (.exit 0, mkT 46 [], [])
  | false => (.ret, mkT 46 [(2, .s (.bool false))], [])
def ndO (l : List Int) (k : Nat) : T Bool := .ite (okNs l k) (.ret true) (.ret false)
def vcNdL (b : Bool) (l : List Int) (k : Nat) : Prop :=
  (decide ((↑k : Int) < (↑(List.length l) : Int)) = true → (true && decide ((↑k : Int) < (↑(List.length l) : Int))) = true ∧ (decide (List.getD l (Int.toNat (↑k : Int)) (0 : Int) < (1 : Int)) = true → (okNs l k = true → False) ∧ (okNs l k = false → (false = false ∧ True) ∧ True ∧ true = true)) ∧ (decide (List.getD l (Int.toNat (↑k : Int)) (0 : Int) < (1 : Int)) = false → (true && decide ((↑k : Int) < (↑(List.length l) : Int))) = true ∧ (decide ((7 : Int) < List.getD l (Int.toNat (↑k : Int)) (0 : Int)) = true → (okNs l k = true → False) ∧ (okNs l k = false → (false = false ∧ True) ∧ True ∧ true = true)) ∧ (decide ((7 : Int) < List.getD l (Int.toNat (↑k : Int)) (0 : Int)) = false → (decide ((0 : Int) < (↑k : Int)) = true → (decide ((0 : Int) ≤ IntKind.wrap IntKind.i64 ((↑k : Int) - (1 : Int))) && decide (IntKind.wrap IntKind.i64 ((↑k : Int) - (1 : Int)) < (↑(List.length l) : Int))) = true ∧ (true && decide ((↑k : Int) < (↑(List.length l) : Int))) = true ∧ (decide (List.getD l (Int.toNat (↑k : Int)) (0 : Int) ≤ List.getD l (Int.toNat (IntKind.wrap IntKind.i64 ((↑k : Int) - (1 : Int)))) (0 : Int)) = true → (okNs l k = true → False) ∧ (okNs l k = false → (false = false ∧ True) ∧ True ∧ true = true)) ∧ (decide (List.getD l (Int.toNat (↑k : Int)) (0 : Int) ≤ List.getD l (Int.toNat (IntKind.wrap IntKind.i64 ((↑k : Int) - (1 : Int)))) (0 : Int)) = false → ∃ (j : Nat), List.length l - j < List.length l - k ∧ (((b = b ∧ List.length l = List.length l ∧ contLe (List.length l) (1 : Nat) (cellsOf' encI l) (cellsOf' encI l)) ∧ false = false ∧ IntKind.wrap IntKind.i64 ((↑k : Int) + (1 : Int)) = (↑j : Int) ∧ True) ∧ True ∧ true = true) ∧ true = true ∧ (okNs l j = true → (okNs l k = true → true = true) ∧ (okNs l k = false → true = false)) ∧ (okNs l j = false → (okNs l k = true → false = true) ∧ (okNs l k = false → false = false)))) ∧ (decide ((0 : Int) < (↑k : Int)) = false → ∃ (j : Nat), List.length l - j < List.length l - k ∧ (((b = b ∧ List.length l = List.length l ∧ contLe (List.length l) (1 : Nat) (cellsOf' encI l) (cellsOf' encI l)) ∧ false = false ∧ IntKind.wrap IntKind.i64 ((↑k : Int) + (1 : Int)) = (↑j : Int) ∧ True) ∧ True ∧ true = true) ∧ true = true ∧ (okNs l j = true → (okNs l k = true → true = true) ∧ (okNs l k = false → true = false)) ∧ (okNs l j = false → (okNs l k = true → false = true) ∧ (okNs l k = false → false = false)))))) ∧ (decide ((↑k : Int) < (↑(List.length l) : Int)) = false → (okNs l k = true → True ∧ True ∧ true = true) ∧ (okNs l k = false → False))
set_option maxRecDepth 1000000 in
theorem vcNdL_eq (b : Bool) (l : List Int) (k : Nat) : (loopVC Try.prog (hT _) 36 4 (fun k => l.length - k) (ndT b l) (fun _ => []) [0] (ndO l) ndS k) = vcNdL b l k := by kernel_rfl
theorem nd_loop (b : Bool) (l : List Int) (hl : l.length ≤ 9223372036854775806) (k : Nat) : LoopOk Try.prog 36 4 (loopAt Try.prog 36 4) ⟨ndT b l k, [], []⟩ ((ndO l k).map (lout [0] ndS)) := by
  refine loop_vc Try.mixed (fun _ => rfl) (fun k => (vcNdL_eq b l k).mpr ?_) k
  unfold vcNdL
  simp
  refine ⟨fun h => ?_, fun h => by simp [okNs_end h]⟩
  rw [okNs_step h]
  simp (disch := omega) only [wrap_i64]
  simp [okN, cast_succ_eq]
  grind
noncomputable def ndH (b : Bool) (l : List Int) : HintsT Try.prog := hh _ (lp1 36 4 (jobOf (ndT b l) (fun _ => []) [0] (ndO l) ndS 0) noLp) noCs noOp
def vcNd (b : Bool) (l : List Int) : Prop :=
  (decide ((↑(List.length l) : Int) < (1 : Int)) = true → false = nodesOk l ∧ True) ∧ (decide ((↑(List.length l) : Int) < (1 : Int)) = false → (decide ((7 : Int) < (↑(List.length l) : Int)) = true → false = nodesOk l ∧ True) ∧ (decide ((7 : Int) < (↑(List.length l) : Int)) = false → (((b = b ∧ List.length l = List.length l ∧ contLe (List.length l) (1 : Nat) (cellsOf' encI l) (cellsOf' encI l)) ∧ false = false ∧ (0 : Int) = (0 : Int) ∧ True) ∧ True ∧ true = true) ∧ LoopOk Try.prog (36 : Nat) (4 : Nat) (loopAt Try.prog (36 : Nat) (4 : Nat)) { t := ndT b l (0 : Nat), m := [], mv := [] } (T.map (lout [(0 : Nat)] ndS) (ndO l (0 : Nat))) ∧ (okNs l (0 : Nat) = true → true = nodesOk l ∧ True) ∧ (okNs l (0 : Nat) = false → false = nodesOk l ∧ True)))
set_option maxRecDepth 1000000 in
theorem vcNd_eq (b : Bool) (l : List Int) : (ctrVC Try.prog (ndH b l) 36 [encIs b l] [] (boolR (nodesOk l))) = vcNd b l := by kernel_rfl
theorem nd_c (b : Bool) (l : List Int) (hl : l.length ≤ 9223372036854775806) : (boolR (nodesOk l)).Sat (ACall' Try.prog 36 [encIs b l] []) := by
  refine ctr_vc (ht := (ndH b l)) Try.mixed rfl ?_
  rw [vcNd_eq b l]
  unfold vcNd
  have := nd_loop b l hl 0
  have hlen := okNs_len (l := l)
  simp [nodesOk, this]
  grind
def intR (k : Int) : T An := .ret (.y (.int .i64 k), [], [])
def vcSt2 (k : Int) : Prop :=
  ((k == (1 : Int)) = true → (4 : Int) = stepsOf k ∧ True) ∧ ((k == (1 : Int)) = false → ((k == (2 : Int)) = true → (5 : Int) = stepsOf k ∧ True) ∧ ((k == (2 : Int)) = false → ((k == (3 : Int)) = true → (5 : Int) = stepsOf k ∧ True) ∧ ((k == (3 : Int)) = false → (0 : Int) = stepsOf k ∧ True)))
set_option maxRecDepth 1000000 in
theorem vcSt2_eq (k : Int) : (ctrVC Try.prog (hT _) 18 [.y (.int .i64 k)] [] (intR (stepsOf k))) = vcSt2 k := by kernel_rfl
theorem st2_c (k : Int) : (intR (stepsOf k)).Sat (ACall' Try.prog 18 [.y (.int .i64 k)] []) := by
  refine ctr_vc (ht := hT _) Try.mixed rfl ?_
  rw [vcSt2_eq k]
  unfold vcSt2
  simp [stepsOf]
  grind
def vcSt (k : Int) : Prop :=
  ((k == (2 : Int)) = true → (5 : Int) = stepsOf k ∧ True) ∧ ((k == (2 : Int)) = false → ((k == (1 : Int)) = true → (4 : Int) = stepsOf k ∧ True) ∧ ((k == (1 : Int)) = false → ((k == (3 : Int)) = true → (5 : Int) = stepsOf k ∧ True) ∧ ((k == (3 : Int)) = false → (0 : Int) = stepsOf k ∧ True)))
set_option maxRecDepth 1000000 in
theorem vcSt_eq (k : Int) : (ctrVC Try.prog (hT _) 12 [.y (.int .i64 k)] [] (intR (stepsOf k))) = vcSt k := by kernel_rfl
theorem st_c (k : Int) : (intR (stepsOf k)).Sat (ACall' Try.prog 12 [.y (.int .i64 k)] []) := by
  refine ctr_vc (ht := hT _) Try.mixed rfl ?_
  rw [vcSt_eq k]
  unfold vcSt
  simp [stepsOf]
  grind
end Go.Proofs.Ytghhkabankbkoaa
