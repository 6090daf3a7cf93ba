import Derived.Test.YtdpbogaldcpfeaaDoorW4
set_option linter.unusedVariables false
set_option linter.unusedSimpArgs false
set_option linter.unusedSectionVars false
/-! A client: New of three servers: sorted, compact: the conditions. -/
namespace Go.Proofs.YtdpbogaldcpfeaaDoor.C
open Go.Ax
set_option maxRecDepth 1000000
theorem pdq_c : uM2.Sat (ACall' Tryd.prog 31 [o2, .s (.int .i64 0), .s (.int .i64 3), .s (.int .i64 2)] M2) := by
  refine ctr_vcg (ht := pdqH) Tryd.mixed rfl ?_
  rw [vcPdq_eq ()]
  unfold vcPdq vcPdq_q3 vcPdq_q8 vcPdq_q2 vcPdq_q9 vcPdq_q6 vcPdq_q11 vcPdq_q4 vcPdq_q1 vcPdq_q7 vcPdq_q10 vcPdq_q5
  simp
noncomputable def pdqK : Ctr Tryd.prog := ⟨31, [o2, .s (.int .i64 0), .s (.int .i64 3), .s (.int .i64 2)], M2, uM2, pdq_c⟩
noncomputable def srtH : HintsT Tryd.prog := withSub (hh _ noLp (cs1 17 1 4 lenK (cs1 17 1 5 pdqK noCs)) noOp) [31]
def vcSrt (u : Unit) : Prop :=
  ((3 : Int) = (3 : Int) ∧ True) ∧ True ∧ (((0 : Nat) = (0 : Nat) ∧ (3 : Nat) = (3 : Nat)) ∧ (0 : Int) = (0 : Int) ∧ (3 : Int) = (3 : Int) ∧ (2 : Int) = (2 : Int) ∧ True) ∧ (((3 : Nat) = (3 : Nat) ∧ contLe (3 : Nat) (1 : Nat) (cellsOf' encI [(1 : Int), (2 : Int), (3 : Int)]) (cellsOf' encI [(1 : Int), (2 : Int), (3 : Int)])) ∧ True) ∧ True ∧ ((3 : Nat) = (3 : Nat) ∧ contLe (3 : Nat) (1 : Nat) (cellsOf' encI [(1 : Int), (2 : Int), (3 : Int)]) (cellsOf' encI [(1 : Int), (2 : Int), (3 : Int)])) ∧ True
set_option maxRecDepth 1000000 in
theorem vcSrt_eq (u : Unit) : (ctrVCg Tryd.prog srtH 17 [o2] M2 uM2) = vcSrt u := by kernel_rfl
theorem srt_c : uM2.Sat (ACall' Tryd.prog 17 [o2] M2) := by
  refine ctr_vcg (ht := srtH) Tryd.mixed rfl ?_
  rw [vcSrt_eq ()]
  unfold vcSrt
  simp
noncomputable def srtK : Ctr Tryd.prog := ⟨17, [o2], M2, uM2, srt_c⟩
/-! no two neighbours are equal -/
def cpT (k : Nat) : List AV := mkT 61 [(0, o2), (3, .y (.int .i64 ((k + 1 : Nat) : Int)))]
def cpM (_ : Nat) : List Blk := M2
def cpS (_ : Unit) : Exit × List AV × List Blk := (.exit 0, mkT 61 [(0, o2)], M2)
noncomputable def cpH (_ : Nat) : HintsT Tryd.prog := hh _ (lp1 21 9 (jobOf (fun _ : Nat => mkT 61 []) (fun _ => []) [0, 1, 2, 3, 4, 5] (fun _ => .ret ()) (fun _ => (.exit 2, mkT 61 [], [])) 0) noLp) noCs noOp
def vcCpL (k : Nat) : Prop :=
  (decide ((↑(k + (1 : Nat)) : Int) < (3 : Int)) = true → (true && decide ((↑(k + (1 : Nat)) : Int) < (3 : Int))) = true ∧ decide ((0 : Nat) + Int.toNat (↑(k + (1 : Nat)) : Int) < (3 : Nat)) = true ∧ (decide ((0 : Int) ≤ IntKind.wrap IntKind.i64 ((↑(k + (1 : Nat)) : Int) - (1 : Int))) && decide (IntKind.wrap IntKind.i64 ((↑(k + (1 : Nat)) : Int) - (1 : Int)) < (3 : Int))) = true ∧ decide ((0 : Nat) + Int.toNat (IntKind.wrap IntKind.i64 ((↑(k + (1 : Nat)) : Int) - (1 : Int))) < (3 : Nat)) = true ∧ ((List.getD [(1 : Int), (2 : Int), (3 : Int)] ((0 : Nat) + Int.toNat (↑(k + (1 : Nat)) : Int)) (0 : Int) == List.getD [(1 : Int), (2 : Int), (3 : Int)] ((0 : Nat) + Int.toNat (IntKind.wrap IntKind.i64 ((↑(k + (1 : Nat)) : Int) - (1 : Int)))) (0 : Int)) = true → (true && decide ((↑(k + (1 : Nat)) : Int) ≤ (3 : Int)) && true) = true ∧ (True ∧ True ∧ true = true) ∧ LoopOk Tryd.prog (21 : Nat) (9 : Nat) (loopAt Tryd.prog (21 : Nat) (9 : Nat)) { t := mkT (61 : Nat) [], m := [], mv := [] : St } (T.map (lout [(0 : Nat), (1 : Nat), (2 : Nat), (3 : Nat), (4 : Nat), (5 : Nat)] fun (x : Unit) => (Exit.exit (2 : Nat), mkT (61 : Nat) [], [])) ((fun (x : Nat) => T.ret ()) (0 : Nat))) ∧ False) ∧ ((List.getD [(1 : Int), (2 : Int), (3 : Int)] ((0 : Nat) + Int.toNat (↑(k + (1 : Nat)) : Int)) (0 : Int) == List.getD [(1 : Int), (2 : Int), (3 : Int)] ((0 : Nat) + Int.toNat (IntKind.wrap IntKind.i64 ((↑(k + (1 : Nat)) : Int) - (1 : Int)))) (0 : Int)) = false → ∃ (j : Nat), (3 : Nat) - j < (3 : Nat) - k ∧ ((((0 : Nat) = (0 : Nat) ∧ (3 : Nat) = (3 : Nat)) ∧ IntKind.wrap IntKind.i64 ((↑(k + (1 : Nat)) : Int) + (1 : Int)) = (↑(j + (1 : Nat)) : Int) ∧ True) ∧ (((3 : Nat) = (3 : Nat) ∧ contLe (3 : Nat) (1 : Nat) (cellsOf' encI [(1 : Int), (2 : Int), (3 : Int)]) (cellsOf' encI [(1 : Int), (2 : Int), (3 : Int)])) ∧ True) ∧ true = true) ∧ true = true ∧ () = ())) ∧ (decide ((↑(k + (1 : Nat)) : Int) < (3 : Int)) = false → (((0 : Nat) = (0 : Nat) ∧ (3 : Nat) = (3 : Nat)) ∧ True) ∧ (((3 : Nat) = (3 : Nat) ∧ contLe (3 : Nat) (1 : Nat) (cellsOf' encI [(1 : Int), (2 : Int), (3 : Int)]) (cellsOf' encI [(1 : Int), (2 : Int), (3 : Int)])) ∧ True) ∧ true = true)
set_option maxRecDepth 1000000 in
theorem vcCpL_eq (k : Nat) : (loopVC Tryd.prog (cpH k) 21 4 (fun k => 3 - k) cpT cpM [] (fun _ => .ret ()) cpS k) = vcCpL k := by kernel_rfl
noncomputable def cmpH : HintsT Tryd.prog := hh _ (lp1 21 4 (jobOf cpT cpM [] (fun _ => .ret ()) cpS 0) noLp) noCs noOp
def cmpR : T An := .ret (o2, M2, [])
def vcCmp (u : Unit) : Prop :=
  (false = true → ((0 : Nat) = (0 : Nat) ∧ (3 : Nat) = (3 : Nat)) ∧ ((3 : Nat) = (3 : Nat) ∧ contLe (3 : Nat) (1 : Nat) (cellsOf' encI [(1 : Int), (2 : Int), (3 : Int)]) (cellsOf' encI [(1 : Int), (2 : Int), (3 : Int)])) ∧ True) ∧ (false = false → ((((0 : Nat) = (0 : Nat) ∧ (3 : Nat) = (3 : Nat)) ∧ (1 : Int) = (1 : Int) ∧ True) ∧ (((3 : Nat) = (3 : Nat) ∧ contLe (3 : Nat) (1 : Nat) (cellsOf' encI [(1 : Int), (2 : Int), (3 : Int)]) (cellsOf' encI [(1 : Int), (2 : Int), (3 : Int)])) ∧ True) ∧ true = true) ∧ LoopOk Tryd.prog (21 : Nat) (4 : Nat) (loopAt Tryd.prog (21 : Nat) (4 : Nat)) { t := cpT (0 : Nat), m := cpM (0 : Nat), mv := [] : St } (T.map (lout [] cpS) ((fun (x : Nat) => T.ret ()) (0 : Nat))) ∧ ((0 : Nat) = (0 : Nat) ∧ (3 : Nat) = (3 : Nat)) ∧ ((3 : Nat) = (3 : Nat) ∧ contLe (3 : Nat) (1 : Nat) (cellsOf' encI [(1 : Int), (2 : Int), (3 : Int)]) (cellsOf' encI [(1 : Int), (2 : Int), (3 : Int)])) ∧ True)
set_option maxRecDepth 1000000 in
theorem vcCmp_eq (u : Unit) : (ctrVCg Tryd.prog cmpH 21 [o2] M2 cmpR) = vcCmp u := by kernel_rfl
/-! are all servers? -/
def srvB (id n : Int) : Bool := !(decide (1 ≤ n) && (decide (n ≤ 7) && !(n == id)))
def nwE (id : Int) : List AV := [.ip false 1 (get [.y (.int .i64 id)])]
def vcNw1 (id : Int) (n : Int) : Prop :=
  (decide ((1 : Int) ≤ n) = true → (decide (n ≤ (7 : Int)) = true → (!n != id) = srvB id n ∧ True) ∧ (decide (n ≤ (7 : Int)) = false → true = srvB id n ∧ True)) ∧ (decide ((1 : Int) ≤ n) = false → true = srvB id n ∧ True)
set_option maxRecDepth 1000000 in
theorem vcNw1_eq (id : Int) (n : Int) : (ctrVC Tryd.prog (hT _) 19 ([.y (.int .i64 n)] ++ nwE id) [] (boolR (srvB id n))) = vcNw1 id n := by kernel_rfl
theorem nw1_c (id n : Int) : (boolR (srvB id n)).Sat (ACall' Tryd.prog 19 ([.y (.int .i64 n)] ++ nwE id) []) := by
  refine ctr_vc (ht := hT _) Tryd.mixed rfl ?_
  rw [vcNw1_eq id n]
  unfold vcNw1 srvB
  by_cases h1 : 1 ≤ n <;> by_cases h2 : n ≤ 7 <;> by_cases h3 : n = id <;> (simp [h1, h2, h3]; try rfl)
/-! slices.IndexFunc, ContainsFunc over int by gazette/client.New$1 -/
def nwFn (id : Int) : AV := .fn (.func 19) [] (nwE id)
def nwAny (id : Int) (l : List Int) : Bool := l.any (srvB id)
theorem nwAny_nil (id : Int) : nwAny id [] = false := rfl
theorem nwAny_cons (id : Int) (y : Int) (l : List Int) : nwAny id (y :: l) = (srvB id y || nwAny id l) := rfl
noncomputable def nwC (id : Int) (x : Int) : Ctr Tryd.prog := ⟨19, [.y (.int .i64 x)] ++ (nwE id), [], .need (True) (boolR (srvB id x)), T.Sat.need fun h => nw1_c id x⟩
def nwT (id : Int) (bb : Bool) (l : List Int) (k : Nat) : List AV := mkT 19 [(0, .ys bb 1 l.length (cellsOf' encI l)), (1, nwFn id), (4, .s (.int .i64 0)), (7, .y (.int .i64 l.length)), (8, .y (.int .i64 k))]
def nwS (r : Bool × Nat) : Exit × List AV × List Blk := match r.1 with
  | true => (.ret, mkT 19 [(4, .y (.int .i64 r.2))], [])
  | false => (.exit 0, mkT 19 [], [])
def nwO (id : Int) (l : List Int) (k : Nat) : T (Bool × Nat) := .ite (nwAny id (l.drop k)) (.ret (true, k + (l.drop k).findIdx (srvB id))) (.ret (false, 0))
noncomputable def nwHL (id : Int) (l : List Int) (k : Nat) : HintsT Tryd.prog := hh _ noLp (cs1 33 4 5 (nwC id (l.getD k default)) noCs) noOp
def vcnwL (id : Int) (bb : Bool) (l : List Int) (k : Nat) : Prop :=
  (decide ((↑k : Int) < (↑(List.length l) : Int)) = true → (true && decide ((↑k : Int) < (↑(List.length l) : Int))) = true ∧ (List.getD l (Int.toNat (↑k : Int)) (0 : Int) = List.getD l k (0 : Int) ∧ (false = false ∧ (1 : Nat) ≤ (1 : Nat) ∧ cellLe (1 : Nat) (Ax.get [AV.y (Value.int IntKind.i64 id)]) (Ax.get [AV.y (Value.int IntKind.i64 id)])) ∧ True) ∧ True ∧ True ∧ (srvB id (List.getD l k (0 : Int)) = true → (nwAny id (List.drop k l) = true → ((↑k : Int) = (↑(k + List.findIdx (srvB id) (List.drop k l)) : Int) ∧ True) ∧ True ∧ true = true) ∧ (nwAny id (List.drop k l) = false → False)) ∧ (srvB id (List.getD l k (0 : Int)) = false → ∃ (j : Nat), List.length l - j < List.length l - k ∧ (((bb = bb ∧ List.length l = List.length l ∧ contLe (List.length l) (1 : Nat) (cellsOf' encI l) (cellsOf' encI l)) ∧ (True ∧ (false = false ∧ (1 : Nat) ≤ (1 : Nat) ∧ cellLe (1 : Nat) (Ax.get [AV.y (Value.int IntKind.i64 id)]) (Ax.get [AV.y (Value.int IntKind.i64 id)])) ∧ True) ∧ (0 : Int) = (0 : Int) ∧ (↑(List.length l) : Int) = (↑(List.length l) : Int) ∧ IntKind.wrap IntKind.i64 ((↑k : Int) + (1 : Int)) = (↑j : Int) ∧ True) ∧ True ∧ true = true) ∧ true = true ∧ (nwAny id (List.drop j l) = true → (nwAny id (List.drop k l) = true → (true, j + List.findIdx (srvB id) (List.drop j l)) = (true, k + List.findIdx (srvB id) (List.drop k l))) ∧ (nwAny id (List.drop k l) = false → (true, j + List.findIdx (srvB id) (List.drop j l)) = (false, (0 : Nat)))) ∧ (nwAny id (List.drop j l) = false → (nwAny id (List.drop k l) = true → (false, (0 : Nat)) = (true, k + List.findIdx (srvB id) (List.drop k l))) ∧ (nwAny id (List.drop k l) = false → (false, (0 : Nat)) = (false, (0 : Nat)))))) ∧ (decide ((↑k : Int) < (↑(List.length l) : Int)) = false → (nwAny id (List.drop k l) = true → False) ∧ (nwAny id (List.drop k l) = false → True ∧ True ∧ true = true))
set_option maxRecDepth 1000000 in
theorem vcnwL_eq (id : Int) (bb : Bool) (l : List Int) (k : Nat) : (loopVC Tryd.prog (nwHL id l k) 33 2 (fun k => l.length - k) (nwT id bb l) (fun _ => []) [0] (nwO id l) nwS k) = vcnwL id bb l k := by kernel_rfl
theorem nw_loop (id : Int) (bb : Bool) (l : List Int) (hl : l.length ≤ 9223372036854775806) (hn : ∀ k, k < l.length → True) (k : Nat) : LoopOk Tryd.prog 33 2 (loopAt Tryd.prog 33 2) ⟨nwT id bb l k, [], []⟩ ((nwO id l k).map (lout [0] nwS)) := by
  refine loop_vcH (ht := fun k => nwHL id l k) Tryd.mixed (fun _ => rfl) (fun k => (vcnwL_eq id bb l k).mpr ?_) k
  unfold vcnwL
  by_cases h : k < l.length
  · have hw : IntKind.i64.wrap ((k : Int) + 1) = ((k + 1 : Nat) : Int) := by rw [wrap_i64 (by omega) (by omega)]; omega
    have hz : decide ((k : Int) < l.length) = true := by simp; omega
    have hd : l.drop k = l.getD k default :: l.drop (k + 1) := by rw [drop_cons h]; simp
    have hk := hn k h
    rw [Int.toNat_natCast]
    simp only [hz, hd, nwAny_cons, List.findIdx_cons]
    generalize l.getD k default = y at *
    cases hp : srvB id y
    · simp [hw, hk]
      exact ⟨k + 1, by omega, by omega, by grind⟩
    · simp [hk]
  · have hz : decide ((k : Int) < l.length) = false := by simp; omega
    simp only [hz, drop_end (Nat.le_of_not_lt h), nwAny_nil]
    simp
noncomputable def nwH (id : Int) (bb : Bool) (l : List Int) : HintsT Tryd.prog := hh _ (lp1 33 2 (jobOf (nwT id bb l) (fun _ => []) [0] (nwO id l) nwS 0) noLp) noCs noOp
def vcnwF (id : Int) (bb : Bool) (l : List Int) : Prop :=
  (((bb = bb ∧ List.length l = List.length l ∧ contLe (List.length l) (1 : Nat) (cellsOf' encI l) (cellsOf' encI l)) ∧ (True ∧ (false = false ∧ (1 : Nat) ≤ (1 : Nat) ∧ cellLe (1 : Nat) (Ax.get [AV.y (Value.int IntKind.i64 id)]) (Ax.get [AV.y (Value.int IntKind.i64 id)])) ∧ True) ∧ (0 : Int) = (0 : Int) ∧ (↑(List.length l) : Int) = (↑(List.length l) : Int) ∧ (0 : Int) = (0 : Int) ∧ True) ∧ True ∧ true = true) ∧ LoopOk Tryd.prog (33 : Nat) (2 : Nat) (loopAt Tryd.prog (33 : Nat) (2 : Nat)) { t := nwT id bb l (0 : Nat), m := [], mv := [] : St } (T.map (lout [(0 : Nat)] nwS) (nwO id l (0 : Nat))) ∧ (nwAny id (List.drop (0 : Nat) l) = true → true = nwAny id l ∧ True) ∧ (nwAny id (List.drop (0 : Nat) l) = false → false = nwAny id l ∧ True)
set_option maxRecDepth 1000000 in
theorem vcnwF_eq (id : Int) (bb : Bool) (l : List Int) : (ctrVC Tryd.prog (nwH id bb l) 18 [.ys bb 1 l.length (cellsOf' encI l), nwFn id] [] (boolR (nwAny id l))) = vcnwF id bb l := by kernel_rfl
theorem nw_has (id : Int) (bb : Bool) (l : List Int) (hl : l.length ≤ 9223372036854775806) (hn : ∀ k, k < l.length → True) : (boolR (nwAny id l)).Sat (ACall' Tryd.prog 18 [.ys bb 1 l.length (cellsOf' encI l), nwFn id] []) := by
  refine ctr_vc (ht := nwH id bb l) Tryd.mixed rfl ?_
  rw [vcnwF_eq id bb l]
  unfold vcnwF
  have := nw_loop id bb l hl hn 0
  simp [this]
noncomputable def nwHas (id : Int) (bb : Bool) (l : List Int) : Ctr Tryd.prog := ⟨18, [.ys bb 1 l.length (cellsOf' encI l), nwFn id], [], .need (l.length ≤ 9223372036854775806 ∧ ∀ k, k < l.length → True) (boolR (nwAny id l)), T.Sat.need fun h => nw_has id bb l h.1 h.2⟩
end Go.Proofs.YtdpbogaldcpfeaaDoor.C

/-! A client: New of three servers. -/
namespace Go.Proofs.YtdpbogaldcpfeaaDoor.C
open Go.Ax
set_option maxRecDepth 1000000
theorem cp_loop (k : Nat) : LoopOk Tryd.prog 21 4 (loopAt Tryd.prog 21 4) ⟨cpT k, cpM k, []⟩ (T.map (lout [] cpS) (.ret ())) := by
  refine loop_vcH (P := Tryd.prog) (f := 21) (k := 4) (ι := Nat) (μ := fun k => 3 - k) (o := fun _ => .ret ()) (ht := cpH) (stT := cpT) (stM := cpM) (X := []) (S := cpS) Tryd.mixed (fun _ => rfl) (fun k => ?_) k
  rw [vcCpL_eq k]
  unfold vcCpL
  have w0 : IntKind.i64.wrap 0 = 0 := by decide
  have w1 : IntKind.i64.wrap 1 = 1 := by decide
  have w2 : IntKind.i64.wrap 2 = 2 := by decide
  have w3 : IntKind.i64.wrap 3 = 3 := by decide
  by_cases hk : k < 2
  · have h01 : k = 0 ∨ k = 1 := by omega
    rcases h01 with rfl | rfl
    · simp [w0, w1, w2, w3]
      exact ⟨1, by omega, by omega⟩
    · simp [w0, w1, w2, w3]
      exact ⟨2, by omega, by omega⟩
  · have hz : decide (((k + 1 : Nat) : Int) < 3) = false := by simp; omega
    simp only [hz]
    simp
theorem cmp_c : cmpR.Sat (ACall' Tryd.prog 21 [o2] M2) := by
  refine ctr_vcg (ht := cmpH) Tryd.mixed rfl ?_
  rw [vcCmp_eq ()]
  unfold vcCmp
  have lp := cp_loop 0
  simp [lp]
noncomputable def cmpK : Ctr Tryd.prog := ⟨21, [o2], M2, cmpR, cmp_c⟩
def l3 : AV := .ys false 1 3 (cellsOf' encI i3)
def clt0 (p : Int) : Clt := { (default : Clt) with id := 4, servers := i3, prod := p }
def newR (p : Int) : T An := .ret (.tup [.agg (encC0 true (clt0 p)), .s (.int .i64 0)], [], [])
noncomputable def newH : HintsT Tryd.prog := withSub (hh _ noLp (cs1 9 2 1 srtK (cs1 9 7 2 (nwHas 4 false i3) (cs1 9 8 1 cmpK (cs1 9 10 2 (clI false i3) noCs)))) noOp) [17, 21]
def vcNew_q1 (p : Int) : Prop := (((0 : Int) = (4 : Int) ∧ (3 : Nat) = (0 : Nat) ∧ (0 : Int) = p ∧ (0 : Int) = (0 : Int) ∧ (0 : Nat) = (0 : Nat) ∧ (0 : Nat) = (0 : Nat) ∧ false = false ∧ (0 : Int) = (0 : Int) ∧ { data := #[] : ByteArray } = ByteArray.empty ∧ { data := #[] : ByteArray } = ByteArray.empty ∧ (0 : Nat) = (0 : Nat) ∧ (0 : Int) = (0 : Int) ∧ (0 : Int) = (0 : Int) ∧ { data := #[] : ByteArray } = ByteArray.empty ∧ (0 : Int) = (0 : Int) ∧ (0 : Int) = (0 : Int) ∧ (0 : Int) = (0 : Int) ∧ { data := #[] : ByteArray } = ByteArray.empty ∧ (0 : Nat) = (0 : Nat) ∧ (0 : Int) = (0 : Int) ∧ (0 : Int) = (0 : Int) ∧ { data := #[] : ByteArray } = ByteArray.empty ∧ (0 : Int) = (0 : Int) ∧ (0 : Int) = (0 : Int) ∧ (0 : Int) = (0 : Int) ∧ (0 : Int) = (0 : Int) ∧ (0 : Int) = (0 : Int) ∧ false = false ∧ (0 : Int) = (0 : Int) ∧ (0 : Int) = (0 : Int) ∧ (0 : Int) = (0 : Int) ∧ false = false ∧ (0 : Int) = (0 : Int) ∧ True) ∧ (1 : Int) = (0 : Int) ∧ True)
def vcNew (p : Int) : Prop :=
  (false = true → (False ∧ True) ∧ False ∧ (vcNew_q1 p) ∧ True) ∧ (false = false → true = true ∧ (((0 : Nat) = (0 : Nat) ∧ (3 : Nat) = (3 : Nat)) ∧ True) ∧ (((3 : Nat) = (3 : Nat) ∧ contLe (3 : Nat) (1 : Nat) (appRow (0 : Nat) (fun (k j : Nat) => AV.junk) (cellsOf' encI [(1 : Int), (2 : Int), (3 : Int)])) (cellsOf' encI [(1 : Int), (2 : Int), (3 : Int)])) ∧ True) ∧ (false = true → (vcNew_q1 p) ∧ True) ∧ (false = false → ((p == (0 : Int)) = true → (vcNew_q1 p) ∧ True) ∧ ((p == (0 : Int)) = false → ((false = false ∧ (3 : Nat) = (3 : Nat) ∧ contLe (3 : Nat) (1 : Nat) (Ax.rowAt (0 : Nat) (cellsOf' encI [(1 : Int), (2 : Int), (3 : Int)])) (cellsOf' encI [(1 : Int), (2 : Int), (3 : Int)])) ∧ (True ∧ (false = false ∧ (1 : Nat) ≤ (1 : Nat) ∧ cellLe (1 : Nat) (fun (j : Nat) => Ax.get [AV.s (Value.int IntKind.i64 (4 : Int))] ((0 : Nat) + j)) (Ax.get [AV.y (Value.int IntKind.i64 (4 : Int))])) ∧ True) ∧ True) ∧ True ∧ ((3 : Nat) ≤ (9223372036854775806 : Nat) ∧ ∀ (k : Nat), k < (3 : Nat) → True) ∧ true = true ∧ True ∧ (false = true → (vcNew_q1 p) ∧ True) ∧ (false = false → (((0 : Nat) = (0 : Nat) ∧ (3 : Nat) = (3 : Nat)) ∧ True) ∧ (((3 : Nat) = (3 : Nat) ∧ contLe (3 : Nat) (1 : Nat) (cellsOf' encI [(1 : Int), (2 : Int), (3 : Int)]) (cellsOf' encI [(1 : Int), (2 : Int), (3 : Int)])) ∧ True) ∧ (false = true → (vcNew_q1 p) ∧ True) ∧ (false = false → ((false = false ∧ (3 : Nat) = (3 : Nat) ∧ contLe (3 : Nat) (1 : Nat) (cellsOf' encI [(1 : Int), (2 : Int), (3 : Int)]) (cellsOf' encI [(1 : Int), (2 : Int), (3 : Int)])) ∧ True) ∧ True ∧ (24 : Nat) ≤ (140737488355328 : Nat) ∧ (((4 : Int) = (4 : Int) ∧ (true = true ∧ (3 : Nat) = (3 : Nat) ∧ contLe (3 : Nat) (1 : Nat) (cellsOf' encI [(1 : Int), (2 : Int), (3 : Int)]) (cellsOf' encI [(1 : Int), (2 : Int), (3 : Int)])) ∧ p = p ∧ (0 : Int) = (0 : Int) ∧ (0 : Nat) = (0 : Nat) ∧ (0 : Nat) = (0 : Nat) ∧ false = false ∧ (0 : Int) = (0 : Int) ∧ { data := #[] : ByteArray } = ByteArray.empty ∧ { data := #[] : ByteArray } = ByteArray.empty ∧ (0 : Nat) = (0 : Nat) ∧ (0 : Int) = (0 : Int) ∧ (0 : Int) = (0 : Int) ∧ { data := #[] : ByteArray } = ByteArray.empty ∧ (0 : Int) = (0 : Int) ∧ (0 : Int) = (0 : Int) ∧ (0 : Int) = (0 : Int) ∧ { data := #[] : ByteArray } = ByteArray.empty ∧ (0 : Nat) = (0 : Nat) ∧ (0 : Int) = (0 : Int) ∧ (0 : Int) = (0 : Int) ∧ { data := #[] : ByteArray } = ByteArray.empty ∧ (0 : Int) = (0 : Int) ∧ (0 : Int) = (0 : Int) ∧ (0 : Int) = (0 : Int) ∧ (0 : Int) = (0 : Int) ∧ (0 : Int) = (0 : Int) ∧ false = false ∧ (0 : Int) = (0 : Int) ∧ (0 : Int) = (0 : Int) ∧ (0 : Int) = (0 : Int) ∧ false = false ∧ (0 : Int) = (0 : Int) ∧ True) ∧ (0 : Int) = (0 : Int) ∧ True) ∧ True)))))
set_option maxRecDepth 1000000 in
theorem vcNew_eq (p : Int) : (ctrVC Tryd.prog newH 9 [.s (.int .i64 4), l3, .y (.int .u64 p)] [] (newR p)) = vcNew p := by kernel_rfl
theorem new_c (p : Int) (hp : p ≠ 0) : (newR p).Sat (ACall' Tryd.prog 9 [.s (.int .i64 4), l3, .y (.int .u64 p)] []) := by
  refine ctr_vc (ht := newH) Tryd.mixed rfl ?_
  rw [vcNew_eq p]
  unfold vcNew vcNew_q1
  simp [hp]
  rfl
noncomputable def newC (p : Int) (hp : p ≠ 0) : Ctr Tryd.prog := ⟨9, [.s (.int .i64 4), l3, .y (.int .u64 p)], [], newR p, new_c p hp⟩
end Go.Proofs.YtdpbogaldcpfeaaDoor.C

/-! A client: the live question. -/
namespace Go.Proofs.YtdpbogaldcpfeaaDoor.C
open Go.Ax
set_option maxRecDepth 1000000
structure StA (c : Clt) (k : Cal) (y : Nod) (e : Int) : Prop where
  y : y = begQ ⟨c, default⟩ k
  e : e = begE ⟨c, default⟩ k
  co : CltOk c
  s : SndOk (beg1 ⟨c, default⟩ k)
noncomputable def stAO (b : Bool) (c : Clt) (k : Cal) (y : Nod) (e : Int) : Ctr Tryd.prog := ⟨12, [.agg (encC0 b c), .agg (inA k)], [], .need (StA c k y e) (stpR y e), T.Sat.need fun h => by
  obtain ⟨rfl, rfl, h1, h2⟩ := h
  exact stA_c b c k h1 h2⟩
def tB : ByteArray := ⟨#[116]⟩
def kB : ByteArray := ⟨#[107]⟩
def kal : Cal := ⟨1, tB, kB, [], 0, 0, ByteArray.empty, default⟩
def y1 : Nod := begQ ⟨clt0 4, default⟩ kal
noncomputable def hdH (y : Nod) (e : Int) : HintsT Tryd.prog := hh _ noLp (cs1 8 1 1 (newC 4 (by decide)) (cs1 8 2 3 (stAO true (clt0 4) kal y e) noCs)) noOp
def vcHd (y : Nod) (e : Int) : Prop :=
  ((4 : Int) = (4 : Int) ∧ (false = false ∧ (3 : Nat) = (3 : Nat) ∧ contLe (3 : Nat) (1 : Nat) (fun (k j : Nat) => Ax.get [AV.s (Value.int IntKind.i64 (1 : Int)), AV.s (Value.int IntKind.i64 (2 : Int)), AV.s (Value.int IntKind.i64 (3 : Int))] (((0 : Nat) + k) * (1 : Nat) + j)) (cellsOf' encI [(1 : Int), (2 : Int), (3 : Int)])) ∧ (4 : Int) = (4 : Int) ∧ True) ∧ True ∧ true = true ∧ True ∧ (((4 : Int) = (4 : Int) ∧ (true = true ∧ (3 : Nat) = (3 : Nat) ∧ contLe (3 : Nat) (1 : Nat) (cellsOf' encI [(1 : Int), (2 : Int), (3 : Int)]) (cellsOf' encI [(1 : Int), (2 : Int), (3 : Int)])) ∧ (4 : Int) = (4 : Int) ∧ (0 : Int) = (0 : Int) ∧ (true = true ∧ (0 : Nat) = (0 : Nat) ∧ contLe (0 : Nat) (2 : Nat) (cellsOf' encTp []) (cellsOf' encTp [])) ∧ (true = true ∧ (0 : Nat) = (0 : Nat) ∧ contLe (0 : Nat) (2 : Nat) (cellsOf' encSi []) (cellsOf' encSi [])) ∧ false = false ∧ (0 : Int) = (0 : Int) ∧ ByteArray.empty = ByteArray.empty ∧ ByteArray.empty = ByteArray.empty ∧ (true = true ∧ (0 : Nat) = (0 : Nat) ∧ contLe (0 : Nat) (1 : Nat) (cellsOf' encB []) (cellsOf' encB [])) ∧ (0 : Int) = (0 : Int) ∧ (0 : Int) = (0 : Int) ∧ ByteArray.empty = ByteArray.empty ∧ (0 : Int) = (0 : Int) ∧ (0 : Int) = (0 : Int) ∧ (0 : Int) = (0 : Int) ∧ ByteArray.empty = ByteArray.empty ∧ (true = true ∧ (0 : Nat) = (0 : Nat) ∧ contLe (0 : Nat) (1 : Nat) (cellsOf' encI []) (cellsOf' encI [])) ∧ (0 : Int) = (0 : Int) ∧ (0 : Int) = (0 : Int) ∧ ByteArray.empty = ByteArray.empty ∧ (0 : Int) = (0 : Int) ∧ (0 : Int) = (0 : Int) ∧ (0 : Int) = (0 : Int) ∧ (0 : Int) = (0 : Int) ∧ (0 : Int) = (0 : Int) ∧ false = false ∧ (0 : Int) = (0 : Int) ∧ (0 : Int) = (0 : Int) ∧ (0 : Int) = (0 : Int) ∧ false = false ∧ (0 : Int) = (0 : Int) ∧ True) ∧ ((1 : Int) = (1 : Int) ∧ (1 : Int) = (1 : Int) ∧ { data := #[(116 : UInt8)] : ByteArray } = tB ∧ { data := #[(107 : UInt8)] : ByteArray } = kB ∧ (0 : Nat) = (0 : Nat) ∧ (0 : Int) = (0 : Int) ∧ (0 : Int) = (0 : Int) ∧ { data := #[] : ByteArray } = ByteArray.empty ∧ (0 : Int) = (0 : Int) ∧ (0 : Int) = (0 : Int) ∧ (0 : Int) = (0 : Int) ∧ { data := #[] : ByteArray } = ByteArray.empty ∧ (0 : Nat) = (0 : Nat) ∧ (0 : Int) = (0 : Int) ∧ (0 : Int) = (0 : Int) ∧ { data := #[] : ByteArray } = ByteArray.empty ∧ (0 : Int) = (0 : Int) ∧ (0 : Int) = (0 : Int) ∧ (0 : Int) = (0 : Int) ∧ (0 : Int) = (0 : Int) ∧ (0 : Int) = (0 : Int) ∧ (0 : Int) = (0 : Int) ∧ (0 : Int) = (0 : Int) ∧ (0 : Int) = (0 : Int) ∧ (0 : Int) = (0 : Int) ∧ false = false ∧ (0 : Nat) = (0 : Nat) ∧ (0 : Int) = (0 : Int) ∧ (0 : Nat) = (0 : Nat) ∧ (0 : Int) = (0 : Int) ∧ (0 : Int) = (0 : Int) ∧ (0 : Int) = (0 : Int) ∧ True) ∧ True) ∧ True ∧ StA (clt0 (4 : Int)) kal y e ∧ ((e == (0 : Int)) = true → ((y.c.seq == (1 : Int)) = true → (y.c.busy = true → (y.o.send = true → ((y.o.to == (1 : Int)) = true → ((y.o.req.kind == (6 : Int)) = true → ((y.o.req.topic.data.toList == [(116 : UInt8)]) = true → (y.o.req.id == (1 : Int)) = true ∧ True) ∧ ((y.o.req.topic.data.toList == [(116 : UInt8)]) = false → false = true ∧ True)) ∧ ((y.o.req.kind == (6 : Int)) = false → false = true ∧ True)) ∧ ((y.o.to == (1 : Int)) = false → false = true ∧ True)) ∧ (y.o.send = false → false = true ∧ True)) ∧ (y.c.busy = false → false = true ∧ True)) ∧ ((y.c.seq == (1 : Int)) = false → false = true ∧ True)) ∧ ((e == (0 : Int)) = false → false = true ∧ True)
set_option maxRecDepth 1000000 in
theorem vcHd_eq (y : Nod) (e : Int) : (ctrVC Tryd.prog (hdH y e) 8 [] [] (boolR true)) = vcHd y e := by kernel_rfl
theorem clt0_ok (p : Int) : CltOk (clt0 p) := ⟨(by show 3 * 8 ≤ _; omega), (by show 0 * 16 ≤ _; omega), ⟨(by show 0 ≤ _; omega), (by show 0 * 8 ≤ _; omega)⟩, (by show 0 * 40 ≤ _; omega), fun x hx => (by cases hx)⟩
theorem snd0_ok (p : Int) (k : Cal) (h : CalOk k) : SndOk (beg1 ⟨clt0 p, default⟩ k) := ⟨⟨(by show 0 ≤ _; omega), fun x hx => (by cases hx)⟩, h, (by show 0 ≤ _; omega), (by show (0 : Int) ≤ 0; omega), (by show (0 : Int) < ((3 : Nat) : Int); omega)⟩
theorem y1_e : begE ⟨clt0 4, default⟩ kal = 0 := by kernel_rfl
theorem y1_f : y1.c.seq = 1 ∧ y1.c.busy = true ∧ y1.o.send = true ∧ y1.o.to = 1 ∧ y1.o.req.kind = 6 ∧ y1.o.req.topic = tB ∧ y1.o.req.id = 1 := ⟨by kernel_rfl, by kernel_rfl, by kernel_rfl, by kernel_rfl, by kernel_rfl, by kernel_rfl, by kernel_rfl⟩
theorem hd_c : (boolR true).Sat (ACall' Tryd.prog 8 [] []) := by
  refine ctr_vc (ht := hdH y1 (begE ⟨clt0 4, default⟩ kal)) Tryd.mixed rfl ?_
  rw [vcHd_eq y1 (begE ⟨clt0 4, default⟩ kal)]
  unfold vcHd
  have h1 : StA (clt0 4) kal y1 (begE ⟨clt0 4, default⟩ kal) := ⟨rfl, rfl, clt0_ok 4, snd0_ok 4 kal ⟨by decide, by decide⟩⟩
  rw [y1_e] at h1 ⊢
  obtain ⟨f1, f2, f3, f4, f5, f6, f7⟩ := y1_f
  generalize y1 = y at *
  simp [h1, f1, f2, f3, f4, f5, f6, f7]
  refine ⟨fun k hk j hj => ?_, ⟨rfl, rfl, rfl⟩, rfl⟩
  obtain rfl : j = 0 := by omega
  match k, hk with
  | 0, _ => exact rfl
  | 1, _ => exact rfl
  | 2, _ => exact rfl
noncomputable def hdC : Ctr Tryd.prog := ⟨8, [], [], boolR true, hd_c⟩
end Go.Proofs.YtdpbogaldcpfeaaDoor.C

/-! A client gives up who led a group: the conditions. -/
namespace Go.Proofs.YtdpbogaldcpfeaaDoor.C
open Go.Ax
set_option maxRecDepth 1000000
/-- a list of which what is kept is moved to the front -/
structure FS {α : Type} [Inhabited α] (p : α → Bool) (l : List α) where
  i : Nat
  j : Nat
  L : List α
  len : L.length = l.length
  ij : i ≤ j
  jl : j ≤ l.length
  pre : L.take i = (l.take j).filter p
  suf : L.drop j = l.drop j
theorem FS.at {α : Type} [Inhabited α] {p : α → Bool} {l : List α} (q : FS p l) : q.L[q.j]? = l[q.j]? := by
  have := congrArg (fun r : List α => r[0]?) q.suf
  simpa [List.getElem?_drop] using this
theorem take_snocG {α : Type} [Inhabited α] (l : List α) (j : Nat) (h : j < l.length) : l.take (j + 1) = l.take j ++ [l[j]?.getD default] := by
  rw [List.take_succ_eq_append_getElem h]; simp [h]
def FS.put {α : Type} [Inhabited α] {p : α → Bool} {l : List α} (q : FS p l) (h : q.j < l.length) (hk : p (l[q.j]?.getD default) = true) : FS p l where
  i := q.i + 1
  j := q.j + 1
  L := q.L.set q.i (l[q.j]?.getD default)
  len := by simp [q.len]
  ij := by have := q.ij; omega
  jl := by omega
  pre := by
    have h1 := q.ij
    have h2 := q.len
    have h3 : q.i < q.L.length := by omega
    rw [take_snocG l q.j h, List.filter_append, ← q.pre, List.take_succ_eq_append_getElem (by simpa using h3), List.filter_cons_of_pos hk, List.filter_nil]
    simp [List.take_set_of_le]
  suf := by
    have h1 := q.ij
    have h2 := congrArg (fun r : List α => r.drop 1) q.suf
    simp only [List.drop_drop] at h2
    rw [List.drop_set_of_lt (by omega)]
    exact h2
def FS.skip {α : Type} [Inhabited α] {p : α → Bool} {l : List α} (q : FS p l) (h : q.j < l.length) (hk : p (l[q.j]?.getD default) = false) : FS p l where
  i := q.i
  j := q.j + 1
  L := q.L
  len := q.len
  ij := by have := q.ij; omega
  jl := by omega
  pre := by
    have hk' : ¬ p (l[q.j]?.getD default) = true := by simp [hk]
    rw [take_snocG l q.j h, List.filter_append, ← q.pre, List.filter_cons_of_neg hk', List.filter_nil, List.append_nil]
  suf := by
    have h2 := congrArg (fun r : List α => r.drop 1) q.suf
    simpa only [List.drop_drop] using h2
def FS.start {α : Type} [Inhabited α] (p : α → Bool) (l : List α) (h : l.any (fun x => !p x) = true) : FS p l where
  i := l.findIdx (fun x => !p x)
  j := l.findIdx (fun x => !p x) + 1
  L := l
  len := rfl
  ij := by omega
  jl := by
    have := List.findIdx_lt_length.2 (by simpa [List.any_eq_true] using h : ∃ x ∈ l, (fun x => !p x) x = true)
    omega
  pre := by
    have hlt := List.findIdx_lt_length.2 (by simpa [List.any_eq_true] using h : ∃ x ∈ l, (fun x => !p x) x = true)
    rw [take_snocG l _ hlt, List.filter_append]
    have h1 : ¬ p (l[l.findIdx (fun x => !p x)]?.getD default) = true := by
      have := List.findIdx_getElem (w := hlt)
      simpa [hlt] using this
    rw [List.filter_cons_of_neg h1, List.filter_nil, List.append_nil]
    symm
    rw [List.filter_eq_self]
    intro a ha
    obtain ⟨k, hk, rfl⟩ := List.mem_iff_getElem.1 ha
    simp only [List.length_take] at hk
    have h3 := List.not_of_lt_findIdx (p := fun x => !p x) (xs := l) (i := k) (by omega)
    rw [List.getElem_take]
    simpa using h3
  suf := rfl
def gkeep (g : Int) (s : Sit) : Bool := !(isG g s)
def goth (l : List Sit) (g : Int) : List Sit := l.filter (gkeep g)
def ofV : AV := .fn (.func 90) [] [.ptr 7 0 0 0]
def dlMr (B : Blk) (g : Int) : List Blk := [.dead, .dead, .dead, .dead, .dead, B, .dead, .box 23 [.y (.int .u64 g)]]
def dlT (l : List Sit) (g : Int) (q : FS (gkeep g) l) : List AV := mkT 42 [(0, .own 5 2 0 l.length), (1, ofV), (5, .y (.int .i64 q.i)), (6, .y (.int .i64 q.j))]
def dlM (l : List Sit) (g : Int) (q : FS (gkeep g) l) : List Blk := dlMr (.row 83 2 l.length none (cellsOf' encSi q.L)) g
def dlS (l : List Sit) (g : Int) (_ : Unit) : Exit × List AV × List Blk := (.exit 0, mkT 42 [(0, .own 5 2 0 l.length), (5, .y (.int .i64 (goth l g).length))], dlMr (.row 83 2 l.length none (cutRow (goth l g).length (cellsOf' encSi (goth l g)))) g)
def vcDlL (l : List Sit) (g : Int) (q : FS (gkeep g) l) : Prop :=
  (decide ((↑q.j : Int) < (↑(List.length l) : Int)) = true → (true && decide ((↑q.j : Int) < (↑(List.length l) : Int))) = true ∧ decide ((0 : Nat) + Int.toNat (↑q.j : Int) < List.length l) = true ∧ true = true ∧ True ∧ ((!(List.getD q.L ((0 : Nat) + Int.toNat (↑q.j : Int)) (@default Sit instInhabitedSit)).group == g) = true → (true && decide ((↑q.i : Int) < (↑(List.length l) : Int))) = true ∧ decide ((0 : Nat) + Int.toNat (↑q.i : Int) < List.length l) = true ∧ ∃ (j : FS (gkeep g) l), List.length l - j.j < List.length l - q.j ∧ ((((0 : Nat) = (0 : Nat) ∧ List.length l = List.length l) ∧ (True ∧ ((0 : Nat) = (0 : Nat) ∧ (0 : Nat) = (0 : Nat)) ∧ True) ∧ IntKind.wrap IntKind.i64 ((↑q.i : Int) + (1 : Int)) = (↑j.i : Int) ∧ IntKind.wrap IntKind.i64 ((↑q.j : Int) + (1 : Int)) = (↑j.j : Int) ∧ True) ∧ ((List.length l = List.length l ∧ contLe (List.length l) (2 : Nat) (wrRow (cellsOf' encSi q.L) ((0 : Nat) + Int.toNat (↑q.i : Int)) (0 : Nat) [AV.y (Value.int IntKind.u64 (List.getD q.L ((0 : Nat) + Int.toNat (↑q.j : Int)) (@default Sit instInhabitedSit)).group), AV.y (Value.int IntKind.i64 (List.getD q.L ((0 : Nat) + Int.toNat (↑q.j : Int)) (@default Sit instInhabitedSit)).node)]) (cellsOf' encSi j.L)) ∧ (g = g ∧ True) ∧ True) ∧ true = true) ∧ true = true ∧ () = ()) ∧ ((!(List.getD q.L ((0 : Nat) + Int.toNat (↑q.j : Int)) (@default Sit instInhabitedSit)).group == g) = false → ∃ (j : FS (gkeep g) l), List.length l - j.j < List.length l - q.j ∧ ((((0 : Nat) = (0 : Nat) ∧ List.length l = List.length l) ∧ (True ∧ ((0 : Nat) = (0 : Nat) ∧ (0 : Nat) = (0 : Nat)) ∧ True) ∧ (↑q.i : Int) = (↑j.i : Int) ∧ IntKind.wrap IntKind.i64 ((↑q.j : Int) + (1 : Int)) = (↑j.j : Int) ∧ True) ∧ ((List.length l = List.length l ∧ contLe (List.length l) (2 : Nat) (cellsOf' encSi q.L) (cellsOf' encSi j.L)) ∧ (g = g ∧ True) ∧ True) ∧ true = true) ∧ true = true ∧ () = ())) ∧ (decide ((↑q.j : Int) < (↑(List.length l) : Int)) = false → (((0 : Nat) = (0 : Nat) ∧ List.length l = List.length l) ∧ (↑q.i : Int) = (↑(List.length (goth l g)) : Int) ∧ True) ∧ ((List.length l = List.length l ∧ contLe (List.length l) (2 : Nat) (cellsOf' encSi q.L) (cutRow (List.length (goth l g)) (cellsOf' encSi (goth l g)))) ∧ (g = g ∧ True) ∧ True) ∧ true = true)
set_option maxRecDepth 1000000 in
theorem vcDlL_eq (l : List Sit) (g : Int) (q : FS (gkeep g) l) : (loopVC Tryd.prog (hT _) 72 5 (fun q : FS (gkeep g) l => l.length - q.j) (dlT l g) (dlM l g) [8, 9, 10] (fun _ => .ret ()) (dlS l g) q) = vcDlL l g q := by kernel_rfl
noncomputable def dlJ (l : List Sit) (g : Int) : FuncId → Nat → St → Option Job := fun f k s =>
  match Nat.beq f 72 && Nat.beq k 5 with
  | true => some ⟨mkT 42 [(0, .own 5 2 0 l.length), (1, ofV), (5, .y (.int .i64 (l.findIdx (isG g) : Nat))), (6, .y (.int .i64 (l.findIdx (isG g) + 1 : Nat)))], dlMr (rwS l) g, T.map (lout [8, 9, 10] (dlS l g)) (.ret ())⟩
  | false => none
def dlClr : FuncId → Nat → Nat → Nat := sh1 72 12 3 1 noSh
noncomputable def dlH (l : List Sit) (g : Int) : HintsT Tryd.prog :=
  withSh (hh _ (dlJ l g) (cs1 72 1 2 (siIdx g false l) noCs) noOp) dlClr
def dlR (l : List Sit) (g : Int) : T An := .ret (.own 5 2 0 (goth l g).length, dlMr (rwS (goth l g)) g, [5, 8, 9, 10])
def vcDl (l : List Sit) (g : Int) : Prop :=
  ((false = false ∧ List.length l = List.length l ∧ contLe (List.length l) (2 : Nat) (Ax.rowAt (0 : Nat) (cellsOf' encSi l)) (cellsOf' encSi l)) ∧ (True ∧ (false = false ∧ (1 : Nat) ≤ (1 : Nat) ∧ cellLe (1 : Nat) (fun (j : Nat) => Ax.get [AV.y (Value.int IntKind.u64 g)] ((0 : Nat) + j)) (Ax.get [AV.y (Value.int IntKind.u64 g)])) ∧ True) ∧ True) ∧ True ∧ (List.length l ≤ (9223372036854775806 : Nat) ∧ ∀ (k : Nat), k < List.length l → True) ∧ (siAny g l = true → true = true ∧ True ∧ (false = true → ((0 : Nat) = (0 : Nat) ∧ List.length l = List.length (goth l g)) ∧ (List.length l = List.length (goth l g) ∧ contLe (List.length l) (2 : Nat) (cellsOf' encSi l) (cellsOf' encSi (goth l g))) ∧ (g = g ∧ True) ∧ True) ∧ (false = false → ((((0 : Nat) = (0 : Nat) ∧ List.length l = List.length l) ∧ (True ∧ ((0 : Nat) = (0 : Nat) ∧ (0 : Nat) = (0 : Nat)) ∧ True) ∧ (↑(List.findIdx (isG g) l) : Int) = (↑(List.findIdx (isG g) l) : Int) ∧ IntKind.wrap IntKind.i64 ((↑(List.findIdx (isG g) l) : Int) + (1 : Int)) = (↑(List.findIdx (isG g) l + (1 : Nat)) : Int) ∧ True) ∧ ((List.length l = List.length l ∧ contLe (List.length l) (2 : Nat) (cellsOf' encSi l) (cellsOf' encSi l)) ∧ (g = g ∧ True) ∧ True) ∧ true = true) ∧ LoopOk Tryd.prog (72 : Nat) (5 : Nat) (loopAt Tryd.prog (72 : Nat) (5 : Nat)) { t := mkT (42 : Nat) [((0 : Nat), AV.own (5 : Nat) (2 : Nat) (0 : Nat) (List.length l)), ((1 : Nat), ofV), ((5 : Nat), AV.y (Value.int IntKind.i64 (↑(List.findIdx (isG g) l) : Int))), ((6 : Nat), AV.y (Value.int IntKind.i64 (↑(List.findIdx (isG g) l + (1 : Nat)) : Int)))], m := dlMr (rwS l) g, mv := [] : St } (T.map (lout [(8 : Nat), (9 : Nat), (10 : Nat)] (dlS l g)) (T.ret ())) ∧ (true && decide ((↑(List.length (goth l g)) : Int) ≤ (↑(List.length l) : Int)) && decide ((↑(List.length l) : Int) ≤ (↑(List.length l) : Int))) = true ∧ (true && decide ((↑(List.length (goth l g)) : Int) ≤ (↑(List.length l) : Int))) = true ∧ ((0 : Nat) = (0 : Nat) ∧ Int.toNat (↑(List.length (goth l g)) : Int) - (0 : Nat) = List.length (goth l g)) ∧ (Int.toNat (↑(List.length (goth l g)) : Int) - (0 : Nat) = List.length (goth l g) ∧ contLe (Int.toNat (↑(List.length (goth l g)) : Int) - (0 : Nat)) (2 : Nat) (clrRow ((0 : Nat) + Int.toNat (↑(List.length (goth l g)) : Int)) (Int.toNat (↑(List.length l) : Int) - Int.toNat (↑(List.length (goth l g)) : Int)) (cutRow (List.length (goth l g)) (cellsOf' encSi (goth l g)))) (cellsOf' encSi (goth l g))) ∧ (g = g ∧ True) ∧ True)) ∧ (siAny g l = false → true = true ∧ True ∧ ((0 : Nat) = (0 : Nat) ∧ List.length l = List.length (goth l g)) ∧ (List.length l = List.length (goth l g) ∧ contLe (List.length l) (2 : Nat) (cellsOf' encSi l) (cellsOf' encSi (goth l g))) ∧ (g = g ∧ True) ∧ True)
set_option maxRecDepth 1000000 in
theorem vcDl_eq (l : List Sit) (g : Int) : (ctrVC Tryd.prog (dlH l g) 72 [.own 5 2 0 l.length, ofV] (dlMr (rwS l) g) (dlR l g)) = vcDl l g := by kernel_rfl
/-! is a number among numbers? -/
def iany (v : Int) (l : List Int) : Bool := l.any fun y => v == y
def iidx (v : Int) (l : List Int) : Nat := l.findIdx fun y => v == y
def jxT (v : Int) (l : List Int) (k : Nat) : List AV := mkT 19 [(0, encIs true l), (1, .y (.int .i64 v)), (4, .s (.int .i64 0)), (7, .y (.int .i64 l.length)), (8, .y (.int .i64 k))]
def jxS (r : Bool × Nat) : Exit × List AV × List Blk := match r.1 with
  | true => (.ret, mkT 19 [(4, .y (.int .i64 r.2))], [])
  | false => (.exit 0, mkT 19 [], [])
def jxO (v : Int) (l : List Int) (k : Nat) : T (Bool × Nat) := .ite (iany v (l.drop k)) (.ret (true, k + iidx v (l.drop k))) (.ret (false, 0))
def vcJxL (v : Int) (l : List Int) (k : Nat) : Prop :=
  (decide ((↑k : Int) < (↑(List.length l) : Int)) = true → (true && decide ((↑k : Int) < (↑(List.length l) : Int))) = true ∧ ((v == List.getD l (Int.toNat (↑k : Int)) (0 : Int)) = true → (iany v (List.drop k l) = true → ((↑k : Int) = (↑(k + iidx v (List.drop k l)) : Int) ∧ True) ∧ True ∧ true = true) ∧ (iany v (List.drop k l) = false → False)) ∧ ((v == List.getD l (Int.toNat (↑k : Int)) (0 : Int)) = false → ∃ (j : Nat), List.length l - j < List.length l - k ∧ (((true = true ∧ List.length l = List.length l ∧ contLe (List.length l) (1 : Nat) (cellsOf' encI l) (cellsOf' encI l)) ∧ v = v ∧ (0 : Int) = (0 : Int) ∧ (↑(List.length l) : Int) = (↑(List.length l) : Int) ∧ IntKind.wrap IntKind.i64 ((↑k : Int) + (1 : Int)) = (↑j : Int) ∧ True) ∧ True ∧ true = true) ∧ true = true ∧ (iany v (List.drop j l) = true → (iany v (List.drop k l) = true → (true, j + iidx v (List.drop j l)) = (true, k + iidx v (List.drop k l))) ∧ (iany v (List.drop k l) = false → (true, j + iidx v (List.drop j l)) = (false, (0 : Nat)))) ∧ (iany v (List.drop j l) = false → (iany v (List.drop k l) = true → (false, (0 : Nat)) = (true, k + iidx v (List.drop k l))) ∧ (iany v (List.drop k l) = false → (false, (0 : Nat)) = (false, (0 : Nat)))))) ∧ (decide ((↑k : Int) < (↑(List.length l) : Int)) = false → (iany v (List.drop k l) = true → False) ∧ (iany v (List.drop k l) = false → True ∧ True ∧ true = true))
set_option maxRecDepth 1000000 in
theorem vcJxL_eq (v : Int) (l : List Int) (k : Nat) : (loopVC Tryd.prog (hT _) 89 2 (fun k => l.length - k) (jxT v l) (fun _ => []) [0] (jxO v l) jxS k) = vcJxL v l k := by kernel_rfl
noncomputable def jxH (v : Int) (l : List Int) : HintsT Tryd.prog := hh _ (lp1 89 2 (jobOf (jxT v l) (fun _ => []) [0] (jxO v l) jxS 0) noLp) noCs noOp
def vcJx (v : Int) (l : List Int) : Prop :=
  (((true = true ∧ List.length l = List.length l ∧ contLe (List.length l) (1 : Nat) (cellsOf' encI l) (cellsOf' encI l)) ∧ v = v ∧ (0 : Int) = (0 : Int) ∧ (↑(List.length l) : Int) = (↑(List.length l) : Int) ∧ (0 : Int) = (0 : Int) ∧ True) ∧ True ∧ true = true) ∧ LoopOk Tryd.prog (89 : Nat) (2 : Nat) (loopAt Tryd.prog (89 : Nat) (2 : Nat)) { t := jxT v l (0 : Nat), m := [], mv := [] : St } (T.map (lout [(0 : Nat)] jxS) (jxO v l (0 : Nat))) ∧ (iany v (List.drop (0 : Nat) l) = true → true = iany v l ∧ True) ∧ (iany v (List.drop (0 : Nat) l) = false → false = iany v l ∧ True)
set_option maxRecDepth 1000000 in
theorem vcJx_eq (v : Int) (l : List Int) : (ctrVC Tryd.prog (jxH v l) 66 [encIs true l, .y (.int .i64 v)] [] (boolR (iany v l))) = vcJx v l := by kernel_rfl
/-! a topic is taken out -/
def dtM (l : List Tpc) : List Blk := [.dead, .dead, .dead, .dead, rwT l]
def tout (l : List Tpc) (i : Nat) : List Tpc := l.take i ++ l.drop (i + 1)
def dtR (l : List Tpc) (i : Nat) : T An := .ret (.own 4 2 0 (tout l i).length, dtM (tout l i), [4])
noncomputable def dtH : HintsT Tryd.prog := withSh (hT _) (sh1 71 5 6 781 (sh1 71 6 4 781 (sh1 71 7 1 1 noSh)))
def vcDt (l : List Tpc) (i : Nat) : Prop :=
  (0 : Int) ≤ (↑i : Int) ∧ (↑i : Int) ≤ (↑(i + (1 : Nat)) : Int) ∧ (↑(i + (1 : Nat)) : Int) ≤ (↑(List.length l) : Int) ∧ (↑(List.length l) : Int) ≤ (↑(List.length l) : Int) ∧ (((↑i : Int) == (↑(i + (1 : Nat)) : Int)) = true → ((0 : Nat) = (0 : Nat) ∧ List.length l = List.length (tout l i)) ∧ (List.length l = List.length (tout l i) ∧ contLe (List.length l) (2 : Nat) (cellsOf' encTp l) (cellsOf' encTp (tout l i))) ∧ True) ∧ (((↑i : Int) == (↑(i + (1 : Nat)) : Int)) = false → (true && decide ((↑i : Int) ≤ (↑(List.length l) : Int))) = true ∧ (true && decide ((↑(i + (1 : Nat)) : Int) ≤ (↑(List.length l) : Int)) && decide ((↑(List.length l) : Int) ≤ (↑(List.length l) : Int))) = true ∧ Int.toNat (↑i : Int) - (0 : Nat) + (Int.toNat (↑(List.length l) : Int) - Int.toNat (↑(i + (1 : Nat)) : Int)) ≤ List.length l ∧ (0 : Int) ≤ (↑(Int.toNat (↑i : Int) - (0 : Nat) + (Int.toNat (↑(List.length l) : Int) - Int.toNat (↑(i + (1 : Nat)) : Int))) : Int) ∧ (↑(Int.toNat (↑i : Int) - (0 : Nat) + (Int.toNat (↑(List.length l) : Int) - Int.toNat (↑(i + (1 : Nat)) : Int))) : Int) ≤ (↑(List.length l) : Int) ∧ (↑(List.length l) : Int) ≤ (↑(List.length l) : Int) ∧ ((0 : Nat) = (0 : Nat) ∧ Int.toNat (↑i : Int) - (0 : Nat) + (Int.toNat (↑(List.length l) : Int) - Int.toNat (↑(i + (1 : Nat)) : Int)) = List.length (tout l i)) ∧ (Int.toNat (↑i : Int) - (0 : Nat) + (Int.toNat (↑(List.length l) : Int) - Int.toNat (↑(i + (1 : Nat)) : Int)) = List.length (tout l i) ∧ contLe (Int.toNat (↑i : Int) - (0 : Nat) + (Int.toNat (↑(List.length l) : Int) - Int.toNat (↑(i + (1 : Nat)) : Int))) (2 : Nat) (clrRow (Int.toNat (↑(Int.toNat (↑i : Int) - (0 : Nat) + (Int.toNat (↑(List.length l) : Int) - Int.toNat (↑(i + (1 : Nat)) : Int))) : Int)) (Int.toNat (↑(List.length l) : Int) - Int.toNat (↑(Int.toNat (↑i : Int) - (0 : Nat) + (Int.toNat (↑(List.length l) : Int) - Int.toNat (↑(i + (1 : Nat)) : Int))) : Int)) fun (q j : Nat) => if Int.toNat (↑i : Int) - (0 : Nat) ≤ q ∧ q < Int.toNat (↑i : Int) - (0 : Nat) + (Int.toNat (↑(List.length l) : Int) - Int.toNat (↑(i + (1 : Nat)) : Int)) then cellsOf' encTp l ((0 : Nat) + Int.toNat (↑(i + (1 : Nat)) : Int) + (q - (Int.toNat (↑i : Int) - (0 : Nat)))) j else cellsOf' encTp l q j) (cellsOf' encTp (tout l i))) ∧ True)
set_option maxRecDepth 1000000 in
theorem vcDt_eq (l : List Tpc) (i : Nat) : (ctrVC Tryd.prog dtH 71 [.own 4 2 0 l.length, .y (.int .i64 i), .y (.int .i64 (i + 1 : Nat))] (dtM l) (dtR l i)) = vcDt l i := by kernel_rfl
end Go.Proofs.YtdpbogaldcpfeaaDoor.C

/-! A client gives up who led a group; takes out a topic; turns: the conditions. -/
namespace Go.Proofs.YtdpbogaldcpfeaaDoor.C
open Go.Ax
set_option maxRecDepth 1000000
theorem dl_loop (l : List Sit) (g : Int) (hl : l.length ≤ 9223372036854775806) (q : FS (gkeep g) l) : LoopOk Tryd.prog 72 5 (loopAt Tryd.prog 72 5) ⟨dlT l g q, dlM l g q, []⟩ (T.map (lout [8, 9, 10] (dlS l g)) (.ret ())) := by
  refine loop_vc (o := fun _ => .ret ()) Tryd.mixed (fun _ => rfl) (fun q => (vcDlL_eq l g q).mpr ?_) q
  unfold vcDlL
  have h1 := q.ij
  have h2 := q.len
  have h3 : q.L.getD q.j default = l[q.j]?.getD default := by rw [List.getD_eq_getElem?_getD, q.at]
  rw [Int.toNat_natCast, Nat.zero_add, h3]
  by_cases h : q.j < l.length
  · have hz : decide ((q.j : Int) < l.length) = true := by simp; omega
    simp only [hz]
    cases hp : gkeep g (l[q.j]?.getD default)
    · have hp' : ((l[q.j]?.getD default).group == g) = true := by simpa [gkeep, isG] using hp
      simp only [hp']
      simp
      refine ⟨h, q.skip h hp, ?_, ?_, ?_⟩
      · show l.length - (q.j + 1) < l.length - q.j; omega
      · show (q.i : Int) = q.i ∧ IntKind.i64.wrap (↑q.j + 1) = ↑(q.j + 1)
        rw [wrap_i64 (by omega) (by omega)]; omega
      · exact contLe_refl _ _ _
    · have hp' : ((l[q.j]?.getD default).group == g) = false := by simpa [gkeep, isG] using hp
      simp only [hp']
      simp
      refine ⟨h, by omega, q.put h hp, ?_, ?_, ?_⟩
      · show l.length - (q.j + 1) < l.length - q.j; omega
      · show IntKind.i64.wrap (↑q.i + 1) = ↑(q.i + 1) ∧ IntKind.i64.wrap (↑q.j + 1) = ↑(q.j + 1)
        rw [wrap_i64 (by omega) (by omega), wrap_i64 (by omega) (by omega)]; omega
      · exact wr_le q.len.symm (by omega) rfl fun j hj => by
          match j, hj with
          | 0, _ => simp [encSi]
          | 1, _ => simp [encSi]
  · have hz : decide ((q.j : Int) < l.length) = false := by simp; omega
    simp only [hz]
    simp
    have h : l.length ≤ q.j := by omega
    refine ⟨?_, ?_⟩
    · have hp := congrArg List.length q.pre
      have hj := q.jl
      rw [List.take_of_length_le (l := l) h, List.length_take] at hp
      unfold goth
      omega
    · have hp := q.pre
      rw [List.take_of_length_le (l := l) h] at hp
      refine cut_le fun k hk hm j hj => ?_
      have e : q.L[k]? = (goth l g)[k]? := by
        unfold goth at hm ⊢
        rw [← hp, List.getElem?_take, if_pos]
        rw [← hp, List.length_take] at hm; omega
      simp [cellsOf', e]
theorem goth_none {l : List Sit} {g : Int} (h : siAny g l = false) : goth l g = l := by
  unfold goth
  rw [List.filter_eq_self]
  intro a ha
  have h2 : l.any (isG g) = false := h
  rw [List.any_eq_false] at h2
  simpa [gkeep] using h2 a ha
theorem dl_c (l : List Sit) (g : Int) (hl : l.length ≤ 9223372036854775806) : (dlR l g).Sat (ACall' Tryd.prog 72 [.own 5 2 0 l.length, ofV] (dlMr (rwS l) g)) := by
  refine ctr_vc (ht := dlH l g) Tryd.mixed rfl ?_
  rw [vcDl_eq l g]
  unfold vcDl
  have hm : (goth l g).length ≤ l.length := List.length_filter_le _ _
  by_cases hf : siAny g l = true
  · have hq : l.any (fun x => !gkeep g x) = true := by simpa [gkeep, siAny] using hf
    have := dl_loop l g hl (FS.start (gkeep g) l hq)
    have e0 : (fun x => !gkeep g x) = isG g := by funext x; simp [gkeep]
    have ei : (FS.start (gkeep g) l hq).i = l.findIdx (isG g) := by
      show l.findIdx (fun x => !gkeep g x) = _
      rw [e0]
    have ej : (FS.start (gkeep g) l hq).j = l.findIdx (isG g) + 1 := by
      show l.findIdx (fun x => !gkeep g x) + 1 = _
      rw [e0]
    have eL : (FS.start (gkeep g) l hq).L = l := rfl
    unfold dlT dlM at this
    rw [ei, ej, eL] at this
    have hlt : l.findIdx (isG g) < l.length := List.findIdx_lt_length.2 (by simpa [siAny, List.any_eq_true] using hf)
    simp [hf]
    refine ⟨hl, wrap_i64 (by omega) (by omega), this, hm, clr_cut (contLe_refl _ _ _) rfl⟩
  · have hf' : siAny g l = false := by simpa using hf
    have e := goth_none hf'
    simp [hf', e]
    exact hl
theorem jx_loop (v : Int) (l : List Int) (hl : l.length ≤ 9223372036854775806) (k : Nat) : LoopOk Tryd.prog 89 2 (loopAt Tryd.prog 89 2) ⟨jxT v l k, [], []⟩ ((jxO v l k).map (lout [0] jxS)) := by
  refine loop_vcH (P := Tryd.prog) (f := 89) (k := 2) (ι := Nat) (μ := fun k => l.length - k) (ht := fun _ => hT _) (stT := jxT v l) (stM := fun _ => []) (X := [0]) (o := jxO v l) (S := jxS) Tryd.mixed (fun _ => rfl) (fun k => ?_) k
  rw [vcJxL_eq v l k]
  unfold vcJxL
  by_cases h : k < l.length
  · have hw : IntKind.i64.wrap ((k : Int) + 1) = ((k + 1 : Nat) : Int) := by rw [wrap_i64 (by omega) (by omega)]; omega
    have hz : decide ((k : Int) < l.length) = true := by simp; omega
    have hd : l.drop k = l.getD k default :: l.drop (k + 1) := by rw [drop_cons h]; simp
    rw [Int.toNat_natCast]
    simp only [hz, hd, iany, iidx, List.any_cons, List.findIdx_cons]
    generalize l.getD k default = y at *
    cases hp : (v == y)
    · simp [hw]
      exact ⟨k + 1, by omega, by omega, by grind⟩
    · simp
  · have hz : decide ((k : Int) < l.length) = false := by simp; omega
    simp only [hz, drop_end (Nat.le_of_not_lt h)]
    simp [iany]
theorem jx_c (v : Int) (l : List Int) (hl : l.length ≤ 9223372036854775806) : (boolR (iany v l)).Sat (ACall' Tryd.prog 66 [encIs true l, .y (.int .i64 v)] []) := by
  refine ctr_vc (ht := jxH v l) Tryd.mixed rfl ?_
  rw [vcJx_eq v l]
  unfold vcJx
  have := jx_loop v l hl 0
  simp [this]
theorem tout_at (l : List Tpc) (i k : Nat) : (tout l i)[k]? = if k < i then l[k]? else l[k + 1]? := by
  unfold tout
  by_cases h : k < i
  · rw [if_pos h]
    by_cases h2 : i ≤ l.length
    · rw [List.getElem?_append_left (by simp; omega), List.getElem?_take, if_pos h]
    · rw [List.drop_eq_nil_of_le (by omega), List.append_nil, List.getElem?_take, if_pos h]
  · rw [if_neg h]
    by_cases h2 : i ≤ l.length
    · rw [List.getElem?_append_right (by simp; omega), List.getElem?_drop, List.length_take, Nat.min_eq_left h2]
      congr 1; omega
    · rw [List.drop_eq_nil_of_le (by omega), List.append_nil, List.getElem?_take, if_neg h, List.getElem?_eq_none (by omega)]
theorem dt_row (l : List Tpc) (i m : Nat) : contLe (l.length - 1) 2 (clrRow (l.length - 1) m fun q j => if i ≤ q ∧ q < l.length - 1 then cellsOf' encTp l (i + 1 + (q - i)) j else cellsOf' encTp l q j) (cellsOf' encTp (tout l i)) := by
  intro k hk j hj
  have e : clrRow (l.length - 1) m (fun q j => if i ≤ q ∧ q < l.length - 1 then cellsOf' encTp l (i + 1 + (q - i)) j else cellsOf' encTp l q j) k j = cellsOf' encTp (tout l i) k j := by
    unfold clrRow cellsOf'
    rw [if_neg (by omega)]
    simp only [List.getD_eq_getElem?_getD, tout_at]
    by_cases h : i ≤ k
    · rw [if_pos ⟨h, hk⟩, if_neg (by omega), show i + 1 + (k - i) = k + 1 by omega]
    · rw [if_neg (by omega), if_pos (by omega)]
  rw [e]
  exact le0_refl _
theorem dt_c (l : List Tpc) (i : Nat) (hl : l.length ≤ 9223372036854775806) (hi : i < l.length) : (dtR l i).Sat (ACall' Tryd.prog 71 [.own 4 2 0 l.length, .y (.int .i64 i), .y (.int .i64 (i + 1 : Nat))] (dtM l)) := by
  refine ctr_vc (ht := dtH) Tryd.mixed rfl ?_
  rw [vcDt_eq l i]
  unfold vcDt
  have e : (tout l i).length = l.length - 1 := by unfold tout; simp; omega
  have hne : (((i : Int)) == (((i + 1 : Nat)) : Int)) = false := by simp; omega
  have hn : i + (l.length - (i + 1)) = l.length - 1 := by omega
  have hr := dt_row l i (l.length - (l.length - 1))
  simp only [hne, Int.toNat_natCast, Nat.sub_zero, Nat.zero_add, hn, e]
  simp only [Bool.true_and, Bool.and_eq_true, decide_eq_true_eq, true_and, and_true, false_implies, forall_const, reduceCtorEq]
  refine ⟨by omega, by omega, by omega, by omega, by omega, by omega, by omega, by omega, by omega, by omega, hr⟩
end Go.Proofs.YtdpbogaldcpfeaaDoor.C

/-! A client turns: the conditions. -/
namespace Go.Proofs.YtdpbogaldcpfeaaDoor.C
open Go.Ax
set_option maxRecDepth 1000000
noncomputable def dlK (l : List Sit) (g : Int) : Ctr Tryd.prog := ⟨72, [.own 5 2 0 l.length, ofV], dlMr (rwS l) g, .need (l.length ≤ 9223372036854775806) (dlR l g), T.Sat.need fun h => dl_c l g h⟩
noncomputable def jxK (v : Int) (l : List Int) : Ctr Tryd.prog := ⟨66, [encIs true l, .y (.int .i64 v)], [], .need (l.length ≤ 9223372036854775806) (boolR (iany v l)), T.Sat.need fun h => jx_c v l h⟩
noncomputable def dtK (l : List Tpc) (i : Nat) : Ctr Tryd.prog := ⟨71, [.own 4 2 0 l.length, .y (.int .i64 i), .y (.int .i64 (i + 1 : Nat))], dtM l, .need (l.length ≤ 9223372036854775806 ∧ i < l.length) (dtR l i), T.Sat.need fun h => dt_c l i h.1 h.2⟩
def turnN (x : Nod) : Nod := ⟨{ x.c with leaders := goth x.c.leaders x.c.group, at' := atQ x }, x.o⟩
def unitT (x : Nod) : T An := .ret (.tup [], ndM x, [5])
noncomputable def trnH (x : Nod) : HintsT Tryd.prog := withSub (hh _ noLp (cs1 43 0 12 (dlK x.c.leaders x.c.group) noCs) noOp) [72]
def vcTrn (x : Nod) (y : Nod) : Prop :=
  (((0 : Nat) = (0 : Nat) ∧ List.length x.c.leaders = List.length x.c.leaders) ∧ (True ∧ ((0 : Nat) = (0 : Nat) ∧ (0 : Nat) = (0 : Nat)) ∧ True) ∧ True) ∧ ((List.length x.c.leaders = List.length x.c.leaders ∧ contLe (List.length x.c.leaders) (2 : Nat) (cellsOf' encSi x.c.leaders) (cellsOf' encSi x.c.leaders)) ∧ (x.c.group = x.c.group ∧ True) ∧ True) ∧ List.length x.c.leaders ≤ (9223372036854775806 : Nat) ∧ decide ((↑(List.length x.c.servers) : Int) ≠ (0 : Int)) = true ∧ True ∧ (List.length x.c.topics = List.length y.c.topics ∧ contLe (List.length x.c.topics) (2 : Nat) (cellsOf' encTp x.c.topics) (cellsOf' encTp y.c.topics)) ∧ (List.length (goth x.c.leaders x.c.group) = List.length y.c.leaders ∧ contLe (List.length (goth x.c.leaders x.c.group)) (2 : Nat) (cellsOf' encSi (goth x.c.leaders x.c.group)) (cellsOf' encSi y.c.leaders)) ∧ (x.c.id = y.c.id ∧ (true = true ∧ List.length x.c.servers = List.length y.c.servers ∧ contLe (List.length x.c.servers) (1 : Nat) (cellsOf' encI x.c.servers) (cellsOf' encI y.c.servers)) ∧ x.c.prod = y.c.prod ∧ x.c.seq = y.c.seq ∧ ((0 : Nat) = (0 : Nat) ∧ List.length x.c.topics = List.length y.c.topics) ∧ ((0 : Nat) = (0 : Nat) ∧ List.length (goth x.c.leaders x.c.group) = List.length y.c.leaders) ∧ x.c.busy = y.c.busy ∧ x.c.call.kind = y.c.call.kind ∧ x.c.call.topic = y.c.call.topic ∧ x.c.call.key = y.c.call.key ∧ (true = true ∧ List.length x.c.call.val = List.length y.c.call.val ∧ contLe (List.length x.c.call.val) (1 : Nat) (cellsOf' encB x.c.call.val) (cellsOf' encB y.c.call.val)) ∧ x.c.call.off = y.c.call.off ∧ x.c.call.most = y.c.call.most ∧ x.c.call.name = y.c.call.name ∧ x.c.call.adm.kind = y.c.call.adm.kind ∧ x.c.call.adm.prod = y.c.call.adm.prod ∧ x.c.call.adm.seq = y.c.call.adm.seq ∧ x.c.call.adm.topic = y.c.call.adm.topic ∧ (true = true ∧ List.length x.c.call.adm.nodes = List.length y.c.call.adm.nodes ∧ contLe (List.length x.c.call.adm.nodes) (1 : Nat) (cellsOf' encI x.c.call.adm.nodes) (cellsOf' encI y.c.call.adm.nodes)) ∧ x.c.call.adm.group = y.c.call.adm.group ∧ x.c.call.adm.other = y.c.call.adm.other ∧ x.c.call.adm.key = y.c.call.adm.key ∧ x.c.call.adm.fr = y.c.call.adm.fr ∧ x.c.call.adm.to = y.c.call.adm.to ∧ x.c.call.adm.plan = y.c.call.adm.plan ∧ x.c.call.adm.step = y.c.call.adm.step ∧ x.c.number = y.c.number ∧ x.c.route = y.c.route ∧ x.c.group = y.c.group ∧ x.c.tries = y.c.tries ∧ x.c.waited = y.c.waited ∧ x.c.again = y.c.again ∧ Int.tmod (IntKind.wrap IntKind.i64 (x.c.at' + (1 : Int))) (↑(List.length x.c.servers) : Int) = y.c.at' ∧ x.o.send = y.o.send ∧ x.o.to = y.o.to ∧ x.o.req.id = y.o.req.id ∧ x.o.req.kind = y.o.req.kind ∧ x.o.req.group = y.o.req.group ∧ x.o.req.part.kind = y.o.req.part.kind ∧ x.o.req.part.epoch = y.o.req.part.epoch ∧ x.o.req.part.prod = y.o.req.part.prod ∧ x.o.req.part.seq = y.o.req.part.seq ∧ x.o.req.part.key = y.o.req.part.key ∧ (true = true ∧ List.length x.o.req.part.val = List.length y.o.req.part.val ∧ contLe (List.length x.o.req.part.val) (1 : Nat) (cellsOf' encB x.o.req.part.val) (cellsOf' encB y.o.req.part.val)) ∧ x.o.req.part.off = y.o.req.part.off ∧ x.o.req.part.most = y.o.req.part.most ∧ x.o.req.part.name = y.o.req.part.name ∧ x.o.req.part.plan = y.o.req.part.plan ∧ x.o.req.adm.kind = y.o.req.adm.kind ∧ x.o.req.adm.prod = y.o.req.adm.prod ∧ x.o.req.adm.seq = y.o.req.adm.seq ∧ x.o.req.adm.topic = y.o.req.adm.topic ∧ (true = true ∧ List.length x.o.req.adm.nodes = List.length y.o.req.adm.nodes ∧ contLe (List.length x.o.req.adm.nodes) (1 : Nat) (cellsOf' encI x.o.req.adm.nodes) (cellsOf' encI y.o.req.adm.nodes)) ∧ x.o.req.adm.group = y.o.req.adm.group ∧ x.o.req.adm.other = y.o.req.adm.other ∧ x.o.req.adm.key = y.o.req.adm.key ∧ x.o.req.adm.fr = y.o.req.adm.fr ∧ x.o.req.adm.to = y.o.req.adm.to ∧ x.o.req.adm.plan = y.o.req.adm.plan ∧ x.o.req.adm.step = y.o.req.adm.step ∧ x.o.req.topic = y.o.req.topic ∧ x.o.done = y.o.done ∧ x.o.rep.id = y.o.rep.id ∧ x.o.rep.err = y.o.rep.err ∧ x.o.rep.leader = y.o.rep.leader ∧ x.o.rep.rerr = y.o.rep.rerr ∧ x.o.rep.roff = y.o.rep.roff ∧ x.o.rep.rold = y.o.rep.rold ∧ (true = true ∧ List.length x.o.rep.recs = List.length y.o.rep.recs ∧ contLe (List.length x.o.rep.recs) (5 : Nat) (cellsOf' encR x.o.rep.recs) (cellsOf' encR y.o.rep.recs)) ∧ x.o.rep.number = y.o.rep.number ∧ (true = true ∧ List.length x.o.rep.shards = List.length y.o.rep.shards ∧ contLe (List.length x.o.rep.shards) (7 : Nat) (cellsOf' encSh x.o.rep.shards) (cellsOf' encSh y.o.rep.shards)) ∧ x.o.rep.group = y.o.rep.group ∧ x.o.rep.index = y.o.rep.index ∧ x.o.rep.term = y.o.rep.term ∧ True) ∧ True
set_option maxRecDepth 1000000 in
theorem vcTrn_eq (x : Nod) (y : Nod) : (ctrVCg Tryd.prog (trnH x) 43 [ndP] (ndM x) (unitT y)) = vcTrn x y := by kernel_rfl
end Go.Proofs.YtdpbogaldcpfeaaDoor.C

/-! A client is answered; ticks: the conditions. -/
namespace Go.Proofs.YtdpbogaldcpfeaaDoor.C
open Go.Ax
set_option maxRecDepth 1000000
structure TrnOk (x : Nod) : Prop where
  l : x.c.leaders.length ≤ 9223372036854775806
  s : 0 < x.c.servers.length
theorem trn_c (x : Nod) (h : TrnOk x) : (unitT (turnN x)).Sat (ACall' Tryd.prog 43 [ndP] (ndM x)) := by
  refine ctr_vcg (ht := trnH x) Tryd.mixed rfl ?_
  rw [vcTrn_eq x (turnN x)]
  unfold vcTrn
  have h1 := h.l
  have h2 := h.s
  have h6 : ¬ ((x.c.servers.length : Int) = 0) := by omega
  have h7 : ¬ x.c.servers = [] := by intro e; simp [e] at h2
  simp [h1, h6, h7]
  repeat' apply And.intro
  all_goals first | rfl | exact contLe_refl _ _ _ | (refine cell_of ?_; repeat' apply And.intro) <;> first | rfl | exact fun _ _ _ _ => rfl | exact le0_refl _ | trivial
def taken (x : Nod) : Nod := if (!(x.c.call.kind == 5) && topA x) = true then ⟨{ x.c with topics := tout x.c.topics (topI x) }, x.o⟩ else x
def goneN (x : Nod) : Nod := laterN (turnN (taken x))
def ledT (x : Nod) (n : Int) : List Sit := if ldA x x.c.group then x.c.leaders.set (ldI x x.c.group) ⟨(x.c.leaders.getD (ldI x x.c.group) default).group, n⟩ else x.c.leaders ++ [⟨x.c.group, n⟩]
def ledN (x : Nod) (n : Int) : Nod := ⟨{ x.c with leaders := ledT x n }, x.o⟩
def is4 (e : Int) : Bool := e == 162 || (e == 164 || (e == 163 || e == 182))
def ansN (x : Nod) (r : Rep) : Nod :=
  if r.err = 0 then finN x r
  else if r.err = 201 then (if iany r.leader x.c.servers = true then sendN (ledN x r.leader) else laterN (turnN x))
  else if is4 r.err = true then (if x.c.call.kind = 5 then endN x r else goneN x)
  else if r.err = 202 then goneN x
  else if r.err = 203 then (if x.c.call.kind = 5 then endN x (rep0 213) else laterN x)
  else endN x r
def unitB (x : Nod) : T An := .ret (.tup [], ndM x, [4, 5])
/-! nodes as they are -/
def fdNd (a : Nod) (b : Nod) : Prop :=
  a.c.id = b.c.id ∧ (true = true ∧ List.length a.c.servers = List.length b.c.servers ∧ contLe (List.length a.c.servers) (1 : Nat) (cellsOf' encI a.c.servers) (cellsOf' encI b.c.servers)) ∧ a.c.prod = b.c.prod ∧ a.c.seq = b.c.seq ∧ ((0 : Nat) = (0 : Nat) ∧ List.length a.c.topics = List.length b.c.topics) ∧ ((0 : Nat) = (0 : Nat) ∧ List.length a.c.leaders = List.length b.c.leaders) ∧ a.c.busy = b.c.busy ∧ a.c.call.kind = b.c.call.kind ∧ a.c.call.topic = b.c.call.topic ∧ a.c.call.key = b.c.call.key ∧ (true = true ∧ List.length a.c.call.val = List.length b.c.call.val ∧ contLe (List.length a.c.call.val) (1 : Nat) (cellsOf' encB a.c.call.val) (cellsOf' encB b.c.call.val)) ∧ a.c.call.off = b.c.call.off ∧ a.c.call.most = b.c.call.most ∧ a.c.call.name = b.c.call.name ∧ a.c.call.adm.kind = b.c.call.adm.kind ∧ a.c.call.adm.prod = b.c.call.adm.prod ∧ a.c.call.adm.seq = b.c.call.adm.seq ∧ a.c.call.adm.topic = b.c.call.adm.topic ∧ (true = true ∧ List.length a.c.call.adm.nodes = List.length b.c.call.adm.nodes ∧ contLe (List.length a.c.call.adm.nodes) (1 : Nat) (cellsOf' encI a.c.call.adm.nodes) (cellsOf' encI b.c.call.adm.nodes)) ∧ a.c.call.adm.group = b.c.call.adm.group ∧ a.c.call.adm.other = b.c.call.adm.other ∧ a.c.call.adm.key = b.c.call.adm.key ∧ a.c.call.adm.fr = b.c.call.adm.fr ∧ a.c.call.adm.to = b.c.call.adm.to ∧ a.c.call.adm.plan = b.c.call.adm.plan ∧ a.c.call.adm.step = b.c.call.adm.step ∧ a.c.number = b.c.number ∧ a.c.route = b.c.route ∧ a.c.group = b.c.group ∧ a.c.tries = b.c.tries ∧ a.c.waited = b.c.waited ∧ a.c.again = b.c.again ∧ a.c.at' = b.c.at' ∧ a.o.send = b.o.send ∧ a.o.to = b.o.to ∧ a.o.req.id = b.o.req.id ∧ a.o.req.kind = b.o.req.kind ∧ a.o.req.group = b.o.req.group ∧ a.o.req.part.kind = b.o.req.part.kind ∧ a.o.req.part.epoch = b.o.req.part.epoch ∧ a.o.req.part.prod = b.o.req.part.prod ∧ a.o.req.part.seq = b.o.req.part.seq ∧ a.o.req.part.key = b.o.req.part.key ∧ (true = true ∧ List.length a.o.req.part.val = List.length b.o.req.part.val ∧ contLe (List.length a.o.req.part.val) (1 : Nat) (cellsOf' encB a.o.req.part.val) (cellsOf' encB b.o.req.part.val)) ∧ a.o.req.part.off = b.o.req.part.off ∧ a.o.req.part.most = b.o.req.part.most ∧ a.o.req.part.name = b.o.req.part.name ∧ a.o.req.part.plan = b.o.req.part.plan ∧ a.o.req.adm.kind = b.o.req.adm.kind ∧ a.o.req.adm.prod = b.o.req.adm.prod ∧ a.o.req.adm.seq = b.o.req.adm.seq ∧ a.o.req.adm.topic = b.o.req.adm.topic ∧ (true = true ∧ List.length a.o.req.adm.nodes = List.length b.o.req.adm.nodes ∧ contLe (List.length a.o.req.adm.nodes) (1 : Nat) (cellsOf' encI a.o.req.adm.nodes) (cellsOf' encI b.o.req.adm.nodes)) ∧ a.o.req.adm.group = b.o.req.adm.group ∧ a.o.req.adm.other = b.o.req.adm.other ∧ a.o.req.adm.key = b.o.req.adm.key ∧ a.o.req.adm.fr = b.o.req.adm.fr ∧ a.o.req.adm.to = b.o.req.adm.to ∧ a.o.req.adm.plan = b.o.req.adm.plan ∧ a.o.req.adm.step = b.o.req.adm.step ∧ a.o.req.topic = b.o.req.topic ∧ a.o.done = b.o.done ∧ a.o.rep.id = b.o.rep.id ∧ a.o.rep.err = b.o.rep.err ∧ a.o.rep.leader = b.o.rep.leader ∧ a.o.rep.rerr = b.o.rep.rerr ∧ a.o.rep.roff = b.o.rep.roff ∧ a.o.rep.rold = b.o.rep.rold ∧ (true = true ∧ List.length a.o.rep.recs = List.length b.o.rep.recs ∧ contLe (List.length a.o.rep.recs) (5 : Nat) (cellsOf' encR a.o.rep.recs) (cellsOf' encR b.o.rep.recs)) ∧ a.o.rep.number = b.o.rep.number ∧ (true = true ∧ List.length a.o.rep.shards = List.length b.o.rep.shards ∧ contLe (List.length a.o.rep.shards) (7 : Nat) (cellsOf' encSh a.o.rep.shards) (cellsOf' encSh b.o.rep.shards)) ∧ a.o.rep.group = b.o.rep.group ∧ a.o.rep.index = b.o.rep.index ∧ a.o.rep.term = b.o.rep.term ∧ True
def fdRp (a : Rep) (b : Rep) : Prop :=
  a.id = b.id ∧ a.err = b.err ∧ a.leader = b.leader ∧ a.rerr = b.rerr ∧ a.roff = b.roff ∧ a.rold = b.rold ∧ (true = true ∧ List.length a.recs = List.length b.recs ∧ contLe (List.length a.recs) (5 : Nat) (cellsOf' encR a.recs) (cellsOf' encR b.recs)) ∧ a.number = b.number ∧ (true = true ∧ List.length a.shards = List.length b.shards ∧ contLe (List.length a.shards) (7 : Nat) (cellsOf' encSh a.shards) (cellsOf' encSh b.shards)) ∧ a.group = b.group ∧ a.index = b.index ∧ a.term = b.term ∧ True
end Go.Proofs.YtdpbogaldcpfeaaDoor.C

/-! A client is answered: the conditions. -/
--fold
namespace Go.Proofs.YtdpbogaldcpfeaaDoor.C
open Go.Ax
set_option maxRecDepth 1000000
@[simp] theorem fdNd_refl (a : Nod) : fdNd a a := by
  unfold fdNd
  simp
@[simp] theorem fdRp_refl (a : Rep) : fdRp a a := by
  unfold fdRp
  simp
structure EndQ (x : Nod) (r : Rep) (y : Nod) : Prop where
  y : y = endN x r
noncomputable def endW (x : Nod) (r : Rep) (y : Nod) : Ctr Tryd.prog := ⟨44, [ndP, .agg (encRp r)], ndM x, .need (EndQ x r y) (unitR y), T.Sat.need fun h => by obtain ⟨rfl⟩ := h; exact end_c x r⟩
structure LatQ (x : Nod) (y : Nod) : Prop where
  y : y = laterN x
noncomputable def latO (x y : Nod) : Ctr Tryd.prog := ⟨67, [ndP], ndM x, .need (LatQ x y) (unitR y), T.Sat.need fun h => by obtain ⟨rfl⟩ := h; exact lat_c x⟩
structure SndQ (x : Nod) (y : Nod) : Prop where
  y : y = sendN x
  o : SndOk x
noncomputable def sndO (x y : Nod) : Ctr Tryd.prog := ⟨41, [ndP], ndM x, .need (SndQ x y) (unitR y), T.Sat.need fun h => by obtain ⟨rfl, h⟩ := h; exact snd_c x h⟩
structure TrnQ (x : Nod) (y : Nod) : Prop where
  y : y = turnN x
  o : TrnOk x
noncomputable def trnO (x y : Nod) : Ctr Tryd.prog := ⟨43, [ndP], ndM x, .need (TrnQ x y) (unitT y), T.Sat.need fun h => by obtain ⟨rfl, h⟩ := h; exact trn_c x h⟩
structure FinQ (x : Nod) (r : Rep) (y : Nod) : Prop where
  y : y = finN x r
  o : FinOk x r
noncomputable def finO (x : Nod) (r : Rep) (y : Nod) : Ctr Tryd.prog := ⟨65, [ndP, .agg (encRp r)], ndM x, .need (FinQ x r y) (unitM y), T.Sat.need fun h => by obtain ⟨rfl, h⟩ := h; exact fin_c x r h⟩
noncomputable def anH (x : Nod) (r : Rep) (z tz tx w y : Nod) : HintsT Tryd.prog := withSub (hh _ noLp (cs1 42 11 2 (finO x r y) (cs1 42 12 7 (jxK r.leader x.c.servers) (cs1 42 13 1 (trnO x tx) (cs1 42 14 1 (latO tx y) (cs1 42 15 11 (siIdx x.c.group false x.c.leaders) (cs1 42 19 1 (sndO w y) (cs1 42 21 2 (endW x r y) (cs1 42 22 1 (topC x) (cs1 42 24 9 (dtK x.c.topics (topI x)) (cs1 42 25 1 (trnO z tz) (cs1 42 26 1 (latO tz y) (cs1 42 28 2 (endW x (rep0 213) y) (cs1 42 29 1 (latO x y) (cs1 42 30 2 (endW x r y) noCs)))))))))))))) noOp) [65, 43, 67, 41, 44, 71]
def vcAnG_q3 (x : Nod) : Prop := ((false = false ∧ (74 : Nat) ≤ (74 : Nat) ∧ cellLe (74 : Nat) (fun (j : Nat) => Ax.get [AV.y (Value.int IntKind.i64 x.c.id), AV.ys true (1 : Nat) (List.length x.c.servers) (cellsOf' encI x.c.servers), AV.y (Value.int IntKind.u64 x.c.prod), AV.y (Value.int IntKind.u64 x.c.seq), AV.ys false (2 : Nat) (List.length x.c.topics) (Ax.rowAt (0 : Nat) (cellsOf' encTp x.c.topics)), AV.ys false (2 : Nat) (List.length x.c.leaders) (Ax.rowAt (0 : Nat) (cellsOf' encSi x.c.leaders)), AV.y (Value.bool x.c.busy), AV.y (Value.int IntKind.i64 x.c.call.kind), AV.y (Value.string x.c.call.topic), AV.y (Value.string x.c.call.key), AV.ys true (1 : Nat) (List.length x.c.call.val) (cellsOf' encB x.c.call.val), AV.y (Value.int IntKind.u64 x.c.call.off), AV.y (Value.int IntKind.i64 x.c.call.most), AV.y (Value.string x.c.call.name), AV.y (Value.int IntKind.i64 x.c.call.adm.kind), AV.y (Value.int IntKind.u64 x.c.call.adm.prod), AV.y (Value.int IntKind.u64 x.c.call.adm.seq), AV.y (Value.string x.c.call.adm.topic), AV.ys true (1 : Nat) (List.length x.c.call.adm.nodes) (cellsOf' encI x.c.call.adm.nodes), AV.y (Value.int IntKind.u64 x.c.call.adm.group), AV.y (Value.int IntKind.u64 x.c.call.adm.other), AV.y (Value.string x.c.call.adm.key), AV.y (Value.int IntKind.i64 x.c.call.adm.fr), AV.y (Value.int IntKind.i64 x.c.call.adm.to), AV.y (Value.int IntKind.u64 x.c.call.adm.plan), AV.y (Value.int IntKind.i64 x.c.call.adm.step), AV.y (Value.int IntKind.u64 x.c.number), AV.y (Value.bool x.c.route), AV.y (Value.int IntKind.u64 x.c.group), AV.y (Value.int IntKind.i64 x.c.tries), AV.y (Value.int IntKind.i64 x.c.waited), AV.y (Value.bool x.c.again), AV.y (Value.int IntKind.i64 x.c.at'), AV.y (Value.bool x.o.send), AV.y (Value.int IntKind.i64 x.o.to), AV.y (Value.int IntKind.u64 x.o.req.id), AV.y (Value.int IntKind.i64 x.o.req.kind), AV.y (Value.int IntKind.u64 x.o.req.group), AV.y (Value.int IntKind.i64 x.o.req.part.kind), AV.y (Value.int IntKind.u64 x.o.req.part.epoch), AV.y (Value.int IntKind.u64 x.o.req.part.prod), AV.y (Value.int IntKind.u64 x.o.req.part.seq), AV.y (Value.string x.o.req.part.key), AV.ys true (1 : Nat) (List.length x.o.req.part.val) (cellsOf' encB x.o.req.part.val), AV.y (Value.int IntKind.u64 x.o.req.part.off), AV.y (Value.int IntKind.i64 x.o.req.part.most), AV.y (Value.string x.o.req.part.name), AV.y (Value.int IntKind.u64 x.o.req.part.plan), AV.y (Value.int IntKind.i64 x.o.req.adm.kind), AV.y (Value.int IntKind.u64 x.o.req.adm.prod), AV.y (Value.int IntKind.u64 x.o.req.adm.seq), AV.y (Value.string x.o.req.adm.topic), AV.ys true (1 : Nat) (List.length x.o.req.adm.nodes) (cellsOf' encI x.o.req.adm.nodes), AV.y (Value.int IntKind.u64 x.o.req.adm.group), AV.y (Value.int IntKind.u64 x.o.req.adm.other), AV.y (Value.string x.o.req.adm.key), AV.y (Value.int IntKind.i64 x.o.req.adm.fr), AV.y (Value.int IntKind.i64 x.o.req.adm.to), AV.y (Value.int IntKind.u64 x.o.req.adm.plan), AV.y (Value.int IntKind.i64 x.o.req.adm.step), AV.y (Value.string x.o.req.topic), AV.y (Value.bool x.o.done), AV.y (Value.int IntKind.u64 x.o.rep.id), AV.y (Value.int IntKind.i64 x.o.rep.err), AV.y (Value.int IntKind.i64 x.o.rep.leader), AV.y (Value.int IntKind.i64 x.o.rep.rerr), AV.y (Value.int IntKind.u64 x.o.rep.roff), AV.y (Value.bool x.o.rep.rold), AV.ys true (5 : Nat) (List.length x.o.rep.recs) (cellsOf' encR x.o.rep.recs), AV.y (Value.int IntKind.u64 x.o.rep.number), AV.ys true (7 : Nat) (List.length x.o.rep.shards) (cellsOf' encSh x.o.rep.shards), AV.y (Value.int IntKind.u64 x.o.rep.group), AV.y (Value.int IntKind.u64 x.o.rep.index), AV.y (Value.int IntKind.u64 x.o.rep.term)] ((0 : Nat) + j)) (Ax.get [AV.y (Value.int IntKind.i64 x.c.id), AV.ys true (1 : Nat) (List.length x.c.servers) (cellsOf' encI x.c.servers), AV.y (Value.int IntKind.u64 x.c.prod), AV.y (Value.int IntKind.u64 x.c.seq), AV.ys false (2 : Nat) (List.length x.c.topics) (cellsOf' encTp x.c.topics), AV.ys false (2 : Nat) (List.length x.c.leaders) (cellsOf' encSi x.c.leaders), AV.y (Value.bool x.c.busy), AV.y (Value.int IntKind.i64 x.c.call.kind), AV.y (Value.string x.c.call.topic), AV.y (Value.string x.c.call.key), AV.ys true (1 : Nat) (List.length x.c.call.val) (cellsOf' encB x.c.call.val), AV.y (Value.int IntKind.u64 x.c.call.off), AV.y (Value.int IntKind.i64 x.c.call.most), AV.y (Value.string x.c.call.name), AV.y (Value.int IntKind.i64 x.c.call.adm.kind), AV.y (Value.int IntKind.u64 x.c.call.adm.prod), AV.y (Value.int IntKind.u64 x.c.call.adm.seq), AV.y (Value.string x.c.call.adm.topic), AV.ys true (1 : Nat) (List.length x.c.call.adm.nodes) (cellsOf' encI x.c.call.adm.nodes), AV.y (Value.int IntKind.u64 x.c.call.adm.group), AV.y (Value.int IntKind.u64 x.c.call.adm.other), AV.y (Value.string x.c.call.adm.key), AV.y (Value.int IntKind.i64 x.c.call.adm.fr), AV.y (Value.int IntKind.i64 x.c.call.adm.to), AV.y (Value.int IntKind.u64 x.c.call.adm.plan), AV.y (Value.int IntKind.i64 x.c.call.adm.step), AV.y (Value.int IntKind.u64 x.c.number), AV.y (Value.bool x.c.route), AV.y (Value.int IntKind.u64 x.c.group), AV.y (Value.int IntKind.i64 x.c.tries), AV.y (Value.int IntKind.i64 x.c.waited), AV.y (Value.bool x.c.again), AV.y (Value.int IntKind.i64 x.c.at'), AV.y (Value.bool x.o.send), AV.y (Value.int IntKind.i64 x.o.to), AV.y (Value.int IntKind.u64 x.o.req.id), AV.y (Value.int IntKind.i64 x.o.req.kind), AV.y (Value.int IntKind.u64 x.o.req.group), AV.y (Value.int IntKind.i64 x.o.req.part.kind), AV.y (Value.int IntKind.u64 x.o.req.part.epoch), AV.y (Value.int IntKind.u64 x.o.req.part.prod), AV.y (Value.int IntKind.u64 x.o.req.part.seq), AV.y (Value.string x.o.req.part.key), AV.ys true (1 : Nat) (List.length x.o.req.part.val) (cellsOf' encB x.o.req.part.val), AV.y (Value.int IntKind.u64 x.o.req.part.off), AV.y (Value.int IntKind.i64 x.o.req.part.most), AV.y (Value.string x.o.req.part.name), AV.y (Value.int IntKind.u64 x.o.req.part.plan), AV.y (Value.int IntKind.i64 x.o.req.adm.kind), AV.y (Value.int IntKind.u64 x.o.req.adm.prod), AV.y (Value.int IntKind.u64 x.o.req.adm.seq), AV.y (Value.string x.o.req.adm.topic), AV.ys true (1 : Nat) (List.length x.o.req.adm.nodes) (cellsOf' encI x.o.req.adm.nodes), AV.y (Value.int IntKind.u64 x.o.req.adm.group), AV.y (Value.int IntKind.u64 x.o.req.adm.other), AV.y (Value.string x.o.req.adm.key), AV.y (Value.int IntKind.i64 x.o.req.adm.fr), AV.y (Value.int IntKind.i64 x.o.req.adm.to), AV.y (Value.int IntKind.u64 x.o.req.adm.plan), AV.y (Value.int IntKind.i64 x.o.req.adm.step), AV.y (Value.string x.o.req.topic), AV.y (Value.bool x.o.done), AV.y (Value.int IntKind.u64 x.o.rep.id), AV.y (Value.int IntKind.i64 x.o.rep.err), AV.y (Value.int IntKind.i64 x.o.rep.leader), AV.y (Value.int IntKind.i64 x.o.rep.rerr), AV.y (Value.int IntKind.u64 x.o.rep.roff), AV.y (Value.bool x.o.rep.rold), AV.ys true (5 : Nat) (List.length x.o.rep.recs) (cellsOf' encR x.o.rep.recs), AV.y (Value.int IntKind.u64 x.o.rep.number), AV.ys true (7 : Nat) (List.length x.o.rep.shards) (cellsOf' encSh x.o.rep.shards), AV.y (Value.int IntKind.u64 x.o.rep.group), AV.y (Value.int IntKind.u64 x.o.rep.index), AV.y (Value.int IntKind.u64 x.o.rep.term)])) ∧ True)
def vcAnG_q9 (tz : Nod) : Prop := ((List.length tz.c.topics = List.length tz.c.topics ∧ contLe (List.length tz.c.topics) (2 : Nat) (cellsOf' encTp tz.c.topics) (cellsOf' encTp tz.c.topics)) ∧ (List.length tz.c.leaders = List.length tz.c.leaders ∧ contLe (List.length tz.c.leaders) (2 : Nat) (cellsOf' encSi tz.c.leaders) (cellsOf' encSi tz.c.leaders)) ∧ (fdNd tz tz) ∧ True)
def vcAnG_q8 (y : Nod) : Prop := (List.length y.c.topics = List.length y.c.topics ∧ contLe (List.length y.c.topics) (2 : Nat) (cellsOf' encTp y.c.topics) (cellsOf' encTp y.c.topics))
def vcAnG_q7 (y : Nod) : Prop := (List.length y.c.leaders = List.length y.c.leaders ∧ contLe (List.length y.c.leaders) (2 : Nat) (cellsOf' encSi y.c.leaders) (cellsOf' encSi y.c.leaders))
def vcAnG_q10 (x : Nod) (z : Nod) : Prop := ((List.length x.c.topics = List.length z.c.topics ∧ contLe (List.length x.c.topics) (2 : Nat) (cellsOf' encTp x.c.topics) (cellsOf' encTp z.c.topics)) ∧ (List.length x.c.leaders = List.length z.c.leaders ∧ contLe (List.length x.c.leaders) (2 : Nat) (cellsOf' encSi x.c.leaders) (cellsOf' encSi z.c.leaders)) ∧ (fdNd x z) ∧ True)
def vcAnG_q2 (x : Nod) (z : Nod) (tz : Nod) (y : Nod) : Prop := (topA x = true → true = true ∧ True ∧ ((!x.c.call.kind == (5 : Int)) = true → (true = true → (((0 : Nat) = (0 : Nat) ∧ List.length x.c.topics = List.length x.c.topics) ∧ (↑(topI x) : Int) = (↑(topI x) : Int) ∧ IntKind.wrap IntKind.i64 ((↑(topI x) : Int) + (1 : Int)) = (↑(topI x + (1 : Nat)) : Int) ∧ True) ∧ ((List.length x.c.topics = List.length x.c.topics ∧ contLe (List.length x.c.topics) (2 : Nat) (cellsOf' encTp x.c.topics) (cellsOf' encTp x.c.topics)) ∧ True) ∧ (List.length x.c.topics ≤ (9223372036854775806 : Nat) ∧ topI x < List.length x.c.topics) ∧ (((0 : Nat) = (0 : Nat) ∧ (0 : Nat) = (0 : Nat)) ∧ True) ∧ ((List.length (tout x.c.topics (topI x)) = List.length z.c.topics ∧ contLe (List.length (tout x.c.topics (topI x))) (2 : Nat) (cellsOf' encTp (tout x.c.topics (topI x))) (cellsOf' encTp z.c.topics)) ∧ (List.length x.c.leaders = List.length z.c.leaders ∧ contLe (List.length x.c.leaders) (2 : Nat) (cellsOf' encSi x.c.leaders) (cellsOf' encSi z.c.leaders)) ∧ (x.c.id = z.c.id ∧ (true = true ∧ List.length x.c.servers = List.length z.c.servers ∧ contLe (List.length x.c.servers) (1 : Nat) (cellsOf' encI x.c.servers) (cellsOf' encI z.c.servers)) ∧ x.c.prod = z.c.prod ∧ x.c.seq = z.c.seq ∧ ((0 : Nat) = (0 : Nat) ∧ List.length (tout x.c.topics (topI x)) = List.length z.c.topics) ∧ ((0 : Nat) = (0 : Nat) ∧ List.length x.c.leaders = List.length z.c.leaders) ∧ x.c.busy = z.c.busy ∧ x.c.call.kind = z.c.call.kind ∧ x.c.call.topic = z.c.call.topic ∧ x.c.call.key = z.c.call.key ∧ (true = true ∧ List.length x.c.call.val = List.length z.c.call.val ∧ contLe (List.length x.c.call.val) (1 : Nat) (cellsOf' encB x.c.call.val) (cellsOf' encB z.c.call.val)) ∧ x.c.call.off = z.c.call.off ∧ x.c.call.most = z.c.call.most ∧ x.c.call.name = z.c.call.name ∧ x.c.call.adm.kind = z.c.call.adm.kind ∧ x.c.call.adm.prod = z.c.call.adm.prod ∧ x.c.call.adm.seq = z.c.call.adm.seq ∧ x.c.call.adm.topic = z.c.call.adm.topic ∧ (true = true ∧ List.length x.c.call.adm.nodes = List.length z.c.call.adm.nodes ∧ contLe (List.length x.c.call.adm.nodes) (1 : Nat) (cellsOf' encI x.c.call.adm.nodes) (cellsOf' encI z.c.call.adm.nodes)) ∧ x.c.call.adm.group = z.c.call.adm.group ∧ x.c.call.adm.other = z.c.call.adm.other ∧ x.c.call.adm.key = z.c.call.adm.key ∧ x.c.call.adm.fr = z.c.call.adm.fr ∧ x.c.call.adm.to = z.c.call.adm.to ∧ x.c.call.adm.plan = z.c.call.adm.plan ∧ x.c.call.adm.step = z.c.call.adm.step ∧ x.c.number = z.c.number ∧ x.c.route = z.c.route ∧ x.c.group = z.c.group ∧ x.c.tries = z.c.tries ∧ x.c.waited = z.c.waited ∧ x.c.again = z.c.again ∧ x.c.at' = z.c.at' ∧ x.o.send = z.o.send ∧ x.o.to = z.o.to ∧ x.o.req.id = z.o.req.id ∧ x.o.req.kind = z.o.req.kind ∧ x.o.req.group = z.o.req.group ∧ x.o.req.part.kind = z.o.req.part.kind ∧ x.o.req.part.epoch = z.o.req.part.epoch ∧ x.o.req.part.prod = z.o.req.part.prod ∧ x.o.req.part.seq = z.o.req.part.seq ∧ x.o.req.part.key = z.o.req.part.key ∧ (true = true ∧ List.length x.o.req.part.val = List.length z.o.req.part.val ∧ contLe (List.length x.o.req.part.val) (1 : Nat) (cellsOf' encB x.o.req.part.val) (cellsOf' encB z.o.req.part.val)) ∧ x.o.req.part.off = z.o.req.part.off ∧ x.o.req.part.most = z.o.req.part.most ∧ x.o.req.part.name = z.o.req.part.name ∧ x.o.req.part.plan = z.o.req.part.plan ∧ x.o.req.adm.kind = z.o.req.adm.kind ∧ x.o.req.adm.prod = z.o.req.adm.prod ∧ x.o.req.adm.seq = z.o.req.adm.seq ∧ x.o.req.adm.topic = z.o.req.adm.topic ∧ (true = true ∧ List.length x.o.req.adm.nodes = List.length z.o.req.adm.nodes ∧ contLe (List.length x.o.req.adm.nodes) (1 : Nat) (cellsOf' encI x.o.req.adm.nodes) (cellsOf' encI z.o.req.adm.nodes)) ∧ x.o.req.adm.group = z.o.req.adm.group ∧ x.o.req.adm.other = z.o.req.adm.other ∧ x.o.req.adm.key = z.o.req.adm.key ∧ x.o.req.adm.fr = z.o.req.adm.fr ∧ x.o.req.adm.to = z.o.req.adm.to ∧ x.o.req.adm.plan = z.o.req.adm.plan ∧ x.o.req.adm.step = z.o.req.adm.step ∧ x.o.req.topic = z.o.req.topic ∧ x.o.done = z.o.done ∧ x.o.rep.id = z.o.rep.id ∧ x.o.rep.err = z.o.rep.err ∧ x.o.rep.leader = z.o.rep.leader ∧ x.o.rep.rerr = z.o.rep.rerr ∧ x.o.rep.roff = z.o.rep.roff ∧ x.o.rep.rold = z.o.rep.rold ∧ (true = true ∧ List.length x.o.rep.recs = List.length z.o.rep.recs ∧ contLe (List.length x.o.rep.recs) (5 : Nat) (cellsOf' encR x.o.rep.recs) (cellsOf' encR z.o.rep.recs)) ∧ x.o.rep.number = z.o.rep.number ∧ (true = true ∧ List.length x.o.rep.shards = List.length z.o.rep.shards ∧ contLe (List.length x.o.rep.shards) (7 : Nat) (cellsOf' encSh x.o.rep.shards) (cellsOf' encSh z.o.rep.shards)) ∧ x.o.rep.group = z.o.rep.group ∧ x.o.rep.index = z.o.rep.index ∧ x.o.rep.term = z.o.rep.term ∧ True) ∧ True) ∧ TrnQ z tz ∧ (((0 : Nat) = (0 : Nat) ∧ (0 : Nat) = (0 : Nat)) ∧ True) ∧ (vcAnG_q9 tz) ∧ LatQ tz y ∧ True ∧ (vcAnG_q8 y) ∧ (vcAnG_q7 y) ∧ (fdNd y y) ∧ True) ∧ (true = false → (((0 : Nat) = (0 : Nat) ∧ (0 : Nat) = (0 : Nat)) ∧ True) ∧ (vcAnG_q10 x z) ∧ TrnQ z tz ∧ (((0 : Nat) = (0 : Nat) ∧ (0 : Nat) = (0 : Nat)) ∧ True) ∧ (vcAnG_q9 tz) ∧ LatQ tz y ∧ True ∧ (vcAnG_q8 y) ∧ (vcAnG_q7 y) ∧ (fdNd y y) ∧ True)) ∧ ((!x.c.call.kind == (5 : Int)) = false → (((0 : Nat) = (0 : Nat) ∧ (0 : Nat) = (0 : Nat)) ∧ True) ∧ (vcAnG_q10 x z) ∧ TrnQ z tz ∧ (((0 : Nat) = (0 : Nat) ∧ (0 : Nat) = (0 : Nat)) ∧ True) ∧ (vcAnG_q9 tz) ∧ LatQ tz y ∧ True ∧ (vcAnG_q8 y) ∧ (vcAnG_q7 y) ∧ (fdNd y y) ∧ True))
def vcAnG_q6 (x : Nod) (z : Nod) (tz : Nod) (y : Nod) : Prop := (topA x = false → true = true ∧ True ∧ ((!x.c.call.kind == (5 : Int)) = true → (((0 : Nat) = (0 : Nat) ∧ (0 : Nat) = (0 : Nat)) ∧ True) ∧ (vcAnG_q10 x z) ∧ TrnQ z tz ∧ (((0 : Nat) = (0 : Nat) ∧ (0 : Nat) = (0 : Nat)) ∧ True) ∧ (vcAnG_q9 tz) ∧ LatQ tz y ∧ True ∧ (vcAnG_q8 y) ∧ (vcAnG_q7 y) ∧ (fdNd y y) ∧ True) ∧ ((!x.c.call.kind == (5 : Int)) = false → (((0 : Nat) = (0 : Nat) ∧ (0 : Nat) = (0 : Nat)) ∧ True) ∧ (vcAnG_q10 x z) ∧ TrnQ z tz ∧ (((0 : Nat) = (0 : Nat) ∧ (0 : Nat) = (0 : Nat)) ∧ True) ∧ (vcAnG_q9 tz) ∧ LatQ tz y ∧ True ∧ (vcAnG_q8 y) ∧ (vcAnG_q7 y) ∧ (fdNd y y) ∧ True))
def vcAnG_q1 (x : Nod) (z : Nod) (tz : Nod) (y : Nod) : Prop := ((x.c.call.kind == (5 : Int)) = false → (vcAnG_q3 x) ∧ True ∧ List.length x.c.topics ≤ (9223372036854775806 : Nat) ∧ (vcAnG_q2 x z tz y) ∧ (vcAnG_q6 x z tz y))
def vcAnG_q4 (x : Nod) (r : Rep) (w : Nod) : Prop := ((List.length x.c.topics = List.length w.c.topics ∧ contLe (List.length x.c.topics) (2 : Nat) (cellsOf' encTp x.c.topics) (cellsOf' encTp w.c.topics)) ∧ (List.length x.c.leaders + (1 : Nat) = List.length w.c.leaders ∧ contLe (List.length x.c.leaders + (1 : Nat)) (2 : Nat) (appRow (List.length x.c.leaders) (cellsOf' encSi x.c.leaders) fun (k j : Nat) => Ax.get [AV.y (Value.int IntKind.u64 x.c.group), AV.y (Value.int IntKind.i64 r.leader)] (k * (2 : Nat) + j)) (cellsOf' encSi w.c.leaders)) ∧ (x.c.id = w.c.id ∧ (true = true ∧ List.length x.c.servers = List.length w.c.servers ∧ contLe (List.length x.c.servers) (1 : Nat) (cellsOf' encI x.c.servers) (cellsOf' encI w.c.servers)) ∧ x.c.prod = w.c.prod ∧ x.c.seq = w.c.seq ∧ ((0 : Nat) = (0 : Nat) ∧ List.length x.c.topics = List.length w.c.topics) ∧ ((0 : Nat) = (0 : Nat) ∧ List.length x.c.leaders + (1 : Nat) = List.length w.c.leaders) ∧ x.c.busy = w.c.busy ∧ x.c.call.kind = w.c.call.kind ∧ x.c.call.topic = w.c.call.topic ∧ x.c.call.key = w.c.call.key ∧ (true = true ∧ List.length x.c.call.val = List.length w.c.call.val ∧ contLe (List.length x.c.call.val) (1 : Nat) (cellsOf' encB x.c.call.val) (cellsOf' encB w.c.call.val)) ∧ x.c.call.off = w.c.call.off ∧ x.c.call.most = w.c.call.most ∧ x.c.call.name = w.c.call.name ∧ x.c.call.adm.kind = w.c.call.adm.kind ∧ x.c.call.adm.prod = w.c.call.adm.prod ∧ x.c.call.adm.seq = w.c.call.adm.seq ∧ x.c.call.adm.topic = w.c.call.adm.topic ∧ (true = true ∧ List.length x.c.call.adm.nodes = List.length w.c.call.adm.nodes ∧ contLe (List.length x.c.call.adm.nodes) (1 : Nat) (cellsOf' encI x.c.call.adm.nodes) (cellsOf' encI w.c.call.adm.nodes)) ∧ x.c.call.adm.group = w.c.call.adm.group ∧ x.c.call.adm.other = w.c.call.adm.other ∧ x.c.call.adm.key = w.c.call.adm.key ∧ x.c.call.adm.fr = w.c.call.adm.fr ∧ x.c.call.adm.to = w.c.call.adm.to ∧ x.c.call.adm.plan = w.c.call.adm.plan ∧ x.c.call.adm.step = w.c.call.adm.step ∧ x.c.number = w.c.number ∧ x.c.route = w.c.route ∧ x.c.group = w.c.group ∧ x.c.tries = w.c.tries ∧ x.c.waited = w.c.waited ∧ x.c.again = w.c.again ∧ x.c.at' = w.c.at' ∧ x.o.send = w.o.send ∧ x.o.to = w.o.to ∧ x.o.req.id = w.o.req.id ∧ x.o.req.kind = w.o.req.kind ∧ x.o.req.group = w.o.req.group ∧ x.o.req.part.kind = w.o.req.part.kind ∧ x.o.req.part.epoch = w.o.req.part.epoch ∧ x.o.req.part.prod = w.o.req.part.prod ∧ x.o.req.part.seq = w.o.req.part.seq ∧ x.o.req.part.key = w.o.req.part.key ∧ (true = true ∧ List.length x.o.req.part.val = List.length w.o.req.part.val ∧ contLe (List.length x.o.req.part.val) (1 : Nat) (cellsOf' encB x.o.req.part.val) (cellsOf' encB w.o.req.part.val)) ∧ x.o.req.part.off = w.o.req.part.off ∧ x.o.req.part.most = w.o.req.part.most ∧ x.o.req.part.name = w.o.req.part.name ∧ x.o.req.part.plan = w.o.req.part.plan ∧ x.o.req.adm.kind = w.o.req.adm.kind ∧ x.o.req.adm.prod = w.o.req.adm.prod ∧ x.o.req.adm.seq = w.o.req.adm.seq ∧ x.o.req.adm.topic = w.o.req.adm.topic ∧ (true = true ∧ List.length x.o.req.adm.nodes = List.length w.o.req.adm.nodes ∧ contLe (List.length x.o.req.adm.nodes) (1 : Nat) (cellsOf' encI x.o.req.adm.nodes) (cellsOf' encI w.o.req.adm.nodes)) ∧ x.o.req.adm.group = w.o.req.adm.group ∧ x.o.req.adm.other = w.o.req.adm.other ∧ x.o.req.adm.key = w.o.req.adm.key ∧ x.o.req.adm.fr = w.o.req.adm.fr ∧ x.o.req.adm.to = w.o.req.adm.to ∧ x.o.req.adm.plan = w.o.req.adm.plan ∧ x.o.req.adm.step = w.o.req.adm.step ∧ x.o.req.topic = w.o.req.topic ∧ x.o.done = w.o.done ∧ x.o.rep.id = w.o.rep.id ∧ x.o.rep.err = w.o.rep.err ∧ x.o.rep.leader = w.o.rep.leader ∧ x.o.rep.rerr = w.o.rep.rerr ∧ x.o.rep.roff = w.o.rep.roff ∧ x.o.rep.rold = w.o.rep.rold ∧ (true = true ∧ List.length x.o.rep.recs = List.length w.o.rep.recs ∧ contLe (List.length x.o.rep.recs) (5 : Nat) (cellsOf' encR x.o.rep.recs) (cellsOf' encR w.o.rep.recs)) ∧ x.o.rep.number = w.o.rep.number ∧ (true = true ∧ List.length x.o.rep.shards = List.length w.o.rep.shards ∧ contLe (List.length x.o.rep.shards) (7 : Nat) (cellsOf' encSh x.o.rep.shards) (cellsOf' encSh w.o.rep.shards)) ∧ x.o.rep.group = w.o.rep.group ∧ x.o.rep.index = w.o.rep.index ∧ x.o.rep.term = w.o.rep.term ∧ True) ∧ True)
def vcAnG_q5 (x : Nod) : Prop := ((List.length x.c.topics = List.length x.c.topics ∧ contLe (List.length x.c.topics) (2 : Nat) (cellsOf' encTp x.c.topics) (cellsOf' encTp x.c.topics)) ∧ (List.length x.c.leaders = List.length x.c.leaders ∧ contLe (List.length x.c.leaders) (2 : Nat) (cellsOf' encSi x.c.leaders) (cellsOf' encSi x.c.leaders)) ∧ (fdNd x x) ∧ True)
def vcAnG_q11 (x : Nod) (r : Rep) (y : Nod) : Prop := ((x.c.call.kind == (5 : Int)) = true → (((0 : Nat) = (0 : Nat) ∧ (0 : Nat) = (0 : Nat)) ∧ (fdRp r r) ∧ True) ∧ (vcAnG_q5 x) ∧ EndQ x r y ∧ True ∧ (vcAnG_q8 y) ∧ (vcAnG_q7 y) ∧ (fdNd y y) ∧ True)
def vcAnG (x : Nod) (r : Rep) (z : Nod) (tz : Nod) (tx : Nod) (w : Nod) (y : Nod) : Prop :=
  ((r.err == (0 : Int)) = true → (((0 : Nat) = (0 : Nat) ∧ (0 : Nat) = (0 : Nat)) ∧ (fdRp r r) ∧ True) ∧ (vcAnG_q5 x) ∧ FinQ x r y ∧ True ∧ (vcAnG_q8 y) ∧ (vcAnG_q7 y) ∧ (fdNd y y) ∧ True) ∧
    ((r.err == (0 : Int)) = false →
      ((r.err == (201 : Int)) = true → ((true = true ∧ List.length x.c.servers = List.length x.c.servers ∧ contLe (List.length x.c.servers) (1 : Nat) (cellsOf' encI x.c.servers) (cellsOf' encI x.c.servers)) ∧ r.leader = r.leader ∧ True) ∧ True ∧ List.length x.c.servers ≤ (9223372036854775806 : Nat) ∧ ((!iany r.leader x.c.servers) = true → (((0 : Nat) = (0 : Nat) ∧ (0 : Nat) = (0 : Nat)) ∧ True) ∧ (vcAnG_q5 x) ∧ TrnQ x tx ∧ (((0 : Nat) = (0 : Nat) ∧ (0 : Nat) = (0 : Nat)) ∧ True) ∧ ((List.length tx.c.topics = List.length tx.c.topics ∧ contLe (List.length tx.c.topics) (2 : Nat) (cellsOf' encTp tx.c.topics) (cellsOf' encTp tx.c.topics)) ∧ (List.length tx.c.leaders = List.length tx.c.leaders ∧ contLe (List.length tx.c.leaders) (2 : Nat) (cellsOf' encSi tx.c.leaders) (cellsOf' encSi tx.c.leaders)) ∧ (fdNd tx tx) ∧ True) ∧ LatQ tx y ∧ True ∧ (vcAnG_q8 y) ∧ (vcAnG_q7 y) ∧ (fdNd y y) ∧ True) ∧ ((!iany r.leader x.c.servers) = false → ((false = false ∧ List.length x.c.leaders = List.length x.c.leaders ∧ contLe (List.length x.c.leaders) (2 : Nat) (Ax.rowAt (0 : Nat) (cellsOf' encSi x.c.leaders)) (cellsOf' encSi x.c.leaders)) ∧ (True ∧ (false = false ∧ (1 : Nat) ≤ (1 : Nat) ∧ cellLe (1 : Nat) (fun (j : Nat) => Ax.get [AV.y (Value.int IntKind.u64 x.c.group)] ((0 : Nat) + j)) (Ax.get [AV.y (Value.int IntKind.u64 x.c.group)])) ∧ True) ∧ True) ∧ True ∧ (List.length x.c.leaders ≤ (9223372036854775806 : Nat) ∧ ∀ (k : Nat), k < List.length x.c.leaders → True) ∧ (siAny x.c.group x.c.leaders = true → true = true ∧ True ∧ (true = true → (true && decide ((↑(List.findIdx (isG x.c.group) x.c.leaders) : Int) < (↑(List.length x.c.leaders) : Int))) = true ∧ decide ((0 : Nat) + Int.toNat (↑(List.findIdx (isG x.c.group) x.c.leaders) : Int) < List.length x.c.leaders) = true ∧ (((0 : Nat) = (0 : Nat) ∧ (0 : Nat) = (0 : Nat)) ∧ True) ∧ ((List.length x.c.topics = List.length w.c.topics ∧ contLe (List.length x.c.topics) (2 : Nat) (cellsOf' encTp x.c.topics) (cellsOf' encTp w.c.topics)) ∧ (List.length x.c.leaders = List.length w.c.leaders ∧ contLe (List.length x.c.leaders) (2 : Nat) (wrRow (cellsOf' encSi x.c.leaders) ((0 : Nat) + Int.toNat (↑(List.findIdx (isG x.c.group) x.c.leaders) : Int)) (1 : Nat) [AV.y (Value.int IntKind.i64 r.leader)]) (cellsOf' encSi w.c.leaders)) ∧ (fdNd x w) ∧ True) ∧ SndQ w y ∧ True ∧ (vcAnG_q8 y) ∧ (vcAnG_q7 y) ∧ (fdNd y y) ∧ True) ∧ (true = false → (decide (List.length x.c.leaders = List.length x.c.leaders) && decide (List.length x.c.leaders + (1 : Nat) ≤ (9223372036854775807 : Nat)) && decide ((List.length x.c.leaders + (1 : Nat)) * (16 : Nat) ≤ (140737488355328 : Nat))) = true ∧ (((0 : Nat) = (0 : Nat) ∧ (0 : Nat) = (0 : Nat)) ∧ True) ∧ (vcAnG_q4 x r w) ∧ SndQ w y ∧ True ∧ (vcAnG_q8 y) ∧ (vcAnG_q7 y) ∧ (fdNd y y) ∧ True)) ∧ (siAny x.c.group x.c.leaders = false → true = true ∧ True ∧ (decide (List.length x.c.leaders = List.length x.c.leaders) && decide (List.length x.c.leaders + (1 : Nat) ≤ (9223372036854775807 : Nat)) && decide ((List.length x.c.leaders + (1 : Nat)) * (16 : Nat) ≤ (140737488355328 : Nat))) = true ∧ (((0 : Nat) = (0 : Nat) ∧ (0 : Nat) = (0 : Nat)) ∧ True) ∧ (vcAnG_q4 x r w) ∧ SndQ w y ∧ True ∧ (vcAnG_q8 y) ∧ (vcAnG_q7 y) ∧ (fdNd y y) ∧ True))) ∧
        ((r.err == (201 : Int)) = false →
          ((r.err == (162 : Int)) = true → (vcAnG_q11 x r y) ∧ (vcAnG_q1 x z tz y)) ∧
            ((r.err == (162 : Int)) = false →
              ((r.err == (164 : Int)) = true → (vcAnG_q11 x r y) ∧ (vcAnG_q1 x z tz y)) ∧
                ((r.err == (164 : Int)) = false →
                  ((r.err == (163 : Int)) = true → (vcAnG_q11 x r y) ∧ (vcAnG_q1 x z tz y)) ∧
                    ((r.err == (163 : Int)) = false →
                      ((r.err == (182 : Int)) = true → (vcAnG_q11 x r y) ∧ (vcAnG_q1 x z tz y)) ∧
                        ((r.err == (182 : Int)) = false → ((r.err == (202 : Int)) = true → (vcAnG_q3 x) ∧ True ∧ List.length x.c.topics ≤ (9223372036854775806 : Nat) ∧ (vcAnG_q2 x z tz y) ∧ (vcAnG_q6 x z tz y)) ∧ ((r.err == (202 : Int)) = false → ((r.err == (203 : Int)) = true → ((x.c.call.kind == (5 : Int)) = true → (((0 : Nat) = (0 : Nat) ∧ (0 : Nat) = (0 : Nat)) ∧ ((0 : Int) = (0 : Int) ∧ (213 : Int) = (213 : Int) ∧ (0 : Int) = (0 : Int) ∧ (0 : Int) = (0 : Int) ∧ (0 : Int) = (0 : Int) ∧ false = false ∧ (0 : Nat) = (0 : Nat) ∧ (0 : Int) = (0 : Int) ∧ (0 : Nat) = (0 : Nat) ∧ (0 : Int) = (0 : Int) ∧ (0 : Int) = (0 : Int) ∧ (0 : Int) = (0 : Int) ∧ True) ∧ True) ∧ (vcAnG_q5 x) ∧ EndQ x (rep0 (213 : Int)) y ∧ True ∧ (vcAnG_q8 y) ∧ (vcAnG_q7 y) ∧ (fdNd y y) ∧ True) ∧ ((x.c.call.kind == (5 : Int)) = false → (((0 : Nat) = (0 : Nat) ∧ (0 : Nat) = (0 : Nat)) ∧ True) ∧ (vcAnG_q5 x) ∧ LatQ x y ∧ True ∧ (vcAnG_q8 y) ∧ (vcAnG_q7 y) ∧ (fdNd y y) ∧ True)) ∧ ((r.err == (203 : Int)) = false → (((0 : Nat) = (0 : Nat) ∧ (0 : Nat) = (0 : Nat)) ∧ (fdRp r r) ∧ True) ∧ (vcAnG_q5 x) ∧ EndQ x r y ∧ True ∧ (vcAnG_q8 y) ∧ (vcAnG_q7 y) ∧ (fdNd y y) ∧ True))))))))
set_option maxRecDepth 1000000 in
theorem vcAnG_eq (x : Nod) (r : Rep) (z : Nod) (tz : Nod) (tx : Nod) (w : Nod) (y : Nod) : (ctrVCg Tryd.prog (anH x r z tz tx w y) 42 [ndP, .agg (encRp r)] (ndM x) (unitB y)) = vcAnG x r z tz tx w y := by kernel_rfl
end Go.Proofs.YtdpbogaldcpfeaaDoor.C
