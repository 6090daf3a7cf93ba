import Derived.Test.YtghhkabankbkoaaQl
set_option linter.unusedVariables false
set_option linter.unusedSimpArgs false
/-! Plans: alike; Next, whole; lives; the law PlansNext: the loops. -/
namespace Go.Proofs.Ytghhkabankbkoaa
open Go.Ax
set_option maxRecDepth 1000000
/-! alike -/
def eqA (x y : Act) : Bool := x.kind == y.kind && (x.group == y.group && (x.node == y.node && (x.step == y.step && ((x.ck == y.ck && (x.cn == y.cn && true)) && true))))
theorem eqA_iff {x y : Act} : eqA x y = true ↔ x = y := by
  cases x; cases y
  simp [eqA]
def sameFrom (a b : List Act) (k : Nat) : Bool := (List.range' k (a.length - k)).all fun j => eqA (a.getD j default) (b.getD j default)
def sameP (a b : List Act) : Bool := a.length == b.length && sameFrom a b 0
theorem sameFrom_end {a b : List Act} {k : Nat} (h : a.length ≤ k) : sameFrom a b k = true := by
  unfold sameFrom
  rw [show a.length - k = 0 by omega]; rfl
theorem sameFrom_step {a b : List Act} {k : Nat} (h : k < a.length) : sameFrom a b k = (eqA (a.getD k default) (b.getD k default) && sameFrom a b (k + 1)) := by
  unfold sameFrom
  rw [show a.length - k = (a.length - (k + 1)) + 1 by omega, List.range'_succ]; rfl
theorem sameP_iff {a b : List Act} : sameP a b = true ↔ a = b := by
  unfold sameP sameFrom
  rw [Bool.and_eq_true, beq_iff_eq, List.all_eq_true]
  constructor
  · rintro ⟨h1, h2⟩
    refine List.ext_getElem h1 fun k h3 h4 => ?_
    have := eqA_iff.1 (h2 k (by simp; omega))
    simpa [h3, h4] using this
  · rintro rfl
    exact ⟨rfl, fun k _ => eqA_iff.2 rfl⟩
def smT (b1 b2 : Bool) (a b : List Act) (k : Nat) : List AV := mkT 26 [(0, encAs b1 a), (1, encAs b2 b), (4, .s (.bool false)), (5, .y (.int .i64 k))]
def smS (r : Bool) : Exit × List AV × List Blk := match r with
  | true => (.exit 0, mkT 26 [], [])
  | false => (.ret, mkT 26 [(4, .s (.bool false))], [])
def smO (a b : List Act) (k : Nat) : T Bool := .ite (sameFrom a b k) (.ret true) (.ret false)
def vcSameL (b1 : Bool) (b2 : Bool) (a : List Act) (b : List Act) (k : Nat) : Prop :=
  (decide ((↑k : Int) < (↑(List.length a) : Int)) = true → (true && decide ((↑k : Int) < (↑(List.length a) : Int))) = true ∧ (true && decide ((↑k : Int) < (↑(List.length b) : Int))) = true ∧ ((!((List.getD a (Int.toNat (↑k : Int)) (@default Act instInhabitedAct)).kind == (List.getD b (Int.toNat (↑k : Int)) (@default Act instInhabitedAct)).kind && ((List.getD a (Int.toNat (↑k : Int)) (@default Act instInhabitedAct)).group == (List.getD b (Int.toNat (↑k : Int)) (@default Act instInhabitedAct)).group && ((List.getD a (Int.toNat (↑k : Int)) (@default Act instInhabitedAct)).node == (List.getD b (Int.toNat (↑k : Int)) (@default Act instInhabitedAct)).node && ((List.getD a (Int.toNat (↑k : Int)) (@default Act instInhabitedAct)).step == (List.getD b (Int.toNat (↑k : Int)) (@default Act instInhabitedAct)).step && ((List.getD a (Int.toNat (↑k : Int)) (@default Act instInhabitedAct)).ck == (List.getD b (Int.toNat (↑k : Int)) (@default Act instInhabitedAct)).ck && ((List.getD a (Int.toNat (↑k : Int)) (@default Act instInhabitedAct)).cn == (List.getD b (Int.toNat (↑k : Int)) (@default Act instInhabitedAct)).cn && true) && true)))))) = true → (sameFrom a b k = true → False) ∧ (sameFrom a b k = false → (false = false ∧ True) ∧ True ∧ true = true)) ∧ ((!((List.getD a (Int.toNat (↑k : Int)) (@default Act instInhabitedAct)).kind == (List.getD b (Int.toNat (↑k : Int)) (@default Act instInhabitedAct)).kind && ((List.getD a (Int.toNat (↑k : Int)) (@default Act instInhabitedAct)).group == (List.getD b (Int.toNat (↑k : Int)) (@default Act instInhabitedAct)).group && ((List.getD a (Int.toNat (↑k : Int)) (@default Act instInhabitedAct)).node == (List.getD b (Int.toNat (↑k : Int)) (@default Act instInhabitedAct)).node && ((List.getD a (Int.toNat (↑k : Int)) (@default Act instInhabitedAct)).step == (List.getD b (Int.toNat (↑k : Int)) (@default Act instInhabitedAct)).step && ((List.getD a (Int.toNat (↑k : Int)) (@default Act instInhabitedAct)).ck == (List.getD b (Int.toNat (↑k : Int)) (@default Act instInhabitedAct)).ck && ((List.getD a (Int.toNat (↑k : Int)) (@default Act instInhabitedAct)).cn == (List.getD b (Int.toNat (↑k : Int)) (@default Act instInhabitedAct)).cn && true) && true)))))) = false → ∃ (j : Nat), List.length a - j < List.length a - k ∧ (((b1 = b1 ∧ List.length a = List.length a ∧ contLe (List.length a) (6 : Nat) (cellsOf' encA a) (cellsOf' encA a)) ∧ (b2 = b2 ∧ List.length b = List.length b ∧ contLe (List.length b) (6 : Nat) (cellsOf' encA b) (cellsOf' encA b)) ∧ false = false ∧ IntKind.wrap IntKind.i64 ((↑k : Int) + (1 : Int)) = (↑j : Int) ∧ True) ∧ True ∧ true = true) ∧ true = true ∧ (sameFrom a b j = true → (sameFrom a b k = true → true = true) ∧ (sameFrom a b k = false → true = false)) ∧ (sameFrom a b j = false → (sameFrom a b k = true → false = true) ∧ (sameFrom a b k = false → false = false)))) ∧ (decide ((↑k : Int) < (↑(List.length a) : Int)) = false → (sameFrom a b k = true → True ∧ True ∧ true = true) ∧ (sameFrom a b k = false → False))
set_option maxRecDepth 1000000 in
theorem vcSameL_eq (b1 : Bool) (b2 : Bool) (a : List Act) (b : List Act) (k : Nat) : (loopVC Try.prog (hT _) 11 4 (fun k => a.length - k) (smT b1 b2 a b) (fun _ => []) [] (smO a b) smS k) = vcSameL b1 b2 a b k := by kernel_rfl
theorem same_loop (b1 b2 : Bool) (a b : List Act) (hl : a.length ≤ 9223372036854775806) (he : a.length = b.length) (k : Nat) : LoopOk Try.prog 11 4 (loopAt Try.prog 11 4) ⟨smT b1 b2 a b k, [], []⟩ ((smO a b k).map (lout [] smS)) := by
  refine loop_vc Try.mixed (fun _ => rfl) (fun k => (vcSameL_eq b1 b2 a b k).mpr ?_) k
  unfold vcSameL
  simp
  refine ⟨fun h => ?_, fun h => by simp [sameFrom_end h]⟩
  rw [sameFrom_step h]
  simp (disch := omega) only [wrap_i64]
  simp [eqA, cast_succ_eq]
  generalize a[k]?.getD default = x
  generalize b[k]?.getD default = y
  grind
def smR (a b : List Act) : T An := .ret (.y (.bool (sameP a b)), [], [])
noncomputable def smH (b1 b2 : Bool) (a b : List Act) : HintsT Try.prog := hh _ (lp1 11 4 (jobOf (smT b1 b2 a b) (fun _ => []) [] (smO a b) smS 0) noLp) noCs noOp
def vcSame (b1 : Bool) (b2 : Bool) (a : List Act) (b : List Act) : Prop :=
  (((↑(List.length a) : Int) != (↑(List.length b) : Int)) = true → false = sameP a b ∧ True) ∧ (((↑(List.length a) : Int) != (↑(List.length b) : Int)) = false → (((b1 = b1 ∧ List.length a = List.length a ∧ contLe (List.length a) (6 : Nat) (cellsOf' encA a) (cellsOf' encA a)) ∧ (b2 = b2 ∧ List.length b = List.length b ∧ contLe (List.length b) (6 : Nat) (cellsOf' encA b) (cellsOf' encA b)) ∧ false = false ∧ (0 : Int) = (0 : Int) ∧ True) ∧ True ∧ true = true) ∧ LoopOk Try.prog (11 : Nat) (4 : Nat) (loopAt Try.prog (11 : Nat) (4 : Nat)) { t := smT b1 b2 a b (0 : Nat), m := [], mv := [] } (T.map (lout [] smS) (smO a b (0 : Nat))) ∧ (sameFrom a b (0 : Nat) = true → true = sameP a b ∧ True) ∧ (sameFrom a b (0 : Nat) = false → false = sameP a b ∧ True))
set_option maxRecDepth 1000000 in
theorem vcSame_eq (b1 : Bool) (b2 : Bool) (a : List Act) (b : List Act) : (ctrVC Try.prog (smH b1 b2 a b) 11 [encAs b1 a, encAs b2 b] [] (smR a b)) = vcSame b1 b2 a b := by kernel_rfl
theorem same_c (b1 b2 : Bool) (a b : List Act) (hl : a.length ≤ 9223372036854775806) : (smR a b).Sat (ACall' Try.prog 11 [encAs b1 a, encAs b2 b] []) := by
  refine ctr_vc (ht := smH b1 b2 a b) Try.mixed rfl ?_
  rw [vcSame_eq b1 b2 a b]
  unfold vcSame
  by_cases he : a.length = b.length
  · have := same_loop b1 b2 a b hl he 0
    simp [sameP, he, this]
  · have he' : ¬ ((a.length : Int) = b.length) := by omega
    simp [sameP, he, he']
noncomputable def sameC' (b1 b2 : Bool) (a b : List Act) (hl : a.length ≤ 9223372036854775806) : Ctr Try.prog := ⟨11, [encAs b1 a, encAs b2 b], [], smR a b, same_c b1 b2 a b hl⟩
noncomputable def sameN (b1 b2 : Bool) (a b : List Act) : Ctr Try.prog := ⟨11, [encAs b1 a, encAs b2 b], [], .need (a.length ≤ 9223372036854775806) (smR a b), T.Sat.need fun h => same_c b1 b2 a b h⟩
theorem next_r (b c d : Bool) (p : Plan) (s : Seen) (hp : p.Ok) (hs : s.Ok) : (nextR p s).Sat (ACall' Try.prog 9 [.agg (encPl b p), .agg (encSe c d s)] []) :=
  T.Sat.ite (fun h => next_y b c d p s hp hs h) (fun h => next0_c b c d p s hp h)
def nextB (i : Bool) (p : Plan) (s : Seen) : T An := match i with | true => nextY (askL p s) | false => nextN
theorem next_b {i : Bool} {p : Plan} {s : Seen} {P : An → Prop} (h : (nextR p s).Sat P) (e : isPlan p = i) : (nextB i p s).Sat P := by
  cases i
  · exact fun Q hq => h Q ⟨fun h' => (by rw [e] at h'; cases h'), fun _ => hq⟩
  · exact fun Q hq => h Q ⟨fun _ => hq, fun h' => (by rw [e] at h'; cases h')⟩
noncomputable def nextC (i b c d : Bool) (p : Plan) (s : Seen) : Ctr Try.prog := ⟨9, [.agg (encPl b p), .agg (encSe c d s)], [], .need (p.Ok ∧ s.Ok ∧ isPlan p = i) (nextB i p s), T.Sat.need fun h => next_b (next_r b c d p s h.1 h.2.1) h.2.2⟩
noncomputable def rnC (i b c d : Bool) (p : Plan) (s : Seen) : Ctr Try.prog := ⟨13, [.agg (encPl b p), .agg (encSe c d s)], [], .need (p.Ok ∧ s.Ok ∧ isPlan p = i) (nextB i p s), T.Sat.need fun h => next_b (rn_c b c d p s h.1 h.2.1) h.2.2⟩
noncomputable def stC (k : Int) : Ctr Try.prog := ⟨12, [.y (.int .i64 k)], [], intR (stepsOf k), st_c k⟩
/-! lives -/
def emptyB : ByteArray := ByteArray.empty
def splitP : Plan := ⟨1, 1, emptyB, 1, 0, emptyB, [2, 3], [1, 2, 3], 0, 0, 0⟩
def noneS : Seen := ⟨[], [], [], [], [], 0, false⟩
noncomputable def livH : HintsT Try.prog := hh _ noLp (cs1 8 1 2 (nextC true false true true splitP noneS) (cs1 8 2 22 (stC 3) noCs)) noOp
def vcLives (u : Unit) : Prop :=
  (((1 : Int) = (1 : Int) ∧ (1 : Int) = (1 : Int) ∧ { data := #[] } = emptyB ∧ (1 : Int) = (1 : Int) ∧ (0 : Int) = (0 : Int) ∧ { data := #[] } = emptyB ∧ (false = false ∧ (2 : Nat) = (2 : Nat) ∧ contLe (2 : Nat) (1 : Nat) (fun (k j : Nat) => Ax.get [AV.s (Value.int IntKind.u64 (2 : Int)), AV.s (Value.int IntKind.u64 (3 : Int))] (((0 : Nat) + k) * (1 : Nat) + j)) (cellsOf' encU [(2 : Int), (3 : Int)])) ∧ (false = false ∧ (3 : Nat) = (3 : Nat) ∧ contLe (3 : Nat) (1 : Nat) (fun (k j : Nat) => Ax.get [AV.s (Value.int IntKind.i64 (1 : Int)), AV.s (Value.int IntKind.i64 (2 : Int)), AV.s (Value.int IntKind.i64 (3 : Int))] (((0 : Nat) + k) * (1 : Nat) + j)) (cellsOf' encI [(1 : Int), (2 : Int), (3 : Int)])) ∧ (0 : Int) = (0 : Int) ∧ (0 : Int) = (0 : Int) ∧ (0 : Int) = (0 : Int) ∧ True) ∧ ((0 : Nat) = (0 : Nat) ∧ (0 : Nat) = (0 : Nat) ∧ (0 : Nat) = (0 : Nat) ∧ (0 : Nat) = (0 : Nat) ∧ (0 : Nat) = (0 : Nat) ∧ (0 : Int) = (0 : Int) ∧ false = false ∧ True) ∧ True) ∧ True ∧ (Plan.Ok splitP ∧ Seen.Ok noneS ∧ true = true) ∧ true = true ∧ ((∀ (k : Nat), k < (1 : Nat) → ∀ (j : Nat), j < (6 : Nat) → tagT (cellsOf' encA [{ kind := (2 : Int), group := (1 : Int), node := (0 : Int), step := (0 : Int), ck := (0 : Int), cn := (0 : Int) }] k j) = true) ∧ True) ∧ (true = true → true = true ∧ true = true ∧ (true = true → true = true ∧ true = true ∧ (true = true → ((3 : Int) = (3 : Int) ∧ True) ∧ True ∧ true = true ∧ True) ∧ (true = false → false = true ∧ True)) ∧ (true = false → false = true ∧ True)) ∧ (true = false → false = true ∧ True)
set_option maxRecDepth 1000000 in
theorem vcLives_eq (u : Unit) : (ctrVC Try.prog livH 8 [] [] (boolR true)) = vcLives u := by kernel_rfl
theorem lives_c : (boolR true).Sat (ACall' Try.prog 8 [] []) := by
  refine ctr_vc (ht := livH) Try.mixed rfl ?_
  rw [vcLives_eq ()]
  unfold vcLives
  simp
  refine ⟨⟨rfl, fun k hk j hj => ?_, fun k hk j hj => ?_⟩, ⟨⟨by decide, by decide⟩, ⟨by decide, by decide, by decide, by decide, by decide⟩⟩, fun j hj => tagA _ j hj⟩
  · obtain rfl : j = 0 := by omega
    match k, hk with
    | 0, _ => simp [cellsOf', encU]
    | 1, _ => simp [cellsOf', encU]
  · obtain rfl : j = 0 := by omega
    match k, hk with
    | 0, _ => simp [cellsOf', encI]
    | 1, _ => simp [cellsOf', encI]
    | 2, _ => simp [cellsOf', encI]
noncomputable def livesC : Ctr Try.prog := ⟨8, [], [], boolR true, lives_c⟩
end Go.Proofs.Ytghhkabankbkoaa
