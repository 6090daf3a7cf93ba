import Derived.Test.YtghhkabankbkoaaQa
set_option linter.unusedVariables false
set_option linter.unusedSimpArgs false
/-! Plans: the document's small functions; which plans may be. -/
namespace Go.Proofs.Ytghhkabankbkoaa
open Go.Ax
set_option maxRecDepth 1000000
def encPl (b : Bool) (p : Plan) : List AV := [.y (.int .u64 p.id), .y (.int .i64 p.kind), .y (.string p.topic), .y (.int .u64 p.group), .y (.int .u64 p.other), .y (.string p.key), encUs b p.into, encIs b p.nodes, .y (.int .i64 p.src), .y (.int .i64 p.dst), .y (.int .i64 p.step)]
def encSe (b c : Bool) (s : Seen) : List AV := [encUs b s.frozen, encSs b s.made, encSs b s.gone, encIs c s.voters, encIs c s.learners, .y (.int .i64 s.leader), .y (.bool s.ready)]
structure Plan.Ok (p : Plan) : Prop where
  into : p.into.length ≤ 9223372036854775806
  nodes : p.nodes.length ≤ 9223372036854775806
structure Seen.Ok (s : Seen) : Prop where
  frozen : s.frozen.length ≤ 9223372036854775806
  made : s.made.length ≤ 9223372036854775806
  gone : s.gone.length ≤ 9223372036854775806
  voters : s.voters.length ≤ 9223372036854775806
  learners : s.learners.length ≤ 9223372036854775806
/-! member -/
def mbT (b : Bool) (l : List Int) (x : Int) (k : Nat) : List AV := mkT 18 [(0, encIs b l), (1, .y (.int .i64 x)), (4, .s (.bool false)), (5, .y (.int .i64 k))]
def mbS (r : Bool) : Exit × List AV × List Blk := match r with
  | true => (.ret, mkT 18 [(4, .s (.bool true))], [])
  | false => (.exit 0, mkT 18 [], [])
def inO (l : List Int) (x : Int) (k : Nat) : T Bool := .ite (inI (l.drop k) x) (.ret true) (.ret false)
def vcMbL (b : Bool) (l : List Int) (x : Int) (k : Nat) : Prop :=
  (decide ((↑k : Int) < (↑(List.length l) : Int)) = true → (true && decide ((↑k : Int) < (↑(List.length l) : Int))) = true ∧ ((List.getD l (Int.toNat (↑k : Int)) (0 : Int) == x) = true → (inI (List.drop k l) x = true → (true = true ∧ True) ∧ True ∧ true = true) ∧ (inI (List.drop k l) x = false → False)) ∧ ((List.getD l (Int.toNat (↑k : Int)) (0 : Int) == x) = false → ∃ (j : Nat), List.length l - j < List.length l - k ∧ (((b = b ∧ List.length l = List.length l ∧ contLe (List.length l) (1 : Nat) (cellsOf' encI l) (cellsOf' encI l)) ∧ x = x ∧ false = false ∧ IntKind.wrap IntKind.i64 ((↑k : Int) + (1 : Int)) = (↑j : Int) ∧ True) ∧ True ∧ true = true) ∧ true = true ∧ (inI (List.drop j l) x = true → (inI (List.drop k l) x = true → true = true) ∧ (inI (List.drop k l) x = false → true = false)) ∧ (inI (List.drop j l) x = false → (inI (List.drop k l) x = true → false = true) ∧ (inI (List.drop k l) x = false → false = false)))) ∧ (decide ((↑k : Int) < (↑(List.length l) : Int)) = false → (inI (List.drop k l) x = true → False) ∧ (inI (List.drop k l) x = false → True ∧ True ∧ true = true))
set_option maxRecDepth 1000000 in
theorem vcMbL_eq (b : Bool) (l : List Int) (x : Int) (k : Nat) : (loopVC Try.prog (hT _) 37 2 (fun k => l.length - k) (mbT b l x) (fun _ => []) [0] (inO l x) mbS k) = vcMbL b l x k := by kernel_rfl
noncomputable def mbH (b : Bool) (l : List Int) (x : Int) : HintsT Try.prog := hh _ (lp1 37 2 (jobOf (mbT b l x) (fun _ => []) [0] (inO l x) mbS 0) noLp) noCs noOp
def vcMb (b : Bool) (l : List Int) (x : Int) : Prop :=
  (((b = b ∧ List.length l = List.length l ∧ contLe (List.length l) (1 : Nat) (cellsOf' encI l) (cellsOf' encI l)) ∧ x = x ∧ false = false ∧ (0 : Int) = (0 : Int) ∧ True) ∧ True ∧ true = true) ∧ LoopOk Try.prog (37 : Nat) (2 : Nat) (loopAt Try.prog (37 : Nat) (2 : Nat)) { t := mbT b l x (0 : Nat), m := [], mv := [] } (T.map (lout [(0 : Nat)] mbS) (inO l x (0 : Nat))) ∧ (inI (List.drop (0 : Nat) l) x = true → true = inI l x ∧ True) ∧ (inI (List.drop (0 : Nat) l) x = false → false = inI l x ∧ True)
set_option maxRecDepth 1000000 in
theorem vcMb_eq (b : Bool) (l : List Int) (x : Int) : (ctrVC Try.prog (mbH b l x) 37 [encIs b l, .y (.int .i64 x)] [] (boolR (inI l x))) = vcMb b l x := by kernel_rfl
theorem mb_loop (b : Bool) (l : List Int) (x : Int) (hl : l.length ≤ 9223372036854775806) (k : Nat) : LoopOk Try.prog 37 2 (loopAt Try.prog 37 2) ⟨mbT b l x k, [], []⟩ ((inO l x k).map (lout [0] mbS)) := by
  refine loop_vc Try.mixed (fun _ => rfl) (fun k => (vcMbL_eq b l x k).mpr ?_) k
  unfold vcMbL
  simp
  refine ⟨fun h => ?_, fun h => by simp [inI, drop_end h]⟩
  simp (disch := omega) only [wrap_i64]
  rw [drop_cons h]
  simp only [inI_cons]
  generalize l[k]?.getD default = z
  by_cases hx : z = x
  · simp [h, hx]
  · have hb : (z == x) = false := by simp; omega
    exact ⟨h, fun e => absurd e hx, fun _ => ⟨k + 1, by omega, by omega, by simp [hb]⟩⟩
theorem mb_c (b : Bool) (l : List Int) (x : Int) (hl : l.length ≤ 9223372036854775806) : (boolR (inI l x)).Sat (ACall' Try.prog 37 [encIs b l, .y (.int .i64 x)] []) := by
  refine ctr_vc (ht := (mbH b l x)) Try.mixed rfl ?_
  rw [vcMb_eq b l x]
  unfold vcMb
  have := mb_loop b l x hl 0
  simp [this]
/-! frozen -/
def fzT (b c : Bool) (s : Seen) (x : Int) (k : Nat) : List AV := mkT 20 [(1, .y (.int .u64 x)), (2, .ptr 0 0 0 0), (4, .s (.bool false)), (5, .y (.int .i64 k))]
def fzM (b c : Bool) (s : Seen) : List Blk := [.box 38 (encSe b c s)]
def fzS (b c : Bool) (s : Seen) (r : Bool) : Exit × List AV × List Blk := match r with
  | true => (.ret, mkT 20 [(4, .s (.bool true))], fzM b c s)
  | false => (.exit 0, mkT 20 [], fzM b c s)
def vcFzL (b : Bool) (c : Bool) (s : Seen) (x : Int) (k : Nat) : Prop :=
  (decide ((↑k : Int) < (↑(List.length s.frozen) : Int)) = true → (true && decide ((↑k : Int) < (↑(List.length s.frozen) : Int))) = true ∧ ((List.getD s.frozen (Int.toNat (↑k : Int)) (0 : Int) == x) = true → (inI (List.drop k s.frozen) x = true → (true = true ∧ True) ∧ (((b = b ∧ List.length s.frozen = List.length s.frozen ∧ contLe (List.length s.frozen) (1 : Nat) (cellsOf' encU s.frozen) (cellsOf' encU s.frozen)) ∧ (b = b ∧ List.length s.made = List.length s.made ∧ contLe (List.length s.made) (2 : Nat) (cellsOf' encS s.made) (cellsOf' encS s.made)) ∧ (b = b ∧ List.length s.gone = List.length s.gone ∧ contLe (List.length s.gone) (2 : Nat) (cellsOf' encS s.gone) (cellsOf' encS s.gone)) ∧ (c = c ∧ List.length s.voters = List.length s.voters ∧ contLe (List.length s.voters) (1 : Nat) (cellsOf' encI s.voters) (cellsOf' encI s.voters)) ∧ (c = c ∧ List.length s.learners = List.length s.learners ∧ contLe (List.length s.learners) (1 : Nat) (cellsOf' encI s.learners) (cellsOf' encI s.learners)) ∧ s.leader = s.leader ∧ s.ready = s.ready ∧ True) ∧ True) ∧ true = true) ∧ (inI (List.drop k s.frozen) x = false → False)) ∧ ((List.getD s.frozen (Int.toNat (↑k : Int)) (0 : Int) == x) = false → ∃ (j : Nat), List.length s.frozen - j < List.length s.frozen - k ∧ ((x = x ∧ ((0 : Nat) = (0 : Nat) ∧ (0 : Nat) = (0 : Nat)) ∧ false = false ∧ IntKind.wrap IntKind.i64 ((↑k : Int) + (1 : Int)) = (↑j : Int) ∧ True) ∧ (((b = b ∧ List.length s.frozen = List.length s.frozen ∧ contLe (List.length s.frozen) (1 : Nat) (cellsOf' encU s.frozen) (cellsOf' encU s.frozen)) ∧ (b = b ∧ List.length s.made = List.length s.made ∧ contLe (List.length s.made) (2 : Nat) (cellsOf' encS s.made) (cellsOf' encS s.made)) ∧ (b = b ∧ List.length s.gone = List.length s.gone ∧ contLe (List.length s.gone) (2 : Nat) (cellsOf' encS s.gone) (cellsOf' encS s.gone)) ∧ (c = c ∧ List.length s.voters = List.length s.voters ∧ contLe (List.length s.voters) (1 : Nat) (cellsOf' encI s.voters) (cellsOf' encI s.voters)) ∧ (c = c ∧ List.length s.learners = List.length s.learners ∧ contLe (List.length s.learners) (1 : Nat) (cellsOf' encI s.learners) (cellsOf' encI s.learners)) ∧ s.leader = s.leader ∧ s.ready = s.ready ∧ True) ∧ True) ∧ true = true) ∧ true = true ∧ (inI (List.drop j s.frozen) x = true → (inI (List.drop k s.frozen) x = true → true = true) ∧ (inI (List.drop k s.frozen) x = false → true = false)) ∧ (inI (List.drop j s.frozen) x = false → (inI (List.drop k s.frozen) x = true → false = true) ∧ (inI (List.drop k s.frozen) x = false → false = false)))) ∧ (decide ((↑k : Int) < (↑(List.length s.frozen) : Int)) = false → (inI (List.drop k s.frozen) x = true → False) ∧ (inI (List.drop k s.frozen) x = false → True ∧ (((b = b ∧ List.length s.frozen = List.length s.frozen ∧ contLe (List.length s.frozen) (1 : Nat) (cellsOf' encU s.frozen) (cellsOf' encU s.frozen)) ∧ (b = b ∧ List.length s.made = List.length s.made ∧ contLe (List.length s.made) (2 : Nat) (cellsOf' encS s.made) (cellsOf' encS s.made)) ∧ (b = b ∧ List.length s.gone = List.length s.gone ∧ contLe (List.length s.gone) (2 : Nat) (cellsOf' encS s.gone) (cellsOf' encS s.gone)) ∧ (c = c ∧ List.length s.voters = List.length s.voters ∧ contLe (List.length s.voters) (1 : Nat) (cellsOf' encI s.voters) (cellsOf' encI s.voters)) ∧ (c = c ∧ List.length s.learners = List.length s.learners ∧ contLe (List.length s.learners) (1 : Nat) (cellsOf' encI s.learners) (cellsOf' encI s.learners)) ∧ s.leader = s.leader ∧ s.ready = s.ready ∧ True) ∧ True) ∧ true = true))
set_option maxRecDepth 1000000 in
theorem vcFzL_eq (b : Bool) (c : Bool) (s : Seen) (x : Int) (k : Nat) : (loopVC Try.prog (hT _) 21 2 (fun k => s.frozen.length - k) (fzT b c s x) (fun _ => fzM b c s) [0, 1, 2, 3] (inO s.frozen x) (fzS b c s) k) = vcFzL b c s x k := by kernel_rfl
noncomputable def fzH (b c : Bool) (s : Seen) (x : Int) : HintsT Try.prog := hh _ (lp1 21 2 (jobOf (fzT b c s x) (fun _ => fzM b c s) [0, 1, 2, 3] (inO s.frozen x) (fzS b c s) 0) noLp) noCs noOp
def vcFz (b : Bool) (c : Bool) (s : Seen) (x : Int) : Prop :=
  ((x = x ∧ ((0 : Nat) = (0 : Nat) ∧ (0 : Nat) = (0 : Nat)) ∧ false = false ∧ (0 : Int) = (0 : Int) ∧ True) ∧ (((b = b ∧ List.length s.frozen = List.length s.frozen ∧ contLe (List.length s.frozen) (1 : Nat) (cellsOf' encU s.frozen) (cellsOf' encU s.frozen)) ∧ (b = b ∧ List.length s.made = List.length s.made ∧ contLe (List.length s.made) (2 : Nat) (cellsOf' encS s.made) (cellsOf' encS s.made)) ∧ (b = b ∧ List.length s.gone = List.length s.gone ∧ contLe (List.length s.gone) (2 : Nat) (cellsOf' encS s.gone) (cellsOf' encS s.gone)) ∧ (c = c ∧ List.length s.voters = List.length s.voters ∧ contLe (List.length s.voters) (1 : Nat) (cellsOf' encI s.voters) (cellsOf' encI s.voters)) ∧ (c = c ∧ List.length s.learners = List.length s.learners ∧ contLe (List.length s.learners) (1 : Nat) (cellsOf' encI s.learners) (cellsOf' encI s.learners)) ∧ s.leader = s.leader ∧ s.ready = s.ready ∧ True) ∧ True) ∧ true = true) ∧ LoopOk Try.prog (21 : Nat) (2 : Nat) (loopAt Try.prog (21 : Nat) (2 : Nat)) { t := fzT b c s x (0 : Nat), m := fzM b c s, mv := [] } (T.map (lout [(0 : Nat), (1 : Nat), (2 : Nat), (3 : Nat)] (fzS b c s)) (inO s.frozen x (0 : Nat))) ∧ (inI (List.drop (0 : Nat) s.frozen) x = true → true = inI s.frozen x ∧ True) ∧ (inI (List.drop (0 : Nat) s.frozen) x = false → false = inI s.frozen x ∧ True)
set_option maxRecDepth 1000000 in
theorem vcFz_eq (b : Bool) (c : Bool) (s : Seen) (x : Int) : (ctrVC Try.prog (fzH b c s x) 21 [.agg (encSe b c s), .y (.int .u64 x)] [] (boolR (inI s.frozen x))) = vcFz b c s x := by kernel_rfl
theorem fz_loop (b c : Bool) (s : Seen) (x : Int) (hl : s.Ok) (k : Nat) : LoopOk Try.prog 21 2 (loopAt Try.prog 21 2) ⟨fzT b c s x k, fzM b c s, []⟩ ((inO s.frozen x k).map (lout [0, 1, 2, 3] (fzS b c s))) := by
  refine loop_vc (stM := fun _ => fzM b c s) Try.mixed (fun _ => rfl) (fun k => (vcFzL_eq b c s x k).mpr ?_) k
  unfold vcFzL
  have hl := hl.frozen
  generalize hL : s.frozen = l at *
  simp
  refine ⟨fun h => ?_, fun h => by simp [inI, drop_end h]⟩
  simp (disch := omega) only [wrap_i64]
  rw [drop_cons h]
  simp only [inI_cons]
  generalize l[k]?.getD default = z
  by_cases hx : z = x
  · simp [h, hx]
  · have hb : (z == x) = false := by simp; omega
    exact ⟨h, fun e => absurd e hx, fun _ => ⟨k + 1, by omega, by omega, by simp [hb]⟩⟩
theorem fz_c (b c : Bool) (s : Seen) (x : Int) (hl : s.Ok) : (boolR (inI s.frozen x)).Sat (ACall' Try.prog 21 [.agg (encSe b c s), .y (.int .u64 x)] []) := by
  refine ctr_vc (ht := (fzH b c s x)) Try.mixed rfl ?_
  rw [vcFz_eq b c s x]
  unfold vcFz
  have := fz_loop b c s x hl 0
  simp [this]
/-! on -/
def onT (b : Bool) (l : List Site) (x : Site) (k : Nat) : List AV := mkT 30 [(0, encSs b l), (1, .y (.int .u64 x.group)), (2, .y (.int .i64 x.node)), (6, .s (.bool false)), (7, .y (.int .i64 k))]
def onS (r : Bool) : Exit × List AV × List Blk := match r with
  | true => (.ret, mkT 30 [(6, .s (.bool true))], [])
  | false => (.exit 0, mkT 30 [], [])
def isO (l : List Site) (x : Site) (k : Nat) : T Bool := .ite (inS (l.drop k) x) (.ret true) (.ret false)
def vcOnL (b : Bool) (l : List Site) (x : Site) (k : Nat) : Prop :=
  (decide ((↑k : Int) < (↑(List.length l) : Int)) = true → (true && decide ((↑k : Int) < (↑(List.length l) : Int))) = true ∧ (((List.getD l (Int.toNat (↑k : Int)) (@default Site instInhabitedSite)).group == x.group) = true → (true && decide ((↑k : Int) < (↑(List.length l) : Int))) = true ∧ (((List.getD l (Int.toNat (↑k : Int)) (@default Site instInhabitedSite)).node == x.node) = true → (inS (List.drop k l) x = true → (true = true ∧ True) ∧ True ∧ true = true) ∧ (inS (List.drop k l) x = false → False)) ∧ (((List.getD l (Int.toNat (↑k : Int)) (@default Site instInhabitedSite)).node == x.node) = false → ∃ (j : Nat), List.length l - j < List.length l - k ∧ (((b = b ∧ List.length l = List.length l ∧ contLe (List.length l) (2 : Nat) (cellsOf' encS l) (cellsOf' encS l)) ∧ x.group = x.group ∧ x.node = x.node ∧ false = false ∧ IntKind.wrap IntKind.i64 ((↑k : Int) + (1 : Int)) = (↑j : Int) ∧ True) ∧ True ∧ true = true) ∧ true = true ∧ (inS (List.drop j l) x = true → (inS (List.drop k l) x = true → true = true) ∧ (inS (List.drop k l) x = false → true = false)) ∧ (inS (List.drop j l) x = false → (inS (List.drop k l) x = true → false = true) ∧ (inS (List.drop k l) x = false → false = false)))) ∧ (((List.getD l (Int.toNat (↑k : Int)) (@default Site instInhabitedSite)).group == x.group) = false → ∃ (j : Nat), List.length l - j < List.length l - k ∧ (((b = b ∧ List.length l = List.length l ∧ contLe (List.length l) (2 : Nat) (cellsOf' encS l) (cellsOf' encS l)) ∧ x.group = x.group ∧ x.node = x.node ∧ false = false ∧ IntKind.wrap IntKind.i64 ((↑k : Int) + (1 : Int)) = (↑j : Int) ∧ True) ∧ True ∧ true = true) ∧ true = true ∧ (inS (List.drop j l) x = true → (inS (List.drop k l) x = true → true = true) ∧ (inS (List.drop k l) x = false → true = false)) ∧ (inS (List.drop j l) x = false → (inS (List.drop k l) x = true → false = true) ∧ (inS (List.drop k l) x = false → false = false)))) ∧ (decide ((↑k : Int) < (↑(List.length l) : Int)) = false → (inS (List.drop k l) x = true → False) ∧ (inS (List.drop k l) x = false → True ∧ True ∧ true = true))
set_option maxRecDepth 1000000 in
theorem vcOnL_eq (b : Bool) (l : List Site) (x : Site) (k : Nat) : (loopVC Try.prog (hT _) 38 2 (fun k => l.length - k) (onT b l x) (fun _ => []) [0] (isO l x) onS k) = vcOnL b l x k := by kernel_rfl
noncomputable def onH (b : Bool) (l : List Site) (x : Site) : HintsT Try.prog := hh _ (lp1 38 2 (jobOf (onT b l x) (fun _ => []) [0] (isO l x) onS 0) noLp) noCs noOp
def vcOn (b : Bool) (l : List Site) (x : Site) : Prop :=
  (((b = b ∧ List.length l = List.length l ∧ contLe (List.length l) (2 : Nat) (cellsOf' encS l) (cellsOf' encS l)) ∧ x.group = x.group ∧ x.node = x.node ∧ false = false ∧ (0 : Int) = (0 : Int) ∧ True) ∧ True ∧ true = true) ∧ LoopOk Try.prog (38 : Nat) (2 : Nat) (loopAt Try.prog (38 : Nat) (2 : Nat)) { t := onT b l x (0 : Nat), m := [], mv := [] } (T.map (lout [(0 : Nat)] onS) (isO l x (0 : Nat))) ∧ (inS (List.drop (0 : Nat) l) x = true → true = inS l x ∧ True) ∧ (inS (List.drop (0 : Nat) l) x = false → false = inS l x ∧ True)
set_option maxRecDepth 1000000 in
theorem vcOn_eq (b : Bool) (l : List Site) (x : Site) : (ctrVC Try.prog (onH b l x) 38 [encSs b l, .y (.int .u64 x.group), .y (.int .i64 x.node)] [] (boolR (inS l x))) = vcOn b l x := by kernel_rfl
theorem on_loop (b : Bool) (l : List Site) (x : Site) (hl : l.length ≤ 9223372036854775806) (k : Nat) : LoopOk Try.prog 38 2 (loopAt Try.prog 38 2) ⟨onT b l x k, [], []⟩ ((isO l x k).map (lout [0] onS)) := by
  refine loop_vc Try.mixed (fun _ => rfl) (fun k => (vcOnL_eq b l x k).mpr ?_) k
  unfold vcOnL
  simp
  refine ⟨fun h => ?_, fun h => by simp [inS, drop_end h]⟩
  simp (disch := omega) only [wrap_i64]
  rw [drop_cons h]
  simp only [inS_cons]
  generalize l[k]?.getD default = z
  by_cases h1 : z.group = x.group
  · by_cases h2 : z.node = x.node
    · simp [h, h1, h2]
    · have hb : (z.group == x.group && z.node == x.node) = false := by simp; omega
      exact ⟨h, fun _ => ⟨h, fun e => absurd e h2, fun _ => ⟨k + 1, by omega, by omega, by simp [hb]⟩⟩, fun e => absurd h1 e⟩
  · have hb : (z.group == x.group && z.node == x.node) = false := by simp; omega
    exact ⟨h, fun e => absurd e h1, fun _ => ⟨k + 1, by omega, by omega, by simp [hb]⟩⟩
theorem on_c (b : Bool) (l : List Site) (x : Site) (hl : l.length ≤ 9223372036854775806) : (boolR (inS l x)).Sat (ACall' Try.prog 38 [encSs b l, .y (.int .u64 x.group), .y (.int .i64 x.node)] []) := by
  refine ctr_vc (ht := (onH b l x)) Try.mixed rfl ?_
  rw [vcOn_eq b l x]
  unfold vcOn
  have := on_loop b l x hl 0
  simp [this]
end Go.Proofs.Ytghhkabankbkoaa
