/- PROVED: PlansEnd (PlansEndSaid), of the given program, for every input. -/
import Derived.Test.YtghhkabankbkoaaW5
import Derived.Test.YtghhkabankbkoaaW6
import Derived.Test.YtghhkabankbkoaaW7
set_option linter.unusedVariables false
set_option linter.unusedSimpArgs false
/-! Plans: the law PlansEnd: the loops. -/
namespace Go.Proofs.Ytghhkabankbkoaa
open Go.Ax
set_option maxRecDepth 1000000
def headA (p : Plan) (s : Seen) : Act := (askL p s).getD 0 default
def fin (p : Plan) : Nat → Seen → Seen
  | 0, s => s
  | n + 1, s => if (headA p s).kind = 4 then s else fin p n (doesS p s (headA p s))
def ends (p : Plan) : Nat → Seen → Prop
  | 0, _ => False
  | n + 1, s => (headA p s).kind ≠ 4 → ends p n (doesS p s (headA p s))
noncomputable def doC (p : Plan) (s : Seen) (x : Act) : Ctr Try.prog := ⟨14, [.agg (encPl true p), .agg (encSe true true s), .agg (encA x)], [], .need (Sz 199 s) (.ret (.agg (encSe true true (doesS p s x)), [], [])), T.Sat.need fun h => does_c p s x h (Nat.le_refl _)⟩
def peM (p : Plan) (s : Seen) : List Blk := [.box 32 (encPl true p), .box 38 (encSe true true s)]
def peB (q : Nat) (l : List (Nat × AV)) : List AV := mkT 114 ([(2, .ptr 0 0 0 0), (3, .ptr 1 0 0 0), (5, .y (.bool true)), (8, .y (.int .i64 q))] ++ l)
/-- the innermost loop: nothing but the first is a step's end -/
def e1T (q r : Nat) (l : List Act) (k : Nat) : List AV := peB q [(9, .y (.bool false)), (10, .y (.int .i64 r)), (11, .own 2 6 0 l.length), (13, .y (.int .i64 k))]
def e1M (p : Plan) (s : Seen) (l : List Act) : List Blk := peM p s ++ [rowB l]
def e1S (p : Plan) (s : Seen) (q r : Nat) (l : List Act) (_ : Unit) : Exit × List AV × List Blk := (.exit 4, peB q [(9, .y (.bool false)), (10, .y (.int .i64 r)), (11, .own 2 6 0 l.length)], e1M p s l)
def vcE1 (p : Plan) (s : Seen) (q : Nat) (r : Nat) (l : List Act) (k : Nat) : Prop :=
  (decide ((↑(k + (1 : Nat)) : Int) < (↑(List.length l) : Int)) = true → (true && decide ((↑(k + (1 : Nat)) : Int) < (↑(List.length l) : Int))) = true ∧ decide ((0 : Nat) + Int.toNat (↑(k + (1 : Nat)) : Int) < List.length l) = true ∧ (((List.getD l ((0 : Nat) + Int.toNat (↑(k + (1 : Nat)) : Int)) (@default Act instInhabitedAct)).kind == (4 : Int)) = true → False) ∧ (((List.getD l ((0 : Nat) + Int.toNat (↑(k + (1 : Nat)) : Int)) (@default Act instInhabitedAct)).kind == (4 : Int)) = false → ∃ (j : Nat), List.length l - (j + (1 : Nat)) < List.length l - (k + (1 : Nat)) ∧ ((((0 : Nat) = (0 : Nat) ∧ (0 : Nat) = (0 : Nat)) ∧ ((0 : Nat) = (0 : Nat) ∧ (0 : Nat) = (0 : Nat)) ∧ true = true ∧ (↑q : Int) = (↑q : Int) ∧ false = false ∧ (↑r : Int) = (↑r : Int) ∧ ((0 : Nat) = (0 : Nat) ∧ List.length l = List.length l) ∧ IntKind.wrap IntKind.i64 ((↑(k + (1 : Nat)) : Int) + (1 : Int)) = (↑(j + (1 : Nat)) : Int) ∧ True) ∧ ((p.id = p.id ∧ p.kind = p.kind ∧ p.topic = p.topic ∧ p.group = p.group ∧ p.other = p.other ∧ p.key = p.key ∧ (true = true ∧ List.length p.into = List.length p.into ∧ contLe (List.length p.into) (1 : Nat) (cellsOf' encU p.into) (cellsOf' encU p.into)) ∧ (true = true ∧ List.length p.nodes = List.length p.nodes ∧ contLe (List.length p.nodes) (1 : Nat) (cellsOf' encI p.nodes) (cellsOf' encI p.nodes)) ∧ p.src = p.src ∧ p.dst = p.dst ∧ p.step = p.step ∧ True) ∧ ((true = true ∧ List.length s.frozen = List.length s.frozen ∧ contLe (List.length s.frozen) (1 : Nat) (cellsOf' encU s.frozen) (cellsOf' encU s.frozen)) ∧ (true = true ∧ List.length s.made = List.length s.made ∧ contLe (List.length s.made) (2 : Nat) (cellsOf' encS s.made) (cellsOf' encS s.made)) ∧ (true = true ∧ List.length s.gone = List.length s.gone ∧ contLe (List.length s.gone) (2 : Nat) (cellsOf' encS s.gone) (cellsOf' encS s.gone)) ∧ (true = true ∧ List.length s.voters = List.length s.voters ∧ contLe (List.length s.voters) (1 : Nat) (cellsOf' encI s.voters) (cellsOf' encI s.voters)) ∧ (true = true ∧ List.length s.learners = List.length s.learners ∧ contLe (List.length s.learners) (1 : Nat) (cellsOf' encI s.learners) (cellsOf' encI s.learners)) ∧ s.leader = s.leader ∧ s.ready = s.ready ∧ True) ∧ (List.length l = List.length l ∧ contLe (List.length l) (6 : Nat) (cellsOf' encA l) (cellsOf' encA l)) ∧ True) ∧ true = true) ∧ true = true ∧ () = ())) ∧ (decide ((↑(k + (1 : Nat)) : Int) < (↑(List.length l) : Int)) = false → (((0 : Nat) = (0 : Nat) ∧ (0 : Nat) = (0 : Nat)) ∧ ((0 : Nat) = (0 : Nat) ∧ (0 : Nat) = (0 : Nat)) ∧ true = true ∧ (↑q : Int) = (↑q : Int) ∧ false = false ∧ (↑r : Int) = (↑r : Int) ∧ ((0 : Nat) = (0 : Nat) ∧ List.length l = List.length l) ∧ True) ∧ ((p.id = p.id ∧ p.kind = p.kind ∧ p.topic = p.topic ∧ p.group = p.group ∧ p.other = p.other ∧ p.key = p.key ∧ (true = true ∧ List.length p.into = List.length p.into ∧ contLe (List.length p.into) (1 : Nat) (cellsOf' encU p.into) (cellsOf' encU p.into)) ∧ (true = true ∧ List.length p.nodes = List.length p.nodes ∧ contLe (List.length p.nodes) (1 : Nat) (cellsOf' encI p.nodes) (cellsOf' encI p.nodes)) ∧ p.src = p.src ∧ p.dst = p.dst ∧ p.step = p.step ∧ True) ∧ ((true = true ∧ List.length s.frozen = List.length s.frozen ∧ contLe (List.length s.frozen) (1 : Nat) (cellsOf' encU s.frozen) (cellsOf' encU s.frozen)) ∧ (true = true ∧ List.length s.made = List.length s.made ∧ contLe (List.length s.made) (2 : Nat) (cellsOf' encS s.made) (cellsOf' encS s.made)) ∧ (true = true ∧ List.length s.gone = List.length s.gone ∧ contLe (List.length s.gone) (2 : Nat) (cellsOf' encS s.gone) (cellsOf' encS s.gone)) ∧ (true = true ∧ List.length s.voters = List.length s.voters ∧ contLe (List.length s.voters) (1 : Nat) (cellsOf' encI s.voters) (cellsOf' encI s.voters)) ∧ (true = true ∧ List.length s.learners = List.length s.learners ∧ contLe (List.length s.learners) (1 : Nat) (cellsOf' encI s.learners) (cellsOf' encI s.learners)) ∧ s.leader = s.leader ∧ s.ready = s.ready ∧ True) ∧ (List.length l = List.length l ∧ contLe (List.length l) (6 : Nat) (cellsOf' encA l) (cellsOf' encA l)) ∧ True) ∧ true = true)
set_option maxRecDepth 1000000 in
theorem vcE1_eq (p : Plan) (s : Seen) (q : Nat) (r : Nat) (l : List Act) (k : Nat) : (loopVC Try.prog (hT _) 5 16 (fun k => l.length - (k + 1)) (fun k => e1T q r l (k + 1)) (fun _ => e1M p s l) [2, 3, 4, 5, 6, 7] (fun _ => .ret ()) (e1S p s q r l) k) = vcE1 p s q r l k := by kernel_rfl
/-- the rounds of a step -/
structure Ro where
  (st : Bool) (r : Nat) (s : Seen)
def e2T (q : Nat) (x : Ro) : List AV := peB q [(9, .y (.bool x.st)), (10, .y (.int .i64 x.r))]
def e2M (p : Plan) (x : Ro) : List Blk := peM p x.s
def Ro.fin (p : Plan) (x : Ro) : Seen := if x.st then x.s else Go.Proofs.Ytghhkabankbkoaa.fin p (32 - x.r) x.s
def e2S (p : Plan) (q : Nat) (s : Seen) : Exit × List AV × List Blk := (.exit 2, peB q [(9, .y (.bool true))], peM p s)
noncomputable def e2H (p : Plan) (q : Nat) (x : Ro) : HintsT Try.prog := hh _ (lp1 5 16 (jobOf (fun k => e1T q x.r (askL p x.s) (k + 1)) (fun _ => e1M p x.s (askL p x.s)) [2, 3, 4, 5, 6, 7] (fun _ => .ret ()) (e1S p x.s q x.r (askL p x.s)) 0) noLp)
  (cs1 5 12 2 (nextC true true true true p x.s) (cs1 5 24 5 (doC p x.s (headA p x.s)) noCs)) noOp
def Ro.Good (p : Plan) (m : Nat) (x : Ro) : Prop := x.r ≤ 32 ∧ Sz (m + x.r) x.s ∧ (x.st = false → ends p (32 - x.r) x.s)
def vcE2 (p : Plan) (q : Nat) (m : Nat) (x : { x : Ro // x.Good p m }) : Prop :=
  (decide ((↑x.val.r : Int) < (32 : Int)) = true → ((!x.val.st) = true → ((p.id = p.id ∧ p.kind = p.kind ∧ p.topic = p.topic ∧ p.group = p.group ∧ p.other = p.other ∧ p.key = p.key ∧ (true = true ∧ List.length p.into = List.length p.into ∧ contLe (List.length p.into) (1 : Nat) (cellsOf' encU p.into) (cellsOf' encU p.into)) ∧ (true = true ∧ List.length p.nodes = List.length p.nodes ∧ contLe (List.length p.nodes) (1 : Nat) (cellsOf' encI p.nodes) (cellsOf' encI p.nodes)) ∧ p.src = p.src ∧ p.dst = p.dst ∧ p.step = p.step ∧ True) ∧ ((true = true ∧ List.length x.val.s.frozen = List.length x.val.s.frozen ∧ contLe (List.length x.val.s.frozen) (1 : Nat) (cellsOf' encU x.val.s.frozen) (cellsOf' encU x.val.s.frozen)) ∧ (true = true ∧ List.length x.val.s.made = List.length x.val.s.made ∧ contLe (List.length x.val.s.made) (2 : Nat) (cellsOf' encS x.val.s.made) (cellsOf' encS x.val.s.made)) ∧ (true = true ∧ List.length x.val.s.gone = List.length x.val.s.gone ∧ contLe (List.length x.val.s.gone) (2 : Nat) (cellsOf' encS x.val.s.gone) (cellsOf' encS x.val.s.gone)) ∧ (true = true ∧ List.length x.val.s.voters = List.length x.val.s.voters ∧ contLe (List.length x.val.s.voters) (1 : Nat) (cellsOf' encI x.val.s.voters) (cellsOf' encI x.val.s.voters)) ∧ (true = true ∧ List.length x.val.s.learners = List.length x.val.s.learners ∧ contLe (List.length x.val.s.learners) (1 : Nat) (cellsOf' encI x.val.s.learners) (cellsOf' encI x.val.s.learners)) ∧ x.val.s.leader = x.val.s.leader ∧ x.val.s.ready = x.val.s.ready ∧ True) ∧ True) ∧ True ∧ (Plan.Ok p ∧ Seen.Ok x.val.s ∧ isPlan p = true) ∧ (((↑(List.length (askL p x.val.s)) : Int) == (0 : Int)) = true → False) ∧ (((↑(List.length (askL p x.val.s)) : Int) == (0 : Int)) = false → ((((0 : Nat) = (0 : Nat) ∧ (0 : Nat) = (0 : Nat)) ∧ ((0 : Nat) = (0 : Nat) ∧ (0 : Nat) = (0 : Nat)) ∧ true = true ∧ (↑q : Int) = (↑q : Int) ∧ x.val.st = false ∧ (↑x.val.r : Int) = (↑x.val.r : Int) ∧ ((0 : Nat) = (0 : Nat) ∧ List.length (askL p x.val.s) = List.length (askL p x.val.s)) ∧ (1 : Int) = (1 : Int) ∧ True) ∧ ((p.id = p.id ∧ p.kind = p.kind ∧ p.topic = p.topic ∧ p.group = p.group ∧ p.other = p.other ∧ p.key = p.key ∧ (true = true ∧ List.length p.into = List.length p.into ∧ contLe (List.length p.into) (1 : Nat) (cellsOf' encU p.into) (cellsOf' encU p.into)) ∧ (true = true ∧ List.length p.nodes = List.length p.nodes ∧ contLe (List.length p.nodes) (1 : Nat) (cellsOf' encI p.nodes) (cellsOf' encI p.nodes)) ∧ p.src = p.src ∧ p.dst = p.dst ∧ p.step = p.step ∧ True) ∧ ((true = true ∧ List.length x.val.s.frozen = List.length x.val.s.frozen ∧ contLe (List.length x.val.s.frozen) (1 : Nat) (cellsOf' encU x.val.s.frozen) (cellsOf' encU x.val.s.frozen)) ∧ (true = true ∧ List.length x.val.s.made = List.length x.val.s.made ∧ contLe (List.length x.val.s.made) (2 : Nat) (cellsOf' encS x.val.s.made) (cellsOf' encS x.val.s.made)) ∧ (true = true ∧ List.length x.val.s.gone = List.length x.val.s.gone ∧ contLe (List.length x.val.s.gone) (2 : Nat) (cellsOf' encS x.val.s.gone) (cellsOf' encS x.val.s.gone)) ∧ (true = true ∧ List.length x.val.s.voters = List.length x.val.s.voters ∧ contLe (List.length x.val.s.voters) (1 : Nat) (cellsOf' encI x.val.s.voters) (cellsOf' encI x.val.s.voters)) ∧ (true = true ∧ List.length x.val.s.learners = List.length x.val.s.learners ∧ contLe (List.length x.val.s.learners) (1 : Nat) (cellsOf' encI x.val.s.learners) (cellsOf' encI x.val.s.learners)) ∧ x.val.s.leader = x.val.s.leader ∧ x.val.s.ready = x.val.s.ready ∧ True) ∧ (List.length (askL p x.val.s) = List.length (askL p x.val.s) ∧ contLe (List.length (askL p x.val.s)) (6 : Nat) (cellsOf' encA (askL p x.val.s)) (cellsOf' encA (askL p x.val.s))) ∧ True) ∧ true = true) ∧ LoopOk Try.prog (5 : Nat) (16 : Nat) (loopAt Try.prog (5 : Nat) (16 : Nat)) { t := e1T q x.val.r (askL p x.val.s) ((0 : Nat) + (1 : Nat)), m := e1M p x.val.s (askL p x.val.s), mv := [] } (T.map (lout [(2 : Nat), (3 : Nat), (4 : Nat), (5 : Nat), (6 : Nat), (7 : Nat)] (e1S p x.val.s q x.val.r (askL p x.val.s))) ((fun (x : Nat) => T.ret ()) (0 : Nat))) ∧ (true && decide ((0 : Int) < (↑(List.length (askL p x.val.s)) : Int))) = true ∧ decide ((0 : Nat) < List.length (askL p x.val.s)) = true ∧ (((List.getD (askL p x.val.s) (0 : Nat) (@default Act instInhabitedAct)).kind == (4 : Int)) = true → (true && decide ((0 : Int) < (↑(List.length (askL p x.val.s)) : Int))) = true ∧ decide ((0 : Nat) < List.length (askL p x.val.s)) = true ∧ (((List.getD (askL p x.val.s) (0 : Nat) (@default Act instInhabitedAct)).step != p.step) = true → False) ∧ (((List.getD (askL p x.val.s) (0 : Nat) (@default Act instInhabitedAct)).step != p.step) = false → ∃ (j : { x : Ro // Ro.Good p m x }), ((if j.val.st = true then (0 : Nat) else (33 : Nat) - j.val.r) < if x.val.st = true then (0 : Nat) else (33 : Nat) - x.val.r) ∧ ((((0 : Nat) = (0 : Nat) ∧ (0 : Nat) = (0 : Nat)) ∧ ((0 : Nat) = (0 : Nat) ∧ (0 : Nat) = (0 : Nat)) ∧ true = true ∧ (↑q : Int) = (↑q : Int) ∧ true = j.val.st ∧ IntKind.wrap IntKind.i64 ((↑x.val.r : Int) + (1 : Int)) = (↑j.val.r : Int) ∧ True) ∧ ((p.id = p.id ∧ p.kind = p.kind ∧ p.topic = p.topic ∧ p.group = p.group ∧ p.other = p.other ∧ p.key = p.key ∧ (true = true ∧ List.length p.into = List.length p.into ∧ contLe (List.length p.into) (1 : Nat) (cellsOf' encU p.into) (cellsOf' encU p.into)) ∧ (true = true ∧ List.length p.nodes = List.length p.nodes ∧ contLe (List.length p.nodes) (1 : Nat) (cellsOf' encI p.nodes) (cellsOf' encI p.nodes)) ∧ p.src = p.src ∧ p.dst = p.dst ∧ p.step = p.step ∧ True) ∧ ((true = true ∧ List.length x.val.s.frozen = List.length j.val.s.frozen ∧ contLe (List.length x.val.s.frozen) (1 : Nat) (cellsOf' encU x.val.s.frozen) (cellsOf' encU j.val.s.frozen)) ∧ (true = true ∧ List.length x.val.s.made = List.length j.val.s.made ∧ contLe (List.length x.val.s.made) (2 : Nat) (cellsOf' encS x.val.s.made) (cellsOf' encS j.val.s.made)) ∧ (true = true ∧ List.length x.val.s.gone = List.length j.val.s.gone ∧ contLe (List.length x.val.s.gone) (2 : Nat) (cellsOf' encS x.val.s.gone) (cellsOf' encS j.val.s.gone)) ∧ (true = true ∧ List.length x.val.s.voters = List.length j.val.s.voters ∧ contLe (List.length x.val.s.voters) (1 : Nat) (cellsOf' encI x.val.s.voters) (cellsOf' encI j.val.s.voters)) ∧ (true = true ∧ List.length x.val.s.learners = List.length j.val.s.learners ∧ contLe (List.length x.val.s.learners) (1 : Nat) (cellsOf' encI x.val.s.learners) (cellsOf' encI j.val.s.learners)) ∧ x.val.s.leader = j.val.s.leader ∧ x.val.s.ready = j.val.s.ready ∧ True) ∧ True) ∧ true = true) ∧ true = true ∧ Ro.fin p j.val = Ro.fin p x.val)) ∧ (((List.getD (askL p x.val.s) (0 : Nat) (@default Act instInhabitedAct)).kind == (4 : Int)) = false → (true && decide ((0 : Int) < (↑(List.length (askL p x.val.s)) : Int))) = true ∧ decide ((0 : Nat) < List.length (askL p x.val.s)) = true ∧ ((p.id = p.id ∧ p.kind = p.kind ∧ p.topic = p.topic ∧ p.group = p.group ∧ p.other = p.other ∧ p.key = p.key ∧ (true = true ∧ List.length p.into = List.length p.into ∧ contLe (List.length p.into) (1 : Nat) (cellsOf' encU p.into) (cellsOf' encU p.into)) ∧ (true = true ∧ List.length p.nodes = List.length p.nodes ∧ contLe (List.length p.nodes) (1 : Nat) (cellsOf' encI p.nodes) (cellsOf' encI p.nodes)) ∧ p.src = p.src ∧ p.dst = p.dst ∧ p.step = p.step ∧ True) ∧ ((true = true ∧ List.length x.val.s.frozen = List.length x.val.s.frozen ∧ contLe (List.length x.val.s.frozen) (1 : Nat) (cellsOf' encU x.val.s.frozen) (cellsOf' encU x.val.s.frozen)) ∧ (true = true ∧ List.length x.val.s.made = List.length x.val.s.made ∧ contLe (List.length x.val.s.made) (2 : Nat) (cellsOf' encS x.val.s.made) (cellsOf' encS x.val.s.made)) ∧ (true = true ∧ List.length x.val.s.gone = List.length x.val.s.gone ∧ contLe (List.length x.val.s.gone) (2 : Nat) (cellsOf' encS x.val.s.gone) (cellsOf' encS x.val.s.gone)) ∧ (true = true ∧ List.length x.val.s.voters = List.length x.val.s.voters ∧ contLe (List.length x.val.s.voters) (1 : Nat) (cellsOf' encI x.val.s.voters) (cellsOf' encI x.val.s.voters)) ∧ (true = true ∧ List.length x.val.s.learners = List.length x.val.s.learners ∧ contLe (List.length x.val.s.learners) (1 : Nat) (cellsOf' encI x.val.s.learners) (cellsOf' encI x.val.s.learners)) ∧ x.val.s.leader = x.val.s.leader ∧ x.val.s.ready = x.val.s.ready ∧ True) ∧ ((List.getD (askL p x.val.s) (0 : Nat) (@default Act instInhabitedAct)).kind = (headA p x.val.s).kind ∧ (List.getD (askL p x.val.s) (0 : Nat) (@default Act instInhabitedAct)).group = (headA p x.val.s).group ∧ (List.getD (askL p x.val.s) (0 : Nat) (@default Act instInhabitedAct)).node = (headA p x.val.s).node ∧ (List.getD (askL p x.val.s) (0 : Nat) (@default Act instInhabitedAct)).step = (headA p x.val.s).step ∧ (List.getD (askL p x.val.s) (0 : Nat) (@default Act instInhabitedAct)).ck = (headA p x.val.s).ck ∧ (List.getD (askL p x.val.s) (0 : Nat) (@default Act instInhabitedAct)).cn = (headA p x.val.s).cn ∧ True) ∧ True) ∧ True ∧ Sz (199 : Nat) x.val.s ∧ ∃ (j : { x : Ro // Ro.Good p m x }), ((if j.val.st = true then (0 : Nat) else (33 : Nat) - j.val.r) < if x.val.st = true then (0 : Nat) else (33 : Nat) - x.val.r) ∧ ((((0 : Nat) = (0 : Nat) ∧ (0 : Nat) = (0 : Nat)) ∧ ((0 : Nat) = (0 : Nat) ∧ (0 : Nat) = (0 : Nat)) ∧ true = true ∧ (↑q : Int) = (↑q : Int) ∧ false = j.val.st ∧ IntKind.wrap IntKind.i64 ((↑x.val.r : Int) + (1 : Int)) = (↑j.val.r : Int) ∧ True) ∧ ((p.id = p.id ∧ p.kind = p.kind ∧ p.topic = p.topic ∧ p.group = p.group ∧ p.other = p.other ∧ p.key = p.key ∧ (true = true ∧ List.length p.into = List.length p.into ∧ contLe (List.length p.into) (1 : Nat) (cellsOf' encU p.into) (cellsOf' encU p.into)) ∧ (true = true ∧ List.length p.nodes = List.length p.nodes ∧ contLe (List.length p.nodes) (1 : Nat) (cellsOf' encI p.nodes) (cellsOf' encI p.nodes)) ∧ p.src = p.src ∧ p.dst = p.dst ∧ p.step = p.step ∧ True) ∧ ((true = true ∧ List.length (doesS p x.val.s (headA p x.val.s)).frozen = List.length j.val.s.frozen ∧ contLe (List.length (doesS p x.val.s (headA p x.val.s)).frozen) (1 : Nat) (cellsOf' encU (doesS p x.val.s (headA p x.val.s)).frozen) (cellsOf' encU j.val.s.frozen)) ∧ (true = true ∧ List.length (doesS p x.val.s (headA p x.val.s)).made = List.length j.val.s.made ∧ contLe (List.length (doesS p x.val.s (headA p x.val.s)).made) (2 : Nat) (cellsOf' encS (doesS p x.val.s (headA p x.val.s)).made) (cellsOf' encS j.val.s.made)) ∧ (true = true ∧ List.length (doesS p x.val.s (headA p x.val.s)).gone = List.length j.val.s.gone ∧ contLe (List.length (doesS p x.val.s (headA p x.val.s)).gone) (2 : Nat) (cellsOf' encS (doesS p x.val.s (headA p x.val.s)).gone) (cellsOf' encS j.val.s.gone)) ∧ (true = true ∧ List.length (doesS p x.val.s (headA p x.val.s)).voters = List.length j.val.s.voters ∧ contLe (List.length (doesS p x.val.s (headA p x.val.s)).voters) (1 : Nat) (cellsOf' encI (doesS p x.val.s (headA p x.val.s)).voters) (cellsOf' encI j.val.s.voters)) ∧ (true = true ∧ List.length (doesS p x.val.s (headA p x.val.s)).learners = List.length j.val.s.learners ∧ contLe (List.length (doesS p x.val.s (headA p x.val.s)).learners) (1 : Nat) (cellsOf' encI (doesS p x.val.s (headA p x.val.s)).learners) (cellsOf' encI j.val.s.learners)) ∧ (doesS p x.val.s (headA p x.val.s)).leader = j.val.s.leader ∧ (doesS p x.val.s (headA p x.val.s)).ready = j.val.s.ready ∧ True) ∧ True) ∧ true = true) ∧ true = true ∧ Ro.fin p j.val = Ro.fin p x.val))) ∧ ((!x.val.st) = false → (((0 : Nat) = (0 : Nat) ∧ (0 : Nat) = (0 : Nat)) ∧ ((0 : Nat) = (0 : Nat) ∧ (0 : Nat) = (0 : Nat)) ∧ true = true ∧ (↑q : Int) = (↑q : Int) ∧ x.val.st = true ∧ True) ∧ ((p.id = p.id ∧ p.kind = p.kind ∧ p.topic = p.topic ∧ p.group = p.group ∧ p.other = p.other ∧ p.key = p.key ∧ (true = true ∧ List.length p.into = List.length p.into ∧ contLe (List.length p.into) (1 : Nat) (cellsOf' encU p.into) (cellsOf' encU p.into)) ∧ (true = true ∧ List.length p.nodes = List.length p.nodes ∧ contLe (List.length p.nodes) (1 : Nat) (cellsOf' encI p.nodes) (cellsOf' encI p.nodes)) ∧ p.src = p.src ∧ p.dst = p.dst ∧ p.step = p.step ∧ True) ∧ ((true = true ∧ List.length x.val.s.frozen = List.length (Ro.fin p x.val).frozen ∧ contLe (List.length x.val.s.frozen) (1 : Nat) (cellsOf' encU x.val.s.frozen) (cellsOf' encU (Ro.fin p x.val).frozen)) ∧ (true = true ∧ List.length x.val.s.made = List.length (Ro.fin p x.val).made ∧ contLe (List.length x.val.s.made) (2 : Nat) (cellsOf' encS x.val.s.made) (cellsOf' encS (Ro.fin p x.val).made)) ∧ (true = true ∧ List.length x.val.s.gone = List.length (Ro.fin p x.val).gone ∧ contLe (List.length x.val.s.gone) (2 : Nat) (cellsOf' encS x.val.s.gone) (cellsOf' encS (Ro.fin p x.val).gone)) ∧ (true = true ∧ List.length x.val.s.voters = List.length (Ro.fin p x.val).voters ∧ contLe (List.length x.val.s.voters) (1 : Nat) (cellsOf' encI x.val.s.voters) (cellsOf' encI (Ro.fin p x.val).voters)) ∧ (true = true ∧ List.length x.val.s.learners = List.length (Ro.fin p x.val).learners ∧ contLe (List.length x.val.s.learners) (1 : Nat) (cellsOf' encI x.val.s.learners) (cellsOf' encI (Ro.fin p x.val).learners)) ∧ x.val.s.leader = (Ro.fin p x.val).leader ∧ x.val.s.ready = (Ro.fin p x.val).ready ∧ True) ∧ True) ∧ true = true)) ∧ (decide ((↑x.val.r : Int) < (32 : Int)) = false → (((0 : Nat) = (0 : Nat) ∧ (0 : Nat) = (0 : Nat)) ∧ ((0 : Nat) = (0 : Nat) ∧ (0 : Nat) = (0 : Nat)) ∧ true = true ∧ (↑q : Int) = (↑q : Int) ∧ x.val.st = true ∧ True) ∧ ((p.id = p.id ∧ p.kind = p.kind ∧ p.topic = p.topic ∧ p.group = p.group ∧ p.other = p.other ∧ p.key = p.key ∧ (true = true ∧ List.length p.into = List.length p.into ∧ contLe (List.length p.into) (1 : Nat) (cellsOf' encU p.into) (cellsOf' encU p.into)) ∧ (true = true ∧ List.length p.nodes = List.length p.nodes ∧ contLe (List.length p.nodes) (1 : Nat) (cellsOf' encI p.nodes) (cellsOf' encI p.nodes)) ∧ p.src = p.src ∧ p.dst = p.dst ∧ p.step = p.step ∧ True) ∧ ((true = true ∧ List.length x.val.s.frozen = List.length (Ro.fin p x.val).frozen ∧ contLe (List.length x.val.s.frozen) (1 : Nat) (cellsOf' encU x.val.s.frozen) (cellsOf' encU (Ro.fin p x.val).frozen)) ∧ (true = true ∧ List.length x.val.s.made = List.length (Ro.fin p x.val).made ∧ contLe (List.length x.val.s.made) (2 : Nat) (cellsOf' encS x.val.s.made) (cellsOf' encS (Ro.fin p x.val).made)) ∧ (true = true ∧ List.length x.val.s.gone = List.length (Ro.fin p x.val).gone ∧ contLe (List.length x.val.s.gone) (2 : Nat) (cellsOf' encS x.val.s.gone) (cellsOf' encS (Ro.fin p x.val).gone)) ∧ (true = true ∧ List.length x.val.s.voters = List.length (Ro.fin p x.val).voters ∧ contLe (List.length x.val.s.voters) (1 : Nat) (cellsOf' encI x.val.s.voters) (cellsOf' encI (Ro.fin p x.val).voters)) ∧ (true = true ∧ List.length x.val.s.learners = List.length (Ro.fin p x.val).learners ∧ contLe (List.length x.val.s.learners) (1 : Nat) (cellsOf' encI x.val.s.learners) (cellsOf' encI (Ro.fin p x.val).learners)) ∧ x.val.s.leader = (Ro.fin p x.val).leader ∧ x.val.s.ready = (Ro.fin p x.val).ready ∧ True) ∧ True) ∧ true = true)
set_option maxRecDepth 1000000 in
theorem vcE2_eq (p : Plan) (q : Nat) (m : Nat) (x : { x : Ro // x.Good p m }) : (loopVC Try.prog (e2H p q x.1) 5 10 (fun (x : { x : Ro // x.Good p m }) => (if x.1.st then 0 else 33 - x.1.r)) (fun x => e2T q x.1) (fun x => e2M p x.1) [2, 3, 4, 5, 6, 7] (fun x => .ret (x.1.fin p)) (e2S p q) x) = vcE2 p q m x := by kernel_rfl
/-- the steps -/
def Plan.at (p : Plan) (k : Int) : Plan := ⟨p.id, p.kind, p.topic, p.group, p.other, p.key, p.into, p.nodes, p.src, p.dst, k⟩
def finO (p : Plan) : Nat → Seen → Seen
  | 0, s => s
  | q + 1, s => finO p q (fin (p.at (stepsOf p.kind - (q + 1))) 32 s)
structure Ou where
  (q : Nat) (s : Seen)
def e3T (x : Ou) : List AV := peB x.q []
def e3M (p : Plan) (x : Ou) : List Blk := peM (p.at (stepsOf p.kind - x.q)) x.s
def e3S (p : Plan) (s : Seen) : Exit × List AV × List Blk := (.exit 0, mkT 114 [(2, .ptr 0 0 0 0), (3, .ptr 1 0 0 0), (5, .y (.bool true))], peM (p.at (stepsOf p.kind)) s)
def Ou.Good (p : Plan) (x : Ou) : Prop := x.q ≤ 5 ∧ (x.q : Int) ≤ stepsOf p.kind ∧ Sz (32 * (5 - x.q)) x.s
noncomputable def e3H (p : Plan) (x : Ou) : HintsT Try.prog := hh _ (lp1 5 10 (jobOf (e2T x.q) (e2M (p.at (stepsOf p.kind - x.q))) [2, 3, 4, 5, 6, 7] (fun y => .ret (y.fin (p.at (stepsOf p.kind - x.q)))) (e2S (p.at (stepsOf p.kind - x.q)) x.q) ⟨false, 0, x.s⟩) noLp) noCs noOp
def vcE3 (p : Plan) (x : { x : Ou // x.Good p }) : Prop :=
  (decide ((0 : Int) < (↑x.val.q : Int)) = true → ((((0 : Nat) = (0 : Nat) ∧ (0 : Nat) = (0 : Nat)) ∧ ((0 : Nat) = (0 : Nat) ∧ (0 : Nat) = (0 : Nat)) ∧ true = true ∧ (↑x.val.q : Int) = (↑x.val.q : Int) ∧ false = false ∧ (0 : Int) = (0 : Int) ∧ True) ∧ ((p.id = p.id ∧ p.kind = p.kind ∧ p.topic = p.topic ∧ p.group = p.group ∧ p.other = p.other ∧ p.key = p.key ∧ (true = true ∧ List.length p.into = List.length p.into ∧ contLe (List.length p.into) (1 : Nat) (cellsOf' encU p.into) (cellsOf' encU p.into)) ∧ (true = true ∧ List.length p.nodes = List.length p.nodes ∧ contLe (List.length p.nodes) (1 : Nat) (cellsOf' encI p.nodes) (cellsOf' encI p.nodes)) ∧ p.src = p.src ∧ p.dst = p.dst ∧ stepsOf p.kind - (↑x.val.q : Int) = stepsOf p.kind - (↑x.val.q : Int) ∧ True) ∧ ((true = true ∧ List.length x.val.s.frozen = List.length x.val.s.frozen ∧ contLe (List.length x.val.s.frozen) (1 : Nat) (cellsOf' encU x.val.s.frozen) (cellsOf' encU x.val.s.frozen)) ∧ (true = true ∧ List.length x.val.s.made = List.length x.val.s.made ∧ contLe (List.length x.val.s.made) (2 : Nat) (cellsOf' encS x.val.s.made) (cellsOf' encS x.val.s.made)) ∧ (true = true ∧ List.length x.val.s.gone = List.length x.val.s.gone ∧ contLe (List.length x.val.s.gone) (2 : Nat) (cellsOf' encS x.val.s.gone) (cellsOf' encS x.val.s.gone)) ∧ (true = true ∧ List.length x.val.s.voters = List.length x.val.s.voters ∧ contLe (List.length x.val.s.voters) (1 : Nat) (cellsOf' encI x.val.s.voters) (cellsOf' encI x.val.s.voters)) ∧ (true = true ∧ List.length x.val.s.learners = List.length x.val.s.learners ∧ contLe (List.length x.val.s.learners) (1 : Nat) (cellsOf' encI x.val.s.learners) (cellsOf' encI x.val.s.learners)) ∧ x.val.s.leader = x.val.s.leader ∧ x.val.s.ready = x.val.s.ready ∧ True) ∧ True) ∧ true = true) ∧ LoopOk Try.prog (5 : Nat) (10 : Nat) (loopAt Try.prog (5 : Nat) (10 : Nat)) { t := e2T x.val.q { st := false, r := (0 : Nat), s := x.val.s }, m := e2M (Plan.at p (stepsOf p.kind - (↑x.val.q : Int))) { st := false, r := (0 : Nat), s := x.val.s }, mv := [] } (T.map (lout [(2 : Nat), (3 : Nat), (4 : Nat), (5 : Nat), (6 : Nat), (7 : Nat)] (e2S (Plan.at p (stepsOf p.kind - (↑x.val.q : Int))) x.val.q)) ((fun (y : Ro) => T.ret (Ro.fin (Plan.at p (stepsOf p.kind - (↑x.val.q : Int))) y)) { st := false, r := (0 : Nat), s := x.val.s })) ∧ (false = true → False) ∧ (false = false → ∃ (j : { x : Ou // Ou.Good p x }), j.val.q < x.val.q ∧ ((((0 : Nat) = (0 : Nat) ∧ (0 : Nat) = (0 : Nat)) ∧ ((0 : Nat) = (0 : Nat) ∧ (0 : Nat) = (0 : Nat)) ∧ true = true ∧ IntKind.wrap IntKind.i64 ((↑x.val.q : Int) - (1 : Int)) = (↑j.val.q : Int) ∧ True) ∧ ((p.id = p.id ∧ p.kind = p.kind ∧ p.topic = p.topic ∧ p.group = p.group ∧ p.other = p.other ∧ p.key = p.key ∧ (true = true ∧ List.length p.into = List.length p.into ∧ contLe (List.length p.into) (1 : Nat) (cellsOf' encU p.into) (cellsOf' encU p.into)) ∧ (true = true ∧ List.length p.nodes = List.length p.nodes ∧ contLe (List.length p.nodes) (1 : Nat) (cellsOf' encI p.nodes) (cellsOf' encI p.nodes)) ∧ p.src = p.src ∧ p.dst = p.dst ∧ IntKind.wrap IntKind.i64 (stepsOf p.kind - (↑x.val.q : Int) + (1 : Int)) = stepsOf p.kind - (↑j.val.q : Int) ∧ True) ∧ ((true = true ∧ List.length (Ro.fin (Plan.at p (stepsOf p.kind - (↑x.val.q : Int))) { st := false, r := (0 : Nat), s := x.val.s }).frozen = List.length j.val.s.frozen ∧ contLe (List.length (Ro.fin (Plan.at p (stepsOf p.kind - (↑x.val.q : Int))) { st := false, r := (0 : Nat), s := x.val.s }).frozen) (1 : Nat) (cellsOf' encU (Ro.fin (Plan.at p (stepsOf p.kind - (↑x.val.q : Int))) { st := false, r := (0 : Nat), s := x.val.s }).frozen) (cellsOf' encU j.val.s.frozen)) ∧ (true = true ∧ List.length (Ro.fin (Plan.at p (stepsOf p.kind - (↑x.val.q : Int))) { st := false, r := (0 : Nat), s := x.val.s }).made = List.length j.val.s.made ∧ contLe (List.length (Ro.fin (Plan.at p (stepsOf p.kind - (↑x.val.q : Int))) { st := false, r := (0 : Nat), s := x.val.s }).made) (2 : Nat) (cellsOf' encS (Ro.fin (Plan.at p (stepsOf p.kind - (↑x.val.q : Int))) { st := false, r := (0 : Nat), s := x.val.s }).made) (cellsOf' encS j.val.s.made)) ∧ (true = true ∧ List.length (Ro.fin (Plan.at p (stepsOf p.kind - (↑x.val.q : Int))) { st := false, r := (0 : Nat), s := x.val.s }).gone = List.length j.val.s.gone ∧ contLe (List.length (Ro.fin (Plan.at p (stepsOf p.kind - (↑x.val.q : Int))) { st := false, r := (0 : Nat), s := x.val.s }).gone) (2 : Nat) (cellsOf' encS (Ro.fin (Plan.at p (stepsOf p.kind - (↑x.val.q : Int))) { st := false, r := (0 : Nat), s := x.val.s }).gone) (cellsOf' encS j.val.s.gone)) ∧ (true = true ∧ List.length (Ro.fin (Plan.at p (stepsOf p.kind - (↑x.val.q : Int))) { st := false, r := (0 : Nat), s := x.val.s }).voters = List.length j.val.s.voters ∧ contLe (List.length (Ro.fin (Plan.at p (stepsOf p.kind - (↑x.val.q : Int))) { st := false, r := (0 : Nat), s := x.val.s }).voters) (1 : Nat) (cellsOf' encI (Ro.fin (Plan.at p (stepsOf p.kind - (↑x.val.q : Int))) { st := false, r := (0 : Nat), s := x.val.s }).voters) (cellsOf' encI j.val.s.voters)) ∧ (true = true ∧ List.length (Ro.fin (Plan.at p (stepsOf p.kind - (↑x.val.q : Int))) { st := false, r := (0 : Nat), s := x.val.s }).learners = List.length j.val.s.learners ∧ contLe (List.length (Ro.fin (Plan.at p (stepsOf p.kind - (↑x.val.q : Int))) { st := false, r := (0 : Nat), s := x.val.s }).learners) (1 : Nat) (cellsOf' encI (Ro.fin (Plan.at p (stepsOf p.kind - (↑x.val.q : Int))) { st := false, r := (0 : Nat), s := x.val.s }).learners) (cellsOf' encI j.val.s.learners)) ∧ (Ro.fin (Plan.at p (stepsOf p.kind - (↑x.val.q : Int))) { st := false, r := (0 : Nat), s := x.val.s }).leader = j.val.s.leader ∧ (Ro.fin (Plan.at p (stepsOf p.kind - (↑x.val.q : Int))) { st := false, r := (0 : Nat), s := x.val.s }).ready = j.val.s.ready ∧ True) ∧ True) ∧ true = true) ∧ true = true ∧ finO p j.val.q j.val.s = finO p x.val.q x.val.s)) ∧ (decide ((0 : Int) < (↑x.val.q : Int)) = false → (((0 : Nat) = (0 : Nat) ∧ (0 : Nat) = (0 : Nat)) ∧ ((0 : Nat) = (0 : Nat) ∧ (0 : Nat) = (0 : Nat)) ∧ true = true ∧ True) ∧ ((p.id = p.id ∧ p.kind = p.kind ∧ p.topic = p.topic ∧ p.group = p.group ∧ p.other = p.other ∧ p.key = p.key ∧ (true = true ∧ List.length p.into = List.length p.into ∧ contLe (List.length p.into) (1 : Nat) (cellsOf' encU p.into) (cellsOf' encU p.into)) ∧ (true = true ∧ List.length p.nodes = List.length p.nodes ∧ contLe (List.length p.nodes) (1 : Nat) (cellsOf' encI p.nodes) (cellsOf' encI p.nodes)) ∧ p.src = p.src ∧ p.dst = p.dst ∧ stepsOf p.kind - (↑x.val.q : Int) = stepsOf p.kind ∧ True) ∧ ((true = true ∧ List.length x.val.s.frozen = List.length (finO p x.val.q x.val.s).frozen ∧ contLe (List.length x.val.s.frozen) (1 : Nat) (cellsOf' encU x.val.s.frozen) (cellsOf' encU (finO p x.val.q x.val.s).frozen)) ∧ (true = true ∧ List.length x.val.s.made = List.length (finO p x.val.q x.val.s).made ∧ contLe (List.length x.val.s.made) (2 : Nat) (cellsOf' encS x.val.s.made) (cellsOf' encS (finO p x.val.q x.val.s).made)) ∧ (true = true ∧ List.length x.val.s.gone = List.length (finO p x.val.q x.val.s).gone ∧ contLe (List.length x.val.s.gone) (2 : Nat) (cellsOf' encS x.val.s.gone) (cellsOf' encS (finO p x.val.q x.val.s).gone)) ∧ (true = true ∧ List.length x.val.s.voters = List.length (finO p x.val.q x.val.s).voters ∧ contLe (List.length x.val.s.voters) (1 : Nat) (cellsOf' encI x.val.s.voters) (cellsOf' encI (finO p x.val.q x.val.s).voters)) ∧ (true = true ∧ List.length x.val.s.learners = List.length (finO p x.val.q x.val.s).learners ∧ contLe (List.length x.val.s.learners) (1 : Nat) (cellsOf' encI x.val.s.learners) (cellsOf' encI (finO p x.val.q x.val.s).learners)) ∧ x.val.s.leader = (finO p x.val.q x.val.s).leader ∧ x.val.s.ready = (finO p x.val.q x.val.s).ready ∧ True) ∧ True) ∧ true = true)
set_option maxRecDepth 1000000 in
theorem vcE3_eq (p : Plan) (x : { x : Ou // x.Good p }) : (loopVC Try.prog (e3H p x.1) 5 6 (fun (x : { x : Ou // x.Good p }) => x.1.q) (fun x => e3T x.1) (fun x => e3M p x.1) [2, 3, 4, 5, 6, 7] (fun x => .ret (finO p x.1.q x.1.s)) (e3S p) x) = vcE3 p x := by kernel_rfl
def endO (p : Plan) (s : Seen) : Ou := ⟨(stepsOf p.kind - p.step).toNat, s⟩
noncomputable def peH (i : Bool) (p : Plan) (s : Seen) : HintsT Try.prog := hh _ (lp1 5 6 (jobOf e3T (e3M p) [2, 3, 4, 5, 6, 7] (fun x => .ret (finO p x.q x.s)) (e3S p) (endO p s)) noLp)
  (cs1 5 1 0 livesC (cs1 5 2 2 (nextC i true true true p s) (cs1 5 5 2 (stC p.kind) (cs1 5 28 2 (nextC false true true true (p.at (stepsOf p.kind)) (finO p (endO p s).q s)) noCs)))) noOp
def vcPe (p : Plan) (s : Seen) : Prop :=
  True ∧ True ∧ ((p.id = p.id ∧ p.kind = p.kind ∧ p.topic = p.topic ∧ p.group = p.group ∧ p.other = p.other ∧ p.key = p.key ∧ (true = true ∧ List.length p.into = List.length p.into ∧ contLe (List.length p.into) (1 : Nat) (cellsOf' encU p.into) (cellsOf' encU p.into)) ∧ (true = true ∧ List.length p.nodes = List.length p.nodes ∧ contLe (List.length p.nodes) (1 : Nat) (cellsOf' encI p.nodes) (cellsOf' encI p.nodes)) ∧ p.src = p.src ∧ p.dst = p.dst ∧ p.step = p.step ∧ True) ∧ ((true = true ∧ List.length s.frozen = List.length s.frozen ∧ contLe (List.length s.frozen) (1 : Nat) (cellsOf' encU s.frozen) (cellsOf' encU s.frozen)) ∧ (true = true ∧ List.length s.made = List.length s.made ∧ contLe (List.length s.made) (2 : Nat) (cellsOf' encS s.made) (cellsOf' encS s.made)) ∧ (true = true ∧ List.length s.gone = List.length s.gone ∧ contLe (List.length s.gone) (2 : Nat) (cellsOf' encS s.gone) (cellsOf' encS s.gone)) ∧ (true = true ∧ List.length s.voters = List.length s.voters ∧ contLe (List.length s.voters) (1 : Nat) (cellsOf' encI s.voters) (cellsOf' encI s.voters)) ∧ (true = true ∧ List.length s.learners = List.length s.learners ∧ contLe (List.length s.learners) (1 : Nat) (cellsOf' encI s.learners) (cellsOf' encI s.learners)) ∧ s.leader = s.leader ∧ s.ready = s.ready ∧ True) ∧ True) ∧ True ∧ (Plan.Ok p ∧ Seen.Ok s ∧ isPlan p = true) ∧ ((p.kind == (3 : Int)) = true → ((p.src == p.dst) = true → true = true ∧ True) ∧ ((p.src == p.dst) = false → (p.kind = p.kind ∧ True) ∧ True ∧ ((((0 : Nat) = (0 : Nat) ∧ (0 : Nat) = (0 : Nat)) ∧ ((0 : Nat) = (0 : Nat) ∧ (0 : Nat) = (0 : Nat)) ∧ true = true ∧ IntKind.wrap IntKind.i64 (stepsOf p.kind - p.step) = (↑(Int.toNat (stepsOf p.kind - p.step)) : Int) ∧ True) ∧ ((p.id = p.id ∧ p.kind = p.kind ∧ p.topic = p.topic ∧ p.group = p.group ∧ p.other = p.other ∧ p.key = p.key ∧ (true = true ∧ List.length p.into = List.length p.into ∧ contLe (List.length p.into) (1 : Nat) (cellsOf' encU p.into) (cellsOf' encU p.into)) ∧ (true = true ∧ List.length p.nodes = List.length p.nodes ∧ contLe (List.length p.nodes) (1 : Nat) (cellsOf' encI p.nodes) (cellsOf' encI p.nodes)) ∧ p.src = p.src ∧ p.dst = p.dst ∧ p.step = stepsOf p.kind - (↑(Int.toNat (stepsOf p.kind - p.step)) : Int) ∧ True) ∧ ((true = true ∧ List.length s.frozen = List.length s.frozen ∧ contLe (List.length s.frozen) (1 : Nat) (cellsOf' encU s.frozen) (cellsOf' encU s.frozen)) ∧ (true = true ∧ List.length s.made = List.length s.made ∧ contLe (List.length s.made) (2 : Nat) (cellsOf' encS s.made) (cellsOf' encS s.made)) ∧ (true = true ∧ List.length s.gone = List.length s.gone ∧ contLe (List.length s.gone) (2 : Nat) (cellsOf' encS s.gone) (cellsOf' encS s.gone)) ∧ (true = true ∧ List.length s.voters = List.length s.voters ∧ contLe (List.length s.voters) (1 : Nat) (cellsOf' encI s.voters) (cellsOf' encI s.voters)) ∧ (true = true ∧ List.length s.learners = List.length s.learners ∧ contLe (List.length s.learners) (1 : Nat) (cellsOf' encI s.learners) (cellsOf' encI s.learners)) ∧ s.leader = s.leader ∧ s.ready = s.ready ∧ True) ∧ True) ∧ true = true) ∧ LoopOk Try.prog (5 : Nat) (6 : Nat) (loopAt Try.prog (5 : Nat) (6 : Nat)) { t := e3T (endO p s), m := e3M p (endO p s), mv := [] } (T.map (lout [(2 : Nat), (3 : Nat), (4 : Nat), (5 : Nat), (6 : Nat), (7 : Nat)] (e3S p)) ((fun (x : Ou) => T.ret (finO p x.q x.s)) (endO p s))) ∧ ((p.id = p.id ∧ p.kind = p.kind ∧ p.topic = p.topic ∧ p.group = p.group ∧ p.other = p.other ∧ p.key = p.key ∧ (true = true ∧ List.length p.into = List.length p.into ∧ contLe (List.length p.into) (1 : Nat) (cellsOf' encU p.into) (cellsOf' encU p.into)) ∧ (true = true ∧ List.length p.nodes = List.length p.nodes ∧ contLe (List.length p.nodes) (1 : Nat) (cellsOf' encI p.nodes) (cellsOf' encI p.nodes)) ∧ p.src = p.src ∧ p.dst = p.dst ∧ stepsOf p.kind = stepsOf p.kind ∧ True) ∧ ((true = true ∧ List.length (finO p (Int.toNat (stepsOf p.kind - p.step)) s).frozen = List.length (finO p (Int.toNat (stepsOf p.kind - p.step)) s).frozen ∧ contLe (List.length (finO p (Int.toNat (stepsOf p.kind - p.step)) s).frozen) (1 : Nat) (cellsOf' encU (finO p (Int.toNat (stepsOf p.kind - p.step)) s).frozen) (cellsOf' encU (finO p (Int.toNat (stepsOf p.kind - p.step)) s).frozen)) ∧ (true = true ∧ List.length (finO p (Int.toNat (stepsOf p.kind - p.step)) s).made = List.length (finO p (Int.toNat (stepsOf p.kind - p.step)) s).made ∧ contLe (List.length (finO p (Int.toNat (stepsOf p.kind - p.step)) s).made) (2 : Nat) (cellsOf' encS (finO p (Int.toNat (stepsOf p.kind - p.step)) s).made) (cellsOf' encS (finO p (Int.toNat (stepsOf p.kind - p.step)) s).made)) ∧ (true = true ∧ List.length (finO p (Int.toNat (stepsOf p.kind - p.step)) s).gone = List.length (finO p (Int.toNat (stepsOf p.kind - p.step)) s).gone ∧ contLe (List.length (finO p (Int.toNat (stepsOf p.kind - p.step)) s).gone) (2 : Nat) (cellsOf' encS (finO p (Int.toNat (stepsOf p.kind - p.step)) s).gone) (cellsOf' encS (finO p (Int.toNat (stepsOf p.kind - p.step)) s).gone)) ∧ (true = true ∧ List.length (finO p (Int.toNat (stepsOf p.kind - p.step)) s).voters = List.length (finO p (Int.toNat (stepsOf p.kind - p.step)) s).voters ∧ contLe (List.length (finO p (Int.toNat (stepsOf p.kind - p.step)) s).voters) (1 : Nat) (cellsOf' encI (finO p (Int.toNat (stepsOf p.kind - p.step)) s).voters) (cellsOf' encI (finO p (Int.toNat (stepsOf p.kind - p.step)) s).voters)) ∧ (true = true ∧ List.length (finO p (Int.toNat (stepsOf p.kind - p.step)) s).learners = List.length (finO p (Int.toNat (stepsOf p.kind - p.step)) s).learners ∧ contLe (List.length (finO p (Int.toNat (stepsOf p.kind - p.step)) s).learners) (1 : Nat) (cellsOf' encI (finO p (Int.toNat (stepsOf p.kind - p.step)) s).learners) (cellsOf' encI (finO p (Int.toNat (stepsOf p.kind - p.step)) s).learners)) ∧ (finO p (Int.toNat (stepsOf p.kind - p.step)) s).leader = (finO p (Int.toNat (stepsOf p.kind - p.step)) s).leader ∧ (finO p (Int.toNat (stepsOf p.kind - p.step)) s).ready = (finO p (Int.toNat (stepsOf p.kind - p.step)) s).ready ∧ True) ∧ True) ∧ True ∧ (Plan.Ok (Plan.at p (stepsOf p.kind)) ∧ Seen.Ok (finO p (Int.toNat (stepsOf p.kind - p.step)) s) ∧ isPlan (Plan.at p (stepsOf p.kind)) = false) ∧ (true = true → true = true ∧ True) ∧ (true = false → false = true ∧ True))) ∧ ((p.kind == (3 : Int)) = false → (p.kind = p.kind ∧ True) ∧ True ∧ ((((0 : Nat) = (0 : Nat) ∧ (0 : Nat) = (0 : Nat)) ∧ ((0 : Nat) = (0 : Nat) ∧ (0 : Nat) = (0 : Nat)) ∧ true = true ∧ IntKind.wrap IntKind.i64 (stepsOf p.kind - p.step) = (↑(Int.toNat (stepsOf p.kind - p.step)) : Int) ∧ True) ∧ ((p.id = p.id ∧ p.kind = p.kind ∧ p.topic = p.topic ∧ p.group = p.group ∧ p.other = p.other ∧ p.key = p.key ∧ (true = true ∧ List.length p.into = List.length p.into ∧ contLe (List.length p.into) (1 : Nat) (cellsOf' encU p.into) (cellsOf' encU p.into)) ∧ (true = true ∧ List.length p.nodes = List.length p.nodes ∧ contLe (List.length p.nodes) (1 : Nat) (cellsOf' encI p.nodes) (cellsOf' encI p.nodes)) ∧ p.src = p.src ∧ p.dst = p.dst ∧ p.step = stepsOf p.kind - (↑(Int.toNat (stepsOf p.kind - p.step)) : Int) ∧ True) ∧ ((true = true ∧ List.length s.frozen = List.length s.frozen ∧ contLe (List.length s.frozen) (1 : Nat) (cellsOf' encU s.frozen) (cellsOf' encU s.frozen)) ∧ (true = true ∧ List.length s.made = List.length s.made ∧ contLe (List.length s.made) (2 : Nat) (cellsOf' encS s.made) (cellsOf' encS s.made)) ∧ (true = true ∧ List.length s.gone = List.length s.gone ∧ contLe (List.length s.gone) (2 : Nat) (cellsOf' encS s.gone) (cellsOf' encS s.gone)) ∧ (true = true ∧ List.length s.voters = List.length s.voters ∧ contLe (List.length s.voters) (1 : Nat) (cellsOf' encI s.voters) (cellsOf' encI s.voters)) ∧ (true = true ∧ List.length s.learners = List.length s.learners ∧ contLe (List.length s.learners) (1 : Nat) (cellsOf' encI s.learners) (cellsOf' encI s.learners)) ∧ s.leader = s.leader ∧ s.ready = s.ready ∧ True) ∧ True) ∧ true = true) ∧ LoopOk Try.prog (5 : Nat) (6 : Nat) (loopAt Try.prog (5 : Nat) (6 : Nat)) { t := e3T (endO p s), m := e3M p (endO p s), mv := [] } (T.map (lout [(2 : Nat), (3 : Nat), (4 : Nat), (5 : Nat), (6 : Nat), (7 : Nat)] (e3S p)) ((fun (x : Ou) => T.ret (finO p x.q x.s)) (endO p s))) ∧ ((p.id = p.id ∧ p.kind = p.kind ∧ p.topic = p.topic ∧ p.group = p.group ∧ p.other = p.other ∧ p.key = p.key ∧ (true = true ∧ List.length p.into = List.length p.into ∧ contLe (List.length p.into) (1 : Nat) (cellsOf' encU p.into) (cellsOf' encU p.into)) ∧ (true = true ∧ List.length p.nodes = List.length p.nodes ∧ contLe (List.length p.nodes) (1 : Nat) (cellsOf' encI p.nodes) (cellsOf' encI p.nodes)) ∧ p.src = p.src ∧ p.dst = p.dst ∧ stepsOf p.kind = stepsOf p.kind ∧ True) ∧ ((true = true ∧ List.length (finO p (Int.toNat (stepsOf p.kind - p.step)) s).frozen = List.length (finO p (Int.toNat (stepsOf p.kind - p.step)) s).frozen ∧ contLe (List.length (finO p (Int.toNat (stepsOf p.kind - p.step)) s).frozen) (1 : Nat) (cellsOf' encU (finO p (Int.toNat (stepsOf p.kind - p.step)) s).frozen) (cellsOf' encU (finO p (Int.toNat (stepsOf p.kind - p.step)) s).frozen)) ∧ (true = true ∧ List.length (finO p (Int.toNat (stepsOf p.kind - p.step)) s).made = List.length (finO p (Int.toNat (stepsOf p.kind - p.step)) s).made ∧ contLe (List.length (finO p (Int.toNat (stepsOf p.kind - p.step)) s).made) (2 : Nat) (cellsOf' encS (finO p (Int.toNat (stepsOf p.kind - p.step)) s).made) (cellsOf' encS (finO p (Int.toNat (stepsOf p.kind - p.step)) s).made)) ∧ (true = true ∧ List.length (finO p (Int.toNat (stepsOf p.kind - p.step)) s).gone = List.length (finO p (Int.toNat (stepsOf p.kind - p.step)) s).gone ∧ contLe (List.length (finO p (Int.toNat (stepsOf p.kind - p.step)) s).gone) (2 : Nat) (cellsOf' encS (finO p (Int.toNat (stepsOf p.kind - p.step)) s).gone) (cellsOf' encS (finO p (Int.toNat (stepsOf p.kind - p.step)) s).gone)) ∧ (true = true ∧ List.length (finO p (Int.toNat (stepsOf p.kind - p.step)) s).voters = List.length (finO p (Int.toNat (stepsOf p.kind - p.step)) s).voters ∧ contLe (List.length (finO p (Int.toNat (stepsOf p.kind - p.step)) s).voters) (1 : Nat) (cellsOf' encI (finO p (Int.toNat (stepsOf p.kind - p.step)) s).voters) (cellsOf' encI (finO p (Int.toNat (stepsOf p.kind - p.step)) s).voters)) ∧ (true = true ∧ List.length (finO p (Int.toNat (stepsOf p.kind - p.step)) s).learners = List.length (finO p (Int.toNat (stepsOf p.kind - p.step)) s).learners ∧ contLe (List.length (finO p (Int.toNat (stepsOf p.kind - p.step)) s).learners) (1 : Nat) (cellsOf' encI (finO p (Int.toNat (stepsOf p.kind - p.step)) s).learners) (cellsOf' encI (finO p (Int.toNat (stepsOf p.kind - p.step)) s).learners)) ∧ (finO p (Int.toNat (stepsOf p.kind - p.step)) s).leader = (finO p (Int.toNat (stepsOf p.kind - p.step)) s).leader ∧ (finO p (Int.toNat (stepsOf p.kind - p.step)) s).ready = (finO p (Int.toNat (stepsOf p.kind - p.step)) s).ready ∧ True) ∧ True) ∧ True ∧ (Plan.Ok (Plan.at p (stepsOf p.kind)) ∧ Seen.Ok (finO p (Int.toNat (stepsOf p.kind - p.step)) s) ∧ isPlan (Plan.at p (stepsOf p.kind)) = false) ∧ (true = true → true = true ∧ True) ∧ (true = false → false = true ∧ True))
set_option maxRecDepth 1000000 in
theorem vcPe_eq (p : Plan) (s : Seen) : (ctrVC Try.prog (peH true p s) 5 [.agg (encPl true p), .agg (encSe true true s)] [] (boolR true)) = vcPe p s := by kernel_rfl
def vcPe2 (p : Plan) (s : Seen) : Prop :=
  True ∧ True ∧ ((p.id = p.id ∧ p.kind = p.kind ∧ p.topic = p.topic ∧ p.group = p.group ∧ p.other = p.other ∧ p.key = p.key ∧ (true = true ∧ List.length p.into = List.length p.into ∧ contLe (List.length p.into) (1 : Nat) (cellsOf' encU p.into) (cellsOf' encU p.into)) ∧ (true = true ∧ List.length p.nodes = List.length p.nodes ∧ contLe (List.length p.nodes) (1 : Nat) (cellsOf' encI p.nodes) (cellsOf' encI p.nodes)) ∧ p.src = p.src ∧ p.dst = p.dst ∧ p.step = p.step ∧ True) ∧ ((true = true ∧ List.length s.frozen = List.length s.frozen ∧ contLe (List.length s.frozen) (1 : Nat) (cellsOf' encU s.frozen) (cellsOf' encU s.frozen)) ∧ (true = true ∧ List.length s.made = List.length s.made ∧ contLe (List.length s.made) (2 : Nat) (cellsOf' encS s.made) (cellsOf' encS s.made)) ∧ (true = true ∧ List.length s.gone = List.length s.gone ∧ contLe (List.length s.gone) (2 : Nat) (cellsOf' encS s.gone) (cellsOf' encS s.gone)) ∧ (true = true ∧ List.length s.voters = List.length s.voters ∧ contLe (List.length s.voters) (1 : Nat) (cellsOf' encI s.voters) (cellsOf' encI s.voters)) ∧ (true = true ∧ List.length s.learners = List.length s.learners ∧ contLe (List.length s.learners) (1 : Nat) (cellsOf' encI s.learners) (cellsOf' encI s.learners)) ∧ s.leader = s.leader ∧ s.ready = s.ready ∧ True) ∧ True) ∧ True ∧ (Plan.Ok p ∧ Seen.Ok s ∧ isPlan p = false) ∧ true = true ∧ True
set_option maxRecDepth 1000000 in
theorem vcPe2_eq (p : Plan) (s : Seen) : (ctrVC Try.prog (peH false p s) 5 [.agg (encPl true p), .agg (encSe true true s)] [] (boolR true)) = vcPe2 p s := by kernel_rfl
end Go.Proofs.Ytghhkabankbkoaa

/-! Plans: the law PlansMore. -/
namespace Go.Proofs.Ytghhkabankbkoaa
open Go.Ax
set_option maxRecDepth 1000000
def Seen.more (s m : Seen) : Seen := ⟨m.frozen ++ s.frozen, m.made ++ s.made, m.gone ++ s.gone, s.voters, s.learners, s.leader, s.ready⟩
noncomputable def moreH (i : Bool) (p : Plan) (s m : Seen) : HintsT Try.prog := hh _ noLp (cs1 6 1 0 livesC (cs1 6 2 2 (nextC i true true true p s) (cs1 6 9 2 (nextC true true false true p (s.more m)) noCs))) noOp
def vcMore (p : Plan) (s : Seen) (m : Seen) : Prop :=
  True ∧ True ∧ ((p.id = p.id ∧ p.kind = p.kind ∧ p.topic = p.topic ∧ p.group = p.group ∧ p.other = p.other ∧ p.key = p.key ∧ (true = true ∧ List.length p.into = List.length p.into ∧ contLe (List.length p.into) (1 : Nat) (cellsOf' encU p.into) (cellsOf' encU p.into)) ∧ (true = true ∧ List.length p.nodes = List.length p.nodes ∧ contLe (List.length p.nodes) (1 : Nat) (cellsOf' encI p.nodes) (cellsOf' encI p.nodes)) ∧ p.src = p.src ∧ p.dst = p.dst ∧ p.step = p.step ∧ True) ∧ ((true = true ∧ List.length s.frozen = List.length s.frozen ∧ contLe (List.length s.frozen) (1 : Nat) (cellsOf' encU s.frozen) (cellsOf' encU s.frozen)) ∧ (true = true ∧ List.length s.made = List.length s.made ∧ contLe (List.length s.made) (2 : Nat) (cellsOf' encS s.made) (cellsOf' encS s.made)) ∧ (true = true ∧ List.length s.gone = List.length s.gone ∧ contLe (List.length s.gone) (2 : Nat) (cellsOf' encS s.gone) (cellsOf' encS s.gone)) ∧ (true = true ∧ List.length s.voters = List.length s.voters ∧ contLe (List.length s.voters) (1 : Nat) (cellsOf' encI s.voters) (cellsOf' encI s.voters)) ∧ (true = true ∧ List.length s.learners = List.length s.learners ∧ contLe (List.length s.learners) (1 : Nat) (cellsOf' encI s.learners) (cellsOf' encI s.learners)) ∧ s.leader = s.leader ∧ s.ready = s.ready ∧ True) ∧ True) ∧ True ∧ (Plan.Ok p ∧ Seen.Ok s ∧ isPlan p = true) ∧ (((↑(List.length (askL p s)) : Int) == (0 : Int)) = true → (true = true → ((↑(List.length (askL p s)) : Int) == (0 : Int)) = true ∧ True) ∧ (true = false → false = true ∧ True)) ∧ (((↑(List.length (askL p s)) : Int) == (0 : Int)) = false → (decide ((0 : Nat) + List.length m.frozen ≤ (9223372036854775807 : Nat)) && decide (((0 : Nat) + List.length m.frozen) * (8 : Nat) ≤ (140737488355328 : Nat))) = true ∧ (decide ((0 : Nat) + List.length m.frozen = (0 : Nat) + List.length m.frozen) && decide ((0 : Nat) + List.length m.frozen + List.length s.frozen ≤ (9223372036854775807 : Nat)) && decide (((0 : Nat) + List.length m.frozen + List.length s.frozen) * (8 : Nat) ≤ (140737488355328 : Nat))) = true ∧ (decide ((0 : Nat) + List.length m.made ≤ (9223372036854775807 : Nat)) && decide (((0 : Nat) + List.length m.made) * (16 : Nat) ≤ (140737488355328 : Nat))) = true ∧ (decide ((0 : Nat) + List.length m.made = (0 : Nat) + List.length m.made) && decide ((0 : Nat) + List.length m.made + List.length s.made ≤ (9223372036854775807 : Nat)) && decide (((0 : Nat) + List.length m.made + List.length s.made) * (16 : Nat) ≤ (140737488355328 : Nat))) = true ∧ (decide ((0 : Nat) + List.length m.gone ≤ (9223372036854775807 : Nat)) && decide (((0 : Nat) + List.length m.gone) * (16 : Nat) ≤ (140737488355328 : Nat))) = true ∧ (decide ((0 : Nat) + List.length m.gone = (0 : Nat) + List.length m.gone) && decide ((0 : Nat) + List.length m.gone + List.length s.gone ≤ (9223372036854775807 : Nat)) && decide (((0 : Nat) + List.length m.gone + List.length s.gone) * (16 : Nat) ≤ (140737488355328 : Nat))) = true ∧ ((p.id = p.id ∧ p.kind = p.kind ∧ p.topic = p.topic ∧ p.group = p.group ∧ p.other = p.other ∧ p.key = p.key ∧ (true = true ∧ List.length p.into = List.length p.into ∧ contLe (List.length p.into) (1 : Nat) (cellsOf' encU p.into) (cellsOf' encU p.into)) ∧ (true = true ∧ List.length p.nodes = List.length p.nodes ∧ contLe (List.length p.nodes) (1 : Nat) (cellsOf' encI p.nodes) (cellsOf' encI p.nodes)) ∧ p.src = p.src ∧ p.dst = p.dst ∧ p.step = p.step ∧ True) ∧ ((false = false ∧ (0 : Nat) + List.length m.frozen + List.length s.frozen = List.length (m.frozen ++ s.frozen) ∧ contLe ((0 : Nat) + List.length m.frozen + List.length s.frozen) (1 : Nat) (Ax.rowAt (0 : Nat) (appRow ((0 : Nat) + List.length m.frozen) (appRow (0 : Nat) (fun (k j : Nat) => AV.junk) (cellsOf' encU m.frozen)) (cellsOf' encU s.frozen))) (cellsOf' encU (m.frozen ++ s.frozen))) ∧ (false = false ∧ (0 : Nat) + List.length m.made + List.length s.made = List.length (m.made ++ s.made) ∧ contLe ((0 : Nat) + List.length m.made + List.length s.made) (2 : Nat) (Ax.rowAt (0 : Nat) (appRow ((0 : Nat) + List.length m.made) (appRow (0 : Nat) (fun (k j : Nat) => AV.junk) (cellsOf' encS m.made)) (cellsOf' encS s.made))) (cellsOf' encS (m.made ++ s.made))) ∧ (false = false ∧ (0 : Nat) + List.length m.gone + List.length s.gone = List.length (m.gone ++ s.gone) ∧ contLe ((0 : Nat) + List.length m.gone + List.length s.gone) (2 : Nat) (Ax.rowAt (0 : Nat) (appRow ((0 : Nat) + List.length m.gone) (appRow (0 : Nat) (fun (k j : Nat) => AV.junk) (cellsOf' encS m.gone)) (cellsOf' encS s.gone))) (cellsOf' encS (m.gone ++ s.gone))) ∧ (true = true ∧ List.length s.voters = List.length s.voters ∧ contLe (List.length s.voters) (1 : Nat) (cellsOf' encI s.voters) (cellsOf' encI s.voters)) ∧ (true = true ∧ List.length s.learners = List.length s.learners ∧ contLe (List.length s.learners) (1 : Nat) (cellsOf' encI s.learners) (cellsOf' encI s.learners)) ∧ s.leader = s.leader ∧ s.ready = s.ready ∧ True) ∧ True) ∧ True ∧ (Plan.Ok p ∧ Seen.Ok (Seen.more s m) ∧ isPlan p = true) ∧ true = true ∧ ((∀ (k : Nat), k < List.length (askL p (Seen.more s m)) → ∀ (j : Nat), j < (6 : Nat) → tagT (cellsOf' encA (askL p (Seen.more s m)) k j) = true) ∧ True) ∧ (((↑(List.length (askL p (Seen.more s m))) : Int) == (0 : Int)) = true → false = true ∧ True) ∧ (((↑(List.length (askL p (Seen.more s m))) : Int) == (0 : Int)) = false → (decide (IntKind.wrap IntKind.i64 ((↑(List.length (askL p s)) : Int) + (1 : Int)) < (↑(List.length (askL p (Seen.more s m))) : Int)) = true → false = true ∧ True) ∧ (decide (IntKind.wrap IntKind.i64 ((↑(List.length (askL p s)) : Int) + (1 : Int)) < (↑(List.length (askL p (Seen.more s m))) : Int)) = false → (true = true → (true && decide ((0 : Int) < (↑(List.length (askL p s)) : Int))) = true ∧ decide ((0 : Nat) < List.length (askL p s)) = true ∧ (((List.getD (askL p s) (0 : Nat) (@default Act instInhabitedAct)).kind != (4 : Int)) = true → true = true ∧ True) ∧ (((List.getD (askL p s) (0 : Nat) (@default Act instInhabitedAct)).kind != (4 : Int)) = false → (true && decide ((0 : Int) < (↑(List.length (askL p (Seen.more s m))) : Int))) = true ∧ decide ((0 : Nat) < List.length (askL p (Seen.more s m))) = true ∧ (true && decide ((0 : Int) < (↑(List.length (askL p s)) : Int))) = true ∧ decide ((0 : Nat) < List.length (askL p s)) = true ∧ ((List.getD (askL p (Seen.more s m)) (0 : Nat) (@default Act instInhabitedAct)).kind == (List.getD (askL p s) (0 : Nat) (@default Act instInhabitedAct)).kind && ((List.getD (askL p (Seen.more s m)) (0 : Nat) (@default Act instInhabitedAct)).group == (List.getD (askL p s) (0 : Nat) (@default Act instInhabitedAct)).group && ((List.getD (askL p (Seen.more s m)) (0 : Nat) (@default Act instInhabitedAct)).node == (List.getD (askL p s) (0 : Nat) (@default Act instInhabitedAct)).node && ((List.getD (askL p (Seen.more s m)) (0 : Nat) (@default Act instInhabitedAct)).step == (List.getD (askL p s) (0 : Nat) (@default Act instInhabitedAct)).step && ((List.getD (askL p (Seen.more s m)) (0 : Nat) (@default Act instInhabitedAct)).ck == (List.getD (askL p s) (0 : Nat) (@default Act instInhabitedAct)).ck && ((List.getD (askL p (Seen.more s m)) (0 : Nat) (@default Act instInhabitedAct)).cn == (List.getD (askL p s) (0 : Nat) (@default Act instInhabitedAct)).cn && true) && true))))) = true ∧ True)) ∧ (true = false → false = true ∧ True))))
set_option maxRecDepth 1000000 in
theorem vcMore_eq (p : Plan) (s : Seen) (m : Seen) : (ctrVC Try.prog (moreH true p s m) 6 [.agg (encPl true p), .agg (encSe true true s), .agg (encSe true true m)] [] (boolR true)) = vcMore p s m := by kernel_rfl
def vcMore2 (p : Plan) (s : Seen) (m : Seen) : Prop :=
  True ∧ True ∧ ((p.id = p.id ∧ p.kind = p.kind ∧ p.topic = p.topic ∧ p.group = p.group ∧ p.other = p.other ∧ p.key = p.key ∧ (true = true ∧ List.length p.into = List.length p.into ∧ contLe (List.length p.into) (1 : Nat) (cellsOf' encU p.into) (cellsOf' encU p.into)) ∧ (true = true ∧ List.length p.nodes = List.length p.nodes ∧ contLe (List.length p.nodes) (1 : Nat) (cellsOf' encI p.nodes) (cellsOf' encI p.nodes)) ∧ p.src = p.src ∧ p.dst = p.dst ∧ p.step = p.step ∧ True) ∧ ((true = true ∧ List.length s.frozen = List.length s.frozen ∧ contLe (List.length s.frozen) (1 : Nat) (cellsOf' encU s.frozen) (cellsOf' encU s.frozen)) ∧ (true = true ∧ List.length s.made = List.length s.made ∧ contLe (List.length s.made) (2 : Nat) (cellsOf' encS s.made) (cellsOf' encS s.made)) ∧ (true = true ∧ List.length s.gone = List.length s.gone ∧ contLe (List.length s.gone) (2 : Nat) (cellsOf' encS s.gone) (cellsOf' encS s.gone)) ∧ (true = true ∧ List.length s.voters = List.length s.voters ∧ contLe (List.length s.voters) (1 : Nat) (cellsOf' encI s.voters) (cellsOf' encI s.voters)) ∧ (true = true ∧ List.length s.learners = List.length s.learners ∧ contLe (List.length s.learners) (1 : Nat) (cellsOf' encI s.learners) (cellsOf' encI s.learners)) ∧ s.leader = s.leader ∧ s.ready = s.ready ∧ True) ∧ True) ∧ True ∧ (Plan.Ok p ∧ Seen.Ok s ∧ isPlan p = false) ∧ (true = true → true = true ∧ True) ∧ (true = false → false = true ∧ True)
set_option maxRecDepth 1000000 in
theorem vcMore2_eq (p : Plan) (s : Seen) (m : Seen) : (ctrVC Try.prog (moreH false p s m) 6 [.agg (encPl true p), .agg (encSe true true s), .agg (encSe true true m)] [] (boolR true)) = vcMore2 p s m := by kernel_rfl
end Go.Proofs.Ytghhkabankbkoaa

/-! Plans: the law PlansMore. -/
namespace Go.Proofs.Ytghhkabankbkoaa
open Go.Ax
set_option maxRecDepth 1000000
structure Mo (a b : List Act) : Prop where
  ne : 1 ≤ b.length
  le : b.length ≤ a.length + 1
  st : 1 ≤ a.length → (a[0]?.getD default).kind = 4 → b[0]?.getD default = a[0]?.getD default
theorem mo_done {p : Plan} {x x' : Bool} {y y' : Act} (h : x = true → x' = true) (hy : ¬ y.kind = 4) : Mo (doneL p x y) (doneL p x' y') := by
  refine ⟨by unfold doneL; split <;> simp, by unfold doneL; split <;> split <;> simp, fun _ hk => ?_⟩
  cases x
  · exact absurd hk hy
  · rw [h rfl]; rfl
theorem inI_app (a b : List Int) (x : Int) (h : inI b x = true) : inI (a ++ b) x = true := by
  unfold inI at *
  rw [List.any_append, h, Bool.or_true]
theorem inS_app (a b : List Site) (x : Site) (h : inS b x = true) : inS (a ++ b) x = true := by
  unfold inS at *
  rw [List.any_append, h, Bool.or_true]
theorem miss_eq (l : List Site) (kind : Int) (nodes : List Int) (g : Int) : (missA l kind nodes g).length + cntB l g nodes = nodes.length := by
  unfold missA cntB
  rw [List.length_map]
  induction nodes with
  | nil => rfl
  | cons n t ih =>
    simp only [List.filter_cons, List.countP_cons, List.length_cons]
    cases inS l ⟨g, n⟩
    · simp; omega
    · simp; omega
theorem cnt_mono {l l' : List Site} (h : ∀ x, inS l x = true → inS l' x = true) (g : Int) (nodes : List Int) : cntB l g nodes ≤ cntB l' g nodes := by
  unfold cntB
  exact List.countP_mono_left fun n _ hn => h _ hn
theorem rest_kind {l : List Site} {kind : Int} {nodes gs : List Int} : ∀ x ∈ restA l kind nodes gs, x.kind = kind := by
  intro x hx
  unfold restA missA at hx
  simp at hx
  obtain ⟨_, _, _, _, rfl⟩ := hx
  rfl
theorem rest_mono {l l' : List Site} (h : ∀ x, inS l x = true → inS l' x = true) (kind : Int) (nodes gs : List Int) : (restA l' kind nodes gs).length ≤ (restA l kind nodes gs).length := by
  induction gs with
  | nil => exact Nat.le_refl _
  | cons g t ih =>
    have h1 := miss_eq l kind nodes g
    have h2 := miss_eq l' kind nodes g
    have h3 := cnt_mono h g nodes
    simp only [restA, List.flatMap_cons, List.length_append] at ih ⊢
    omega
theorem rest_pos {l : List Site} {kind : Int} {nodes gs : List Int} (hn : 0 < nodes.length) (h : gs.all (mostB l nodes) = false) : 1 ≤ (restA l kind nodes gs).length := by
  induction gs with
  | nil => cases h
  | cons g t ih =>
    simp only [restA, List.flatMap_cons, List.length_append] at ih ⊢
    have h1 := miss_eq l kind nodes g
    cases hm : mostB l nodes g
    · simp [mostB] at hm
      omega
    · rw [List.all_cons, hm, Bool.true_and] at h
      have := ih h
      omega
theorem mo_sites {l l' : List Site} (h : ∀ x, inS l x = true → inS l' x = true) {kind : Int} (hk : ¬ kind = 4) {p : Plan} (hn : 0 < p.nodes.length) (gs : List Int) : Mo (sitesL l kind p gs) (sitesL l' kind p gs) := by
  have hr := rest_mono h kind p.nodes gs
  have ha : gs.all (mostB l p.nodes) = true → gs.all (mostB l' p.nodes) = true := by
    intro h1
    rw [List.all_eq_true] at h1 ⊢
    intro g hg
    have h2 := h1 g hg
    have h3 := cnt_mono h g p.nodes
    simp [mostB] at h2 ⊢
    omega
  unfold sitesL
  refine ⟨?_, ?_, fun h1 h2 => ?_⟩
  · cases hx : gs.all (mostB l' p.nodes)
    · have := rest_pos (kind := kind) hn hx
      simp; omega
    · simp
  · simp only [List.length_append]
    split <;> split <;> simp <;> omega
  · cases hx : gs.all (mostB l p.nodes)
    · exfalso
      rw [hx] at h1 h2
      simp at h1 h2
      have hm : (restA l kind p.nodes gs)[0]?.getD default ∈ restA l kind p.nodes gs := by
        rw [List.getElem?_eq_getElem (by omega)]
        simp
      rw [rest_kind _ hm] at h2
      exact hk h2
    · rw [ha hx]; rfl
theorem ask_more (p : Plan) (s m : Seen) (hi : isPlan p = true) : Mo (askL p s) (askL p (s.more m)) := by
  have h := isP hi
  have hn : 0 < p.nodes.length := by simp [isPlan] at hi; omega
  have f : ∀ x, inI s.frozen x = true → inI (s.more m).frozen x = true := fun x => inI_app _ _ x
  have d : ∀ x, inS s.made x = true → inS (s.more m).made x = true := fun x => inS_app _ _ x
  have g : ∀ x, inS s.gone x = true → inS (s.more m).gone x = true := fun x => inS_app _ _ x
  have once : Mo [stepA p] [stepA p] := ⟨Nat.le_refl _, by simp, fun _ _ => rfl⟩
  unfold askL
  repeat' split
  · exact mo_done (fun h => h) (by unfold learnA; split <;> simp)
  · exact mo_done (fun h => h) (by unfold promA; split <;> simp)
  · exact mo_done (fun h => h) (by unfold remA; split <;> simp)
  · exact once
  · exact mo_done (g _) (by simp)
  · exact mo_done (f _) (by simp)
  · exact mo_done (f _) (by simp)
  · exact mo_sites d (by decide) hn _
  · exact once
  · exact mo_sites g (by decide) hn _
theorem app2_le {α : Type} [Inhabited α] {enc : α → List AV} {sz : Nat} (a b : List α) : contLe (a.length + b.length) sz (appRow a.length (cellsOf' enc a) (cellsOf' enc b)) (cellsOf' enc (a ++ b)) := by
  intro k hk j hj
  unfold appRow cellsOf'
  split
  · rename_i h
    simp [List.getElem?_append, h]
  · rename_i h
    simp [List.getElem?_append, h]
theorem more_c (p : Plan) (s m : Seen) (hp : p.Ok) (hs : s.Ok) (h1 : (m.frozen.length + s.frozen.length) * 8 ≤ 140737488351232) (h2 : (m.made.length + s.made.length) * 16 ≤ 140737488351232) (h3 : (m.gone.length + s.gone.length) * 16 ≤ 140737488351232) : (boolR true).Sat (ACall' Try.prog 6 [.agg (encPl true p), .agg (encSe true true s), .agg (encSe true true m)] []) := by
  have hs2 : (s.more m).Ok := ⟨by simp [Seen.more]; omega, by simp [Seen.more]; omega, by simp [Seen.more]; omega, hs.voters, hs.learners⟩
  cases hi : isPlan p
  · refine ctr_vc (ht := moreH false p s m) Try.mixed rfl ?_
    rw [vcMore2_eq p s m]
    unfold vcMore2
    simp [hp, hs, hi]
  · have hm := ask_more p s m hi
    have hl1 := askL_len (s := s) hi
    have hl2 := askL_len (s := s.more m) hi
    refine ctr_vc (ht := moreH true p s m) Try.mixed rfl ?_
    rw [vcMore_eq p s m]
    unfold vcMore
    have f1 : m.frozen.length ≤ m.frozen.length + s.frozen.length := Nat.le_add_right _ _
    simp [hp, hs, hi, hs2]
    intro hne
    have hpos : 0 < (askL p s).length := by cases h : askL p s with | nil => exact absurd h hne | cons _ _ => simp
    have hb := hm.ne
    refine ⟨⟨by omega, by omega⟩, ⟨by omega, by omega⟩, ⟨by omega, by omega⟩, ⟨by omega, by omega⟩, ⟨by omega, by omega⟩, ⟨by omega, by omega⟩, ⟨app2_le _ _, app2_le _ _, app2_le _ _⟩, tagAs _, ?_, fun _ => ⟨?_, fun _ => ⟨hpos, fun hk => ?_⟩⟩⟩
    · intro h; rw [h] at hb; simp at hb
    · rw [wrap_i64 (by omega) (by omega)]; have := hm.le; omega
    · rw [hm.st hpos hk]; exact ⟨by omega, hpos, rfl, rfl, rfl, rfl, rfl, rfl⟩
end Go.Proofs.Ytghhkabankbkoaa

/-! Plans: each step of a plan comes to its end. -/
namespace Go.Proofs.Ytghhkabankbkoaa
open Go.Ax
theorem ends_step {p : Plan} {s : Seen} {n : Nat} (h : (headA p s).kind = 4 ∨ ends p n (doesS p s (headA p s))) : ends p (n + 1) s := by
  intro hk
  exact h.resolve_left hk
theorem ends_mono {p : Plan} : ∀ {n : Nat} {s : Seen}, ends p n s → ends p (n + 1) s
  | 0, _, h => h.elim
  | _ + 1, _, h => fun hk => ends_mono (h hk)
theorem ends_more {p : Plan} {s : Seen} {n : Nat} (h : ends p n s) : ∀ m, n ≤ m → ends p m s := by
  intro m hm
  induction m with
  | zero => obtain rfl : n = 0 := by omega
            exact h
  | succ m ih =>
    rcases Nat.lt_or_ge n (m + 1) with hl | hl
    · exact ends_mono (ih (by omega))
    · obtain rfl : n = m + 1 := by omega
      exact h
theorem head_done {p : Plan} {s : Seen} {b : Bool} {x : Act} (h : askL p s = doneL p b x) : headA p s = if b then stepA p else x := by
  unfold headA
  rw [h]
  cases b <;> rfl
theorem rest_filter (l : List Site) (kind : Int) (nodes gs : List Int) (y : Site) : restA (l ++ [y]) kind nodes gs = (restA l kind nodes gs).filter fun x => !(x.group == y.group && x.node == y.node) := by
  unfold restA
  rw [List.filter_flatMap]
  congr 1
  funext g
  unfold missA
  rw [List.filter_map, List.filter_filter]
  congr 1
  apply List.filter_congr
  intro n _
  simp only [inS, List.any_append, List.any_cons, List.any_nil, Bool.or_false, Bool.not_or, Function.comp]
  rw [Bool.and_comm]
  congr 1
  rw [Bool.eq_iff_iff]
  simp
  grind
theorem rest_less {l : List Site} {kind : Int} {nodes gs : List Int} {x : Act} (h : x ∈ restA l kind nodes gs) : (restA (l ++ [⟨x.group, x.node⟩]) kind nodes gs).length < (restA l kind nodes gs).length := by
  rw [rest_filter]
  have := List.length_filter_lt_length_iff_exists (l := restA l kind nodes gs) (p := fun y => !(y.group == x.group && y.node == x.node))
  exact this.2 ⟨x, h, by simp⟩
theorem rest_len (l : List Site) (kind : Int) (nodes gs : List Int) : (restA l kind nodes gs).length ≤ gs.length * nodes.length := by
  induction gs with
  | nil => simp [restA]
  | cons g t ih =>
    simp only [restA, List.flatMap_cons, List.length_append, List.length_cons] at ih ⊢
    have h1 := miss_eq l kind nodes g
    rw [Nat.add_mul]
    omega
theorem head_sites {p : Plan} {s : Seen} {l : List Site} {kind : Int} {gs : List Int} (hn : 0 < p.nodes.length) (h : askL p s = sitesL l kind p gs) : headA p s = stepA p ∨ headA p s ∈ restA l kind p.nodes gs := by
  unfold headA
  rw [h]
  unfold sitesL
  cases ha : gs.all (mostB l p.nodes)
  · right
    have := rest_pos (kind := kind) hn ha
    simp
    rw [List.getElem?_eq_getElem (by omega)]
    exact List.getElem_mem _
  · left
    rfl
/-- no other than the first is a step's end -/
theorem tail_done {p : Plan} {s : Seen} {b : Bool} {x : Act} (h : askL p s = doneL p b x) : (askL p s).length = 1 := by
  rw [h]
  cases b <;> rfl
structure Fine (p : Plan) (s : Seen) : Prop where
  ne : 1 ≤ (askL p s).length
  tl : ∀ k, 1 ≤ k → k < (askL p s).length → ((askL p s).getD k default).kind ≠ 4
  st : (headA p s).kind = 4 → (headA p s).step = p.step
  en : ends p 32 s
theorem fine_one {p : Plan} {s : Seen} (h : (askL p s).length = 1) (hs : (headA p s).kind = 4 → (headA p s).step = p.step) (he : ends p 32 s) : Fine p s := ⟨by omega, fun k h1 h2 => by omega, hs, he⟩
theorem head_st {p : Plan} {s : Seen} {b : Bool} {x : Act} (h : askL p s = doneL p b x) (hx : x.kind ≠ 4) : (headA p s).kind = 4 → (headA p s).step = p.step := by
  rw [head_done h]
  cases b
  · exact fun e => absurd e hx
  · exact fun _ => rfl
/-- freeze -/
theorem fine_frz {p : Plan} {g : Int} (h : ∀ s, askL p s = frzL p s g) (s : Seen) : Fine p s := by
  refine fine_one (tail_done (h s)) (head_st (h s) (by simp)) (ends_more (n := 2) (ends_step ?_) 32 (by omega))
  have e := head_done (h s)
  cases hf : inI s.frozen g
  · right
    apply ends_step
    left
    rw [e, hf]
    rw [head_done (h _)]
    simp [doesS, inI, stepA]
  · left
    rw [e, hf]
    rfl
theorem fine_leave {p : Plan} (h : ∀ s, askL p s = leaveL p s) (s : Seen) : Fine p s := by
  refine fine_one (tail_done (h s)) (head_st (h s) (by simp)) (ends_more (n := 2) (ends_step ?_) 32 (by omega))
  have e := head_done (h s)
  cases hf : inS s.gone ⟨p.group, p.src⟩
  · right
    apply ends_step
    left
    rw [e, hf]
    rw [head_done (h _)]
    simp [doesS, inS, stepA]
  · left
    rw [e, hf]
    rfl
theorem fine_once {p : Plan} (h : ∀ s, askL p s = [stepA p]) (s : Seen) : Fine p s := by
  have h' : ∀ s, askL p s = doneL p true default := h
  refine fine_one (tail_done (h' s)) (fun _ => by rw [head_done (h' s)]; rfl) (ends_more (n := 1) (ends_step (.inl ?_)) 32 (by omega))
  rw [head_done (h' s)]; rfl
theorem learn_kind (p : Plan) (s : Seen) : (learnA p s).kind ≠ 4 := by
  unfold learnA
  split <;> simp
theorem fine_learn {p : Plan} (h : ∀ s, askL p s = doneL p (learnB p s) (learnA p s)) (s : Seen) : Fine p s := by
  refine fine_one (tail_done (h s)) (head_st (h s) (learn_kind p s)) (ends_more (n := 3) ?_ 32 (by omega))
  have one : ∀ s, inS s.made ⟨p.group, p.dst⟩ = true → ends p 2 s := by
    intro s hm
    apply ends_step
    have e := head_done (h s)
    cases hf : learnB p s
    · right
      apply ends_step
      left
      rw [e, hf]
      rw [head_done (h _)]
      have hp : learnA p s = ⟨6, p.group, 0, 0, 1, p.dst⟩ := by unfold learnA; rw [if_pos hm]
      simp [hp, doesS, learnB, inI, stepA]
    · left
      rw [e, hf]; rfl
  cases hm : inS s.made ⟨p.group, p.dst⟩
  · apply ends_step
    have e := head_done (h s)
    cases hf : learnB p s
    · right
      rw [e, hf]
      apply one
      have hp : learnA p s = ⟨3, p.group, p.dst, 0, 0, 0⟩ := by unfold learnA; rw [hm]; rfl
      simp [hp, doesS, inS]
    · left
      rw [e, hf]; rfl
  · exact ends_more (one s hm) 3 (by omega)
theorem prom_kind (p : Plan) (s : Seen) : (promA p s).kind ≠ 4 := by
  unfold promA
  split <;> simp
theorem fine_prom {p : Plan} (h : ∀ s, askL p s = doneL p (inI s.voters p.dst) (promA p s)) (s : Seen) : Fine p s := by
  refine fine_one (tail_done (h s)) (head_st (h s) (prom_kind p s)) (ends_more (n := 3) ?_ 32 (by omega))
  have one : ∀ s, (s.ready && inI s.learners p.dst) = true → ends p 2 s := by
    intro s hm
    apply ends_step
    have e := head_done (h s)
    cases hf : inI s.voters p.dst
    · right
      apply ends_step
      left
      rw [e, hf]
      rw [head_done (h _)]
      have hp : promA p s = ⟨6, p.group, 0, 0, 2, p.dst⟩ := by unfold promA; rw [if_pos hm]
      simp [hp, doesS, inI, stepA]
    · left
      rw [e, hf]; rfl
  cases hm : (s.ready && inI s.learners p.dst)
  · apply ends_step
    have e := head_done (h s)
    cases hf : inI s.voters p.dst
    · right
      rw [e, hf]
      apply one
      have hp : promA p s = ⟨1, 0, 0, 0, 0, 0⟩ := by simp [promA, hm]
      simp [hp, doesS, inI]
    · left
      rw [e, hf]; rfl
  · exact ends_more (one s hm) 3 (by omega)
theorem rem_kind (p : Plan) (s : Seen) : (remA p s).kind ≠ 4 := by
  unfold remA
  split <;> simp
theorem fine_rem {p : Plan} (h : ∀ s, askL p s = doneL p (remB p s) (remA p s)) (hd : p.src ≠ p.dst) (s : Seen) : Fine p s := by
  refine fine_one (tail_done (h s)) (head_st (h s) (rem_kind p s)) (ends_more (n := 3) ?_ 32 (by omega))
  have one : ∀ s, s.leader ≠ p.src → ends p 2 s := by
    intro s hm
    apply ends_step
    have e := head_done (h s)
    cases hf : remB p s
    · right
      apply ends_step
      left
      rw [e, hf]
      rw [head_done (h _)]
      simp [remA, hm, doesS, remB, inI, stepA]
    · left
      rw [e, hf]; rfl
  by_cases hm : s.leader = p.src
  · apply ends_step
    have e := head_done (h s)
    cases hf : remB p s
    · right
      rw [e, hf]
      apply one
      simp [remA, hm, doesS]
      exact fun e => hd e.symm
    · left
      rw [e, hf]; rfl
  · exact ends_more (one s hm) 3 (by omega)
theorem fine_sites {p : Plan} {gs : List Int} {kind : Int} {f : Seen → List Site} (h : ∀ s, askL p s = sitesL (f s) kind p gs) (hk : kind ≠ 4) (hf : ∀ s x, x.kind = kind → f (doesS p s x) = f s ++ [⟨x.group, x.node⟩]) (hn : 0 < p.nodes.length) (h7 : p.nodes.length ≤ 7) (h2 : gs.length ≤ 2) (s : Seen) : Fine p s := by
  have en : ∀ n s, (restA (f s) kind p.nodes gs).length ≤ n → ends p (n + 1) s := by
    intro n
    induction n with
    | zero =>
      intro s hl
      apply ends_step
      rcases head_sites hn (h s) with e | e
      · left; rw [e]; rfl
      · have := List.length_pos_of_mem e; omega
    | succ n ih =>
      intro s hl
      apply ends_step
      rcases head_sites hn (h s) with e | e
      · left; rw [e]; rfl
      · right
        apply ih
        rw [hf _ _ (rest_kind _ e)]
        have := rest_less e
        omega
  have hl := rest_len (f s) kind p.nodes gs
  have hl2 : gs.length * p.nodes.length ≤ 2 * 7 := Nat.mul_le_mul h2 h7
  refine ⟨?_, fun k h1 hlt => ?_, fun hk4 => ?_, ends_more (en 14 s (by omega)) 32 (by omega)⟩
  · rw [h s]
    unfold sitesL
    cases ha : gs.all (mostB (f s) p.nodes)
    · have := rest_pos (kind := kind) hn ha
      simp; omega
    · simp
  · have key : ∀ x ∈ restA (f s) kind p.nodes gs, x.kind ≠ 4 := fun x hx => by rw [rest_kind _ hx]; exact hk
    rw [h s] at hlt ⊢
    unfold sitesL at hlt ⊢
    cases ha : gs.all (mostB (f s) p.nodes)
    · rw [ha] at hlt
      simp at hlt ⊢
      rw [List.getElem?_eq_getElem hlt]
      exact key _ (List.getElem_mem _)
    · rw [ha] at hlt
      obtain ⟨j, rfl⟩ : ∃ j, k = j + 1 := ⟨k - 1, by omega⟩
      simp at hlt ⊢
      rw [List.getElem?_eq_getElem hlt]
      exact key _ (List.getElem_mem _)
  · rcases head_sites hn (h s) with e | e
    · rw [e]; rfl
    · exact absurd ((rest_kind _ e).symm.trans hk4) hk
theorem plan_fine {p : Plan} (hi : isPlan p = true) (hd : p.kind = 3 → p.src ≠ p.dst) (s : Seen) : Fine p s := by
  have hp := isP hi
  have hn : 0 < p.nodes.length := by simp [isPlan] at hi; have := hi.2.1.2; omega
  have h2 : p.into.length ≤ 2 := by have := hp.many; have := many_le p.kind; omega
  have h3 := olds_le p
  have hst := hp.hi
  have hlo := hp.lo
  by_cases k3 : p.kind = 3
  · rw [k3] at hst
    simp [stepsOf] at hst
    by_cases t0 : p.step = 0
    · exact fine_learn (fun s => by simp [askL, k3, t0]) s
    · by_cases t1 : p.step = 1
      · exact fine_prom (fun s => by simp [askL, k3, t1]) s
      · by_cases t2 : p.step = 2
        · exact fine_rem (fun s => by simp [askL, k3, t2]) (hd k3) s
        · by_cases t3 : p.step = 3
          · exact fine_once (fun s => by simp [askL, k3, t3]) s
          · exact fine_leave (fun s => by simp [askL, k3, t0, t1, t2, t3]) s
  · by_cases t0 : p.step = 0
    · exact fine_frz (g := p.group) (fun s => by simp [askL, k3, t0]) s
    · by_cases k2 : p.kind = 2 ∧ p.step = 1
      · exact fine_frz (g := p.other) (fun s => by simp [askL, k2]) s
      · by_cases r3 : stepsOf p.kind - p.step = 3
        · refine fine_sites (kind := 3) (f := fun s => s.made) (gs := p.into) (fun s => ?_) (by omega) (fun s x hx => by simp [doesS, hx]) hn hp.nodes h2 s
          unfold askL
          rw [if_neg k3, if_neg t0, if_neg k2, if_pos r3]
        · by_cases r2 : stepsOf p.kind - p.step = 2
          · refine fine_once (fun s => ?_) s
            unfold askL
            rw [if_neg k3, if_neg t0, if_neg k2, if_neg r3, if_pos r2]
          · refine fine_sites (kind := 5) (f := fun s => s.gone) (gs := olds p) (fun s => ?_) (by omega) (fun s x hx => by simp [doesS, hx]) hn hp.nodes h3 s
            unfold askL
            rw [if_neg k3, if_neg t0, if_neg k2, if_neg r3, if_neg r2]
end Go.Proofs.Ytghhkabankbkoaa

/-! Plans: the law PlansEnd. -/
namespace Go.Proofs.Ytghhkabankbkoaa
open Go.Ax
set_option maxRecDepth 1000000
theorem e1_loop (p : Plan) (s : Seen) (q r : Nat) (l : List Act) (hl : l.length ≤ 100) (ht : ∀ k, 1 ≤ k → k < l.length → (l.getD k default).kind ≠ 4) (k : Nat) : LoopOk Try.prog 5 16 (loopAt Try.prog 5 16) ⟨e1T q r l (k + 1), e1M p s l, []⟩ (T.map (lout [2, 3, 4, 5, 6, 7] (e1S p s q r l)) (.ret ())) := by
  refine loop_vc (o := fun _ => .ret ()) (stT := fun k => e1T q r l (k + 1)) Try.mixed (fun _ => rfl) (fun k => (vcE1_eq p s q r l k).mpr ?_) k
  unfold vcE1
  simp
  intro h
  have hk : k + 1 < l.length := by omega
  have := ht (k + 1) (by omega) hk
  refine ⟨h, hk, by simpa using this, fun _ => ⟨k + 1, by omega, ?_⟩⟩
  rw [wrap_i64 (by omega) (by omega)]
  omega
theorem headA_eq (p : Plan) (s : Seen) : (askL p s)[0]?.getD default = headA p s := by simp [headA]
theorem e2_loop (p : Plan) (q m : Nat) (hp : p.Ok) (hi : isPlan p = true) (hd : p.kind = 3 → p.src ≠ p.dst) (hm : m + 32 ≤ 199) (x : { x : Ro // x.Good p m }) : LoopOk Try.prog 5 10 (loopAt Try.prog 5 10) ⟨e2T q x.1, e2M p x.1, []⟩ (T.map (lout [2, 3, 4, 5, 6, 7] (e2S p q)) (.ret (x.1.fin p))) := by
  refine loop_vcH (o := fun (x : { x : Ro // x.Good p m }) => .ret (x.1.fin p)) Try.mixed (fun _ => rfl) (fun x => (vcE2_eq p q m x).mpr ?_) x
  unfold vcE2
  obtain ⟨⟨st, r, s⟩, h1, h2, h3⟩ := x
  have h1 : r ≤ 32 := h1
  have h2 : Sz (m + r) s := h2
  have h3 : st = false → ends p (32 - r) s := h3
  have hok : s.Ok := h2.ok (by omega)
  have hf := plan_fine hi hd s
  have hl : (askL p s).length ≤ 100 := by have := askL_len (s := s) hi; omega
  have lp := e1_loop p s q r (askL p s) hl hf.tl 0
  have hne := hf.ne
  have hst := hf.st
  have ff : ∀ r s, Ro.fin p ⟨false, r, s⟩ = fin p (32 - r) s := fun _ _ => rfl
  have ft : ∀ r s, Ro.fin p ⟨true, r, s⟩ = s := fun _ _ => rfl
  cases st
  · have he := h3 rfl
    have hr : r < 32 := by
      rcases Nat.lt_or_ge r 32 with h | h
      · exact h
      · rw [show 32 - r = 0 by omega] at he; exact he.elim
    obtain ⟨n, hn⟩ : ∃ n, 32 - r = n + 1 := ⟨31 - r, by omega⟩
    rw [hn] at he
    have hz : ¬ (32 ≤ (r : Int)) := by omega
    have hz2 : (r : Int) < 32 := by omega
    have hnil : ¬ askL p s = [] := by intro h; rw [h] at hne; simp at hne
    have hpos : 0 < (askL p s).length := by omega
    have hw : IntKind.i64.wrap ((r : Int) + 1) = (r : Int) + 1 := wrap_i64 (by omega) (by omega)
    have hh0 : ∀ h : 0 < (askL p s).length, (askL p s)[0]'h = headA p s := fun h => by rw [← headA_eq, List.getElem?_eq_getElem h]; rfl
    simp [hz, hz2, hp, hok, hi, hnil, hpos, lp, hh0, ff, hn, hw]
    refine ⟨fun hk => ⟨hst hk, fun _ => ?_⟩, fun hk => ⟨h2.mono (by omega), ?_⟩⟩
    · refine ⟨⟨true, r + 1, s⟩, ?_, ?_⟩
      · simp; omega
      · have hg : Ro.Good p m ⟨true, r + 1, s⟩ := ⟨by show r + 1 ≤ 32; omega, h2.mono (by show m + r ≤ m + (r + 1); omega), fun h => by cases h⟩
        simp [ft, fin, hk, hg]
    · refine ⟨⟨false, r + 1, doesS p s (headA p s)⟩, ?_, ?_⟩
      · simp; omega
      · have hn2 : 32 - (r + 1) = n := by omega
        have hg : Ro.Good p m ⟨false, r + 1, doesS p s (headA p s)⟩ := ⟨by show r + 1 ≤ 32; omega, sz_does h2, fun _ => by show ends p (32 - (r + 1)) _; rw [hn2]; exact he hk⟩
        simp [ff, fin, hk, hn2, hg]
  · simp [ft]
theorem fin_sz {p : Plan} : ∀ (n : Nat) {m : Nat} {s : Seen}, Sz m s → Sz (m + n) (fin p n s)
  | 0, _, _, h => h
  | n + 1, m, s, h => by
    unfold fin
    split
    · exact h.mono (by omega)
    · have := fin_sz (p := p) n (sz_does (p := p) (x := headA p s) h)
      rw [show m + (n + 1) = m + 1 + n by omega]; exact this
theorem at_plan {p : Plan} (hi : isPlan p = true) {k : Int} (h0 : 0 ≤ k) (h1 : k < stepsOf p.kind) : isPlan (p.at k) = true := by
  simp [isPlan] at hi ⊢
  exact ⟨hi.1, ⟨⟨h0, h1⟩, hi.2.1.2⟩, hi.2.2⟩
theorem steps_le (k : Int) : stepsOf k ≤ 5 := by unfold stepsOf; repeat' split
                                                 all_goals omega
theorem ro_fin (p : Plan) (s : Seen) : Ro.fin p ⟨false, 0, s⟩ = fin p 32 s := by
  unfold Ro.fin
  rw [if_neg (by simp)]
  dsimp only
theorem fin_succ (p : Plan) (q : Nat) (s : Seen) : finO p (q + 1) s = finO p q (fin (p.at (stepsOf p.kind - ((q : Int) + 1))) 32 s) := by
  rw [finO]
theorem e3_loop (p : Plan) (hp : p.Ok) (hi : isPlan p = true) (hd : p.kind = 3 → p.src ≠ p.dst) (x : { x : Ou // x.Good p }) : LoopOk Try.prog 5 6 (loopAt Try.prog 5 6) ⟨e3T x.1, e3M p x.1, []⟩ (T.map (lout [2, 3, 4, 5, 6, 7] (e3S p)) (.ret (finO p x.1.q x.1.s))) := by
  refine loop_vcH (o := fun (x : { x : Ou // x.Good p }) => .ret (finO p x.1.q x.1.s)) Try.mixed (fun _ => rfl) (fun x => (vcE3_eq p x).mpr ?_) x
  unfold vcE3
  obtain ⟨⟨q, s⟩, h1, h0, h2⟩ := x
  have h1 : q ≤ 5 := h1
  have h0 : (q : Int) ≤ stepsOf p.kind := h0
  have h2 : Sz (32 * (5 - q)) s := h2
  have h5 := steps_le p.kind
  rcases Nat.eq_zero_or_pos q with e | hq
  · subst e
    simp [finO]
  · obtain ⟨r, rfl⟩ : ∃ r, q = r + 1 := ⟨q - 1, by omega⟩
    have hi2 := at_plan hi (k := stepsOf p.kind - ((r : Int) + 1)) (by omega) (by omega)
    have hg : Ro.Good (p.at (stepsOf p.kind - ((r : Int) + 1))) (32 * (5 - (r + 1))) ⟨false, 0, s⟩ := ⟨by show 0 ≤ 32; omega, h2, fun _ => (plan_fine hi2 hd s).en⟩
    have lp := e2_loop (p.at (stepsOf p.kind - ((r : Int) + 1))) (r + 1) (32 * (5 - (r + 1))) ⟨hp.into, hp.nodes⟩ hi2 hd (by omega) ⟨_, hg⟩
    have hf := ro_fin (p.at (stepsOf p.kind - ((r : Int) + 1))) s
    dsimp only at lp
    rw [hf] at lp
    have hz := fin_sz (p := p.at (stepsOf p.kind - ((r : Int) + 1))) 32 h2
    have hg2 : Ou.Good p ⟨r, fin (p.at (stepsOf p.kind - ((r : Int) + 1))) 32 s⟩ := ⟨by show r ≤ 5; omega, by show (r : Int) ≤ _; omega, hz.mono (by show _ ≤ 32 * (5 - r); omega)⟩
    have e0 := fin_succ p r s
    have w1 : IntKind.i64.wrap (((r : Int) + 1) - 1) = (r : Int) := by rw [wrap_i64 (by omega) (by omega)]; omega
    have w2 : IntKind.i64.wrap (stepsOf p.kind - ((r : Int) + 1) + 1) = stepsOf p.kind - (r : Int) := by rw [wrap_i64 (by omega) (by omega)]; omega
    have w0 : IntKind.i64.wrap (r : Int) = r := wrap_i64 (by omega) (by omega)
    simp [hf]
    refine ⟨lp, ⟨r, fin (p.at (stepsOf p.kind - ((r : Int) + 1))) 32 s⟩, by simp, ⟨w0, w2, by simp⟩, hg2, e0.symm⟩
theorem end_c (p : Plan) (s : Seen) (hp : p.Ok) (hs : Sz 0 s) : (boolR true).Sat (ACall' Try.prog 5 [.agg (encPl true p), .agg (encSe true true s)] []) := by
  cases hi : isPlan p
  · refine ctr_vc (ht := peH false p s) Try.mixed rfl ?_
    rw [vcPe2_eq p s]
    unfold vcPe2
    simp [hi, hp, hs.ok]
  · refine ctr_vc (ht := peH true p s) Try.mixed rfl ?_
    rw [vcPe_eq p s]
    unfold vcPe
    have h5 := steps_le p.kind
    have hP := isP hi
    have h6 := hP.lo
    have h7 := hP.hi
    have key : (p.kind = 3 → ¬ p.src = p.dst) → (IntKind.i64.wrap (stepsOf p.kind - p.step) = max (stepsOf p.kind - p.step) 0 ∧
            p.step = stepsOf p.kind - max (stepsOf p.kind - p.step) 0) ∧
          LoopOk Try.prog 5 6 (loopAt Try.prog 5 6) { t := e3T (endO p s), m := e3M p (endO p s), mv := [] }
              (T.map (lout [2, 3, 4, 5, 6, 7] (e3S p)) (T.ret (finO p (endO p s).q (endO p s).s))) ∧
            (p.at (stepsOf p.kind)).Ok ∧
              (finO p (stepsOf p.kind - p.step).toNat s).Ok ∧ isPlan (p.at (stepsOf p.kind)) = false := by
      intro hd
      have hg : Ou.Good p (endO p s) := ⟨by show (stepsOf p.kind - p.step).toNat ≤ 5; omega, by show ((stepsOf p.kind - p.step).toNat : Int) ≤ _; omega, hs.mono (by omega)⟩
      have lp := e3_loop p hp hi hd ⟨_, hg⟩
      have hz : ∀ q s, q ≤ 5 → Sz (32 * (5 - q)) s → Sz 160 (finO p q s) := by
        intro q
        induction q with
        | zero => intro s _ h; exact h
        | succ q ih =>
          intro s hq h
          refine ih _ (by omega) ((fin_sz (p := p.at (stepsOf p.kind - (q + 1))) 32 h).mono (by omega))
      refine ⟨⟨by rw [wrap_i64 (by omega) (by omega)]; omega, by omega⟩, lp, ⟨hp.into, hp.nodes⟩, (hz _ s (by omega) (hs.mono (by omega))).ok (by omega), ?_⟩
      have : (p.at (stepsOf p.kind)).step = stepsOf (p.at (stepsOf p.kind)).kind := rfl
      simp [isPlan, this]
    simp [hi, hp, hs.ok]
    exact ⟨fun hk hd => key fun _ => hd, fun hk => key fun h => absurd h hk⟩
end Go.Proofs.Ytghhkabankbkoaa

/-! Plans: from the statement to PlansEnd. -/
namespace Go.Proofs.Ytghhkabankbkoaa
open Go.Ax Go.Shelf Go.RowKit Go.ChangeShapes Go.WideShapes Go.ChangeAt
set_option maxRecDepth 1000000
theorem sz_of {s : Seen} (h : s.Sized) : Sz 0 s := ⟨by have := h.frozen; omega, by have := h.made; omega, by have := h.gone; omega, by have := h.voters; omega, by have := h.learners; omega⟩
theorem end_lifted (os : Os) (started : os.Started) (K : Type) (enc : TypeId × Value → K) :
    ReturnsInHanded {} Try.checked os 5 .any (Rows.plansEndSpec.pre6 enc Try.prog Try.f5 Rows.plansEndRow.domain false) (Rows.plansEndSpec.post enc Try.prog Try.f5 false true false false) := by
  refine returnsInHanded_of_change_sized (C := Try.checked) Try.own started (by kernel_rfl) Try.func5
    (ChangeSpec.witness6 (enc := enc) (C := Try.checked) false ⟨#[], #[.agg #[.int .u64 0, .int .i64 0, .string ⟨#[]⟩, .int .u64 0, .int .u64 0, .string ⟨#[]⟩, .slice Option.none 0 0, .slice Option.none 0 0, .int .i64 0, .int .i64 0, .int .i64 0], .agg #[.slice Option.none 0 0, .slice Option.none 0 0, .slice Option.none 0 0, .slice Option.none 0 0, .slice Option.none 0 0, .int .i64 0, .bool false]], []⟩ 8 (by kernel_rfl) (by kernel_rfl) (by kernel_rfl) (by kernel_rfl)) ?_
  intro W base args ds gs before hval0 hW hcnd hsz _
  have hps : Try.f5.params.toList = [32, 38] := by kernel_rfl
  obtain ⟨p, q, hA, hV, hbef, hfz, hnd⟩ := id hW
  rw [hps] at hA hsz
  have ⟨hr, hwf⟩ := lift_all [shPlan, shSeen] (by kernel_rfl) hA
  obtain ⟨v, v2, d, d2, _, _, e1, rfl, _, hd, hd2⟩ := trodAll_two hA
  obtain ⟨_, _, e2, hw1, _, _, e3, hw2, _⟩ := hwf
  obtain ⟨rfl, e5⟩ := List.cons.inj e2
  subst e5
  obtain ⟨rfl, _⟩ := List.cons.inj e3
  subst e1
  have hwt := weights_cons (P := Try.prog) (t := 32) (d := d) (ds := d2 :: gs) hsz
  have hwt2 := weights_cons (P := Try.prog) (t := 38) (d := d2) (ds := gs) hwt.2
  have k1 := plan_sized hw1 hwt.1
  have k2 := seen_sized hw2 hwt2.1
  obtain ⟨fs, hf, _⟩ := undPl
  obtain ⟨fs2, hf2, _⟩ := undSe
  have r1 := relA hf (hval0 0 _ _ (by kernel_rfl) rfl) (relPlan hw1 hr.1)
  have r2 := relA hf2 (hval0 1 _ _ (by kernel_rfl) rfl) (relSeen hw2 hr.2.1)
  refine open_calls (call_of (end_c (toPlan d) (toSeen d2) k1.ok (sz_of k2))) (t := 4) (ds := [d, d2]) ⟨_, _, rfl, r1, _, _, rfl, r2, rfl⟩ (by kernel_rfl) underBool rfl rfl Try.laidOut Try.mapsRowed Try.slicesOk (by rw [hps]; intro t ht; simp at ht; rcases ht with rfl | rfl <;> exact of_decide_eq_true (by kernel_rfl)) hW
theorem end_said : Rows.PlansEndSaid :=
  OpenClaim.holds_of_wide 5 Try.f5 rfl rfl rfl rfl rfl rfl rfl ⟨rfl, rfl, rfl, rfl, rfl⟩ rfl rfl rfl rfl rfl (by kernel_rfl) Try.func5 (by kernel_rfl)
    (of_decide_eq_true (by kernel_rfl)) (by unfold Func.isWrapper; first | (rw [if_pos (by decide +kernel)]; kernel_rfl) | (rw [if_neg (by decide +kernel)]; exact ⟨rfl, rfl⟩))
    (fun os started H enc _ => end_lifted os started H enc)
end Go.Proofs.Ytghhkabankbkoaa
