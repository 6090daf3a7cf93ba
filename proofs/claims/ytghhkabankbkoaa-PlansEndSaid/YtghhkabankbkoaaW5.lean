import Derived.Test.YtghhkabankbkoaaRows
import Derived.OpenShut
import Derived.Test.YtghhkabankbkoaaE8
import Derived.Test.YtghhkabankbkoaaW4
set_option linter.unusedVariables false
set_option linter.unusedSimpArgs false
/-! Plans: Next, the document's. -/
namespace Go.Proofs.Ytghhkabankbkoaa
open Go.Ax
set_option maxRecDepth 1000000
noncomputable def mvC (b c d : Bool) (p : Plan) (s : Seen) : Ctr Try.prog := ⟨19, [.agg (encPl b p), .agg (encSe c d s)], [], .need s.Ok (rowR (moveL p s)), T.Sat.need fun h => mv_c b c d p s h⟩
noncomputable def siC (x : SiP) : Ctr Try.prog := ⟨22, [.agg (encPl x.b x.p), encUs x.c x.gs, encSs x.d x.l, .y (.int .i64 x.kind)], [], .need x.Ok (rowR (sitesL x.l x.kind x.p x.gs)), T.Sat.need fun h => sites_c x h⟩
noncomputable def risC (b : Bool) (p : Plan) : Ctr Try.prog := ⟨17, [.agg (encPl b p)], [], .need p.Ok (boolR (isPlan p)), T.Sat.need fun h => ris_c b p h⟩
def nextR (p : Plan) (s : Seen) : T An := .ite (isPlan p) (nextY (askL p s)) nextN
noncomputable def rnH (b c d : Bool) (p : Plan) (s : Seen) : HintsT Try.prog := hh _ noLp
  (cs1 13 1 1 (risC b p) (cs1 13 5 2 ⟨18, [.y (.int .i64 p.kind)], [], intR (stepsOf p.kind), st2_c p.kind⟩ (cs1 13 7 2 (mvC b c d p s)
  (cs1 13 9 4 (fzC c d s p.group) (cs1 13 9 8 (oneC b p (inI s.frozen p.group) ⟨2, p.group, 0, 0, 0, 0⟩)
  (cs1 13 11 4 (fzC c d s p.other) (cs1 13 11 8 (oneC b p (inI s.frozen p.other) ⟨2, p.other, 0, 0, 0, 0⟩)
  (cs1 13 13 5 (siC (xA b c p s)) (cs1 13 15 2 (oneC b p true default) (cs1 13 19 4 (siC ⟨b, false, c, p, olds p, s.gone, 5⟩) noCs)))))))))) noOp
def vcRn (b : Bool) (c : Bool) (d : Bool) (p : Plan) (s : Seen) : Prop :=
  ((p.id = p.id ∧ p.kind = p.kind ∧ p.topic = p.topic ∧ p.group = p.group ∧ p.other = p.other ∧ p.key = p.key ∧ (b = b ∧ List.length p.into = List.length p.into ∧ contLe (List.length p.into) (1 : Nat) (cellsOf' encU p.into) (cellsOf' encU p.into)) ∧ (b = b ∧ List.length p.nodes = List.length p.nodes ∧ contLe (List.length p.nodes) (1 : Nat) (cellsOf' encI p.nodes) (cellsOf' encI p.nodes)) ∧ p.src = p.src ∧ p.dst = p.dst ∧ p.step = p.step ∧ True) ∧ True) ∧ True ∧ Plan.Ok p ∧ ((!isPlan p) = true → (isPlan p = true → (False ∧ (191 : Int) = (0 : Int) ∧ True) ∧ False) ∧ (isPlan p = false → (True ∧ (191 : Int) = (191 : Int) ∧ True) ∧ True)) ∧ ((!isPlan p) = false → (p.kind = p.kind ∧ True) ∧ True ∧ ((p.kind == (3 : Int)) = true → ((p.id = p.id ∧ p.kind = p.kind ∧ p.topic = p.topic ∧ p.group = p.group ∧ p.other = p.other ∧ p.key = p.key ∧ (b = b ∧ List.length p.into = List.length p.into ∧ contLe (List.length p.into) (1 : Nat) (cellsOf' encU p.into) (cellsOf' encU p.into)) ∧ (b = b ∧ List.length p.nodes = List.length p.nodes ∧ contLe (List.length p.nodes) (1 : Nat) (cellsOf' encI p.nodes) (cellsOf' encI p.nodes)) ∧ p.src = p.src ∧ p.dst = p.dst ∧ p.step = p.step ∧ True) ∧ ((c = c ∧ List.length s.frozen = List.length s.frozen ∧ contLe (List.length s.frozen) (1 : Nat) (cellsOf' encU s.frozen) (cellsOf' encU s.frozen)) ∧ (c = c ∧ List.length s.made = List.length s.made ∧ contLe (List.length s.made) (2 : Nat) (cellsOf' encS s.made) (cellsOf' encS s.made)) ∧ (c = c ∧ List.length s.gone = List.length s.gone ∧ contLe (List.length s.gone) (2 : Nat) (cellsOf' encS s.gone) (cellsOf' encS s.gone)) ∧ (d = d ∧ List.length s.voters = List.length s.voters ∧ contLe (List.length s.voters) (1 : Nat) (cellsOf' encI s.voters) (cellsOf' encI s.voters)) ∧ (d = d ∧ List.length s.learners = List.length s.learners ∧ contLe (List.length s.learners) (1 : Nat) (cellsOf' encI s.learners) (cellsOf' encI s.learners)) ∧ s.leader = s.leader ∧ s.ready = s.ready ∧ True) ∧ True) ∧ True ∧ Seen.Ok s ∧ (isPlan p = true → (((0 : Nat) = (0 : Nat) ∧ List.length (moveL p s) = List.length (askL p s)) ∧ (0 : Int) = (0 : Int) ∧ True) ∧ (List.length (moveL p s) = List.length (askL p s) ∧ contLe (List.length (moveL p s)) (6 : Nat) (cellsOf' encA (moveL p s)) (cellsOf' encA (askL p s))) ∧ True) ∧ (isPlan p = false → False)) ∧ ((p.kind == (3 : Int)) = false → ((p.step == (0 : Int)) = true → (((c = c ∧ List.length s.frozen = List.length s.frozen ∧ contLe (List.length s.frozen) (1 : Nat) (cellsOf' encU s.frozen) (cellsOf' encU s.frozen)) ∧ (c = c ∧ List.length s.made = List.length s.made ∧ contLe (List.length s.made) (2 : Nat) (cellsOf' encS s.made) (cellsOf' encS s.made)) ∧ (c = c ∧ List.length s.gone = List.length s.gone ∧ contLe (List.length s.gone) (2 : Nat) (cellsOf' encS s.gone) (cellsOf' encS s.gone)) ∧ (d = d ∧ List.length s.voters = List.length s.voters ∧ contLe (List.length s.voters) (1 : Nat) (cellsOf' encI s.voters) (cellsOf' encI s.voters)) ∧ (d = d ∧ List.length s.learners = List.length s.learners ∧ contLe (List.length s.learners) (1 : Nat) (cellsOf' encI s.learners) (cellsOf' encI s.learners)) ∧ s.leader = s.leader ∧ s.ready = s.ready ∧ True) ∧ p.group = p.group ∧ True) ∧ True ∧ Seen.Ok s ∧ ((p.id = p.id ∧ p.kind = p.kind ∧ p.topic = p.topic ∧ p.group = p.group ∧ p.other = p.other ∧ p.key = p.key ∧ (b = b ∧ List.length p.into = List.length p.into ∧ contLe (List.length p.into) (1 : Nat) (cellsOf' encU p.into) (cellsOf' encU p.into)) ∧ (b = b ∧ List.length p.nodes = List.length p.nodes ∧ contLe (List.length p.nodes) (1 : Nat) (cellsOf' encI p.nodes) (cellsOf' encI p.nodes)) ∧ p.src = p.src ∧ p.dst = p.dst ∧ p.step = p.step ∧ True) ∧ inI s.frozen p.group = inI s.frozen p.group ∧ ((2 : Int) = (2 : Int) ∧ p.group = p.group ∧ (0 : Int) = (0 : Int) ∧ (0 : Int) = (0 : Int) ∧ (0 : Int) = (0 : Int) ∧ (0 : Int) = (0 : Int) ∧ True) ∧ True) ∧ True ∧ (isPlan p = true → (((0 : Nat) = (0 : Nat) ∧ List.length (doneL p (inI s.frozen p.group) { kind := (2 : Int), group := p.group, node := (0 : Int), step := (0 : Int), ck := (0 : Int), cn := (0 : Int) }) = List.length (askL p s)) ∧ (0 : Int) = (0 : Int) ∧ True) ∧ (List.length (doneL p (inI s.frozen p.group) { kind := (2 : Int), group := p.group, node := (0 : Int), step := (0 : Int), ck := (0 : Int), cn := (0 : Int) }) = List.length (askL p s) ∧ contLe (List.length (doneL p (inI s.frozen p.group) { kind := (2 : Int), group := p.group, node := (0 : Int), step := (0 : Int), ck := (0 : Int), cn := (0 : Int) })) (6 : Nat) (cellsOf' encA (doneL p (inI s.frozen p.group) { kind := (2 : Int), group := p.group, node := (0 : Int), step := (0 : Int), ck := (0 : Int), cn := (0 : Int) })) (cellsOf' encA (askL p s))) ∧ True) ∧ (isPlan p = false → False)) ∧ ((p.step == (0 : Int)) = false → ((!p.kind == (1 : Int)) = true → ((p.step == (1 : Int)) = true → (((c = c ∧ List.length s.frozen = List.length s.frozen ∧ contLe (List.length s.frozen) (1 : Nat) (cellsOf' encU s.frozen) (cellsOf' encU s.frozen)) ∧ (c = c ∧ List.length s.made = List.length s.made ∧ contLe (List.length s.made) (2 : Nat) (cellsOf' encS s.made) (cellsOf' encS s.made)) ∧ (c = c ∧ List.length s.gone = List.length s.gone ∧ contLe (List.length s.gone) (2 : Nat) (cellsOf' encS s.gone) (cellsOf' encS s.gone)) ∧ (d = d ∧ List.length s.voters = List.length s.voters ∧ contLe (List.length s.voters) (1 : Nat) (cellsOf' encI s.voters) (cellsOf' encI s.voters)) ∧ (d = d ∧ List.length s.learners = List.length s.learners ∧ contLe (List.length s.learners) (1 : Nat) (cellsOf' encI s.learners) (cellsOf' encI s.learners)) ∧ s.leader = s.leader ∧ s.ready = s.ready ∧ True) ∧ p.other = p.other ∧ True) ∧ True ∧ Seen.Ok s ∧ ((p.id = p.id ∧ p.kind = p.kind ∧ p.topic = p.topic ∧ p.group = p.group ∧ p.other = p.other ∧ p.key = p.key ∧ (b = b ∧ List.length p.into = List.length p.into ∧ contLe (List.length p.into) (1 : Nat) (cellsOf' encU p.into) (cellsOf' encU p.into)) ∧ (b = b ∧ List.length p.nodes = List.length p.nodes ∧ contLe (List.length p.nodes) (1 : Nat) (cellsOf' encI p.nodes) (cellsOf' encI p.nodes)) ∧ p.src = p.src ∧ p.dst = p.dst ∧ p.step = p.step ∧ True) ∧ inI s.frozen p.other = inI s.frozen p.other ∧ ((2 : Int) = (2 : Int) ∧ p.other = p.other ∧ (0 : Int) = (0 : Int) ∧ (0 : Int) = (0 : Int) ∧ (0 : Int) = (0 : Int) ∧ (0 : Int) = (0 : Int) ∧ True) ∧ True) ∧ True ∧ (isPlan p = true → (((0 : Nat) = (0 : Nat) ∧ List.length (doneL p (inI s.frozen p.other) { kind := (2 : Int), group := p.other, node := (0 : Int), step := (0 : Int), ck := (0 : Int), cn := (0 : Int) }) = List.length (askL p s)) ∧ (0 : Int) = (0 : Int) ∧ True) ∧ (List.length (doneL p (inI s.frozen p.other) { kind := (2 : Int), group := p.other, node := (0 : Int), step := (0 : Int), ck := (0 : Int), cn := (0 : Int) }) = List.length (askL p s) ∧ contLe (List.length (doneL p (inI s.frozen p.other) { kind := (2 : Int), group := p.other, node := (0 : Int), step := (0 : Int), ck := (0 : Int), cn := (0 : Int) })) (6 : Nat) (cellsOf' encA (doneL p (inI s.frozen p.other) { kind := (2 : Int), group := p.other, node := (0 : Int), step := (0 : Int), ck := (0 : Int), cn := (0 : Int) })) (cellsOf' encA (askL p s))) ∧ True) ∧ (isPlan p = false → False)) ∧ ((p.step == (1 : Int)) = false → ((IntKind.wrap IntKind.i64 (stepsOf p.kind - p.step) == (3 : Int)) = true → ((p.id = p.id ∧ p.kind = p.kind ∧ p.topic = p.topic ∧ p.group = p.group ∧ p.other = p.other ∧ p.key = p.key ∧ (b = b ∧ List.length p.into = List.length p.into ∧ contLe (List.length p.into) (1 : Nat) (cellsOf' encU p.into) (cellsOf' encU p.into)) ∧ (b = b ∧ List.length p.nodes = List.length p.nodes ∧ contLe (List.length p.nodes) (1 : Nat) (cellsOf' encI p.nodes) (cellsOf' encI p.nodes)) ∧ p.src = p.src ∧ p.dst = p.dst ∧ p.step = p.step ∧ True) ∧ (b = b ∧ List.length p.into = List.length p.into ∧ contLe (List.length p.into) (1 : Nat) (cellsOf' encU p.into) (cellsOf' encU p.into)) ∧ (c = c ∧ List.length s.made = List.length s.made ∧ contLe (List.length s.made) (2 : Nat) (cellsOf' encS s.made) (cellsOf' encS s.made)) ∧ (3 : Int) = (3 : Int) ∧ True) ∧ True ∧ SiP.Ok (xA b c p s) ∧ (isPlan p = true → (((0 : Nat) = (0 : Nat) ∧ List.length (sitesL s.made (3 : Int) p p.into) = List.length (askL p s)) ∧ (0 : Int) = (0 : Int) ∧ True) ∧ (List.length (sitesL s.made (3 : Int) p p.into) = List.length (askL p s) ∧ contLe (List.length (sitesL s.made (3 : Int) p p.into)) (6 : Nat) (cellsOf' encA (sitesL s.made (3 : Int) p p.into)) (cellsOf' encA (askL p s))) ∧ True) ∧ (isPlan p = false → False)) ∧ ((IntKind.wrap IntKind.i64 (stepsOf p.kind - p.step) == (3 : Int)) = false → ((IntKind.wrap IntKind.i64 (stepsOf p.kind - p.step) == (2 : Int)) = true → ((p.id = p.id ∧ p.kind = p.kind ∧ p.topic = p.topic ∧ p.group = p.group ∧ p.other = p.other ∧ p.key = p.key ∧ (b = b ∧ List.length p.into = List.length p.into ∧ contLe (List.length p.into) (1 : Nat) (cellsOf' encU p.into) (cellsOf' encU p.into)) ∧ (b = b ∧ List.length p.nodes = List.length p.nodes ∧ contLe (List.length p.nodes) (1 : Nat) (cellsOf' encI p.nodes) (cellsOf' encI p.nodes)) ∧ p.src = p.src ∧ p.dst = p.dst ∧ p.step = p.step ∧ True) ∧ true = true ∧ ((0 : Int) = (0 : Int) ∧ (0 : Int) = (0 : Int) ∧ (0 : Int) = (0 : Int) ∧ (0 : Int) = (0 : Int) ∧ (0 : Int) = (0 : Int) ∧ (0 : Int) = (0 : Int) ∧ True) ∧ True) ∧ True ∧ (isPlan p = true → (((0 : Nat) = (0 : Nat) ∧ List.length [stepA p] = List.length (askL p s)) ∧ (0 : Int) = (0 : Int) ∧ True) ∧ (List.length [stepA p] = List.length (askL p s) ∧ contLe (List.length [stepA p]) (6 : Nat) (cellsOf' encA [stepA p]) (cellsOf' encA (askL p s))) ∧ True) ∧ (isPlan p = false → False)) ∧ ((IntKind.wrap IntKind.i64 (stepsOf p.kind - p.step) == (2 : Int)) = false → ((!p.kind == (1 : Int)) = true → ((p.id = p.id ∧ p.kind = p.kind ∧ p.topic = p.topic ∧ p.group = p.group ∧ p.other = p.other ∧ p.key = p.key ∧ (b = b ∧ List.length p.into = List.length p.into ∧ contLe (List.length p.into) (1 : Nat) (cellsOf' encU p.into) (cellsOf' encU p.into)) ∧ (b = b ∧ List.length p.nodes = List.length p.nodes ∧ contLe (List.length p.nodes) (1 : Nat) (cellsOf' encI p.nodes) (cellsOf' encI p.nodes)) ∧ p.src = p.src ∧ p.dst = p.dst ∧ p.step = p.step ∧ True) ∧ (false = false ∧ (2 : Nat) = List.length (olds p) ∧ contLe (2 : Nat) (1 : Nat) (fun (k j : Nat) => Ax.get [AV.y (Value.int IntKind.u64 p.group), AV.y (Value.int IntKind.u64 p.other)] (((0 : Nat) + k) * (1 : Nat) + j)) (cellsOf' encU (olds p))) ∧ (c = c ∧ List.length s.gone = List.length s.gone ∧ contLe (List.length s.gone) (2 : Nat) (cellsOf' encS s.gone) (cellsOf' encS s.gone)) ∧ (5 : Int) = (5 : Int) ∧ True) ∧ True ∧ SiP.Ok { b := b, c := false, d := c, p := p, gs := olds p, l := s.gone, kind := (5 : Int) } ∧ true = true ∧ ((∀ (k : Nat), k < List.length (sitesL s.gone (5 : Int) p (olds p)) → ∀ (j : Nat), j < (6 : Nat) → tagT (cellsOf' encA (sitesL s.gone (5 : Int) p (olds p)) k j) = true) ∧ True) ∧ (isPlan p = true → (((0 : Nat) = (0 : Nat) ∧ List.length (sitesL s.gone (5 : Int) p (olds p)) = List.length (askL p s)) ∧ (0 : Int) = (0 : Int) ∧ True) ∧ (List.length (sitesL s.gone (5 : Int) p (olds p)) = List.length (askL p s) ∧ contLe (List.length (sitesL s.gone (5 : Int) p (olds p))) (6 : Nat) (cellsOf' encA (sitesL s.gone (5 : Int) p (olds p))) (cellsOf' encA (askL p s))) ∧ True) ∧ (isPlan p = false → False)) ∧ ((!p.kind == (1 : Int)) = false → ((p.id = p.id ∧ p.kind = p.kind ∧ p.topic = p.topic ∧ p.group = p.group ∧ p.other = p.other ∧ p.key = p.key ∧ (b = b ∧ List.length p.into = List.length p.into ∧ contLe (List.length p.into) (1 : Nat) (cellsOf' encU p.into) (cellsOf' encU p.into)) ∧ (b = b ∧ List.length p.nodes = List.length p.nodes ∧ contLe (List.length p.nodes) (1 : Nat) (cellsOf' encI p.nodes) (cellsOf' encI p.nodes)) ∧ p.src = p.src ∧ p.dst = p.dst ∧ p.step = p.step ∧ True) ∧ (false = false ∧ (1 : Nat) = List.length (olds p) ∧ contLe (1 : Nat) (1 : Nat) (fun (k j : Nat) => Ax.get [AV.y (Value.int IntKind.u64 p.group)] (((0 : Nat) + k) * (1 : Nat) + j)) (cellsOf' encU (olds p))) ∧ (c = c ∧ List.length s.gone = List.length s.gone ∧ contLe (List.length s.gone) (2 : Nat) (cellsOf' encS s.gone) (cellsOf' encS s.gone)) ∧ (5 : Int) = (5 : Int) ∧ True) ∧ True ∧ SiP.Ok { b := b, c := false, d := c, p := p, gs := olds p, l := s.gone, kind := (5 : Int) } ∧ true = true ∧ ((∀ (k : Nat), k < List.length (sitesL s.gone (5 : Int) p (olds p)) → ∀ (j : Nat), j < (6 : Nat) → tagT (cellsOf' encA (sitesL s.gone (5 : Int) p (olds p)) k j) = true) ∧ True) ∧ (isPlan p = true → (((0 : Nat) = (0 : Nat) ∧ List.length (sitesL s.gone (5 : Int) p (olds p)) = List.length (askL p s)) ∧ (0 : Int) = (0 : Int) ∧ True) ∧ (List.length (sitesL s.gone (5 : Int) p (olds p)) = List.length (askL p s) ∧ contLe (List.length (sitesL s.gone (5 : Int) p (olds p))) (6 : Nat) (cellsOf' encA (sitesL s.gone (5 : Int) p (olds p))) (cellsOf' encA (askL p s))) ∧ True) ∧ (isPlan p = false → False)))))) ∧ ((!p.kind == (1 : Int)) = false → ((IntKind.wrap IntKind.i64 (stepsOf p.kind - p.step) == (3 : Int)) = true → ((p.id = p.id ∧ p.kind = p.kind ∧ p.topic = p.topic ∧ p.group = p.group ∧ p.other = p.other ∧ p.key = p.key ∧ (b = b ∧ List.length p.into = List.length p.into ∧ contLe (List.length p.into) (1 : Nat) (cellsOf' encU p.into) (cellsOf' encU p.into)) ∧ (b = b ∧ List.length p.nodes = List.length p.nodes ∧ contLe (List.length p.nodes) (1 : Nat) (cellsOf' encI p.nodes) (cellsOf' encI p.nodes)) ∧ p.src = p.src ∧ p.dst = p.dst ∧ p.step = p.step ∧ True) ∧ (b = b ∧ List.length p.into = List.length p.into ∧ contLe (List.length p.into) (1 : Nat) (cellsOf' encU p.into) (cellsOf' encU p.into)) ∧ (c = c ∧ List.length s.made = List.length s.made ∧ contLe (List.length s.made) (2 : Nat) (cellsOf' encS s.made) (cellsOf' encS s.made)) ∧ (3 : Int) = (3 : Int) ∧ True) ∧ True ∧ SiP.Ok (xA b c p s) ∧ (isPlan p = true → (((0 : Nat) = (0 : Nat) ∧ List.length (sitesL s.made (3 : Int) p p.into) = List.length (askL p s)) ∧ (0 : Int) = (0 : Int) ∧ True) ∧ (List.length (sitesL s.made (3 : Int) p p.into) = List.length (askL p s) ∧ contLe (List.length (sitesL s.made (3 : Int) p p.into)) (6 : Nat) (cellsOf' encA (sitesL s.made (3 : Int) p p.into)) (cellsOf' encA (askL p s))) ∧ True) ∧ (isPlan p = false → False)) ∧ ((IntKind.wrap IntKind.i64 (stepsOf p.kind - p.step) == (3 : Int)) = false → ((IntKind.wrap IntKind.i64 (stepsOf p.kind - p.step) == (2 : Int)) = true → ((p.id = p.id ∧ p.kind = p.kind ∧ p.topic = p.topic ∧ p.group = p.group ∧ p.other = p.other ∧ p.key = p.key ∧ (b = b ∧ List.length p.into = List.length p.into ∧ contLe (List.length p.into) (1 : Nat) (cellsOf' encU p.into) (cellsOf' encU p.into)) ∧ (b = b ∧ List.length p.nodes = List.length p.nodes ∧ contLe (List.length p.nodes) (1 : Nat) (cellsOf' encI p.nodes) (cellsOf' encI p.nodes)) ∧ p.src = p.src ∧ p.dst = p.dst ∧ p.step = p.step ∧ True) ∧ true = true ∧ ((0 : Int) = (0 : Int) ∧ (0 : Int) = (0 : Int) ∧ (0 : Int) = (0 : Int) ∧ (0 : Int) = (0 : Int) ∧ (0 : Int) = (0 : Int) ∧ (0 : Int) = (0 : Int) ∧ True) ∧ True) ∧ True ∧ (isPlan p = true → (((0 : Nat) = (0 : Nat) ∧ List.length [stepA p] = List.length (askL p s)) ∧ (0 : Int) = (0 : Int) ∧ True) ∧ (List.length [stepA p] = List.length (askL p s) ∧ contLe (List.length [stepA p]) (6 : Nat) (cellsOf' encA [stepA p]) (cellsOf' encA (askL p s))) ∧ True) ∧ (isPlan p = false → False)) ∧ ((IntKind.wrap IntKind.i64 (stepsOf p.kind - p.step) == (2 : Int)) = false → ((!p.kind == (1 : Int)) = true → ((p.id = p.id ∧ p.kind = p.kind ∧ p.topic = p.topic ∧ p.group = p.group ∧ p.other = p.other ∧ p.key = p.key ∧ (b = b ∧ List.length p.into = List.length p.into ∧ contLe (List.length p.into) (1 : Nat) (cellsOf' encU p.into) (cellsOf' encU p.into)) ∧ (b = b ∧ List.length p.nodes = List.length p.nodes ∧ contLe (List.length p.nodes) (1 : Nat) (cellsOf' encI p.nodes) (cellsOf' encI p.nodes)) ∧ p.src = p.src ∧ p.dst = p.dst ∧ p.step = p.step ∧ True) ∧ (false = false ∧ (2 : Nat) = List.length (olds p) ∧ contLe (2 : Nat) (1 : Nat) (fun (k j : Nat) => Ax.get [AV.y (Value.int IntKind.u64 p.group), AV.y (Value.int IntKind.u64 p.other)] (((0 : Nat) + k) * (1 : Nat) + j)) (cellsOf' encU (olds p))) ∧ (c = c ∧ List.length s.gone = List.length s.gone ∧ contLe (List.length s.gone) (2 : Nat) (cellsOf' encS s.gone) (cellsOf' encS s.gone)) ∧ (5 : Int) = (5 : Int) ∧ True) ∧ True ∧ SiP.Ok { b := b, c := false, d := c, p := p, gs := olds p, l := s.gone, kind := (5 : Int) } ∧ true = true ∧ ((∀ (k : Nat), k < List.length (sitesL s.gone (5 : Int) p (olds p)) → ∀ (j : Nat), j < (6 : Nat) → tagT (cellsOf' encA (sitesL s.gone (5 : Int) p (olds p)) k j) = true) ∧ True) ∧ (isPlan p = true → (((0 : Nat) = (0 : Nat) ∧ List.length (sitesL s.gone (5 : Int) p (olds p)) = List.length (askL p s)) ∧ (0 : Int) = (0 : Int) ∧ True) ∧ (List.length (sitesL s.gone (5 : Int) p (olds p)) = List.length (askL p s) ∧ contLe (List.length (sitesL s.gone (5 : Int) p (olds p))) (6 : Nat) (cellsOf' encA (sitesL s.gone (5 : Int) p (olds p))) (cellsOf' encA (askL p s))) ∧ True) ∧ (isPlan p = false → False)) ∧ ((!p.kind == (1 : Int)) = false → ((p.id = p.id ∧ p.kind = p.kind ∧ p.topic = p.topic ∧ p.group = p.group ∧ p.other = p.other ∧ p.key = p.key ∧ (b = b ∧ List.length p.into = List.length p.into ∧ contLe (List.length p.into) (1 : Nat) (cellsOf' encU p.into) (cellsOf' encU p.into)) ∧ (b = b ∧ List.length p.nodes = List.length p.nodes ∧ contLe (List.length p.nodes) (1 : Nat) (cellsOf' encI p.nodes) (cellsOf' encI p.nodes)) ∧ p.src = p.src ∧ p.dst = p.dst ∧ p.step = p.step ∧ True) ∧ (false = false ∧ (1 : Nat) = List.length (olds p) ∧ contLe (1 : Nat) (1 : Nat) (fun (k j : Nat) => Ax.get [AV.y (Value.int IntKind.u64 p.group)] (((0 : Nat) + k) * (1 : Nat) + j)) (cellsOf' encU (olds p))) ∧ (c = c ∧ List.length s.gone = List.length s.gone ∧ contLe (List.length s.gone) (2 : Nat) (cellsOf' encS s.gone) (cellsOf' encS s.gone)) ∧ (5 : Int) = (5 : Int) ∧ True) ∧ True ∧ SiP.Ok { b := b, c := false, d := c, p := p, gs := olds p, l := s.gone, kind := (5 : Int) } ∧ true = true ∧ ((∀ (k : Nat), k < List.length (sitesL s.gone (5 : Int) p (olds p)) → ∀ (j : Nat), j < (6 : Nat) → tagT (cellsOf' encA (sitesL s.gone (5 : Int) p (olds p)) k j) = true) ∧ True) ∧ (isPlan p = true → (((0 : Nat) = (0 : Nat) ∧ List.length (sitesL s.gone (5 : Int) p (olds p)) = List.length (askL p s)) ∧ (0 : Int) = (0 : Int) ∧ True) ∧ (List.length (sitesL s.gone (5 : Int) p (olds p)) = List.length (askL p s) ∧ contLe (List.length (sitesL s.gone (5 : Int) p (olds p))) (6 : Nat) (cellsOf' encA (sitesL s.gone (5 : Int) p (olds p))) (cellsOf' encA (askL p s))) ∧ True) ∧ (isPlan p = false → False))))))))
set_option maxRecDepth 1000000 in
theorem vcRn_eq (b : Bool) (c : Bool) (d : Bool) (p : Plan) (s : Seen) : (ctrVC Try.prog (rnH b c d p s) 13 [.agg (encPl b p), .agg (encSe c d s)] [] (nextR p s)) = vcRn b c d p s := by kernel_rfl
theorem rn_c (b c d : Bool) (p : Plan) (s : Seen) (hp : p.Ok) (hs : s.Ok) : (nextR p s).Sat (ACall' Try.prog 13 [.agg (encPl b p), .agg (encSe c d s)] []) := by
  refine ctr_vc (ht := rnH b c d p s) Try.mixed rfl ?_
  rw [vcRn_eq b c d p s]
  unfold vcRn
  simp [hp, hs]
  intro hi
  have h := isP hi
  have h1 := h.lo
  have h2 := h.hi
  have okA := isP_A (b := b) (c := c) hs h
  have okB : (⟨b, false, c, p, olds p, s.gone, 5⟩ : SiP).Ok := ⟨hs.gone, olds_le p, h.nodes⟩
  have tg := tagAs (sitesL s.gone 5 p (olds p))
  have s5 : stepsOf p.kind ≤ 5 := by unfold stepsOf; grind
  have w : IntKind.i64.wrap (stepsOf p.kind - p.step) = stepsOf p.kind - p.step := wrap_i64 (by omega) (by omega)
  have k123 : p.kind = 1 ∨ p.kind = 2 ∨ p.kind = 3 := by
    unfold stepsOf at h2; grind
  rw [w]
  by_cases k3 : p.kind = 3
  · have e : askL p s = moveL p s := by
      have e5 : stepsOf p.kind = 5 := by rw [k3]; rfl
      have : p.step = 0 ∨ p.step = 1 ∨ p.step = 2 ∨ p.step = 3 ∨ p.step = 4 := by omega
      rcases this with t | t | t | t | t <;> simp [askL, moveL, k3, t]
    rw [e]
    simp [k3, hi]
  · by_cases t0 : p.step = 0
    · have e : askL p s = frzL p s p.group := by simp [askL, k3, t0]
      rw [e]
      simp [k3, t0, hi, frzL]
    · by_cases k1 : p.kind = 1
      · have ol : olds p = [p.group] := by simp [olds, k1]
        have ol1 : (olds p).length = 1 := by rw [ol]; rfl
        have olc : contLe 1 1 (fun k j => Ax.get [AV.y (Value.int IntKind.u64 p.group)] (k + j)) (cellsOf' encU (olds p)) := by
          rw [ol]
          intro k hk j hj
          obtain rfl : j = 0 := by omega
          match k, hk with
          | 0, _ => exact le0_refl _
        have e : askL p s = if stepsOf p.kind - p.step = 3 then sitesL s.made 3 p p.into else if stepsOf p.kind - p.step = 2 then [stepA p] else sitesL s.gone 5 p (olds p) := by simp [askL, k1, t0]
        by_cases q3 : stepsOf p.kind - p.step = 3
        · rw [e, if_pos q3]
          simp [k1, t0, hi, okA]
          intro hh; rw [k1] at q3; exact absurd q3 hh
        · by_cases q2 : stepsOf p.kind - p.step = 2
          · rw [e, if_neg q3, if_pos q2]
            rw [k1] at q3 q2
            simp [k1, t0, hi, q2]
          · rw [e, if_neg q3, if_neg q2]
            rw [k1] at q3 q2
            simp [k1, t0, hi, q2, q3, okB, ol1, olc]
            exact tg
      · have k2 : p.kind = 2 := by omega
        have ol : olds p = [p.group, p.other] := by simp [olds, k2]
        have ol1 : (olds p).length = 2 := by rw [ol]; rfl
        have olc : contLe 2 1 (fun k j => Ax.get [AV.y (Value.int IntKind.u64 p.group), AV.y (Value.int IntKind.u64 p.other)] (k + j)) (cellsOf' encU (olds p)) := by
          rw [ol]
          intro k hk j hj
          obtain rfl : j = 0 := by omega
          match k, hk with
          | 0, _ => exact le0_refl _
          | 1, _ => exact le0_refl _
        by_cases t1 : p.step = 1
        · have e : askL p s = frzL p s p.other := by simp [askL, k2, t1]
          rw [e]
          simp [k2, t1, hi, frzL]
        · have e : askL p s = if stepsOf p.kind - p.step = 3 then sitesL s.made 3 p p.into else if stepsOf p.kind - p.step = 2 then [stepA p] else sitesL s.gone 5 p (olds p) := by simp [askL, k2, t0, t1]
          by_cases q3 : stepsOf p.kind - p.step = 3
          · rw [e, if_pos q3]
            rw [k2] at q3
            simp [k2, t0, t1, hi, okA, q3]
          · by_cases q2 : stepsOf p.kind - p.step = 2
            · rw [e, if_neg q3, if_pos q2]
              rw [k2] at q3 q2
              simp [k2, t0, t1, hi, q2]
            · rw [e, if_neg q3, if_neg q2]
              rw [k2] at q3 q2
              simp [k2, t0, t1, hi, q2, q3, okB, ol1, olc]
              exact tg
end Go.Proofs.Ytghhkabankbkoaa

/-! Plans: alike; Next, whole; lives; the law PlansNext: the loops. -/
namespace Go.Proofs.Ytghhkabankbkoaa
open Go.Ax
set_option maxRecDepth 1000000
/-! alike -/
def eqA (x y : Act) : Bool := x.kind == y.kind && (x.group == y.group && (x.node == y.node && (x.step == y.step && ((x.ck == y.ck && (x.cn == y.cn && true)) && true))))
theorem eqA_iff {x y : Act} : eqA x y = true ↔ x = y := by
  cases x; cases y
  simp [eqA]
def sameFrom (a b : List Act) (k : Nat) : Bool := (List.range' k (a.length - k)).all fun j => eqA (a.getD j default) (b.getD j default)
def sameP (a b : List Act) : Bool := a.length == b.length && sameFrom a b 0
theorem sameFrom_end {a b : List Act} {k : Nat} (h : a.length ≤ k) : sameFrom a b k = true := by
  unfold sameFrom
  rw [show a.length - k = 0 by omega]; rfl
theorem sameFrom_step {a b : List Act} {k : Nat} (h : k < a.length) : sameFrom a b k = (eqA (a.getD k default) (b.getD k default) && sameFrom a b (k + 1)) := by
  unfold sameFrom
  rw [show a.length - k = (a.length - (k + 1)) + 1 by omega, List.range'_succ]; rfl
theorem sameP_iff {a b : List Act} : sameP a b = true ↔ a = b := by
  unfold sameP sameFrom
  rw [Bool.and_eq_true, beq_iff_eq, List.all_eq_true]
  constructor
  · rintro ⟨h1, h2⟩
    refine List.ext_getElem h1 fun k h3 h4 => ?_
    have := eqA_iff.1 (h2 k (by simp; omega))
    simpa [h3, h4] using this
  · rintro rfl
    exact ⟨rfl, fun k _ => eqA_iff.2 rfl⟩
def smT (b1 b2 : Bool) (a b : List Act) (k : Nat) : List AV := mkT 26 [(0, encAs b1 a), (1, encAs b2 b), (4, .s (.bool false)), (5, .y (.int .i64 k))]
def smS (r : Bool) : Exit × List AV × List Blk := match r with
  | true => (.exit 0, mkT 26 [], [])
  | false => (.ret, mkT 26 [(4, .s (.bool false))], [])
def smO (a b : List Act) (k : Nat) : T Bool := .ite (sameFrom a b k) (.ret true) (.ret false)
def vcSameL (b1 : Bool) (b2 : Bool) (a : List Act) (b : List Act) (k : Nat) : Prop :=
  (decide ((↑k : Int) < (↑(List.length a) : Int)) = true → (true && decide ((↑k : Int) < (↑(List.length a) : Int))) = true ∧ (true && decide ((↑k : Int) < (↑(List.length b) : Int))) = true ∧ ((!((List.getD a (Int.toNat (↑k : Int)) (@default Act instInhabitedAct)).kind == (List.getD b (Int.toNat (↑k : Int)) (@default Act instInhabitedAct)).kind && ((List.getD a (Int.toNat (↑k : Int)) (@default Act instInhabitedAct)).group == (List.getD b (Int.toNat (↑k : Int)) (@default Act instInhabitedAct)).group && ((List.getD a (Int.toNat (↑k : Int)) (@default Act instInhabitedAct)).node == (List.getD b (Int.toNat (↑k : Int)) (@default Act instInhabitedAct)).node && ((List.getD a (Int.toNat (↑k : Int)) (@default Act instInhabitedAct)).step == (List.getD b (Int.toNat (↑k : Int)) (@default Act instInhabitedAct)).step && ((List.getD a (Int.toNat (↑k : Int)) (@default Act instInhabitedAct)).ck == (List.getD b (Int.toNat (↑k : Int)) (@default Act instInhabitedAct)).ck && ((List.getD a (Int.toNat (↑k : Int)) (@default Act instInhabitedAct)).cn == (List.getD b (Int.toNat (↑k : Int)) (@default Act instInhabitedAct)).cn && true) && true)))))) = true → (sameFrom a b k = true → False) ∧ (sameFrom a b k = false → (false = false ∧ True) ∧ True ∧ true = true)) ∧ ((!((List.getD a (Int.toNat (↑k : Int)) (@default Act instInhabitedAct)).kind == (List.getD b (Int.toNat (↑k : Int)) (@default Act instInhabitedAct)).kind && ((List.getD a (Int.toNat (↑k : Int)) (@default Act instInhabitedAct)).group == (List.getD b (Int.toNat (↑k : Int)) (@default Act instInhabitedAct)).group && ((List.getD a (Int.toNat (↑k : Int)) (@default Act instInhabitedAct)).node == (List.getD b (Int.toNat (↑k : Int)) (@default Act instInhabitedAct)).node && ((List.getD a (Int.toNat (↑k : Int)) (@default Act instInhabitedAct)).step == (List.getD b (Int.toNat (↑k : Int)) (@default Act instInhabitedAct)).step && ((List.getD a (Int.toNat (↑k : Int)) (@default Act instInhabitedAct)).ck == (List.getD b (Int.toNat (↑k : Int)) (@default Act instInhabitedAct)).ck && ((List.getD a (Int.toNat (↑k : Int)) (@default Act instInhabitedAct)).cn == (List.getD b (Int.toNat (↑k : Int)) (@default Act instInhabitedAct)).cn && true) && true)))))) = false → ∃ (j : Nat), List.length a - j < List.length a - k ∧ (((b1 = b1 ∧ List.length a = List.length a ∧ contLe (List.length a) (6 : Nat) (cellsOf' encA a) (cellsOf' encA a)) ∧ (b2 = b2 ∧ List.length b = List.length b ∧ contLe (List.length b) (6 : Nat) (cellsOf' encA b) (cellsOf' encA b)) ∧ false = false ∧ IntKind.wrap IntKind.i64 ((↑k : Int) + (1 : Int)) = (↑j : Int) ∧ True) ∧ True ∧ true = true) ∧ true = true ∧ (sameFrom a b j = true → (sameFrom a b k = true → true = true) ∧ (sameFrom a b k = false → true = false)) ∧ (sameFrom a b j = false → (sameFrom a b k = true → false = true) ∧ (sameFrom a b k = false → false = false)))) ∧ (decide ((↑k : Int) < (↑(List.length a) : Int)) = false → (sameFrom a b k = true → True ∧ True ∧ true = true) ∧ (sameFrom a b k = false → False))
set_option maxRecDepth 1000000 in
theorem vcSameL_eq (b1 : Bool) (b2 : Bool) (a : List Act) (b : List Act) (k : Nat) : (loopVC Try.prog (hT _) 11 4 (fun k => a.length - k) (smT b1 b2 a b) (fun _ => []) [] (smO a b) smS k) = vcSameL b1 b2 a b k := by kernel_rfl
theorem same_loop (b1 b2 : Bool) (a b : List Act) (hl : a.length ≤ 9223372036854775806) (he : a.length = b.length) (k : Nat) : LoopOk Try.prog 11 4 (loopAt Try.prog 11 4) ⟨smT b1 b2 a b k, [], []⟩ ((smO a b k).map (lout [] smS)) := by
  refine loop_vc Try.mixed (fun _ => rfl) (fun k => (vcSameL_eq b1 b2 a b k).mpr ?_) k
  unfold vcSameL
  simp
  refine ⟨fun h => ?_, fun h => by simp [sameFrom_end h]⟩
  rw [sameFrom_step h]
  simp (disch := omega) only [wrap_i64]
  simp [eqA, cast_succ_eq]
  generalize a[k]?.getD default = x
  generalize b[k]?.getD default = y
  grind
def smR (a b : List Act) : T An := .ret (.y (.bool (sameP a b)), [], [])
noncomputable def smH (b1 b2 : Bool) (a b : List Act) : HintsT Try.prog := hh _ (lp1 11 4 (jobOf (smT b1 b2 a b) (fun _ => []) [] (smO a b) smS 0) noLp) noCs noOp
def vcSame (b1 : Bool) (b2 : Bool) (a : List Act) (b : List Act) : Prop :=
  (((↑(List.length a) : Int) != (↑(List.length b) : Int)) = true → false = sameP a b ∧ True) ∧ (((↑(List.length a) : Int) != (↑(List.length b) : Int)) = false → (((b1 = b1 ∧ List.length a = List.length a ∧ contLe (List.length a) (6 : Nat) (cellsOf' encA a) (cellsOf' encA a)) ∧ (b2 = b2 ∧ List.length b = List.length b ∧ contLe (List.length b) (6 : Nat) (cellsOf' encA b) (cellsOf' encA b)) ∧ false = false ∧ (0 : Int) = (0 : Int) ∧ True) ∧ True ∧ true = true) ∧ LoopOk Try.prog (11 : Nat) (4 : Nat) (loopAt Try.prog (11 : Nat) (4 : Nat)) { t := smT b1 b2 a b (0 : Nat), m := [], mv := [] } (T.map (lout [] smS) (smO a b (0 : Nat))) ∧ (sameFrom a b (0 : Nat) = true → true = sameP a b ∧ True) ∧ (sameFrom a b (0 : Nat) = false → false = sameP a b ∧ True))
set_option maxRecDepth 1000000 in
theorem vcSame_eq (b1 : Bool) (b2 : Bool) (a : List Act) (b : List Act) : (ctrVC Try.prog (smH b1 b2 a b) 11 [encAs b1 a, encAs b2 b] [] (smR a b)) = vcSame b1 b2 a b := by kernel_rfl
theorem same_c (b1 b2 : Bool) (a b : List Act) (hl : a.length ≤ 9223372036854775806) : (smR a b).Sat (ACall' Try.prog 11 [encAs b1 a, encAs b2 b] []) := by
  refine ctr_vc (ht := smH b1 b2 a b) Try.mixed rfl ?_
  rw [vcSame_eq b1 b2 a b]
  unfold vcSame
  by_cases he : a.length = b.length
  · have := same_loop b1 b2 a b hl he 0
    simp [sameP, he, this]
  · have he' : ¬ ((a.length : Int) = b.length) := by omega
    simp [sameP, he, he']
noncomputable def sameC' (b1 b2 : Bool) (a b : List Act) (hl : a.length ≤ 9223372036854775806) : Ctr Try.prog := ⟨11, [encAs b1 a, encAs b2 b], [], smR a b, same_c b1 b2 a b hl⟩
noncomputable def sameN (b1 b2 : Bool) (a b : List Act) : Ctr Try.prog := ⟨11, [encAs b1 a, encAs b2 b], [], .need (a.length ≤ 9223372036854775806) (smR a b), T.Sat.need fun h => same_c b1 b2 a b h⟩
theorem next_r (b c d : Bool) (p : Plan) (s : Seen) (hp : p.Ok) (hs : s.Ok) : (nextR p s).Sat (ACall' Try.prog 9 [.agg (encPl b p), .agg (encSe c d s)] []) :=
  T.Sat.ite (fun h => next_y b c d p s hp hs h) (fun h => next0_c b c d p s hp h)
def nextB (i : Bool) (p : Plan) (s : Seen) : T An := match i with | true => nextY (askL p s) | false => nextN
theorem next_b {i : Bool} {p : Plan} {s : Seen} {P : An → Prop} (h : (nextR p s).Sat P) (e : isPlan p = i) : (nextB i p s).Sat P := by
  cases i
  · exact fun Q hq => h Q ⟨fun h' => (by rw [e] at h'; cases h'), fun _ => hq⟩
  · exact fun Q hq => h Q ⟨fun _ => hq, fun h' => (by rw [e] at h'; cases h')⟩
noncomputable def nextC (i b c d : Bool) (p : Plan) (s : Seen) : Ctr Try.prog := ⟨9, [.agg (encPl b p), .agg (encSe c d s)], [], .need (p.Ok ∧ s.Ok ∧ isPlan p = i) (nextB i p s), T.Sat.need fun h => next_b (next_r b c d p s h.1 h.2.1) h.2.2⟩
noncomputable def rnC (i b c d : Bool) (p : Plan) (s : Seen) : Ctr Try.prog := ⟨13, [.agg (encPl b p), .agg (encSe c d s)], [], .need (p.Ok ∧ s.Ok ∧ isPlan p = i) (nextB i p s), T.Sat.need fun h => next_b (rn_c b c d p s h.1 h.2.1) h.2.2⟩
noncomputable def stC (k : Int) : Ctr Try.prog := ⟨12, [.y (.int .i64 k)], [], intR (stepsOf k), st_c k⟩
/-! lives -/
def emptyB : ByteArray := ByteArray.empty
def splitP : Plan := ⟨1, 1, emptyB, 1, 0, emptyB, [2, 3], [1, 2, 3], 0, 0, 0⟩
def noneS : Seen := ⟨[], [], [], [], [], 0, false⟩
noncomputable def livH : HintsT Try.prog := hh _ noLp (cs1 8 1 2 (nextC true false true true splitP noneS) (cs1 8 2 22 (stC 3) noCs)) noOp
def vcLives (u : Unit) : Prop :=
  (((1 : Int) = (1 : Int) ∧ (1 : Int) = (1 : Int) ∧ { data := #[] } = emptyB ∧ (1 : Int) = (1 : Int) ∧ (0 : Int) = (0 : Int) ∧ { data := #[] } = emptyB ∧ (false = false ∧ (2 : Nat) = (2 : Nat) ∧ contLe (2 : Nat) (1 : Nat) (fun (k j : Nat) => Ax.get [AV.s (Value.int IntKind.u64 (2 : Int)), AV.s (Value.int IntKind.u64 (3 : Int))] (((0 : Nat) + k) * (1 : Nat) + j)) (cellsOf' encU [(2 : Int), (3 : Int)])) ∧ (false = false ∧ (3 : Nat) = (3 : Nat) ∧ contLe (3 : Nat) (1 : Nat) (fun (k j : Nat) => Ax.get [AV.s (Value.int IntKind.i64 (1 : Int)), AV.s (Value.int IntKind.i64 (2 : Int)), AV.s (Value.int IntKind.i64 (3 : Int))] (((0 : Nat) + k) * (1 : Nat) + j)) (cellsOf' encI [(1 : Int), (2 : Int), (3 : Int)])) ∧ (0 : Int) = (0 : Int) ∧ (0 : Int) = (0 : Int) ∧ (0 : Int) = (0 : Int) ∧ True) ∧ ((0 : Nat) = (0 : Nat) ∧ (0 : Nat) = (0 : Nat) ∧ (0 : Nat) = (0 : Nat) ∧ (0 : Nat) = (0 : Nat) ∧ (0 : Nat) = (0 : Nat) ∧ (0 : Int) = (0 : Int) ∧ false = false ∧ True) ∧ True) ∧ True ∧ (Plan.Ok splitP ∧ Seen.Ok noneS ∧ true = true) ∧ true = true ∧ ((∀ (k : Nat), k < (1 : Nat) → ∀ (j : Nat), j < (6 : Nat) → tagT (cellsOf' encA [{ kind := (2 : Int), group := (1 : Int), node := (0 : Int), step := (0 : Int), ck := (0 : Int), cn := (0 : Int) }] k j) = true) ∧ True) ∧ (true = true → true = true ∧ true = true ∧ (true = true → true = true ∧ true = true ∧ (true = true → ((3 : Int) = (3 : Int) ∧ True) ∧ True ∧ true = true ∧ True) ∧ (true = false → false = true ∧ True)) ∧ (true = false → false = true ∧ True)) ∧ (true = false → false = true ∧ True)
set_option maxRecDepth 1000000 in
theorem vcLives_eq (u : Unit) : (ctrVC Try.prog livH 8 [] [] (boolR true)) = vcLives u := by kernel_rfl
theorem lives_c : (boolR true).Sat (ACall' Try.prog 8 [] []) := by
  refine ctr_vc (ht := livH) Try.mixed rfl ?_
  rw [vcLives_eq ()]
  unfold vcLives
  simp
  refine ⟨⟨rfl, fun k hk j hj => ?_, fun k hk j hj => ?_⟩, ⟨⟨by decide, by decide⟩, ⟨by decide, by decide, by decide, by decide, by decide⟩⟩, fun j hj => tagA _ j hj⟩
  · obtain rfl : j = 0 := by omega
    match k, hk with
    | 0, _ => simp [cellsOf', encU]
    | 1, _ => simp [cellsOf', encU]
  · obtain rfl : j = 0 := by omega
    match k, hk with
    | 0, _ => simp [cellsOf', encI]
    | 1, _ => simp [cellsOf', encI]
    | 2, _ => simp [cellsOf', encI]
noncomputable def livesC : Ctr Try.prog := ⟨8, [], [], boolR true, lives_c⟩
end Go.Proofs.Ytghhkabankbkoaa

/-! Plans: the law PlansNext: the loops. -/
namespace Go.Proofs.Ytghhkabankbkoaa
open Go.Ax
set_option maxRecDepth 1000000
def bumpA (x : Act) : Act := ⟨x.kind, IntKind.u64.wrap (x.group + 1), x.node, x.step, x.ck, x.cn⟩
def bumpL (l : List Act) (k : Nat) : List Act := (l.take k).map bumpA ++ l.drop k
def pnM (p : Plan) (s : Seen) : List Blk := [.box 32 (encPl true p), .box 38 (encSe true true s), .row 27 1 p.into.length none (cellsOf' encU p.into), .row 3 1 p.nodes.length none (cellsOf' encI p.nodes)]
def pnB (p : Plan) (q : Int) (l : List (Nat × AV)) : List AV := mkT 110 ([(2, .y (.int .i64 q)), (3, .ptr 0 0 0 0), (7, .y (.bool true)), (8, .own 2 1 0 p.into.length), (9, .own 3 1 0 p.nodes.length)] ++ l)
def pnE (e : Int) : List (Nat × AV) := [(11, .y (.int .i64 e)), (13, .y (.int .i64 e)), (14, .y (.bool true))]
/-- the first loop: over what is asked for -/
def p1T (p : Plan) (s : Seen) (q : Int) (k : Nat) : List AV := pnB p q (pnE 0 ++ [(10, .own 4 6 0 (askL p s).length), (15, .y (.int .i64 k))])
def p1M (p : Plan) (s : Seen) (k : Nat) : List Blk := pnM p s ++ [rowB (bumpL (askL p s) k)]
def p1S (p : Plan) (s : Seen) (q : Int) (_ : Unit) : Exit × List AV × List Blk := (.exit 0, pnB p q (pnE 0), pnM p s)
def vcP1 (p : Plan) (s : Seen) (q : Int) (k : Nat) : Prop :=
  (decide ((↑k : Int) < (↑(List.length (askL p s)) : Int)) = true → (true && decide ((↑k : Int) < (↑(List.length (askL p s)) : Int))) = true ∧ decide ((0 : Nat) + Int.toNat (↑k : Int) < List.length (bumpL (askL p s) k)) = true ∧ (true && decide ((↑k : Int) < (↑(List.length (askL p s)) : Int))) = true ∧ decide ((0 : Nat) + Int.toNat (↑k : Int) < List.length (bumpL (askL p s) k)) = true ∧ ∃ (j : Nat), List.length (askL p s) - j < List.length (askL p s) - k ∧ ((q = q ∧ ((0 : Nat) = (0 : Nat) ∧ (0 : Nat) = (0 : Nat)) ∧ true = true ∧ ((0 : Nat) = (0 : Nat) ∧ List.length p.into = List.length p.into) ∧ ((0 : Nat) = (0 : Nat) ∧ List.length p.nodes = List.length p.nodes) ∧ ((0 : Nat) = (0 : Nat) ∧ List.length (askL p s) = List.length (askL p s)) ∧ (0 : Int) = (0 : Int) ∧ (0 : Int) = (0 : Int) ∧ true = true ∧ IntKind.wrap IntKind.i64 ((↑k : Int) + (1 : Int)) = (↑j : Int) ∧ True) ∧ ((p.id = p.id ∧ p.kind = p.kind ∧ p.topic = p.topic ∧ p.group = p.group ∧ p.other = p.other ∧ p.key = p.key ∧ (true = true ∧ List.length p.into = List.length p.into ∧ contLe (List.length p.into) (1 : Nat) (cellsOf' encU p.into) (cellsOf' encU p.into)) ∧ (true = true ∧ List.length p.nodes = List.length p.nodes ∧ contLe (List.length p.nodes) (1 : Nat) (cellsOf' encI p.nodes) (cellsOf' encI p.nodes)) ∧ p.src = p.src ∧ p.dst = p.dst ∧ p.step = p.step ∧ True) ∧ ((true = true ∧ List.length s.frozen = List.length s.frozen ∧ contLe (List.length s.frozen) (1 : Nat) (cellsOf' encU s.frozen) (cellsOf' encU s.frozen)) ∧ (true = true ∧ List.length s.made = List.length s.made ∧ contLe (List.length s.made) (2 : Nat) (cellsOf' encS s.made) (cellsOf' encS s.made)) ∧ (true = true ∧ List.length s.gone = List.length s.gone ∧ contLe (List.length s.gone) (2 : Nat) (cellsOf' encS s.gone) (cellsOf' encS s.gone)) ∧ (true = true ∧ List.length s.voters = List.length s.voters ∧ contLe (List.length s.voters) (1 : Nat) (cellsOf' encI s.voters) (cellsOf' encI s.voters)) ∧ (true = true ∧ List.length s.learners = List.length s.learners ∧ contLe (List.length s.learners) (1 : Nat) (cellsOf' encI s.learners) (cellsOf' encI s.learners)) ∧ s.leader = s.leader ∧ s.ready = s.ready ∧ True) ∧ (List.length p.into = List.length p.into ∧ contLe (List.length p.into) (1 : Nat) (cellsOf' encU p.into) (cellsOf' encU p.into)) ∧ (List.length p.nodes = List.length p.nodes ∧ contLe (List.length p.nodes) (1 : Nat) (cellsOf' encI p.nodes) (cellsOf' encI p.nodes)) ∧ (List.length (bumpL (askL p s) k) = List.length (bumpL (askL p s) j) ∧ contLe (List.length (bumpL (askL p s) k)) (6 : Nat) (wrRow (cellsOf' encA (bumpL (askL p s) k)) ((0 : Nat) + Int.toNat (↑k : Int)) (1 : Nat) [AV.y (Value.int IntKind.u64 (IntKind.wrap IntKind.u64 ((List.getD (bumpL (askL p s) k) ((0 : Nat) + Int.toNat (↑k : Int)) (@default Act instInhabitedAct)).group + (1 : Int))))]) (cellsOf' encA (bumpL (askL p s) j))) ∧ True) ∧ true = true) ∧ true = true ∧ () = ()) ∧ (decide ((↑k : Int) < (↑(List.length (askL p s)) : Int)) = false → (q = q ∧ ((0 : Nat) = (0 : Nat) ∧ (0 : Nat) = (0 : Nat)) ∧ true = true ∧ ((0 : Nat) = (0 : Nat) ∧ List.length p.into = List.length p.into) ∧ ((0 : Nat) = (0 : Nat) ∧ List.length p.nodes = List.length p.nodes) ∧ (0 : Int) = (0 : Int) ∧ (0 : Int) = (0 : Int) ∧ true = true ∧ True) ∧ ((p.id = p.id ∧ p.kind = p.kind ∧ p.topic = p.topic ∧ p.group = p.group ∧ p.other = p.other ∧ p.key = p.key ∧ (true = true ∧ List.length p.into = List.length p.into ∧ contLe (List.length p.into) (1 : Nat) (cellsOf' encU p.into) (cellsOf' encU p.into)) ∧ (true = true ∧ List.length p.nodes = List.length p.nodes ∧ contLe (List.length p.nodes) (1 : Nat) (cellsOf' encI p.nodes) (cellsOf' encI p.nodes)) ∧ p.src = p.src ∧ p.dst = p.dst ∧ p.step = p.step ∧ True) ∧ ((true = true ∧ List.length s.frozen = List.length s.frozen ∧ contLe (List.length s.frozen) (1 : Nat) (cellsOf' encU s.frozen) (cellsOf' encU s.frozen)) ∧ (true = true ∧ List.length s.made = List.length s.made ∧ contLe (List.length s.made) (2 : Nat) (cellsOf' encS s.made) (cellsOf' encS s.made)) ∧ (true = true ∧ List.length s.gone = List.length s.gone ∧ contLe (List.length s.gone) (2 : Nat) (cellsOf' encS s.gone) (cellsOf' encS s.gone)) ∧ (true = true ∧ List.length s.voters = List.length s.voters ∧ contLe (List.length s.voters) (1 : Nat) (cellsOf' encI s.voters) (cellsOf' encI s.voters)) ∧ (true = true ∧ List.length s.learners = List.length s.learners ∧ contLe (List.length s.learners) (1 : Nat) (cellsOf' encI s.learners) (cellsOf' encI s.learners)) ∧ s.leader = s.leader ∧ s.ready = s.ready ∧ True) ∧ (List.length p.into = List.length p.into ∧ contLe (List.length p.into) (1 : Nat) (cellsOf' encU p.into) (cellsOf' encU p.into)) ∧ (List.length p.nodes = List.length p.nodes ∧ contLe (List.length p.nodes) (1 : Nat) (cellsOf' encI p.nodes) (cellsOf' encI p.nodes)) ∧ True) ∧ true = true)
set_option maxRecDepth 1000000 in
theorem vcP1_eq (p : Plan) (s : Seen) (q : Int) (k : Nat) : (loopVC Try.prog (hT _) 4 8 (fun k => (askL p s).length - k) (p1T p s q) (p1M p s) [2, 3, 4, 5, 6, 7, 8, 9] (fun _ => .ret ()) (p1S p s q) k) = vcP1 p s q k := by kernel_rfl
def p2T (p : Plan) (e q : Int) (k : Nat) : List AV := pnB p q (pnE e ++ [(16, .y (.int .i64 k))])
def p2S (p : Plan) (s : Seen) (e q : Int) (_ : Unit) : Exit × List AV × List Blk := (.exit 2, pnB p q (pnE e), pnM p s)
def vcP2 (p : Plan) (s : Seen) (e : Int) (q : Int) (k : Nat) : Prop :=
  (decide ((↑k : Int) < (↑(List.length p.into) : Int)) = true → (true && decide ((↑k : Int) < (↑(List.length p.into) : Int))) = true ∧ (true && decide ((↑k : Int) < (↑(List.length p.into) : Int))) = true ∧ decide ((0 : Nat) + Int.toNat (↑k : Int) < List.length p.into) = true ∧ ((List.getD p.into (Int.toNat (↑k : Int)) (0 : Int) != List.getD p.into ((0 : Nat) + Int.toNat (↑k : Int)) (0 : Int)) = true → False) ∧ ((List.getD p.into (Int.toNat (↑k : Int)) (0 : Int) != List.getD p.into ((0 : Nat) + Int.toNat (↑k : Int)) (0 : Int)) = false → ∃ (j : Nat), List.length p.into - j < List.length p.into - k ∧ ((q = q ∧ ((0 : Nat) = (0 : Nat) ∧ (0 : Nat) = (0 : Nat)) ∧ true = true ∧ ((0 : Nat) = (0 : Nat) ∧ List.length p.into = List.length p.into) ∧ ((0 : Nat) = (0 : Nat) ∧ List.length p.nodes = List.length p.nodes) ∧ e = e ∧ e = e ∧ true = true ∧ IntKind.wrap IntKind.i64 ((↑k : Int) + (1 : Int)) = (↑j : Int) ∧ True) ∧ ((p.id = p.id ∧ p.kind = p.kind ∧ p.topic = p.topic ∧ p.group = p.group ∧ p.other = p.other ∧ p.key = p.key ∧ (true = true ∧ List.length p.into = List.length p.into ∧ contLe (List.length p.into) (1 : Nat) (cellsOf' encU p.into) (cellsOf' encU p.into)) ∧ (true = true ∧ List.length p.nodes = List.length p.nodes ∧ contLe (List.length p.nodes) (1 : Nat) (cellsOf' encI p.nodes) (cellsOf' encI p.nodes)) ∧ p.src = p.src ∧ p.dst = p.dst ∧ p.step = p.step ∧ True) ∧ ((true = true ∧ List.length s.frozen = List.length s.frozen ∧ contLe (List.length s.frozen) (1 : Nat) (cellsOf' encU s.frozen) (cellsOf' encU s.frozen)) ∧ (true = true ∧ List.length s.made = List.length s.made ∧ contLe (List.length s.made) (2 : Nat) (cellsOf' encS s.made) (cellsOf' encS s.made)) ∧ (true = true ∧ List.length s.gone = List.length s.gone ∧ contLe (List.length s.gone) (2 : Nat) (cellsOf' encS s.gone) (cellsOf' encS s.gone)) ∧ (true = true ∧ List.length s.voters = List.length s.voters ∧ contLe (List.length s.voters) (1 : Nat) (cellsOf' encI s.voters) (cellsOf' encI s.voters)) ∧ (true = true ∧ List.length s.learners = List.length s.learners ∧ contLe (List.length s.learners) (1 : Nat) (cellsOf' encI s.learners) (cellsOf' encI s.learners)) ∧ s.leader = s.leader ∧ s.ready = s.ready ∧ True) ∧ (List.length p.into = List.length p.into ∧ contLe (List.length p.into) (1 : Nat) (cellsOf' encU p.into) (cellsOf' encU p.into)) ∧ (List.length p.nodes = List.length p.nodes ∧ contLe (List.length p.nodes) (1 : Nat) (cellsOf' encI p.nodes) (cellsOf' encI p.nodes)) ∧ True) ∧ true = true) ∧ true = true ∧ () = ())) ∧ (decide ((↑k : Int) < (↑(List.length p.into) : Int)) = false → (q = q ∧ ((0 : Nat) = (0 : Nat) ∧ (0 : Nat) = (0 : Nat)) ∧ true = true ∧ ((0 : Nat) = (0 : Nat) ∧ List.length p.into = List.length p.into) ∧ ((0 : Nat) = (0 : Nat) ∧ List.length p.nodes = List.length p.nodes) ∧ e = e ∧ e = e ∧ true = true ∧ True) ∧ ((p.id = p.id ∧ p.kind = p.kind ∧ p.topic = p.topic ∧ p.group = p.group ∧ p.other = p.other ∧ p.key = p.key ∧ (true = true ∧ List.length p.into = List.length p.into ∧ contLe (List.length p.into) (1 : Nat) (cellsOf' encU p.into) (cellsOf' encU p.into)) ∧ (true = true ∧ List.length p.nodes = List.length p.nodes ∧ contLe (List.length p.nodes) (1 : Nat) (cellsOf' encI p.nodes) (cellsOf' encI p.nodes)) ∧ p.src = p.src ∧ p.dst = p.dst ∧ p.step = p.step ∧ True) ∧ ((true = true ∧ List.length s.frozen = List.length s.frozen ∧ contLe (List.length s.frozen) (1 : Nat) (cellsOf' encU s.frozen) (cellsOf' encU s.frozen)) ∧ (true = true ∧ List.length s.made = List.length s.made ∧ contLe (List.length s.made) (2 : Nat) (cellsOf' encS s.made) (cellsOf' encS s.made)) ∧ (true = true ∧ List.length s.gone = List.length s.gone ∧ contLe (List.length s.gone) (2 : Nat) (cellsOf' encS s.gone) (cellsOf' encS s.gone)) ∧ (true = true ∧ List.length s.voters = List.length s.voters ∧ contLe (List.length s.voters) (1 : Nat) (cellsOf' encI s.voters) (cellsOf' encI s.voters)) ∧ (true = true ∧ List.length s.learners = List.length s.learners ∧ contLe (List.length s.learners) (1 : Nat) (cellsOf' encI s.learners) (cellsOf' encI s.learners)) ∧ s.leader = s.leader ∧ s.ready = s.ready ∧ True) ∧ (List.length p.into = List.length p.into ∧ contLe (List.length p.into) (1 : Nat) (cellsOf' encU p.into) (cellsOf' encU p.into)) ∧ (List.length p.nodes = List.length p.nodes ∧ contLe (List.length p.nodes) (1 : Nat) (cellsOf' encI p.nodes) (cellsOf' encI p.nodes)) ∧ True) ∧ true = true)
set_option maxRecDepth 1000000 in
theorem vcP2_eq (p : Plan) (s : Seen) (e : Int) (q : Int) (k : Nat) : (loopVC Try.prog (hT _) 4 12 (fun k => p.into.length - k) (p2T p e q) (fun _ => pnM p s) [2, 3, 4, 5, 6, 7, 8, 9] (fun _ => .ret ()) (p2S p s e q) k) = vcP2 p s e q k := by kernel_rfl
def p3T (p : Plan) (e q : Int) (k : Nat) : List AV := pnB p q (pnE e ++ [(17, .y (.int .i64 k))])
def p3S (p : Plan) (s : Seen) (e q : Int) (_ : Unit) : Exit × List AV × List Blk := (.exit 4, pnB p q (pnE e), pnM p s)
def vcP3 (p : Plan) (s : Seen) (e : Int) (q : Int) (k : Nat) : Prop :=
  (decide ((↑k : Int) < (↑(List.length p.nodes) : Int)) = true → (true && decide ((↑k : Int) < (↑(List.length p.nodes) : Int))) = true ∧ (true && decide ((↑k : Int) < (↑(List.length p.nodes) : Int))) = true ∧ decide ((0 : Nat) + Int.toNat (↑k : Int) < List.length p.nodes) = true ∧ ((List.getD p.nodes (Int.toNat (↑k : Int)) (0 : Int) != List.getD p.nodes ((0 : Nat) + Int.toNat (↑k : Int)) (0 : Int)) = true → False) ∧ ((List.getD p.nodes (Int.toNat (↑k : Int)) (0 : Int) != List.getD p.nodes ((0 : Nat) + Int.toNat (↑k : Int)) (0 : Int)) = false → ∃ (j : Nat), List.length p.nodes - j < List.length p.nodes - k ∧ ((q = q ∧ ((0 : Nat) = (0 : Nat) ∧ (0 : Nat) = (0 : Nat)) ∧ true = true ∧ ((0 : Nat) = (0 : Nat) ∧ List.length p.into = List.length p.into) ∧ ((0 : Nat) = (0 : Nat) ∧ List.length p.nodes = List.length p.nodes) ∧ e = e ∧ e = e ∧ true = true ∧ IntKind.wrap IntKind.i64 ((↑k : Int) + (1 : Int)) = (↑j : Int) ∧ True) ∧ ((p.id = p.id ∧ p.kind = p.kind ∧ p.topic = p.topic ∧ p.group = p.group ∧ p.other = p.other ∧ p.key = p.key ∧ (true = true ∧ List.length p.into = List.length p.into ∧ contLe (List.length p.into) (1 : Nat) (cellsOf' encU p.into) (cellsOf' encU p.into)) ∧ (true = true ∧ List.length p.nodes = List.length p.nodes ∧ contLe (List.length p.nodes) (1 : Nat) (cellsOf' encI p.nodes) (cellsOf' encI p.nodes)) ∧ p.src = p.src ∧ p.dst = p.dst ∧ p.step = p.step ∧ True) ∧ ((true = true ∧ List.length s.frozen = List.length s.frozen ∧ contLe (List.length s.frozen) (1 : Nat) (cellsOf' encU s.frozen) (cellsOf' encU s.frozen)) ∧ (true = true ∧ List.length s.made = List.length s.made ∧ contLe (List.length s.made) (2 : Nat) (cellsOf' encS s.made) (cellsOf' encS s.made)) ∧ (true = true ∧ List.length s.gone = List.length s.gone ∧ contLe (List.length s.gone) (2 : Nat) (cellsOf' encS s.gone) (cellsOf' encS s.gone)) ∧ (true = true ∧ List.length s.voters = List.length s.voters ∧ contLe (List.length s.voters) (1 : Nat) (cellsOf' encI s.voters) (cellsOf' encI s.voters)) ∧ (true = true ∧ List.length s.learners = List.length s.learners ∧ contLe (List.length s.learners) (1 : Nat) (cellsOf' encI s.learners) (cellsOf' encI s.learners)) ∧ s.leader = s.leader ∧ s.ready = s.ready ∧ True) ∧ (List.length p.into = List.length p.into ∧ contLe (List.length p.into) (1 : Nat) (cellsOf' encU p.into) (cellsOf' encU p.into)) ∧ (List.length p.nodes = List.length p.nodes ∧ contLe (List.length p.nodes) (1 : Nat) (cellsOf' encI p.nodes) (cellsOf' encI p.nodes)) ∧ True) ∧ true = true) ∧ true = true ∧ () = ())) ∧ (decide ((↑k : Int) < (↑(List.length p.nodes) : Int)) = false → (q = q ∧ ((0 : Nat) = (0 : Nat) ∧ (0 : Nat) = (0 : Nat)) ∧ true = true ∧ ((0 : Nat) = (0 : Nat) ∧ List.length p.into = List.length p.into) ∧ ((0 : Nat) = (0 : Nat) ∧ List.length p.nodes = List.length p.nodes) ∧ e = e ∧ e = e ∧ true = true ∧ True) ∧ ((p.id = p.id ∧ p.kind = p.kind ∧ p.topic = p.topic ∧ p.group = p.group ∧ p.other = p.other ∧ p.key = p.key ∧ (true = true ∧ List.length p.into = List.length p.into ∧ contLe (List.length p.into) (1 : Nat) (cellsOf' encU p.into) (cellsOf' encU p.into)) ∧ (true = true ∧ List.length p.nodes = List.length p.nodes ∧ contLe (List.length p.nodes) (1 : Nat) (cellsOf' encI p.nodes) (cellsOf' encI p.nodes)) ∧ p.src = p.src ∧ p.dst = p.dst ∧ p.step = p.step ∧ True) ∧ ((true = true ∧ List.length s.frozen = List.length s.frozen ∧ contLe (List.length s.frozen) (1 : Nat) (cellsOf' encU s.frozen) (cellsOf' encU s.frozen)) ∧ (true = true ∧ List.length s.made = List.length s.made ∧ contLe (List.length s.made) (2 : Nat) (cellsOf' encS s.made) (cellsOf' encS s.made)) ∧ (true = true ∧ List.length s.gone = List.length s.gone ∧ contLe (List.length s.gone) (2 : Nat) (cellsOf' encS s.gone) (cellsOf' encS s.gone)) ∧ (true = true ∧ List.length s.voters = List.length s.voters ∧ contLe (List.length s.voters) (1 : Nat) (cellsOf' encI s.voters) (cellsOf' encI s.voters)) ∧ (true = true ∧ List.length s.learners = List.length s.learners ∧ contLe (List.length s.learners) (1 : Nat) (cellsOf' encI s.learners) (cellsOf' encI s.learners)) ∧ s.leader = s.leader ∧ s.ready = s.ready ∧ True) ∧ (List.length p.into = List.length p.into ∧ contLe (List.length p.into) (1 : Nat) (cellsOf' encU p.into) (cellsOf' encU p.into)) ∧ (List.length p.nodes = List.length p.nodes ∧ contLe (List.length p.nodes) (1 : Nat) (cellsOf' encI p.nodes) (cellsOf' encI p.nodes)) ∧ True) ∧ true = true)
set_option maxRecDepth 1000000 in
theorem vcP3_eq (p : Plan) (s : Seen) (e : Int) (q : Int) (k : Nat) : (loopVC Try.prog (hT _) 4 17 (fun k => p.nodes.length - k) (p3T p e q) (fun _ => pnM p s) [2, 3, 4, 5, 6, 7, 8, 9] (fun _ => .ret ()) (p3S p s e q) k) = vcP3 p s e q k := by kernel_rfl
def askI (i : Bool) (p : Plan) (s : Seen) : List Act := match i with | true => askL p s | false => []
def errI (i : Bool) : Int := match i with | true => 0 | false => 191
noncomputable def pnLp (i : Bool) (p : Plan) (s : Seen) (q : Int) : FuncId → Nat → St → Option Job := fun _ k st => match k with
  | 8 => (match i with | true => some (jobOf (p1T p s q) (p1M p s) [2, 3, 4, 5, 6, 7, 8, 9] (fun _ => .ret ()) (p1S p s q) 0) | false => none)
  | 12 => some (jobOf (p2T p (errI i) q) (fun _ => pnM p s) [2, 3, 4, 5, 6, 7, 8, 9] (fun _ => .ret ()) (p2S p s (errI i) q) 0)
  | _ => some (jobOf (p3T p (errI i) q) (fun _ => pnM p s) [2, 3, 4, 5, 6, 7, 8, 9] (fun _ => .ret ()) (p3S p s (errI i) q) 0)
noncomputable def pnH (i : Bool) (p : Plan) (s : Seen) (q : Int) : HintsT Try.prog := hh _ (pnLp i p s q) (cs1 4 1 0 livesC (cs1 4 4 2 (nextC i true true true p s) (cs1 4 5 2 (rnC i true true true p s) (cs1 4 6 2 (sameN false false (askI i p s) (askI i p s)) (cs1 4 28 11 (stC q) noCs))))) noOp
def vcPn (p : Plan) (s : Seen) (q : Int) : Prop :=
  True ∧ True ∧ (decide ((0 : Nat) + List.length p.into ≤ (9223372036854775807 : Nat)) && decide (((0 : Nat) + List.length p.into) * (8 : Nat) ≤ (140737488355328 : Nat))) = true ∧ (decide ((0 : Nat) + List.length p.nodes ≤ (9223372036854775807 : Nat)) && decide (((0 : Nat) + List.length p.nodes) * (8 : Nat) ≤ (140737488355328 : Nat))) = true ∧ ((p.id = p.id ∧ p.kind = p.kind ∧ p.topic = p.topic ∧ p.group = p.group ∧ p.other = p.other ∧ p.key = p.key ∧ (true = true ∧ List.length p.into = List.length p.into ∧ contLe (List.length p.into) (1 : Nat) (cellsOf' encU p.into) (cellsOf' encU p.into)) ∧ (true = true ∧ List.length p.nodes = List.length p.nodes ∧ contLe (List.length p.nodes) (1 : Nat) (cellsOf' encI p.nodes) (cellsOf' encI p.nodes)) ∧ p.src = p.src ∧ p.dst = p.dst ∧ p.step = p.step ∧ True) ∧ ((true = true ∧ List.length s.frozen = List.length s.frozen ∧ contLe (List.length s.frozen) (1 : Nat) (cellsOf' encU s.frozen) (cellsOf' encU s.frozen)) ∧ (true = true ∧ List.length s.made = List.length s.made ∧ contLe (List.length s.made) (2 : Nat) (cellsOf' encS s.made) (cellsOf' encS s.made)) ∧ (true = true ∧ List.length s.gone = List.length s.gone ∧ contLe (List.length s.gone) (2 : Nat) (cellsOf' encS s.gone) (cellsOf' encS s.gone)) ∧ (true = true ∧ List.length s.voters = List.length s.voters ∧ contLe (List.length s.voters) (1 : Nat) (cellsOf' encI s.voters) (cellsOf' encI s.voters)) ∧ (true = true ∧ List.length s.learners = List.length s.learners ∧ contLe (List.length s.learners) (1 : Nat) (cellsOf' encI s.learners) (cellsOf' encI s.learners)) ∧ s.leader = s.leader ∧ s.ready = s.ready ∧ True) ∧ True) ∧ True ∧ (Plan.Ok p ∧ Seen.Ok s ∧ isPlan p = true) ∧ ((p.id = p.id ∧ p.kind = p.kind ∧ p.topic = p.topic ∧ p.group = p.group ∧ p.other = p.other ∧ p.key = p.key ∧ (true = true ∧ List.length p.into = List.length p.into ∧ contLe (List.length p.into) (1 : Nat) (cellsOf' encU p.into) (cellsOf' encU p.into)) ∧ (true = true ∧ List.length p.nodes = List.length p.nodes ∧ contLe (List.length p.nodes) (1 : Nat) (cellsOf' encI p.nodes) (cellsOf' encI p.nodes)) ∧ p.src = p.src ∧ p.dst = p.dst ∧ p.step = p.step ∧ True) ∧ ((true = true ∧ List.length s.frozen = List.length s.frozen ∧ contLe (List.length s.frozen) (1 : Nat) (cellsOf' encU s.frozen) (cellsOf' encU s.frozen)) ∧ (true = true ∧ List.length s.made = List.length s.made ∧ contLe (List.length s.made) (2 : Nat) (cellsOf' encS s.made) (cellsOf' encS s.made)) ∧ (true = true ∧ List.length s.gone = List.length s.gone ∧ contLe (List.length s.gone) (2 : Nat) (cellsOf' encS s.gone) (cellsOf' encS s.gone)) ∧ (true = true ∧ List.length s.voters = List.length s.voters ∧ contLe (List.length s.voters) (1 : Nat) (cellsOf' encI s.voters) (cellsOf' encI s.voters)) ∧ (true = true ∧ List.length s.learners = List.length s.learners ∧ contLe (List.length s.learners) (1 : Nat) (cellsOf' encI s.learners) (cellsOf' encI s.learners)) ∧ s.leader = s.leader ∧ s.ready = s.ready ∧ True) ∧ True) ∧ True ∧ (Plan.Ok p ∧ Seen.Ok s ∧ isPlan p = true) ∧ ((false = false ∧ List.length (askL p s) = List.length (askI true p s) ∧ contLe (List.length (askL p s)) (6 : Nat) (Ax.rowAt (0 : Nat) (cellsOf' encA (askL p s))) (cellsOf' encA (askI true p s))) ∧ (false = false ∧ List.length (askL p s) = List.length (askI true p s) ∧ contLe (List.length (askL p s)) (6 : Nat) (Ax.rowAt (0 : Nat) (cellsOf' encA (askL p s))) (cellsOf' encA (askI true p s))) ∧ True) ∧ True ∧ List.length (askI true p s) ≤ (9223372036854775806 : Nat) ∧ true = true ∧ True ∧ ((q = q ∧ ((0 : Nat) = (0 : Nat) ∧ (0 : Nat) = (0 : Nat)) ∧ true = true ∧ ((0 : Nat) = (0 : Nat) ∧ (0 : Nat) + List.length p.into = List.length p.into) ∧ ((0 : Nat) = (0 : Nat) ∧ (0 : Nat) + List.length p.nodes = List.length p.nodes) ∧ ((0 : Nat) = (0 : Nat) ∧ List.length (askL p s) = List.length (askL p s)) ∧ (0 : Int) = (0 : Int) ∧ (0 : Int) = (0 : Int) ∧ sameP (askI true p s) (askI true p s) = true ∧ (0 : Int) = (0 : Int) ∧ True) ∧ ((p.id = p.id ∧ p.kind = p.kind ∧ p.topic = p.topic ∧ p.group = p.group ∧ p.other = p.other ∧ p.key = p.key ∧ (true = true ∧ List.length p.into = List.length p.into ∧ contLe (List.length p.into) (1 : Nat) (cellsOf' encU p.into) (cellsOf' encU p.into)) ∧ (true = true ∧ List.length p.nodes = List.length p.nodes ∧ contLe (List.length p.nodes) (1 : Nat) (cellsOf' encI p.nodes) (cellsOf' encI p.nodes)) ∧ p.src = p.src ∧ p.dst = p.dst ∧ p.step = p.step ∧ True) ∧ ((true = true ∧ List.length s.frozen = List.length s.frozen ∧ contLe (List.length s.frozen) (1 : Nat) (cellsOf' encU s.frozen) (cellsOf' encU s.frozen)) ∧ (true = true ∧ List.length s.made = List.length s.made ∧ contLe (List.length s.made) (2 : Nat) (cellsOf' encS s.made) (cellsOf' encS s.made)) ∧ (true = true ∧ List.length s.gone = List.length s.gone ∧ contLe (List.length s.gone) (2 : Nat) (cellsOf' encS s.gone) (cellsOf' encS s.gone)) ∧ (true = true ∧ List.length s.voters = List.length s.voters ∧ contLe (List.length s.voters) (1 : Nat) (cellsOf' encI s.voters) (cellsOf' encI s.voters)) ∧ (true = true ∧ List.length s.learners = List.length s.learners ∧ contLe (List.length s.learners) (1 : Nat) (cellsOf' encI s.learners) (cellsOf' encI s.learners)) ∧ s.leader = s.leader ∧ s.ready = s.ready ∧ True) ∧ ((0 : Nat) + List.length p.into = List.length p.into ∧ contLe ((0 : Nat) + List.length p.into) (1 : Nat) (appRow (0 : Nat) (fun (k j : Nat) => AV.junk) (cellsOf' encU p.into)) (cellsOf' encU p.into)) ∧ ((0 : Nat) + List.length p.nodes = List.length p.nodes ∧ contLe ((0 : Nat) + List.length p.nodes) (1 : Nat) (appRow (0 : Nat) (fun (k j : Nat) => AV.junk) (cellsOf' encI p.nodes)) (cellsOf' encI p.nodes)) ∧ (List.length (askL p s) = List.length (bumpL (askL p s) (0 : Nat)) ∧ contLe (List.length (askL p s)) (6 : Nat) (cellsOf' encA (askL p s)) (cellsOf' encA (bumpL (askL p s) (0 : Nat)))) ∧ True) ∧ true = true) ∧ LoopOk Try.prog (4 : Nat) (8 : Nat) (loopAt Try.prog (4 : Nat) (8 : Nat)) { t := p1T p s q (0 : Nat), m := p1M p s (0 : Nat), mv := [] } (T.map (lout [(2 : Nat), (3 : Nat), (4 : Nat), (5 : Nat), (6 : Nat), (7 : Nat), (8 : Nat), (9 : Nat)] (p1S p s q)) ((fun (x : Nat) => T.ret ()) (0 : Nat))) ∧ ((q = q ∧ ((0 : Nat) = (0 : Nat) ∧ (0 : Nat) = (0 : Nat)) ∧ true = true ∧ ((0 : Nat) = (0 : Nat) ∧ List.length p.into = List.length p.into) ∧ ((0 : Nat) = (0 : Nat) ∧ List.length p.nodes = List.length p.nodes) ∧ (0 : Int) = (0 : Int) ∧ (0 : Int) = (0 : Int) ∧ true = true ∧ (0 : Int) = (0 : Int) ∧ True) ∧ ((p.id = p.id ∧ p.kind = p.kind ∧ p.topic = p.topic ∧ p.group = p.group ∧ p.other = p.other ∧ p.key = p.key ∧ (true = true ∧ List.length p.into = List.length p.into ∧ contLe (List.length p.into) (1 : Nat) (cellsOf' encU p.into) (cellsOf' encU p.into)) ∧ (true = true ∧ List.length p.nodes = List.length p.nodes ∧ contLe (List.length p.nodes) (1 : Nat) (cellsOf' encI p.nodes) (cellsOf' encI p.nodes)) ∧ p.src = p.src ∧ p.dst = p.dst ∧ p.step = p.step ∧ True) ∧ ((true = true ∧ List.length s.frozen = List.length s.frozen ∧ contLe (List.length s.frozen) (1 : Nat) (cellsOf' encU s.frozen) (cellsOf' encU s.frozen)) ∧ (true = true ∧ List.length s.made = List.length s.made ∧ contLe (List.length s.made) (2 : Nat) (cellsOf' encS s.made) (cellsOf' encS s.made)) ∧ (true = true ∧ List.length s.gone = List.length s.gone ∧ contLe (List.length s.gone) (2 : Nat) (cellsOf' encS s.gone) (cellsOf' encS s.gone)) ∧ (true = true ∧ List.length s.voters = List.length s.voters ∧ contLe (List.length s.voters) (1 : Nat) (cellsOf' encI s.voters) (cellsOf' encI s.voters)) ∧ (true = true ∧ List.length s.learners = List.length s.learners ∧ contLe (List.length s.learners) (1 : Nat) (cellsOf' encI s.learners) (cellsOf' encI s.learners)) ∧ s.leader = s.leader ∧ s.ready = s.ready ∧ True) ∧ (List.length p.into = List.length p.into ∧ contLe (List.length p.into) (1 : Nat) (cellsOf' encU p.into) (cellsOf' encU p.into)) ∧ (List.length p.nodes = List.length p.nodes ∧ contLe (List.length p.nodes) (1 : Nat) (cellsOf' encI p.nodes) (cellsOf' encI p.nodes)) ∧ True) ∧ true = true) ∧ LoopOk Try.prog (4 : Nat) (12 : Nat) (loopAt Try.prog (4 : Nat) (12 : Nat)) { t := p2T p (errI true) q (0 : Nat), m := pnM p s, mv := [] } (T.map (lout [(2 : Nat), (3 : Nat), (4 : Nat), (5 : Nat), (6 : Nat), (7 : Nat), (8 : Nat), (9 : Nat)] (p2S p s (errI true) q)) ((fun (x : Nat) => T.ret ()) (0 : Nat))) ∧ ((q = q ∧ ((0 : Nat) = (0 : Nat) ∧ (0 : Nat) = (0 : Nat)) ∧ true = true ∧ ((0 : Nat) = (0 : Nat) ∧ List.length p.into = List.length p.into) ∧ ((0 : Nat) = (0 : Nat) ∧ List.length p.nodes = List.length p.nodes) ∧ (0 : Int) = (0 : Int) ∧ (0 : Int) = (0 : Int) ∧ true = true ∧ (0 : Int) = (0 : Int) ∧ True) ∧ ((p.id = p.id ∧ p.kind = p.kind ∧ p.topic = p.topic ∧ p.group = p.group ∧ p.other = p.other ∧ p.key = p.key ∧ (true = true ∧ List.length p.into = List.length p.into ∧ contLe (List.length p.into) (1 : Nat) (cellsOf' encU p.into) (cellsOf' encU p.into)) ∧ (true = true ∧ List.length p.nodes = List.length p.nodes ∧ contLe (List.length p.nodes) (1 : Nat) (cellsOf' encI p.nodes) (cellsOf' encI p.nodes)) ∧ p.src = p.src ∧ p.dst = p.dst ∧ p.step = p.step ∧ True) ∧ ((true = true ∧ List.length s.frozen = List.length s.frozen ∧ contLe (List.length s.frozen) (1 : Nat) (cellsOf' encU s.frozen) (cellsOf' encU s.frozen)) ∧ (true = true ∧ List.length s.made = List.length s.made ∧ contLe (List.length s.made) (2 : Nat) (cellsOf' encS s.made) (cellsOf' encS s.made)) ∧ (true = true ∧ List.length s.gone = List.length s.gone ∧ contLe (List.length s.gone) (2 : Nat) (cellsOf' encS s.gone) (cellsOf' encS s.gone)) ∧ (true = true ∧ List.length s.voters = List.length s.voters ∧ contLe (List.length s.voters) (1 : Nat) (cellsOf' encI s.voters) (cellsOf' encI s.voters)) ∧ (true = true ∧ List.length s.learners = List.length s.learners ∧ contLe (List.length s.learners) (1 : Nat) (cellsOf' encI s.learners) (cellsOf' encI s.learners)) ∧ s.leader = s.leader ∧ s.ready = s.ready ∧ True) ∧ (List.length p.into = List.length p.into ∧ contLe (List.length p.into) (1 : Nat) (cellsOf' encU p.into) (cellsOf' encU p.into)) ∧ (List.length p.nodes = List.length p.nodes ∧ contLe (List.length p.nodes) (1 : Nat) (cellsOf' encI p.nodes) (cellsOf' encI p.nodes)) ∧ True) ∧ true = true) ∧ LoopOk Try.prog (4 : Nat) (17 : Nat) (loopAt Try.prog (4 : Nat) (17 : Nat)) { t := p3T p (errI true) q (0 : Nat), m := pnM p s, mv := [] } (T.map (lout [(2 : Nat), (3 : Nat), (4 : Nat), (5 : Nat), (6 : Nat), (7 : Nat), (8 : Nat), (9 : Nat)] (p3S p s (errI true) q)) ((fun (x : Nat) => T.ret ()) (0 : Nat))) ∧ ((q == (1 : Int)) = true → (true = true → (true = true → (true = true → (q = q ∧ True) ∧ True ∧ (stepsOf q == (4 : Int)) = true ∧ True) ∧ (true = false → false = true ∧ True)) ∧ (true = false → false = true ∧ True)) ∧ (true = false → false = true ∧ True)) ∧ ((q == (1 : Int)) = false → ((q == (2 : Int)) = true → (true = true → (true = true → (true = true → (q = q ∧ True) ∧ True ∧ (stepsOf q == (5 : Int)) = true ∧ True) ∧ (true = false → false = true ∧ True)) ∧ (true = false → false = true ∧ True)) ∧ (true = false → false = true ∧ True)) ∧ ((q == (2 : Int)) = false → ((q == (3 : Int)) = true → (true = true → (true = true → (true = true → (q = q ∧ True) ∧ True ∧ (stepsOf q == (5 : Int)) = true ∧ True) ∧ (true = false → false = true ∧ True)) ∧ (true = false → false = true ∧ True)) ∧ (true = false → false = true ∧ True)) ∧ ((q == (3 : Int)) = false → (true = true → (true = true → (true = true → (q = q ∧ True) ∧ True ∧ (stepsOf q == (0 : Int)) = true ∧ True) ∧ (true = false → false = true ∧ True)) ∧ (true = false → false = true ∧ True)) ∧ (true = false → false = true ∧ True))))
set_option maxRecDepth 1000000 in
theorem vcPn_eq (p : Plan) (s : Seen) (q : Int) : (ctrVC Try.prog (pnH true p s q) 4 [.agg (encPl true p), .agg (encSe true true s), .y (.int .i64 q)] [] (boolR true)) = vcPn p s q := by kernel_rfl
def vcPn2 (p : Plan) (s : Seen) (q : Int) : Prop :=
  True ∧ True ∧ (decide ((0 : Nat) + List.length p.into ≤ (9223372036854775807 : Nat)) && decide (((0 : Nat) + List.length p.into) * (8 : Nat) ≤ (140737488355328 : Nat))) = true ∧ (decide ((0 : Nat) + List.length p.nodes ≤ (9223372036854775807 : Nat)) && decide (((0 : Nat) + List.length p.nodes) * (8 : Nat) ≤ (140737488355328 : Nat))) = true ∧ ((p.id = p.id ∧ p.kind = p.kind ∧ p.topic = p.topic ∧ p.group = p.group ∧ p.other = p.other ∧ p.key = p.key ∧ (true = true ∧ List.length p.into = List.length p.into ∧ contLe (List.length p.into) (1 : Nat) (cellsOf' encU p.into) (cellsOf' encU p.into)) ∧ (true = true ∧ List.length p.nodes = List.length p.nodes ∧ contLe (List.length p.nodes) (1 : Nat) (cellsOf' encI p.nodes) (cellsOf' encI p.nodes)) ∧ p.src = p.src ∧ p.dst = p.dst ∧ p.step = p.step ∧ True) ∧ ((true = true ∧ List.length s.frozen = List.length s.frozen ∧ contLe (List.length s.frozen) (1 : Nat) (cellsOf' encU s.frozen) (cellsOf' encU s.frozen)) ∧ (true = true ∧ List.length s.made = List.length s.made ∧ contLe (List.length s.made) (2 : Nat) (cellsOf' encS s.made) (cellsOf' encS s.made)) ∧ (true = true ∧ List.length s.gone = List.length s.gone ∧ contLe (List.length s.gone) (2 : Nat) (cellsOf' encS s.gone) (cellsOf' encS s.gone)) ∧ (true = true ∧ List.length s.voters = List.length s.voters ∧ contLe (List.length s.voters) (1 : Nat) (cellsOf' encI s.voters) (cellsOf' encI s.voters)) ∧ (true = true ∧ List.length s.learners = List.length s.learners ∧ contLe (List.length s.learners) (1 : Nat) (cellsOf' encI s.learners) (cellsOf' encI s.learners)) ∧ s.leader = s.leader ∧ s.ready = s.ready ∧ True) ∧ True) ∧ True ∧ (Plan.Ok p ∧ Seen.Ok s ∧ isPlan p = false) ∧ ((p.id = p.id ∧ p.kind = p.kind ∧ p.topic = p.topic ∧ p.group = p.group ∧ p.other = p.other ∧ p.key = p.key ∧ (true = true ∧ List.length p.into = List.length p.into ∧ contLe (List.length p.into) (1 : Nat) (cellsOf' encU p.into) (cellsOf' encU p.into)) ∧ (true = true ∧ List.length p.nodes = List.length p.nodes ∧ contLe (List.length p.nodes) (1 : Nat) (cellsOf' encI p.nodes) (cellsOf' encI p.nodes)) ∧ p.src = p.src ∧ p.dst = p.dst ∧ p.step = p.step ∧ True) ∧ ((true = true ∧ List.length s.frozen = List.length s.frozen ∧ contLe (List.length s.frozen) (1 : Nat) (cellsOf' encU s.frozen) (cellsOf' encU s.frozen)) ∧ (true = true ∧ List.length s.made = List.length s.made ∧ contLe (List.length s.made) (2 : Nat) (cellsOf' encS s.made) (cellsOf' encS s.made)) ∧ (true = true ∧ List.length s.gone = List.length s.gone ∧ contLe (List.length s.gone) (2 : Nat) (cellsOf' encS s.gone) (cellsOf' encS s.gone)) ∧ (true = true ∧ List.length s.voters = List.length s.voters ∧ contLe (List.length s.voters) (1 : Nat) (cellsOf' encI s.voters) (cellsOf' encI s.voters)) ∧ (true = true ∧ List.length s.learners = List.length s.learners ∧ contLe (List.length s.learners) (1 : Nat) (cellsOf' encI s.learners) (cellsOf' encI s.learners)) ∧ s.leader = s.leader ∧ s.ready = s.ready ∧ True) ∧ True) ∧ True ∧ (Plan.Ok p ∧ Seen.Ok s ∧ isPlan p = false) ∧ ((0 : Nat) = (0 : Nat) ∧ (0 : Nat) = (0 : Nat) ∧ True) ∧ True ∧ (0 : Nat) ≤ (9223372036854775806 : Nat) ∧ ((q = q ∧ ((0 : Nat) = (0 : Nat) ∧ (0 : Nat) = (0 : Nat)) ∧ true = true ∧ ((0 : Nat) = (0 : Nat) ∧ (0 : Nat) + List.length p.into = List.length p.into) ∧ ((0 : Nat) = (0 : Nat) ∧ (0 : Nat) + List.length p.nodes = List.length p.nodes) ∧ (191 : Int) = (191 : Int) ∧ (191 : Int) = (191 : Int) ∧ true = true ∧ (0 : Int) = (0 : Int) ∧ True) ∧ ((p.id = p.id ∧ p.kind = p.kind ∧ p.topic = p.topic ∧ p.group = p.group ∧ p.other = p.other ∧ p.key = p.key ∧ (true = true ∧ List.length p.into = List.length p.into ∧ contLe (List.length p.into) (1 : Nat) (cellsOf' encU p.into) (cellsOf' encU p.into)) ∧ (true = true ∧ List.length p.nodes = List.length p.nodes ∧ contLe (List.length p.nodes) (1 : Nat) (cellsOf' encI p.nodes) (cellsOf' encI p.nodes)) ∧ p.src = p.src ∧ p.dst = p.dst ∧ p.step = p.step ∧ True) ∧ ((true = true ∧ List.length s.frozen = List.length s.frozen ∧ contLe (List.length s.frozen) (1 : Nat) (cellsOf' encU s.frozen) (cellsOf' encU s.frozen)) ∧ (true = true ∧ List.length s.made = List.length s.made ∧ contLe (List.length s.made) (2 : Nat) (cellsOf' encS s.made) (cellsOf' encS s.made)) ∧ (true = true ∧ List.length s.gone = List.length s.gone ∧ contLe (List.length s.gone) (2 : Nat) (cellsOf' encS s.gone) (cellsOf' encS s.gone)) ∧ (true = true ∧ List.length s.voters = List.length s.voters ∧ contLe (List.length s.voters) (1 : Nat) (cellsOf' encI s.voters) (cellsOf' encI s.voters)) ∧ (true = true ∧ List.length s.learners = List.length s.learners ∧ contLe (List.length s.learners) (1 : Nat) (cellsOf' encI s.learners) (cellsOf' encI s.learners)) ∧ s.leader = s.leader ∧ s.ready = s.ready ∧ True) ∧ ((0 : Nat) + List.length p.into = List.length p.into ∧ contLe ((0 : Nat) + List.length p.into) (1 : Nat) (appRow (0 : Nat) (fun (k j : Nat) => AV.junk) (cellsOf' encU p.into)) (cellsOf' encU p.into)) ∧ ((0 : Nat) + List.length p.nodes = List.length p.nodes ∧ contLe ((0 : Nat) + List.length p.nodes) (1 : Nat) (appRow (0 : Nat) (fun (k j : Nat) => AV.junk) (cellsOf' encI p.nodes)) (cellsOf' encI p.nodes)) ∧ True) ∧ true = true) ∧ LoopOk Try.prog (4 : Nat) (12 : Nat) (loopAt Try.prog (4 : Nat) (12 : Nat)) { t := p2T p (errI false) q (0 : Nat), m := pnM p s, mv := [] } (T.map (lout [(2 : Nat), (3 : Nat), (4 : Nat), (5 : Nat), (6 : Nat), (7 : Nat), (8 : Nat), (9 : Nat)] (p2S p s (errI false) q)) ((fun (x : Nat) => T.ret ()) (0 : Nat))) ∧ ((q = q ∧ ((0 : Nat) = (0 : Nat) ∧ (0 : Nat) = (0 : Nat)) ∧ true = true ∧ ((0 : Nat) = (0 : Nat) ∧ List.length p.into = List.length p.into) ∧ ((0 : Nat) = (0 : Nat) ∧ List.length p.nodes = List.length p.nodes) ∧ (191 : Int) = (191 : Int) ∧ (191 : Int) = (191 : Int) ∧ true = true ∧ (0 : Int) = (0 : Int) ∧ True) ∧ ((p.id = p.id ∧ p.kind = p.kind ∧ p.topic = p.topic ∧ p.group = p.group ∧ p.other = p.other ∧ p.key = p.key ∧ (true = true ∧ List.length p.into = List.length p.into ∧ contLe (List.length p.into) (1 : Nat) (cellsOf' encU p.into) (cellsOf' encU p.into)) ∧ (true = true ∧ List.length p.nodes = List.length p.nodes ∧ contLe (List.length p.nodes) (1 : Nat) (cellsOf' encI p.nodes) (cellsOf' encI p.nodes)) ∧ p.src = p.src ∧ p.dst = p.dst ∧ p.step = p.step ∧ True) ∧ ((true = true ∧ List.length s.frozen = List.length s.frozen ∧ contLe (List.length s.frozen) (1 : Nat) (cellsOf' encU s.frozen) (cellsOf' encU s.frozen)) ∧ (true = true ∧ List.length s.made = List.length s.made ∧ contLe (List.length s.made) (2 : Nat) (cellsOf' encS s.made) (cellsOf' encS s.made)) ∧ (true = true ∧ List.length s.gone = List.length s.gone ∧ contLe (List.length s.gone) (2 : Nat) (cellsOf' encS s.gone) (cellsOf' encS s.gone)) ∧ (true = true ∧ List.length s.voters = List.length s.voters ∧ contLe (List.length s.voters) (1 : Nat) (cellsOf' encI s.voters) (cellsOf' encI s.voters)) ∧ (true = true ∧ List.length s.learners = List.length s.learners ∧ contLe (List.length s.learners) (1 : Nat) (cellsOf' encI s.learners) (cellsOf' encI s.learners)) ∧ s.leader = s.leader ∧ s.ready = s.ready ∧ True) ∧ (List.length p.into = List.length p.into ∧ contLe (List.length p.into) (1 : Nat) (cellsOf' encU p.into) (cellsOf' encU p.into)) ∧ (List.length p.nodes = List.length p.nodes ∧ contLe (List.length p.nodes) (1 : Nat) (cellsOf' encI p.nodes) (cellsOf' encI p.nodes)) ∧ True) ∧ true = true) ∧ LoopOk Try.prog (4 : Nat) (17 : Nat) (loopAt Try.prog (4 : Nat) (17 : Nat)) { t := p3T p (errI false) q (0 : Nat), m := pnM p s, mv := [] } (T.map (lout [(2 : Nat), (3 : Nat), (4 : Nat), (5 : Nat), (6 : Nat), (7 : Nat), (8 : Nat), (9 : Nat)] (p3S p s (errI false) q)) ((fun (x : Nat) => T.ret ()) (0 : Nat))) ∧ ((q == (1 : Int)) = true → (true = true → (true = true → (true = true → (q = q ∧ True) ∧ True ∧ (stepsOf q == (4 : Int)) = true ∧ True) ∧ (true = false → false = true ∧ True)) ∧ (true = false → false = true ∧ True)) ∧ (true = false → false = true ∧ True)) ∧ ((q == (1 : Int)) = false → ((q == (2 : Int)) = true → (true = true → (true = true → (true = true → (q = q ∧ True) ∧ True ∧ (stepsOf q == (5 : Int)) = true ∧ True) ∧ (true = false → false = true ∧ True)) ∧ (true = false → false = true ∧ True)) ∧ (true = false → false = true ∧ True)) ∧ ((q == (2 : Int)) = false → ((q == (3 : Int)) = true → (true = true → (true = true → (true = true → (q = q ∧ True) ∧ True ∧ (stepsOf q == (5 : Int)) = true ∧ True) ∧ (true = false → false = true ∧ True)) ∧ (true = false → false = true ∧ True)) ∧ (true = false → false = true ∧ True)) ∧ ((q == (3 : Int)) = false → (true = true → (true = true → (true = true → (q = q ∧ True) ∧ True ∧ (stepsOf q == (0 : Int)) = true ∧ True) ∧ (true = false → false = true ∧ True)) ∧ (true = false → false = true ∧ True)) ∧ (true = false → false = true ∧ True))))
set_option maxRecDepth 1000000 in
theorem vcPn2_eq (p : Plan) (s : Seen) (q : Int) : (ctrVC Try.prog (pnH false p s q) 4 [.agg (encPl true p), .agg (encSe true true s), .y (.int .i64 q)] [] (boolR true)) = vcPn2 p s q := by kernel_rfl
end Go.Proofs.Ytghhkabankbkoaa

/-! Plans: the law PlansNext. -/
namespace Go.Proofs.Ytghhkabankbkoaa
open Go.Ax
set_option maxRecDepth 1000000
theorem bump_len (l : List Act) (k : Nat) : (bumpL l k).length = l.length := by
  simp [bumpL]; omega
theorem bump_zero (l : List Act) : bumpL l 0 = l := by simp [bumpL]
theorem bump_at (l : List Act) (k : Nat) (h : k < l.length) : (bumpL l k)[k]?.getD default = l[k]?.getD default := by
  simp [bumpL, List.getElem?_append, Nat.min_eq_left (Nat.le_of_lt h), h]
theorem snoc_a {d : List Act} {j : Nat} (h : j < d.length) : d.take (j + 1) = d.take j ++ [d[j]?.getD default] := by
  rw [List.take_add_one, List.getElem?_eq_getElem h]; rfl
theorem bump_step (l : List Act) (k : Nat) (h : k < l.length) : bumpL l (k + 1) = (bumpL l k).set k (bumpA (l[k]?.getD default)) := by
  unfold bumpL
  rw [snoc_a h, List.map_append, List.set_append, List.length_map, List.length_take, Nat.min_eq_left (Nat.le_of_lt h), if_neg (Nat.lt_irrefl _), Nat.sub_self]
  rw [List.drop_eq_getElem_cons h, List.set_cons_zero]
  simp
theorem askL_len {p : Plan} {s : Seen} (hi : isPlan p = true) : (askL p s).length ≤ 15 := by
  have h := isP hi
  have d : ∀ b x, (doneL p b x).length ≤ 15 := by intro b x; unfold doneL; split <;> simp
  have si : ∀ (l : List Site) (k : Int) (gs : List Int), gs.length ≤ 2 → (sitesL l k p gs).length ≤ 15 := by
    intro l k gs hg
    have := SiP.at_len (x := ⟨true, true, true, p, gs, l, k⟩) hg h.nodes gs.length
    unfold SiP.at at this
    simp only [List.take_length] at this
    unfold sitesL
    rw [List.length_append]
    split <;> simp <;> omega
  have hin : p.into.length ≤ 2 := by have := h.many; have := many_le p.kind; omega
  unfold askL
  repeat' split
  all_goals first
    | exact d _ _
    | exact si _ _ _ hin
    | exact si _ _ _ (olds_le p)
    | simp
theorem p1_loop (p : Plan) (s : Seen) (q : Int) (hi : isPlan p = true) (k : Nat) : LoopOk Try.prog 4 8 (loopAt Try.prog 4 8) ⟨p1T p s q k, p1M p s k, []⟩ (T.map (lout [2, 3, 4, 5, 6, 7, 8, 9] (p1S p s q)) (.ret ())) := by
  refine loop_vcH (o := fun _ => .ret ()) Try.mixed (fun _ => rfl) (fun k => (vcP1_eq p s q k).mpr ?_) k
  unfold vcP1
  have hlen := askL_len (s := s) hi
  generalize askL p s = L at *
  have hbl := bump_len L k
  simp
  intro hk
  refine ⟨hk, by omega, hk, by omega, k + 1, by omega, by rw [wrap_i64 (by omega) (by omega)]; omega, by rw [bump_len, bump_len], ?_⟩
  rw [bump_at L k hk, bump_step L k hk]
  generalize hx : L[k]?.getD default = x
  have hx' : (bumpL L k).getD k default = x := by rw [List.getD_eq_getElem?_getD, bump_at L k hk, hx]
  intro a ha b hb
  unfold wrRow cellsOf'
  by_cases h1 : a = k
  · subst h1
    have h2 : ((bumpL L a).set a (bumpA x)).getD a default = bumpA x := by simp [hbl, hk]
    rw [h2, hx']
    match b, hb with
    | 0, _ => simp [encA, bumpA, len_eq]
    | 1, _ => simp [encA, bumpA, len_eq]
    | 2, _ => simp [encA, bumpA, len_eq]
    | 3, _ => simp [encA, bumpA, len_eq]
    | 4, _ => simp [encA, bumpA, len_eq]
    | 5, _ => simp [encA, bumpA, len_eq]
  · rw [if_neg (by rintro ⟨h, _⟩; exact h1 h)]
    simp [List.getElem?_set, Ne.symm h1]
theorem p2_loop (p : Plan) (s : Seen) (e q : Int) (hp : p.Ok) (k : Nat) : LoopOk Try.prog 4 12 (loopAt Try.prog 4 12) ⟨p2T p e q k, pnM p s, []⟩ (T.map (lout [2, 3, 4, 5, 6, 7, 8, 9] (p2S p s e q)) (.ret ())) := by
  refine loop_vcH (o := fun _ => .ret ()) (stM := fun _ => pnM p s) Try.mixed (fun _ => rfl) (fun k => (vcP2_eq p s e q k).mpr ?_) k
  unfold vcP2
  have := hp.into
  simp
  exact fun hk => ⟨hk, k + 1, by omega, by rw [wrap_i64 (by omega) (by omega)]; omega⟩
theorem p3_loop (p : Plan) (s : Seen) (e q : Int) (hp : p.Ok) (k : Nat) : LoopOk Try.prog 4 17 (loopAt Try.prog 4 17) ⟨p3T p e q k, pnM p s, []⟩ (T.map (lout [2, 3, 4, 5, 6, 7, 8, 9] (p3S p s e q)) (.ret ())) := by
  refine loop_vcH (o := fun _ => .ret ()) (stM := fun _ => pnM p s) Try.mixed (fun _ => rfl) (fun k => (vcP3_eq p s e q k).mpr ?_) k
  unfold vcP3
  have := hp.nodes
  simp
  exact fun hk => ⟨hk, k + 1, by omega, by rw [wrap_i64 (by omega) (by omega)]; omega⟩
theorem pnext_c (p : Plan) (s : Seen) (q : Int) (hp : p.Ok) (hs : s.Ok) (h1 : p.into.length * 8 ≤ 140737488351232) (h2 : p.nodes.length * 8 ≤ 140737488351232) : (boolR true).Sat (ACall' Try.prog 4 [.agg (encPl true p), .agg (encSe true true s), .y (.int .i64 q)] []) := by
  have s1 : ∀ l : List Act, sameP l l = true := fun l => sameP_iff.2 rfl
  have a2 := fun e => p2_loop p s e q hp 0
  have a3 := fun e => p3_loop p s e q hp 0
  cases hi : isPlan p
  · refine ctr_vc (ht := pnH false p s q) Try.mixed rfl ?_
    rw [vcPn2_eq p s q]
    unfold vcPn2
    simp [hp, hs, hi, s1, a2, a3, askI, errI, stepsOf]
    refine ⟨by omega, by omega, ?_⟩
    grind
  · have a1 := p1_loop p s q hi 0
    have hlen := askL_len (s := s) hi
    refine ctr_vc (ht := pnH true p s q) Try.mixed rfl ?_
    rw [vcPn_eq p s q]
    unfold vcPn
    simp [hp, hs, hi, s1, a1, a2, a3, askI, errI, stepsOf]
    refine ⟨by omega, by omega, by omega, ⟨by rw [bump_zero], by rw [bump_zero]; exact contLe_refl _ _ _⟩, ?_⟩
    grind
end Go.Proofs.Ytghhkabankbkoaa

/-! Plans: from the statements to the laws. -/
namespace Go.Proofs.Ytghhkabankbkoaa
open Go.Ax Go.Shelf Go.RowKit Go.ChangeShapes Go.WideShapes Go.ChangeAt
set_option maxRecDepth 1000000
def toI {K : Type} : DataW K → Int
  | .lit (.int _ a) => a
  | _ => 0
def toS {K : Type} : DataW K → ByteArray
  | .lit (.string l) => ⟨l.toArray⟩
  | _ => ByteArray.empty
def toB {K : Type} : DataW K → Bool
  | .lit (.bool b) => b
  | _ => false
theorem encI_ok {K : Type} {k : IntKind} {d : DataW K} (h : (Sh.int k).wf d) : (Sh.int k).enc d = [.y (.int k (toI d))] := by
  obtain ⟨k', n, rfl, _⟩ := h
  rfl
theorem encS_ok {K : Type} {d : DataW K} (h : Sh.str.wf d) : Sh.str.enc d = [.y (.string (toS d))] := by
  obtain ⟨l, rfl, _⟩ := h
  rfl
theorem encB_ok {K : Type} {d : DataW K} (h : Sh.bool.wf d) : Sh.bool.enc d = [.y (.bool (toB d))] := by
  obtain ⟨l, rfl⟩ := h
  rfl
theorem enc_st {K : Type} (fs : List Sh) (ds : List (DataW K)) : (Sh.st fs).enc (.agg ds) = Sh.encL fs ds := by simp only [Sh.enc]
theorem enc_cons {K : Type} (s : Sh) (r : List Sh) (d : DataW K) (ds : List (DataW K)) : Sh.encL (s :: r) (d :: ds) = s.enc d ++ Sh.encL r ds := by simp only [Sh.encL]
theorem enc_nil {K : Type} (l : List (DataW K)) : Sh.encL [] l = [] := by simp only [Sh.encL]
def shSite : Sh := .st [.int .u64, .int .i64]
def toSite {K : Type} : DataW K → Site
  | .agg [a, b] => ⟨toI a, toI b⟩
  | _ => default
theorem toSite_ok {K : Type} {d : DataW K} (h : shSite.wf d) : shSite.enc d = encS (toSite d) := by
  obtain ⟨ds, rfl, d1, r1, rfl, w1, d2, r2, rfl, w2, rfl⟩ := h
  simp only [shSite, enc_st, enc_cons, enc_nil, encI_ok w1, encI_ok w2]
  rfl
theorem relU {K : Type} {d : DataW K} (hd : (Sh.sl (.int .u64)).wf d) {H : HH} {E : Env} {v : Value} (h : Rel (slAV (.int .u64) d) H E v) : Rel (encUs true (listOf toI d)) H E v := conv_sl (encA := encU) (fun x hx => encI_ok hx) hd h
theorem relI {K : Type} {d : DataW K} (hd : (Sh.sl (.int .i64)).wf d) {H : HH} {E : Env} {v : Value} (h : Rel (slAV (.int .i64) d) H E v) : Rel (encIs true (listOf toI d)) H E v := conv_sl (encA := encI) (fun x hx => encI_ok hx) hd h
theorem relS {K : Type} {d : DataW K} (hd : (Sh.sl shSite).wf d) {H : HH} {E : Env} {v : Value} (h : Rel (slAV shSite d) H E v) : Rel (encSs true (listOf toSite d)) H E v := conv_sl (fun x hx => toSite_ok hx) hd h
def shPlan : Sh := .st [.int .u64, .int .i64, .str, .int .u64, .int .u64, .str, .sl (.int .u64), .sl (.int .i64), .int .i64, .int .i64, .int .i64]
def toPlan {K : Type} : DataW K → Plan
  | .agg [a, b, c, d, e, f, g, h, i, j, k] => ⟨toI a, toI b, toS c, toI d, toI e, toS f, listOf toI g, listOf toI h, toI i, toI j, toI k⟩
  | _ => ⟨0, 0, ByteArray.empty, 0, 0, ByteArray.empty, [], [], 0, 0, 0⟩
theorem relPlan {K : Type} {d : DataW K} (hd : shPlan.wf d) {H : HH} {E : Env} {vs : List Value} (h : RelL (shPlan.enc d) H E vs) : RelL (encPl true (toPlan d)) H E vs := by
  obtain ⟨ds, rfl, d1, r1, rfl, w1, d2, r2, rfl, w2, d3, r3, rfl, w3, d4, r4, rfl, w4, d5, r5, rfl, w5, d6, r6, rfl, w6, d7, r7, rfl, w7, d8, r8, rfl, w8, d9, r9, rfl, w9, d10, r10, rfl, w10, d11, r11, rfl, w11, rfl⟩ := hd
  simp only [shPlan, enc_st, enc_cons, enc_nil, slAV_eq, encI_ok w1, encI_ok w2, encS_ok w3, encI_ok w4, encI_ok w5, encS_ok w6, encI_ok w9, encI_ok w10, encI_ok w11, List.append_nil, List.cons_append, List.nil_append] at h
  obtain ⟨v1, x1, rfl, h1, v2, x2, rfl, h2, v3, x3, rfl, h3, v4, x4, rfl, h4, v5, x5, rfl, h5, v6, x6, rfl, h6, v7, x7, rfl, h7, v8, x8, rfl, h8, v9, x9, rfl, h9, v10, x10, rfl, h10, v11, x11, rfl, h11, rfl⟩ := h
  exact ⟨_, _, rfl, h1, _, _, rfl, h2, _, _, rfl, h3, _, _, rfl, h4, _, _, rfl, h5, _, _, rfl, h6, _, _, rfl, relU w7 h7, _, _, rfl, relI w8 h8, _, _, rfl, h9, _, _, rfl, h10, _, _, rfl, h11, rfl⟩
def shConf : Sh := .st [.sl (.int .i64), .sl (.int .i64)]
def shSeen : Sh := .st [.sl (.int .u64), .sl shSite, .sl shSite, shConf, .int .i64, .bool]
def toConf {K : Type} : DataW K → List Int × List Int
  | .agg [a, b] => (listOf toI a, listOf toI b)
  | _ => ([], [])
def toSeen {K : Type} : DataW K → Seen
  | .agg [a, b, c, d, e, f] => ⟨listOf toI a, listOf toSite b, listOf toSite c, (toConf d).1, (toConf d).2, toI e, toB f⟩
  | _ => ⟨[], [], [], [], [], 0, false⟩
theorem relSeen {K : Type} {d : DataW K} (hd : shSeen.wf d) {H : HH} {E : Env} {vs : List Value} (h : RelL (shSeen.enc d) H E vs) : RelL (encSe true true (toSeen d)) H E vs := by
  obtain ⟨ds, rfl, d1, r1, rfl, w1, d2, r2, rfl, w2, d3, r3, rfl, w3, d4, r4, rfl, ⟨cs, rfl, c1, q1, rfl, u1, c2, q2, rfl, u2, rfl⟩, d5, r5, rfl, w5, d6, r6, rfl, w6, rfl⟩ := hd
  simp only [shSeen, shConf, enc_st, enc_cons, enc_nil, slAV_eq, encI_ok w5, encB_ok w6, List.append_nil, List.cons_append, List.nil_append] at h
  obtain ⟨v1, x1, rfl, h1, v2, x2, rfl, h2, v3, x3, rfl, h3, v4, x4, rfl, h4, v5, x5, rfl, h5, v6, x6, rfl, h6, v7, x7, rfl, h7, rfl⟩ := h
  exact ⟨_, _, rfl, relU w1 h1, _, _, rfl, relS w2 h2, _, _, rfl, relS w3 h3, _, _, rfl, relI u1 h4, _, _, rfl, relI u2 h5, _, _, rfl, h6, _, _, rfl, h7, rfl⟩
def structTypes (P : Program) (t : TypeId) : Option (List TypeId) := match P.underlying t with | some (.struct fs) => some (fs.toList.map (·.type)) | _ => Option.none
theorem structTypes_ok {P : Program} {t : TypeId} {l : List TypeId} (h : structTypes P t = some l) : ∃ fs, P.underlying t = some (.struct fs) ∧ fs.toList.map (·.type) = l := by
  unfold structTypes at h
  split at h
  · rename_i fs hu
    exact ⟨fs, hu, Option.some.inj h⟩
  · cases h
theorem undPl : ∃ fs, Try.prog.underlying 32 = some (.struct fs) ∧ fs.toList.map (·.type) = [27, 28, 9, 27, 27, 9, 29, 30, 3, 3, 3] := structTypes_ok (by kernel_rfl)
theorem undSe : ∃ fs, Try.prog.underlying 38 = some (.struct fs) ∧ fs.toList.map (·.type) = [29, 34, 34, 36, 3, 4] := structTypes_ok (by kernel_rfl)
theorem undCo : ∃ fs, Try.prog.underlying 36 = some (.struct fs) ∧ fs.toList.map (·.type) = [30, 30] := structTypes_ok (by kernel_rfl)
theorem undU : Try.prog.underlying 29 = some (.slice 27) := by kernel_rfl
theorem undI : Try.prog.underlying 30 = some (.slice 3) := by kernel_rfl
theorem undS : Try.prog.underlying 34 = some (.slice 40) := by kernel_rfl
theorem bytesU : Try.prog.bytesOf 27 = 8 := by kernel_rfl
theorem bytesI : Try.prog.bytesOf 3 = 8 := by kernel_rfl
theorem bytesS : Try.prog.bytesOf 40 = 16 := by kernel_rfl
structure Plan.Sized (p : Plan) : Prop where
  into : p.into.length * 8 ≤ 140737488351232
  nodes : p.nodes.length * 8 ≤ 140737488351232
structure Seen.Sized (s : Seen) : Prop where
  frozen : s.frozen.length * 8 ≤ 140737488351232
  made : s.made.length * 16 ≤ 140737488351232
  gone : s.gone.length * 16 ≤ 140737488351232
  voters : s.voters.length * 8 ≤ 140737488351232
  learners : s.learners.length * 8 ≤ 140737488351232
theorem Plan.Sized.ok {p : Plan} (h : p.Sized) : p.Ok := ⟨by have := h.into; omega, by have := h.nodes; omega⟩
theorem Seen.Sized.ok {s : Seen} (h : s.Sized) : s.Ok := ⟨by have := h.frozen; omega, by have := h.made; omega, by have := h.gone; omega, by have := h.voters; omega, by have := h.learners; omega⟩
theorem plan_sized {K : Type} {d : DataW K} (hd : shPlan.wf d) (hw : (d.weights Try.prog 32).all (· ≤ reachBytes) = true) : (toPlan d).Sized := by
  obtain ⟨ds, rfl, d1, r1, rfl, w1, d2, r2, rfl, w2, d3, r3, rfl, w3, d4, r4, rfl, w4, d5, r5, rfl, w5, d6, r6, rfl, w6, d7, r7, rfl, w7, d8, r8, rfl, w8, d9, r9, rfl, w9, d10, r10, rfl, w10, d11, r11, rfl, w11, rfl⟩ := hd
  obtain ⟨fs, hf, ht⟩ := undPl
  have h := weights_struct hf hw
  rw [ht] at h
  have h7 := (weights_cons (weights_cons (weights_cons (weights_cons (weights_cons (weights_cons h).2).2).2).2).2).2
  have k1 := weights_slice toI undU (weights_cons h7).1
  have k2 := weights_slice toI undI (weights_cons (weights_cons h7).2).1
  rw [bytesU] at k1
  rw [bytesI] at k2
  exact ⟨k1, k2⟩
theorem seen_sized {K : Type} {d : DataW K} (hd : shSeen.wf d) (hw : (d.weights Try.prog 38).all (· ≤ reachBytes) = true) : (toSeen d).Sized := by
  obtain ⟨ds, rfl, d1, r1, rfl, w1, d2, r2, rfl, w2, d3, r3, rfl, w3, d4, r4, rfl, ⟨cs, rfl, c1, q1, rfl, u1, c2, q2, rfl, u2, rfl⟩, d5, r5, rfl, w5, d6, r6, rfl, w6, rfl⟩ := hd
  obtain ⟨fs, hf, ht⟩ := undSe
  obtain ⟨fs2, hf2, ht2⟩ := undCo
  have h := weights_struct hf hw
  rw [ht] at h
  obtain ⟨h1, h⟩ := weights_cons h
  obtain ⟨h2, h⟩ := weights_cons h
  obtain ⟨h3, h⟩ := weights_cons h
  obtain ⟨h4, h⟩ := weights_cons h
  have g := weights_struct hf2 h4
  rw [ht2] at g
  have k1 := weights_slice toI undU h1
  have k2 := weights_slice toSite undS h2
  have k3 := weights_slice toSite undS h3
  have k4 := weights_slice toI undI (weights_cons g).1
  have k5 := weights_slice toI undI (weights_cons (weights_cons g).2).1
  rw [bytesU] at k1
  rw [bytesS] at k2 k3
  rw [bytesI] at k4 k5
  exact ⟨k1, k2, k3, k4, k5⟩
theorem Try.own : ownKnob Try.prog.godebug = Option.none := by kernel_rfl
theorem Try.laidOut : laidOutB Try.prog = true := by kernel_rfl
theorem Try.mapsRowed : mapsRowed Try.prog = true := by kernel_rfl
theorem Try.slicesOk : slicesOk Try.prog = true := by kernel_rfl
theorem underBool : Try.prog.underlying 4 = some .bool := by kernel_rfl
end Go.Proofs.Ytghhkabankbkoaa
