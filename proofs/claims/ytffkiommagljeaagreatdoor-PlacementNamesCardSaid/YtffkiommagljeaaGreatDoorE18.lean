import Derived.Test.YtffkiommagljeaaGreatDoorE14
import Derived.Test.YtffkiommagljeaaGreatDoorE16
import Derived.Test.YtffkiommagljeaaGreatDoorE17
set_option linter.unusedVariables false
set_option linter.unusedSimpArgs false
set_option linter.unusedSectionVars false
namespace Go.Ax
open Go
variable [Inhabited Gl0]
inductive T (α:Type) where
 | ret (a:α)
 | ite (b:Bool) (y n:T α)
 | need (p:Prop) (k:T α)
 | both (a b:T α)
 | hyp (p:Prop) (k:T α)
 | all (f:Nat->T α)
 | fail
def T.post {α:Type}:T α->(α->Prop)->Prop
 | .ret a,Q=>Q a
 | .ite b y n,Q=>(b=true->y.post Q)/\(b=false->n.post Q)
 | .need p k,Q=>p/\k.post Q
 | .both a b,Q=>a.post Q/\b.post Q
 | .hyp p k,Q=>p->k.post Q
 | .all f,Q=>∀ x,(f x).post Q
 | .fail,_=>False
def T.bind {α β:Type}:T α->(α->T β)->T β
 | .ret a,f=>f a
 | .ite b y n,f=>.ite b (y.bind f) (n.bind f)
 | .need p k,f=>.need p (k.bind f)
 | .both a b,f=>.both (a.bind f) (b.bind f)
 | .hyp p k,f=>.hyp p (k.bind f)
 | .all g,f=>.all fun x=>(g x).bind f
 | .fail,_=>.fail
def T.map {α β:Type} (f:α->β):T α->T β
 | .ret a=>.ret (f a)
 | .ite b y n=>.ite b (y.map f) (n.map f)
 | .need p k=>.need p (k.map f)
 | .both a b=>.both (a.map f) (b.map f)
 | .hyp p k=>.hyp p (k.map f)
 | .all g=>.all fun x=>(g x).map f
 | .fail=>.fail
def T.det {α:Type}:T α->Bool
 | .ret _=>true
 | .ite _ y n=>y.det&&n.det
 | .need _ k=>k.det
 | .fail=>true
 | _=>false
def T.needs {α:Type}:List Prop->T α->T α
 | [],t=>t
 | p::r,t=>.need p (T.needs r t)
theorem T.post_bind {α β:Type} {Q:β->Prop} {f:α->T β}:∀ {t:T α},(t.bind f).post Q->t.post fun a=>(f a).post Q
 | .ret _,h=>h
 | .ite _ _ _,h=>⟨fun e=>T.post_bind (h.1 e),fun e=>T.post_bind (h.2 e)⟩
 | .need _ _,h=>⟨h.1,T.post_bind h.2⟩
 | .both _ _,h=>⟨T.post_bind h.1,T.post_bind h.2⟩
 | .hyp _ _,h=>fun q=>T.post_bind (h q)
 | .all _,h=>fun x=>T.post_bind (h x)
 | .fail,h=>h
theorem T.post_map {α β:Type} {Q:β->Prop} {f:α->β}:∀ {t:T α},(t.map f).post Q->t.post fun a=>Q (f a)
 | .ret _,h=>h
 | .ite _ _ _,h=>⟨fun e=>T.post_map (h.1 e),fun e=>T.post_map (h.2 e)⟩
 | .need _ _,h=>⟨h.1,T.post_map h.2⟩
 | .both _ _,h=>⟨T.post_map h.1,T.post_map h.2⟩
 | .hyp _ _,h=>fun q=>T.post_map (h q)
 | .all _,h=>fun x=>T.post_map (h x)
 | .fail,h=>h
theorem T.post_needs {α:Type} {Q:α->Prop}:∀ {l:List Prop} {t:T α},(T.needs l t).post Q->Hold l/\t.post Q
 | [],_,h=>⟨fun _ hp=>(List.not_mem_nil hp).elim,h⟩
 | p::r,t,h=>by
   obtain ⟨h1,h2⟩:=T.post_needs (l:=r) h.2
   refine ⟨fun q hq=>?_,h2⟩
   rcases List.mem_cons.1 hq with rfl | hq
   · exact h.1
   · exact h1 q hq
theorem T.post_ex {α:Type} {P Q:α->Prop}:∀ {t:T α},t.det=true->t.post P->t.post Q->∃ a,P a/\Q a
 | .ret a,_,h,k=>⟨a,h,k⟩
 | .ite b y n,hd,h,k=>by
   simp only [T.det,Bool.and_eq_true] at hd
   cases b with
   | true=>exact T.post_ex hd.1 (h.1 rfl) (k.1 rfl)
   | false=>exact T.post_ex hd.2 (h.2 rfl) (k.2 rfl)
 | .need _ t,hd,h,k=>T.post_ex (t:=t) hd h.2 k.2
 | .fail,_,h,_=>h.elim
def T.Sat {α:Type} (t:T α) (Ok:α->Prop):Prop:=∀ Q,t.post Q->∃ a,Ok a/\Q a
theorem T.Sat.mono {α:Type} {t:T α} {P Q:α->Prop} (h:t.Sat P) (k:∀ a,P a->Q a):t.Sat Q:=fun R hr=>by
 obtain ⟨a,h1,h2⟩:=h R hr
 exact ⟨a,k a h1,h2⟩
theorem T.Sat.ret {α:Type} {a:α} {P:α->Prop} (h:P a):(T.ret a).Sat P:=fun _ hq=>⟨a,h,hq⟩
theorem T.Sat.fail {α:Type} {P:α->Prop}:(T.fail:T α).Sat P:=fun _ h=>h.elim
theorem T.Sat.ite {α:Type} {b:Bool} {y n:T α} {P:α->Prop} (h:b=true->y.Sat P) (k:b=false->n.Sat P):(T.ite b y n).Sat P:=fun Q hq=>by
 cases b with
 | true=>exact h rfl Q (hq.1 rfl)
 | false=>exact k rfl Q (hq.2 rfl)
theorem T.Sat.need {α:Type} {p:Prop} {t:T α} {P:α->Prop} (h:p->t.Sat P):(T.need p t).Sat P:=fun Q hq=>h hq.1 Q hq.2
theorem T.Sat.right {α:Type} {a b:T α} {P:α->Prop} (h:b.Sat P):(T.both a b).Sat P:=fun Q hq=>h Q hq.2
theorem T.Sat.hyp {α:Type} {p:Prop} {t:T α} {P:α->Prop} (hp:p) (h:t.Sat P):(T.hyp p t).Sat P:=fun Q hq=>h Q (hq hp)
theorem T.Sat.all {α:Type} {f:Nat->T α} {P:α->Prop} (x:Nat) (h:(f x).Sat P):(T.all f).Sat P:=fun Q hq=>h Q (hq x)
theorem T.Sat.needs {α:Type} {l:List Prop} {t:T α} {P:α->Prop} (h:Hold l->t.Sat P):(T.needs l t).Sat P:=fun Q hq=>by
 obtain ⟨h1,h2⟩:=T.post_needs hq
 exact h h1 Q h2
theorem T.Sat.bind {α β:Type} {t:T α} {f:α->T β} {P:α->Prop} {R:β->Prop} (h:t.Sat P) (k:∀ a,P a->(f a).Sat R):(t.bind f).Sat R:=fun Q hq=>by
 obtain ⟨a,h1,h2⟩:=h _ (T.post_bind hq)
 exact k a h1 Q h2
theorem T.Sat.map {α β:Type} {t:T α} {f:α->β} {P:α->Prop} {R:β->Prop} (h:t.Sat P) (k:∀ a,P a->R (f a)):(t.map f).Sat R:=fun Q hq=>by
 obtain ⟨a,h1,h2⟩:=h _ (T.post_map hq)
 exact ⟨_,k a h1,h2⟩
theorem T.Sat.of_post {α:Type} {t t':T α} {le:α->α->Prop} {P:α->Prop} (hd:t'.det=true) (h:t.Sat P) (hle:∀ a b,P a->le a b->P b) (hp:t.post fun a=>t'.post fun b=>le a b):t'.Sat P:=fun Q hq=>by
 obtain ⟨a,h1,h2⟩:=h _ hp
 obtain ⟨b,h3,h4⟩:=T.post_ex hd h2 hq
 exact ⟨b,hle a b h1 h3,h4⟩
def fN {α:Type} (n:Nat) (k:Nat->α):α:=match n with | 0=>k 0 | m+1=>k (m+1)
theorem fN_eq {α:Type} (n:Nat) (k:Nat->α):fN n k=k n:=by cases n<;>rfl
def fV {α:Type} (v:Value) (k:Value->α):α:=match v with
 | .int d n=>k (.int d n)
 | .bool b=>k (.bool b)
 | .string b=>k (.string b)
 | v=>k v
theorem fV_eq {α:Type} (v:Value) (k:Value->α):fV v k=k v:=by cases v<;>rfl
def fFn {α:Type} (f:Fn) (k:Fn->α):α:=match f with
 | .func g=>fN g fun g=>k (.func g)
 | f=>k f
theorem fFn_eq {α:Type} (f:Fn) (k:Fn->α):fFn f k=k f:=by cases f<;>simp [fFn,fN_eq]
mutual
def fA {α:Type}:AV->(AV->α)->α
 | .s v,k=>fV v fun v=>k (.s v)
 | .y v,k=>fV v fun v=>k (.y v)
 | .junk,k=>k .junk
 | .ptr i a b c,k=>fN i fun i=>k (.ptr i a b c)
 | .own i a b c,k=>fN i fun i=>k (.own i a b c)
 | .mref i,k=>fN i fun i=>k (.mref i)
 | .sl b z n c,k=>k (.sl b z n c)
 | .ys b z n c,k=>k (.ys b z n c)
 | .yn b z n c,k=>k (.yn b z n c)
 | .ip b m c,k=>k (.ip b m c)
 | .opt b t a,k=>fN t fun t=>fA a fun a=>k (.opt b t a)
 | .agg cs,k=>fL cs fun cs=>k (.agg cs)
 | .tup cs,k=>fL cs fun cs=>k (.tup cs)
 | .fn f a b,k=>fFn f fun f=>fL a fun a=>fL b fun b=>k (.fn f a b)
 | .ifc t a,k=>fN t fun t=>fA a fun a=>k (.ifc t a)
def fL {α:Type}:List AV->(List AV->α)->α
 | [],k=>k []
 | a::r,k=>fA a fun a=>fL r fun r=>k (a::r)
end
mutual
theorem fA_eq {α:Type}:∀ (a:AV) (k:AV->α),fA a k=k a
 | .s _,_=>by simp only [fA,fV_eq]
 | .y _,_=>by simp only [fA,fV_eq]
 | .junk,_=>rfl
 | .ptr ..,_=>by simp only [fA,fN_eq]
 | .own ..,_=>by simp only [fA,fN_eq]
 | .mref ..,_=>by simp only [fA,fN_eq]
 | .sl ..,_=>rfl
 | .ys ..,_=>rfl
 | .yn ..,_=>rfl
 | .ip ..,_=>rfl
 | .agg cs,_=>by simp only [fA,fL_eq cs]
 | .tup cs,_=>by simp only [fA,fL_eq cs]
 | .fn f a b,_=>by simp only [fA,fFn_eq,fL_eq a,fL_eq b]
 | .ifc t a,_=>by simp only [fA,fN_eq,fA_eq a]
 | .opt b t a,_=>by simp only [fA,fN_eq,fA_eq a]
theorem fL_eq {α:Type}:∀ (l:List AV) (k:List AV->α),fL l k=k l
 | [],_=>rfl
 | a::r,_=>by simp only [fL,fA_eq a,fL_eq r]
end
def fSp {α β:Type}:List β->(List β->α)->α
 | [],k=>k []
 | a::r,k=>fSp r fun r=>k (a::r)
theorem fSp_eq {α β:Type}:∀ (l:List β) (k:List β->α),fSp l k=k l
 | [],_=>rfl
 | a::r,_=>by simp only [fSp,fSp_eq r]
def fEs {α:Type}:List (Value×AV×Nat)->(List (Value×AV×Nat)->α)->α
 | [],k=>k []
 | (v,a,n)::r,k=>fV v fun v=>fA a fun a=>fN n fun n=>fEs r fun r=>k ((v,a,n)::r)
theorem fEs_eq {α:Type}:∀ (l:List (Value×AV×Nat)) (k:List (Value×AV×Nat)->α),fEs l k=k l
 | [],_=>rfl
 | (v,a,n)::r,_=>by simp only [fEs,fV_eq,fA_eq,fN_eq,fEs_eq r]
def fNl {α:Type}:List Nat->(List Nat->α)->α
 | [],k=>k []
 | a::r,k=>fN a fun a=>fNl r fun r=>k (a::r)
theorem fNl_eq {α:Type}:∀ (l:List Nat) (k:List Nat->α),fNl l k=k l
 | [],_=>rfl
 | a::r,_=>by simp only [fNl,fN_eq,fNl_eq r]
def fKn {α β:Type}:List (β×AV)->(List (β×AV)->α)->α
 | [],k=>k []
 | (v,a)::r,k=>fA a fun a=>fKn r fun r=>k ((v,a)::r)
theorem fKn_eq {α β:Type}:∀ (l:List (β×AV)) (k:List (β×AV)->α),fKn l k=k l
 | [],_=>rfl
 | (v,a)::r,_=>by simp only [fKn,fA_eq,fKn_eq r]
def fOp {α:Type}:List (Nat×List AV)->(List (Nat×List AV)->α)->α
 | [],k=>k []
 | (v,a)::r,k=>fL a fun a=>fOp r fun r=>k ((v,a)::r)
theorem fOp_eq {α:Type}:∀ (l:List (Nat×List AV)) (k:List (Nat×List AV)->α),fOp l k=k l
 | [],_=>rfl
 | (v,a)::r,_=>by simp only [fOp,fL_eq,fOp_eq r]
def fB {α:Type}:Blk->(Blk->α)->α
 | .box t cs,k=>fL cs fun cs=>k (.box t cs)
 | .lst t z n c cs,k=>fSp cs fun cs=>k (.lst t z n c cs)
 | .row t z n c d,k=>k (.row t z n c d)
 | .mp es ck,k=>fEs es fun es=>fN ck fun ck=>k (.mp es ck)
 | .mi a b c d,k=>k (.mi a b c d)
 | .mit a b c d,k=>fN a fun a=>fN b fun b=>fNl c fun c=>fN d fun d=>k (.mit a b c d)
 | .tmap q h c n kn,k=>fKn kn fun kn=>k (.tmap q h c n kn)
 | .trow t z n cp c op zs,k=>fOp op fun op=>k (.trow t z n cp c op zs)
 | .any,k=>k .any
 | .dead,k=>k .dead
theorem fB_eq {α:Type} (B:Blk) (k:Blk->α):fB B k=k B:=by cases B<;>simp only [fB,fL_eq,fSp_eq,fEs_eq,fN_eq,fNl_eq,fKn_eq,fOp_eq]
def fW {α:Type}:List (Nat×Blk)->(List (Nat×Blk)->α)->α
 | [],k=>k []
 | (i,B)::r,k=>fN i fun i=>fB B fun B=>fW r fun r=>k ((i,B)::r)
theorem fW_eq {α:Type}:∀ (l:List (Nat×Blk)) (k:List (Nat×Blk)->α),fW l k=k l
 | [],_=>rfl
 | (i,B)::r,_=>by simp only [fW,fN_eq,fB_eq,fW_eq r]
def fNs {α:Type}:List Nat->(List Nat->α)->α
 | [],k=>k []
 | a::r,k=>fN a fun a=>fNs r fun r=>k (a::r)
theorem fNs_eq {α:Type}:∀ (l:List Nat) (k:List Nat->α),fNs l k=k l
 | [],_=>rfl
 | a::r,_=>by simp only [fNs,fN_eq,fNs_eq r]
def fE {α:Type} (e:CE) (k:CE->α):α:=fA e.r fun r=>fNs e.rd fun rd=>fW e.wr fun wr=>fNs e.kl fun kl=>k ⟨r,rd,wr,kl,e.ob⟩
theorem fE_eq {α:Type} (e:CE) (k:CE->α):fE e k=k e:=by simp only [fE,fA_eq,fNs_eq,fW_eq]
def fM {α:Type}:List Blk->(List Blk->α)->α
 | [],k=>k []
 | B::r,k=>fB B fun B=>fM r fun r=>k (B::r)
theorem fM_eq {α:Type}:∀ (l:List Blk) (k:List Blk->α),fM l k=k l
 | [],_=>rfl
 | B::r,_=>by simp only [fM,fB_eq,fM_eq r]
def fS {α:Type} (s:St) (k:St->α):α:=fSp s.t fun t=>fSp s.m fun m=>fNs s.mv fun mv=>k ⟨t,m,mv⟩
theorem fS_eq {α:Type} (s:St) (k:St->α):fS s k=k s:=by simp only [fS,fSp_eq,fNs_eq]
def svL:List AV->List AV
 | []=>[]
 | .y v::r=>.s v::svL r
 | a::r=>a::svL r
def sv:AV->AV
 | .y v=>.s v
 | .ys b sz n c=>.sl b sz n c
 | .yn b sz n c=>.sl b sz n c
 | .agg cs=>.agg (svL cs)
 | a=>a
def anyY:List AV->Bool
 | []=>false
 | .y _::_=>true
 | _::r=>anyY r
def isRow:Blk->Bool
 | .row ..=>true
 | .trow ..=>true
 | _=>false
def isY (rd:Nat->Blk):AV->Bool
 | .y _=>true
 | .ys ..=>true
 | .yn ..=>true
 | .agg cs=>anyY cs
 | .own i _ _ _=>isRow (rd i)
 | .ptr i _ _ _=>isRow (rd i)
 | _=>false
def anyOp (rd:Nat->Blk) (t:Nat->AV):List Operand->Bool
 | []=>false
 | x::r=>isY rd (ev t x)||anyOp rd t r
def retag:AV->AV
 | .s v=>.y v
 | .sl b sz n c=>.ys b sz n c
 | a=>a
theorem relL_sv:∀ {l:List AV} {H:HH} {E:Env} {vs:List Value},RelL l H E vs->RelL (svL l) H E vs
 | [],_,_,_,h=>h
 | a::r,_,_,_,h=>by
   obtain ⟨v,q,rfl,h1,h2⟩:=h
   cases a<;>exact ⟨v,q,rfl,h1,relL_sv h2⟩
theorem rel_sv {a:AV} {H:HH} {E:Env} {v:Value} (h:Rel a H E v):Rel (sv a) H E v:=by
 cases a with
 | agg cs=>obtain ⟨vs,rfl,h⟩:=h;exact ⟨vs,rfl,relL_sv h⟩
 | yn b sz n c=>obtain ⟨ad,cap,hu,hn,hk⟩:=h;exact ⟨some ad,cap,hu,⟨hn,fun h=>by cases h⟩,fun _=>⟨ad,rfl,hk⟩⟩
 | _=>exact h
theorem rel_retag {a:AV} {H:HH} {E:Env} {v:Value} (h:Rel a H E v):Rel (retag a) H E v:=by
 cases a<;>exact h
theorem relT_sv {t:Nat->AV} {H:HH} {E:Env} {a:Act} (h:RelT t H E a):RelT (fun i=>sv (t i)) H E a:=fun i=>rel_sv (h i)
def reckons:Op->Bool
 | .binOp .. | .unOp .. | .convert .. | .slice .. | .indexAddr .. | .index .. | .makeSlice ..=>true
 | .load .. | .store ..=>true
 | .call { callee:=.builtin _,.. }=>true
 | _=>false
def yGo (P:Program) (rd:Nat->Blk) (nid:Nat) (o:Oper) (h:Option Hint) (u:Nat->AV) (tag:Bool):Option CE :=
 match aop P h rd nid u o.op with
 | some e=>some ⟨(match tag with | true=>retag e.r | false=>e.r),opRd u o.op++ids e.wr,killW e.kl e.wr,e.kl,e.ob.map (· = true)⟩
 | none=>none
def yop (P:Program) (rd:Nat->Blk) (nid:Nat) (o:Oper) (t:Nat->AV):Option CE :=
 match o.op with
 | .load _ a=>(match isY rd (ev t a) with | true=>yGo P rd nid o (some .ok) t false | false=>yGo P rd nid o none t false)
 | .store _ a _=>(match isY rd (ev t a) with | true=>yGo P rd nid o (some .ok) t false | false=>yGo P rd nid o none t false)
 | op=>(match reckons op&&anyOp rd t op.operands.toList with
   | true=>yGo P rd nid o (some .ok) (fun i=>sv (t i)) true
   | false=>yGo P rd nid o none t false)
theorem stepT_sv {P:Program} {o:Oper} {t:Nat->AV} {M:List Blk} {e:CE} (h:StepT P o (fun i=>sv (t i)) M e):StepT P o t M e :=
 fun H E w a K Q hC hT hd hk=>h H E w a K Q hC (relT_sv hT) hd hk
theorem stepT_retag {P:Program} {o:Oper} {t:Nat->AV} {M:List Blk} {r:AV} {rd:List Nat} {wr:List (Nat×Blk)} {kl:List Nat} {ob:List Prop} (h:StepT P o t M ⟨r,rd,wr,kl,ob⟩):StepT P o t M ⟨retag r,rd,wr,kl,ob⟩ :=
 fun H E w a K Q hC hT hd hk=>h H E w a K Q hC hT hd fun v w' H' E' hr hc he=>hk v w' H' E' (rel_retag hr) hc he
theorem yGo_ok {P:Program} {rd:Nat->Blk} {nid:Nat} {o:Oper} {hh:Option Hint} {u:Nat->AV} {tag:Bool} {e:CE} (h:yGo P rd nid o hh u tag=some e) (ho:Hold e.ob) (hd:∀ k,nid<=k->rd k=.dead) {M:List Blk} (hM:∀ i∈e.rd,getM M i=rd i):StepT P o u M e:=by
 unfold yGo at h
 split at h
 case h_2=>cases h
 rename_i ef hef
 cases h
 have hs:=aop_step hef ho hd hM
 cases tag with
 | true=>exact stepT_retag hs
 | false=>exact hs
theorem yop_ok {P:Program} {rd:Nat->Blk} {nid:Nat} {o:Oper} {t:Nat->AV} {e:CE} (h:yop P rd nid o t=some e) (ho:Hold e.ob) (hd:∀ k,nid<=k->rd k=.dead) {M:List Blk} (hM:∀ i∈e.rd,getM M i=rd i):StepT P o t M e:=by
 unfold yop at h
 split at h
 · split at h<;>exact yGo_ok h ho hd hM
 · split at h<;>exact yGo_ok h ho hd hM
 · split at h
   · exact stepT_sv (yGo_ok h ho hd hM)
   · exact yGo_ok h ho hd hM
def eqVal:Value->Value->Bool
 | .int k a,.int k' b=>decide (k=k')&&decide (a=b)
 | .bool a,.bool b=>a==b
 | .string a,.string b=>a.data.toList==b.data.toList
 | .pointer none,.pointer none=>true
 | .pointer (some ⟨a,b,none⟩),.pointer (some ⟨c,d,none⟩)=>Nat.beq a c&&Nat.beq b d
 | .slice none 0 0,.slice none 0 0=>true
 | .map none,.map none=>true
 | .nilFunc,.nilFunc=>true
 | .nilIface,.nilIface=>true
 | _,_=>false
theorem eqVal_ok {a b:Value} (h:eqVal a b=true):a=b:=by
 unfold eqVal at h
 split at h<;>simp at h
 · obtain ⟨rfl,rfl⟩:=h;rfl
 · subst h;rfl
 · rename_i x y
   obtain ⟨⟨x⟩⟩:=x
   obtain ⟨⟨y⟩⟩:=y
   simp at h
   subst h;rfl
 · rfl
 · obtain ⟨rfl,rfl⟩:=h;rfl
 all_goals rfl
mutual
def eqA:AV->AV->Bool
 | .s a,.s b=>eqVal a b
 | .y a,.y b=>eqVal a b
 | .junk,.junk=>true
 | .ptr a b c d,.ptr e f g h=>Nat.beq a e&&Nat.beq b f&&Nat.beq c g&&Nat.beq d h
 | .own a b c d,.own e f g h=>Nat.beq a e&&Nat.beq b f&&Nat.beq c g&&Nat.beq d h
 | .mref a,.mref b=>Nat.beq a b
 | .agg a,.agg b=>eqAs a b
 | .tup a,.tup b=>eqAs a b
 | .fn (.func f) a b,.fn (.func g) c d=>Nat.beq f g&&eqAs a c&&eqAs b d
 | .ifc t a,.ifc u b=>Nat.beq t u&&eqA a b
 | _,_=>false
def eqAs:List AV->List AV->Bool
 | [],[]=>true
 | a::r,b::q=>eqA a b&&eqAs r q
 | _,_=>false
end
theorem nb {a b:Nat} (h:Nat.beq a b=true):a=b:=Nat.eq_of_beq_eq_true h
mutual
theorem eqA_ok:∀ {a b:AV},eqA a b=true->a=b
 | .s a,b,h=>by cases b<;>simp [eqA] at h;rw [eqVal_ok h]
 | .y a,b,h=>by cases b<;>simp [eqA] at h;rw [eqVal_ok h]
 | .junk,b,h=>by cases b<;>simp [eqA] at h;rfl
 | .ptr ..,b,h=>by cases b<;>simp [eqA] at h;obtain ⟨⟨⟨rfl,rfl⟩,rfl⟩,rfl⟩:=h;rfl
 | .own ..,b,h=>by cases b<;>simp [eqA] at h;obtain ⟨⟨⟨rfl,rfl⟩,rfl⟩,rfl⟩:=h;rfl
 | .mref _,b,h=>by cases b<;>simp [eqA] at h;subst h;rfl
 | .sl ..,b,h=>by cases b<;>simp [eqA] at h
 | .ys ..,b,h=>by cases b<;>simp [eqA] at h
 | .yn ..,b,h=>by cases b<;>simp [eqA] at h
 | .ip ..,b,h=>by cases b<;>simp [eqA] at h
 | .agg a,b,h=>by cases b<;>simp [eqA] at h;rw [eqAs_ok h]
 | .tup a,b,h=>by cases b<;>simp [eqA] at h;rw [eqAs_ok h]
 | .fn f a b,c,h=>by
   cases c with
   | fn g d e =>
     cases f<;>cases g<;>simp [eqA] at h
     obtain ⟨⟨rfl,h1⟩,h2⟩:=h
     rw [eqAs_ok h1,eqAs_ok h2]
   | _=>cases f<;>simp [eqA] at h
 | .ifc t a,b,h=>by cases b<;>simp [eqA] at h;obtain ⟨rfl,h1⟩:=h;rw [eqA_ok h1]
theorem eqAs_ok:∀ {a b:List AV},eqAs a b=true->a=b
 | [],b,h=>by cases b<;>simp [eqAs] at h;rfl
 | a::r,b,h=>by cases b<;>simp [eqAs] at h;rw [eqA_ok h.1,eqAs_ok h.2]
end
def eqO:Option Nat->Option Nat->Bool
 | none,none=>true
 | some a,some b=>Nat.beq a b
 | _,_=>false
theorem eqO_ok {a b:Option Nat} (h:eqO a b=true):a=b:=by
 cases a<;>cases b<;>simp [eqO] at h
 · rfl
 · subst h;rfl
def eqNs:List Nat->List Nat->Bool
 | [],[]=>true
 | a::r,b::q=>Nat.beq a b&&eqNs r q
 | _,_=>false
theorem eqNs_ok:∀ {a b:List Nat},eqNs a b=true->a=b
 | [],b,h=>by cases b<;>simp [eqNs] at h;rfl
 | a::r,b,h=>by cases b<;>simp [eqNs] at h;rw [h.1,eqNs_ok h.2]
def eqEs:List (Value×AV×Nat)->List (Value×AV×Nat)->Bool
 | [],[]=>true
 | a::r,b::q=>eqVal a.1 b.1&&eqA a.2.1 b.2.1&&Nat.beq a.2.2 b.2.2&&eqEs r q
 | _,_=>false
theorem eqEs_ok:∀ {a b:List (Value×AV×Nat)},eqEs a b=true->a=b
 | [],b,h=>by cases b<;>simp [eqEs] at h;rfl
 | (x,y,z)::r,b,h=>by
   cases b with
   | nil=>simp [eqEs] at h
   | cons q b =>
     obtain ⟨u,v,k⟩:=q
     simp [eqEs] at h
     obtain ⟨⟨⟨h1,h2⟩,rfl⟩,h4⟩:=h
     rw [eqVal_ok h1,eqA_ok h2,eqEs_ok h4]
def eqB:Blk->Blk->Bool
 | .box t a,.box u b=>Nat.beq t u&&eqAs a b
 | .lst t s n c a,.lst u z m d b=>Nat.beq t u&&Nat.beq s z&&Nat.beq n m&&eqO c d&&eqAs a b
 | .mp a c,.mp b d=>eqEs a b&&Nat.beq c d
 | .mit a b c d,.mit e f g h=>Nat.beq a e&&Nat.beq b f&&eqNs c g&&Nat.beq d h
 | .any,.any=>true
 | .dead,.dead=>true
 | _,_=>false
theorem eqB_ok {a b:Blk} (h:eqB a b=true):a=b:=by
 cases a<;>cases b<;>simp [eqB] at h
 · obtain ⟨rfl,h⟩:=h;rw [eqAs_ok h]
 · obtain ⟨⟨⟨⟨rfl,rfl⟩,rfl⟩,h1⟩,h2⟩:=h;rw [eqO_ok h1,eqAs_ok h2]
 · obtain ⟨h,rfl⟩:=h;rw [eqEs_ok h]
 · obtain ⟨⟨⟨rfl,rfl⟩,h⟩,rfl⟩:=h;rw [eqNs_ok h]
 · rfl
 · rfl
def eqM:List Blk->List Blk->Bool
 | [],[]=>true
 | a::r,b::q=>eqB a b&&eqM r q
 | _,_=>false
theorem eqM_ok:∀ {a b:List Blk},eqM a b=true->a=b
 | [],b,h=>by cases b<;>simp [eqM] at h;rfl
 | a::r,b,h=>by cases b<;>simp [eqM] at h;rw [eqB_ok h.1,eqM_ok h.2]
theorem Conc.congr {H:HH} {E:Env} {w:World} {M M':List Blk} (h:Conc H E w M) (hg:∀ j,getM M' j=getM M j):Conc H E w M' :=
 ⟨h.imm,h.tf,fun j=>by rw [hg];exact h.blk j,h.injH,h.sepH,h.ltS⟩
def trimW (L:List Nat) (rd:Nat->Blk):List (Nat×Blk)->List (Nat×Blk)
 | []=>[]
 | p::r=>match mem L p.1&&eqB p.2 (rd p.1) with
   | true=>trimW L rd r
   | false=>p::trimW L rd r
def onceB:List Nat->Bool
 | []=>true
 | a::l=>!mem l a&&onceB l
theorem trimW_sub {L:List Nat} {rd:Nat->Blk}:∀ {l:List (Nat×Blk)} {i:Nat},i∈ids (trimW L rd l)->i∈ids l
 | [],_,h=>h
 | p::r,i,h=>by
   unfold trimW at h
   split at h
   · exact List.mem_cons_of_mem _ (trimW_sub h)
   · simp only [ids] at h ⊢
     rcases List.mem_cons.1 h with e | e
     · exact e ▸ List.mem_cons_self
     · exact List.mem_cons_of_mem _ (trimW_sub e)
theorem lastW_trim {L:List Nat} {rd:Nat->Blk} {M:List Blk} (hM:∀ i∈L,getM M i=rd i):∀ (l:List (Nat×Blk)) (j:Nat),onceB (ids l)=true->(lastW (trimW L rd l) j).getD (getM M j)=(lastW l j).getD (getM M j)
 | [],_,_=>rfl
 | (i,B)::r,j,hn=>by
   simp only [ids,onceB,Bool.and_eq_true,Bool.not_eq_true'] at hn
   have hni:i ∉ ids r:=fun h=>by rw [mem_iff.2 h] at hn;cases hn.1
   have ih:=lastW_trim hM r j hn.2
   unfold trimW
   split
   · rename_i hb
     simp only [Bool.and_eq_true] at hb
     rw [ih]
     simp only [lastW]
     by_cases e:i=j
     · subst e
       rw [lastW_none hni,if_pos rfl,eqB_ok hb.2]
       exact hM i (mem_iff.1 hb.1)
     · cases hl:lastW r j with
       | some b=>rfl
       | none=>simp [e]
   · simp only [lastW]
     by_cases e:i=j
     · subst e
       rw [lastW_none hni,lastW_none fun h=>hni (trimW_sub h)]
     · simp only [if_neg e]
       cases h1:lastW (trimW L rd r) j<;>cases h2:lastW r j<;>rw [h1,h2] at ih<;>exact ih
theorem applyW_trim {L:List Nat} {rd:Nat->Blk} {M:List Blk} {l:List (Nat×Blk)} (hM:∀ i∈L,getM M i=rd i) (hn:onceB (ids l)=true) (j:Nat):getM (applyW (trimW L rd l) M) j=getM (applyW l M) j:=by
 rw [getM_applyW,getM_applyW]
 exact lastW_trim hM l j hn
end Go.Ax
