import Derived.Test.YtnbhdjadlbhknaaGreatDoorE4
import Derived.Test.YtnbhdjadlbhknaaGreatDoorE5
set_option linter.unusedVariables false
set_option linter.unusedSimpArgs false
set_option linter.unusedSectionVars false
namespace Go.Ax
open Go
variable [Inhabited jZ]
inductive T (α:Type) where
 | ret (a:α)
 | ite (b:Bool) (y n:T α)
 | need (p:Prop) (k:T α)
 | both (a b:T α)
 | hyp (p:Prop) (k:T α)
 | all (f:Nat->T α)
 | fail
def T.post {α:Type}:T α->(α->Prop)->Prop
 | .ret a,Q=>Q a
 | .ite b y n,Q=>(b=true->y.post Q)/\(b=false->n.post Q)
 | .need p k,Q=>p/\k.post Q
 | .both a b,Q=>a.post Q/\b.post Q
 | .hyp p k,Q=>p->k.post Q
 | .all f,Q=>∀ x,(f x).post Q
 | .fail,_=>False
def T.bind {α β:Type}:T α->(α->T β)->T β
 | .ret a,f=>f a
 | .ite b y n,f=>.ite b (y.bind f) (n.bind f)
 | .need p k,f=>.need p (k.bind f)
 | .both a b,f=>.both (a.bind f) (b.bind f)
 | .hyp p k,f=>.hyp p (k.bind f)
 | .all g,f=>.all fun x=>(g x).bind f
 | .fail,_=>.fail
def T.map {α β:Type} (f:α->β):T α->T β
 | .ret a=>.ret (f a)
 | .ite b y n=>.ite b (y.map f) (n.map f)
 | .need p k=>.need p (k.map f)
 | .both a b=>.both (a.map f) (b.map f)
 | .hyp p k=>.hyp p (k.map f)
 | .all g=>.all fun x=>(g x).map f
 | .fail=>.fail
def T.Mq {α:Type}:T α->Bool
 | .ret _=>true
 | .ite _ y n=>y.Mq&&n.Mq
 | .need _ k=>k.Mq
 | .fail=>true
 | _=>false
def T.needs {α:Type}:List Prop->T α->T α
 | [],t=>t
 | p::r,t=>.need p (T.needs r t)
theorem T.jB {α β:Type} {Q:β->Prop} {f:α->T β}:∀ {t:T α},(t.bind f).post Q->t.post fun a=>(f a).post Q
 | .ret _,h=>h
 | .ite _ _ _,h=>⟨fun e=>T.jB (h.1 e),fun e=>T.jB (h.2 e)⟩
 | .need _ _,h=>⟨h.1,T.jB h.2⟩
 | .both _ _,h=>⟨T.jB h.1,T.jB h.2⟩
 | .hyp _ _,h=>fun q=>T.jB (h q)
 | .all _,h=>fun x=>T.jB (h x)
 | .fail,h=>h
theorem T.kK {α β:Type} {Q:β->Prop} {f:α->β}:∀ {t:T α},(t.map f).post Q->t.post fun a=>Q (f a)
 | .ret _,h=>h
 | .ite _ _ _,h=>⟨fun e=>T.kK (h.1 e),fun e=>T.kK (h.2 e)⟩
 | .need _ _,h=>⟨h.1,T.kK h.2⟩
 | .both _ _,h=>⟨T.kK h.1,T.kK h.2⟩
 | .hyp _ _,h=>fun q=>T.kK (h q)
 | .all _,h=>fun x=>T.kK (h x)
 | .fail,h=>h
theorem T.Bp {α:Type} {Q:α->Prop}:∀ {l:List Prop} {t:T α},(T.needs l t).post Q->Hold l/\t.post Q
 | [],_,h=>⟨fun _ hp=>(List.not_mem_nil hp).elim,h⟩
 | p::r,t,h=>by
   obtain ⟨h1,h2⟩:=T.Bp (l:=r) h.2
   refine ⟨fun q hq=>?_,h2⟩
   rcases List.mem_cons.1 hq with rfl | hq
   · exact h.1
   · exact h1 q hq
theorem T.ny {α:Type} {P Q:α->Prop}:∀ {t:T α},t.Mq=true->t.post P->t.post Q->∃ a,P a/\Q a
 | .ret a,_,h,k=>⟨a,h,k⟩
 | .ite b y n,hd,h,k=>by
   simp only [T.Mq,Bool.and_eq_true] at hd
   cases b with
   | true=>exact T.ny hd.1 (h.1 rfl) (k.1 rfl)
   | false=>exact T.ny hd.2 (h.2 rfl) (k.2 rfl)
 | .need _ t,hd,h,k=>T.ny (t:=t) hd h.2 k.2
 | .fail,_,h,_=>h.elim
def T.Sat {α:Type} (t:T α) (Ok:α->Prop):Prop:=∀ Q,t.post Q->∃ a,Ok a/\Q a
theorem T.Sat.mono {α:Type} {t:T α} {P Q:α->Prop} (h:t.Sat P) (k:∀ a,P a->Q a):t.Sat Q:=fun R hr=>by
 obtain ⟨a,h1,h2⟩:=h R hr
 exact ⟨a,k a h1,h2⟩
theorem T.Sat.ret {α:Type} {a:α} {P:α->Prop} (h:P a):(T.ret a).Sat P:=fun _ hq=>⟨a,h,hq⟩
theorem T.Sat.fail {α:Type} {P:α->Prop}:(T.fail:T α).Sat P:=fun _ h=>h.elim
theorem T.Sat.ite {α:Type} {b:Bool} {y n:T α} {P:α->Prop} (h:b=true->y.Sat P) (k:b=false->n.Sat P):(T.ite b y n).Sat P:=fun Q hq=>by
 cases b with
 | true=>exact h rfl Q (hq.1 rfl)
 | false=>exact k rfl Q (hq.2 rfl)
theorem T.Sat.need {α:Type} {p:Prop} {t:T α} {P:α->Prop} (h:p->t.Sat P):(T.need p t).Sat P:=fun Q hq=>h hq.1 Q hq.2
theorem T.Sat.left {α:Type} {a b:T α} {P:α->Prop} (h:a.Sat P):(T.both a b).Sat P:=fun Q hq=>h Q hq.1
theorem T.Sat.right {α:Type} {a b:T α} {P:α->Prop} (h:b.Sat P):(T.both a b).Sat P:=fun Q hq=>h Q hq.2
theorem T.Sat.hyp {α:Type} {p:Prop} {t:T α} {P:α->Prop} (hp:p) (h:t.Sat P):(T.hyp p t).Sat P:=fun Q hq=>h Q (hq hp)
theorem T.Sat.all {α:Type} {f:Nat->T α} {P:α->Prop} (x:Nat) (h:(f x).Sat P):(T.all f).Sat P:=fun Q hq=>h Q (hq x)
theorem T.Sat.needs {α:Type} {l:List Prop} {t:T α} {P:α->Prop} (h:Hold l->t.Sat P):(T.needs l t).Sat P:=fun Q hq=>by
 obtain ⟨h1,h2⟩:=T.Bp hq
 exact h h1 Q h2
theorem T.Sat.bind {α β:Type} {t:T α} {f:α->T β} {P:α->Prop} {R:β->Prop} (h:t.Sat P) (k:∀ a,P a->(f a).Sat R):(t.bind f).Sat R:=fun Q hq=>by
 obtain ⟨a,h1,h2⟩:=h _ (T.jB hq)
 exact k a h1 Q h2
theorem T.Sat.map {α β:Type} {t:T α} {f:α->β} {P:α->Prop} {R:β->Prop} (h:t.Sat P) (k:∀ a,P a->R (f a)):(t.map f).Sat R:=fun Q hq=>by
 obtain ⟨a,h1,h2⟩:=h _ (T.kK hq)
 exact ⟨_,k a h1,h2⟩
theorem T.Sat.FV {α:Type} {t t':T α} {le:α->α->Prop} {P:α->Prop} (hd:t'.Mq=true) (h:t.Sat P) (hle:∀ a b,P a->le a b->P b) (hp:t.post fun a=>t'.post fun b=>le a b):t'.Sat P:=fun Q hq=>by
 obtain ⟨a,h1,h2⟩:=h _ hp
 obtain ⟨b,h3,h4⟩:=T.ny hd h2 hq
 exact ⟨b,hle a b h1 h3,h4⟩
def fN {α:Type} (n:Nat) (k:Nat->α):α:=match n with | 0=>k 0 | m+1=>k (m+1)
theorem q8 {α:Type} (n:Nat) (k:Nat->α):fN n k=k n:=by cases n<;>rfl
def fV {α:Type} (v:Value) (k:Value->α):α:=match v with
 | .int d n=>k (.int d n)
 | .bool b=>k (.bool b)
 | .string b=>k (.string b)
 | v=>k v
theorem QF {α:Type} (v:Value) (k:Value->α):fV v k=k v:=by cases v<;>rfl
def fFn {α:Type} (f:Fn) (k:Fn->α):α:=match f with
 | .func g=>fN g fun g=>k (.func g)
 | f=>k f
theorem aez {α:Type} (f:Fn) (k:Fn->α):fFn f k=k f:=by cases f<;>simp [fFn,q8]
mutual
def fA {α:Type}:AV->(AV->α)->α
 | .s v,k=>fV v fun v=>k (.s v)
 | .y v,k=>fV v fun v=>k (.y v)
 | .junk,k=>k .junk
 | .ptr i a b c,k=>fN i fun i=>k (.ptr i a b c)
 | .own i a b c,k=>fN i fun i=>k (.own i a b c)
 | .mref i,k=>fN i fun i=>k (.mref i)
 | .sl b z n c,k=>k (.sl b z n c)
 | .ys b z n c,k=>k (.ys b z n c)
 | .yn b z n c,k=>k (.yn b z n c)
 | .ip b m c,k=>k (.ip b m c)
 | .opt b t a,k=>fN t fun t=>fA a fun a=>k (.opt b t a)
 | .agg cs,k=>fL cs fun cs=>k (.agg cs)
 | .tup cs,k=>fL cs fun cs=>k (.tup cs)
 | .fn f a b,k=>fFn f fun f=>fL a fun a=>fL b fun b=>k (.fn f a b)
 | .ifc t a,k=>fN t fun t=>fA a fun a=>k (.ifc t a)
def fL {α:Type}:List AV->(List AV->α)->α
 | [],k=>k []
 | a::r,k=>fA a fun a=>fL r fun r=>k (a::r)
end
mutual
theorem yc {α:Type}:∀ (a:AV) (k:AV->α),fA a k=k a
 | .s _,_=>by simp only [fA,QF]
 | .y _,_=>by simp only [fA,QF]
 | .junk,_=>rfl
 | .ptr ..,_=>by simp only [fA,q8]
 | .own ..,_=>by simp only [fA,q8]
 | .mref ..,_=>by simp only [fA,q8]
 | .sl ..,_=>rfl
 | .ys ..,_=>rfl
 | .yn ..,_=>rfl
 | .ip ..,_=>rfl
 | .agg cs,_=>by simp only [fA,yF cs]
 | .tup cs,_=>by simp only [fA,yF cs]
 | .fn f a b,_=>by simp only [fA,aez,yF a,yF b]
 | .ifc t a,_=>by simp only [fA,q8,yc a]
 | .opt b t a,_=>by simp only [fA,q8,yc a]
theorem yF {α:Type}:∀ (l:List AV) (k:List AV->α),fL l k=k l
 | [],_=>rfl
 | a::r,_=>by simp only [fL,yc a,yF r]
end
def fSp {α β:Type}:List β->(List β->α)->α
 | [],k=>k []
 | a::r,k=>fSp r fun r=>k (a::r)
theorem Fb {α β:Type}:∀ (l:List β) (k:List β->α),fSp l k=k l
 | [],_=>rfl
 | a::r,_=>by simp only [fSp,Fb r]
def fEs {α:Type}:List (Value×AV×Nat)->(List (Value×AV×Nat)->α)->α
 | [],k=>k []
 | (v,a,n)::r,k=>fV v fun v=>fA a fun a=>fN n fun n=>fEs r fun r=>k ((v,a,n)::r)
theorem Q9 {α:Type}:∀ (l:List (Value×AV×Nat)) (k:List (Value×AV×Nat)->α),fEs l k=k l
 | [],_=>rfl
 | (v,a,n)::r,_=>by simp only [fEs,QF,yc,q8,Q9 r]
def fNl {α:Type}:List Nat->(List Nat->α)->α
 | [],k=>k []
 | a::r,k=>fN a fun a=>fNl r fun r=>k (a::r)
theorem Q7 {α:Type}:∀ (l:List Nat) (k:List Nat->α),fNl l k=k l
 | [],_=>rfl
 | a::r,_=>by simp only [fNl,q8,Q7 r]
def fKn {α β:Type}:List (β×AV)->(List (β×AV)->α)->α
 | [],k=>k []
 | (v,a)::r,k=>fA a fun a=>fKn r fun r=>k ((v,a)::r)
theorem QJ {α β:Type}:∀ (l:List (β×AV)) (k:List (β×AV)->α),fKn l k=k l
 | [],_=>rfl
 | (v,a)::r,_=>by simp only [fKn,yc,QJ r]
def fOp {α:Type}:List (Nat×List AV)->(List (Nat×List AV)->α)->α
 | [],k=>k []
 | (v,a)::r,k=>fL a fun a=>fOp r fun r=>k ((v,a)::r)
theorem Q0 {α:Type}:∀ (l:List (Nat×List AV)) (k:List (Nat×List AV)->α),fOp l k=k l
 | [],_=>rfl
 | (v,a)::r,_=>by simp only [fOp,yF,Q0 r]
def fB {α:Type}:ay->(ay->α)->α
 | .box t cs,k=>fL cs fun cs=>k (.box t cs)
 | .lst t z n c cs,k=>fSp cs fun cs=>k (.lst t z n c cs)
 | .row t z n c d,k=>k (.row t z n c d)
 | .mp es ck,k=>fEs es fun es=>fN ck fun ck=>k (.mp es ck)
 | .mi a b c d,k=>k (.mi a b c d)
 | .mit a b c d,k=>fN a fun a=>fN b fun b=>fNl c fun c=>fN d fun d=>k (.mit a b c d)
 | .tmap q h c n kn,k=>fKn kn fun kn=>k (.tmap q h c n kn)
 | .trow t z n cp c op zs,k=>fOp op fun op=>k (.trow t z n cp c op zs)
 | .any,k=>k .any
 | .dead,k=>k .dead
theorem aa6 {α:Type} (B:ay) (k:ay->α):fB B k=k B:=by cases B<;>simp only [fB,yF,Fb,Q9,q8,Q7,QJ,Q0]
def fW {α:Type}:List (Nat×ay)->(List (Nat×ay)->α)->α
 | [],k=>k []
 | (i,B)::r,k=>fN i fun i=>fB B fun B=>fW r fun r=>k ((i,B)::r)
theorem abf {α:Type}:∀ (l:List (Nat×ay)) (k:List (Nat×ay)->α),fW l k=k l
 | [],_=>rfl
 | (i,B)::r,_=>by simp only [fW,q8,aa6,abf r]
def fNs {α:Type}:List Nat->(List Nat->α)->α
 | [],k=>k []
 | a::r,k=>fN a fun a=>fNs r fun r=>k (a::r)
theorem En {α:Type}:∀ (l:List Nat) (k:List Nat->α),fNs l k=k l
 | [],_=>rfl
 | a::r,_=>by simp only [fNs,q8,En r]
def fE {α:Type} (e:CE) (k:CE->α):α:=fA e.r fun r=>fNs e.rd fun rd=>fW e.wr fun wr=>fNs e.kl fun kl=>k ⟨r,rd,wr,kl,e.ob⟩
theorem abh {α:Type} (e:CE) (k:CE->α):fE e k=k e:=by simp only [fE,yc,En,abf]
def fM {α:Type}:List ay->(List ay->α)->α
 | [],k=>k []
 | B::r,k=>fB B fun B=>fM r fun r=>k (B::r)
theorem LA {α:Type}:∀ (l:List ay) (k:List ay->α),fM l k=k l
 | [],_=>rfl
 | B::r,_=>by simp only [fM,aa6,LA r]
def fS {α:Type} (s:St) (k:St->α):α:=fSp s.t fun t=>fSp s.m fun m=>fNs s.mv fun mv=>k ⟨t,m,mv⟩
theorem Q8 {α:Type} (s:St) (k:St->α):fS s k=k s:=by simp only [fS,Fb,En]
def svL:List AV->List AV
 | []=>[]
 | .y v::r=>.s v::svL r
 | a::r=>a::svL r
def sv:AV->AV
 | .y v=>.s v
 | .ys b sz n c=>.sl b sz n c
 | .yn b sz n c=>.sl b sz n c
 | .agg cs=>.agg (svL cs)
 | a=>a
def agV:List AV->Bool
 | []=>false
 | .y _::_=>true
 | _::r=>agV r
def isRow:ay->Bool
 | .row ..=>true
 | .trow ..=>true
 | _=>false
def isY (rd:Nat->ay):AV->Bool
 | .y _=>true
 | .ys ..=>true
 | .yn ..=>true
 | .agg cs=>agV cs
 | .own i _ _ _=>isRow (rd i)
 | .ptr i _ _ _=>isRow (rd i)
 | _=>false
def anyOp (rd:Nat->ay) (t:Nat->AV):List Operand->Bool
 | []=>false
 | x::r=>isY rd (ev t x)||anyOp rd t r
def retag:AV->AV
 | .s v=>.y v
 | .sl b sz n c=>.ys b sz n c
 | a=>a
theorem MX:∀ {l:List AV} {H:HH} {E:Env} {vs:List Value},aA l H E vs->aA (svL l) H E vs
 | [],_,_,_,h=>h
 | a::r,_,_,_,h=>by
   obtain ⟨v,q,rfl,h1,h2⟩:=h
   cases a<;>exact ⟨v,q,rfl,h1,MX h2⟩
theorem rO {a:AV} {H:HH} {E:Env} {v:Value} (h:Rel a H E v):Rel (sv a) H E v:=by
 cases a with
 | agg cs=>obtain ⟨vs,rfl,h⟩:=h;exact ⟨vs,rfl,MX h⟩
 | yn b sz n c=>obtain ⟨ad,cap,hu,hn,hk⟩:=h;exact ⟨some ad,cap,hu,⟨hn,fun h=>by cases h⟩,fun _=>⟨ad,rfl,hk⟩⟩
 | _=>exact h
theorem OZ {a:AV} {H:HH} {E:Env} {v:Value} (h:Rel a H E v):Rel (retag a) H E v:=by
 cases a<;>exact h
theorem yU {t:Nat->AV} {H:HH} {E:Env} {a:Act} (h:ji t H E a):ji (fun i=>sv (t i)) H E a:=fun i=>rO (h i)
def reckons:Op->Bool
 | .binOp .. | .unOp .. | .convert .. | .slice .. | .indexAddr .. | .index .. | .makeSlice ..=>true
 | .load .. | .store ..=>true
 | .call { callee:=.builtin _,.. }=>true
 | _=>false
def ZK (P:Program) (rd:Nat->ay) (nid:Nat) (o:Oper) (h:Option Hint) (u:Nat->AV) (tag:Bool):Option CE :=
 match oK P h rd nid u o.op with
 | some e=>some ⟨(match tag with | true=>retag e.r | false=>e.r),Lc u o.op++ids e.wr,uU e.kl e.wr,e.kl,e.ob.map (· = true)⟩
 | none=>none
def yop (P:Program) (rd:Nat->ay) (nid:Nat) (o:Oper) (t:Nat->AV):Option CE :=
 match o.op with
 | .load _ a=>(match isY rd (ev t a) with | true=>ZK P rd nid o (some .ok) t false | false=>ZK P rd nid o none t false)
 | .store _ a _=>(match isY rd (ev t a) with | true=>ZK P rd nid o (some .ok) t false | false=>ZK P rd nid o none t false)
 | op=>(match reckons op&&anyOp rd t op.operands.toList with
   | true=>ZK P rd nid o (some .ok) (fun i=>sv (t i)) true
   | false=>ZK P rd nid o none t false)
theorem Ro {P:Program} {o:Oper} {t:Nat->AV} {M:List ay} {e:CE} (h:StepT P o (fun i=>sv (t i)) M e):StepT P o t M e :=
 fun H E w a K Q hC hT hd hk=>h H E w a K Q hC (yU hT) hd hk
theorem xU {P:Program} {o:Oper} {t:Nat->AV} {M:List ay} {r:AV} {rd:List Nat} {wr:List (Nat×ay)} {kl:List Nat} {ob:List Prop} (h:StepT P o t M ⟨r,rd,wr,kl,ob⟩):StepT P o t M ⟨retag r,rd,wr,kl,ob⟩ :=
 fun H E w a K Q hC hT hd hk=>h H E w a K Q hC hT hd fun v w' H' E' hr hc he=>hk v w' H' E' (OZ hr) hc he
theorem zX {P:Program} {rd:Nat->ay} {nid:Nat} {o:Oper} {hh:Option Hint} {u:Nat->AV} {tag:Bool} {e:CE} (h:ZK P rd nid o hh u tag=some e) (ho:Hold e.ob) (hd:∀ k,nid<=k->rd k=.dead) {M:List ay} (hM:∀ i∈e.rd,getM M i=rd i):StepT P o u M e:=by
 unfold ZK at h
 split at h
 case h_2=>cases h
 rename_i ef hef
 cases h
 have hs:=V7 hef ho hd hM
 cases tag with
 | true=>exact xU hs
 | false=>exact hs
theorem KZ {P:Program} {rd:Nat->ay} {nid:Nat} {o:Oper} {t:Nat->AV} {e:CE} (h:yop P rd nid o t=some e) (ho:Hold e.ob) (hd:∀ k,nid<=k->rd k=.dead) {M:List ay} (hM:∀ i∈e.rd,getM M i=rd i):StepT P o t M e:=by
 unfold yop at h
 split at h
 · split at h<;>exact zX h ho hd hM
 · split at h<;>exact zX h ho hd hM
 · split at h
   · exact Ro (zX h ho hd hM)
   · exact zX h ho hd hM
def CFT:=Nat->Nat->Oper->(Nat->AV)->(Nat->ay)->T CE
def CE.Good (P:Program) (o:Oper) (t:Nat->AV) (rd:Nat->ay) (e:CE):Prop:=∀ M,(∀ i∈e.rd,getM M i=rd i)->StepT P o t M e
def MN (P:Program) (cf:CFT):Prop:=∀ nid p o t rd,(∀ k,nid<=k->rd k=.dead)->(cf nid p o t rd).Sat (CE.Good P o t rd)
def CE.bare (e:CE):CE:=⟨e.r,e.rd,e.wr,e.kl,[]⟩
def CE.Co (e:CE):T CE:=T.needs e.ob (.ret e.bare)
theorem CE.gP {P:Program} {o:Oper} {t:Nat->AV} {rd:Nat->ay} {e:CE} (h:Hold e.ob->e.Good P o t rd):e.Co.Sat (CE.Good P o t rd) :=
 T.Sat.needs fun ho=>T.Sat.ret fun M hM H E w a K Q hC hT hd hk=>h ho M hM H E w a K Q hC hT hd hk
def orT (a:Option CE) (b:T CE):T CE:=match a with | some e=>e.Co | none=>b
def SP:=Nat->Nat->Oper->(Nat->AV)->(Nat->ay)->Option (T CE)
def acp (P:Program) (sp:SP):Prop:=∀ nid p o t rd T,sp nid p o t rd=some T->(∀ k,nid<=k->rd k=.dead)->T.Sat (CE.Good P o t rd)
structure VD where
 sp:SP
 cf:CFT
def A8 (P:Program) (cs:VD):Prop:=acp P cs.sp/\MN P cs.cf
def X5 (P:Program) (hh:Nat->Option Hint) (cf:VD) (nid p:Nat) (o:Oper) (t:Nat->AV) (rd:Nat->ay):T CE :=
 match o.op with
 | .call { callee:=.value _,.. }=>cf.cf nid p o t rd
 | .call { callee:=.invoke ..,.. }=>cf.cf nid p o t rd
 | _=>(match hh p with
   | some h=>orT (ZK P rd nid o (some h) t false) .fail
   | none=>(match cf.sp nid p o t rd with
     | some T=>T
     | none=>orT (yop P rd nid o t) (cf.cf nid p o t rd)))
theorem V3 {P:Program} {o:Oper} {t:Nat->AV} {rd:Nat->ay} {a:Option CE} {b:T CE} (ha:∀ e,a=some e->Hold e.ob->e.Good P o t rd) (hb:b.Sat (CE.Good P o t rd)):(orT a b).Sat (CE.Good P o t rd):=by
 cases a with
 | none=>exact hb
 | some e=>exact CE.gP (ha e rfl)
theorem MQ {P:Program} {hh:Nat->Option Hint} {cf:VD} (hcf:A8 P cf) {nid p:Nat} {o:Oper} {t:Nat->AV} {rd:Nat->ay} (hd:∀ k,nid<=k->rd k=.dead):(X5 P hh cf nid p o t rd).Sat (CE.Good P o t rd):=by
 unfold X5
 split
 · exact hcf.2 _ _ _ _ _ hd
 · exact hcf.2 _ _ _ _ _ hd
 · split
   · exact V3 (fun e he ho M hM=>zX he ho hd hM) T.Sat.fail
   · split
     · rename_i T hT
       exact hcf.1 _ _ _ _ _ _ hT hd
     · exact V3 (fun e he ho M hM=>KZ he ho hd hM) (hcf.2 _ _ _ _ _ hd)
def V6 (p:Nat) (d:Option Tmp):List Oper->Bool
 | []=>false
 | o::r=>(match o.guard with | some (j,_)=>Nat.beq j p | none=>false)||(match o.op,d with | .pick (.tmp c) _ _,some d=>Nat.beq c d | _,_=>false)||V6 p d r
def Fj (dec:Bool) (e:CE):T CE :=
 match dec with
 | false=>.ret e
 | true=>(match e.r with
   | .y (.bool b)=>.ite b (.ret ⟨.s (.bool true),e.rd,e.wr,e.kl,e.ob⟩) (.ret ⟨.s (.bool false),e.rd,e.wr,e.kl,e.ob⟩)
   | _=>.ret e)
theorem CK {P:Program} {o:Oper} {t:Nat->AV} {rd:Nat->ay} {e:CE} {b c:Bool} (he:e.Good P o t rd) (hr:e.r=.y (.bool b)) (hb:b=c):CE.Good P o t rd ⟨.s (.bool c),e.rd,e.wr,e.kl,e.ob⟩:=by
 intro M hM H E w a K Q hC hT hd hk
 refine he M hM H E w a K Q hC hT hd fun v w' H' E' hr' hc hE=>hk v w' H' E' ?_ hc hE
 rw [hr] at hr'
 subst hb
 exact hr'
theorem CZ {P:Program} {o:Oper} {t:Nat->AV} {rd:Nat->ay} {dec:Bool} {e:CE} (he:e.Good P o t rd):(Fj dec e).Sat (CE.Good P o t rd):=by
 unfold Fj
 split
 · exact T.Sat.ret he
 · split
   · rename_i b hr
     exact T.Sat.ite (fun hb=>T.Sat.ret (CK he hr hb)) (fun hb=>T.Sat.ret (CK he hr hb))
   · exact T.Sat.ret he
def OQ (P:Program) (hh:Nat->Option Hint) (cf:VD) (all:Array Oper):List Oper->Nat->St->T St
 | [],_,st=>.ret st
 | o::r,p,st =>
   match Ag all (get st.t) o with
   | some true=>(X5 P hh cf (len st.m) p o (get st.t) (getM st.m)).bind fun e=>fE e fun e=>(Fj (V6 p o.dst all.toList) e).bind fun e=>fS (st.app o.dst (e.pV st.m)) fun s=>OQ P hh cf all r (p+1) s
   | some false=>fS ⟨Cq st.t o.dst (.tup []),st.m,st.mv⟩ fun s=>OQ P hh cf all r (p+1) s
   | none=>.fail
def ahj (P:Program) (all:Array Oper) (p n:Nat) (st st':St):Prop :=
 (∀ i∈st.mv,i∈st'.mv)/\∀ H E w a (Q:Exit->Act->World->Prop),Conc H E w st.m->aA st.t H E a.tmps.toList->a.defers=[] ->
   (∀ a' w' H' E',a'.defers=[]->aA st'.t H' E' a'.tmps.toList->Conc H' E' w' st'.m->bF st'.mv H E w H' E' w'->Q .normal a' w')->wpOps P all Q (List.range' p n) a w
theorem Ez {P:Program} {hh:Nat->Option Hint} {cf:VD} {all:Array Oper} (hcf:A8 P cf) :
 ∀ {l:List Oper} {p:Nat} {st:St},(∀ j,l[j]? = all[p+j]?)->(OQ P hh cf all l p st).Sat (ahj P all p l.length st)
 | [],p,st,_=>T.Sat.ret ⟨fun _ h=>h,fun H E w a Q hC hT hd hq=>hq a w H E hd hT hC (bF.refl _ _ _ _)⟩
 | o::r,p,st,hl=>by
   have hp:all[p]? = some o:=by have:=hl 0;simpa using this.symm
   have hr:∀ j,r[j]? = all[p+1+j]?:=fun j=>by have:=hl (j+1);simp at this;rw [this];congr 1;omega
   simp only [OQ]
   split
   · rename_i hg
     simp only [abh,Q8]
     refine (MQ hcf (fun k hk=>jK _ _ hk)).bind fun e0 he0=>(CZ he0).bind fun e he=>(Ez hcf hr).mono ?_
     rintro st' ⟨hmv,hrest⟩
     have hstep:=he st.m fun _ _=>rfl
     refine ⟨fun i hi=>hmv i (FR i hi),fun H E w a Q hC hT hd hq=>?_⟩
     simp only [List.length_cons,List.range'_succ,wpOps,hp]
     rw [lK (kr hT) hg]
     simp only [if_true]
     refine .inl (hstep H E w a _ Q hC (kr hT) hd fun v w' H' E' hr' hC' hE'=>?_)
     refine hrest H' E' w' _ Q hC' (rR (hE'.acD hT) hr') (by rw [put_defers];exact hd) fun a2 w2 H2 E2 hd2 hT2 hC2 hE2=>?_
     exact hq a2 w2 H2 E2 hd2 hT2 hC2 (hE'.trans hE2 fun i hi=>hmv i (by simp [St.app,CE.pV,hi]))
   · rename_i hg
     simp only [Q8]
     refine (Ez hcf hr).mono ?_
     rintro st' ⟨hmv,hrest⟩
     refine ⟨hmv,fun H E w a Q hC hT hd hq=>?_⟩
     simp only [List.length_cons,List.range'_succ,wpOps,hp]
     rw [lK (kr hT) hg]
     simp only [Bool.false_eq_true,if_false]
     exact hrest H E w _ Q hC (rR hT (⟨#[],rfl,rfl⟩:Rel (.tup []) H E undef)) (by rw [put_defers];exact hd) hq
   · exact T.Sat.fail
theorem Ol {P:Program} {hh:Nat->Option Hint} {cf:VD} {id:Nat} {ops:Array Oper} {st:St} (hcf:A8 P cf):(OQ P hh cf ops ops.toList 0 st).Sat fun st'=>bS P (.region id ops false) st .normal st':=by
 refine (Ez hcf (fun j=>by simp)).mono ?_
 rintro st' ⟨hmv,hrun⟩
 refine ⟨hmv,fun H E w a hC hT hd=>wp_region ?_⟩
 rw [List.range_eq_range']
 have:=hrun H E w a (fun x' a' w'=>∃ H' E',x'=Exit.normal/\a'.defers=[]/\aA st'.t H' E' a'.tmps.toList/\Conc H' E' w' st'.m/\bF st'.mv H E w H' E' w') hC hT hd fun a' w' H' E' h1 h2 h3 h4=>⟨H',E',rfl,h1,h2,h3,h4⟩
 simpa using this
def K5 (P:Program) (hh:Nat->Option Hint) (cf:VD) (all:Array Oper) (p:Nat) (ds:List DE) (o:Oper) (st:St):T DE :=
 match Ic (iB o) p with
 | false=>.fail
 | true=>(match Ag all (wC (o.looksAt all) (get st.t)) o with
   | some true=>(X5 P hh cf (len st.m) p o (wC (o.looksAt all) (get st.t)) (getM st.m)).bind fun e=>fE e fun e=>(Fj (V6 p o.dst all.toList) e).bind fun e=>.ret ⟨Lp ds (iB o),o.dst,o.looksAt all,e.rd,e.r,e.wr,e.kl,[]⟩
   | some false=>.ret ⟨Lp ds (iB o),o.dst,o.looksAt all,[],.tup [],[],[],[]⟩
   | none=>.fail)
def wQ (P:Program) (hh:Nat->Option Hint) (cf:VD) (all:Array Oper) (s0:St):List Oper->Nat->List DE->St->T St
 | [],_,ds,st=>(match U4 s0 ds with | true=>.ret st | false=>.fail)
 | o::r,p,ds,st=>(K5 P hh cf all p ds o st).bind fun d=>match oq ds 0 d with
   | true=>fS (d.app st) fun s=>wQ P hh cf all s0 r (p+1) (ds++[d]) s
   | false=>.fail
def abP (P:Program) (all:Array Oper) (p:Nat) (ds:List DE) (o:Oper) (st:St) (d:DE):Prop :=
 d.dst=o.dst/\(∀ k∈iB o,k<p)/\d.pm=Lp ds (iB o)/\∀ s',alike d st s'->aaC P all o d s'
theorem OA {P:Program} {hh:Nat->Option Hint} {cf:VD} {all:Array Oper} (hcf:A8 P cf) {p:Nat} {ds:List DE} {o:Oper} {st:St}:(K5 P hh cf all p ds o st).Sat (abP P all p ds o st):=by
 unfold K5
 split
 · exact T.Sat.fail
 rename_i hlt
 have et:∀ s':St,(∀ t∈o.looksAt all,get st.t t=get s'.t t)->wC (o.looksAt all) (get s'.t)=wC (o.looksAt all) (get st.t):=by
  intro s' hs
  funext i
  unfold wC
  split
  · rename_i hm
    exact (hs i (mem_iff.1 hm)).symm
  · rfl
 split
 · rename_i hg
   simp only [abh]
   refine (MQ hcf (fun k hk=>jK _ _ hk)).bind fun e0 he0=>(CZ he0).bind fun e he=>T.Sat.ret ?_
   refine ⟨rfl,wF hlt,rfl,fun s' hs H E w a K Q hC hT hd hk=>?_⟩
   have et:=et s' hs.2.1
   have hT':ji (wC (o.looksAt all) (get st.t)) H E a:=by rw [<- et];exact Aa (kr hT)
   rw [lK hT' hg]
   simp only [if_true]
   exact .inl (he s'.m (fun i hi=>(hs.2.2 i hi).symm) H E w a K Q hC hT' hd hk)
 · rename_i hg
   refine T.Sat.ret ⟨rfl,wF hlt,rfl,fun s' hs H E w a K Q hC hT hd hk=>?_⟩
   have et:=et s' hs.2.1
   have hT':ji (wC (o.looksAt all) (get st.t)) H E a:=by rw [<- et];exact Aa (kr hT)
   rw [lK hT' hg]
   simp only [Bool.false_eq_true,if_false]
   exact hk undef w H E (⟨#[],rfl,rfl⟩:Rel (.tup []) H E undef) hC (bF.refl _ _ _ _)
 · exact T.Sat.fail
theorem Ql {P:Program} {all:Array Oper} {s0 st:St} {p:Nat} {ds:List DE} {d:DE} {o:Oper} (hk:DOk P all s0 p ds) (hs:st=dI ds 0 (fun _=>true) s0) (hp:all[p]? = some o) (hd:abP P all p ds o st d) (hc:oq ds 0 d=true) :
 DOk P all s0 (p+1) (ds++[d]):=by
 obtain ⟨h1,h2,h3,h4⟩:=hd
 have hlen:=hk.size
 refine ⟨by simp [hlen],fun j dj hj hdj=>?_⟩
 rcases Nat.lt_or_ge j p with hjp | hjp
 · have hdj':ds[j]? = some dj:=by
    rw [List.getElem?_append_left (by omega)] at hdj;exact hdj
   obtain ⟨oj,g1,g2,g3,g4,g5,g6⟩:=hk.step j dj hjp hdj'
   refine ⟨oj,g1,g2,g3,fun k hb=>?_,fun k dk hkj hdk=>?_,?_⟩
   · obtain ⟨a,b⟩:=g4 k hb
     refine ⟨a,b.imp id ?_⟩
     rintro ⟨e,de,x,y,z⟩
     exact ⟨e,de,x,by rw [List.getElem?_append_left (by have:=(List.getElem?_eq_some_iff.1 y).1;omega)];exact y,z⟩
   · rw [List.getElem?_append_left (by omega)] at hdk
     exact g5 k dk hkj hdk
   · have e:dI (ds++[d]) 0 (below j) s0=dI ds 0 (below j) s0:=by
      rw [kU]
      exact oU [d] _ _ fun k hk=>by
       simp only [below]
       cases hb:Nat.blt k j with
       | false=>rfl
       | true=>rw [Nat.blt_eq] at hb;omega
     rw [e];exact g6
 · have hjp:j=p:=by omega
   subst hjp
   have hdj:dj=d:=by
    rw [List.getElem?_append_right (by omega)] at hdj
    simp [hlen] at hdj
    exact hdj.symm
   subst hdj
   refine ⟨o,hp,h1,h2,fun k hb=>?_,fun k dk hkj hdk=>?_,?_⟩
   · rw [h3] at hb
     obtain ⟨e,he,hb⟩:=Ii hb
     rcases hb with rfl | hb
     · exact ⟨h2 e he,.inl he⟩
     · rw [LJ] at hb
       cases hde:ds[e]? with
       | none=>rw [hde] at hb;simp at hb
       | some de =>
         rw [hde] at hb
         have hep:=h2 e he
         obtain ⟨oe,_,_,_,g4,_⟩:=hk.step e de hep hde
         obtain ⟨a,_⟩:=g4 k hb
         exact ⟨by omega,.inr ⟨e,de,he,by rw [List.getElem?_append_left (by omega)];exact hde,hb⟩⟩
   · rw [List.getElem?_append_left (by omega)] at hdk
     have:=wm hc k dk hdk
     simpa using this
   · have e:dI (ds++[dj]) 0 (below j) s0=st:=by
      rw [kU,hs]
      have e1:dI ds 0 (below j) s0=dI ds 0 (fun _=>true) s0:=m_ ds 0 _ fun k _ hk=>by
       simp only [below,Nat.blt_eq];omega
      rw [e1]
      exact oU [dj] _ _ fun k hk=>by
       simp only [below]
       cases hb:Nat.blt k j with
       | false=>rfl
       | true=>rw [Nat.blt_eq] at hb;omega
     rw [e];exact h4
theorem Dl {P:Program} {hh:Nat->Option Hint} {cf:VD} {all:Array Oper} (hcf:A8 P cf) {s0:St}:∀ {l:List Oper} {p:Nat} {ds:List DE} {st:St},(∀ j,l[j]? = all[p+j]?)->DOk P all s0 p ds->st=dI ds 0 (fun _=>true) s0 ->
 (wQ P hh cf all s0 l p ds st).Sat fun st'=>∃ ds',DOk P all s0 (p+l.length) ds'/\Y7 s0 ds'/\st'=dI ds' 0 (fun _=>true) s0
 | [],p,ds,st,_,hk,hs=>by
   simp only [wQ]
   split
   · rename_i hreg
     exact T.Sat.ret ⟨ds,hk,Tc hreg,hs⟩
   · exact T.Sat.fail
 | o::r,p,ds,st,hl,hk,hs=>by
   simp only [wQ]
   have hp:all[p]? = some o:=by have:=hl 0;simpa using this.symm
   have hr:∀ j,r[j]? = all[p+1+j]?:=fun j=>by have:=hl (j+1);simp at this;rw [this];congr 1;omega
   refine (OA hcf).bind fun d hd=>?_
   split
   case h_2=>exact T.Sat.fail
   rename_i hc
   simp only [Q8]
   rw [show p+(o::r).length=p+1+r.length by simp;omega]
   exact Dl hcf hr (Ql hk hs hp hd hc) (by rw [kU,<- hs];rfl)
theorem HV {P:Program} {hh:Nat->Option Hint} {cf:VD} {id:Nat} {ops:Array Oper} {st:St} (hm:P.follows .mixedOrders=true) (hcf:A8 P cf):(wQ P hh cf ops st ops.toList 0 [] st).Sat fun st'=>bS P (.region id ops true) st .normal st':=by
 refine (Dl hcf (s0:=st) (l:=ops.toList) (p:=0) (ds:=[]) (fun j=>by simp) ⟨rfl,fun j d hj=>absurd hj (Nat.not_lt_zero j)⟩ rfl).mono ?_
 rintro st' ⟨ds,h1,h2,rfl⟩
 exact bS.drawn hm (by simpa using h1) h2
def zF:IntKind->IntKind->Bool
 | a,b=>decide (a=b)
def veq:Value->Value->Prop
 | .int k a,.int k' b=>(match zF k k' with | true=>a=b | false=>False)
 | .bool a,.bool b=>a=b
 | .string a,.string b=>a=b
 | .nilIface,.nilIface=>True
 | .nilFunc,.nilFunc=>True
 | .pointer none,.pointer none=>True
 | .slice none 0 0,.slice none 0 0=>True
 | a,b=>a=b
theorem nK {a b:Value} (h:veq a b):a=b:=by
 unfold veq at h
 split at h
 · rename_i k a k' b
   split at h
   · rename_i hk
     have:=of_decide_eq_true hk
     rw [this,h]
   · exact h.elim
 · rw [h]
 · rw [h]
 · rfl
 · rfl
 · rfl
 · rfl
 · exact h
def EJ:Value->Bool
 | .slice none 0 0=>true
 | _=>false
def PV:Fn->Fn->Bool
 | .func f,.func g=>Nat.beq f g
 | _,_=>false
theorem ael {a b:Fn} (h:PV a b=true):a=b:=by
 unfold PV at h
 split at h
 · rw [Nat.eq_of_beq_eq_true h]
 · cases h
def CP (n sz:Nat) (c c':Nat->Nat->AV):Prop:=∀ k,k<n->∀ j,j<sz->c k j=c' k j
def qA:AV->AV->Prop
 | .s v,.s u=>veq v u
 | .s v,.y u=>veq v u
 | .s v,.ys _ _ n _=>(match EJ v with | true=>n=0 | false=>False)
 | .y v,.s u=>veq v u
 | .y v,.y u=>veq v u
 | .sl d sz n c,.sl d' sz' n' c'=>(match Nat.beq sz sz' with | true=>d=d'/\n=n'/\CP n sz c c' | false=>False)
 | .sl d sz n c,.ys d' sz' n' c'=>(match Nat.beq sz sz' with | true=>d=d'/\n=n'/\CP n sz c c' | false=>False)
 | .ys d sz n c,.ys d' sz' n' c'=>(match Nat.beq sz sz' with | true=>d=d'/\n=n'/\CP n sz c c' | false=>False)
 | .ifc t (.s v),.ifc t' (.y u)=>(match Nat.beq t t' with | true=>veq v u | false=>False)
 | .ifc t (.y v),.ifc t' (.y u)=>(match Nat.beq t t' with | true=>veq v u | false=>False)
 | _,.junk=>True
 | a,b=>a=b
theorem Rz {v:Value} {H:HH} {E:Env} {b:Bool} {sz n:Nat} {c:Nat->Nat->AV} (hn:EJ v=true) (h:n=0):Rel (.ys b sz n c) H E v:=by
 subst h
 unfold EJ at hn
 split at hn
 · exact ⟨none,0,rfl,⟨Nat.le_refl _,fun _=>rfl⟩,fun h=>by omega⟩
 · cases hn
theorem kT {a b:AV} {H:HH} {E:Env} {v:Value} (h:qA a b) (hr:Rel a H E v):Rel b H E v:=by
 unfold qA at h
 split at h
 · obtain ⟨rfl,hs⟩:=hr;rw [<- nK h];exact ⟨rfl,hs⟩
 · obtain ⟨rfl,hs⟩:=hr;rw [<- nK h];exact ⟨rfl,hs⟩
 · obtain ⟨rfl,hs⟩:=hr
   split at h
   · rename_i hn;exact Rz hn h
   · exact h.elim
 · obtain ⟨rfl,hs⟩:=hr;rw [<- nK h];exact ⟨rfl,hs⟩
 · obtain ⟨rfl,hs⟩:=hr;rw [<- nK h];exact ⟨rfl,hs⟩
 all_goals
  first
   | (split at h
      · rename_i hb
        simp only [Nat.beq_eq] at hb
        subst hb
        obtain ⟨rfl,rfl,hc⟩:=h
        obtain ⟨a,cap,hu,hn,hk⟩:=hr
        refine ⟨a,cap,hu,hn,fun h0=>?_⟩
        obtain ⟨ad,ha,hk⟩:=hk h0
        refine ⟨ad,ha,fun k hkn j hj=>?_⟩
        obtain ⟨x,hx,h1,h2⟩:=hk k hkn j hj
        exact ⟨x,hx,h1,by rw [<- hc k hkn j hj];exact h2⟩
      · exact h.elim)
   | (split at h
      · rename_i hb
        simp only [Nat.beq_eq] at hb
        subst hb
        obtain ⟨x,hx,rfl,hs⟩:=hr
        rw [nK h] at hx hs
        exact ⟨_,hx,rfl,hs⟩
      · exact h.elim)
   | trivial
   | (rw [<- h];exact hr)
def aj (n sz:Nat) (c c':Nat->Nat->AV):Prop:=∀ k,k<n->∀ j,j<sz->qA (c k j) (c' k j)
def gq (m:Nat) (c c':Nat->AV):Prop:=∀ j,j<m->qA (c j) (c' j)
mutual
def AV.le:AV->AV->Prop
 | .s v,b=>(match b with
   | .junk=>True
   | .s u=>veq v u
   | .y u=>veq v u
   | .ys _ _ n _=>(match EJ v with | true=>n=0 | false=>False)
   | .opt x _ _=>(match v with | .nilIface=>x=false | _=>False)
   | _=>False)
 | .y v,b=>(match b with
   | .junk=>True
   | .y u=>veq v u
   | .s u=>veq v u
   | _=>False)
 | .junk,b=>(match b with | .junk=>True | _=>False)
 | .ptr i k sz o,b=>(match b with
   | .junk=>True
   | .ptr i' k' sz' o'=>(match Nat.beq i i'&&Nat.beq sz sz' with | true=>k=k'/\o=o' | false=>False)
   | _=>False)
 | .own i sz lo n,b=>(match b with
   | .junk=>True
   | .own i' sz' lo' n'=>(match Nat.beq i i'&&Nat.beq sz sz' with | true=>lo=lo'/\n=n' | false=>False)
   | _=>False)
 | .mref i,b=>(match b with
   | .junk=>True
   | .mref i'=>(match Nat.beq i i' with | true=>True | false=>False)
   | _=>False)
 | .sl d sz n c,b=>(match b with
   | .junk=>True
   | .sl d' sz' n' c'=>(match Nat.beq sz sz' with | true=>d=d'/\n=n'/\aj n sz c c' | false=>False)
   | .ys d' sz' n' c'=>(match Nat.beq sz sz' with | true=>d=d'/\n=n'/\aj n sz c c' | false=>False)
   | _=>False)
 | .ys d sz n c,b=>(match b with
   | .junk=>True
   | .ys d' sz' n' c'=>(match Nat.beq sz sz' with | true=>d=d'/\n=n'/\aj n sz c c' | false=>False)
   | _=>False)
 | .yn d sz n c,b=>(match b with
   | .junk=>True
   | b=>AV.yn d sz n c=b)
 | .ip d m c,b=>(match b with
   | .junk=>True
   | .ip d' m' c'=>d=d'/\m'<=m/\gq m' c c'
   | _=>False)
 | .agg cs,b=>(match b with
   | .junk=>True
   | .agg cs'=>w_ cs cs'
   | _=>False)
 | .tup cs,b=>(match b with
   | .junk=>True
   | .tup cs'=>w_ cs cs'
   | _=>False)
 | .fn f x y,b=>(match b with
   | .junk=>True
   | .fn f' x' y'=>(match PV f f' with | true=>w_ x x'/\w_ y y' | false=>False)
   | _=>False)
 | .ifc t a,b=>(match b with
   | .junk=>True
   | .ifc t' a'=>(match Nat.beq t t' with | true=>a.le a' | false=>False)
   | .opt x t' a'=>(match Nat.beq t t'&&dR a with | true=>x=true/\a.le a' | false=>False)
   | _=>False)
 | .opt x t a,b=>(match b with
   | .junk=>True
   | .opt x' t' a'=>(match Nat.beq t t' with | true=>x=x'/\a.le a' | false=>False)
   | .ifc t' a'=>(match Nat.beq t t'&&dR a with | true=>x=true/\a.le a' | false=>False)
   | .s u=>(match u with | .nilIface=>x=false | _=>False)
   | _=>False)
def w_:List AV->List AV->Prop
 | [],l=>(match l with | []=>True | _=>False)
 | a::as,l=>(match l with
   | .junk::bs=>w_ as bs
   | b::bs=>a.le b/\w_ as bs
   | []=>False)
end
mutual
theorem nE:∀ (a:AV) {b:AV} {H:HH} {E:Env} {v:Value},a.le b->Rel a H E v->Rel b H E v
 | .s u,b,H,E,v,h,hr=>by
   obtain ⟨rfl,hs⟩:=hr
   cases b<;>simp only [AV.le] at h<;>try exact h.elim
   · rw [<- nK h];exact ⟨rfl,hs⟩
   · rw [<- nK h];exact ⟨rfl,hs⟩
   · trivial
   · split at h
     · rename_i hn;exact Rz hn h
     · exact h.elim
   · split at h
     · subst h
       exact ⟨fun hb=>absurd hb (by decide),fun _=>rfl⟩
     · exact h.elim
 | .y u,b,H,E,v,h,hr=>by
   obtain ⟨rfl,hs⟩:=hr
   cases b<;>simp only [AV.le] at h<;>try exact h.elim
   · rw [<- nK h];exact ⟨rfl,hs⟩
   · rw [<- nK h];exact ⟨rfl,hs⟩
   · trivial
 | .junk,b,H,E,v,h,hr=>by
   cases b<;>simp only [AV.le] at h<;>first | exact h.elim | trivial
 | .ptr i k sz o,b,H,E,v,h,hr=>by
   cases b<;>simp only [AV.le] at h<;>try exact h.elim
   · trivial
   · split at h
     · rename_i hb
       simp only [Bool.and_eq_true,Nat.beq_eq] at hb
       obtain ⟨rfl,rfl⟩:=hb
       obtain ⟨rfl,rfl⟩:=h
       exact hr
     · exact h.elim
 | .own i sz lo n,b,H,E,v,h,hr=>by
   cases b<;>simp only [AV.le] at h<;>try exact h.elim
   · trivial
   · split at h
     · rename_i hb
       simp only [Bool.and_eq_true,Nat.beq_eq] at hb
       obtain ⟨rfl,rfl⟩:=hb
       obtain ⟨rfl,rfl⟩:=h
       exact hr
     · exact h.elim
 | .mref i,b,H,E,v,h,hr=>by
   cases b<;>simp only [AV.le] at h<;>try exact h.elim
   · trivial
   · split at h
     · rename_i hb
       simp only [Nat.beq_eq] at hb
       subst hb
       exact hr
     · exact h.elim
 | .sl d sz n c,b,H,E,v,h,hr=>by
   cases b<;>simp only [AV.le] at h<;>try exact h.elim
   · trivial
   · split at h
     · rename_i hb
       simp only [Nat.beq_eq] at hb
       subst hb
       obtain ⟨rfl,rfl,hc⟩:=h
       obtain ⟨a,cap,hu,hn,hk⟩:=hr
       refine ⟨a,cap,hu,hn,fun h0=>?_⟩
       obtain ⟨ad,ha,hk⟩:=hk h0
       refine ⟨ad,ha,fun k hkn j hj=>?_⟩
       obtain ⟨x,hx,h1,h2⟩:=hk k hkn j hj
       exact ⟨x,hx,h1,kT (hc k hkn j hj) h2⟩
     · exact h.elim
   · split at h
     · rename_i hb
       simp only [Nat.beq_eq] at hb
       subst hb
       obtain ⟨rfl,rfl,hc⟩:=h
       obtain ⟨a,cap,hu,hn,hk⟩:=hr
       refine ⟨a,cap,hu,hn,fun h0=>?_⟩
       obtain ⟨ad,ha,hk⟩:=hk h0
       refine ⟨ad,ha,fun k hkn j hj=>?_⟩
       obtain ⟨x,hx,h1,h2⟩:=hk k hkn j hj
       exact ⟨x,hx,h1,kT (hc k hkn j hj) h2⟩
     · exact h.elim
 | .ys d sz n c,b,H,E,v,h,hr=>by
   cases b<;>simp only [AV.le] at h<;>try exact h.elim
   · trivial
   · split at h
     · rename_i hb
       simp only [Nat.beq_eq] at hb
       subst hb
       obtain ⟨rfl,rfl,hc⟩:=h
       obtain ⟨a,cap,hu,hn,hk⟩:=hr
       refine ⟨a,cap,hu,hn,fun h0=>?_⟩
       obtain ⟨ad,ha,hk⟩:=hk h0
       refine ⟨ad,ha,fun k hkn j hj=>?_⟩
       obtain ⟨x,hx,h1,h2⟩:=hk k hkn j hj
       exact ⟨x,hx,h1,kT (hc k hkn j hj) h2⟩
     · exact h.elim
 | .yn d sz n c,b,H,E,v,h,hr=>by
   cases b<;>simp only [AV.le] at h<;>first | trivial | (rw [<- h];exact hr)
 | .ip d m c,b,H,E,v,h,hr=>by
   cases b<;>simp only [AV.le] at h<;>try exact h.elim
   · trivial
   · obtain ⟨rfl,hm,hc⟩:=h
     obtain ⟨ad,hu,hk⟩:=hr
     refine ⟨ad,hu,fun j hj=>?_⟩
     obtain ⟨x,hx,h1,h2⟩:=hk j (by omega)
     exact ⟨x,hx,h1,kT (hc j hj) h2⟩
 | .agg cs,b,H,E,v,h,hr=>by
   cases b<;>simp only [AV.le] at h<;>try exact h.elim
   · trivial
   · obtain ⟨vs,hu,h2⟩:=hr
     exact ⟨vs,hu,lC cs h h2⟩
 | .tup cs,b,H,E,v,h,hr=>by
   cases b<;>simp only [AV.le] at h<;>try exact h.elim
   · trivial
   · obtain ⟨vs,hu,h2⟩:=hr
     exact ⟨vs,hu,lC cs h h2⟩
 | .fn f x y,b,H,E,v,h,hr=>by
   cases b<;>simp only [AV.le] at h<;>try exact h.elim
   · trivial
   · split at h
     · rename_i hb
       have:=ael hb
       subst this
       obtain ⟨p,q,hu,h1,h2⟩:=hr
       exact ⟨p,q,hu,lC x h.1 h1,lC y h.2 h2⟩
     · exact h.elim
 | .ifc t a,b,H,E,v,h,hr=>by
   cases b<;>simp only [AV.le] at h<;>try exact h.elim
   · trivial
   · split at h
     · rename_i hb
       simp only [Nat.beq_eq] at hb
       subst hb
       obtain ⟨x,hu,h1⟩:=hr
       exact ⟨x,hu,nE a h h1⟩
     · exact h.elim
   · split at h
     · rename_i hb
       simp only [Bool.and_eq_true,Nat.beq_eq] at hb
       obtain ⟨rfl,hno⟩:=hb
       obtain ⟨rfl,h⟩:=h
       obtain ⟨x,hu,h1⟩:=hr
       exact ⟨fun _=>⟨x,hu,nE a h (Rel.dR a hno h1)⟩,fun hb=>absurd hb (by decide)⟩
     · exact h.elim
 | .opt x t a,b,H,E,v,h,hr=>by
   cases b<;>simp only [AV.le] at h<;>try exact h.elim
   · split at h
     · subst h
       exact ⟨hr.2 rfl,rfl⟩
     · exact h.elim
   · trivial
   · split at h
     · rename_i hb
       simp only [Bool.and_eq_true,Nat.beq_eq] at hb
       obtain ⟨rfl,hno⟩:=hb
       obtain ⟨rfl,h⟩:=h
       obtain ⟨x,hu,h1⟩:=hr.1 rfl
       exact ⟨x,hu,nE a h (Rel.dR a hno h1)⟩
     · exact h.elim
   · split at h
     · rename_i hb
       simp only [Nat.beq_eq] at hb
       subst hb
       obtain ⟨rfl,h⟩:=h
       exact ⟨fun hb=>by
        obtain ⟨x,hu,h1⟩:=hr.1 hb
        exact ⟨x,hu,nE a h h1⟩,hr.2⟩
     · exact h.elim
theorem lC:∀ (l:List AV) {r:List AV} {H:HH} {E:Env} {vs:List Value},w_ l r->aA l H E vs->aA r H E vs
 | [],r,_,_,_,h,hr=>by
   cases r with
   | nil=>exact hr
   | cons _ _=>exact h.elim
 | a::as,r,_,_,_,h,hr=>by
   obtain ⟨v,q,hv,h1,h2⟩:=hr
   cases r with
   | nil=>exact h.elim
   | cons b bs =>
     have key:a.le b/\w_ as bs->aA (b::bs) _ _ _:=fun k=>⟨v,q,hv,nE a k.1 h1,lC as k.2 h2⟩
     cases b with
     | junk=>exact ⟨v,q,hv,trivial,lC as h h2⟩
     | _=>exact key h
end
def Gz (sz n:Nat) (cs:List AV) (c':Nat->Nat->AV):Prop:=∀ k,k<n->∀ j,j<sz->qA (get cs (k*sz+j)) (c' k j)/\dR (c' k j)=true
def UU (a:AV):Tr->Prop
 | .av b=>dR b=true/\a.le b
 | _=>False
mutual
def BO (rd:Nat->ay):Tr->AV->Prop
 | .av b,a=>dR b=true/\a.le b
 | .box ty sz cs,a=>(match a with
   | .ptr i 0 _ 0=>(match rd i with
     | .box ty' as=>(match Nat.beq ty ty' with | true=>BQ rd cs as | false=>False)
     | _=>False)
   | _=>False)
 | .row ty sz n c,a=>(match a with
   | .own i sz' 0 n'=>(match rd i with
     | .row ty' s2 m cap c0=>(match Nat.beq ty ty'&&Nat.beq sz sz'&&Nat.beq sz s2 with | true=>n=n'/\∀ k,k<n->∀ j,j<sz->UU (c0 k j) (c k j) | false=>False)
     | _=>False)
   | .s (.slice none 0 0)=>n=0
   | _=>False)
 | .frow ty sz n c,a=>(match a with
   | .own i sz' 0 n'=>(match rd i with
     | .row ty' s2 m cap c0=>(match Nat.beq ty ty'&&Nat.beq sz sz'&&Nat.beq sz s2 with | true=>n=n'/\aj n sz c0 c | false=>False)
     | .lst ty' s2 m cap cs=>(match Nat.beq ty ty'&&Nat.beq sz sz'&&Nat.beq sz s2 with | true=>n=n'/\Gz sz n cs c | false=>False)
     | _=>False)
   | .s (.slice none 0 0)=>n=0
   | _=>False)
def BQ (rd:Nat->ay):List Tr->List AV->Prop
 | [],l=>(match l with | []=>True | _=>False)
 | t::ts,l=>(match l with | a::as=>BO rd t a/\BQ rd ts as | []=>False)
end
mutual
def jU (rd:Nat->ay):Tr->AV->List Nat
 | .av _,_=>[]
 | .box _ _ cs,a=>(match a with
   | .ptr i _ _ _=>i::(match rd i with | .box _ as=>iR rd cs as | _=>[])
   | _=>[])
 | .row ..,a=>(match a with | .own i _ _ _=>[i] | _=>[])
 | .frow ..,a=>(match a with | .own i _ _ _=>[i] | _=>[])
def iR (rd:Nat->ay):List Tr->List AV->List Nat
 | [],_=>[]
 | t::ts,l=>(match l with | a::as=>jU rd t a++iR rd ts as | []=>[])
end
theorem N_ {a:AV} {t:Tr} {H:HH} {hp:Nat->Option Obj} {E:Env} {v:Value} {S:Nat->Prop} (h:UU a t) (hr:Rel a H E v):iJ H hp t v S:=by
 cases t with
 | av b=>exact Rel.dR _ h.1 (nE _ h.2 hr)
 | _=>exact h.elim
def ofIds (E:Env) (L:List Nat) (b:Nat):Prop:=∃ j∈L,E.has j b
mutual
theorem VX {H:HH} {E:Env} {w:World} {M:List ay} (hC:Conc H E w M):∀ (t:Tr) {a:AV} {v:Value},BO (getM M) t a->(jU (getM M) t a).Nodup->Rel a H E v->iJ H (fun b=>w.heap[b]?) t v (ofIds E (jU (getM M) t a))
 | .av b,a,v,h,_,hr=>Rel.dR _ h.1 (nE _ h.2 hr)
 | .box ty sz cs,a,v,h,hn,hr=>by
   simp only [BO] at h
   split at h
   case h_2=>exact h.elim
   rename_i i s0
   split at h
   case h_2=>exact h.elim
   rename_i ty' as hg
   split at h
   case h_2=>exact h.elim
   rename_i ht
   have ht:=Nat.eq_of_beq_eq_true ht
   subst ht
   obtain ⟨hl,b,hb,rfl⟩:=hr
   have hB:=hC.blk i
   rw [hg] at hB
   obtain ⟨_,b',vs,h1,h2,h3,h4⟩:=hB
   rw [hb] at h1;cases h1
   simp only [jU,hg] at hn ⊢
   rw [List.nodup_cons] at hn
   refine ⟨b,vs,by simp,⟨i,by simp,hl,.inl hb⟩,h2,h3,?_⟩
   refine jh.move (HH.le_refl _) cs (S:=ofIds E (iR (getM M) cs as)) ?_ (fun _ _=>rfl) (EL hC cs h hn.2 h4)
   rintro x ⟨j,hj,hx⟩
   refine ⟨⟨j,List.mem_cons_of_mem _ hj,hx⟩,?_⟩
   rintro rfl
   have:=hC.injH i j x ⟨hl,.inl hb⟩ hx
   subst this
   exact hn.1 hj
 | .row ty sz n c,a,v,h,hn,hr=>by
   simp only [BO] at h
   split at h
   · rename_i i sz' n'
     split at h
     case h_2=>exact h.elim
     rename_i ty' s2 m cap c0 hg
     split at h
     case h_2=>exact h.elim
     rename_i ht
     simp only [Bool.and_eq_true,Nat.beq_eq] at ht
     obtain ⟨⟨rfl,rfl⟩,rfl⟩:=ht
     obtain ⟨rfl,h⟩:=h
     obtain ⟨hl,hη,hm⟩:=hr
     have hB:=hC.blk i
     rw [hg] at hB
     obtain ⟨_,ha,hb,_,h1⟩:=hB
     refine ⟨E.κ i,by omega,hb,?_⟩
     cases hι:E.ι i with
     | none =>
       rw [hι] at hm h1
       exact .inl ⟨hm.2.1,h1,hm.2.2⟩
     | some b =>
       rw [hι] at hm h1
       obtain ⟨ad,rfl,had⟩:=hm
       obtain ⟨vs,h2,h3,h4,h5⟩:=h1
       have:=had.1 (.inl rfl)
       subst this
       refine .inr ⟨b,vs,by simp,⟨i,by simp [jU],hl,.inl hι⟩,h2,fun x hx=>h3 x ?_,h4,fun _ _ _=>False,fun _ _ _ hx=>hx.elim,fun _ _ _ _ _ hx=>hx.elim,fun k hk j hj=>?_⟩
       · have hle:n*sz<=m*sz:=Nat.mul_le_mul_right _ (by omega)
         exact List.mem_of_mem_take (i:=n*sz) (by rw [List.take_take,Nat.min_eq_left hle];exact hx)
       · obtain ⟨x,g1,g2⟩:=h5 k (by omega) j hj
         exact ⟨x,g1,N_ (h k hk j hj) g2⟩
   · subst h
     have hv:v=.slice none 0 0:=hr.1
     exact ⟨0,Nat.le_refl _,Nat.zero_le _,.inl ⟨rfl,rfl,hv⟩⟩
   · exact h.elim
 | .frow ty sz n c,a,v,h,hn,hr=>by
   simp only [BO] at h
   split at h
   · rename_i i sz' n'
     obtain ⟨hl,hη,hm⟩:=hr
     have hB:=hC.blk i
     split at h
     · rename_i ty' s2 m cap c0 hg
       split at h
       case h_2=>exact h.elim
       rename_i ht
       simp only [Bool.and_eq_true,Nat.beq_eq] at ht
       obtain ⟨⟨rfl,rfl⟩,rfl⟩:=ht
       obtain ⟨rfl,h⟩:=h
       rw [hg] at hB
       obtain ⟨_,ha,hb,_,h1⟩:=hB
       refine ⟨E.κ i,by omega,hb,?_⟩
       cases hι:E.ι i with
       | none =>
         rw [hι] at hm h1
         exact .inl ⟨hm.2.1,h1,hm.2.2⟩
       | some b =>
         rw [hι] at hm h1
         obtain ⟨ad,rfl,had⟩:=hm
         obtain ⟨vs,h2,h3,h4,h5⟩:=h1
         have:=had.1 (.inl rfl)
         subst this
         refine .inr ⟨b,vs,by simp,⟨i,by simp [jU],hl,.inl hι⟩,h2,fun x hx=>h3 x ?_,h4,fun k hk j hj=>?_⟩
         · have hle:n*sz<=m*sz:=Nat.mul_le_mul_right _ (by omega)
           exact List.mem_of_mem_take (i:=n*sz) (by rw [List.take_take,Nat.min_eq_left hle];exact hx)
         · obtain ⟨x,g1,g2⟩:=h5 k (by omega) j hj
           exact ⟨x,g1,kT (h k hk j hj) g2⟩
     · rename_i ty' s2 m cap cs hg
       split at h
       case h_2=>exact h.elim
       rename_i ht
       simp only [Bool.and_eq_true,Nat.beq_eq] at ht
       obtain ⟨⟨rfl,rfl⟩,rfl⟩:=ht
       obtain ⟨rfl,h⟩:=h
       rw [hg] at hB
       obtain ⟨_,ha,hb,_,h1⟩:=hB
       refine ⟨E.κ i,by omega,hb,?_⟩
       cases hι:E.ι i with
       | none =>
         rw [hι] at hm h1
         exact .inl ⟨hm.2.1,h1.1,hm.2.2⟩
       | some b =>
         rw [hι] at hm h1
         obtain ⟨ad,rfl,had⟩:=hm
         obtain ⟨vs,h2,h3,h4,h5⟩:=h1
         have:=had.1 (.inl rfl)
         subst this
         refine .inr ⟨b,vs,by simp,⟨i,by simp [jU],hl,.inl hι⟩,h2,fun x hx=>h3 x ?_,h4,fun k hk j hj=>?_⟩
         · have hle:n*sz<=m*sz:=Nat.mul_le_mul_right _ (by omega)
           exact List.mem_of_mem_take (i:=n*sz) (by rw [List.take_take,Nat.min_eq_left hle];exact hx)
         · have hlt:k*sz+j<n*sz:=by
            have:(k+1)*sz<=n*sz:=Nat.mul_le_mul_right _ hk
            rw [Nat.add_mul,Nat.one_mul] at this
            omega
           have hnm:n*sz<=m*sz:=Nat.mul_le_mul_right _ (by omega)
           have hk2:m*sz<=E.κ i*sz:=Nat.mul_le_mul_right _ ha.2
           have hsz:k*sz+j<vs.size:=by omega
           refine ⟨vs[k*sz+j],Array.getElem?_eq_getElem hsz,?_⟩
           obtain ⟨g1,g2⟩:=h k hk j hj
           refine Rel.dR _ g2 (kT g1 (bn h5 (k*sz+j) vs[k*sz+j] ?_))
           rw [List.getElem?_take,if_pos (by omega)]
           simp [hsz]
     · exact h.elim
   · subst h
     have hv:v=.slice none 0 0:=hr.1
     exact ⟨0,Nat.le_refl _,Nat.zero_le _,.inl ⟨rfl,rfl,hv⟩⟩
   · exact h.elim
theorem EL {H:HH} {E:Env} {w:World} {M:List ay} (hC:Conc H E w M):∀ (l:List Tr) {as:List AV} {vs:List Value},BQ (getM M) l as->(iR (getM M) l as).Nodup->aA as H E vs->jh H (fun b=>w.heap[b]?) l vs (ofIds E (iR (getM M) l as))
 | [],as,vs,h,_,hr=>by
   cases as with
   | nil=>exact hr
   | cons _ _=>exact h.elim
 | t::ts,as,vs,h,hn,hr=>by
   cases as with
   | nil=>exact h.elim
   | cons a as =>
     obtain ⟨v,r,rfl,h1,h2⟩:=hr
     simp only [iR] at hn ⊢
     rw [List.nodup_append] at hn
     refine ⟨v,r,_,_,rfl,?_,?_,?_,VX hC t h.1 hn.1 h1,EL hC ts h.2 hn.2.1 h2⟩
     · rintro x ⟨j,hj,hx⟩;exact ⟨j,List.mem_append_left _ hj,hx⟩
     · rintro x ⟨j,hj,hx⟩;exact ⟨j,List.mem_append_right _ hj,hx⟩
     · rintro x ⟨j,hj,hx⟩ ⟨k,hk,hy⟩
       have:=hC.injH j k x hx hy
       exact hn.2.2 j hj k hk this
end
end Go.Ax
