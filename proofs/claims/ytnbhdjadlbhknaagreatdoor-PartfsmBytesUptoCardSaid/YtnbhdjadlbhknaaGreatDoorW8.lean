import Derived.Test.YtnbhdjadlbhknaaGreatDoorW4
import Derived.Test.YtnbhdjadlbhknaaGreatDoorW6
import Derived.Test.YtnbhdjadlbhknaaGreatDoorW7
set_option linter.unusedVariables false
set_option linter.unusedSimpArgs false
set_option maxRecDepth 1000000
namespace Go.Proofs.YtnbhdjadlbhknaaGreatDoor
open Go.Ax
namespace J
theorem Yo (l:List Int) (m:Nat) (hm:m<=4096) (t:List Rec) (s':RS) (q:DQ (eH l) l m t s'):aQ Tryz.prog 58 4 (aS Tryz.prog 58 4) ⟨qlT m q.n q.a,qlM l q.s q.a,[]⟩ (T.map (bU [2,3] (qlS l t s')) (.ret ())):=by
 refine dU (P:=Tryz.prog) (f:=58) (k:=4) (ι:=DQ (eH l) l m t s') (μ:=fun q=>q.n) (ht:=fun q=>qlH l q.s (eH l q.s).1 (eH l q.s).2) (qG:=fun q=>qlT m q.n q.a) (stM:=fun q=>qlM l q.s q.a) (X:=[2,3]) (o:=fun _=>.ret ()) (S:=qlS l t s') Tryz.mixed (fun _=>rfl) (fun q=>?_) q
 rw [Wp l m t s' q (eH l q.s).1 (eH l q.s).2]
 unfold adV
 obtain ⟨n,s,a,e,h,k,z⟩:=q
 have hcl:=aO l.length 1 (ah aD l)
 simp only
 cases n with
 | zero =>
   have e1:a=t:=congrArg Prod.fst e
   have e2:s=s':=congrArg Prod.snd e
   subst e1 e2
   have hd:decide (((m - 0:Nat):Int)<(m:Int))=false:=by simp
   simp only [hd]
   simp [hcl]
 | succ n =>
   have hd:decide (((m - (n+1):Nat):Int)<(m:Int))=true:=by simp only [decide_eq_true_eq];omega
   have w:IntKind.wrap IntKind.i64 (((m - (n+1):Nat):Int)+1)=((m - n:Nat):Int):=by rw [wrap_i64 (by omega) (by omega)];omega
   simp only [hd,w]
   by_cases he:s.e=0
   · have h0:(s.e != 0)=false:=by simp [he]
     have h0':(s.e==0)=true:=by simp [he]
     have e1:gP (eH l) n (eH l s).2 (a++[(eH l s).1])=(t,s'):=by
      have:=e
      unfold gP at this
      simpa [h0] using this
     have ha:=jo (enc:=encR) (l:=a) (n:=a.length) (sz:=5) (x:=(eH l s).1) (cs:=encR (eH l s).1) rfl (fun j hj=>bN _)
     simp only [h0']
     simp [h,hcl]
     refine ⟨by omega,⟨n,(eH l s).2,a++[(eH l s).1],e1,uK h,by omega,by simp;omega⟩,by show n<n+1;omega,?_⟩
     exact ⟨⟨by simp,rfl⟩,⟨rfl,rfl,rfl⟩,by simp,ha⟩
   · have h0:(s.e != 0)=true:=by simpa using he
     have h0':(s.e==0)=false:=by simpa using he
     have e1:(a,s)=(t,s'):=by
      have:=e
      unfold gP at this
      simpa [h0] using this
     have e3:a=t:=congrArg Prod.fst e1
     have e4:s=s':=congrArg Prod.snd e1
     subst e3 e4
     simp only [h0']
     simp [hcl]
theorem ae1 {f:FuncId} {args:List AV} {M:List aH} {l:List Int} {t:List Rec} {s:RS} (hM:∀ i,2<=i->getM M i=.dead) (h:(qlR l t s).Sat (au Tryz.prog f args M)):(T.ret (bZ true t,qM l s,[]):T An).Sat (au Tryz.prog f args M):=by
 have h1:au Tryz.prog f args M (bZ true t,qM l s,[2,3]):=jN h
 have h2:au Tryz.prog f args M (bZ true t,qM l s,[]):=lI h1 fun i hi=>by
  rcases List.mem_cons.1 hi with rfl | hi
  · exact .inr (hM _ (by decide))
  · obtain rfl:=List.mem_singleton.1 hi
    exact .inr (hM _ (by decide))
 exact T.Sat.ret h2
theorem adN (l:List Int) (s:RS) (most:Int) (hm:jC most) (hm2:most<=4096) (hs:bL l s):(T.ret (bZ true (gu l s most).1,qM l (gu l s most).2,[]):T An).Sat (au Tryz.prog 58 [qP,.y (.int .i64 most)] (qM l s)):=by
 refine ae1 (fun i hi=>by
  match i,hi with
  | i+2,_=>exact dY i) ?_
 obtain ⟨h1,h2,_⟩:=gI (most:=most) hs
 have hn:=count_le (most:=most) hs
 have h0:=h2.lo
 obtain ⟨m,hmm⟩:∃ m:Nat,(aK l s most).1.toNat=m:=⟨_,rfl⟩
 have hmi:(aK l s most).1=(m:Int):=by omega
 have hq:∃ q:DQ (eH l) l m (gu l s most).1 (gu l s most).2,q.n=m/\q.s=(aK l s most).2/\q.a=[]:=⟨⟨m,(aK l s most).2,[],by unfold gu;rw [hmm],h1,Nat.le_refl _,by simp⟩,rfl,rfl,rfl⟩
 obtain ⟨q,q1,q2,q3⟩:=hq
 have lp:=Yo l m (by omega) (gu l s most).1 (gu l s most).2 q
 refine dG (ht:=adq l s most m (aK l s most).2 (gu l s most).1 (gu l s most).2 q) Tryz.mixed rfl ?_
 rw [Sz l s most m (aK l s most).2 (gu l s most).1 (gu l s most).2 q]
 unfold aac
 have hcl:=aO l.length 1 (ah aD l)
 have ht:=Zp (gu l s most).1
 have hr:ak (gu l s most).1.length 5 (Ax.rowAt 0 (ah encR (gu l s most).1)) (ah encR (gu l s most).1):=fun k hk j hj=>bN _
 have hc:((m:Int),(aK l s most).2)=aK l s most:=by rw [<- hmi]
 rw [q1,q2,q3] at lp
 simp only [q1,q2,q3]
 simp [hs,hm,hcl,hc,hr,lp]
 exact ht
noncomputable def qlC (l:List Int) (s:RS) (most:Int) (t:List Rec) (s':RS):dO Tryz.prog:=⟨58,[qP,.y (.int .i64 most)],qM l s,.need (bL l s/\jC most/\most<=4096) (.need ((t,s')=gu l s most) (.ret (bZ true t,qM l s',[]))),T.Sat.need fun h=>T.Sat.need fun e=>by
 have e1:t=(gu l s most).1:=congrArg Prod.fst e
 have e2:s'=(gu l s most).2:=congrArg Prod.snd e
 rw [e1,e2]
 exact adN l s most h.2.1 h.2.2 h.1⟩
noncomputable def ahK (l:List Int) (s:RS) (most:Int) (t:List Rec) (s':RS):dO Tryz.prog:=⟨58,[qP,.y (.int .i64 most)],qM l s,.need (bL l s/\jC most/\most<=4096) (.need ((t,s')=gu l s most) (.ret (bZ false t,qM l s',[]))),T.Sat.need fun h=>T.Sat.need fun e=>by
 have e1:t=(gu l s most).1:=congrArg Prod.fst e
 have e2:s'=(gu l s most).2:=congrArg Prod.snd e
 rw [e1,e2]
 have h1:au Tryz.prog 58 [qP,.y (.int .i64 most)] (qM l s) (bZ true (gu l s most).1,qM l (gu l s most).2,[]):=jN (adN l s most h.2.1 h.2.2 h.1)
 have h2:au Tryz.prog 58 [qP,.y (.int .i64 most)] (qM l s) (bZ false (gu l s most).1,qM l (gu l s most).2,[]):=rZ (fun H E v hH hr=>by
  have:=Fa hH hr
  exact this) h1
 exact T.Sat.ret h2⟩
structure XQ {α:Type} (l:List Int) (f:RS->α×RS) (enc:α->List Int) (ok:α->Prop):Prop where
 fwd:∀ s x r,bL l s->s.e=0->ok x->l.drop s.at_=enc x++r->f s=(x,⟨s.at_+(enc x).length,0,s.bad⟩)
 bwd:∀ s,bL l s->(f s).2.e=0->s.e=0/\ok (f s).1/\(f s).2=⟨s.at_+(enc (f s).1).length,0,s.bad⟩/\∃ r,l.drop s.at_=enc (f s).1++r
 rok:∀ s,bL l s->bL l (f s).2
theorem XQ.map {α β:Type} {l:List Int} {f:RS->α×RS} {ea:α->List Int} {oa:α->Prop} (hf:XQ l f ea oa) (φ:α->β) (ψ:β->α) {eb:β->List Int} {ob:β->Prop} (h1:∀ x,φ (ψ x)=x) (h2:∀ a,oa a->eb (φ a)=ea a/\ob (φ a)) (h3:∀ x,ob x->oa (ψ x)) :
 XQ l (fun s=>(φ (f s).1,(f s).2)) eb ob where
 fwd:=fun s x r h he ho hd=>by
  have e:=(h2 _ (h3 x ho)).1
  rw [h1] at e
  rw [e] at hd
  have:=hf.fwd s (ψ x) r h he (h3 x ho) hd
  simp only [this,h1,e]
 bwd:=fun s h he=>by
  obtain ⟨a1,a2,a3,r,a4⟩:=hf.bwd s h he
  obtain ⟨e1,e2⟩:=h2 _ a2
  refine ⟨a1,e2,?_,r,?_⟩
  · simp only [e1];exact a3
  · simp only [e1];exact a4
 rok:=fun s h=>hf.rok s h
theorem XQ.whole {α:Type} {l:List Int} {f:RS->α×RS} {enc:α->List Int} {ok:α->Prop} (hf:XQ l f enc ok) (d:α):XQ l (fun s=>if (f s).2.e != 0 then (d,(f s).2) else f s) enc ok where
 fwd:=fun s x r h he ho hd=>by
  have:=hf.fwd s x r h he ho hd
  simp only [this]
  rfl
 bwd:=fun s h he=>by
  by_cases h0:((f s).2.e != 0)=true
  · rw [if_pos h0] at he
    have he:(f s).2.e=0:=he
    simp [he] at h0
  · rw [if_neg h0] at he ⊢
    exact hf.bwd s h he
 rok:=fun s h=>by
  split
  · exact hf.rok s h
  · exact hf.rok s h
theorem XQ.of {α:Type} {l:List Int} {f g:RS->α×RS} {enc:α->List Int} {ok:α->Prop} (hf:XQ l f enc ok) (h:∀ s,g s=f s):XQ l g enc ok:=by
 rw [show g=f from funext h]
 exact hf
structure Ac {α:Type} (most:Int) (ok:α->Prop) (xs:List α):Prop where
 n:(xs.length:Int)<=most
 n2:(xs.length:Int)<18446744073709551616
 ok:∀ x∈xs,ok x
structure AX (x:Rec):Prop where
 u:FL x
 k:x.key.size<=32
 v:x.val.length<=256
 b:Bytes x.val
structure afN (r:kW):Prop where
 lo:r.lo.size<=32
 hi:r.hi.size<=32
structure Z9 (x:Con):Prop where
 n:x.name.size<=32
 o:nO x.off
end J
namespace R
noncomputable def ahq (b:Bool) (l:List P.Producer) (id seq o:Int):dO Tryz.prog:=⟨135,[P.bG b l,.y (.int .u64 id),.y (.int .u64 seq),.y (.int .u64 o)],[],.need (l.length<=9223372036854775806) (P.lV l (P.bY id seq true o)),T.Sat.need fun h=>P.adj b l id seq o h⟩
noncomputable def adp (b:Bool) (l:List P.Producer) (id seq:Int):dO Tryz.prog:=⟨139,[P.bG b l,.y (.int .u64 id),.y (.int .u64 seq)],[],.need (l.length<=9223372036854775806) (P.lV l (P.bY id seq false 0)),T.Sat.need fun h=>P.aav b l id seq h⟩
def newR (c:bJ):Rec:=⟨0,c.key,c.val,c.prod,c.seq⟩
def mM (p:Part) (c:bJ):P.Producer:=P.bY c.prod c.seq true p.recs.length
def mV (c:bJ):P.Producer:=P.bY c.prod c.seq false 0
def uY (p:Part) (c:bJ):Int:=eG p.cons ⟨c.name,c.off⟩ (IntKind.u64.wrap (p.recs.length:Nat))
def Ik:AV:=.ifc 184 (.ptr 0 0 0 0)
def V8 (c:bJ) (e:Int):List aH:=[.box 186 [.y (.int .i64 c.kind),.ifc 31 (.y (.int .i64 e))]]
def agM (c:bJ):List aH:=[.box 186 [.y (.int .i64 c.kind),.ifc 141 (.agg [])]]
def iO (p:Part) (c:bJ):Int:=if h_ p.rng c.key=false then 163 else if P.bg p.prods c.prod c.seq=2 then 999 else if P.bg p.prods c.prod c.seq=3 then 152 else if p.frozen≠0 then 164 else if gZ p.recs (newR c)≠0 then gZ p.recs (newR c) else P.aP p.prods (mM p c)
def prQ (p:Part) (c:bJ):Part:=⟨p.rng,p.epoch,p.frozen,jc p.recs (newR c),P.aN p.prods (mM p c),p.cons⟩
def prT (p:Part) (c:bJ):T An:=.ite (iO p c==0) (.ret (.tup [.agg (aW true (prQ p c)),.y (.int .u64 p.recs.length),.s .nilIface],[],[]))
 (.ite (iO p c==999) (.ret (.tup [.agg (aW true p),.y (.int .u64 (P.dP p.prods c.prod c.seq)),Ik],agM c,[]))
   (.ret (.tup [.agg (aW true p),.y (.int .u64 0),Ik],V8 c (iO p c),[])))
noncomputable def prH (p:Part) (c:bJ):aC Tryz.prog:=dS (hh _ bB (cs1 103 1 4 (afz p.rng c.key) (cs1 103 3 6 (juC true p.prods c.prod c.seq) (cs1 103 10 11 (apC p.recs (newR c) true) (cs1 103 13 7 (ahq true p.prods c.prod c.seq p.recs.length) bA)))) bq) (nk 103 17 0 779 noSh)
def iU (p:Part):Prop:=(true=true/\p.cons.length=p.cons.length/\ak p.cons.length 2 (ah aJ p.cons) (ah aJ p.cons))
def Er (p:Part) (c:bJ):Prop:=((iO p c==0)=true->((p.rng.lo=p.rng.lo/\p.rng.hi=p.rng.hi/\p.epoch=p.epoch/\p.frozen=p.frozen/\(true=true/\p.recs.length=(jc p.recs (newR c)).length/\ak p.recs.length 5 (ah encR p.recs) (ah encR (jc p.recs (newR c))))/\(true=true/\p.prods.length=(P.aN p.prods (mM p c)).length/\ak p.prods.length 4 (ah P.ay p.prods) (ah P.ay (P.aN p.prods (mM p c))))/\(iU p)/\True)/\0=(p.recs.length:Int)/\True/\True)/\True)
def r_ (p:Part) (c:bJ):Prop:=((iO p c==999)=true->((bE true true p p)/\0=P.dP p.prods c.prod c.seq/\(0=0/\0=0)/\True)/\(c.kind=c.kind/\False/\True)/\True)
def rT (p:Part):Prop:=((bE true true p p)/\(0:Int)=0/\(0=0/\0=0)/\True)
def E9 (p:Part) (c:bJ):Prop:=((P.aP p.prods (P.bY c.prod c.seq true (p.recs.length:Int)) != 0)=true->((P.aP p.prods (P.bY c.prod c.seq true (p.recs.length:Int))==0)=true->(Er p c)/\((iO p c==0)=false->((iO p c==999)=true->((bE true true p p)/\0=P.dP p.prods c.prod c.seq/\False/\True)/\False)/\((iO p c==999)=false->((bE true true p p)/\(0:Int)=0/\False/\True)/\False)))/\((P.aP p.prods (P.bY c.prod c.seq true (p.recs.length:Int))==0)=false->((iO p c==0)=true->False)/\((iO p c==0)=false->(r_ p c)/\((iO p c==999)=false->(rT p)/\(c.kind=c.kind/\P.aP p.prods (P.bY c.prod c.seq true (p.recs.length:Int))=iO p c/\True)/\True))))
def uU (p:Part) (c:bJ):Prop:=(true=true/\(P.aN p.prods (P.bY c.prod c.seq true (p.recs.length:Int))).length=p.prods.length/\ak (P.aN p.prods (P.bY c.prod c.seq true (p.recs.length:Int))).length 4 (Ax.rowAt 0 (ah P.ay (P.aN p.prods (P.bY c.prod c.seq true (p.recs.length:Int))))) (ah P.ay p.prods))
def vD (p:Part) (c:bJ):Prop:=(true=true/\(jc p.recs (newR c)).length=p.recs.length/\ak (jc p.recs (newR c)).length 5 (Ax.rowAt 0 (ah encR (jc p.recs (newR c)))) (ah encR p.recs))
def En (p:Part) (c:bJ):Prop:=(true=true/\(P.aN p.prods (P.bY c.prod c.seq true (p.recs.length:Int))).length=(P.aN p.prods (mM p c)).length/\ak (P.aN p.prods (P.bY c.prod c.seq true (p.recs.length:Int))).length 4 (Ax.rowAt 0 (ah P.ay (P.aN p.prods (P.bY c.prod c.seq true (p.recs.length:Int))))) (ah P.ay (P.aN p.prods (mM p c))))
def af6 (p:Part) (c:bJ):Prop :=
 ((p.rng.lo=p.rng.lo/\p.rng.hi=p.rng.hi/\True)/\c.key=c.key/\True)/\True/\((!h_ p.rng c.key)=true->((iO p c==0)=true->False)/\((iO p c==0)=false->(r_ p c)/\((iO p c==999)=false->(rT p)/\(c.kind=c.kind/\163=iO p c/\True)/\True)))/\((!h_ p.rng c.key)=false->((true=true/\p.prods.length=p.prods.length/\ak p.prods.length 4 (ah P.ay p.prods) (ah P.ay p.prods))/\c.prod=c.prod/\c.seq=c.seq/\True)/\True/\p.prods.length<=9223372036854775806/\((P.bg p.prods c.prod c.seq==2)=true->((iO p c==0)=true->False)/\((iO p c==0)=false->((iO p c==999)=true->((bE true true p p)/\P.dP p.prods c.prod c.seq=P.dP p.prods c.prod c.seq/\(0=0/\0=0)/\True)/\(c.kind=c.kind/\True/\True)/\True)/\((iO p c==999)=false->((bE true true p p)/\P.dP p.prods c.prod c.seq=0/\(0=0/\0=0)/\True)/\(c.kind=c.kind/\False/\True)/\True)))/\((P.bg p.prods c.prod c.seq==2)=false->((P.bg p.prods c.prod c.seq==3)=true->((iO p c==0)=true->False)/\((iO p c==0)=false->(r_ p c)/\((iO p c==999)=false->(rT p)/\(c.kind=c.kind/\152=iO p c/\True)/\True)))/\((P.bg p.prods c.prod c.seq==3)=false->((p.frozen != 0)=true->((iO p c==0)=true->False)/\((iO p c==0)=false->(r_ p c)/\((iO p c==999)=false->(rT p)/\(c.kind=c.kind/\164=iO p c/\True)/\True)))/\((p.frozen != 0)=false->((true=true/\p.recs.length=p.recs.length/\ak p.recs.length 5 (ah encR p.recs) (ah encR p.recs))/\((0:Int)=0/\c.key=c.key/\(dI c.val c.val)/\c.prod=c.prod/\c.seq=c.seq/\True)/\True)/\True/\p.recs.length<=9223372036854775806/\((gZ p.recs (newR c)==0)=true->((true=true/\p.prods.length=p.prods.length/\ak p.prods.length 4 (ah P.ay p.prods) (ah P.ay p.prods))/\c.prod=c.prod/\c.seq=c.seq/\(p.recs.length:Int)=(p.recs.length:Int)/\True)/\True/\p.prods.length<=9223372036854775806/\((P.aP p.prods (P.bY c.prod c.seq true (p.recs.length:Int))==0)=true->(∀ k,k<(jc p.recs (newR c)).length->∀ j,j<5->dK (ah encR (jc p.recs (newR c)) k j)=true)/\(∀ k,k<(P.aN p.prods (P.bY c.prod c.seq true (p.recs.length:Int))).length->∀ j,j<4->dK (ah P.ay (P.aN p.prods (P.bY c.prod c.seq true (p.recs.length:Int))) k j)=true)/\((iO p c==0)=true->((p.rng.lo=p.rng.lo/\p.rng.hi=p.rng.hi/\p.epoch=p.epoch/\p.frozen=p.frozen/\(true=true/\(jc p.recs (newR c)).length=(jc p.recs (newR c)).length/\ak (jc p.recs (newR c)).length 5 (Ax.rowAt 0 (ah encR (jc p.recs (newR c)))) (ah encR (jc p.recs (newR c))))/\(En p c)/\(iU p)/\True)/\(p.recs.length:Int)=(p.recs.length:Int)/\True/\True)/\True)/\((iO p c==0)=false->((iO p c==999)=true->((p.rng.lo=p.rng.lo/\p.rng.hi=p.rng.hi/\p.epoch=p.epoch/\p.frozen=p.frozen/\(vD p c)/\(uU p c)/\(iU p)/\True)/\(p.recs.length:Int)=P.dP p.prods c.prod c.seq/\False/\True)/\False)/\((iO p c==999)=false->((p.rng.lo=p.rng.lo/\p.rng.hi=p.rng.hi/\p.epoch=p.epoch/\p.frozen=p.frozen/\(vD p c)/\(uU p c)/\(iU p)/\True)/\(p.recs.length:Int)=0/\False/\True)/\False)))/\((P.aP p.prods (P.bY c.prod c.seq true (p.recs.length:Int))==0)=false->(E9 p c)/\((P.aP p.prods (P.bY c.prod c.seq true (p.recs.length:Int)) != 0)=false->(∀ k,k<(jc p.recs (newR c)).length->∀ j,j<5->dK (ah encR (jc p.recs (newR c)) k j)=true)/\((iO p c==0)=true->((p.rng.lo=p.rng.lo/\p.rng.hi=p.rng.hi/\p.epoch=p.epoch/\p.frozen=p.frozen/\(true=true/\(jc p.recs (newR c)).length=(jc p.recs (newR c)).length/\ak (jc p.recs (newR c)).length 5 (Ax.rowAt 0 (ah encR (jc p.recs (newR c)))) (ah encR (jc p.recs (newR c))))/\(P.aN p.prods (mM p c)).length=0/\(iU p)/\True)/\(p.recs.length:Int)=(p.recs.length:Int)/\True/\True)/\True)/\((iO p c==0)=false->((iO p c==999)=true->((p.rng.lo=p.rng.lo/\p.rng.hi=p.rng.hi/\p.epoch=p.epoch/\p.frozen=p.frozen/\(vD p c)/\p.prods.length=0/\(iU p)/\True)/\(p.recs.length:Int)=P.dP p.prods c.prod c.seq/\False/\True)/\False)/\((iO p c==999)=false->((p.rng.lo=p.rng.lo/\p.rng.hi=p.rng.hi/\p.epoch=p.epoch/\p.frozen=p.frozen/\(vD p c)/\p.prods.length=0/\(iU p)/\True)/\(p.recs.length:Int)=0/\False/\True)/\False)))))/\((gZ p.recs (newR c)==0)=false->((gZ p.recs (newR c) != 0)=true->((gZ p.recs (newR c)==0)=true->(Er p c)/\((iO p c==0)=false->((iO p c==999)=true->((bE true true p p)/\0=P.dP p.prods c.prod c.seq/\False/\True)/\False)/\((iO p c==999)=false->((bE true true p p)/\(0:Int)=0/\False/\True)/\False)))/\((gZ p.recs (newR c)==0)=false->((iO p c==0)=true->False)/\((iO p c==0)=false->(r_ p c)/\((iO p c==999)=false->(rT p)/\(c.kind=c.kind/\gZ p.recs (newR c)=iO p c/\True)/\True))))/\((gZ p.recs (newR c) != 0)=false->((true=true/\p.prods.length=p.prods.length/\ak p.prods.length 4 (ah P.ay p.prods) (ah P.ay p.prods))/\c.prod=c.prod/\c.seq=c.seq/\0=(p.recs.length:Int)/\True)/\True/\p.prods.length<=9223372036854775806/\((P.aP p.prods (P.bY c.prod c.seq true (p.recs.length:Int))==0)=true->(∀ k,k<(P.aN p.prods (P.bY c.prod c.seq true (p.recs.length:Int))).length->∀ j,j<4->dK (ah P.ay (P.aN p.prods (P.bY c.prod c.seq true (p.recs.length:Int))) k j)=true)/\((iO p c==0)=true->((p.rng.lo=p.rng.lo/\p.rng.hi=p.rng.hi/\p.epoch=p.epoch/\p.frozen=p.frozen/\(jc p.recs (newR c)).length=0/\(En p c)/\(iU p)/\True)/\0=(p.recs.length:Int)/\True/\True)/\True)/\((iO p c==0)=false->((iO p c==999)=true->((p.rng.lo=p.rng.lo/\p.rng.hi=p.rng.hi/\p.epoch=p.epoch/\p.frozen=p.frozen/\p.recs.length=0/\(uU p c)/\(iU p)/\True)/\0=P.dP p.prods c.prod c.seq/\False/\True)/\False)/\((iO p c==999)=false->((p.rng.lo=p.rng.lo/\p.rng.hi=p.rng.hi/\p.epoch=p.epoch/\p.frozen=p.frozen/\p.recs.length=0/\(uU p c)/\(iU p)/\True)/\(0:Int)=0/\False/\True)/\False)))/\((P.aP p.prods (P.bY c.prod c.seq true (p.recs.length:Int))==0)=false->(E9 p c)/\((P.aP p.prods (P.bY c.prod c.seq true (p.recs.length:Int)) != 0)=false->((iO p c==0)=true->((p.rng.lo=p.rng.lo/\p.rng.hi=p.rng.hi/\p.epoch=p.epoch/\p.frozen=p.frozen/\(jc p.recs (newR c)).length=0/\(P.aN p.prods (mM p c)).length=0/\(iU p)/\True)/\0=(p.recs.length:Int)/\True/\True)/\True)/\((iO p c==0)=false->((iO p c==999)=true->((p.rng.lo=p.rng.lo/\p.rng.hi=p.rng.hi/\p.epoch=p.epoch/\p.frozen=p.frozen/\p.recs.length=0/\p.prods.length=0/\(iU p)/\True)/\0=P.dP p.prods c.prod c.seq/\False/\True)/\False)/\((iO p c==999)=false->((p.rng.lo=p.rng.lo/\p.rng.hi=p.rng.hi/\p.epoch=p.epoch/\p.frozen=p.frozen/\p.recs.length=0/\p.prods.length=0/\(iU p)/\True)/\(0:Int)=0/\False/\True)/\False))))))))))
theorem Ve (p:Part) (c:bJ):(aZ Tryz.prog (prH p c) 103 [.agg (aW true p),.agg (dV c)] [] (prT p c))=af6 p c:=by kernel_rfl
def jw (p:Part) (c:bJ):Int:=if P.bg p.prods c.prod c.seq≠1 then 999 else if p.frozen≠0 then 164 else if uY p c≠0 then uY p c else P.aP p.prods (mV c)
def cmQ (p:Part) (c:bJ):Part:=⟨p.rng,p.epoch,p.frozen,p.recs,P.aN p.prods (mV c),aN p.cons ⟨c.name,c.off⟩⟩
def cmT (p:Part) (c:bJ):T An:=.ite (jw p c==0) (.ret (.tup [.agg (aW true (cmQ p c)),.s .nilIface],[],[]))
 (.ite (jw p c==999) (.ret (.tup [.agg (aW true p),Ik],agM c,[]))
   (.ret (.tup [.agg (aW true p),Ik],V8 c (jw p c),[])))
noncomputable def cmH (p:Part) (c:bJ):aC Tryz.prog:=dS (hh _ bB (cs1 105 1 6 (juC true p.prods c.prod c.seq) (cs1 105 6 11 (cmC true p.cons ⟨c.name,c.off⟩ (IntKind.u64.wrap (p.recs.length:Nat))) (cs1 105 9 6 (adp true p.prods c.prod c.seq) bA))) bq) (nk 105 13 0 779 noSh)
def iT (p:Part):Prop:=(true=true/\p.recs.length=p.recs.length/\ak p.recs.length 5 (ah encR p.recs) (ah encR p.recs))
def Fv (p:Part) (c:bJ):Prop:=((jw p c==0)=true->((p.rng.lo=p.rng.lo/\p.rng.hi=p.rng.hi/\p.epoch=p.epoch/\p.frozen=p.frozen/\(iT p)/\(true=true/\p.prods.length=(P.aN p.prods (mV c)).length/\ak p.prods.length 4 (ah P.ay p.prods) (ah P.ay (P.aN p.prods (mV c))))/\(true=true/\p.cons.length=(aN p.cons { name:=c.name,off:=c.off:Con }).length/\ak p.cons.length 2 (ah aJ p.cons) (ah aJ (aN p.cons { name:=c.name,off:=c.off:Con })))/\True)/\True/\True)/\True)
def l7 (p:Part):Prop:=((bE true true p p)/\(0=0/\0=0)/\True)
def ES (p:Part) (c:bJ):Prop:=((P.aP p.prods (P.bY c.prod c.seq false 0) != 0)=true->((P.aP p.prods (P.bY c.prod c.seq false 0)==0)=true->(Fv p c)/\((jw p c==0)=false->((jw p c==999)=true->((bE true true p p)/\False/\True)/\False)/\((jw p c==999)=false->((bE true true p p)/\False/\True)/\False)))/\((P.aP p.prods (P.bY c.prod c.seq false 0)==0)=false->((jw p c==0)=true->False)/\((jw p c==0)=false->((jw p c==999)=true->(l7 p)/\(c.kind=c.kind/\False/\True)/\True)/\((jw p c==999)=false->(l7 p)/\(c.kind=c.kind/\P.aP p.prods (P.bY c.prod c.seq false 0)=jw p c/\True)/\True))))
def vL (p:Part) (c:bJ):Prop:=(true=true/\(P.aN p.prods (P.bY c.prod c.seq false 0)).length=p.prods.length/\ak (P.aN p.prods (P.bY c.prod c.seq false 0)).length 4 (Ax.rowAt 0 (ah P.ay (P.aN p.prods (P.bY c.prod c.seq false 0)))) (ah P.ay p.prods))
def wC (p:Part) (c:bJ):Prop:=(true=true/\(aN p.cons { name:=c.name,off:=c.off:Con }).length=p.cons.length/\ak (aN p.cons { name:=c.name,off:=c.off:Con }).length 2 (Ax.rowAt 0 (ah aJ (aN p.cons { name:=c.name,off:=c.off:Con }))) (ah aJ p.cons))
def DV (p:Part) (c:bJ):Prop:=(true=true/\(aN p.cons { name:=c.name,off:=c.off:Con }).length=(aN p.cons { name:=c.name,off:=c.off:Con }).length/\ak (aN p.cons { name:=c.name,off:=c.off:Con }).length 2 (Ax.rowAt 0 (ah aJ (aN p.cons { name:=c.name,off:=c.off:Con }))) (ah aJ (aN p.cons { name:=c.name,off:=c.off:Con })))
def za (p:Part) (c:bJ):Prop:=((true=true/\p.prods.length=p.prods.length/\ak p.prods.length 4 (ah P.ay p.prods) (ah P.ay p.prods))/\c.prod=c.prod/\c.seq=c.seq/\True)
def Ew (p:Part) (c:bJ):Prop:=(true=true/\(P.aN p.prods (P.bY c.prod c.seq false 0)).length=(P.aN p.prods (mV c)).length/\ak (P.aN p.prods (P.bY c.prod c.seq false 0)).length 4 (Ax.rowAt 0 (ah P.ay (P.aN p.prods (P.bY c.prod c.seq false 0)))) (ah P.ay (P.aN p.prods (mV c))))
def Rb (p:Part) (c:bJ):Prop :=
 (za p c)/\True/\p.prods.length<=9223372036854775806/\((P.bg p.prods c.prod c.seq != 1)=true->((jw p c==0)=true->False)/\((jw p c==0)=false->((jw p c==999)=true->(l7 p)/\(c.kind=c.kind/\True/\True)/\True)/\((jw p c==999)=false->(l7 p)/\(c.kind=c.kind/\False/\True)/\True)))/\((P.bg p.prods c.prod c.seq != 1)=false->((p.frozen != 0)=true->((jw p c==0)=true->False)/\((jw p c==0)=false->((jw p c==999)=true->(l7 p)/\(c.kind=c.kind/\False/\True)/\True)/\((jw p c==999)=false->(l7 p)/\(c.kind=c.kind/\164=jw p c/\True)/\True)))/\((p.frozen != 0)=false->((true=true/\p.cons.length=p.cons.length/\ak p.cons.length 2 (ah aJ p.cons) (ah aJ p.cons))/\(c.name=c.name/\c.off=c.off/\True)/\IntKind.u64.wrap (p.recs.length:Int)=IntKind.u64.wrap (p.recs.length:Int)/\True)/\True/\p.cons.length<=9223372036854775806/\((eG p.cons { name:=c.name,off:=c.off:Con } (IntKind.u64.wrap (p.recs.length:Int))==0)=true->(za p c)/\True/\p.prods.length<=9223372036854775806/\((P.aP p.prods (P.bY c.prod c.seq false 0)==0)=true->(∀ k,k<(P.aN p.prods (P.bY c.prod c.seq false 0)).length->∀ j,j<4->dK (ah P.ay (P.aN p.prods (P.bY c.prod c.seq false 0)) k j)=true)/\(∀ k,k<(aN p.cons { name:=c.name,off:=c.off:Con }).length->∀ j,j<2->dK (ah aJ (aN p.cons { name:=c.name,off:=c.off:Con }) k j)=true)/\((jw p c==0)=true->((p.rng.lo=p.rng.lo/\p.rng.hi=p.rng.hi/\p.epoch=p.epoch/\p.frozen=p.frozen/\(iT p)/\(Ew p c)/\(DV p c)/\True)/\True/\True)/\True)/\((jw p c==0)=false->((jw p c==999)=true->((p.rng.lo=p.rng.lo/\p.rng.hi=p.rng.hi/\p.epoch=p.epoch/\p.frozen=p.frozen/\(iT p)/\(vL p c)/\(wC p c)/\True)/\False/\True)/\False)/\((jw p c==999)=false->((p.rng.lo=p.rng.lo/\p.rng.hi=p.rng.hi/\p.epoch=p.epoch/\p.frozen=p.frozen/\(iT p)/\(vL p c)/\(wC p c)/\True)/\False/\True)/\False)))/\((P.aP p.prods (P.bY c.prod c.seq false 0)==0)=false->(ES p c)/\((P.aP p.prods (P.bY c.prod c.seq false 0) != 0)=false->(∀ k,k<(aN p.cons { name:=c.name,off:=c.off:Con }).length->∀ j,j<2->dK (ah aJ (aN p.cons { name:=c.name,off:=c.off:Con }) k j)=true)/\((jw p c==0)=true->((p.rng.lo=p.rng.lo/\p.rng.hi=p.rng.hi/\p.epoch=p.epoch/\p.frozen=p.frozen/\(iT p)/\(P.aN p.prods (mV c)).length=0/\(DV p c)/\True)/\True/\True)/\True)/\((jw p c==0)=false->((jw p c==999)=true->((p.rng.lo=p.rng.lo/\p.rng.hi=p.rng.hi/\p.epoch=p.epoch/\p.frozen=p.frozen/\(iT p)/\p.prods.length=0/\(wC p c)/\True)/\False/\True)/\False)/\((jw p c==999)=false->((p.rng.lo=p.rng.lo/\p.rng.hi=p.rng.hi/\p.epoch=p.epoch/\p.frozen=p.frozen/\(iT p)/\p.prods.length=0/\(wC p c)/\True)/\False/\True)/\False)))))/\((eG p.cons { name:=c.name,off:=c.off:Con } (IntKind.u64.wrap (p.recs.length:Int))==0)=false->((eG p.cons { name:=c.name,off:=c.off:Con } (IntKind.u64.wrap (p.recs.length:Int)) != 0)=true->((eG p.cons { name:=c.name,off:=c.off:Con } (IntKind.u64.wrap (p.recs.length:Int))==0)=true->(Fv p c)/\((jw p c==0)=false->((jw p c==999)=true->((bE true true p p)/\False/\True)/\False)/\((jw p c==999)=false->((bE true true p p)/\False/\True)/\False)))/\((eG p.cons { name:=c.name,off:=c.off:Con } (IntKind.u64.wrap (p.recs.length:Int))==0)=false->((jw p c==0)=true->False)/\((jw p c==0)=false->((jw p c==999)=true->(l7 p)/\(c.kind=c.kind/\False/\True)/\True)/\((jw p c==999)=false->(l7 p)/\(c.kind=c.kind/\eG p.cons { name:=c.name,off:=c.off:Con } (IntKind.u64.wrap (p.recs.length:Int))=jw p c/\True)/\True))))/\((eG p.cons { name:=c.name,off:=c.off:Con } (IntKind.u64.wrap (p.recs.length:Int)) != 0)=false->(za p c)/\True/\p.prods.length<=9223372036854775806/\((P.aP p.prods (P.bY c.prod c.seq false 0)==0)=true->(∀ k,k<(P.aN p.prods (P.bY c.prod c.seq false 0)).length->∀ j,j<4->dK (ah P.ay (P.aN p.prods (P.bY c.prod c.seq false 0)) k j)=true)/\((jw p c==0)=true->((p.rng.lo=p.rng.lo/\p.rng.hi=p.rng.hi/\p.epoch=p.epoch/\p.frozen=p.frozen/\(iT p)/\(Ew p c)/\(aN p.cons { name:=c.name,off:=c.off:Con }).length=0/\True)/\True/\True)/\True)/\((jw p c==0)=false->((jw p c==999)=true->((p.rng.lo=p.rng.lo/\p.rng.hi=p.rng.hi/\p.epoch=p.epoch/\p.frozen=p.frozen/\(iT p)/\(vL p c)/\p.cons.length=0/\True)/\False/\True)/\False)/\((jw p c==999)=false->((p.rng.lo=p.rng.lo/\p.rng.hi=p.rng.hi/\p.epoch=p.epoch/\p.frozen=p.frozen/\(iT p)/\(vL p c)/\p.cons.length=0/\True)/\False/\True)/\False)))/\((P.aP p.prods (P.bY c.prod c.seq false 0)==0)=false->(ES p c)/\((P.aP p.prods (P.bY c.prod c.seq false 0) != 0)=false->((jw p c==0)=true->((p.rng.lo=p.rng.lo/\p.rng.hi=p.rng.hi/\p.epoch=p.epoch/\p.frozen=p.frozen/\(iT p)/\(P.aN p.prods (mV c)).length=0/\(aN p.cons { name:=c.name,off:=c.off:Con }).length=0/\True)/\True/\True)/\True)/\((jw p c==0)=false->((jw p c==999)=true->((p.rng.lo=p.rng.lo/\p.rng.hi=p.rng.hi/\p.epoch=p.epoch/\p.frozen=p.frozen/\(iT p)/\p.prods.length=0/\p.cons.length=0/\True)/\False/\True)/\False)/\((jw p c==999)=false->((p.rng.lo=p.rng.lo/\p.rng.hi=p.rng.hi/\p.epoch=p.epoch/\p.frozen=p.frozen/\(iT p)/\p.prods.length=0/\p.cons.length=0/\True)/\False/\True)/\False))))))))
theorem Fh (p:Part) (c:bJ):(aZ Tryz.prog (cmH p c) 105 [.agg (aW true p),.agg (dV c)] [] (cmT p c))=Rb p c:=by kernel_rfl
def yD (p:Part) (c:bJ):Bool:=!(p.frozen==0)&&!(p.frozen==c.plan)
def PD (p:Part) (by':Int):Part:=⟨p.rng,p.epoch,by',p.recs,p.prods,p.cons⟩
def frT (p:Part) (c:bJ) (by':Int):T An:=.ite (yD p c) (.ret (.tup [.agg (aW true p),.s (.bool false),Ik],V8 c 164,[])) (.ret (.tup [.agg (aW true (PD p by')),.y (.bool (p.frozen==by')),.s .nilIface],[],[]))
def adw (p:Part) (c:bJ) (by':Int):Prop :=
 ((p.frozen != 0)=true->((p.frozen != c.plan)=true->(yD p c=true->((bE true true p p)/\false=false/\(0=0/\0=0)/\True)/\(c.kind=c.kind/\(164:Int)=164/\True)/\True)/\(yD p c=false->False))/\((p.frozen != c.plan)=false->(yD p c=true->((p.rng.lo=p.rng.lo/\p.rng.hi=p.rng.hi/\p.epoch=p.epoch/\by'=p.frozen/\(true=true/\p.recs.length=p.recs.length/\ak p.recs.length 5 (ah encR p.recs) (ah encR p.recs))/\(true=true/\p.prods.length=p.prods.length/\ak p.prods.length 4 (ah P.ay p.prods) (ah P.ay p.prods))/\(true=true/\p.cons.length=p.cons.length/\ak p.cons.length 2 (ah aJ p.cons) (ah aJ p.cons))/\True)/\(p.frozen==by')=false/\False/\True)/\False)/\(yD p c=false->((p.rng.lo=p.rng.lo/\p.rng.hi=p.rng.hi/\p.epoch=p.epoch/\by'=by'/\(true=true/\p.recs.length=p.recs.length/\ak p.recs.length 5 (ah encR p.recs) (ah encR p.recs))/\(true=true/\p.prods.length=p.prods.length/\ak p.prods.length 4 (ah P.ay p.prods) (ah P.ay p.prods))/\(true=true/\p.cons.length=p.cons.length/\ak p.cons.length 2 (ah aJ p.cons) (ah aJ p.cons))/\True)/\(p.frozen==by')=(p.frozen==by')/\True/\True)/\True)))/\((p.frozen != 0)=false->(yD p c=true->((p.rng.lo=p.rng.lo/\p.rng.hi=p.rng.hi/\p.epoch=p.epoch/\by'=p.frozen/\(true=true/\p.recs.length=p.recs.length/\ak p.recs.length 5 (ah encR p.recs) (ah encR p.recs))/\(true=true/\p.prods.length=p.prods.length/\ak p.prods.length 4 (ah P.ay p.prods) (ah P.ay p.prods))/\(true=true/\p.cons.length=p.cons.length/\ak p.cons.length 2 (ah aJ p.cons) (ah aJ p.cons))/\True)/\(p.frozen==by')=false/\False/\True)/\False)/\(yD p c=false->((p.rng.lo=p.rng.lo/\p.rng.hi=p.rng.hi/\p.epoch=p.epoch/\by'=by'/\(true=true/\p.recs.length=p.recs.length/\ak p.recs.length 5 (ah encR p.recs) (ah encR p.recs))/\(true=true/\p.prods.length=p.prods.length/\ak p.prods.length 4 (ah P.ay p.prods) (ah P.ay p.prods))/\(true=true/\p.cons.length=p.cons.length/\ak p.cons.length 2 (ah aJ p.cons) (ah aJ p.cons))/\True)/\(p.frozen==by')=(p.frozen==by')/\True/\True)/\True))
theorem V6 (p:Part) (c:bJ) (by':Int):(aZ Tryz.prog (hT _) 106 [.agg (aW true p),.agg (dV c),.y (.int .u64 by')] [] (frT p c by'))=adw p c by':=by kernel_rfl
theorem tRs (l:List Rec):∀ (k:Nat),k<l.length->∀ (j:Nat),j<5->dK (ah encR l k j)=true:=fun k _ j hj=>agb _ j hj
theorem tPs (l:List P.Producer):∀ (k:Nat),k<l.length->∀ (j:Nat),j<4->dK (ah P.ay l k j)=true:=fun k _ j hj=>D.afq _ j hj
theorem tCs (l:List Con):∀ (k:Nat),k<l.length->∀ (j:Nat),j<2->dK (ah aJ l k j)=true:=fun k _ j hj=>D.af8 _ j hj
theorem vH (l:List P.Producer) (x:P.Producer):P.aP l x≠999:=by
 unfold P.aP
 repeat' split
 all_goals decide
theorem MI (l:List Rec) (x:Rec):gZ l x≠999:=by
 unfold gZ
 repeat' split
 all_goals decide
theorem MU (l:List Con) (x:Con) (e:Int):eG l x e≠999:=by
 unfold eG
 repeat' split
 all_goals decide
theorem ahw (p:Part) (c:bJ) (h:eO p):(prT p c).Sat (au Tryz.prog 103 [.agg (aW true p),.agg (dV c)] []):=by
 refine aR (ht:=prH p c) Tryz.mixed rfl ?_
 rw [Ve p c]
 unfold af6 En vD uU E9 rT r_ Er iU
 have h1:=h.rl
 have h2:=h.pl
 have t1:=tRs (jc p.recs (newR c))
 have t2:=tPs (P.aN p.prods (mM p c))
 have t3:=tCs p.cons
 have e1:P.aP p.prods (P.bY c.prod c.seq true p.recs.length)=P.aP p.prods (mM p c):=rfl
 have e2:P.aN p.prods (P.bY c.prod c.seq true p.recs.length)=P.aN p.prods (mM p c):=rfl
 rw [e1,e2]
 have q1:p.prods.length<=9223372036854775806:=by omega
 have q2:p.recs.length<=9223372036854775806:=by omega
 unfold iO
 cases c1:h_ p.rng c.key
 · simp
 · by_cases c2:P.bg p.prods c.prod c.seq=2
   · simp [c2,q1]
   · by_cases c3:P.bg p.prods c.prod c.seq=3
     · simp [c3,q1]
     · by_cases c4:p.frozen=0
       · by_cases c5:gZ p.recs (newR c)=0
         · by_cases c6:P.aP p.prods (mM p c)=0
           · simp [c2,c3,c4,c5,c6,q1,q2]
             exact ⟨t1,t2⟩
           · by_cases c7:P.aP p.prods (mM p c)=999
             · exact absurd c7 (vH _ _)
             · simp [c2,c3,c4,c5,c6,c7,q1,q2]
         · by_cases c7:gZ p.recs (newR c)=999
           · exact absurd c7 (MI _ _)
           · simp [c2,c3,c4,c5,c7,q1,q2]
       · simp [c2,c3,c4,q1]
theorem abw (p:Part) (c:bJ) (h:eO p):(cmT p c).Sat (au Tryz.prog 105 [.agg (aW true p),.agg (dV c)] []):=by
 refine aR (ht:=cmH p c) Tryz.mixed rfl ?_
 rw [Fh p c]
 unfold Rb Ew za DV wC vL ES l7 Fv iT
 have h1:=h.rl
 have h2:=h.pl
 have h3:=h.cl
 have t1:=tRs p.recs
 have t2:=tPs (P.aN p.prods (mV c))
 have t3:=tCs (aN p.cons ⟨c.name,c.off⟩)
 have e1:P.aP p.prods (P.bY c.prod c.seq false 0)=P.aP p.prods (mV c):=rfl
 have e2:P.aN p.prods (P.bY c.prod c.seq false 0)=P.aN p.prods (mV c):=rfl
 have e3:eG p.cons ⟨c.name,c.off⟩ (IntKind.u64.wrap (p.recs.length:Nat))=uY p c:=rfl
 rw [e1,e2,e3]
 have q1:p.prods.length<=9223372036854775806:=by omega
 have q2:p.recs.length<=9223372036854775806:=by omega
 have q3:p.cons.length<=9223372036854775806:=by omega
 unfold jw
 by_cases c2:P.bg p.prods c.prod c.seq=1
 · by_cases c4:p.frozen=0
   · by_cases c5:uY p c=0
     · by_cases c6:P.aP p.prods (mV c)=0
       · simp [c2,c4,c5,c6,q1,q3]
         exact ⟨t2,t3⟩
       · by_cases c7:P.aP p.prods (mV c)=999
         · exact absurd c7 (vH _ _)
         · simp [c2,c4,c5,c6,c7,q1,q3]
     · by_cases c7:uY p c=999
       · exact absurd c7 (MU _ _ _)
       · simp [c2,c4,c5,c7,q1,q3]
   · simp [c2,c4,q1]
 · simp [c2,q1]
theorem ahx (p:Part) (c:bJ) (by':Int):(frT p c by').Sat (au Tryz.prog 106 [.agg (aW true p),.agg (dV c),.y (.int .u64 by')] []):=by
 refine aR (ht:=hT _) Tryz.mixed rfl ?_
 rw [V6 p c by']
 unfold adw yD
 by_cases c1:p.frozen=0
 · simp [c1]
 · by_cases c2:p.frozen=c.plan
   · simp [c1,c2]
   · simp [c1,c2]
noncomputable def prC (p:Part) (c:bJ):dO Tryz.prog:=⟨103,[.agg (aW true p),.agg (dV c)],[],.need (eO p) (prT p c),T.Sat.need fun h=>ahw p c h⟩
noncomputable def coC (p:Part) (c:bJ):dO Tryz.prog:=⟨105,[.agg (aW true p),.agg (dV c)],[],.need (eO p) (cmT p c),T.Sat.need fun h=>abw p c h⟩
noncomputable def frC (p:Part) (c:bJ) (by':Int):dO Tryz.prog:=⟨106,[.agg (aW true p),.agg (dV c),.y (.int .u64 by')],[],frT p c by',ahx p c by'⟩
def un9 (e:Int):Int:=if e=999 then 0 else e
def qO (p:Part) (c:bJ):Int:=if c.kind=1 then un9 (iO p c) else if c.kind=3 then un9 (jw p c) else if c.kind=5∨c.kind=6 then (if yD p c=true then 164 else 0) else if p.frozen≠0 then 164 else if c.kind=2 then uL p.recs c.off else 0
def Tq (c:bJ):Int:=if c.kind=5 then c.plan else 0
def Hr (p:Part) (c:bJ):Part:=if c.kind=1 then (if iO p c=0 then prQ p c else p) else if c.kind=3 then (if jw p c=0 then cmQ p c else p) else if c.kind=5∨c.kind=6 then (if yD p c=true then p else PD p (Tq c)) else p
def Ca (p:Part) (c:bJ):gJ :=
 if c.kind=1 then (if iO p c=0 then ⟨0,p.recs.length,false,[]⟩ else if iO p c=999 then ⟨0,P.dP p.prods c.prod c.seq,true,[]⟩ else ⟨0,0,false,[]⟩)
 else if c.kind=3 then (if jw p c=999 then ⟨0,0,true,[]⟩ else ⟨0,c.off,false,[]⟩)
 else if c.kind=5∨c.kind=6 then ⟨0,0,!yD p c&&p.frozen==Tq c,[]⟩
 else if p.frozen≠0 then ⟨0,0,false,[]⟩
 else if c.kind=4 then ⟨0,iK p.cons c.name,lT p.cons c.name,[]⟩
 else if c.kind=2 then (if uL p.recs c.off=0 then ⟨0,IntKind.u64.wrap (c.off+IntKind.u64.wrap (jd p.recs c.off c.most).length),false,jd p.recs c.off c.most⟩ else ⟨0,c.off,false,[]⟩)
 else ⟨0,0,false,[]⟩
def X5 (q:Part) (x:gJ) (c:bJ) (e:Int):T An:=.ite (e==0) (.ret (.tup [.agg (aW true q),.agg (oJ x),.s .nilIface],[],[])) (.ret (.tup [.agg (aW true q),.agg (oJ x),Ik],V8 c e,[]))
structure Act where
 q:Part
 x:gJ
 e:Int
noncomputable def acH (p:Part) (c:bJ):aC Tryz.prog:=dS (hh _ bB (cs1 40 6 2 (prC p c) (cs1 40 11 2 (coC p c) (cs1 40 16 4 (frC p c c.plan) (cs1 40 19 2 (frC p c 0) (cs1 40 25 4 (rdC true p.cons c.name) (cs1 40 27 6 (feC true p.recs c.off c.most) bA)))))) bq) (nk 40 27 8 779 noSh)
def Fy (p:Part) (c:bJ) (y:Act):Prop:=(p.rng.lo=y.q.rng.lo/\p.rng.hi=y.q.rng.hi/\p.epoch=y.q.epoch/\p.frozen=y.q.frozen/\(true=true/\p.recs.length=y.q.recs.length/\ak p.recs.length 5 (ah encR p.recs) (ah encR y.q.recs))/\(true=true/\(P.aN p.prods (mV c)).length=y.q.prods.length/\ak (P.aN p.prods (mV c)).length 4 (ah P.ay (P.aN p.prods (mV c))) (ah P.ay y.q.prods))/\(true=true/\(aN p.cons { name:=c.name,off:=c.off:Con }).length=y.q.cons.length/\ak (aN p.cons { name:=c.name,off:=c.off:Con }).length 2 (ah aJ (aN p.cons { name:=c.name,off:=c.off:Con })) (ah aJ y.q.cons))/\True)
def DT (p:Part) (c:bJ) (y:Act):Prop:=(p.rng.lo=y.q.rng.lo/\p.rng.hi=y.q.rng.hi/\p.epoch=y.q.epoch/\p.frozen=y.q.frozen/\(true=true/\(jc p.recs (newR c)).length=y.q.recs.length/\ak (jc p.recs (newR c)).length 5 (ah encR (jc p.recs (newR c))) (ah encR y.q.recs))/\(true=true/\(P.aN p.prods (mM p c)).length=y.q.prods.length/\ak (P.aN p.prods (mM p c)).length 4 (ah P.ay (P.aN p.prods (mM p c))) (ah P.ay y.q.prods))/\(true=true/\p.cons.length=y.q.cons.length/\ak p.cons.length 2 (ah aJ p.cons) (ah aJ y.q.cons))/\True)
def DY (p:Part) (y:Act):Prop:=(p.rng.lo=y.q.rng.lo/\p.rng.hi=y.q.rng.hi/\p.epoch=y.q.epoch/\0=y.q.frozen/\(true=true/\p.recs.length=y.q.recs.length/\ak p.recs.length 5 (ah encR p.recs) (ah encR y.q.recs))/\(true=true/\p.prods.length=y.q.prods.length/\ak p.prods.length 4 (ah P.ay p.prods) (ah P.ay y.q.prods))/\(true=true/\p.cons.length=y.q.cons.length/\ak p.cons.length 2 (ah aJ p.cons) (ah aJ y.q.cons))/\True)
def Eo (p:Part) (c:bJ) (y:Act):Prop:=(p.rng.lo=y.q.rng.lo/\p.rng.hi=y.q.rng.hi/\p.epoch=y.q.epoch/\c.plan=y.q.frozen/\(true=true/\p.recs.length=y.q.recs.length/\ak p.recs.length 5 (ah encR p.recs) (ah encR y.q.recs))/\(true=true/\p.prods.length=y.q.prods.length/\ak p.prods.length 4 (ah P.ay p.prods) (ah P.ay y.q.prods))/\(true=true/\p.cons.length=y.q.cons.length/\ak p.cons.length 2 (ah aJ p.cons) (ah aJ y.q.cons))/\True)
def zh (p:Part) (c:bJ) (y:Act):Prop:=((y.e==0)=false->((bE true true p y.q)/\(0=y.x.err/\0=y.x.off/\false=y.x.old/\y.x.recs.length=0/\True)/\(0=0/\0=0)/\True)/\(c.kind=c.kind/\164=y.e/\True)/\True)
def EK (p:Part) (c:bJ) (y:Act):Prop:=(0=y.x.err/\IntKind.u64.wrap (c.off+IntKind.u64.wrap ((jd p.recs c.off c.most).length:Int))=y.x.off/\false=y.x.old/\(true=true/\(jd p.recs c.off c.most).length=y.x.recs.length/\ak (jd p.recs c.off c.most).length 5 (Ax.rowAt 0 (ah encR (jd p.recs c.off c.most))) (ah encR y.x.recs))/\True)
def aeu (p:Part) (c:bJ) (y:Act):Prop :=
 ((c.kind==1)=true->((bE true true p p)/\(R.ow c c)/\True)/\True/\eO p/\((iO p c==0)=true->((y.e==0)=true->((DT p c y)/\(0=y.x.err/\(p.recs.length:Int)=y.x.off/\false=y.x.old/\y.x.recs.length=0/\True)/\True/\True)/\True)/\((y.e==0)=false->((DT p c y)/\(0=y.x.err/\(p.recs.length:Int)=y.x.off/\false=y.x.old/\y.x.recs.length=0/\True)/\False/\True)/\False))/\((iO p c==0)=false->((iO p c==999)=true->true=true/\True/\((y.e==0)=true->((bE true true p y.q)/\(0=y.x.err/\P.dP p.prods c.prod c.seq=y.x.off/\true=y.x.old/\y.x.recs.length=0/\True)/\True/\True)/\True)/\((y.e==0)=false->((bE true true p y.q)/\(0=y.x.err/\P.dP p.prods c.prod c.seq=y.x.off/\true=y.x.old/\y.x.recs.length=0/\True)/\False/\True)/\False))/\((iO p c==999)=false->true=true/\True/\((y.e==0)=true->False)/\((y.e==0)=false->((bE true true p y.q)/\(0=y.x.err/\0=y.x.off/\false=y.x.old/\y.x.recs.length=0/\True)/\(0=0/\0=0)/\True)/\(c.kind=c.kind/\iO p c=y.e/\True)/\True))))/\((c.kind==1)=false->((c.kind==3)=true->((bE true true p p)/\(R.ow c c)/\True)/\True/\eO p/\((jw p c==0)=true->((y.e==0)=true->((Fy p c y)/\(0=y.x.err/\c.off=y.x.off/\false=y.x.old/\y.x.recs.length=0/\True)/\True/\True)/\True)/\((y.e==0)=false->((Fy p c y)/\(0=y.x.err/\c.off=y.x.off/\false=y.x.old/\y.x.recs.length=0/\True)/\False/\True)/\False))/\((jw p c==0)=false->((jw p c==999)=true->true=true/\True/\((y.e==0)=true->((bE true true p y.q)/\(0=y.x.err/\0=y.x.off/\true=y.x.old/\y.x.recs.length=0/\True)/\True/\True)/\True)/\((y.e==0)=false->((bE true true p y.q)/\(0=y.x.err/\0=y.x.off/\true=y.x.old/\y.x.recs.length=0/\True)/\False/\True)/\False))/\((jw p c==999)=false->true=true/\True/\((y.e==0)=true->False)/\((y.e==0)=false->((bE true true p y.q)/\(0=y.x.err/\c.off=y.x.off/\false=y.x.old/\y.x.recs.length=0/\True)/\(0=0/\0=0)/\True)/\(c.kind=c.kind/\jw p c=y.e/\True)/\True))))/\((c.kind==3)=false->((c.kind==5)=true->((bE true true p p)/\(R.ow c c)/\c.plan=c.plan/\True)/\True/\(yD p c=true->((y.e==0)=true->False)/\(zh p c y))/\(yD p c=false->((y.e==0)=true->((Eo p c y)/\(0=y.x.err/\0=y.x.off/\(p.frozen==c.plan)=y.x.old/\y.x.recs.length=0/\True)/\True/\True)/\True)/\((y.e==0)=false->((Eo p c y)/\(0=y.x.err/\0=y.x.off/\(p.frozen==c.plan)=y.x.old/\y.x.recs.length=0/\True)/\False/\True)/\False)))/\((c.kind==5)=false->((c.kind==6)=true->((bE true true p p)/\(R.ow c c)/\(0:Int)=0/\True)/\True/\(yD p c=true->((y.e==0)=true->False)/\(zh p c y))/\(yD p c=false->((y.e==0)=true->((DY p y)/\(0=y.x.err/\0=y.x.off/\(p.frozen==0)=y.x.old/\y.x.recs.length=0/\True)/\True/\True)/\True)/\((y.e==0)=false->((DY p y)/\(0=y.x.err/\0=y.x.off/\(p.frozen==0)=y.x.old/\y.x.recs.length=0/\True)/\False/\True)/\False)))/\((c.kind==6)=false->((p.frozen != 0)=true->((y.e==0)=true->False)/\(zh p c y))/\((p.frozen != 0)=false->((c.kind==4)=true->((true=true/\p.cons.length=p.cons.length/\ak p.cons.length 2 (ah aJ p.cons) (ah aJ p.cons))/\c.name=c.name/\True)/\True/\p.cons.length<=9223372036854775806/\((y.e==0)=true->((bE true true p y.q)/\(0=y.x.err/\iK p.cons c.name=y.x.off/\lT p.cons c.name=y.x.old/\y.x.recs.length=0/\True)/\True/\True)/\True)/\((y.e==0)=false->((bE true true p y.q)/\(0=y.x.err/\iK p.cons c.name=y.x.off/\lT p.cons c.name=y.x.old/\y.x.recs.length=0/\True)/\False/\True)/\False))/\((c.kind==4)=false->((c.kind==2)=true->((true=true/\p.recs.length=p.recs.length/\ak p.recs.length 5 (ah encR p.recs) (ah encR p.recs))/\c.off=c.off/\c.most=c.most/\True)/\True/\(p.recs.length<=9223372036854775806/\0<=c.off)/\((uL p.recs c.off==0)=true->(∀ k,k<(jd p.recs c.off c.most).length->∀ j,j<5->dK (ah encR (jd p.recs c.off c.most) k j)=true)/\((y.e==0)=true->((bE true true p y.q)/\(EK p c y)/\True/\True)/\True)/\((y.e==0)=false->((bE true true p y.q)/\(EK p c y)/\False/\True)/\False))/\((uL p.recs c.off==0)=false->((uL p.recs c.off==0)=true->((y.e==0)=true->((bE true true p y.q)/\(0=y.x.err/\IntKind.u64.wrap (c.off+0)=y.x.off/\false=y.x.old/\y.x.recs.length=0/\True)/\True/\True)/\True)/\((y.e==0)=false->((bE true true p y.q)/\(0=y.x.err/\IntKind.u64.wrap (c.off+0)=y.x.off/\false=y.x.old/\y.x.recs.length=0/\True)/\False/\True)/\False))/\((uL p.recs c.off==0)=false->((y.e==0)=true->False)/\((y.e==0)=false->((bE true true p y.q)/\(0=y.x.err/\IntKind.u64.wrap (c.off+0)=y.x.off/\false=y.x.old/\y.x.recs.length=0/\True)/\(0=0/\0=0)/\True)/\(c.kind=c.kind/\uL p.recs c.off=y.e/\True)/\True))))/\((c.kind==2)=false->((y.e==0)=true->((bE true true p y.q)/\(0=y.x.err/\0=y.x.off/\false=y.x.old/\y.x.recs.length=0/\True)/\True/\True)/\True)/\((y.e==0)=false->((bE true true p y.q)/\(0=y.x.err/\0=y.x.off/\false=y.x.old/\y.x.recs.length=0/\True)/\False/\True)/\False))))))))
theorem WZ (p:Part) (c:bJ) (y:Act):(aZ Tryz.prog (acH p c) 40 [.agg (aW true p),.agg (dV c)] [] (X5 y.q y.x c y.e))=aeu p c y:=by kernel_rfl
theorem ahy (p:Part) (c:bJ) (h:eO p) (ho:0<=c.off/\c.off<18446744073709551616):(X5 (Hr p c) (Ca p c) c (qO p c)).Sat (au Tryz.prog 40 [.agg (aW true p),.agg (dV c)] []):=by
 refine aR (ht:=acH p c) Tryz.mixed rfl ?_
 rw [WZ p c ⟨Hr p c,Ca p c,qO p c⟩]
 unfold aeu EK zh Eo DY DT Fy
 dsimp only
 have h1:=h.rl
 have h3:=h.cl
 have hw:IntKind.u64.wrap c.off=c.off:=wrap_u64 ho.1 (by omega)
 have q2:p.recs.length<=9223372036854775806:=by omega
 have q3:p.cons.length<=9223372036854775806:=by omega
 unfold Hr Ca qO un9 Tq
 by_cases k1:c.kind=1
 · by_cases e0:iO p c=0
   · simp [k1,e0,h,prQ]
   · by_cases e9:iO p c=999
     · simp [k1,e9,h]
     · simp [k1,e0,e9,h]
 · by_cases k3:c.kind=3
   · by_cases e0:jw p c=0
     · simp [k3,e0,h,cmQ]
     · by_cases e9:jw p c=999
       · simp [k3,e9,h]
       · simp [k3,e0,e9,h]
   · by_cases k5:c.kind=5
     · cases f:yD p c<;>simp [k5,f,PD]
     · by_cases k6:c.kind=6
       · cases f:yD p c<;>simp [k6,f,PD]
       · by_cases fz:p.frozen=0
         · by_cases k4:c.kind=4
           · simp [k4,fz,q3]
           · by_cases k2:c.kind=2
             · by_cases e0:uL p.recs c.off=0
               · have t:=tRs (jd p.recs c.off c.most)
                 simp [k2,fz,e0,q2,ho,hw]
                 exact t
               · simp [k2,fz,e0,q2,ho,hw]
             · simp [k1,k2,k3,k4,k5,k6,fz]
         · simp [k1,k3,k5,k6,fz]
structure aaz (p:Part) (c:bJ) (q:Part) (x:gJ) (e:Int):Prop where
 s:(X5 q x c e).Sat (au Tryz.prog 40 [.agg (aW true p),.agg (dV c)] [])
noncomputable def arC (p:Part) (c:bJ) (q:Part) (x:gJ) (e:Int):dO Tryz.prog:=⟨40,[.agg (aW true p),.agg (dV c)],[],.need (aaz p c q x e) (X5 q x c e),T.Sat.need fun h=>h.s⟩
def TB (p:Part) (c:bJ) (q:Part) (e:Int):Part:=if aX p=false then default else if bF c=false∨c.epoch≠p.epoch∨e≠0 then p else q
def OG (p:Part) (c:bJ) (x:gJ) (e:Int):gJ:=if aX p=false then ⟨165,0,false,[]⟩ else if bF c=false then ⟨161,0,false,[]⟩ else if c.epoch≠p.epoch then ⟨162,0,false,[]⟩ else if e≠0 then ⟨e,0,false,[]⟩ else x
def L_ (q:Part) (x:gJ):T An:=.ret (.tup [.agg (aW true q),.agg (oJ x)],[],[])
noncomputable def doH (b:Bool) (p:Part) (c:bJ) (y:Act):aC Tryz.prog:=rW (hh _ bB (cs1 13 1 1 (pcC b p) (cs1 13 3 1 (weC c) (cs1 13 4 1 (MH b p) (cs1 13 6 1 (MH b p) (cs1 13 7 1 (MH b p) (cs1 13 7 3 (arC p c y.q y.x y.e) (cs1 13 10 1 (MH b p) bA))))))) bq) [41,113]
def aei (b:Bool) (p:Part) (c:bJ) (y:Act) (z:Act):Prop :=
 ((bE b b p p)/\True)/\True/\eO p/\(aX p=true->((R.ow c c)/\True)/\True/\((!bF c)=true->((bE b b p p)/\True)/\True/\Hf p/\((bE true true p z.q)/\(161=z.x.err/\0=z.x.off/\false=z.x.old/\z.x.recs.length=0/\True)/\True)/\True)/\((!bF c)=false->((c.epoch != p.epoch)=true->((bE b b p p)/\True)/\True/\Hf p/\((bE true true p z.q)/\(162=z.x.err/\0=z.x.off/\false=z.x.old/\z.x.recs.length=0/\True)/\True)/\True)/\((c.epoch != p.epoch)=false->((bE b b p p)/\True)/\True/\Hf p/\((bE true true p p)/\(R.ow c c)/\True)/\True/\aaz p c y.q y.x y.e/\((y.e==0)=true->((bE true true y.q z.q)/\(y.x.err=z.x.err/\y.x.off=z.x.off/\y.x.old=z.x.old/\(true=true/\y.x.recs.length=z.x.recs.length/\ak y.x.recs.length 5 (ah encR y.x.recs) (ah encR z.x.recs))/\True)/\True)/\True)/\((y.e==0)=false->true=true/\True/\((bE b b p p)/\True)/\True/\Hf p/\((bE true true p z.q)/\(y.e=z.x.err/\0=z.x.off/\false=z.x.old/\z.x.recs.length=0/\True)/\True)/\True))))/\(aX p=false->(({ data:=#[]:ByteArray }=z.q.rng.lo/\{ data:=#[]:ByteArray }=z.q.rng.hi/\0=z.q.epoch/\0=z.q.frozen/\z.q.recs.length=0/\z.q.prods.length=0/\z.q.cons.length=0/\True)/\(165=z.x.err/\0=z.x.off/\false=z.x.old/\z.x.recs.length=0/\True)/\True)/\True)
theorem Wv (b:Bool) (p:Part) (c:bJ) (y:Act) (z:Act):(aZ Tryz.prog (doH b p c y) 13 [.agg (aW b p),.agg (dV c)] [] (L_ z.q z.x))=aei b p c y z:=by kernel_rfl
theorem JE {p:Part} (h:aX p=true):p.recs.length<=4096/\p.prods.length<=256/\p.cons.length<=64:=by
 obtain ⟨_,_,a,b,c,_⟩:=D.Ag h
 have h1:=pz a
 simp [P.cK] at b
 simp [dJ] at c
 exact ⟨h1,b.2,c.2⟩
theorem af3 {p:Part} (h:aX p=true):Hf p:=by
 obtain ⟨h1,h2,h3⟩:=JE h
 have h4:=Jt (D.Ag h).2.2.1
 exact ⟨h1,h4.v,by omega,by omega⟩
def dQ (p:Part) (c:bJ):Part:=TB p c (Hr p c) (qO p c)
def dX (p:Part) (c:bJ):gJ:=OG p c (Ca p c) (qO p c)
theorem ahk (b:Bool) (p:Part) (c:bJ) (h:eO p) (ho:0<=c.off/\c.off<18446744073709551616):(L_ (dQ p c) (dX p c)).Sat (au Tryz.prog 13 [.agg (aW b p),.agg (dV c)] []):=by
 have ha:=ahy p c h ho
 unfold dQ dX
 generalize Hr p c=q at *
 generalize Ca p c=x at *
 generalize qO p c=e at *
 refine aR (ht:=doH b p c ⟨q,x,e⟩) Tryz.mixed rfl ?_
 rw [Wv b p c ⟨q,x,e⟩ ⟨TB p c q e,OG p c x e,0⟩]
 unfold aei
 dsimp only
 have hr:aaz p c q x e:=⟨ha⟩
 have eb:({ data:=#[] }:ByteArray)=ByteArray.empty:=rfl
 rw [eb]
 unfold TB OG
 cases k0:aX p
 · simp [h]
   exact ⟨rfl,rfl,rfl,rfl,rfl,rfl,rfl⟩
 · have hp:=af3 k0
   cases k1:bF c
   · simp [h,hp]
   · by_cases k2:c.epoch=p.epoch
     · by_cases k3:e=0
       · simp [h,hp,k2,k3,k3 ▸ hr]
       · simp [h,hp,k2,k3,hr]
     · simp [h,hp,k2]
structure Zj (p:Part) (c:bJ) (q:Part) (x:gJ):Prop where
 q:q=dQ p c
 x:x=dX p c
 i:eO p
 o:0<=c.off/\c.off<18446744073709551616
noncomputable def doC (b:Bool) (p:Part) (c:bJ) (q:Part) (x:gJ):dO Tryz.prog:=⟨13,[.agg (aW b p),.agg (dV c)],[],.need (Zj p c q x) (L_ q x),T.Sat.need fun h=>by
 obtain ⟨rfl,rfl,h1,h2⟩:=h
 exact ahk b p c h1 h2⟩
def byL (l:List Int):List UInt8:=(List.range l.length).map fun k=>UInt8.ofNat (l.getD k 0).toNat
def TU (x y:Rec):Bool:=x.off==y.off&&(x.key.data.toList==y.key.data.toList&&(byL x.val==byL y.val&&(x.prod==y.prod&&x.seq==y.seq)))
def gW (a b:List Rec) (k:Nat):Bool:=(List.range' k (a.length - k)).all fun j=>TU (a.getD j default) (b.getD j default)
def Yb (b1 b2:Bool) (a b:List Rec) (k:Nat):List AV:=mkT 82 [(0,bZ b1 a),(1,bZ b2 b),(4,.s (.bool false)),(5,.y (.int .i64 k))]
def YD (r:Bool):Exit×List AV×List aH:=match r with
 | true=>(.exit 0,mkT 82 [],[])
 | false=>(.ret,mkT 82 [(4,.s (.bool false))],[])
def Xx (a b:List Rec) (k:Nat):T Bool:=.ite (gW a b k) (.ret true) (.ret false)
def YX (b1:Bool) (b2:Bool) (a:List Rec) (b:List Rec) (k:Nat):Prop :=
 (decide ((↑k:Int)<(↑(List.length a):Int))=true->(true&&decide ((↑k:Int)<(↑(List.length a):Int)))=true/\(true&&decide ((↑k:Int)<(↑(List.length b):Int)))=true/\(((List.getD a (Int.toNat (↑k:Int)) (@default Rec instInhabitedRec)).off != (List.getD b (Int.toNat (↑k:Int)) (@default Rec instInhabitedRec)).off)=true->(gW a b k=true->False)/\(gW a b k=false->(false=false/\True)/\True/\true=true))/\(((List.getD a (Int.toNat (↑k:Int)) (@default Rec instInhabitedRec)).off != (List.getD b (Int.toNat (↑k:Int)) (@default Rec instInhabitedRec)).off)=false->(true&&decide ((↑k:Int)<(↑(List.length a):Int)))=true/\(true&&decide ((↑k:Int)<(↑(List.length b):Int)))=true/\((!(List.getD a (Int.toNat (↑k:Int)) (@default Rec instInhabitedRec)).key.data.toList==(List.getD b (Int.toNat (↑k:Int)) (@default Rec instInhabitedRec)).key.data.toList)=true->(gW a b k=true->False)/\(gW a b k=false->(false=false/\True)/\True/\true=true))/\((!(List.getD a (Int.toNat (↑k:Int)) (@default Rec instInhabitedRec)).key.data.toList==(List.getD b (Int.toNat (↑k:Int)) (@default Rec instInhabitedRec)).key.data.toList)=false->(true&&decide ((↑k:Int)<(↑(List.length a):Int)))=true/\(∀ (k_1:Nat),k_1<List.length (List.getD a (Int.toNat (↑k:Int)) (@default Rec instInhabitedRec)).val->true=true)/\(true&&decide ((↑k:Int)<(↑(List.length b):Int)))=true/\(∀ (k_1:Nat),k_1<List.length (List.getD b (Int.toNat (↑k:Int)) (@default Rec instInhabitedRec)).val->true=true)/\((!List.map (fun (a:AV)=>match match a with | AV.s (Value.int IntKind.u8 n)=>some n | AV.y (Value.int IntKind.u8 n)=>some n | x=>none with | some n=>UInt8.ofNat (Int.toNat n) | none=>(0:UInt8)) (List.map (fun (k_1:Nat)=>AV.y (Value.int IntKind.u8 (List.getD (List.getD a (Int.toNat (↑k:Int)) (@default Rec instInhabitedRec)).val k_1 (0:Int)))) (List.range (List.length (List.getD a (Int.toNat (↑k:Int)) (@default Rec instInhabitedRec)).val)))==List.map (fun (a:AV)=>match match a with | AV.s (Value.int IntKind.u8 n)=>some n | AV.y (Value.int IntKind.u8 n)=>some n | x=>none with | some n=>UInt8.ofNat (Int.toNat n) | none=>(0:UInt8)) (List.map (fun (k_1:Nat)=>AV.y (Value.int IntKind.u8 (List.getD (List.getD b (Int.toNat (↑k:Int)) (@default Rec instInhabitedRec)).val k_1 (0:Int)))) (List.range (List.length (List.getD b (Int.toNat (↑k:Int)) (@default Rec instInhabitedRec)).val))))=true->(gW a b k=true->False)/\(gW a b k=false->(false=false/\True)/\True/\true=true))/\((!List.map (fun (a:AV)=>match match a with | AV.s (Value.int IntKind.u8 n)=>some n | AV.y (Value.int IntKind.u8 n)=>some n | x=>none with | some n=>UInt8.ofNat (Int.toNat n) | none=>(0:UInt8)) (List.map (fun (k_1:Nat)=>AV.y (Value.int IntKind.u8 (List.getD (List.getD a (Int.toNat (↑k:Int)) (@default Rec instInhabitedRec)).val k_1 (0:Int)))) (List.range (List.length (List.getD a (Int.toNat (↑k:Int)) (@default Rec instInhabitedRec)).val)))==List.map (fun (a:AV)=>match match a with | AV.s (Value.int IntKind.u8 n)=>some n | AV.y (Value.int IntKind.u8 n)=>some n | x=>none with | some n=>UInt8.ofNat (Int.toNat n) | none=>(0:UInt8)) (List.map (fun (k_1:Nat)=>AV.y (Value.int IntKind.u8 (List.getD (List.getD b (Int.toNat (↑k:Int)) (@default Rec instInhabitedRec)).val k_1 (0:Int)))) (List.range (List.length (List.getD b (Int.toNat (↑k:Int)) (@default Rec instInhabitedRec)).val))))=false->(true&&decide ((↑k:Int)<(↑(List.length a):Int)))=true/\(true&&decide ((↑k:Int)<(↑(List.length b):Int)))=true/\(((List.getD a (Int.toNat (↑k:Int)) (@default Rec instInhabitedRec)).prod != (List.getD b (Int.toNat (↑k:Int)) (@default Rec instInhabitedRec)).prod)=true->(gW a b k=true->False)/\(gW a b k=false->(false=false/\True)/\True/\true=true))/\(((List.getD a (Int.toNat (↑k:Int)) (@default Rec instInhabitedRec)).prod != (List.getD b (Int.toNat (↑k:Int)) (@default Rec instInhabitedRec)).prod)=false->(true&&decide ((↑k:Int)<(↑(List.length a):Int)))=true/\(true&&decide ((↑k:Int)<(↑(List.length b):Int)))=true/\(((List.getD a (Int.toNat (↑k:Int)) (@default Rec instInhabitedRec)).seq != (List.getD b (Int.toNat (↑k:Int)) (@default Rec instInhabitedRec)).seq)=true->(gW a b k=true->False)/\(gW a b k=false->(false=false/\True)/\True/\true=true))/\(((List.getD a (Int.toNat (↑k:Int)) (@default Rec instInhabitedRec)).seq != (List.getD b (Int.toNat (↑k:Int)) (@default Rec instInhabitedRec)).seq)=false->∃ (j:Nat),List.length a - j<List.length a - k/\(((b1=b1/\List.length a=List.length a/\ak (List.length a) (5:Nat) (ah encR a) (ah encR a))/\(b2=b2/\List.length b=List.length b/\ak (List.length b) (5:Nat) (ah encR b) (ah encR b))/\false=false/\IntKind.wrap IntKind.i64 ((↑k:Int)+(1:Int))=(↑j:Int)/\True)/\True/\true=true)/\true=true/\(gW a b j=true->(gW a b k=true->true=true)/\(gW a b k=false->true=false))/\(gW a b j=false->(gW a b k=true->false=true)/\(gW a b k=false->false=false))))))))/\(decide ((↑k:Int)<(↑(List.length a):Int))=false->(gW a b k=true->True/\True/\true=true)/\(gW a b k=false->False))
theorem OV (b1:Bool) (b2:Bool) (a:List Rec) (b:List Rec) (k:Nat):(cu Tryz.prog (hT _) 73 4 (fun k=>a.length - k) (Yb b1 b2 a b) (fun _=>[]) [0,1] (Xx a b) YD k)=YX b1 b2 a b k:=by kernel_rfl
def XD (x y:Con):Bool:=x.name.data.toList==y.name.data.toList&&x.off==y.off
def jZ (a b:List Con) (k:Nat):Bool:=(List.range' k (a.length - k)).all fun j=>XD (a.getD j default) (b.getD j default)
def scT (b1 b2:Bool) (a b:List Con) (k:Nat):List AV:=mkT 26 [(0,dR b1 a),(1,dR b2 b),(4,.s (.bool false)),(5,.y (.int .i64 k))]
def scS (r:Bool):Exit×List AV×List aH:=match r with
 | true=>(.exit 0,mkT 26 [],[])
 | false=>(.ret,mkT 26 [(4,.s (.bool false))],[])
def scO (a b:List Con) (k:Nat):T Bool:=.ite (jZ a b k) (.ret true) (.ret false)
def aak (b1:Bool) (b2:Bool) (a:List Con) (b:List Con) (k:Nat):Prop :=
 (decide ((k:Int)<(a.length:Int))=true->(true&&decide ((k:Int)<(a.length:Int)))=true/\(true&&decide ((k:Int)<(b.length:Int)))=true/\((!((a.getD (Int.toNat (k:Int)) default).name.data.toList==(b.getD (Int.toNat (k:Int)) default).name.data.toList&&((a.getD (Int.toNat (k:Int)) default).off==(b.getD (Int.toNat (k:Int)) default).off&&true)))=true->(jZ a b k=true->False)/\(jZ a b k=false->(false=false/\True)/\True/\true=true))/\((!((a.getD (Int.toNat (k:Int)) default).name.data.toList==(b.getD (Int.toNat (k:Int)) default).name.data.toList&&((a.getD (Int.toNat (k:Int)) default).off==(b.getD (Int.toNat (k:Int)) default).off&&true)))=false->∃ j:Nat,a.length - j<a.length - k/\(((b1=b1/\a.length=a.length/\ak a.length 2 (ah aJ a) (ah aJ a))/\(b2=b2/\b.length=b.length/\ak b.length 2 (ah aJ b) (ah aJ b))/\false=false/\IntKind.i64.wrap ((k:Int)+1)=(j:Int)/\True)/\True/\true=true)/\true=true/\(jZ a b j=true->(jZ a b k=true->true=true)/\(jZ a b k=false->true=false))/\(jZ a b j=false->(jZ a b k=true->false=true)/\(jZ a b k=false->false=false))))/\(decide ((k:Int)<(a.length:Int))=false->(jZ a b k=true->True/\True/\true=true)/\(jZ a b k=false->False))
theorem QM (b1:Bool) (b2:Bool) (a:List Con) (b:List Con) (k:Nat):(cu Tryz.prog (hT _) 75 4 (fun k=>a.length - k) (scT b1 b2 a b) (fun _=>[]) [0,1] (scO a b) scS k)=aak b1 b2 a b k:=by kernel_rfl
theorem M_ {a b:List Con} {k:Nat} (h:a.length<=k):jZ a b k=true:=by
 unfold jZ
 rw [show a.length - k=0 by omega];rfl
theorem JM {a b:List Con} {k:Nat} (h:k<a.length):jZ a b k=(XD (a.getD k default) (b.getD k default)&&jZ a b (k+1)):=by
 unfold jZ
 rw [show a.length - k=(a.length - (k+1))+1 by omega,List.range'_succ];rfl
theorem Ob {a b:List Rec} {k:Nat} (h:a.length<=k):gW a b k=true:=by
 unfold gW
 rw [show a.length - k=0 by omega];rfl
theorem Ji {a b:List Rec} {k:Nat} (h:k<a.length):gW a b k=(TU (a.getD k default) (b.getD k default)&&gW a b (k+1)):=by
 unfold gW
 rw [show a.length - k=(a.length - (k+1))+1 by omega,List.range'_succ];rfl
theorem XA (b1 b2:Bool) (a b:List Con) (hl:a.length<=9223372036854775806) (he:a.length=b.length) (k:Nat):aQ Tryz.prog 75 4 (aS Tryz.prog 75 4) ⟨scT b1 b2 a b k,[],[]⟩ ((scO a b k).map (bU [0,1] scS)):=by
 refine fO Tryz.mixed (fun _=>rfl) (fun k=>(QM b1 b2 a b k).mpr ?_) k
 unfold aak
 by_cases h:k<a.length
 · have hz:decide ((k:Int)<a.length)=true:=by simp;omega
   have hz2:decide ((k:Int)<b.length)=true:=by simp;omega
   have hw:IntKind.i64.wrap ((k:Int)+1)=((k+1:Nat):Int):=by rw [wrap_i64 (by omega) (by omega)];omega
   rw [JM h,Int.toNat_natCast]
   simp only [hz,hz2,hw]
   unfold XD
   generalize ((a.getD k default).name.data.toList==(b.getD k default).name.data.toList)=q1
   generalize ((a.getD k default).off==(b.getD k default).off)=q2
   cases q1<;>cases q2<;>simp
   exact ⟨k+1,by omega,by omega,by simp⟩
 · have hz:decide ((k:Int)<a.length)=false:=by simp;omega
   simp only [hz,M_ (b:=b) (Nat.le_of_not_lt h)]
   simp
theorem Vq (b1 b2:Bool) (a b:List Rec) (hl:a.length<=9223372036854775806) (he:a.length=b.length) (k:Nat):aQ Tryz.prog 73 4 (aS Tryz.prog 73 4) ⟨Yb b1 b2 a b k,[],[]⟩ ((Xx a b k).map (bU [0,1] YD)):=by
 refine fO Tryz.mixed (fun _=>rfl) (fun k=>(OV b1 b2 a b k).mpr ?_) k
 unfold YX
 by_cases h:k<a.length
 · have hz:decide ((k:Int)<a.length)=true:=by simp;omega
   have hz2:decide ((k:Int)<b.length)=true:=by simp;omega
   have hw:IntKind.i64.wrap ((k:Int)+1)=((k+1:Nat):Int):=by rw [wrap_i64 (by omega) (by omega)];omega
   rw [Ji h,Int.toNat_natCast]
   simp only [hz,hz2,hw,List.map_map,Function.comp_def]
   unfold TU byL
   generalize ((a.getD k default).key.data.toList==(b.getD k default).key.data.toList)=q1
   generalize (List.map (fun (i:Nat)=>UInt8.ofNat (Int.toNat (List.getD (a.getD k default).val i 0))) (List.range (a.getD k default).val.length)==List.map (fun (i:Nat)=>UInt8.ofNat (Int.toNat (List.getD (b.getD k default).val i 0))) (List.range (b.getD k default).val.length))=q2
   have n1:((a.getD k default).off != (b.getD k default).off)=!((a.getD k default).off==(b.getD k default).off):=rfl
   have n2:((a.getD k default).prod != (b.getD k default).prod)=!((a.getD k default).prod==(b.getD k default).prod):=rfl
   have n3:((a.getD k default).seq != (b.getD k default).seq)=!((a.getD k default).seq==(b.getD k default).seq):=rfl
   rw [n1,n2,n3]
   generalize ((a.getD k default).off==(b.getD k default).off)=q3
   generalize ((a.getD k default).prod==(b.getD k default).prod)=q4
   generalize ((a.getD k default).seq==(b.getD k default).seq)=q5
   cases q1<;>cases q2<;>cases q3<;>cases q4<;>cases q5<;>simp
   exact ⟨k+1,by omega,by omega,by simp⟩
 · have hz:decide ((k:Int)<a.length)=false:=by simp;omega
   simp only [hz,Ob (b:=b) (Nat.le_of_not_lt h)]
   simp
end R
namespace P
noncomputable def aez (b1 b2:Bool) (a b:List Producer):dO Tryz.prog:=⟨74,[bG b1 a,bG b2 b],[],.need (a.length<=9223372036854775806) (smR a b),T.Sat.need fun h=>abn b1 b2 a b h⟩
structure Two where
 a:List Producer
 b:List Producer
 ta:List Int
 tb:List Int
structure Two.Ok (x:Two):Prop where
 a:x.a.length*32<=140737488355200
 b:x.b.length*32<=140737488355200
 ta:x.ta.length<=9223372036854775806
 tb:x.tb.length<=9223372036854775806
 oa:∀ y∈x.a,0<=y.offset/\y.offset<18446744073709551616
 ob:∀ y∈x.b,0<=y.offset/\y.offset<18446744073709551616
end P
namespace R
def iy (a b:List Rec):Bool:=(a.length==b.length)&&gW a b 0
def kG (a b:List Con):Bool:=(a.length==b.length)&&jZ a b 0
noncomputable def smH (b1 b2:Bool) (a b:List Rec):aC Tryz.prog:=hh _ (nu 73 4 (eP (Yb b1 b2 a b) (fun _=>[]) [0,1] (Xx a b) YD 0) bB) bA bq
def adi (b1:Bool) (b2:Bool) (a:List Rec) (b:List Rec):Prop :=
 (((a.length:Int) != (b.length:Int))=true->false=iy a b/\True)/\(((a.length:Int) != (b.length:Int))=false->(((b1=b1/\a.length=a.length/\ak a.length 5 (ah encR a) (ah encR a))/\(b2=b2/\b.length=b.length/\ak b.length 5 (ah encR b) (ah encR b))/\false=false/\(0:Int)=0/\True)/\True/\true=true)/\aQ Tryz.prog 73 4 (aS Tryz.prog 73 4) { t:=Yb b1 b2 a b 0,m:=[],mv:=[]:St } (T.map (bU [0,1] YD) (Xx a b 0))/\(gW a b 0=true->true=iy a b/\True)/\(gW a b 0=false->false=iy a b/\True))
theorem Xo (b1:Bool) (b2:Bool) (a:List Rec) (b:List Rec):(aZ Tryz.prog (smH b1 b2 a b) 73 [bZ b1 a,bZ b2 b] [] (bM (iy a b)))=adi b1 b2 a b:=by kernel_rfl
noncomputable def scH (b1 b2:Bool) (a b:List Con):aC Tryz.prog:=hh _ (nu 75 4 (eP (scT b1 b2 a b) (fun _=>[]) [0,1] (scO a b) scS 0) bB) bA bq
def aem (b1:Bool) (b2:Bool) (a:List Con) (b:List Con):Prop :=
 (((a.length:Int) != (b.length:Int))=true->false=kG a b/\True)/\(((a.length:Int) != (b.length:Int))=false->(((b1=b1/\a.length=a.length/\ak a.length 2 (ah aJ a) (ah aJ a))/\(b2=b2/\b.length=b.length/\ak b.length 2 (ah aJ b) (ah aJ b))/\false=false/\(0:Int)=0/\True)/\True/\true=true)/\aQ Tryz.prog 75 4 (aS Tryz.prog 75 4) { t:=scT b1 b2 a b 0,m:=[],mv:=[]:St } (T.map (bU [0,1] scS) (scO a b 0))/\(jZ a b 0=true->true=kG a b/\True)/\(jZ a b 0=false->false=kG a b/\True))
theorem Xa (b1:Bool) (b2:Bool) (a:List Con) (b:List Con):(aZ Tryz.prog (scH b1 b2 a b) 75 [dR b1 a,dR b2 b] [] (bM (kG a b)))=aem b1 b2 a b:=by kernel_rfl
theorem ahP (b1 b2:Bool) (a b:List Rec) (hl:a.length<=9223372036854775806):(bM (iy a b)).Sat (au Tryz.prog 73 [bZ b1 a,bZ b2 b] []):=by
 refine aR (ht:=smH b1 b2 a b) Tryz.mixed rfl ?_
 rw [Xo b1 b2 a b]
 unfold adi
 by_cases he:a.length=b.length
 · have:=Vq b1 b2 a b hl he 0
   simp [iy,he,this]
 · have he':¬ ((a.length:Int)=b.length):=by omega
   simp [iy,he,he']
theorem ah3 (b1 b2:Bool) (a b:List Con) (hl:a.length<=9223372036854775806):(bM (kG a b)).Sat (au Tryz.prog 75 [dR b1 a,dR b2 b] []):=by
 refine aR (ht:=scH b1 b2 a b) Tryz.mixed rfl ?_
 rw [Xa b1 b2 a b]
 unfold aem
 by_cases he:a.length=b.length
 · have:=XA b1 b2 a b hl he 0
   simp [kG,he,this]
 · have he':¬ ((a.length:Int)=b.length):=by omega
   simp [kG,he,he']
noncomputable def smC (b1 b2:Bool) (a b:List Rec):dO Tryz.prog:=⟨73,[bZ b1 a,bZ b2 b],[],.need (a.length<=9223372036854775806) (bM (iy a b)),T.Sat.need fun h=>ahP b1 b2 a b h⟩
noncomputable def ahG (b1 b2:Bool) (a b:List Con):dO Tryz.prog:=⟨75,[dR b1 a,dR b2 b],[],.need (a.length<=9223372036854775806) (bM (kG a b)),T.Sat.need fun h=>ah3 b1 b2 a b h⟩
def jD (p q:Part):Bool:=iy p.recs q.recs&&(P.pI p.prods q.prods&&(kG p.cons q.cons&&((p.rng.lo.data.toList==q.rng.lo.data.toList&&p.rng.hi.data.toList==q.rng.hi.data.toList)&&(p.epoch==q.epoch&&p.frozen==q.frozen))))
noncomputable def ado (b1 b2:Bool) (p q:Part):aC Tryz.prog:=hh _ bB (cs1 19 1 4 (smC b1 b2 p.recs q.recs) (cs1 19 2 4 (P.aez b1 b2 p.prods q.prods) (cs1 19 3 4 (ahG b1 b2 p.cons q.cons) bA))) bq
def ZW (b1:Bool) (b2:Bool) (p:Part) (q:Part):Prop :=
 ((b1=b1/\p.recs.length=p.recs.length/\ak p.recs.length 5 (ah encR p.recs) (ah encR p.recs))/\(b2=b2/\q.recs.length=q.recs.length/\ak q.recs.length 5 (ah encR q.recs) (ah encR q.recs))/\True)/\True/\p.recs.length<=9223372036854775806/\((b1=b1/\p.prods.length=p.prods.length/\ak p.prods.length 4 (ah P.ay p.prods) (ah P.ay p.prods))/\(b2=b2/\q.prods.length=q.prods.length/\ak q.prods.length 4 (ah P.ay q.prods) (ah P.ay q.prods))/\True)/\True/\p.prods.length<=9223372036854775806/\((b1=b1/\p.cons.length=p.cons.length/\ak p.cons.length 2 (ah aJ p.cons) (ah aJ p.cons))/\(b2=b2/\q.cons.length=q.cons.length/\ak q.cons.length 2 (ah aJ q.cons) (ah aJ q.cons))/\True)/\True/\p.cons.length<=9223372036854775806/\(iy p.recs q.recs=true->(P.pI p.prods q.prods=true->(kG p.cons q.cons=true->((p.rng.lo.data.toList==q.rng.lo.data.toList&&(p.rng.hi.data.toList==q.rng.hi.data.toList&&true))=true->((p.epoch==q.epoch)=true->(p.frozen==q.frozen)=jD p q/\True)/\((p.epoch==q.epoch)=false->false=jD p q/\True))/\((p.rng.lo.data.toList==q.rng.lo.data.toList&&(p.rng.hi.data.toList==q.rng.hi.data.toList&&true))=false->false=jD p q/\True))/\(kG p.cons q.cons=false->false=jD p q/\True))/\(P.pI p.prods q.prods=false->false=jD p q/\True))/\(iy p.recs q.recs=false->false=jD p q/\True)
theorem Sj (b1:Bool) (b2:Bool) (p:Part) (q:Part):(aZ Tryz.prog (ado b1 b2 p q) 19 [.agg (aW b1 p),.agg (aW b2 q)] [] (bM (jD p q)))=ZW b1 b2 p q:=by kernel_rfl
theorem ac_ (b1 b2:Bool) (p q:Part) (h:eO p):(bM (jD p q)).Sat (au Tryz.prog 19 [.agg (aW b1 p),.agg (aW b2 q)] []):=by
 refine aR (ht:=ado b1 b2 p q) Tryz.mixed rfl ?_
 rw [Sj b1 b2 p q]
 unfold ZW jD
 have h1:=h.rl
 have h2:=h.pl
 have h3:=h.cl
 have g1:p.recs.length<=9223372036854775806:=by omega
 have g2:p.prods.length<=9223372036854775806:=by omega
 have g3:p.cons.length<=9223372036854775806:=by omega
 generalize iy p.recs q.recs=q1
 generalize P.pI p.prods q.prods=q2
 generalize kG p.cons q.cons=q3
 generalize (p.rng.lo.data.toList==q.rng.lo.data.toList)=q4
 generalize (p.rng.hi.data.toList==q.rng.hi.data.toList)=q5
 generalize (p.epoch==q.epoch)=q6
 generalize (p.frozen==q.frozen)=q7
 cases q1<;>cases q2<;>cases q3<;>cases q4<;>cases q5<;>cases q6<;>simp [g1,g2,g3]
def kS:ByteArray:=⟨#[107]⟩
def Fp (s:Int) (k:ByteArray):bJ:=⟨1,1,7,s,k,[118],0,0,ByteArray.empty,0⟩
def aa4 (c:bJ):T An:=.ret (.agg (dV c),[],[])
def aaq (s:Int) (k:ByteArray):Prop :=
 ((1:Int)=1/\(1:Int)=1/\(7:Int)=7/\s=s/\k=k/\(true=true/\1=1/\ak 1 1 (Ax.rowAt 0 fun (k j:Nat)=>Ax.get [AV.s (.int .u8 118)] (k*1+j)) (ah aD [118]))/\(0:Int)=0/\(0:Int)=0/\{ data:=#[]:ByteArray }=ByteArray.empty/\(0:Int)=0/\True)/\True
theorem Q8 (s:Int) (k:ByteArray):(aZ Tryz.prog (hT _) 12 [.y (.int .u64 s),.y (.string k)] [] (aa4 (Fp s k)))=aaq s k:=by kernel_rfl
theorem ac6 (s:Int) (k:ByteArray):(aa4 (Fp s k)).Sat (au Tryz.prog 12 [.y (.int .u64 s),.y (.string k)] []):=by
 refine aR (ht:=hT _) Tryz.mixed rfl ?_
 rw [Q8 s k]
 unfold aaq
 have eb:({ data:=#[] }:ByteArray)=ByteArray.empty:=rfl
 simp [eb]
 intro i hi j hj
 obtain rfl:i=0:=by omega
 obtain rfl:j=0:=by omega
 exact rfl
noncomputable def afc (s:Int) (k:ByteArray):dO Tryz.prog:=⟨12,[.y (.int .u64 s),.y (.string k)],[],aa4 (Fp s k),ac6 s k⟩
def p0:Part:=⟨⟨ByteArray.empty,ByteArray.empty⟩,1,0,[],[],[]⟩
def q0:Part:=⟨⟨ByteArray.empty,ByteArray.empty⟩,1,0,[⟨0,kS,[118],7,1⟩],[⟨7,1,true,0⟩],[]⟩
noncomputable def lvH:aC Tryz.prog:=hh _ bB (cs1 10 2 1 (afc 1 kS) (cs1 10 2 2 (doC true p0 (Fp 1 kS) q0 ⟨0,0,false,[]⟩) (cs1 10 3 1 (afc 1 kS) (cs1 10 3 2 (doC true q0 (Fp 1 kS) q0 ⟨0,0,true,[]⟩) bA)))) bq
def aeG (u:Unit):Prop :=
 ((1:Int)=1/\{ data:=#[(107:UInt8)]:ByteArray }=kS/\True)/\True/\(({ data:=#[]:ByteArray }=ByteArray.empty/\{ data:=#[]:ByteArray }=ByteArray.empty/\(1:Int)=1/\(0:Int)=0/\0=0/\0=0/\0=0/\True)/\((1:Int)=1/\(1:Int)=1/\(7:Int)=7/\(1:Int)=1/\kS=kS/\(true=true/\1=1/\ak 1 1 (ah aD [118]) (ah aD [118]))/\(0:Int)=0/\(0:Int)=0/\ByteArray.empty=ByteArray.empty/\(0:Int)=0/\True)/\True)/\True/\Zj p0 (Fp 1 kS) q0 { err:=0,off:=0,old:=false,recs:=[]:gJ }/\((1:Int)=1/\{ data:=#[(107:UInt8)]:ByteArray }=kS/\True)/\True/\((ByteArray.empty=ByteArray.empty/\ByteArray.empty=ByteArray.empty/\(1:Int)=1/\(0:Int)=0/\(true=true/\1=1/\ak 1 5 (ah encR [{ off:=0,key:=kS,val:=[118],prod:=7,seq:=1:Rec }]) (ah encR [{ off:=0,key:=kS,val:=[118],prod:=7,seq:=1:Rec }]))/\(true=true/\1=1/\ak 1 4 (ah P.ay [{ id:=7,seq:=1,here:=true,offset:=0:P.Producer }]) (ah P.ay [{ id:=7,seq:=1,here:=true,offset:=0:P.Producer }]))/\(true=true/\0=0/\ak 0 2 (ah aJ []) (ah aJ []))/\True)/\((1:Int)=1/\(1:Int)=1/\(7:Int)=7/\(1:Int)=1/\kS=kS/\(true=true/\1=1/\ak 1 1 (ah aD [118]) (ah aD [118]))/\(0:Int)=0/\(0:Int)=0/\ByteArray.empty=ByteArray.empty/\(0:Int)=0/\True)/\True)/\True/\Zj q0 (Fp 1 kS) q0 { err:=0,off:=0,old:=true,recs:=[]:gJ }/\(true=true->(true=true->(true=true->true=true/\True)/\(true=false->false=true/\True))/\(true=false->false=true/\True))/\(true=false->false=true/\True)
theorem U9 (u:Unit):(aZ Tryz.prog lvH 10 [] [] (bM true))=aeG u:=by kernel_rfl
theorem afH:eO p0:=⟨by decide,by decide,by decide,fun k hk=>by cases hk⟩
theorem af':eO q0:=⟨by decide,by decide,by decide,fun k hk=>by
 have hk:k<1:=hk
 obtain rfl:k=0:=by omega
 decide⟩
theorem aff:Zj p0 (Fp 1 kS) q0 ⟨0,0,false,[]⟩:=⟨by kernel_rfl,by kernel_rfl,afH,by decide⟩
theorem ada:Zj q0 (Fp 1 kS) q0 ⟨0,0,true,[]⟩:=⟨by kernel_rfl,by kernel_rfl,af',by decide⟩
theorem ahN:(bM true).Sat (au Tryz.prog 10 [] []):=by
 refine aR (ht:=lvH) Tryz.mixed rfl ?_
 rw [U9 ()]
 unfold aeG
 have eb:({ data:=#[] }:ByteArray)=ByteArray.empty:=rfl
 have ek:({ data:=#[107] }:ByteArray)=kS:=rfl
 have h1:=aff
 have h2:=ada
 simp [eb,ek,h1,h2]
noncomputable def agH:dO Tryz.prog:=⟨10,[],[],bM true,ahN⟩
end R
namespace P
end P
end Go.Proofs.YtnbhdjadlbhknaaGreatDoor
