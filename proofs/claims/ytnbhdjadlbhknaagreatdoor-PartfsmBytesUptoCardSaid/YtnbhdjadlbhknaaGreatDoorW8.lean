import Derived.Test.YtnbhdjadlbhknaaGreatDoorW4
import Derived.Test.YtnbhdjadlbhknaaGreatDoorW6
import Derived.Test.YtnbhdjadlbhknaaGreatDoorW7
set_option linter.unusedVariables false
set_option linter.unusedSimpArgs false
namespace Go.Proofs.YtnbhdjadlbhknaaGreatDoor.J
open Go.Ax
set_option maxRecDepth 1000000
theorem Wj (l:List Int) (m:Nat) (hm:m<=4096) (t:List Rec) (s':RS) (q:DQ (eG l) l m t s'):aQ Tryz.prog 58 4 (aS Tryz.prog 58 4) ⟨qlT m q.n q.a,qlM l q.s q.a,[]⟩ (T.map (bV [2,3] (qlS l t s')) (.ret ())):=by
 refine dV (P:=Tryz.prog) (f:=58) (k:=4) (ι:=DQ (eG l) l m t s') (μ:=fun q=>q.n) (ht:=fun q=>qlH l q.s (eG l q.s).1 (eG l q.s).2) (rz:=fun q=>qlT m q.n q.a) (stM:=fun q=>qlM l q.s q.a) (X:=[2,3]) (o:=fun _=>.ret ()) (S:=qlS l t s') Tryz.mixed (fun _=>rfl) (fun q=>?_) q
 rw [Vy l m t s' q (eG l q.s).1 (eG l q.s).2]
 unfold aek
 obtain ⟨n,s,a,e,h,k,z⟩:=q
 have hcl:=aO l.length 1 (ah aD l)
 simp only
 cases n with
 | zero =>
   have e1:a=t:=congrArg Prod.fst e
   have e2:s=s':=congrArg Prod.snd e
   subst e1 e2
   have hd:decide (((m - 0:Nat):Int)<(m:Int))=false:=by simp
   simp only [hd]
   simp [hcl]
 | succ n =>
   have hd:decide (((m - (n+1):Nat):Int)<(m:Int))=true:=by simp only [decide_eq_true_eq];omega
   have w:IntKind.wrap IntKind.i64 (((m - (n+1):Nat):Int)+1)=((m - n:Nat):Int):=by rw [wrap_i64 (by omega) (by omega)];omega
   simp only [hd,w]
   by_cases he:s.e=0
   · have h0:(s.e != 0)=false:=by simp [he]
     have h0':(s.e==0)=true:=by simp [he]
     have e1:gM (eG l) n (eG l s).2 (a++[(eG l s).1])=(t,s'):=by
      have:=e
      unfold gM at this
      simpa [h0] using this
     have ha:=jm (enc:=encR) (l:=a) (n:=a.length) (sz:=5) (x:=(eG l s).1) (cs:=encR (eG l s).1) rfl (fun j hj=>bN _)
     simp only [h0']
     simp [h,hcl]
     refine ⟨by omega,⟨n,(eG l s).2,a++[(eG l s).1],e1,uq h,by omega,by simp;omega⟩,by show n<n+1;omega,?_⟩
     exact ⟨⟨by simp,rfl⟩,⟨rfl,rfl,rfl⟩,by simp,ha⟩
   · have h0:(s.e != 0)=true:=by simpa using he
     have h0':(s.e==0)=false:=by simpa using he
     have e1:(a,s)=(t,s'):=by
      have:=e
      unfold gM at this
      simpa [h0] using this
     have e3:a=t:=congrArg Prod.fst e1
     have e4:s=s':=congrArg Prod.snd e1
     subst e3 e4
     simp only [h0']
     simp [hcl]
theorem ad9 {f:FuncId} {args:List AV} {M:List aH} {l:List Int} {t:List Rec} {s:RS} (hM:∀ i,2<=i->getM M i=.dead) (h:(qlR l t s).Sat (au Tryz.prog f args M)):(T.ret (bZ true t,qM l s,[]):T An).Sat (au Tryz.prog f args M):=by
 have h1:au Tryz.prog f args M (bZ true t,qM l s,[2,3]):=jK h
 have h2:au Tryz.prog f args M (bZ true t,qM l s,[]):=kW h1 fun i hi=>by
  rcases List.mem_cons.1 hi with rfl | hi
  · exact .inr (hM _ (by decide))
  · obtain rfl:=List.mem_singleton.1 hi
    exact .inr (hM _ (by decide))
 exact T.Sat.ret h2
theorem agc (l:List Int) (s:RS) (most:Int) (hm:jB most) (hm2:most<=4096) (hs:bL l s):(T.ret (bZ true (gu l s most).1,qM l (gu l s most).2,[]):T An).Sat (au Tryz.prog 58 [qP,.y (.int .i64 most)] (qM l s)):=by
 refine ad9 (fun i hi=>by
  match i,hi with
  | i+2,_=>exact dW i) ?_
 obtain ⟨h1,h2,_⟩:=gG (most:=most) hs
 have hn:=count_le (most:=most) hs
 have h0:=h2.lo
 obtain ⟨m,hmm⟩:∃ m:Nat,(aK l s most).1.toNat=m:=⟨_,rfl⟩
 have hmi:(aK l s most).1=(m:Int):=by omega
 have hq:∃ q:DQ (eG l) l m (gu l s most).1 (gu l s most).2,q.n=m/\q.s=(aK l s most).2/\q.a=[]:=⟨⟨m,(aK l s most).2,[],by unfold gu;rw [hmm],h1,Nat.le_refl _,by simp⟩,rfl,rfl,rfl⟩
 obtain ⟨q,q1,q2,q3⟩:=hq
 have lp:=Wj l m (by omega) (gu l s most).1 (gu l s most).2 q
 refine dG (ht:=afP l s most m (aK l s most).2 (gu l s most).1 (gu l s most).2 q) Tryz.mixed rfl ?_
 rw [Pp l s most m (aK l s most).2 (gu l s most).1 (gu l s most).2 q]
 unfold Z4
 have hcl:=aO l.length 1 (ah aD l)
 have ht:=YW (gu l s most).1
 have hr:ak (gu l s most).1.length 5 (Ax.rowAt 0 (ah encR (gu l s most).1)) (ah encR (gu l s most).1):=fun k hk j hj=>bN _
 have hc:((m:Int),(aK l s most).2)=aK l s most:=by rw [<- hmi]
 rw [q1,q2,q3] at lp
 simp only [q1,q2,q3]
 simp [hs,hm,hcl,hc,hr,lp]
 exact ht
noncomputable def qlC (l:List Int) (s:RS) (most:Int) (t:List Rec) (s':RS):dO Tryz.prog:=⟨58,[qP,.y (.int .i64 most)],qM l s,.need (bL l s/\jB most/\most<=4096) (.need ((t,s')=gu l s most) (.ret (bZ true t,qM l s',[]))),T.Sat.need fun h=>T.Sat.need fun e=>by
 have e1:t=(gu l s most).1:=congrArg Prod.fst e
 have e2:s'=(gu l s most).2:=congrArg Prod.snd e
 rw [e1,e2]
 exact agc l s most h.2.1 h.2.2 h.1⟩
noncomputable def ahv (l:List Int) (s:RS) (most:Int) (t:List Rec) (s':RS):dO Tryz.prog:=⟨58,[qP,.y (.int .i64 most)],qM l s,.need (bL l s/\jB most/\most<=4096) (.need ((t,s')=gu l s most) (.ret (bZ false t,qM l s',[]))),T.Sat.need fun h=>T.Sat.need fun e=>by
 have e1:t=(gu l s most).1:=congrArg Prod.fst e
 have e2:s'=(gu l s most).2:=congrArg Prod.snd e
 rw [e1,e2]
 have h1:au Tryz.prog 58 [qP,.y (.int .i64 most)] (qM l s) (bZ true (gu l s most).1,qM l (gu l s most).2,[]):=jK (agc l s most h.2.1 h.2.2 h.1)
 have h2:au Tryz.prog 58 [qP,.y (.int .i64 most)] (qM l s) (bZ false (gu l s most).1,qM l (gu l s most).2,[]):=sG (fun H E v hH hr=>by
  have:=El hH hr
  exact this) h1
 exact T.Sat.ret h2⟩
structure UK {α:Type} (l:List Int) (f:RS->α×RS) (enc:α->List Int) (ok:α->Prop):Prop where
 fwd:∀ s x r,bL l s->s.e=0->ok x->l.drop s.at_=enc x++r->f s=(x,⟨s.at_+(enc x).length,0,s.bad⟩)
 bwd:∀ s,bL l s->(f s).2.e=0->s.e=0/\ok (f s).1/\(f s).2=⟨s.at_+(enc (f s).1).length,0,s.bad⟩/\∃ r,l.drop s.at_=enc (f s).1++r
 rok:∀ s,bL l s->bL l (f s).2
theorem UK.map {α β:Type} {l:List Int} {f:RS->α×RS} {ea:α->List Int} {oa:α->Prop} (hf:UK l f ea oa) (φ:α->β) (ψ:β->α) {eb:β->List Int} {ob:β->Prop} (h1:∀ x,φ (ψ x)=x) (h2:∀ a,oa a->eb (φ a)=ea a/\ob (φ a)) (h3:∀ x,ob x->oa (ψ x)) :
 UK l (fun s=>(φ (f s).1,(f s).2)) eb ob where
 fwd:=fun s x r h he ho hd=>by
  have e:=(h2 _ (h3 x ho)).1
  rw [h1] at e
  rw [e] at hd
  have:=hf.fwd s (ψ x) r h he (h3 x ho) hd
  simp only [this,h1,e]
 bwd:=fun s h he=>by
  obtain ⟨a1,a2,a3,r,a4⟩:=hf.bwd s h he
  obtain ⟨e1,e2⟩:=h2 _ a2
  refine ⟨a1,e2,?_,r,?_⟩
  · simp only [e1];exact a3
  · simp only [e1];exact a4
 rok:=fun s h=>hf.rok s h
theorem UK.whole {α:Type} {l:List Int} {f:RS->α×RS} {enc:α->List Int} {ok:α->Prop} (hf:UK l f enc ok) (d:α):UK l (fun s=>if (f s).2.e != 0 then (d,(f s).2) else f s) enc ok where
 fwd:=fun s x r h he ho hd=>by
  have:=hf.fwd s x r h he ho hd
  simp only [this]
  rfl
 bwd:=fun s h he=>by
  by_cases h0:((f s).2.e != 0)=true
  · rw [if_pos h0] at he
    have he:(f s).2.e=0:=he
    simp [he] at h0
  · rw [if_neg h0] at he ⊢
    exact hf.bwd s h he
 rok:=fun s h=>by
  split
  · exact hf.rok s h
  · exact hf.rok s h
theorem UK.of {α:Type} {l:List Int} {f g:RS->α×RS} {enc:α->List Int} {ok:α->Prop} (hf:UK l f enc ok) (h:∀ s,g s=f s):UK l g enc ok:=by
 rw [show g=f from funext h]
 exact hf
structure Bb {α:Type} (most:Int) (ok:α->Prop) (xs:List α):Prop where
 n:(xs.length:Int)<=most
 n2:(xs.length:Int)<18446744073709551616
 ok:∀ x∈xs,ok x
structure zZ (x:Rec):Prop where
 u:DX x
 k:x.key.size<=32
 v:x.val.length<=256
 b:Bytes x.val
structure aec (r:kT):Prop where
 lo:r.lo.size<=32
 hi:r.hi.size<=32
structure ZV (x:Con):Prop where
 n:x.name.size<=32
 o:nR x.off
end Go.Proofs.YtnbhdjadlbhknaaGreatDoor.J

namespace Go.Proofs.YtnbhdjadlbhknaaGreatDoor.R
open Go.Ax
set_option maxRecDepth 1000000
noncomputable def ahi (b:Bool) (l:List P.Producer) (id seq o:Int):dO Tryz.prog:=⟨135,[P.bG b l,.y (.int .u64 id),.y (.int .u64 seq),.y (.int .u64 o)],[],.need (l.length<=9223372036854775806) (P.lT l (P.bY id seq true o)),T.Sat.need fun h=>P.adL b l id seq o h⟩
noncomputable def aeZ (b:Bool) (l:List P.Producer) (id seq:Int):dO Tryz.prog:=⟨139,[P.bG b l,.y (.int .u64 id),.y (.int .u64 seq)],[],.need (l.length<=9223372036854775806) (P.lT l (P.bY id seq false 0)),T.Sat.need fun h=>P.abk b l id seq h⟩
def newR (c:bJ):Rec:=⟨0,c.key,c.val,c.prod,c.seq⟩
def mV (p:Part) (c:bJ):P.Producer:=P.bY c.prod c.seq true p.recs.length
def mR (c:bJ):P.Producer:=P.bY c.prod c.seq false 0
def uU (p:Part) (c:bJ):Int:=eF p.cons ⟨c.name,c.off⟩ (IntKind.u64.wrap (p.recs.length:Nat))
def Im:AV:=.ifc 184 (.ptr 0 0 0 0)
def Ud (c:bJ) (e:Int):List aH:=[.box 186 [.y (.int .i64 c.kind),.ifc 31 (.y (.int .i64 e))]]
def agM (c:bJ):List aH:=[.box 186 [.y (.int .i64 c.kind),.ifc 141 (.agg [])]]
def iM (p:Part) (c:bJ):Int:=if gZ p.rng c.key=false then 163 else if P.bf p.prods c.prod c.seq=2 then 999 else if P.bf p.prods c.prod c.seq=3 then 152 else if p.frozen≠0 then 164 else if gY p.recs (newR c)≠0 then gY p.recs (newR c) else P.aP p.prods (mV p c)
def prQ (p:Part) (c:bJ):Part:=⟨p.rng,p.epoch,p.frozen,iY p.recs (newR c),P.aN p.prods (mV p c),p.cons⟩
def prT (p:Part) (c:bJ):T An:=.ite (iM p c==0) (.ret (.tup [.agg (aU true (prQ p c)),.y (.int .u64 p.recs.length),.s .nilIface],[],[]))
 (.ite (iM p c==999) (.ret (.tup [.agg (aU true p),.y (.int .u64 (P.dS p.prods c.prod c.seq)),Im],agM c,[]))
   (.ret (.tup [.agg (aU true p),.y (.int .u64 0),Im],Ud c (iM p c),[])))
noncomputable def prH (p:Part) (c:bJ):aC Tryz.prog:=dU (hh _ bB (cs1 103 1 4 (afv p.rng c.key) (cs1 103 3 6 (juC true p.prods c.prod c.seq) (cs1 103 10 11 (apC p.recs (newR c) true) (cs1 103 13 7 (ahi true p.prods c.prod c.seq p.recs.length) bq)))) bA) (ng 103 17 0 779 noSh)
def iO (p:Part):Prop:=(true=true/\p.cons.length=p.cons.length/\ak p.cons.length 2 (ah aJ p.cons) (ah aJ p.cons))
def Eo (p:Part) (c:bJ):Prop:=((iM p c==0)=true->((p.rng.lo=p.rng.lo/\p.rng.hi=p.rng.hi/\p.epoch=p.epoch/\p.frozen=p.frozen/\(true=true/\p.recs.length=(iY p.recs (newR c)).length/\ak p.recs.length 5 (ah encR p.recs) (ah encR (iY p.recs (newR c))))/\(true=true/\p.prods.length=(P.aN p.prods (mV p c)).length/\ak p.prods.length 4 (ah P.ay p.prods) (ah P.ay (P.aN p.prods (mV p c))))/\(iO p)/\True)/\0=(p.recs.length:Int)/\True/\True)/\True)
def sJ (p:Part) (c:bJ):Prop:=((iM p c==999)=true->((bE true true p p)/\0=P.dS p.prods c.prod c.seq/\(0=0/\0=0)/\True)/\(c.kind=c.kind/\False/\True)/\True)
def sF (p:Part):Prop:=((bE true true p p)/\(0:Int)=0/\(0=0/\0=0)/\True)
def EB (p:Part) (c:bJ):Prop:=((P.aP p.prods (P.bY c.prod c.seq true (p.recs.length:Int)) != 0)=true->((P.aP p.prods (P.bY c.prod c.seq true (p.recs.length:Int))==0)=true->(Eo p c)/\((iM p c==0)=false->((iM p c==999)=true->((bE true true p p)/\0=P.dS p.prods c.prod c.seq/\False/\True)/\False)/\((iM p c==999)=false->((bE true true p p)/\(0:Int)=0/\False/\True)/\False)))/\((P.aP p.prods (P.bY c.prod c.seq true (p.recs.length:Int))==0)=false->((iM p c==0)=true->False)/\((iM p c==0)=false->(sJ p c)/\((iM p c==999)=false->(sF p)/\(c.kind=c.kind/\P.aP p.prods (P.bY c.prod c.seq true (p.recs.length:Int))=iM p c/\True)/\True))))
def uZ (p:Part) (c:bJ):Prop:=(true=true/\(P.aN p.prods (P.bY c.prod c.seq true (p.recs.length:Int))).length=p.prods.length/\ak (P.aN p.prods (P.bY c.prod c.seq true (p.recs.length:Int))).length 4 (Ax.rowAt 0 (ah P.ay (P.aN p.prods (P.bY c.prod c.seq true (p.recs.length:Int))))) (ah P.ay p.prods))
def vg (p:Part) (c:bJ):Prop:=(true=true/\(iY p.recs (newR c)).length=p.recs.length/\ak (iY p.recs (newR c)).length 5 (Ax.rowAt 0 (ah encR (iY p.recs (newR c)))) (ah encR p.recs))
def Ei (p:Part) (c:bJ):Prop:=(true=true/\(P.aN p.prods (P.bY c.prod c.seq true (p.recs.length:Int))).length=(P.aN p.prods (mV p c)).length/\ak (P.aN p.prods (P.bY c.prod c.seq true (p.recs.length:Int))).length 4 (Ax.rowAt 0 (ah P.ay (P.aN p.prods (P.bY c.prod c.seq true (p.recs.length:Int))))) (ah P.ay (P.aN p.prods (mV p c))))
def ac_ (p:Part) (c:bJ):Prop :=
 ((p.rng.lo=p.rng.lo/\p.rng.hi=p.rng.hi/\True)/\c.key=c.key/\True)/\True/\((!gZ p.rng c.key)=true->((iM p c==0)=true->False)/\((iM p c==0)=false->(sJ p c)/\((iM p c==999)=false->(sF p)/\(c.kind=c.kind/\163=iM p c/\True)/\True)))/\((!gZ p.rng c.key)=false->((true=true/\p.prods.length=p.prods.length/\ak p.prods.length 4 (ah P.ay p.prods) (ah P.ay p.prods))/\c.prod=c.prod/\c.seq=c.seq/\True)/\True/\p.prods.length<=9223372036854775806/\((P.bf p.prods c.prod c.seq==2)=true->((iM p c==0)=true->False)/\((iM p c==0)=false->((iM p c==999)=true->((bE true true p p)/\P.dS p.prods c.prod c.seq=P.dS p.prods c.prod c.seq/\(0=0/\0=0)/\True)/\(c.kind=c.kind/\True/\True)/\True)/\((iM p c==999)=false->((bE true true p p)/\P.dS p.prods c.prod c.seq=0/\(0=0/\0=0)/\True)/\(c.kind=c.kind/\False/\True)/\True)))/\((P.bf p.prods c.prod c.seq==2)=false->((P.bf p.prods c.prod c.seq==3)=true->((iM p c==0)=true->False)/\((iM p c==0)=false->(sJ p c)/\((iM p c==999)=false->(sF p)/\(c.kind=c.kind/\152=iM p c/\True)/\True)))/\((P.bf p.prods c.prod c.seq==3)=false->((p.frozen != 0)=true->((iM p c==0)=true->False)/\((iM p c==0)=false->(sJ p c)/\((iM p c==999)=false->(sF p)/\(c.kind=c.kind/\164=iM p c/\True)/\True)))/\((p.frozen != 0)=false->((true=true/\p.recs.length=p.recs.length/\ak p.recs.length 5 (ah encR p.recs) (ah encR p.recs))/\((0:Int)=0/\c.key=c.key/\(dI c.val c.val)/\c.prod=c.prod/\c.seq=c.seq/\True)/\True)/\True/\p.recs.length<=9223372036854775806/\((gY p.recs (newR c)==0)=true->((true=true/\p.prods.length=p.prods.length/\ak p.prods.length 4 (ah P.ay p.prods) (ah P.ay p.prods))/\c.prod=c.prod/\c.seq=c.seq/\(p.recs.length:Int)=(p.recs.length:Int)/\True)/\True/\p.prods.length<=9223372036854775806/\((P.aP p.prods (P.bY c.prod c.seq true (p.recs.length:Int))==0)=true->(∀ k,k<(iY p.recs (newR c)).length->∀ j,j<5->dL (ah encR (iY p.recs (newR c)) k j)=true)/\(∀ k,k<(P.aN p.prods (P.bY c.prod c.seq true (p.recs.length:Int))).length->∀ j,j<4->dL (ah P.ay (P.aN p.prods (P.bY c.prod c.seq true (p.recs.length:Int))) k j)=true)/\((iM p c==0)=true->((p.rng.lo=p.rng.lo/\p.rng.hi=p.rng.hi/\p.epoch=p.epoch/\p.frozen=p.frozen/\(true=true/\(iY p.recs (newR c)).length=(iY p.recs (newR c)).length/\ak (iY p.recs (newR c)).length 5 (Ax.rowAt 0 (ah encR (iY p.recs (newR c)))) (ah encR (iY p.recs (newR c))))/\(Ei p c)/\(iO p)/\True)/\(p.recs.length:Int)=(p.recs.length:Int)/\True/\True)/\True)/\((iM p c==0)=false->((iM p c==999)=true->((p.rng.lo=p.rng.lo/\p.rng.hi=p.rng.hi/\p.epoch=p.epoch/\p.frozen=p.frozen/\(vg p c)/\(uZ p c)/\(iO p)/\True)/\(p.recs.length:Int)=P.dS p.prods c.prod c.seq/\False/\True)/\False)/\((iM p c==999)=false->((p.rng.lo=p.rng.lo/\p.rng.hi=p.rng.hi/\p.epoch=p.epoch/\p.frozen=p.frozen/\(vg p c)/\(uZ p c)/\(iO p)/\True)/\(p.recs.length:Int)=0/\False/\True)/\False)))/\((P.aP p.prods (P.bY c.prod c.seq true (p.recs.length:Int))==0)=false->(EB p c)/\((P.aP p.prods (P.bY c.prod c.seq true (p.recs.length:Int)) != 0)=false->(∀ k,k<(iY p.recs (newR c)).length->∀ j,j<5->dL (ah encR (iY p.recs (newR c)) k j)=true)/\((iM p c==0)=true->((p.rng.lo=p.rng.lo/\p.rng.hi=p.rng.hi/\p.epoch=p.epoch/\p.frozen=p.frozen/\(true=true/\(iY p.recs (newR c)).length=(iY p.recs (newR c)).length/\ak (iY p.recs (newR c)).length 5 (Ax.rowAt 0 (ah encR (iY p.recs (newR c)))) (ah encR (iY p.recs (newR c))))/\(P.aN p.prods (mV p c)).length=0/\(iO p)/\True)/\(p.recs.length:Int)=(p.recs.length:Int)/\True/\True)/\True)/\((iM p c==0)=false->((iM p c==999)=true->((p.rng.lo=p.rng.lo/\p.rng.hi=p.rng.hi/\p.epoch=p.epoch/\p.frozen=p.frozen/\(vg p c)/\p.prods.length=0/\(iO p)/\True)/\(p.recs.length:Int)=P.dS p.prods c.prod c.seq/\False/\True)/\False)/\((iM p c==999)=false->((p.rng.lo=p.rng.lo/\p.rng.hi=p.rng.hi/\p.epoch=p.epoch/\p.frozen=p.frozen/\(vg p c)/\p.prods.length=0/\(iO p)/\True)/\(p.recs.length:Int)=0/\False/\True)/\False)))))/\((gY p.recs (newR c)==0)=false->((gY p.recs (newR c) != 0)=true->((gY p.recs (newR c)==0)=true->(Eo p c)/\((iM p c==0)=false->((iM p c==999)=true->((bE true true p p)/\0=P.dS p.prods c.prod c.seq/\False/\True)/\False)/\((iM p c==999)=false->((bE true true p p)/\(0:Int)=0/\False/\True)/\False)))/\((gY p.recs (newR c)==0)=false->((iM p c==0)=true->False)/\((iM p c==0)=false->(sJ p c)/\((iM p c==999)=false->(sF p)/\(c.kind=c.kind/\gY p.recs (newR c)=iM p c/\True)/\True))))/\((gY p.recs (newR c) != 0)=false->((true=true/\p.prods.length=p.prods.length/\ak p.prods.length 4 (ah P.ay p.prods) (ah P.ay p.prods))/\c.prod=c.prod/\c.seq=c.seq/\0=(p.recs.length:Int)/\True)/\True/\p.prods.length<=9223372036854775806/\((P.aP p.prods (P.bY c.prod c.seq true (p.recs.length:Int))==0)=true->(∀ k,k<(P.aN p.prods (P.bY c.prod c.seq true (p.recs.length:Int))).length->∀ j,j<4->dL (ah P.ay (P.aN p.prods (P.bY c.prod c.seq true (p.recs.length:Int))) k j)=true)/\((iM p c==0)=true->((p.rng.lo=p.rng.lo/\p.rng.hi=p.rng.hi/\p.epoch=p.epoch/\p.frozen=p.frozen/\(iY p.recs (newR c)).length=0/\(Ei p c)/\(iO p)/\True)/\0=(p.recs.length:Int)/\True/\True)/\True)/\((iM p c==0)=false->((iM p c==999)=true->((p.rng.lo=p.rng.lo/\p.rng.hi=p.rng.hi/\p.epoch=p.epoch/\p.frozen=p.frozen/\p.recs.length=0/\(uZ p c)/\(iO p)/\True)/\0=P.dS p.prods c.prod c.seq/\False/\True)/\False)/\((iM p c==999)=false->((p.rng.lo=p.rng.lo/\p.rng.hi=p.rng.hi/\p.epoch=p.epoch/\p.frozen=p.frozen/\p.recs.length=0/\(uZ p c)/\(iO p)/\True)/\(0:Int)=0/\False/\True)/\False)))/\((P.aP p.prods (P.bY c.prod c.seq true (p.recs.length:Int))==0)=false->(EB p c)/\((P.aP p.prods (P.bY c.prod c.seq true (p.recs.length:Int)) != 0)=false->((iM p c==0)=true->((p.rng.lo=p.rng.lo/\p.rng.hi=p.rng.hi/\p.epoch=p.epoch/\p.frozen=p.frozen/\(iY p.recs (newR c)).length=0/\(P.aN p.prods (mV p c)).length=0/\(iO p)/\True)/\0=(p.recs.length:Int)/\True/\True)/\True)/\((iM p c==0)=false->((iM p c==999)=true->((p.rng.lo=p.rng.lo/\p.rng.hi=p.rng.hi/\p.epoch=p.epoch/\p.frozen=p.frozen/\p.recs.length=0/\p.prods.length=0/\(iO p)/\True)/\0=P.dS p.prods c.prod c.seq/\False/\True)/\False)/\((iM p c==999)=false->((p.rng.lo=p.rng.lo/\p.rng.hi=p.rng.hi/\p.epoch=p.epoch/\p.frozen=p.frozen/\p.recs.length=0/\p.prods.length=0/\(iO p)/\True)/\(0:Int)=0/\False/\True)/\False))))))))))
theorem X3 (p:Part) (c:bJ):(aZ Tryz.prog (prH p c) 103 [.agg (aU true p),.agg (dR c)] [] (prT p c))=ac_ p c:=by kernel_rfl
def jr (p:Part) (c:bJ):Int:=if P.bf p.prods c.prod c.seq≠1 then 999 else if p.frozen≠0 then 164 else if uU p c≠0 then uU p c else P.aP p.prods (mR c)
def cmQ (p:Part) (c:bJ):Part:=⟨p.rng,p.epoch,p.frozen,p.recs,P.aN p.prods (mR c),aN p.cons ⟨c.name,c.off⟩⟩
def cmT (p:Part) (c:bJ):T An:=.ite (jr p c==0) (.ret (.tup [.agg (aU true (cmQ p c)),.s .nilIface],[],[]))
 (.ite (jr p c==999) (.ret (.tup [.agg (aU true p),Im],agM c,[]))
   (.ret (.tup [.agg (aU true p),Im],Ud c (jr p c),[])))
noncomputable def cmH (p:Part) (c:bJ):aC Tryz.prog:=dU (hh _ bB (cs1 105 1 6 (juC true p.prods c.prod c.seq) (cs1 105 6 11 (cmC true p.cons ⟨c.name,c.off⟩ (IntKind.u64.wrap (p.recs.length:Nat))) (cs1 105 9 6 (aeZ true p.prods c.prod c.seq) bq))) bA) (ng 105 13 0 779 noSh)
def iW (p:Part):Prop:=(true=true/\p.recs.length=p.recs.length/\ak p.recs.length 5 (ah encR p.recs) (ah encR p.recs))
def Fh (p:Part) (c:bJ):Prop:=((jr p c==0)=true->((p.rng.lo=p.rng.lo/\p.rng.hi=p.rng.hi/\p.epoch=p.epoch/\p.frozen=p.frozen/\(iW p)/\(true=true/\p.prods.length=(P.aN p.prods (mR c)).length/\ak p.prods.length 4 (ah P.ay p.prods) (ah P.ay (P.aN p.prods (mR c))))/\(true=true/\p.cons.length=(aN p.cons { name:=c.name,off:=c.off:Con }).length/\ak p.cons.length 2 (ah aJ p.cons) (ah aJ (aN p.cons { name:=c.name,off:=c.off:Con })))/\True)/\True/\True)/\True)
def lW (p:Part):Prop:=((bE true true p p)/\(0=0/\0=0)/\True)
def EH (p:Part) (c:bJ):Prop:=((P.aP p.prods (P.bY c.prod c.seq false 0) != 0)=true->((P.aP p.prods (P.bY c.prod c.seq false 0)==0)=true->(Fh p c)/\((jr p c==0)=false->((jr p c==999)=true->((bE true true p p)/\False/\True)/\False)/\((jr p c==999)=false->((bE true true p p)/\False/\True)/\False)))/\((P.aP p.prods (P.bY c.prod c.seq false 0)==0)=false->((jr p c==0)=true->False)/\((jr p c==0)=false->((jr p c==999)=true->(lW p)/\(c.kind=c.kind/\False/\True)/\True)/\((jr p c==999)=false->(lW p)/\(c.kind=c.kind/\P.aP p.prods (P.bY c.prod c.seq false 0)=jr p c/\True)/\True))))
def uN (p:Part) (c:bJ):Prop:=(true=true/\(P.aN p.prods (P.bY c.prod c.seq false 0)).length=p.prods.length/\ak (P.aN p.prods (P.bY c.prod c.seq false 0)).length 4 (Ax.rowAt 0 (ah P.ay (P.aN p.prods (P.bY c.prod c.seq false 0)))) (ah P.ay p.prods))
def wC (p:Part) (c:bJ):Prop:=(true=true/\(aN p.cons { name:=c.name,off:=c.off:Con }).length=p.cons.length/\ak (aN p.cons { name:=c.name,off:=c.off:Con }).length 2 (Ax.rowAt 0 (ah aJ (aN p.cons { name:=c.name,off:=c.off:Con }))) (ah aJ p.cons))
def Ew (p:Part) (c:bJ):Prop:=(true=true/\(aN p.cons { name:=c.name,off:=c.off:Con }).length=(aN p.cons { name:=c.name,off:=c.off:Con }).length/\ak (aN p.cons { name:=c.name,off:=c.off:Con }).length 2 (Ax.rowAt 0 (ah aJ (aN p.cons { name:=c.name,off:=c.off:Con }))) (ah aJ (aN p.cons { name:=c.name,off:=c.off:Con })))
def ze (p:Part) (c:bJ):Prop:=((true=true/\p.prods.length=p.prods.length/\ak p.prods.length 4 (ah P.ay p.prods) (ah P.ay p.prods))/\c.prod=c.prod/\c.seq=c.seq/\True)
def Fv (p:Part) (c:bJ):Prop:=(true=true/\(P.aN p.prods (P.bY c.prod c.seq false 0)).length=(P.aN p.prods (mR c)).length/\ak (P.aN p.prods (P.bY c.prod c.seq false 0)).length 4 (Ax.rowAt 0 (ah P.ay (P.aN p.prods (P.bY c.prod c.seq false 0)))) (ah P.ay (P.aN p.prods (mR c))))
def Sg (p:Part) (c:bJ):Prop :=
 (ze p c)/\True/\p.prods.length<=9223372036854775806/\((P.bf p.prods c.prod c.seq != 1)=true->((jr p c==0)=true->False)/\((jr p c==0)=false->((jr p c==999)=true->(lW p)/\(c.kind=c.kind/\True/\True)/\True)/\((jr p c==999)=false->(lW p)/\(c.kind=c.kind/\False/\True)/\True)))/\((P.bf p.prods c.prod c.seq != 1)=false->((p.frozen != 0)=true->((jr p c==0)=true->False)/\((jr p c==0)=false->((jr p c==999)=true->(lW p)/\(c.kind=c.kind/\False/\True)/\True)/\((jr p c==999)=false->(lW p)/\(c.kind=c.kind/\164=jr p c/\True)/\True)))/\((p.frozen != 0)=false->((true=true/\p.cons.length=p.cons.length/\ak p.cons.length 2 (ah aJ p.cons) (ah aJ p.cons))/\(c.name=c.name/\c.off=c.off/\True)/\IntKind.u64.wrap (p.recs.length:Int)=IntKind.u64.wrap (p.recs.length:Int)/\True)/\True/\p.cons.length<=9223372036854775806/\((eF p.cons { name:=c.name,off:=c.off:Con } (IntKind.u64.wrap (p.recs.length:Int))==0)=true->(ze p c)/\True/\p.prods.length<=9223372036854775806/\((P.aP p.prods (P.bY c.prod c.seq false 0)==0)=true->(∀ k,k<(P.aN p.prods (P.bY c.prod c.seq false 0)).length->∀ j,j<4->dL (ah P.ay (P.aN p.prods (P.bY c.prod c.seq false 0)) k j)=true)/\(∀ k,k<(aN p.cons { name:=c.name,off:=c.off:Con }).length->∀ j,j<2->dL (ah aJ (aN p.cons { name:=c.name,off:=c.off:Con }) k j)=true)/\((jr p c==0)=true->((p.rng.lo=p.rng.lo/\p.rng.hi=p.rng.hi/\p.epoch=p.epoch/\p.frozen=p.frozen/\(iW p)/\(Fv p c)/\(Ew p c)/\True)/\True/\True)/\True)/\((jr p c==0)=false->((jr p c==999)=true->((p.rng.lo=p.rng.lo/\p.rng.hi=p.rng.hi/\p.epoch=p.epoch/\p.frozen=p.frozen/\(iW p)/\(uN p c)/\(wC p c)/\True)/\False/\True)/\False)/\((jr p c==999)=false->((p.rng.lo=p.rng.lo/\p.rng.hi=p.rng.hi/\p.epoch=p.epoch/\p.frozen=p.frozen/\(iW p)/\(uN p c)/\(wC p c)/\True)/\False/\True)/\False)))/\((P.aP p.prods (P.bY c.prod c.seq false 0)==0)=false->(EH p c)/\((P.aP p.prods (P.bY c.prod c.seq false 0) != 0)=false->(∀ k,k<(aN p.cons { name:=c.name,off:=c.off:Con }).length->∀ j,j<2->dL (ah aJ (aN p.cons { name:=c.name,off:=c.off:Con }) k j)=true)/\((jr p c==0)=true->((p.rng.lo=p.rng.lo/\p.rng.hi=p.rng.hi/\p.epoch=p.epoch/\p.frozen=p.frozen/\(iW p)/\(P.aN p.prods (mR c)).length=0/\(Ew p c)/\True)/\True/\True)/\True)/\((jr p c==0)=false->((jr p c==999)=true->((p.rng.lo=p.rng.lo/\p.rng.hi=p.rng.hi/\p.epoch=p.epoch/\p.frozen=p.frozen/\(iW p)/\p.prods.length=0/\(wC p c)/\True)/\False/\True)/\False)/\((jr p c==999)=false->((p.rng.lo=p.rng.lo/\p.rng.hi=p.rng.hi/\p.epoch=p.epoch/\p.frozen=p.frozen/\(iW p)/\p.prods.length=0/\(wC p c)/\True)/\False/\True)/\False)))))/\((eF p.cons { name:=c.name,off:=c.off:Con } (IntKind.u64.wrap (p.recs.length:Int))==0)=false->((eF p.cons { name:=c.name,off:=c.off:Con } (IntKind.u64.wrap (p.recs.length:Int)) != 0)=true->((eF p.cons { name:=c.name,off:=c.off:Con } (IntKind.u64.wrap (p.recs.length:Int))==0)=true->(Fh p c)/\((jr p c==0)=false->((jr p c==999)=true->((bE true true p p)/\False/\True)/\False)/\((jr p c==999)=false->((bE true true p p)/\False/\True)/\False)))/\((eF p.cons { name:=c.name,off:=c.off:Con } (IntKind.u64.wrap (p.recs.length:Int))==0)=false->((jr p c==0)=true->False)/\((jr p c==0)=false->((jr p c==999)=true->(lW p)/\(c.kind=c.kind/\False/\True)/\True)/\((jr p c==999)=false->(lW p)/\(c.kind=c.kind/\eF p.cons { name:=c.name,off:=c.off:Con } (IntKind.u64.wrap (p.recs.length:Int))=jr p c/\True)/\True))))/\((eF p.cons { name:=c.name,off:=c.off:Con } (IntKind.u64.wrap (p.recs.length:Int)) != 0)=false->(ze p c)/\True/\p.prods.length<=9223372036854775806/\((P.aP p.prods (P.bY c.prod c.seq false 0)==0)=true->(∀ k,k<(P.aN p.prods (P.bY c.prod c.seq false 0)).length->∀ j,j<4->dL (ah P.ay (P.aN p.prods (P.bY c.prod c.seq false 0)) k j)=true)/\((jr p c==0)=true->((p.rng.lo=p.rng.lo/\p.rng.hi=p.rng.hi/\p.epoch=p.epoch/\p.frozen=p.frozen/\(iW p)/\(Fv p c)/\(aN p.cons { name:=c.name,off:=c.off:Con }).length=0/\True)/\True/\True)/\True)/\((jr p c==0)=false->((jr p c==999)=true->((p.rng.lo=p.rng.lo/\p.rng.hi=p.rng.hi/\p.epoch=p.epoch/\p.frozen=p.frozen/\(iW p)/\(uN p c)/\p.cons.length=0/\True)/\False/\True)/\False)/\((jr p c==999)=false->((p.rng.lo=p.rng.lo/\p.rng.hi=p.rng.hi/\p.epoch=p.epoch/\p.frozen=p.frozen/\(iW p)/\(uN p c)/\p.cons.length=0/\True)/\False/\True)/\False)))/\((P.aP p.prods (P.bY c.prod c.seq false 0)==0)=false->(EH p c)/\((P.aP p.prods (P.bY c.prod c.seq false 0) != 0)=false->((jr p c==0)=true->((p.rng.lo=p.rng.lo/\p.rng.hi=p.rng.hi/\p.epoch=p.epoch/\p.frozen=p.frozen/\(iW p)/\(P.aN p.prods (mR c)).length=0/\(aN p.cons { name:=c.name,off:=c.off:Con }).length=0/\True)/\True/\True)/\True)/\((jr p c==0)=false->((jr p c==999)=true->((p.rng.lo=p.rng.lo/\p.rng.hi=p.rng.hi/\p.epoch=p.epoch/\p.frozen=p.frozen/\(iW p)/\p.prods.length=0/\p.cons.length=0/\True)/\False/\True)/\False)/\((jr p c==999)=false->((p.rng.lo=p.rng.lo/\p.rng.hi=p.rng.hi/\p.epoch=p.epoch/\p.frozen=p.frozen/\(iW p)/\p.prods.length=0/\p.cons.length=0/\True)/\False/\True)/\False))))))))
theorem EO (p:Part) (c:bJ):(aZ Tryz.prog (cmH p c) 105 [.agg (aU true p),.agg (dR c)] [] (cmT p c))=Sg p c:=by kernel_rfl
def yF (p:Part) (c:bJ):Bool:=!(p.frozen==0)&&!(p.frozen==c.plan)
def Qn (p:Part) (by':Int):Part:=⟨p.rng,p.epoch,by',p.recs,p.prods,p.cons⟩
def frT (p:Part) (c:bJ) (by':Int):T An:=.ite (yF p c) (.ret (.tup [.agg (aU true p),.s (.bool false),Im],Ud c 164,[])) (.ret (.tup [.agg (aU true (Qn p by')),.y (.bool (p.frozen==by')),.s .nilIface],[],[]))
def afW (p:Part) (c:bJ) (by':Int):Prop :=
 ((p.frozen != 0)=true->((p.frozen != c.plan)=true->(yF p c=true->((bE true true p p)/\false=false/\(0=0/\0=0)/\True)/\(c.kind=c.kind/\(164:Int)=164/\True)/\True)/\(yF p c=false->False))/\((p.frozen != c.plan)=false->(yF p c=true->((p.rng.lo=p.rng.lo/\p.rng.hi=p.rng.hi/\p.epoch=p.epoch/\by'=p.frozen/\(true=true/\p.recs.length=p.recs.length/\ak p.recs.length 5 (ah encR p.recs) (ah encR p.recs))/\(true=true/\p.prods.length=p.prods.length/\ak p.prods.length 4 (ah P.ay p.prods) (ah P.ay p.prods))/\(true=true/\p.cons.length=p.cons.length/\ak p.cons.length 2 (ah aJ p.cons) (ah aJ p.cons))/\True)/\(p.frozen==by')=false/\False/\True)/\False)/\(yF p c=false->((p.rng.lo=p.rng.lo/\p.rng.hi=p.rng.hi/\p.epoch=p.epoch/\by'=by'/\(true=true/\p.recs.length=p.recs.length/\ak p.recs.length 5 (ah encR p.recs) (ah encR p.recs))/\(true=true/\p.prods.length=p.prods.length/\ak p.prods.length 4 (ah P.ay p.prods) (ah P.ay p.prods))/\(true=true/\p.cons.length=p.cons.length/\ak p.cons.length 2 (ah aJ p.cons) (ah aJ p.cons))/\True)/\(p.frozen==by')=(p.frozen==by')/\True/\True)/\True)))/\((p.frozen != 0)=false->(yF p c=true->((p.rng.lo=p.rng.lo/\p.rng.hi=p.rng.hi/\p.epoch=p.epoch/\by'=p.frozen/\(true=true/\p.recs.length=p.recs.length/\ak p.recs.length 5 (ah encR p.recs) (ah encR p.recs))/\(true=true/\p.prods.length=p.prods.length/\ak p.prods.length 4 (ah P.ay p.prods) (ah P.ay p.prods))/\(true=true/\p.cons.length=p.cons.length/\ak p.cons.length 2 (ah aJ p.cons) (ah aJ p.cons))/\True)/\(p.frozen==by')=false/\False/\True)/\False)/\(yF p c=false->((p.rng.lo=p.rng.lo/\p.rng.hi=p.rng.hi/\p.epoch=p.epoch/\by'=by'/\(true=true/\p.recs.length=p.recs.length/\ak p.recs.length 5 (ah encR p.recs) (ah encR p.recs))/\(true=true/\p.prods.length=p.prods.length/\ak p.prods.length 4 (ah P.ay p.prods) (ah P.ay p.prods))/\(true=true/\p.cons.length=p.cons.length/\ak p.cons.length 2 (ah aJ p.cons) (ah aJ p.cons))/\True)/\(p.frozen==by')=(p.frozen==by')/\True/\True)/\True))
theorem Ur (p:Part) (c:bJ) (by':Int):(aZ Tryz.prog (hT _) 106 [.agg (aU true p),.agg (dR c),.y (.int .u64 by')] [] (frT p c by'))=afW p c by':=by kernel_rfl
theorem tRs (l:List Rec):∀ (k:Nat),k<l.length->∀ (j:Nat),j<5->dL (ah encR l k j)=true:=fun k _ j hj=>acV _ j hj
theorem tPs (l:List P.Producer):∀ (k:Nat),k<l.length->∀ (j:Nat),j<4->dL (ah P.ay l k j)=true:=fun k _ j hj=>D.afE _ j hj
theorem tCs (l:List Con):∀ (k:Nat),k<l.length->∀ (j:Nat),j<2->dL (ah aJ l k j)=true:=fun k _ j hj=>D.aeU _ j hj
theorem vD (l:List P.Producer) (x:P.Producer):P.aP l x≠999:=by
 unfold P.aP
 repeat' split
 all_goals decide
theorem Mc (l:List Rec) (x:Rec):gY l x≠999:=by
 unfold gY
 repeat' split
 all_goals decide
theorem Me (l:List Con) (x:Con) (e:Int):eF l x e≠999:=by
 unfold eF
 repeat' split
 all_goals decide
theorem agX (p:Part) (c:bJ) (h:eO p):(prT p c).Sat (au Tryz.prog 103 [.agg (aU true p),.agg (dR c)] []):=by
 refine aR (ht:=prH p c) Tryz.mixed rfl ?_
 rw [X3 p c]
 unfold ac_ Ei vg uZ EB sF sJ Eo iO
 have h1:=h.rl
 have h2:=h.pl
 have t1:=tRs (iY p.recs (newR c))
 have t2:=tPs (P.aN p.prods (mV p c))
 have t3:=tCs p.cons
 have e1:P.aP p.prods (P.bY c.prod c.seq true p.recs.length)=P.aP p.prods (mV p c):=rfl
 have e2:P.aN p.prods (P.bY c.prod c.seq true p.recs.length)=P.aN p.prods (mV p c):=rfl
 rw [e1,e2]
 have q1:p.prods.length<=9223372036854775806:=by omega
 have q2:p.recs.length<=9223372036854775806:=by omega
 unfold iM
 cases c1:gZ p.rng c.key
 · simp
 · by_cases c2:P.bf p.prods c.prod c.seq=2
   · simp [c2,q1]
   · by_cases c3:P.bf p.prods c.prod c.seq=3
     · simp [c3,q1]
     · by_cases c4:p.frozen=0
       · by_cases c5:gY p.recs (newR c)=0
         · by_cases c6:P.aP p.prods (mV p c)=0
           · simp [c2,c3,c4,c5,c6,q1,q2]
             exact ⟨t1,t2⟩
           · by_cases c7:P.aP p.prods (mV p c)=999
             · exact absurd c7 (vD _ _)
             · simp [c2,c3,c4,c5,c6,c7,q1,q2]
         · by_cases c7:gY p.recs (newR c)=999
           · exact absurd c7 (Mc _ _)
           · simp [c2,c3,c4,c5,c7,q1,q2]
       · simp [c2,c3,c4,q1]
theorem acM (p:Part) (c:bJ) (h:eO p):(cmT p c).Sat (au Tryz.prog 105 [.agg (aU true p),.agg (dR c)] []):=by
 refine aR (ht:=cmH p c) Tryz.mixed rfl ?_
 rw [EO p c]
 unfold Sg Fv ze Ew wC uN EH lW Fh iW
 have h1:=h.rl
 have h2:=h.pl
 have h3:=h.cl
 have t1:=tRs p.recs
 have t2:=tPs (P.aN p.prods (mR c))
 have t3:=tCs (aN p.cons ⟨c.name,c.off⟩)
 have e1:P.aP p.prods (P.bY c.prod c.seq false 0)=P.aP p.prods (mR c):=rfl
 have e2:P.aN p.prods (P.bY c.prod c.seq false 0)=P.aN p.prods (mR c):=rfl
 have e3:eF p.cons ⟨c.name,c.off⟩ (IntKind.u64.wrap (p.recs.length:Nat))=uU p c:=rfl
 rw [e1,e2,e3]
 have q1:p.prods.length<=9223372036854775806:=by omega
 have q2:p.recs.length<=9223372036854775806:=by omega
 have q3:p.cons.length<=9223372036854775806:=by omega
 unfold jr
 by_cases c2:P.bf p.prods c.prod c.seq=1
 · by_cases c4:p.frozen=0
   · by_cases c5:uU p c=0
     · by_cases c6:P.aP p.prods (mR c)=0
       · simp [c2,c4,c5,c6,q1,q3]
         exact ⟨t2,t3⟩
       · by_cases c7:P.aP p.prods (mR c)=999
         · exact absurd c7 (vD _ _)
         · simp [c2,c4,c5,c6,c7,q1,q3]
     · by_cases c7:uU p c=999
       · exact absurd c7 (Me _ _ _)
       · simp [c2,c4,c5,c7,q1,q3]
   · simp [c2,c4,q1]
 · simp [c2,q1]
theorem ahF (p:Part) (c:bJ) (by':Int):(frT p c by').Sat (au Tryz.prog 106 [.agg (aU true p),.agg (dR c),.y (.int .u64 by')] []):=by
 refine aR (ht:=hT _) Tryz.mixed rfl ?_
 rw [Ur p c by']
 unfold afW yF
 by_cases c1:p.frozen=0
 · simp [c1]
 · by_cases c2:p.frozen=c.plan
   · simp [c1,c2]
   · simp [c1,c2]
noncomputable def prC (p:Part) (c:bJ):dO Tryz.prog:=⟨103,[.agg (aU true p),.agg (dR c)],[],.need (eO p) (prT p c),T.Sat.need fun h=>agX p c h⟩
noncomputable def coC (p:Part) (c:bJ):dO Tryz.prog:=⟨105,[.agg (aU true p),.agg (dR c)],[],.need (eO p) (cmT p c),T.Sat.need fun h=>acM p c h⟩
noncomputable def frC (p:Part) (c:bJ) (by':Int):dO Tryz.prog:=⟨106,[.agg (aU true p),.agg (dR c),.y (.int .u64 by')],[],frT p c by',ahF p c by'⟩
def un9 (e:Int):Int:=if e=999 then 0 else e
def qH (p:Part) (c:bJ):Int:=if c.kind=1 then un9 (iM p c) else if c.kind=3 then un9 (jr p c) else if c.kind=5∨c.kind=6 then (if yF p c=true then 164 else 0) else if p.frozen≠0 then 164 else if c.kind=2 then uJ p.recs c.off else 0
def Qk (c:bJ):Int:=if c.kind=5 then c.plan else 0
def Ib (p:Part) (c:bJ):Part:=if c.kind=1 then (if iM p c=0 then prQ p c else p) else if c.kind=3 then (if jr p c=0 then cmQ p c else p) else if c.kind=5∨c.kind=6 then (if yF p c=true then p else Qn p (Qk c)) else p
def BR (p:Part) (c:bJ):gI :=
 if c.kind=1 then (if iM p c=0 then ⟨0,p.recs.length,false,[]⟩ else if iM p c=999 then ⟨0,P.dS p.prods c.prod c.seq,true,[]⟩ else ⟨0,0,false,[]⟩)
 else if c.kind=3 then (if jr p c=999 then ⟨0,0,true,[]⟩ else ⟨0,c.off,false,[]⟩)
 else if c.kind=5∨c.kind=6 then ⟨0,0,!yF p c&&p.frozen==Qk c,[]⟩
 else if p.frozen≠0 then ⟨0,0,false,[]⟩
 else if c.kind=4 then ⟨0,iJ p.cons c.name,lQ p.cons c.name,[]⟩
 else if c.kind=2 then (if uJ p.recs c.off=0 then ⟨0,IntKind.u64.wrap (c.off+IntKind.u64.wrap (iZ p.recs c.off c.most).length),false,iZ p.recs c.off c.most⟩ else ⟨0,c.off,false,[]⟩)
 else ⟨0,0,false,[]⟩
def Yr (q:Part) (x:gI) (c:bJ) (e:Int):T An:=.ite (e==0) (.ret (.tup [.agg (aU true q),.agg (oI x),.s .nilIface],[],[])) (.ret (.tup [.agg (aU true q),.agg (oI x),Im],Ud c e,[]))
structure Act where
 q:Part
 x:gI
 e:Int
noncomputable def acH (p:Part) (c:bJ):aC Tryz.prog:=dU (hh _ bB (cs1 40 6 2 (prC p c) (cs1 40 11 2 (coC p c) (cs1 40 16 4 (frC p c c.plan) (cs1 40 19 2 (frC p c 0) (cs1 40 25 4 (rdC true p.cons c.name) (cs1 40 27 6 (feC true p.recs c.off c.most) bq)))))) bA) (ng 40 27 8 779 noSh)
def FE (p:Part) (c:bJ) (y:Act):Prop:=(p.rng.lo=y.q.rng.lo/\p.rng.hi=y.q.rng.hi/\p.epoch=y.q.epoch/\p.frozen=y.q.frozen/\(true=true/\p.recs.length=y.q.recs.length/\ak p.recs.length 5 (ah encR p.recs) (ah encR y.q.recs))/\(true=true/\(P.aN p.prods (mR c)).length=y.q.prods.length/\ak (P.aN p.prods (mR c)).length 4 (ah P.ay (P.aN p.prods (mR c))) (ah P.ay y.q.prods))/\(true=true/\(aN p.cons { name:=c.name,off:=c.off:Con }).length=y.q.cons.length/\ak (aN p.cons { name:=c.name,off:=c.off:Con }).length 2 (ah aJ (aN p.cons { name:=c.name,off:=c.off:Con })) (ah aJ y.q.cons))/\True)
def Fz (p:Part) (c:bJ) (y:Act):Prop:=(p.rng.lo=y.q.rng.lo/\p.rng.hi=y.q.rng.hi/\p.epoch=y.q.epoch/\p.frozen=y.q.frozen/\(true=true/\(iY p.recs (newR c)).length=y.q.recs.length/\ak (iY p.recs (newR c)).length 5 (ah encR (iY p.recs (newR c))) (ah encR y.q.recs))/\(true=true/\(P.aN p.prods (mV p c)).length=y.q.prods.length/\ak (P.aN p.prods (mV p c)).length 4 (ah P.ay (P.aN p.prods (mV p c))) (ah P.ay y.q.prods))/\(true=true/\p.cons.length=y.q.cons.length/\ak p.cons.length 2 (ah aJ p.cons) (ah aJ y.q.cons))/\True)
def Fe (p:Part) (y:Act):Prop:=(p.rng.lo=y.q.rng.lo/\p.rng.hi=y.q.rng.hi/\p.epoch=y.q.epoch/\0=y.q.frozen/\(true=true/\p.recs.length=y.q.recs.length/\ak p.recs.length 5 (ah encR p.recs) (ah encR y.q.recs))/\(true=true/\p.prods.length=y.q.prods.length/\ak p.prods.length 4 (ah P.ay p.prods) (ah P.ay y.q.prods))/\(true=true/\p.cons.length=y.q.cons.length/\ak p.cons.length 2 (ah aJ p.cons) (ah aJ y.q.cons))/\True)
def Ej (p:Part) (c:bJ) (y:Act):Prop:=(p.rng.lo=y.q.rng.lo/\p.rng.hi=y.q.rng.hi/\p.epoch=y.q.epoch/\c.plan=y.q.frozen/\(true=true/\p.recs.length=y.q.recs.length/\ak p.recs.length 5 (ah encR p.recs) (ah encR y.q.recs))/\(true=true/\p.prods.length=y.q.prods.length/\ak p.prods.length 4 (ah P.ay p.prods) (ah P.ay y.q.prods))/\(true=true/\p.cons.length=y.q.cons.length/\ak p.cons.length 2 (ah aJ p.cons) (ah aJ y.q.cons))/\True)
def zn (p:Part) (c:bJ) (y:Act):Prop:=((y.e==0)=false->((bE true true p y.q)/\(0=y.x.err/\0=y.x.off/\false=y.x.old/\y.x.recs.length=0/\True)/\(0=0/\0=0)/\True)/\(c.kind=c.kind/\164=y.e/\True)/\True)
def D_ (p:Part) (c:bJ) (y:Act):Prop:=(0=y.x.err/\IntKind.u64.wrap (c.off+IntKind.u64.wrap ((iZ p.recs c.off c.most).length:Int))=y.x.off/\false=y.x.old/\(true=true/\(iZ p.recs c.off c.most).length=y.x.recs.length/\ak (iZ p.recs c.off c.most).length 5 (Ax.rowAt 0 (ah encR (iZ p.recs c.off c.most))) (ah encR y.x.recs))/\True)
def adh (p:Part) (c:bJ) (y:Act):Prop :=
 ((c.kind==1)=true->((bE true true p p)/\(R.ow c c)/\True)/\True/\eO p/\((iM p c==0)=true->((y.e==0)=true->((Fz p c y)/\(0=y.x.err/\(p.recs.length:Int)=y.x.off/\false=y.x.old/\y.x.recs.length=0/\True)/\True/\True)/\True)/\((y.e==0)=false->((Fz p c y)/\(0=y.x.err/\(p.recs.length:Int)=y.x.off/\false=y.x.old/\y.x.recs.length=0/\True)/\False/\True)/\False))/\((iM p c==0)=false->((iM p c==999)=true->true=true/\True/\((y.e==0)=true->((bE true true p y.q)/\(0=y.x.err/\P.dS p.prods c.prod c.seq=y.x.off/\true=y.x.old/\y.x.recs.length=0/\True)/\True/\True)/\True)/\((y.e==0)=false->((bE true true p y.q)/\(0=y.x.err/\P.dS p.prods c.prod c.seq=y.x.off/\true=y.x.old/\y.x.recs.length=0/\True)/\False/\True)/\False))/\((iM p c==999)=false->true=true/\True/\((y.e==0)=true->False)/\((y.e==0)=false->((bE true true p y.q)/\(0=y.x.err/\0=y.x.off/\false=y.x.old/\y.x.recs.length=0/\True)/\(0=0/\0=0)/\True)/\(c.kind=c.kind/\iM p c=y.e/\True)/\True))))/\((c.kind==1)=false->((c.kind==3)=true->((bE true true p p)/\(R.ow c c)/\True)/\True/\eO p/\((jr p c==0)=true->((y.e==0)=true->((FE p c y)/\(0=y.x.err/\c.off=y.x.off/\false=y.x.old/\y.x.recs.length=0/\True)/\True/\True)/\True)/\((y.e==0)=false->((FE p c y)/\(0=y.x.err/\c.off=y.x.off/\false=y.x.old/\y.x.recs.length=0/\True)/\False/\True)/\False))/\((jr p c==0)=false->((jr p c==999)=true->true=true/\True/\((y.e==0)=true->((bE true true p y.q)/\(0=y.x.err/\0=y.x.off/\true=y.x.old/\y.x.recs.length=0/\True)/\True/\True)/\True)/\((y.e==0)=false->((bE true true p y.q)/\(0=y.x.err/\0=y.x.off/\true=y.x.old/\y.x.recs.length=0/\True)/\False/\True)/\False))/\((jr p c==999)=false->true=true/\True/\((y.e==0)=true->False)/\((y.e==0)=false->((bE true true p y.q)/\(0=y.x.err/\c.off=y.x.off/\false=y.x.old/\y.x.recs.length=0/\True)/\(0=0/\0=0)/\True)/\(c.kind=c.kind/\jr p c=y.e/\True)/\True))))/\((c.kind==3)=false->((c.kind==5)=true->((bE true true p p)/\(R.ow c c)/\c.plan=c.plan/\True)/\True/\(yF p c=true->((y.e==0)=true->False)/\(zn p c y))/\(yF p c=false->((y.e==0)=true->((Ej p c y)/\(0=y.x.err/\0=y.x.off/\(p.frozen==c.plan)=y.x.old/\y.x.recs.length=0/\True)/\True/\True)/\True)/\((y.e==0)=false->((Ej p c y)/\(0=y.x.err/\0=y.x.off/\(p.frozen==c.plan)=y.x.old/\y.x.recs.length=0/\True)/\False/\True)/\False)))/\((c.kind==5)=false->((c.kind==6)=true->((bE true true p p)/\(R.ow c c)/\(0:Int)=0/\True)/\True/\(yF p c=true->((y.e==0)=true->False)/\(zn p c y))/\(yF p c=false->((y.e==0)=true->((Fe p y)/\(0=y.x.err/\0=y.x.off/\(p.frozen==0)=y.x.old/\y.x.recs.length=0/\True)/\True/\True)/\True)/\((y.e==0)=false->((Fe p y)/\(0=y.x.err/\0=y.x.off/\(p.frozen==0)=y.x.old/\y.x.recs.length=0/\True)/\False/\True)/\False)))/\((c.kind==6)=false->((p.frozen != 0)=true->((y.e==0)=true->False)/\(zn p c y))/\((p.frozen != 0)=false->((c.kind==4)=true->((true=true/\p.cons.length=p.cons.length/\ak p.cons.length 2 (ah aJ p.cons) (ah aJ p.cons))/\c.name=c.name/\True)/\True/\p.cons.length<=9223372036854775806/\((y.e==0)=true->((bE true true p y.q)/\(0=y.x.err/\iJ p.cons c.name=y.x.off/\lQ p.cons c.name=y.x.old/\y.x.recs.length=0/\True)/\True/\True)/\True)/\((y.e==0)=false->((bE true true p y.q)/\(0=y.x.err/\iJ p.cons c.name=y.x.off/\lQ p.cons c.name=y.x.old/\y.x.recs.length=0/\True)/\False/\True)/\False))/\((c.kind==4)=false->((c.kind==2)=true->((true=true/\p.recs.length=p.recs.length/\ak p.recs.length 5 (ah encR p.recs) (ah encR p.recs))/\c.off=c.off/\c.most=c.most/\True)/\True/\(p.recs.length<=9223372036854775806/\0<=c.off)/\((uJ p.recs c.off==0)=true->(∀ k,k<(iZ p.recs c.off c.most).length->∀ j,j<5->dL (ah encR (iZ p.recs c.off c.most) k j)=true)/\((y.e==0)=true->((bE true true p y.q)/\(D_ p c y)/\True/\True)/\True)/\((y.e==0)=false->((bE true true p y.q)/\(D_ p c y)/\False/\True)/\False))/\((uJ p.recs c.off==0)=false->((uJ p.recs c.off==0)=true->((y.e==0)=true->((bE true true p y.q)/\(0=y.x.err/\IntKind.u64.wrap (c.off+0)=y.x.off/\false=y.x.old/\y.x.recs.length=0/\True)/\True/\True)/\True)/\((y.e==0)=false->((bE true true p y.q)/\(0=y.x.err/\IntKind.u64.wrap (c.off+0)=y.x.off/\false=y.x.old/\y.x.recs.length=0/\True)/\False/\True)/\False))/\((uJ p.recs c.off==0)=false->((y.e==0)=true->False)/\((y.e==0)=false->((bE true true p y.q)/\(0=y.x.err/\IntKind.u64.wrap (c.off+0)=y.x.off/\false=y.x.old/\y.x.recs.length=0/\True)/\(0=0/\0=0)/\True)/\(c.kind=c.kind/\uJ p.recs c.off=y.e/\True)/\True))))/\((c.kind==2)=false->((y.e==0)=true->((bE true true p y.q)/\(0=y.x.err/\0=y.x.off/\false=y.x.old/\y.x.recs.length=0/\True)/\True/\True)/\True)/\((y.e==0)=false->((bE true true p y.q)/\(0=y.x.err/\0=y.x.off/\false=y.x.old/\y.x.recs.length=0/\True)/\False/\True)/\False))))))))
theorem WO (p:Part) (c:bJ) (y:Act):(aZ Tryz.prog (acH p c) 40 [.agg (aU true p),.agg (dR c)] [] (Yr y.q y.x c y.e))=adh p c y:=by kernel_rfl
theorem ah4 (p:Part) (c:bJ) (h:eO p) (ho:0<=c.off/\c.off<18446744073709551616):(Yr (Ib p c) (BR p c) c (qH p c)).Sat (au Tryz.prog 40 [.agg (aU true p),.agg (dR c)] []):=by
 refine aR (ht:=acH p c) Tryz.mixed rfl ?_
 rw [WO p c ⟨Ib p c,BR p c,qH p c⟩]
 unfold adh D_ zn Ej Fe Fz FE
 dsimp only
 have h1:=h.rl
 have h3:=h.cl
 have hw:IntKind.u64.wrap c.off=c.off:=wrap_u64 ho.1 (by omega)
 have q2:p.recs.length<=9223372036854775806:=by omega
 have q3:p.cons.length<=9223372036854775806:=by omega
 unfold Ib BR qH un9 Qk
 by_cases k1:c.kind=1
 · by_cases e0:iM p c=0
   · simp [k1,e0,h,prQ]
   · by_cases e9:iM p c=999
     · simp [k1,e9,h]
     · simp [k1,e0,e9,h]
 · by_cases k3:c.kind=3
   · by_cases e0:jr p c=0
     · simp [k3,e0,h,cmQ]
     · by_cases e9:jr p c=999
       · simp [k3,e9,h]
       · simp [k3,e0,e9,h]
   · by_cases k5:c.kind=5
     · cases f:yF p c<;>simp [k5,f,Qn]
     · by_cases k6:c.kind=6
       · cases f:yF p c<;>simp [k6,f,Qn]
       · by_cases fz:p.frozen=0
         · by_cases k4:c.kind=4
           · simp [k4,fz,q3]
           · by_cases k2:c.kind=2
             · by_cases e0:uJ p.recs c.off=0
               · have t:=tRs (iZ p.recs c.off c.most)
                 simp [k2,fz,e0,q2,ho,hw]
                 exact t
               · simp [k2,fz,e0,q2,ho,hw]
             · simp [k1,k2,k3,k4,k5,k6,fz]
         · simp [k1,k3,k5,k6,fz]
structure aaZ (p:Part) (c:bJ) (q:Part) (x:gI) (e:Int):Prop where
 s:(Yr q x c e).Sat (au Tryz.prog 40 [.agg (aU true p),.agg (dR c)] [])
noncomputable def arC (p:Part) (c:bJ) (q:Part) (x:gI) (e:Int):dO Tryz.prog:=⟨40,[.agg (aU true p),.agg (dR c)],[],.need (aaZ p c q x e) (Yr q x c e),T.Sat.need fun h=>h.s⟩
def RQ (p:Part) (c:bJ) (q:Part) (e:Int):Part:=if aW p=false then default else if bF c=false∨c.epoch≠p.epoch∨e≠0 then p else q
def OE (p:Part) (c:bJ) (x:gI) (e:Int):gI:=if aW p=false then ⟨165,0,false,[]⟩ else if bF c=false then ⟨161,0,false,[]⟩ else if c.epoch≠p.epoch then ⟨162,0,false,[]⟩ else if e≠0 then ⟨e,0,false,[]⟩ else x
def Lx (q:Part) (x:gI):T An:=.ret (.tup [.agg (aU true q),.agg (oI x)],[],[])
noncomputable def doH (b:Bool) (p:Part) (c:bJ) (y:Act):aC Tryz.prog:=su (hh _ bB (cs1 13 1 1 (pcC b p) (cs1 13 3 1 (weC c) (cs1 13 4 1 (MK b p) (cs1 13 6 1 (MK b p) (cs1 13 7 1 (MK b p) (cs1 13 7 3 (arC p c y.q y.x y.e) (cs1 13 10 1 (MK b p) bq))))))) bA) [41,113]
def adr (b:Bool) (p:Part) (c:bJ) (y:Act) (z:Act):Prop :=
 ((bE b b p p)/\True)/\True/\eO p/\(aW p=true->((R.ow c c)/\True)/\True/\((!bF c)=true->((bE b b p p)/\True)/\True/\GD p/\((bE true true p z.q)/\(161=z.x.err/\0=z.x.off/\false=z.x.old/\z.x.recs.length=0/\True)/\True)/\True)/\((!bF c)=false->((c.epoch != p.epoch)=true->((bE b b p p)/\True)/\True/\GD p/\((bE true true p z.q)/\(162=z.x.err/\0=z.x.off/\false=z.x.old/\z.x.recs.length=0/\True)/\True)/\True)/\((c.epoch != p.epoch)=false->((bE b b p p)/\True)/\True/\GD p/\((bE true true p p)/\(R.ow c c)/\True)/\True/\aaZ p c y.q y.x y.e/\((y.e==0)=true->((bE true true y.q z.q)/\(y.x.err=z.x.err/\y.x.off=z.x.off/\y.x.old=z.x.old/\(true=true/\y.x.recs.length=z.x.recs.length/\ak y.x.recs.length 5 (ah encR y.x.recs) (ah encR z.x.recs))/\True)/\True)/\True)/\((y.e==0)=false->true=true/\True/\((bE b b p p)/\True)/\True/\GD p/\((bE true true p z.q)/\(y.e=z.x.err/\0=z.x.off/\false=z.x.old/\z.x.recs.length=0/\True)/\True)/\True))))/\(aW p=false->(({ data:=#[]:ByteArray }=z.q.rng.lo/\{ data:=#[]:ByteArray }=z.q.rng.hi/\0=z.q.epoch/\0=z.q.frozen/\z.q.recs.length=0/\z.q.prods.length=0/\z.q.cons.length=0/\True)/\(165=z.x.err/\0=z.x.off/\false=z.x.old/\z.x.recs.length=0/\True)/\True)/\True)
theorem Xo (b:Bool) (p:Part) (c:bJ) (y:Act) (z:Act):(aZ Tryz.prog (doH b p c y) 13 [.agg (aU b p),.agg (dR c)] [] (Lx z.q z.x))=adr b p c y z:=by kernel_rfl
theorem Jr {p:Part} (h:aW p=true):p.recs.length<=4096/\p.prods.length<=256/\p.cons.length<=64:=by
 obtain ⟨_,_,a,b,c,_⟩:=D.BI h
 have h1:=pE a
 simp [P.cK] at b
 simp [dJ] at c
 exact ⟨h1,b.2,c.2⟩
theorem aeS {p:Part} (h:aW p=true):GD p:=by
 obtain ⟨h1,h2,h3⟩:=Jr h
 have h4:=KL (D.BI h).2.2.1
 exact ⟨h1,h4.v,by omega,by omega⟩
def dQ (p:Part) (c:bJ):Part:=RQ p c (Ib p c) (qH p c)
def dX (p:Part) (c:bJ):gI:=OE p c (BR p c) (qH p c)
theorem ahe (b:Bool) (p:Part) (c:bJ) (h:eO p) (ho:0<=c.off/\c.off<18446744073709551616):(Lx (dQ p c) (dX p c)).Sat (au Tryz.prog 13 [.agg (aU b p),.agg (dR c)] []):=by
 have ha:=ah4 p c h ho
 unfold dQ dX
 generalize Ib p c=q at *
 generalize BR p c=x at *
 generalize qH p c=e at *
 refine aR (ht:=doH b p c ⟨q,x,e⟩) Tryz.mixed rfl ?_
 rw [Xo b p c ⟨q,x,e⟩ ⟨RQ p c q e,OE p c x e,0⟩]
 unfold adr
 dsimp only
 have hr:aaZ p c q x e:=⟨ha⟩
 have eb:({ data:=#[] }:ByteArray)=ByteArray.empty:=rfl
 rw [eb]
 unfold RQ OE
 cases k0:aW p
 · simp [h]
   exact ⟨rfl,rfl,rfl,rfl,rfl,rfl,rfl⟩
 · have hp:=aeS k0
   cases k1:bF c
   · simp [h,hp]
   · by_cases k2:c.epoch=p.epoch
     · by_cases k3:e=0
       · simp [h,hp,k2,k3,k3 ▸ hr]
       · simp [h,hp,k2,k3,hr]
     · simp [h,hp,k2]
structure YQ (p:Part) (c:bJ) (q:Part) (x:gI):Prop where
 q:q=dQ p c
 x:x=dX p c
 i:eO p
 o:0<=c.off/\c.off<18446744073709551616
noncomputable def doC (b:Bool) (p:Part) (c:bJ) (q:Part) (x:gI):dO Tryz.prog:=⟨13,[.agg (aU b p),.agg (dR c)],[],.need (YQ p c q x) (Lx q x),T.Sat.need fun h=>by
 obtain ⟨rfl,rfl,h1,h2⟩:=h
 exact ahe b p c h1 h2⟩
def byL (l:List Int):List UInt8:=(List.range l.length).map fun k=>UInt8.ofNat (l.getD k 0).toNat
def R_ (x y:Rec):Bool:=x.off==y.off&&(x.key.data.toList==y.key.data.toList&&(byL x.val==byL y.val&&(x.prod==y.prod&&x.seq==y.seq)))
def gW (a b:List Rec) (k:Nat):Bool:=(List.range' k (a.length - k)).all fun j=>R_ (a.getD j default) (b.getD j default)
def XM (b1 b2:Bool) (a b:List Rec) (k:Nat):List AV:=mkT 82 [(0,bZ b1 a),(1,bZ b2 b),(4,.s (.bool false)),(5,.y (.int .i64 k))]
def Xz (r:Bool):Exit×List AV×List aH:=match r with
 | true=>(.exit 0,mkT 82 [],[])
 | false=>(.ret,mkT 82 [(4,.s (.bool false))],[])
def WB (a b:List Rec) (k:Nat):T Bool:=.ite (gW a b k) (.ret true) (.ret false)
def Zv (b1:Bool) (b2:Bool) (a:List Rec) (b:List Rec) (k:Nat):Prop :=
 (decide ((↑k:Int)<(↑(List.length a):Int))=true->(true&&decide ((↑k:Int)<(↑(List.length a):Int)))=true/\(true&&decide ((↑k:Int)<(↑(List.length b):Int)))=true/\(((List.getD a (Int.toNat (↑k:Int)) (@default Rec instInhabitedRec)).off != (List.getD b (Int.toNat (↑k:Int)) (@default Rec instInhabitedRec)).off)=true->(gW a b k=true->False)/\(gW a b k=false->(false=false/\True)/\True/\true=true))/\(((List.getD a (Int.toNat (↑k:Int)) (@default Rec instInhabitedRec)).off != (List.getD b (Int.toNat (↑k:Int)) (@default Rec instInhabitedRec)).off)=false->(true&&decide ((↑k:Int)<(↑(List.length a):Int)))=true/\(true&&decide ((↑k:Int)<(↑(List.length b):Int)))=true/\((!(List.getD a (Int.toNat (↑k:Int)) (@default Rec instInhabitedRec)).key.data.toList==(List.getD b (Int.toNat (↑k:Int)) (@default Rec instInhabitedRec)).key.data.toList)=true->(gW a b k=true->False)/\(gW a b k=false->(false=false/\True)/\True/\true=true))/\((!(List.getD a (Int.toNat (↑k:Int)) (@default Rec instInhabitedRec)).key.data.toList==(List.getD b (Int.toNat (↑k:Int)) (@default Rec instInhabitedRec)).key.data.toList)=false->(true&&decide ((↑k:Int)<(↑(List.length a):Int)))=true/\(∀ (k_1:Nat),k_1<List.length (List.getD a (Int.toNat (↑k:Int)) (@default Rec instInhabitedRec)).val->true=true)/\(true&&decide ((↑k:Int)<(↑(List.length b):Int)))=true/\(∀ (k_1:Nat),k_1<List.length (List.getD b (Int.toNat (↑k:Int)) (@default Rec instInhabitedRec)).val->true=true)/\((!List.map (fun (a:AV)=>match match a with | AV.s (Value.int IntKind.u8 n)=>some n | AV.y (Value.int IntKind.u8 n)=>some n | x=>none with | some n=>UInt8.ofNat (Int.toNat n) | none=>(0:UInt8)) (List.map (fun (k_1:Nat)=>AV.y (Value.int IntKind.u8 (List.getD (List.getD a (Int.toNat (↑k:Int)) (@default Rec instInhabitedRec)).val k_1 (0:Int)))) (List.range (List.length (List.getD a (Int.toNat (↑k:Int)) (@default Rec instInhabitedRec)).val)))==List.map (fun (a:AV)=>match match a with | AV.s (Value.int IntKind.u8 n)=>some n | AV.y (Value.int IntKind.u8 n)=>some n | x=>none with | some n=>UInt8.ofNat (Int.toNat n) | none=>(0:UInt8)) (List.map (fun (k_1:Nat)=>AV.y (Value.int IntKind.u8 (List.getD (List.getD b (Int.toNat (↑k:Int)) (@default Rec instInhabitedRec)).val k_1 (0:Int)))) (List.range (List.length (List.getD b (Int.toNat (↑k:Int)) (@default Rec instInhabitedRec)).val))))=true->(gW a b k=true->False)/\(gW a b k=false->(false=false/\True)/\True/\true=true))/\((!List.map (fun (a:AV)=>match match a with | AV.s (Value.int IntKind.u8 n)=>some n | AV.y (Value.int IntKind.u8 n)=>some n | x=>none with | some n=>UInt8.ofNat (Int.toNat n) | none=>(0:UInt8)) (List.map (fun (k_1:Nat)=>AV.y (Value.int IntKind.u8 (List.getD (List.getD a (Int.toNat (↑k:Int)) (@default Rec instInhabitedRec)).val k_1 (0:Int)))) (List.range (List.length (List.getD a (Int.toNat (↑k:Int)) (@default Rec instInhabitedRec)).val)))==List.map (fun (a:AV)=>match match a with | AV.s (Value.int IntKind.u8 n)=>some n | AV.y (Value.int IntKind.u8 n)=>some n | x=>none with | some n=>UInt8.ofNat (Int.toNat n) | none=>(0:UInt8)) (List.map (fun (k_1:Nat)=>AV.y (Value.int IntKind.u8 (List.getD (List.getD b (Int.toNat (↑k:Int)) (@default Rec instInhabitedRec)).val k_1 (0:Int)))) (List.range (List.length (List.getD b (Int.toNat (↑k:Int)) (@default Rec instInhabitedRec)).val))))=false->(true&&decide ((↑k:Int)<(↑(List.length a):Int)))=true/\(true&&decide ((↑k:Int)<(↑(List.length b):Int)))=true/\(((List.getD a (Int.toNat (↑k:Int)) (@default Rec instInhabitedRec)).prod != (List.getD b (Int.toNat (↑k:Int)) (@default Rec instInhabitedRec)).prod)=true->(gW a b k=true->False)/\(gW a b k=false->(false=false/\True)/\True/\true=true))/\(((List.getD a (Int.toNat (↑k:Int)) (@default Rec instInhabitedRec)).prod != (List.getD b (Int.toNat (↑k:Int)) (@default Rec instInhabitedRec)).prod)=false->(true&&decide ((↑k:Int)<(↑(List.length a):Int)))=true/\(true&&decide ((↑k:Int)<(↑(List.length b):Int)))=true/\(((List.getD a (Int.toNat (↑k:Int)) (@default Rec instInhabitedRec)).seq != (List.getD b (Int.toNat (↑k:Int)) (@default Rec instInhabitedRec)).seq)=true->(gW a b k=true->False)/\(gW a b k=false->(false=false/\True)/\True/\true=true))/\(((List.getD a (Int.toNat (↑k:Int)) (@default Rec instInhabitedRec)).seq != (List.getD b (Int.toNat (↑k:Int)) (@default Rec instInhabitedRec)).seq)=false->∃ (j:Nat),List.length a - j<List.length a - k/\(((b1=b1/\List.length a=List.length a/\ak (List.length a) (5:Nat) (ah encR a) (ah encR a))/\(b2=b2/\List.length b=List.length b/\ak (List.length b) (5:Nat) (ah encR b) (ah encR b))/\false=false/\IntKind.wrap IntKind.i64 ((↑k:Int)+(1:Int))=(↑j:Int)/\True)/\True/\true=true)/\true=true/\(gW a b j=true->(gW a b k=true->true=true)/\(gW a b k=false->true=false))/\(gW a b j=false->(gW a b k=true->false=true)/\(gW a b k=false->false=false))))))))/\(decide ((↑k:Int)<(↑(List.length a):Int))=false->(gW a b k=true->True/\True/\true=true)/\(gW a b k=false->False))
theorem R5 (b1:Bool) (b2:Bool) (a:List Rec) (b:List Rec) (k:Nat):(cu Tryz.prog (hT _) 73 4 (fun k=>a.length - k) (XM b1 b2 a b) (fun _=>[]) [0,1] (WB a b) Xz k)=Zv b1 b2 a b k:=by kernel_rfl
def XE (x y:Con):Bool:=x.name.data.toList==y.name.data.toList&&x.off==y.off
def jS (a b:List Con) (k:Nat):Bool:=(List.range' k (a.length - k)).all fun j=>XE (a.getD j default) (b.getD j default)
def scT (b1 b2:Bool) (a b:List Con) (k:Nat):List AV:=mkT 26 [(0,dP b1 a),(1,dP b2 b),(4,.s (.bool false)),(5,.y (.int .i64 k))]
def scS (r:Bool):Exit×List AV×List aH:=match r with
 | true=>(.exit 0,mkT 26 [],[])
 | false=>(.ret,mkT 26 [(4,.s (.bool false))],[])
def scO (a b:List Con) (k:Nat):T Bool:=.ite (jS a b k) (.ret true) (.ret false)
def aah (b1:Bool) (b2:Bool) (a:List Con) (b:List Con) (k:Nat):Prop :=
 (decide ((k:Int)<(a.length:Int))=true->(true&&decide ((k:Int)<(a.length:Int)))=true/\(true&&decide ((k:Int)<(b.length:Int)))=true/\((!((a.getD (Int.toNat (k:Int)) default).name.data.toList==(b.getD (Int.toNat (k:Int)) default).name.data.toList&&((a.getD (Int.toNat (k:Int)) default).off==(b.getD (Int.toNat (k:Int)) default).off&&true)))=true->(jS a b k=true->False)/\(jS a b k=false->(false=false/\True)/\True/\true=true))/\((!((a.getD (Int.toNat (k:Int)) default).name.data.toList==(b.getD (Int.toNat (k:Int)) default).name.data.toList&&((a.getD (Int.toNat (k:Int)) default).off==(b.getD (Int.toNat (k:Int)) default).off&&true)))=false->∃ j:Nat,a.length - j<a.length - k/\(((b1=b1/\a.length=a.length/\ak a.length 2 (ah aJ a) (ah aJ a))/\(b2=b2/\b.length=b.length/\ak b.length 2 (ah aJ b) (ah aJ b))/\false=false/\IntKind.i64.wrap ((k:Int)+1)=(j:Int)/\True)/\True/\true=true)/\true=true/\(jS a b j=true->(jS a b k=true->true=true)/\(jS a b k=false->true=false))/\(jS a b j=false->(jS a b k=true->false=true)/\(jS a b k=false->false=false))))/\(decide ((k:Int)<(a.length:Int))=false->(jS a b k=true->True/\True/\true=true)/\(jS a b k=false->False))
theorem OV (b1:Bool) (b2:Bool) (a:List Con) (b:List Con) (k:Nat):(cu Tryz.prog (hT _) 75 4 (fun k=>a.length - k) (scT b1 b2 a b) (fun _=>[]) [0,1] (scO a b) scS k)=aah b1 b2 a b k:=by kernel_rfl
theorem OB {a b:List Con} {k:Nat} (h:a.length<=k):jS a b k=true:=by
 unfold jS
 rw [show a.length - k=0 by omega];rfl
theorem JO {a b:List Con} {k:Nat} (h:k<a.length):jS a b k=(XE (a.getD k default) (b.getD k default)&&jS a b (k+1)):=by
 unfold jS
 rw [show a.length - k=(a.length - (k+1))+1 by omega,List.range'_succ];rfl
theorem OC {a b:List Rec} {k:Nat} (h:a.length<=k):gW a b k=true:=by
 unfold gW
 rw [show a.length - k=0 by omega];rfl
theorem Jj {a b:List Rec} {k:Nat} (h:k<a.length):gW a b k=(R_ (a.getD k default) (b.getD k default)&&gW a b (k+1)):=by
 unfold gW
 rw [show a.length - k=(a.length - (k+1))+1 by omega,List.range'_succ];rfl
theorem Vb (b1 b2:Bool) (a b:List Con) (hl:a.length<=9223372036854775806) (he:a.length=b.length) (k:Nat):aQ Tryz.prog 75 4 (aS Tryz.prog 75 4) ⟨scT b1 b2 a b k,[],[]⟩ ((scO a b k).map (bV [0,1] scS)):=by
 refine fP Tryz.mixed (fun _=>rfl) (fun k=>(OV b1 b2 a b k).mpr ?_) k
 unfold aah
 by_cases h:k<a.length
 · have hz:decide ((k:Int)<a.length)=true:=by simp;omega
   have hz2:decide ((k:Int)<b.length)=true:=by simp;omega
   have hw:IntKind.i64.wrap ((k:Int)+1)=((k+1:Nat):Int):=by rw [wrap_i64 (by omega) (by omega)];omega
   rw [JO h,Int.toNat_natCast]
   simp only [hz,hz2,hw]
   unfold XE
   generalize ((a.getD k default).name.data.toList==(b.getD k default).name.data.toList)=q1
   generalize ((a.getD k default).off==(b.getD k default).off)=q2
   cases q1<;>cases q2<;>simp
   exact ⟨k+1,by omega,by omega,by simp⟩
 · have hz:decide ((k:Int)<a.length)=false:=by simp;omega
   simp only [hz,OB (b:=b) (Nat.le_of_not_lt h)]
   simp
theorem VB (b1 b2:Bool) (a b:List Rec) (hl:a.length<=9223372036854775806) (he:a.length=b.length) (k:Nat):aQ Tryz.prog 73 4 (aS Tryz.prog 73 4) ⟨XM b1 b2 a b k,[],[]⟩ ((WB a b k).map (bV [0,1] Xz)):=by
 refine fP Tryz.mixed (fun _=>rfl) (fun k=>(R5 b1 b2 a b k).mpr ?_) k
 unfold Zv
 by_cases h:k<a.length
 · have hz:decide ((k:Int)<a.length)=true:=by simp;omega
   have hz2:decide ((k:Int)<b.length)=true:=by simp;omega
   have hw:IntKind.i64.wrap ((k:Int)+1)=((k+1:Nat):Int):=by rw [wrap_i64 (by omega) (by omega)];omega
   rw [Jj h,Int.toNat_natCast]
   simp only [hz,hz2,hw,List.map_map,Function.comp_def]
   unfold R_ byL
   generalize ((a.getD k default).key.data.toList==(b.getD k default).key.data.toList)=q1
   generalize (List.map (fun (i:Nat)=>UInt8.ofNat (Int.toNat (List.getD (a.getD k default).val i 0))) (List.range (a.getD k default).val.length)==List.map (fun (i:Nat)=>UInt8.ofNat (Int.toNat (List.getD (b.getD k default).val i 0))) (List.range (b.getD k default).val.length))=q2
   have n1:((a.getD k default).off != (b.getD k default).off)=!((a.getD k default).off==(b.getD k default).off):=rfl
   have n2:((a.getD k default).prod != (b.getD k default).prod)=!((a.getD k default).prod==(b.getD k default).prod):=rfl
   have n3:((a.getD k default).seq != (b.getD k default).seq)=!((a.getD k default).seq==(b.getD k default).seq):=rfl
   rw [n1,n2,n3]
   generalize ((a.getD k default).off==(b.getD k default).off)=q3
   generalize ((a.getD k default).prod==(b.getD k default).prod)=q4
   generalize ((a.getD k default).seq==(b.getD k default).seq)=q5
   cases q1<;>cases q2<;>cases q3<;>cases q4<;>cases q5<;>simp
   exact ⟨k+1,by omega,by omega,by simp⟩
 · have hz:decide ((k:Int)<a.length)=false:=by simp;omega
   simp only [hz,OC (b:=b) (Nat.le_of_not_lt h)]
   simp
end Go.Proofs.YtnbhdjadlbhknaaGreatDoor.R

namespace Go.Proofs.YtnbhdjadlbhknaaGreatDoor.P
open Go.Ax
set_option maxRecDepth 1000000
noncomputable def adR (b1 b2:Bool) (a b:List Producer):dO Tryz.prog:=⟨74,[bG b1 a,bG b2 b],[],.need (a.length<=9223372036854775806) (smR a b),T.Sat.need fun h=>aay b1 b2 a b h⟩
structure Two where
 a:List Producer
 b:List Producer
 ta:List Int
 tb:List Int
structure Two.Ok (x:Two):Prop where
 a:x.a.length*32<=140737488355200
 b:x.b.length*32<=140737488355200
 ta:x.ta.length<=9223372036854775806
 tb:x.tb.length<=9223372036854775806
 oa:∀ y∈x.a,0<=y.offset/\y.offset<18446744073709551616
 ob:∀ y∈x.b,0<=y.offset/\y.offset<18446744073709551616
end Go.Proofs.YtnbhdjadlbhknaaGreatDoor.P

namespace Go.Proofs.YtnbhdjadlbhknaaGreatDoor.R
open Go.Ax
set_option maxRecDepth 1000000
def iy (a b:List Rec):Bool:=(a.length==b.length)&&gW a b 0
def ku (a b:List Con):Bool:=(a.length==b.length)&&jS a b 0
noncomputable def smH (b1 b2:Bool) (a b:List Rec):aC Tryz.prog:=hh _ (ni 73 4 (eP (XM b1 b2 a b) (fun _=>[]) [0,1] (WB a b) Xz 0) bB) bq bA
def afB (b1:Bool) (b2:Bool) (a:List Rec) (b:List Rec):Prop :=
 (((a.length:Int) != (b.length:Int))=true->false=iy a b/\True)/\(((a.length:Int) != (b.length:Int))=false->(((b1=b1/\a.length=a.length/\ak a.length 5 (ah encR a) (ah encR a))/\(b2=b2/\b.length=b.length/\ak b.length 5 (ah encR b) (ah encR b))/\false=false/\(0:Int)=0/\True)/\True/\true=true)/\aQ Tryz.prog 73 4 (aS Tryz.prog 73 4) { t:=XM b1 b2 a b 0,m:=[],mv:=[]:St } (T.map (bV [0,1] Xz) (WB a b 0))/\(gW a b 0=true->true=iy a b/\True)/\(gW a b 0=false->false=iy a b/\True))
theorem Xv (b1:Bool) (b2:Bool) (a:List Rec) (b:List Rec):(aZ Tryz.prog (smH b1 b2 a b) 73 [bZ b1 a,bZ b2 b] [] (bM (iy a b)))=afB b1 b2 a b:=by kernel_rfl
noncomputable def scH (b1 b2:Bool) (a b:List Con):aC Tryz.prog:=hh _ (ni 75 4 (eP (scT b1 b2 a b) (fun _=>[]) [0,1] (scO a b) scS 0) bB) bq bA
def af5 (b1:Bool) (b2:Bool) (a:List Con) (b:List Con):Prop :=
 (((a.length:Int) != (b.length:Int))=true->false=ku a b/\True)/\(((a.length:Int) != (b.length:Int))=false->(((b1=b1/\a.length=a.length/\ak a.length 2 (ah aJ a) (ah aJ a))/\(b2=b2/\b.length=b.length/\ak b.length 2 (ah aJ b) (ah aJ b))/\false=false/\(0:Int)=0/\True)/\True/\true=true)/\aQ Tryz.prog 75 4 (aS Tryz.prog 75 4) { t:=scT b1 b2 a b 0,m:=[],mv:=[]:St } (T.map (bV [0,1] scS) (scO a b 0))/\(jS a b 0=true->true=ku a b/\True)/\(jS a b 0=false->false=ku a b/\True))
theorem Yj (b1:Bool) (b2:Bool) (a:List Con) (b:List Con):(aZ Tryz.prog (scH b1 b2 a b) 75 [dP b1 a,dP b2 b] [] (bM (ku a b)))=af5 b1 b2 a b:=by kernel_rfl
theorem ahQ (b1 b2:Bool) (a b:List Rec) (hl:a.length<=9223372036854775806):(bM (iy a b)).Sat (au Tryz.prog 73 [bZ b1 a,bZ b2 b] []):=by
 refine aR (ht:=smH b1 b2 a b) Tryz.mixed rfl ?_
 rw [Xv b1 b2 a b]
 unfold afB
 by_cases he:a.length=b.length
 · have:=VB b1 b2 a b hl he 0
   simp [iy,he,this]
 · have he':¬ ((a.length:Int)=b.length):=by omega
   simp [iy,he,he']
theorem ag5 (b1 b2:Bool) (a b:List Con) (hl:a.length<=9223372036854775806):(bM (ku a b)).Sat (au Tryz.prog 75 [dP b1 a,dP b2 b] []):=by
 refine aR (ht:=scH b1 b2 a b) Tryz.mixed rfl ?_
 rw [Yj b1 b2 a b]
 unfold af5
 by_cases he:a.length=b.length
 · have:=Vb b1 b2 a b hl he 0
   simp [ku,he,this]
 · have he':¬ ((a.length:Int)=b.length):=by omega
   simp [ku,he,he']
noncomputable def smC (b1 b2:Bool) (a b:List Rec):dO Tryz.prog:=⟨73,[bZ b1 a,bZ b2 b],[],.need (a.length<=9223372036854775806) (bM (iy a b)),T.Sat.need fun h=>ahQ b1 b2 a b h⟩
noncomputable def ag_ (b1 b2:Bool) (a b:List Con):dO Tryz.prog:=⟨75,[dP b1 a,dP b2 b],[],.need (a.length<=9223372036854775806) (bM (ku a b)),T.Sat.need fun h=>ag5 b1 b2 a b h⟩
def jA (p q:Part):Bool:=iy p.recs q.recs&&(P.pG p.prods q.prods&&(ku p.cons q.cons&&((p.rng.lo.data.toList==q.rng.lo.data.toList&&p.rng.hi.data.toList==q.rng.hi.data.toList)&&(p.epoch==q.epoch&&p.frozen==q.frozen))))
noncomputable def agf (b1 b2:Bool) (p q:Part):aC Tryz.prog:=hh _ bB (cs1 19 1 4 (smC b1 b2 p.recs q.recs) (cs1 19 2 4 (P.adR b1 b2 p.prods q.prods) (cs1 19 3 4 (ag_ b1 b2 p.cons q.cons) bq))) bA
def aak (b1:Bool) (b2:Bool) (p:Part) (q:Part):Prop :=
 ((b1=b1/\p.recs.length=p.recs.length/\ak p.recs.length 5 (ah encR p.recs) (ah encR p.recs))/\(b2=b2/\q.recs.length=q.recs.length/\ak q.recs.length 5 (ah encR q.recs) (ah encR q.recs))/\True)/\True/\p.recs.length<=9223372036854775806/\((b1=b1/\p.prods.length=p.prods.length/\ak p.prods.length 4 (ah P.ay p.prods) (ah P.ay p.prods))/\(b2=b2/\q.prods.length=q.prods.length/\ak q.prods.length 4 (ah P.ay q.prods) (ah P.ay q.prods))/\True)/\True/\p.prods.length<=9223372036854775806/\((b1=b1/\p.cons.length=p.cons.length/\ak p.cons.length 2 (ah aJ p.cons) (ah aJ p.cons))/\(b2=b2/\q.cons.length=q.cons.length/\ak q.cons.length 2 (ah aJ q.cons) (ah aJ q.cons))/\True)/\True/\p.cons.length<=9223372036854775806/\(iy p.recs q.recs=true->(P.pG p.prods q.prods=true->(ku p.cons q.cons=true->((p.rng.lo.data.toList==q.rng.lo.data.toList&&(p.rng.hi.data.toList==q.rng.hi.data.toList&&true))=true->((p.epoch==q.epoch)=true->(p.frozen==q.frozen)=jA p q/\True)/\((p.epoch==q.epoch)=false->false=jA p q/\True))/\((p.rng.lo.data.toList==q.rng.lo.data.toList&&(p.rng.hi.data.toList==q.rng.hi.data.toList&&true))=false->false=jA p q/\True))/\(ku p.cons q.cons=false->false=jA p q/\True))/\(P.pG p.prods q.prods=false->false=jA p q/\True))/\(iy p.recs q.recs=false->false=jA p q/\True)
theorem Pn (b1:Bool) (b2:Bool) (p:Part) (q:Part):(aZ Tryz.prog (agf b1 b2 p q) 19 [.agg (aU b1 p),.agg (aU b2 q)] [] (bM (jA p q)))=aak b1 b2 p q:=by kernel_rfl
theorem aeM (b1 b2:Bool) (p q:Part) (h:eO p):(bM (jA p q)).Sat (au Tryz.prog 19 [.agg (aU b1 p),.agg (aU b2 q)] []):=by
 refine aR (ht:=agf b1 b2 p q) Tryz.mixed rfl ?_
 rw [Pn b1 b2 p q]
 unfold aak jA
 have h1:=h.rl
 have h2:=h.pl
 have h3:=h.cl
 have g1:p.recs.length<=9223372036854775806:=by omega
 have g2:p.prods.length<=9223372036854775806:=by omega
 have g3:p.cons.length<=9223372036854775806:=by omega
 generalize iy p.recs q.recs=q1
 generalize P.pG p.prods q.prods=q2
 generalize ku p.cons q.cons=q3
 generalize (p.rng.lo.data.toList==q.rng.lo.data.toList)=q4
 generalize (p.rng.hi.data.toList==q.rng.hi.data.toList)=q5
 generalize (p.epoch==q.epoch)=q6
 generalize (p.frozen==q.frozen)=q7
 cases q1<;>cases q2<;>cases q3<;>cases q4<;>cases q5<;>cases q6<;>simp [g1,g2,g3]
def kS:ByteArray:=⟨#[107]⟩
def D6 (s:Int) (k:ByteArray):bJ:=⟨1,1,7,s,k,[118],0,0,ByteArray.empty,0⟩
def abF (c:bJ):T An:=.ret (.agg (dR c),[],[])
def Zp (s:Int) (k:ByteArray):Prop :=
 ((1:Int)=1/\(1:Int)=1/\(7:Int)=7/\s=s/\k=k/\(true=true/\1=1/\ak 1 1 (Ax.rowAt 0 fun (k j:Nat)=>Ax.get [AV.s (.int .u8 118)] (k*1+j)) (ah aD [118]))/\(0:Int)=0/\(0:Int)=0/\{ data:=#[]:ByteArray }=ByteArray.empty/\(0:Int)=0/\True)/\True
theorem Pt (s:Int) (k:ByteArray):(aZ Tryz.prog (hT _) 12 [.y (.int .u64 s),.y (.string k)] [] (abF (D6 s k)))=Zp s k:=by kernel_rfl
theorem afz (s:Int) (k:ByteArray):(abF (D6 s k)).Sat (au Tryz.prog 12 [.y (.int .u64 s),.y (.string k)] []):=by
 refine aR (ht:=hT _) Tryz.mixed rfl ?_
 rw [Pt s k]
 unfold Zp
 have eb:({ data:=#[] }:ByteArray)=ByteArray.empty:=rfl
 simp [eb]
 intro i hi j hj
 obtain rfl:i=0:=by omega
 obtain rfl:j=0:=by omega
 exact rfl
noncomputable def afI (s:Int) (k:ByteArray):dO Tryz.prog:=⟨12,[.y (.int .u64 s),.y (.string k)],[],abF (D6 s k),afz s k⟩
def p0:Part:=⟨⟨ByteArray.empty,ByteArray.empty⟩,1,0,[],[],[]⟩
def q0:Part:=⟨⟨ByteArray.empty,ByteArray.empty⟩,1,0,[⟨0,kS,[118],7,1⟩],[⟨7,1,true,0⟩],[]⟩
noncomputable def lvH:aC Tryz.prog:=hh _ bB (cs1 10 2 1 (afI 1 kS) (cs1 10 2 2 (doC true p0 (D6 1 kS) q0 ⟨0,0,false,[]⟩) (cs1 10 3 1 (afI 1 kS) (cs1 10 3 2 (doC true q0 (D6 1 kS) q0 ⟨0,0,true,[]⟩) bq)))) bA
def aeC (u:Unit):Prop :=
 ((1:Int)=1/\{ data:=#[(107:UInt8)]:ByteArray }=kS/\True)/\True/\(({ data:=#[]:ByteArray }=ByteArray.empty/\{ data:=#[]:ByteArray }=ByteArray.empty/\(1:Int)=1/\(0:Int)=0/\0=0/\0=0/\0=0/\True)/\((1:Int)=1/\(1:Int)=1/\(7:Int)=7/\(1:Int)=1/\kS=kS/\(true=true/\1=1/\ak 1 1 (ah aD [118]) (ah aD [118]))/\(0:Int)=0/\(0:Int)=0/\ByteArray.empty=ByteArray.empty/\(0:Int)=0/\True)/\True)/\True/\YQ p0 (D6 1 kS) q0 { err:=0,off:=0,old:=false,recs:=[]:gI }/\((1:Int)=1/\{ data:=#[(107:UInt8)]:ByteArray }=kS/\True)/\True/\((ByteArray.empty=ByteArray.empty/\ByteArray.empty=ByteArray.empty/\(1:Int)=1/\(0:Int)=0/\(true=true/\1=1/\ak 1 5 (ah encR [{ off:=0,key:=kS,val:=[118],prod:=7,seq:=1:Rec }]) (ah encR [{ off:=0,key:=kS,val:=[118],prod:=7,seq:=1:Rec }]))/\(true=true/\1=1/\ak 1 4 (ah P.ay [{ id:=7,seq:=1,here:=true,offset:=0:P.Producer }]) (ah P.ay [{ id:=7,seq:=1,here:=true,offset:=0:P.Producer }]))/\(true=true/\0=0/\ak 0 2 (ah aJ []) (ah aJ []))/\True)/\((1:Int)=1/\(1:Int)=1/\(7:Int)=7/\(1:Int)=1/\kS=kS/\(true=true/\1=1/\ak 1 1 (ah aD [118]) (ah aD [118]))/\(0:Int)=0/\(0:Int)=0/\ByteArray.empty=ByteArray.empty/\(0:Int)=0/\True)/\True)/\True/\YQ q0 (D6 1 kS) q0 { err:=0,off:=0,old:=true,recs:=[]:gI }/\(true=true->(true=true->(true=true->true=true/\True)/\(true=false->false=true/\True))/\(true=false->false=true/\True))/\(true=false->false=true/\True)
theorem Un (u:Unit):(aZ Tryz.prog lvH 10 [] [] (bM true))=aeC u:=by kernel_rfl
theorem af8:eO p0:=⟨by decide,by decide,by decide,fun k hk=>by cases hk⟩
theorem adl:eO q0:=⟨by decide,by decide,by decide,fun k hk=>by
 have hk:k<1:=hk
 obtain rfl:k=0:=by omega
 decide⟩
theorem afO:YQ p0 (D6 1 kS) q0 ⟨0,0,false,[]⟩:=⟨by kernel_rfl,by kernel_rfl,af8,by decide⟩
theorem aeH:YQ q0 (D6 1 kS) q0 ⟨0,0,true,[]⟩:=⟨by kernel_rfl,by kernel_rfl,adl,by decide⟩
theorem ags:(bM true).Sat (au Tryz.prog 10 [] []):=by
 refine aR (ht:=lvH) Tryz.mixed rfl ?_
 rw [Un ()]
 unfold aeC
 have eb:({ data:=#[] }:ByteArray)=ByteArray.empty:=rfl
 have ek:({ data:=#[107] }:ByteArray)=kS:=rfl
 have h1:=afO
 have h2:=aeH
 simp [eb,ek,h1,h2]
noncomputable def agH:dO Tryz.prog:=⟨10,[],[],bM true,ags⟩
end Go.Proofs.YtnbhdjadlbhknaaGreatDoor.R

namespace Go.Proofs.YtnbhdjadlbhknaaGreatDoor.P
open Go.Ax
set_option maxRecDepth 1000000
end Go.Proofs.YtnbhdjadlbhknaaGreatDoor.P
