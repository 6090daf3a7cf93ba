import Derived.Test.YtnbhdjadlbhknaaGreatDoorW1
import Derived.Test.YtnbhdjadlbhknaaGreatDoorW4
import Derived.Test.YtnbhdjadlbhknaaGreatDoorW5
set_option linter.unusedVariables false
set_option linter.unusedSimpArgs false
set_option maxRecDepth 1000000
namespace Go.Proofs.YtnbhdjadlbhknaaGreatDoor
open Go.Ax
namespace J
theorem G5 {s:RS} {e:Int} {p:Nat} (he:e≠0):(dW s e p).e≠0:=by
 unfold dW
 split
 · rename_i h;simpa using h
 · exact he
theorem gI {l:List Int} {s:RS} {most:Int} (h:bL l s):bL l (aK l s most).2/\nO (aK l s most).1/\((aK l s most).2.e=0->((aK l s most).2.at_:Int)+(aK l s most).1<=l.length):=by
 obtain ⟨h1,h2⟩:=bf h
 have hat:=h.at_
 unfold aK
 split
 · rename_i he
   refine ⟨h1,jT,fun hz=>?_⟩
   have hz:(aB l s).2.e=0:=hz
   simp [hz] at he
 · split
   · refine ⟨qH h1 (by decide) hat,jT,fun hz=>?_⟩
     exfalso
     exact absurd hz (G5 (by decide))
   · split
     · refine ⟨qH h1 (by decide) hat,jT,fun hz=>?_⟩
       exfalso
       exact absurd hz (G5 (by decide))
     · exact ⟨h1,h2,fun _=>by omega⟩
theorem mE {l:List Int} {s:RS} {most:Int} (h:bL l s):bL l (aU l s most).2:=by
 obtain ⟨h1,h2,h3⟩:=gI (most:=most) h
 unfold aU
 split
 · exact h1
 · rename_i he
   have he:(aK l s most).2.e=0:=by simpa using he
   have:=h3 he
   have:=h2.lo
   exact ⟨h1.n,by show (aK l s most).2.at_+(aK l s most).1.toNat<=l.length;omega,h1.b,h1.bad⟩
theorem aho {f:FuncId} {args:List AV} {M:List aH} {l t:List Int} {s:RS} (hM:getM M 2=.dead) (h:(yR l t s).Sat (au Tryz.prog f args M)):(T.ret (bn true t,rM l s,[]):T An).Sat (au Tryz.prog f args M):=by
 have h1:au Tryz.prog f args M (bn true t,rM l s,[2]):=jN h
 have h2:au Tryz.prog f args M (bn true t,rM l s,[]):=lI h1 fun i hi=>by
  obtain rfl:=List.mem_singleton.1 hi
  exact .inr hM
 exact T.Sat.ret h2
theorem y_c (l:List Int) (s:RS) (most:Int) (hm:jC most) (hs:bL l s):(T.ret (bn true (aU l s most).1,rM l (aU l s most).2,[]):T An).Sat (au Tryz.prog 88 [rP,.y (.int .i64 most)] (rM l s)):=by
 refine aho rfl ?_
 obtain ⟨hs1,hu,hle⟩:=gI (most:=most) hs
 have hn:=hs.n
 have hat:=hs1.at_
 refine dG (ht:=yH l s most (aK l s most).1 (aK l s most).2 (aU l s most).1) Tryz.mixed rfl ?_
 rw [aax l s most (aK l s most).1 (aK l s most).2 (aU l s most).1 (aU l s most).2]
 unfold vcY
 unfold aU
 obtain ⟨n,s1,hv⟩:∃ v s1,aK l s most=(v,s1):=⟨_,_,rfl⟩
 rw [hv] at hs1 hu hat hle ⊢
 simp only at hs1 hu hat hle ⊢
 have hv0:=hu.lo
 cases hf:s1.f
 · have h0:(s1.e != 0)=false:=hf
   have he:s1.e=0:=by simpa [RS.f] using hf
   have hle:=hle he
   have w1:IntKind.wrap IntKind.i64 ((s1.at_:Int)+n)=(s1.at_:Int)+n:=wrap_i64 (by omega) (by omega)
   have w2:IntKind.wrap IntKind.i64 ((s1.at_:Int)+n - n)=(s1.at_:Int):=by rw [wrap_i64 (by omega) (by omega)];omega
   simp only [w1,w2,Int.toNat_natCast,h0]
   obtain ⟨m,rfl⟩:=Int.eq_ofNat_of_zero_le hv0
   have e1:((s1.at_:Int)+(m:Int)).toNat - s1.at_=m:=by omega
   have e2:((l.drop s1.at_).take m).length=m:=by rw [List.length_take,List.length_drop];omega
   have hc:ak m 1 (fun k=>ah aD l (s1.at_+k)) (ah aD ((l.drop s1.at_).take m)):=by
    intro k hk j hj
    unfold ah
    have:((l.drop s1.at_).take m).getD k default=l.getD (s1.at_+k) default:=by simp [List.getD,List.getElem?_take,hk]
    rw [this]
    exact bN _
   have hr:∀ t:List Int,ak t.length 1 (Ax.rowAt 0 (ah aD t)) (ah aD t):=fun t k hk j hj=>bN _
   simp only [e1,Int.toNat_natCast]
   obtain ⟨t,et⟩:∃ t,(l.drop s1.at_).take m=t:=⟨_,rfl⟩
   rw [et] at e2 hc
   have ht:=ZH t
   simp at ht
   have hr:=hr t
   rw [e2] at hr ht
   simp only [et]
   simp [hs,hm,hr,hc,e2,RS.f]
   exact ⟨by omega,by omega,ht,he⟩
 · have h0:(s1.e != 0)=true:=hf
   simp [hs,hm,h0,hf]
theorem d_c (l:List Int) (s:RS) (hs:bL l s):(iR l (bS l s) s).Sat (au Tryz.prog 86 [rP] (rM l s)):=by
 refine dG (ht:=dH l s) Tryz.mixed rfl ?_
 rw [aaV l s (bS l s)]
 unfold vcD bS
 have h1:Oh s:=⟨hs.bad⟩
 by_cases h:s.e=0
 · by_cases h2:s.at_<l.length
   · simp [h,h1,h2]
   · simp [h,h1,h2]
 · simp [h,h1]
noncomputable def dC (l:List Int) (s:RS):dO Tryz.prog:=⟨86,[rP],rM l s,.need (bL l s) (iR l (bS l s) s),T.Sat.need fun h=>d_c l s h⟩
noncomputable def yC (l:List Int) (s:RS) (most:Int) (t:List Int) (s':RS):dO Tryz.prog:=⟨88,[rP,.y (.int .i64 most)],rM l s,.need (bL l s/\jC most) (.need ((t,s')=aU l s most) (.ret (bn true t,rM l s',[]))),T.Sat.need fun h=>T.Sat.need fun e=>by
 have e1:t=(aU l s most).1:=congrArg Prod.fst e
 have e2:s'=(aU l s most).2:=congrArg Prod.snd e
 rw [e1,e2]
 exact y_c l s most h.2 h.1⟩
def strOf (t:List Int):ByteArray:=vw t.length (ah aD t)
def jF (l:List Int) (s:RS) (most:Int):ByteArray×RS:=(strOf (aU l s most).1,(aU l s most).2)
def sR (l:List Int) (t:ByteArray) (s':RS):T An:=.ret (.y (.string t),rM l s',[])
noncomputable def sH (l:List Int) (s:RS) (most:Int) (t:List Int) (s':RS):aC Tryz.prog:=zZ (hh _ bB (cs1 87 1 2 (yC l s most t s') bA) bq)
def vcS (l:List Int) (s:RS) (most:Int) (t:List Int) (s':RS) (u:ByteArray):Prop :=
 ((0=0/\0=0)/\most=most/\True)/\((bV l s s)/\True)/\(bL l s/\jC most)/\(t,s')=aU l s most/\(∀ k,k<t.length->true=true)/\vw t.length (ah aD t)=u/\(bV l s' s')/\True
theorem acr (l:List Int) (s:RS) (most:Int) (t:List Int) (s':RS) (u:ByteArray):(eU Tryz.prog (sH l s most t s') 87 [rP,.y (.int .i64 most)] (rM l s) (sR l u s'))=vcS l s most t s' u:=by kernel_rfl
theorem s_c (l:List Int) (s:RS) (most:Int) (hm:jC most) (hs:bL l s):(sR l (jF l s most).1 (jF l s most).2).Sat (au Tryz.prog 87 [rP,.y (.int .i64 most)] (rM l s)):=by
 refine dG (ht:=sH l s most (aU l s most).1 (aU l s most).2) Tryz.mixed rfl ?_
 unfold jF
 rw [acr l s most (aU l s most).1 (aU l s most).2 (strOf (aU l s most).1)]
 unfold vcS strOf
 simp [hs,hm]
noncomputable def sC (l:List Int) (s:RS) (most:Int) (t:ByteArray) (s':RS):dO Tryz.prog:=⟨87,[rP,.y (.int .i64 most)],rM l s,.need (bL l s/\jC most) (.need ((t,s')=jF l s most) (sR l t s')),T.Sat.need fun h=>T.Sat.need fun e=>by
 have e1:t=(jF l s most).1:=congrArg Prod.fst e
 have e2:s'=(jF l s most).2:=congrArg Prod.snd e
 rw [e1,e2]
 exact s_c l s most h.2 h.1⟩
def j_ (l:List Int) (s:RS):kW×RS :=
 let a:=jF l s 32;let b:=jF l a.2 32
 if b.2.e != 0 then (default,b.2) else (⟨a.1,b.1⟩,b.2)
def gR (l:List Int) (r:kW) (s':RS):T An:=.ret (.agg (nN r),rM l s',[])
noncomputable def gH (l:List Int) (s:RS) (a:ByteArray) (s1:RS) (b:ByteArray) (s2:RS):aC Tryz.prog:=zZ (hh _ bB (cs1 89 2 1 (sC l s 32 a s1) (cs1 89 3 1 (sC l s1 32 b s2) bA)) bq)
def vcG (l:List Int) (s:RS) (a:ByteArray) (s1:RS) (b:ByteArray) (s2:RS) (r:kW):Prop :=
 ((0=0/\0=0)/\(32:Int)=32/\True)/\((bV l s s)/\True)/\(bL l s/\jC 32)/\(a,s1)=(strOf (aU l s 32).fst,(aU l s 32).snd)/\((0=0/\0=0)/\(32:Int)=32/\True)/\((bV l s1 s1)/\True)/\(bL l s1/\jC 32)/\(b,s2)=(strOf (aU l s1 32).fst,(aU l s1 32).snd)/\(RS.f s2=true->true=true/\True/\({ data:=#[]:ByteArray }=r.lo/\{ data:=#[]:ByteArray }=r.hi/\True)/\(bV l s2 s2)/\True)/\(RS.f s2=false->true=true/\True/\(a=r.lo/\b=r.hi/\True)/\(bV l s2 s2)/\True)
theorem aby (l:List Int) (s:RS) (a:ByteArray) (s1:RS) (b:ByteArray) (s2:RS) (r:kW):(eU Tryz.prog (gH l s a s1 b s2) 89 [rP] (rM l s) (gR l r s2))=vcG l s a s1 b s2 r:=by kernel_rfl
def eH (l:List Int) (s:RS):Rec×RS :=
 let a:=aB l s;let b:=jF l a.2 32;let c:=aU l b.2 256;let d:=aB l c.2;let e:=aB l d.2
 if e.2.e != 0 then (default,e.2) else (⟨a.1,b.1,c.1,d.1,e.1⟩,e.2)
def xR (l:List Int) (r:Rec) (s':RS):T An:=.ret (.agg (encR r),rM l s',[])
noncomputable def xH (l:List Int) (s:RS) (a:Int) (s1:RS) (b:ByteArray) (s2:RS) (c:List Int) (s3:RS) (d:Int) (s4:RS) (e:Int) (s5:RS):aC Tryz.prog:=zZ (hh _ bB (cs1 127 2 1 (uC l s a s1) (cs1 127 3 1 (sC l s1 32 b s2) (cs1 127 4 1 (yC l s2 256 c s3) (cs1 127 5 1 (uC l s3 d s4) (cs1 127 6 1 (uC l s4 e s5) bA))))) bq)
def vcX (l:List Int) (s:RS) (a:Int) (s1:RS) (b:ByteArray) (s2:RS) (c:List Int) (s3:RS) (d:Int) (s4:RS) (e:Int) (s5:RS) (r:Rec):Prop :=
 ((0=0/\0=0)/\True)/\((bV l s s)/\True)/\bL l s/\(a,s1)=aB l s/\((0=0/\0=0)/\(32:Int)=32/\True)/\((bV l s1 s1)/\True)/\(bL l s1/\jC 32)/\(b,s2)=(strOf (aU l s1 32).fst,(aU l s1 32).snd)/\((0=0/\0=0)/\(256:Int)=256/\True)/\((bV l s2 s2)/\True)/\(bL l s2/\jC 256)/\(c,s3)=aU l s2 256/\((0=0/\0=0)/\True)/\((bV l s3 s3)/\True)/\bL l s3/\(d,s4)=aB l s3/\((0=0/\0=0)/\True)/\((bV l s4 s4)/\True)/\bL l s4/\(e,s5)=aB l s4/\(RS.f s5=true->true=true/\True/\(0=r.off/\{ data:=#[]:ByteArray }=r.key/\r.val.length=0/\0=r.prod/\0=r.seq/\True)/\(bV l s5 s5)/\True)/\(RS.f s5=false->true=true/\True/\(a=r.off/\b=r.key/\(dI c r.val)/\d=r.prod/\e=r.seq/\True)/\(bV l s5 s5)/\True)
theorem acE (l:List Int) (s:RS) (a:Int) (s1:RS) (b:ByteArray) (s2:RS) (c:List Int) (s3:RS) (d:Int) (s4:RS) (e:Int) (s5:RS) (r:Rec):(eU Tryz.prog (xH l s a s1 b s2 c s3 d s4 e s5) 127 [rP] (rM l s) (xR l r s5))=vcX l s a s1 b s2 c s3 d s4 e s5 r:=by kernel_rfl
theorem qI:jC 32:=⟨by decide,by decide⟩
theorem rU:jC 256:=⟨by decide,by decide⟩
theorem g_c (l:List Int) (s:RS) (hs:bL l s):(gR l (j_ l s).1 (j_ l s).2).Sat (au Tryz.prog 89 [rP] (rM l s)):=by
 obtain ⟨a,s1,e1⟩:∃ v t,(v,t)=jF l s 32:=⟨_,_,rfl⟩
 have h1:bL l s1:=by
  have:=mE (most:=32) hs
  rw [show s1=(aU l s 32).2 from congrArg Prod.snd e1]
  exact this
 obtain ⟨b,s2,e2⟩:∃ v t,(v,t)=jF l s1 32:=⟨_,_,rfl⟩
 have hr:j_ l s=(if s2.e != 0 then (default,s2) else (⟨a,b⟩,s2)):=by
  unfold j_
  simp only [<- e1,<- e2]
 have hr2:(j_ l s).2=s2:=by rw [hr];split<;>rfl
 refine dG (ht:=gH l s a s1 b s2) Tryz.mixed rfl ?_
 rw [hr2,aby l s a s1 b s2 (j_ l s).1]
 unfold vcG
 rw [hr]
 have q:=qI
 cases hf:s2.f
 · have h0:(s2.e != 0)=false:=hf
   simp [hs,h1,q,e1,e2,h0]
   exact ⟨rfl,rfl⟩
 · have h0:(s2.e != 0)=true:=hf
   simp [hs,h1,q,e1,e2,h0]
   repeat' with_reducible apply And.intro
   all_goals rfl
noncomputable def gC (l:List Int) (s:RS) (r:kW) (s':RS):dO Tryz.prog:=⟨89,[rP],rM l s,.need (bL l s) (.need ((r,s')=j_ l s) (gR l r s')),T.Sat.need fun h=>T.Sat.need fun e=>by
 have e1:r=(j_ l s).1:=congrArg Prod.fst e
 have e2:s'=(j_ l s).2:=congrArg Prod.snd e
 rw [e1,e2]
 exact g_c l s h⟩
theorem ng {l:List Int} {s:RS} {most:Int} (h:bL l s) {v:ByteArray} {s':RS} (e:(v,s')=jF l s most):bL l s':=by
 rw [show s'=(aU l s most).2 from congrArg Prod.snd e]
 exact mE h
theorem oM {l:List Int} {s:RS} {most:Int} (h:bL l s) {v:List Int} {s':RS} (e:(v,s')=aU l s most):bL l s':=by
 rw [show s'=(aU l s most).2 from congrArg Prod.snd e]
 exact mE h
theorem Jj {l:List Int} {s:RS} (h:bL l s):bL l (j_ l s).2:=by
 have h1:bL l (jF l (jF l s 32).2 32).2:=ng (ng h rfl) rfl
 unfold j_
 simp only
 split<;>exact h1
theorem uK {l:List Int} {s:RS} (h:bL l s):bL l (eH l s).2:=by
 have h1:bL l (aB l (aB l (aU l (jF l (aB l s).2 32).2 256).2).2).2:=(bf (bf (mE (ng (bf h).1 rfl))).1).1
 unfold eH
 simp only
 split<;>exact h1
theorem x_c (l:List Int) (s:RS) (hs:bL l s):(xR l (eH l s).1 (eH l s).2).Sat (au Tryz.prog 127 [rP] (rM l s)):=by
 obtain ⟨a,s1,e1⟩:∃ v t,(v,t)=aB l s:=⟨_,_,rfl⟩
 have h1:=(iF hs e1).1
 obtain ⟨b,s2,e2⟩:∃ v t,(v,t)=jF l s1 32:=⟨_,_,rfl⟩
 have h2:=ng h1 e2
 obtain ⟨c,s3,e3⟩:∃ v t,(v,t)=aU l s2 256:=⟨_,_,rfl⟩
 have h3:=oM h2 e3
 obtain ⟨d,s4,e4⟩:∃ v t,(v,t)=aB l s3:=⟨_,_,rfl⟩
 have h4:=(iF h3 e4).1
 obtain ⟨e,s5,e5⟩:∃ v t,(v,t)=aB l s4:=⟨_,_,rfl⟩
 have hr:eH l s=(if s5.e != 0 then (default,s5) else (⟨a,b,c,d,e⟩,s5)):=by
  unfold eH
  simp only [<- e1,<- e2,<- e3,<- e4,<- e5]
 have hr2:(eH l s).2=s5:=by rw [hr];split<;>rfl
 refine dG (ht:=xH l s a s1 b s2 c s3 d s4 e s5) Tryz.mixed rfl ?_
 rw [hr2,acE l s a s1 b s2 c s3 d s4 e s5 (eH l s).1]
 unfold vcX
 rw [hr]
 have q:=qI
 have q2:=rU
 cases hf:s5.f
 · have h0:(s5.e != 0)=false:=hf
   simp [hs,h1,h2,h3,h4,q,q2,e1,e2,e3,e4,e5,h0]
   rfl
 · have h0:(s5.e != 0)=true:=hf
   simp [hs,h1,h2,h3,h4,q,q2,e1,e2,e3,e4,e5,h0]
   repeat' with_reducible apply And.intro
   all_goals rfl
noncomputable def xC (l:List Int) (s:RS) (r:Rec) (s':RS):dO Tryz.prog:=⟨127,[rP],rM l s,.need (bL l s) (.need ((r,s')=eH l s) (xR l r s')),T.Sat.need fun h=>T.Sat.need fun e=>by
 have e1:r=(eH l s).1:=congrArg Prod.fst e
 have e2:s'=(eH l s).2:=congrArg Prod.snd e
 rw [e1,e2]
 exact x_c l s h⟩
def kJ (l:List Int):Nat->RS->List Rec->List Rec×RS
 | 0,s,a=>(a,s)
 | n+1,s,a=>if s.e != 0 then ([],s) else kJ l n (eH l s).2 (a++[(eH l s).1])
def f_ (l:List Int) (s:RS) (most:Int):List Rec×RS:=kJ l (aK l s most).1.toNat (aK l s most).2 []
def EB (l:List Int):Nat->RS->Bool
 | 0,_=>true
 | n+1,s=>if s.e != 0 then false else EB l n (eH l s).2
structure LQ (l:List Int) (sh:Bool) (t:List Rec) (s':RS) where
 n:Nat
 s:RS
 a:List Rec
 e:kJ l n s a=(t,s')
 f:EB l n s=sh
 h:bL l s
 m:a.length+n<=100000
def lqT (n:Nat) (a:List Rec):List AV:=mkT 29 [(0,rP),(5,.own 2 5 0 a.length),(6,.y (.int .i64 n))]
def lqM (l:List Int) (s:RS) (a:List Rec):List aH:=[.dead,.box 175 [bn true l,.y (.int .i64 s.at_),.opt s.f 206 (TF s)],yZ a]
def lqS (l:List Int) (t:List Rec) (s':RS):Bool->Exit×List AV×List aH
 | true=>(.exit 0,mkT 29 [(0,rP),(5,.own 2 5 0 t.length)],lqM l s' t)
 | false=>(.ret,mkT 29 [(4,.s (.slice none 0 0))],rM l s')
noncomputable def lqH (l:List Int) (s:RS) (r:Rec) (s1:RS):aC Tryz.prog:=zZ (dS (hh _ bB (cs1 85 5 1 (erC l s) (cs1 85 8 2 (xC l s r s1) bA)) bq) (nk 85 8 5 4 noSh))
def vcL (l:List Int) (sh:Bool) (t:List Rec) (s':RS) (q:LQ l sh t s') (r:Rec) (s1:RS):Prop :=
 (decide (0<(q.n:Int))=true->((0=0/\0=0)/\True)/\((bV l q.s q.s)/\True)/\Oh q.s/\((q.s.e != 0)=true->(sh=true->False)/\(sh=false->(True/\True)/\((bV l q.s s')/\True)/\true=true))/\((q.s.e != 0)=false->((0=0/\0=0)/\True)/\((bV l q.s q.s)/\True)/\bL l q.s/\(r,s1)=eH l q.s/\(decide (q.a.length=q.a.length)&&decide (q.a.length+1<=9223372036854775807)&&decide ((q.a.length+1)*64<=140737488355328))=true/\∃ (j:LQ l sh t s'),j.n<q.n/\(((0=0/\0=0)/\(0=0/\q.a.length+1=j.a.length)/\IntKind.i64.wrap ((q.n:Int) - 1)=(j.n:Int)/\True)/\((bV l s1 j.s)/\(q.a.length+1=j.a.length/\ak (q.a.length+1) 5 (aL q.a.length (ah encR q.a) fun (k j:Nat)=>Ax.get [AV.y (.int .u64 r.off),AV.y (.string r.key),AV.ys true 1 r.val.length (ah aD r.val),AV.y (.int .u64 r.prod),AV.y (.int .u64 r.seq)] (k*5+j)) (ah encR j.a))/\True)/\true=true)/\true=true/\(sh=true->(sh=true->true=true)/\(sh=false->true=false))/\(sh=false->(sh=true->false=true)/\(sh=false->false=false))))/\(decide (0<(q.n:Int))=false->(sh=true->((0=0/\0=0)/\(0=0/\q.a.length=t.length)/\True)/\((bV l q.s s')/\(q.a.length=t.length/\ak q.a.length 5 (ah encR q.a) (ah encR t))/\True)/\true=true)/\(sh=false->False))
theorem aaS (l:List Int) (sh:Bool) (t:List Rec) (s':RS) (q:LQ l sh t s') (r:Rec) (s1:RS):(cu Tryz.prog (lqH l q.s r s1) 85 3 (fun q:LQ l sh t s'=>q.n) (fun q=>lqT q.n q.a) (fun q=>lqM l q.s q.a) [2,3] (fun _=>.ite sh (.ret true) (.ret false)) (lqS l t s') q)=vcL l sh t s' q r s1:=by kernel_rfl
noncomputable def agh (l:List Int) (s:RS) (most:Int) (n:Int) (s1:RS) (sh:Bool) (t:List Rec) (s':RS) (q:LQ l sh t s'):aC Tryz.prog:=zZ (dS (hh _ (nu 85 3 (eP (fun q:LQ l sh t s'=>lqT q.n q.a) (fun q=>lqM l q.s q.a) [2,3] (fun _=>.ite sh (.ret true) (.ret false)) (lqS l t s') q) bB) (cs1 85 2 2 (cC l s most n s1) bA) (op1 85 1 0 (.row 54 5) bq)) (nk 85 9 1 779 noSh))
def lR (l:List Int) (t:List Rec) (s':RS):T An:=.ret (bZ true t,rM l s',[2,3])
def aeQ (l:List Int) (s:RS) (most:Int) (n:Int) (s1:RS) (sh:Bool) (t:List Rec) (s':RS) (q:LQ l sh t s'):Prop :=
 ((0=0/\0=0)/\most=most/\True)/\((bV l s s)/\True)/\(bL l s/\jC most)/\(n,s1)=aK l s most/\(((0=0/\0=0)/\(0=0/\0=q.a.length)/\n=(q.n:Int)/\True)/\((bV l s1 q.s)/\(0=q.a.length/\ak 0 5 (fun (x x_1:Nat)=>AV.junk) (ah encR q.a))/\True)/\true=true)/\aQ Tryz.prog 85 3 (aS Tryz.prog 85 3) { t:=lqT q.n q.a,m:=lqM l q.s q.a,mv:=[]:St } (T.map (bU [2,3] (lqS l t s')) ((fun (x:LQ l sh t s')=>T.ite sh (T.ret true) (T.ret false)) q))/\(sh=true->(∀ k,k<t.length->∀ j,j<5->dK (ah encR t k j)=true)/\(true=true/\t.length=t.length/\ak t.length 5 (Ax.rowAt 0 (ah encR t)) (ah encR t))/\(bV l s' s')/\True)/\(sh=false->t.length=0/\(bV l s' s')/\True)
theorem U_ (l:List Int) (s:RS) (most:Int) (n:Int) (s1:RS) (sh:Bool) (t:List Rec) (s':RS) (q:LQ l sh t s'):(eU Tryz.prog (agh l s most n s1 sh t s' q) 85 [rP,.y (.int .i64 most)] (rM l s) (lR l t s'))=aeQ l s most n s1 sh t s' q:=by kernel_rfl
theorem acQ (l:List Int) (sh:Bool) (t:List Rec) (s':RS) (q:LQ l sh t s'):aQ Tryz.prog 85 3 (aS Tryz.prog 85 3) ⟨lqT q.n q.a,lqM l q.s q.a,[]⟩ (T.map (bU [2,3] (lqS l t s')) (.ite sh (.ret true) (.ret false))):=by
 refine dU (P:=Tryz.prog) (f:=85) (k:=3) (ι:=LQ l sh t s') (μ:=fun q=>q.n) (ht:=fun q=>lqH l q.s (eH l q.s).1 (eH l q.s).2) (qG:=fun q=>lqT q.n q.a) (stM:=fun q=>lqM l q.s q.a) (X:=[2,3]) (o:=fun _=>.ite sh (.ret true) (.ret false)) (S:=lqS l t s') Tryz.mixed (fun _=>rfl) (fun q=>?_) q
 rw [aaS l sh t s' q (eH l q.s).1 (eH l q.s).2]
 unfold vcL
 obtain ⟨n,s,a,e,f,h,m⟩:=q
 simp only
 cases n with
 | zero =>
   have e1:a=t:=congrArg Prod.fst e
   have e2:s=s':=congrArg Prod.snd e
   have e3:true=sh:=f
   subst e1 e2 e3
   simp
 | succ n =>
   have hd:decide ((0:Int)<((n+1:Nat):Int))=true:=by simp only [decide_eq_true_eq];omega
   have ho:Oh s:=⟨h.bad⟩
   simp only [hd]
   by_cases he:s.e=0
   · have h0:(s.e != 0)=false:=by simp [he]
     have e1:kJ l n (eH l s).2 (a++[(eH l s).1])=(t,s'):=by
      have:=e
      unfold kJ at this
      simpa [h0] using this
     have e2:EB l n (eH l s).2=sh:=by
      have:=f
      unfold EB at this
      simpa [h0] using this
     have w:IntKind.wrap IntKind.i64 (((n+1:Nat):Int) - 1)=(n:Int):=by rw [wrap_i64 (by omega) (by omega)];omega
     have ha:=jo (enc:=encR) (l:=a) (n:=a.length) (sz:=5) (x:=(eH l s).1) (cs:=encR (eH l s).1) rfl (fun j hj=>bN _)
     simp only [h0,w]
     simp [h,ho]
     refine ⟨by omega,⟨n,(eH l s).2,a++[(eH l s).1],e1,e2,uK h,by simp;omega⟩,by show n<n+1;omega,⟨by simp,rfl⟩,by simp,by simp,ha⟩
   · have h0:(s.e != 0)=true:=by simpa using he
     have e1:([],s)=(t,s'):=by
      have:=e
      unfold kJ at this
      simpa [h0] using this
     have e2:false=sh:=by
      have:=f
      unfold EB at this
      simpa [h0] using this
     have e3:[]=t:=congrArg Prod.fst e1
     have e4:s=s':=congrArg Prod.snd e1
     subst e3 e4 e2
     simp [h0,ho,h]
def lR0 (l:List Int) (t:List Rec) (s':RS):T An:=.ret (bZ true t,rM l s',[])
theorem ag6 {f:FuncId} {args:List AV} {M:List aH} {l:List Int} {t:List Rec} {s:RS} (hM:∀ i,2<=i->getM M i=.dead) (h:(lR l t s).Sat (au Tryz.prog f args M)):(lR0 l t s).Sat (au Tryz.prog f args M):=by
 have h1:au Tryz.prog f args M (bZ true t,rM l s,[2,3]):=jN h
 have h2:au Tryz.prog f args M (bZ true t,rM l s,[]):=lI h1 fun i hi=>by
  rcases List.mem_cons.1 hi with rfl | hi
  · exact .inr (hM _ (by decide))
  · obtain rfl:=List.mem_singleton.1 hi
    exact .inr (hM _ (by decide))
 exact T.Sat.ret h2
theorem Zp (l:List Rec):∀ k,k<l.length->∀ j,j<5->dK (ah encR l k j)=true:=by
 intro k hk j hj
 have:j=0∨j=1∨j=2∨j=3∨j=4:=by omega
 rcases this with rfl | rfl | rfl | rfl | rfl<;>rfl
theorem Ae (l:List Int):∀ n s a,EB l n s=false->(kJ l n s a).1=[]
 | 0,s,a,h=>by simp [EB] at h
 | n+1,s,a,h=>by
   unfold EB at h
   unfold kJ
   by_cases he:s.e=0
   · have h0:(s.e != 0)=false:=by simp [he]
     rw [h0] at h ⊢
     exact Ae l n _ _ h
   · have h0:(s.e != 0)=true:=by simpa using he
     rw [h0]
     rfl
theorem l_c (l:List Int) (s:RS) (most:Int) (hm:jC most) (hm2:most<=4096) (hs:bL l s):(lR0 l (f_ l s most).1 (f_ l s most).2).Sat (au Tryz.prog 85 [rP,.y (.int .i64 most)] (rM l s)):=by
 refine ag6 (fun i hi=>by
  match i,hi with
  | i+2,_=>exact dY i) ?_
 obtain ⟨h1,h2,_⟩:=gI (most:=most) hs
 have hn:(aK l s most).1<=4096:=by
  unfold aK
  split
  · simp
  · split
    · simp
    · split
      · simp
      · rename_i a b c
        have:¬ (most<0∨most<(aB l s).1):=b
        omega
 have h0:=h2.lo
 obtain ⟨sh,hsh⟩:∃ sh,EB l (aK l s most).1.toNat (aK l s most).2=sh:=⟨_,rfl⟩
 have hq:∃ q:LQ l sh (f_ l s most).1 (f_ l s most).2,q.n=(aK l s most).1.toNat/\q.s=(aK l s most).2/\q.a=[]:=⟨⟨(aK l s most).1.toNat,(aK l s most).2,[],rfl,hsh,h1,by simp;omega⟩,rfl,rfl,rfl⟩
 obtain ⟨q,q1,q2,q3⟩:=hq
 have h3:sh=false->(f_ l s most).1=[]:=fun h=>Ae l _ _ [] (hsh.trans h)
 have lp:=acQ l sh (f_ l s most).1 (f_ l s most).2 q
 refine dG (ht:=agh l s most (aK l s most).1 (aK l s most).2 sh (f_ l s most).1 (f_ l s most).2 q) Tryz.mixed rfl ?_
 rw [U_ l s most (aK l s most).1 (aK l s most).2 sh (f_ l s most).1 (f_ l s most).2 q]
 unfold aeQ
 have e0:(((aK l s most).1.toNat:Nat):Int)=(aK l s most).1:=Int.toNat_of_nonneg h0
 have ht:=Zp (f_ l s most).1
 have hr:ak (f_ l s most).1.length 5 (Ax.rowAt 0 (ah encR (f_ l s most).1)) (ah encR (f_ l s most).1):=fun k hk j hj=>bN _
 rw [q1,q2,q3] at lp
 simp only [q1,q2,q3,e0]
 cases sh
 · have h3:=h3 rfl
   rw [h3] at lp
   simp [hs,hm,lp,h3]
 · simp [hs,hm,lp,hr]
   exact ht
noncomputable def lC (l:List Int) (s:RS) (most:Int) (t:List Rec) (s':RS):dO Tryz.prog:=⟨85,[rP,.y (.int .i64 most)],rM l s,.need (bL l s/\jC most/\most<=4096) (.need ((t,s')=f_ l s most) (lR0 l t s')),T.Sat.need fun h=>T.Sat.need fun e=>by
 have e1:t=(f_ l s most).1:=congrArg Prod.fst e
 have e2:s'=(f_ l s most).2:=congrArg Prod.snd e
 rw [e1,e2]
 exact l_c l s most h.2.1 h.2.2 h.1⟩
end J
namespace R
theorem EM (l:List Rec) (y:Rec):ak (l.length+1) 5 (aL l.length (ah encR l) fun k j=>Ax.get [AV.y (Value.int IntKind.u64 y.off),AV.y (Value.string y.key),AV.ys true 1 y.val.length (ah aD y.val),AV.y (Value.int IntKind.u64 y.prod),AV.y (Value.int IntKind.u64 y.seq)] (k*5+j)) (ah encR (l++[y])):=jo rfl fun _ _=>bN _
theorem VO (b:Bool) (l:List Rec) (h:Fb l) (k:Nat):aQ Tryz.prog 141 3 (aS Tryz.prog 141 3) ⟨owT b l k,owM l k,[]⟩ (T.map (bU [0,1,2,3,4] (owS l)) (.ret ())):=by
 refine dU (o:=fun _=>.ret ()) (ht:=owH l) (qG:=owT b l) (stM:=owM l) Tryz.mixed (fun _=>rfl) (fun k=>(Qj b l k).mpr ?_) k
 unfold Zm
 have hn:=h.n
 by_cases hk:k<l.length
 · have hz:decide ((k:Int)<l.length)=true:=by simp;omega
   obtain ⟨o1,o2⟩:=h.o k hk
   have hv:=h.v k hk
   have hw:IntKind.i64.wrap ((k:Int)+1)=((k+1:Nat):Int):=by rw [wrap_i64 (by omega) (by omega)];omega
   have w1:IntKind.i64.wrap (l.getD k default).off=(l.getD k default).off:=wrap_i64 (by omega) (by omega)
   have w2:IntKind.u64.wrap (l.getD k default).off=(l.getD k default).off:=wrap_u64 (by omega) (by omega)
   have ht:=take_one hk
   have hl:(l.take k).length=k:=by simp;omega
   rw [Int.toNat_natCast]
   simp only [hz,hw,w1,w2]
   have e0:(l.getD k default).to (l.getD k default).off=l.getD k default:=rfl
   generalize l.getD k default=x at *
   simp
   have hm:min k l.length=k:=by omega
   rw [hm]
   refine ⟨by omega,⟨by omega,by omega⟩,k+1,by omega,⟨by omega,by omega⟩,by omega,?_⟩
   rw [ht]
   have:=EM (l.take k) x
   rw [hl] at this
   exact this
 · have hz:decide ((k:Int)<l.length)=false:=by simp;omega
   have e1:l.take k=l:=List.take_of_length_le (by omega)
   simp only [hz]
   simp [e1]
theorem ac7 (b:Bool) (l:List Rec) (h:Fb l):(owR l).Sat (au Tryz.prog 141 [bZ b l] []):=by
 refine aR (ht:=afD b l) Tryz.mixed rfl ?_
 rw [OY b l]
 unfold ZC
 have hn:=h.n
 have lp:=VO b l h 0
 have hw:IntKind.i64.wrap ((l.length:Int)+1)=((l.length+1:Nat):Int):=by rw [wrap_i64 (by omega) (by omega)];omega
 rw [hw]
 simp [lp]
 omega
noncomputable def afJ (b:Bool) (l:List Rec):dO Tryz.prog:=⟨141,[bZ b l],[],.need (Fb l) (owR l),T.Sat.need fun h=>ac7 b l h⟩
def gZ (l:List Rec) (x:Rec):Int:=if !dN l then 1 else if 32<x.key.size then 131 else if 256<x.val.length then 144 else if l.length=4096 then 143 else 0
def jc (l:List Rec) (x:Rec):List Rec:=l++[x.to (IntKind.u64.wrap (l.length:Nat))]
def apT (l:List Rec) (x:Rec):T An:=.ite (gZ l x==0) (.ret (.tup [.own 0 5 0 (jc l x).length,.y (.int .u64 l.length),.s (.int .i64 0)],[yZ (jc l x)],[])) (.ret (.tup [.s (.slice none 0 0),.y (.int .u64 0),.y (.int .i64 (gZ l x))],[],[]))
noncomputable def apH (b:Bool) (l:List Rec) (x:Rec):aC Tryz.prog:=hh _ bB (cs1 134 1 1 (lgC b l) (cs1 134 9 1 (afJ b l) (cs1 134 9 5 (afj x l.length) bA))) bq
def afS (b:Bool) (l:List Rec) (x:Rec):Prop :=
 ((b=b/\l.length=l.length/\ak l.length 5 (ah encR l) (ah encR l))/\True)/\True/\l.length<=9223372036854775806/\((!dN l)=true->((gZ l x==0)=true->(False/\0=(l.length:Int)/\(1:Int)=0/\True)/\False)/\((gZ l x==0)=false->(True/\(0:Int)=0/\1=gZ l x/\True)/\True))/\((!dN l)=false->(decide (32<((ByteArray.size x.key):Int))=true->((gZ l x==0)=true->(False/\0=(l.length:Int)/\(131:Int)=0/\True)/\False)/\((gZ l x==0)=false->(True/\(0:Int)=0/\131=gZ l x/\True)/\True))/\(decide (32<((ByteArray.size x.key):Int))=false->(decide (256<(x.val.length:Int))=true->((gZ l x==0)=true->(False/\0=(l.length:Int)/\(144:Int)=0/\True)/\False)/\((gZ l x==0)=false->(True/\(0:Int)=0/\144=gZ l x/\True)/\True))/\(decide (256<(x.val.length:Int))=false->(((l.length:Int)==4096)=true->((gZ l x==0)=true->(False/\0=(l.length:Int)/\(143:Int)=0/\True)/\False)/\((gZ l x==0)=false->(True/\(0:Int)=0/\143=gZ l x/\True)/\True))/\(((l.length:Int)==4096)=false->((b=b/\l.length=l.length/\ak l.length 5 (ah encR l) (ah encR l))/\True)/\True/\Fb l/\((x.off=x.off/\x.key=x.key/\(dI x.val x.val)/\x.prod=x.prod/\x.seq=x.seq/\True)/\(l.length:Int)=(l.length:Int)/\True)/\True/\x.val.length<=140737488355328/\(decide (l.length=l.length)&&decide (l.length+1<=9223372036854775807)&&decide ((l.length+1)*64<=140737488355328))=true/\((gZ l x==0)=true->((0=0/\l.length+1=(jc l x).length)/\IntKind.u64.wrap (l.length:Int)=(l.length:Int)/\(0:Int)=0/\True)/\(l.length+1=(jc l x).length/\ak (l.length+1) 5 (aL l.length (ah encR l) fun (k j:Nat)=>Ax.get [AV.y (.int .u64 (IntKind.u64.wrap (l.length:Int))),AV.y (.string x.key),AV.ys true 1 x.val.length (ah aD x.val),AV.y (.int .u64 x.prod),AV.y (.int .u64 x.seq)] (k*5+j)) (ah encR (jc l x)))/\True)/\((gZ l x==0)=false->False)))))
theorem UY (b:Bool) (l:List Rec) (x:Rec):(aZ Tryz.prog (apH b l x) 134 [bZ b l,.agg (encR x)] [] (apT l x))=afS b l x:=by kernel_rfl
def xP (n:Nat) (o m:Int):Int:=if ((n - o.toNat:Nat):Int)<(if (64:Int)<(if (0:Int) > m then (0:Int) else m) then (64:Int) else if (0:Int) > m then (0:Int) else m) then ((n - o.toNat:Nat):Int) else (if (64:Int)<(if (0:Int) > m then (0:Int) else m) then (64:Int) else if (0:Int) > m then (0:Int) else m)
theorem ac9 (n:Nat) (o m:Int):0<=xP n o m/\xP n o m<=(n - o.toNat:Nat)/\xP n o m<=64:=by
 unfold xP
 split<;>split<;>split<;>omega
def jd (l:List Rec) (o m:Int):List Rec:=(l.drop o.toNat).take (xP l.length o m).toNat
def uL (l:List Rec) (o:Int):Int:=if !dN l then 1 else if (l.length:Int)<o then 141 else 0
def feT (l:List Rec) (o m:Int):T An:=.ite (uL l o==0) (.ret (.tup [.own 0 5 0 (jd l o m).length,.s (.int .i64 0)],[yZ (jd l o m)],[])) (.ret (.tup [.s (.slice none 0 0),.y (.int .i64 (uL l o))],[],[]))
noncomputable def feH (b:Bool) (l:List Rec) (o m:Int):aC Tryz.prog:=hh _ bB (cs1 109 1 1 (lgC b l) (cs1 109 6 7 (afJ b (jd l o m)) bA)) bq
def ad9 (b:Bool) (l:List Rec) (o:Int) (m:Int):Prop :=
 ((b=b/\List.length l=List.length l/\ak (List.length l) (5:Nat) (ah encR l) (ah encR l))/\True)/\True/\List.length l<=(9223372036854775806:Nat)/\((!dN l)=true->((uL l o==(0:Int))=true->(False/\(1:Int)=(0:Int)/\True)/\False)/\((uL l o==(0:Int))=false->(True/\(1:Int)=uL l o/\True)/\True))/\((!dN l)=false->(decide (IntKind.wrap IntKind.u64 (↑(List.length l):Int)<o)=true->((uL l o==(0:Int))=true->(False/\(141:Int)=(0:Int)/\True)/\False)/\((uL l o==(0:Int))=false->(True/\(141:Int)=uL l o/\True)/\True))/\(decide (IntKind.wrap IntKind.u64 (↑(List.length l):Int)<o)=false->(decide ((0:Int)<=o)&&decide (o<=(↑(List.length l):Int))&&decide ((↑(List.length l):Int)<=(↑(List.length l):Int)))=true/\(true&&decide ((0:Int)<=if (↑(Int.toNat (↑(List.length l):Int) - Int.toNat o):Int)<if (64:Int)<if (0:Int) > m then (0:Int) else m then (64:Int) else if (0:Int) > m then (0:Int) else m then (↑(Int.toNat (↑(List.length l):Int) - Int.toNat o):Int) else if (64:Int)<if (0:Int) > m then (0:Int) else m then (64:Int) else if (0:Int) > m then (0:Int) else m)&&decide ((if (↑(Int.toNat (↑(List.length l):Int) - Int.toNat o):Int)<if (64:Int)<if (0:Int) > m then (0:Int) else m then (64:Int) else if (0:Int) > m then (0:Int) else m then (↑(Int.toNat (↑(List.length l):Int) - Int.toNat o):Int) else if (64:Int)<if (0:Int) > m then (0:Int) else m then (64:Int) else if (0:Int) > m then (0:Int) else m)<=(↑(Int.toNat (↑(List.length l):Int) - Int.toNat o):Int)))=true/\((b=b/\Int.toNat (if (↑(Int.toNat (↑(List.length l):Int) - Int.toNat o):Int)<if (64:Int)<if (0:Int) > m then (0:Int) else m then (64:Int) else if (0:Int) > m then (0:Int) else m then (↑(Int.toNat (↑(List.length l):Int) - Int.toNat o):Int) else if (64:Int)<if (0:Int) > m then (0:Int) else m then (64:Int) else if (0:Int) > m then (0:Int) else m) - (0:Nat)=List.length (jd l o m)/\ak (Int.toNat (if (↑(Int.toNat (↑(List.length l):Int) - Int.toNat o):Int)<if (64:Int)<if (0:Int) > m then (0:Int) else m then (64:Int) else if (0:Int) > m then (0:Int) else m then (↑(Int.toNat (↑(List.length l):Int) - Int.toNat o):Int) else if (64:Int)<if (0:Int) > m then (0:Int) else m then (64:Int) else if (0:Int) > m then (0:Int) else m) - (0:Nat)) (5:Nat) (fun (k:Nat)=>ah encR l (Int.toNat o+((0:Nat)+k))) (ah encR (jd l o m)))/\True)/\True/\Fb (jd l o m)/\((uL l o==(0:Int))=true->(((0:Nat)=(0:Nat)/\List.length (jd l o m)=List.length (jd l o m))/\(0:Int)=(0:Int)/\True)/\(List.length (jd l o m)=List.length (jd l o m)/\ak (List.length (jd l o m)) (5:Nat) (ah encR (jd l o m)) (ah encR (jd l o m)))/\True)/\((uL l o==(0:Int))=false->False)))
theorem Vk (b:Bool) (l:List Rec) (o:Int) (m:Int):(aZ Tryz.prog (feH b l o m) 109 [bZ b l,.y (.int .u64 o),.y (.int .i64 m)] [] (feT l o m))=ad9 b l o m:=by kernel_rfl
theorem Jt {l:List Rec} (h:dN l=true):Fb l:=by
 have h1:=pz h
 refine ⟨h1,fun k hk=>?_,fun k hk=>?_⟩
 · simp only [dN,Bool.and_eq_true] at h
   have h2:=h.1
   unfold bP at h2
   rw [List.all_eq_true] at h2
   have h3:=h2 k (by simp;omega)
   simp only [YL,Bool.and_eq_true] at h3
   have h4:=h3.1
   simp at h4
   rw [wrap_u64 (by omega) (by omega)] at h4
   simp
   omega
 · have:=WQ h hk
   omega
theorem aa' {l:List Rec} (h:Fb l) (a b:Nat):Fb ((l.drop a).take b):=by
 have h1:=h.n
 have e:∀ k,k<((l.drop a).take b).length->((l.drop a).take b).getD k default=l.getD (a+k) default/\a+k<l.length:=fun k hk=>by
  simp at hk
  have h3:a+k<l.length:=by omega
  refine ⟨?_,h3⟩
  have h4:k<b:=by omega
  simp [List.getElem?_take,h3,h4]
 refine ⟨by simp;omega,fun k hk=>?_,fun k hk=>?_⟩
 · obtain ⟨e1,e2⟩:=e k hk
   rw [e1];exact h.o _ e2
 · obtain ⟨e1,e2⟩:=e k hk
   rw [e1];exact h.v _ e2
theorem agR (b:Bool) (l:List Rec) (x:Rec) (hl:l.length<=9223372036854775806):(apT l x).Sat (au Tryz.prog 134 [bZ b l,.agg (encR x)] []):=by
 refine aR (ht:=apH b l x) Tryz.mixed rfl ?_
 rw [UY b l x]
 unfold afS
 cases h1:dN l
 · simp [gZ,h1,hl]
 · have hn:=pz h1
   have ho:=Jt h1
   by_cases h2:32<x.key.size
   · have h2':(32:Int)<x.key.size:=by omega
     simp [gZ,h1,hl,h2,h2']
   · have h2':¬ (32:Int)<x.key.size:=by omega
     by_cases h3:256<x.val.length
     · have h3':(256:Int)<x.val.length:=by omega
       simp [gZ,h1,hl,h2,h2',h3,h3']
     · have h3':¬ (256:Int)<x.val.length:=by omega
       by_cases h4:l.length=4096
       · have h4':(l.length:Int)=4096:=by omega
         simp [gZ,h1,hl,h2,h2',h3,h3',h4]
       · have h4':¬ (l.length:Int)=4096:=by omega
         have hw:IntKind.u64.wrap (l.length:Int)=l.length:=wrap_u64 (by omega) (by omega)
         have ha:=EM l (x.to (IntKind.u64.wrap (l.length:Nat)))
         simp [gZ,h1,hl,h2,h2',h3,h3',h4,h4',ho,hw,jc]
         rw [hw] at ha
         exact ⟨by omega,by omega,ha⟩
theorem ahf (b:Bool) (l:List Rec) (o m:Int) (hl:l.length<=9223372036854775806) (h0:0<=o):(feT l o m).Sat (au Tryz.prog 109 [bZ b l,.y (.int .u64 o),.y (.int .i64 m)] []):=by
 refine aR (ht:=feH b l o m) Tryz.mixed rfl ?_
 rw [Vk b l o m]
 unfold ad9
 cases h1:dN l
 · simp [uL,h1,hl]
 · have hn:=pz h1
   have ho:=Jt h1
   have hw:IntKind.u64.wrap (l.length:Int)=l.length:=wrap_u64 (by omega) (by omega)
   rw [hw]
   by_cases h2:(l.length:Int)<o
   · simp [uL,h1,hl,h2]
   · have h2':o<=(l.length:Int):=by omega
     have hs:=aa' ho o.toNat (xP l.length o m).toNat
     obtain ⟨b1,b2,b3⟩:=ac9 l.length o m
     have hL:(jd l o m).length=(xP l.length o m).toNat:=by
      unfold jd
      simp
      omega
     have hc:ak (xP l.length o m).toNat 5 (fun k=>ah encR l (o.toNat+(0+k))) (ah encR (jd l o m)):=by
      intro k hk j hj
      unfold jd ah
      simp [List.getElem?_take,hk]
     rw [Int.toNat_natCast]
     have e1:(if ((l.length - o.toNat:Nat):Int)<(if (64:Int)<(if (0:Int) > m then (0:Int) else m) then (64:Int) else if (0:Int) > m then (0:Int) else m) then ((l.length - o.toNat:Nat):Int) else (if (64:Int)<(if (0:Int) > m then (0:Int) else m) then (64:Int) else if (0:Int) > m then (0:Int) else m))=xP l.length o m:=rfl
     rw [e1]
     have hs2:Fb (jd l o m):=hs
     clear hs
     generalize jd l o m=z at *
     generalize xP l.length o m=n at *
     simp only [Nat.sub_zero,hL]
     have t1:decide (0<=n)=true:=by simp;omega
     have t2:decide (n<=((l.length - o.toNat:Nat):Int))=true:=by simp;omega
     simp only [t1,t2,hc,hs2,hL]
     simp [uL,h1,hl,h2,h2',h0]
noncomputable def apC (l:List Rec) (x:Rec) (b:Bool):dO Tryz.prog:=⟨134,[bZ b l,.agg (encR x)],[],.need (l.length<=9223372036854775806) (apT l x),T.Sat.need fun h=>agR b l x h⟩
noncomputable def feC (b:Bool) (l:List Rec) (o m:Int):dO Tryz.prog:=⟨109,[bZ b l,.y (.int .u64 o),.y (.int .i64 m)],[],.need (l.length<=9223372036854775806/\0<=o) (feT l o m),T.Sat.need fun h=>ahf b l o m h.1 h.2⟩
noncomputable def ahW (b:Bool) (l:List P.Producer):dO Tryz.prog:=⟨101,[P.bG b l],[],.need (l.length*32<=140737488355328) (P.BO l),T.Sat.need fun h=>P.zy b l h⟩
noncomputable def ahY (b:Bool) (l:List Con):dO Tryz.prog:=⟨102,[dR b l],[],.need (l.length*24<=140737488355328) (ccR l),T.Sat.need fun h=>ae9 b l h⟩
def poT (b:Bool) (p:Part) (k:Nat):List AV:=mkT 37 [(1,.ptr 0 0 0 0),(2,.ptr 1 0 0 0),(3,.own 2 5 0 (p.recs.take k).length),(11,bZ b p.recs),(12,.y (.int .i64 p.recs.length)),(13,.y (.int .i64 k))]
def poM (b:Bool) (p:Part) (k:Nat):List aH:=[.box 30 (aW b p),.box 30 (aW true default),yZ (p.recs.take k)]
def poS (b:Bool) (p:Part) (_:Unit):Exit×List AV×List aH:=(.exit 0,mkT 37 [(1,.ptr 0 0 0 0),(2,.ptr 1 0 0 0),(3,.own 2 5 0 p.recs.length)],[.box 30 (aW b p),.box 30 (aW true default),yZ p.recs])
noncomputable def poH (p:Part) (k:Nat):aC Tryz.prog:=dS (hh _ bB (cs1 39 5 2 (KQ true (p.recs.getD k default).val.length (ah aD (p.recs.getD k default).val)) bA) bq) (nk 39 6 1 779 noSh)
def aal (b:Bool) (p:Part) (k:Nat):Prop :=
 (decide ((k:Int)<(p.recs.length:Int))=true->(true&&decide ((k:Int)<(p.recs.length:Int)))=true/\((true=true/\(p.recs.getD (Int.toNat (k:Int)) default).val.length=(p.recs.getD k default).val.length/\ak (p.recs.getD (Int.toNat (k:Int)) default).val.length 1 (ah aD (p.recs.getD (Int.toNat (k:Int)) default).val) (ah aD (p.recs.getD k default).val))/\True)/\True/\(p.recs.getD k default).val.length<=140737488355328/\(∀ k_1,k_1<(p.recs.getD k default).val.length->∀ j,j<1->dK (ah aD (p.recs.getD k default).val k_1 j)=true)/\(decide ((List.take k p.recs).length=(List.take k p.recs).length)&&decide ((List.take k p.recs).length+1<=9223372036854775807)&&decide (((List.take k p.recs).length+1)*64<=140737488355328))=true/\∃ j:Nat,p.recs.length - j<p.recs.length - k/\(((0=0/\0=0)/\(0=0/\0=0)/\(0=0/\(List.take k p.recs).length+1=(List.take j p.recs).length)/\(b=b/\p.recs.length=p.recs.length/\ak p.recs.length 5 (ah encR p.recs) (ah encR p.recs))/\(p.recs.length:Int)=(p.recs.length:Int)/\IntKind.i64.wrap ((k:Int)+1)=(j:Int)/\True)/\((bE b b p p)/\(ByteArray.empty=ByteArray.empty/\ByteArray.empty=ByteArray.empty/\(0:Int)=0/\(0:Int)=0/\(true=true/\0=0/\ak 0 5 (ah encR []) (ah encR []))/\(true=true/\0=0/\ak 0 4 (ah P.ay []) (ah P.ay []))/\(true=true/\0=0/\ak 0 2 (ah aJ []) (ah aJ []))/\True)/\((List.take k p.recs).length+1=(List.take j p.recs).length/\ak ((List.take k p.recs).length+1) 5 (aL (List.take k p.recs).length (ah encR (List.take k p.recs)) fun (k_1 j:Nat)=>Ax.get [AV.y (.int .u64 (p.recs.getD (Int.toNat (k:Int)) default).off),AV.y (.string (p.recs.getD (Int.toNat (k:Int)) default).key),AV.ys true 1 (p.recs.getD k default).val.length (Ax.rowAt 0 (ah aD (p.recs.getD k default).val)),AV.y (.int .u64 (p.recs.getD (Int.toNat (k:Int)) default).prod),AV.y (.int .u64 (p.recs.getD (Int.toNat (k:Int)) default).seq)] (k_1*5+j)) (ah encR (List.take j p.recs)))/\True)/\true=true)/\true=true/\()=())/\(decide ((k:Int)<(p.recs.length:Int))=false->((0=0/\0=0)/\(0=0/\0=0)/\(0=0/\(List.take k p.recs).length=p.recs.length)/\True)/\((bE b b p p)/\(ByteArray.empty=ByteArray.empty/\ByteArray.empty=ByteArray.empty/\(0:Int)=0/\(0:Int)=0/\(true=true/\0=0/\ak 0 5 (ah encR []) (ah encR []))/\(true=true/\0=0/\ak 0 4 (ah P.ay []) (ah P.ay []))/\(true=true/\0=0/\ak 0 2 (ah aJ []) (ah aJ []))/\True)/\((List.take k p.recs).length=p.recs.length/\ak (List.take k p.recs).length 5 (ah encR (List.take k p.recs)) (ah encR p.recs))/\True)/\true=true)
theorem T9 (b:Bool) (p:Part) (k:Nat):(cu Tryz.prog (poH p k) 39 3 (fun k=>p.recs.length - k) (poT b p) (poM b p) [0,1,2,3,4,5,6] (fun _=>.ret ()) (poS b p) k)=aal b p k:=by kernel_rfl
def ptR (p:Part):T An:=.ret (.agg (aW true p),[],[])
noncomputable def YW (b:Bool) (p:Part):aC Tryz.prog:=dS (hh _ (nu 39 3 (eP (poT b p) (poM b p) [0,1,2,3,4,5,6] (fun _=>.ret ()) (poS b p) 0) bB) (cs1 39 8 3 (ahW b p.prods) (cs1 39 8 6 (ahY b p.cons) bA)) bq) (nk 39 9 0 779 noSh)
def Qy (b:Bool) (p:Part):Prop :=
 (0:Int)<=0/\0<=(p.recs.length:Int)/\64*(p.recs.length:Int)<=281474976710656/\(p.recs.length:Int)<=9223372036854775807/\(((0=0/\0=0)/\(0=0/\0=0)/\(0=0/\0=0)/\(b=b/\p.recs.length=p.recs.length/\ak p.recs.length 5 (ah encR p.recs) (ah encR p.recs))/\(p.recs.length:Int)=(p.recs.length:Int)/\(0:Int)=0/\True)/\((bE b b p p)/\({ data:=#[]:ByteArray }=ByteArray.empty/\{ data:=#[]:ByteArray }=ByteArray.empty/\(0:Int)=0/\(0:Int)=0/\0=0/\0=0/\0=0/\True)/\(0=0/\ak 0 5 (fun (x j:Nat)=>Ax.get [AV.s (.int .u64 0),AV.s (Value.string { data:=#[]:ByteArray }),AV.s (Value.slice none 0 0),AV.s (.int .u64 0),AV.s (.int .u64 0)] j) (ah encR []))/\True)/\true=true)/\aQ Tryz.prog 39 3 (aS Tryz.prog 39 3) { t:=poT b p 0,m:=poM b p 0,mv:=[]:St } (T.map (bU [0,1,2,3,4,5,6] (poS b p)) ((fun (x:Nat)=>T.ret ()) 0))/\((b=b/\p.prods.length=p.prods.length/\ak p.prods.length 4 (ah P.ay p.prods) (ah P.ay p.prods))/\True)/\True/\p.prods.length*32<=140737488355328/\((b=b/\p.cons.length=p.cons.length/\ak p.cons.length 2 (ah aJ p.cons) (ah aJ p.cons))/\True)/\True/\p.cons.length*24<=140737488355328/\(∀ k,k<p.recs.length->∀ j,j<5->dK (ah encR p.recs k j)=true)/\(∀ k,k<p.prods.length->∀ j,j<4->dK (ah P.ay p.prods k j)=true)/\(∀ k,k<p.cons.length->∀ j,j<2->dK (ah aJ p.cons k j)=true)/\(p.rng.lo=p.rng.lo/\p.rng.hi=p.rng.hi/\p.epoch=p.epoch/\p.frozen=p.frozen/\(true=true/\p.recs.length=p.recs.length/\ak p.recs.length 5 (Ax.rowAt 0 (ah encR p.recs)) (ah encR p.recs))/\(true=true/\p.prods.length=p.prods.length/\ak p.prods.length 4 (Ax.rowAt 0 (ah P.ay p.prods)) (ah P.ay p.prods))/\(true=true/\p.cons.length=p.cons.length/\ak p.cons.length 2 (Ax.rowAt 0 (ah aJ p.cons)) (ah aJ p.cons))/\True)/\True
theorem N8 (b:Bool) (p:Part):(aZ Tryz.prog (YW b p) 39 [.agg (aW b p)] [] (ptR p))=Qy b p:=by kernel_rfl
noncomputable def juC (b:Bool) (l:List P.Producer) (id s:Int):dO Tryz.prog:=⟨98,[P.bG b l,.y (.int .u64 id),.y (.int .u64 s)],[],.need (l.length<=9223372036854775806) (P.qD l id s),T.Sat.need fun h=>P.MW b l id s h⟩
def okN (c:bJ):Bool:=!(P.bg [] c.prod c.seq==4)
def bF (c:bJ):Bool:=if c.kind=1 then okN c&&(decide ((c.key.size:Int)<=32)&&decide ((c.val.length:Int)<=256)) else if c.kind=2 then decide (1<=c.most)&&decide (c.most<=64) else if c.kind=3 then okN c&&dD c.name else if c.kind=4 then dD c.name else if c.kind=5∨c.kind=6 then !(c.plan==0) else false
noncomputable def weH (c:bJ):aC Tryz.prog:=hh _ bB (cs1 38 3 4 (juC true [] c.prod c.seq) (cs1 38 8 4 (juC true [] c.prod c.seq) (cs1 38 9 5 (Mh c.name) (cs1 38 11 2 (Mh c.name) bA)))) bq
def adv (c:bJ):Prop :=
 ((c.kind==1)=true->(0=0/\c.prod=c.prod/\c.seq=c.seq/\True)/\True/\0<=9223372036854775806/\((P.bg [] c.prod c.seq != 4)=true->(decide (((ByteArray.size c.key):Int)<=32)=true->decide ((c.val.length:Int)<=256)=bF c/\True)/\(decide (((ByteArray.size c.key):Int)<=32)=false->false=bF c/\True))/\((P.bg [] c.prod c.seq != 4)=false->false=bF c/\True))/\((c.kind==1)=false->((c.kind==2)=true->(decide (1<=c.most)=true->decide (c.most<=64)=bF c/\True)/\(decide (1<=c.most)=false->false=bF c/\True))/\((c.kind==2)=false->((c.kind==3)=true->(0=0/\c.prod=c.prod/\c.seq=c.seq/\True)/\True/\0<=9223372036854775806/\((P.bg [] c.prod c.seq != 4)=true->(c.name=c.name/\True)/\True/\dD c.name=bF c/\True)/\((P.bg [] c.prod c.seq != 4)=false->false=bF c/\True))/\((c.kind==3)=false->((c.kind==4)=true->(c.name=c.name/\True)/\True/\dD c.name=bF c/\True)/\((c.kind==4)=false->((c.kind==5)=true->(c.plan != 0)=bF c/\True)/\((c.kind==5)=false->((c.kind==6)=true->(c.plan != 0)=bF c/\True)/\((c.kind==6)=false->false=bF c/\True))))))
theorem Va (c:bJ):(aZ Tryz.prog (weH c) 38 [.agg (dV c)] [] (bM (bF c)))=adv c:=by kernel_rfl
end R
namespace D
structure uf (p:Part):Prop where
 rl:p.recs.length<=4611686018427387903
 pl:p.prods.length<=4611686018427387903
 cl:p.cons.length<=4611686018427387903
 po:∀ x∈p.prods,0<=x.offset/\x.offset<18446744073709551616
 co:wfC p.cons
theorem uf.isIn {p:Part} (h:uf p):eO p:=⟨h.rl,h.pl,h.cl,fun k hk=>(h.po _ (by simp [hk])).1⟩
theorem afq (x:P.Producer) (j:Nat) (hj:j<4):dK (Ax.get (P.ay x) j)=true:=by
 match j,hj with
 | 0,_=>rfl
 | 1,_=>rfl
 | 2,_=>rfl
 | 3,_=>rfl
theorem af8 (x:Con) (j:Nat) (hj:j<2):dK (Ax.get (aJ x) j)=true:=by
 match j,hj with
 | 0,_=>rfl
 | 1,_=>rfl
def bad (p:Part):Bool:=!aX p||IntKind.u64.wrap (p.epoch+1)==0
theorem Ag {p:Part} (h:aX p=true):iG p.rng=0/\p.epoch≠0/\dN p.recs=true/\P.cK p.prods=true/\dJ p.cons=true/\bO p 0=true/\p.prods.any (dB p)=false/\p.cons.any (dw p.recs.length)=false:=by
 simp only [aX,Bool.and_eq_true,Bool.not_eq_true',beq_iff_eq] at h
 obtain ⟨a,b,c,d,e,f,g,i⟩:=h
 exact ⟨a,by simpa using b,c,d,e,f,g,i⟩
end D
namespace R
structure Hf (p:Part):Prop where
 n:p.recs.length<=4096
 v:∀ k,k<p.recs.length->(p.recs.getD k default).val.length<=140737488355328
 pl:p.prods.length<=4294967296
 cl:p.cons.length<=4294967296
theorem XV (b:Bool) (p:Part) (h:Hf p) (k:Nat):aQ Tryz.prog 39 3 (aS Tryz.prog 39 3) ⟨poT b p k,poM b p k,[]⟩ (T.map (bU [0,1,2,3,4,5,6] (poS b p)) (.ret ())):=by
 refine dU (P:=Tryz.prog) (f:=39) (k:=3) (ι:=Nat) (μ:=fun k=>p.recs.length - k) (o:=fun _=>.ret ()) (ht:=poH p) (qG:=poT b p) (stM:=poM b p) (X:=[0,1,2,3,4,5,6]) (S:=poS b p) Tryz.mixed (fun _=>rfl) (fun k=>?_) k
 rw [T9 b p k]
 unfold aal
 have hn:=h.n
 have hv:=h.v
 generalize p.recs=l at *
 by_cases hk:k<l.length
 · have hz:decide ((k:Int)<l.length)=true:=by simp;omega
   have hv:=hv k hk
   have hw:IntKind.i64.wrap ((k:Int)+1)=((k+1:Nat):Int):=by rw [wrap_i64 (by omega) (by omega)];omega
   have ht:=take_one hk
   have hl:(l.take k).length=k:=by simp;omega
   rw [Int.toNat_natCast]
   simp only [hz,hw]
   generalize l.getD k default=x at *
   have tg:∀ (i:Nat),i<x.val.length->∀ (j:Nat),j<1->dK (ah aD x.val i j)=true:=fun i hi j hj=>by
    obtain rfl:j=0:=by omega
    rfl
   have hm:min k l.length=k:=by omega
   have ha:=EM (l.take k) x
   rw [hl] at ha
   simp [tg]
   rw [hm]
   refine ⟨hv,fun i hi=>rfl,⟨by omega,by omega⟩,k+1,by omega,⟨by omega,by omega⟩,by omega,?_⟩
   rw [ht]
   exact ha
 · have hz:decide ((k:Int)<l.length)=false:=by simp;omega
   have e1:l.take k=l:=List.take_of_length_le (by omega)
   simp only [hz]
   simp [e1]
theorem ab5 (b:Bool) (p:Part) (h:Hf p):(ptR p).Sat (au Tryz.prog 39 [.agg (aW b p)] []):=by
 refine aR (ht:=YW b p) Tryz.mixed rfl ?_
 rw [N8 b p]
 unfold Qy
 have hn:=h.n
 have hp:=h.pl
 have hc:=h.cl
 have lp:=XV b p h 0
 have t1:∀ (k:Nat),k<p.recs.length->∀ (j:Nat),j<5->dK (ah encR p.recs k j)=true:=fun k _ j hj=>agb _ j hj
 have t2:∀ (k:Nat),k<p.prods.length->∀ (j:Nat),j<4->dK (ah P.ay p.prods k j)=true:=fun k _ j hj=>D.afq _ j hj
 have t3:∀ (k:Nat),k<p.cons.length->∀ (j:Nat),j<2->dK (ah aJ p.cons k j)=true:=fun k _ j hj=>D.af8 _ j hj
 have eb:({ data:=#[] }:ByteArray)=ByteArray.empty:=rfl
 simp only [lp,t1,t2,t3,eb]
 simp
 exact ⟨by omega,by omega,by omega,by omega,t1,t2,t3⟩
theorem ahX (c:bJ):(bM (bF c)).Sat (au Tryz.prog 38 [.agg (dV c)] []):=by
 refine aR (ht:=weH c) Tryz.mixed rfl ?_
 rw [Va c]
 unfold adv bF okN
 by_cases h1:c.kind=1
 · by_cases h2:P.bg [] c.prod c.seq=4<;>by_cases h3:(c.key.size:Int)<=32<;>simp [h1,h2,h3]
 · by_cases h2:c.kind=2
   · by_cases h3:1<=c.most<;>simp [h2,h3]
   · by_cases h3:c.kind=3
     · by_cases h4:P.bg [] c.prod c.seq=4<;>simp [h3,h4]
     · by_cases h4:c.kind=4
       · simp [h4]
       · by_cases h5:c.kind=5
         · simp [h5];rfl
         · by_cases h6:c.kind=6
           · simp [h6];rfl
           · simp [h1,h2,h3,h4,h5,h6]
noncomputable def MH (b:Bool) (p:Part):dO Tryz.prog:=⟨39,[.agg (aW b p)],[],.need (Hf p) (ptR p),T.Sat.need fun h=>ab5 b p h⟩
noncomputable def weC (c:bJ):dO Tryz.prog:=⟨38,[.agg (dV c)],[],bM (bF c),ahX c⟩
end R
namespace J
def caf {P:Program} (f r p:Nat) (i:Nat) (C:dO P) (els:List AV->FuncId->Nat->Nat->Option (dO P)):List AV->FuncId->Nat->Nat->Option (dO P) :=
 fun ts f' r' p'=>match Nat.beq f f'&&Nat.beq r r'&&Nat.beq p p' with
  | true=>(match get ts i with
    | .s (.bool false)=>some C
    | _=>els ts f' r' p')
  | false=>els ts f' r' p'
def oF (l:List Int):R.bJ×RS :=
 let r_hkind:=jr l default;let hkind:=r_hkind.1;let hs1:=r_hkind.2;let r_hepoch:=aB l hs1;let hepoch:=r_hepoch.1;let hs2:=r_hepoch.2;let r_a_prod:=aB l hs2;let a_prod:=r_a_prod.1;let a_s1:=r_a_prod.2;let r_a_seq:=aB l a_s1;let a_seq:=r_a_seq.1;let a_s2:=r_a_seq.2;let r_a_key:=jF l a_s2 32;let a_key:=r_a_key.1;let a_s3:=r_a_key.2;let r_a_val:=aU l a_s3 256;let a_val:=r_a_val.1;let a_s4:=r_a_val.2;((⟨hkind,hepoch,a_prod,a_seq,a_key,a_val,0,0,ByteArray.empty,0⟩:R.bJ),a_s4)
def vQ (l:List Int):R.bJ×RS :=
 let r_hkind:=jr l default;let hkind:=r_hkind.1;let hs1:=r_hkind.2;let r_hepoch:=aB l hs1;let hepoch:=r_hepoch.1;let hs2:=r_hepoch.2;let r_b_off:=aB l hs2;let b_off:=r_b_off.1;let b_s1:=r_b_off.2;let r_b_most:=jr l b_s1;let b_most:=r_b_most.1;let b_s2:=r_b_most.2;((⟨hkind,hepoch,0,0,ByteArray.empty,[],b_off,b_most,ByteArray.empty,0⟩:R.bJ),b_s2)
def qz (l:List Int):R.bJ×RS :=
 let r_hkind:=jr l default;let hkind:=r_hkind.1;let hs1:=r_hkind.2;let r_hepoch:=aB l hs1;let hepoch:=r_hepoch.1;let hs2:=r_hepoch.2;let r_c_prod:=aB l hs2;let c_prod:=r_c_prod.1;let c_s1:=r_c_prod.2;let r_c_seq:=aB l c_s1;let c_seq:=r_c_seq.1;let c_s2:=r_c_seq.2;let r_c_name:=jF l c_s2 32;let c_name:=r_c_name.1;let c_s3:=r_c_name.2;let r_c_off:=aB l c_s3;let c_off:=r_c_off.1;let c_s4:=r_c_off.2;((⟨hkind,hepoch,c_prod,c_seq,ByteArray.empty,[],c_off,0,c_name,0⟩:R.bJ),c_s4)
def Bc (l:List Int):R.bJ×RS :=
 let r_hkind:=jr l default;let hkind:=r_hkind.1;let hs1:=r_hkind.2;let r_hepoch:=aB l hs1;let hepoch:=r_hepoch.1;let hs2:=r_hepoch.2;let r_d_name:=jF l hs2 32;let d_name:=r_d_name.1;let d_s1:=r_d_name.2;((⟨hkind,hepoch,0,0,ByteArray.empty,[],0,0,d_name,0⟩:R.bJ),d_s1)
def zY (l:List Int):R.bJ×RS :=
 let r_hkind:=jr l default;let hkind:=r_hkind.1;let hs1:=r_hkind.2;let r_hepoch:=aB l hs1;let hepoch:=r_hepoch.1;let hs2:=r_hepoch.2;let r_e_plan:=aB l hs2;let e_plan:=r_e_plan.1;let e_s1:=r_e_plan.2;((⟨hkind,hepoch,0,0,ByteArray.empty,[],0,0,ByteArray.empty,e_plan⟩:R.bJ),e_s1)
def Bq (l:List Int):R.bJ×RS :=
 let r_hkind:=jr l default;let hkind:=r_hkind.1;let hs1:=r_hkind.2;let r_hepoch:=aB l hs1;let hepoch:=r_hepoch.1;let hs2:=r_hepoch.2;((⟨hkind,hepoch,0,0,ByteArray.empty,[],0,0,ByteArray.empty,0⟩:R.bJ),hs2)
def nQ (l:List Int):Int:=(jr l default).1
def fZ (l:List Int):R.bJ×RS:=if nQ l=1 then oF l else if nQ l=2 then vQ l else if nQ l=3 then qz l else if nQ l=4 then Bc l else if nQ l=5∨nQ l=6 then zY l else Bq l
def lU (l:List Int):R.bJ×Int:=if bS l (fZ l).2=0/\R.bF (fZ l).1=true then ((fZ l).1,0) else (default,161)
structure RcP where
 hkind:Int
 hs1:RS
 hepoch:Int
 hs2:RS
 a_prod:Int
 a_s1:RS
 a_seq:Int
 a_s2:RS
 a_key:ByteArray
 a_s3:RS
 a_val:List Int
 a_s4:RS
 b_off:Int
 b_s1:RS
 b_most:Int
 b_s2:RS
 c_prod:Int
 c_s1:RS
 c_seq:Int
 c_s2:RS
 c_name:ByteArray
 c_s3:RS
 c_off:Int
 c_s4:RS
 d_name:ByteArray
 d_s1:RS
 e_plan:Int
 e_s1:RS
def rcR (c:R.bJ) (e:Int):T An:=.ret (.tup [.agg (R.dV c),.y (.int .i64 e)],[],[])
noncomputable def rcH (b:Bool) (l:List Int) (q:RcP):aC Tryz.prog:=KI (zZ (hh _ bB (cs1 26 1 1 (nrC b l) (cs1 26 2 1 (iC l default q.hkind q.hs1) (cs1 26 3 1 (uC l q.hs1 q.hepoch q.hs2) (cs1 26 6 1 (uC l q.hs2 q.a_prod q.a_s1) (cs1 26 6 3 (uC l q.a_s1 q.a_seq q.a_s2) (cs1 26 7 1 (sC l q.a_s2 32 q.a_key q.a_s3) (cs1 26 7 3 (yC l q.a_s3 256 q.a_val q.a_s4) (cs1 26 9 1 (uC l q.hs2 q.b_off q.b_s1) (cs1 26 9 3 (iC l q.b_s1 q.b_most q.b_s2) (cs1 26 11 1 (uC l q.hs2 q.c_prod q.c_s1) (cs1 26 11 3 (uC l q.c_s1 q.c_seq q.c_s2) (cs1 26 12 1 (sC l q.c_s2 32 q.c_name q.c_s3) (cs1 26 12 3 (uC l q.c_s3 q.c_off q.c_s4) (cs1 26 14 1 (sC l q.hs2 32 q.d_name q.d_s1) (cs1 26 17 1 (uC l q.hs2 q.e_plan q.e_s1) bA))))))))))))))) bq)) (cab 26 18 1 16 (dC l q.a_s4) (cab 26 18 5 16 (R.weC ⟨q.hkind,q.hepoch,q.a_prod,q.a_seq,q.a_key,q.a_val,0,0,ByteArray.empty,0⟩) (cab 26 18 1 30 (dC l q.b_s2) (cab 26 18 5 30 (R.weC ⟨q.hkind,q.hepoch,0,0,ByteArray.empty,[],q.b_off,q.b_most,ByteArray.empty,0⟩) (cab 26 18 1 38 (dC l q.c_s4) (cab 26 18 5 38 (R.weC ⟨q.hkind,q.hepoch,q.c_prod,q.c_seq,ByteArray.empty,[],q.c_off,0,q.c_name,0⟩) (cab 26 18 1 52 (dC l q.d_s1) (cab 26 18 5 52 (R.weC ⟨q.hkind,q.hepoch,0,0,ByteArray.empty,[],0,0,q.d_name,0⟩) (cab 26 18 1 57 (dC l q.e_s1) (cab 26 18 5 57 (R.weC ⟨q.hkind,q.hepoch,0,0,ByteArray.empty,[],0,0,ByteArray.empty,q.e_plan⟩) (caf 26 18 1 57 (dC l q.hs2) (caf 26 18 5 57 (R.weC ⟨q.hkind,q.hepoch,0,0,ByteArray.empty,[],0,0,ByteArray.empty,0⟩) abl))))))))))))
def iX (c:R.bJ) (e:Int):Prop:=((0=c.kind/\0=c.epoch/\0=c.prod/\0=c.seq/\{ data:=#[]:ByteArray }=c.key/\c.val.length=0/\0=c.off/\0=c.most/\{ data:=#[]:ByteArray }=c.name/\0=c.plan/\True)/\161=e/\True)
def D8 (l:List Int) (q:RcP) (c:R.bJ) (e:Int):Prop:=((bS l q.e_s1 != 0)=false->((q.hkind=q.hkind/\q.hepoch=q.hepoch/\(0:Int)=0/\(0:Int)=0/\{ data:=#[]:ByteArray }=ByteArray.empty/\0=0/\(0:Int)=0/\(0:Int)=0/\{ data:=#[]:ByteArray }=ByteArray.empty/\q.e_plan=q.e_plan/\True)/\True)/\True/\((!R.bF { kind:=q.hkind,epoch:=q.hepoch,prod:=0,seq:=0,key:=ByteArray.empty,val:=[],off:=0,most:=0,name:=ByteArray.empty,plan:=q.e_plan:R.bJ })=true->(iX c e)/\True)/\((!R.bF { kind:=q.hkind,epoch:=q.hepoch,prod:=0,seq:=0,key:=ByteArray.empty,val:=[],off:=0,most:=0,name:=ByteArray.empty,plan:=q.e_plan:R.bJ })=false->((q.hkind=c.kind/\q.hepoch=c.epoch/\0=c.prod/\0=c.seq/\{ data:=#[]:ByteArray }=c.key/\c.val.length=0/\0=c.off/\0=c.most/\{ data:=#[]:ByteArray }=c.name/\q.e_plan=c.plan/\True)/\0=e/\True)/\True))
def Po (b:Bool) (l:List Int) (q:RcP) (c:R.bJ) (e:Int):Prop :=
 ((b=b/\l.length=l.length/\ak l.length 1 (ah aD l) (ah aD l))/\True)/\True/\LOk l/\((0=0/\0=0)/\True)/\(((dI l l)/\(0:Int)=0/\(false=false/\true=true/\2<=2/\eT 2 (Ax.get [AV.y (.int .i64 0),AV.ifc 31 (AV.y (.int .i64 0))]) (Ax.get [AV.y (.int .i64 0),AV.ifc 31 (AV.y (.int .i64 0))]))/\True)/\True)/\bL l default/\(q.hkind,q.hs1)=(zag (aB l default).fst,(aB l default).snd)/\((0=0/\0=0)/\True)/\((bV l q.hs1 q.hs1)/\True)/\bL l q.hs1/\(q.hepoch,q.hs2)=aB l q.hs1/\((q.hkind==1)=true->((0=0/\0=0)/\True)/\((bV l q.hs2 q.hs2)/\True)/\bL l q.hs2/\(q.a_prod,q.a_s1)=aB l q.hs2/\((0=0/\0=0)/\True)/\((bV l q.a_s1 q.a_s1)/\True)/\bL l q.a_s1/\(q.a_seq,q.a_s2)=aB l q.a_s1/\((0=0/\0=0)/\(32:Int)=32/\True)/\((bV l q.a_s2 q.a_s2)/\True)/\(bL l q.a_s2/\jC 32)/\(q.a_key,q.a_s3)=(strOf (aU l q.a_s2 32).fst,(aU l q.a_s2 32).snd)/\((0=0/\0=0)/\(256:Int)=256/\True)/\((bV l q.a_s3 q.a_s3)/\True)/\(bL l q.a_s3/\jC 256)/\(q.a_val,q.a_s4)=aU l q.a_s3 256/\((0=0/\0=0)/\True)/\((bV l q.a_s4 q.a_s4)/\True)/\bL l q.a_s4/\((bS l q.a_s4 != 0)=true->(iX c e)/\True)/\((bS l q.a_s4 != 0)=false->((q.hkind=q.hkind/\q.hepoch=q.hepoch/\q.a_prod=q.a_prod/\q.a_seq=q.a_seq/\q.a_key=q.a_key/\(dI q.a_val q.a_val)/\(0:Int)=0/\(0:Int)=0/\{ data:=#[]:ByteArray }=ByteArray.empty/\(0:Int)=0/\True)/\True)/\True/\((!R.bF { kind:=q.hkind,epoch:=q.hepoch,prod:=q.a_prod,seq:=q.a_seq,key:=q.a_key,val:=q.a_val,off:=0,most:=0,name:=ByteArray.empty,plan:=0:R.bJ })=true->(iX c e)/\True)/\((!R.bF { kind:=q.hkind,epoch:=q.hepoch,prod:=q.a_prod,seq:=q.a_seq,key:=q.a_key,val:=q.a_val,off:=0,most:=0,name:=ByteArray.empty,plan:=0:R.bJ })=false->((q.hkind=c.kind/\q.hepoch=c.epoch/\q.a_prod=c.prod/\q.a_seq=c.seq/\q.a_key=c.key/\(dI q.a_val c.val)/\0=c.off/\0=c.most/\{ data:=#[]:ByteArray }=c.name/\0=c.plan/\True)/\0=e/\True)/\True)))/\((q.hkind==1)=false->((q.hkind==2)=true->((0=0/\0=0)/\True)/\((bV l q.hs2 q.hs2)/\True)/\bL l q.hs2/\(q.b_off,q.b_s1)=aB l q.hs2/\((0=0/\0=0)/\True)/\((bV l q.b_s1 q.b_s1)/\True)/\bL l q.b_s1/\(q.b_most,q.b_s2)=(zag (aB l q.b_s1).fst,(aB l q.b_s1).snd)/\((0=0/\0=0)/\True)/\((bV l q.b_s2 q.b_s2)/\True)/\bL l q.b_s2/\((bS l q.b_s2 != 0)=true->(iX c e)/\True)/\((bS l q.b_s2 != 0)=false->((q.hkind=q.hkind/\q.hepoch=q.hepoch/\(0:Int)=0/\(0:Int)=0/\{ data:=#[]:ByteArray }=ByteArray.empty/\0=0/\q.b_off=q.b_off/\q.b_most=q.b_most/\{ data:=#[]:ByteArray }=ByteArray.empty/\(0:Int)=0/\True)/\True)/\True/\((!R.bF { kind:=q.hkind,epoch:=q.hepoch,prod:=0,seq:=0,key:=ByteArray.empty,val:=[],off:=q.b_off,most:=q.b_most,name:=ByteArray.empty,plan:=0:R.bJ })=true->(iX c e)/\True)/\((!R.bF { kind:=q.hkind,epoch:=q.hepoch,prod:=0,seq:=0,key:=ByteArray.empty,val:=[],off:=q.b_off,most:=q.b_most,name:=ByteArray.empty,plan:=0:R.bJ })=false->((q.hkind=c.kind/\q.hepoch=c.epoch/\0=c.prod/\0=c.seq/\{ data:=#[]:ByteArray }=c.key/\c.val.length=0/\q.b_off=c.off/\q.b_most=c.most/\{ data:=#[]:ByteArray }=c.name/\0=c.plan/\True)/\0=e/\True)/\True)))/\((q.hkind==2)=false->((q.hkind==3)=true->((0=0/\0=0)/\True)/\((bV l q.hs2 q.hs2)/\True)/\bL l q.hs2/\(q.c_prod,q.c_s1)=aB l q.hs2/\((0=0/\0=0)/\True)/\((bV l q.c_s1 q.c_s1)/\True)/\bL l q.c_s1/\(q.c_seq,q.c_s2)=aB l q.c_s1/\((0=0/\0=0)/\(32:Int)=32/\True)/\((bV l q.c_s2 q.c_s2)/\True)/\(bL l q.c_s2/\jC 32)/\(q.c_name,q.c_s3)=(strOf (aU l q.c_s2 32).fst,(aU l q.c_s2 32).snd)/\((0=0/\0=0)/\True)/\((bV l q.c_s3 q.c_s3)/\True)/\bL l q.c_s3/\(q.c_off,q.c_s4)=aB l q.c_s3/\((0=0/\0=0)/\True)/\((bV l q.c_s4 q.c_s4)/\True)/\bL l q.c_s4/\((bS l q.c_s4 != 0)=true->(iX c e)/\True)/\((bS l q.c_s4 != 0)=false->((q.hkind=q.hkind/\q.hepoch=q.hepoch/\q.c_prod=q.c_prod/\q.c_seq=q.c_seq/\{ data:=#[]:ByteArray }=ByteArray.empty/\0=0/\q.c_off=q.c_off/\(0:Int)=0/\q.c_name=q.c_name/\(0:Int)=0/\True)/\True)/\True/\((!R.bF { kind:=q.hkind,epoch:=q.hepoch,prod:=q.c_prod,seq:=q.c_seq,key:=ByteArray.empty,val:=[],off:=q.c_off,most:=0,name:=q.c_name,plan:=0:R.bJ })=true->(iX c e)/\True)/\((!R.bF { kind:=q.hkind,epoch:=q.hepoch,prod:=q.c_prod,seq:=q.c_seq,key:=ByteArray.empty,val:=[],off:=q.c_off,most:=0,name:=q.c_name,plan:=0:R.bJ })=false->((q.hkind=c.kind/\q.hepoch=c.epoch/\q.c_prod=c.prod/\q.c_seq=c.seq/\{ data:=#[]:ByteArray }=c.key/\c.val.length=0/\q.c_off=c.off/\0=c.most/\q.c_name=c.name/\0=c.plan/\True)/\0=e/\True)/\True)))/\((q.hkind==3)=false->((q.hkind==4)=true->((0=0/\0=0)/\(32:Int)=32/\True)/\((bV l q.hs2 q.hs2)/\True)/\(bL l q.hs2/\jC 32)/\(q.d_name,q.d_s1)=(strOf (aU l q.hs2 32).fst,(aU l q.hs2 32).snd)/\((0=0/\0=0)/\True)/\((bV l q.d_s1 q.d_s1)/\True)/\bL l q.d_s1/\((bS l q.d_s1 != 0)=true->(iX c e)/\True)/\((bS l q.d_s1 != 0)=false->((q.hkind=q.hkind/\q.hepoch=q.hepoch/\(0:Int)=0/\(0:Int)=0/\{ data:=#[]:ByteArray }=ByteArray.empty/\0=0/\(0:Int)=0/\(0:Int)=0/\q.d_name=q.d_name/\(0:Int)=0/\True)/\True)/\True/\((!R.bF { kind:=q.hkind,epoch:=q.hepoch,prod:=0,seq:=0,key:=ByteArray.empty,val:=[],off:=0,most:=0,name:=q.d_name,plan:=0:R.bJ })=true->(iX c e)/\True)/\((!R.bF { kind:=q.hkind,epoch:=q.hepoch,prod:=0,seq:=0,key:=ByteArray.empty,val:=[],off:=0,most:=0,name:=q.d_name,plan:=0:R.bJ })=false->((q.hkind=c.kind/\q.hepoch=c.epoch/\0=c.prod/\0=c.seq/\{ data:=#[]:ByteArray }=c.key/\c.val.length=0/\0=c.off/\0=c.most/\q.d_name=c.name/\0=c.plan/\True)/\0=e/\True)/\True)))/\((q.hkind==4)=false->((q.hkind==5)=true->((0=0/\0=0)/\True)/\((bV l q.hs2 q.hs2)/\True)/\bL l q.hs2/\(q.e_plan,q.e_s1)=aB l q.hs2/\((0=0/\0=0)/\True)/\((bV l q.e_s1 q.e_s1)/\True)/\bL l q.e_s1/\((bS l q.e_s1 != 0)=true->(iX c e)/\True)/\(D8 l q c e))/\((q.hkind==5)=false->((q.hkind==6)=true->((0=0/\0=0)/\True)/\((bV l q.hs2 q.hs2)/\True)/\bL l q.hs2/\(q.e_plan,q.e_s1)=aB l q.hs2/\((0=0/\0=0)/\True)/\((bV l q.e_s1 q.e_s1)/\True)/\bL l q.e_s1/\((bS l q.e_s1 != 0)=true->(iX c e)/\True)/\(D8 l q c e))/\((q.hkind==6)=false->((0=0/\0=0)/\True)/\((bV l q.hs2 q.hs2)/\True)/\bL l q.hs2/\((bS l q.hs2 != 0)=true->(iX c e)/\True)/\((bS l q.hs2 != 0)=false->((q.hkind=q.hkind/\q.hepoch=q.hepoch/\(0:Int)=0/\(0:Int)=0/\{ data:=#[]:ByteArray }=ByteArray.empty/\0=0/\(0:Int)=0/\(0:Int)=0/\{ data:=#[]:ByteArray }=ByteArray.empty/\(0:Int)=0/\True)/\True)/\True/\((!R.bF { kind:=q.hkind,epoch:=q.hepoch,prod:=0,seq:=0,key:=ByteArray.empty,val:=[],off:=0,most:=0,name:=ByteArray.empty,plan:=0:R.bJ })=true->(iX c e)/\True)/\((!R.bF { kind:=q.hkind,epoch:=q.hepoch,prod:=0,seq:=0,key:=ByteArray.empty,val:=[],off:=0,most:=0,name:=ByteArray.empty,plan:=0:R.bJ })=false->((q.hkind=c.kind/\q.hepoch=c.epoch/\0=c.prod/\0=c.seq/\{ data:=#[]:ByteArray }=c.key/\c.val.length=0/\0=c.off/\0=c.most/\{ data:=#[]:ByteArray }=c.name/\0=c.plan/\True)/\0=e/\True)/\True))))))))
theorem Fq (b:Bool) (l:List Int) (q:RcP) (c:R.bJ) (e:Int):(aZ Tryz.prog (rcH b l q) 26 [bn b l] [] (rcR c e))=Po b l q c e:=by kernel_rfl
theorem xV {l:List Int} {s:RS} (h:bL l s) {v:Int} {s':RS} (e:(v,s')=jr l s):bL l s':=by
 rw [show s'=(aB l s).2 from congrArg Prod.snd e]
 exact (bf h).1
theorem EY {l:List Int} (hl:LOk l) (hb:Bytes l):bL l default:=⟨hl.n,Nat.zero_le _,hb,fun _=>rfl⟩
structure iq (l:List Int):Prop where
 n:LOk l
 b:Bytes l
theorem aaU (b:Bool) (l:List Int) (h:iq l):(rcR (lU l).1 (lU l).2).Sat (au Tryz.prog 26 [bn b l] []):=by
 have hl:=h.n
 have k0:=EY h.n h.b
 obtain ⟨hkind,hs1,e_hkind⟩:∃ v t,(v,t)=jr l default:=⟨_,_,rfl⟩
 have k_hs1:=xV k0 e_hkind
 obtain ⟨hepoch,hs2,e_hepoch⟩:∃ v t,(v,t)=aB l hs1:=⟨_,_,rfl⟩
 have k_hs2:=(iF k_hs1 e_hepoch).1
 obtain ⟨a_prod,a_s1,e_a_prod⟩:∃ v t,(v,t)=aB l hs2:=⟨_,_,rfl⟩
 have k_a_s1:=(iF k_hs2 e_a_prod).1
 obtain ⟨a_seq,a_s2,e_a_seq⟩:∃ v t,(v,t)=aB l a_s1:=⟨_,_,rfl⟩
 have k_a_s2:=(iF k_a_s1 e_a_seq).1
 obtain ⟨a_key,a_s3,e_a_key⟩:∃ v t,(v,t)=jF l a_s2 32:=⟨_,_,rfl⟩
 have k_a_s3:=ng k_a_s2 e_a_key
 obtain ⟨a_val,a_s4,e_a_val⟩:∃ v t,(v,t)=aU l a_s3 256:=⟨_,_,rfl⟩
 have k_a_s4:=oM k_a_s3 e_a_val
 obtain ⟨b_off,b_s1,e_b_off⟩:∃ v t,(v,t)=aB l hs2:=⟨_,_,rfl⟩
 have k_b_s1:=(iF k_hs2 e_b_off).1
 obtain ⟨b_most,b_s2,e_b_most⟩:∃ v t,(v,t)=jr l b_s1:=⟨_,_,rfl⟩
 have k_b_s2:=xV k_b_s1 e_b_most
 obtain ⟨c_prod,c_s1,e_c_prod⟩:∃ v t,(v,t)=aB l hs2:=⟨_,_,rfl⟩
 have k_c_s1:=(iF k_hs2 e_c_prod).1
 obtain ⟨c_seq,c_s2,e_c_seq⟩:∃ v t,(v,t)=aB l c_s1:=⟨_,_,rfl⟩
 have k_c_s2:=(iF k_c_s1 e_c_seq).1
 obtain ⟨c_name,c_s3,e_c_name⟩:∃ v t,(v,t)=jF l c_s2 32:=⟨_,_,rfl⟩
 have k_c_s3:=ng k_c_s2 e_c_name
 obtain ⟨c_off,c_s4,e_c_off⟩:∃ v t,(v,t)=aB l c_s3:=⟨_,_,rfl⟩
 have k_c_s4:=(iF k_c_s3 e_c_off).1
 obtain ⟨d_name,d_s1,e_d_name⟩:∃ v t,(v,t)=jF l hs2 32:=⟨_,_,rfl⟩
 have k_d_s1:=ng k_hs2 e_d_name
 obtain ⟨e_plan,e_s1,e_e_plan⟩:∃ v t,(v,t)=aB l hs2:=⟨_,_,rfl⟩
 have k_e_s1:=(iF k_hs2 e_e_plan).1
 have hr1:oF l=(⟨hkind,hepoch,a_prod,a_seq,a_key,a_val,0,0,ByteArray.empty,0⟩,a_s4):=by
  unfold oF
  simp only [<- e_hkind,<- e_hepoch,<- e_a_prod,<- e_a_seq,<- e_a_key,<- e_a_val]
 have hr2:vQ l=(⟨hkind,hepoch,0,0,ByteArray.empty,[],b_off,b_most,ByteArray.empty,0⟩,b_s2):=by
  unfold vQ
  simp only [<- e_hkind,<- e_hepoch,<- e_b_off,<- e_b_most]
 have hr3:qz l=(⟨hkind,hepoch,c_prod,c_seq,ByteArray.empty,[],c_off,0,c_name,0⟩,c_s4):=by
  unfold qz
  simp only [<- e_hkind,<- e_hepoch,<- e_c_prod,<- e_c_seq,<- e_c_name,<- e_c_off]
 have hr4:Bc l=(⟨hkind,hepoch,0,0,ByteArray.empty,[],0,0,d_name,0⟩,d_s1):=by
  unfold Bc
  simp only [<- e_hkind,<- e_hepoch,<- e_d_name]
 have hr5:zY l=(⟨hkind,hepoch,0,0,ByteArray.empty,[],0,0,ByteArray.empty,e_plan⟩,e_s1):=by
  unfold zY
  simp only [<- e_hkind,<- e_hepoch,<- e_e_plan]
 have hr0:Bq l=(⟨hkind,hepoch,0,0,ByteArray.empty,[],0,0,ByteArray.empty,0⟩,hs2):=by
  unfold Bq
  simp only [<- e_hkind,<- e_hepoch]
 have hk:nQ l=hkind:=by
  unfold nQ
  rw [<- e_hkind]
 refine aR (ht:=rcH b l ⟨hkind,hs1,hepoch,hs2,a_prod,a_s1,a_seq,a_s2,a_key,a_s3,a_val,a_s4,b_off,b_s1,b_most,b_s2,c_prod,c_s1,c_seq,c_s2,c_name,c_s3,c_off,c_s4,d_name,d_s1,e_plan,e_s1⟩) Tryz.mixed rfl ?_
 rw [Fq b l ⟨hkind,hs1,hepoch,hs2,a_prod,a_s1,a_seq,a_s2,a_key,a_s3,a_val,a_s4,b_off,b_s1,b_most,b_s2,c_prod,c_s1,c_seq,c_s2,c_name,c_s3,c_off,c_s4,d_name,d_s1,e_plan,e_s1⟩ (lU l).1 (lU l).2]
 unfold Po D8 iX
 have q:=qI
 have q2:=rU
 have z0:(default:R.bJ)=⟨0,0,0,0,ByteArray.empty,[],0,0,ByteArray.empty,0⟩:=rfl
 have z1:ByteArray.empty=(⟨#[]⟩:ByteArray):=rfl
 have fin:∀ (c:R.bJ) (s:RS),fZ l=(c,s)->lU l=(if bS l s=0/\R.bF c=true then (c,0) else (default,161)):=by
  intro c s e
  unfold lU
  rw [e]
 obtain ⟨p_hkind,p2_hkind⟩:=Prod.mk.inj e_hkind
 obtain ⟨p_a_key,p2_a_key⟩:=Prod.mk.inj e_a_key
 obtain ⟨p_b_most,p2_b_most⟩:=Prod.mk.inj e_b_most
 obtain ⟨p_c_name,p2_c_name⟩:=Prod.mk.inj e_c_name
 obtain ⟨p_d_name,p2_d_name⟩:=Prod.mk.inj e_d_name
 by_cases m1:hkind=1
 · 
   have hf:=fin _ _ (show fZ l=(⟨hkind,hepoch,a_prod,a_seq,a_key,a_val,0,0,ByteArray.empty,0⟩,a_s4) from by unfold fZ;rw [hk];simp [m1,hr1])
   rw [hf]
   by_cases hd:bS l a_s4=0
   · cases hw:R.bF (⟨hkind,hepoch,a_prod,a_seq,a_key,a_val,0,0,ByteArray.empty,0⟩:R.bJ)
     · simp [m1,hl,k0,q,q2,k_hs1,k_hs2,k_a_s1,k_a_s2,k_a_s3,k_a_s4,k_b_s1,k_b_s2,k_c_s1,k_c_s2,k_c_s3,k_c_s4,k_d_s1,k_e_s1,hd,hw,z0,z1]
       repeat' with_reducible apply And.intro
       all_goals first | assumption | (rw [<- m1];assumption)
     · simp [m1,hl,k0,q,q2,k_hs1,k_hs2,k_a_s1,k_a_s2,k_a_s3,k_a_s4,k_b_s1,k_b_s2,k_c_s1,k_c_s2,k_c_s3,k_c_s4,k_d_s1,k_e_s1,hd,hw,z0,z1]
       repeat' with_reducible apply And.intro
       all_goals first | assumption | (rw [<- m1];assumption)
   · simp [m1,hl,k0,q,q2,k_hs1,k_hs2,k_a_s1,k_a_s2,k_a_s3,k_a_s4,k_b_s1,k_b_s2,k_c_s1,k_c_s2,k_c_s3,k_c_s4,k_d_s1,k_e_s1,hd,z0,z1]
     repeat' with_reducible apply And.intro
     all_goals first | assumption | (rw [<- m1];assumption)
 by_cases m2:hkind=2
 · 
   have hf:=fin _ _ (show fZ l=(⟨hkind,hepoch,0,0,ByteArray.empty,[],b_off,b_most,ByteArray.empty,0⟩,b_s2) from by unfold fZ;rw [hk];simp [m2,hr2])
   rw [hf]
   by_cases hd:bS l b_s2=0
   · cases hw:R.bF (⟨hkind,hepoch,0,0,ByteArray.empty,[],b_off,b_most,ByteArray.empty,0⟩:R.bJ)
     · simp [m2,hl,k0,q,q2,k_hs1,k_hs2,k_a_s1,k_a_s2,k_a_s3,k_a_s4,k_b_s1,k_b_s2,k_c_s1,k_c_s2,k_c_s3,k_c_s4,k_d_s1,k_e_s1,hd,hw,z0,z1]
       repeat' with_reducible apply And.intro
       all_goals first | assumption | (rw [<- m2];assumption)
     · simp [m2,hl,k0,q,q2,k_hs1,k_hs2,k_a_s1,k_a_s2,k_a_s3,k_a_s4,k_b_s1,k_b_s2,k_c_s1,k_c_s2,k_c_s3,k_c_s4,k_d_s1,k_e_s1,hd,hw,z0,z1]
       repeat' with_reducible apply And.intro
       all_goals first | assumption | (rw [<- m2];assumption)
   · simp [m2,hl,k0,q,q2,k_hs1,k_hs2,k_a_s1,k_a_s2,k_a_s3,k_a_s4,k_b_s1,k_b_s2,k_c_s1,k_c_s2,k_c_s3,k_c_s4,k_d_s1,k_e_s1,hd,z0,z1]
     repeat' with_reducible apply And.intro
     all_goals first | assumption | (rw [<- m2];assumption)
 by_cases m3:hkind=3
 · 
   have hf:=fin _ _ (show fZ l=(⟨hkind,hepoch,c_prod,c_seq,ByteArray.empty,[],c_off,0,c_name,0⟩,c_s4) from by unfold fZ;rw [hk];simp [m3,hr3])
   rw [hf]
   by_cases hd:bS l c_s4=0
   · cases hw:R.bF (⟨hkind,hepoch,c_prod,c_seq,ByteArray.empty,[],c_off,0,c_name,0⟩:R.bJ)
     · simp [m3,hl,k0,q,q2,k_hs1,k_hs2,k_a_s1,k_a_s2,k_a_s3,k_a_s4,k_b_s1,k_b_s2,k_c_s1,k_c_s2,k_c_s3,k_c_s4,k_d_s1,k_e_s1,hd,hw,z0,z1]
       repeat' with_reducible apply And.intro
       all_goals first | assumption | (rw [<- m3];assumption)
     · simp [m3,hl,k0,q,q2,k_hs1,k_hs2,k_a_s1,k_a_s2,k_a_s3,k_a_s4,k_b_s1,k_b_s2,k_c_s1,k_c_s2,k_c_s3,k_c_s4,k_d_s1,k_e_s1,hd,hw,z0,z1]
       repeat' with_reducible apply And.intro
       all_goals first | assumption | (rw [<- m3];assumption)
   · simp [m3,hl,k0,q,q2,k_hs1,k_hs2,k_a_s1,k_a_s2,k_a_s3,k_a_s4,k_b_s1,k_b_s2,k_c_s1,k_c_s2,k_c_s3,k_c_s4,k_d_s1,k_e_s1,hd,z0,z1]
     repeat' with_reducible apply And.intro
     all_goals first | assumption | (rw [<- m3];assumption)
 by_cases m4:hkind=4
 · 
   have hf:=fin _ _ (show fZ l=(⟨hkind,hepoch,0,0,ByteArray.empty,[],0,0,d_name,0⟩,d_s1) from by unfold fZ;rw [hk];simp [m4,hr4])
   rw [hf]
   by_cases hd:bS l d_s1=0
   · cases hw:R.bF (⟨hkind,hepoch,0,0,ByteArray.empty,[],0,0,d_name,0⟩:R.bJ)
     · simp [m4,hl,k0,q,q2,k_hs1,k_hs2,k_a_s1,k_a_s2,k_a_s3,k_a_s4,k_b_s1,k_b_s2,k_c_s1,k_c_s2,k_c_s3,k_c_s4,k_d_s1,k_e_s1,hd,hw,z0,z1]
       repeat' with_reducible apply And.intro
       all_goals first | assumption | (rw [<- m4];assumption)
     · simp [m4,hl,k0,q,q2,k_hs1,k_hs2,k_a_s1,k_a_s2,k_a_s3,k_a_s4,k_b_s1,k_b_s2,k_c_s1,k_c_s2,k_c_s3,k_c_s4,k_d_s1,k_e_s1,hd,hw,z0,z1]
       repeat' with_reducible apply And.intro
       all_goals first | assumption | (rw [<- m4];assumption)
   · simp [m4,hl,k0,q,q2,k_hs1,k_hs2,k_a_s1,k_a_s2,k_a_s3,k_a_s4,k_b_s1,k_b_s2,k_c_s1,k_c_s2,k_c_s3,k_c_s4,k_d_s1,k_e_s1,hd,z0,z1]
     repeat' with_reducible apply And.intro
     all_goals first | assumption | (rw [<- m4];assumption)
 by_cases m5:hkind=5
 · 
   have hf:=fin _ _ (show fZ l=(⟨hkind,hepoch,0,0,ByteArray.empty,[],0,0,ByteArray.empty,e_plan⟩,e_s1) from by unfold fZ;rw [hk];simp [m5,hr5])
   rw [hf]
   by_cases hd:bS l e_s1=0
   · cases hw:R.bF (⟨hkind,hepoch,0,0,ByteArray.empty,[],0,0,ByteArray.empty,e_plan⟩:R.bJ)
     · simp [m5,hl,k0,q,q2,k_hs1,k_hs2,k_a_s1,k_a_s2,k_a_s3,k_a_s4,k_b_s1,k_b_s2,k_c_s1,k_c_s2,k_c_s3,k_c_s4,k_d_s1,k_e_s1,hd,hw,z0,z1]
       repeat' with_reducible apply And.intro
       all_goals first | assumption | (rw [<- m5];assumption)
     · simp [m5,hl,k0,q,q2,k_hs1,k_hs2,k_a_s1,k_a_s2,k_a_s3,k_a_s4,k_b_s1,k_b_s2,k_c_s1,k_c_s2,k_c_s3,k_c_s4,k_d_s1,k_e_s1,hd,hw,z0,z1]
       repeat' with_reducible apply And.intro
       all_goals first | assumption | (rw [<- m5];assumption)
   · simp [m5,hl,k0,q,q2,k_hs1,k_hs2,k_a_s1,k_a_s2,k_a_s3,k_a_s4,k_b_s1,k_b_s2,k_c_s1,k_c_s2,k_c_s3,k_c_s4,k_d_s1,k_e_s1,hd,z0,z1]
     repeat' with_reducible apply And.intro
     all_goals first | assumption | (rw [<- m5];assumption)
 by_cases m6:hkind=6
 · 
   have hf:=fin _ _ (show fZ l=(⟨hkind,hepoch,0,0,ByteArray.empty,[],0,0,ByteArray.empty,e_plan⟩,e_s1) from by unfold fZ;rw [hk];simp [m6,hr5])
   rw [hf]
   by_cases hd:bS l e_s1=0
   · cases hw:R.bF (⟨hkind,hepoch,0,0,ByteArray.empty,[],0,0,ByteArray.empty,e_plan⟩:R.bJ)
     · simp [m6,hl,k0,q,q2,k_hs1,k_hs2,k_a_s1,k_a_s2,k_a_s3,k_a_s4,k_b_s1,k_b_s2,k_c_s1,k_c_s2,k_c_s3,k_c_s4,k_d_s1,k_e_s1,hd,hw,z0,z1]
       repeat' with_reducible apply And.intro
       all_goals first | assumption | (rw [<- m6];assumption)
     · simp [m6,hl,k0,q,q2,k_hs1,k_hs2,k_a_s1,k_a_s2,k_a_s3,k_a_s4,k_b_s1,k_b_s2,k_c_s1,k_c_s2,k_c_s3,k_c_s4,k_d_s1,k_e_s1,hd,hw,z0,z1]
       repeat' with_reducible apply And.intro
       all_goals first | assumption | (rw [<- m6];assumption)
   · simp [m6,hl,k0,q,q2,k_hs1,k_hs2,k_a_s1,k_a_s2,k_a_s3,k_a_s4,k_b_s1,k_b_s2,k_c_s1,k_c_s2,k_c_s3,k_c_s4,k_d_s1,k_e_s1,hd,z0,z1]
     repeat' with_reducible apply And.intro
     all_goals first | assumption | (rw [<- m6];assumption)
 · 
   have hf:=fin _ _ (show fZ l=(⟨hkind,hepoch,0,0,ByteArray.empty,[],0,0,ByteArray.empty,0⟩,hs2) from by unfold fZ;rw [hk];simp [m1,m2,m3,m4,m5,m6,hr0])
   rw [hf]
   by_cases hd:bS l hs2=0
   · cases hw:R.bF (⟨hkind,hepoch,0,0,ByteArray.empty,[],0,0,ByteArray.empty,0⟩:R.bJ)
     · simp [m1,m2,m3,m4,m5,m6,hl,k0,q,q2,k_hs1,k_hs2,k_a_s1,k_a_s2,k_a_s3,k_a_s4,k_b_s1,k_b_s2,k_c_s1,k_c_s2,k_c_s3,k_c_s4,k_d_s1,k_e_s1,hd,hw,z0,z1]
       repeat' with_reducible apply And.intro
       all_goals first | assumption | (rw [<- m6];assumption)
     · simp [m1,m2,m3,m4,m5,m6,hl,k0,q,q2,k_hs1,k_hs2,k_a_s1,k_a_s2,k_a_s3,k_a_s4,k_b_s1,k_b_s2,k_c_s1,k_c_s2,k_c_s3,k_c_s4,k_d_s1,k_e_s1,hd,hw,z0,z1]
       repeat' with_reducible apply And.intro
       all_goals first | assumption | (rw [<- m6];assumption)
   · simp [m1,m2,m3,m4,m5,m6,hl,k0,q,q2,k_hs1,k_hs2,k_a_s1,k_a_s2,k_a_s3,k_a_s4,k_b_s1,k_b_s2,k_c_s1,k_c_s2,k_c_s3,k_c_s4,k_d_s1,k_e_s1,hd,z0,z1]
     repeat' with_reducible apply And.intro
     all_goals first | assumption | (rw [<- m6];assumption)
noncomputable def rcC (b:Bool) (l:List Int) (c:R.bJ) (e:Int):dO Tryz.prog:=⟨26,[bn b l],[],.need (iq l) (.need ((c,e)=lU l) (rcR c e)),T.Sat.need fun h=>T.Sat.need fun q=>by
 have e1:c=(lU l).1:=congrArg Prod.fst q
 have e2:e=(lU l).2:=congrArg Prod.snd q
 rw [e1,e2]
 exact aaU b l h⟩
end J
end Go.Proofs.YtnbhdjadlbhknaaGreatDoor
