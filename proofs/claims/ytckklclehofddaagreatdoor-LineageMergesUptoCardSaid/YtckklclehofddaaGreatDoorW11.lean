/- PROVED: what becomes of two states that are joined is the document's, for states of a size that can be. Conditions: none beside the statement's own. -/
import Derived.Test.YtckklclehofddaaGreatDoorRows
import Derived.Test.YtckklclehofddaaGreatDoorTie
import Derived.Test.YtckklclehofddaaGreatDoorCards
import Derived.OpenShut
import Derived.Lay
import Derived.Handed
import Derived.SevenTiedAt
import Derived.Deep.DeepHandedRow
import Derived.Test.YtckklclehofddaaGreatDoorE12
import Derived.Test.YtckklclehofddaaGreatDoorW6
import Derived.Test.YtckklclehofddaaGreatDoorW10
set_option linter.unusedVariables false
set_option linter.unusedSimpArgs false
set_option linter.unusedSectionVars false
namespace Go.Proofs.YtckklclehofddaaGreatDoor.Q
open Go.Ax Go.Proofs.YtckklclehofddaaGreatDoor Go.Proofs.YtckklclehofddaaGreatDoor.H Go.Proofs.YtckklclehofddaaGreatDoor.D Go.Proofs.YtckklclehofddaaGreatDoor.J
set_option maxRecDepth 1000000
theorem run_mem (Q:Rec->Prop) (hq:∀ x o,Q x->Q (x.to o)):∀ (n:Nat) (s s':Jo),joinN n s=some s'->(∀ x∈s.a,Q x)->(∀ x∈s.b,Q x)->(∀ x∈s.out,Q x)->∀ x∈s'.out,Q x
 | 0,s,s',h,_,_,h3=>by rw [joinN] at h;cases h;exact h3
 | n+1,s,s',h,h1,h2,h3=>by
   rw [joinN] at h
   by_cases hA:s.tA=true
   · rw [if_pos hA] at h
     unfold Jo.tA at hA
     have hp:0<s.a.length:=pos_of_ne ((Bool.and_eq_true _ _).mp hA).1
     refine run_mem Q hq n s.goA s' h (fun x hx=>h1 x (List.mem_of_mem_tail hx)) h2 fun x hx=>?_
     rcases List.mem_append.1 hx with hx | hx
     · exact h3 x hx
     · rw [List.mem_singleton.1 hx];exact hq _ _ (h1 _ (hd_mem hp))
   · rw [if_neg hA] at h
     by_cases hB:s.tB=true
     · rw [if_pos hB] at h
       unfold Jo.tB at hB
       have hp:0<s.b.length:=pos_of_ne ((Bool.and_eq_true _ _).mp hB).1
       refine run_mem Q hq n s.goB s' h h1 (fun x hx=>h2 x (List.mem_of_mem_tail hx)) fun x hx=>?_
       rcases List.mem_append.1 hx with hx | hx
       · exact h3 x hx
       · rw [List.mem_singleton.1 hx];exact hq _ _ (h2 _ (hd_mem hp))
     · rw [if_neg hB] at h
       cases h
def joS (a b:List Rec):Jo:=((jo0 a b).run.getD (jo0 a b)).end
theorem jo_ok {a b:List Rec} (h:joU a b=0):JoinOk a b (joS a b).out (joS a b).ta (joS a b).tb:=by
 unfold joU at h
 by_cases h1:(isLog a&&isLog b)=true
 · rw [if_pos h1] at h
   by_cases h2:a.length+b.length<=4096
   · rw [if_pos h2] at h
     cases h3:(jo0 a b).run with
     | none=>rw [h3] at h;simp at h
     | some s =>
       obtain ⟨la,lb⟩:=(Bool.and_eq_true _ _).mp h1
       refine ⟨la,lb,h2,s,h3,?_,?_,?_⟩<;>simp [joS,h3]
   · rw [if_neg h2] at h;cases h
 · rw [if_neg h1] at h;cases h
theorem jn_of {a b:List Rec} (ha:a.length<=4611686018427387903) (hb:b.length<=4611686018427387903):JnN a b (joU a b) (joS a b).out (joS a b).ta (joS a b).tb :=
 ⟨ha,hb,rfl,fun e=>(jo_ok e).r⟩
theorem jo_mem {a b:List Rec} (Q:Rec->Prop) (hq:∀ x o,Q x->Q (x.to o)) (h:joU a b=0) (ha:∀ x∈a,Q x) (hb:∀ x∈b,Q x):∀ x∈(joS a b).out,Q x:=by
 obtain ⟨_,_,_,s,hs,e,_,_⟩:=jo_ok h
 rw [e]
 exact run_mem Q hq _ (jo0 a b) s hs ha hb fun _ hx=>by cases hx
def mkx (a b:Part):Mgv :=
 ⟨a,b,(joS a.recs b.recs).out,(joS a.recs b.recs).ta,(joS a.recs b.recs).tb,P.bothL a.prods b.prods (joS a.recs b.recs).ta (joS a.recs b.recs).tb,Go.Proofs.YtckklclehofddaaGreatDoor.D.conB a.cons b.cons (joS a.recs b.recs).ta (joS a.recs b.recs).tb,0,kmE a.rng b.rng,joU a.recs b.recs,P.bothE a.prods b.prods (joS a.recs b.recs).ta (joS a.recs b.recs).tb,bothE a.cons b.cons (joS a.recs b.recs).ta (joS a.recs b.recs).tb,
  partOk (Mgv.m ⟨a,b,(joS a.recs b.recs).out,(joS a.recs b.recs).ta,(joS a.recs b.recs).tb,P.bothL a.prods b.prods (joS a.recs b.recs).ta (joS a.recs b.recs).tb,Go.Proofs.YtckklclehofddaaGreatDoor.D.conB a.cons b.cons (joS a.recs b.recs).ta (joS a.recs b.recs).tb,0,0,0,0,0,false,0⟩),
  moE a b (IntKind.u64.wrap ((if b.epoch > a.epoch then b.epoch else a.epoch)+1)) (kmE a.rng b.rng) (joU a.recs b.recs) (P.bothE a.prods b.prods (joS a.recs b.recs).ta (joS a.recs b.recs).tb) (bothE a.cons b.cons (joS a.recs b.recs).ta (joS a.recs b.recs).tb) (partOk (Mgv.m ⟨a,b,(joS a.recs b.recs).out,(joS a.recs b.recs).ta,(joS a.recs b.recs).tb,P.bothL a.prods b.prods (joS a.recs b.recs).ta (joS a.recs b.recs).tb,Go.Proofs.YtckklclehofddaaGreatDoor.D.conB a.cons b.cons (joS a.recs b.recs).ta (joS a.recs b.recs).tb,0,0,0,0,0,false,0⟩))⟩
structure Fct (a b:Part) (out:List Rec) (ta tb:List Int):Prop where
 pi:PbIn a.prods b.prods ta tb
 ci:CbIn a.cons b.cons ta tb
 n:out.length<=4096
 ja:bd ta out.length
 jb:bd tb out.length
 na:¬ ta.length=0
 nb:¬ tb.length=0
 pa:P.isTable a.prods=true
 pb:P.isTable b.prods=true
 ca:isCons a.cons=true
 cb:isCons b.cons=true
theorem fct {a b:Part} (ha:PartTy a) (hb:PartTy b) (oa:partOk a=true) (ob:partOk b=true) {out:List Rec} {ta tb:List Int} (jo:JoinOk a.recs b.recs out ta tb):Fct a b out ta tb:=by
 obtain ⟨_,_,la,pa,ca,_⟩:=ok_parts oa
 obtain ⟨_,_,lb,pb,cb,_⟩:=ok_parts ob
 obtain ⟨jf,ja,jb,na,nb,nn⟩:=jo_all jo
 have hn:=jo.n
 have l1:=tab_len pa
 have l2:=tab_len pb
 have l3:=con_len ca
 have l4:=con_len cb
 exact ⟨⟨by omega,by omega,by omega,by omega,ha.po,hb.po⟩,⟨by omega,by omega,ha.co,hb.co,by omega,by omega⟩,by omega,ja,jb,by omega,by omega,pa,pb,ca,cb⟩
theorem Fct.pe {a b:Part} {out:List Rec} {ta tb:List Int} (h:Fct a b out ta tb):(P.bothE a.prods b.prods ta tb=0/\(P.bothL a.prods b.prods ta tb).length<=256)∨P.bothE a.prods b.prods ta tb=153:=by
 unfold P.bothE
 rw [h.pa,h.pb]
 simp only [Bool.and_self,Bool.not_true,Bool.false_eq_true,if_false]
 split
 · exact .inr rfl
 · rename_i h;simp at h;exact .inl ⟨rfl,by omega⟩
theorem Fct.ce {a b:Part} {out:List Rec} {ta tb:List Int} (h:Fct a b out ta tb):(bothE a.cons b.cons ta tb=0/\(Go.Proofs.YtckklclehofddaaGreatDoor.D.conB a.cons b.cons ta tb).length<=64)∨bothE a.cons b.cons ta tb=143:=by
 have q1:=h.na
 have q2:=h.nb
 unfold bothE
 rw [h.ca,h.cb]
 simp only [q1,q2,decide_false,Bool.or_false,Bool.not_true,Bool.false_eq_true,if_false]
 split
 · exact .inr rfl
 · rename_i h
   simp only [decide_eq_true_eq] at h
   refine .inl ⟨rfl,?_⟩
   show (boU a.cons b.cons ta tb (a.cons++b.cons).length).length<=64
   omega
theorem Fct.ins {a b:Part} {out:List Rec} {ta tb:List Int} (h:Fct a b out ta tb) (ha:PartTy a) (hb:PartTy b) (hq:∀ y∈out,0<=y.seq) (h3:P.bothE a.prods b.prods ta tb=0) (h4:bothE a.cons b.cons ta tb=0) (r:Rng) (ep:Int):CkIn ⟨r,ep,0,out,P.bothL a.prods b.prods ta tb,Go.Proofs.YtckklclehofddaaGreatDoor.D.conB a.cons b.cons ta tb⟩:=by
 have po:=both_off (n:=(out.length:Nat)) h.ja h.jb (by omega) (fun x hx=>(ha.po x hx).1) (fun x hx=>(hb.po x hx).1)
 have hn:=h.n
 have l1:(P.bothL a.prods b.prods ta tb).length<=256:=by
  rcases h.pe with h | h
  · exact h.2
  · rw [h] at h3;cases h3
 have l2:(Go.Proofs.YtckklclehofddaaGreatDoor.D.conB a.cons b.cons ta tb).length<=64:=by
  rcases h.ce with h | h
  · exact h.2
  · rw [h] at h4;cases h4
 refine ⟨by show out.length<=_;omega,by show (P.bothL a.prods b.prods ta tb).length<=_;omega,by show (Go.Proofs.YtckklclehofddaaGreatDoor.D.conB a.cons b.cons ta tb).length<=_;omega,fun x hx=>?_,by show (P.bothL a.prods b.prods ta tb).length<=_;omega,hq⟩
 have:=po x hx
 exact ⟨this.1,by have:=this.2;omega⟩
theorem mov_of (a b:Part) (ha:CkOk a) (hb:CkOk b):MoV (mkx a b) where
 a:=ha.ins
 b:=hb.ins
 km:=rfl
 jo:=jn_of ha.ty.rl hb.ty.rl
 pb:=fun oa ob e2=>⟨(fct ha.ty hb.ty oa ob (jo_ok e2)).pi,rfl,rfl⟩
 cb:=fun oa ob e2=>⟨(fct ha.ty hb.ty oa ob (jo_ok e2)).ci,rfl,rfl⟩
 ck:=fun oa ob e2 e3 e4=>⟨(fct ha.ty hb.ty oa ob (jo_ok e2)).ins ha.ty hb.ty (jo_mem (fun x=>0<=x.seq) (fun _ _ h=>h) e2 ha.sq hb.sq) e3 e4 _ _,rfl⟩
 e:=rfl
theorem er_of {e:Int} {a b:Part} (h:(mrE e).Sat (ACall' Tryz.prog 12 [.agg (encPt true a),.agg (encPt true b)] [])):(erM e).Sat (ACall' Tryz.prog 12 [.agg (encPt true a),.agg (encPt true b)] []) :=
 ret_as (r:=.tup [.agg (encPt true default),.s (.int .i64 e)]) (r':=.tup [.agg (encPt true default),.y (.int .i64 e)]) (fun _ _ _ h=>h) h
theorem ep_zero {a b:Int} (ha:UwOk a) (hb:UwOk b):(IntKind.u64.wrap ((if b > a then b else a)+1)==0)=(IntKind.u64.wrap (a+1)==0||IntKind.u64.wrap (b+1)==0):=by
 obtain ⟨a0,a1⟩:=ha
 obtain ⟨b0,b1⟩:=hb
 have key:∀ x:Int,0<=x->x<18446744073709551616->(IntKind.u64.wrap (x+1)==0)=decide (x=18446744073709551615):=by
  intro x h0 h1
  by_cases h:x=18446744073709551615
  · subst h;rfl
  · rw [wrap_u64 (by omega) (by omega),decide_eq_false h]
    simp;omega
 by_cases h:b > a
 · rw [if_pos h,key a a0 a1,key b b0 b1,decide_eq_false (by omega:¬ a=18446744073709551615)];rfl
 · rw [if_neg h,key a a0 a1,key b b0 b1]
   by_cases h2:a=18446744073709551615
   · simp [h2]
   · rw [decide_eq_false h2,decide_eq_false (by omega:¬ b=18446744073709551615)];rfl
theorem mgp_of (a b:Part) (ha:CkOk a) (hb:CkOk b) (qa:UwOk a.epoch) (qb:UwOk b.epoch):((mkx a b).e=0/\Mg9 (mkx a b))∨((mkx a b).e≠0/\(erM (mkx a b).e).Sat (ACall' Tryz.prog 12 [.agg (encPt true a),.agg (encPt true b)] [])):=by
 have hv:=mov_of a b ha hb
 have he:=hv.e
 have ta:=ha.ty
 have tb:=hb.ty
 have ez:=ep_zero qa qb
 unfold moE at he
 have hbad:(!partOk (mkx a b).a||!partOk (mkx a b).b||(mkx a b).ep==0)=(bad a||bad b):=by
  show (!partOk a||!partOk b||IntKind.u64.wrap ((if b.epoch > a.epoch then b.epoch else a.epoch)+1)==0)=_
  rw [ez]
  unfold bad
  cases partOk a<;>cases partOk b<;>simp
 rw [hbad] at he
 by_cases c1:(bad a||bad b)=true
 · rw [if_pos c1] at he
   rw [he]
   exact .inr ⟨by decide,er_of (m1_c ⟨a,b,[],[],[],[],[]⟩ ta tb c1)⟩
 rw [if_neg c1] at he
 have c1:(bad a||bad b)=false:=by simpa using c1
 obtain ⟨b1,b2⟩:=Bool.or_eq_false_iff.1 c1
 have el:live2 (mkx a b).a (mkx a b).b=live2 a b:=rfl
 rw [el] at he
 by_cases c2:live2 a b=true
 · rw [if_pos c2] at he
   rw [he]
   exact .inr ⟨by decide,er_of (m2_c ⟨a,b,[],[],[],[],[]⟩ ta tb b1 b2 c2)⟩
 rw [if_neg c2] at he
 have c2:live2 a b=false:=by simpa using c2
 obtain ⟨oa,ea⟩:=not_bad b1
 obtain ⟨ob,eb⟩:=not_bad b2
 obtain ⟨_,_,la,pa,ca,_⟩:=ok_parts oa
 obtain ⟨_,_,lb,pb,cb,_⟩:=ok_parts ob
 have i0:∀ out ta tb ps cs,MrgIn ⟨a,b,out,ta,tb,ps,cs⟩:=fun _ _ _ _ _=>⟨ha.ty,hb.ty,b1,b2,c2⟩
 have q1:(mkx a b).e1=kmE a.rng b.rng:=rfl
 have q2:(mkx a b).e2=joU a.recs b.recs:=rfl
 rcases km_ok oa ob with c3 | c3
 rotate_left
 · rw [q1,c3,if_pos (by decide)] at he
   rw [he]
   exact .inr ⟨by decide,er_of (m3_c ⟨a,b,[],[],[],[],[]⟩ (i0 _ _ _ _ _) c3)⟩
 rw [q1,c3,if_neg (by decide)] at he
 by_cases c4:4096<a.recs.length+b.recs.length
 · have e2:joU a.recs b.recs=143:=by unfold joU;rw [la,lb,if_pos (show (true&&true)=true from rfl),if_neg (by omega)]
   rw [q2,e2,if_pos (by decide)] at he
   rw [he]
   exact .inr ⟨by decide,er_of (m4_c ⟨a,b,[],[],[],[],[]⟩ (i0 _ _ _ _ _) c3 la lb c4)⟩
 cases c5:(jo0 a.recs b.recs).run with
 | none =>
   have e2:joU a.recs b.recs=145:=by unfold joU;rw [la,lb,if_pos (show (true&&true)=true from rfl),if_pos (by omega),c5];rfl
   rw [q2,e2,if_pos (by decide)] at he
   rw [he]
   exact .inr ⟨by decide,er_of (m5_c ⟨a,b,[],[],[],[],[]⟩ (i0 _ _ _ _ _) c3 la lb (by show a.recs.length+b.recs.length<=4096;omega) c5)⟩
 | some s =>
   have e2:joU a.recs b.recs=0:=by unfold joU;rw [la,lb,if_pos (show (true&&true)=true from rfl),if_pos (by omega),c5];rfl
   rw [q2,e2,if_neg (by decide)] at he
   have jo:=jo_ok e2
   have fc:=fct ta tb oa ob jo
   have vp:=hv.pb oa ob e2
   have vc:=hv.cb oa ob e2
   have vk:=hv.ck oa ob e2
   have q3:(mkx a b).e3=P.bothE a.prods b.prods (joS a.recs b.recs).ta (joS a.recs b.recs).tb:=rfl
   have q4:(mkx a b).e4=bothE a.cons b.cons (joS a.recs b.recs).ta (joS a.recs b.recs).tb:=rfl
   rcases fc.pe with ⟨c6,l6⟩ | c6
   rotate_left
   · rw [q3,c6,if_pos (by decide)] at he
     rw [he]
     exact .inr ⟨by decide,er_of (m6_c ⟨a,b,_,_,_,[],[]⟩ (i0 _ _ _ _ _) c3 jo fc.pi c6)⟩
   rw [q3,c6,if_neg (by decide)] at he
   rcases fc.ce with ⟨c7,l7⟩ | c7
   rotate_left
   · rw [q4,c7,if_pos (by decide)] at he
     rw [he]
     exact .inr ⟨by decide,er_of (m7_c ⟨a,b,_,_,_,P.bothL a.prods b.prods _ _,[]⟩ (i0 _ _ _ _ _) c3 jo fc.pi c6 rfl fc.ci c7)⟩
   rw [q4,c7,if_neg (by decide)] at he
   obtain ⟨ki,kv⟩:=vk c6 c7
   have oi:PartIn (mkx a b).m:=⟨ki.rl,ki.pl,ki.cl,fun k hk=>(ki.po _ (by simp [hk])).1⟩
   by_cases c8:partOk (mkx a b).m=true
   · have c9:(mkx a b).c=true:=by rw [<- kv];exact c8
     rw [if_pos c9] at he
     have jn:JnN a.recs b.recs 0 (mkx a b).out (mkx a b).ta (mkx a b).tb:=by
      have:=hv.jo
      rw [q2,e2] at this
      exact this
     obtain ⟨p1,p2,p3,p4,p5,p6⟩:=fc.pi
     obtain ⟨r1,r2,r3,r4,r5,r6⟩:=fc.ci
     exact .inl ⟨he,⟨ta,tb,b1,b2,c2,c3,jn,⟨⟨p1,p2,p3,p4,p5,p6⟩,c6,rfl⟩,⟨⟨r1,r2,r3,r4,r5,r6⟩,c7,rfl⟩,oi,c8⟩⟩
   · have c8:partOk (mkx a b).m=false:=by simpa using c8
     have c9:(mkx a b).c=false:=by rw [<- kv];exact c8
     rw [if_neg (by rw [c9];decide)] at he
     rw [he]
     exact .inr ⟨by decide,er_of (m8_c ⟨a,b,_,_,_,P.bothL a.prods b.prods _ _,Go.Proofs.YtckklclehofddaaGreatDoor.D.conB a.cons b.cons _ _⟩ (i0 _ _ _ _ _) c3 jo fc.pi c6 rfl fc.ci c7 rfl oi c8)⟩
end Go.Proofs.YtckklclehofddaaGreatDoor.Q

namespace Go.Proofs.YtckklclehofddaaGreatDoor.Q
open Go.Ax Go.Proofs.YtckklclehofddaaGreatDoor Go.Proofs.YtckklclehofddaaGreatDoor.H Go.Proofs.YtckklclehofddaaGreatDoor.D Go.Proofs.YtckklclehofddaaGreatDoor.J
set_option maxRecDepth 1000000
theorem sB_size (p:Part):(sB p).size=(partB p).length:=by
 have h:(sB p).data.toList.length=(partB p).length:=by
  unfold sB strN strL bytesN
  simp
 exact h
theorem sBB_ok {a b:Part} (ha:ByOk a) (hb:ByOk b):(sB a).size+(sB b).size<=9223372036854775807:=by
 rw [sB_size,sB_size]
 have:=ha.n
 have:=hb.n
 omega
theorem nw_c (x:Mgv) (h1:ByOk x.a) (h2:ByOk x.b) (h3:MgOk x) (h4:LenOk x.m) (hg:∀ q,q<x.m.recs.length->(gA x.m q).val.length<=140737488355328):(boolR true).Sat (ACall' Tryz.prog 4 [.agg (encPt true x.a),.agg (encPt true x.b)] []):=by
 refine ctr_vc (ht:=nwH x) Tryz.mixed rfl ?_
 rw [vcNw_eq x]
 unfold vcNw
 have hl:x.m.recs.length<=9223372036854775806:=by have:=h4.rl;omega
 have lp:=nj_loop x.a x.b x.m hl hg ⟨0,Nat.zero_le _⟩
 have e:∀ q,grF (gA x.m) 0 q=x.m.recs.getD q default:=fun q=>grF_ge _ (by omega)
 have ea:strN (partB x.a).length (fun k=>cellsOf' encB (partB x.a) k)=sB x.a:=rfl
 have eb:strN (partB x.b).length (fun k=>cellsOf' encB (partB x.b) k)=sB x.b:=rfl
 have es:sB x.a++sB x.b=sBB x.a x.b:=rfl
 have hz:=sBB_ok h1 h2
 have ta:=trV_le x.m.recs x.m.recs.length
 simp only [Nat.zero_add,ea,eb,es,hz,e,rowAt_zero,h1,h2,h3,h4,ta,lp,contLe_refl,and_self,implies_true,true_and,and_true]
 simp [lp]
 exact ⟨trV_le x.out _,fun k _=>⟨rfl,rfl,⟨rfl,contLe_refl _ _ _⟩,rfl,rfl⟩⟩
theorem ne_loop (a b:Part) (e:Int) (i:{ i:Nat // i<=0 }):LoopOk Tryz.prog 4 7 (loopAt Tryz.prog 4 7) ⟨neT a b e i.1,neM a b i.1,[]⟩ (T.map (lout [0,1,2,3,4,5,6,7] (neS a b e)) (.ret ())):=by
 refine loop_vcH (o:=fun _=>.ret ()) (stT:=fun (i:{ i:Nat // i<=0 })=>neT a b e i.1) (stM:=fun i=>neM a b i.1) Tryz.mixed (fun _=>rfl) (fun i=>(vcNe_eq a b e i).mpr ?_) i
 unfold vcNe
 refine ⟨fun h=>by simp at h,fun _=>?_⟩
 simp
theorem nx_c (a b:Part) (e:Int) (h1:ByOk a) (h2:ByOk b) (h3:MgEr a b e):(boolR true).Sat (ACall' Tryz.prog 4 [.agg (encPt true a),.agg (encPt true b)] []):=by
 refine ctr_vc (ht:=nxH a b e) Tryz.mixed rfl ?_
 rw [vcNx_eq a b e]
 unfold vcNx
 have lp:=ne_loop a b e ⟨0,Nat.zero_le _⟩
 have ea:strN (partB a).length (fun k=>cellsOf' encB (partB a) k)=sB a:=rfl
 have eb:strN (partB b).length (fun k=>cellsOf' encB (partB b) k)=sB b:=rfl
 have es:sB a++sB b=sBB a b:=rfl
 have hz:=sBB_ok h1 h2
 have hd:PartTy default:=⟨by decide,by decide,by decide,fun x hx=>(by cases hx),fun x hx=>(by cases hx)⟩
 simp only [Nat.zero_add,ea,eb,es,hz,h1,h2,h3,lp,hd,contLe_refl,and_self,implies_true,true_and,and_true]
 simp [lp]
end Go.Proofs.YtckklclehofddaaGreatDoor.Q

namespace Go.Proofs.YtckklclehofddaaGreatDoor
open Go.Ax Go.Shelf Go.RowKit Go.ChangeShapes Go.WideShapes Go.ChangeAt
set_option maxRecDepth 1000000
def toI {K:Type}:DataW K->Int
 | .lit (.int _ a)=>a
 | _=>0
def toS {K:Type}:DataW K->ByteArray
 | .lit (.string l)=>⟨l.toArray⟩
 | _=>ByteArray.empty
def toB {K:Type}:DataW K->Bool
 | .lit (.bool b)=>b
 | _=>false
theorem encI_ok {K:Type} {k:IntKind} {d:DataW K} (h:(Sh.int k).wf d):(Sh.int k).enc d=[.y (.int k (toI d))]:=by
 obtain ⟨k',n,rfl,_⟩:=h
 rfl
theorem encS_ok {K:Type} {d:DataW K} (h:Sh.str.wf d):Sh.str.enc d=[.y (.string (toS d))]:=by
 obtain ⟨l,rfl,_⟩:=h
 rfl
theorem encO_ok {K:Type} {d:DataW K} (h:Sh.bool.wf d):Sh.bool.enc d=[.y (.bool (toB d))]:=by
 obtain ⟨l,rfl⟩:=h
 rfl
theorem enc_st {K:Type} (fs:List Sh) (ds:List (DataW K)):(Sh.st fs).enc (.agg ds)=Sh.encL fs ds:=by simp only [Sh.enc]
theorem enc_cons {K:Type} (s:Sh) (r:List Sh) (d:DataW K) (ds:List (DataW K)):Sh.encL (s::r) (d::ds)=s.enc d++Sh.encL r ds:=by simp only [Sh.encL]
theorem enc_nil {K:Type} (l:List (DataW K)):Sh.encL [] l=[]:=by simp only [Sh.encL]
theorem relA {P:Program} {W:World} {r:Reach} {base:Nat} {t:TypeId} {v:Value} {fs:Array Field} {l:List AV} {H:HH} {E:Env} (hu:P.underlying t=some (.struct fs)) (hv:Value.okWide P W r base t v) (h:RelL l H E v.cells.toList):Rel (.agg l) H E v:=by
 obtain ⟨cs,rfl,_⟩:=okWide_struct hu hv
 exact ⟨cs,rfl,h⟩
theorem Tryz.own:ownKnob Tryz.prog.godebug=Option.none:=by kernel_rfl
theorem Tryz.laidOut:laidOutB Tryz.prog=true:=by kernel_rfl
theorem Tryz.mapsRowed:mapsRowed Tryz.prog=true:=by kernel_rfl
theorem Tryz.slicesOk:slicesOk Tryz.prog=true:=by kernel_rfl
theorem underBool:Tryz.prog.underlying 4=some .bool:=by kernel_rfl
def structTypes (P:Program) (t:TypeId):Option (List TypeId):=match P.underlying t with | some (.struct fs)=>some (fs.toList.map (·.type)) | _=>Option.none
theorem structTypes_ok {P:Program} {t:TypeId} {l:List TypeId} (h:structTypes P t=some l):∃ fs,P.underlying t=some (.struct fs)/\fs.toList.map (·.type)=l:=by
 unfold structTypes at h
 split at h
 · rename_i fs hu
   exact ⟨fs,hu,Option.some.inj h⟩
 · cases h
end Go.Proofs.YtckklclehofddaaGreatDoor

namespace Go.Proofs.YtckklclehofddaaGreatDoor
open Go.Ax Go.Shelf Go.RowKit Go.ChangeShapes Go.WideShapes Go.ChangeAt
set_option maxRecDepth 1000000
def shRec:Sh:=.st [.int .u64,.str,.sl (.int .u8),.int .u64,.int .u64]
def toRec {K:Type}:DataW K->Rec
 | .agg [a,b,c,d,e]=>⟨toI a,toS b,listOf toI c,toI d,toI e⟩
 | _=>default
theorem relB {K:Type} {d:DataW K} (hd:(Sh.sl (.int .u8)).wf d) {H:HH} {E:Env} {v:Value} (h:Rel (slAV (.int .u8) d) H E v):Rel (encBs true (listOf toI d)) H E v:=conv_sl (encA:=encB) (fun x hx=>encI_ok hx) hd h
theorem rec_enc {K:Type} {d:DataW K} (hd:shRec.wf d):∃ a b c e f,d=.agg [a,b,c,e,f]/\(Sh.sl (.int .u8)).wf c/\shRec.enc d=[.y (.int .u64 (toI a)),.y (.string (toS b)),slAV (.int .u8) c,.y (.int .u64 (toI e)),.y (.int .u64 (toI f))]:=by
 obtain ⟨ds,rfl,d1,r1,rfl,w1,d2,r2,rfl,w2,d3,r3,rfl,w3,d4,r4,rfl,w4,d5,r5,rfl,w5,rfl⟩:=hd
 refine ⟨d1,d2,d3,d4,d5,rfl,w3,?_⟩
 simp only [shRec,enc_st,enc_cons,enc_nil,encI_ok w1,encS_ok w2,slAV_eq,encI_ok w4,encI_ok w5]
 rfl
theorem rec_conv {K:Type} {d:DataW K} (hd:shRec.wf d) (j:Nat) (hj:j<5) (H:HH) (E:Env) (v:Value) (h:Rel (Ax.get (shRec.enc d) j) H E v):Rel (Ax.get (encR (toRec d)) j) H E v:=by
 obtain ⟨a,b,c,e,f,rfl,wc,he⟩:=rec_enc hd
 rw [he] at h
 match j,hj with
 | 0,_=>exact h
 | 1,_=>exact h
 | 2,_=>exact relB wc h
 | 3,_=>exact h
 | 4,_=>exact h
theorem relRs {K:Type} {d:DataW K} (hd:(Sh.sl shRec).wf d) {H:HH} {E:Env} {v:Value} (h:Rel (slAV shRec d) H E v):Rel (encRs true (listOf toRec d)) H E v :=
 conv_slR (encA:=encR) (fun x hx j hj H E v=>rec_conv hx j hj H E v) hd h
theorem undRs:Tryz.prog.underlying 26=some (.slice 37):=by kernel_rfl
theorem bytesR:Tryz.prog.bytesOf 37=64:=by kernel_rfl
theorem rs_sized {K:Type} {d:DataW K} (hw:(d.weights Tryz.prog 26).all (·<=reachBytes)=true):(listOf toRec d).length*64<=140737488351232:=by
 have:=weights_slice toRec undRs hw
 rwa [bytesR] at this
def shCon:Sh:=.st [.str,.int .u64]
def toC {K:Type}:DataW K->Con
 | .agg [a,b]=>⟨toS a,toI b⟩
 | _=>default
theorem off_of {K:Type} {d:DataW K} (h:(Sh.int .u64).wf d):offOk (toI d):=by
 obtain ⟨k,n,rfl,w⟩:=h
 have:=bounds_u64 w
 exact ⟨by show 0<=n;omega,by show n<_;omega⟩
theorem toC_ok {K:Type} {d:DataW K} (h:shCon.wf d):shCon.enc d=encC (toC d)/\offOk (toC d).off:=by
 obtain ⟨ds,rfl,d1,r1,rfl,w1,d2,r2,rfl,w2,rfl⟩:=h
 refine ⟨?_,off_of w2⟩
 simp only [shCon,enc_st,enc_cons,enc_nil,encS_ok w1,encI_ok w2]
 rfl
theorem wf_cons {K:Type} {d:DataW K} (h:(Sh.sl shCon).wf d):wfC (listOf toC d):=by
 rcases h with rfl | ⟨xs,r,rfl,hx⟩
 · intro y hy;cases hy
 · intro y hy
   obtain ⟨x,hx',rfl⟩:=List.mem_map.1 hy
   exact (toC_ok (hx x hx')).2
theorem relCs {K:Type} {d:DataW K} (hd:(Sh.sl shCon).wf d) {H:HH} {E:Env} {v:Value} (h:Rel (slAV shCon d) H E v):Rel (encCs true (listOf toC d)) H E v:=conv_sl (fun x hx=>(toC_ok hx).1) hd h
theorem undCs:Tryz.prog.underlying 28=some (.slice 41):=by kernel_rfl
theorem bytesC:Tryz.prog.bytesOf 41=24:=by kernel_rfl
def shPro:Sh:=.st [.int .u64,.int .u64,.bool,.int .u64]
def toPro {K:Type}:DataW K->P.Producer
 | .agg [a,b,c,e]=>⟨toI a,toI b,toB c,toI e⟩
 | _=>default
theorem toPro_ok {K:Type} {d:DataW K} (h:shPro.wf d):shPro.enc d=P.encP (toPro d)/\offOk (toPro d).offset:=by
 obtain ⟨ds,rfl,d1,r1,rfl,w1,d2,r2,rfl,w2,d3,r3,rfl,w3,d4,r4,rfl,w4,rfl⟩:=h
 refine ⟨?_,off_of w4⟩
 simp only [shPro,enc_st,enc_cons,enc_nil,encI_ok w1,encI_ok w2,encO_ok w3,encI_ok w4]
 rfl
theorem wf_prods {K:Type} {d:DataW K} (h:(Sh.sl shPro).wf d):∀ x∈listOf toPro d,0<=x.offset/\x.offset<18446744073709551616:=by
 rcases h with rfl | ⟨xs,r,rfl,hx⟩
 · intro y hy;cases hy
 · intro y hy
   obtain ⟨x,hx',rfl⟩:=List.mem_map.1 hy
   exact (toPro_ok (hx x hx')).2
theorem relPs {K:Type} {d:DataW K} (hd:(Sh.sl shPro).wf d) {H:HH} {E:Env} {v:Value} (h:Rel (slAV shPro d) H E v):Rel (P.encPs true (listOf toPro d)) H E v:=conv_sl (fun x hx=>(toPro_ok hx).1) hd h
theorem undPs:Tryz.prog.underlying 27=some (.slice 39):=by kernel_rfl
theorem bytesP:Tryz.prog.bytesOf 39=32:=by kernel_rfl
def shRng:Sh:=.st [.str,.str]
def toRng {K:Type}:DataW K->Rng
 | .agg [a,b]=>⟨toS a,toS b⟩
 | _=>default
theorem toRng_ok {K:Type} {d:DataW K} (h:shRng.wf d):shRng.enc d=encG (toRng d):=by
 obtain ⟨ds,rfl,d1,r1,rfl,w1,d2,r2,rfl,w2,rfl⟩:=h
 simp only [shRng,enc_st,enc_cons,enc_nil,encS_ok w1,encS_ok w2]
 rfl
def shPart:Sh:=.st [shRng,.int .u64,.int .u64,.sl shRec,.sl shPro,.sl shCon]
def toPart {K:Type}:DataW K->Part
 | .agg [a,b,c,e,f,g]=>⟨toRng a,toI b,toI c,listOf toRec e,listOf toPro f,listOf toC g⟩
 | _=>default
theorem relPart {K:Type} {d:DataW K} (hd:shPart.wf d) {H:HH} {E:Env} {vs:List Value} (h:RelL (shPart.enc d) H E vs):RelL (encPt true (toPart d)) H E vs:=by
 obtain ⟨ds,rfl,d1,r1,rfl,w1,d2,r2,rfl,w2,d3,r3,rfl,w3,d4,r4,rfl,w4,d5,r5,rfl,w5,d6,r6,rfl,w6,rfl⟩:=hd
 have e:shPart.enc (DataW.agg [d1,d2,d3,d4,d5,d6])=[.y (.string (toRng d1).lo),.y (.string (toRng d1).hi),.y (.int .u64 (toI d2)),.y (.int .u64 (toI d3)),slAV shRec d4,slAV shPro d5,slAV shCon d6]:=by
  simp only [shPart,enc_st,enc_cons,enc_nil,slAV_eq,toRng_ok w1,encI_ok w2,encI_ok w3]
  rfl
 rw [e] at h
 obtain ⟨v1,x1,rfl,h1,v2,x2,rfl,h2,v3,x3,rfl,h3,v4,x4,rfl,h4,v5,x5,rfl,h5,v6,x6,rfl,h6,v7,x7,rfl,h7,rfl⟩:=h
 exact ⟨_,_,rfl,h1,_,_,rfl,h2,_,_,rfl,h3,_,_,rfl,h4,_,_,rfl,relRs w4 h5,_,_,rfl,relPs w5 h6,_,_,rfl,relCs w6 h7,rfl⟩
theorem undPart:∃ fs,Tryz.prog.underlying 30=some (.struct fs)/\fs.toList.map (·.type)=[24,25,25,26,27,28]:=structTypes_ok (by kernel_rfl)
structure PartSz (p:Part):Prop where
 rl:p.recs.length*64<=140737488351232
 pl:p.prods.length*32<=140737488351232
 cl:p.cons.length*24<=140737488351232
 po:∀ x∈p.prods,0<=x.offset/\x.offset<18446744073709551616
 co:wfC p.cons
theorem part_sz {K:Type} {d:DataW K} (hd:shPart.wf d) (hw:(d.weights Tryz.prog 30).all (·<=reachBytes)=true):PartSz (toPart d):=by
 obtain ⟨ds,rfl,d1,r1,rfl,w1,d2,r2,rfl,w2,d3,r3,rfl,w3,d4,r4,rfl,w4,d5,r5,rfl,w5,d6,r6,rfl,w6,rfl⟩:=hd
 obtain ⟨fs,hf,ht⟩:=undPart
 have h:=weights_struct hf hw
 rw [ht] at h
 obtain ⟨h1,h⟩:=weights_cons h
 obtain ⟨h2,h⟩:=weights_cons h
 obtain ⟨h3,h⟩:=weights_cons h
 obtain ⟨h4,h⟩:=weights_cons h
 obtain ⟨h5,h⟩:=weights_cons h
 obtain ⟨h6,h⟩:=weights_cons h
 have k5:=weights_slice toPro undPs h5
 have k6:=weights_slice toC undCs h6
 rw [bytesP] at k5
 rw [bytesC] at k6
 exact ⟨rs_sized h4,k5,k6,wf_prods w5,wf_cons w6⟩
end Go.Proofs.YtckklclehofddaaGreatDoor

namespace Go.Proofs.YtckklclehofddaaGreatDoor.Q
open Go.Ax Go.Shelf Go.RowKit Go.ChangeShapes Go.WideShapes Go.ChangeAt Go.Proofs.YtckklclehofddaaGreatDoor Go.Proofs.YtckklclehofddaaGreatDoor.D Go.Proofs.YtckklclehofddaaGreatDoor.J
set_option maxRecDepth 1000000
structure Sml (p:Part):Prop where
 lo:p.rng.lo.size<=1048576
 hi:p.rng.hi.size<=1048576
 ep:UwOk p.epoch
 fr:UwOk p.frozen
 rn:p.recs.length<=1048576
 pn:p.prods.length<=1048576
 cn:p.cons.length<=1048576
 rv:∀ x∈p.recs,(UwOk x.off/\UwOk x.prod/\UwOk x.seq)/\x.key.size<=1048576/\x.val.length<=1048576
 pv:∀ x∈p.prods,UwOk x.id/\UwOk x.seq/\UwOk x.offset
 cv:∀ x∈p.cons,x.name.size<=1048576/\UwOk x.off
theorem fm_bound {α:Type} (f:α->List Int) (c:Nat):∀ l:List α,(∀ x∈l,(f x).length<=c)->(l.flatMap f).length<=l.length*c:=by
 intro l
 induction l with
 | nil=>intro _;simp
 | cons x l ih =>
   intro h
   have h1:=h x (by simp)
   have h2:=ih fun y hy=>h y (by simp [hy])
   rw [List.flatMap_cons,List.length_append,List.length_cons,Nat.succ_mul]
   omega
theorem mem_at {α:Type} [Inhabited α] {l:List α} {k:Nat} (h:k<l.length):l.getD k default∈l:=by
 simp [h]
theorem recB_le {x:Rec} (h1:x.key.size<=1048576) (h2:x.val.length<=1048576):(recB x).length<=2097300:=by
 have a1:=textB_len (strB x.key)
 have a2:=textB_len x.val
 have a3:=uintB_len x.off
 have a4:=uintB_len x.prod
 have a5:=uintB_len x.seq
 have b1:=strB_len x.key
 simp only [recB,List.length_append]
 omega
theorem recsB_le {l:List Rec} (hn:l.length<=1048576) (h:∀ x∈l,x.key.size<=1048576/\x.val.length<=1048576):(recsB l).length<=2199200000000:=by
 have h1:=fm_bound recB 2097300 l fun x hx=>recB_le (h x hx).1 (h x hx).2
 have h2:=Nat.mul_le_mul_right 2097300 hn
 have h3:=uintB_len (l.length:Int)
 simp only [recsB,List.length_append]
 omega
theorem part_le {p:Part} (h:Sml p):(partB p).length<=70368744177664:=by
 have h1:=recsB_le h.rn fun x hx=>(h.rv x hx).2
 have h2:=fm_bound prodB 40 p.prods fun x _=>by
  have a1:=uintB_len x.id
  have a2:=uintB_len x.seq
  have a3:=uintB_len x.offset
  have a4:(boolB x.here).length=1:=rfl
  simp only [prodB,List.length_append]
  omega
 have h3:=fm_bound conB 1048700 p.cons fun x hx=>by
  have a1:=uintB_len x.off
  have a2:=textB_len (strB x.name)
  have a3:=strB_len x.name
  have a4:=(h.cv x hx).1
  simp only [conB,List.length_append]
  omega
 have h4:=Nat.mul_le_mul_right 40 h.pn
 have h5:=Nat.mul_le_mul_right 1048700 h.cn
 have a1:=textB_len (strB p.rng.lo)
 have a2:=textB_len (strB p.rng.hi)
 have b1:=strB_len p.rng.lo
 have b2:=strB_len p.rng.hi
 have c1:=h.lo
 have c2:=h.hi
 have a3:=uintB_len p.epoch
 have a4:=uintB_len p.frozen
 have a5:=uintB_len (p.prods.length:Int)
 have a6:=uintB_len (p.cons.length:Int)
 simp only [partB,coB,prB,hdB,rngB,List.length_append,List.take_length]
 omega
theorem by_ok {p:Part} (h:Sml p):ByOk p where
 rg:=⟨by have:=h.lo;omega,by have:=h.hi;omega⟩
 ep:=h.ep
 fr:=h.fr
 ls:=⟨by have:=h.rn;omega,by have:=recsB_le h.rn fun x hx=>(h.rv x hx).2;omega,fun k hk=>by
  obtain ⟨⟨h1,h2,h3⟩,h4,h5⟩:=h.rv _ (mem_at hk)
  exact ⟨h1,h2,h3,by omega,by omega⟩⟩
 pn:=by have:=h.pn;omega
 cn:=by have:=h.cn;omega
 n:=part_le h
 pr:=fun k hk=>h.pv _ (mem_at hk)
 co:=fun k hk=>by
  obtain ⟨h1,h2⟩:=h.cv _ (mem_at hk)
  exact ⟨by omega,h2⟩
theorem u64_ok {K:Type} {d:DataW K} (h:(Sh.int .u64).wf d):UwOk (toI d):=by
 obtain ⟨h0,h1⟩:=off_of h
 exact ⟨h0,h1⟩
theorem bulk_one {H:Type} (d:DataW H):1<=Rows.uptoBulk d:=by
 cases d with
 | lit l=>cases l<;>simp [Rows.uptoBulk]
 | nil=>simp [Rows.uptoBulk]
 | ptr d=>simp [Rows.uptoBulk]
 | slice elems spare=>simp [Rows.uptoBulk]
 | agg parts=>simp [Rows.uptoBulk]
 | iface t d=>simp [Rows.uptoBulk]
 | map entries=>simp [Rows.uptoBulk]
 | held h=>simp [Rows.uptoBulk]
theorem bulk_part {H:Type} {d:DataW H} {l:List (DataW H)} (h:d∈l):Rows.uptoBulk d<=Rows.uptoBulkAll l:=by
 induction l with
 | nil=>cases h
 | cons x r ih =>
   simp only [Rows.uptoBulkAll]
   cases List.mem_cons.1 h with
   | inl e=>subst e;omega
   | inr e=>have:=ih e;omega
theorem bulk_len {H:Type} (l:List (DataW H)):l.length<=Rows.uptoBulkAll l:=by
 induction l with
 | nil=>simp [Rows.uptoBulkAll]
 | cons x r ih=>have:=bulk_one x;simp only [Rows.uptoBulkAll,List.length_cons];omega
theorem bulk_list {K α:Type} (to:DataW K->α) (d:DataW K):(listOf to d).length<=Rows.uptoBulk d:=by
 cases d with
 | slice elems spare =>
   have:=bulk_len elems
   simp only [Rows.uptoBulk,listOf,List.length_map]
   omega
 | _=>simp [listOf]
theorem bulk_agg {H:Type} {d:DataW H} {l:List (DataW H)} (h:d∈l):Rows.uptoBulk d<=Rows.uptoBulk (DataW.agg l):=by
 have:=bulk_part h
 simp only [Rows.uptoBulk]
 omega
theorem bulk_str {K:Type} {d:DataW K} (h:Sh.str.wf d):(toS d).size<=Rows.uptoBulk d:=by
 obtain ⟨l,rfl,_⟩:=h
 show (toS (DataW.lit (.string l))).size<=_
 simp only [toS,Rows.uptoBulk]
 first | omega | (simp [ByteArray.size]) | skip
theorem small_bound {H:Type} {l:List (DataW H)} (hk:Rows.uptoSmall H l=true):∀ d∈l,Rows.uptoBulk d<=1048576:=by
 have:Rows.uptoBulkAll l<=1048576:=of_decide_eq_true hk
 intro d hd
 exact Nat.le_trans (bulk_part hd) this
theorem mem_of {K α:Type} {e:Sh} {to:DataW K->α} {Q:α->Prop} {M:Nat} (h:∀ d,e.wf d->Rows.uptoBulk d<=M->Q (to d)) {d:DataW K} (hd:(Sh.sl e).wf d) (hb:Rows.uptoBulk d<=M):∀ x∈listOf to d,Q x:=by
 rcases hd with rfl | ⟨xs,r,rfl,hx⟩
 · intro y hy;cases hy
 · intro y hy
   obtain ⟨x,hx',rfl⟩:=List.mem_map.1 hy
   refine h x (hx x hx') (Nat.le_trans ?_ hb)
   have:=bulk_part hx'
   simp only [Rows.uptoBulk]
   omega
theorem rec_ok {K:Type} (d:DataW K) (h:shRec.wf d) (hb:Rows.uptoBulk d<=1048576):(UwOk (toRec d).off/\UwOk (toRec d).prod/\UwOk (toRec d).seq)/\(toRec d).key.size<=1048576/\(toRec d).val.length<=1048576:=by
 obtain ⟨ds,rfl,d1,r1,rfl,w1,d2,r2,rfl,w2,d3,r3,rfl,w3,d4,r4,rfl,w4,d5,r5,rfl,w5,rfl⟩:=h
 exact ⟨⟨u64_ok w1,u64_ok w4,u64_ok w5⟩,Nat.le_trans (bulk_str w2) (Nat.le_trans (bulk_agg (by simp)) hb),Nat.le_trans (bulk_list toI d3) (Nat.le_trans (bulk_agg (by simp)) hb)⟩
theorem pro_ok {K:Type} (d:DataW K) (h:shPro.wf d) (_:Rows.uptoBulk d<=1048576):UwOk (toPro d).id/\UwOk (toPro d).seq/\UwOk (toPro d).offset:=by
 obtain ⟨ds,rfl,d1,r1,rfl,w1,d2,r2,rfl,w2,d3,r3,rfl,w3,d4,r4,rfl,w4,rfl⟩:=h
 exact ⟨u64_ok w1,u64_ok w2,u64_ok w4⟩
theorem con_ok {K:Type} (d:DataW K) (h:shCon.wf d) (hb:Rows.uptoBulk d<=1048576):(toC d).name.size<=1048576/\UwOk (toC d).off:=by
 obtain ⟨ds,rfl,d1,r1,rfl,w1,d2,r2,rfl,w2,rfl⟩:=h
 exact ⟨Nat.le_trans (bulk_str w1) (Nat.le_trans (bulk_agg (by simp)) hb),u64_ok w2⟩
theorem sml_of {K:Type} {d:DataW K} (h:shPart.wf d) (hb:Rows.uptoBulk d<=1048576):Sml (toPart d):=by
 obtain ⟨ds,rfl,d1,r1,rfl,w1,d2,r2,rfl,w2,d3,r3,rfl,w3,d4,r4,rfl,w4,d5,r5,rfl,w5,d6,r6,rfl,w6,rfl⟩:=h
 have b1:=Nat.le_trans (bulk_agg (d:=d1) (l:=[d1,d2,d3,d4,d5,d6]) (by simp)) hb
 have b4:=Nat.le_trans (bulk_agg (d:=d4) (l:=[d1,d2,d3,d4,d5,d6]) (by simp)) hb
 have b5:=Nat.le_trans (bulk_agg (d:=d5) (l:=[d1,d2,d3,d4,d5,d6]) (by simp)) hb
 have b6:=Nat.le_trans (bulk_agg (d:=d6) (l:=[d1,d2,d3,d4,d5,d6]) (by simp)) hb
 obtain ⟨es,rfl,e1,t1,rfl,v1,e2,t2,rfl,v2,rfl⟩:=w1
 exact ⟨Nat.le_trans (bulk_str v1) (Nat.le_trans (bulk_agg (l:=[e1,e2]) (by simp)) b1),Nat.le_trans (bulk_str v2) (Nat.le_trans (bulk_agg (l:=[e1,e2]) (by simp)) b1),u64_ok w2,u64_ok w3,
  Nat.le_trans (bulk_list toRec d4) b4,Nat.le_trans (bulk_list toPro d5) b5,Nat.le_trans (bulk_list toC d6) b6,
  mem_of (to:=toRec) (Q:=fun x=>(UwOk x.off/\UwOk x.prod/\UwOk x.seq)/\x.key.size<=1048576/\x.val.length<=1048576) rec_ok w4 b4,
  mem_of (to:=toPro) (Q:=fun x=>UwOk x.id/\UwOk x.seq/\UwOk x.offset) pro_ok w5 b5,
  mem_of (to:=toC) (Q:=fun x=>x.name.size<=1048576/\UwOk x.off) con_ok w6 b6⟩
theorem ty_sz {p:Part} (h:PartSz p):PartTy p:=by
 obtain ⟨h1,h2,h3,h4,h5⟩:=h
 exact ⟨by omega,by omega,by omega,h4,h5⟩
end Go.Proofs.YtckklclehofddaaGreatDoor.Q

namespace Go.Proofs.YtckklclehofddaaGreatDoor.Q
open Go.Ax Go.Proofs.YtckklclehofddaaGreatDoor Go.Proofs.YtckklclehofddaaGreatDoor.H Go.Proofs.YtckklclehofddaaGreatDoor.D Go.Proofs.YtckklclehofddaaGreatDoor.J
set_option maxRecDepth 1000000
theorem ck_sml {p:Part} (hs:Sml p) (ht:PartTy p):CkOk p:=⟨ht,by have:=hs.pn;omega,fun y hy=>(hs.rv y hy).1.2.2.v0⟩
theorem merges_c (a b:Part) (sa:Sml a) (sb:Sml b) (ta:PartTy a) (tb:PartTy b):(boolR true).Sat (ACall' Tryz.prog 4 [.agg (encPt true a),.agg (encPt true b)] []):=by
 have ka:=ck_sml sa ta
 have kb:=ck_sml sb tb
 have hv:=mov_of a b ka kb
 have hd:=mo_c (mkx a b) hv
 unfold moT at hd
 rcases mgp_of a b ka kb sa.ep sb.ep with ⟨he,h9⟩ | ⟨he,hp⟩
 · rw [he] at hd
   have hi:=h9.ck.1
   refine nw_c (mkx a b) (by_ok sa) (by_ok sb) ⟨mg9_c _ h9,fun Q hq=>hd Q ⟨fun _=>hq,fun e=>by simp at e⟩⟩ ⟨hi.rl,hi.pl,hi.cl⟩ fun q hq=>?_
   have h1:=jo_mem (a:=a.recs) (b:=b.recs) (fun x=>x.val.length<=1048576) (fun _ _ h=>h) h9.jo.v (fun x hx=>(sa.rv x hx).2.2) (fun x hx=>(sb.rv x hx).2.2) _ (mem_at hq)
   exact Nat.le_trans h1 (by omega)
 · have hn:((mkx a b).e==0)=false:=by simpa using he
   rw [hn] at hd
   exact nx_c a b _ (by_ok sa) (by_ok sb) ⟨hp,fun Q hq=>hd Q ⟨fun e=>by simp at e,fun _=>hq⟩⟩
end Go.Proofs.YtckklclehofddaaGreatDoor.Q

namespace Go.Proofs.YtckklclehofddaaGreatDoor.Q
open Go.Ax Go.Shelf Go.RowKit Go.ChangeShapes Go.WideShapes Go.ChangeAt Go.Proofs.YtckklclehofddaaGreatDoor
set_option maxRecDepth 1000000
def lineageMerges_laidL:List (String×DataW Unit):=Rows.lineageMergesUptoRow.laid
noncomputable def lineageMerges_layW (os:Os):World:=World.laidAll Tryz.prog os lineageMerges_laidL
theorem lineageMerges_lay_met (os:Os) (args:Array Value):laidMetH Tryz.prog lineageMerges_laidL ((lineageMerges_layW os).forCall (fun _ _=>0) ⟨#[],args,[]⟩).memory:=by
 have e:∀ w,laidMetH Tryz.prog lineageMerges_laidL w=laidMet Tryz.prog lineageMerges_laidL w:=fun w=>by kernel_rfl
 rw [e]
 exact laidMet_laidAll args (by kernel_rfl) (by kernel_rfl)
theorem lineageMerges_reads (os:Os) {H:Type} (enc:TypeId×Value->H):∃ places,DataW.whole enc Tryz.prog ((lineageMerges_layW os).forCall (fun _ _=>0) ⟨#[],#[.agg #[.string ⟨#[]⟩,.string ⟨#[]⟩,.int .u64 0,.int .u64 0,.slice Option.none 0 0,.slice Option.none 0 0,.slice Option.none 0 0],.agg #[.string ⟨#[]⟩,.string ⟨#[]⟩,.int .u64 0,.int .u64 0,.slice Option.none 0 0,.slice Option.none 0 0,.slice Option.none 0 0]],[]⟩).memory Tryz.f4.params.toList Rows.lineageMergesSpec.vars false (#[.agg #[.string ⟨#[]⟩,.string ⟨#[]⟩,.int .u64 0,.int .u64 0,.slice Option.none 0 0,.slice Option.none 0 0,.slice Option.none 0 0],.agg #[.string ⟨#[]⟩,.string ⟨#[]⟩,.int .u64 0,.int .u64 0,.slice Option.none 0 0,.slice Option.none 0 0,.slice Option.none 0 0]]:Array Value).toList 8=some ([.agg [.agg [.lit (.string []),.lit (.string [])],.lit (.int .u64 0),.lit (.int .u64 0),.nil,.nil,.nil],.agg [.agg [.lit (.string []),.lit (.string [])],.lit (.int .u64 0),.lit (.int .u64 0),.nil,.nil,.nil]],[],places) :=
 ⟨[],by kernel_rfl⟩
theorem lineageMerges_lifted (os:Os) (started:os.Started) (K:Type) (enc:TypeId×Value->K) (F:Stop.Interp) :
 ReturnsInHanded {} Tryz.checked os 4 .any ((Rows.OpenSpec.upto Rows.lineageMergesSpec).preRow enc Tryz.prog Tryz.f4 Rows.lineageMergesUptoRow.domain false Rows.lineageMergesUptoRow.laid) (((Rows.OpenSpec.upto Rows.lineageMergesSpec).at F).post enc Tryz.prog Tryz.f4 false true false false):=by
 obtain ⟨places,hx⟩:=lineageMerges_reads os enc
 refine returnsInHanded_of_row (C:=Tryz.checked) (s:=Rows.OpenSpec.upto Rows.lineageMergesSpec) Tryz.own started (by kernel_rfl) Tryz.func4
  (witness_row_at (enc:=enc) (C:=Tryz.checked) false (lineageMerges_layW os) #[.agg #[.string ⟨#[]⟩,.string ⟨#[]⟩,.int .u64 0,.int .u64 0,.slice Option.none 0 0,.slice Option.none 0 0,.slice Option.none 0 0],.agg #[.string ⟨#[]⟩,.string ⟨#[]⟩,.int .u64 0,.int .u64 0,.slice Option.none 0 0,.slice Option.none 0 0,.slice Option.none 0 0]] rfl (by kernel_rfl) (by kernel_rfl) (by kernel_rfl)
    (OpenSpec.preRow_of_cond 8 hx (by kernel_rfl) (fun k hk=>by cases hk;kernel_rfl) (by kernel_rfl) (lineageMerges_lay_met os _))) ?_
 intro W base args ds gs before hval0 hW _ hcond hsz hL _ _
 have hps:Tryz.f4.params.toList=[30,30]:=by kernel_rfl
 obtain ⟨p,q,hA,hV,hbef,hfz,hnd⟩:=id hW
 have hA:DataW.TrodAll enc Tryz.prog W 0 (fun _=>true) true Tryz.f4.params.toList args.toList ds p:=hA
 have hk:=small_bound (hcond _ rfl)
 rw [hps] at hA hsz
 have ⟨hr,hwf⟩:=lift_all [shPart,shPart] (by kernel_rfl) hA
 obtain ⟨v1,v2,d1,d2,_,_,e1,rfl,_,_,_⟩:=trodAll_two hA
 obtain ⟨_,_,g1,w1,_,_,g2,w2,_⟩:=hwf
 obtain ⟨rfl,q1⟩:=List.cons.inj g1
 subst q1
 obtain ⟨rfl,_⟩:=List.cons.inj g2
 subst e1
 obtain ⟨h1,hs1⟩:=weights_cons (P:=Tryz.prog) (t:=30) (d:=d1) hsz
 obtain ⟨h2,hs2⟩:=weights_cons (P:=Tryz.prog) (t:=30) (d:=d2) hs1
 have r1:=hr.1
 obtain ⟨fs1,hf1,_⟩:=undPart
 have r1:=relA hf1 (hval0 0 _ _ (by kernel_rfl) rfl) (relPart w1 r1)
 have r2:=hr.2.1
 obtain ⟨fs2,hf2,_⟩:=undPart
 have r2:=relA hf2 (hval0 1 _ _ (by kernel_rfl) rfl) (relPart w2 r2)
 have b1:=hk d1 (by simp)
 have b2:=hk d2 (by simp)
 exact open_calls (s:=Rows.lineageMergesSpec) (call_of (merges_c _ _ (sml_of w1 b1) (sml_of w2 b2) (ty_sz (part_sz w1 h1)) (ty_sz (part_sz w2 h2)))) (t:=4) (ds:=[d1,d2]) ⟨_,_,rfl,r1,_,_,rfl,r2,rfl⟩ (by kernel_rfl) underBool rfl rfl Tryz.laidOut Tryz.mapsRowed Tryz.slicesOk (by rw [hps];intro t ht;simp only [List.mem_cons,List.not_mem_nil,or_false] at ht;rcases ht with rfl | rfl<;>exact of_decide_eq_true (by kernel_rfl)) hW
theorem lineageMerges_holds:Rows.LineageMergesUptoSaid :=
 OpenClaim.holds_of_cond 4 Tryz.f4 rfl rfl rfl rfl rfl rfl rfl ⟨rfl,rfl,rfl,rfl,rfl⟩ rfl rfl rfl rfl rfl (by kernel_rfl) Tryz.func4 (by kernel_rfl)
  (of_decide_eq_true (by kernel_rfl)) (by unfold Func.isWrapper;first | (rw [if_pos (by decide +kernel)];kernel_rfl) | (rw [if_neg (by decide +kernel)];exact ⟨rfl,rfl⟩))
  (fun os started H enc _ F=>by rw [OpenClaim.pre_eq_preRow];exact lineageMerges_lifted os started H enc F)
theorem lineageMerges_said:Rows.LineageMergesUptoCardSaid :=
 Claim7.holds_tied_plain_at .later [] [.data,.pinned] true (true, "2178a0abd1c3215b494c4ba3807e31ca51ad02823946fccec094b9321f61a96a") true
  lineageMerges_holds (fun _ h=>by cases h) (by kernel_rfl) (fun _ h=>by cases h) lineageMergesUpto_row_tie rfl ⟨rfl,rfl⟩ (by kernel_rfl) rfl
  (fun f fn hf hfn=>by
    obtain rfl:f=4:=Option.some.inj ((show Tryz.prog.funcNamed "gazette/gazettelaw17.LineageMerges" = some 4 by kernel_rfl).symm.trans hf) |>.symm
    obtain rfl:fn=Tryz.f4:=(Option.some.inj (Tryz.func4.symm.trans hfn)).symm
    exact ⟨by kernel_rfl,fun j t ht=>by
     rw [show Tryz.f4.params=#[30,30] by kernel_rfl] at ht
     have h3:t=30∨t=30:=by
      rcases j with _ | _ | j
      · exact Or.inl (by simpa using ht.symm)
      · exact Or.inr ((by simpa using ht.symm))
      · simp at ht
     rcases h3 with rfl | rfl
     · exact (show Tryz.prog.wantsStandIn 30=false by kernel_rfl)
     · exact (show Tryz.prog.wantsStandIn 30=false by kernel_rfl)⟩)
  (by kernel_rfl)
end Go.Proofs.YtckklclehofddaaGreatDoor.Q
namespace Go.Proofs.YtckklclehofddaaGreatDoor
theorem merges_said:Rows.LineageMergesUptoCardSaid:=Q.lineageMerges_said
end Go.Proofs.YtckklclehofddaaGreatDoor
