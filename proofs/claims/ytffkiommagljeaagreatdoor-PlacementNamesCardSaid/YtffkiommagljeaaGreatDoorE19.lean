import Derived.Test.YtffkiommagljeaaGreatDoorE18
set_option linter.unusedVariables false
set_option linter.unusedSimpArgs false
set_option linter.unusedSectionVars false
namespace Go.Ax
open Go
variable [Inhabited Gl0]
def CFT:=Nat->Nat->Oper->(Nat->AV)->(Nat->Blk)->T CE
def CE.Good (P:Program) (o:Oper) (t:Nat->AV) (rd:Nat->Blk) (e:CE):Prop:=∀ M,(∀ i∈e.rd,getM M i=rd i)->StepT P o t M e
def CftOk (P:Program) (cf:CFT):Prop:=∀ nid p o t rd,(∀ k,nid<=k->rd k=.dead)->(cf nid p o t rd).Sat (CE.Good P o t rd)
def CE.bare (e:CE):CE:=⟨e.r,e.rd,e.wr,e.kl,[]⟩
def CE.toT (e:CE):T CE:=T.needs e.ob (.ret e.bare)
theorem CE.toT_ok {P:Program} {o:Oper} {t:Nat->AV} {rd:Nat->Blk} {e:CE} (h:Hold e.ob->e.Good P o t rd):e.toT.Sat (CE.Good P o t rd) :=
 T.Sat.needs fun ho=>T.Sat.ret fun M hM H E w a K Q hC hT hd hk=>h ho M hM H E w a K Q hC hT hd hk
def orT (a:Option CE) (b:T CE):T CE:=match a with | some e=>e.toT | none=>b
def SP:=Nat->Nat->Oper->(Nat->AV)->(Nat->Blk)->Option (T CE)
def SpOk (P:Program) (sp:SP):Prop:=∀ nid p o t rd T,sp nid p o t rd=some T->(∀ k,nid<=k->rd k=.dead)->T.Sat (CE.Good P o t rd)
structure CFS where
 sp:SP
 cf:CFT
def CfsOk (P:Program) (cs:CFS):Prop:=SpOk P cs.sp/\CftOk P cs.cf
def eopT (P:Program) (hh:Nat->Option Hint) (cf:CFS) (nid p:Nat) (o:Oper) (t:Nat->AV) (rd:Nat->Blk):T CE :=
 match o.op with
 | .call { callee:=.value _,.. }=>cf.cf nid p o t rd
 | .call { callee:=.invoke ..,.. }=>cf.cf nid p o t rd
 | _=>(match hh p with
   | some h=>orT (yGo P rd nid o (some h) t false) .fail
   | none=>(match cf.sp nid p o t rd with
     | some T=>T
     | none=>orT (yop P rd nid o t) (cf.cf nid p o t rd)))
theorem orT_ok {P:Program} {o:Oper} {t:Nat->AV} {rd:Nat->Blk} {a:Option CE} {b:T CE} (ha:∀ e,a=some e->Hold e.ob->e.Good P o t rd) (hb:b.Sat (CE.Good P o t rd)):(orT a b).Sat (CE.Good P o t rd):=by
 cases a with
 | none=>exact hb
 | some e=>exact CE.toT_ok (ha e rfl)
theorem eopT_ok {P:Program} {hh:Nat->Option Hint} {cf:CFS} (hcf:CfsOk P cf) {nid p:Nat} {o:Oper} {t:Nat->AV} {rd:Nat->Blk} (hd:∀ k,nid<=k->rd k=.dead):(eopT P hh cf nid p o t rd).Sat (CE.Good P o t rd):=by
 unfold eopT
 split
 · exact hcf.2 _ _ _ _ _ hd
 · exact hcf.2 _ _ _ _ _ hd
 · split
   · exact orT_ok (fun e he ho M hM=>yGo_ok he ho hd hM) T.Sat.fail
   · split
     · rename_i T hT
       exact hcf.1 _ _ _ _ _ _ hT hd
     · exact orT_ok (fun e he ho M hM=>yop_ok he ho hd hM) (hcf.2 _ _ _ _ _ hd)
def usesC (p:Nat) (d:Option Tmp):List Oper->Bool
 | []=>false
 | o::r=>(match o.guard with | some (j,_)=>Nat.beq j p | none=>false)||(match o.op,d with | .pick (.tmp c) _ _,some d=>Nat.beq c d | _,_=>false)||usesC p d r
def splitE (dec:Bool) (e:CE):T CE :=
 match dec with
 | false=>.ret e
 | true=>(match e.r with
   | .y (.bool b)=>.ite b (.ret ⟨.s (.bool true),e.rd,e.wr,e.kl,e.ob⟩) (.ret ⟨.s (.bool false),e.rd,e.wr,e.kl,e.ob⟩)
   | _=>.ret e)
theorem good_bool {P:Program} {o:Oper} {t:Nat->AV} {rd:Nat->Blk} {e:CE} {b c:Bool} (he:e.Good P o t rd) (hr:e.r=.y (.bool b)) (hb:b=c):CE.Good P o t rd ⟨.s (.bool c),e.rd,e.wr,e.kl,e.ob⟩:=by
 intro M hM H E w a K Q hC hT hd hk
 refine he M hM H E w a K Q hC hT hd fun v w' H' E' hr' hc hE=>hk v w' H' E' ?_ hc hE
 rw [hr] at hr'
 subst hb
 exact hr'
theorem splitE_ok {P:Program} {o:Oper} {t:Nat->AV} {rd:Nat->Blk} {dec:Bool} {e:CE} (he:e.Good P o t rd):(splitE dec e).Sat (CE.Good P o t rd):=by
 unfold splitE
 split
 · exact T.Sat.ret he
 · split
   · rename_i b hr
     exact T.Sat.ite (fun hb=>T.Sat.ret (good_bool he hr hb)) (fun hb=>T.Sat.ret (good_bool he hr hb))
   · exact T.Sat.ret he
def opsT (P:Program) (hh:Nat->Option Hint) (cf:CFS) (all:Array Oper):List Oper->Nat->St->T St
 | [],_,st=>.ret st
 | o::r,p,st =>
   match guardA all (get st.t) o with
   | some true=>(eopT P hh cf (len st.m) p o (get st.t) (getM st.m)).bind fun e=>fE e fun e=>(splitE (usesC p o.dst all.toList) e).bind fun e=>fS (st.app o.dst (e.stp st.m)) fun s=>opsT P hh cf all r (p+1) s
   | some false=>fS ⟨putT st.t o.dst (.tup []),st.m,st.mv⟩ fun s=>opsT P hh cf all r (p+1) s
   | none=>.fail
def OpsOk (P:Program) (all:Array Oper) (p n:Nat) (st st':St):Prop :=
 (∀ i∈st.mv,i∈st'.mv)/\∀ H E w a (Q:Exit->Act->World->Prop),Conc H E w st.m->RelL st.t H E a.tmps.toList->a.defers=[] ->
   (∀ a' w' H' E',a'.defers=[]->RelL st'.t H' E' a'.tmps.toList->Conc H' E' w' st'.m->Evol st'.mv H E w H' E' w'->Q .normal a' w')->wpOps P all Q (List.range' p n) a w
theorem opsT_ok {P:Program} {hh:Nat->Option Hint} {cf:CFS} {all:Array Oper} (hcf:CfsOk P cf) :
 ∀ {l:List Oper} {p:Nat} {st:St},(∀ j,l[j]? = all[p+j]?)->(opsT P hh cf all l p st).Sat (OpsOk P all p l.length st)
 | [],p,st,_=>T.Sat.ret ⟨fun _ h=>h,fun H E w a Q hC hT hd hq=>hq a w H E hd hT hC (Evol.refl _ _ _ _)⟩
 | o::r,p,st,hl=>by
   have hp:all[p]? = some o:=by have:=hl 0;simpa using this.symm
   have hr:∀ j,r[j]? = all[p+1+j]?:=fun j=>by have:=hl (j+1);simp at this;rw [this];congr 1;omega
   simp only [opsT]
   split
   · rename_i hg
     simp only [fE_eq,fS_eq]
     refine (eopT_ok hcf (fun k hk=>getM_len _ _ hk)).bind fun e0 he0=>(splitE_ok he0).bind fun e he=>(opsT_ok hcf hr).mono ?_
     rintro st' ⟨hmv,hrest⟩
     have hstep:=he st.m fun _ _=>rfl
     refine ⟨fun i hi=>hmv i (mem_app i hi),fun H E w a Q hC hT hd hq=>?_⟩
     simp only [List.length_cons,List.range'_succ,wpOps,hp]
     rw [guardA_ok (relT_of hT) hg]
     simp only [if_true]
     refine .inl (hstep H E w a _ Q hC (relT_of hT) hd fun v w' H' E' hr' hC' hE'=>?_)
     refine hrest H' E' w' _ Q hC' (relL_put (hE'.relL hT) hr') (by rw [put_defers];exact hd) fun a2 w2 H2 E2 hd2 hT2 hC2 hE2=>?_
     exact hq a2 w2 H2 E2 hd2 hT2 hC2 (hE'.trans hE2 fun i hi=>hmv i (by simp [St.app,CE.stp,hi]))
   · rename_i hg
     simp only [fS_eq]
     refine (opsT_ok hcf hr).mono ?_
     rintro st' ⟨hmv,hrest⟩
     refine ⟨hmv,fun H E w a Q hC hT hd hq=>?_⟩
     simp only [List.length_cons,List.range'_succ,wpOps,hp]
     rw [guardA_ok (relT_of hT) hg]
     simp only [Bool.false_eq_true,if_false]
     exact hrest H E w _ Q hC (relL_put hT (⟨#[],rfl,rfl⟩:Rel (.tup []) H E undef)) (by rw [put_defers];exact hd) hq
   · exact T.Sat.fail
theorem opsT_code {P:Program} {hh:Nat->Option Hint} {cf:CFS} {id:Nat} {ops:Array Oper} {st:St} (hcf:CfsOk P cf):(opsT P hh cf ops ops.toList 0 st).Sat fun st'=>ACode P (.region id ops false) st .normal st':=by
 refine (opsT_ok hcf (fun j=>by simp)).mono ?_
 rintro st' ⟨hmv,hrun⟩
 refine ⟨hmv,fun H E w a hC hT hd=>wp_region ?_⟩
 rw [List.range_eq_range']
 have:=hrun H E w a (fun x' a' w'=>∃ H' E',x'=Exit.normal/\a'.defers=[]/\RelL st'.t H' E' a'.tmps.toList/\Conc H' E' w' st'.m/\Evol st'.mv H E w H' E' w') hC hT hd fun a' w' H' E' h1 h2 h3 h4=>⟨H',E',rfl,h1,h2,h3,h4⟩
 simpa using this
def trimH (h:Option Hint) (e:CE) (rd:Nat->Blk):List (Nat×Blk):=match h with
 | some (.row 999999 _)=>(match e.kl,onceB (ids e.wr) with
   | [],true=>trimW e.rd rd e.wr
   | _,_=>e.wr)
 | _=>e.wr
theorem trimH_ok {h:Option Hint} {e:CE} {rd:Nat->Blk} {M:List Blk} (hM:∀ i∈e.rd,getM M i=rd i) (j:Nat):getM (applyW (trimH h e rd) (killM e.kl M)) j=getM (applyW e.wr (killM e.kl M)) j:=by
 unfold trimH
 split
 · split
   · rename_i hk ho
     rw [hk]
     exact applyW_trim hM ho j
   · rfl
 · rfl
def dstepT (P:Program) (hh:Nat->Option Hint) (cf:CFS) (all:Array Oper) (p:Nat) (ds:List DE) (o:Oper) (st:St):T DE :=
 match allLt (edgesOf o) p with
 | false=>.fail
 | true=>(match guardA all (restr (o.looksAt all) (get st.t)) o with
   | some true=>(eopT P hh cf (len st.m) p o (restr (o.looksAt all) (get st.t)) (getM st.m)).bind fun e=>fE e fun e=>(splitE (usesC p o.dst all.toList) e).bind fun e=>.ret ⟨pmOf ds (edgesOf o),o.dst,o.looksAt all,e.rd,e.r,trimH (hh p) e (getM st.m),e.kl,[]⟩
   | some false=>.ret ⟨pmOf ds (edgesOf o),o.dst,o.looksAt all,[],.tup [],[],[],[]⟩
   | none=>.fail)
def edrawT (P:Program) (hh:Nat->Option Hint) (cf:CFS) (all:Array Oper) (s0:St):List Oper->Nat->List DE->St->T St
 | [],_,ds,st=>(match regOk s0 ds with | true=>.ret st | false=>.fail)
 | o::r,p,ds,st=>(dstepT P hh cf all p ds o st).bind fun d=>match compatAll ds 0 d with
   | true=>fS (d.app st) fun s=>edrawT P hh cf all s0 r (p+1) (ds++[d]) s
   | false=>.fail
def DGood (P:Program) (all:Array Oper) (p:Nat) (ds:List DE) (o:Oper) (st:St) (d:DE):Prop :=
 d.dst=o.dst/\(∀ k∈edgesOf o,k<p)/\d.pm=pmOf ds (edgesOf o)/\∀ s',alike d st s'->StepD P all o d s'
theorem dstepT_ok {P:Program} {hh:Nat->Option Hint} {cf:CFS} {all:Array Oper} (hcf:CfsOk P cf) {p:Nat} {ds:List DE} {o:Oper} {st:St}:(dstepT P hh cf all p ds o st).Sat (DGood P all p ds o st):=by
 unfold dstepT
 split
 · exact T.Sat.fail
 rename_i hlt
 have et:∀ s':St,(∀ t∈o.looksAt all,get st.t t=get s'.t t)->restr (o.looksAt all) (get s'.t)=restr (o.looksAt all) (get st.t):=by
  intro s' hs
  funext i
  unfold restr
  split
  · rename_i hm
    exact (hs i (mem_iff.1 hm)).symm
  · rfl
 split
 · rename_i hg
   simp only [fE_eq]
   refine (eopT_ok hcf (fun k hk=>getM_len _ _ hk)).bind fun e0 he0=>(splitE_ok he0).bind fun e he=>T.Sat.ret ?_
   refine ⟨rfl,allLt_ok hlt,rfl,fun s' hs H E w a K Q hC hT hd hk=>?_⟩
   have et:=et s' hs.2.1
   have hT':RelT (restr (o.looksAt all) (get st.t)) H E a:=by rw [<- et];exact relT_restr (relT_of hT)
   rw [guardA_ok hT' hg]
   simp only [if_true]
   have hm:∀ i∈e.rd,getM s'.m i=getM st.m i:=fun i hi=>(hs.2.2 i hi).symm
   exact .inl (he s'.m hm H E w a K Q hC hT' hd fun v w' H' E' g1 g2 g3=>hk v w' H' E' g1 (g2.congr fun j=>trimH_ok hm j) g3)
 · rename_i hg
   refine T.Sat.ret ⟨rfl,allLt_ok hlt,rfl,fun s' hs H E w a K Q hC hT hd hk=>?_⟩
   have et:=et s' hs.2.1
   have hT':RelT (restr (o.looksAt all) (get st.t)) H E a:=by rw [<- et];exact relT_restr (relT_of hT)
   rw [guardA_ok hT' hg]
   simp only [Bool.false_eq_true,if_false]
   exact hk undef w H E (⟨#[],rfl,rfl⟩:Rel (.tup []) H E undef) hC (Evol.refl _ _ _ _)
 · exact T.Sat.fail
theorem dok_step {P:Program} {all:Array Oper} {s0 st:St} {p:Nat} {ds:List DE} {d:DE} {o:Oper} (hk:DOk P all s0 p ds) (hs:st=foldX ds 0 (fun _=>true) s0) (hp:all[p]? = some o) (hd:DGood P all p ds o st d) (hc:compatAll ds 0 d=true) :
 DOk P all s0 (p+1) (ds++[d]):=by
 obtain ⟨h1,h2,h3,h4⟩:=hd
 have hlen:=hk.size
 refine ⟨by simp [hlen],fun j dj hj hdj=>?_⟩
 rcases Nat.lt_or_ge j p with hjp | hjp
 · have hdj':ds[j]? = some dj:=by
    rw [List.getElem?_append_left (by omega)] at hdj;exact hdj
   obtain ⟨oj,g1,g2,g3,g4,g5,g6⟩:=hk.step j dj hjp hdj'
   refine ⟨oj,g1,g2,g3,fun k hb=>?_,fun k dk hkj hdk=>?_,?_⟩
   · obtain ⟨a,b⟩:=g4 k hb
     refine ⟨a,b.imp id ?_⟩
     rintro ⟨e,de,x,y,z⟩
     exact ⟨e,de,x,by rw [List.getElem?_append_left (by have:=(List.getElem?_eq_some_iff.1 y).1;omega)];exact y,z⟩
   · rw [List.getElem?_append_left (by omega)] at hdk
     exact g5 k dk hkj hdk
   · have e:foldX (ds++[d]) 0 (below j) s0=foldX ds 0 (below j) s0:=by
      rw [foldX_append]
      exact foldX_none [d] _ _ fun k hk=>by
       simp only [below]
       cases hb:Nat.blt k j with
       | false=>rfl
       | true=>rw [Nat.blt_eq] at hb;omega
     rw [e];exact g6
 · have hjp:j=p:=by omega
   subst hjp
   have hdj:dj=d:=by
    rw [List.getElem?_append_right (by omega)] at hdj
    simp [hlen] at hdj
    exact hdj.symm
   subst hdj
   refine ⟨o,hp,h1,h2,fun k hb=>?_,fun k dk hkj hdk=>?_,?_⟩
   · rw [h3] at hb
     obtain ⟨e,he,hb⟩:=pmOf_bit hb
     rcases hb with rfl | hb
     · exact ⟨h2 e he,.inl he⟩
     · rw [pmAt_eq] at hb
       cases hde:ds[e]? with
       | none=>rw [hde] at hb;simp at hb
       | some de =>
         rw [hde] at hb
         have hep:=h2 e he
         obtain ⟨oe,_,_,_,g4,_⟩:=hk.step e de hep hde
         obtain ⟨a,_⟩:=g4 k hb
         exact ⟨by omega,.inr ⟨e,de,he,by rw [List.getElem?_append_left (by omega)];exact hde,hb⟩⟩
   · rw [List.getElem?_append_left (by omega)] at hdk
     have:=compatAll_ok hc k dk hdk
     simpa using this
   · have e:foldX (ds++[dj]) 0 (below j) s0=st:=by
      rw [foldX_append,hs]
      have e1:foldX ds 0 (below j) s0=foldX ds 0 (fun _=>true) s0:=foldX_congr ds 0 _ fun k _ hk=>by
       simp only [below,Nat.blt_eq];omega
      rw [e1]
      exact foldX_none [dj] _ _ fun k hk=>by
       simp only [below]
       cases hb:Nat.blt k j with
       | false=>rfl
       | true=>rw [Nat.blt_eq] at hb;omega
     rw [e];exact h4
theorem edrawT_ok {P:Program} {hh:Nat->Option Hint} {cf:CFS} {all:Array Oper} (hcf:CfsOk P cf) {s0:St}:∀ {l:List Oper} {p:Nat} {ds:List DE} {st:St},(∀ j,l[j]? = all[p+j]?)->DOk P all s0 p ds->st=foldX ds 0 (fun _=>true) s0 ->
 (edrawT P hh cf all s0 l p ds st).Sat fun st'=>∃ ds',DOk P all s0 (p+l.length) ds'/\RegP s0 ds'/\st'=foldX ds' 0 (fun _=>true) s0
 | [],p,ds,st,_,hk,hs=>by
   simp only [edrawT]
   split
   · rename_i hreg
     exact T.Sat.ret ⟨ds,hk,regOk_ok hreg,hs⟩
   · exact T.Sat.fail
 | o::r,p,ds,st,hl,hk,hs=>by
   simp only [edrawT]
   have hp:all[p]? = some o:=by have:=hl 0;simpa using this.symm
   have hr:∀ j,r[j]? = all[p+1+j]?:=fun j=>by have:=hl (j+1);simp at this;rw [this];congr 1;omega
   refine (dstepT_ok hcf).bind fun d hd=>?_
   split
   case h_2=>exact T.Sat.fail
   rename_i hc
   simp only [fS_eq]
   rw [show p+(o::r).length=p+1+r.length by simp;omega]
   exact edrawT_ok hcf hr (dok_step hk hs hp hd hc) (by rw [foldX_append,<- hs];rfl)
theorem edrawT_code {P:Program} {hh:Nat->Option Hint} {cf:CFS} {id:Nat} {ops:Array Oper} {st:St} (hm:P.follows .mixedOrders=true) (hcf:CfsOk P cf):(edrawT P hh cf ops st ops.toList 0 [] st).Sat fun st'=>ACode P (.region id ops true) st .normal st':=by
 refine (edrawT_ok hcf (s0:=st) (l:=ops.toList) (p:=0) (ds:=[]) (fun j=>by simp) ⟨rfl,fun j d hj=>absurd hj (Nat.not_lt_zero j)⟩ rfl).mono ?_
 rintro st' ⟨ds,h1,h2,rfl⟩
 exact ACode.drawn hm (by simpa using h1) h2
end Go.Ax
