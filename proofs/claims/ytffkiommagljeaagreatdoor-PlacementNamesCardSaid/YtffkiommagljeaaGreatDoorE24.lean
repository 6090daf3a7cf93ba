import Derived.Test.YtffkiommagljeaaGreatDoorE21
import Derived.Test.YtffkiommagljeaaGreatDoorE22
import Derived.Test.YtffkiommagljeaaGreatDoorE23
set_option linter.unusedVariables false
set_option linter.unusedSimpArgs false
set_option linter.unusedSectionVars false
namespace Go.Ax
open Go
variable [Inhabited Gl0]
def IHT:=Nat->FuncId->List AV->List Blk->T An
def IHT.Ok (P:Program) (ih:IHT):Prop:=∀ p g args M,(ih p g args M).Sat (ACall' P g args M)
def callT (ih:IHT) (sub:Bool) (p:Nat) (g:FuncId) (args:List AV) (nid:Nat) (rd:Nat->Blk):T CE :=
 match noRefL args with
 | true=>(ih p g (viewL depth (fun _=>.dead) args) []).map fun a=>⟨ren (shift nid) a.1,ids (wrOf nid nid a.2.1),wrOf nid nid a.2.1,[],[]⟩
 | false=>(fun L=>match sub with
   | false=>(ih p g (viewL depth (only L rd) args) []).bind fun a=>.need (tagT a.1=true) (.need (allBP a.2.1) (.ret ⟨ren (shift nid) a.1,L++ids (wrOf nid nid a.2.1),wrOf nid nid a.2.1,[],[]⟩))
   | true=>(ih p g (renL (keepIn L) args) (cutF L rd 0 nid)).bind fun a=>match lowDead L nid 0 a.2.1&&allLt L nid with
     | true=>.ret ⟨a.1,L++ids (wrS L nid a.2.1),wrS L nid a.2.1,inOnly L [] a.2.2,[]⟩
     | false=>.fail) (reach rd depth (fresh [] (idsL args)))
def CallOk (P:Program) (g:FuncId) (args:List AV) (rd:Nat->Blk) (e:CE):Prop:=∀ M,(∀ i∈e.rd,getM M i=rd i)->ACall P g args M e.r (applyW e.wr (killM e.kl M)) e.kl
theorem callT_ok {P:Program} {ih:IHT} (hih:ih.Ok P) {sub:Bool} {p nid:Nat} {g:FuncId} {args:List AV} {rd:Nat->Blk} (hd:∀ k,nid<=k->rd k=.dead):(callT ih sub p g args nid rd).Sat (CallOk P g args rd):=by
 unfold callT
 split
 · rename_i hno
   refine (hih _ _ _ _).map fun a ha M hM=>?_
   simp only [killM]
   rw [<- place_eq]
   exact ACall.direct ha hno fun k hk=>(hM _ (ids_wrOf a.2.1 nid nid k hk)).trans (hd _ (by omega))
 · simp only
   split
   · refine (hih _ _ _ _).bind fun a ha=>T.Sat.need fun h1=>T.Sat.need fun h2=>T.Sat.ret fun M hM=>?_
     simp only [killM]
     rw [<- place_eq]
     refine ACall.borrow (fun i=>?_) ha h1 (allBP_get h2) fun k hk=>(hM _ (List.mem_append_right _ (ids_wrOf a.2.1 nid nid k hk))).trans (hd _ (by omega))
     unfold only
     split
     · rename_i hm
       exact .inr (hM i (List.mem_append_left _ (mem_iff.1 hm))).symm
     · exact .inl rfl
   · refine (hih _ _ _ _).bind fun a ha=>?_
     split
     case h_2=>exact T.Sat.fail
     rename_i ht
     simp only [Bool.and_eq_true] at ht
     refine T.Sat.ret fun M hM=>?_
     refine ACall.sub (fun i hi=>hM i (List.mem_append_left _ hi)) (allLt_ok ht.2) ha ht.1 (fun j h1 h2=>?_) inOnly_ok.2
     refine (hM j (List.mem_append_right _ ?_)).trans (hd j h1)
     unfold wrS
     rw [ids_eq,List.map_append,<- ids_eq,<- ids_eq,ids_pairs,ids_pairs,List.mem_append]
     exact .inr (mem_iff.1 (mem_upFrom.2 (by omega)))
def callFT (P:Program) (ih:IHT) (sub:FuncId->Bool) (els:CFT):CFT:=fun nid p o t rd =>
 match o.op with
 | .call { callee:=.value fo,args,.. }=>(match ev t fo with
   | .fn (.func g) first cap=>(match plainFn P g with
     | true=>callT ih (sub g) p g (first++args.toList.map (ev t)++cap) nid rd
     | false=>(match extE P g (first++args.toList.map (ev t)++cap) with
       | some r=>.ret ⟨r,[],[],[],[]⟩
       | none=>(match extC P nid g (first++args.toList.map (ev t)++cap) rd with
         | some e=>.ret e
         | none=>.fail)))
   | _=>.fail)
 | .call { callee:=.invoke ro name,args,.. }=>(match ev t ro with
   | .ifc ty av=>(match methR P ty name av with
     | some (g,rv)=>(match plainFn P g with
       | true=>callT ih (sub g) p g (rv::args.toList.map (ev t)) nid rd
       | false=>(match extE P g (rv::args.toList.map (ev t)) with
         | some r=>.ret ⟨r,[],[],[],[]⟩
         | none=>(match extC P nid g (rv::args.toList.map (ev t)) rd with
           | some e=>.ret e
           | none=>.fail)))
     | none=>.fail)
   | _=>.fail)
 | _=>els nid p o t rd
theorem callFT_ok {P:Program} {ih:IHT} (hih:ih.Ok P) {sub:FuncId->Bool} {els:CFT} (hel:CftOk P els):CftOk P (callFT P ih sub els):=by
 intro nid p o t rd hd
 unfold callFT
 split
 · rename_i fo args ats hop
   split
   · rename_i g first cap hf
     split
     · rename_i hp
       unfold plainFn at hp
       split at hp
       case h_2=>cases hp
       rename_i fn hg
       simp only [Bool.not_eq_true',Bool.or_eq_false_iff] at hp
       refine (callT_ok hih hd).mono fun e he M hM=>?_
       intro H E w a K Q hC hT hdf hk
       exact call_step hop hf hg hp.1 hp.2 (he M hM) H E w a K Q hC hT hk
     · have hvals:∀ H E w a,RelT t H E a->∃ vals:Array Value,RelL (first++args.toList.map (ev t)++cap) H E vals.toList/\(execOp a.eval o).run P w=(callFunc g vals).run P w:=by
        intro H E w a hT
        have hv:=rel_ev hT fo
        rw [hf] at hv
        obtain ⟨x,y,hv,h1,h2⟩:=hv
        refine ⟨x++args.map a.eval++y,?_,by simp [execOp,hop,resolve,hv,Deferred.ofValue,invoke]⟩
        have:=relL_append (relL_append h1 (relL_ev hT args.toList)) h2
        simpa using this
       split
       · rename_i r hr
         refine T.Sat.ret fun M hM=>?_
         intro H E w a K Q hC hT hdf hk
         obtain ⟨vals,hargs,hrun⟩:=hvals H E w a hT
         obtain ⟨v,q1,q2⟩:=extE_ok hr hargs w
         unfold Oper.wp
         rw [hrun,q1]
         exact hk v w H E q2 hC (Evol.refl _ _ _ _)
       · split
         case h_2=>exact T.Sat.fail
         rename_i e he
         refine T.Sat.ret fun M hM=>?_
         intro H E w a K Q hC hT hdf hk
         obtain ⟨vals,hargs,hrun⟩:=hvals H E w a hT
         obtain ⟨v,w',H',E',q1,q2,q3,q4⟩:=extC_ok hd he M hM H E w vals hC hargs
         unfold Oper.wp
         rw [hrun,q1]
         exact hk v w' H' E' q2 q3 q4
   · exact T.Sat.fail
 · rename_i ro name args ats hop
   split
   · rename_i ty av hro
     split
     · rename_i g rv hm
       split
       · rename_i hp
         unfold plainFn at hp
         split at hp
         case h_2=>cases hp
         rename_i fn hg
         simp only [Bool.not_eq_true',Bool.or_eq_false_iff] at hp
         refine (callT_ok hih hd).mono fun e he M hM=>?_
         intro H E w a K Q hC hT hdf hk
         exact inv_stepR hop hro hm hg hp.1 hp.2 (he M hM) H E w a K Q hC hT hk
       · split
         · rename_i r hr
           refine T.Sat.ret fun M hM=>?_
           intro H E w a K Q hC hT hdf hk
           obtain ⟨vals,hargs,hrun⟩:=inv_runR (w:=w) hop hro hm hT
           obtain ⟨v,q1,q2⟩:=extE_ok hr hargs w
           unfold Oper.wp
           rw [hrun,q1]
           exact hk v w H E q2 hC (Evol.refl _ _ _ _)
         · split
           case h_2=>exact T.Sat.fail
           rename_i e he
           refine T.Sat.ret fun M hM=>?_
           intro H E w a K Q hC hT hdf hk
           obtain ⟨vals,hargs,hrun⟩:=inv_runR (w:=w) hop hro hm hT
           obtain ⟨v,w',H',E',q1,q2,q3,q4⟩:=extC_ok hd he M hM H E w vals hC hargs
           unfold Oper.wp
           rw [hrun,q1]
           exact hk v w' H' E' q2 q3 q4
     · exact T.Sat.fail
   · exact T.Sat.fail
 · exact hel _ _ _ _ _ hd
def ofCF (cf:CF):CFT:=fun nid p o t rd=>match cf nid p o t rd with | some e=>e.toT | none=>.fail
theorem ofCF_ok {P:Program} {cf:CF} (h:CfOk P cf):CftOk P (ofCF cf):=by
 intro nid p o t rd hd
 unfold ofCF
 split
 · rename_i e he
   exact CE.toT_ok fun ho M hM=>h _ _ _ _ _ _ he ho hd M hM
 · exact T.Sat.fail
def svI:AV->AV
 | .ifc t a=>.ifc t (sv a)
 | a=>sv a
theorem rel_svI {a:AV} {H:HH} {E:Env} {v:Value} (h:Rel a H E v):Rel (svI a) H E v:=by
 cases a with
 | ifc t a=>exact ⟨h.choose,h.choose_spec.1,rel_sv h.choose_spec.2⟩
 | _=>exact rel_sv h
def eqS0 (P:Program):CF:=fun nid p o t rd=>match eqX P (fun _=>none) nid p o (fun i=>svI (t i)) rd with
 | some e=>some ⟨retag e.r,e.rd,e.wr,e.kl,e.ob⟩
 | none=>none
theorem eqS0_ok (P:Program):CfOk P (eqS0 P):=by
 intro nid p o t rd e h ho hd M hM
 unfold eqS0 at h
 split at h
 case h_2=>cases h
 rename_i e' he
 cases h
 exact stepT_retag fun H E w ac K Q hC hT=>eqX_ok P _ nid p o _ rd e' he ho hd M hM H E w ac K Q hC fun i=>rel_svI (hT i)
def slotT (t:Nat->AV) (i:Nat) (a:AV) (j:Nat):AV:=match Nat.beq j i with | true=>a | false=>t j
theorem relT_slot {t:Nat->AV} {H:HH} {E:Env} {ac:Act} {i:Nat} {a:AV} (h:RelT t H E ac) (ha:∀ v,Rel (t i) H E v->Rel a H E v):RelT (slotT t i a) H E ac:=fun j=>by
 unfold slotT
 split
 · rename_i hj
   have:=Nat.eq_of_beq_eq_true hj
   subst this
   exact ha _ (h j)
 · exact h j
def optQ (P:Program):CF:=fun nid p o t rd=>match o.op with
 | .binOp _ _ (.tmp i) _ _=>(match t i with
   | .opt b tt a=>(match eqX P (fun _=>none) nid p o (slotT t i (.ifc tt a)) rd,eqX P (fun _=>none) nid p o (slotT t i (.s .nilIface)) rd with
     | some ⟨.s (.bool true),[],[],[],[]⟩,some ⟨.s (.bool false),[],[],[],[]⟩=>some ⟨.y (.bool b),[],[],[],[]⟩
     | some ⟨.s (.bool false),[],[],[],[]⟩,some ⟨.s (.bool true),[],[],[],[]⟩=>some ⟨.y (.bool (!b)),[],[],[],[]⟩
     | _,_=>none)
   | _=>none)
 | _=>none
theorem e0_env {a:AV} {H:HH} {E:Env} {v:Value} (h:Rel a H E0 v):Rel a H E v:=Rel.env (fun i j _ hl=>by simp [E0] at hl) h
theorem optQ_ok (P:Program):CfOk P (optQ P):=by
 intro nid p o t rd e h ho hd M hM
 unfold optQ at h
 split at h
 case h_2=>cases h
 rename_i i y f hop
 split at h
 case h_2=>cases h
 rename_i b tt a hti
 have key:∀ (x y:Bool) (r:Bool),eqX P (fun _=>none) nid p o (slotT t i (.ifc tt a)) rd=some ⟨.s (.bool x),[],[],[],[]⟩->eqX P (fun _=>none) nid p o (slotT t i (.s .nilIface)) rd=some ⟨.s (.bool y),[],[],[],[]⟩->r=(if b then x else y)->StepT P o t M ⟨.y (.bool r),[],[],[],[]⟩:=by
  intro x y r h1 h2 hr H E w ac K Q hC hT hdf hk
  cases hb:b with
  | true =>
    have hs:=eqX_ok P (fun _=>none) nid p o (slotT t i (.ifc tt a)) rd _ h1 (fun _ h=>by cases h) hd M (fun _ h=>by cases h)
    refine hs H E w ac K Q hC (relT_slot hT fun v hv=>?_) hdf fun v w' H' E' q1 q2 q3=>?_
    · rw [hti,hb] at hv
      obtain ⟨z,h1,h2⟩:=hv.1 rfl
      exact ⟨z,h1,e0_env h2⟩
    · refine hk v w' H' E' ?_ q2 q3
      rw [hr,hb]
      exact q1
  | false =>
    have hs:=eqX_ok P (fun _=>none) nid p o (slotT t i (.s .nilIface)) rd _ h2 (fun _ h=>by cases h) hd M (fun _ h=>by cases h)
    refine hs H E w ac K Q hC (relT_slot hT fun v hv=>?_) hdf fun v w' H' E' q1 q2 q3=>?_
    · rw [hti,hb] at hv
      exact ⟨hv.2 rfl,rfl⟩
    · refine hk v w' H' E' ?_ q2 q3
      rw [hr,hb]
      exact q1
 split at h
 · rename_i h1 h2
   cases h
   exact key true false b h1 h2 (by cases b<;>rfl)
 · rename_i h1 h2
   cases h
   exact key false true (!b) h1 h2 (by cases b<;>rfl)
 · cases h
def eqS (P:Program):CF:=fun nid p o t rd=>match eqS0 P nid p o t rd with
 | some e=>some e
 | none=>optQ P nid p o t rd
theorem eqS_ok (P:Program):CfOk P (eqS P):=by
 intro nid p o t rd e h
 unfold eqS at h
 split at h
 · rename_i e' he
   cases h
   exact eqS0_ok P nid p o t rd _ he
 · exact optQ_ok P nid p o t rd e h
structure Ctr (P:Program) where
 g:FuncId
 args:List AV
 m:List Blk
 t:T An
 ok:t.Sat (ACall' P g args m)
structure Job where
 t:List AV
 m:List Blk
 out:T (Exit×St)
structure HintsT (P:Program) where
 op:FuncId->Nat->Nat->Option Hint
 ct:FuncId->List AV->List Blk->Option (T An)
 ctOk:∀ g args M t,ct g args M=some t->t.Sat (ACall' P g args M)
 cs:FuncId->Nat->Nat->List AV->List Blk->Option (Ctr P)
 lp:FuncId->Nat->St->Option Job
 sub:FuncId->Bool
 rounds:Nat
 gc:Bool
 sp:FuncId->Nat->SP
 spOk:∀ f id,SpOk P (sp f id)
  /-- contracts by what the slots hold -/
 ca:List AV->FuncId->Nat->Nat->Option (Ctr P)
def noHT (P:Program):HintsT P:=⟨fun _ _ _=>none,fun _ _ _=>none,fun _ _ _ _ h=>(by cases h),fun _ _ _ _ _=>none,fun _ _ _=>none,fun _=>false,40,false,fun _ _ _ _ _ _ _=>none,fun _ _ _ _ _ _ _ _ h=>(by cases h),fun _ _ _ _=>none⟩
def LoopOk (P:Program) (_f:FuncId) (_k:Nat) (c:Code) (st:St) (out:T (Exit×St)):Prop:=out.Sat fun e=>ACode P (.loop c) st e.1 e.2
def useCtr {P:Program} (C:Ctr P) (g:FuncId) (args:List AV) (M:List Blk):T An :=
 match Nat.beq C.g g&&okMs (liveB C.m) C.m&&okL (liveB C.m) C.args with
 | true=>.need (leL args C.args) (.need (leQ M C.m) (C.t.map fun a=>(a.1,a.2.1,a.2.2++drops M C.m 0)))
 | false=>.fail
theorem useCtr_ok {P:Program} (C:Ctr P) {g:FuncId} {args:List AV} {M:List Blk}:(useCtr C g args M).Sat (ACall' P g args M):=by
 unfold useCtr
 split
 case h_2=>exact T.Sat.fail
 rename_i hb
 simp only [Bool.and_eq_true,Nat.beq_eq] at hb
 obtain ⟨⟨rfl,h2⟩,h3⟩:=hb
 refine T.Sat.need fun ha=>T.Sat.need fun hM=>C.ok.map fun a hc=>?_
 intro H E w vals hC hargs
 obtain ⟨E',hC',hE,hv⟩:=mem_leQ hC hM h2
 have hargs':RelL C.args H E' vals.toList:=by
  have:=RelL.ren _ hv (relL_le _ ha hargs)
  rwa [renL_ok _ _ h3] at this
 refine (hc H E' w vals hC' hargs').mono ?_
 rintro e w' ⟨v,H1,E1,rfl,hr,hC1,hE1⟩
 exact ⟨v,H1,E1,rfl,hr,hC1,hE.trans (hE1.weak fun i hi=>List.mem_append_left _ hi) fun i hi=>List.mem_append_right _ hi⟩
def ansT (P:Program) (fn:Func) (fr gc:Bool) (n:Nat) (e:Exit×St):T An :=
 match e with
 | (.ret,st) | (.normal,st)=>(match resA P st fn.results.toList with
   | some l=>(match fr with
     | false=>(match gc with
       | false=>.ret (resV l,st.m,st.mv)
       | true=>(fun L=>match nodup L with
         | true=>fA (ren (idx L) (resV l)) fun r=>fM (pick L st.m L) fun m=>fNs st.mv fun mv=>.ret (r,m,mv)
         | false=>.fail) (upTo 0 n++above n (reach (getM st.m) depth (fresh [] (upTo 0 n++idsL l)))))
     | true=>(fun L=>match nodup L with
       | true=>fA (ren (idx L) (resV l)) fun r=>fM (pick L st.m L) fun m=>.ret (r,m,[])
       | false=>.fail) (reach (getM st.m) depth (fresh [] (idsL l))))
   | none=>.fail)
 | _=>.fail
theorem ansT_ok {P:Program} {f:FuncId} {fn:Func} {c:Code} {args:List AV} {M0:List Blk} {e:Exit×St} (hf:P.funcs[f]? = some fn) (hb:fn.body=some c)
 (h:ACode P c ⟨initT fn.ntmps args,M0,[]⟩ e.1 e.2) {gc:Bool}:(ansT P fn (noBlk M0) gc (len M0) e).Sat (ACall' P f args M0):=by
 unfold ansT
 split
 case h_3=>exact T.Sat.fail
 all_goals
  split
  case h_2=>exact T.Sat.fail
  rename_i l hl
  split
  · split
    · refine T.Sat.ret ?_
      first
       | exact ACall.of_code hf hb (.inl rfl) h hl
       | exact ACall.of_code hf hb (.inr rfl) h hl
    · simp only
      split
      case h_2=>exact T.Sat.fail
      rename_i hn
      simp only [fA_eq,fM_eq,fNs_eq]
      refine T.Sat.ret ?_
      first
       | exact ACall.compactM (ACall.of_code hf hb (.inl rfl) h hl) hn (fun i hi=>by rw [upTo_at _ _ _ _ hi,Nat.zero_add])
       | exact ACall.compactM (ACall.of_code hf hb (.inr rfl) h hl) hn (fun i hi=>by rw [upTo_at _ _ _ _ hi,Nat.zero_add])
  · rename_i hM
    have:M0=[]:=by cases M0 with | nil=>rfl | cons _ _=>simp [noBlk] at hM
    subst this
    simp only
    split
    case h_2=>exact T.Sat.fail
    rename_i hn
    simp only [fA_eq,fM_eq]
    refine T.Sat.ret ?_
    first
     | exact ACall.compact (ACall.of_code hf hb (.inl rfl) h hl) hn
     | exact ACall.compact (ACall.of_code hf hb (.inr rfl) h hl) hn
abbrev EC:=FuncId->Code->St->T (Exit×St)
def EC.Ok (P:Program) (ec:EC):Prop:=∀ f c st,(ec f c st).Sat fun e=>ACode P c st e.1 e.2
def inlG (P:Program) (gc:Bool) (ec:EC) (g:FuncId) (args:List AV) (M:List Blk):T An :=
 match P.funcs[g]? with
 | some fn=>(match fn.body with
   | some c=>fL args fun args=>fSp (initT fn.ntmps args) fun t=>(match gc with | true=>fM M | false=>fun k=>k M) fun M=>(ec g c ⟨t,M,[]⟩).bind fun e=>ansT P fn (noBlk M) gc (len M) e
   | none=>.fail)
 | none=>.fail
abbrev inlT (P:Program) (ec:EC) (g:FuncId) (args:List AV) (M:List Blk):T An:=inlG P false ec g args M
theorem inlG_ok {P:Program} {gc:Bool} {ec:EC} (hec:ec.Ok P) {g:FuncId} {args:List AV} {M0:List Blk}:(inlG P gc ec g args M0).Sat (ACall' P g args M0):=by
 unfold inlG
 split
 case h_2=>exact T.Sat.fail
 rename_i fn hf
 split
 case h_2=>exact T.Sat.fail
 rename_i c hb
 cases gc<;>simp only [fL_eq,fSp_eq,fM_eq]<;>exact (hec _ _ _).bind fun e he=>ansT_ok hf hb he
theorem inlT_ok {P:Program} {ec:EC} (hec:ec.Ok P) {g:FuncId} {args:List AV} {M0:List Blk}:(inlT P ec g args M0).Sat (ACall' P g args M0):=inlG_ok hec
def atT (P:Program) (ht:HintsT P) (f:FuncId) (rg:Nat) (ts:List AV) (ec:EC):IHT:=fun p g args M =>
 match ht.cs f rg p args M with
 | some C=>useCtr C g args M
 | none=>(match ht.ca ts f rg p with
   | some C=>useCtr C g args M
   | none=>(match ht.ct g args M with
     | some t=>t
     | none=>inlG P ht.gc ec g args M))
theorem atT_ok {P:Program} {ht:HintsT P} {f:FuncId} {rg:Nat} {ts:List AV} {ec:EC} (hec:ec.Ok P):(atT P ht f rg ts ec).Ok P:=by
 intro p g args M
 unfold atT
 split
 · exact useCtr_ok _
 · split
   · exact useCtr_ok _
   · split
     · rename_i t h
       exact ht.ctOk _ _ _ _ h
     · exact inlG_ok hec
def eloopT (ec:EC) (f:FuncId) (c:Code):Nat->St->T (Exit×St)
 | 0,_=>.fail
 | n+1,st=>(ec f c st).bind fun e=>match e.1 with
   | .normal=>eloopT ec f c n e.2
   | x=>.ret (x,e.2)
theorem eloopT_ok {P:Program} {ec:EC} (hec:ec.Ok P) {f:FuncId} {c:Code}:∀ {n:Nat} {st:St},(eloopT ec f c n st).Sat fun e=>∃ m,ARounds P c m st e.1 e.2
 | 0,_=>T.Sat.fail
 | n+1,st=>by
   refine (hec _ _ _).bind fun e he=>?_
   obtain ⟨x,s⟩:=e
   cases x with
   | normal=>exact (eloopT_ok hec).mono fun e' ⟨m,hm⟩=>⟨m+1,ARounds.next he hm⟩
   | _=>exact T.Sat.ret ⟨1,ARounds.out (by intro h;cases h) he⟩
def cond2 (ec:EC) (f:FuncId) (x:AV) (a b:Code) (st st1 st2:St):T (Exit×St) :=
 match x with
 | .s (.bool true)=>ec f a st
 | .s (.bool false)=>ec f b st
 | .y (.bool c)=>.ite c (ec f a st1) (ec f b st2)
 | _=>.fail
def know (st:St) (c:Operand) (b:Bool):St:=match c with
 | .tmp i=>⟨set st.t i (.s (.bool b)),st.m,st.mv⟩
 | _=>st
def estepT (P:Program) (ht:HintsT P) (ec:EC) (f:FuncId) (c:Code) (st:St):T (Exit×St) :=
 match c with
 | .skip=>.ret (.normal,st)
 | .ret=>.ret (.ret,st)
 | .exit id=>.ret (.exit id,st)
 | .region id ops false=>(opsT P (ht.op f id) ⟨ht.sp f id,callFT P (atT P ht f id st.t ec) ht.sub (ofCF (orE (xops P fun _=>none) (eqS P)))⟩ ops ops.toList 0 st).map fun s=>(.normal,s)
 | .region id ops true=>(edrawT P (ht.op f id) ⟨ht.sp f id,callFT P (atT P ht f id st.t ec) ht.sub (ofCF (orE (xops P fun _=>none) (eqS P)))⟩ ops st ops.toList 0 [] st).map fun s=>(.normal,s)
 | .seq a b=>(ec f a st).bind fun e=>match e.1 with
   | .normal=>ec f b e.2
   | x=>.ret (x,e.2)
 | .cond c a b=>cond2 ec f (ev (get st.t) c) a b st (know st c true) (know st c false)
 | .block id c=>(ec f c st).map fun e=>match e.1 with
   | .exit j=>(match Nat.beq j id with | true=>(.normal,e.2) | false=>(.exit j,e.2))
   | x=>(x,e.2)
 | .loop c=>(match (match keyOf c with | some k=>ht.lp f k st | none=>none) with
   | some J=>.need (stLe st ⟨J.t,J.m,[]⟩) (.need (LoopOk P f ((keyOf c).getD 0) c ⟨J.t,J.m,[]⟩ J.out) (J.out.map fun e=>(e.1,⟨e.2.t,e.2.m,e.2.mv++(drops st.m J.m 0++st.mv)⟩)))
   | none=>eloopT ec f c ht.rounds st)
 | _=>.fail
def ecodeT (P:Program) (ht:HintsT P) (n:Nat):EC:=Nat.rec (fun _ _ _=>.fail) (fun _ ih=>estepT P ht ih) n
theorem know_code {P:Program} {st:St} {c:Operand} {d:Code} {x:Exit} {s:St} {b b':Bool} (hb:b=b') (hc:ev (get st.t) c=.y (.bool b)) (h:ACode P d (know st c b') x s):ACode P d st x s:=by
 cases c with
 | tmp i =>
   refine h.pre ?_
   refine ⟨fun _ h=>h,fun H E w vs hC hT=>⟨E,hC,?_,Evol.refl _ _ _ _⟩⟩
   have hl:=RelL.length hT
   refine relL_mk (by simp only [know,length_set];exact hl) fun j v hv=>?_
   have hr:=relL_get hT j v hv
   simp only [know,get_set]
   split
   · rename_i hij
     have e:get st.t i=.y (.bool b):=hc
     rw [<- hij.1,e] at hr
     subst hb
     exact hr
   · exact hr
 | const v=>exact h
 | global g=>exact h
 | func g=>exact h
theorem cond_y {P:Program} {c:Operand} {d e:Code} {s s1:St} {x:Exit} {b:Bool} (hc:ev (get s.t) c=.y (.bool b)) (h:ACode P (if b then d else e) s x s1):ACode P (.cond c d e) s x s1:=by
 refine ⟨h.1,fun H E w a hC hT hd=>?_⟩
 have hr:=rel_ev (relT_of hT) c
 rw [hc] at hr
 exact wp_cond hr.1 (h.2 H E w a hC hT hd)
theorem estepT_ok {P:Program} (hm:P.follows .mixedOrders=true) {ht:HintsT P} {ec:EC} (hec:ec.Ok P):EC.Ok P (estepT P ht ec):=by
 intro f c st
 have hcf:∀ id,CfsOk P ⟨ht.sp f id,callFT P (atT P ht f id st.t ec) ht.sub (ofCF (orE (xops P fun _=>none) (eqS P)))⟩:=fun id=>⟨ht.spOk f id,callFT_ok (atT_ok hec) (ofCF_ok (orE_ok (xops_ok P _) (eqS_ok P)))⟩
 unfold estepT
 split
 · exact T.Sat.ret ACode.skip
 · exact T.Sat.ret ACode.ret
 · exact T.Sat.ret ACode.exit
 · exact (opsT_code (hcf _)).map fun s hs=>hs
 · exact (edrawT_code hm (hcf _)).map fun s hs=>hs
 · refine (hec _ _ _).bind fun e he=>?_
   obtain ⟨x,s⟩:=e
   cases x with
   | normal=>exact (hec _ _ _).mono fun e' h'=>ACode.seq he h'
   | _=>exact T.Sat.ret (ACode.seq_out (by intro h;cases h) he)
 · rename_i c a b
   unfold cond2
   split
   · rename_i hc
     exact (hec _ _ _).mono fun e he=>ACode.cond hc he
   · rename_i hc
     exact (hec _ _ _).mono fun e he=>ACode.cond hc he
   · rename_i v hc
     refine T.Sat.ite (fun hb=>(hec _ _ _).mono fun e he=>cond_y hc ?_) (fun hb=>(hec _ _ _).mono fun e he=>cond_y hc ?_)
     · rw [if_pos hb];exact know_code hb hc he
     · rw [if_neg (by simp [hb])];exact know_code hb hc he
   · exact T.Sat.fail
 · rename_i id c
   refine (hec _ _ _).map fun e he=>?_
   obtain ⟨x,s⟩:=e
   cases x with
   | exit j =>
     cases hj:Nat.beq j id with
     | true =>
       have:=Nat.eq_of_beq_eq_true hj
       subst this
       simp only [hj]
       exact ACode.block_exit he
     | false =>
       simp only [hj]
       exact ACode.block he fun h=>by injection h with h;subst h;simp at hj
   | _=>exact ACode.block he (by intro h;cases h)
 · split
   · rename_i J _
     refine T.Sat.need fun h1=>T.Sat.need fun h2=>T.Sat.map h2 fun e he=>?_
     exact stLe_pre h1 he
   · exact (eloopT_ok hec).mono fun e ⟨m,hm⟩=>ACode.loop hm
 · exact T.Sat.fail
theorem ecodeT_ok {P:Program} (hm:P.follows .mixedOrders=true) {ht:HintsT P}:∀ n,EC.Ok P (ecodeT P ht n)
 | 0=>fun _ _ _=>T.Sat.fail
 | n+1=>estepT_ok hm (ecodeT_ok hm n)
theorem ctr_of {P:Program} (hm:P.follows .mixedOrders=true) (ht:HintsT P) (n:Nat) {f:FuncId} {args:List AV} {M:List Blk} {t:T An} (hd:t.det=true) (h:(inlT P (ecodeT P ht n) f args M).post fun a=>t.post fun b=>anLe a b):t.Sat (ACall' P f args M) :=
 (inlT_ok (ecodeT_ok hm n)).of_post hd (fun _ _=>anLe_ok) h
def look:List (Nat×AV)->Nat->AV
 | [],_=>.junk
 | (j,a)::r,i=>match Nat.beq i j with | true=>a | false=>look r i
end Go.Ax
