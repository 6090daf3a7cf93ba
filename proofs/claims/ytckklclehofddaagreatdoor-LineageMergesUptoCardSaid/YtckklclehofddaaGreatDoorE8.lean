import Derived.Laws.MakeOwn
import Derived.Laws.BytesString
import Derived.Laws.AppendOwn
import Derived.Test.YtckklclehofddaaGreatDoorE7
set_option linter.unusedVariables false
set_option linter.unusedSimpArgs false
set_option linter.unusedSectionVars false
namespace Go.Ax
open Go
variable [Inhabited Gl0]
def IHT:=Nat->FuncId->List AV->List Blk->T An
def IHT.Ok (P:Program) (ih:IHT):Prop:=∀ p g args M,(ih p g args M).Sat (ACall' P g args M)
def callT (ih:IHT) (sub:Bool) (p:Nat) (g:FuncId) (args:List AV) (nid:Nat) (rd:Nat->Blk):T CE :=
 match noRefL args with
 | true=>(ih p g (viewL depth (fun _=>.dead) args) []).map fun a=>⟨ren (shift nid) a.1,ids (wrOf nid nid a.2.1),wrOf nid nid a.2.1,[],[]⟩
 | false=>(fun L=>match sub with
   | false=>(ih p g (viewL depth (only L rd) args) []).bind fun a=>.need (tagT a.1=true) (.need (allBP a.2.1) (.ret ⟨ren (shift nid) a.1,L++ids (wrOf nid nid a.2.1),wrOf nid nid a.2.1,[],[]⟩))
   | true=>(ih p g (renL (keepIn L) args) (cutF L rd 0 nid)).bind fun a=>match lowDead L nid 0 a.2.1&&allLt L nid with
     | true=>.ret ⟨a.1,L++ids (wrS L nid a.2.1),wrS L nid a.2.1,inOnly L [] a.2.2,[]⟩
     | false=>.fail) (reach rd depth (fresh [] (idsL args)))
def CallOk (P:Program) (g:FuncId) (args:List AV) (rd:Nat->Blk) (e:CE):Prop:=∀ M,(∀ i∈e.rd,getM M i=rd i)->ACall P g args M e.r (applyW e.wr (killM e.kl M)) e.kl
theorem callT_ok {P:Program} {ih:IHT} (hih:ih.Ok P) {sub:Bool} {p nid:Nat} {g:FuncId} {args:List AV} {rd:Nat->Blk} (hd:∀ k,nid<=k->rd k=.dead):(callT ih sub p g args nid rd).Sat (CallOk P g args rd):=by
 unfold callT
 split
 · rename_i hno
   refine (hih _ _ _ _).map fun a ha M hM=>?_
   simp only [killM]
   rw [<- place_eq]
   exact ACall.direct ha hno fun k hk=>(hM _ (ids_wrOf a.2.1 nid nid k hk)).trans (hd _ (by omega))
 · simp only
   split
   · refine (hih _ _ _ _).bind fun a ha=>T.Sat.need fun h1=>T.Sat.need fun h2=>T.Sat.ret fun M hM=>?_
     simp only [killM]
     rw [<- place_eq]
     refine ACall.borrow (fun i=>?_) ha h1 (allBP_get h2) fun k hk=>(hM _ (List.mem_append_right _ (ids_wrOf a.2.1 nid nid k hk))).trans (hd _ (by omega))
     unfold only
     split
     · rename_i hm
       exact .inr (hM i (List.mem_append_left _ (mem_iff.1 hm))).symm
     · exact .inl rfl
   · refine (hih _ _ _ _).bind fun a ha=>?_
     split
     case h_2=>exact T.Sat.fail
     rename_i ht
     simp only [Bool.and_eq_true] at ht
     refine T.Sat.ret fun M hM=>?_
     refine ACall.sub (fun i hi=>hM i (List.mem_append_left _ hi)) (allLt_ok ht.2) ha ht.1 (fun j h1 h2=>?_) inOnly_ok.2
     refine (hM j (List.mem_append_right _ ?_)).trans (hd j h1)
     unfold wrS
     rw [ids_eq,List.map_append,<- ids_eq,<- ids_eq,ids_pairs,ids_pairs,List.mem_append]
     exact .inr (mem_iff.1 (mem_upFrom.2 (by omega)))
def callFT (P:Program) (ih:IHT) (sub:FuncId->Bool) (els:CFT):CFT:=fun nid p o t rd =>
 match o.op with
 | .call { callee:=.value fo,args,.. }=>(match ev t fo with
   | .fn (.func g) first cap=>(match plainFn P g with
     | true=>callT ih (sub g) p g (first++args.toList.map (ev t)++cap) nid rd
     | false=>(match extE P g (first++args.toList.map (ev t)++cap) with
       | some r=>.ret ⟨r,[],[],[],[]⟩
       | none=>(match extC P nid g (first++args.toList.map (ev t)++cap) rd with
         | some e=>.ret e
         | none=>.fail)))
   | _=>.fail)
 | .call { callee:=.invoke ro name,args,.. }=>(match ev t ro with
   | .ifc ty av=>(match methR P ty name av with
     | some (g,rv)=>(match plainFn P g with
       | true=>callT ih (sub g) p g (rv::args.toList.map (ev t)) nid rd
       | false=>(match extE P g (rv::args.toList.map (ev t)) with
         | some r=>.ret ⟨r,[],[],[],[]⟩
         | none=>(match extC P nid g (rv::args.toList.map (ev t)) rd with
           | some e=>.ret e
           | none=>.fail)))
     | none=>.fail)
   | _=>.fail)
 | _=>els nid p o t rd
theorem callFT_ok {P:Program} {ih:IHT} (hih:ih.Ok P) {sub:FuncId->Bool} {els:CFT} (hel:CftOk P els):CftOk P (callFT P ih sub els):=by
 intro nid p o t rd hd
 unfold callFT
 split
 · rename_i fo args ats hop
   split
   · rename_i g first cap hf
     split
     · rename_i hp
       unfold plainFn at hp
       split at hp
       case h_2=>cases hp
       rename_i fn hg
       simp only [Bool.not_eq_true',Bool.or_eq_false_iff] at hp
       refine (callT_ok hih hd).mono fun e he M hM=>?_
       intro H E w a K Q hC hT hdf hk
       exact call_step hop hf hg hp.1 hp.2 (he M hM) H E w a K Q hC hT hk
     · have hvals:∀ H E w a,RelT t H E a->∃ vals:Array Value,RelL (first++args.toList.map (ev t)++cap) H E vals.toList/\(execOp a.eval o).run P w=(callFunc g vals).run P w:=by
        intro H E w a hT
        have hv:=rel_ev hT fo
        rw [hf] at hv
        obtain ⟨x,y,hv,h1,h2⟩:=hv
        refine ⟨x++args.map a.eval++y,?_,by simp [execOp,hop,resolve,hv,Deferred.ofValue,invoke]⟩
        have:=relL_append (relL_append h1 (relL_ev hT args.toList)) h2
        simpa using this
       split
       · rename_i r hr
         refine T.Sat.ret fun M hM=>?_
         intro H E w a K Q hC hT hdf hk
         obtain ⟨vals,hargs,hrun⟩:=hvals H E w a hT
         obtain ⟨v,q1,q2⟩:=extE_ok hr hargs w
         unfold Oper.wp
         rw [hrun,q1]
         exact hk v w H E q2 hC (Evol.refl _ _ _ _)
       · split
         case h_2=>exact T.Sat.fail
         rename_i e he
         refine T.Sat.ret fun M hM=>?_
         intro H E w a K Q hC hT hdf hk
         obtain ⟨vals,hargs,hrun⟩:=hvals H E w a hT
         obtain ⟨v,w',H',E',q1,q2,q3,q4⟩:=extC_ok hd he M hM H E w vals hC hargs
         unfold Oper.wp
         rw [hrun,q1]
         exact hk v w' H' E' q2 q3 q4
   · exact T.Sat.fail
 · rename_i ro name args ats hop
   split
   · rename_i ty av hro
     split
     · rename_i g rv hm
       split
       · rename_i hp
         unfold plainFn at hp
         split at hp
         case h_2=>cases hp
         rename_i fn hg
         simp only [Bool.not_eq_true',Bool.or_eq_false_iff] at hp
         refine (callT_ok hih hd).mono fun e he M hM=>?_
         intro H E w a K Q hC hT hdf hk
         exact inv_stepR hop hro hm hg hp.1 hp.2 (he M hM) H E w a K Q hC hT hk
       · split
         · rename_i r hr
           refine T.Sat.ret fun M hM=>?_
           intro H E w a K Q hC hT hdf hk
           obtain ⟨vals,hargs,hrun⟩:=inv_runR (w:=w) hop hro hm hT
           obtain ⟨v,q1,q2⟩:=extE_ok hr hargs w
           unfold Oper.wp
           rw [hrun,q1]
           exact hk v w H E q2 hC (Evol.refl _ _ _ _)
         · split
           case h_2=>exact T.Sat.fail
           rename_i e he
           refine T.Sat.ret fun M hM=>?_
           intro H E w a K Q hC hT hdf hk
           obtain ⟨vals,hargs,hrun⟩:=inv_runR (w:=w) hop hro hm hT
           obtain ⟨v,w',H',E',q1,q2,q3,q4⟩:=extC_ok hd he M hM H E w vals hC hargs
           unfold Oper.wp
           rw [hrun,q1]
           exact hk v w' H' E' q2 q3 q4
     · exact T.Sat.fail
   · exact T.Sat.fail
 · exact hel _ _ _ _ _ hd
def ofCF (cf:CF):CFT:=fun nid p o t rd=>match cf nid p o t rd with | some e=>e.toT | none=>.fail
theorem ofCF_ok {P:Program} {cf:CF} (h:CfOk P cf):CftOk P (ofCF cf):=by
 intro nid p o t rd hd
 unfold ofCF
 split
 · rename_i e he
   exact CE.toT_ok fun ho M hM=>h _ _ _ _ _ _ he ho hd M hM
 · exact T.Sat.fail
def svI:AV->AV
 | .ifc t a=>.ifc t (sv a)
 | a=>sv a
theorem rel_svI {a:AV} {H:HH} {E:Env} {v:Value} (h:Rel a H E v):Rel (svI a) H E v:=by
 cases a with
 | ifc t a=>exact ⟨h.choose,h.choose_spec.1,rel_sv h.choose_spec.2⟩
 | _=>exact rel_sv h
def eqS0 (P:Program):CF:=fun nid p o t rd=>match eqX P (fun _=>none) nid p o (fun i=>svI (t i)) rd with
 | some e=>some ⟨retag e.r,e.rd,e.wr,e.kl,e.ob⟩
 | none=>none
theorem eqS0_ok (P:Program):CfOk P (eqS0 P):=by
 intro nid p o t rd e h ho hd M hM
 unfold eqS0 at h
 split at h
 case h_2=>cases h
 rename_i e' he
 cases h
 exact stepT_retag fun H E w ac K Q hC hT=>eqX_ok P _ nid p o _ rd e' he ho hd M hM H E w ac K Q hC fun i=>rel_svI (hT i)
def slotT (t:Nat->AV) (i:Nat) (a:AV) (j:Nat):AV:=match Nat.beq j i with | true=>a | false=>t j
theorem relT_slot {t:Nat->AV} {H:HH} {E:Env} {ac:Act} {i:Nat} {a:AV} (h:RelT t H E ac) (ha:∀ v,Rel (t i) H E v->Rel a H E v):RelT (slotT t i a) H E ac:=fun j=>by
 unfold slotT
 split
 · rename_i hj
   have:=Nat.eq_of_beq_eq_true hj
   subst this
   exact ha _ (h j)
 · exact h j
def optQ (P:Program):CF:=fun nid p o t rd=>match o.op with
 | .binOp _ _ (.tmp i) _ _=>(match t i with
   | .opt b tt a=>(match eqX P (fun _=>none) nid p o (slotT t i (.ifc tt a)) rd,eqX P (fun _=>none) nid p o (slotT t i (.s .nilIface)) rd with
     | some ⟨.s (.bool true),[],[],[],[]⟩,some ⟨.s (.bool false),[],[],[],[]⟩=>some ⟨.y (.bool b),[],[],[],[]⟩
     | some ⟨.s (.bool false),[],[],[],[]⟩,some ⟨.s (.bool true),[],[],[],[]⟩=>some ⟨.y (.bool (!b)),[],[],[],[]⟩
     | _,_=>none)
   | _=>none)
 | _=>none
theorem e0_env {a:AV} {H:HH} {E:Env} {v:Value} (h:Rel a H E0 v):Rel a H E v:=Rel.env (fun i j _ hl=>by simp [E0] at hl) h
theorem optQ_ok (P:Program):CfOk P (optQ P):=by
 intro nid p o t rd e h ho hd M hM
 unfold optQ at h
 split at h
 case h_2=>cases h
 rename_i i y f hop
 split at h
 case h_2=>cases h
 rename_i b tt a hti
 have key:∀ (x y:Bool) (r:Bool),eqX P (fun _=>none) nid p o (slotT t i (.ifc tt a)) rd=some ⟨.s (.bool x),[],[],[],[]⟩->eqX P (fun _=>none) nid p o (slotT t i (.s .nilIface)) rd=some ⟨.s (.bool y),[],[],[],[]⟩->r=(if b then x else y)->StepT P o t M ⟨.y (.bool r),[],[],[],[]⟩:=by
  intro x y r h1 h2 hr H E w ac K Q hC hT hdf hk
  cases hb:b with
  | true =>
    have hs:=eqX_ok P (fun _=>none) nid p o (slotT t i (.ifc tt a)) rd _ h1 (fun _ h=>by cases h) hd M (fun _ h=>by cases h)
    refine hs H E w ac K Q hC (relT_slot hT fun v hv=>?_) hdf fun v w' H' E' q1 q2 q3=>?_
    · rw [hti,hb] at hv
      obtain ⟨z,h1,h2⟩:=hv.1 rfl
      exact ⟨z,h1,e0_env h2⟩
    · refine hk v w' H' E' ?_ q2 q3
      rw [hr,hb]
      exact q1
  | false =>
    have hs:=eqX_ok P (fun _=>none) nid p o (slotT t i (.s .nilIface)) rd _ h2 (fun _ h=>by cases h) hd M (fun _ h=>by cases h)
    refine hs H E w ac K Q hC (relT_slot hT fun v hv=>?_) hdf fun v w' H' E' q1 q2 q3=>?_
    · rw [hti,hb] at hv
      exact ⟨hv.2 rfl,rfl⟩
    · refine hk v w' H' E' ?_ q2 q3
      rw [hr,hb]
      exact q1
 split at h
 · rename_i h1 h2
   cases h
   exact key true false b h1 h2 (by cases b<;>rfl)
 · rename_i h1 h2
   cases h
   exact key false true (!b) h1 h2 (by cases b<;>rfl)
 · cases h
def eqS (P:Program):CF:=fun nid p o t rd=>match eqS0 P nid p o t rd with
 | some e=>some e
 | none=>optQ P nid p o t rd
theorem eqS_ok (P:Program):CfOk P (eqS P):=by
 intro nid p o t rd e h
 unfold eqS at h
 split at h
 · rename_i e' he
   cases h
   exact eqS0_ok P nid p o t rd _ he
 · exact optQ_ok P nid p o t rd e h
structure Ctr (P:Program) where
 g:FuncId
 args:List AV
 m:List Blk
 t:T An
 ok:t.Sat (ACall' P g args m)
structure Job where
 t:List AV
 m:List Blk
 out:T (Exit×St)
structure HintsT (P:Program) where
 op:FuncId->Nat->Nat->Option Hint
 ct:FuncId->List AV->List Blk->Option (T An)
 ctOk:∀ g args M t,ct g args M=some t->t.Sat (ACall' P g args M)
 cs:FuncId->Nat->Nat->List AV->List Blk->Option (Ctr P)
 lp:FuncId->Nat->St->Option Job
 sub:FuncId->Bool
 rounds:Nat
 gc:Bool
 sp:FuncId->Nat->SP
 spOk:∀ f id,SpOk P (sp f id)
  /-- contracts by what the slots hold -/
 ca:List AV->FuncId->Nat->Nat->Option (Ctr P)
def noHT (P:Program):HintsT P:=⟨fun _ _ _=>none,fun _ _ _=>none,fun _ _ _ _ h=>(by cases h),fun _ _ _ _ _=>none,fun _ _ _=>none,fun _=>false,40,false,fun _ _ _ _ _ _ _=>none,fun _ _ _ _ _ _ _ _ h=>(by cases h),fun _ _ _ _=>none⟩
def LoopOk (P:Program) (_f:FuncId) (_k:Nat) (c:Code) (st:St) (out:T (Exit×St)):Prop:=out.Sat fun e=>ACode P (.loop c) st e.1 e.2
def useCtr {P:Program} (C:Ctr P) (g:FuncId) (args:List AV) (M:List Blk):T An :=
 match Nat.beq C.g g&&okMs (liveB C.m) C.m&&okL (liveB C.m) C.args with
 | true=>.need (leL args C.args) (.need (leQ M C.m) (C.t.map fun a=>(a.1,a.2.1,a.2.2++drops M C.m 0)))
 | false=>.fail
theorem useCtr_ok {P:Program} (C:Ctr P) {g:FuncId} {args:List AV} {M:List Blk}:(useCtr C g args M).Sat (ACall' P g args M):=by
 unfold useCtr
 split
 case h_2=>exact T.Sat.fail
 rename_i hb
 simp only [Bool.and_eq_true,Nat.beq_eq] at hb
 obtain ⟨⟨rfl,h2⟩,h3⟩:=hb
 refine T.Sat.need fun ha=>T.Sat.need fun hM=>C.ok.map fun a hc=>?_
 intro H E w vals hC hargs
 obtain ⟨E',hC',hE,hv⟩:=mem_leQ hC hM h2
 have hargs':RelL C.args H E' vals.toList:=by
  have:=RelL.ren _ hv (relL_le _ ha hargs)
  rwa [renL_ok _ _ h3] at this
 refine (hc H E' w vals hC' hargs').mono ?_
 rintro e w' ⟨v,H1,E1,rfl,hr,hC1,hE1⟩
 exact ⟨v,H1,E1,rfl,hr,hC1,hE.trans (hE1.weak fun i hi=>List.mem_append_left _ hi) fun i hi=>List.mem_append_right _ hi⟩
def ansT (P:Program) (fn:Func) (fr gc:Bool) (n:Nat) (e:Exit×St):T An :=
 match e with
 | (.ret,st) | (.normal,st)=>(match resA P st fn.results.toList with
   | some l=>(match fr with
     | false=>(match gc with
       | false=>.ret (resV l,st.m,st.mv)
       | true=>(fun L=>match nodup L with
         | true=>fA (ren (idx L) (resV l)) fun r=>fM (pick L st.m L) fun m=>fNs st.mv fun mv=>.ret (r,m,mv)
         | false=>.fail) (upTo 0 n++above n (reach (getM st.m) depth (fresh [] (upTo 0 n++idsL l)))))
     | true=>(fun L=>match nodup L with
       | true=>fA (ren (idx L) (resV l)) fun r=>fM (pick L st.m L) fun m=>.ret (r,m,[])
       | false=>.fail) (reach (getM st.m) depth (fresh [] (idsL l))))
   | none=>.fail)
 | _=>.fail
theorem ansT_ok {P:Program} {f:FuncId} {fn:Func} {c:Code} {args:List AV} {M0:List Blk} {e:Exit×St} (hf:P.funcs[f]? = some fn) (hb:fn.body=some c)
 (h:ACode P c ⟨initT fn.ntmps args,M0,[]⟩ e.1 e.2) {gc:Bool}:(ansT P fn (noBlk M0) gc (len M0) e).Sat (ACall' P f args M0):=by
 unfold ansT
 split
 case h_3=>exact T.Sat.fail
 all_goals
  split
  case h_2=>exact T.Sat.fail
  rename_i l hl
  split
  · split
    · refine T.Sat.ret ?_
      first
       | exact ACall.of_code hf hb (.inl rfl) h hl
       | exact ACall.of_code hf hb (.inr rfl) h hl
    · simp only
      split
      case h_2=>exact T.Sat.fail
      rename_i hn
      simp only [fA_eq,fM_eq,fNs_eq]
      refine T.Sat.ret ?_
      first
       | exact ACall.compactM (ACall.of_code hf hb (.inl rfl) h hl) hn (fun i hi=>by rw [upTo_at _ _ _ _ hi,Nat.zero_add])
       | exact ACall.compactM (ACall.of_code hf hb (.inr rfl) h hl) hn (fun i hi=>by rw [upTo_at _ _ _ _ hi,Nat.zero_add])
  · rename_i hM
    have:M0=[]:=by cases M0 with | nil=>rfl | cons _ _=>simp [noBlk] at hM
    subst this
    simp only
    split
    case h_2=>exact T.Sat.fail
    rename_i hn
    simp only [fA_eq,fM_eq]
    refine T.Sat.ret ?_
    first
     | exact ACall.compact (ACall.of_code hf hb (.inl rfl) h hl) hn
     | exact ACall.compact (ACall.of_code hf hb (.inr rfl) h hl) hn
abbrev EC:=FuncId->Code->St->T (Exit×St)
def EC.Ok (P:Program) (ec:EC):Prop:=∀ f c st,(ec f c st).Sat fun e=>ACode P c st e.1 e.2
def inlG (P:Program) (gc:Bool) (ec:EC) (g:FuncId) (args:List AV) (M:List Blk):T An :=
 match P.funcs[g]? with
 | some fn=>(match fn.body with
   | some c=>fL args fun args=>fSp (initT fn.ntmps args) fun t=>(match gc with | true=>fM M | false=>fun k=>k M) fun M=>(ec g c ⟨t,M,[]⟩).bind fun e=>ansT P fn (noBlk M) gc (len M) e
   | none=>.fail)
 | none=>.fail
abbrev inlT (P:Program) (ec:EC) (g:FuncId) (args:List AV) (M:List Blk):T An:=inlG P false ec g args M
theorem inlG_ok {P:Program} {gc:Bool} {ec:EC} (hec:ec.Ok P) {g:FuncId} {args:List AV} {M0:List Blk}:(inlG P gc ec g args M0).Sat (ACall' P g args M0):=by
 unfold inlG
 split
 case h_2=>exact T.Sat.fail
 rename_i fn hf
 split
 case h_2=>exact T.Sat.fail
 rename_i c hb
 cases gc<;>simp only [fL_eq,fSp_eq,fM_eq]<;>exact (hec _ _ _).bind fun e he=>ansT_ok hf hb he
theorem inlT_ok {P:Program} {ec:EC} (hec:ec.Ok P) {g:FuncId} {args:List AV} {M0:List Blk}:(inlT P ec g args M0).Sat (ACall' P g args M0):=inlG_ok hec
def atT (P:Program) (ht:HintsT P) (f:FuncId) (rg:Nat) (ts:List AV) (ec:EC):IHT:=fun p g args M =>
 match ht.cs f rg p args M with
 | some C=>useCtr C g args M
 | none=>(match ht.ca ts f rg p with
   | some C=>useCtr C g args M
   | none=>(match ht.ct g args M with
     | some t=>t
     | none=>inlG P ht.gc ec g args M))
theorem atT_ok {P:Program} {ht:HintsT P} {f:FuncId} {rg:Nat} {ts:List AV} {ec:EC} (hec:ec.Ok P):(atT P ht f rg ts ec).Ok P:=by
 intro p g args M
 unfold atT
 split
 · exact useCtr_ok _
 · split
   · exact useCtr_ok _
   · split
     · rename_i t h
       exact ht.ctOk _ _ _ _ h
     · exact inlG_ok hec
def eloopT (ec:EC) (f:FuncId) (c:Code):Nat->St->T (Exit×St)
 | 0,_=>.fail
 | n+1,st=>(ec f c st).bind fun e=>match e.1 with
   | .normal=>eloopT ec f c n e.2
   | x=>.ret (x,e.2)
theorem eloopT_ok {P:Program} {ec:EC} (hec:ec.Ok P) {f:FuncId} {c:Code}:∀ {n:Nat} {st:St},(eloopT ec f c n st).Sat fun e=>∃ m,ARounds P c m st e.1 e.2
 | 0,_=>T.Sat.fail
 | n+1,st=>by
   refine (hec _ _ _).bind fun e he=>?_
   obtain ⟨x,s⟩:=e
   cases x with
   | normal=>exact (eloopT_ok hec).mono fun e' ⟨m,hm⟩=>⟨m+1,ARounds.next he hm⟩
   | _=>exact T.Sat.ret ⟨1,ARounds.out (by intro h;cases h) he⟩
def cond2 (ec:EC) (f:FuncId) (x:AV) (a b:Code) (st st1 st2:St):T (Exit×St) :=
 match x with
 | .s (.bool true)=>ec f a st
 | .s (.bool false)=>ec f b st
 | .y (.bool c)=>.ite c (ec f a st1) (ec f b st2)
 | _=>.fail
def know (st:St) (c:Operand) (b:Bool):St:=match c with
 | .tmp i=>⟨set st.t i (.s (.bool b)),st.m,st.mv⟩
 | _=>st
def estepT (P:Program) (ht:HintsT P) (ec:EC) (f:FuncId) (c:Code) (st:St):T (Exit×St) :=
 match c with
 | .skip=>.ret (.normal,st)
 | .ret=>.ret (.ret,st)
 | .exit id=>.ret (.exit id,st)
 | .region id ops false=>(opsT P (ht.op f id) ⟨ht.sp f id,callFT P (atT P ht f id st.t ec) ht.sub (ofCF (orE (xops P fun _=>none) (eqS P)))⟩ ops ops.toList 0 st).map fun s=>(.normal,s)
 | .region id ops true=>(edrawT P (ht.op f id) ⟨ht.sp f id,callFT P (atT P ht f id st.t ec) ht.sub (ofCF (orE (xops P fun _=>none) (eqS P)))⟩ ops st ops.toList 0 [] st).map fun s=>(.normal,s)
 | .seq a b=>(ec f a st).bind fun e=>match e.1 with
   | .normal=>ec f b e.2
   | x=>.ret (x,e.2)
 | .cond c a b=>cond2 ec f (ev (get st.t) c) a b st (know st c true) (know st c false)
 | .block id c=>(ec f c st).map fun e=>match e.1 with
   | .exit j=>(match Nat.beq j id with | true=>(.normal,e.2) | false=>(.exit j,e.2))
   | x=>(x,e.2)
 | .loop c=>(match (match keyOf c with | some k=>ht.lp f k st | none=>none) with
   | some J=>.need (stLe st ⟨J.t,J.m,[]⟩) (.need (LoopOk P f ((keyOf c).getD 0) c ⟨J.t,J.m,[]⟩ J.out) (J.out.map fun e=>(e.1,⟨e.2.t,e.2.m,e.2.mv++(drops st.m J.m 0++st.mv)⟩)))
   | none=>eloopT ec f c ht.rounds st)
 | _=>.fail
def ecodeT (P:Program) (ht:HintsT P) (n:Nat):EC:=Nat.rec (fun _ _ _=>.fail) (fun _ ih=>estepT P ht ih) n
theorem know_code {P:Program} {st:St} {c:Operand} {d:Code} {x:Exit} {s:St} {b b':Bool} (hb:b=b') (hc:ev (get st.t) c=.y (.bool b)) (h:ACode P d (know st c b') x s):ACode P d st x s:=by
 cases c with
 | tmp i =>
   refine h.pre ?_
   refine ⟨fun _ h=>h,fun H E w vs hC hT=>⟨E,hC,?_,Evol.refl _ _ _ _⟩⟩
   have hl:=RelL.length hT
   refine relL_mk (by simp only [know,length_set];exact hl) fun j v hv=>?_
   have hr:=relL_get hT j v hv
   simp only [know,get_set]
   split
   · rename_i hij
     have e:get st.t i=.y (.bool b):=hc
     rw [<- hij.1,e] at hr
     subst hb
     exact hr
   · exact hr
 | const v=>exact h
 | global g=>exact h
 | func g=>exact h
theorem cond_y {P:Program} {c:Operand} {d e:Code} {s s1:St} {x:Exit} {b:Bool} (hc:ev (get s.t) c=.y (.bool b)) (h:ACode P (if b then d else e) s x s1):ACode P (.cond c d e) s x s1:=by
 refine ⟨h.1,fun H E w a hC hT hd=>?_⟩
 have hr:=rel_ev (relT_of hT) c
 rw [hc] at hr
 exact wp_cond hr.1 (h.2 H E w a hC hT hd)
theorem estepT_ok {P:Program} (hm:P.follows .mixedOrders=true) {ht:HintsT P} {ec:EC} (hec:ec.Ok P):EC.Ok P (estepT P ht ec):=by
 intro f c st
 have hcf:∀ id,CfsOk P ⟨ht.sp f id,callFT P (atT P ht f id st.t ec) ht.sub (ofCF (orE (xops P fun _=>none) (eqS P)))⟩:=fun id=>⟨ht.spOk f id,callFT_ok (atT_ok hec) (ofCF_ok (orE_ok (xops_ok P _) (eqS_ok P)))⟩
 unfold estepT
 split
 · exact T.Sat.ret ACode.skip
 · exact T.Sat.ret ACode.ret
 · exact T.Sat.ret ACode.exit
 · exact (opsT_code (hcf _)).map fun s hs=>hs
 · exact (edrawT_code hm (hcf _)).map fun s hs=>hs
 · refine (hec _ _ _).bind fun e he=>?_
   obtain ⟨x,s⟩:=e
   cases x with
   | normal=>exact (hec _ _ _).mono fun e' h'=>ACode.seq he h'
   | _=>exact T.Sat.ret (ACode.seq_out (by intro h;cases h) he)
 · rename_i c a b
   unfold cond2
   split
   · rename_i hc
     exact (hec _ _ _).mono fun e he=>ACode.cond hc he
   · rename_i hc
     exact (hec _ _ _).mono fun e he=>ACode.cond hc he
   · rename_i v hc
     refine T.Sat.ite (fun hb=>(hec _ _ _).mono fun e he=>cond_y hc ?_) (fun hb=>(hec _ _ _).mono fun e he=>cond_y hc ?_)
     · rw [if_pos hb];exact know_code hb hc he
     · rw [if_neg (by simp [hb])];exact know_code hb hc he
   · exact T.Sat.fail
 · rename_i id c
   refine (hec _ _ _).map fun e he=>?_
   obtain ⟨x,s⟩:=e
   cases x with
   | exit j =>
     cases hj:Nat.beq j id with
     | true =>
       have:=Nat.eq_of_beq_eq_true hj
       subst this
       simp only [hj]
       exact ACode.block_exit he
     | false =>
       simp only [hj]
       exact ACode.block he fun h=>by injection h with h;subst h;simp at hj
   | _=>exact ACode.block he (by intro h;cases h)
 · split
   · rename_i J _
     refine T.Sat.need fun h1=>T.Sat.need fun h2=>T.Sat.map h2 fun e he=>?_
     exact stLe_pre h1 he
   · exact (eloopT_ok hec).mono fun e ⟨m,hm⟩=>ACode.loop hm
 · exact T.Sat.fail
theorem ecodeT_ok {P:Program} (hm:P.follows .mixedOrders=true) {ht:HintsT P}:∀ n,EC.Ok P (ecodeT P ht n)
 | 0=>fun _ _ _=>T.Sat.fail
 | n+1=>estepT_ok hm (ecodeT_ok hm n)
theorem ctr_of {P:Program} (hm:P.follows .mixedOrders=true) (ht:HintsT P) (n:Nat) {f:FuncId} {args:List AV} {M:List Blk} {t:T An} (hd:t.det=true) (h:(inlT P (ecodeT P ht n) f args M).post fun a=>t.post fun b=>anLe a b):t.Sat (ACall' P f args M) :=
 (inlT_ok (ecodeT_ok hm n)).of_post hd (fun _ _=>anLe_ok) h
def lout {τ:Type} (X:List Nat) (S:τ->Exit×List AV×List Blk) (a:τ):Exit×St:=((S a).1,⟨(S a).2.1,(S a).2.2,X⟩)
theorem loop_of {P:Program} (hm:P.follows .mixedOrders=true) (ht:HintsT P) (n:Nat) {f:FuncId} {k:Nat} {c:Code} {ι τ:Type} (μ:ι->Nat) (st:ι->List AV×List Blk) (X:List Nat) (o:ι->T τ) (S:τ->Exit×List AV×List Blk) (hd:∀ i,(o i).det=true)
 (h:∀ i,(ecodeT P ht n f c ⟨(st i).1,(st i).2,[]⟩).post fun e=>match e.1 with
   | .normal=>∃ j,μ j<μ i/\stLe e.2 ⟨(st j).1,(st j).2,[]⟩/\allIn (drops e.2.m (st j).2 0++e.2.mv) X=true/\(o j).post fun a=>(o i).post fun b=>a=b
   | x=>(o i).post fun b=>exLe (x,e.2) (lout X S b)):∀ i,LoopOk P f k c ⟨(st i).1,(st i).2,[]⟩ ((o i).map (lout X S)):=by
 have key:∀ m i,μ i<m->(o i).Sat fun b=>∃ q,ARounds P c q ⟨(st i).1,(st i).2,[]⟩ (lout X S b).1 (lout X S b).2:=by
  intro m
  induction m with
  | zero=>intro i hi;omega
  | succ m ih =>
    intro i hi Q hQ
    obtain ⟨⟨x,s⟩,he,hp⟩:=ecodeT_ok hm (ht:=ht) n f c _ _ (h i)
    cases x with
    | normal =>
      obtain ⟨j,hj,hle,hX,hout⟩:=hp
      obtain ⟨a,⟨q,hq⟩,ha⟩:=ih j (by omega) _ hout
      obtain ⟨b,rfl,hQb⟩:=T.post_ex (hd i) ha hQ
      refine ⟨a,⟨q+1,?_⟩,hQb⟩
      have hmv:=allIn_ok hX
      refine ARounds.next he (s1:=s) ?_
      refine ⟨fun i hi=>hmv i (List.mem_append_right _ hi),fun H E w a' hC hT hd=>?_⟩
      obtain ⟨E',h1,h2,h3⟩:=stLe_ok hle hC hT
      refine rounds_mono ?_ q a' w (hq.2 H E' w a' h1 h2 hd)
      rintro x' a2 w2 ⟨H1,E1,rfl,hd1,hT1,hC1,hE1⟩
      exact ⟨H1,E1,rfl,hd1,hT1,hC1,h3.trans hE1 fun i hi=>hmv i (List.mem_append_left _ hi)⟩
    | _ =>
      obtain ⟨b,hb,hQb⟩:=T.post_ex (hd i) hp hQ
      exact ⟨b,⟨1,ARounds.out (fun e=>by
       unfold exLe at hb
       split at hb
       · rename_i hbb
         simp only [Bool.and_eq_true] at hbb
         rw [<- exB_eq hbb.1] at e;cases e
       · exact hb.elim) (exLe_ok he hb)⟩,hQb⟩
 intro i
 exact (key (μ i+1) i (by omega)).map fun e ⟨q,hq⟩=>ACode.loop hq
def findLoop (k:Nat):Code->Option Code
 | .seq a b=>(match findLoop k a with | some c=>some c | none=>findLoop k b)
 | .cond _ a b=>(match findLoop k a with | some c=>some c | none=>findLoop k b)
 | .block _ c=>findLoop k c
 | .loop c=>(match (match keyOf c with | some q=>Nat.beq q k | none=>false) with | true=>some c | false=>findLoop k c)
 | _=>none
def loopAt (P:Program) (f:FuncId) (k:Nat):Code:=match P.funcs[f]? with
 | some fn=>(match fn.body with | some c=>(findLoop k c).getD .skip | none=>.skip)
 | none=>.skip
def look:List (Nat×AV)->Nat->AV
 | [],_=>.junk
 | (j,a)::r,i=>match Nat.beq i j with | true=>a | false=>look r i
def mkF (l:List (Nat×AV)):Nat->Nat->List AV
 | 0,_=>[]
 | n+1,i=>look l i::mkF l n (i+1)
def mkT (n:Nat) (l:List (Nat×AV)):List AV:=mkF l n 0
end Go.Ax

namespace Go.Ax
open Go
variable [Inhabited Gl0]
theorem runs_stepZ {P:Program} {o:Oper} {t:Nat->AV} {M:List Blk} {e:CE}
 (h:∀ H E w a,Conc H E w M->RelT t H E a->∃ v w' H' E',(execOp a.eval o).run P w=.ok (.value v) w'/\Rel e.r H' E' v/\Conc H' E' w' (applyW e.wr (killM e.kl M))/\Evol e.kl H E w H' E' w'):StepT P o t M e:=by
 intro H E w a K Q hC hT hd hk
 obtain ⟨v,w',H',E',hv,h1,h2,h3⟩:=h H E w a hC hT
 unfold Oper.wp
 rw [hv]
 exact hk v w' H' E' h1 h2 h3
def scV:AV->Option Value
 | .s v=>some v
 | .y v=>some v
 | _=>none
theorem scV_ok {x:AV} {v:Value} (h:scV x=some v) {H:HH} {E:Env} {u:Value} (hr:Rel x H E u):u=v:=by
 cases x<;>simp only [scV] at h<;>first | (cases h;exact hr.1) | cases h
def isS:AV->Bool
 | .s _=>true
 | _=>false
def ansV (known:Bool) (b:Bool) (v:Value) (rd:List Nat):Option CE:=match known with
 | true=>(match b with | true=>some ⟨.s v,rd,[],[],[]⟩ | false=>none)
 | false=>some ⟨.y v,rd,[],[],[b=true]⟩
theorem ansV_ok {P:Program} {o:Oper} {t:Nat->AV} {rdf:Nat->Blk} {known b:Bool} {v:Value} {rd:List Nat} {e:CE} (h:ansV known b v rd=some e) (hs:scalar v=true) (ho:Hold e.ob)
 (hr:b=true->∀ M,(∀ i∈rd,getM M i=rdf i)->∀ H E w a,Conc H E w M->RelT t H E a->(execOp a.eval o).run P w=.ok (.value v) w):CE.Good P o t rdf e:=by
 intro M hM
 cases known with
 | true =>
   cases b with
   | false=>cases h
   | true =>
     cases h
     exact runs_stepZ fun H E w a hC hT=>⟨v,w,H,E,hr rfl M hM H E w a hC hT,⟨rfl,hs⟩,hC,Evol.refl _ _ _ _⟩
 | false =>
   cases h
   exact runs_stepZ fun H E w a hC hT=>⟨v,w,H,E,hr (ho (b=true) (by simp)) M hM H E w a hC hT,⟨rfl,hs⟩,hC,Evol.refl _ _ _ _⟩
def ibV (op:BinOp) (k:IntKind) (a b:Int):Option (Bool×Int):=match op with
 | .quo=>some (decide (b≠0),k.wrap (a.tdiv b))
 | .rem=>some (decide (b≠0),a.tmod b)
 | .and=>some (true,k.wrap (BitVec.ofInt k.bits a &&& BitVec.ofInt k.bits b).toNat)
 | .or=>some (true,k.wrap (BitVec.ofInt k.bits a ||| BitVec.ofInt k.bits b).toNat)
 | .xor=>some (true,k.wrap (BitVec.ofInt k.bits a ^^^ BitVec.ofInt k.bits b).toNat)
 | _=>none
def shV (op:BinOp) (k:IntKind) (a b:Int):Option (Bool×Int):=match op with
 | .shl=>some (decide (0<=b),k.wrap (a*2 ^ (min b.toNat k.bits)))
 | .shr=>some (decide (0<=b),a.fdiv (2 ^ (min b.toNat k.bits)))
 | _=>none
def binZ (o:Oper) (t:Nat->AV):Option CE :=
 match o.op with
 | .binOp op _ x y _=>(match scV (ev t x),scV (ev t y) with
   | some (.int k a),some (.int k' b)=>(match shV op k a b with
     | some (c,v)=>ansV (isS (ev t x)&&isS (ev t y)) c (.int k v) []
     | none=>if k=k' then (match ibV op k a b with | some (c,v)=>ansV (isS (ev t x)&&isS (ev t y)) c (.int k v) [] | none=>none) else none)
   | some (.string a),some (.string b)=>(match op with
     | .add=>ansV (isS (ev t x)&&isS (ev t y)) (decide (a.size+b.size<=9223372036854775807)) (.string (a++b)) []
     | _=>none)
   | _,_=>none)
 | _=>none
theorem binZ_ok {P:Program} {o:Oper} {t:Nat->AV} {rd:Nat->Blk} {e:CE} (h:binZ o t=some e) (ho:Hold e.ob):CE.Good P o t rd e:=by
 unfold binZ at h
 split at h
 case h_2=>cases h
 rename_i op ty x y f hop
 split at h
 · rename_i k a k' b hx hy
   split at h
   · rename_i c v hv
     refine ansV_ok h rfl ho fun hc M _ H E w ac hC hT=>?_
     have h1:=scV_ok hx (rel_ev hT x)
     have h2:=scV_ok hy (rel_ev hT y)
     unfold shV at hv
     split at hv
     · obtain ⟨rfl,rfl⟩:=Prod.mk.inj (Option.some.inj hv)
       have hb:0<=b:=of_decide_eq_true hc
       simp [execOp,hop,h1,h2,eqGuard,binOp,Op.shift,Int.not_lt.2 hb]
     · obtain ⟨rfl,rfl⟩:=Prod.mk.inj (Option.some.inj hv)
       have hb:0<=b:=of_decide_eq_true hc
       simp [execOp,hop,h1,h2,eqGuard,binOp,Op.shift,Int.not_lt.2 hb]
     · cases hv
   · split at h
     case isFalse=>cases h
     rename_i hk
     subst hk
     split at h
     case h_2=>cases h
     rename_i c v hv
     refine ansV_ok h rfl ho fun hc M _ H E w ac hC hT=>?_
     have h1:=scV_ok hx (rel_ev hT x)
     have h2:=scV_ok hy (rel_ev hT y)
     unfold ibV at hv
     split at hv
     · obtain ⟨rfl,rfl⟩:=Prod.mk.inj (Option.some.inj hv)
       have hb:b≠0:=of_decide_eq_true hc
       simp [execOp,hop,h1,h2,eqGuard,binOp,Op.intDiv,hb]
     · obtain ⟨rfl,rfl⟩:=Prod.mk.inj (Option.some.inj hv)
       have hb:b≠0:=of_decide_eq_true hc
       simp [execOp,hop,h1,h2,eqGuard,binOp,Op.intDiv,hb]
     · cases hv
       simp [execOp,hop,h1,h2,eqGuard,binOp,Op.intBits]
     · cases hv
       simp [execOp,hop,h1,h2,eqGuard,binOp,Op.intBits]
     · cases hv
       simp [execOp,hop,h1,h2,eqGuard,binOp,Op.intBits]
     · cases hv
 · rename_i a b hx hy
   split at h
   case h_2=>cases h
   refine ansV_ok h rfl ho fun hc M _ H E w ac hC hT=>?_
   have h1:=scV_ok hx (rel_ev hT x)
   have h2:=scV_ok hy (rel_ev hT y)
   have hb:=of_decide_eq_true hc
   have hm:IntKind.i64.max=9223372036854775807:=by decide
   have hn:¬ (9223372036854775807<((a.size:Int)+(b.size:Int))):=by omega
   simp [execOp,hop,h1,h2,eqGuard,binOp,Op.stringOp,hm,hn]
 · cases h
def byteAt (s:ByteArray) (q:Int):Int:=((s.data.toList.getD q.toNat 0).toNat:Nat)
def idxZ (P:Program) (o:Oper) (t:Nat->AV):Option CE :=
 match o.op with
 | .index ty x i=>(match P.underlying ty,scV (ev t x),scV (ev t i) with
   | some .string,some (.string s),some (.int _ q)=>ansV (isS (ev t x)&&isS (ev t i)) (decide (0<=q)&&decide (q<(s.size:Nat))) (.int .u8 (byteAt s q)) []
   | _,_,_=>none)
 | _=>none
theorem idxZ_ok {P:Program} {o:Oper} {t:Nat->AV} {rd:Nat->Blk} {e:CE} (h:idxZ P o t=some e) (ho:Hold e.ob):CE.Good P o t rd e:=by
 unfold idxZ at h
 split at h
 case h_2=>cases h
 rename_i ty x i hop
 split at h
 case h_2=>cases h
 rename_i s k q hu hx hi
 refine ansV_ok h rfl ho fun hc M _ H E w ac hC hT=>?_
 have h1:=scV_ok hx (rel_ev hT x)
 have h2:=scV_ok hi (rel_ev hT i)
 simp only [Bool.and_eq_true,decide_eq_true_eq] at hc
 have hlt:q.toNat<s.size:=by omega
 have hb:s[q.toNat]? = some (s[q.toNat]'hlt):=getElem?_pos s q.toNat hlt
 have hv:byteAt s q=(s[q.toNat]'hlt).toNat:=by
  unfold byteAt
  rw [List.getD,Array.getElem?_toList,Array.getElem?_eq_getElem (by simpa using hlt)]
  rfl
 simp [execOp,hop,h1,h2,Instr.index,run_underlying hu,asIntOf,hc.1,hb,hv]
def u8Of:AV->Option Int
 | .s (.int .u8 n)=>some n
 | .y (.int .u8 n)=>some n
 | _=>none
def isU8 (a:AV):Bool:=match u8Of a with | some _=>true | none=>false
def byteOf (a:AV):UInt8:=match u8Of a with | some n=>UInt8.ofNat n.toNat | none=>0
def strL (l:List AV):ByteArray:=⟨(l.map byteOf).toArray⟩
def allU8:List AV->Bool
 | []=>true
 | a::l=>isU8 a&&allU8 l
def allS:List AV->Bool
 | []=>true
 | a::l=>isS a&&allS l
def bytesN (n:Nat) (d:Nat->Nat->AV):List AV:=(List.range n).map fun k=>d k 0
def strN (n:Nat) (d:Nat->Nat->AV):ByteArray:=strL (bytesN n d)
def tabZ (d:Nat->Nat->AV):Nat->Nat->List AV
 | _,0=>[]
 | k,n+1=>d k 0::tabZ d (k+1) n
def strE (known:Bool) (l:List AV) (rd:List Nat):Option CE:=match allU8 l with
 | true=>(match known&&allS l with | true=>some ⟨.s (.string (strL l)),rd,[],[],[]⟩ | false=>some ⟨.y (.string (strL l)),rd,[],[],[]⟩)
 | false=>none
def closedB (rd:Nat->Blk):AV->Bool
 | .sl ..=>true
 | .own i _ _ _=>(match rd i with | .lst ..=>true | _=>false)
 | .s _=>true
 | _=>false
def toStr (P:Program) (rd:Nat->Blk) (o:Oper) (t:Nat->AV):Option CE :=
 match o.op with
 | .convert src dst x=>(match P.underlying src,P.underlying dst with
   | some (.slice el),some .string=>(match P.underlying el,srcOf rd 1 (sv (ev t x)) with
     | some (.int .u8),some (n,some l,_)=>(match Nat.beq (len l) n with | true=>strE true l (refOf (sv (ev t x))) | false=>none)
     | some (.int .u8),some (n,none,d)=>(match closedB rd (ev t x) with
       | true=>strE true (tabZ d 0 n) (refOf (sv (ev t x)))
       | false=>some ⟨.y (.string (strN n d)),refOf (sv (ev t x)),[],[],[∀ k,k<n->isU8 (d k 0)=true]⟩)
     | _,_=>none)
   | _,_=>none)
 | _=>none
theorem u8Of_ok {a:AV} {n:Int} (h:u8Of a=some n) {H:HH} {E:Env} {v:Value} (hr:Rel a H E v):v=.int .u8 n:=by
 unfold u8Of at h
 split at h
 · cases h;exact hr.1
 · cases h;exact hr.1
 · cases h
theorem bytes_run {P:Program} {w:World} {A:Option Addr} {m c:Nat} {news:List Value} {L:List AV} {H:HH} {E:Env} (hl:news.length=m) (hA:A=none->m=0) (hcell:∀ ad,A=some ad->∀ j u,news[j]? = some u->w.cell? (ad.add j)=some u)
 (hr:RelL L H E news) (hu:allU8 L=true):(Conv.bytesToString (.slice A m c)).run P w=.ok (.string (strL L)) w:=by
 have key:∀ (L:List AV) (news:List Value),RelL L H E news->allU8 L=true->∃ ns:List Int,news=ns.map (Value.int .u8)/\ns.map (fun n=>UInt8.ofNat n.toNat)=L.map byteOf:=by
  intro L
  induction L with
  | nil=>intro news h _;have h:news=[]:=h;subst h;exact ⟨[],rfl,rfl⟩
  | cons a L ih =>
    intro news h hu
    obtain ⟨v,r,rfl,h1,h2⟩:=h
    simp only [allU8,Bool.and_eq_true] at hu
    obtain ⟨ns,rfl,hns⟩:=ih r h2 hu.2
    obtain ⟨n,hn⟩:∃ n,u8Of a=some n:=by
     have:=hu.1
     unfold isU8 at this
     cases hq:u8Of a with
     | some n=>exact ⟨n,rfl⟩
     | none=>rw [hq] at this;cases this
    exact ⟨n::ns,by rw [u8Of_ok hn h1];rfl,by simp [hns,byteOf,hn]⟩
 obtain ⟨ns,rfl,hns⟩:=key L news hr hu
 have fold:∀ (ns:List Int) (s:ByteArray),ns.foldl (fun r n=>r.push (UInt8.ofNat n.toNat)) s=⟨s.data++(ns.map fun n=>UInt8.ofNat n.toNat).toArray⟩:=by
  intro ns
  induction ns with
  | nil=>intro s;simp
  | cons n ns ih =>
    intro s
    rw [List.foldl_cons,ih]
    simp [ByteArray.push]
 cases A with
 | none =>
   have hm:=hA rfl
   subst hm
   have:ns=[]:=by simpa using hl
   subst this
   simp only [List.map_nil] at hns
   simp only [strL,<- hns]
   simp [Conv.bytesToString,Sem.run_pure]
   rfl
 | some ad =>
   have hload:(loadCells ad m).run P w=.ok (ns.map (Value.int .u8)).toArray w:=by
    have:=run_loadCells_list (P:=P) w ad (ns.map (Value.int .u8)) fun j u hj=>hcell ad rfl j u hj
    rw [hl] at this
    exact this
   rw [run_bytesToString w ad m c ns hload,fold]
   simp only [strL,hns]
   simp
theorem tabZ_eq (d:Nat->Nat->AV):∀ (n q:Nat),tabZ d q n=(List.range' q n).map fun k=>d k 0
 | 0,_=>rfl
 | n+1,q=>by rw [tabZ,tabZ_eq d n (q+1),List.range'_succ];rfl
theorem bytesN_eq (n:Nat) (d:Nat->Nat->AV):bytesN n d=tabZ d 0 n:=by rw [bytesN,tabZ_eq,List.range_eq_range']
theorem relL_tabZ {H:HH} {E:Env} {d:Nat->Nat->AV}:∀ (n q:Nat) (news:List Value),news.length=n->(∀ k,k<n->∃ u,news[k]? = some u/\Rel (d (q+k) 0) H E u)->RelL (tabZ d q n) H E news
 | 0,_,news,hl,_=>by
   have:news=[]:=by simpa using hl
   exact this
 | n+1,q,news,hl,h=>by
   obtain ⟨v,r,rfl⟩:∃ v r,news=v::r:=by
    cases news with
    | nil=>simp at hl
    | cons v r=>exact ⟨v,r,rfl⟩
   refine ⟨v,r,rfl,?_,relL_tabZ n (q+1) r (by simpa using hl) fun k hk=>?_⟩
   · obtain ⟨u,hu,hr⟩:=h 0 (by omega)
     simp at hu
     subst hu
     exact hr
   · obtain ⟨u,hu,hr⟩:=h (k+1) (by omega)
     refine ⟨u,by simpa using hu,?_⟩
     rw [show q+1+k=q+(k+1) by omega];exact hr
theorem allU8_tabZ (d:Nat->Nat->AV):∀ (n q:Nat),(∀ k,k<n->isU8 (d (q+k) 0)=true)->allU8 (tabZ d q n)=true
 | 0,_,_=>rfl
 | n+1,q,h=>by
   simp only [tabZ,allU8,Bool.and_eq_true]
   exact ⟨h 0 (by omega),allU8_tabZ d n (q+1) fun k hk=>by rw [show q+1+k=q+(k+1) by omega];exact h (k+1) (by omega)⟩
theorem toStr_ok {P:Program} {o:Oper} {t:Nat->AV} {rd:Nat->Blk} {e:CE} (h:toStr P rd o t=some e) (ho:Hold e.ob):CE.Good P o t rd e:=by
 unfold toStr at h
 split at h
 case h_2=>cases h
 rename_i src dst x hop
 split at h
 case h_2=>cases h
 rename_i el hsrc hdst
 have go:∀ (L:List AV) (v:AV) (rds:List Nat),P.underlying el=some (.int .u8)->allU8 L=true->(v=.s (.string (strL L))∨v=.y (.string (strL L))) ->
  (∀ M,(∀ i∈rds,getM M i=rd i)->∀ H E w a,Conc H E w M->RelT t H E a->∃ A m c,∃ news:List Value,a.eval x=.slice A m c/\news.length=m/\(A=none->m=0)/\(∀ ad,A=some ad->∀ j u,news[j]? = some u->w.cell? (ad.add j)=some u)/\∃ E',RelL L H E' news) ->
  ∀ ob,CE.Good P o t rd ⟨v,rds,[],[],ob⟩:=by
  intro L v rds hel hu hv hsrc2 ob M hM
  refine runs_stepZ fun H E w a hC hT=>?_
  obtain ⟨A,m,c,news,hx,hl,hA,hcell,E',hr⟩:=hsrc2 M hM H E w a hC hT
  have hrun:=bytes_run (P:=P) (c:=c) hl hA hcell hr hu
  refine ⟨.string (strL L),w,H,E,?_,?_,hC,Evol.refl _ _ _ _⟩
  · simp [execOp,hop,hx,run_convert_bytes_string w src dst el A m c hsrc hel hdst,hrun]
  · rcases hv with rfl | rfl<;>exact ⟨rfl,rfl⟩
 have hcong:∀ M,(∀ i∈refOf (sv (ev t x)),getM M i=rd i)->srcOf (getM M) 1 (sv (ev t x))=srcOf rd 1 (sv (ev t x)):=fun M hM=>srcOf_congr hM
 split at h
 · rename_i n l d hel hs
   split at h
   case h_2=>cases h
   rename_i hn
   unfold strE at h
   split at h
   case h_2=>cases h
   rename_i hu
   have hsrc2:∀ M,(∀ i∈refOf (sv (ev t x)),getM M i=rd i)->∀ H E w a,Conc H E w M->RelT t H E a->∃ A m c,∃ news:List Value,a.eval x=.slice A m c/\news.length=m/\(A=none->m=0)/\(∀ ad,A=some ad->∀ j u,news[j]? = some u->w.cell? (ad.add j)=some u)/\∃ E',RelL l H E' news:=by
    intro M hM H E w a hC hT
    obtain ⟨A,c,news,h1,h2,h3,h4,h5,h6,h7⟩:=srcOf_ok hC (rel_sv (rel_ev hT x)) (Nat.zero_lt_one) ((hcong M hM).trans hs)
    exact ⟨A,n,c,news,h1,by simpa using h2,h3,h4,E,h6 l rfl⟩
   split at h
   · cases h;exact go l _ _ hel hu (.inl rfl) hsrc2 _
   · cases h;exact go l _ _ hel hu (.inr rfl) hsrc2 _
 · rename_i n d hel hs
   have hsrc2:∀ M,(∀ i∈refOf (sv (ev t x)),getM M i=rd i)->∀ H E w a,Conc H E w M->RelT t H E a->∃ A m c,∃ news:List Value,a.eval x=.slice A m c/\news.length=m/\(A=none->m=0)/\(∀ ad,A=some ad->∀ j u,news[j]? = some u->w.cell? (ad.add j)=some u)/\∃ E',RelL (tabZ d 0 n) H E' news:=by
    intro M hM H E w a hC hT
    obtain ⟨A,c,news,h1,h2,h3,h4,h5,h6,h7⟩:=srcOf_ok hC (rel_sv (rel_ev hT x)) (Nat.zero_lt_one) ((hcong M hM).trans hs)
    refine ⟨A,n,c,news,h1,by simpa using h2,h3,h4,E0,relL_tabZ n 0 news (by simpa using h2) fun k hk=>?_⟩
    obtain ⟨u,hu,hr⟩:=h7 rfl k hk 0 (by omega)
    refine ⟨u,by simpa using hu,?_⟩
    rw [Nat.zero_add];exact hr
   split at h
   · unfold strE at h
     split at h
     case h_2=>cases h
     rename_i hu
     split at h
     · cases h;exact go _ _ _ hel hu (.inl rfl) hsrc2 _
     · cases h;exact go _ _ _ hel hu (.inr rfl) hsrc2 _
   · cases h
     have hob:=ho _ (List.mem_singleton.2 rfl)
     refine go (tabZ d 0 n) _ _ hel (allU8_tabZ d n 0 fun k hk=>by rw [Nat.zero_add];exact hob k hk) (.inr ?_) hsrc2 _
     rw [strN,bytesN_eq]
 · cases h
def mkZ (P:Program) (nid:Nat) (o:Oper) (t:Nat->AV):Option CE :=
 match o.op with
 | .makeSlice ty l c=>(match P.underlying ty,scV (ev t l),scV (ev t c) with
   | some (.slice el),some (.int _ a),some (.int _ b)=>(match P.info? el,zeroL P el with
     | some i,some z=>(match Nat.ble 1 i.size&&Nat.beq (len z) i.size&&noRefL z with
       | true=>(match isS (ev t l)&&isS (ev t c) with
         | true=>(match decide (0<=a)&&decide (a<=b)&&decide ((i.bytes:Int)*b<=281474976710656)&&decide (b<=9223372036854775807) with
           | true=>some ⟨.own nid i.size 0 a.toNat,[nid],[(nid,.lst el i.size a.toNat (some b.toNat) (rep z a.toNat))],[],[]⟩
           | false=>none)
         | false=>some ⟨.own nid i.size 0 a.toNat,[nid],[(nid,.row el i.size a.toNat (some b.toNat) fun _ j=>get z j)],[],[0<=a,a<=b,(i.bytes:Int)*b<=281474976710656,b<=9223372036854775807]⟩)
       | false=>none)
     | _,_=>none)
   | _,_,_=>none)
 | _=>none
theorem made_take {zc:Array Value} {m n sz:Nat} (h:m<=n):(madeCells zc (n*sz)).toList.take (m*sz)=(madeCells zc (m*sz)).toList:=by
 have hle:m*sz<=n*sz:=Nat.mul_le_mul_right _ h
 apply List.ext_getElem?
 intro j
 rw [List.getElem?_take]
 by_cases hj:j<m*sz
 · rw [if_pos hj]
   simp [madeCells,hj,Nat.lt_of_lt_of_le hj hle]
 · rw [if_neg hj]
   simp [madeCells,Nat.le_of_not_lt hj]
theorem mkZ_ok {P:Program} {rd:Nat->Blk} {nid:Nat} {o:Oper} {t:Nat->AV} {e:CE} (hd:∀ k,nid<=k->rd k=.dead) (h:mkZ P nid o t=some e) (ho:Hold e.ob):CE.Good P o t rd e:=by
 unfold mkZ at h
 split at h
 case h_2=>cases h
 rename_i ty l c hop
 split at h
 case h_2=>cases h
 rename_i el k1 a k2 b hu hl hc
 split at h
 case h_2=>cases h
 rename_i i z hi hz
 split at h
 case h_2=>cases h
 rename_i hb
 simp only [Bool.and_eq_true,Nat.ble_eq,Nat.beq_eq,len_eq] at hb
 obtain ⟨⟨hs1,hzl⟩,hnz⟩:=hb
 have go:∀ (B:Blk),0<=a->a<=b->(i.bytes:Int)*b<=281474976710656->b<=9223372036854775807 ->
  (B=.lst el i.size a.toNat (some b.toNat) (rep z a.toNat)∨B=.row el i.size a.toNat (some b.toNat) fun _ j=>get z j)->∀ ob,CE.Good P o t rd ⟨.own nid i.size 0 a.toNat,[nid],[(nid,B)],[],ob⟩:=by
  intro B h0 h1 h2 h3 hB ob M hM
  refine runs_stepZ fun H E w ac hC hT=>?_
  have hdn:getM M nid=.dead:=(hM nid (by simp)).trans (hd nid (Nat.le_refl _))
  have e1:=scV_ok hl (rel_ev hT l)
  have e2:=scV_ok hc (rel_ev hT c)
  obtain ⟨i',zv,hi',hz',hrz,hoz⟩:=zeroL_ok H E hz
  rw [hi] at hi'
  cases hi'
  have hzs:zv.cells.size=i.size:=by have:=RelL.length hrz;simp at this;omega
  have hrun:=run_make (P:=P) w ty el i zv hu hi hz' k1 k2 a b h0 h1 h2 h3
  have hle:a.toNat<=b.toNat:=by omega
  have hmul:a.toNat*i.size<=b.toNat*i.size:=Nat.mul_le_mul_right _ hle
  obtain ⟨s1,s2,s3,s4⟩:=E.set_same nid (some w.heap.size) b.toNat a.toNat
  have hones:ones (madeCells zv.cells (b.toNat*i.size)).toList:=ones_rep hoz (by omega) _
  have hBok:BlkOk H (E.set nid (some w.heap.size) b.toNat a.toNat) (w.alloc (.cells (madeCells zv.cells (b.toNat*i.size)) el)) nid B:=by
   rcases hB with rfl | rfl
   · refine ⟨s1,by rw [s3,s4];exact ⟨rfl,hle⟩,by rw [s3];unfold maxLen;omega,fun q hq=>by cases hq;exact s3,?_⟩
     rw [s2]
     refine ⟨_,heap_alloc_new w _,fun x hx=>hones x (List.mem_of_mem_take hx),by rw [s3];exact size_madeCells _ _,?_⟩
     rw [made_take hle]
     exact RelL.env (set_via hC hdn) (rep_ok hrz hzs hs1 a.toNat)
   · refine ⟨s1,by rw [s3,s4];exact ⟨rfl,hle⟩,by rw [s3];unfold maxLen;omega,fun q hq=>by cases hq;exact s3,?_⟩
     rw [s2]
     refine ⟨_,heap_alloc_new w _,fun x hx=>hones x (List.mem_of_mem_take hx),by rw [s3];exact size_madeCells _ _,fun k hk j hj=>?_⟩
     have hlt:k*i.size+j<b.toNat*i.size:=by
      have:(k+1)*i.size<=b.toNat*i.size:=Nat.mul_le_mul_right _ (by omega)
      rw [Nat.add_mul] at this;omega
     have hjz:j<zv.cells.size:=by omega
     have hmod:(k*i.size+j) % zv.cells.size=j:=by
      rw [hzs,Nat.mul_comm,Nat.mul_add_mod];exact Nat.mod_eq_of_lt hj
     refine ⟨zv.cells[j],?_,?_⟩
     · simp only [madeCells,Array.getElem?_map,Array.getElem?_range,hlt,if_pos,Option.map_some]
       rw [hmod]
       simp [hjz]
     · have hz2:RelL z H E0 zv.cells.toList:=RelL.noRef _ hnz hrz
       exact relL_get hz2 j _ (by simp [hjz])
  have hconc:=alloc_conc (κ:=b.toNat) (η:=a.toNat) (B:=B) hC hdn (madeCells zv.cells (b.toNat*i.size)) el hBok
  refine ⟨.slice (some ⟨w.heap.size,0,none⟩) a.toNat b.toNat,_,H,_,by simp [execOp,hop,e1,e2,hrun],⟨s1,by rw [s3,s4];omega,?_⟩,hconc.1,hconc.2⟩
  rw [s2]
  exact ⟨some ⟨w.heap.size,0,none⟩,by rw [s3];simp,by simp⟩
 split at h
 · split at h
   case h_2=>cases h
   rename_i hcond
   cases h
   simp only [Bool.and_eq_true,decide_eq_true_eq] at hcond
   exact go _ hcond.1.1.1 hcond.1.1.2 hcond.1.2 hcond.2 (.inl rfl) _
 · cases h
   exact go _ (ho _ (by simp)) (ho _ (by simp)) (ho _ (by simp)) (ho _ (by simp)) (.inr rfl) _
def capZ (P:Program) (rd:Nat->Blk) (o:Oper) (t:Nat->AV):Option CE :=
 match o.op with
 | .call { callee:=.builtin .cap,args,argTypes }=>(match args.toList,argTypes.toList with
   | [x],[ty]=>(match P.underlying ty,ev t x with
     | some (.slice _),.own i _ lo _=>(match rd i with
       | .lst _ _ _ (some q) _=>some ⟨.s (.int .i64 ((q - lo:Nat):Int)),[i],[],[],[]⟩
       | .row _ _ _ (some q) _=>some ⟨.y (.int .i64 ((q - lo:Nat):Int)),[i],[],[],[]⟩
       | .trow _ _ _ (some q) _ _ _=>some ⟨.y (.int .i64 ((q - lo:Nat):Int)),[i],[],[],[]⟩
       | _=>none)
     | some (.slice _),.s (.slice none 0 0)=>some ⟨.s (.int .i64 0),[],[],[],[]⟩
     | _,_=>none)
   | _,_=>none)
 | _=>none
theorem capZ_ok {P:Program} {rd:Nat->Blk} {o:Oper} {t:Nat->AV} {e:CE} (h:capZ P rd o t=some e):CE.Good P o t rd e:=by
 unfold capZ at h
 split at h
 case h_2=>cases h
 rename_i args ats hop
 split at h
 case h_2=>cases h
 rename_i x ty hx hty
 have h1:args=#[x]:=Array.ext' hx
 have h2:ats=#[ty]:=Array.ext' hty
 subst h1;subst h2
 have run:∀ (a:Act) (w:World) (A:Option Addr) (n c:Nat) (el:TypeId),P.underlying ty=some (.slice el)->a.eval x=.slice A n c->(execOp a.eval o).run P w=.ok (.value (.int .i64 (c:Int))) w:=by
  intro a w A n c el hu hv
  simp [execOp,hop,resolve,invoke,builtin,hv,Builtin.cap_,run_underlying hu,goInt]
 split at h
 · rename_i el i sz lo n hu he
   have go:∀ (q:Nat) (r:AV),(r=.s (.int .i64 ((q - lo:Nat):Int))∨r=.y (.int .i64 ((q - lo:Nat):Int)))->(∀ H E w,BlkOk H E w i (rd i)->E.κ i=q)->CE.Good P o t rd ⟨r,[i],[],[],[]⟩:=by
    intro q r hr hq M hM
    refine runs_stepZ fun H E w a hC hT=>?_
    have hv:=rel_ev hT x
    rw [he] at hv
    obtain ⟨hl,hη,hm⟩:=hv
    have hκ:=hq H E w (by have:=hC.blk i;rwa [hM i (by simp)] at this)
    have hv2:∃ A,a.eval x=.slice A n (q - lo):=by
     rw [hκ] at hm hη
     split at hm
     · obtain ⟨A,h,_⟩:=hm;exact ⟨A,h⟩
     · rename_i hι
       obtain ⟨h0,h1,h⟩:=hm
       have hb:=hC.blk i
       rw [hM i (by simp)] at hb
       refine ⟨none,?_⟩
       rw [h,h1]
       have hq0:q=0:=by
        cases hB:rd i with
        | dead=>rw [hB] at hb;simp [BlkOk,hl] at hb
        | box ty' cs=>rw [hB] at hb;obtain ⟨_,b,vs,hb1,_⟩:=hb;rw [hι] at hb1;cases hb1
        | mp es ck=>rw [hB] at hb;obtain ⟨_,b,vs,hb1,_⟩:=hb;rw [hι] at hb1;cases hb1
        | mi kk vk has c=>rw [hB] at hb;obtain ⟨_,b,vs,ck,hb1,_⟩:=hb;rw [hι] at hb1;cases hb1
        | mit m since seen last=>rw [hB] at hb;obtain ⟨_,_,b,bm,hb1,_⟩:=hb;rw [hι] at hb1;cases hb1
        | any=>rw [hB] at hb;obtain ⟨_,b,o,hb1,_⟩:=hb;rw [hι] at hb1;cases hb1
        | tmap q has c n kn=>rw [hB] at hb;obtain ⟨_,b,_,_,_,hb1,_⟩:=hb;rw [hι] at hb1;cases hb1
        | trow ty' s2 n' cap c op zs=>rw [hB] at hb;obtain ⟨_,_,_,_,hb1⟩:=hb;rw [hι] at hb1;rw [<- hκ];exact hb1.1
        | lst ty' s2 n' cap cs=>rw [hB] at hb;obtain ⟨_,_,_,_,hb1⟩:=hb;rw [hι] at hb1;rw [<- hκ];exact hb1.1
        | row ty' s2 n' cap cs=>rw [hB] at hb;obtain ⟨_,_,_,_,hb1⟩:=hb;rw [hι] at hb1;rw [<- hκ];exact hb1
       rw [hq0];simp
    obtain ⟨A,hv2⟩:=hv2
    refine ⟨_,w,H,E,run a w A n (q - lo) el hu hv2,?_,hC,Evol.refl _ _ _ _⟩
    rcases hr with rfl | rfl<;>exact ⟨rfl,rfl⟩
   split at h
   · rename_i q cs hg
     cases h
     exact go q _ (.inl rfl) fun H E w hb=>by rw [hg] at hb;exact hb.2.2.2.1 q rfl
   · rename_i q cs hg
     cases h
     exact go q _ (.inr rfl) fun H E w hb=>by rw [hg] at hb;exact hb.2.2.2.1 q rfl
   · rename_i q c op zs hg
     cases h
     exact go q _ (.inr rfl) fun H E w hb=>by rw [hg] at hb;exact hb.2.2.2.1 q rfl
   · cases h
 · rename_i el hu he
   cases h
   intro M hM
   refine runs_stepZ fun H E w a hC hT=>?_
   have hv:=rel_ev hT x
   rw [he] at hv
   exact ⟨_,w,H,E,run a w none 0 0 el hu hv.1,⟨rfl,rfl⟩,hC,Evol.refl _ _ _ _⟩
 · cases h
def leafTy (P:Program):Nat->TypeId->Nat->Option TypeId
 | 0,_,_=>none
 | n+1,ty,k=>(match P.underlying ty with
   | some (.struct fs)=>(fs.toList.foldl (fun r f=>match r with
     | some x=>some x
     | none=>(match sizeT P f.type with
       | some s=>(match Nat.ble f.offset k&&Nat.ble (k+1) (f.offset+s) with | true=>leafTy P n f.type (k - f.offset) | false=>none)
       | none=>none)) none)
   | some (.slice el)=>(match k with | 0=>some el | _+1=>none)
   | _=>none)
def aggGo (P:Program) (ty:TypeId) (mask:Nat):List AV->Nat->Nat->Option (List AV×List (Nat×Blk))
 | [],_,_=>some ([],[])
 | a::r,k,nid=>(match mask.testBit k with
   | false=>(match aggGo P ty mask r (k+1) nid with | some (l,wr)=>some (a::l,wr) | none=>none)
   | true=>(match a,leafTy P 8 ty k with
     | .s (.slice none 0 0),some el=>(match P.info? el,aggGo P ty mask r (k+1) (nid+1) with
       | some i,some (l,wr)=>some (.own nid i.size 0 0::l,(nid,.row el i.size 0 none (fun _ _=>.junk))::wr)
       | _,_=>none)
     | _,_=>none))
def news (nid:Nat):Nat->List Nat
 | 0=>[]
 | n+1=>nid::news (nid+1) n
def aggZ (P:Program) (rd:Nat->Blk) (nid:Nat) (o:Oper) (t:Nat->AV) (mask:Nat):Option CE :=
 match o.op with
 | .build ty _=>(match yop P rd nid o t with
   | some e=>(match e.r,e.wr,e.kl with
     | .agg cs,[],[]=>(match aggGo P ty mask cs 0 nid with
       | some (l,wr)=>some ⟨.agg l,e.rd++news nid (len wr),wr,[],e.ob⟩
       | none=>none)
     | _,_,_=>none)
   | none=>none)
 | _=>none
theorem mem_news:∀ {n nid j:Nat},nid<=j->j<nid+n->j∈news nid n
 | 0,_,_,h1,h2=>by omega
 | n+1,nid,j,h1,h2=>by
   rw [news]
   rcases Nat.eq_or_lt_of_le h1 with e | e
   · subst e;exact List.mem_cons_self
   · exact List.mem_cons_of_mem _ (mem_news (n:=n) e (by omega))
theorem aggGo_dead {P:Program} {ty:TypeId} {mask:Nat}:∀ {cells:List AV} {k nid:Nat} {l:List AV} {wr:List (Nat×Blk)} {H:HH} {E:Env} {w:World} {M:List Blk} {vs:List Value},aggGo P ty mask cells k nid=some (l,wr)->Conc H E w M->RelL cells H E vs->(∀ j,nid<=j->j<nid+wr.length->getM M j=.dead) ->
 ∃ E',RelL l H E' vs/\Conc H E' w (applyW wr M)/\Evol [] H E w H E' w
 | [],_,_,l,wr,H,E,w,M,vs,h,hC,hr,_=>by
   simp only [aggGo] at h
   cases h
   exact ⟨E,hr,hC,Evol.refl _ _ _ _⟩
 | a::r,k,nid,l,wr,H,E,w,M,vs,h,hC,hr,hd=>by
   obtain ⟨v,q,rfl,h1,h2⟩:=hr
   simp only [aggGo] at h
   split at h
   · split at h
     case h_2=>cases h
     rename_i l' wr' hg
     cases h
     obtain ⟨E',g1,g2,g3⟩:=aggGo_dead hg hC h2 hd
     refine ⟨E',⟨v,q,rfl,?_,g1⟩,g2,g3⟩
     have:=g3.rel h1
     rwa [kill] at this
   · split at h
     case h_2=>cases h
     rename_i el hel
     split at h
     case h_2=>cases h
     rename_i i l' wr' hi hg
     cases h
     have hdn:=hd nid (Nat.le_refl _) (by simp)
     obtain ⟨e1,e2,e3,e4⟩:=E.set_same nid none 0 0
     have hvia:=set_via (bo:=none) (κ:=0) (η:=0) hC hdn
     obtain ⟨hc,hev⟩:=hC.new (w':=w) (i:=nid) (κ:=0) (η:=0) (bo:=none) (B:=.row el i.size 0 none (fun _ _=>.junk)) hdn rfl rfl rfl (Nat.le_refl _) (fun _ _=>rfl) (fun b hb=>by cases hb)
      ⟨e1,by rw [e3,e4];exact ⟨rfl,Nat.le_refl _⟩,by rw [e3];exact Nat.zero_le _,(fun q hq=>by cases hq),by rw [e2];exact e3⟩
     obtain ⟨E',g1,g2,g3⟩:=aggGo_dead hg hc (RelL.env hvia h2) fun j hj hl=>by
      rw [getM_put_ne _ _ _ _ (by omega)]
      exact hd j (by omega) (by simp;omega)
     refine ⟨E',⟨v,q,rfl,?_,g1⟩,g2,hev.trans g3 fun _ h=>h⟩
     have hv:v=.slice none 0 0:=h1.1
     have:Rel (.own nid i.size 0 0) H (E.set nid none 0 0) v:=by
      rw [hv]
      exact ⟨e1,by rw [e3,e4];exact ⟨Nat.le_refl _,Nat.le_refl _⟩,by rw [e2];exact ⟨rfl,rfl,rfl⟩⟩
     have:=g3.rel this
     rwa [kill] at this
theorem aggZ_ok {P:Program} {rd:Nat->Blk} {nid:Nat} {o:Oper} {t:Nat->AV} {mask:Nat} {e:CE} (hd:∀ k,nid<=k->rd k=.dead) (h:aggZ P rd nid o t mask=some e) (ho:Hold e.ob):CE.Good P o t rd e:=by
 intro M hM H E w a K Q hC hT hdf hkk
 unfold aggZ at h
 split at h
 case h_2=>cases h
 rename_i ty parts hop
 split at h
 case h_2=>cases h
 rename_i g hg
 split at h
 case h_2=>cases h
 rename_i cs hr hw hk
 split at h
 case h_2=>cases h
 rename_i l wr hag
 cases h
 have hs:=yop_ok hg ho hd (M:=M) (fun i hi=>hM i (List.mem_append_left _ hi))
 refine hs H E w a K Q hC hT hdf fun v w' H' E' hr' hc hev=>?_
 rw [hw,hk] at hc
 rw [hk] at hev
 rw [hr] at hr'
 have hc:Conc H' E' w' M:=hc
 obtain ⟨vs,rfl,hrl⟩:=hr'
 obtain ⟨E2,q1,q2,q3⟩:=aggGo_dead hag hc hrl fun j h1 h2=>(hM j (List.mem_append_right _ (mem_news h1 (by rw [len_eq wr];exact h2)))).trans (hd j h1)
 exact hkk (.agg vs) w' H' E2 ⟨vs,rfl,q1⟩ q2 (hev.trans q3 fun _ h=>h)
def moreE (P:Program) (rd:Nat->Blk) (nid:Nat) (o:Oper) (t:Nat->AV):Option CE :=
 match o.op with
 | .binOp ..=>binZ o t
 | .index ..=>idxZ P o t
 | .convert ..=>toStr P rd o t
 | .makeSlice ..=>mkZ P nid o t
 | .call _=>capZ P rd o t
 | _=>none
theorem moreE_ok {P:Program} {rd:Nat->Blk} {nid:Nat} {o:Oper} {t:Nat->AV} {e:CE} (hd:∀ k,nid<=k->rd k=.dead) (h:moreE P rd nid o t=some e) (ho:Hold e.ob):CE.Good P o t rd e:=by
 unfold moreE at h
 split at h
 · exact binZ_ok h ho
 · exact idxZ_ok h ho
 · exact toStr_ok h ho
 · exact mkZ_ok hd h ho
 · exact capZ_ok h
 · cases h
end Go.Ax

namespace Go.Ax
open Go
variable [Inhabited Gl0]
theorem run_append_zeros {P:Program} (w:World) (t tx ty e:TypeId) (i:TypeInfo) (z:Value) (k kx:IntKind) (ht:P.underlying t=some (.slice e)) (hx:P.underlying tx=some (.int kx)) (hi:P.info? e=some i) (hz:i.zero=some z) (hs:1<=i.size)
 (n:Nat) (h0:0<n) (h63:(n:Int)<=9223372036854775807) (h48:n*i.bytes<=281474976710656) :
 (Builtin.append_ #[t,tx] ty #[.slice none 0 0,.int k n]).run P w =
   .ok (.slice (some ⟨w.heap.size,0,none⟩) n (grownCap w n 0 e)) (w.drew.alloc (.cells (Builtin.zeroCells z.cells n++Builtin.zeroCells z.cells (grownCap w n 0 e - n)) e)):=by
 have hn:n≠0:=by omega
 have hn2:¬ (n*i.size=0):=by
  have:1*1<=n*i.size:=Nat.mul_le_mul h0 hs
  omega
 have h63':¬ (9223372036854775807<(n:Int)):=by omega
 have h48':¬ (281474976710656<Builtin.nextslicecap n 0*i.bytes):=by rw [nextslicecap_zero h0];omega
 have hw:IntKind.i64.wrap (n:Int)=n:=by rw [IntKind.wrap_i64];omega
 have hneg:¬ ((n:Int)<0):=by omega
 have hbig:¬ (281474976710656<(n:Int)*(i.bytes:Int)):=by
  have:((n*i.bytes:Nat):Int)<=281474976710656:=by omega
  rw [Int.natCast_mul] at this;omega
 have hs1:¬ (i.size=0):=by omega
 simp [Builtin.append_,run_underlying ht,run_underlying hx,sizeOf,typeInfo,zeroValue,hi,hz,asInt,asIntOf,hw,hneg,hbig,hn,hs1,h63',h48',Question.forced,run_firstCells_none,newRow,grownCap]
 exact fun e=>absurd e hn2
def zerosE (P:Program) (nid:Nat) (o:Oper) (t:Nat->AV):Option CE :=
 match o.op with
 | .call { callee:=.builtin .append,args,argTypes }=>(match args.toList,argTypes.toList with
   | [s,x],[ty,tx]=>(match ev t s,scV (ev t x),P.underlying ty,P.underlying tx with
     | .s (.slice none 0 0),some (.int _ n),some (.slice el),some (.int _)=>(match P.info? el,zeroL P el with
       | some i,some z=>(match Nat.ble 1 i.size&&Nat.beq (len z) i.size&&noRefL z with
         | true=>some ⟨.own nid i.size 0 n.toNat,[nid],[(nid,.row el i.size n.toNat none fun _ j=>get z j)],[],[0<n,n<=9223372036854775807,n*(i.bytes:Int)<=281474976710656]⟩
         | false=>none)
       | _,_=>none)
     | _,_,_,_=>none)
   | _,_=>none)
 | .slice ty x lo hi mx=>(match P.underlying ty,ev t x,lo,mx,hi.map fun q=>scV (ev t q) with
   | some (.slice el),.s (.slice none 0 0),none,none,some (some (.int _ 0))=>(match sizeT P el with | some _=>some ⟨.s (.slice none 0 0),[],[],[],[]⟩ | none=>none)
   | _,_,_,_,_=>none)
 | _=>none
theorem zeros_cell (zc:Array Value) (n m k j:Nat) (h:0<zc.size) (hk:k<n) (hj:j<zc.size):(Builtin.zeroCells zc n++Builtin.zeroCells zc m)[k*zc.size+j]? = zc[j]?:=by
 have hlt:k*zc.size+j<n*zc.size:=by
  have:(k+1)*zc.size<=n*zc.size:=Nat.mul_le_mul_right _ hk
  rw [Nat.add_mul] at this;omega
 have hmod:(k*zc.size+j) % zc.size=j:=by rw [Nat.mul_comm,Nat.mul_add_mod];exact Nat.mod_eq_of_lt hj
 rw [Array.getElem?_append_left (by simpa [Builtin.zeroCells] using hlt)]
 simp [Builtin.zeroCells,hlt,hmod,hj]
theorem zerosE_ok {P:Program} {rd:Nat->Blk} {nid:Nat} {o:Oper} {t:Nat->AV} {e:CE} (hd:∀ k,nid<=k->rd k=.dead) (h:zerosE P nid o t=some e) (ho:Hold e.ob):CE.Good P o t rd e:=by
 unfold zerosE at h
 split at h
 · rename_i args ats hop
   split at h
   case h_2=>cases h
   rename_i s x ty tx hargs hats
   have h1:args=#[s,x]:=Array.ext' hargs
   have h2:ats=#[ty,tx]:=Array.ext' hats
   subst h1;subst h2
   split at h
   case h_2=>cases h
   rename_i k n el kx hs hx hu hux
   split at h
   case h_2=>cases h
   rename_i i z hi hz
   split at h
   case h_2=>cases h
   rename_i hb
   cases h
   simp only [Bool.and_eq_true,Nat.ble_eq,Nat.beq_eq,len_eq] at hb
   obtain ⟨⟨hs1,hzl⟩,hnz⟩:=hb
   have o1:=ho (0<n) (by simp)
   have o2:=ho (n<=9223372036854775807) (by simp)
   have o3:=ho (n*(i.bytes:Int)<=281474976710656) (by simp)
   intro M hM
   refine runs_stepZ fun H E w ac hC hT=>?_
   have hdn:getM M nid=.dead:=(hM nid (by simp)).trans (hd nid (Nat.le_refl _))
   have e1:=rel_ev hT s
   rw [hs] at e1
   have e1:=e1.1
   have e2:=scV_ok hx (rel_ev hT x)
   obtain ⟨N,rfl⟩:=Int.eq_ofNat_of_zero_le (Int.le_of_lt o1)
   have hN0:0<N:=by omega
   obtain ⟨i',zv,hi',hz',hrz,hoz⟩:=zeroL_ok H E hz
   rw [hi] at hi'
   cases hi'
   have hzs:zv.cells.size=i.size:=by have:=RelL.length hrz;simp at this;omega
   have hb48:N*i.bytes<=281474976710656:=by
    rw [<- Int.natCast_mul] at o3;omega
   have hrun:=run_append_zeros (P:=P) w ty tx o.type el i zv k kx hu hux hi hz' hs1 N hN0 o2 hb48
   have hge:=grownCap_ge w N 0 el
   have hle:=grownCap_le_maxLen w N 0 el (by unfold maxLen;omega)
   obtain ⟨s1,s2,s3,s4⟩:=E.set_same nid (some w.heap.size) (grownCap w N 0 el) N
   let vs:=Builtin.zeroCells zv.cells N++Builtin.zeroCells zv.cells (grownCap w N 0 el - N)
   have hvs:vs.size=grownCap w N 0 el*i.size:=by
    show (Builtin.zeroCells zv.cells N++Builtin.zeroCells zv.cells (grownCap w N 0 el - N)).size=_
    simp only [Array.size_append,Builtin.zeroCells,Array.size_map,Array.size_range,hzs,<- Nat.add_mul]
    congr 1;omega
   have hones:ones vs.toList:=by
    intro y hy
    simp only [vs,Array.toList_append,List.mem_append] at hy
    rcases hy with hy | hy
    · exact ones_rep hoz (by omega) _ y (by simpa [Builtin.zeroCells] using hy)
    · exact ones_rep hoz (by omega) _ y (by simpa [Builtin.zeroCells] using hy)
   have hBok:BlkOk H (E.set nid (some w.heap.size) (grownCap w N 0 el) N) (w.drew.alloc (.cells vs el)) nid (.row el i.size N none fun _ j=>get z j):=by
    refine ⟨s1,by rw [s3,s4];exact ⟨rfl,hge⟩,by rw [s3];exact hle,(fun q hq=>by cases hq),?_⟩
    rw [s2]
    refine ⟨vs,by have:=heap_alloc_new w.drew (.cells vs el);simpa using this,fun y hy=>hones y (List.mem_of_mem_take hy),by rw [s3];exact hvs,fun k hk j hj=>?_⟩
    refine ⟨zv.cells[j]'(by omega),?_,?_⟩
    · have:=zeros_cell zv.cells N (grownCap w N 0 el - N) k j (by omega) hk (by omega)
      rw [hzs] at this
      rw [show vs=Builtin.zeroCells zv.cells N++Builtin.zeroCells zv.cells (grownCap w N 0 el - N) from rfl,this]
      exact Array.getElem?_eq_getElem (by omega)
    · have hz2:RelL z H E0 zv.cells.toList:=RelL.noRef _ hnz hrz
      exact relL_get hz2 j _ (by simp;done)
   obtain ⟨hconc,hev⟩:=hC.new (w':=w.drew.alloc (.cells vs el)) (i:=nid) (κ:=grownCap w N 0 el) (η:=N) (bo:=some w.heap.size) (B:=.row el i.size N none fun _ j=>get z j) hdn rfl rfl rfl (by simp) (fun b hb=>Go.RowKit.Below.heap_alloc w.drew (.cells vs el) b hb) (fun b hb=>by cases hb;exact Nat.le_refl _) hBok
   refine ⟨.slice (some ⟨w.heap.size,0,none⟩) N (grownCap w N 0 el),_,H,_,by simp only [execOp,hop];simp [resolve,invoke,builtin,e1,e2,hrun];rfl,⟨s1,by rw [s3,s4];simp;omega,?_⟩,hconc,hev⟩
   rw [s2]
   exact ⟨some ⟨w.heap.size,0,none⟩,by rw [s3];simp,by simp⟩
 · rename_i ty x lo hi mx hop
   split at h
   case h_2=>cases h
   rename_i el k hu hx hhi
   split at h
   case h_2=>cases h
   rename_i sz hsz
   cases h
   intro M hM
   refine runs_stepZ fun H E w ac hC hT=>?_
   have e1:=rel_ev hT x
   rw [hx] at e1
   have e1:=e1.1
   cases hi with
   | none=>cases hhi
   | some q =>
     have hq:scV (ev t q)=some (.int k 0):=by simpa using hhi
     have e2:=scV_ok hq (rel_ev hT q)
     refine ⟨.slice none 0 0,w,H,E,?_,⟨rfl,rfl⟩,hC,Evol.refl _ _ _ _⟩
     simp [execOp,hop,e1,e2,Instr.sliceAt,Instr.slice,Instr.sliceBounds,Instr.sliceBound,run_underlying hu,asIntOf,run_sizeOf' w hsz]
 · cases h
theorem CE.Good.blk {P:Program} {o:Oper} {t:Nat->AV} {rd:Nat->Blk} {r:AV} {l:List Nat} {i:Nat} {B B':Blk} (hB:∀ H E w,BlkOk H E w i B->BlkOk H E w i B') (h:CE.Good P o t rd ⟨r,l,[(i,B)],[],[]⟩):CE.Good P o t rd ⟨r,l,[(i,B')],[],[]⟩:=by
 intro M hM H E w a K Q hC hT hd hk
 refine h M hM H E w a K Q hC hT hd fun v w' H' E' hr hc hev=>hk v w' H' E' hr ?_ hev
 have hc:Conc H' E' w' (putM M i B):=hc
 show Conc H' E' w' (putM M i B')
 refine ⟨hc.imm,hc.tf,fun k=>?_,hc.injH,hc.sepH,hc.ltS⟩
 by_cases hk:i=k
 · subst hk
   have:=hc.blk i
   rw [getM_put_same] at this ⊢
   exact hB _ _ _ this
 · have:=hc.blk k
   rw [getM_put_ne _ _ _ _ hk] at this ⊢
   exact this
theorem get_app_l:∀ (l r:List AV) (j:Nat),j<l.length->get (l++r) j=get l j
 | [],_,_,h=>absurd h (Nat.not_lt_zero _)
 | _::_,_,0,_=>rfl
 | _::l,r,j+1,h=>by simp only [List.cons_append,get];exact get_app_l l r j (by simpa using h)
theorem get_app_r:∀ (l r:List AV) (j:Nat),get (l++r) (l.length+j)=get r j
 | [],r,j=>by simp
 | _::l,r,j=>by
   simp only [List.cons_append,List.length_cons]
   rw [show l.length+1+j=(l.length+j)+1 by omega]
   simp only [get]
   exact get_app_r l r j
theorem rep_len (z:List AV):∀ n,(rep z n).length=n*z.length
 | 0=>by simp [rep]
 | n+1=>by simp only [rep,List.length_append,rep_len z n,Nat.add_mul];omega
theorem get_rep (z:List AV):∀ (n k j:Nat),k<n->j<z.length->get (rep z n) (k*z.length+j)=get z j
 | 0,_,_,h,_=>absurd h (Nat.not_lt_zero _)
 | n+1,0,j,_,hj=>by
   simp only [rep,Nat.zero_mul,Nat.zero_add]
   exact get_app_l _ _ _ hj
 | n+1,k+1,j,hk,hj=>by
   simp only [rep]
   rw [show (k+1)*z.length+j=z.length+(k*z.length+j) by rw [Nat.add_mul];omega,get_app_r z]
   exact get_rep z n k j (by omega) hj
theorem row_lst {H:HH} {E:Env} {w:World} {i ty sz n:Nat} {z:List AV} (hz:z.length=sz) (hs:1<=sz) (hn:noRefL z=true) (h:BlkOk H E w i (.row ty sz n none fun _ j=>get z j)) (h0:0<n):BlkOk H E w i (.lst ty sz n none (rep z n)):=by
 obtain ⟨h1,h2,h3,h4,h5⟩:=h
 refine ⟨h1,h2,h3,h4,?_⟩
 cases hι:E.ι i with
 | none=>rw [hι] at h5;omega
 | some b =>
   rw [hι] at h5
   obtain ⟨vs,g1,g2,g3,g4⟩:=h5
   refine ⟨vs,g1,g2,g3,?_⟩
   have hlen:(rep z n).length=n*sz:=by rw [<- hz];exact rep_len z n
   have hle:n*sz<=E.κ i*sz:=Nat.mul_le_mul_right _ h2.2
   refine relL_mk (by rw [hlen,List.length_take,Array.length_toList];omega) fun q u hu=>?_
   rw [List.getElem?_take] at hu
   split at hu
   case isFalse=>cases hu
   rename_i hq
   have hdm:=Nat.div_add_mod q sz
   have hmod:q % sz<sz:=Nat.mod_lt _ (by omega)
   have hdiv:q / sz<n:=by rw [Nat.div_lt_iff_lt_mul (by omega)];exact hq
   obtain ⟨x,hx,hr⟩:=g4 (q / sz) hdiv (q % sz) hmod
   have he:q / sz*sz+q % sz=q:=by rw [Nat.mul_comm];exact hdm
   rw [he] at hx
   have hux:u=x:=by
    have:vs.toList[q]? = some x:=by simpa using hx
    rw [this] at hu
    exact (Option.some.inj hu).symm
   subst hux
   have hg:get (rep z n) q=get z (q % sz):=by
    have:=get_rep z n (q / sz) (q % sz) hdiv (by omega)
    rw [hz,he] at this
    exact this
   rw [hg]
   exact Rel.noRef _ (noRef_get hn _) hr
def zerosL (P:Program) (nid:Nat) (o:Oper) (t:Nat->AV):Option CE :=
 match o.op with
 | .call { callee:=.builtin .append,args,argTypes }=>(match args.toList,argTypes.toList with
   | [s,x],[ty,tx]=>(match ev t s,ev t x,P.underlying ty,P.underlying tx with
     | .s (.slice none 0 0),.s (.int _ n),some (.slice el),some (.int _)=>(match P.info? el,zeroL P el with
       | some i,some z=>(match Nat.ble 1 i.size&&Nat.beq (len z) i.size&&noRefL z&&decide (0<n)&&decide (n<=9223372036854775807)&&decide (n*(i.bytes:Int)<=281474976710656) with
         | true=>some ⟨.own nid i.size 0 n.toNat,[nid],[(nid,.lst el i.size n.toNat none (rep z n.toNat))],[],[]⟩
         | false=>none)
       | _,_=>none)
     | _,_,_,_=>none)
   | _,_=>none)
 | _=>none
theorem zerosL_ok {P:Program} {rd:Nat->Blk} {nid:Nat} {o:Oper} {t:Nat->AV} {e:CE} (hd:∀ k,nid<=k->rd k=.dead) (h:zerosL P nid o t=some e):CE.Good P o t rd e:=by
 unfold zerosL at h
 split at h
 case h_2=>cases h
 rename_i args ats hop
 split at h
 case h_2=>cases h
 rename_i s x ty tx hargs hats
 split at h
 case h_2=>cases h
 rename_i k n el kx hs hx hu hux
 split at h
 case h_2=>cases h
 rename_i i z hi hz
 split at h
 case h_2=>cases h
 rename_i hb
 cases h
 simp only [Bool.and_eq_true,decide_eq_true_eq] at hb
 obtain ⟨⟨⟨⟨⟨b1,b2⟩,b3⟩,b4⟩,b5⟩,b6⟩:=hb
 have hzl:z.length=i.size:=by simpa [len_eq] using b2
 have hE:zerosE P nid o t=some ⟨.own nid i.size 0 n.toNat,[nid],[(nid,.row el i.size n.toNat none fun _ j=>get z j)],[],[0<n,n<=9223372036854775807,n*(i.bytes:Int)<=281474976710656]⟩:=by
  unfold zerosE
  simp [hop,hargs,hats,hs,hx,hu,hux,hi,hz,b1,b2,b3,scV]
 have hg:=zerosE_ok hd hE (fun p hp=>by
  simp only [List.mem_cons,List.mem_nil_iff,or_false] at hp
  rcases hp with rfl | rfl | rfl
  · exact b4
  · exact b5
  · exact b6)
 refine CE.Good.blk (B:=.row el i.size n.toNat none fun _ j=>get z j) (fun H E w hB=>row_lst hzl (by simpa using b1) b3 hB (by omega)) ?_
 intro M hM
 exact hg M hM
end Go.Ax
