import Derived.Test.YtnbhdjadlbhknaaGreatDoorE3
set_option linter.unusedVariables false
set_option linter.unusedSimpArgs false
set_option linter.unusedSectionVars false
namespace Go.Ax
open Go
variable [Inhabited kT]
structure St where
 t:List AV
 m:List aH
 mv:List Nat
def cB (P:Program) (c:Code) (st:St) (x:Exit) (st':St):Prop :=
 (∀ i∈st.mv,i∈st'.mv) /\
 ∀ H E w a,Conc H E w st.m->aI st.t H E a.tmps.toList->a.defers=[] ->
  c.wp P (fun x' a' w'=>∃ H' E',x'=x/\a'.defers=[]/\aI st'.t H' E' a'.tmps.toList/\Conc H' E' w' st'.m/\cO st'.mv H E w H' E' w') a w
def fq (P:Program) (f:FuncId) (args:List AV) (M:List aH) (r:AV) (M':List aH) (mv:List Nat):Prop :=
 ∀ H E w vals,Conc H E w M->aI args H E vals.toList ->
  Calls P f vals w fun e w'=>∃ v H' E',e=.returned v/\Rel r H' E' v/\Conc H' E' w' M'/\cO mv H E w H' E' w'
theorem cB.skip {P:Program} {st:St}:cB P .skip st .normal st :=
 ⟨fun _ h=>h,fun H E _ _ hC hT hd=>wp_skip ⟨H,E,rfl,hd,hT,hC,cO.refl _ _ _ _⟩⟩
theorem cB.ret {P:Program} {st:St}:cB P .ret st .ret st :=
 ⟨fun _ h=>h,fun H E _ _ hC hT hd=>wp_ret ⟨H,E,rfl,hd,hT,hC,cO.refl _ _ _ _⟩⟩
theorem cB.exit {P:Program} {st:St} {id:Nat}:cB P (.exit id) st (.exit id) st :=
 ⟨fun _ h=>h,fun H E _ _ hC hT hd=>wp_exit ⟨H,E,rfl,hd,hT,hC,cO.refl _ _ _ _⟩⟩
theorem cB.seq {P:Program} {c d:Code} {s s1 s2:St} {x:Exit} (h:cB P c s .normal s1) (k:cB P d s1 x s2):cB P (.seq c d) s x s2:=by
 refine ⟨fun i hi=>k.1 i (h.1 i hi),fun H E w a hC hT hd=>wp_seq (wp_mono (h.2 H E w a hC hT hd) ?_)⟩
 rintro x' a' w' ⟨H1,E1,rfl,hd1,hT1,hC1,hE1⟩
 refine wp_mono (k.2 H1 E1 w' a' hC1 hT1 hd1) ?_
 rintro x2 a2 w2 ⟨H2,E2,rfl,hd2,hT2,hC2,hE2⟩
 exact ⟨H2,E2,rfl,hd2,hT2,hC2,hE1.trans hE2 k.1⟩
theorem cB.XO {P:Program} {c d:Code} {s s1:St} {x:Exit} (hx:x≠.normal) (h:cB P c s x s1):cB P (.seq c d) s x s1:=by
 refine ⟨h.1,fun H E w a hC hT hd=>wp_seq (wp_mono (h.2 H E w a hC hT hd) ?_)⟩
 rintro x' a' w' ⟨H1,E1,rfl,hd1,hT1,hC1,hE1⟩
 cases x'<;>first | exact absurd rfl hx | exact ⟨H1,E1,rfl,hd1,hT1,hC1,hE1⟩
theorem cB.cond {P:Program} {c:Operand} {d e:Code} {s s1:St} {x:Exit} {b:Bool} (hc:ev (get s.t) c=.s (.bool b)) (h:cB P (if b then d else e) s x s1):cB P (.cond c d e) s x s1:=by
 refine ⟨h.1,fun H E w a hC hT hd=>?_⟩
 have hr:=aT (kX hT) c
 rw [hc] at hr
 exact wp_cond hr.1 (h.2 H E w a hC hT hd)
theorem cB.block {P:Program} {c:Code} {s s1:St} {x:Exit} {id:Nat} (h:cB P c s x s1) (hx:x≠.exit id):cB P (.block id c) s x s1:=by
 refine ⟨h.1,fun H E w a hC hT hd=>wp_block (wp_mono (h.2 H E w a hC hT hd) ?_)⟩
 rintro x' a' w' ⟨H1,E1,rfl,hd1,hT1,hC1,hE1⟩
 cases x' with
 | exit j =>
   have:j≠id:=fun e=>hx (by rw [e])
   simp only [Exit.inBlock,this,if_false]
   exact ⟨H1,E1,trivial,hd1,hT1,hC1,hE1⟩
 | _=>exact ⟨H1,E1,rfl,hd1,hT1,hC1,hE1⟩
theorem cB.Jr {P:Program} {c:Code} {s s1:St} {id:Nat} (h:cB P c s (.exit id) s1):cB P (.block id c) s .normal s1:=by
 refine ⟨h.1,fun H E w a hC hT hd=>wp_block (wp_mono (h.2 H E w a hC hT hd) ?_)⟩
 rintro x' a' w' ⟨H1,E1,rfl,hd1,hT1,hC1,hE1⟩
 simp only [Exit.inBlock,if_true]
 exact ⟨H1,E1,trivial,hd1,hT1,hC1,hE1⟩
def gM (P:Program) (c:Code) (n:Nat) (st:St) (x:Exit) (st':St):Prop :=
 (∀ i∈st.mv,i∈st'.mv) /\
 ∀ H E w a,Conc H E w st.m->aI st.t H E a.tmps.toList->a.defers=[] ->
  Code.rounds P c (fun x' a' w'=>∃ H' E',x'=x/\a'.defers=[]/\aI st'.t H' E' a'.tmps.toList/\Conc H' E' w' st'.m/\cO st'.mv H E w H' E' w') n a w
theorem cB.loop {P:Program} {c:Code} {n:Nat} {s s1:St} {x:Exit} (h:gM P c n s x s1):cB P (.loop c) s x s1 :=
 ⟨h.1,fun H E w a hC hT hd=>wp_loop_rounds n (h.2 H E w a hC hT hd)⟩
theorem lM {P:Program} {c:Code} {Q Q':Exit->Act->World->Prop} (hq:∀ e a w,Q e a w->Q' e a w):∀ n a w,Code.rounds P c Q n a w->Code.rounds P c Q' n a w
 | 0,_,_,h=>h
 | n+1,a,w,h=>wp_mono h fun e a' w' he=>by
   cases e with
   | normal=>exact lM hq n a' w' he
   | _=>exact hq _ _ _ he
theorem gM.out {P:Program} {c:Code} {s s1:St} {x:Exit} (hx:x≠.normal) (h:cB P c s x s1):gM P c 1 s x s1:=by
 refine ⟨h.1,fun H E w a hC hT hd=>wp_mono (h.2 H E w a hC hT hd) ?_⟩
 rintro x' a' w' ⟨H1,E1,rfl,hd1,hT1,hC1,hE1⟩
 cases x'<;>first | exact absurd rfl hx | exact ⟨H1,E1,rfl,hd1,hT1,hC1,hE1⟩
theorem gM.next {P:Program} {c:Code} {n:Nat} {s s1 s2:St} {x:Exit} (h:cB P c s .normal s1) (k:gM P c n s1 x s2):gM P c (n+1) s x s2:=by
 refine ⟨fun i hi=>k.1 i (h.1 i hi),fun H E w a hC hT hd=>wp_mono (h.2 H E w a hC hT hd) ?_⟩
 rintro x' a' w' ⟨H1,E1,rfl,hd1,hT1,hC1,hE1⟩
 refine lM ?_ n a' w' (k.2 H1 E1 w' a' hC1 hT1 hd1)
 rintro x2 a2 w2 ⟨H2,E2,rfl,hd2,hT2,hC2,hE2⟩
 exact ⟨H2,E2,rfl,hd2,hT2,hC2,hE1.trans hE2 k.1⟩
def St.le (s s':St):Prop :=
 (∀ i∈s.mv,i∈s'.mv)/\∀ H E w vs,Conc H E w s.m->aI s.t H E vs->∃ E',Conc H E' w s'.m/\aI s'.t H E' vs/\cO s'.mv H E w H E' w
theorem St.le_refl (s:St):s.le s:=⟨fun _ h=>h,fun _ E _ _ hC hT=>⟨E,hC,hT,cO.refl _ _ _ _⟩⟩
theorem cB.weak {P:Program} {c:Code} {s s1 s2:St} {x:Exit} (h:cB P c s x s1) (k:s1.le s2):cB P c s x s2:=by
 refine ⟨fun i hi=>k.1 i (h.1 i hi),fun H E w a hC hT hd=>wp_mono (h.2 H E w a hC hT hd) ?_⟩
 rintro x' a' w' ⟨H1,E1,rfl,hd1,hT1,hC1,hE1⟩
 obtain ⟨E2,hC2,hT2,hE2⟩:=k.2 H1 E1 w' _ hC1 hT1
 exact ⟨H1,E2,rfl,hd1,hT2,hC2,hE1.trans hE2 k.1⟩
theorem cB.pre {P:Program} {c:Code} {s0 s s1:St} {x:Exit} (k:s0.le s) (h:cB P c s x s1):cB P c s0 x s1:=by
 refine ⟨fun i hi=>h.1 i (k.1 i hi),fun H E w a hC hT hd=>?_⟩
 obtain ⟨E2,hC2,hT2,hE2⟩:=k.2 H E w _ hC hT
 refine wp_mono (h.2 H E2 w a hC2 hT2 hd) ?_
 rintro x' a' w' ⟨H1,E1,rfl,hd1,hT1,hC1,hE1⟩
 exact ⟨H1,E1,rfl,hd1,hT1,hC1,hE2.trans hE1 h.1⟩
theorem gM.pre {P:Program} {c:Code} {n:Nat} {s0 s s1:St} {x:Exit} (k:s0.le s) (h:gM P c n s x s1):gM P c n s0 x s1:=by
 refine ⟨fun i hi=>h.1 i (k.1 i hi),fun H E w a hC hT hd=>?_⟩
 obtain ⟨E2,hC2,hT2,hE2⟩:=k.2 H E w _ hC hT
 refine lM ?_ n a w (h.2 H E2 w a hC2 hT2 hd)
 rintro x' a' w' ⟨H1,E1,rfl,hd1,hT1,hC1,hE1⟩
 exact ⟨H1,E1,rfl,hd1,hT1,hC1,hE2.trans hE1 h.1⟩
def BQ (t:List AV) (d:Option Nat) (v:AV):List AV:=match d with | some i=>set t i v | none=>t
theorem PZ {H:HH} {E:Env} {t:List AV} {vs:Array Value} {i:Nat} {v:AV} {u:Value} (h:aI t H E vs.toList) (hv:Rel v H E u):aI (set t i v) H E (vs.setIfInBounds i u).toList:=by
 have hl:=aI.length h
 refine iw (by rw [length_set];simpa using hl) fun j x hx=>?_
 rw [wJ]
 simp only [Array.toList_setIfInBounds,List.getElem?_set] at hx
 by_cases hij:i=j
 · subst hij
   rw [if_pos rfl] at hx
   split at hx
   · rename_i hlt
     cases hx
     rw [if_pos ⟨rfl,by omega⟩];exact hv
   · cases hx
 · rw [if_neg hij] at hx
   rw [if_neg (by simp [hij])]
   exact bK h _ _ hx
theorem qL {H:HH} {E:Env} {t:List AV} {a:Act} {d:Option Nat} {v:AV} {u:Value} (h:aI t H E a.tmps.toList) (hv:Rel v H E u):aI (BQ t d v) H E (a.put d u).tmps.toList:=by
 cases d with
 | none=>exact h
 | some i=>exact PZ h hv
theorem put_defers (a:Act) (d:Option Nat) (u:Value):(a.put d u).defers=a.defers:=by cases d<;>rfl
def Bu (ops:Array Oper) (t:Nat->AV) (o:Oper):Option Bool :=
 match o.guard with
 | none=>some true
 | some (j,want)=>match (ops[j]?).bind (·.dst) with
   | none=>some false
   | some d=>match t d with
     | .s (.bool b)=>some (b==want)
     | .s (.int ..) | .agg _ | .tup _=>some false
     | _=>none
theorem mq {ops:Array Oper} {t:Nat->AV} {o:Oper} {b:Bool} {H:HH} {E:Env} {a:Act} (hT:jQ t H E a) (h:Bu ops t o=some b):Region.wanted o (yielded ops a.tmps)=b:=by
 unfold Bu at h
 unfold Region.wanted
 split at h
 · rename_i hg;rw [hg];cases h;rfl
 · rename_i j want hg
   rw [hg]
   simp only [yielded]
   split at h
   · rename_i hd
     rw [hd];cases h;rfl
   · rename_i d hd
     rw [hd]
     simp only [Option.bind_some]
     have hr:=hT d
     have hget:∀ v,a.tmps.getD d undef=v->v≠undef->a.tmps[d]? = some v:=by
      intro v hv hne
      rcases Nat.lt_or_ge d a.tmps.size with hlt | hge
      · rw [Array.getElem?_eq_getElem hlt];simp [hlt] at hv;rw [hv]
      · exfalso;apply hne;rw [<- hv];simp [hge]
     split at h
     · rename_i x he
       rw [he] at hr
       obtain ⟨hr,_⟩:=hr
       rw [hget _ hr (by simp [undef])];cases h
       cases x<;>cases want<;>rfl
     · rename_i k n he
       rw [he] at hr
       obtain ⟨hr,_⟩:=hr
       rw [hget _ hr (by simp [undef])];cases h;rfl
     · rename_i cs he
       rw [he] at hr
       obtain ⟨vs,hr,_⟩:=hr
       rw [hget _ hr (by simp [undef])];cases h;rfl
     · rename_i cs he
       rw [he] at hr
       obtain ⟨vs,hr,_⟩:=hr
       cases h
       rcases Nat.lt_or_ge d a.tmps.size with hlt | hge
       · rw [Array.getElem?_eq_getElem hlt]
         simp [hlt] at hr
         rw [hr];rfl
       · rw [Array.getElem?_eq_none hge];rfl
     · cases h
structure Stp where
 r:AV
 m:List aH
 kl:List Nat
 ob:List Prop
def St.app (st:St) (d:Option Nat) (e:Stp):St:=⟨BQ (Cr e.kl st.t) d e.r,e.m,e.kl++st.mv⟩
def Hold (l:List Prop):Prop:=∀ p∈l,p
theorem Hold.append {a b:List Prop} (h:Hold (a++b)):Hold a/\Hold b:=⟨fun x hx=>h x (by simp [hx]),fun x hx=>h x (by simp [hx])⟩
def ET (P:Program) (o:Oper) (st:St) (e:Stp):Prop :=
 ∀ H E w a (K:Act->World->Prop) (Q:Exit->Act->World->Prop),Conc H E w st.m->aI st.t H E a.tmps.toList->a.defers=[] ->
  (∀ v w' H' E',Rel e.r H' E' v->Conc H' E' w' e.m->cO e.kl H E w H' E' w'->K (a.put o.dst v) w')->o.wp P a w K Q
theorem zL {P:Program} {o:Oper} {st:St} {hh:Option Hint} {nid:Nat} {e:Eff} (hd:getM st.m nid=.dead) (h:oG P hh (getM st.m) nid (get st.t) o.op=some e) (ho:All e.ob) :
 ET P o st ⟨e.r,fF e.kl (eF e.wr st.m),e.kl,e.ob.map (· = true)⟩:=by
 intro H E w a K Q hC hT hdf hk
 obtain ⟨n,v,w',E',hrun,hn,hr,hc,hev⟩:=GX (a:=a) hC hd (kX hT) h ho
 unfold Oper.wp
 rw [hrun]
 rcases hn with rfl | ⟨rfl,rfl⟩
 · exact hk v w' H E' hr hc hev
 · exact hk undef w' H E' hr hc hev
theorem mZ:∀ (M:List aH) (i:Nat),len M<=i->getM M i=.dead
 | [],i,_=>dY i
 | _::l,0,h=>by simp [len] at h
 | _::l,i+1,h=>mZ l i (by simpa [len] using h)
def Np (P:Program) (hh:Nat->Option Hint) (cf:Nat->Oper->St->Option Stp) (all:Array Oper):List Oper->Nat->St->Option (St×List Prop)
 | [],_,st=>some (st,[])
 | o::r,p,st =>
   match Bu all (get st.t) o with
   | some true =>
     (match (match o.op with
       | .call { callee:=.value _,.. }=>cf p o st
       | op=>(match oG P (hh p) (getM st.m) (len st.m) (get st.t) op with
         | some e=>some ⟨e.r,fF e.kl (eF e.wr st.m),e.kl,e.ob.map (· = true)⟩
         | none=>none)) with
      | some e=>(match Np P hh cf all r (p+1) (st.app o.dst e) with
         | some (st',ob)=>some (st',e.ob++ob)
         | none=>none)
      | none=>none)
   | some false=>Np P hh cf all r (p+1) ⟨BQ st.t o.dst .junk,st.m,st.mv⟩
   | none=>none
theorem Em {st:St} {d:Option Nat} {e:Stp}:∀ i∈st.mv,i∈(st.app d e).mv:=fun i hi=>by simp [St.app,hi]
theorem DN {P:Program} {hh:Nat->Option Hint} {cf:Nat->Oper->St->Option Stp} {all:Array Oper} (hcf:∀ p o st e,cf p o st=some e->Hold e.ob->ET P o st e) :
 ∀ {l:List Oper} {p:Nat} {st st':St} {ob:List Prop},(∀ j,l[j]? = all[p+j]?)->Np P hh cf all l p st=some (st',ob)->Hold ob ->
  (∀ i∈st.mv,i∈st'.mv)/\∀ H E w a (Q:Exit->Act->World->Prop),Conc H E w st.m->aI st.t H E a.tmps.toList->a.defers=[] ->
    (∀ a' w' H' E',a'.defers=[]->aI st'.t H' E' a'.tmps.toList->Conc H' E' w' st'.m->cO st'.mv H E w H' E' w'->Q .normal a' w')->wpOps P all Q (List.range' p l.length) a w
 | [],p,st,st',ob,_,h,_=>by
   simp only [Np] at h
   cases h
   exact ⟨fun _ h=>h,fun H E w a Q hC hT hd hq=>hq a w H E hd hT hC (cO.refl _ _ _ _)⟩
 | o::r,p,st,st',ob,hl,h,ho=>by
   have hp:all[p]? = some o:=by have:=hl 0;simpa using this.symm
   have hr:∀ j,r[j]? = all[p+1+j]?:=fun j=>by have:=hl (j+1);simp at this;rw [this];congr 1;omega
   simp only [Np] at h
   split at h
   · rename_i hg
     split at h
     case h_2=>cases h
     rename_i e he
     split at h
     case h_2=>cases h
     rename_i st2 ob2 h2
     cases h
     obtain ⟨ho1,ho2⟩:=ho.append
     have hstep:ET P o st e:=by
      split at he
      · exact hcf p o st e he ho1
      · split at he
        case h_2=>cases he
        rename_i ef hef
        cases he
        exact zL (mZ _ _ (Nat.le_refl _)) hef fun b hb=>ho1 (b=true) (by simp;exact hb)
     obtain ⟨hmv,hrest⟩:=DN hcf hr h2 ho2
     refine ⟨fun i hi=>hmv i (Em i hi),fun H E w a Q hC hT hd hq=>?_⟩
     simp only [List.length_cons,List.range'_succ,wpOps,hp]
     rw [mq (kX hT) hg]
     simp only [if_true]
     refine .inl (hstep H E w a _ Q hC hT hd fun v w' H' E' hr' hC' hE'=>?_)
     refine hrest H' E' w' _ Q hC' (qL (hE'.acM hT) hr') (by rw [put_defers];exact hd) fun a2 w2 H2 E2 hd2 hT2 hC2 hE2=>?_
     exact hq a2 w2 H2 E2 hd2 hT2 hC2 (hE'.trans hE2 fun i hi=>hmv i (by simp [St.app,hi]))
   · rename_i hg
     obtain ⟨hmv,hrest⟩:=DN hcf hr h ho
     refine ⟨hmv,fun H E w a Q hC hT hd hq=>?_⟩
     simp only [List.length_cons,List.range'_succ,wpOps,hp]
     rw [mq (kX hT) hg]
     simp only [Bool.false_eq_true,if_false]
     exact hrest H E w _ Q hC (qL hT trivial) (by rw [put_defers];exact hd) hq
   · cases h
theorem cB.region {P:Program} {hh:Nat->Option Hint} {cf:Nat->Oper->St->Option Stp} {id:Nat} {ops:Array Oper} {st st':St} {ob:List Prop} (hcf:∀ p o st e,cf p o st=some e->Hold e.ob->ET P o st e)
 (h:Np P hh cf ops ops.toList 0 st=some (st',ob)) (ho:Hold ob):cB P (.region id ops false) st .normal st':=by
 obtain ⟨hmv,hrun⟩:=DN hcf (fun j=>by simp) h ho
 refine ⟨hmv,fun H E w a hC hT hd=>wp_region ?_⟩
 rw [List.range_eq_range']
 have:=hrun H E w a (fun x' a' w'=>∃ H' E',x'=Exit.normal/\a'.defers=[]/\aI st'.t H' E' a'.tmps.toList/\Conc H' E' w' st'.m/\cO st'.mv H E w H' E' w') hC hT hd fun a' w' H' E' h1 h2 h3 h4=>⟨H',E',rfl,h1,h2,h3,h4⟩
 simpa using this
def Cb (P:Program) (st:St):List ResultVar->Option (List AV)
 | []=>some []
 | .tmp t::r=>(match Cb P st r with | some l=>some (get st.t t::l) | none=>none)
 | .cell a ty::r=>(match P.underlying ty,get st.t a with
   | some _,.ptr i k sz o=>(match xZ P none (getM st.m) ty (.ptr i k sz o),Cb P st r with
     | some e,some l=>(match e.ob with | []=>some (e.r::l) | _=>none)
     | _,_=>none)
   | _,_=>none)
def Gd:List AV->AV
 | [a]=>a
 | l=>.tup l
def WJ (tmps:Array Value):ResultVar->Sem Value
 | .tmp t=>pure (tmps.getD t undef)
 | .cell a t=>do loadVar t (<- asAddr (tmps.getD a undef))
theorem Et {P:Program} {H:HH} {E:Env} {w:World} {st:St} {tmps:Array Value} (hC:Conc H E w st.m) (hT:aI st.t H E tmps.toList):∀ {rv:List ResultVar} {l:List AV},Cb P st rv=some l ->
 ∃ vs:List Value,(rv.mapM (WJ tmps)).run P w=.ok vs w/\aI l H E vs
 | [],l,h=>by simp [Cb] at h;subst h;exact ⟨[],rfl,rfl⟩
 | .tmp t::r,l,h=>by
   simp only [Cb] at h
   split at h
   case h_2=>cases h
   rename_i l' hl
   cases h
   obtain ⟨vs,h1,h2⟩:=Et hC hT hl
   refine ⟨tmps.getD t undef::vs,?_,_,_,rfl,Ao hT t,h2⟩
   rw [List.mapM_cons]
   simp only [WJ,Sem.run_bind,Sem.run_pure,Result.andThen_ok,h1]
 | .cell a ty::r,l,h=>by
   simp only [Cb] at h
   split at h
   case h_2=>cases h
   rename_i d i k sz o hu hg
   split at h
   case h_2=>cases h
   rename_i e l' he hl
   split at h
   case h_2=>cases h
   rename_i hob
   cases h
   obtain ⟨vs,h1,h2⟩:=Et hC hT hl
   have hr:=Ao hT a
   rw [hg] at hr
   obtain ⟨_,u,hrun,hru⟩:=Ep (P:=P) hC hr ⟨d,hu⟩ he (by rw [hob];exact all_nil)
   obtain ⟨hlv,b,hb,hv⟩:=hr
   refine ⟨u::vs,?_,_,_,rfl,hru,h2⟩
   rw [hv] at hrun
   simp only [Instr.loadAt,Instr.sureAddr,Sem.run_bind,Sem.run_pure,Result.andThen_ok] at hrun
   rw [List.mapM_cons]
   simp only [WJ,hv,asAddr,Sem.run_bind,Sem.run_pure,Result.andThen_ok,hrun,h1]
theorem Km {P:Program} {H:HH} {E:Env} {w:World} {st:St} {fn:Func} {tmps:Array Value} {l:List AV} (hC:Conc H E w st.m) (hT:aI st.t H E tmps.toList) (h:Cb P st fn.results.toList=some l) :
 ∃ v,(results fn tmps).run P w=.ok v w/\Rel (Gd l) H E v:=by
 obtain ⟨vs,h1,h2⟩:=Et hC hT h
 refine ⟨if h:vs.toArray.size=1 then vs.toArray[0] else .tuple vs.toArray,?_,?_⟩
 · have e:results fn tmps=(do let vs <- fn.results.mapM (WJ tmps);pure (if h:vs.size=1 then vs[0] else .tuple vs)):=by
    unfold results
    congr 1
   rw [e]
   simp only [Array.mapM_eq_mapM_toList,Sem.run_bind,Sem.run_map,h1,Result.andThen_ok,Sem.run_pure]
 · have hl:=aI.length h2
   match l,vs,h2,hl with
   | [a],[v],h2,_ =>
     obtain ⟨v',r,hv,h3,_⟩:=h2
     cases hv
     simpa [Gd] using h3
   | [],[],h2,_=>exact ⟨#[],rfl,h2⟩
   | a::b::c,u::v::z,h2,_ =>
     refine ⟨(u::v::z).toArray,?_,by simpa using h2⟩
     rw [dif_neg (by simp)]
def F5 (n:Nat) (args:List AV):List AV:=args++List.replicate (n - args.length) .junk
theorem Du (H:HH) (E:Env) (v:Value):∀ n,aI (List.replicate n .junk) H E (List.replicate n v)
 | 0=>rfl
 | n+1=>by rw [List.replicate_succ,List.replicate_succ];exact ⟨_,_,rfl,trivial,Du H E v n⟩
theorem fq.sN {P:Program} {f:FuncId} {fn:Func} {c:Code} {args:List AV} {M:List aH} {x:Exit} {st':St} {l:List AV} (hf:P.funcs[f]? = some fn) (hb:fn.body=some c) (hx:x=.ret∨x=.normal)
 (h:cB P c ⟨F5 fn.ntmps args,M,[]⟩ x st') (hr:Cb P st' fn.results.toList=some l):fq P f args M (Gd l) st'.m st'.mv:=by
 intro H E w vals hC hargs
 refine calls_of_wp hf hb (wp_mono (h.2 H E w _ hC ?_ rfl) ?_)
 · have hl:=aI.length hargs
   simp only [F5,Array.toList_append,Array.toList_replicate]
   have e:vals.size=args.length:=by simpa using hl
   rw [e]
   exact gV hargs (Du H E _ _)
 · rintro x' a' w' ⟨H',E',rfl,hd',hT',hC',hE'⟩
   obtain ⟨v,hrun,hrv⟩:=Km hC' hT' hr
   rcases hx with rfl | rfl
   · exact ⟨hd',v,hrun,v,H',E',rfl,hrv,hC',hE'⟩
   · exact ⟨hd',v,hrun,v,H',E',rfl,hrv,hC',hE'⟩
mutual
def z8 (g:AV->AV):AV->AV
 | .ptr i k sz o=>g (.ptr i k sz o)
 | .own i sz lo n=>g (.own i sz lo n)
 | .mref _=>.junk
 | .sl b sz n c=>.sl b sz n c
 | .ys b sz n c=>.ys b sz n c
 | .yn b sz n c=>.yn b sz n c
 | .ip b m c=>.ip b m c
 | .opt b t a=>.opt b t a
 | .agg cs=>.agg (qQ g cs)
 | .tup cs=>.tup (qQ g cs)
 | .fn f a b=>.fn f (qQ g a) (qQ g b)
 | .ifc t a=>.ifc t (z8 g a)
 | .s v=>.s v
 | .y v=>.y v
 | .junk=>.junk
def qQ (g:AV->AV):List AV->List AV
 | []=>[]
 | a::as=>z8 g a::qQ g as
end
def mapA (v:AV->AV):List AV->List AV
 | []=>[]
 | a::r=>v a::mapA v r
theorem wL {v:AV->AV} (hv:v .junk=.junk):∀ (l:List AV) (i:Nat),get (mapA v l) i=v (get l i)
 | [],i=>by cases i<;>exact hv.symm
 | a::r,0=>rfl
 | a::r,i+1=>wL hv r i
def rowAt (lo:Nat) (c:Nat->Nat->AV):Nat->Nat->AV:=match lo with
 | 0=>c
 | m+1=>fun k j=>c (m+1+k) j
theorem wI (lo:Nat) (c:Nat->Nat->AV) (k j:Nat):rowAt lo c k j=c (lo+k) j:=by
 cases lo with
 | zero=>simp [rowAt]
 | succ m=>rfl
mutual
def trV:Tr->AV
 | .av a=>a
 | .box _ _ cs=>.ip false (len cs) (get (M6 cs))
 | .row _ sz n c=>.ys false sz n fun k j=>trV (c k j)
 | .frow _ sz n c=>.ys false sz n c
def M6:List Tr->List AV
 | []=>[]
 | t::ts=>trV t::M6 ts
end
def abB (v:AV->AV) (B:aH) (sz lo n:Nat):AV :=
 match B with
 | .lst _ s2 _ _ cs=>if s2==sz then .sl false sz n (fun k j=>get (mapA v cs) ((lo+k)*sz+j)) else .junk
 | .row _ s2 _ _ c=>if s2==sz then .ys false sz n (rowAt lo c) else .junk
 | .trow _ s2 _ _ c op _=>(match op with | []=>if s2==sz then .ys false sz n (rowAt lo fun k j=>trV (c k j)) else .junk | _::_=>.junk)
 | _=>.junk
def acs (v:AV->AV) (B:aH) (k sz o:Nat):AV :=
 match B with
 | .box _ cs=>(match k with
   | 0=>if Nat.ble o (len cs) then .ip false (len cs - o) (fun j=>get (mapA v cs) (o+j)) else .junk
   | _+1=>.junk)
 | .lst _ s2 _ _ cs=>if s2==sz&&Nat.ble (k*sz+o) (len cs) then .ip false (len cs - (k*sz+o)) (fun j=>get (mapA v cs) (k*sz+o+j)) else .junk
 | _=>.junk
def Ik (v:AV->AV) (rd:Nat->aH):AV->AV
 | .own i sz lo n=>abB v (rd i) sz lo n
 | .ptr i k sz o=>acs v (rd i) k sz o
 | _=>.junk
def CB:Nat->(Nat->aH)->AV->AV
 | 0,_=>z8 fun _=>.junk
 | n+1,rd=>z8 (Ik (CB n rd) rd)
def zQ (n:Nat) (rd:Nat->aH):List AV->List AV
 | []=>[]
 | a::as=>CB n rd a::zQ n rd as
def vI (w:World):IH:=fun b=>w.heap[b]?
def adO (w:World):Prop:=∀ p∈(default:kT).hs,scalar p.2.2=true/\(vI w).cell? ⟨p.1,0,none⟩=some (.iface p.2.1 (.agg #[p.2.2]))
def HB (H:HH) (w:World):HH:=fun b=>if b then H true else vI w
theorem wE {H:HH} {w:World} (hi:∀ b o,H false b=some o->w.heap[b]? = some o):H.le (HB H w):=fun c b o h=>by
 cases c
 · exact hi b o h
 · exact h
theorem af0 {H:HH} {w:World} (hi:∀ b o,H false b=some o->w.heap[b]? = some o) (ht:(H true).le (H false)):(HB H w true).le (HB H w false):=fun b o h=>hi b o (ht b o h)
theorem jg {w:World} {a:Addr} {v:Value} (h:w.cell? a=some v):(vI w).cell? a=some v:=by
 unfold World.cell? at h
 unfold IH.cell? vI
 cases hb:w.heap[a.block]? with
 | none=>simp [hb] at h
 | some o=>rw [hb] at h;cases o<;>first | exact h | simp at h
mutual
theorem vZ:∀ (a:AV) {g:AV->AV} {H:HH} {E:Env} {w:World} {v:Value},(∀ b o,H false b=some o->w.heap[b]? = some o)->(H true).le (H false) ->
 (∀ i k sz o u,Rel (.ptr i k sz o) H E u->Rel (g (.ptr i k sz o)) (HB H w) E0 u)->(∀ i sz lo n u,Rel (.own i sz lo n) H E u->Rel (g (.own i sz lo n)) (HB H w) E0 u)->Rel a H E v->Rel (z8 g a) (HB H w) E0 v
 | .s _,_,_,_,_,_,_,_,_,_,h=>h
 | .y _,_,_,_,_,_,_,_,_,_,h=>h
 | .junk,_,_,_,_,_,_,_,_,_,_=>trivial
 | .ptr i k sz o,_,_,_,_,_,_,_,h1,_,h=>h1 i k sz o _ h
 | .own i sz lo n,_,_,_,_,_,_,_,_,h2,h=>h2 i sz lo n _ h
 | .mref _,_,_,_,_,_,_,_,_,_,_=>trivial
 | .sl b sz n c,_,_,_,_,_,hi,_,_,_,h=>Rel.mono (.sl b sz n c) (wE hi) h
 | .ys b sz n c,_,_,_,_,_,hi,_,_,_,h=>Rel.mono (.ys b sz n c) (wE hi) h
 | .yn b sz n c,_,_,_,_,_,hi,_,_,_,h=>Rel.mono (.yn b sz n c) (wE hi) h
 | .ip b m c,_,_,_,_,_,hi,_,_,_,h=>Rel.mono (.ip b m c) (wE hi) h
 | .opt b t a,_,_,_,_,_,hi,_,_,_,h=>Rel.mono (.opt b t a) (wE hi) h
 | .agg cs,_,_,_,_,_,hi,ht,h1,h2,h=>by
   obtain ⟨vs,hu,hr⟩:=h
   exact ⟨vs,hu,oD cs hi ht h1 h2 hr⟩
 | .tup cs,_,_,_,_,_,hi,ht,h1,h2,h=>by
   obtain ⟨vs,hu,hr⟩:=h
   exact ⟨vs,hu,oD cs hi ht h1 h2 hr⟩
 | .fn f a b,_,_,_,_,_,hi,ht,h1,h2,h=>by
   obtain ⟨x,y,hu,h3,h4⟩:=h
   exact ⟨x,y,hu,oD a hi ht h1 h2 h3,oD b hi ht h1 h2 h4⟩
 | .ifc t a,_,_,_,_,_,hi,ht,h1,h2,h=>by
   obtain ⟨x,hu,h3⟩:=h
   exact ⟨x,hu,vZ a hi ht h1 h2 h3⟩
theorem oD:∀ (l:List AV) {g:AV->AV} {H:HH} {E:Env} {w:World} {vs:List Value},(∀ b o,H false b=some o->w.heap[b]? = some o)->(H true).le (H false) ->
 (∀ i k sz o u,Rel (.ptr i k sz o) H E u->Rel (g (.ptr i k sz o)) (HB H w) E0 u)->(∀ i sz lo n u,Rel (.own i sz lo n) H E u->Rel (g (.own i sz lo n)) (HB H w) E0 u)->aI l H E vs->aI (qQ g l) (HB H w) E0 vs
 | [],_,_,_,_,_,_,_,_,_,h=>h
 | a::as,_,_,_,_,_,hi,ht,h1,h2,h=>by
   obtain ⟨v,r,hv,h3,h4⟩:=h
   exact ⟨v,r,hv,vZ a hi ht h1 h2 h3,oD as hi ht h1 h2 h4⟩
end
mutual
theorem KY {H:HH} {w:World} (hi:∀ b o,H false b=some o->w.heap[b]? = some o):∀ (t:Tr) {v:Value} {S:Nat->Prop},kI H (fun b=>w.heap[b]?) t v S->Rel (trV t) (HB H w) E0 v
 | .av a,_,_,h=>Rel.mono a (wE hi) h
 | .box ty sz cs,_,_,h=>by
   obtain ⟨b,vs,rfl,h2,h3,h4,h5⟩:=h
   have h6:=Mk hi cs h5
   have hlen:=aI.length h6
   have hll:(M6 cs).length=len cs:=by rw [<- GV cs,len_eq]
   refine ⟨_,rfl,fun j hj=>?_⟩
   have hlt:j<vs.toList.length:=by omega
   refine ⟨vs.toList[j],?_,h4 _ (List.getElem_mem hlt),bK h6 _ _ (List.getElem?_eq_getElem hlt)⟩
   rw [addr_add]
   refine jg ?_
   rw [cell_of_row w b _ vs ty (0,0) h3]
   simp at hlt ⊢
 | .row ty sz n c,_,_,h=>by
   obtain ⟨κ,h1,h2,⟨rfl,rfl,rfl⟩ | ⟨b,vs,rfl,h4,h5,h6,h7,F,h8,h9,h10⟩⟩:=h
   · exact ⟨none,0,rfl,⟨Nat.le_refl _,fun _=>rfl⟩,fun h=>by omega⟩
   · refine ⟨_,_,rfl,⟨h1,fun h=>by cases h⟩,fun _=>⟨_,rfl,fun k hk j hj=>?_⟩⟩
     obtain ⟨x,g1,g2⟩:=h10 k hk j hj
     refine ⟨x,?_,h6 x ?_,KY hi (c k j) g2⟩
     · rw [addr_add]
       refine jg ?_
       rw [cell_of_row w b _ vs ty (0,0) h5]
       simpa using g1
     · have hle:(k+1)*sz<=n*sz:=Nat.mul_le_mul_right _ hk
       rw [Nat.add_mul,Nat.one_mul] at hle
       exact List.mem_iff_getElem?.2 ⟨k*sz+j,by rw [List.getElem?_take,if_pos (by omega)];simpa using g1⟩
 | .frow ty sz n c,_,_,h=>by
   obtain ⟨κ,h1,h2,⟨rfl,rfl,rfl⟩ | ⟨b,vs,rfl,h4,h5,h6,h7,h10⟩⟩:=h
   · exact ⟨none,0,rfl,⟨Nat.le_refl _,fun _=>rfl⟩,fun h=>by omega⟩
   · refine ⟨_,_,rfl,⟨h1,fun h=>by cases h⟩,fun _=>⟨_,rfl,fun k hk j hj=>?_⟩⟩
     obtain ⟨x,g1,g2⟩:=h10 k hk j hj
     refine ⟨x,?_,h6 x ?_,Rel.mono _ (wE hi) g2⟩
     · rw [addr_add]
       refine jg ?_
       rw [cell_of_row w b _ vs ty (0,0) h5]
       simpa using g1
     · have hle:(k+1)*sz<=n*sz:=Nat.mul_le_mul_right _ hk
       rw [Nat.add_mul,Nat.one_mul] at hle
       exact List.mem_iff_getElem?.2 ⟨k*sz+j,by rw [List.getElem?_take,if_pos (by omega)];simpa using g1⟩
theorem Mk {H:HH} {w:World} (hi:∀ b o,H false b=some o->w.heap[b]? = some o):∀ (l:List Tr) {vs:List Value} {S:Nat->Prop},lK H (fun b=>w.heap[b]?) l vs S->aI (M6 l) (HB H w) E0 vs
 | [],_,_,h=>h
 | t::ts,_,_,h=>by
   obtain ⟨v,r,S1,S2,rfl,_,_,_,h5,h6⟩:=h
   exact ⟨v,r,rfl,KY hi t h5,Mk hi ts h6⟩
theorem GV:∀ l:List Tr,len (M6 l)=len l
 | []=>rfl
 | _::ts=>by simp [M6,len,GV ts]
end
theorem uy (n:Nat) (rd:Nat->aH):CB n rd .junk=.junk:=by cases n<;>rfl
theorem ze {H:HH} {E:Env} {w:World} {M:List aH} {rd:Nat->aH} (hC:Conc H E w M) (hrd:∀ i,rd i=.dead∨rd i=getM M i):∀ (n:Nat) {a:AV} {v:Value},Rel a H E v->Rel (CB n rd a) (HB H w) E0 v
 | 0,a,v,h=>vZ a hC.imm hC.tf.1 (fun _ _ _ _ _ _=>trivial) (fun _ _ _ _ _ _=>trivial) h
 | n+1,a,v,h=>by
   refine vZ a hC.imm hC.tf.1 (fun i k sz o u hu=>?_) (fun i sz lo m u hu=>?_) h
   · obtain ⟨hl,b,hb,rfl⟩:=hu
     have hB:rd i≠.dead->dZ H E w i (rd i):=fun hne=>by
      rcases hrd i with h | h
      · exact absurd h hne
      · rw [h];exact hC.blk i
     show Rel (acs (CB n rd) (rd i) k sz o) _ _ _
     unfold acs
     split
     · rename_i ty cs hg
       cases k with
       | succ k=>trivial
       | zero=>?_
       show Rel (if Nat.ble o (len cs) then _ else _) _ _ _
       split
       · rename_i hle
         rw [hg] at hB
         have hB:=hB (by simp)
         obtain ⟨_,b',vs,h1,h2,h3,h4⟩:=hB
         rw [hb] at h1;cases h1
         have hlen:=aI.length h4
         refine ⟨_,rfl,fun j hj=>?_⟩
         rw [len_eq] at hj
         simp only [len_eq,Nat.ble_eq] at hle
         have hlt:o+j<vs.toList.length:=by omega
         refine ⟨vs.toList[o+j],?_,h3 _ (List.getElem_mem hlt),by simp only [wL (uy n rd)];exact ze hC hrd n (bK h4 _ _ (List.getElem?_eq_getElem hlt))⟩
         rw [Nat.zero_mul,Nat.zero_add,addr_add]
         refine jg ?_
         rw [cell_of_row w b _ vs ty (0,0) h2]
         simp at hlt ⊢
       · trivial
     · rename_i ty s2 m cap cs hg
       split
       · rename_i hle
         simp only [Bool.and_eq_true,beq_iff_eq,Nat.ble_eq,len_eq] at hle
         obtain ⟨rfl,hle⟩:=hle
         rw [hg] at hB
         have hB:=hB (by simp)
         obtain ⟨_,h0,_,_,h1⟩:=hB
         rw [hb] at h1
         obtain ⟨vs,h2,h3,h5,h4⟩:=h1
         have hlen:=aI.length h4
         refine ⟨_,rfl,fun j hj=>?_⟩
         rw [len_eq] at hj
         have hlt:k*s2+o+j<(vs.toList.take (m*s2)).length:=by omega
         refine ⟨(vs.toList.take (m*s2))[k*s2+o+j],?_,h3 _ (List.getElem_mem hlt),by simp only [wL (uy n rd)];exact ze hC hrd n (bK h4 _ _ (List.getElem?_eq_getElem hlt))⟩
         rw [addr_add]
         refine jg ?_
         rw [cell_of_row w b _ vs ty (0,0) h2]
         simp at hlt ⊢
       · trivial
     · trivial
   · obtain ⟨hl,hη,hm⟩:=hu
     have hB:rd i≠.dead->dZ H E w i (rd i):=fun hne=>by
      rcases hrd i with h | h
      · exact absurd h hne
      · rw [h];exact hC.blk i
     show Rel (abB (CB n rd) (rd i) sz lo m) _ _ _
     unfold abB
     split
     · rename_i ty s2 q cap cs hg
       split
       · rename_i hs
         have hs:s2=sz:=by simpa using hs
         subst hs
         rw [hg] at hB
         have hB:=hB (by simp)
         obtain ⟨_,h0,_,_,h1⟩:=hB
         cases hι:E.ι i with
         | none =>
           rw [hι] at hm
           obtain ⟨_,rfl,rfl⟩:=hm
           exact ⟨none,0,rfl,⟨Nat.le_refl _,fun _=>rfl⟩,fun h=>by omega⟩
         | some b =>
           rw [hι] at hm h1
           obtain ⟨ad,rfl,had⟩:=hm
           obtain ⟨vs,h2,h3,h5,h4⟩:=h1
           refine ⟨ad,_,rfl,⟨by omega,fun h0=>?_⟩,fun hpos=>⟨_,had.1 (.inr hpos),fun k hk j hj=>?_⟩⟩
           · exact absurd h0 had.2
           have hq:(lo+k+1)*s2<=q*s2:=Nat.mul_le_mul_right _ (by omega)
           have hqκ:q*s2<=E.κ i*s2:=Nat.mul_le_mul_right _ h0.2
           rw [Nat.add_mul,Nat.one_mul] at hq
           have hvl:vs.toList.length=E.κ i*s2:=by simpa using h5
           have hlt:(lo+k)*s2+j<(vs.toList.take (q*s2)).length:=by rw [List.length_take];omega
           refine ⟨(vs.toList.take (q*s2))[(lo+k)*s2+j],?_,h3 _ (List.getElem_mem hlt),by simp only [wL (uy n rd)];exact ze hC hrd n (bK h4 _ _ (List.getElem?_eq_getElem hlt))⟩
           rw [addr_add,<- Nat.add_assoc,<- Nat.add_mul]
           refine jg ?_
           rw [cell_of_row w b _ vs ty (0,0) h2]
           simp at hlt ⊢
       · trivial
     · rename_i ty s2 q cap c hg
       split
       · rename_i hs
         have hs:s2=sz:=by simpa using hs
         subst hs
         rw [hg] at hB
         have hB:=hB (by simp)
         obtain ⟨_,h0,_,_,h1⟩:=hB
         cases hι:E.ι i with
         | none =>
           rw [hι] at hm
           obtain ⟨_,rfl,rfl⟩:=hm
           exact ⟨none,0,rfl,⟨Nat.le_refl _,fun _=>rfl⟩,fun h=>by omega⟩
         | some b =>
           rw [hι] at hm h1
           obtain ⟨ad,rfl,had⟩:=hm
           obtain ⟨vs,h2,h3,h5,h4⟩:=h1
           refine ⟨ad,_,rfl,⟨by omega,fun h0=>?_⟩,fun hpos=>⟨_,had.1 (.inr hpos),fun k hk j hj=>?_⟩⟩
           · exact absurd h0 had.2
           obtain ⟨x,hx,hrx⟩:=h4 (lo+k) (by omega) j hj
           have hq:(lo+k+1)*s2<=q*s2:=Nat.mul_le_mul_right _ (by omega)
           rw [Nat.add_mul,Nat.one_mul] at hq
           refine ⟨x,?_,h3 x ?_,by rw [wI];exact Rel.mono _ (wE hC.imm) hrx⟩
           · rw [addr_add,<- Nat.add_assoc,<- Nat.add_mul]
             refine jg ?_
             rw [cell_of_row w b _ vs ty (0,0) h2]
             exact hx
           · refine List.mem_iff_getElem?.2 ⟨(lo+k)*s2+j,?_⟩
             rw [List.getElem?_take,if_pos (by omega)]
             simpa using hx
       · trivial
     · rename_i ty s2 q cap c op zs hg
       split
       case h_2=>trivial
       split
       · rename_i hs
         have hs:s2=sz:=by simpa using hs
         subst hs
         rw [hg] at hB
         have hB:=hB (by simp)
         obtain ⟨_,h0,_,_,h1⟩:=hB
         cases hι:E.ι i with
         | none =>
           rw [hι] at hm
           obtain ⟨_,rfl,rfl⟩:=hm
           exact ⟨none,0,rfl,⟨Nat.le_refl _,fun _=>rfl⟩,fun h=>by omega⟩
         | some b =>
           rw [hι] at hm h1
           obtain ⟨ad,rfl,had⟩:=hm
           obtain ⟨_,vs,F,h2,h4⟩:=h1
           refine ⟨ad,_,rfl,⟨by omega,fun h0=>?_⟩,fun hpos=>⟨_,had.1 (.inr hpos),fun k hk j hj=>?_⟩⟩
           · exact absurd h0 had.2
           obtain ⟨x,hx,hrx⟩:=h4.tr (lo+k) (by omega) (fun p hp=>by cases hp) j hj
           have hq:(lo+k+1)*s2<=q*s2:=Nat.mul_le_mul_right _ (by omega)
           rw [Nat.add_mul,Nat.one_mul] at hq
           refine ⟨x,?_,h4.one x ?_,by rw [wI];exact KY hC.imm _ hrx⟩
           · rw [addr_add,<- Nat.add_assoc,<- Nat.add_mul]
             refine jg ?_
             rw [cell_of_row w b _ vs ty (0,0) h2]
             simpa using hx
           · refine List.mem_iff_getElem?.2 ⟨(lo+k)*s2+j,?_⟩
             rw [List.getElem?_take,if_pos (by omega)]
             simpa using hx
       · trivial
     · trivial
theorem Hl {H:HH} {E:Env} {w:World} {M:List aH} {rd:Nat->aH} (hC:Conc H E w M) (hrd:∀ i,rd i=.dead∨rd i=getM M i) (n:Nat):∀ {l:List AV} {vs:List Value},aI l H E vs->aI (zQ n rd l) (HB H w) E0 vs
 | [],_,h=>h
 | _::_,_,h=>by
   obtain ⟨v,r,hv,h1,h2⟩:=h
   exact ⟨v,r,hv,ze hC hrd n h1,Hl hC hrd n h2⟩
mutual
def dK:AV->Bool
 | .sl b _ _ _=>b
 | .ys b _ _ _=>b
 | .yn b _ _ _=>b
 | .ip b _ _=>b
 | .agg cs=>jA cs
 | .tup cs=>jA cs
 | .fn _ a b=>jA a&&jA b
 | .ifc _ a=>dK a
 | .opt _ _ a=>dK a
 | _=>true
def jA:List AV->Bool
 | []=>true
 | a::as=>dK a&&jA as
end
mutual
theorem Rel.tag:∀ (a:AV) {H:HH} {E:Env} {v:Value},dK a=true->Rel a H E v->Rel a (fun _=>H true) E v
 | .s _,_,_,_,_,h=>h
 | .y _,_,_,_,_,h=>h
 | .junk,_,_,_,_,_=>trivial
 | .ptr ..,_,_,_,_,h=>h
 | .own ..,_,_,_,_,h=>h
 | .mref ..,_,_,_,_,h=>h
 | .yn b _ _ _,_,_,_,ht,h=>by
   simp only [dK] at ht
   subst ht
   exact h
 | .ys b _ _ _,_,_,_,ht,h=>by
   simp only [dK] at ht
   subst ht
   exact h
 | .sl b _ _ _,_,_,_,ht,h=>by
   simp only [dK] at ht
   subst ht
   exact h
 | .ip b _ _,_,_,_,ht,h=>by
   simp only [dK] at ht
   subst ht
   exact h
 | .agg cs,_,_,_,ht,h=>by
   obtain ⟨vs,hu,hr⟩:=h
   exact ⟨vs,hu,aI.tag cs ht hr⟩
 | .tup cs,_,_,_,ht,h=>by
   obtain ⟨vs,hu,hr⟩:=h
   exact ⟨vs,hu,aI.tag cs ht hr⟩
 | .fn f a b,_,_,_,ht,h=>by
   obtain ⟨x,y,hu,h1,h2⟩:=h
   simp [dK] at ht
   exact ⟨x,y,hu,aI.tag a ht.1 h1,aI.tag b ht.2 h2⟩
 | .ifc t a,_,_,_,ht,h=>by
   obtain ⟨x,hu,h1⟩:=h
   exact ⟨x,hu,Rel.tag a ht h1⟩
 | .opt b t a,_,_,_,ht,h=>⟨fun hb=>by
   obtain ⟨x,hu,h1⟩:=h.1 hb
   exact ⟨x,hu,Rel.tag a ht h1⟩,h.2⟩
theorem aI.tag:∀ (l:List AV) {H:HH} {E:Env} {vs:List Value},jA l=true->aI l H E vs->aI l (fun _=>H true) E vs
 | [],_,_,_,_,h=>h
 | a::as,_,_,_,ht,h=>by
   obtain ⟨v,r,hv,h1,h2⟩:=h
   simp [jA] at ht
   exact ⟨v,r,hv,Rel.tag a ht.1 h1,aI.tag as ht.2 h2⟩
end
def WL:aH->Bool
 | .box _ cs=>jA cs
 | .lst _ _ _ _ cs=>jA cs
 | .row ..=>false
 | .mp es _=>jA (es.map fun e=>e.2.1)
 | .mi ..=>true
 | .mit ..=>true
 | .tmap ..=>false
 | .trow ..=>false
 | .any=>true
 | .dead=>true
mutual
def VU:Tr->Prop
 | .av a=>dK a=true
 | .box _ _ cs=>BP cs
 | .row _ sz n c=>∀ k,k<n->∀ j,j<sz->VU (c k j)
 | .frow _ sz n c=>∀ k,k<n->∀ j,j<sz->dK (c k j)=true
def BP:List Tr->Prop
 | []=>True
 | t::ts=>VU t/\BP ts
end
mutual
theorem kI.tag {H:HH} {hp:Nat->Option Obj}:∀ (t:Tr) {v:Value} {S:Nat->Prop},VU t->kI H hp t v S->kI (fun _=>H true) hp t v S
 | .av a,_,_,ht,h=>Rel.tag a (by simpa only [VU] using ht) h
 | .box ty sz cs,_,_,ht,h=>by
   simp only [VU] at ht
   obtain ⟨b,vs,h1,h2,h3,h4,h5⟩:=h
   exact ⟨b,vs,h1,h2,h3,h4,lK.tag cs ht h5⟩
 | .row ty sz n c,_,_,ht,h=>by
   simp only [VU] at ht
   obtain ⟨κ,h1,h2,h3 | ⟨b,vs,h3,h4,h5,h6,h7,F,h8,h9,h10⟩⟩:=h
   · exact ⟨κ,h1,h2,.inl h3⟩
   · refine ⟨κ,h1,h2,.inr ⟨b,vs,h3,h4,h5,h6,h7,F,h8,h9,fun k hk j hj=>?_⟩⟩
     obtain ⟨x,g1,g2⟩:=h10 k hk j hj
     exact ⟨x,g1,kI.tag (c k j) (ht k hk j hj) g2⟩
 | .frow ty sz n c,_,_,ht,h=>by
   simp only [VU] at ht
   obtain ⟨κ,h1,h2,h3 | ⟨b,vs,h3,h4,h5,h6,h7,h10⟩⟩:=h
   · exact ⟨κ,h1,h2,.inl h3⟩
   · refine ⟨κ,h1,h2,.inr ⟨b,vs,h3,h4,h5,h6,h7,fun k hk j hj=>?_⟩⟩
     obtain ⟨x,g1,g2⟩:=h10 k hk j hj
     exact ⟨x,g1,Rel.tag _ (ht k hk j hj) g2⟩
theorem lK.tag {H:HH} {hp:Nat->Option Obj}:∀ (l:List Tr) {vs:List Value} {S:Nat->Prop},BP l->lK H hp l vs S->lK (fun _=>H true) hp l vs S
 | [],_,_,_,h=>h
 | t::ts,_,_,ht,h=>by
   simp only [BP] at ht
   obtain ⟨v,r,S1,S2,h1,h2,h3,h4,h5,h6⟩:=h
   exact ⟨v,r,S1,S2,h1,h2,h3,h4,kI.tag t ht.1 h5,lK.tag ts ht.2 h6⟩
end
def gN (c:Nat->Tr):Nat->Nat->List Tr
 | _,0=>[]
 | o,n+1=>c o::gN c (o+1) n
theorem Ja {c:Nat->Tr}:∀ {n o:Nat},BP (gN c o n)->∀ j,j<n->VU (c (o+j))
 | n+1,o,h,0,_=>by
   simp only [gN,BP] at h
   exact h.1
 | n+1,o,h,j+1,hj=>by
   simp only [gN,BP] at h
   have:=Ja h.2 j (by omega)
   rwa [show o+1+j=o+(j+1) by omega] at this
theorem MX {c:Nat->Tr} {n:Nat} (h:BP (gN c 0 n)) (j:Nat) (hj:j<n):VU (c j):=by
 have:=Ja h j hj
 rwa [Nat.zero_add] at this
def Uv:List (Nat×List AV)->Prop
 | []=>True
 | p::r=>jA p.2=true/\Uv r
theorem IU:∀ {l:List (Nat×List AV)},Uv l->∀ p∈l,jA p.2=true
 | q::r,h,p,hp=>by
   rcases List.mem_cons.1 hp with rfl | hp
   · exact h.1
   · exact IU h.2 p hp
def F7:aH->Prop
 | .row _ sz n _ c=>∀ k,k<n->∀ j,j<sz->dK (c k j)=true
 | .trow _ sz n _ c op _=>Uv op/\∀ k,k<n->BP (gN (c k) 0 sz)
 | B=>WL B=true
theorem dZ.tag {H:HH} {E:Env} {w:World} {i:Nat} {B:aH} (ht:F7 B) (h:dZ H E w i B):dZ (fun _=>H true) E w i B:=by
 cases B with
 | dead=>exact h
 | mp es ck =>
   obtain ⟨h0,b,ms,h1,h2,h3,h4⟩:=h
   exact ⟨h0,b,ms,h1,h2,h3,aI.tag _ ht h4⟩
 | mi kk vk has c=>exact h
 | mit m since seen last=>exact h
 | any=>exact h
 | tmap q has c n kn=>exact absurd ht (by simp [F7,WL])
 | trow ty sz n cap c op zs =>
   obtain ⟨h0,ha,hb,hc,h1⟩:=h
   refine ⟨h0,ha,hb,hc,?_⟩
   cases hι:E.ι i with
   | none=>rw [hι] at h1;exact h1
   | some b =>
     rw [hι] at h1
     obtain ⟨hs,vs,F,h2,h4⟩:=h1
     exact ⟨hs,vs,F,h2,h4.one,h4.size,h4.own,h4.sep,h4.lt,h4.once,fun p hp=>aI.tag _ (IU ht.1 p hp) (h4.known p hp),fun k hk hn j hj=>by
      obtain ⟨x,g1,g2⟩:=h4.tr k hk hn j hj
      exact ⟨x,g1,kI.tag _ (MX (ht.2 k hk) j hj) g2⟩,h4.spare⟩
 | box ty cs =>
   obtain ⟨h0,b,vs,h1,h2,h3,h4⟩:=h
   exact ⟨h0,b,vs,h1,h2,h3,aI.tag cs ht h4⟩
 | lst ty sz n cap cs =>
   obtain ⟨h0,ha,hb,hc,h1⟩:=h
   refine ⟨h0,ha,hb,hc,?_⟩
   cases hι:E.ι i with
   | none=>rw [hι] at h1;exact h1
   | some b =>
     rw [hι] at h1
     obtain ⟨vs,h2,h3,h4,h5⟩:=h1
     exact ⟨vs,h2,h3,h4,aI.tag cs ht h5⟩
 | row ty sz n cap c =>
   obtain ⟨h0,ha,hb,hc,h1⟩:=h
   refine ⟨h0,ha,hb,hc,?_⟩
   cases hι:E.ι i with
   | none=>rw [hι] at h1;exact h1
   | some b =>
     rw [hι] at h1
     obtain ⟨vs,h2,h3,h4,h5⟩:=h1
     refine ⟨vs,h2,h3,h4,fun k hk j hj=>?_⟩
     obtain ⟨x,hx,hr⟩:=h5 k hk j hj
     exact ⟨x,hx,Rel.tag _ (ht k hk j hj) hr⟩
def shift (s i:Nat):Option Nat:=some (i+s)
def place:List aH->Nat->Nat->List aH->List aH
 | M,_,_,[]=>M
 | M,p,s,B::r=>place (kK M p (gG (shift s) B)) (p+1) s r
theorem zG:∀ (L M:List aH) (p s j:Nat),getM (place M p s L) j=if p<=j/\j<p+len L then gG (shift s) (getM L (j - p)) else getM M j
 | [],M,p,s,j=>by
   have h:¬ (p<=j/\j<p+len ([]:List aH)):=by simp [len]
   rw [if_neg h];rfl
 | B::r,M,p,s,j=>by
   simp only [place]
   rw [zG r]
   by_cases h1:p=j
   · subst h1
     rw [if_neg (by omega),b_,if_pos ⟨Nat.le_refl _,by simp [len]⟩]
     simp [getM]
   · by_cases h2:p+1<=j/\j<p+1+len r
     · rw [if_pos h2,if_pos (by simp [len];omega)]
       obtain ⟨m,rfl⟩:∃ m,j=p+1+m:=⟨j - (p+1),by omega⟩
       have e1:p+1+m - (p+1)=m:=by omega
       have e2:p+1+m - p=m+1:=by omega
       rw [e1,e2];rfl
     · rw [if_neg h2,if_neg (by simp [len];omega),dh _ _ _ _ h1]
theorem Conc.K4 {H:HH} {E:Env} {w:World} {M:List aH} (h:Conc H E w M) {i:Nat} (hl:E.lv i=true):i<len M:=by
 rcases Nat.lt_or_ge i (len M) with h1 | h1
 · exact h1
 · have:=h.blk i
   rw [mZ M i h1] at this
   rw [show E.lv i=false from this] at hl;cases hl
def Env.join (E E1:Env) (s n:Nat):Env :=
 ⟨fun j=>if s<=j/\j<s+n then E1.lv (j - s) else E.lv j,fun j=>if s<=j/\j<s+n then E1.ι (j - s) else E.ι j,
  fun j=>if s<=j/\j<s+n then E1.κ (j - s) else E.κ j,fun j=>if s<=j/\j<s+n then E1.η (j - s) else E.η j,
  fun j x=>if s<=j/\j<s+n then E1.σ (j - s) x else E.σ j x⟩
theorem Env.ME (E E1:Env) (s n j:Nat) (h:s<=j/\j<s+n):(E.join E1 s n).lv j=E1.lv (j - s)/\(E.join E1 s n).ι j=E1.ι (j - s)/\(E.join E1 s n).κ j=E1.κ (j - s)/\(E.join E1 s n).η j=E1.η (j - s):=by
 simp [Env.join,h]
theorem Env.Jb (E E1:Env) (s n j:Nat) (h:¬ (s<=j/\j<s+n)):(E.join E1 s n).lv j=E.lv j/\(E.join E1 s n).ι j=E.ι j/\(E.join E1 s n).κ j=E.κ j/\(E.join E1 s n).η j=E.η j:=by
 unfold Env.join;exact ⟨if_neg h,if_neg h,if_neg h,if_neg h⟩
theorem Env.qF {E E1:Env} {s n j x:Nat} (h:(E.join E1 s n).has j x):(¬ (s<=j/\j<s+n)/\E.has j x)∨((s<=j/\j<s+n)/\E1.has (j - s) x):=by
 by_cases hj:s<=j/\j<s+n
 · simp only [Env.has,Env.join,if_pos hj] at h
   exact .inr ⟨hj,h⟩
 · simp only [Env.has,Env.join,if_neg hj] at h
   exact .inl ⟨hj,h⟩
theorem zF {Hs H H1 H2:HH} {E E1:Env} {w w1:World} {M M2:List aH} {mv:List Nat} {nid:Nat} (hC:Conc H E w M) (hC1:Conc H1 E1 w1 M2) (hE:cO mv Hs E0 w H1 E1 w1) (h12:H.le H2) (htf:(H2 true).le (H2 false))
 (himm:∀ b o,H2 false b=some o->w1.heap[b]? = some o) (hnew:∀ c b o,H2 c b=some o->H c b=some o∨(w.heap.size<=b/\∃ c',H1 c' b=some o))
 (hblk:∀ i,dZ H2 E1 w1 i (getM M2 i)) (hd:∀ k,k<len M2->getM M (nid+k)=.dead) :
 E1.via (E.join E1 nid (len M2)) (shift nid)/\Conc H2 (E.join E1 nid (len M2)) w1 (place M nid nid M2)/\cO [] H E w H2 (E.join E1 nid (len M2)) w1:=by
 have hkeep:∀ b,b<w.heap.size->w1.heap[b]? = w.heap[b]?:=fun b hb=>hE.keep b hb fun i hl=>o_ hl
 have hown1:∀ i b,E1.has i b->w.heap.size<=b:=fun i b hl=>by
  rcases hE.own i b hl with ⟨j,hj⟩ | h
  · exact (o_ hj).elim
  · exact h
 have hout:∀ j,E.lv j=true->¬ (nid<=j/\j<nid+len M2):=by
  intro j hl ⟨h1,h2⟩
  have h3:=hd (j - nid) (by omega)
  rw [show nid+(j - nid)=j from by omega] at h3
  have:=hC.blk j
  rw [h3] at this
  rw [show E.lv j=false from this] at hl;cases hl
 have hvia1:E1.via (E.join E1 nid (len M2)) (shift nid):=by
  intro i j hij hl
  cases hij
  have hlt:=hC1.K4 hl
  obtain ⟨e1,e2,e3,e4⟩:=E.ME E1 nid (len M2) (i+nid) ⟨by omega,by omega⟩
  rw [Nat.add_sub_cancel] at e1 e2 e3 e4
  exact ⟨e1.trans hl,e2,e3,e4⟩
 have hvia:E.via (E.join E1 nid (len M2)) some:=by
  intro i j hij hl
  cases hij
  obtain ⟨e1,e2,e3,e4⟩:=E.Jb E1 nid (len M2) i (hout i hl)
  exact ⟨e1.trans hl,e2,e3,e4⟩
 refine ⟨hvia1,⟨himm,hC.tf.up h12 htf,fun j=>?_,fun i j b hi hj=>?_,fun i b hi=>?_,fun i b hi hib=>?_⟩,⟨hE.os,hE.tape,hE.output,hE.size,fun b hb _=>hkeep b hb,fun j b hl=>?_,h12,fun c b o ho=>?_,fun i hl _=>hvia i i rfl hl⟩⟩
 · rw [zG]
   by_cases h:nid<=j/\j<nid+len M2
   · rw [if_pos h]
     obtain ⟨e1,e2,e3,e4⟩:=E.ME E1 nid (len M2) j h
     exact (hblk (j - nid)).move (HH.le_refl _) hvia1 e1 e2 e3 e4 (fun b=>by simp [Env.join,h]) fun _ _=>rfl
   · rw [if_neg h]
     obtain ⟨e1,e2,e3,e4⟩:=E.Jb E1 nid (len M2) j h
     have:=(hC.blk j).move (f:=some) (w':=w1) (i':=j) h12 hvia e1 e2 e3 e4 (fun b=>by simp only [Env.join,if_neg h]) fun b hb=>hkeep b (hC.qy hb)
     rwa [fI] at this
 · rcases Env.qF hi with ⟨_,a1⟩ | ⟨h1,a1⟩<;>rcases Env.qF hj with ⟨_,b1⟩ | ⟨h2,b1⟩
   · exact hC.injH i j b a1 b1
   · have:=hC.qy a1;have:=hown1 _ b b1;omega
   · have:=hC.qy b1;have:=hown1 _ b a1;omega
   · have:=hC1.injH _ _ b a1 b1;omega
 · cases hx:H2 false b with
   | none=>rfl
   | some o =>
     rcases Env.qF hi with ⟨_,a1⟩ | ⟨_,a1⟩
     · rcases hnew false b o hx with h | ⟨h,_⟩
       · rw [hC.sepH i b a1] at h;cases h
       · have:=hC.qy a1;omega
     · have hge:=hown1 _ b a1
       rcases hnew false b o hx with h | ⟨_,c',h⟩
       · have:=IH.vU hC.imm h;omega
       · have h':H1 false b=some o:=by cases c';exact h;exact hC1.tf.1 b o h
         rw [hC1.sepH _ b a1] at h';cases h'
 · rcases Env.qF ⟨hi,.inr hib⟩ with ⟨_,a1⟩ | ⟨_,a1⟩
   · have:=hC.qy a1;have:=hE.size;omega
   · exact hC1.qy a1
 · rcases Env.qF hl with ⟨_,a1⟩ | ⟨_,a1⟩
   · exact .inl ⟨j,a1⟩
   · exact .inr (hown1 _ b a1)
 · rcases hnew c b o ho with h | ⟨h,_⟩
   · exact .inl h
   · exact .inr (.inl h)
theorem Aq {H:HH} {w:World} (hi:∀ b o,H false b=some o->w.heap[b]? = some o) (ht:HOk H):Conc H E0 w [] :=
 ⟨hi,ht,fun i=>by rw [dY];rfl,fun i j b h=>(o_ h).elim,fun i b h=>(o_ h).elim,fun i b h=>by simp [E0] at h⟩
def Rj:List aH->Prop
 | []=>True
 | B::r=>(match B with | .row _ sz n _ c=>∀ k,k<n->∀ j,j<sz->dK (c k j)=true | .trow _ sz n _ c op _=>Uv op/\∀ k,k<n->BP (gN (c k) 0 sz) | B=>WL B=true)/\Rj r
theorem Ck:∀ {M:List aH},Rj M->∀ i,F7 (getM M i)
 | [],_,i=>by rw [dY];exact (rfl:WL .dead=true)
 | B::r,h,0=>by
   have:=h.1
   show F7 B
   cases B<;>exact this
 | B::r,h,i+1=>Ck h.2 i
theorem fq.borrow {P:Program} {f:FuncId} {n nid:Nat} {args:List AV} {M M2:List aH} {r:AV} {mv:List Nat} {rd:Nat->aH} (hrd:∀ i,rd i=.dead∨rd i=getM M i) (h:fq P f (zQ n rd args) [] r M2 mv) (ht:dK r=true) (hb:∀ i,F7 (getM M2 i))
 (hd:∀ k,k<len M2->getM M (nid+k)=.dead):fq P f args M (ren (shift nid) r) (place M nid nid M2) []:=by
 intro H E w vals hC hargs
 refine (h (HB H w) E0 w vals (Aq (fun b o hb=>hb) (hC.tf.up (wE hC.imm) (af0 hC.imm hC.tf.1))) (Hl hC hrd n hargs)).mono ?_
 rintro e w1 ⟨v,H1,E1,rfl,hr,hC1,hE1⟩
 have hH1:∀ b o,H1 true b=some o->H true b=some o∨w.heap.size<=b:=fun b o hbo=>by
  rcases hE1.new true b o hbo with h | h | ⟨i,hi⟩
  · exact .inl h
  · exact .inr h
  · exact (o_ hi).elim
 let H2:HH:=fun c b=>match H c b with | some o=>some o | none=>H1 true b
 have h12:H.le H2:=fun c b o ho=>by show (match H c b with | some o=>some o | none=>H1 true b)=some o;rw [ho]
 have h1t:HH.le (fun _=>H1 true) H2:=fun c b o ho=>by
  show (match H c b with | some o=>some o | none=>H1 true b)=some o
  cases hx:H c b with
  | none=>exact ho
  | some o' =>
    have hx':H false b=some o':=by cases c;exact hx;exact hC.tf.1 b o' hx
    rcases hH1 b o ho with h | h
    · have:=hC.tf.1 b o h
      rw [hx'] at this
      exact this
    · have:=IH.vU hC.imm hx'
      omega
 have hsplit:∀ c b o,H2 c b=some o->H c b=some o∨H1 true b=some o:=fun c b o ho=>by
  have ho:(match H c b with | some o=>some o | none=>H1 true b)=some o:=ho
  cases hx:H c b with
  | none=>rw [hx] at ho;exact .inr ho
  | some o'=>rw [hx] at ho;exact .inl ho
 have hkeep:∀ b,b<w.heap.size->w1.heap[b]? = w.heap[b]?:=fun b hb=>hE1.keep b hb fun i hl=>o_ hl
 obtain ⟨g1,g2,g3⟩:=zF (H2:=H2) (nid:=nid) hC hC1 hE1 h12 (fun b o ho=>by
  rcases hsplit true b o ho with h | h
  · exact h12 false b o (hC.tf.1 b o h)
  · exact h1t false b o h) (fun b o ho=>by
  rcases hsplit false b o ho with h | h
  · rw [hkeep b (IH.vU hC.imm h)];exact hC.imm b o h
  · exact hC1.imm b o (hC1.tf.1 b o h)) (fun c b o ho=>by
  rcases hsplit c b o ho with h | h
  · exact .inl h
  · rcases hH1 b o h with h' | h'
    · left
      cases c
      · exact hC.tf.1 b o h'
      · exact h'
    · exact .inr ⟨h',true,h⟩) (fun i=>by
  have:=((hC1.blk i).tag (hb i)).move (f:=some) (E':=E1) (w':=w1) (i':=i) h1t (fun a c hc hl=>by cases hc;exact ⟨hl,rfl,rfl,rfl⟩) rfl rfl rfl rfl (fun _=>Iff.rfl) fun _ _=>rfl
  rwa [fI] at this) hd
 exact ⟨v,H2,_,rfl,Rel.mono _ h1t (Rel.ren _ g1 (Rel.tag _ ht hr)),g2,g3⟩
mutual
theorem wm:∀ (a:AV) {g:AV->AV} {H:HH} {E:Env} {v:Value},(H true).le (H false)->fK a=true->Rel a H E v->Rel (z8 g a) H E0 v
 | .s _,_,_,_,_,_,_,h=>h
 | .y _,_,_,_,_,_,_,h=>h
 | .junk,_,_,_,_,_,_,_=>trivial
 | .ptr ..,_,_,_,_,_,h,_=>by simp [Go.Ax.fK] at h
 | .own ..,_,_,_,_,_,h,_=>by simp [Go.Ax.fK] at h
 | .sl ..,_,_,_,_,_,_,h=>h
 | .ys ..,_,_,_,_,_,_,h=>h
 | .yn ..,_,_,_,_,_,_,h=>h
 | .ip ..,_,_,_,_,_,_,h=>h
 | .opt ..,_,_,_,_,_,_,h=>h
 | .agg cs,_,_,_,_,ht,hn,h=>by
   obtain ⟨vs,hu,hr⟩:=h
   exact ⟨vs,hu,oC cs ht hn hr⟩
 | .tup cs,_,_,_,_,ht,hn,h=>by
   obtain ⟨vs,hu,hr⟩:=h
   exact ⟨vs,hu,oC cs ht hn hr⟩
 | .fn f a b,_,_,_,_,ht,hn,h=>by
   obtain ⟨x,y,hu,h1,h2⟩:=h
   simp [Go.Ax.fK] at hn
   exact ⟨x,y,hu,oC a ht hn.1 h1,oC b ht hn.2 h2⟩
 | .ifc t a,_,_,_,_,ht,hn,h=>by
   obtain ⟨x,hu,h1⟩:=h
   exact ⟨x,hu,wm a ht hn h1⟩
theorem oC:∀ (l:List AV) {g:AV->AV} {H:HH} {E:Env} {vs:List Value},(H true).le (H false)->fH l=true->aI l H E vs->aI (qQ g l) H E0 vs
 | [],_,_,_,_,_,_,h=>h
 | a::as,_,_,_,_,ht,hn,h=>by
   obtain ⟨v,r,hv,h1,h2⟩:=h
   simp [fH] at hn
   exact ⟨v,r,hv,wm a ht hn.1 h1,oC as ht hn.2 h2⟩
theorem Gq:∀ (a:AV) {g:AV->AV} {H:HH} {v:Value},(H true).le (H false)->Rel a H E0 v->Rel (z8 g a) H E0 v
 | .s _,_,_,_,_,h=>h
 | .y _,_,_,_,_,h=>h
 | .junk,_,_,_,_,_=>trivial
 | .ptr ..,_,_,_,_,h=>by obtain ⟨hl,_⟩:=h;simp [E0] at hl
 | .own ..,_,_,_,_,h=>by obtain ⟨hl,_⟩:=h;simp [E0] at hl
 | .sl ..,_,_,_,_,h=>h
 | .ys ..,_,_,_,_,h=>h
 | .yn ..,_,_,_,_,h=>h
 | .ip ..,_,_,_,_,h=>h
 | .opt ..,_,_,_,_,h=>h
 | .agg cs,_,_,_,ht,h=>by
   obtain ⟨vs,hu,hr⟩:=h
   exact ⟨vs,hu,og cs ht hr⟩
 | .tup cs,_,_,_,ht,h=>by
   obtain ⟨vs,hu,hr⟩:=h
   exact ⟨vs,hu,og cs ht hr⟩
 | .fn f a b,_,_,_,ht,h=>by
   obtain ⟨x,y,hu,h1,h2⟩:=h
   exact ⟨x,y,hu,og a ht h1,og b ht h2⟩
 | .ifc t a,_,_,_,ht,h=>by
   obtain ⟨x,hu,h1⟩:=h
   exact ⟨x,hu,Gq a ht h1⟩
theorem og:∀ (l:List AV) {g:AV->AV} {H:HH} {vs:List Value},(H true).le (H false)->aI l H E0 vs->aI (qQ g l) H E0 vs
 | [],_,_,_,_,h=>h
 | a::as,_,_,_,ht,h=>by
   obtain ⟨v,r,hv,h1,h2⟩:=h
   exact ⟨v,r,hv,Gq a ht h1,og as ht h2⟩
end
theorem GD {H:HH} {E:Env} {n:Nat} {rd:Nat->aH} (ht:(H true).le (H false)):∀ {l:List AV} {vs:List Value},fH l=true->aI l H E vs->aI (zQ n rd l) H E0 vs
 | [],_,_,h=>h
 | a::_,_,hn,h=>by
   obtain ⟨v,r,hv,h1,h2⟩:=h
   simp [fH] at hn
   refine ⟨v,r,hv,?_,GD ht hn.2 h2⟩
   cases n with
   | zero=>exact wm a ht hn.1 h1
   | succ n=>exact wm a ht hn.1 h1
theorem fq.direct {P:Program} {f:FuncId} {n nid:Nat} {args:List AV} {M M2:List aH} {r:AV} {mv:List Nat} {rd:Nat->aH} (h:fq P f (zQ n rd args) [] r M2 mv) (hno:fH args=true)
 (hd:∀ k,k<len M2->getM M (nid+k)=.dead):fq P f args M (ren (shift nid) r) (place M nid nid M2) []:=by
 intro H E w vals hC hargs
 refine (h H E0 w vals (Aq hC.imm hC.tf) (GD hC.tf.1 hno hargs)).mono ?_
 rintro e w1 ⟨v,H1,E1,rfl,hr,hC1,hE1⟩
 obtain ⟨g1,g2,g3⟩:=zF (H2:=H1) (nid:=nid) hC hC1 hE1 hE1.hh hC1.tf.1 hC1.imm (fun c b o ho=>by
  rcases hE1.new c b o ho with h | h | ⟨i,hi⟩
  · exact .inl h
  · exact .inr ⟨h,c,ho⟩
  · exact (o_ hi).elim) hC1.blk hd
 exact ⟨v,H1,_,rfl,Rel.ren _ g1 hr,g2,g3⟩
theorem Nf {P:Program} {o:Oper} {T:Nat->AV} {fo:Operand} {args:Array Operand} {ats:Array TypeId} {g:FuncId} {first cap:List AV} {fn:Func} {M M':List aH} {r:AV} {mv:List Nat}
 (hop:o.op=.call { callee:=.value fo,args,argTypes:=ats }) (hf:ev T fo=.fn (.func g) first cap) (hg:P.funcs[g]? = some fn) (hn:(fn.name == "runtime.NumGoroutine")=false) (hb:fn.body.isNone=false)
 (h:fq P g (first++args.toList.map (ev T)++cap) M r M' mv) :
 ∀ H E w a (K:Act->World->Prop) (Q:Exit->Act->World->Prop),Conc H E w M->jQ T H E a->(∀ v w' H' E',Rel r H' E' v->Conc H' E' w' M'->cO mv H E w H' E' w'->K (a.put o.dst v) w')->o.wp P a w K Q:=by
 intro H E w a K Q hC hT hk
 have hr:=aT hT fo
 rw [hf] at hr
 obtain ⟨x,y,hv,h1,h2⟩:=hr
 have hargs:aI (first++args.toList.map (ev T)++cap) H E (x++args.map a.eval++y).toList:=by
  have:=gV (gV h1 (nJ hT args.toList)) h2
  simpa using this
 have hrun:(execOp a.eval o).run P w=.ok (.enter g (x++args.map a.eval++y)) w:=by
  have hn':¬ fn.name = "runtime.NumGoroutine" := by simpa using hn
  have hb':¬ fn.body=none:=fun e=>by simp [e] at hb
  simp [execOp,hop,resolve,hv,Deferred.ofValue,invoke,callFunc,hg,hn',hb']
 unfold Oper.wp
 rw [hrun]
 refine (h H E w _ hC hargs).mono ?_
 rintro e w' ⟨v,H',E',rfl,hr',hC',hE'⟩
 exact hk v w' H' E' hr' hC' hE'
end Go.Ax
