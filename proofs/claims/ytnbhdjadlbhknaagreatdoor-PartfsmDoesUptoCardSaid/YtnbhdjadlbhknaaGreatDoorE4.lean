import Derived.Test.YtnbhdjadlbhknaaGreatDoorE3
set_option linter.unusedVariables false
set_option linter.unusedSimpArgs false
set_option linter.unusedSectionVars false
namespace Go.Ax
open Go
variable [Inhabited jZ]
structure St where
 t:List AV
 m:List ay
 mv:List Nat
def bS (P:Program) (c:Code) (st:St) (x:Exit) (st':St):Prop :=
 (∀ i∈st.mv,i∈st'.mv) /\
 ∀ H E w a,Conc H E w st.m->aA st.t H E a.tmps.toList->a.defers=[] ->
  c.wp P (fun x' a' w'=>∃ H' E',x'=x/\a'.defers=[]/\aA st'.t H' E' a'.tmps.toList/\Conc H' E' w' st'.m/\bF st'.mv H E w H' E' w') a w
def dD (P:Program) (f:FuncId) (args:List AV) (M:List ay) (r:AV) (M':List ay) (mv:List Nat):Prop :=
 ∀ H E w vals,Conc H E w M->aA args H E vals.toList ->
  Calls P f vals w fun e w'=>∃ v H' E',e=.returned v/\Rel r H' E' v/\Conc H' E' w' M'/\bF mv H E w H' E' w'
theorem bS.skip {P:Program} {st:St}:bS P .skip st .normal st :=
 ⟨fun _ h=>h,fun H E _ _ hC hT hd=>wp_skip ⟨H,E,rfl,hd,hT,hC,bF.refl _ _ _ _⟩⟩
theorem bS.ret {P:Program} {st:St}:bS P .ret st .ret st :=
 ⟨fun _ h=>h,fun H E _ _ hC hT hd=>wp_ret ⟨H,E,rfl,hd,hT,hC,bF.refl _ _ _ _⟩⟩
theorem bS.exit {P:Program} {st:St} {id:Nat}:bS P (.exit id) st (.exit id) st :=
 ⟨fun _ h=>h,fun H E _ _ hC hT hd=>wp_exit ⟨H,E,rfl,hd,hT,hC,bF.refl _ _ _ _⟩⟩
theorem bS.seq {P:Program} {c d:Code} {s s1 s2:St} {x:Exit} (h:bS P c s .normal s1) (k:bS P d s1 x s2):bS P (.seq c d) s x s2:=by
 refine ⟨fun i hi=>k.1 i (h.1 i hi),fun H E w a hC hT hd=>wp_seq (wp_mono (h.2 H E w a hC hT hd) ?_)⟩
 rintro x' a' w' ⟨H1,E1,rfl,hd1,hT1,hC1,hE1⟩
 refine wp_mono (k.2 H1 E1 w' a' hC1 hT1 hd1) ?_
 rintro x2 a2 w2 ⟨H2,E2,rfl,hd2,hT2,hC2,hE2⟩
 exact ⟨H2,E2,rfl,hd2,hT2,hC2,hE1.trans hE2 k.1⟩
theorem bS.Yv {P:Program} {c d:Code} {s s1:St} {x:Exit} (hx:x≠.normal) (h:bS P c s x s1):bS P (.seq c d) s x s1:=by
 refine ⟨h.1,fun H E w a hC hT hd=>wp_seq (wp_mono (h.2 H E w a hC hT hd) ?_)⟩
 rintro x' a' w' ⟨H1,E1,rfl,hd1,hT1,hC1,hE1⟩
 cases x'<;>first | exact absurd rfl hx | exact ⟨H1,E1,rfl,hd1,hT1,hC1,hE1⟩
theorem bS.cond {P:Program} {c:Operand} {d e:Code} {s s1:St} {x:Exit} {b:Bool} (hc:ev (get s.t) c=.s (.bool b)) (h:bS P (if b then d else e) s x s1):bS P (.cond c d e) s x s1:=by
 refine ⟨h.1,fun H E w a hC hT hd=>?_⟩
 have hr:=aM (kr hT) c
 rw [hc] at hr
 exact wp_cond hr.1 (h.2 H E w a hC hT hd)
theorem bS.block {P:Program} {c:Code} {s s1:St} {x:Exit} {id:Nat} (h:bS P c s x s1) (hx:x≠.exit id):bS P (.block id c) s x s1:=by
 refine ⟨h.1,fun H E w a hC hT hd=>wp_block (wp_mono (h.2 H E w a hC hT hd) ?_)⟩
 rintro x' a' w' ⟨H1,E1,rfl,hd1,hT1,hC1,hE1⟩
 cases x' with
 | exit j =>
   have:j≠id:=fun e=>hx (by rw [e])
   simp only [Exit.inBlock,this,if_false]
   exact ⟨H1,E1,trivial,hd1,hT1,hC1,hE1⟩
 | _=>exact ⟨H1,E1,rfl,hd1,hT1,hC1,hE1⟩
theorem bS.KE {P:Program} {c:Code} {s s1:St} {id:Nat} (h:bS P c s (.exit id) s1):bS P (.block id c) s .normal s1:=by
 refine ⟨h.1,fun H E w a hC hT hd=>wp_block (wp_mono (h.2 H E w a hC hT hd) ?_)⟩
 rintro x' a' w' ⟨H1,E1,rfl,hd1,hT1,hC1,hE1⟩
 simp only [Exit.inBlock,if_true]
 exact ⟨H1,E1,trivial,hd1,hT1,hC1,hE1⟩
def fT (P:Program) (c:Code) (n:Nat) (st:St) (x:Exit) (st':St):Prop :=
 (∀ i∈st.mv,i∈st'.mv) /\
 ∀ H E w a,Conc H E w st.m->aA st.t H E a.tmps.toList->a.defers=[] ->
  Code.rounds P c (fun x' a' w'=>∃ H' E',x'=x/\a'.defers=[]/\aA st'.t H' E' a'.tmps.toList/\Conc H' E' w' st'.m/\bF st'.mv H E w H' E' w') n a w
theorem bS.loop {P:Program} {c:Code} {n:Nat} {s s1:St} {x:Exit} (h:fT P c n s x s1):bS P (.loop c) s x s1 :=
 ⟨h.1,fun H E w a hC hT hd=>wp_loop_rounds n (h.2 H E w a hC hT hd)⟩
theorem kE {P:Program} {c:Code} {Q Q':Exit->Act->World->Prop} (hq:∀ e a w,Q e a w->Q' e a w):∀ n a w,Code.rounds P c Q n a w->Code.rounds P c Q' n a w
 | 0,_,_,h=>h
 | n+1,a,w,h=>wp_mono h fun e a' w' he=>by
   cases e with
   | normal=>exact kE hq n a' w' he
   | _=>exact hq _ _ _ he
theorem fT.out {P:Program} {c:Code} {s s1:St} {x:Exit} (hx:x≠.normal) (h:bS P c s x s1):fT P c 1 s x s1:=by
 refine ⟨h.1,fun H E w a hC hT hd=>wp_mono (h.2 H E w a hC hT hd) ?_⟩
 rintro x' a' w' ⟨H1,E1,rfl,hd1,hT1,hC1,hE1⟩
 cases x'<;>first | exact absurd rfl hx | exact ⟨H1,E1,rfl,hd1,hT1,hC1,hE1⟩
theorem fT.next {P:Program} {c:Code} {n:Nat} {s s1 s2:St} {x:Exit} (h:bS P c s .normal s1) (k:fT P c n s1 x s2):fT P c (n+1) s x s2:=by
 refine ⟨fun i hi=>k.1 i (h.1 i hi),fun H E w a hC hT hd=>wp_mono (h.2 H E w a hC hT hd) ?_⟩
 rintro x' a' w' ⟨H1,E1,rfl,hd1,hT1,hC1,hE1⟩
 refine kE ?_ n a' w' (k.2 H1 E1 w' a' hC1 hT1 hd1)
 rintro x2 a2 w2 ⟨H2,E2,rfl,hd2,hT2,hC2,hE2⟩
 exact ⟨H2,E2,rfl,hd2,hT2,hC2,hE1.trans hE2 k.1⟩
def St.le (s s':St):Prop :=
 (∀ i∈s.mv,i∈s'.mv)/\∀ H E w vs,Conc H E w s.m->aA s.t H E vs->∃ E',Conc H E' w s'.m/\aA s'.t H E' vs/\bF s'.mv H E w H E' w
theorem St.le_refl (s:St):s.le s:=⟨fun _ h=>h,fun _ E _ _ hC hT=>⟨E,hC,hT,bF.refl _ _ _ _⟩⟩
theorem bS.weak {P:Program} {c:Code} {s s1 s2:St} {x:Exit} (h:bS P c s x s1) (k:s1.le s2):bS P c s x s2:=by
 refine ⟨fun i hi=>k.1 i (h.1 i hi),fun H E w a hC hT hd=>wp_mono (h.2 H E w a hC hT hd) ?_⟩
 rintro x' a' w' ⟨H1,E1,rfl,hd1,hT1,hC1,hE1⟩
 obtain ⟨E2,hC2,hT2,hE2⟩:=k.2 H1 E1 w' _ hC1 hT1
 exact ⟨H1,E2,rfl,hd1,hT2,hC2,hE1.trans hE2 k.1⟩
theorem bS.pre {P:Program} {c:Code} {s0 s s1:St} {x:Exit} (k:s0.le s) (h:bS P c s x s1):bS P c s0 x s1:=by
 refine ⟨fun i hi=>h.1 i (k.1 i hi),fun H E w a hC hT hd=>?_⟩
 obtain ⟨E2,hC2,hT2,hE2⟩:=k.2 H E w _ hC hT
 refine wp_mono (h.2 H E2 w a hC2 hT2 hd) ?_
 rintro x' a' w' ⟨H1,E1,rfl,hd1,hT1,hC1,hE1⟩
 exact ⟨H1,E1,rfl,hd1,hT1,hC1,hE2.trans hE1 h.1⟩
theorem fT.pre {P:Program} {c:Code} {n:Nat} {s0 s s1:St} {x:Exit} (k:s0.le s) (h:fT P c n s x s1):fT P c n s0 x s1:=by
 refine ⟨fun i hi=>h.1 i (k.1 i hi),fun H E w a hC hT hd=>?_⟩
 obtain ⟨E2,hC2,hT2,hE2⟩:=k.2 H E w _ hC hT
 refine kE ?_ n a w (h.2 H E2 w a hC2 hT2 hd)
 rintro x' a' w' ⟨H1,E1,rfl,hd1,hT1,hC1,hE1⟩
 exact ⟨H1,E1,rfl,hd1,hT1,hC1,hE2.trans hE1 h.1⟩
def Cq (t:List AV) (d:Option Nat) (v:AV):List AV:=match d with | some i=>set t i v | none=>t
theorem Tk {H:HH} {E:Env} {t:List AV} {vs:Array Value} {i:Nat} {v:AV} {u:Value} (h:aA t H E vs.toList) (hv:Rel v H E u):aA (set t i v) H E (vs.setIfInBounds i u).toList:=by
 have hl:=aA.length h
 refine gB (by rw [length_set];simpa using hl) fun j x hx=>?_
 rw [vg]
 simp only [Array.toList_setIfInBounds,List.getElem?_set] at hx
 by_cases hij:i=j
 · subst hij
   rw [if_pos rfl] at hx
   split at hx
   · rename_i hlt
     cases hx
     rw [if_pos ⟨rfl,by omega⟩];exact hv
   · cases hx
 · rw [if_neg hij] at hx
   rw [if_neg (by simp [hij])]
   exact bn h _ _ hx
theorem rR {H:HH} {E:Env} {t:List AV} {a:Act} {d:Option Nat} {v:AV} {u:Value} (h:aA t H E a.tmps.toList) (hv:Rel v H E u):aA (Cq t d v) H E (a.put d u).tmps.toList:=by
 cases d with
 | none=>exact h
 | some i=>exact Tk h hv
theorem put_defers (a:Act) (d:Option Nat) (u:Value):(a.put d u).defers=a.defers:=by cases d<;>rfl
def Ag (ops:Array Oper) (t:Nat->AV) (o:Oper):Option Bool :=
 match o.guard with
 | none=>some true
 | some (j,want)=>match (ops[j]?).bind (·.dst) with
   | none=>some false
   | some d=>match t d with
     | .s (.bool b)=>some (b==want)
     | .s (.int ..) | .agg _ | .tup _=>some false
     | _=>none
theorem lK {ops:Array Oper} {t:Nat->AV} {o:Oper} {b:Bool} {H:HH} {E:Env} {a:Act} (hT:ji t H E a) (h:Ag ops t o=some b):Region.wanted o (yielded ops a.tmps)=b:=by
 unfold Ag at h
 unfold Region.wanted
 split at h
 · rename_i hg;rw [hg];cases h;rfl
 · rename_i j want hg
   rw [hg]
   simp only [yielded]
   split at h
   · rename_i hd
     rw [hd];cases h;rfl
   · rename_i d hd
     rw [hd]
     simp only [Option.bind_some]
     have hr:=hT d
     have hget:∀ v,a.tmps.getD d undef=v->v≠undef->a.tmps[d]? = some v:=by
      intro v hv hne
      rcases Nat.lt_or_ge d a.tmps.size with hlt | hge
      · rw [Array.getElem?_eq_getElem hlt];simp [hlt] at hv;rw [hv]
      · exfalso;apply hne;rw [<- hv];simp [hge]
     split at h
     · rename_i x he
       rw [he] at hr
       obtain ⟨hr,_⟩:=hr
       rw [hget _ hr (by simp [undef])];cases h
       cases x<;>cases want<;>rfl
     · rename_i k n he
       rw [he] at hr
       obtain ⟨hr,_⟩:=hr
       rw [hget _ hr (by simp [undef])];cases h;rfl
     · rename_i cs he
       rw [he] at hr
       obtain ⟨vs,hr,_⟩:=hr
       rw [hget _ hr (by simp [undef])];cases h;rfl
     · rename_i cs he
       rw [he] at hr
       obtain ⟨vs,hr,_⟩:=hr
       cases h
       rcases Nat.lt_or_ge d a.tmps.size with hlt | hge
       · rw [Array.getElem?_eq_getElem hlt]
         simp [hlt] at hr
         rw [hr];rfl
       · rw [Array.getElem?_eq_none hge];rfl
     · cases h
structure Stp where
 r:AV
 m:List ay
 kl:List Nat
 ob:List Prop
def St.app (st:St) (d:Option Nat) (e:Stp):St:=⟨Cq (Cy e.kl st.t) d e.r,e.m,e.kl++st.mv⟩
def Hold (l:List Prop):Prop:=∀ p∈l,p
theorem Hold.append {a b:List Prop} (h:Hold (a++b)):Hold a/\Hold b:=⟨fun x hx=>h x (by simp [hx]),fun x hx=>h x (by simp [hx])⟩
def F8 (P:Program) (o:Oper) (st:St) (e:Stp):Prop :=
 ∀ H E w a (K:Act->World->Prop) (Q:Exit->Act->World->Prop),Conc H E w st.m->aA st.t H E a.tmps.toList->a.defers=[] ->
  (∀ v w' H' E',Rel e.r H' E' v->Conc H' E' w' e.m->bF e.kl H E w H' E' w'->K (a.put o.dst v) w')->o.wp P a w K Q
theorem Af {P:Program} {o:Oper} {st:St} {hh:Option Hint} {nid:Nat} {e:Eff} (hd:getM st.m nid=.dead) (h:oK P hh (getM st.m) nid (get st.t) o.op=some e) (ho:All e.ob) :
 F8 P o st ⟨e.r,dN e.kl (dx e.wr st.m),e.kl,e.ob.map (· = true)⟩:=by
 intro H E w a K Q hC hT hdf hk
 obtain ⟨n,v,w',E',hrun,hn,hr,hc,hev⟩:=Gs (a:=a) hC hd (kr hT) h ho
 unfold Oper.wp
 rw [hrun]
 rcases hn with rfl | ⟨rfl,rfl⟩
 · exact hk v w' H E' hr hc hev
 · exact hk undef w' H E' hr hc hev
theorem jK:∀ (M:List ay) (i:Nat),len M<=i->getM M i=.dead
 | [],i,_=>dJ i
 | _::l,0,h=>by simp [len] at h
 | _::l,i+1,h=>jK l i (by simpa [len] using h)
def NU (P:Program) (hh:Nat->Option Hint) (cf:Nat->Oper->St->Option Stp) (all:Array Oper):List Oper->Nat->St->Option (St×List Prop)
 | [],_,st=>some (st,[])
 | o::r,p,st =>
   match Ag all (get st.t) o with
   | some true =>
     (match (match o.op with
       | .call { callee:=.value _,.. }=>cf p o st
       | op=>(match oK P (hh p) (getM st.m) (len st.m) (get st.t) op with
         | some e=>some ⟨e.r,dN e.kl (dx e.wr st.m),e.kl,e.ob.map (· = true)⟩
         | none=>none)) with
      | some e=>(match NU P hh cf all r (p+1) (st.app o.dst e) with
         | some (st',ob)=>some (st',e.ob++ob)
         | none=>none)
      | none=>none)
   | some false=>NU P hh cf all r (p+1) ⟨Cq st.t o.dst .junk,st.m,st.mv⟩
   | none=>none
theorem FR {st:St} {d:Option Nat} {e:Stp}:∀ i∈st.mv,i∈(st.app d e).mv:=fun i hi=>by simp [St.app,hi]
theorem Fy {P:Program} {hh:Nat->Option Hint} {cf:Nat->Oper->St->Option Stp} {all:Array Oper} (hcf:∀ p o st e,cf p o st=some e->Hold e.ob->F8 P o st e) :
 ∀ {l:List Oper} {p:Nat} {st st':St} {ob:List Prop},(∀ j,l[j]? = all[p+j]?)->NU P hh cf all l p st=some (st',ob)->Hold ob ->
  (∀ i∈st.mv,i∈st'.mv)/\∀ H E w a (Q:Exit->Act->World->Prop),Conc H E w st.m->aA st.t H E a.tmps.toList->a.defers=[] ->
    (∀ a' w' H' E',a'.defers=[]->aA st'.t H' E' a'.tmps.toList->Conc H' E' w' st'.m->bF st'.mv H E w H' E' w'->Q .normal a' w')->wpOps P all Q (List.range' p l.length) a w
 | [],p,st,st',ob,_,h,_=>by
   simp only [NU] at h
   cases h
   exact ⟨fun _ h=>h,fun H E w a Q hC hT hd hq=>hq a w H E hd hT hC (bF.refl _ _ _ _)⟩
 | o::r,p,st,st',ob,hl,h,ho=>by
   have hp:all[p]? = some o:=by have:=hl 0;simpa using this.symm
   have hr:∀ j,r[j]? = all[p+1+j]?:=fun j=>by have:=hl (j+1);simp at this;rw [this];congr 1;omega
   simp only [NU] at h
   split at h
   · rename_i hg
     split at h
     case h_2=>cases h
     rename_i e he
     split at h
     case h_2=>cases h
     rename_i st2 ob2 h2
     cases h
     obtain ⟨ho1,ho2⟩:=ho.append
     have hstep:F8 P o st e:=by
      split at he
      · exact hcf p o st e he ho1
      · split at he
        case h_2=>cases he
        rename_i ef hef
        cases he
        exact Af (jK _ _ (Nat.le_refl _)) hef fun b hb=>ho1 (b=true) (by simp;exact hb)
     obtain ⟨hmv,hrest⟩:=Fy hcf hr h2 ho2
     refine ⟨fun i hi=>hmv i (FR i hi),fun H E w a Q hC hT hd hq=>?_⟩
     simp only [List.length_cons,List.range'_succ,wpOps,hp]
     rw [lK (kr hT) hg]
     simp only [if_true]
     refine .inl (hstep H E w a _ Q hC hT hd fun v w' H' E' hr' hC' hE'=>?_)
     refine hrest H' E' w' _ Q hC' (rR (hE'.acD hT) hr') (by rw [put_defers];exact hd) fun a2 w2 H2 E2 hd2 hT2 hC2 hE2=>?_
     exact hq a2 w2 H2 E2 hd2 hT2 hC2 (hE'.trans hE2 fun i hi=>hmv i (by simp [St.app,hi]))
   · rename_i hg
     obtain ⟨hmv,hrest⟩:=Fy hcf hr h ho
     refine ⟨hmv,fun H E w a Q hC hT hd hq=>?_⟩
     simp only [List.length_cons,List.range'_succ,wpOps,hp]
     rw [lK (kr hT) hg]
     simp only [Bool.false_eq_true,if_false]
     exact hrest H E w _ Q hC (rR hT trivial) (by rw [put_defers];exact hd) hq
   · cases h
theorem bS.region {P:Program} {hh:Nat->Option Hint} {cf:Nat->Oper->St->Option Stp} {id:Nat} {ops:Array Oper} {st st':St} {ob:List Prop} (hcf:∀ p o st e,cf p o st=some e->Hold e.ob->F8 P o st e)
 (h:NU P hh cf ops ops.toList 0 st=some (st',ob)) (ho:Hold ob):bS P (.region id ops false) st .normal st':=by
 obtain ⟨hmv,hrun⟩:=Fy hcf (fun j=>by simp) h ho
 refine ⟨hmv,fun H E w a hC hT hd=>wp_region ?_⟩
 rw [List.range_eq_range']
 have:=hrun H E w a (fun x' a' w'=>∃ H' E',x'=Exit.normal/\a'.defers=[]/\aA st'.t H' E' a'.tmps.toList/\Conc H' E' w' st'.m/\bF st'.mv H E w H' E' w') hC hT hd fun a' w' H' E' h1 h2 h3 h4=>⟨H',E',rfl,h1,h2,h3,h4⟩
 simpa using this
def Ct (P:Program) (st:St):List ResultVar->Option (List AV)
 | []=>some []
 | .tmp t::r=>(match Ct P st r with | some l=>some (get st.t t::l) | none=>none)
 | .cell a ty::r=>(match P.underlying ty,get st.t a with
   | some _,.ptr i k sz o=>(match yw P none (getM st.m) ty (.ptr i k sz o),Ct P st r with
     | some e,some l=>(match e.ob with | []=>some (e.r::l) | _=>none)
     | _,_=>none)
   | _,_=>none)
def GU:List AV->AV
 | [a]=>a
 | l=>.tup l
def Za (tmps:Array Value):ResultVar->Sem Value
 | .tmp t=>pure (tmps.getD t undef)
 | .cell a t=>do loadVar t (<- asAddr (tmps.getD a undef))
theorem EA {P:Program} {H:HH} {E:Env} {w:World} {st:St} {tmps:Array Value} (hC:Conc H E w st.m) (hT:aA st.t H E tmps.toList):∀ {rv:List ResultVar} {l:List AV},Ct P st rv=some l ->
 ∃ vs:List Value,(rv.mapM (Za tmps)).run P w=.ok vs w/\aA l H E vs
 | [],l,h=>by simp [Ct] at h;subst h;exact ⟨[],rfl,rfl⟩
 | .tmp t::r,l,h=>by
   simp only [Ct] at h
   split at h
   case h_2=>cases h
   rename_i l' hl
   cases h
   obtain ⟨vs,h1,h2⟩:=EA hC hT hl
   refine ⟨tmps.getD t undef::vs,?_,_,_,rfl,Aq hT t,h2⟩
   rw [List.mapM_cons]
   simp only [Za,Sem.run_bind,Sem.run_pure,Result.andThen_ok,h1]
 | .cell a ty::r,l,h=>by
   simp only [Ct] at h
   split at h
   case h_2=>cases h
   rename_i d i k sz o hu hg
   split at h
   case h_2=>cases h
   rename_i e l' he hl
   split at h
   case h_2=>cases h
   rename_i hob
   cases h
   obtain ⟨vs,h1,h2⟩:=EA hC hT hl
   have hr:=Aq hT a
   rw [hg] at hr
   obtain ⟨_,u,hrun,hru⟩:=Ew (P:=P) hC hr ⟨d,hu⟩ he (by rw [hob];exact all_nil)
   obtain ⟨hlv,b,hb,hv⟩:=hr
   refine ⟨u::vs,?_,_,_,rfl,hru,h2⟩
   rw [hv] at hrun
   simp only [Instr.loadAt,Instr.sureAddr,Sem.run_bind,Sem.run_pure,Result.andThen_ok] at hrun
   rw [List.mapM_cons]
   simp only [Za,hv,asAddr,Sem.run_bind,Sem.run_pure,Result.andThen_ok,hrun,h1]
theorem Li {P:Program} {H:HH} {E:Env} {w:World} {st:St} {fn:Func} {tmps:Array Value} {l:List AV} (hC:Conc H E w st.m) (hT:aA st.t H E tmps.toList) (h:Ct P st fn.results.toList=some l) :
 ∃ v,(results fn tmps).run P w=.ok v w/\Rel (GU l) H E v:=by
 obtain ⟨vs,h1,h2⟩:=EA hC hT h
 refine ⟨if h:vs.toArray.size=1 then vs.toArray[0] else .tuple vs.toArray,?_,?_⟩
 · have e:results fn tmps=(do let vs <- fn.results.mapM (Za tmps);pure (if h:vs.size=1 then vs[0] else .tuple vs)):=by
    unfold results
    congr 1
   rw [e]
   simp only [Array.mapM_eq_mapM_toList,Sem.run_bind,Sem.run_map,h1,Result.andThen_ok,Sem.run_pure]
 · have hl:=aA.length h2
   match l,vs,h2,hl with
   | [a],[v],h2,_ =>
     obtain ⟨v',r,hv,h3,_⟩:=h2
     cases hv
     simpa [GU] using h3
   | [],[],h2,_=>exact ⟨#[],rfl,h2⟩
   | a::b::c,u::v::z,h2,_ =>
     refine ⟨(u::v::z).toArray,?_,by simpa using h2⟩
     rw [dif_neg (by simp)]
def JB (n:Nat) (args:List AV):List AV:=args++List.replicate (n - args.length) .junk
theorem Dn (H:HH) (E:Env) (v:Value):∀ n,aA (List.replicate n .junk) H E (List.replicate n v)
 | 0=>rfl
 | n+1=>by rw [List.replicate_succ,List.replicate_succ];exact ⟨_,_,rfl,trivial,Dn H E v n⟩
theorem dD.sN {P:Program} {f:FuncId} {fn:Func} {c:Code} {args:List AV} {M:List ay} {x:Exit} {st':St} {l:List AV} (hf:P.funcs[f]? = some fn) (hb:fn.body=some c) (hx:x=.ret∨x=.normal)
 (h:bS P c ⟨JB fn.ntmps args,M,[]⟩ x st') (hr:Ct P st' fn.results.toList=some l):dD P f args M (GU l) st'.m st'.mv:=by
 intro H E w vals hC hargs
 refine calls_of_wp hf hb (wp_mono (h.2 H E w _ hC ?_ rfl) ?_)
 · have hl:=aA.length hargs
   simp only [JB,Array.toList_append,Array.toList_replicate]
   have e:vals.size=args.length:=by simpa using hl
   rw [e]
   exact fG hargs (Dn H E _ _)
 · rintro x' a' w' ⟨H',E',rfl,hd',hT',hC',hE'⟩
   obtain ⟨v,hrun,hrv⟩:=Li hC' hT' hr
   rcases hx with rfl | rfl
   · exact ⟨hd',v,hrun,v,H',E',rfl,hrv,hC',hE'⟩
   · exact ⟨hd',v,hrun,v,H',E',rfl,hrv,hC',hE'⟩
mutual
def zD (g:AV->AV):AV->AV
 | .ptr i k sz o=>g (.ptr i k sz o)
 | .own i sz lo n=>g (.own i sz lo n)
 | .mref _=>.junk
 | .sl b sz n c=>.sl b sz n c
 | .ys b sz n c=>.ys b sz n c
 | .yn b sz n c=>.yn b sz n c
 | .ip b m c=>.ip b m c
 | .opt b t a=>.opt b t a
 | .agg cs=>.agg (rE g cs)
 | .tup cs=>.tup (rE g cs)
 | .fn f a b=>.fn f (rE g a) (rE g b)
 | .ifc t a=>.ifc t (zD g a)
 | .s v=>.s v
 | .y v=>.y v
 | .junk=>.junk
def rE (g:AV->AV):List AV->List AV
 | []=>[]
 | a::as=>zD g a::rE g as
end
def mapA (v:AV->AV):List AV->List AV
 | []=>[]
 | a::r=>v a::mapA v r
theorem wz {v:AV->AV} (hv:v .junk=.junk):∀ (l:List AV) (i:Nat),get (mapA v l) i=v (get l i)
 | [],i=>by cases i<;>exact hv.symm
 | a::r,0=>rfl
 | a::r,i+1=>wz hv r i
def rowAt (lo:Nat) (c:Nat->Nat->AV):Nat->Nat->AV:=match lo with
 | 0=>c
 | m+1=>fun k j=>c (m+1+k) j
theorem uW (lo:Nat) (c:Nat->Nat->AV) (k j:Nat):rowAt lo c k j=c (lo+k) j:=by
 cases lo with
 | zero=>simp [rowAt]
 | succ m=>rfl
mutual
def PN:Tr->AV
 | .av a=>a
 | .box _ _ cs=>.ip false (len cs) (get (N9 cs))
 | .row _ sz n c=>.ys false sz n fun k j=>PN (c k j)
 | .frow _ sz n c=>.ys false sz n c
def N9:List Tr->List AV
 | []=>[]
 | t::ts=>PN t::N9 ts
end
def ac1 (v:AV->AV) (B:ay) (sz lo n:Nat):AV :=
 match B with
 | .lst _ s2 _ _ cs=>if s2==sz then .sl false sz n (fun k j=>get (mapA v cs) ((lo+k)*sz+j)) else .junk
 | .row _ s2 _ _ c=>if s2==sz then .ys false sz n (rowAt lo c) else .junk
 | .trow _ s2 _ _ c op _=>(match op with | []=>if s2==sz then .ys false sz n (rowAt lo fun k j=>PN (c k j)) else .junk | _::_=>.junk)
 | _=>.junk
def adJ (v:AV->AV) (B:ay) (k sz o:Nat):AV :=
 match B with
 | .box _ cs=>(match k with
   | 0=>if Nat.ble o (len cs) then .ip false (len cs - o) (fun j=>get (mapA v cs) (o+j)) else .junk
   | _+1=>.junk)
 | .lst _ s2 _ _ cs=>if s2==sz&&Nat.ble (k*sz+o) (len cs) then .ip false (len cs - (k*sz+o)) (fun j=>get (mapA v cs) (k*sz+o+j)) else .junk
 | _=>.junk
def aib (v:AV->AV) (rd:Nat->ay):AV->AV
 | .own i sz lo n=>ac1 v (rd i) sz lo n
 | .ptr i k sz o=>adJ v (rd i) k sz o
 | _=>.junk
def CO:Nat->(Nat->ay)->AV->AV
 | 0,_=>zD fun _=>.junk
 | n+1,rd=>zD (aib (CO n rd) rd)
def BU (n:Nat) (rd:Nat->ay):List AV->List AV
 | []=>[]
 | a::as=>CO n rd a::BU n rd as
def vW (w:World):IH:=fun b=>w.heap[b]?
def ag1 (w:World):Prop:=∀ p∈(default:jZ).hs,scalar p.2.2=true/\(vW w).cell? ⟨p.1,0,none⟩=some (.iface p.2.1 (.agg #[p.2.2]))
def HB (H:HH) (w:World):HH:=fun b=>if b then H true else vW w
theorem vQ {H:HH} {w:World} (hi:∀ b o,H false b=some o->w.heap[b]? = some o):H.le (HB H w):=fun c b o h=>by
 cases c
 · exact hi b o h
 · exact h
theorem afY {H:HH} {w:World} (hi:∀ b o,H false b=some o->w.heap[b]? = some o) (ht:(H true).le (H false)):(HB H w true).le (HB H w false):=fun b o h=>hi b o (ht b o h)
theorem iI {w:World} {a:Addr} {v:Value} (h:w.cell? a=some v):(vW w).cell? a=some v:=by
 unfold World.cell? at h
 unfold IH.cell? vW
 cases hb:w.heap[a.block]? with
 | none=>simp [hb] at h
 | some o=>rw [hb] at h;cases o<;>first | exact h | simp at h
mutual
theorem wu:∀ (a:AV) {g:AV->AV} {H:HH} {E:Env} {w:World} {v:Value},(∀ b o,H false b=some o->w.heap[b]? = some o)->(H true).le (H false) ->
 (∀ i k sz o u,Rel (.ptr i k sz o) H E u->Rel (g (.ptr i k sz o)) (HB H w) E0 u)->(∀ i sz lo n u,Rel (.own i sz lo n) H E u->Rel (g (.own i sz lo n)) (HB H w) E0 u)->Rel a H E v->Rel (zD g a) (HB H w) E0 v
 | .s _,_,_,_,_,_,_,_,_,_,h=>h
 | .y _,_,_,_,_,_,_,_,_,_,h=>h
 | .junk,_,_,_,_,_,_,_,_,_,_=>trivial
 | .ptr i k sz o,_,_,_,_,_,_,_,h1,_,h=>h1 i k sz o _ h
 | .own i sz lo n,_,_,_,_,_,_,_,_,h2,h=>h2 i sz lo n _ h
 | .mref _,_,_,_,_,_,_,_,_,_,_=>trivial
 | .sl b sz n c,_,_,_,_,_,hi,_,_,_,h=>Rel.mono (.sl b sz n c) (vQ hi) h
 | .ys b sz n c,_,_,_,_,_,hi,_,_,_,h=>Rel.mono (.ys b sz n c) (vQ hi) h
 | .yn b sz n c,_,_,_,_,_,hi,_,_,_,h=>Rel.mono (.yn b sz n c) (vQ hi) h
 | .ip b m c,_,_,_,_,_,hi,_,_,_,h=>Rel.mono (.ip b m c) (vQ hi) h
 | .opt b t a,_,_,_,_,_,hi,_,_,_,h=>Rel.mono (.opt b t a) (vQ hi) h
 | .agg cs,_,_,_,_,_,hi,ht,h1,h2,h=>by
   obtain ⟨vs,hu,hr⟩:=h
   exact ⟨vs,hu,nS cs hi ht h1 h2 hr⟩
 | .tup cs,_,_,_,_,_,hi,ht,h1,h2,h=>by
   obtain ⟨vs,hu,hr⟩:=h
   exact ⟨vs,hu,nS cs hi ht h1 h2 hr⟩
 | .fn f a b,_,_,_,_,_,hi,ht,h1,h2,h=>by
   obtain ⟨x,y,hu,h3,h4⟩:=h
   exact ⟨x,y,hu,nS a hi ht h1 h2 h3,nS b hi ht h1 h2 h4⟩
 | .ifc t a,_,_,_,_,_,hi,ht,h1,h2,h=>by
   obtain ⟨x,hu,h3⟩:=h
   exact ⟨x,hu,wu a hi ht h1 h2 h3⟩
theorem nS:∀ (l:List AV) {g:AV->AV} {H:HH} {E:Env} {w:World} {vs:List Value},(∀ b o,H false b=some o->w.heap[b]? = some o)->(H true).le (H false) ->
 (∀ i k sz o u,Rel (.ptr i k sz o) H E u->Rel (g (.ptr i k sz o)) (HB H w) E0 u)->(∀ i sz lo n u,Rel (.own i sz lo n) H E u->Rel (g (.own i sz lo n)) (HB H w) E0 u)->aA l H E vs->aA (rE g l) (HB H w) E0 vs
 | [],_,_,_,_,_,_,_,_,_,h=>h
 | a::as,_,_,_,_,_,hi,ht,h1,h2,h=>by
   obtain ⟨v,r,hv,h3,h4⟩:=h
   exact ⟨v,r,hv,wu a hi ht h1 h2 h3,nS as hi ht h1 h2 h4⟩
end
mutual
theorem Ki {H:HH} {w:World} (hi:∀ b o,H false b=some o->w.heap[b]? = some o):∀ (t:Tr) {v:Value} {S:Nat->Prop},iJ H (fun b=>w.heap[b]?) t v S->Rel (PN t) (HB H w) E0 v
 | .av a,_,_,h=>Rel.mono a (vQ hi) h
 | .box ty sz cs,_,_,h=>by
   obtain ⟨b,vs,rfl,h2,h3,h4,h5⟩:=h
   have h6:=Ng hi cs h5
   have hlen:=aA.length h6
   have hll:(N9 cs).length=len cs:=by rw [<- Gf cs,len_eq]
   refine ⟨_,rfl,fun j hj=>?_⟩
   have hlt:j<vs.toList.length:=by omega
   refine ⟨vs.toList[j],?_,h4 _ (List.getElem_mem hlt),bn h6 _ _ (List.getElem?_eq_getElem hlt)⟩
   rw [addr_add]
   refine iI ?_
   rw [cell_of_row w b _ vs ty (0,0) h3]
   simp at hlt ⊢
 | .row ty sz n c,_,_,h=>by
   obtain ⟨κ,h1,h2,⟨rfl,rfl,rfl⟩ | ⟨b,vs,rfl,h4,h5,h6,h7,F,h8,h9,h10⟩⟩:=h
   · exact ⟨none,0,rfl,⟨Nat.le_refl _,fun _=>rfl⟩,fun h=>by omega⟩
   · refine ⟨_,_,rfl,⟨h1,fun h=>by cases h⟩,fun _=>⟨_,rfl,fun k hk j hj=>?_⟩⟩
     obtain ⟨x,g1,g2⟩:=h10 k hk j hj
     refine ⟨x,?_,h6 x ?_,Ki hi (c k j) g2⟩
     · rw [addr_add]
       refine iI ?_
       rw [cell_of_row w b _ vs ty (0,0) h5]
       simpa using g1
     · have hle:(k+1)*sz<=n*sz:=Nat.mul_le_mul_right _ hk
       rw [Nat.add_mul,Nat.one_mul] at hle
       exact List.mem_iff_getElem?.2 ⟨k*sz+j,by rw [List.getElem?_take,if_pos (by omega)];simpa using g1⟩
 | .frow ty sz n c,_,_,h=>by
   obtain ⟨κ,h1,h2,⟨rfl,rfl,rfl⟩ | ⟨b,vs,rfl,h4,h5,h6,h7,h10⟩⟩:=h
   · exact ⟨none,0,rfl,⟨Nat.le_refl _,fun _=>rfl⟩,fun h=>by omega⟩
   · refine ⟨_,_,rfl,⟨h1,fun h=>by cases h⟩,fun _=>⟨_,rfl,fun k hk j hj=>?_⟩⟩
     obtain ⟨x,g1,g2⟩:=h10 k hk j hj
     refine ⟨x,?_,h6 x ?_,Rel.mono _ (vQ hi) g2⟩
     · rw [addr_add]
       refine iI ?_
       rw [cell_of_row w b _ vs ty (0,0) h5]
       simpa using g1
     · have hle:(k+1)*sz<=n*sz:=Nat.mul_le_mul_right _ hk
       rw [Nat.add_mul,Nat.one_mul] at hle
       exact List.mem_iff_getElem?.2 ⟨k*sz+j,by rw [List.getElem?_take,if_pos (by omega)];simpa using g1⟩
theorem Ng {H:HH} {w:World} (hi:∀ b o,H false b=some o->w.heap[b]? = some o):∀ (l:List Tr) {vs:List Value} {S:Nat->Prop},jh H (fun b=>w.heap[b]?) l vs S->aA (N9 l) (HB H w) E0 vs
 | [],_,_,h=>h
 | t::ts,_,_,h=>by
   obtain ⟨v,r,S1,S2,rfl,_,_,_,h5,h6⟩:=h
   exact ⟨v,r,rfl,Ki hi t h5,Ng hi ts h6⟩
theorem Gf:∀ l:List Tr,len (N9 l)=len l
 | []=>rfl
 | _::ts=>by simp [N9,len,Gf ts]
end
theorem uJ (n:Nat) (rd:Nat->ay):CO n rd .junk=.junk:=by cases n<;>rfl
theorem yY {H:HH} {E:Env} {w:World} {M:List ay} {rd:Nat->ay} (hC:Conc H E w M) (hrd:∀ i,rd i=.dead∨rd i=getM M i):∀ (n:Nat) {a:AV} {v:Value},Rel a H E v->Rel (CO n rd a) (HB H w) E0 v
 | 0,a,v,h=>wu a hC.imm hC.tf.1 (fun _ _ _ _ _ _=>trivial) (fun _ _ _ _ _ _=>trivial) h
 | n+1,a,v,h=>by
   refine wu a hC.imm hC.tf.1 (fun i k sz o u hu=>?_) (fun i sz lo m u hu=>?_) h
   · obtain ⟨hl,b,hb,rfl⟩:=hu
     have hB:rd i≠.dead->bV H E w i (rd i):=fun hne=>by
      rcases hrd i with h | h
      · exact absurd h hne
      · rw [h];exact hC.blk i
     show Rel (adJ (CO n rd) (rd i) k sz o) _ _ _
     unfold adJ
     split
     · rename_i ty cs hg
       cases k with
       | succ k=>trivial
       | zero=>?_
       show Rel (if Nat.ble o (len cs) then _ else _) _ _ _
       split
       · rename_i hle
         rw [hg] at hB
         have hB:=hB (by simp)
         obtain ⟨_,b',vs,h1,h2,h3,h4⟩:=hB
         rw [hb] at h1;cases h1
         have hlen:=aA.length h4
         refine ⟨_,rfl,fun j hj=>?_⟩
         rw [len_eq] at hj
         simp only [len_eq,Nat.ble_eq] at hle
         have hlt:o+j<vs.toList.length:=by omega
         refine ⟨vs.toList[o+j],?_,h3 _ (List.getElem_mem hlt),by simp only [wz (uJ n rd)];exact yY hC hrd n (bn h4 _ _ (List.getElem?_eq_getElem hlt))⟩
         rw [Nat.zero_mul,Nat.zero_add,addr_add]
         refine iI ?_
         rw [cell_of_row w b _ vs ty (0,0) h2]
         simp at hlt ⊢
       · trivial
     · rename_i ty s2 m cap cs hg
       split
       · rename_i hle
         simp only [Bool.and_eq_true,beq_iff_eq,Nat.ble_eq,len_eq] at hle
         obtain ⟨rfl,hle⟩:=hle
         rw [hg] at hB
         have hB:=hB (by simp)
         obtain ⟨_,h0,_,_,h1⟩:=hB
         rw [hb] at h1
         obtain ⟨vs,h2,h3,h5,h4⟩:=h1
         have hlen:=aA.length h4
         refine ⟨_,rfl,fun j hj=>?_⟩
         rw [len_eq] at hj
         have hlt:k*s2+o+j<(vs.toList.take (m*s2)).length:=by omega
         refine ⟨(vs.toList.take (m*s2))[k*s2+o+j],?_,h3 _ (List.getElem_mem hlt),by simp only [wz (uJ n rd)];exact yY hC hrd n (bn h4 _ _ (List.getElem?_eq_getElem hlt))⟩
         rw [addr_add]
         refine iI ?_
         rw [cell_of_row w b _ vs ty (0,0) h2]
         simp at hlt ⊢
       · trivial
     · trivial
   · obtain ⟨hl,hη,hm⟩:=hu
     have hB:rd i≠.dead->bV H E w i (rd i):=fun hne=>by
      rcases hrd i with h | h
      · exact absurd h hne
      · rw [h];exact hC.blk i
     show Rel (ac1 (CO n rd) (rd i) sz lo m) _ _ _
     unfold ac1
     split
     · rename_i ty s2 q cap cs hg
       split
       · rename_i hs
         have hs:s2=sz:=by simpa using hs
         subst hs
         rw [hg] at hB
         have hB:=hB (by simp)
         obtain ⟨_,h0,_,_,h1⟩:=hB
         cases hι:E.ι i with
         | none =>
           rw [hι] at hm
           obtain ⟨_,rfl,rfl⟩:=hm
           exact ⟨none,0,rfl,⟨Nat.le_refl _,fun _=>rfl⟩,fun h=>by omega⟩
         | some b =>
           rw [hι] at hm h1
           obtain ⟨ad,rfl,had⟩:=hm
           obtain ⟨vs,h2,h3,h5,h4⟩:=h1
           refine ⟨ad,_,rfl,⟨by omega,fun h0=>?_⟩,fun hpos=>⟨_,had.1 (.inr hpos),fun k hk j hj=>?_⟩⟩
           · exact absurd h0 had.2
           have hq:(lo+k+1)*s2<=q*s2:=Nat.mul_le_mul_right _ (by omega)
           have hqκ:q*s2<=E.κ i*s2:=Nat.mul_le_mul_right _ h0.2
           rw [Nat.add_mul,Nat.one_mul] at hq
           have hvl:vs.toList.length=E.κ i*s2:=by simpa using h5
           have hlt:(lo+k)*s2+j<(vs.toList.take (q*s2)).length:=by rw [List.length_take];omega
           refine ⟨(vs.toList.take (q*s2))[(lo+k)*s2+j],?_,h3 _ (List.getElem_mem hlt),by simp only [wz (uJ n rd)];exact yY hC hrd n (bn h4 _ _ (List.getElem?_eq_getElem hlt))⟩
           rw [addr_add,<- Nat.add_assoc,<- Nat.add_mul]
           refine iI ?_
           rw [cell_of_row w b _ vs ty (0,0) h2]
           simp at hlt ⊢
       · trivial
     · rename_i ty s2 q cap c hg
       split
       · rename_i hs
         have hs:s2=sz:=by simpa using hs
         subst hs
         rw [hg] at hB
         have hB:=hB (by simp)
         obtain ⟨_,h0,_,_,h1⟩:=hB
         cases hι:E.ι i with
         | none =>
           rw [hι] at hm
           obtain ⟨_,rfl,rfl⟩:=hm
           exact ⟨none,0,rfl,⟨Nat.le_refl _,fun _=>rfl⟩,fun h=>by omega⟩
         | some b =>
           rw [hι] at hm h1
           obtain ⟨ad,rfl,had⟩:=hm
           obtain ⟨vs,h2,h3,h5,h4⟩:=h1
           refine ⟨ad,_,rfl,⟨by omega,fun h0=>?_⟩,fun hpos=>⟨_,had.1 (.inr hpos),fun k hk j hj=>?_⟩⟩
           · exact absurd h0 had.2
           obtain ⟨x,hx,hrx⟩:=h4 (lo+k) (by omega) j hj
           have hq:(lo+k+1)*s2<=q*s2:=Nat.mul_le_mul_right _ (by omega)
           rw [Nat.add_mul,Nat.one_mul] at hq
           refine ⟨x,?_,h3 x ?_,by rw [uW];exact Rel.mono _ (vQ hC.imm) hrx⟩
           · rw [addr_add,<- Nat.add_assoc,<- Nat.add_mul]
             refine iI ?_
             rw [cell_of_row w b _ vs ty (0,0) h2]
             exact hx
           · refine List.mem_iff_getElem?.2 ⟨(lo+k)*s2+j,?_⟩
             rw [List.getElem?_take,if_pos (by omega)]
             simpa using hx
       · trivial
     · rename_i ty s2 q cap c op zs hg
       split
       case h_2=>trivial
       split
       · rename_i hs
         have hs:s2=sz:=by simpa using hs
         subst hs
         rw [hg] at hB
         have hB:=hB (by simp)
         obtain ⟨_,h0,_,_,h1⟩:=hB
         cases hι:E.ι i with
         | none =>
           rw [hι] at hm
           obtain ⟨_,rfl,rfl⟩:=hm
           exact ⟨none,0,rfl,⟨Nat.le_refl _,fun _=>rfl⟩,fun h=>by omega⟩
         | some b =>
           rw [hι] at hm h1
           obtain ⟨ad,rfl,had⟩:=hm
           obtain ⟨_,vs,F,h2,h4⟩:=h1
           refine ⟨ad,_,rfl,⟨by omega,fun h0=>?_⟩,fun hpos=>⟨_,had.1 (.inr hpos),fun k hk j hj=>?_⟩⟩
           · exact absurd h0 had.2
           obtain ⟨x,hx,hrx⟩:=h4.tr (lo+k) (by omega) (fun p hp=>by cases hp) j hj
           have hq:(lo+k+1)*s2<=q*s2:=Nat.mul_le_mul_right _ (by omega)
           rw [Nat.add_mul,Nat.one_mul] at hq
           refine ⟨x,?_,h4.one x ?_,by rw [uW];exact Ki hC.imm _ hrx⟩
           · rw [addr_add,<- Nat.add_assoc,<- Nat.add_mul]
             refine iI ?_
             rw [cell_of_row w b _ vs ty (0,0) h2]
             simpa using hx
           · refine List.mem_iff_getElem?.2 ⟨(lo+k)*s2+j,?_⟩
             rw [List.getElem?_take,if_pos (by omega)]
             simpa using hx
       · trivial
     · trivial
theorem Io {H:HH} {E:Env} {w:World} {M:List ay} {rd:Nat->ay} (hC:Conc H E w M) (hrd:∀ i,rd i=.dead∨rd i=getM M i) (n:Nat):∀ {l:List AV} {vs:List Value},aA l H E vs->aA (BU n rd l) (HB H w) E0 vs
 | [],_,h=>h
 | _::_,_,h=>by
   obtain ⟨v,r,hv,h1,h2⟩:=h
   exact ⟨v,r,hv,yY hC hrd n h1,Io hC hrd n h2⟩
mutual
def fC:AV->Bool
 | .sl b _ _ _=>b
 | .ys b _ _ _=>b
 | .yn b _ _ _=>b
 | .ip b _ _=>b
 | .agg cs=>iW cs
 | .tup cs=>iW cs
 | .fn _ a b=>iW a&&iW b
 | .ifc _ a=>fC a
 | .opt _ _ a=>fC a
 | _=>true
def iW:List AV->Bool
 | []=>true
 | a::as=>fC a&&iW as
end
mutual
theorem Rel.tag:∀ (a:AV) {H:HH} {E:Env} {v:Value},fC a=true->Rel a H E v->Rel a (fun _=>H true) E v
 | .s _,_,_,_,_,h=>h
 | .y _,_,_,_,_,h=>h
 | .junk,_,_,_,_,_=>trivial
 | .ptr ..,_,_,_,_,h=>h
 | .own ..,_,_,_,_,h=>h
 | .mref ..,_,_,_,_,h=>h
 | .yn b _ _ _,_,_,_,ht,h=>by
   simp only [fC] at ht
   subst ht
   exact h
 | .ys b _ _ _,_,_,_,ht,h=>by
   simp only [fC] at ht
   subst ht
   exact h
 | .sl b _ _ _,_,_,_,ht,h=>by
   simp only [fC] at ht
   subst ht
   exact h
 | .ip b _ _,_,_,_,ht,h=>by
   simp only [fC] at ht
   subst ht
   exact h
 | .agg cs,_,_,_,ht,h=>by
   obtain ⟨vs,hu,hr⟩:=h
   exact ⟨vs,hu,aA.tag cs ht hr⟩
 | .tup cs,_,_,_,ht,h=>by
   obtain ⟨vs,hu,hr⟩:=h
   exact ⟨vs,hu,aA.tag cs ht hr⟩
 | .fn f a b,_,_,_,ht,h=>by
   obtain ⟨x,y,hu,h1,h2⟩:=h
   simp [fC] at ht
   exact ⟨x,y,hu,aA.tag a ht.1 h1,aA.tag b ht.2 h2⟩
 | .ifc t a,_,_,_,ht,h=>by
   obtain ⟨x,hu,h1⟩:=h
   exact ⟨x,hu,Rel.tag a ht h1⟩
 | .opt b t a,_,_,_,ht,h=>⟨fun hb=>by
   obtain ⟨x,hu,h1⟩:=h.1 hb
   exact ⟨x,hu,Rel.tag a ht h1⟩,h.2⟩
theorem aA.tag:∀ (l:List AV) {H:HH} {E:Env} {vs:List Value},iW l=true->aA l H E vs->aA l (fun _=>H true) E vs
 | [],_,_,_,_,h=>h
 | a::as,_,_,_,ht,h=>by
   obtain ⟨v,r,hv,h1,h2⟩:=h
   simp [iW] at ht
   exact ⟨v,r,hv,Rel.tag a ht.1 h1,aA.tag as ht.2 h2⟩
end
def ZQ:ay->Bool
 | .box _ cs=>iW cs
 | .lst _ _ _ _ cs=>iW cs
 | .row ..=>false
 | .mp es _=>iW (es.map fun e=>e.2.1)
 | .mi ..=>true
 | .mit ..=>true
 | .tmap ..=>false
 | .trow ..=>false
 | .any=>true
 | .dead=>true
mutual
def Zd:Tr->Prop
 | .av a=>fC a=true
 | .box _ _ cs=>Cr cs
 | .row _ sz n c=>∀ k,k<n->∀ j,j<sz->Zd (c k j)
 | .frow _ sz n c=>∀ k,k<n->∀ j,j<sz->fC (c k j)=true
def Cr:List Tr->Prop
 | []=>True
 | t::ts=>Zd t/\Cr ts
end
mutual
theorem iJ.tag {H:HH} {hp:Nat->Option Obj}:∀ (t:Tr) {v:Value} {S:Nat->Prop},Zd t->iJ H hp t v S->iJ (fun _=>H true) hp t v S
 | .av a,_,_,ht,h=>Rel.tag a (by simpa only [Zd] using ht) h
 | .box ty sz cs,_,_,ht,h=>by
   simp only [Zd] at ht
   obtain ⟨b,vs,h1,h2,h3,h4,h5⟩:=h
   exact ⟨b,vs,h1,h2,h3,h4,jh.tag cs ht h5⟩
 | .row ty sz n c,_,_,ht,h=>by
   simp only [Zd] at ht
   obtain ⟨κ,h1,h2,h3 | ⟨b,vs,h3,h4,h5,h6,h7,F,h8,h9,h10⟩⟩:=h
   · exact ⟨κ,h1,h2,.inl h3⟩
   · refine ⟨κ,h1,h2,.inr ⟨b,vs,h3,h4,h5,h6,h7,F,h8,h9,fun k hk j hj=>?_⟩⟩
     obtain ⟨x,g1,g2⟩:=h10 k hk j hj
     exact ⟨x,g1,iJ.tag (c k j) (ht k hk j hj) g2⟩
 | .frow ty sz n c,_,_,ht,h=>by
   simp only [Zd] at ht
   obtain ⟨κ,h1,h2,h3 | ⟨b,vs,h3,h4,h5,h6,h7,h10⟩⟩:=h
   · exact ⟨κ,h1,h2,.inl h3⟩
   · refine ⟨κ,h1,h2,.inr ⟨b,vs,h3,h4,h5,h6,h7,fun k hk j hj=>?_⟩⟩
     obtain ⟨x,g1,g2⟩:=h10 k hk j hj
     exact ⟨x,g1,Rel.tag _ (ht k hk j hj) g2⟩
theorem jh.tag {H:HH} {hp:Nat->Option Obj}:∀ (l:List Tr) {vs:List Value} {S:Nat->Prop},Cr l->jh H hp l vs S->jh (fun _=>H true) hp l vs S
 | [],_,_,_,h=>h
 | t::ts,_,_,ht,h=>by
   simp only [Cr] at ht
   obtain ⟨v,r,S1,S2,h1,h2,h3,h4,h5,h6⟩:=h
   exact ⟨v,r,S1,S2,h1,h2,h3,h4,iJ.tag t ht.1 h5,jh.tag ts ht.2 h6⟩
end
def eP (c:Nat->Tr):Nat->Nat->List Tr
 | _,0=>[]
 | o,n+1=>c o::eP c (o+1) n
theorem Je {c:Nat->Tr}:∀ {n o:Nat},Cr (eP c o n)->∀ j,j<n->Zd (c (o+j))
 | n+1,o,h,0,_=>by
   simp only [eP,Cr] at h
   exact h.1
 | n+1,o,h,j+1,hj=>by
   simp only [eP,Cr] at h
   have:=Je h.2 j (by omega)
   rwa [show o+1+j=o+(j+1) by omega] at this
theorem Oj {c:Nat->Tr} {n:Nat} (h:Cr (eP c 0 n)) (j:Nat) (hj:j<n):Zd (c j):=by
 have:=Je h j hj
 rwa [Nat.zero_add] at this
def Wt:List (Nat×List AV)->Prop
 | []=>True
 | p::r=>iW p.2=true/\Wt r
theorem Jh:∀ {l:List (Nat×List AV)},Wt l->∀ p∈l,iW p.2=true
 | q::r,h,p,hp=>by
   rcases List.mem_cons.1 hp with rfl | hp
   · exact h.1
   · exact Jh h.2 p hp
def Hg:ay->Prop
 | .row _ sz n _ c=>∀ k,k<n->∀ j,j<sz->fC (c k j)=true
 | .trow _ sz n _ c op _=>Wt op/\∀ k,k<n->Cr (eP (c k) 0 sz)
 | B=>ZQ B=true
theorem bV.tag {H:HH} {E:Env} {w:World} {i:Nat} {B:ay} (ht:Hg B) (h:bV H E w i B):bV (fun _=>H true) E w i B:=by
 cases B with
 | dead=>exact h
 | mp es ck =>
   obtain ⟨h0,b,ms,h1,h2,h3,h4⟩:=h
   exact ⟨h0,b,ms,h1,h2,h3,aA.tag _ ht h4⟩
 | mi kk vk has c=>exact h
 | mit m since seen last=>exact h
 | any=>exact h
 | tmap q has c n kn=>exact absurd ht (by simp [Hg,ZQ])
 | trow ty sz n cap c op zs =>
   obtain ⟨h0,ha,hb,hc,h1⟩:=h
   refine ⟨h0,ha,hb,hc,?_⟩
   cases hι:E.ι i with
   | none=>rw [hι] at h1;exact h1
   | some b =>
     rw [hι] at h1
     obtain ⟨hs,vs,F,h2,h4⟩:=h1
     exact ⟨hs,vs,F,h2,h4.one,h4.size,h4.own,h4.sep,h4.lt,h4.once,fun p hp=>aA.tag _ (Jh ht.1 p hp) (h4.known p hp),fun k hk hn j hj=>by
      obtain ⟨x,g1,g2⟩:=h4.tr k hk hn j hj
      exact ⟨x,g1,iJ.tag _ (Oj (ht.2 k hk) j hj) g2⟩,h4.spare⟩
 | box ty cs =>
   obtain ⟨h0,b,vs,h1,h2,h3,h4⟩:=h
   exact ⟨h0,b,vs,h1,h2,h3,aA.tag cs ht h4⟩
 | lst ty sz n cap cs =>
   obtain ⟨h0,ha,hb,hc,h1⟩:=h
   refine ⟨h0,ha,hb,hc,?_⟩
   cases hι:E.ι i with
   | none=>rw [hι] at h1;exact h1
   | some b =>
     rw [hι] at h1
     obtain ⟨vs,h2,h3,h4,h5⟩:=h1
     exact ⟨vs,h2,h3,h4,aA.tag cs ht h5⟩
 | row ty sz n cap c =>
   obtain ⟨h0,ha,hb,hc,h1⟩:=h
   refine ⟨h0,ha,hb,hc,?_⟩
   cases hι:E.ι i with
   | none=>rw [hι] at h1;exact h1
   | some b =>
     rw [hι] at h1
     obtain ⟨vs,h2,h3,h4,h5⟩:=h1
     refine ⟨vs,h2,h3,h4,fun k hk j hj=>?_⟩
     obtain ⟨x,hx,hr⟩:=h5 k hk j hj
     exact ⟨x,hx,Rel.tag _ (ht k hk j hj) hr⟩
def shift (s i:Nat):Option Nat:=some (i+s)
def place:List ay->Nat->Nat->List ay->List ay
 | M,_,_,[]=>M
 | M,p,s,B::r=>place (iH M p (eY (shift s) B)) (p+1) s r
theorem zT:∀ (L M:List ay) (p s j:Nat),getM (place M p s L) j=if p<=j/\j<p+len L then eY (shift s) (getM L (j - p)) else getM M j
 | [],M,p,s,j=>by
   have h:¬ (p<=j/\j<p+len ([]:List ay)):=by simp [len]
   rw [if_neg h];rfl
 | B::r,M,p,s,j=>by
   simp only [place]
   rw [zT r]
   by_cases h1:p=j
   · subst h1
     rw [if_neg (by omega),aT,if_pos ⟨Nat.le_refl _,by simp [len]⟩]
     simp [getM]
   · by_cases h2:p+1<=j/\j<p+1+len r
     · rw [if_pos h2,if_pos (by simp [len];omega)]
       obtain ⟨m,rfl⟩:∃ m,j=p+1+m:=⟨j - (p+1),by omega⟩
       have e1:p+1+m - (p+1)=m:=by omega
       have e2:p+1+m - p=m+1:=by omega
       rw [e1,e2];rfl
     · rw [if_neg h2,if_neg (by simp [len];omega),aW _ _ _ _ h1]
theorem Conc.Mx {H:HH} {E:Env} {w:World} {M:List ay} (h:Conc H E w M) {i:Nat} (hl:E.lv i=true):i<len M:=by
 rcases Nat.lt_or_ge i (len M) with h1 | h1
 · exact h1
 · have:=h.blk i
   rw [jK M i h1] at this
   rw [show E.lv i=false from this] at hl;cases hl
def Env.join (E E1:Env) (s n:Nat):Env :=
 ⟨fun j=>if s<=j/\j<s+n then E1.lv (j - s) else E.lv j,fun j=>if s<=j/\j<s+n then E1.ι (j - s) else E.ι j,
  fun j=>if s<=j/\j<s+n then E1.κ (j - s) else E.κ j,fun j=>if s<=j/\j<s+n then E1.η (j - s) else E.η j,
  fun j x=>if s<=j/\j<s+n then E1.σ (j - s) x else E.σ j x⟩
theorem Env.Mf (E E1:Env) (s n j:Nat) (h:s<=j/\j<s+n):(E.join E1 s n).lv j=E1.lv (j - s)/\(E.join E1 s n).ι j=E1.ι (j - s)/\(E.join E1 s n).κ j=E1.κ (j - s)/\(E.join E1 s n).η j=E1.η (j - s):=by
 simp [Env.join,h]
theorem Env.IG (E E1:Env) (s n j:Nat) (h:¬ (s<=j/\j<s+n)):(E.join E1 s n).lv j=E.lv j/\(E.join E1 s n).ι j=E.ι j/\(E.join E1 s n).κ j=E.κ j/\(E.join E1 s n).η j=E.η j:=by
 unfold Env.join;exact ⟨if_neg h,if_neg h,if_neg h,if_neg h⟩
theorem Env.rQ {E E1:Env} {s n j x:Nat} (h:(E.join E1 s n).has j x):(¬ (s<=j/\j<s+n)/\E.has j x)∨((s<=j/\j<s+n)/\E1.has (j - s) x):=by
 by_cases hj:s<=j/\j<s+n
 · simp only [Env.has,Env.join,if_pos hj] at h
   exact .inr ⟨hj,h⟩
 · simp only [Env.has,Env.join,if_neg hj] at h
   exact .inl ⟨hj,h⟩
theorem Ba {Hs H H1 H2:HH} {E E1:Env} {w w1:World} {M M2:List ay} {mv:List Nat} {nid:Nat} (hC:Conc H E w M) (hC1:Conc H1 E1 w1 M2) (hE:bF mv Hs E0 w H1 E1 w1) (h12:H.le H2) (htf:(H2 true).le (H2 false))
 (himm:∀ b o,H2 false b=some o->w1.heap[b]? = some o) (hnew:∀ c b o,H2 c b=some o->H c b=some o∨(w.heap.size<=b/\∃ c',H1 c' b=some o))
 (hblk:∀ i,bV H2 E1 w1 i (getM M2 i)) (hd:∀ k,k<len M2->getM M (nid+k)=.dead) :
 E1.via (E.join E1 nid (len M2)) (shift nid)/\Conc H2 (E.join E1 nid (len M2)) w1 (place M nid nid M2)/\bF [] H E w H2 (E.join E1 nid (len M2)) w1:=by
 have hkeep:∀ b,b<w.heap.size->w1.heap[b]? = w.heap[b]?:=fun b hb=>hE.keep b hb fun i hl=>oV hl
 have hown1:∀ i b,E1.has i b->w.heap.size<=b:=fun i b hl=>by
  rcases hE.own i b hl with ⟨j,hj⟩ | h
  · exact (oV hj).elim
  · exact h
 have hout:∀ j,E.lv j=true->¬ (nid<=j/\j<nid+len M2):=by
  intro j hl ⟨h1,h2⟩
  have h3:=hd (j - nid) (by omega)
  rw [show nid+(j - nid)=j from by omega] at h3
  have:=hC.blk j
  rw [h3] at this
  rw [show E.lv j=false from this] at hl;cases hl
 have hvia1:E1.via (E.join E1 nid (len M2)) (shift nid):=by
  intro i j hij hl
  cases hij
  have hlt:=hC1.Mx hl
  obtain ⟨e1,e2,e3,e4⟩:=E.Mf E1 nid (len M2) (i+nid) ⟨by omega,by omega⟩
  rw [Nat.add_sub_cancel] at e1 e2 e3 e4
  exact ⟨e1.trans hl,e2,e3,e4⟩
 have hvia:E.via (E.join E1 nid (len M2)) some:=by
  intro i j hij hl
  cases hij
  obtain ⟨e1,e2,e3,e4⟩:=E.IG E1 nid (len M2) i (hout i hl)
  exact ⟨e1.trans hl,e2,e3,e4⟩
 refine ⟨hvia1,⟨himm,hC.tf.up h12 htf,fun j=>?_,fun i j b hi hj=>?_,fun i b hi=>?_,fun i b hi hib=>?_⟩,⟨hE.os,hE.tape,hE.output,hE.size,fun b hb _=>hkeep b hb,fun j b hl=>?_,h12,fun c b o ho=>?_,fun i hl _=>hvia i i rfl hl⟩⟩
 · rw [zT]
   by_cases h:nid<=j/\j<nid+len M2
   · rw [if_pos h]
     obtain ⟨e1,e2,e3,e4⟩:=E.Mf E1 nid (len M2) j h
     exact (hblk (j - nid)).move (HH.le_refl _) hvia1 e1 e2 e3 e4 (fun b=>by simp [Env.join,h]) fun _ _=>rfl
   · rw [if_neg h]
     obtain ⟨e1,e2,e3,e4⟩:=E.IG E1 nid (len M2) j h
     have:=(hC.blk j).move (f:=some) (w':=w1) (i':=j) h12 hvia e1 e2 e3 e4 (fun b=>by simp only [Env.join,if_neg h]) fun b hb=>hkeep b (hC.o9 hb)
     rwa [eD] at this
 · rcases Env.rQ hi with ⟨_,a1⟩ | ⟨h1,a1⟩<;>rcases Env.rQ hj with ⟨_,b1⟩ | ⟨h2,b1⟩
   · exact hC.injH i j b a1 b1
   · have:=hC.o9 a1;have:=hown1 _ b b1;omega
   · have:=hC.o9 b1;have:=hown1 _ b a1;omega
   · have:=hC1.injH _ _ b a1 b1;omega
 · cases hx:H2 false b with
   | none=>rfl
   | some o =>
     rcases Env.rQ hi with ⟨_,a1⟩ | ⟨_,a1⟩
     · rcases hnew false b o hx with h | ⟨h,_⟩
       · rw [hC.sepH i b a1] at h;cases h
       · have:=hC.o9 a1;omega
     · have hge:=hown1 _ b a1
       rcases hnew false b o hx with h | ⟨_,c',h⟩
       · have:=IH.p8 hC.imm h;omega
       · have h':H1 false b=some o:=by cases c';exact h;exact hC1.tf.1 b o h
         rw [hC1.sepH _ b a1] at h';cases h'
 · rcases Env.rQ ⟨hi,.inr hib⟩ with ⟨_,a1⟩ | ⟨_,a1⟩
   · have:=hC.o9 a1;have:=hE.size;omega
   · exact hC1.o9 a1
 · rcases Env.rQ hl with ⟨_,a1⟩ | ⟨_,a1⟩
   · exact .inl ⟨j,a1⟩
   · exact .inr (hown1 _ b a1)
 · rcases hnew c b o ho with h | ⟨h,_⟩
   · exact .inl h
   · exact .inr (.inl h)
theorem BG {H:HH} {w:World} (hi:∀ b o,H false b=some o->w.heap[b]? = some o) (ht:HOk H):Conc H E0 w [] :=
 ⟨hi,ht,fun i=>by rw [dJ];rfl,fun i j b h=>(oV h).elim,fun i b h=>(oV h).elim,fun i b h=>by simp [E0] at h⟩
def TD:List ay->Prop
 | []=>True
 | B::r=>(match B with | .row _ sz n _ c=>∀ k,k<n->∀ j,j<sz->fC (c k j)=true | .trow _ sz n _ c op _=>Wt op/\∀ k,k<n->Cr (eP (c k) 0 sz) | B=>ZQ B=true)/\TD r
theorem Dz:∀ {M:List ay},TD M->∀ i,Hg (getM M i)
 | [],_,i=>by rw [dJ];exact (rfl:ZQ .dead=true)
 | B::r,h,0=>by
   have:=h.1
   show Hg B
   cases B<;>exact this
 | B::r,h,i+1=>Dz h.2 i
theorem dD.borrow {P:Program} {f:FuncId} {n nid:Nat} {args:List AV} {M M2:List ay} {r:AV} {mv:List Nat} {rd:Nat->ay} (hrd:∀ i,rd i=.dead∨rd i=getM M i) (h:dD P f (BU n rd args) [] r M2 mv) (ht:fC r=true) (hb:∀ i,Hg (getM M2 i))
 (hd:∀ k,k<len M2->getM M (nid+k)=.dead):dD P f args M (ren (shift nid) r) (place M nid nid M2) []:=by
 intro H E w vals hC hargs
 refine (h (HB H w) E0 w vals (BG (fun b o hb=>hb) (hC.tf.up (vQ hC.imm) (afY hC.imm hC.tf.1))) (Io hC hrd n hargs)).mono ?_
 rintro e w1 ⟨v,H1,E1,rfl,hr,hC1,hE1⟩
 have hH1:∀ b o,H1 true b=some o->H true b=some o∨w.heap.size<=b:=fun b o hbo=>by
  rcases hE1.new true b o hbo with h | h | ⟨i,hi⟩
  · exact .inl h
  · exact .inr h
  · exact (oV hi).elim
 let H2:HH:=fun c b=>match H c b with | some o=>some o | none=>H1 true b
 have h12:H.le H2:=fun c b o ho=>by show (match H c b with | some o=>some o | none=>H1 true b)=some o;rw [ho]
 have h1t:HH.le (fun _=>H1 true) H2:=fun c b o ho=>by
  show (match H c b with | some o=>some o | none=>H1 true b)=some o
  cases hx:H c b with
  | none=>exact ho
  | some o' =>
    have hx':H false b=some o':=by cases c;exact hx;exact hC.tf.1 b o' hx
    rcases hH1 b o ho with h | h
    · have:=hC.tf.1 b o h
      rw [hx'] at this
      exact this
    · have:=IH.p8 hC.imm hx'
      omega
 have hsplit:∀ c b o,H2 c b=some o->H c b=some o∨H1 true b=some o:=fun c b o ho=>by
  have ho:(match H c b with | some o=>some o | none=>H1 true b)=some o:=ho
  cases hx:H c b with
  | none=>rw [hx] at ho;exact .inr ho
  | some o'=>rw [hx] at ho;exact .inl ho
 have hkeep:∀ b,b<w.heap.size->w1.heap[b]? = w.heap[b]?:=fun b hb=>hE1.keep b hb fun i hl=>oV hl
 obtain ⟨g1,g2,g3⟩:=Ba (H2:=H2) (nid:=nid) hC hC1 hE1 h12 (fun b o ho=>by
  rcases hsplit true b o ho with h | h
  · exact h12 false b o (hC.tf.1 b o h)
  · exact h1t false b o h) (fun b o ho=>by
  rcases hsplit false b o ho with h | h
  · rw [hkeep b (IH.p8 hC.imm h)];exact hC.imm b o h
  · exact hC1.imm b o (hC1.tf.1 b o h)) (fun c b o ho=>by
  rcases hsplit c b o ho with h | h
  · exact .inl h
  · rcases hH1 b o h with h' | h'
    · left
      cases c
      · exact hC.tf.1 b o h'
      · exact h'
    · exact .inr ⟨h',true,h⟩) (fun i=>by
  have:=((hC1.blk i).tag (hb i)).move (f:=some) (E':=E1) (w':=w1) (i':=i) h1t (fun a c hc hl=>by cases hc;exact ⟨hl,rfl,rfl,rfl⟩) rfl rfl rfl rfl (fun _=>Iff.rfl) fun _ _=>rfl
  rwa [eD] at this) hd
 exact ⟨v,H2,_,rfl,Rel.mono _ h1t (Rel.ren _ g1 (Rel.tag _ ht hr)),g2,g3⟩
mutual
theorem vJ:∀ (a:AV) {g:AV->AV} {H:HH} {E:Env} {v:Value},(H true).le (H false)->dR a=true->Rel a H E v->Rel (zD g a) H E0 v
 | .s _,_,_,_,_,_,_,h=>h
 | .y _,_,_,_,_,_,_,h=>h
 | .junk,_,_,_,_,_,_,_=>trivial
 | .ptr ..,_,_,_,_,_,h,_=>by simp [Go.Ax.dR] at h
 | .own ..,_,_,_,_,_,h,_=>by simp [Go.Ax.dR] at h
 | .sl ..,_,_,_,_,_,_,h=>h
 | .ys ..,_,_,_,_,_,_,h=>h
 | .yn ..,_,_,_,_,_,_,h=>h
 | .ip ..,_,_,_,_,_,_,h=>h
 | .opt ..,_,_,_,_,_,_,h=>h
 | .agg cs,_,_,_,_,ht,hn,h=>by
   obtain ⟨vs,hu,hr⟩:=h
   exact ⟨vs,hu,nZ cs ht hn hr⟩
 | .tup cs,_,_,_,_,ht,hn,h=>by
   obtain ⟨vs,hu,hr⟩:=h
   exact ⟨vs,hu,nZ cs ht hn hr⟩
 | .fn f a b,_,_,_,_,ht,hn,h=>by
   obtain ⟨x,y,hu,h1,h2⟩:=h
   simp [Go.Ax.dR] at hn
   exact ⟨x,y,hu,nZ a ht hn.1 h1,nZ b ht hn.2 h2⟩
 | .ifc t a,_,_,_,_,ht,hn,h=>by
   obtain ⟨x,hu,h1⟩:=h
   exact ⟨x,hu,vJ a ht hn h1⟩
theorem nZ:∀ (l:List AV) {g:AV->AV} {H:HH} {E:Env} {vs:List Value},(H true).le (H false)->dS l=true->aA l H E vs->aA (rE g l) H E0 vs
 | [],_,_,_,_,_,_,h=>h
 | a::as,_,_,_,_,ht,hn,h=>by
   obtain ⟨v,r,hv,h1,h2⟩:=h
   simp [dS] at hn
   exact ⟨v,r,hv,vJ a ht hn.1 h1,nZ as ht hn.2 h2⟩
theorem Jd:∀ (a:AV) {g:AV->AV} {H:HH} {v:Value},(H true).le (H false)->Rel a H E0 v->Rel (zD g a) H E0 v
 | .s _,_,_,_,_,h=>h
 | .y _,_,_,_,_,h=>h
 | .junk,_,_,_,_,_=>trivial
 | .ptr ..,_,_,_,_,h=>by obtain ⟨hl,_⟩:=h;simp [E0] at hl
 | .own ..,_,_,_,_,h=>by obtain ⟨hl,_⟩:=h;simp [E0] at hl
 | .sl ..,_,_,_,_,h=>h
 | .ys ..,_,_,_,_,h=>h
 | .yn ..,_,_,_,_,h=>h
 | .ip ..,_,_,_,_,h=>h
 | .opt ..,_,_,_,_,h=>h
 | .agg cs,_,_,_,ht,h=>by
   obtain ⟨vs,hu,hr⟩:=h
   exact ⟨vs,hu,oz cs ht hr⟩
 | .tup cs,_,_,_,ht,h=>by
   obtain ⟨vs,hu,hr⟩:=h
   exact ⟨vs,hu,oz cs ht hr⟩
 | .fn f a b,_,_,_,ht,h=>by
   obtain ⟨x,y,hu,h1,h2⟩:=h
   exact ⟨x,y,hu,oz a ht h1,oz b ht h2⟩
 | .ifc t a,_,_,_,ht,h=>by
   obtain ⟨x,hu,h1⟩:=h
   exact ⟨x,hu,Jd a ht h1⟩
theorem oz:∀ (l:List AV) {g:AV->AV} {H:HH} {vs:List Value},(H true).le (H false)->aA l H E0 vs->aA (rE g l) H E0 vs
 | [],_,_,_,_,h=>h
 | a::as,_,_,_,ht,h=>by
   obtain ⟨v,r,hv,h1,h2⟩:=h
   exact ⟨v,r,hv,Jd a ht h1,oz as ht h2⟩
end
theorem Iy {H:HH} {E:Env} {n:Nat} {rd:Nat->ay} (ht:(H true).le (H false)):∀ {l:List AV} {vs:List Value},dS l=true->aA l H E vs->aA (BU n rd l) H E0 vs
 | [],_,_,h=>h
 | a::_,_,hn,h=>by
   obtain ⟨v,r,hv,h1,h2⟩:=h
   simp [dS] at hn
   refine ⟨v,r,hv,?_,Iy ht hn.2 h2⟩
   cases n with
   | zero=>exact vJ a ht hn.1 h1
   | succ n=>exact vJ a ht hn.1 h1
theorem dD.direct {P:Program} {f:FuncId} {n nid:Nat} {args:List AV} {M M2:List ay} {r:AV} {mv:List Nat} {rd:Nat->ay} (h:dD P f (BU n rd args) [] r M2 mv) (hno:dS args=true)
 (hd:∀ k,k<len M2->getM M (nid+k)=.dead):dD P f args M (ren (shift nid) r) (place M nid nid M2) []:=by
 intro H E w vals hC hargs
 refine (h H E0 w vals (BG hC.imm hC.tf) (Iy hC.tf.1 hno hargs)).mono ?_
 rintro e w1 ⟨v,H1,E1,rfl,hr,hC1,hE1⟩
 obtain ⟨g1,g2,g3⟩:=Ba (H2:=H1) (nid:=nid) hC hC1 hE1 hE1.hh hC1.tf.1 hC1.imm (fun c b o ho=>by
  rcases hE1.new c b o ho with h | h | ⟨i,hi⟩
  · exact .inl h
  · exact .inr ⟨h,c,ho⟩
  · exact (oV hi).elim) hC1.blk hd
 exact ⟨v,H1,_,rfl,Rel.ren _ g1 hr,g2,g3⟩
theorem Pq {P:Program} {o:Oper} {T:Nat->AV} {fo:Operand} {args:Array Operand} {ats:Array TypeId} {g:FuncId} {first cap:List AV} {fn:Func} {M M':List ay} {r:AV} {mv:List Nat}
 (hop:o.op=.call { callee:=.value fo,args,argTypes:=ats }) (hf:ev T fo=.fn (.func g) first cap) (hg:P.funcs[g]? = some fn) (hn:(fn.name == "runtime.NumGoroutine")=false) (hb:fn.body.isNone=false)
 (h:dD P g (first++args.toList.map (ev T)++cap) M r M' mv) :
 ∀ H E w a (K:Act->World->Prop) (Q:Exit->Act->World->Prop),Conc H E w M->ji T H E a->(∀ v w' H' E',Rel r H' E' v->Conc H' E' w' M'->bF mv H E w H' E' w'->K (a.put o.dst v) w')->o.wp P a w K Q:=by
 intro H E w a K Q hC hT hk
 have hr:=aM hT fo
 rw [hf] at hr
 obtain ⟨x,y,hv,h1,h2⟩:=hr
 have hargs:aA (first++args.toList.map (ev T)++cap) H E (x++args.map a.eval++y).toList:=by
  have:=fG (fG h1 (mZ hT args.toList)) h2
  simpa using this
 have hrun:(execOp a.eval o).run P w=.ok (.enter g (x++args.map a.eval++y)) w:=by
  have hn':¬ fn.name = "runtime.NumGoroutine" := by simpa using hn
  have hb':¬ fn.body=none:=fun e=>by simp [e] at hb
  simp [execOp,hop,resolve,hv,Deferred.ofValue,invoke,callFunc,hg,hn',hb']
 unfold Oper.wp
 rw [hrun]
 refine (h H E w _ hC hargs).mono ?_
 rintro e w' ⟨v,H',E',rfl,hr',hC',hE'⟩
 exact hk v w' H' E' hr' hC' hE'
end Go.Ax
