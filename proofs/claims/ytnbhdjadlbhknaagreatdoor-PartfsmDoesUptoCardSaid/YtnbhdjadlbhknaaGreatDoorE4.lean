import Derived.Test.YtnbhdjadlbhknaaGreatDoorE3
set_option linter.unusedVariables false
set_option linter.unusedSimpArgs false
set_option linter.unusedSectionVars false
namespace Go.Ax
open Go
variable [Inhabited jY]
structure St where
 t:List AV
 m:List ay
 mv:List Nat
def bT (P:Program) (c:Code) (st:St) (x:Exit) (st':St):Prop :=
 (∀ i∈st.mv,i∈st'.mv) /\
 ∀ H E w a,Conc H E w st.m->aA st.t H E a.tmps.toList->a.defers=[] ->
  c.wp P (fun x' a' w'=>∃ H' E',x'=x/\a'.defers=[]/\aA st'.t H' E' a'.tmps.toList/\Conc H' E' w' st'.m/\bE st'.mv H E w H' E' w') a w
def dB (P:Program) (f:FuncId) (args:List AV) (M:List ay) (r:AV) (M':List ay) (mv:List Nat):Prop :=
 ∀ H E w vals,Conc H E w M->aA args H E vals.toList ->
  Calls P f vals w fun e w'=>∃ v H' E',e=.returned v/\Rel r H' E' v/\Conc H' E' w' M'/\bE mv H E w H' E' w'
theorem bT.skip {P:Program} {st:St}:bT P .skip st .normal st :=
 ⟨fun _ h=>h,fun H E _ _ hC hT hd=>wp_skip ⟨H,E,rfl,hd,hT,hC,bE.refl _ _ _ _⟩⟩
theorem bT.ret {P:Program} {st:St}:bT P .ret st .ret st :=
 ⟨fun _ h=>h,fun H E _ _ hC hT hd=>wp_ret ⟨H,E,rfl,hd,hT,hC,bE.refl _ _ _ _⟩⟩
theorem bT.exit {P:Program} {st:St} {id:Nat}:bT P (.exit id) st (.exit id) st :=
 ⟨fun _ h=>h,fun H E _ _ hC hT hd=>wp_exit ⟨H,E,rfl,hd,hT,hC,bE.refl _ _ _ _⟩⟩
theorem bT.seq {P:Program} {c d:Code} {s s1 s2:St} {x:Exit} (h:bT P c s .normal s1) (k:bT P d s1 x s2):bT P (.seq c d) s x s2:=by
 refine ⟨fun i hi=>k.1 i (h.1 i hi),fun H E w a hC hT hd=>wp_seq (wp_mono (h.2 H E w a hC hT hd) ?_)⟩
 rintro x' a' w' ⟨H1,E1,rfl,hd1,hT1,hC1,hE1⟩
 refine wp_mono (k.2 H1 E1 w' a' hC1 hT1 hd1) ?_
 rintro x2 a2 w2 ⟨H2,E2,rfl,hd2,hT2,hC2,hE2⟩
 exact ⟨H2,E2,rfl,hd2,hT2,hC2,hE1.trans hE2 k.1⟩
theorem bT.Wy {P:Program} {c d:Code} {s s1:St} {x:Exit} (hx:x≠.normal) (h:bT P c s x s1):bT P (.seq c d) s x s1:=by
 refine ⟨h.1,fun H E w a hC hT hd=>wp_seq (wp_mono (h.2 H E w a hC hT hd) ?_)⟩
 rintro x' a' w' ⟨H1,E1,rfl,hd1,hT1,hC1,hE1⟩
 cases x'<;>first | exact absurd rfl hx | exact ⟨H1,E1,rfl,hd1,hT1,hC1,hE1⟩
theorem bT.cond {P:Program} {c:Operand} {d e:Code} {s s1:St} {x:Exit} {b:Bool} (hc:ev (get s.t) c=.s (.bool b)) (h:bT P (if b then d else e) s x s1):bT P (.cond c d e) s x s1:=by
 refine ⟨h.1,fun H E w a hC hT hd=>?_⟩
 have hr:=aL (kg hT) c
 rw [hc] at hr
 exact wp_cond hr.1 (h.2 H E w a hC hT hd)
theorem bT.block {P:Program} {c:Code} {s s1:St} {x:Exit} {id:Nat} (h:bT P c s x s1) (hx:x≠.exit id):bT P (.block id c) s x s1:=by
 refine ⟨h.1,fun H E w a hC hT hd=>wp_block (wp_mono (h.2 H E w a hC hT hd) ?_)⟩
 rintro x' a' w' ⟨H1,E1,rfl,hd1,hT1,hC1,hE1⟩
 cases x' with
 | exit j =>
   have:j≠id:=fun e=>hx (by rw [e])
   simp only [Exit.inBlock,this,if_false]
   exact ⟨H1,E1,trivial,hd1,hT1,hC1,hE1⟩
 | _=>exact ⟨H1,E1,rfl,hd1,hT1,hC1,hE1⟩
theorem bT.KS {P:Program} {c:Code} {s s1:St} {id:Nat} (h:bT P c s (.exit id) s1):bT P (.block id c) s .normal s1:=by
 refine ⟨h.1,fun H E w a hC hT hd=>wp_block (wp_mono (h.2 H E w a hC hT hd) ?_)⟩
 rintro x' a' w' ⟨H1,E1,rfl,hd1,hT1,hC1,hE1⟩
 simp only [Exit.inBlock,if_true]
 exact ⟨H1,E1,trivial,hd1,hT1,hC1,hE1⟩
def fT (P:Program) (c:Code) (n:Nat) (st:St) (x:Exit) (st':St):Prop :=
 (∀ i∈st.mv,i∈st'.mv) /\
 ∀ H E w a,Conc H E w st.m->aA st.t H E a.tmps.toList->a.defers=[] ->
  Code.rounds P c (fun x' a' w'=>∃ H' E',x'=x/\a'.defers=[]/\aA st'.t H' E' a'.tmps.toList/\Conc H' E' w' st'.m/\bE st'.mv H E w H' E' w') n a w
theorem bT.loop {P:Program} {c:Code} {n:Nat} {s s1:St} {x:Exit} (h:fT P c n s x s1):bT P (.loop c) s x s1 :=
 ⟨h.1,fun H E w a hC hT hd=>wp_loop_rounds n (h.2 H E w a hC hT hd)⟩
theorem kG {P:Program} {c:Code} {Q Q':Exit->Act->World->Prop} (hq:∀ e a w,Q e a w->Q' e a w):∀ n a w,Code.rounds P c Q n a w->Code.rounds P c Q' n a w
 | 0,_,_,h=>h
 | n+1,a,w,h=>wp_mono h fun e a' w' he=>by
   cases e with
   | normal=>exact kG hq n a' w' he
   | _=>exact hq _ _ _ he
theorem fT.out {P:Program} {c:Code} {s s1:St} {x:Exit} (hx:x≠.normal) (h:bT P c s x s1):fT P c 1 s x s1:=by
 refine ⟨h.1,fun H E w a hC hT hd=>wp_mono (h.2 H E w a hC hT hd) ?_⟩
 rintro x' a' w' ⟨H1,E1,rfl,hd1,hT1,hC1,hE1⟩
 cases x'<;>first | exact absurd rfl hx | exact ⟨H1,E1,rfl,hd1,hT1,hC1,hE1⟩
theorem fT.next {P:Program} {c:Code} {n:Nat} {s s1 s2:St} {x:Exit} (h:bT P c s .normal s1) (k:fT P c n s1 x s2):fT P c (n+1) s x s2:=by
 refine ⟨fun i hi=>k.1 i (h.1 i hi),fun H E w a hC hT hd=>wp_mono (h.2 H E w a hC hT hd) ?_⟩
 rintro x' a' w' ⟨H1,E1,rfl,hd1,hT1,hC1,hE1⟩
 refine kG ?_ n a' w' (k.2 H1 E1 w' a' hC1 hT1 hd1)
 rintro x2 a2 w2 ⟨H2,E2,rfl,hd2,hT2,hC2,hE2⟩
 exact ⟨H2,E2,rfl,hd2,hT2,hC2,hE1.trans hE2 k.1⟩
def St.le (s s':St):Prop :=
 (∀ i∈s.mv,i∈s'.mv)/\∀ H E w vs,Conc H E w s.m->aA s.t H E vs->∃ E',Conc H E' w s'.m/\aA s'.t H E' vs/\bE s'.mv H E w H E' w
theorem St.le_refl (s:St):s.le s:=⟨fun _ h=>h,fun _ E _ _ hC hT=>⟨E,hC,hT,bE.refl _ _ _ _⟩⟩
theorem bT.weak {P:Program} {c:Code} {s s1 s2:St} {x:Exit} (h:bT P c s x s1) (k:s1.le s2):bT P c s x s2:=by
 refine ⟨fun i hi=>k.1 i (h.1 i hi),fun H E w a hC hT hd=>wp_mono (h.2 H E w a hC hT hd) ?_⟩
 rintro x' a' w' ⟨H1,E1,rfl,hd1,hT1,hC1,hE1⟩
 obtain ⟨E2,hC2,hT2,hE2⟩:=k.2 H1 E1 w' _ hC1 hT1
 exact ⟨H1,E2,rfl,hd1,hT2,hC2,hE1.trans hE2 k.1⟩
theorem bT.pre {P:Program} {c:Code} {s0 s s1:St} {x:Exit} (k:s0.le s) (h:bT P c s x s1):bT P c s0 x s1:=by
 refine ⟨fun i hi=>h.1 i (k.1 i hi),fun H E w a hC hT hd=>?_⟩
 obtain ⟨E2,hC2,hT2,hE2⟩:=k.2 H E w _ hC hT
 refine wp_mono (h.2 H E2 w a hC2 hT2 hd) ?_
 rintro x' a' w' ⟨H1,E1,rfl,hd1,hT1,hC1,hE1⟩
 exact ⟨H1,E1,rfl,hd1,hT1,hC1,hE2.trans hE1 h.1⟩
theorem fT.pre {P:Program} {c:Code} {n:Nat} {s0 s s1:St} {x:Exit} (k:s0.le s) (h:fT P c n s x s1):fT P c n s0 x s1:=by
 refine ⟨fun i hi=>h.1 i (k.1 i hi),fun H E w a hC hT hd=>?_⟩
 obtain ⟨E2,hC2,hT2,hE2⟩:=k.2 H E w _ hC hT
 refine kG ?_ n a w (h.2 H E2 w a hC2 hT2 hd)
 rintro x' a' w' ⟨H1,E1,rfl,hd1,hT1,hC1,hE1⟩
 exact ⟨H1,E1,rfl,hd1,hT1,hC1,hE2.trans hE1 h.1⟩
def Cu (t:List AV) (d:Option Nat) (v:AV):List AV:=match d with | some i=>set t i v | none=>t
theorem VD {H:HH} {E:Env} {t:List AV} {vs:Array Value} {i:Nat} {v:AV} {u:Value} (h:aA t H E vs.toList) (hv:Rel v H E u):aA (set t i v) H E (vs.setIfInBounds i u).toList:=by
 have hl:=aA.length h
 refine gB (by rw [length_set];simpa using hl) fun j x hx=>?_
 rw [wH]
 simp only [Array.toList_setIfInBounds,List.getElem?_set] at hx
 by_cases hij:i=j
 · subst hij
   rw [if_pos rfl] at hx
   split at hx
   · rename_i hlt
     cases hx
     rw [if_pos ⟨rfl,by omega⟩];exact hv
   · cases hx
 · rw [if_neg hij] at hx
   rw [if_neg (by simp [hij])]
   exact bn h _ _ hx
theorem rM {H:HH} {E:Env} {t:List AV} {a:Act} {d:Option Nat} {v:AV} {u:Value} (h:aA t H E a.tmps.toList) (hv:Rel v H E u):aA (Cu t d v) H E (a.put d u).tmps.toList:=by
 cases d with
 | none=>exact h
 | some i=>exact VD h hv
theorem put_defers (a:Act) (d:Option Nat) (u:Value):(a.put d u).defers=a.defers:=by cases d<;>rfl
def BN (ops:Array Oper) (t:Nat->AV) (o:Oper):Option Bool :=
 match o.guard with
 | none=>some true
 | some (j,want)=>match (ops[j]?).bind (·.dst) with
   | none=>some false
   | some d=>match t d with
     | .s (.bool b)=>some (b==want)
     | .s (.int ..) | .agg _ | .tup _=>some false
     | _=>none
theorem lS {ops:Array Oper} {t:Nat->AV} {o:Oper} {b:Bool} {H:HH} {E:Env} {a:Act} (hT:iY t H E a) (h:BN ops t o=some b):Region.wanted o (yielded ops a.tmps)=b:=by
 unfold BN at h
 unfold Region.wanted
 split at h
 · rename_i hg;rw [hg];cases h;rfl
 · rename_i j want hg
   rw [hg]
   simp only [yielded]
   split at h
   · rename_i hd
     rw [hd];cases h;rfl
   · rename_i d hd
     rw [hd]
     simp only [Option.bind_some]
     have hr:=hT d
     have hget:∀ v,a.tmps.getD d undef=v->v≠undef->a.tmps[d]? = some v:=by
      intro v hv hne
      rcases Nat.lt_or_ge d a.tmps.size with hlt | hge
      · rw [Array.getElem?_eq_getElem hlt];simp [hlt] at hv;rw [hv]
      · exfalso;apply hne;rw [<- hv];simp [hge]
     split at h
     · rename_i x he
       rw [he] at hr
       obtain ⟨hr,_⟩:=hr
       rw [hget _ hr (by simp [undef])];cases h
       cases x<;>cases want<;>rfl
     · rename_i k n he
       rw [he] at hr
       obtain ⟨hr,_⟩:=hr
       rw [hget _ hr (by simp [undef])];cases h;rfl
     · rename_i cs he
       rw [he] at hr
       obtain ⟨vs,hr,_⟩:=hr
       rw [hget _ hr (by simp [undef])];cases h;rfl
     · rename_i cs he
       rw [he] at hr
       obtain ⟨vs,hr,_⟩:=hr
       cases h
       rcases Nat.lt_or_ge d a.tmps.size with hlt | hge
       · rw [Array.getElem?_eq_getElem hlt]
         simp [hlt] at hr
         rw [hr];rfl
       · rw [Array.getElem?_eq_none hge];rfl
     · cases h
structure Stp where
 r:AV
 m:List ay
 kl:List Nat
 ob:List Prop
def St.app (st:St) (d:Option Nat) (e:Stp):St:=⟨Cu (Dl e.kl st.t) d e.r,e.m,e.kl++st.mv⟩
def Hold (l:List Prop):Prop:=∀ p∈l,p
theorem Hold.append {a b:List Prop} (h:Hold (a++b)):Hold a/\Hold b:=⟨fun x hx=>h x (by simp [hx]),fun x hx=>h x (by simp [hx])⟩
def EU (P:Program) (o:Oper) (st:St) (e:Stp):Prop :=
 ∀ H E w a (K:Act->World->Prop) (Q:Exit->Act->World->Prop),Conc H E w st.m->aA st.t H E a.tmps.toList->a.defers=[] ->
  (∀ v w' H' E',Rel e.r H' E' v->Conc H' E' w' e.m->bE e.kl H E w H' E' w'->K (a.put o.dst v) w')->o.wp P a w K Q
theorem Bg {P:Program} {o:Oper} {st:St} {hh:Option Hint} {nid:Nat} {e:Eff} (hd:getM st.m nid=.dead) (h:oK P hh (getM st.m) nid (get st.t) o.op=some e) (ho:All e.ob) :
 EU P o st ⟨e.r,dN e.kl (dx e.wr st.m),e.kl,e.ob.map (· = true)⟩:=by
 intro H E w a K Q hC hT hdf hk
 obtain ⟨n,v,w',E',hrun,hn,hr,hc,hev⟩:=Ht (a:=a) hC hd (kg hT) h ho
 unfold Oper.wp
 rw [hrun]
 rcases hn with rfl | ⟨rfl,rfl⟩
 · exact hk v w' H E' hr hc hev
 · exact hk undef w' H E' hr hc hev
theorem jJ:∀ (M:List ay) (i:Nat),len M<=i->getM M i=.dead
 | [],i,_=>dJ i
 | _::l,0,h=>by simp [len] at h
 | _::l,i+1,h=>jJ l i (by simpa [len] using h)
def Oc (P:Program) (hh:Nat->Option Hint) (cf:Nat->Oper->St->Option Stp) (all:Array Oper):List Oper->Nat->St->Option (St×List Prop)
 | [],_,st=>some (st,[])
 | o::r,p,st =>
   match BN all (get st.t) o with
   | some true =>
     (match (match o.op with
       | .call { callee:=.value _,.. }=>cf p o st
       | op=>(match oK P (hh p) (getM st.m) (len st.m) (get st.t) op with
         | some e=>some ⟨e.r,dN e.kl (dx e.wr st.m),e.kl,e.ob.map (· = true)⟩
         | none=>none)) with
      | some e=>(match Oc P hh cf all r (p+1) (st.app o.dst e) with
         | some (st',ob)=>some (st',e.ob++ob)
         | none=>none)
      | none=>none)
   | some false=>Oc P hh cf all r (p+1) ⟨Cu st.t o.dst .junk,st.m,st.mv⟩
   | none=>none
theorem Fx {st:St} {d:Option Nat} {e:Stp}:∀ i∈st.mv,i∈(st.app d e).mv:=fun i hi=>by simp [St.app,hi]
theorem FW {P:Program} {hh:Nat->Option Hint} {cf:Nat->Oper->St->Option Stp} {all:Array Oper} (hcf:∀ p o st e,cf p o st=some e->Hold e.ob->EU P o st e) :
 ∀ {l:List Oper} {p:Nat} {st st':St} {ob:List Prop},(∀ j,l[j]? = all[p+j]?)->Oc P hh cf all l p st=some (st',ob)->Hold ob ->
  (∀ i∈st.mv,i∈st'.mv)/\∀ H E w a (Q:Exit->Act->World->Prop),Conc H E w st.m->aA st.t H E a.tmps.toList->a.defers=[] ->
    (∀ a' w' H' E',a'.defers=[]->aA st'.t H' E' a'.tmps.toList->Conc H' E' w' st'.m->bE st'.mv H E w H' E' w'->Q .normal a' w')->wpOps P all Q (List.range' p l.length) a w
 | [],p,st,st',ob,_,h,_=>by
   simp only [Oc] at h
   cases h
   exact ⟨fun _ h=>h,fun H E w a Q hC hT hd hq=>hq a w H E hd hT hC (bE.refl _ _ _ _)⟩
 | o::r,p,st,st',ob,hl,h,ho=>by
   have hp:all[p]? = some o:=by have:=hl 0;simpa using this.symm
   have hr:∀ j,r[j]? = all[p+1+j]?:=fun j=>by have:=hl (j+1);simp at this;rw [this];congr 1;omega
   simp only [Oc] at h
   split at h
   · rename_i hg
     split at h
     case h_2=>cases h
     rename_i e he
     split at h
     case h_2=>cases h
     rename_i st2 ob2 h2
     cases h
     obtain ⟨ho1,ho2⟩:=ho.append
     have hstep:EU P o st e:=by
      split at he
      · exact hcf p o st e he ho1
      · split at he
        case h_2=>cases he
        rename_i ef hef
        cases he
        exact Bg (jJ _ _ (Nat.le_refl _)) hef fun b hb=>ho1 (b=true) (by simp;exact hb)
     obtain ⟨hmv,hrest⟩:=FW hcf hr h2 ho2
     refine ⟨fun i hi=>hmv i (Fx i hi),fun H E w a Q hC hT hd hq=>?_⟩
     simp only [List.length_cons,List.range'_succ,wpOps,hp]
     rw [lS (kg hT) hg]
     simp only [if_true]
     refine .inl (hstep H E w a _ Q hC hT hd fun v w' H' E' hr' hC' hE'=>?_)
     refine hrest H' E' w' _ Q hC' (rM (hE'.ab' hT) hr') (by rw [put_defers];exact hd) fun a2 w2 H2 E2 hd2 hT2 hC2 hE2=>?_
     exact hq a2 w2 H2 E2 hd2 hT2 hC2 (hE'.trans hE2 fun i hi=>hmv i (by simp [St.app,hi]))
   · rename_i hg
     obtain ⟨hmv,hrest⟩:=FW hcf hr h ho
     refine ⟨hmv,fun H E w a Q hC hT hd hq=>?_⟩
     simp only [List.length_cons,List.range'_succ,wpOps,hp]
     rw [lS (kg hT) hg]
     simp only [Bool.false_eq_true,if_false]
     exact hrest H E w _ Q hC (rM hT trivial) (by rw [put_defers];exact hd) hq
   · cases h
theorem bT.region {P:Program} {hh:Nat->Option Hint} {cf:Nat->Oper->St->Option Stp} {id:Nat} {ops:Array Oper} {st st':St} {ob:List Prop} (hcf:∀ p o st e,cf p o st=some e->Hold e.ob->EU P o st e)
 (h:Oc P hh cf ops ops.toList 0 st=some (st',ob)) (ho:Hold ob):bT P (.region id ops false) st .normal st':=by
 obtain ⟨hmv,hrun⟩:=FW hcf (fun j=>by simp) h ho
 refine ⟨hmv,fun H E w a hC hT hd=>wp_region ?_⟩
 rw [List.range_eq_range']
 have:=hrun H E w a (fun x' a' w'=>∃ H' E',x'=Exit.normal/\a'.defers=[]/\aA st'.t H' E' a'.tmps.toList/\Conc H' E' w' st'.m/\bE st'.mv H E w H' E' w') hC hT hd fun a' w' H' E' h1 h2 h3 h4=>⟨H',E',rfl,h1,h2,h3,h4⟩
 simpa using this
def Ci (P:Program) (st:St):List ResultVar->Option (List AV)
 | []=>some []
 | .tmp t::r=>(match Ci P st r with | some l=>some (get st.t t::l) | none=>none)
 | .cell a ty::r=>(match P.underlying ty,get st.t a with
   | some _,.ptr i k sz o=>(match x9 P none (getM st.m) ty (.ptr i k sz o),Ci P st r with
     | some e,some l=>(match e.ob with | []=>some (e.r::l) | _=>none)
     | _,_=>none)
   | _,_=>none)
def I5:List AV->AV
 | [a]=>a
 | l=>.tup l
def ZB (tmps:Array Value):ResultVar->Sem Value
 | .tmp t=>pure (tmps.getD t undef)
 | .cell a t=>do loadVar t (<- asAddr (tmps.getD a undef))
theorem F3 {P:Program} {H:HH} {E:Env} {w:World} {st:St} {tmps:Array Value} (hC:Conc H E w st.m) (hT:aA st.t H E tmps.toList):∀ {rv:List ResultVar} {l:List AV},Ci P st rv=some l ->
 ∃ vs:List Value,(rv.mapM (ZB tmps)).run P w=.ok vs w/\aA l H E vs
 | [],l,h=>by simp [Ci] at h;subst h;exact ⟨[],rfl,rfl⟩
 | .tmp t::r,l,h=>by
   simp only [Ci] at h
   split at h
   case h_2=>cases h
   rename_i l' hl
   cases h
   obtain ⟨vs,h1,h2⟩:=F3 hC hT hl
   refine ⟨tmps.getD t undef::vs,?_,_,_,rfl,BD hT t,h2⟩
   rw [List.mapM_cons]
   simp only [ZB,Sem.run_bind,Sem.run_pure,Result.andThen_ok,h1]
 | .cell a ty::r,l,h=>by
   simp only [Ci] at h
   split at h
   case h_2=>cases h
   rename_i d i k sz o hu hg
   split at h
   case h_2=>cases h
   rename_i e l' he hl
   split at h
   case h_2=>cases h
   rename_i hob
   cases h
   obtain ⟨vs,h1,h2⟩:=F3 hC hT hl
   have hr:=BD hT a
   rw [hg] at hr
   obtain ⟨_,u,hrun,hru⟩:=EN (P:=P) hC hr ⟨d,hu⟩ he (by rw [hob];exact all_nil)
   obtain ⟨hlv,b,hb,hv⟩:=hr
   refine ⟨u::vs,?_,_,_,rfl,hru,h2⟩
   rw [hv] at hrun
   simp only [Instr.loadAt,Instr.sureAddr,Sem.run_bind,Sem.run_pure,Result.andThen_ok] at hrun
   rw [List.mapM_cons]
   simp only [ZB,hv,asAddr,Sem.run_bind,Sem.run_pure,Result.andThen_ok,hrun,h1]
theorem KE {P:Program} {H:HH} {E:Env} {w:World} {st:St} {fn:Func} {tmps:Array Value} {l:List AV} (hC:Conc H E w st.m) (hT:aA st.t H E tmps.toList) (h:Ci P st fn.results.toList=some l) :
 ∃ v,(results fn tmps).run P w=.ok v w/\Rel (I5 l) H E v:=by
 obtain ⟨vs,h1,h2⟩:=F3 hC hT h
 refine ⟨if h:vs.toArray.size=1 then vs.toArray[0] else .tuple vs.toArray,?_,?_⟩
 · have e:results fn tmps=(do let vs <- fn.results.mapM (ZB tmps);pure (if h:vs.size=1 then vs[0] else .tuple vs)):=by
    unfold results
    congr 1
   rw [e]
   simp only [Array.mapM_eq_mapM_toList,Sem.run_bind,Sem.run_map,h1,Result.andThen_ok,Sem.run_pure]
 · have hl:=aA.length h2
   match l,vs,h2,hl with
   | [a],[v],h2,_ =>
     obtain ⟨v',r,hv,h3,_⟩:=h2
     cases hv
     simpa [I5] using h3
   | [],[],h2,_=>exact ⟨#[],rfl,h2⟩
   | a::b::c,u::v::z,h2,_ =>
     refine ⟨(u::v::z).toArray,?_,by simpa using h2⟩
     rw [dif_neg (by simp)]
def Gl (n:Nat) (args:List AV):List AV:=args++List.replicate (n - args.length) .junk
theorem CO (H:HH) (E:Env) (v:Value):∀ n,aA (List.replicate n .junk) H E (List.replicate n v)
 | 0=>rfl
 | n+1=>by rw [List.replicate_succ,List.replicate_succ];exact ⟨_,_,rfl,trivial,CO H E v n⟩
theorem dB.sN {P:Program} {f:FuncId} {fn:Func} {c:Code} {args:List AV} {M:List ay} {x:Exit} {st':St} {l:List AV} (hf:P.funcs[f]? = some fn) (hb:fn.body=some c) (hx:x=.ret∨x=.normal)
 (h:bT P c ⟨Gl fn.ntmps args,M,[]⟩ x st') (hr:Ci P st' fn.results.toList=some l):dB P f args M (I5 l) st'.m st'.mv:=by
 intro H E w vals hC hargs
 refine calls_of_wp hf hb (wp_mono (h.2 H E w _ hC ?_ rfl) ?_)
 · have hl:=aA.length hargs
   simp only [Gl,Array.toList_append,Array.toList_replicate]
   have e:vals.size=args.length:=by simpa using hl
   rw [e]
   exact fG hargs (CO H E _ _)
 · rintro x' a' w' ⟨H',E',rfl,hd',hT',hC',hE'⟩
   obtain ⟨v,hrun,hrv⟩:=KE hC' hT' hr
   rcases hx with rfl | rfl
   · exact ⟨hd',v,hrun,v,H',E',rfl,hrv,hC',hE'⟩
   · exact ⟨hd',v,hrun,v,H',E',rfl,hrv,hC',hE'⟩
mutual
def zC (g:AV->AV):AV->AV
 | .ptr i k sz o=>g (.ptr i k sz o)
 | .own i sz lo n=>g (.own i sz lo n)
 | .mref _=>.junk
 | .sl b sz n c=>.sl b sz n c
 | .ys b sz n c=>.ys b sz n c
 | .yn b sz n c=>.yn b sz n c
 | .ip b m c=>.ip b m c
 | .opt b t a=>.opt b t a
 | .agg cs=>.agg (qE g cs)
 | .tup cs=>.tup (qE g cs)
 | .fn f a b=>.fn f (qE g a) (qE g b)
 | .ifc t a=>.ifc t (zC g a)
 | .s v=>.s v
 | .y v=>.y v
 | .junk=>.junk
def qE (g:AV->AV):List AV->List AV
 | []=>[]
 | a::as=>zC g a::qE g as
end
def mapA (v:AV->AV):List AV->List AV
 | []=>[]
 | a::r=>v a::mapA v r
theorem vv {v:AV->AV} (hv:v .junk=.junk):∀ (l:List AV) (i:Nat),get (mapA v l) i=v (get l i)
 | [],i=>by cases i<;>exact hv.symm
 | a::r,0=>rfl
 | a::r,i+1=>vv hv r i
def rowAt (lo:Nat) (c:Nat->Nat->AV):Nat->Nat->AV:=match lo with
 | 0=>c
 | m+1=>fun k j=>c (m+1+k) j
theorem uN (lo:Nat) (c:Nat->Nat->AV) (k j:Nat):rowAt lo c k j=c (lo+k) j:=by
 cases lo with
 | zero=>simp [rowAt]
 | succ m=>rfl
mutual
def PU:Tr->AV
 | .av a=>a
 | .box _ _ cs=>.ip false (len cs) (get (OA cs))
 | .row _ sz n c=>.ys false sz n fun k j=>PU (c k j)
 | .frow _ sz n c=>.ys false sz n c
def OA:List Tr->List AV
 | []=>[]
 | t::ts=>PU t::OA ts
end
def aez (v:AV->AV) (B:ay) (sz lo n:Nat):AV :=
 match B with
 | .lst _ s2 _ _ cs=>if s2==sz then .sl false sz n (fun k j=>get (mapA v cs) ((lo+k)*sz+j)) else .junk
 | .row _ s2 _ _ c=>if s2==sz then .ys false sz n (rowAt lo c) else .junk
 | .trow _ s2 _ _ c op _=>(match op with | []=>if s2==sz then .ys false sz n (rowAt lo fun k j=>PU (c k j)) else .junk | _::_=>.junk)
 | _=>.junk
def aec (v:AV->AV) (B:ay) (k sz o:Nat):AV :=
 match B with
 | .box _ cs=>(match k with
   | 0=>if Nat.ble o (len cs) then .ip false (len cs - o) (fun j=>get (mapA v cs) (o+j)) else .junk
   | _+1=>.junk)
 | .lst _ s2 _ _ cs=>if s2==sz&&Nat.ble (k*sz+o) (len cs) then .ip false (len cs - (k*sz+o)) (fun j=>get (mapA v cs) (k*sz+o+j)) else .junk
 | _=>.junk
def ah3 (v:AV->AV) (rd:Nat->ay):AV->AV
 | .own i sz lo n=>aez v (rd i) sz lo n
 | .ptr i k sz o=>aec v (rd i) k sz o
 | _=>.junk
def Cz:Nat->(Nat->ay)->AV->AV
 | 0,_=>zC fun _=>.junk
 | n+1,rd=>zC (ah3 (Cz n rd) rd)
def BF (n:Nat) (rd:Nat->ay):List AV->List AV
 | []=>[]
 | a::as=>Cz n rd a::BF n rd as
def uS (w:World):IH:=fun b=>w.heap[b]?
def ahe (w:World):Prop:=∀ p∈(default:jY).hs,scalar p.2.2=true/\(uS w).cell? ⟨p.1,0,none⟩=some (.iface p.2.1 (.agg #[p.2.2]))
def HB (H:HH) (w:World):HH:=fun b=>if b then H true else uS w
theorem vg {H:HH} {w:World} (hi:∀ b o,H false b=some o->w.heap[b]? = some o):H.le (HB H w):=fun c b o h=>by
 cases c
 · exact hi b o h
 · exact h
theorem afp {H:HH} {w:World} (hi:∀ b o,H false b=some o->w.heap[b]? = some o) (ht:(H true).le (H false)):(HB H w true).le (HB H w false):=fun b o h=>hi b o (ht b o h)
theorem iK {w:World} {a:Addr} {v:Value} (h:w.cell? a=some v):(uS w).cell? a=some v:=by
 unfold World.cell? at h
 unfold IH.cell? uS
 cases hb:w.heap[a.block]? with
 | none=>simp [hb] at h
 | some o=>rw [hb] at h;cases o<;>first | exact h | simp at h
mutual
theorem vD:∀ (a:AV) {g:AV->AV} {H:HH} {E:Env} {w:World} {v:Value},(∀ b o,H false b=some o->w.heap[b]? = some o)->(H true).le (H false) ->
 (∀ i k sz o u,Rel (.ptr i k sz o) H E u->Rel (g (.ptr i k sz o)) (HB H w) E0 u)->(∀ i sz lo n u,Rel (.own i sz lo n) H E u->Rel (g (.own i sz lo n)) (HB H w) E0 u)->Rel a H E v->Rel (zC g a) (HB H w) E0 v
 | .s _,_,_,_,_,_,_,_,_,_,h=>h
 | .y _,_,_,_,_,_,_,_,_,_,h=>h
 | .junk,_,_,_,_,_,_,_,_,_,_=>trivial
 | .ptr i k sz o,_,_,_,_,_,_,_,h1,_,h=>h1 i k sz o _ h
 | .own i sz lo n,_,_,_,_,_,_,_,_,h2,h=>h2 i sz lo n _ h
 | .mref _,_,_,_,_,_,_,_,_,_,_=>trivial
 | .sl b sz n c,_,_,_,_,_,hi,_,_,_,h=>Rel.mono (.sl b sz n c) (vg hi) h
 | .ys b sz n c,_,_,_,_,_,hi,_,_,_,h=>Rel.mono (.ys b sz n c) (vg hi) h
 | .yn b sz n c,_,_,_,_,_,hi,_,_,_,h=>Rel.mono (.yn b sz n c) (vg hi) h
 | .ip b m c,_,_,_,_,_,hi,_,_,_,h=>Rel.mono (.ip b m c) (vg hi) h
 | .opt b t a,_,_,_,_,_,hi,_,_,_,h=>Rel.mono (.opt b t a) (vg hi) h
 | .agg cs,_,_,_,_,_,hi,ht,h1,h2,h=>by
   obtain ⟨vs,hu,hr⟩:=h
   exact ⟨vs,hu,nZ cs hi ht h1 h2 hr⟩
 | .tup cs,_,_,_,_,_,hi,ht,h1,h2,h=>by
   obtain ⟨vs,hu,hr⟩:=h
   exact ⟨vs,hu,nZ cs hi ht h1 h2 hr⟩
 | .fn f a b,_,_,_,_,_,hi,ht,h1,h2,h=>by
   obtain ⟨x,y,hu,h3,h4⟩:=h
   exact ⟨x,y,hu,nZ a hi ht h1 h2 h3,nZ b hi ht h1 h2 h4⟩
 | .ifc t a,_,_,_,_,_,hi,ht,h1,h2,h=>by
   obtain ⟨x,hu,h3⟩:=h
   exact ⟨x,hu,vD a hi ht h1 h2 h3⟩
theorem nZ:∀ (l:List AV) {g:AV->AV} {H:HH} {E:Env} {w:World} {vs:List Value},(∀ b o,H false b=some o->w.heap[b]? = some o)->(H true).le (H false) ->
 (∀ i k sz o u,Rel (.ptr i k sz o) H E u->Rel (g (.ptr i k sz o)) (HB H w) E0 u)->(∀ i sz lo n u,Rel (.own i sz lo n) H E u->Rel (g (.own i sz lo n)) (HB H w) E0 u)->aA l H E vs->aA (qE g l) (HB H w) E0 vs
 | [],_,_,_,_,_,_,_,_,_,h=>h
 | a::as,_,_,_,_,_,hi,ht,h1,h2,h=>by
   obtain ⟨v,r,hv,h3,h4⟩:=h
   exact ⟨v,r,hv,vD a hi ht h1 h2 h3,nZ as hi ht h1 h2 h4⟩
end
mutual
theorem JZ {H:HH} {w:World} (hi:∀ b o,H false b=some o->w.heap[b]? = some o):∀ (t:Tr) {v:Value} {S:Nat->Prop},iG H (fun b=>w.heap[b]?) t v S->Rel (PU t) (HB H w) E0 v
 | .av a,_,_,h=>Rel.mono a (vg hi) h
 | .box ty sz cs,_,_,h=>by
   obtain ⟨b,vs,rfl,h2,h3,h4,h5⟩:=h
   have h6:=Mw hi cs h5
   have hlen:=aA.length h6
   have hll:(OA cs).length=len cs:=by rw [<- Ir cs,len_eq]
   refine ⟨_,rfl,fun j hj=>?_⟩
   have hlt:j<vs.toList.length:=by omega
   refine ⟨vs.toList[j],?_,h4 _ (List.getElem_mem hlt),bn h6 _ _ (List.getElem?_eq_getElem hlt)⟩
   rw [addr_add]
   refine iK ?_
   rw [cell_of_row w b _ vs ty (0,0) h3]
   simp at hlt ⊢
 | .row ty sz n c,_,_,h=>by
   obtain ⟨κ,h1,h2,⟨rfl,rfl,rfl⟩ | ⟨b,vs,rfl,h4,h5,h6,h7,F,h8,h9,h10⟩⟩:=h
   · exact ⟨none,0,rfl,⟨Nat.le_refl _,fun _=>rfl⟩,fun h=>by omega⟩
   · refine ⟨_,_,rfl,⟨h1,fun h=>by cases h⟩,fun _=>⟨_,rfl,fun k hk j hj=>?_⟩⟩
     obtain ⟨x,g1,g2⟩:=h10 k hk j hj
     refine ⟨x,?_,h6 x ?_,JZ hi (c k j) g2⟩
     · rw [addr_add]
       refine iK ?_
       rw [cell_of_row w b _ vs ty (0,0) h5]
       simpa using g1
     · have hle:(k+1)*sz<=n*sz:=Nat.mul_le_mul_right _ hk
       rw [Nat.add_mul,Nat.one_mul] at hle
       exact List.mem_iff_getElem?.2 ⟨k*sz+j,by rw [List.getElem?_take,if_pos (by omega)];simpa using g1⟩
 | .frow ty sz n c,_,_,h=>by
   obtain ⟨κ,h1,h2,⟨rfl,rfl,rfl⟩ | ⟨b,vs,rfl,h4,h5,h6,h7,h10⟩⟩:=h
   · exact ⟨none,0,rfl,⟨Nat.le_refl _,fun _=>rfl⟩,fun h=>by omega⟩
   · refine ⟨_,_,rfl,⟨h1,fun h=>by cases h⟩,fun _=>⟨_,rfl,fun k hk j hj=>?_⟩⟩
     obtain ⟨x,g1,g2⟩:=h10 k hk j hj
     refine ⟨x,?_,h6 x ?_,Rel.mono _ (vg hi) g2⟩
     · rw [addr_add]
       refine iK ?_
       rw [cell_of_row w b _ vs ty (0,0) h5]
       simpa using g1
     · have hle:(k+1)*sz<=n*sz:=Nat.mul_le_mul_right _ hk
       rw [Nat.add_mul,Nat.one_mul] at hle
       exact List.mem_iff_getElem?.2 ⟨k*sz+j,by rw [List.getElem?_take,if_pos (by omega)];simpa using g1⟩
theorem Mw {H:HH} {w:World} (hi:∀ b o,H false b=some o->w.heap[b]? = some o):∀ (l:List Tr) {vs:List Value} {S:Nat->Prop},jc H (fun b=>w.heap[b]?) l vs S->aA (OA l) (HB H w) E0 vs
 | [],_,_,h=>h
 | t::ts,_,_,h=>by
   obtain ⟨v,r,S1,S2,rfl,_,_,_,h5,h6⟩:=h
   exact ⟨v,r,rfl,JZ hi t h5,Mw hi ts h6⟩
theorem Ir:∀ l:List Tr,len (OA l)=len l
 | []=>rfl
 | _::ts=>by simp [OA,len,Ir ts]
end
theorem uE (n:Nat) (rd:Nat->ay):Cz n rd .junk=.junk:=by cases n<;>rfl
theorem zq {H:HH} {E:Env} {w:World} {M:List ay} {rd:Nat->ay} (hC:Conc H E w M) (hrd:∀ i,rd i=.dead∨rd i=getM M i):∀ (n:Nat) {a:AV} {v:Value},Rel a H E v->Rel (Cz n rd a) (HB H w) E0 v
 | 0,a,v,h=>vD a hC.imm hC.tf.1 (fun _ _ _ _ _ _=>trivial) (fun _ _ _ _ _ _=>trivial) h
 | n+1,a,v,h=>by
   refine vD a hC.imm hC.tf.1 (fun i k sz o u hu=>?_) (fun i sz lo m u hu=>?_) h
   · obtain ⟨hl,b,hb,rfl⟩:=hu
     have hB:rd i≠.dead->bV H E w i (rd i):=fun hne=>by
      rcases hrd i with h | h
      · exact absurd h hne
      · rw [h];exact hC.blk i
     show Rel (aec (Cz n rd) (rd i) k sz o) _ _ _
     unfold aec
     split
     · rename_i ty cs hg
       cases k with
       | succ k=>trivial
       | zero=>?_
       show Rel (if Nat.ble o (len cs) then _ else _) _ _ _
       split
       · rename_i hle
         rw [hg] at hB
         have hB:=hB (by simp)
         obtain ⟨_,b',vs,h1,h2,h3,h4⟩:=hB
         rw [hb] at h1;cases h1
         have hlen:=aA.length h4
         refine ⟨_,rfl,fun j hj=>?_⟩
         rw [len_eq] at hj
         simp only [len_eq,Nat.ble_eq] at hle
         have hlt:o+j<vs.toList.length:=by omega
         refine ⟨vs.toList[o+j],?_,h3 _ (List.getElem_mem hlt),by simp only [vv (uE n rd)];exact zq hC hrd n (bn h4 _ _ (List.getElem?_eq_getElem hlt))⟩
         rw [Nat.zero_mul,Nat.zero_add,addr_add]
         refine iK ?_
         rw [cell_of_row w b _ vs ty (0,0) h2]
         simp at hlt ⊢
       · trivial
     · rename_i ty s2 m cap cs hg
       split
       · rename_i hle
         simp only [Bool.and_eq_true,beq_iff_eq,Nat.ble_eq,len_eq] at hle
         obtain ⟨rfl,hle⟩:=hle
         rw [hg] at hB
         have hB:=hB (by simp)
         obtain ⟨_,h0,_,_,h1⟩:=hB
         rw [hb] at h1
         obtain ⟨vs,h2,h3,h5,h4⟩:=h1
         have hlen:=aA.length h4
         refine ⟨_,rfl,fun j hj=>?_⟩
         rw [len_eq] at hj
         have hlt:k*s2+o+j<(vs.toList.take (m*s2)).length:=by omega
         refine ⟨(vs.toList.take (m*s2))[k*s2+o+j],?_,h3 _ (List.getElem_mem hlt),by simp only [vv (uE n rd)];exact zq hC hrd n (bn h4 _ _ (List.getElem?_eq_getElem hlt))⟩
         rw [addr_add]
         refine iK ?_
         rw [cell_of_row w b _ vs ty (0,0) h2]
         simp at hlt ⊢
       · trivial
     · trivial
   · obtain ⟨hl,hη,hm⟩:=hu
     have hB:rd i≠.dead->bV H E w i (rd i):=fun hne=>by
      rcases hrd i with h | h
      · exact absurd h hne
      · rw [h];exact hC.blk i
     show Rel (aez (Cz n rd) (rd i) sz lo m) _ _ _
     unfold aez
     split
     · rename_i ty s2 q cap cs hg
       split
       · rename_i hs
         have hs:s2=sz:=by simpa using hs
         subst hs
         rw [hg] at hB
         have hB:=hB (by simp)
         obtain ⟨_,h0,_,_,h1⟩:=hB
         cases hι:E.ι i with
         | none =>
           rw [hι] at hm
           obtain ⟨_,rfl,rfl⟩:=hm
           exact ⟨none,0,rfl,⟨Nat.le_refl _,fun _=>rfl⟩,fun h=>by omega⟩
         | some b =>
           rw [hι] at hm h1
           obtain ⟨ad,rfl,had⟩:=hm
           obtain ⟨vs,h2,h3,h5,h4⟩:=h1
           refine ⟨ad,_,rfl,⟨by omega,fun h0=>?_⟩,fun hpos=>⟨_,had.1 (.inr hpos),fun k hk j hj=>?_⟩⟩
           · exact absurd h0 had.2
           have hq:(lo+k+1)*s2<=q*s2:=Nat.mul_le_mul_right _ (by omega)
           have hqκ:q*s2<=E.κ i*s2:=Nat.mul_le_mul_right _ h0.2
           rw [Nat.add_mul,Nat.one_mul] at hq
           have hvl:vs.toList.length=E.κ i*s2:=by simpa using h5
           have hlt:(lo+k)*s2+j<(vs.toList.take (q*s2)).length:=by rw [List.length_take];omega
           refine ⟨(vs.toList.take (q*s2))[(lo+k)*s2+j],?_,h3 _ (List.getElem_mem hlt),by simp only [vv (uE n rd)];exact zq hC hrd n (bn h4 _ _ (List.getElem?_eq_getElem hlt))⟩
           rw [addr_add,<- Nat.add_assoc,<- Nat.add_mul]
           refine iK ?_
           rw [cell_of_row w b _ vs ty (0,0) h2]
           simp at hlt ⊢
       · trivial
     · rename_i ty s2 q cap c hg
       split
       · rename_i hs
         have hs:s2=sz:=by simpa using hs
         subst hs
         rw [hg] at hB
         have hB:=hB (by simp)
         obtain ⟨_,h0,_,_,h1⟩:=hB
         cases hι:E.ι i with
         | none =>
           rw [hι] at hm
           obtain ⟨_,rfl,rfl⟩:=hm
           exact ⟨none,0,rfl,⟨Nat.le_refl _,fun _=>rfl⟩,fun h=>by omega⟩
         | some b =>
           rw [hι] at hm h1
           obtain ⟨ad,rfl,had⟩:=hm
           obtain ⟨vs,h2,h3,h5,h4⟩:=h1
           refine ⟨ad,_,rfl,⟨by omega,fun h0=>?_⟩,fun hpos=>⟨_,had.1 (.inr hpos),fun k hk j hj=>?_⟩⟩
           · exact absurd h0 had.2
           obtain ⟨x,hx,hrx⟩:=h4 (lo+k) (by omega) j hj
           have hq:(lo+k+1)*s2<=q*s2:=Nat.mul_le_mul_right _ (by omega)
           rw [Nat.add_mul,Nat.one_mul] at hq
           refine ⟨x,?_,h3 x ?_,by rw [uN];exact Rel.mono _ (vg hC.imm) hrx⟩
           · rw [addr_add,<- Nat.add_assoc,<- Nat.add_mul]
             refine iK ?_
             rw [cell_of_row w b _ vs ty (0,0) h2]
             exact hx
           · refine List.mem_iff_getElem?.2 ⟨(lo+k)*s2+j,?_⟩
             rw [List.getElem?_take,if_pos (by omega)]
             simpa using hx
       · trivial
     · rename_i ty s2 q cap c op zs hg
       split
       case h_2=>trivial
       split
       · rename_i hs
         have hs:s2=sz:=by simpa using hs
         subst hs
         rw [hg] at hB
         have hB:=hB (by simp)
         obtain ⟨_,h0,_,_,h1⟩:=hB
         cases hι:E.ι i with
         | none =>
           rw [hι] at hm
           obtain ⟨_,rfl,rfl⟩:=hm
           exact ⟨none,0,rfl,⟨Nat.le_refl _,fun _=>rfl⟩,fun h=>by omega⟩
         | some b =>
           rw [hι] at hm h1
           obtain ⟨ad,rfl,had⟩:=hm
           obtain ⟨_,vs,F,h2,h4⟩:=h1
           refine ⟨ad,_,rfl,⟨by omega,fun h0=>?_⟩,fun hpos=>⟨_,had.1 (.inr hpos),fun k hk j hj=>?_⟩⟩
           · exact absurd h0 had.2
           obtain ⟨x,hx,hrx⟩:=h4.tr (lo+k) (by omega) (fun p hp=>by cases hp) j hj
           have hq:(lo+k+1)*s2<=q*s2:=Nat.mul_le_mul_right _ (by omega)
           rw [Nat.add_mul,Nat.one_mul] at hq
           refine ⟨x,?_,h4.one x ?_,by rw [uN];exact JZ hC.imm _ hrx⟩
           · rw [addr_add,<- Nat.add_assoc,<- Nat.add_mul]
             refine iK ?_
             rw [cell_of_row w b _ vs ty (0,0) h2]
             simpa using hx
           · refine List.mem_iff_getElem?.2 ⟨(lo+k)*s2+j,?_⟩
             rw [List.getElem?_take,if_pos (by omega)]
             simpa using hx
       · trivial
     · trivial
theorem Js {H:HH} {E:Env} {w:World} {M:List ay} {rd:Nat->ay} (hC:Conc H E w M) (hrd:∀ i,rd i=.dead∨rd i=getM M i) (n:Nat):∀ {l:List AV} {vs:List Value},aA l H E vs->aA (BF n rd l) (HB H w) E0 vs
 | [],_,h=>h
 | _::_,_,h=>by
   obtain ⟨v,r,hv,h1,h2⟩:=h
   exact ⟨v,r,hv,zq hC hrd n h1,Js hC hrd n h2⟩
mutual
def fC:AV->Bool
 | .sl b _ _ _=>b
 | .ys b _ _ _=>b
 | .yn b _ _ _=>b
 | .ip b _ _=>b
 | .agg cs=>iW cs
 | .tup cs=>iW cs
 | .fn _ a b=>iW a&&iW b
 | .ifc _ a=>fC a
 | .opt _ _ a=>fC a
 | _=>true
def iW:List AV->Bool
 | []=>true
 | a::as=>fC a&&iW as
end
mutual
theorem Rel.tag:∀ (a:AV) {H:HH} {E:Env} {v:Value},fC a=true->Rel a H E v->Rel a (fun _=>H true) E v
 | .s _,_,_,_,_,h=>h
 | .y _,_,_,_,_,h=>h
 | .junk,_,_,_,_,_=>trivial
 | .ptr ..,_,_,_,_,h=>h
 | .own ..,_,_,_,_,h=>h
 | .mref ..,_,_,_,_,h=>h
 | .yn b _ _ _,_,_,_,ht,h=>by
   simp only [fC] at ht
   subst ht
   exact h
 | .ys b _ _ _,_,_,_,ht,h=>by
   simp only [fC] at ht
   subst ht
   exact h
 | .sl b _ _ _,_,_,_,ht,h=>by
   simp only [fC] at ht
   subst ht
   exact h
 | .ip b _ _,_,_,_,ht,h=>by
   simp only [fC] at ht
   subst ht
   exact h
 | .agg cs,_,_,_,ht,h=>by
   obtain ⟨vs,hu,hr⟩:=h
   exact ⟨vs,hu,aA.tag cs ht hr⟩
 | .tup cs,_,_,_,ht,h=>by
   obtain ⟨vs,hu,hr⟩:=h
   exact ⟨vs,hu,aA.tag cs ht hr⟩
 | .fn f a b,_,_,_,ht,h=>by
   obtain ⟨x,y,hu,h1,h2⟩:=h
   simp [fC] at ht
   exact ⟨x,y,hu,aA.tag a ht.1 h1,aA.tag b ht.2 h2⟩
 | .ifc t a,_,_,_,ht,h=>by
   obtain ⟨x,hu,h1⟩:=h
   exact ⟨x,hu,Rel.tag a ht h1⟩
 | .opt b t a,_,_,_,ht,h=>⟨fun hb=>by
   obtain ⟨x,hu,h1⟩:=h.1 hb
   exact ⟨x,hu,Rel.tag a ht h1⟩,h.2⟩
theorem aA.tag:∀ (l:List AV) {H:HH} {E:Env} {vs:List Value},iW l=true->aA l H E vs->aA l (fun _=>H true) E vs
 | [],_,_,_,_,h=>h
 | a::as,_,_,_,ht,h=>by
   obtain ⟨v,r,hv,h1,h2⟩:=h
   simp [iW] at ht
   exact ⟨v,r,hv,Rel.tag a ht.1 h1,aA.tag as ht.2 h2⟩
end
def aat:ay->Bool
 | .box _ cs=>iW cs
 | .lst _ _ _ _ cs=>iW cs
 | .row ..=>false
 | .mp es _=>iW (es.map fun e=>e.2.1)
 | .mi ..=>true
 | .mit ..=>true
 | .tmap ..=>false
 | .trow ..=>false
 | .any=>true
 | .dead=>true
mutual
def WO:Tr->Prop
 | .av a=>fC a=true
 | .box _ _ cs=>Cg cs
 | .row _ sz n c=>∀ k,k<n->∀ j,j<sz->WO (c k j)
 | .frow _ sz n c=>∀ k,k<n->∀ j,j<sz->fC (c k j)=true
def Cg:List Tr->Prop
 | []=>True
 | t::ts=>WO t/\Cg ts
end
mutual
theorem iG.tag {H:HH} {hp:Nat->Option Obj}:∀ (t:Tr) {v:Value} {S:Nat->Prop},WO t->iG H hp t v S->iG (fun _=>H true) hp t v S
 | .av a,_,_,ht,h=>Rel.tag a (by simpa only [WO] using ht) h
 | .box ty sz cs,_,_,ht,h=>by
   simp only [WO] at ht
   obtain ⟨b,vs,h1,h2,h3,h4,h5⟩:=h
   exact ⟨b,vs,h1,h2,h3,h4,jc.tag cs ht h5⟩
 | .row ty sz n c,_,_,ht,h=>by
   simp only [WO] at ht
   obtain ⟨κ,h1,h2,h3 | ⟨b,vs,h3,h4,h5,h6,h7,F,h8,h9,h10⟩⟩:=h
   · exact ⟨κ,h1,h2,.inl h3⟩
   · refine ⟨κ,h1,h2,.inr ⟨b,vs,h3,h4,h5,h6,h7,F,h8,h9,fun k hk j hj=>?_⟩⟩
     obtain ⟨x,g1,g2⟩:=h10 k hk j hj
     exact ⟨x,g1,iG.tag (c k j) (ht k hk j hj) g2⟩
 | .frow ty sz n c,_,_,ht,h=>by
   simp only [WO] at ht
   obtain ⟨κ,h1,h2,h3 | ⟨b,vs,h3,h4,h5,h6,h7,h10⟩⟩:=h
   · exact ⟨κ,h1,h2,.inl h3⟩
   · refine ⟨κ,h1,h2,.inr ⟨b,vs,h3,h4,h5,h6,h7,fun k hk j hj=>?_⟩⟩
     obtain ⟨x,g1,g2⟩:=h10 k hk j hj
     exact ⟨x,g1,Rel.tag _ (ht k hk j hj) g2⟩
theorem jc.tag {H:HH} {hp:Nat->Option Obj}:∀ (l:List Tr) {vs:List Value} {S:Nat->Prop},Cg l->jc H hp l vs S->jc (fun _=>H true) hp l vs S
 | [],_,_,_,h=>h
 | t::ts,_,_,ht,h=>by
   simp only [Cg] at ht
   obtain ⟨v,r,S1,S2,h1,h2,h3,h4,h5,h6⟩:=h
   exact ⟨v,r,S1,S2,h1,h2,h3,h4,iG.tag t ht.1 h5,jc.tag ts ht.2 h6⟩
end
def eT (c:Nat->Tr):Nat->Nat->List Tr
 | _,0=>[]
 | o,n+1=>c o::eT c (o+1) n
theorem IK {c:Nat->Tr}:∀ {n o:Nat},Cg (eT c o n)->∀ j,j<n->WO (c (o+j))
 | n+1,o,h,0,_=>by
   simp only [eT,Cg] at h
   exact h.1
 | n+1,o,h,j+1,hj=>by
   simp only [eT,Cg] at h
   have:=IK h.2 j (by omega)
   rwa [show o+1+j=o+(j+1) by omega] at this
theorem Pg {c:Nat->Tr} {n:Nat} (h:Cg (eT c 0 n)) (j:Nat) (hj:j<n):WO (c j):=by
 have:=IK h j hj
 rwa [Nat.zero_add] at this
def aar:List (Nat×List AV)->Prop
 | []=>True
 | p::r=>iW p.2=true/\aar r
theorem Gm:∀ {l:List (Nat×List AV)},aar l->∀ p∈l,iW p.2=true
 | q::r,h,p,hp=>by
   rcases List.mem_cons.1 hp with rfl | hp
   · exact h.1
   · exact Gm h.2 p hp
def Hl:ay->Prop
 | .row _ sz n _ c=>∀ k,k<n->∀ j,j<sz->fC (c k j)=true
 | .trow _ sz n _ c op _=>aar op/\∀ k,k<n->Cg (eT (c k) 0 sz)
 | B=>aat B=true
theorem bV.tag {H:HH} {E:Env} {w:World} {i:Nat} {B:ay} (ht:Hl B) (h:bV H E w i B):bV (fun _=>H true) E w i B:=by
 cases B with
 | dead=>exact h
 | mp es ck =>
   obtain ⟨h0,b,ms,h1,h2,h3,h4⟩:=h
   exact ⟨h0,b,ms,h1,h2,h3,aA.tag _ ht h4⟩
 | mi kk vk has c=>exact h
 | mit m since seen last=>exact h
 | any=>exact h
 | tmap q has c n kn=>exact absurd ht (by simp [Hl,aat])
 | trow ty sz n cap c op zs =>
   obtain ⟨h0,ha,hb,hc,h1⟩:=h
   refine ⟨h0,ha,hb,hc,?_⟩
   cases hι:E.ι i with
   | none=>rw [hι] at h1;exact h1
   | some b =>
     rw [hι] at h1
     obtain ⟨hs,vs,F,h2,h4⟩:=h1
     exact ⟨hs,vs,F,h2,h4.one,h4.size,h4.own,h4.sep,h4.lt,h4.once,fun p hp=>aA.tag _ (Gm ht.1 p hp) (h4.known p hp),fun k hk hn j hj=>by
      obtain ⟨x,g1,g2⟩:=h4.tr k hk hn j hj
      exact ⟨x,g1,iG.tag _ (Pg (ht.2 k hk) j hj) g2⟩,h4.spare⟩
 | box ty cs =>
   obtain ⟨h0,b,vs,h1,h2,h3,h4⟩:=h
   exact ⟨h0,b,vs,h1,h2,h3,aA.tag cs ht h4⟩
 | lst ty sz n cap cs =>
   obtain ⟨h0,ha,hb,hc,h1⟩:=h
   refine ⟨h0,ha,hb,hc,?_⟩
   cases hι:E.ι i with
   | none=>rw [hι] at h1;exact h1
   | some b =>
     rw [hι] at h1
     obtain ⟨vs,h2,h3,h4,h5⟩:=h1
     exact ⟨vs,h2,h3,h4,aA.tag cs ht h5⟩
 | row ty sz n cap c =>
   obtain ⟨h0,ha,hb,hc,h1⟩:=h
   refine ⟨h0,ha,hb,hc,?_⟩
   cases hι:E.ι i with
   | none=>rw [hι] at h1;exact h1
   | some b =>
     rw [hι] at h1
     obtain ⟨vs,h2,h3,h4,h5⟩:=h1
     refine ⟨vs,h2,h3,h4,fun k hk j hj=>?_⟩
     obtain ⟨x,hx,hr⟩:=h5 k hk j hj
     exact ⟨x,hx,Rel.tag _ (ht k hk j hj) hr⟩
def shift (s i:Nat):Option Nat:=some (i+s)
def place:List ay->Nat->Nat->List ay->List ay
 | M,_,_,[]=>M
 | M,p,s,B::r=>place (iM M p (eY (shift s) B)) (p+1) s r
theorem zY:∀ (L M:List ay) (p s j:Nat),getM (place M p s L) j=if p<=j/\j<p+len L then eY (shift s) (getM L (j - p)) else getM M j
 | [],M,p,s,j=>by
   have h:¬ (p<=j/\j<p+len ([]:List ay)):=by simp [len]
   rw [if_neg h];rfl
 | B::r,M,p,s,j=>by
   simp only [place]
   rw [zY r]
   by_cases h1:p=j
   · subst h1
     rw [if_neg (by omega),aT,if_pos ⟨Nat.le_refl _,by simp [len]⟩]
     simp [getM]
   · by_cases h2:p+1<=j/\j<p+1+len r
     · rw [if_pos h2,if_pos (by simp [len];omega)]
       obtain ⟨m,rfl⟩:∃ m,j=p+1+m:=⟨j - (p+1),by omega⟩
       have e1:p+1+m - (p+1)=m:=by omega
       have e2:p+1+m - p=m+1:=by omega
       rw [e1,e2];rfl
     · rw [if_neg h2,if_neg (by simp [len];omega),aW _ _ _ _ h1]
theorem Conc.Mc {H:HH} {E:Env} {w:World} {M:List ay} (h:Conc H E w M) {i:Nat} (hl:E.lv i=true):i<len M:=by
 rcases Nat.lt_or_ge i (len M) with h1 | h1
 · exact h1
 · have:=h.blk i
   rw [jJ M i h1] at this
   rw [show E.lv i=false from this] at hl;cases hl
def Env.join (E E1:Env) (s n:Nat):Env :=
 ⟨fun j=>if s<=j/\j<s+n then E1.lv (j - s) else E.lv j,fun j=>if s<=j/\j<s+n then E1.ι (j - s) else E.ι j,
  fun j=>if s<=j/\j<s+n then E1.κ (j - s) else E.κ j,fun j=>if s<=j/\j<s+n then E1.η (j - s) else E.η j,
  fun j x=>if s<=j/\j<s+n then E1.σ (j - s) x else E.σ j x⟩
theorem Env.Mr (E E1:Env) (s n j:Nat) (h:s<=j/\j<s+n):(E.join E1 s n).lv j=E1.lv (j - s)/\(E.join E1 s n).ι j=E1.ι (j - s)/\(E.join E1 s n).κ j=E1.κ (j - s)/\(E.join E1 s n).η j=E1.η (j - s):=by
 simp [Env.join,h]
theorem Env.Hf (E E1:Env) (s n j:Nat) (h:¬ (s<=j/\j<s+n)):(E.join E1 s n).lv j=E.lv j/\(E.join E1 s n).ι j=E.ι j/\(E.join E1 s n).κ j=E.κ j/\(E.join E1 s n).η j=E.η j:=by
 unfold Env.join;exact ⟨if_neg h,if_neg h,if_neg h,if_neg h⟩
theorem Env.pY {E E1:Env} {s n j x:Nat} (h:(E.join E1 s n).has j x):(¬ (s<=j/\j<s+n)/\E.has j x)∨((s<=j/\j<s+n)/\E1.has (j - s) x):=by
 by_cases hj:s<=j/\j<s+n
 · simp only [Env.has,Env.join,if_pos hj] at h
   exact .inr ⟨hj,h⟩
 · simp only [Env.has,Env.join,if_neg hj] at h
   exact .inl ⟨hj,h⟩
theorem AA {Hs H H1 H2:HH} {E E1:Env} {w w1:World} {M M2:List ay} {mv:List Nat} {nid:Nat} (hC:Conc H E w M) (hC1:Conc H1 E1 w1 M2) (hE:bE mv Hs E0 w H1 E1 w1) (h12:H.le H2) (htf:(H2 true).le (H2 false))
 (himm:∀ b o,H2 false b=some o->w1.heap[b]? = some o) (hnew:∀ c b o,H2 c b=some o->H c b=some o∨(w.heap.size<=b/\∃ c',H1 c' b=some o))
 (hblk:∀ i,bV H2 E1 w1 i (getM M2 i)) (hd:∀ k,k<len M2->getM M (nid+k)=.dead) :
 E1.via (E.join E1 nid (len M2)) (shift nid)/\Conc H2 (E.join E1 nid (len M2)) w1 (place M nid nid M2)/\bE [] H E w H2 (E.join E1 nid (len M2)) w1:=by
 have hkeep:∀ b,b<w.heap.size->w1.heap[b]? = w.heap[b]?:=fun b hb=>hE.keep b hb fun i hl=>pI hl
 have hown1:∀ i b,E1.has i b->w.heap.size<=b:=fun i b hl=>by
  rcases hE.own i b hl with ⟨j,hj⟩ | h
  · exact (pI hj).elim
  · exact h
 have hout:∀ j,E.lv j=true->¬ (nid<=j/\j<nid+len M2):=by
  intro j hl ⟨h1,h2⟩
  have h3:=hd (j - nid) (by omega)
  rw [show nid+(j - nid)=j from by omega] at h3
  have:=hC.blk j
  rw [h3] at this
  rw [show E.lv j=false from this] at hl;cases hl
 have hvia1:E1.via (E.join E1 nid (len M2)) (shift nid):=by
  intro i j hij hl
  cases hij
  have hlt:=hC1.Mc hl
  obtain ⟨e1,e2,e3,e4⟩:=E.Mr E1 nid (len M2) (i+nid) ⟨by omega,by omega⟩
  rw [Nat.add_sub_cancel] at e1 e2 e3 e4
  exact ⟨e1.trans hl,e2,e3,e4⟩
 have hvia:E.via (E.join E1 nid (len M2)) some:=by
  intro i j hij hl
  cases hij
  obtain ⟨e1,e2,e3,e4⟩:=E.Hf E1 nid (len M2) i (hout i hl)
  exact ⟨e1.trans hl,e2,e3,e4⟩
 refine ⟨hvia1,⟨himm,hC.tf.up h12 htf,fun j=>?_,fun i j b hi hj=>?_,fun i b hi=>?_,fun i b hi hib=>?_⟩,⟨hE.os,hE.tape,hE.output,hE.size,fun b hb _=>hkeep b hb,fun j b hl=>?_,h12,fun c b o ho=>?_,fun i hl _=>hvia i i rfl hl⟩⟩
 · rw [zY]
   by_cases h:nid<=j/\j<nid+len M2
   · rw [if_pos h]
     obtain ⟨e1,e2,e3,e4⟩:=E.Mr E1 nid (len M2) j h
     exact (hblk (j - nid)).move (HH.le_refl _) hvia1 e1 e2 e3 e4 (fun b=>by simp [Env.join,h]) fun _ _=>rfl
   · rw [if_neg h]
     obtain ⟨e1,e2,e3,e4⟩:=E.Hf E1 nid (len M2) j h
     have:=(hC.blk j).move (f:=some) (w':=w1) (i':=j) h12 hvia e1 e2 e3 e4 (fun b=>by simp only [Env.join,if_neg h]) fun b hb=>hkeep b (hC.oN hb)
     rwa [eD] at this
 · rcases Env.pY hi with ⟨_,a1⟩ | ⟨h1,a1⟩<;>rcases Env.pY hj with ⟨_,b1⟩ | ⟨h2,b1⟩
   · exact hC.injH i j b a1 b1
   · have:=hC.oN a1;have:=hown1 _ b b1;omega
   · have:=hC.oN b1;have:=hown1 _ b a1;omega
   · have:=hC1.injH _ _ b a1 b1;omega
 · cases hx:H2 false b with
   | none=>rfl
   | some o =>
     rcases Env.pY hi with ⟨_,a1⟩ | ⟨_,a1⟩
     · rcases hnew false b o hx with h | ⟨h,_⟩
       · rw [hC.sepH i b a1] at h;cases h
       · have:=hC.oN a1;omega
     · have hge:=hown1 _ b a1
       rcases hnew false b o hx with h | ⟨_,c',h⟩
       · have:=IH.qh hC.imm h;omega
       · have h':H1 false b=some o:=by cases c';exact h;exact hC1.tf.1 b o h
         rw [hC1.sepH _ b a1] at h';cases h'
 · rcases Env.pY ⟨hi,.inr hib⟩ with ⟨_,a1⟩ | ⟨_,a1⟩
   · have:=hC.oN a1;have:=hE.size;omega
   · exact hC1.oN a1
 · rcases Env.pY hl with ⟨_,a1⟩ | ⟨_,a1⟩
   · exact .inl ⟨j,a1⟩
   · exact .inr (hown1 _ b a1)
 · rcases hnew c b o ho with h | ⟨h,_⟩
   · exact .inl h
   · exact .inr (.inl h)
theorem Bf {H:HH} {w:World} (hi:∀ b o,H false b=some o->w.heap[b]? = some o) (ht:HOk H):Conc H E0 w [] :=
 ⟨hi,ht,fun i=>by rw [dJ];rfl,fun i j b h=>(pI h).elim,fun i b h=>(pI h).elim,fun i b h=>by simp [E0] at h⟩
def RA:List ay->Prop
 | []=>True
 | B::r=>(match B with | .row _ sz n _ c=>∀ k,k<n->∀ j,j<sz->fC (c k j)=true | .trow _ sz n _ c op _=>aar op/\∀ k,k<n->Cg (eT (c k) 0 sz) | B=>aat B=true)/\RA r
theorem Ea:∀ {M:List ay},RA M->∀ i,Hl (getM M i)
 | [],_,i=>by rw [dJ];exact (rfl:aat .dead=true)
 | B::r,h,0=>by
   have:=h.1
   show Hl B
   cases B<;>exact this
 | B::r,h,i+1=>Ea h.2 i
theorem dB.borrow {P:Program} {f:FuncId} {n nid:Nat} {args:List AV} {M M2:List ay} {r:AV} {mv:List Nat} {rd:Nat->ay} (hrd:∀ i,rd i=.dead∨rd i=getM M i) (h:dB P f (BF n rd args) [] r M2 mv) (ht:fC r=true) (hb:∀ i,Hl (getM M2 i))
 (hd:∀ k,k<len M2->getM M (nid+k)=.dead):dB P f args M (ren (shift nid) r) (place M nid nid M2) []:=by
 intro H E w vals hC hargs
 refine (h (HB H w) E0 w vals (Bf (fun b o hb=>hb) (hC.tf.up (vg hC.imm) (afp hC.imm hC.tf.1))) (Js hC hrd n hargs)).mono ?_
 rintro e w1 ⟨v,H1,E1,rfl,hr,hC1,hE1⟩
 have hH1:∀ b o,H1 true b=some o->H true b=some o∨w.heap.size<=b:=fun b o hbo=>by
  rcases hE1.new true b o hbo with h | h | ⟨i,hi⟩
  · exact .inl h
  · exact .inr h
  · exact (pI hi).elim
 let H2:HH:=fun c b=>match H c b with | some o=>some o | none=>H1 true b
 have h12:H.le H2:=fun c b o ho=>by show (match H c b with | some o=>some o | none=>H1 true b)=some o;rw [ho]
 have h1t:HH.le (fun _=>H1 true) H2:=fun c b o ho=>by
  show (match H c b with | some o=>some o | none=>H1 true b)=some o
  cases hx:H c b with
  | none=>exact ho
  | some o' =>
    have hx':H false b=some o':=by cases c;exact hx;exact hC.tf.1 b o' hx
    rcases hH1 b o ho with h | h
    · have:=hC.tf.1 b o h
      rw [hx'] at this
      exact this
    · have:=IH.qh hC.imm hx'
      omega
 have hsplit:∀ c b o,H2 c b=some o->H c b=some o∨H1 true b=some o:=fun c b o ho=>by
  have ho:(match H c b with | some o=>some o | none=>H1 true b)=some o:=ho
  cases hx:H c b with
  | none=>rw [hx] at ho;exact .inr ho
  | some o'=>rw [hx] at ho;exact .inl ho
 have hkeep:∀ b,b<w.heap.size->w1.heap[b]? = w.heap[b]?:=fun b hb=>hE1.keep b hb fun i hl=>pI hl
 obtain ⟨g1,g2,g3⟩:=AA (H2:=H2) (nid:=nid) hC hC1 hE1 h12 (fun b o ho=>by
  rcases hsplit true b o ho with h | h
  · exact h12 false b o (hC.tf.1 b o h)
  · exact h1t false b o h) (fun b o ho=>by
  rcases hsplit false b o ho with h | h
  · rw [hkeep b (IH.qh hC.imm h)];exact hC.imm b o h
  · exact hC1.imm b o (hC1.tf.1 b o h)) (fun c b o ho=>by
  rcases hsplit c b o ho with h | h
  · exact .inl h
  · rcases hH1 b o h with h' | h'
    · left
      cases c
      · exact hC.tf.1 b o h'
      · exact h'
    · exact .inr ⟨h',true,h⟩) (fun i=>by
  have:=((hC1.blk i).tag (hb i)).move (f:=some) (E':=E1) (w':=w1) (i':=i) h1t (fun a c hc hl=>by cases hc;exact ⟨hl,rfl,rfl,rfl⟩) rfl rfl rfl rfl (fun _=>Iff.rfl) fun _ _=>rfl
  rwa [eD] at this) hd
 exact ⟨v,H2,_,rfl,Rel.mono _ h1t (Rel.ren _ g1 (Rel.tag _ ht hr)),g2,g3⟩
mutual
theorem uZ:∀ (a:AV) {g:AV->AV} {H:HH} {E:Env} {v:Value},(H true).le (H false)->dP a=true->Rel a H E v->Rel (zC g a) H E0 v
 | .s _,_,_,_,_,_,_,h=>h
 | .y _,_,_,_,_,_,_,h=>h
 | .junk,_,_,_,_,_,_,_=>trivial
 | .ptr ..,_,_,_,_,_,h,_=>by simp [Go.Ax.dP] at h
 | .own ..,_,_,_,_,_,h,_=>by simp [Go.Ax.dP] at h
 | .sl ..,_,_,_,_,_,_,h=>h
 | .ys ..,_,_,_,_,_,_,h=>h
 | .yn ..,_,_,_,_,_,_,h=>h
 | .ip ..,_,_,_,_,_,_,h=>h
 | .opt ..,_,_,_,_,_,_,h=>h
 | .agg cs,_,_,_,_,ht,hn,h=>by
   obtain ⟨vs,hu,hr⟩:=h
   exact ⟨vs,hu,nX cs ht hn hr⟩
 | .tup cs,_,_,_,_,ht,hn,h=>by
   obtain ⟨vs,hu,hr⟩:=h
   exact ⟨vs,hu,nX cs ht hn hr⟩
 | .fn f a b,_,_,_,_,ht,hn,h=>by
   obtain ⟨x,y,hu,h1,h2⟩:=h
   simp [Go.Ax.dP] at hn
   exact ⟨x,y,hu,nX a ht hn.1 h1,nX b ht hn.2 h2⟩
 | .ifc t a,_,_,_,_,ht,hn,h=>by
   obtain ⟨x,hu,h1⟩:=h
   exact ⟨x,hu,uZ a ht hn h1⟩
theorem nX:∀ (l:List AV) {g:AV->AV} {H:HH} {E:Env} {vs:List Value},(H true).le (H false)->dS l=true->aA l H E vs->aA (qE g l) H E0 vs
 | [],_,_,_,_,_,_,h=>h
 | a::as,_,_,_,_,ht,hn,h=>by
   obtain ⟨v,r,hv,h1,h2⟩:=h
   simp [dS] at hn
   exact ⟨v,r,hv,uZ a ht hn.1 h1,nX as ht hn.2 h2⟩
theorem Jy:∀ (a:AV) {g:AV->AV} {H:HH} {v:Value},(H true).le (H false)->Rel a H E0 v->Rel (zC g a) H E0 v
 | .s _,_,_,_,_,h=>h
 | .y _,_,_,_,_,h=>h
 | .junk,_,_,_,_,_=>trivial
 | .ptr ..,_,_,_,_,h=>by obtain ⟨hl,_⟩:=h;simp [E0] at hl
 | .own ..,_,_,_,_,h=>by obtain ⟨hl,_⟩:=h;simp [E0] at hl
 | .sl ..,_,_,_,_,h=>h
 | .ys ..,_,_,_,_,h=>h
 | .yn ..,_,_,_,_,h=>h
 | .ip ..,_,_,_,_,h=>h
 | .opt ..,_,_,_,_,h=>h
 | .agg cs,_,_,_,ht,h=>by
   obtain ⟨vs,hu,hr⟩:=h
   exact ⟨vs,hu,oI cs ht hr⟩
 | .tup cs,_,_,_,ht,h=>by
   obtain ⟨vs,hu,hr⟩:=h
   exact ⟨vs,hu,oI cs ht hr⟩
 | .fn f a b,_,_,_,ht,h=>by
   obtain ⟨x,y,hu,h1,h2⟩:=h
   exact ⟨x,y,hu,oI a ht h1,oI b ht h2⟩
 | .ifc t a,_,_,_,ht,h=>by
   obtain ⟨x,hu,h1⟩:=h
   exact ⟨x,hu,Jy a ht h1⟩
theorem oI:∀ (l:List AV) {g:AV->AV} {H:HH} {vs:List Value},(H true).le (H false)->aA l H E0 vs->aA (qE g l) H E0 vs
 | [],_,_,_,_,h=>h
 | a::as,_,_,_,ht,h=>by
   obtain ⟨v,r,hv,h1,h2⟩:=h
   exact ⟨v,r,hv,Jy a ht h1,oI as ht h2⟩
end
theorem GD {H:HH} {E:Env} {n:Nat} {rd:Nat->ay} (ht:(H true).le (H false)):∀ {l:List AV} {vs:List Value},dS l=true->aA l H E vs->aA (BF n rd l) H E0 vs
 | [],_,_,h=>h
 | a::_,_,hn,h=>by
   obtain ⟨v,r,hv,h1,h2⟩:=h
   simp [dS] at hn
   refine ⟨v,r,hv,?_,GD ht hn.2 h2⟩
   cases n with
   | zero=>exact uZ a ht hn.1 h1
   | succ n=>exact uZ a ht hn.1 h1
theorem dB.direct {P:Program} {f:FuncId} {n nid:Nat} {args:List AV} {M M2:List ay} {r:AV} {mv:List Nat} {rd:Nat->ay} (h:dB P f (BF n rd args) [] r M2 mv) (hno:dS args=true)
 (hd:∀ k,k<len M2->getM M (nid+k)=.dead):dB P f args M (ren (shift nid) r) (place M nid nid M2) []:=by
 intro H E w vals hC hargs
 refine (h H E0 w vals (Bf hC.imm hC.tf) (GD hC.tf.1 hno hargs)).mono ?_
 rintro e w1 ⟨v,H1,E1,rfl,hr,hC1,hE1⟩
 obtain ⟨g1,g2,g3⟩:=AA (H2:=H1) (nid:=nid) hC hC1 hE1 hE1.hh hC1.tf.1 hC1.imm (fun c b o ho=>by
  rcases hE1.new c b o ho with h | h | ⟨i,hi⟩
  · exact .inl h
  · exact .inr ⟨h,c,ho⟩
  · exact (pI hi).elim) hC1.blk hd
 exact ⟨v,H1,_,rfl,Rel.ren _ g1 hr,g2,g3⟩
theorem NZ {P:Program} {o:Oper} {T:Nat->AV} {fo:Operand} {args:Array Operand} {ats:Array TypeId} {g:FuncId} {first cap:List AV} {fn:Func} {M M':List ay} {r:AV} {mv:List Nat}
 (hop:o.op=.call { callee:=.value fo,args,argTypes:=ats }) (hf:ev T fo=.fn (.func g) first cap) (hg:P.funcs[g]? = some fn) (hn:(fn.name == "runtime.NumGoroutine")=false) (hb:fn.body.isNone=false)
 (h:dB P g (first++args.toList.map (ev T)++cap) M r M' mv) :
 ∀ H E w a (K:Act->World->Prop) (Q:Exit->Act->World->Prop),Conc H E w M->iY T H E a->(∀ v w' H' E',Rel r H' E' v->Conc H' E' w' M'->bE mv H E w H' E' w'->K (a.put o.dst v) w')->o.wp P a w K Q:=by
 intro H E w a K Q hC hT hk
 have hr:=aL hT fo
 rw [hf] at hr
 obtain ⟨x,y,hv,h1,h2⟩:=hr
 have hargs:aA (first++args.toList.map (ev T)++cap) H E (x++args.map a.eval++y).toList:=by
  have:=fG (fG h1 (ni hT args.toList)) h2
  simpa using this
 have hrun:(execOp a.eval o).run P w=.ok (.enter g (x++args.map a.eval++y)) w:=by
  have hn':¬ fn.name = "runtime.NumGoroutine" := by simpa using hn
  have hb':¬ fn.body=none:=fun e=>by simp [e] at hb
  simp [execOp,hop,resolve,hv,Deferred.ofValue,invoke,callFunc,hg,hn',hb']
 unfold Oper.wp
 rw [hrun]
 refine (h H E w _ hC hargs).mono ?_
 rintro e w' ⟨v,H',E',rfl,hr',hC',hE'⟩
 exact hk v w' H' E' hr' hC' hE'
end Go.Ax
