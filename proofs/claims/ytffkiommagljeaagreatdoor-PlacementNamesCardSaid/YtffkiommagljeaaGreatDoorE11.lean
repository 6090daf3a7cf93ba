import Derived.Test.YtffkiommagljeaaGreatDoorE10
set_option linter.unusedVariables false
set_option linter.unusedSimpArgs false
set_option linter.unusedSectionVars false
namespace Go.Ax
open Go
variable [Inhabited Gl0]
structure St where
 t:List AV
 m:List Blk
 mv:List Nat
def ACode (P:Program) (c:Code) (st:St) (x:Exit) (st':St):Prop :=
 (∀ i∈st.mv,i∈st'.mv) /\
 ∀ H E w a,Conc H E w st.m->RelL st.t H E a.tmps.toList->a.defers=[] ->
  c.wp P (fun x' a' w'=>∃ H' E',x'=x/\a'.defers=[]/\RelL st'.t H' E' a'.tmps.toList/\Conc H' E' w' st'.m/\Evol st'.mv H E w H' E' w') a w
def ACall (P:Program) (f:FuncId) (args:List AV) (M:List Blk) (r:AV) (M':List Blk) (mv:List Nat):Prop :=
 ∀ H E w vals,Conc H E w M->RelL args H E vals.toList ->
  Calls P f vals w fun e w'=>∃ v H' E',e=.returned v/\Rel r H' E' v/\Conc H' E' w' M'/\Evol mv H E w H' E' w'
theorem ACode.skip {P:Program} {st:St}:ACode P .skip st .normal st :=
 ⟨fun _ h=>h,fun H E _ _ hC hT hd=>wp_skip ⟨H,E,rfl,hd,hT,hC,Evol.refl _ _ _ _⟩⟩
theorem ACode.ret {P:Program} {st:St}:ACode P .ret st .ret st :=
 ⟨fun _ h=>h,fun H E _ _ hC hT hd=>wp_ret ⟨H,E,rfl,hd,hT,hC,Evol.refl _ _ _ _⟩⟩
theorem ACode.exit {P:Program} {st:St} {id:Nat}:ACode P (.exit id) st (.exit id) st :=
 ⟨fun _ h=>h,fun H E _ _ hC hT hd=>wp_exit ⟨H,E,rfl,hd,hT,hC,Evol.refl _ _ _ _⟩⟩
theorem ACode.seq {P:Program} {c d:Code} {s s1 s2:St} {x:Exit} (h:ACode P c s .normal s1) (k:ACode P d s1 x s2):ACode P (.seq c d) s x s2:=by
 refine ⟨fun i hi=>k.1 i (h.1 i hi),fun H E w a hC hT hd=>wp_seq (wp_mono (h.2 H E w a hC hT hd) ?_)⟩
 rintro x' a' w' ⟨H1,E1,rfl,hd1,hT1,hC1,hE1⟩
 refine wp_mono (k.2 H1 E1 w' a' hC1 hT1 hd1) ?_
 rintro x2 a2 w2 ⟨H2,E2,rfl,hd2,hT2,hC2,hE2⟩
 exact ⟨H2,E2,rfl,hd2,hT2,hC2,hE1.trans hE2 k.1⟩
theorem ACode.seq_out {P:Program} {c d:Code} {s s1:St} {x:Exit} (hx:x≠.normal) (h:ACode P c s x s1):ACode P (.seq c d) s x s1:=by
 refine ⟨h.1,fun H E w a hC hT hd=>wp_seq (wp_mono (h.2 H E w a hC hT hd) ?_)⟩
 rintro x' a' w' ⟨H1,E1,rfl,hd1,hT1,hC1,hE1⟩
 cases x'<;>first | exact absurd rfl hx | exact ⟨H1,E1,rfl,hd1,hT1,hC1,hE1⟩
theorem ACode.cond {P:Program} {c:Operand} {d e:Code} {s s1:St} {x:Exit} {b:Bool} (hc:ev (get s.t) c=.s (.bool b)) (h:ACode P (if b then d else e) s x s1):ACode P (.cond c d e) s x s1:=by
 refine ⟨h.1,fun H E w a hC hT hd=>?_⟩
 have hr:=rel_ev (relT_of hT) c
 rw [hc] at hr
 exact wp_cond hr.1 (h.2 H E w a hC hT hd)
theorem ACode.block {P:Program} {c:Code} {s s1:St} {x:Exit} {id:Nat} (h:ACode P c s x s1) (hx:x≠.exit id):ACode P (.block id c) s x s1:=by
 refine ⟨h.1,fun H E w a hC hT hd=>wp_block (wp_mono (h.2 H E w a hC hT hd) ?_)⟩
 rintro x' a' w' ⟨H1,E1,rfl,hd1,hT1,hC1,hE1⟩
 cases x' with
 | exit j =>
   have:j≠id:=fun e=>hx (by rw [e])
   simp only [Exit.inBlock,this,if_false]
   exact ⟨H1,E1,trivial,hd1,hT1,hC1,hE1⟩
 | _=>exact ⟨H1,E1,rfl,hd1,hT1,hC1,hE1⟩
theorem ACode.block_exit {P:Program} {c:Code} {s s1:St} {id:Nat} (h:ACode P c s (.exit id) s1):ACode P (.block id c) s .normal s1:=by
 refine ⟨h.1,fun H E w a hC hT hd=>wp_block (wp_mono (h.2 H E w a hC hT hd) ?_)⟩
 rintro x' a' w' ⟨H1,E1,rfl,hd1,hT1,hC1,hE1⟩
 simp only [Exit.inBlock,if_true]
 exact ⟨H1,E1,trivial,hd1,hT1,hC1,hE1⟩
def ARounds (P:Program) (c:Code) (n:Nat) (st:St) (x:Exit) (st':St):Prop :=
 (∀ i∈st.mv,i∈st'.mv) /\
 ∀ H E w a,Conc H E w st.m->RelL st.t H E a.tmps.toList->a.defers=[] ->
  Code.rounds P c (fun x' a' w'=>∃ H' E',x'=x/\a'.defers=[]/\RelL st'.t H' E' a'.tmps.toList/\Conc H' E' w' st'.m/\Evol st'.mv H E w H' E' w') n a w
theorem ACode.loop {P:Program} {c:Code} {n:Nat} {s s1:St} {x:Exit} (h:ARounds P c n s x s1):ACode P (.loop c) s x s1 :=
 ⟨h.1,fun H E w a hC hT hd=>wp_loop_rounds n (h.2 H E w a hC hT hd)⟩
theorem rounds_mono {P:Program} {c:Code} {Q Q':Exit->Act->World->Prop} (hq:∀ e a w,Q e a w->Q' e a w):∀ n a w,Code.rounds P c Q n a w->Code.rounds P c Q' n a w
 | 0,_,_,h=>h
 | n+1,a,w,h=>wp_mono h fun e a' w' he=>by
   cases e with
   | normal=>exact rounds_mono hq n a' w' he
   | _=>exact hq _ _ _ he
theorem ARounds.out {P:Program} {c:Code} {s s1:St} {x:Exit} (hx:x≠.normal) (h:ACode P c s x s1):ARounds P c 1 s x s1:=by
 refine ⟨h.1,fun H E w a hC hT hd=>wp_mono (h.2 H E w a hC hT hd) ?_⟩
 rintro x' a' w' ⟨H1,E1,rfl,hd1,hT1,hC1,hE1⟩
 cases x'<;>first | exact absurd rfl hx | exact ⟨H1,E1,rfl,hd1,hT1,hC1,hE1⟩
theorem ARounds.next {P:Program} {c:Code} {n:Nat} {s s1 s2:St} {x:Exit} (h:ACode P c s .normal s1) (k:ARounds P c n s1 x s2):ARounds P c (n+1) s x s2:=by
 refine ⟨fun i hi=>k.1 i (h.1 i hi),fun H E w a hC hT hd=>wp_mono (h.2 H E w a hC hT hd) ?_⟩
 rintro x' a' w' ⟨H1,E1,rfl,hd1,hT1,hC1,hE1⟩
 refine rounds_mono ?_ n a' w' (k.2 H1 E1 w' a' hC1 hT1 hd1)
 rintro x2 a2 w2 ⟨H2,E2,rfl,hd2,hT2,hC2,hE2⟩
 exact ⟨H2,E2,rfl,hd2,hT2,hC2,hE1.trans hE2 k.1⟩
def St.le (s s':St):Prop :=
 (∀ i∈s.mv,i∈s'.mv)/\∀ H E w vs,Conc H E w s.m->RelL s.t H E vs->∃ E',Conc H E' w s'.m/\RelL s'.t H E' vs/\Evol s'.mv H E w H E' w
theorem St.le_refl (s:St):s.le s:=⟨fun _ h=>h,fun _ E _ _ hC hT=>⟨E,hC,hT,Evol.refl _ _ _ _⟩⟩
theorem ACode.weak {P:Program} {c:Code} {s s1 s2:St} {x:Exit} (h:ACode P c s x s1) (k:s1.le s2):ACode P c s x s2:=by
 refine ⟨fun i hi=>k.1 i (h.1 i hi),fun H E w a hC hT hd=>wp_mono (h.2 H E w a hC hT hd) ?_⟩
 rintro x' a' w' ⟨H1,E1,rfl,hd1,hT1,hC1,hE1⟩
 obtain ⟨E2,hC2,hT2,hE2⟩:=k.2 H1 E1 w' _ hC1 hT1
 exact ⟨H1,E2,rfl,hd1,hT2,hC2,hE1.trans hE2 k.1⟩
theorem ACode.pre {P:Program} {c:Code} {s0 s s1:St} {x:Exit} (k:s0.le s) (h:ACode P c s x s1):ACode P c s0 x s1:=by
 refine ⟨fun i hi=>h.1 i (k.1 i hi),fun H E w a hC hT hd=>?_⟩
 obtain ⟨E2,hC2,hT2,hE2⟩:=k.2 H E w _ hC hT
 refine wp_mono (h.2 H E2 w a hC2 hT2 hd) ?_
 rintro x' a' w' ⟨H1,E1,rfl,hd1,hT1,hC1,hE1⟩
 exact ⟨H1,E1,rfl,hd1,hT1,hC1,hE2.trans hE1 h.1⟩
theorem ARounds.pre {P:Program} {c:Code} {n:Nat} {s0 s s1:St} {x:Exit} (k:s0.le s) (h:ARounds P c n s x s1):ARounds P c n s0 x s1:=by
 refine ⟨fun i hi=>h.1 i (k.1 i hi),fun H E w a hC hT hd=>?_⟩
 obtain ⟨E2,hC2,hT2,hE2⟩:=k.2 H E w _ hC hT
 refine rounds_mono ?_ n a w (h.2 H E2 w a hC2 hT2 hd)
 rintro x' a' w' ⟨H1,E1,rfl,hd1,hT1,hC1,hE1⟩
 exact ⟨H1,E1,rfl,hd1,hT1,hC1,hE2.trans hE1 h.1⟩
def putT (t:List AV) (d:Option Nat) (v:AV):List AV:=match d with | some i=>set t i v | none=>t
theorem relL_set {H:HH} {E:Env} {t:List AV} {vs:Array Value} {i:Nat} {v:AV} {u:Value} (h:RelL t H E vs.toList) (hv:Rel v H E u):RelL (set t i v) H E (vs.setIfInBounds i u).toList:=by
 have hl:=RelL.length h
 refine relL_mk (by rw [length_set];simpa using hl) fun j x hx=>?_
 rw [get_set]
 simp only [Array.toList_setIfInBounds,List.getElem?_set] at hx
 by_cases hij:i=j
 · subst hij
   rw [if_pos rfl] at hx
   split at hx
   · rename_i hlt
     cases hx
     rw [if_pos ⟨rfl,by omega⟩];exact hv
   · cases hx
 · rw [if_neg hij] at hx
   rw [if_neg (by simp [hij])]
   exact relL_get h _ _ hx
theorem relL_put {H:HH} {E:Env} {t:List AV} {a:Act} {d:Option Nat} {v:AV} {u:Value} (h:RelL t H E a.tmps.toList) (hv:Rel v H E u):RelL (putT t d v) H E (a.put d u).tmps.toList:=by
 cases d with
 | none=>exact h
 | some i=>exact relL_set h hv
theorem put_defers (a:Act) (d:Option Nat) (u:Value):(a.put d u).defers=a.defers:=by cases d<;>rfl
def guardA (ops:Array Oper) (t:Nat->AV) (o:Oper):Option Bool :=
 match o.guard with
 | none=>some true
 | some (j,want)=>match (ops[j]?).bind (·.dst) with
   | none=>some false
   | some d=>match t d with
     | .s (.bool b)=>some (b==want)
     | .s (.int ..) | .agg _ | .tup _=>some false
     | _=>none
theorem guardA_ok {ops:Array Oper} {t:Nat->AV} {o:Oper} {b:Bool} {H:HH} {E:Env} {a:Act} (hT:RelT t H E a) (h:guardA ops t o=some b):Region.wanted o (yielded ops a.tmps)=b:=by
 unfold guardA at h
 unfold Region.wanted
 split at h
 · rename_i hg;rw [hg];cases h;rfl
 · rename_i j want hg
   rw [hg]
   simp only [yielded]
   split at h
   · rename_i hd
     rw [hd];cases h;rfl
   · rename_i d hd
     rw [hd]
     simp only [Option.bind_some]
     have hr:=hT d
     have hget:∀ v,a.tmps.getD d undef=v->v≠undef->a.tmps[d]? = some v:=by
      intro v hv hne
      rcases Nat.lt_or_ge d a.tmps.size with hlt | hge
      · rw [Array.getElem?_eq_getElem hlt];simp [hlt] at hv;rw [hv]
      · exfalso;apply hne;rw [<- hv];simp [hge]
     split at h
     · rename_i x he
       rw [he] at hr
       obtain ⟨hr,_⟩:=hr
       rw [hget _ hr (by simp [undef])];cases h
       cases x<;>cases want<;>rfl
     · rename_i k n he
       rw [he] at hr
       obtain ⟨hr,_⟩:=hr
       rw [hget _ hr (by simp [undef])];cases h;rfl
     · rename_i cs he
       rw [he] at hr
       obtain ⟨vs,hr,_⟩:=hr
       rw [hget _ hr (by simp [undef])];cases h;rfl
     · rename_i cs he
       rw [he] at hr
       obtain ⟨vs,hr,_⟩:=hr
       cases h
       rcases Nat.lt_or_ge d a.tmps.size with hlt | hge
       · rw [Array.getElem?_eq_getElem hlt]
         simp [hlt] at hr
         rw [hr];rfl
       · rw [Array.getElem?_eq_none hge];rfl
     · cases h
structure Stp where
 r:AV
 m:List Blk
 kl:List Nat
 ob:List Prop
def St.app (st:St) (d:Option Nat) (e:Stp):St:=⟨putT (killL e.kl st.t) d e.r,e.m,e.kl++st.mv⟩
def Hold (l:List Prop):Prop:=∀ p∈l,p
theorem Hold.append {a b:List Prop} (h:Hold (a++b)):Hold a/\Hold b:=⟨fun x hx=>h x (by simp [hx]),fun x hx=>h x (by simp [hx])⟩
def StepOk (P:Program) (o:Oper) (st:St) (e:Stp):Prop :=
 ∀ H E w a (K:Act->World->Prop) (Q:Exit->Act->World->Prop),Conc H E w st.m->RelL st.t H E a.tmps.toList->a.defers=[] ->
  (∀ v w' H' E',Rel e.r H' E' v->Conc H' E' w' e.m->Evol e.kl H E w H' E' w'->K (a.put o.dst v) w')->o.wp P a w K Q
theorem stepOk_of_good {P:Program} {o:Oper} {st:St} {hh:Option Hint} {nid:Nat} {e:Eff} (hd:getM st.m nid=.dead) (h:aop P hh (getM st.m) nid (get st.t) o.op=some e) (ho:All e.ob) :
 StepOk P o st ⟨e.r,killM e.kl (applyW e.wr st.m),e.kl,e.ob.map (· = true)⟩:=by
 intro H E w a K Q hC hT hdf hk
 obtain ⟨n,v,w',E',hrun,hn,hr,hc,hev⟩:=aop_good (a:=a) hC hd (relT_of hT) h ho
 unfold Oper.wp
 rw [hrun]
 rcases hn with rfl | ⟨rfl,rfl⟩
 · exact hk v w' H E' hr hc hev
 · exact hk undef w' H E' hr hc hev
theorem getM_len:∀ (M:List Blk) (i:Nat),len M<=i->getM M i=.dead
 | [],i,_=>getM_nil i
 | _::l,0,h=>by simp [len] at h
 | _::l,i+1,h=>getM_len l i (by simpa [len] using h)
def eops (P:Program) (hh:Nat->Option Hint) (cf:Nat->Oper->St->Option Stp) (all:Array Oper):List Oper->Nat->St->Option (St×List Prop)
 | [],_,st=>some (st,[])
 | o::r,p,st =>
   match guardA all (get st.t) o with
   | some true =>
     (match (match o.op with
       | .call { callee:=.value _,.. }=>cf p o st
       | op=>(match aop P (hh p) (getM st.m) (len st.m) (get st.t) op with
         | some e=>some ⟨e.r,killM e.kl (applyW e.wr st.m),e.kl,e.ob.map (· = true)⟩
         | none=>none)) with
      | some e=>(match eops P hh cf all r (p+1) (st.app o.dst e) with
         | some (st',ob)=>some (st',e.ob++ob)
         | none=>none)
      | none=>none)
   | some false=>eops P hh cf all r (p+1) ⟨putT st.t o.dst .junk,st.m,st.mv⟩
   | none=>none
theorem mem_app {st:St} {d:Option Nat} {e:Stp}:∀ i∈st.mv,i∈(st.app d e).mv:=fun i hi=>by simp [St.app,hi]
theorem eops_ok {P:Program} {hh:Nat->Option Hint} {cf:Nat->Oper->St->Option Stp} {all:Array Oper} (hcf:∀ p o st e,cf p o st=some e->Hold e.ob->StepOk P o st e) :
 ∀ {l:List Oper} {p:Nat} {st st':St} {ob:List Prop},(∀ j,l[j]? = all[p+j]?)->eops P hh cf all l p st=some (st',ob)->Hold ob ->
  (∀ i∈st.mv,i∈st'.mv)/\∀ H E w a (Q:Exit->Act->World->Prop),Conc H E w st.m->RelL st.t H E a.tmps.toList->a.defers=[] ->
    (∀ a' w' H' E',a'.defers=[]->RelL st'.t H' E' a'.tmps.toList->Conc H' E' w' st'.m->Evol st'.mv H E w H' E' w'->Q .normal a' w')->wpOps P all Q (List.range' p l.length) a w
 | [],p,st,st',ob,_,h,_=>by
   simp only [eops] at h
   cases h
   exact ⟨fun _ h=>h,fun H E w a Q hC hT hd hq=>hq a w H E hd hT hC (Evol.refl _ _ _ _)⟩
 | o::r,p,st,st',ob,hl,h,ho=>by
   have hp:all[p]? = some o:=by have:=hl 0;simpa using this.symm
   have hr:∀ j,r[j]? = all[p+1+j]?:=fun j=>by have:=hl (j+1);simp at this;rw [this];congr 1;omega
   simp only [eops] at h
   split at h
   · rename_i hg
     split at h
     case h_2=>cases h
     rename_i e he
     split at h
     case h_2=>cases h
     rename_i st2 ob2 h2
     cases h
     obtain ⟨ho1,ho2⟩:=ho.append
     have hstep:StepOk P o st e:=by
      split at he
      · exact hcf p o st e he ho1
      · split at he
        case h_2=>cases he
        rename_i ef hef
        cases he
        exact stepOk_of_good (getM_len _ _ (Nat.le_refl _)) hef fun b hb=>ho1 (b=true) (by simp;exact hb)
     obtain ⟨hmv,hrest⟩:=eops_ok hcf hr h2 ho2
     refine ⟨fun i hi=>hmv i (mem_app i hi),fun H E w a Q hC hT hd hq=>?_⟩
     simp only [List.length_cons,List.range'_succ,wpOps,hp]
     rw [guardA_ok (relT_of hT) hg]
     simp only [if_true]
     refine .inl (hstep H E w a _ Q hC hT hd fun v w' H' E' hr' hC' hE'=>?_)
     refine hrest H' E' w' _ Q hC' (relL_put (hE'.relL hT) hr') (by rw [put_defers];exact hd) fun a2 w2 H2 E2 hd2 hT2 hC2 hE2=>?_
     exact hq a2 w2 H2 E2 hd2 hT2 hC2 (hE'.trans hE2 fun i hi=>hmv i (by simp [St.app,hi]))
   · rename_i hg
     obtain ⟨hmv,hrest⟩:=eops_ok hcf hr h ho
     refine ⟨hmv,fun H E w a Q hC hT hd hq=>?_⟩
     simp only [List.length_cons,List.range'_succ,wpOps,hp]
     rw [guardA_ok (relT_of hT) hg]
     simp only [Bool.false_eq_true,if_false]
     exact hrest H E w _ Q hC (relL_put hT trivial) (by rw [put_defers];exact hd) hq
   · cases h
theorem ACode.region {P:Program} {hh:Nat->Option Hint} {cf:Nat->Oper->St->Option Stp} {id:Nat} {ops:Array Oper} {st st':St} {ob:List Prop} (hcf:∀ p o st e,cf p o st=some e->Hold e.ob->StepOk P o st e)
 (h:eops P hh cf ops ops.toList 0 st=some (st',ob)) (ho:Hold ob):ACode P (.region id ops false) st .normal st':=by
 obtain ⟨hmv,hrun⟩:=eops_ok hcf (fun j=>by simp) h ho
 refine ⟨hmv,fun H E w a hC hT hd=>wp_region ?_⟩
 rw [List.range_eq_range']
 have:=hrun H E w a (fun x' a' w'=>∃ H' E',x'=Exit.normal/\a'.defers=[]/\RelL st'.t H' E' a'.tmps.toList/\Conc H' E' w' st'.m/\Evol st'.mv H E w H' E' w') hC hT hd fun a' w' H' E' h1 h2 h3 h4=>⟨H',E',rfl,h1,h2,h3,h4⟩
 simpa using this
end Go.Ax
