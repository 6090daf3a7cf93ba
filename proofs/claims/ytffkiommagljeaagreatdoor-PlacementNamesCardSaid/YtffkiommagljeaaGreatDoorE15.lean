import Derived.Test.YtffkiommagljeaaGreatDoorE14
set_option linter.unusedVariables false
set_option linter.unusedSimpArgs false
set_option linter.unusedSectionVars false
namespace Go.Ax
open Go
variable [Inhabited Gl0]
def StepD (P:Program) (ops:Array Oper) (o:Oper) (d:DE) (s:St):Prop :=
 ∀ H E w a (K:Act->World->Prop) (Q:Exit->Act->World->Prop),Conc H E w s.m->RelL s.t H E a.tmps.toList->a.defers=[] ->
  (∀ v w' H' E',Rel d.r H' E' v->Conc H' E' w' (applyW d.wr (killM d.kl s.m))->Evol d.kl H E w H' E' w'->K (a.put o.dst v) w') ->
  if Region.wanted o (yielded ops a.tmps) then o.wp P a w K Q∨(o.asks P a w/\LetsOut Q) else K (a.put o.dst undef) w
def edgesOf (o:Oper):List Nat:=(o.after.toList.filter fun e=>Region.binds .any e).map (·.on)
theorem edges_iff {o:Oper} {k:Nat}:k∈edgesOf o↔∃ e∈o.after,Region.binds .any e=true/\e.on=k:=by
 simp [edgesOf,and_assoc]
def below (q k:Nat):Bool:=Nat.blt k q
structure DOk (P:Program) (ops:Array Oper) (s0:St) (n:Nat) (ds:List DE):Prop where
 size:ds.length=n
 step:∀ j d,j<n->ds[j]? = some d->∃ o,ops[j]? = some o/\d.dst=o.dst/\(∀ k∈edgesOf o,k<j) /\
  (∀ k,d.pm.testBit k=true->k<j/\(k∈edgesOf o∨∃ e de,e∈edgesOf o/\ds[e]? = some de/\de.pm.testBit k=true)) /\
  (∀ k dk,k<j->ds[k]? = some dk->d.pm.testBit k=true∨compat dk d=true) /\
  (∀ s',alike d (foldX ds 0 (below j) s0) s'->StepD P ops o d s')
theorem DOk.pm {P:Program} {ops:Array Oper} {s0:St} {n:Nat} {ds:List DE} (h:DOk P ops s0 n ds) {X:Nat->Bool} (hX:∀ j d o,ds[j]? = some d->ops[j]? = some o->X j=true->∀ k∈edgesOf o,X k=true) :
 ∀ (m j:Nat) (d:DE) (o:Oper),j<m->ds[j]? = some d->ops[j]? = some o->(∀ k∈edgesOf o,X k=true)->∀ k,d.pm.testBit k=true->X k=true:=by
 intro m
 induction m with
 | zero=>intro j d o h0;omega
 | succ m ih =>
   intro j d o hj hd ho hk k hb
   have hjn:j<n:=by rw [<- h.size];exact (List.getElem?_eq_some_iff.1 hd).1
   obtain ⟨o',ho',hdst,he,hpm,_⟩:=h.step j d hjn hd
   rw [ho] at ho';cases ho'
   obtain ⟨_,hb'⟩:=hpm k hb
   rcases hb' with hb' | ⟨e,de,hme,hde,hbit⟩
   · exact hk k hb'
   · have hej:=he e hme
     have hen:e<n:=by omega
     obtain ⟨oe,hoe,_⟩:=h.step e de hen hde
     exact ih e de oe (by omega) hde hoe (hX e de oe hde hoe (hk e hme)) k hbit
def left (X:Nat->Bool):Nat->Nat
 | 0=>0
 | n+1=>left X n+(match X n with | true=>0 | false=>1)
theorem left_ins (X:Nat->Bool) (q:Nat) (hq:X q=false):∀ n,left (ins X q) n+(if q<n then 1 else 0)=left X n
 | 0=>by simp [left]
 | n+1=>by
   have ih:=left_ins X q hq n
   have h1:ins X q n=if n=q then true else X n:=rfl
   simp only [left]
   rw [h1]
   by_cases h:n=q
   · subst h
     rw [if_neg (Nat.lt_irrefl _)] at ih
     rw [if_pos (Nat.lt_succ_self _),if_pos rfl,hq]
     simp only
     omega
   · rw [if_neg h]
     by_cases h1:q<n
     · rw [if_pos h1] at ih;rw [if_pos (by omega)];omega
     · rw [if_neg h1] at ih;rw [if_neg (by omega)];omega
theorem left_zero (X:Nat->Bool):∀ n,left X n=0->∀ k,k<n->X k=true
 | 0,_,k,hk=>by omega
 | n+1,h,k,hk=>by
   simp only [left] at h
   rcases Nat.lt_or_ge k n with h1 | h1
   · exact left_zero X n (by omega) k h1
   · have:k=n:=by omega
     subst this
     cases hx:X k
     · rw [hx] at h;simp at h
     · rfl
theorem Conc.eqv {H:HH} {E:Env} {w:World} {M M':List Blk} (h:Conc H E w M) (hm:∀ i,getM M i=getM M' i):Conc H E w M' :=
 ⟨h.imm,h.tf,fun i=>by rw [<- hm];exact h.blk i,h.injH,h.sepH,h.ltS⟩
theorem wpAny_draw {P:Program} {ops:Array Oper} {s0:St} {ds:List DE} (h:DOk P ops s0 ops.size ds) (hreg:RegP s0 ds) {MV:List Nat} (hMV:∀ d∈ds,∀ i∈d.kl,i∈MV) {Q:Exit->Act->World->Prop} :
 ∀ (fuel:Nat) (listed:Array Bool) (H:HH) (E:Env) (w:World) (a:Act),listed.size=ops.size ->
  left (fun k=>listed.getD k false) ops.size<=fuel ->
  (∀ j d o,ds[j]? = some d->ops[j]? = some o->listed.getD j false=true->∀ k∈edgesOf o,listed.getD k false=true) ->
  Conc H E w (foldX ds 0 (fun k=>listed.getD k false) s0).m->RelL (foldX ds 0 (fun k=>listed.getD k false) s0).t H E a.tmps.toList->a.defers=[] ->
  (∀ a' w' H' E',a'.defers=[]->RelL (foldX ds 0 (fun _=>true) s0).t H' E' a'.tmps.toList->Conc H' E' w' (foldX ds 0 (fun _=>true) s0).m->Evol MV H E w H' E' w'->Q .normal a' w') ->
  wpAny P .any ops Q fuel listed a w:=by
 intro fuel
 have hdone:∀ (listed:Array Bool),listed.size=ops.size->Region.ready .any ops listed=[]->∀ k,k<ops.size->listed.getD k false=true:=by
  intro listed hsz hr k
  induction k using Nat.strongRecOn with
  | ind k ih =>
    intro hk
    cases hl:listed.getD k false with
    | true=>rfl
    | false =>
      exfalso
      have hdk:k<ds.length:=by rw [h.size];exact hk
      obtain ⟨o,ho,_,he,_⟩:=h.step k ds[k] hk (List.getElem?_eq_getElem hdk)
      have:k∈Region.ready .any ops listed:=mem_ready.2 ⟨by
       have:k<listed.size:=by omega
       simp [this] at hl ⊢;exact hl,o,ho,fun e hee hb=>by
       have hk':=he e.on (edges_iff.2 ⟨e,hee,hb,rfl⟩)
       exact ih e.on hk' (by omega)⟩
      rw [hr] at this;cases this
 have hfin:∀ (listed:Array Bool) H E w a,(∀ k,k<ops.size->listed.getD k false=true)->Conc H E w (foldX ds 0 (fun k=>listed.getD k false) s0).m->RelL (foldX ds 0 (fun k=>listed.getD k false) s0).t H E a.tmps.toList->a.defers=[] ->
  (∀ a' w' H' E',a'.defers=[]->RelL (foldX ds 0 (fun _=>true) s0).t H' E' a'.tmps.toList->Conc H' E' w' (foldX ds 0 (fun _=>true) s0).m->Evol MV H E w H' E' w'->Q .normal a' w')->Q .normal a w:=by
  intro listed H E w a hall hC hT hd hq
  rw [foldX_congr ds 0 (Y:=fun _=>true) s0 fun k _ hk=>hall k (by rw [<- h.size];omega)] at hC hT
  exact hq a w H E hd hT hC (Evol.refl _ _ _ _)
 induction fuel with
 | zero =>
   intro listed H E w a hsz hf hX hC hT hd hq
   have hall:=left_zero _ _ (Nat.le_zero.1 hf)
   refine ⟨?_,hfin listed H E w a hall hC hT hd hq⟩
   cases hr:Region.ready .any ops listed with
   | nil=>rfl
   | cons i r =>
     exfalso
     have hi:i∈Region.ready .any ops listed:=by rw [hr];simp
     obtain ⟨hun,o,ho,_⟩:=mem_ready.1 hi
     have hlt:=(Array.getElem?_eq_some_iff.1 ho).1
     have:=hall i hlt
     have hil:i<listed.size:=by omega
     simp [hil] at hun this
     rw [hun] at this;cases this
 | succ fuel ih =>
   intro listed H E w a hsz hf hX hC hT hd hq
   refine ⟨fun hr=>hfin listed H E w a (hdone listed hsz hr) hC hT hd hq,fun i hi=>?_⟩
   obtain ⟨hun,o,ho,hall⟩:=mem_ready.1 hi
   have hlt:=(Array.getElem?_eq_some_iff.1 ho).1
   have hil:i<listed.size:=by omega
   have hXi:listed.getD i false=false:=by simp [hil] at hun ⊢;exact hun
   have hdl:i<ds.length:=by rw [h.size];exact hlt
   have hdi:ds[i]? = some ds[i]:=List.getElem?_eq_getElem hdl
   generalize ds[i]=d at hdi
   obtain ⟨o',ho',hdst,hed,hpm,hcm,hstep⟩:=h.step i d hlt hdi
   rw [ho] at ho';cases ho'
   have hpred:∀ k∈edgesOf o,listed.getD k false=true:=fun k hk=>by
    obtain ⟨e,he,hb,rfl⟩:=edges_iff.1 hk
    exact hall e he hb
   have hpmX:=h.pm (X:=fun k=>listed.getD k false) hX (i+1) i d o (by omega) hdi ho hpred
   have hlt':∀ {k dk},ds[k]? = some dk->k<ops.size:=fun {k dk} hk=>by rw [<- h.size];exact (List.getElem?_eq_some_iff.1 hk).1
   -- later ones that went by are not bound to i
   have hlater:∀ k dk,ds[k]? = some dk->i<k->listed.getD k false=true->compat d dk=true/\pairB s0 ds d dk=true:=by
    intro k dk hk hik hXk
    obtain ⟨ok,hok,_,_,_,hcm',_⟩:=h.step k dk (hlt' hk) hk
    have hno:¬ dk.pm.testBit i=true:=by
     intro hb
     have:=h.pm (X:=fun k=>listed.getD k false) hX (k+1) k dk ok (by omega) hk hok (hX k dk ok hk hok hXk) i hb
     rw [show listed.getD i false=true from this] at hXi;cases hXi
    exact ⟨(hcm' i d hik hdi).resolve_left hno,(hreg i k d dk hik hdi hk).resolve_left hno⟩
   have hearlier:∀ k dk,ds[k]? = some dk->k<i->listed.getD k false=false->compat dk d=true/\pairB s0 ds dk d=true:=by
    intro k dk hk hki hXk
    have hno:¬ d.pm.testBit k=true:=by
     intro hb
     have:=hpmX k hb
     rw [show listed.getD k false=true from this] at hXk;cases hXk
    exact ⟨(hcm k dk hki hk).resolve_left hno,(hreg k i dk d hki hk hdi).resolve_left hno⟩
   have hmem:∀ {k dk},ds[k]? = some dk->dk∈ds:=fun hk=>List.mem_of_getElem? hk
   have hag:alike d (foldX ds 0 (below i) s0) (foldX ds 0 (fun k=>listed.getD k false) s0):=by
    refine foldX_alike (Rch s0 ds) ds 0 _ _ d s0 s0 rch_app (rch_zero _ _) (rch_zero _ _) (alike.refl _ _) (fun _ _ _ _ _=>alike.refl _ _) ?_ ?_
    · intro k dk hk hz hy
      simp only [Nat.zero_add,below,Nat.blt_eq] at hz hy
      obtain ⟨hc,hp⟩:=hearlier k dk hk hz hy
      refine ⟨(pair_aw (hmem hk) (hmem hdi) hp).1,(compat_sees hc).1,fun j dj hkj hj hYj _=>?_⟩
      simp only [Nat.zero_add] at hYj
      obtain ⟨oj,hoj,_,_,_,hcm',_⟩:=h.step j dj (hlt' hj) hj
      have hno:¬ dj.pm.testBit k=true:=by
       intro hb
       have:=h.pm (X:=fun k=>listed.getD k false) hX (j+1) j dj oj (by omega) hj hoj (hX j dj oj hj hoj hYj) k hb
       rw [show listed.getD k false=true from this] at hy;cases hy
      exact ⟨(pair_aw (hmem hk) (hmem hj) ((hreg k j dk dj hkj hk hj).resolve_left hno)).1,(compat_sees ((hcm' k dk hkj hk).resolve_left hno)).1⟩
    · intro k dk hk hz hy
      simp only [Nat.zero_add,below] at hz hy
      have hz':¬ k<i:=by rw [<- Nat.blt_eq,hz];simp
      have hne:k≠i:=fun e=>by subst e;rw [hXi] at hy;cases hy
      obtain ⟨hc,hp⟩:=hlater k dk hk (by omega) hy
      refine ⟨(pair_aw (hmem hdi) (hmem hk) hp).2,(compat_sees hc).2,fun j dj hkj hj _ hZj=>?_⟩
      simp only [Nat.zero_add,below,Nat.blt_eq] at hZj
      omega
   have hins:(foldX ds 0 (fun k=>(listed.setIfInBounds i true).getD k false) s0).eqv (d.app (foldX ds 0 (fun k=>listed.getD k false) s0)):=by
    have e:(fun k=>(listed.setIfInBounds i true).getD k false)=ins (fun k=>listed.getD k false) i:=by
     funext k
     simp only [ins]
     by_cases hk:k=i
     · subst hk;simp [hil]
     · rw [if_neg hk];exact getD_set_ne false (Ne.symm hk)
    rw [e]
    exact foldX_ins ds 0 _ i d s0 (Nat.zero_le _) (by simpa using hdi) hXi fun k dk hk hik hXk=>by
     simp only [Nat.zero_add] at hik hXk
     exact compat_comm (hlater k dk hk hik hXk).1
   have hst:=hstep _ hag
   unfold wpOp
   simp only [ho]
   refine hst H E w a _ Q hC hT hd fun v w' H' E' hr hC' hE'=>?_
   have hT':RelL (d.app (foldX ds 0 (fun k=>listed.getD k false) s0)).t H' E' (a.put o.dst v).tmps.toList:=by
    show RelL (putT (killL d.kl _) d.dst d.r) H' E' _
    rw [hdst]
    exact relL_put (hE'.relL hT) hr
   refine ih (listed.setIfInBounds i true) H' E' w' _ (by simp [hsz]) ?_ ?_ ?_ ?_ (by rw [put_defers];exact hd) ?_
   · have hl:=left_ins (fun k=>listed.getD k false) i hXi ops.size
     rw [if_pos hlt] at hl
     have e:(fun k=>(listed.setIfInBounds i true).getD k false)=ins (fun k=>listed.getD k false) i:=by
      funext k
      simp only [ins]
      by_cases hk:k=i
      · subst hk;simp [hil]
      · rw [if_neg hk];exact getD_set_ne false (Ne.symm hk)
     rw [e];omega
   · intro j dj oj hj hoj hXj k hk
     by_cases hji:j=i
     · subst hji
       rw [ho] at hoj;cases hoj
       exact getD_set_true (hpred k hk)
     · rw [getD_set_ne false (Ne.symm hji)] at hXj
       exact getD_set_true (hX j dj oj hj hoj hXj k hk)
   · exact hC'.eqv fun k=>(hins.2 k).symm
   · rw [hins.1];exact hT'
   · intro a2 w2 H2 E2 h1 h2 h3 h4
     exact hq a2 w2 H2 E2 h1 h2 h3 (hE'.trans h4 (hMV d (List.mem_of_getElem? hdi)))
theorem drew_conc {H:HH} {E:Env} {w:World} {M:List Blk} (h:Conc H E w M) (n:Nat):Conc H E { w with drawn:=n } M:=by
 refine ⟨h.imm,h.tf,fun i=>?_,h.injH,h.sepH,h.ltS⟩
 have:=(h.blk i).move (f:=some) (E':=E) (H':=H) (w':={ w with drawn:=n }) (i':=i) (HH.le_refl _) (fun a c hc hl=>by cases hc;exact ⟨hl,rfl,rfl,rfl⟩) rfl rfl rfl rfl (fun _=>Iff.rfl) fun _ _=>rfl
 rwa [renB_some] at this
theorem foldX_mem:∀ (l:List DE) (p:Nat) (s:St),(∀ i∈s.mv,i∈(foldX l p (fun _=>true) s).mv)/\∀ d∈l,∀ i∈d.kl,i∈(foldX l p (fun _=>true) s).mv
 | [],_,s=>⟨fun _ h=>h,fun d hd=>by cases hd⟩
 | e::r,p,s=>by
   obtain ⟨h1,h2⟩:=foldX_mem r (p+1) (e.app s)
   refine ⟨fun i hi=>h1 i (mem_app i hi),fun d hd i hi=>?_⟩
   rcases List.mem_cons.1 hd with rfl | hd
   · exact h1 i (by simp [DE.app,St.app,DE.stp,hi])
   · exact h2 d hd i hi
theorem ACode.drawn {P:Program} {ops:Array Oper} {id:Nat} {s0:St} {ds:List DE} (hm:P.follows .mixedOrders=true) (h:DOk P ops s0 ops.size ds) (hreg:RegP s0 ds) :
 ACode P (.region id ops true) s0 .normal (foldX ds 0 (fun _=>true) s0):=by
 obtain ⟨h1,h2⟩:=foldX_mem ds 0 s0
 refine ⟨h1,fun H E w a hC hT hd=>wp_region_any hm ?_⟩
 have e:(fun k=>(Array.replicate ops.size false).getD k false)=fun _=>false:=by
  funext k
  simp only [Array.getD_eq_getD_getElem?,Array.getElem?_replicate]
  split<;>rfl
 have hn:foldX ds 0 (fun k=>(Array.replicate ops.size false).getD k false) s0=s0:=by
  rw [e];exact foldX_none ds 0 s0 fun _ _=>rfl
 refine wpAny_draw h hreg h2 ops.size _ H E { w with drawn:=w.drawn+1 } a (by simp) ?_ ?_ (by rw [hn];exact drew_conc hC _) (by rw [hn];exact hT) hd ?_
 · have:∀ (X:Nat->Bool) n,left X n<=n:=by
    intro X n
    induction n with
    | zero=>simp [left]
    | succ n ih=>simp only [left];cases X n<;>simp<;>omega
   exact this _ _
 · intro j d o _ _ hj
   rw [show (Array.replicate ops.size false).getD j false=false from congrFun e j] at hj;cases hj
 · intro a' w' H' E' hd' hT' hC' hE'
   refine ⟨H',E',rfl,hd',hT',hC',?_⟩
   exact ⟨hE'.os,hE'.tape,hE'.output,hE'.size,hE'.keep,hE'.own,hE'.hh,hE'.new,hE'.ids⟩
def refOf:AV->List Nat
 | .ptr i _ _ _=>[i]
 | .own i _ _ _=>[i]
 | _=>[]
def opRd (t:Nat->AV) (op:Op):List Nat :=
 match op with
 | .load _ a=>refOf (ev t a)
 | .store _ a _=>refOf (ev t a)
 | .call { callee:=.builtin .append,args,.. }=>args.toList.flatMap fun x=>refOf (ev t x)
 | _=>[]
theorem rdPtr_congr {h:Option Hint} {rd rd':Nat->Blk} {a:AV} {n:Nat} (hr:∀ i∈refOf a,rd i=rd' i):rdPtr h rd a n=rdPtr h rd' a n:=by
 cases a<;>first | rfl | skip
 rename_i i k sz o
 simp only [rdPtr,hr i (by simp [refOf])]
theorem aLoad_congr {P:Program} {h:Option Hint} {rd rd':Nat->Blk} {t:TypeId} {a:AV} (hr:∀ i∈refOf a,rd i=rd' i):aLoad P h rd t a=aLoad P h rd' t a:=by
 unfold aLoad
 have e:∀ n,rdPtr h rd a n=rdPtr h rd' a n:=fun n=>rdPtr_congr hr
 rw [e 1]
 split
 · split
   · rw [e]
   · rfl
 · rfl
theorem aStore_congr {P:Program} {h:Option Hint} {rd rd':Nat->Blk} {t:TypeId} {a x:AV} (hr:∀ i∈refOf a,rd i=rd' i):aStore P h rd t a x=aStore P h rd' t a x:=by
 cases a with
 | ptr i k sz o =>
   have e:=hr i (by simp [refOf])
   cases hc:cellsOf x<;>cases hn:sizeT P t<;>simp [aStore,hc,hn,e]
 | _=>rfl
theorem srcOf_congr {rd rd':Nat->Blk} {sz:Nat} {x:AV} (hr:∀ i∈refOf x,rd i=rd' i):srcOf rd sz x=srcOf rd' sz x:=by
 cases x with
 | own i sz' lo n =>
   have e:=hr i (by simp [refOf])
   simp [srcOf,e]
 | s v =>
   cases v with
   | slice a m c=>cases a<;>cases m<;>cases c<;>rfl
   | _=>rfl
 | _=>rfl
theorem aAppend_congr {P:Program} {h:Option Hint} {rd rd':Nat->Blk} {nid:Nat} {t:TypeId} {s x:AV} (hs:∀ i∈refOf s,rd i=rd' i) (hx:∀ i∈refOf x,rd i=rd' i):aAppend P h rd nid t s x=aAppend P h rd' nid t s x:=by
 unfold aAppend
 have e:∀ sz,srcOf rd sz x=srcOf rd' sz x:=fun sz=>srcOf_congr hx
 cases s with
 | own i sz' lo n =>
   have e2:=hs i (by simp [refOf])
   cases hu:P.underlying t with
   | none=>rfl
   | some d=>cases d<;>cases lo<;>simp [e,e2]
 | s v =>
   cases v with
   | slice a m c=>cases a<;>cases m<;>cases c<;>simp [e]
   | _=>simp [e]
 | _=>simp [e]
theorem aop_rd {P:Program} {h:Option Hint} {rd rd':Nat->Blk} {nid:Nat} {t:Nat->AV} {op:Op} (hr:∀ i∈opRd t op,rd i=rd' i):aop P h rd nid t op=aop P h rd' nid t op:=by
 cases op with
 | load ty a =>
   simp only [opRd] at hr
   simp only [aop,aLoad_congr hr]
 | store ty a x =>
   simp only [opRd] at hr
   simp only [aop,aStore_congr hr]
 | call c =>
   obtain ⟨callee,args,argTypes⟩:=c
   cases callee with
   | value f=>rfl
   | invoke r m=>rfl
   | builtin b =>
     cases b with
     | append =>
       simp only [opRd] at hr
       simp only [aop]
       split
       · rename_i t1 t2 s x h1 h2
         rw [h2] at hr
         rw [aAppend_congr (fun i hi=>hr i (by simp [hi])) (fun i hi=>hr i (by simp [hi]))]
       · rfl
     | _=>rfl
 | unOp u _ _=>cases u<;>rfl
 | _=>rfl
theorem aMove_nid {h:Option Hint} {nid nid':Nat} {r:AV} {e:Eff} (h1:aMove h nid r=some e) (hn:nid ∉ ids e.wr):aMove h nid' r=some e:=by
 have key:(∃ ty sz,h=some (.row ty sz)/\r=.s (.slice none 0 0))∨(∀ n,aMove h n r=pur r):=by
  unfold aMove
  split
  · exact .inl ⟨_,_,rfl,rfl⟩
  · exact .inr fun _=>rfl
 rcases key with ⟨ty,sz,rfl,rfl⟩ | k
 · simp only [aMove] at h1
   cases h1;simp [ids] at hn
 · rw [k] at h1 ⊢;exact h1
theorem aBuildSlice_nid {P:Program} {nid nid':Nat} {t:TypeId} {n:Nat} {pa:List (Nat×AV)} {e:Eff} (h1:aBuildSlice P nid t n pa=some e) (hn:nid ∉ ids e.wr):aBuildSlice P nid' t n pa=some e:=by
 unfold aBuildSlice at h1
 repeat' split at h1
 all_goals first | cases h1;simp [ids] at hn | cases h1
theorem aAppend_nid {P:Program} {h:Option Hint} {rd:Nat->Blk} {nid nid':Nat} {t:TypeId} {s x:AV} {e:Eff} (h1:aAppend P h rd nid t s x=some e) (hn:nid ∉ ids e.wr):aAppend P h rd nid' t s x=some e:=by
 have key:(∃ i sz lo n,s=.own i sz lo n)∨(∀ i sz lo n,s≠.own i sz lo n):=by
  cases s with
  | own i sz lo n=>exact .inl ⟨i,sz,lo,n,rfl⟩
  | _=>exact .inr fun _ _ _ _ h=>by cases h
 rcases key with ⟨i,sz,lo,n,rfl⟩ | hs
 · cases lo<;>exact h1
 · exfalso
   unfold aAppend at h1
   repeat' split at h1
   all_goals first | (cases h1;done) | (cases h1;simp [ids] at hn;done) | exact absurd rfl (hs _ _ _ _)
theorem aop_nid {P:Program} {h:Option Hint} {rd:Nat->Blk} {nid nid':Nat} {t:Nat->AV} {op:Op} {e:Eff} (h1:aop P h rd nid t op=some e) (hn:nid ∉ ids e.wr):aop P h rd nid' t op=some e:=by
 cases op with
 | move x=>exact aMove_nid h1 hn
 | assign x=>exact aMove_nid h1 hn
 | alloc ty =>
   simp only [aop] at h1
   split at h1
   · cases h1;simp [ids] at hn
   · cases h1
 | box ty x =>
   simp only [aop] at h1
   split at h1
   · cases h1;simp [ids] at hn
   · cases h1
 | buildSlice ty n pa=>exact aBuildSlice_nid h1 hn
 | call c =>
   obtain ⟨callee,args,argTypes⟩:=c
   cases callee with
   | value f=>exact h1
   | invoke r m=>exact h1
   | builtin b =>
     cases b with
     | append =>
       simp only [aop] at h1 ⊢
       split at h1
       · split at h1
         · rename_i hq
           rw [if_pos hq]
           exact aAppend_nid h1 hn
         · cases h1
       · cases h1
     | _=>exact h1
 | unOp u _ _=>cases u<;>exact h1
 | _=>exact h1
structure CE where
 r:AV
 rd:List Nat
 wr:List (Nat×Blk)
 kl:List Nat
 ob:List Prop
def CE.stp (e:CE) (m:List Blk):Stp:=⟨e.r,applyW e.wr (killM e.kl m),e.kl,e.ob⟩
def StepT (P:Program) (o:Oper) (t:Nat->AV) (M:List Blk) (e:CE):Prop :=
 ∀ H E w a (K:Act->World->Prop) (Q:Exit->Act->World->Prop),Conc H E w M->RelT t H E a->a.defers=[] ->
  (∀ v w' H' E',Rel e.r H' E' v->Conc H' E' w' (applyW e.wr (killM e.kl M))->Evol e.kl H E w H' E' w'->K (a.put o.dst v) w')->o.wp P a w K Q
def killW (kl:List Nat):List (Nat×Blk)->List (Nat×Blk)
 | []=>[]
 | p::r=>(p.1,match kl with | []=>p.2 | _=>renB (keepOf kl) p.2)::killW kl r
theorem lastW_killW (kl:List Nat) (j:Nat):∀ l,lastW (killW kl l) j=(lastW l j).map (renB (keepOf kl))
 | []=>rfl
 | (i,B)::r=>by
   have hb:(match kl with | []=>B | _=>renB (keepOf kl) B)=renB (keepOf kl) B:=by
    cases kl with
    | nil=>rw [keepOf_nil,renB_some]
    | cons _ _=>rfl
   simp only [killW,lastW,lastW_killW kl j r,hb]
   cases lastW r j with
   | some b=>rfl
   | none=>simp only [Option.map_none];split<;>rfl
theorem killW_eqv (kl:List Nat) (wr:List (Nat×Blk)) (M:List Blk) (j:Nat):getM (killM kl (applyW wr M)) j=getM (applyW (killW kl wr) (killM kl M)) j:=by
 rw [getM_kill,getM_applyW,getM_applyW,lastW_killW,getM_kill]
 cases lastW wr j<;>rfl
def CF:=Nat->Nat->Oper->(Nat->AV)->(Nat->Blk)->Option CE
def CfOk (P:Program) (cf:CF):Prop :=
 ∀ nid p o t rd e,cf nid p o t rd=some e->Hold e.ob->(∀ k,nid<=k->rd k=.dead)->∀ M,(∀ i∈e.rd,getM M i=rd i)->StepT P o t M e
theorem aop_step {P:Program} {hh:Option Hint} {nid:Nat} {o:Oper} {t:Nat->AV} {rd:Nat->Blk} {e:Eff} (h:aop P hh rd nid t o.op=some e) (ho:Hold (e.ob.map (· = true))) (hd:∀ k,nid<=k->rd k=.dead) {M:List Blk}
 (hM:∀ i∈opRd t o.op++ids e.wr,getM M i=rd i):StepT P o t M ⟨e.r,opRd t o.op++ids e.wr,killW e.kl e.wr,e.kl,e.ob.map (· = true)⟩:=by
 intro H E w a K Q hC hT hdf hk
 obtain ⟨nid',hd',h'⟩:∃ nid',getM M nid'=.dead/\aop P hh (getM M) nid' t o.op=some e:=by
  rw [aop_rd (rd':=getM M) fun i hi=>(hM i (by simp [hi])).symm] at h
  by_cases hn:nid∈ids e.wr
  · exact ⟨nid,(hM nid (by simp [hn])).trans (hd nid (Nat.le_refl _)),h⟩
  · exact ⟨len M,getM_len _ _ (Nat.le_refl _),aop_nid h hn⟩
 obtain ⟨n,v,w',E',hrun,hn,hr,hc,hev⟩:=aop_good (a:=a) hC hd' hT h' fun b hb=>ho (b=true) (by simp;exact hb)
 have hc:=hc.eqv (killW_eqv e.kl e.wr M)
 unfold Oper.wp
 rw [hrun]
 rcases hn with rfl | ⟨rfl,rfl⟩
 · exact hk v w' H E' hr hc hev
 · exact hk undef w' H E' hr hc hev
end Go.Ax
