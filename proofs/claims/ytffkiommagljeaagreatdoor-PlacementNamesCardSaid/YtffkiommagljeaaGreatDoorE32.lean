import Derived.Test.YtffkiommagljeaaGreatDoorE30
import Derived.Test.YtffkiommagljeaaGreatDoorE31
set_option linter.unusedVariables false
set_option linter.unusedSimpArgs false
set_option linter.unusedSectionVars false
namespace Go.Ax
open Go
variable [Inhabited Gl0]
open Go.MapKept (IsKey sameNow_of_keys heap_set run_checkKey run_findKey)
def KeyT.desc:KeyT->TypeDesc
 | .s=>.string
 | .i kk=>.int kk
theorem KeyT.isKey (q:KeyT) (x:q.ty):IsKey q.desc (q.val x):=by
 cases q with
 | s=>trivial
 | i kk=>exact (rfl:kk=kk)
theorem KeyT.val_inj {q:KeyT} {x y:q.ty} (h:q.val x=q.val y):x=y:=by
 cases q with
 | s=>exact Value.string.inj h
 | i kk=>exact (Value.int.inj h).2
def KeyT.of:(q:KeyT)->Value->Option q.ty
 | .s,.string z=>some z
 | .i kk,.int k x=>(match kindB k kk with | true=>some x | false=>none)
 | _,_=>none
theorem KeyT.of_ok {q:KeyT} {v:Value} {x:q.ty} (h:q.of v=some x):v=q.val x:=by
 cases q with
 | s =>
   cases v with
   | string z=>simp only [KeyT.of] at h;cases h;rfl
   | _=>simp [KeyT.of] at h
 | i kk =>
   cases v with
   | int k z =>
     simp only [KeyT.of] at h
     split at h
     · rename_i hk
       have:=of_decide_eq_true hk
       subst this
       cases h;rfl
     · cases h
   | _=>simp [KeyT.of] at h
theorem tm_find {q:KeyT} {x:q.ty}:∀ {l:List MapEntry} (i:Nat),(∀ e∈l,∃ y,e.key=q.val y) ->
 ((∀ e∈l,e.key≠q.val x)/\Instr.findNow q.desc (q.val x) l i=some none)∨∃ j e,l[j]? = some e/\e.key=q.val x/\Instr.findNow q.desc (q.val x) l i=some (some (i+j,e.val))
 | [],i,_=>.inl ⟨fun _ h=>(by cases h),rfl⟩
 | e::r,i,h=>by
   obtain ⟨y,hy⟩:=h e (.head _)
   obtain ⟨b,hb,hiff⟩:=sameNow_of_keys (q.isKey x) (by rw [hy];exact q.isKey y:IsKey q.desc e.key)
   cases b with
   | true=>exact .inr ⟨0,e,rfl,(hiff.1 rfl).symm,by simp [Instr.findNow,hb]⟩
   | false =>
     have hne:e.key≠q.val x:=fun e=>by have:=hiff.2 e.symm;cases this
     rcases tm_find (x:=x) (i+1) (fun z hz=>h z (.tail _ hz)) with ⟨g1,g2⟩ | ⟨j,e',g1,g2,g3⟩
     · refine .inl ⟨fun z hz=>?_,by simp [Instr.findNow,hb,g2]⟩
       rcases List.mem_cons.1 hz with rfl | hz
       · exact hne
       · exact g1 z hz
     · exact .inr ⟨j+1,e',by simpa using g1,g2,by simp [Instr.findNow,hb,g3];omega⟩
theorem upd_same {w:World} {b:Nat} {o:Obj} (h:w.heap[b]? = some o):Upd w w b o:=⟨rfl,rfl,rfl,rfl,h,fun _ _=>rfl⟩
theorem focus_ok {H:HH} {E:Env} {w:World} {M:List Blk} (hC:Conc H E w M) {i n nid:Nat} {q:KeyT} {has:q.ty->Bool} {c:q.ty->Tr} {kn:List (q.ty×AV)} {x:q.ty} (hg:getM M i=.tmap q has c n kn) (hx:has x=true) (hk:∀ p∈kn,p.1≠x) (hlt:i<nid) (hd:∀ k,nid<=k->k<nid+len (openV (c x) nid).2->getM M k=.dead) :
 ∃ v E' b ms ck,E.ι i=some b/\w.heap[b]? = some (.map ms ck)/\EntsOk q ms.toList ck/\mgetK q x ms.toList v/\Conc H E' w (putM (puts M nid (openV (c x) nid).2) i (.tmap q has c n ((x,(openV (c x) nid).1)::kn)))/\Evol [] H E w H E' w/\Rel (openV (c x) nid).1 H E' v:=by
 have hB:=hC.blk i
 rw [hg] at hB
 obtain ⟨hl,b,ms,ck,F,h1,h2,h3,h4⟩:=hB
 obtain ⟨v,hv⟩:=(h4.hasK x).1 hx
 obtain ⟨hC1,_⟩:=hC.upd hl h1 (upd_same h3) (B:=.any) ⟨hl,b,_,h1,h3⟩
 have hp:Pool H E w (putM M i .any) i nid (nid+len (openV (c x) nid).2):=⟨hC1,getM_put_same _ _ _,hlt,fun k hk ht=>by rw [getM_put_ne _ _ _ _ (by omega)];exact hd k hk ht,fun y hy hs=>by rw [h1] at hy;cases hy;exact h2 hs⟩
 obtain ⟨E',g1,g2,g3,g4⟩:=openV_ok (c x) hp (Nat.le_refl _) (fun y hy=>h4.own x y hy) (h4.tr x hk v hv)
 obtain ⟨e1,e2,e3,e4⟩:=g3.ids i hl
 refine ⟨v,E',b,ms,ck,h1,h3,h4.ents,hv,?_,g2,g4⟩
 have hB':BlkOk H E' w i (.tmap q has c n ((x,(openV (c x) nid).1)::kn)):=by
  refine ⟨e1,b,ms,ck,fun y z=>F y z/\y≠x,e2.trans h1,fun hs=>h2 (g3.sub _ hs),h3,h4.ents,h4.size,h4.hasK,fun p hp=>?_,fun y z hy=>g3.rest z (h4.own y z hy.1) fun hz=>hy.2 (h4.sep y x z hy.1 hz),fun y y' z hy hy'=>h4.sep y y' z hy.1 hy'.1,fun y hy u hu=>?_⟩
  · rcases List.mem_cons.1 hp with rfl | hp
    · exact ⟨v,hv,g4⟩
    · obtain ⟨u,a1,a2⟩:=h4.known p hp
      exact ⟨u,a1,Rel.env g3.via a2⟩
  · have hyx:y≠x:=fun e=>hy (x,(openV (c x) nid).1) (by simp) e.symm
    exact TrOk.move (HH.le_refl _) _ (fun z hz=>⟨hz,hyx⟩) (fun _ _=>rfl) (h4.tr y (fun p hp=>hy p (List.mem_cons_of_mem _ hp)) u hu)
 obtain ⟨hC2,_⟩:=g1.upd e1 (e2.trans h1) (upd_same h3) hB'
 refine hC2.eqv fun j=>?_
 by_cases hj:i=j
 · subst hj;rw [getM_put_same,getM_put_same]
 · rw [getM_put_ne _ _ _ _ hj,getM_put_ne _ _ _ _ hj,getM_puts,getM_puts,getM_put_ne _ _ _ _ hj]
def noneK {α:Type} (x:α) (t:T CE):List (α×AV)->T CE
 | []=>t
 | (k,_)::r=>.need (¬ x=k) (noneK x t r)
def wrFrom (d:Nat):List Blk->List (Nat×Blk)
 | []=>[]
 | B::r=>(d,B)::wrFrom (d+1) r
def nthK {α:Type}:List (α×AV)->Nat->Option (α×AV)
 | [],_=>none
 | p::_,0=>some p
 | _::r,n+1=>nthK r n
def idxK (h l:Nat):Nat:=match Nat.ble 900 h with | true=>l - 1 - (h - 900) | false=>h - 784
def lookNew (nid i:Nat) (q:KeyT) (has:q.ty->Bool) (c:q.ty->Tr) (n:Nat) (kn:List (q.ty×AV)) (x:q.ty) (ok:Bool) (z:AV):T CE :=
 noneK x (.ite (has x) (.ret ⟨tupOk ok (openV (c x) nid).1 (.s (.bool true)),i::upFrom nid (len (openV (c x) nid).2),(i,.tmap q has c n ((x,(openV (c x) nid).1)::kn))::wrFrom nid (openV (c x) nid).2,[],[]⟩)
  (.ret ⟨tupOk ok z (.s (.bool false)),[i],[],[],[]⟩)) kn
def lookT (P:Program) (rd:Nat->Blk) (nid h:Nat) (o:Oper) (t:Nat->AV):Option (T CE) :=
 match o.op with
 | .lookup xt x idx ok=>(match keyD P xt,scV (ev t idx),ev t x with
   | some (d,_,et),some kv,.mref i=>(match rd i with
     | .tmap q has c n kn=>(match q.of kv,zeroAV P et,keyIs d kv with
       | some x,some z,true=>(match (match Nat.ble 784 h with | true=>nthK kn (idxK h (len kn)) | false=>none) with
         | some (k,a)=>some (.need (x=k) (.ret ⟨tupOk ok a (.s (.bool true)),[i],[],[],[]⟩))
         | none=>some (lookNew nid i q has c n kn x ok z))
       | _,_,_=>none)
     | _=>none)
   | _,_,_=>none)
 | _=>none
theorem keyIs_desc {d:TypeDesc} {q:KeyT} {x:q.ty} (h:keyIs d (q.val x)=true):d=q.desc:=by
 cases q with
 | s=>unfold keyIs at h;split at h<;>first | rfl | (rename_i he;cases he) | cases h
 | i kk =>
   unfold keyIs at h
   split at h
   · rename_i he
     cases he
     rw [of_decide_eq_true h];rfl
   · rename_i he;cases he
   · rename_i he;cases he
   · cases h
theorem noneK_ok {α:Type} {x:α} {t:T CE} {Q:CE->Prop}:∀ {kn:List (α×AV)},((∀ p∈kn,p.1≠x)->t.Sat Q)->(noneK x t kn).Sat Q
 | [],h=>h fun p hp=>by cases hp
 | (k,a)::r,h=>T.Sat.need fun hk=>noneK_ok fun hr=>h fun p hp=>by
   rcases List.mem_cons.1 hp with rfl | hp
   · exact fun e=>hk e.symm
   · exact hr p hp
theorem applyW_wrFrom:∀ (L M:List Blk) (d:Nat),applyW (wrFrom d L) M=puts M d L
 | [],_,_=>rfl
 | B::r,M,d=>by simp only [wrFrom,applyW,puts];exact applyW_wrFrom r _ _
theorem nthK_mem {α:Type} {p:α×AV}:∀ {l:List (α×AV)} {n:Nat},nthK l n=some p->p∈l
 | [],_,h=>by simp [nthK] at h
 | q::_,0,h=>by simp only [nthK,Option.some.injEq] at h;subst h;exact .head _
 | _::l,n+1,h=>.tail _ (nthK_mem (l:=l) h)
theorem tmap_open {H:HH} {E:Env} {w:World} {M:List Blk} (hC:Conc H E w M) {i:Nat} {q:KeyT} {has:q.ty->Bool} {c:q.ty->Tr} {n:Nat} {kn:List (q.ty×AV)} (hg:getM M i=.tmap q has c n kn) :
 E.lv i=true/\∃ b ms ck F,E.ι i=some b/\¬ E.σ i b/\w.heap[b]? = some (.map ms ck)/\MapOk H E (fun x=>w.heap[x]?) i q has c n kn ms.toList ck F:=by
 have:=hC.blk i
 rw [hg] at this
 exact this
theorem lt_nid {M:List Blk} {rd:Nat->Blk} {nid i:Nat} (hd:∀ k,nid<=k->rd k=.dead) (hi:rd i≠.dead):i<nid:=by
 rcases Nat.lt_or_ge i nid with h | h
 · exact h
 · exact absurd (hd i h) hi
theorem lookT_ok {P:Program} {rd:Nat->Blk} {nid h:Nat} {o:Oper} {t:Nat->AV} {T0:T CE} (hd:∀ k,nid<=k->rd k=.dead) (hh:lookT P rd nid h o t=some T0):T0.Sat (CE.Good P o t rd):=by
 unfold lookT at hh
 split at hh
 case h_2=>cases hh
 rename_i xt x idx ok hop
 split at hh
 case h_2=>cases hh
 rename_i d kt et kv i hkd hkv hx
 obtain ⟨hm,hk⟩:=keyD_ok hkd
 split at hh
 case h_2=>cases hh
 rename_i q has c n kn hg
 split at hh
 case h_2=>cases hh
 rename_i y z hof hz hkis
 have hky:=KeyT.of_ok hof
 subst hky
 have hdd:=keyIs_desc hkis
 subst hdd
 have hkey:=q.isKey y
 split at hh
 · rename_i k a hn
   have hn:nthK kn (idxK h (len kn))=some (k,a):=by
    split at hn
    · exact hn
    · cases hn
   cases hh
   refine T.Sat.need fun hyk=>T.Sat.ret fun M hM=>runs_stepZ fun H E w ac hC hT=>?_
   subst hyk
   have h1:=rel_ev hT x
   rw [hx] at h1
   obtain ⟨hl,b,hb,hv⟩:=h1
   have h2:=scV_ok hkv (rel_ev hT idx)
   obtain ⟨_,b',ms,ck,F,g1,g2,g3,g4⟩:=tmap_open hC ((hM i (by simp)).trans hg)
   rw [hb] at g1;cases g1
   obtain ⟨v,k1,k2⟩:=g4.known _ (nthK_mem hn)
   rcases tm_find (x:=y) 0 g4.ents.key with ⟨q1,_⟩ | ⟨j,e,q1,q2,q3⟩
   · obtain ⟨e,he,hek,_⟩:=k1
     exact absurd hek (q1 e he)
   · have:v=e.val:=mgetK_uniq g4.ents k1 ⟨e,List.mem_of_getElem? q1,q2,rfl⟩
     subst this
     have hrun:=run_lookup (z:=.nilFunc) (ok:=ok) hm hk g3 hkey q3 (fun h=>by cases h)
     refine ⟨_,w,H,E,?_,tupOk_rel k2 (.inl rfl),hC,Evol.refl _ _ _ _⟩
     simp only [execOp,hop,hv,h2,hrun]
     simp [Result.andThen,hrun]
 · cases hh
   refine noneK_ok fun hne=>T.Sat.ite (fun hhas=>T.Sat.ret fun M hM=>runs_stepZ fun H E w ac hC hT=>?_) (fun hhas=>T.Sat.ret fun M hM=>runs_stepZ fun H E w ac hC hT=>?_)
   · have h1:=rel_ev hT x
     rw [hx] at h1
     obtain ⟨hl,b,hb,hv⟩:=h1
     have h2:=scV_ok hkv (rel_ev hT idx)
     have hgM:=(hM i (by simp)).trans hg
     have hlt:i<nid:=lt_nid (M:=M) hd (by rw [hg];intro h;cases h)
     obtain ⟨v,E',b',ms,ck,g1,g2,g3,g4,g5,g6,g7⟩:=focus_ok hC hgM hhas hne hlt fun k hk ht=>(hM k (by simp only [List.mem_cons];exact .inr (mem_iff.1 (mem_upFrom.2 ⟨hk,ht⟩)))).trans (hd k hk)
     rw [hb] at g1;cases g1
     rcases tm_find (x:=y) 0 g3.key with ⟨q1,_⟩ | ⟨j,e,q1,q2,q3⟩
     · obtain ⟨e,he,hek,_⟩:=g4
       exact absurd hek (q1 e he)
     · have:v=e.val:=mgetK_uniq g3 g4 ⟨e,List.mem_of_getElem? q1,q2,rfl⟩
       subst this
       have hrun:=run_lookup (z:=.nilFunc) (ok:=ok) hm hk g2 hkey q3 (fun h=>by cases h)
       refine ⟨_,w,H,E',?_,tupOk_rel g7 (.inl rfl),?_,g6⟩
       · simp only [execOp,hop,hv,h2]
         simp [Result.andThen,hrun]
       · simp only [killM,applyW,applyW_wrFrom]
         refine g5.eqv fun j=>?_
         by_cases hj:i=j
         · subst hj;rw [getM_put_same,getM_puts,if_neg (by omega),getM_put_same]
         · rw [getM_put_ne _ _ _ _ hj,getM_puts,getM_puts,getM_put_ne _ _ _ _ hj]
   · have h1:=rel_ev hT x
     rw [hx] at h1
     obtain ⟨hl,b,hb,hv⟩:=h1
     have h2:=scV_ok hkv (rel_ev hT idx)
     obtain ⟨_,b',ms,ck,F,g1,g2,g3,g4⟩:=tmap_open hC ((hM i (by simp)).trans hg)
     rw [hb] at g1;cases g1
     obtain ⟨zv,hz1,hz2⟩:=zeroAV_ok H E w hz
     rcases tm_find (x:=y) 0 g4.ents.key with ⟨_,q2⟩ | ⟨j,e,q1,q2,q3⟩
     · have hrun:=run_lookup (z:=zv) (ok:=ok) hm hk g3 hkey q2 (fun _=>hz1)
       refine ⟨_,w,H,E,?_,tupOk_rel hz2 (.inl rfl),hC,Evol.refl _ _ _ _⟩
       simp only [execOp,hop,hv,h2]
       simp [Result.andThen,hrun]
     · have:=(g4.hasK y).2 ⟨e.val,e,List.mem_of_getElem? q1,q2,rfl⟩
       rw [this] at hhas;cases hhas
def updBi (has:Int->Bool) (x:Int):Int->Bool:=fun y=>decide (x=y)||has y
def updBs (has:ByteArray->Bool) (x:ByteArray):ByteArray->Bool:=fun y=>decide (x=y)||has y
def updB:(q:KeyT)->(q.ty->Bool)->q.ty->(q.ty->Bool)
 | .s,has,x=>updBs has x
 | .i _,has,x=>updBi has x
def delBi (has:Int->Bool) (x:Int):Int->Bool:=fun y=>!decide (x=y)&&has y
def delBs (has:ByteArray->Bool) (x:ByteArray):ByteArray->Bool:=fun y=>!decide (x=y)&&has y
def delB:(q:KeyT)->(q.ty->Bool)->q.ty->(q.ty->Bool)
 | .s,has,x=>delBs has x
 | .i _,has,x=>delBi has x
theorem updB_iff {q:KeyT} {has:q.ty->Bool} {x y:q.ty}:updB q has x y=true↔x=y∨has y=true:=by
 cases q<;>simp [updB,updBi,updBs]<;>exact Iff.rfl
theorem delB_iff {q:KeyT} {has:q.ty->Bool} {x y:q.ty}:delB q has x y=true↔x≠y/\has y=true:=by
 cases q<;>simp [delB,delBi,delBs]<;>exact fun _=>Iff.rfl
def dropK {α:Type}:List α->Nat->List α
 | [],_=>[]
 | _::r,0=>r
 | p::r,n+1=>p::dropK r n
theorem dropK_sub {α:Type}:∀ {l:List α} {n:Nat} {p:α},p∈dropK l n->p∈l
 | _::_,0,_,h=>.tail _ h
 | _::r,n+1,p,h=>by
   rcases List.mem_cons.1 h with rfl | h
   · exact .head _
   · exact .tail _ (dropK_sub h)
theorem dropK_all {α:Type}:∀ {l:List (α×AV)} {n:Nat} {p0 p:α×AV},nthK l n=some p0->p∈l->p=p0∨p∈dropK l n
 | _::_,0,p0,p,h,hp=>by
   simp only [nthK,Option.some.injEq] at h
   subst h
   rcases List.mem_cons.1 hp with rfl | hp
   · exact .inl rfl
   · exact .inr hp
 | a::r,n+1,p0,p,h,hp=>by
   rcases List.mem_cons.1 hp with rfl | hp
   · exact .inr (.head _)
   · rcases dropK_all (l:=r) (n:=n) h hp with h | h
     · exact .inl h
     · exact .inr (.tail _ h)
theorem get_modify {α:Type} (f:α->α) (l:List α) (j m:Nat):(l.modify j f)[m]? = if j=m then l[m]?.map f else l[m]?:=by
 rw [List.getElem?_modify]
 by_cases h:j=m<;>simp [h]
theorem nodup_idx {α:Type} {a:α}:∀ {l:List α} {j m:Nat},l.Nodup->l[j]? = some a->l[m]? = some a->j=m
 | [],j,m,_,h,_=>by simp at h
 | x::r,j,m,hn,h1,h2=>by
   rw [List.nodup_cons] at hn
   cases j with
   | zero =>
     cases m with
     | zero=>rfl
     | succ m =>
       simp at h1 h2
       subst h1
       exact absurd (List.mem_of_getElem? h2) hn.1
   | succ j =>
     cases m with
     | zero =>
       simp at h1 h2
       subst h2
       exact absurd (List.mem_of_getElem? h1) hn.1
     | succ m =>
       simp at h1 h2
       rw [nodup_idx hn.2 h1 h2]
theorem map_modify_same {α β:Type} {f:α->α} {g:α->β} {l:List α} {j:Nat} (h:∀ e,l[j]? = some e->g (f e)=g e):(l.modify j f).map g=l.map g:=by
 apply List.ext_getElem?
 intro m
 rw [List.getElem?_map,List.getElem?_map,get_modify]
 by_cases hm:j=m
 · subst hm
   rw [if_pos rfl]
   cases hl:l[j]? with
   | none=>rfl
   | some e=>simp [h e hl]
 · rw [if_neg hm]
theorem ents_modify {q:KeyT} {x:q.ty} {l:List MapEntry} {ck j:Nat} {e:MapEntry} {v:Value} (h:EntsOk q l ck) (hj:l[j]? = some e) (hk:e.key=q.val x):EntsOk q (l.modify j fun e=>{ e with key:=q.val x,val:=v }) ck:=by
 have h1:(l.modify j fun e=>{ e with key:=q.val x,val:=v }).map (fun e=>e.key)=l.map fun e=>e.key:=map_modify_same fun e' he'=>by rw [hj] at he';cases he';exact hk.symm
 have h2:(l.modify j fun e=>{ e with key:=q.val x,val:=v }).map (fun e=>e.born)=l.map fun e=>e.born:=map_modify_same fun e' he'=>rfl
 refine ⟨fun z hz=>?_,by rw [h1];exact h.once,by rw [h2];exact h.born,fun z hz=>?_⟩
 · have:z.key∈l.map fun e=>e.key:=by rw [<- h1];exact List.mem_map.2 ⟨z,hz,rfl⟩
   obtain ⟨z',hz',e'⟩:=List.mem_map.1 this
   obtain ⟨y,hy⟩:=h.key z' hz'
   exact ⟨y,e'.symm.trans hy⟩
 · have:z.born∈l.map fun e=>e.born:=by rw [<- h2];exact List.mem_map.2 ⟨z,hz,rfl⟩
   obtain ⟨z',hz',e'⟩:=List.mem_map.1 this
   have:=h.lt z' hz'
   omega
theorem idx_uniq {q:KeyT} {l:List MapEntry} {ck:Nat} (h:EntsOk q l ck) {j m:Nat} {e e':MapEntry} (hj:l[j]? = some e) (hm:l[m]? = some e') (hk:e.key=e'.key):j=m:=by
 have h1:=h.once
 have a1:(l.map fun e=>e.key)[j]? = some e.key:=by rw [List.getElem?_map,hj];rfl
 have a2:(l.map fun e=>e.key)[m]? = some e.key:=by rw [List.getElem?_map,hm,hk];rfl
 exact nodup_idx h1 a1 a2
theorem mget_modify {q:KeyT} {x:q.ty} {l:List MapEntry} {ck j:Nat} {e:MapEntry} {v:Value} (h:EntsOk q l ck) (hj:l[j]? = some e) (hk:e.key=q.val x) (y:q.ty) (u:Value) :
 mgetK q y (l.modify j fun e=>{ e with key:=q.val x,val:=v }) u↔(y=x/\u=v)∨(y≠x/\mgetK q y l u):=by
 constructor
 · rintro ⟨z,hz,hzk,rfl⟩
   obtain ⟨m,hm⟩:=List.getElem?_of_mem hz
   rw [get_modify] at hm
   by_cases hjm:j=m
   · subst hjm
     rw [if_pos rfl,hj] at hm
     simp at hm
     subst hm
     exact .inl ⟨(KeyT.val_inj hzk).symm,rfl⟩
   · rw [if_neg hjm] at hm
     refine .inr ⟨?_,z,List.mem_of_getElem? hm,hzk,rfl⟩
     rintro rfl
     exact hjm (idx_uniq h hj hm (hk.trans hzk.symm))
 · rintro (⟨rfl,rfl⟩ | ⟨hy,z,hz,hzk,rfl⟩)
   · refine ⟨{ e with key:=q.val y,val:=u },List.mem_of_getElem? (i:=j) ?_,rfl,rfl⟩
     rw [get_modify,if_pos rfl,hj];rfl
   · obtain ⟨m,hm⟩:=List.getElem?_of_mem hz
     refine ⟨z,List.mem_of_getElem? (i:=m) ?_,hzk,rfl⟩
     rw [get_modify]
     by_cases hjm:j=m
     · subst hjm
       rw [hj] at hm;cases hm
       exact absurd (KeyT.val_inj (hzk.symm.trans hk)) hy
     · rw [if_neg hjm,hm]
theorem ents_push {q:KeyT} {x:q.ty} {l:List MapEntry} {ck:Nat} {v:Value} (h:EntsOk q l ck) (hn:∀ e∈l,e.key≠q.val x):EntsOk q (l++[⟨q.val x,v,ck⟩]) (ck+1) where
 key:=fun e he=>by
  rcases List.mem_append.1 he with he | he
  · exact h.key e he
  · simp at he;subst he;exact ⟨x,rfl⟩
 once:=by
  rw [List.map_append,List.nodup_append]
  refine ⟨h.once,by simp,fun a ha b hb=>?_⟩
  obtain ⟨e,he,rfl⟩:=List.mem_map.1 ha
  simp at hb
  subst hb
  exact hn e he
 born:=by
  rw [List.map_append,List.nodup_append]
  refine ⟨h.born,by simp,fun a ha b hb=>?_⟩
  obtain ⟨e,he,rfl⟩:=List.mem_map.1 ha
  simp at hb
  subst hb
  have:=h.lt e he
  omega
 lt:=fun e he=>by
  rcases List.mem_append.1 he with he | he
  · have:=h.lt e he;omega
  · simp at he;subst he;simp
theorem mget_push' {q:KeyT} {x:q.ty} {l:List MapEntry} {ck:Nat} {v:Value} (hn:∀ e∈l,e.key≠q.val x) (y:q.ty) (u:Value):mgetK q y (l++[⟨q.val x,v,ck⟩]) u↔(y=x/\u=v)∨(y≠x/\mgetK q y l u):=by
 constructor
 · rintro ⟨z,hz,hzk,rfl⟩
   rcases List.mem_append.1 hz with hz | hz
   · exact .inr ⟨fun e=>hn z hz (by rw [hzk,e]),z,hz,hzk,rfl⟩
   · simp at hz;subst hz;exact .inl ⟨(KeyT.val_inj hzk).symm,rfl⟩
 · rintro (⟨rfl,rfl⟩ | ⟨_,z,hz,hzk,rfl⟩)
   · exact ⟨⟨q.val y,u,ck⟩,by simp,rfl,rfl⟩
   · exact ⟨z,List.mem_append_left _ hz,hzk,rfl⟩
theorem ents_sub {q:KeyT} {l l':List MapEntry} {ck:Nat} (h:EntsOk q l ck) (hs:l'.Sublist l):EntsOk q l' ck :=
 ⟨fun e he=>h.key e (hs.subset he),(hs.map _).nodup h.once,(hs.map _).nodup h.born,fun e he=>h.lt e (hs.subset he)⟩
theorem mget_erase {q:KeyT} {x:q.ty} {l:List MapEntry} {ck j:Nat} {e:MapEntry} (h:EntsOk q l ck) (hj:l[j]? = some e) (hk:e.key=q.val x) (y:q.ty) (u:Value):mgetK q y (l.eraseIdx j) u↔y≠x/\mgetK q y l u:=by
 constructor
 · rintro ⟨z,hz,hzk,rfl⟩
   obtain ⟨m,hm1,hm2⟩:=List.mem_eraseIdx_iff_getElem?.1 hz
   refine ⟨?_,z,List.mem_of_getElem? hm2,hzk,rfl⟩
   rintro rfl
   exact hm1 (idx_uniq h hj hm2 (hk.trans hzk.symm)).symm
 · rintro ⟨hy,z,hz,hzk,rfl⟩
   obtain ⟨m,hm⟩:=List.getElem?_of_mem hz
   refine ⟨z,List.mem_eraseIdx_iff_getElem?.2 ⟨m,?_,hm⟩,hzk,rfl⟩
   rintro rfl
   rw [hj] at hm;cases hm
   exact hy (KeyT.val_inj (hzk.symm.trans hk))
theorem mapOk_put {H:HH} {E:Env} {hp hp':Nat->Option Obj} {i:Nat} {q:KeyT} {has:q.ty->Bool} {c:q.ty->Tr} {n n':Nat} {kn kn':List (q.ty×AV)} {l l':List MapEntry} {ck ck':Nat} {F:q.ty->Nat->Prop} {x:q.ty} {a:AV} {v:Value} {has':q.ty->Bool}
 (h:MapOk H E hp i q has c n kn l ck F) (he:EntsOk q l' ck') (hs:l'.length=n') (hg:∀ y u,mgetK q y l' u↔(y=x/\u=v)∨(y≠x/\mgetK q y l u)) (hh:∀ y,has' y=true↔x=y∨has y=true) (hr:Rel a H E v)
 (hk1:∀ p∈kn',p∈kn/\p.1≠x) (hk2:∀ p∈kn,p.1=x∨p∈kn') (hw:∀ b,E.σ i b->hp' b=hp b):MapOk H E hp' i q has' c n' ((x,a)::kn') l' ck' F where
 ents:=he
 size:=hs
 hasK:=fun y=>by
  rw [hh y]
  constructor
  · rintro (rfl | hy)
    · exact ⟨v,(hg _ _).2 (.inl ⟨rfl,rfl⟩)⟩
    · by_cases hyx:y=x
      · exact ⟨v,(hg _ _).2 (.inl ⟨hyx,rfl⟩)⟩
      · obtain ⟨u,hu⟩:=(h.hasK y).1 hy
        exact ⟨u,(hg _ _).2 (.inr ⟨hyx,hu⟩)⟩
  · rintro ⟨u,hu⟩
    rcases (hg _ _).1 hu with ⟨rfl,_⟩ | ⟨_,hu⟩
    · exact .inl rfl
    · exact .inr ((h.hasK y).2 ⟨u,hu⟩)
 known:=fun p hp=>by
  rcases List.mem_cons.1 hp with rfl | hp
  · exact ⟨v,(hg _ _).2 (.inl ⟨rfl,rfl⟩),hr⟩
  · obtain ⟨u,h1,h2⟩:=h.known p (hk1 p hp).1
    exact ⟨u,(hg _ _).2 (.inr ⟨(hk1 p hp).2,h1⟩),h2⟩
 own:=h.own
 sep:=h.sep
 tr:=fun y hy u hu=>by
  rcases (hg _ _).1 hu with ⟨rfl,_⟩ | ⟨hyx,hu⟩
  · exact absurd rfl (hy (y,a) (by simp))
  · refine TrOk.move (HH.le_refl _) _ (fun _ h=>h) (fun b hb=>hw b (h.own _ _ hb)) (h.tr y (fun p hp=>?_) u hu)
    rcases hk2 p hp with e | hp
    · exact fun e'=>hyx (e'.symm.trans e)
    · exact hy p (List.mem_cons_of_mem _ hp)
theorem mapOk_del {H:HH} {E:Env} {hp hp':Nat->Option Obj} {i:Nat} {q:KeyT} {has:q.ty->Bool} {c:q.ty->Tr} {n n':Nat} {kn kn':List (q.ty×AV)} {l l':List MapEntry} {ck:Nat} {F:q.ty->Nat->Prop} {x:q.ty} {has':q.ty->Bool}
 (h:MapOk H E hp i q has c n kn l ck F) (he:EntsOk q l' ck) (hs:l'.length=n') (hg:∀ y u,mgetK q y l' u↔y≠x/\mgetK q y l u) (hh:∀ y,has' y=true↔x≠y/\has y=true)
 (hk1:∀ p∈kn',p∈kn/\p.1≠x) (hk2:∀ p∈kn,p.1=x∨p∈kn') (hw:∀ b,E.σ i b->hp' b=hp b):MapOk H E hp' i q has' c n' kn' l' ck F where
 ents:=he
 size:=hs
 hasK:=fun y=>by
  rw [hh y]
  constructor
  · rintro ⟨hx,hy⟩
    obtain ⟨u,hu⟩:=(h.hasK y).1 hy
    exact ⟨u,(hg _ _).2 ⟨fun e=>hx e.symm,hu⟩⟩
  · rintro ⟨u,hu⟩
    obtain ⟨h1,h2⟩:=(hg _ _).1 hu
    exact ⟨fun e=>h1 e.symm,(h.hasK y).2 ⟨u,h2⟩⟩
 known:=fun p hp=>by
  obtain ⟨u,h1,h2⟩:=h.known p (hk1 p hp).1
  exact ⟨u,(hg _ _).2 ⟨(hk1 p hp).2,h1⟩,h2⟩
 own:=h.own
 sep:=h.sep
 tr:=fun y hy u hu=>by
  obtain ⟨hyx,hu⟩:=(hg _ _).1 hu
  refine TrOk.move (HH.le_refl _) _ (fun _ h=>h) (fun b hb=>hw b (h.own _ _ hb)) (h.tr y (fun p hp=>?_) u hu)
  rcases hk2 p hp with e | hp
  · exact fun e'=>hyx (e'.symm.trans e)
  · exact hy p hp
def putCE (i:Nat) (q:KeyT) (has:q.ty->Bool) (c:q.ty->Tr) (n:Nat) (x:q.ty) (a:AV) (kn:List (q.ty×AV)):CE:=⟨.junk,[i],[(i,.tmap q has c n ((x,a)::kn))],[],[]⟩
def updT (P:Program) (rd:Nat->Blk) (h:Nat) (mt:TypeId) (m k a:AV):Option (T CE) :=
 match keyD P mt,scV k,m with
 | some (d,_,_),some kv,.mref i=>(match rd i with
   | .tmap q has c n kn=>(match q.of kv,keyIs d kv with
     | some x,true=>(match (match Nat.ble 784 h with | true=>nthK kn (idxK h (len kn)) | false=>none) with
       | some (k,_)=>some (.need (x=k) (noneK x (.ret (putCE i q has c n x a (dropK kn (idxK h (len kn))))) (dropK kn (idxK h (len kn)))))
       | none=>(match Nat.ble 783 h with
         | true=>some (noneK x (.need (has x=false) (.ret (putCE i q (updB q has x) c (n+1) x a kn))) kn)
         | false=>some (noneK x (.ite (has x) (.ret (putCE i q has c n x a kn)) (.ret (putCE i q (updB q has x) c (n+1) x a kn))) kn)))
     | _,_=>none)
   | _=>none)
 | _,_,_=>none
def updTT (P:Program) (rd:Nat->Blk) (h:Nat) (o:Oper) (t:Nat->AV):Option (T CE) :=
 match o.op with
 | .mapUpdate mt m k v=>updT P rd h mt (ev t m) (ev t k) (ev t v)
 | .insert mt m k v=>updT P rd h mt (ev t m) (ev t k) (ev t v)
 | _=>none
theorem updT_ok {P:Program} {rd:Nat->Blk} {h:Nat} {o:Oper} {t:Nat->AV} {mt:TypeId} {m k v:Operand} {T0:T CE} (hop:o.op=.mapUpdate mt m k v∨o.op=.insert mt m k v) (hh:updT P rd h mt (ev t m) (ev t k) (ev t v)=some T0):T0.Sat (CE.Good P o t rd):=by
 unfold updT at hh
 split at hh
 case h_2=>cases hh
 rename_i d kt et kv i hkd hkv hx
 obtain ⟨hm,hk⟩:=keyD_ok hkd
 split at hh
 case h_2=>cases hh
 rename_i q has c n kn hg
 split at hh
 case h_2=>cases hh
 rename_i y hof hkis
 have hky:=KeyT.of_ok hof
 subst hky
 have hdd:=keyIs_desc hkis
 subst hdd
 have hkey:=q.isKey y
 have hexec:∀ (a:Act) (w w':World),(Instr.mapUpdate mt (a.eval m) (a.eval k) (a.eval v)).run P w=.ok () w'->(execOp a.eval o).run P w=.ok .skip w':=fun a w w' hr=>by
  rcases hop with hop | hop<;>simp [execOp,hop,hr]
 have old:∀ kn':List (q.ty×AV),has y=true->(∀ p∈kn',p∈kn/\p.1≠y)->(∀ p∈kn,p.1=y∨p∈kn')->CE.Good P o t rd (putCE i q has c n y (ev t v) kn'):=by
  intro kn' hhas hk1 hk2 M hM
  refine runs_stepY fun H E w a hC hT=>?_
  have h1:=rel_ev hT m
  rw [hx] at h1
  obtain ⟨hl,b,hb,hv⟩:=h1
  have h2:=scV_ok hkv (rel_ev hT k)
  have h3:=rel_ev hT v
  obtain ⟨_,b',ms,ck,F,g1,g2,g3,g4⟩:=tmap_open hC ((hM i (by simp [putCE])).trans hg)
  rw [hb] at g1;cases g1
  rcases tm_find (x:=y) 0 g4.ents.key with ⟨q1,_⟩ | ⟨j,e,q1,q2,q3⟩
  · obtain ⟨u,e,he,hek,_⟩:=(g4.hasK y).1 hhas
    exact absurd hek (q1 e he)
  · have hrun:=run_update_old (v:=a.eval v) hm hk g3 hkey (by simpa using q3) q1 q2
    have hB:BlkOk H E (World.setO w b (.map (ms.modify j fun e=>{ e with key:=q.val y,val:=a.eval v }) ck)) i (.tmap q has c n ((y,ev t v)::kn')):=by
     refine ⟨hl,b,_,ck,F,hb,g2,(heap_set g3).1,?_⟩
     rw [Array.toList_modify]
     refine mapOk_put g4 (ents_modify g4.ents q1 q2) (by rw [List.length_modify];exact g4.size) (mget_modify g4.ents q1 q2) (fun z=>⟨.inr,?_⟩) h3 hk1 hk2 fun b' hb'=>(heap_set g3).2 b' (by rintro rfl;exact g2 hb')
     rintro (rfl | hz)
     · exact hhas
     · exact hz
    obtain ⟨hc,hev⟩:=hC.upd hl hb (upd_setO g3) hB
    exact ⟨_,undef,_,H,E,hexec a w _ (by rw [hv,h2];exact hrun),.inr ⟨rfl,rfl⟩,trivial,hc,hev⟩
 have new:has y=false->(∀ p∈kn,p.1≠y)->CE.Good P o t rd (putCE i q (updB q has y) c (n+1) y (ev t v) kn):=by
  intro hhas hne M hM
  refine runs_stepY fun H E w a hC hT=>?_
  have h1:=rel_ev hT m
  rw [hx] at h1
  obtain ⟨hl,b,hb,hv⟩:=h1
  have h2:=scV_ok hkv (rel_ev hT k)
  have h3:=rel_ev hT v
  obtain ⟨_,b',ms,ck,F,g1,g2,g3,g4⟩:=tmap_open hC ((hM i (by simp [putCE])).trans hg)
  rw [hb] at g1;cases g1
  rcases tm_find (x:=y) 0 g4.ents.key with ⟨q1,q2⟩ | ⟨j,e,q1,q2,q3⟩
  · have hrun:=run_update_new (v:=a.eval v) hm hk g3 hkey q2
    have hB:BlkOk H E (World.setO w b (.map (ms.push ⟨q.val y,a.eval v,ck⟩) (ck+1))) i (.tmap q (updB q has y) c (n+1) ((y,ev t v)::kn)):=by
     refine ⟨hl,b,_,ck+1,F,hb,g2,(heap_set g3).1,?_⟩
     rw [Array.toList_push]
     exact mapOk_put g4 (ents_push g4.ents q1) (by simp [g4.size]) (mget_push' q1) (fun z=>updB_iff) h3 (fun p hp=>⟨hp,hne p hp⟩) (fun p hp=>.inr hp) fun b' hb'=>(heap_set g3).2 b' (by rintro rfl;exact g2 hb')
    obtain ⟨hc,hev⟩:=hC.upd hl hb (upd_setO g3) hB
    exact ⟨_,undef,_,H,E,hexec a w _ (by rw [hv,h2];exact hrun),.inr ⟨rfl,rfl⟩,trivial,hc,hev⟩
  · have:=(g4.hasK y).2 ⟨e.val,e,List.mem_of_getElem? q1,q2,rfl⟩
    rw [this] at hhas;cases hhas
 split at hh
 · rename_i k0 a0 hn
   have hn:nthK kn (idxK h (len kn))=some (k0,a0):=by
    split at hn
    · exact hn
    · cases hn
   cases hh
   refine T.Sat.need fun hyk=>noneK_ok fun hne=>?_
   subst hyk
   intro Q hQ
   have hQ':Q (putCE i q has c n y (ev t v) (dropK kn (idxK h (len kn)))):=hQ
   refine ⟨_,?_,hQ'⟩
   by_cases hhas:has y=true
   · exact old _ hhas (fun p hp=>⟨dropK_sub hp,hne p hp⟩) fun p hp=>(dropK_all hn hp).imp (fun e=>by rw [e]) id
   · intro M hM
     refine runs_stepY fun H E w a hC hT=>?_
     obtain ⟨_,b',ms,ck,F,g1,g2,g3,g4⟩:=tmap_open hC ((hM i (by simp [putCE])).trans hg)
     obtain ⟨u,hu,_⟩:=g4.known _ (nthK_mem hn)
     exact absurd ((g4.hasK _).2 ⟨u,hu⟩) hhas
 · split at hh
   · cases hh
     exact noneK_ok fun hne=>T.Sat.need fun hhas=>T.Sat.ret (new hhas hne)
   · cases hh
     exact noneK_ok fun hne=>T.Sat.ite (fun hhas=>T.Sat.ret (old kn hhas (fun p hp=>⟨hp,hne p hp⟩) fun p hp=>.inr hp)) fun hhas=>T.Sat.ret (new hhas hne)
theorem updTT_ok {P:Program} {rd:Nat->Blk} {h:Nat} {o:Oper} {t:Nat->AV} {T0:T CE} (hh:updTT P rd h o t=some T0):T0.Sat (CE.Good P o t rd):=by
 unfold updTT at hh
 split at hh
 · rename_i mt m k v hop;exact updT_ok (.inl hop) hh
 · rename_i mt m k v hop;exact updT_ok (.inr hop) hh
 · cases hh
def delCE (i:Nat) (q:KeyT) (has:q.ty->Bool) (c:q.ty->Tr) (n:Nat) (kn:List (q.ty×AV)):CE:=⟨.tup [],[i],[(i,.tmap q has c n kn)],[],[]⟩
def delT (P:Program) (rd:Nat->Blk) (h:Nat) (o:Oper) (t:Nat->AV):Option (T CE) :=
 match o.op with
 | .call { callee:=.builtin .delete,args,argTypes }=>(match args.toList,argTypes.toList with
   | [m,k],[mt,_]=>(match keyD P mt,scV (ev t k),ev t m with
     | some (d,_,_),some kv,.mref i=>(match rd i with
       | .tmap q has c n kn=>(match q.of kv,keyIs d kv with
         | some x,true=>(match (match Nat.ble 784 h with | true=>nthK kn (idxK h (len kn)) | false=>none) with
           | some (k,_)=>some (.need (x=k) (noneK x (.ret (delCE i q (delB q has x) c (n - 1) (dropK kn (idxK h (len kn))))) (dropK kn (idxK h (len kn)))))
           | none=>some (noneK x (.ite (has x) (.ret (delCE i q (delB q has x) c (n - 1) kn)) (.ret (delCE i q has c n kn))) kn))
         | _,_=>none)
       | _=>none)
     | _,_,_=>none)
   | _,_=>none)
 | _=>none
theorem delT_ok {P:Program} {rd:Nat->Blk} {h:Nat} {o:Oper} {t:Nat->AV} {T0:T CE} (hh:delT P rd h o t=some T0):T0.Sat (CE.Good P o t rd):=by
 unfold delT at hh
 split at hh
 case h_2=>cases hh
 rename_i args ats hop
 split at hh
 case h_2=>cases hh
 rename_i m k mt kt' hma hka
 have e1:args=#[m,k]:=Array.ext' hma
 have e2:ats=#[mt,kt']:=Array.ext' hka
 subst e1;subst e2
 split at hh
 case h_2=>cases hh
 rename_i d kt et kv i hkd hkv hx
 obtain ⟨hm,hk⟩:=keyD_ok hkd
 split at hh
 case h_2=>cases hh
 rename_i q has c n kn hg
 split at hh
 case h_2=>cases hh
 rename_i y hof hkis
 have hky:=KeyT.of_ok hof
 subst hky
 have hdd:=keyIs_desc hkis
 subst hdd
 have hkey:=q.isKey y
 have old:∀ kn':List (q.ty×AV),has y=true->(∀ p∈kn',p∈kn/\p.1≠y)->(∀ p∈kn,p.1=y∨p∈kn')->CE.Good P o t rd (delCE i q (delB q has y) c (n - 1) kn'):=by
  intro kn' hhas hk1 hk2 M hM
  refine runs_stepZ fun H E w a hC hT=>?_
  have h1:=rel_ev hT m
  rw [hx] at h1
  obtain ⟨hl,b,hb,hv⟩:=h1
  have h2:=scV_ok hkv (rel_ev hT k)
  obtain ⟨_,b',ms,ck,F,g1,g2,g3,g4⟩:=tmap_open hC ((hM i (by simp [delCE])).trans hg)
  rw [hb] at g1;cases g1
  rcases tm_find (x:=y) 0 g4.ents.key with ⟨q1,_⟩ | ⟨j,e,q1,q2,q3⟩
  · obtain ⟨u,e,he,hek,_⟩:=(g4.hasK y).1 hhas
    exact absurd hek (q1 e he)
  · simp only [Nat.zero_add] at q3
    have hlist:(ms.eraseIdxIfInBounds j).toList=ms.toList.eraseIdx j:=by
     unfold Array.eraseIdxIfInBounds
     split
     · simp
     · rename_i hj
       rw [List.eraseIdx_of_length_le]
       simpa using hj
    have hjl:j<ms.toList.length:=(List.getElem?_eq_some_iff.1 q1).1
    have hB:BlkOk H E (World.setO w b (.map (ms.eraseIdxIfInBounds j) ck)) i (.tmap q (delB q has y) c (n - 1) kn'):=by
     refine ⟨hl,b,_,ck,F,hb,g2,(heap_set g3).1,?_⟩
     rw [hlist]
     exact mapOk_del g4 (ents_sub g4.ents (List.eraseIdx_sublist _ _)) (by rw [List.length_eraseIdx_of_lt hjl,g4.size]) (mget_erase g4.ents q1 q2) (fun z=>delB_iff) hk1 hk2 fun b' hb'=>(heap_set g3).2 b' (by rintro rfl;exact g2 hb')
    obtain ⟨hc,hev⟩:=hC.upd hl hb (upd_setO g3) hB
    refine ⟨.tuple #[],_,H,E,?_,⟨#[],rfl,rfl⟩,hc,hev⟩
    simp [execOp,hop,resolve,invoke,builtin,hv,h2,Builtin.delete_,run_underlying hm,Go.MapKept.run_getObj_map g3,run_checkKey hk hkey,run_findKey hk q3,Go.MapKept.run_setObj_map _ g3,Result.andThen,World.setO]
 have new:has y=false->CE.Good P o t rd (delCE i q has c n kn):=by
  intro hhas M hM
  refine runs_stepZ fun H E w a hC hT=>?_
  have h1:=rel_ev hT m
  rw [hx] at h1
  obtain ⟨hl,b,hb,hv⟩:=h1
  have h2:=scV_ok hkv (rel_ev hT k)
  have hgM:=(hM i (by simp [delCE])).trans hg
  obtain ⟨_,b',ms,ck,F,g1,g2,g3,g4⟩:=tmap_open hC hgM
  rw [hb] at g1;cases g1
  rcases tm_find (x:=y) 0 g4.ents.key with ⟨q1,q2⟩ | ⟨j,e,q1,q2,q3⟩
  · have hB:BlkOk H E (World.setO w b (.map ms ck)) i (.tmap q has c n kn):=by
     refine ⟨hl,b,_,ck,F,hb,g2,(heap_set g3).1,{ g4 with tr:=fun z hz u hu=>?_ }⟩
     exact TrOk.move (HH.le_refl _) _ (fun _ h=>h) (fun b' hb'=>(heap_set g3).2 b' (by rintro rfl;exact g2 (g4.own _ _ hb'))) (g4.tr z hz u hu)
    obtain ⟨hc,hev⟩:=hC.upd hl hb (upd_setO g3) hB
    refine ⟨.tuple #[],_,H,E,?_,⟨#[],rfl,rfl⟩,hc,hev⟩
    simp [execOp,hop,resolve,invoke,builtin,hv,h2,Builtin.delete_,run_underlying hm,Go.MapKept.run_getObj_map g3,run_checkKey hk hkey,run_findKey hk q2,Go.MapKept.run_setObj_map _ g3,Result.andThen,World.setO]
  · have:=(g4.hasK y).2 ⟨e.val,e,List.mem_of_getElem? q1,q2,rfl⟩
    rw [this] at hhas;cases hhas
 split at hh
 · rename_i k0 a0 hn
   have hn:nthK kn (idxK h (len kn))=some (k0,a0):=by
    split at hn
    · exact hn
    · cases hn
   cases hh
   refine T.Sat.need fun hyk=>noneK_ok fun hne=>?_
   subst hyk
   intro Q hQ
   have hQ':Q (delCE i q (delB q has y) c (n - 1) (dropK kn (idxK h (len kn)))):=hQ
   refine ⟨_,?_,hQ'⟩
   by_cases hhas:has y=true
   · exact old _ hhas (fun p hp=>⟨dropK_sub hp,hne p hp⟩) fun p hp=>(dropK_all hn hp).imp (fun e=>by rw [e]) id
   · intro M hM
     refine runs_stepY fun H E w a hC hT=>?_
     obtain ⟨_,b',ms,ck,F,g1,g2,g3,g4⟩:=tmap_open hC ((hM i (by simp [delCE])).trans hg)
     obtain ⟨u,hu,_⟩:=g4.known _ (nthK_mem hn)
     exact absurd ((g4.hasK _).2 ⟨u,hu⟩) hhas
 · cases hh
   exact noneK_ok fun hne=>T.Sat.ite (fun hhas=>T.Sat.ret (old kn hhas (fun p hp=>⟨hp,hne p hp⟩) fun p hp=>.inr hp)) fun hhas=>T.Sat.ret (new hhas)
def lenT (P:Program) (rd:Nat->Blk) (o:Oper) (t:Nat->AV):Option (T CE) :=
 match o.op with
 | .call { callee:=.builtin .len,args,argTypes }=>(match args.toList,argTypes.toList with
   | [x],[ty]=>(match P.underlying ty,ev t x with
     | some (.map _ _),.mref i=>(match rd i with
       | .tmap _ _ _ n _=>some (.ret ⟨.y (.int .i64 (n:Int)),[i],[],[],[]⟩)
       | _=>none)
     | _,_=>none)
   | _,_=>none)
 | _=>none
theorem lenT_ok {P:Program} {rd:Nat->Blk} {o:Oper} {t:Nat->AV} {T0:T CE} (h:lenT P rd o t=some T0):T0.Sat (CE.Good P o t rd):=by
 unfold lenT at h
 split at h
 case h_2=>cases h
 rename_i args ats hop
 split at h
 case h_2=>cases h
 rename_i x ty hx hty
 have h1:args=#[x]:=Array.ext' hx
 have h2:ats=#[ty]:=Array.ext' hty
 subst h1;subst h2
 split at h
 case h_2=>cases h
 rename_i kt et i hu he
 split at h
 case h_2=>cases h
 rename_i q has c n kn hg
 cases h
 refine T.Sat.ret fun M hM=>runs_stepZ fun H E w a hC hT=>?_
 have h1:=rel_ev hT x
 rw [he] at h1
 obtain ⟨hl,b,hb,hv⟩:=h1
 obtain ⟨_,b',ms,ck,F,g1,g2,g3,g4⟩:=tmap_open hC ((hM i (by simp)).trans hg)
 rw [hb] at g1;cases g1
 have hlen:ms.size=n:=by simpa using g4.size
 refine ⟨_,w,H,E,?_,⟨rfl,rfl⟩,hC,Evol.refl _ _ _ _⟩
 simp [execOp,hop,resolve,invoke,builtin,hv,Builtin.len_,run_underlying hu,Go.MapKept.run_getObj_map g3,goInt,hlen,Result.andThen]
def noneB:(q:KeyT)->(q.ty->Bool)
 | .s=>fun _=>false
 | .i _=>fun _=>false
theorem noneB_eq {q:KeyT} (x:q.ty):noneB q x=false:=by cases q<;>rfl
def junkB:(q:KeyT)->(q.ty->Tr)
 | .s=>fun _=>.av .junk
 | .i _=>fun _=>.av .junk
def keyT:TypeDesc->Option KeyT
 | .string=>some .s
 | .int k=>some (.i k)
 | _=>none
def mkT' (P:Program) (nid h:Nat) (o:Oper):Option (T CE) :=
 match o.op with
 | .makeMap ty none=>(match Nat.beq h 783,keyD P ty with
   | true,some (d,_,_)=>(match keyT d with
     | some q=>some (.ret ⟨.mref nid,[nid],[(nid,.tmap q (noneB q) (junkB q) 0 [])],[],[]⟩)
     | none=>none)
   | _,_=>none)
 | _=>none
theorem mkT'_ok {P:Program} {rd:Nat->Blk} {nid h:Nat} {o:Oper} {t:Nat->AV} {T0:T CE} (hd:∀ k,nid<=k->rd k=.dead) (hh:mkT' P nid h o=some T0):T0.Sat (CE.Good P o t rd):=by
 unfold mkT' at hh
 split at hh
 case h_2=>cases hh
 rename_i ty hop
 split at hh
 case h_2=>cases hh
 split at hh
 case h_2=>cases hh
 rename_i q hq
 cases hh
 refine T.Sat.ret fun M hM=>runs_stepZ fun H E w a hC hT=>?_
 have hdn:getM M nid=.dead:=(hM nid (by simp)).trans (hd nid (Nat.le_refl _))
 obtain ⟨s1,s2,_⟩:=E.set_same nid (some w.heap.size) 0 0
 obtain ⟨hc,hev⟩:=hC.new (w':=w.alloc (.map #[] 0)) (i:=nid) (κ:=0) (η:=0) (bo:=some w.heap.size) (B:=.tmap q (noneB q) (junkB q) 0 []) hdn rfl rfl rfl (by simp) (fun b hb=>Go.RowKit.Below.heap_alloc w _ b hb) (fun b hb=>by cases hb;exact Nat.le_refl _)
  ⟨s1,w.heap.size,#[],0,fun _ _=>False,s2,fun h=>h.1 rfl,heap_alloc_new w _,
   ⟨⟨fun e he=>by simp at he,by simp,by simp,fun e he=>by simp at he⟩,rfl,fun x=>by simp [noneB_eq,mgetK],fun p hp=>by simp at hp,fun _ _ h=>h.elim,fun _ _ _ h=>h.elim,fun x _ v hv=>by obtain ⟨e,he,_⟩:=hv;simp at he⟩⟩
 exact ⟨_,_,H,_,by simp [execOp,hop,Instr.makeMap,Result.andThen],⟨s1,_,s2,rfl⟩,hc,hev⟩
def tmT (P:Program) (rd:Nat->Blk) (nid h:Nat) (o:Oper) (t:Nat->AV):Option (T CE):=match lookT P rd nid h o t with
 | some T=>some T
 | none=>(match updTT P rd h o t with
   | some T=>some T
   | none=>(match delT P rd h o t with
     | some T=>some T
     | none=>(match mkT' P nid h o with
       | some T=>some T
       | none=>lenT P rd o t)))
theorem tmT_ok {P:Program} {rd:Nat->Blk} {nid h:Nat} {o:Oper} {t:Nat->AV} {T0:T CE} (hd:∀ k,nid<=k->rd k=.dead) (hh:tmT P rd nid h o t=some T0):T0.Sat (CE.Good P o t rd):=by
 unfold tmT at hh
 split at hh
 · rename_i g hg;cases hh;exact lookT_ok hd hg
 · split at hh
   · rename_i g hg;cases hh;exact updTT_ok hg
   · split at hh
     · rename_i g hg;cases hh;exact delT_ok hg
     · split at hh
       · rename_i g hg;cases hh;exact mkT'_ok hd hg
       · exact lenT_ok hh
end Go.Ax
