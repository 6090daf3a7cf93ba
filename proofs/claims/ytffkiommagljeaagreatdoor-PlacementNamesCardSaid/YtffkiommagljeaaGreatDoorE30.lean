import Derived.Stop.Asserts
import Derived.Laws.Externs
import Derived.Test.YtffkiommagljeaaGreatDoorE27
set_option linter.unusedVariables false
set_option linter.unusedSimpArgs false
set_option linter.unusedSectionVars false
namespace Go.Ax
open Go
variable [Inhabited Gl0]
open Go.MapKept (IsKey run_checkKey run_findKey heap_set)
def taM (P:Program) (o:Oper) (t:Nat->AV):Option CE :=
 match o.op with
 | .typeAssert x _ asserted ok=>(match ev t x with
   | .ifc ty v=>(match P.underlying asserted with
     | some (.interface want)=>(match P.info? ty with
       | some i=>(match (lacking want i.methods).isEmpty with
         | true=>some ⟨tupOk ok (.ifc ty v) (.s (.bool true)),[],[],[],[]⟩
         | false=>(match ok,zeroAV P asserted with
           | true,some z=>some ⟨tupOk true z (.s (.bool false)),[],[],[],[]⟩
           | _,_=>none))
       | none=>none)
     | some d=>(match Nat.beq ty asserted with
       | true=>some ⟨tupOk ok v (.s (.bool true)),[],[],[],[]⟩
       | false=>(match ok,zeroAV P asserted with
          | true,some z=>some ⟨tupOk true z (.s (.bool false)),[],[],[],[]⟩
          | _,_=>none))
     | none=>none)
   | .s .nilIface=>(match ok,P.underlying asserted,zeroAV P asserted with
     | true,some _,some z=>some ⟨tupOk true z (.s (.bool false)),[],[],[],[]⟩
     | _,_,_=>none)
   | _=>none)
 | _=>none
theorem taM_ok {P:Program} {rd:Nat->Blk} {o:Oper} {t:Nat->AV} {e:CE} (h:taM P o t=some e):CE.Good P o t rd e:=by
 unfold taM at h
 split at h
 case h_2=>cases h
 rename_i x xt asserted ok hop
 have go:∀ {r:AV},(∀ H E (w:World) (u:Value),Rel (ev t x) H E u->∃ v,(Instr.typeAssert u xt asserted ok).run P w=.ok v w/\Rel r H E v)->CE.Good P o t rd ⟨r,[],[],[],[]⟩:=by
  intro r hr M hM
  refine runs_stepZ fun H E w a hC hT=>?_
  obtain ⟨v,q1,q2⟩:=hr H E w (a.eval x) (rel_ev hT x)
  exact ⟨v,w,H,E,by simp [execOp,hop,q1,Result.andThen],q2,hC,Evol.refl _ _ _ _⟩
 split at h
 · rename_i ty v hx
   rw [hx] at go
   split at h
   · rename_i want hu
     split at h
     case h_2=>cases h
     rename_i i hi
     split at h
     · rename_i hl
       cases h
       refine go fun H E w u hr=>?_
       obtain ⟨x',rfl,hx'⟩:=hr
       have hl:lacking want i.methods=[]:=by simpa using hl
       cases ok with
       | true=>exact ⟨_,run_typeAssert_has hu hi hl,⟨#[.iface ty x',.bool true],rfl,_,[.bool true],rfl,⟨x',rfl,hx'⟩,.bool true,[],rfl,⟨rfl,rfl⟩,rfl⟩⟩
       | false=>exact ⟨.iface ty x',by simp [Instr.typeAssert,run_underlying hu,typeInfo,hi,missingMethod_none hl,Result.andThen],⟨x',rfl,hx'⟩⟩
     · rename_i hl
       split at h
       case h_2=>cases h
       rename_i z hz
       cases h
       refine go fun H E w u hr=>?_
       obtain ⟨x',rfl,hx'⟩:=hr
       have hl:lacking want i.methods≠[]:=by simpa using hl
       obtain ⟨m,hm⟩:=missingMethod_some hl
       obtain ⟨zv,hz1,hz2⟩:=zeroAV_ok H E w hz
       exact ⟨.tuple #[zv,.bool false],by simp [Instr.typeAssert,run_underlying hu,typeInfo,hi,hm,hz1,Result.andThen],⟨#[zv,.bool false],rfl,zv,[.bool false],rfl,hz2,.bool false,[],rfl,⟨rfl,rfl⟩,rfl⟩⟩
   · rename_i d hu hd
     split at h
     · rename_i ht
       have ht:=Nat.eq_of_beq_eq_true ht
       subst ht
       cases h
       refine go fun H E w u hr=>?_
       obtain ⟨x',rfl,hx'⟩:=hr
       have hne:∀ ms,d≠.interface ms:=fun ms e=>hu ms e
       cases ok with
       | true=>exact ⟨.tuple #[x',.bool true],by cases d<;>first | exact absurd rfl (hne _) | simp [Instr.typeAssert,run_underlying hd,Result.andThen],⟨#[x',.bool true],rfl,_,[.bool true],rfl,hx',.bool true,[],rfl,⟨rfl,rfl⟩,rfl⟩⟩
       | false=>exact ⟨x',by cases d<;>first | exact absurd rfl (hne _) | simp [Instr.typeAssert,run_underlying hd,Result.andThen],hx'⟩
     · rename_i ht
       have ht:ty≠asserted:=fun e=>by subst e;simp at ht
       split at h
       case h_2=>cases h
       rename_i z hz
       cases h
       refine go fun H E w u hr=>?_
       obtain ⟨x',rfl,hx'⟩:=hr
       have hne:∀ ms,d≠.interface ms:=fun ms e=>hu ms e
       obtain ⟨zv,hz1,hz2⟩:=zeroAV_ok H E w hz
       refine ⟨.tuple #[zv,.bool false],?_,⟨#[zv,.bool false],rfl,zv,[.bool false],rfl,hz2,.bool false,[],rfl,⟨rfl,rfl⟩,rfl⟩⟩
       cases d<;>first | exact absurd rfl (hne _) | simp [Instr.typeAssert,run_underlying hd,ht,hz1,Result.andThen]
   · cases h
 · rename_i hx
   rw [hx] at go
   split at h
   case h_2=>cases h
   rename_i d z hd hz
   cases h
   refine go fun H E w u hr=>?_
   have hu:u=.nilIface:=hr.1
   subst hu
   obtain ⟨zv,hz1,hz2⟩:=zeroAV_ok H E w hz
   refine ⟨.tuple #[zv,.bool false],?_,⟨#[zv,.bool false],rfl,zv,[.bool false],rfl,hz2,.bool false,[],rfl,⟨rfl,rfl⟩,rfl⟩⟩
   cases d<;>simp [Instr.typeAssert,run_underlying hd,hz1,Result.andThen]
 · cases h
def delM (P:Program) (rd:Nat->Blk) (o:Oper) (t:Nat->AV):Option CE :=
 match o.op with
 | .call { callee:=.builtin .delete,args,argTypes }=>(match args.toList,argTypes.toList with
   | [m,k],[mt,_]=>(match keyD P mt,scV (ev t k),ev t m with
     | some (d,_,_),some kv,.mref i=>(match keyIs d kv,rd i with
       | true,.mp es ck=>(match allKeys d es&&isS (ev t k) with
         | true=>some ⟨.tup [],[i],[(i,.mp (match mfindE kv es 0 with | some (j,_)=>delEs es j | none=>es) ck)],[],[]⟩
         | false=>none)
       | _,_=>none)
     | _,_,_=>none)
   | _,_=>none)
 | _=>none
theorem del_ok {H:HH} {E:Env}:∀ {es:List (Value×AV×Nat)} {l:List MapEntry} (j:Nat),entsM l=ents es->RelL (vals es) H E (valsM l) ->
 entsM (l.eraseIdx j)=ents (delEs es j)/\RelL (vals (delEs es j)) H E (valsM (l.eraseIdx j))
 | [],l,j,h,_=>by
   have:l=[]:=by simpa using h
   subst this
   exact ⟨rfl,rfl⟩
 | x::r,l,j,h,hr=>by
   cases l with
   | nil=>simp at h
   | cons y l =>
     simp only [entsM,ents,List.map_cons,List.cons.injEq,Prod.mk.injEq] at h
     obtain ⟨u,q,hu,h1,h2⟩:=hr
     simp only [valsM,List.map_cons,List.cons.injEq] at hu
     obtain ⟨rfl,rfl⟩:=hu
     cases j with
     | zero=>exact ⟨h.2,h2⟩
     | succ j =>
       obtain ⟨g1,g2⟩:=del_ok j h.2 h2
       refine ⟨?_,⟨_,_,rfl,h1,g2⟩⟩
       simp only [List.eraseIdx_cons_succ,entsM,ents,delEs,List.map_cons,h.1.1,h.1.2]
       exact congrArg (_::·) g1
theorem delM_ok {P:Program} {rd:Nat->Blk} {o:Oper} {t:Nat->AV} {e:CE} (h:delM P rd o t=some e):CE.Good P o t rd e:=by
 unfold delM at h
 split at h
 case h_2=>cases h
 rename_i args ats hop
 split at h
 case h_2=>cases h
 rename_i m k mt kt' hm hk
 have e1:args=#[m,k]:=Array.ext' hm
 have e2:ats=#[mt,kt']:=Array.ext' hk
 subst e1;subst e2
 split at h
 case h_2=>cases h
 rename_i d kt et kv i hkd hkv hx
 obtain ⟨hm,hk⟩:=keyD_ok hkd
 split at h
 case h_2=>cases h
 rename_i es ck hkis hg
 have hkey:=keyIs_ok hkis
 split at h
 case h_2=>cases h
 rename_i hall
 simp only [Bool.and_eq_true] at hall
 cases h
 intro M hM
 refine runs_stepZ fun H E w a hC hT=>?_
 have h1:=rel_ev hT m
 rw [hx] at h1
 obtain ⟨hl,b,hb,hv⟩:=h1
 have h2:=scV_ok hkv (rel_ev hT k)
 have hB:=hC.blk i
 rw [hM i (by simp),hg] at hB
 obtain ⟨_,b',ms,g1,g2,g3,g4⟩:=hB
 rw [hb] at g1;cases g1
 rcases find_ok hkey 0 g3 g4 hall.1 with ⟨q1,q2⟩ | ⟨j,e',a',q1,q2,q3,q4,q5⟩
 · obtain ⟨hc,hev⟩:=hC.upd hl hb (upd_setO g2) (B:=.mp es ck) ⟨hl,b,ms,hb,(heap_set g2).1,g3,g4⟩
   refine ⟨.tuple #[],_,H,E,?_,⟨#[],rfl,rfl⟩,?_,hev⟩
   · simp [execOp,hop,resolve,invoke,builtin,hv,h2,Builtin.delete_,run_underlying hm,Go.MapKept.run_getObj_map g2,run_checkKey hk hkey,run_findKey hk q2,Go.MapKept.run_setObj_map _ g2,Result.andThen,World.setO]
   · simp only [killM,applyW]
     rw [q1]
     exact hc
 · simp only [Nat.zero_add] at q1 q2
   obtain ⟨m1,m2⟩:=del_ok j g3 g4
   have hlist:(ms.eraseIdxIfInBounds j).toList=ms.toList.eraseIdx j:=by
    unfold Array.eraseIdxIfInBounds
    split
    · simp
    · rename_i hj
      rw [List.eraseIdx_of_length_le]
      simpa using hj
   obtain ⟨hc,hev⟩:=hC.upd hl hb (upd_setO g2) (B:=.mp (delEs es j) ck) ⟨hl,b,ms.eraseIdxIfInBounds j,hb,(heap_set g2).1,by rw [hlist];exact m1,by rw [hlist];exact m2⟩
   refine ⟨.tuple #[],_,H,E,?_,⟨#[],rfl,rfl⟩,?_,hev⟩
   · simp [execOp,hop,resolve,invoke,builtin,hv,h2,Builtin.delete_,run_underlying hm,Go.MapKept.run_getObj_map g2,run_checkKey hk hkey,run_findKey hk q2,Go.MapKept.run_setObj_map _ g2,Result.andThen,World.setO]
   · simp only [killM,applyW]
     rw [q1]
     exact hc
def rangeM (P:Program) (rd:Nat->Blk) (nid:Nat) (o:Oper) (t:Nat->AV):Option CE :=
 match o.op with
 | .range ty x=>(match P.underlying ty,ev t x with
   | some (.map _ _),.mref i=>(match rd i with
     | .mp _ ck=>some ⟨.ptr nid 0 1 0,[i,nid],[(nid,.mit i ck [] ck)],[],[]⟩
     | _=>none)
   | _,_=>none)
 | _=>none
theorem rangeM_ok {P:Program} {rd:Nat->Blk} {nid:Nat} {o:Oper} {t:Nat->AV} {e:CE} (hd:∀ k,nid<=k->rd k=.dead) (h:rangeM P rd nid o t=some e):CE.Good P o t rd e:=by
 unfold rangeM at h
 split at h
 case h_2=>cases h
 rename_i ty x hop
 split at h
 case h_2=>cases h
 rename_i kt et i hu hx
 split at h
 case h_2=>cases h
 rename_i es ck hg
 cases h
 intro M hM
 refine runs_stepZ fun H E w a hC hT=>?_
 have h1:=rel_ev hT x
 rw [hx] at h1
 obtain ⟨hl,b,hb,hv⟩:=h1
 have hB:=hC.blk i
 rw [hM i (by simp),hg] at hB
 obtain ⟨_,b',ms,g1,g2,g3,g4⟩:=hB
 rw [hb] at g1;cases g1
 have hdn:getM M nid=.dead:=(hM nid (by simp)).trans (hd nid (Nat.le_refl _))
 have hdl:E.lv nid=false:=by have:=hC.blk nid;rw [hdn] at this;exact this
 have hne:i≠nid:=fun e=>by subst e;rw [hl] at hdl;cases hdl
 obtain ⟨s1,s2,_⟩:=E.set_same nid (some w.heap.size) 0 0
 obtain ⟨o1,o2,_⟩:=E.set_ne nid i (some w.heap.size) 0 0 hne
 obtain ⟨hc,hev⟩:=hC.new (w':=w.alloc (.mapIter (some b) ck #[] ck)) (i:=nid) (κ:=0) (η:=0) (bo:=some w.heap.size) (B:=.mit i ck [] ck) hdn rfl rfl rfl (by simp) (fun b hb=>Go.RowKit.Below.heap_alloc w _ b hb) (fun b hb=>by cases hb;exact Nat.le_refl _)
  ⟨s1,o1.trans hl,w.heap.size,b,s2,o2.trans hb,heap_alloc_new w _⟩
 refine ⟨.pointer (some ⟨w.heap.size,0,none⟩),_,H,_,?_,⟨s1,w.heap.size,s2,by simp⟩,hc,hev⟩
 simp [execOp,hop,hv,Instr.range,run_underlying hu,Go.MapKept.run_getObj_map g2,Result.andThen]
def leftE (seen:List Nat):List (Value×AV×Nat)->List (Value×AV×Nat)
 | []=>[]
 | e::r=>match mem seen e.2.2 with | true=>leftE seen r | false=>e::leftE seen r
def splitN (b:Bool) (since:Nat):List (Value×AV×Nat)->List (Value×AV×Nat)
 | []=>[]
 | e::r=>match Nat.blt e.2.2 since==b with | true=>e::splitN b since r | false=>splitN b since r
def allGe (last:Nat):List (Value×AV×Nat)->Bool
 | []=>true
 | e::r=>Nat.ble last e.2.2&&allGe last r
def isE {α:Type}:List α->Bool
 | []=>true
 | _=>false
def nextM (rd:Nat->Blk) (o:Oper) (t:Nat->AV):Option CE :=
 match o.op with
 | .next it false=>(match ev t it with
   | .ptr j 0 _ 0=>(match rd j with
     | .mit m since seen last=>(match rd m with
       | .mp es ck=>(match isE seen||isE es||!allGe last es with
         | true=>(match splitN true since (leftE seen es),splitN false since (leftE seen es) with
           | [],[]=>some ⟨.tup [.s (.bool false)],[j,m],[],[],[]⟩
           | [e],[]=>some ⟨.tup [.s (.bool true),toAV e.1,e.2.1],[j,m],[(j,.mit m since (seen++[e.2.2]) ck)],[],[]⟩
           | _,_=>none)
         | false=>none)
       | _=>none)
     | _=>none)
   | _=>none)
 | _=>none
theorem filt_ok {H:HH} {E:Env} {q:Nat->Bool}:∀ {es:List (Value×AV×Nat)} {l:List MapEntry},entsM l=ents es->RelL (vals es) H E (valsM l) ->
 entsM (l.filter fun e=>q e.born)=ents (es.filter fun e=>q e.2.2)/\RelL (vals (es.filter fun e=>q e.2.2)) H E (valsM (l.filter fun e=>q e.born))
 | [],l,h,_=>by
   have:l=[]:=by simpa using h
   subst this
   exact ⟨rfl,rfl⟩
 | x::r,l,h,hr=>by
   cases l with
   | nil=>simp at h
   | cons y l =>
     simp only [entsM,ents,List.map_cons,List.cons.injEq,Prod.mk.injEq] at h
     obtain ⟨u,p,hu,h1,h2⟩:=hr
     simp only [valsM,List.map_cons,List.cons.injEq] at hu
     obtain ⟨rfl,rfl⟩:=hu
     obtain ⟨g1,g2⟩:=filt_ok (q:=q) h.2 h2
     simp only [List.filter_cons,h.1.2]
     cases q x.2.2 with
     | false=>exact ⟨g1,g2⟩
     | true =>
       refine ⟨?_,⟨_,_,rfl,h1,g2⟩⟩
       simp only [entsM,ents,if_true,List.map_cons,h.1.1,h.1.2]
       exact congrArg (_::·) g1
theorem leftE_eq (seen:List Nat):∀ es,leftE seen es=es.filter fun e=>!mem seen e.2.2
 | []=>rfl
 | e::r=>by
   simp only [leftE,List.filter_cons,leftE_eq seen r]
   cases mem seen e.2.2<;>rfl
theorem splitN_eq (b:Bool) (since:Nat):∀ es,splitN b since es=es.filter fun e=>Nat.blt e.2.2 since==b
 | []=>rfl
 | e::r=>by
   simp only [splitN,List.filter_cons,splitN_eq b since r]
   cases (Nat.blt e.2.2 since==b)<;>rfl
theorem allGe_eq (last:Nat):∀ es,allGe last es=(ents es).all fun e=>decide (e.2≥last)
 | []=>rfl
 | e::r=>by
   simp only [allGe,allGe_eq last r,ents,List.map_cons,List.all_cons]
   congr 1
   rw [Bool.eq_iff_iff]
   simp [Nat.ble_eq]
theorem mem_contains (seen:List Nat) (n:Nat):seen.toArray.contains n=mem seen n:=by
 rw [Bool.eq_iff_iff]
 simp [mem_iff]
theorem run_getObj_iter {P:Program} {w:World} {r:Nat} {m:Option Nat} {s:Nat} {a:Array Nat} {l:Nat} (hb:w.heap[r]? = some (.mapIter m s a l)):(getObj r).run P w=.ok (.mapIter m s a l) w:=by
 simp [getObj,Sem.run,hb]
theorem run_setObj_iter {P:Program} {w:World} {r:Nat} {m:Option Nat} {s:Nat} {a:Array Nat} {l:Nat} (o:Obj) (hb:w.heap[r]? = some (.mapIter m s a l)):(setObj r o).run P w=.ok () (World.setO w r o):=by
 simp [setObj,Sem.run,hb,World.setO]
theorem nextM_ok {P:Program} {rd:Nat->Blk} {o:Oper} {t:Nat->AV} {e:CE} (h:nextM rd o t=some e):CE.Good P o t rd e:=by
 unfold nextM at h
 split at h
 case h_2=>cases h
 rename_i it hop
 split at h
 case h_2=>cases h
 rename_i j sz hx
 split at h
 case h_2=>cases h
 rename_i m since seen last hj
 split at h
 case h_2=>cases h
 rename_i es ck hm
 split at h
 case h_2=>cases h
 rename_i hok
 have key:∀ (H:HH) (E:Env) (w:World) (M:List Blk) (a:Act),Conc H E w M->RelT t H E a->getM M j=rd j->getM M m=rd m->∃ b bm ms,E.lv j=true/\E.lv m=true/\E.ι j=some b/\E.ι m=some bm/\w.heap[b]? = some (.mapIter (some bm) since seen.toArray last)/\w.heap[bm]? = some (.map ms ck)/\a.eval it=.pointer (some ⟨b,0,none⟩) /\
  (!seen.toArray.isEmpty&&!ms.isEmpty&&ms.all (fun e=>decide (e.born≥last)))=false /\
  entsM ((ms.filter fun e=>!seen.toArray.contains e.born).filter (fun e=>decide (e.born<since))).toList=ents (splitN true since (leftE seen es)) /\
  RelL (vals (splitN true since (leftE seen es))) H E (valsM ((ms.filter fun e=>!seen.toArray.contains e.born).filter (fun e=>decide (e.born<since))).toList) /\
  entsM ((ms.filter fun e=>!seen.toArray.contains e.born).filter (fun e=>decide (e.born≥since))).toList=ents (splitN false since (leftE seen es)):=by
  intro H E w M a hC hT hMj hMm
  have h1:=rel_ev hT it
  rw [hx] at h1
  obtain ⟨hl,b,hb,hv⟩:=h1
  have hB:=hC.blk j
  rw [hMj,hj] at hB
  obtain ⟨_,hlm,b',bm,g1,g2,g3⟩:=hB
  rw [hb] at g1;cases g1
  have hB2:=hC.blk m
  rw [hMm,hm] at hB2
  obtain ⟨_,bm',ms,k1,k2,k3,k4⟩:=hB2
  rw [g2] at k1;cases k1
  obtain ⟨f1,f2⟩:=filt_ok (q:=fun n=>!mem seen n) k3 k4
  obtain ⟨f3,f4⟩:=filt_ok (q:=fun n=>Nat.blt n since==true) f1 f2
  obtain ⟨f5,_⟩:=filt_ok (q:=fun n=>Nat.blt n since==false) f1 f2
  have c1:(ms.filter fun e=>!seen.toArray.contains e.born).toList=ms.toList.filter fun e=>!mem seen e.born:=by
   rw [Array.toList_filter]
   congr 1
   funext e
   rw [mem_contains]
  have c2:(fun e:MapEntry=>decide (e.born<since))=fun e=>Nat.blt e.born since==true:=by
   funext e
   rw [Bool.eq_iff_iff]
   simp [Nat.blt_eq]
  have c3:(fun e:MapEntry=>decide (e.born≥since))=fun e=>Nat.blt e.born since==false:=by
   funext e
   have:Nat.blt e.born since=decide (e.born<since):=by rw [Bool.eq_iff_iff];simp [Nat.blt_eq]
   rw [this]
   by_cases h:e.born<since
   · simp [h]
   · simp [h,Nat.le_of_not_lt h]
  refine ⟨b,bm,ms,hl,hlm,hb,g2,g3,k2,by simpa using hv,?_,?_,?_,?_⟩
  · have e1:seen.toArray.isEmpty=isE seen:=by cases seen<;>rfl
    have e2:ms.isEmpty=isE es:=by
     have:ms.toList.isEmpty=es.isEmpty:=by
      have:=congrArg List.isEmpty k3
      simpa using this
     rw [<- Array.isEmpty_toList,this]
     cases es<;>rfl
    have e3:(ms.all fun e=>decide (e.born≥last))=allGe last es:=by
     have k3':ents es=entsM ms.toList:=k3.symm
     rw [allGe_eq,k3',<- Array.all_toList]
     simp only [List.all_map]
     rfl
    rw [e1,e2,e3]
    revert hok
    generalize isE seen=x
    generalize isE es=y
    generalize allGe last es=z
    cases x<;>cases y<;>cases z<;>simp
  · rw [Array.toList_filter,c1,c2,splitN_eq,leftE_eq];exact f3
  · rw [Array.toList_filter,c1,c2,splitN_eq,leftE_eq];exact f4
  · rw [Array.toList_filter,c1,c3,splitN_eq,leftE_eq];exact f5
 split at h
 · rename_i ho hn
   cases h
   intro M hM
   refine runs_stepZ fun H E w a hC hT=>?_
   obtain ⟨b,bm,ms,q1,q2,q3,q4,q5,q6,q7,q8,q9,q10,q11⟩:=key H E w M a hC hT (hM j (by simp)) (hM m (by simp))
   rw [ho] at q9
   rw [hn] at q11
   have r1:(ms.filter fun e=>!seen.toArray.contains e.born).filter (fun e=>decide (e.born<since))=#[]:=Array.ext' (by simpa using q9)
   have r2:(ms.filter fun e=>!seen.toArray.contains e.born).filter (fun e=>decide (e.born≥since))=#[]:=Array.ext' (by simpa using q11)
   refine ⟨.tuple #[.bool false],w,H,E,?_,⟨#[.bool false],rfl,_,[],rfl,⟨rfl,rfl⟩,rfl⟩,hC,Evol.refl _ _ _ _⟩
   have:=Instr.next
   simp only [execOp,hop,q7,Instr.next,Sem.run_bind,run_getObj_iter q5,Go.MapKept.run_getObj_map q6,Result.andThen,q8,r1,r2]
   simp [Question.forced,Result.andThen]
 · rename_i en ho hn
   cases h
   intro M hM
   refine runs_stepZ fun H E w a hC hT=>?_
   obtain ⟨b,bm,ms,q1,q2,q3,q4,q5,q6,q7,q8,q9,q10,q11⟩:=key H E w M a hC hT (hM j (by simp)) (hM m (by simp))
   rw [ho] at q9 q10
   rw [hn] at q11
   obtain ⟨u,r,hu,h1,h2⟩:=q10
   cases h2
   generalize hF:(ms.filter fun e=>!seen.toArray.contains e.born).filter (fun e=>decide (e.born<since))=F at q9 hu
   have r2:(ms.filter fun e=>!seen.toArray.contains e.born).filter (fun e=>decide (e.born≥since))=#[]:=Array.ext' (by simpa using q11)
   obtain ⟨x,hFx⟩:∃ x,F=#[x]:=by
    obtain ⟨L⟩:=F
    cases L with
    | nil=>simp at hu
    | cons x L =>
      cases L with
      | nil=>exact ⟨x,rfl⟩
      | cons y L=>simp at hu
   subst hFx
   simp only [entsM,ents,List.map_cons,List.map_nil,List.cons.injEq,Prod.mk.injEq] at q9
   simp only [valsM,List.map_cons,List.map_nil,List.cons.injEq] at hu
   obtain ⟨⟨w1,w2⟩,_⟩:=q9
   obtain ⟨rfl,_⟩:=hu
   obtain ⟨hc,hev⟩:=hC.upd q1 q3 (upd_setO q5) (o:=.mapIter (some bm) since (seen++[en.2.2]).toArray ck) (B:=.mit m since (seen++[en.2.2]) ck) ⟨q1,q2,b,bm,q3,q4,(heap_set q5).1⟩
   refine ⟨.tuple #[.bool true,x.key,x.val],_,H,E,?_,⟨#[.bool true,x.key,x.val],rfl,_,_,rfl,⟨rfl,rfl⟩,_,_,rfl,by rw [w1];exact rel_toAV _ H E,_,_,rfl,h1,rfl⟩,hc,hev⟩
   simp only [execOp,hop,q7,Instr.next,Sem.run_bind,run_getObj_iter q5,Go.MapKept.run_getObj_map q6,Result.andThen,q8,hF,r2]
   have hpush:seen.toArray.push x.born=(seen++[en.2.2]).toArray:=by rw [w2];simp
   simp [Question.forced,Result.andThen,run_setObj_iter _ q5,w2]
 · cases h
def entryM (rd:Nat->Blk) (o:Oper) (t:Nat->AV):Option CE :=
 match o.op with
 | .entry it=>(match ev t it with
   | .ptr j 0 _ 0=>(match rd j with
     | .mit m _ seen last=>(match rd m with
       | .mp es ck=>(match Nat.beq ck last,seen.getLast? with
         | true,some n=>(match es.filter fun e=>e.2.2==n with
           | e::_=>some ⟨.tup [toAV e.1,e.2.1],[j,m],[],[],[]⟩
           | []=>none)
         | _,_=>none)
       | _=>none)
     | _=>none)
   | _=>none)
 | _=>none
theorem entryM_ok {P:Program} {rd:Nat->Blk} {o:Oper} {t:Nat->AV} {e:CE} (h:entryM rd o t=some e):CE.Good P o t rd e:=by
 unfold entryM at h
 split at h
 case h_2=>cases h
 rename_i it hop
 split at h
 case h_2=>cases h
 rename_i j sz hx
 split at h
 case h_2=>cases h
 rename_i m since seen last hj
 split at h
 case h_2=>cases h
 rename_i es ck hm
 split at h
 case h_2=>cases h
 rename_i n hck hs
 split at h
 case h_2=>cases h
 rename_i en er hf
 cases h
 have hck:=Nat.eq_of_beq_eq_true hck
 subst hck
 intro M hM
 refine runs_stepZ fun H E w a hC hT=>?_
 have h1:=rel_ev hT it
 rw [hx] at h1
 obtain ⟨hl,b,hb,hv⟩:=h1
 have hB:=hC.blk j
 rw [hM j (by simp),hj] at hB
 obtain ⟨_,hlm,b',bm,g1,g2,g3⟩:=hB
 rw [hb] at g1;cases g1
 have hB2:=hC.blk m
 rw [hM m (by simp),hm] at hB2
 obtain ⟨_,bm',ms,k1,k2,k3,k4⟩:=hB2
 rw [g2] at k1;cases k1
 obtain ⟨f1,f2⟩:=filt_ok (q:=fun k=>k==n) k3 k4
 rw [hf] at f1 f2
 obtain ⟨u,r,hu,r1,_⟩:=f2
 obtain ⟨x,xs,hxs⟩:∃ x xs,(ms.toList.filter fun e=>e.born==n)=x::xs:=by
  cases hq:(ms.toList.filter fun e=>e.born==n) with
  | nil=>rw [hq] at hu;cases hu
  | cons x xs=>exact ⟨x,xs,rfl⟩
 rw [hxs] at f1 hu
 simp only [entsM,ents,List.map_cons,List.cons.injEq,Prod.mk.injEq] at f1
 simp only [valsM,List.map_cons,List.cons.injEq] at hu
 obtain ⟨⟨w1,w2⟩,_⟩:=f1
 obtain ⟨rfl,_⟩:=hu
 have hfind:ms.find? (fun e=>e.born==n)=some x:=by
  rw [<- Array.find?_toList,<- List.head?_filter,hxs]
  rfl
 have hback:seen.toArray.back? = some n:=by simpa using hs
 refine ⟨.tuple #[x.key,x.val],w,H,E,?_,⟨#[x.key,x.val],rfl,_,_,rfl,by rw [w1];exact rel_toAV _ H E,_,_,rfl,r1,rfl⟩,hC,Evol.refl _ _ _ _⟩
 have hv':a.eval it=.pointer (some ⟨b,0,none⟩):=by simpa using hv
 simp [execOp,hop,hv',Instr.entry,run_getObj_iter g3,Go.MapKept.run_getObj_map k2,hback,hfind,Result.andThen]
def glM (P:Program) (o:Oper):Option CE :=
 match o.op with
 | .load ty (.global g)=>(match isAgg P ty,P.underlying ty,(default:Gl0).hs.find? fun p=>Nat.beq p.1 g with
   | false,some _,some p=>some ⟨.ifc p.2.1 (.agg [.s p.2.2]),[],[],[],[]⟩
   | _,_,_=>none)
 | _=>none
theorem glM_ok {P:Program} {rd:Nat->Blk} {o:Oper} {t:Nat->AV} {e:CE} (h:glM P o=some e):CE.Good P o t rd e:=by
 unfold glM at h
 split at h
 case h_2=>cases h
 rename_i ty g hop
 split at h
 case h_2=>cases h
 rename_i d p hagg hu hp
 cases h
 have hmem:=List.mem_of_find?_eq_some hp
 have hg:=List.find?_some hp
 have hg:=Nat.eq_of_beq_eq_true hg
 intro M hM
 refine runs_stepZ fun H E w a hC hT=>?_
 obtain ⟨hs,hx⟩:=hC.tf.2 p hmem
 have hcell:=imm_cell (b:=true) hC.imm hC.tf.1 hx
 rw [hg] at hcell
 refine ⟨_,w,H,E,?_,⟨_,rfl,_,rfl,_,[],rfl,⟨rfl,hs⟩,rfl⟩,hC,Evol.refl _ _ _ _⟩
 have h1:=run_isAgg' w ⟨d,hu⟩
 rw [hagg] at h1
 simp [execOp,hop,Act.eval,Instr.loadAt,Instr.sureAddr,loadVar,h1,hcell,Result.andThen]
def moreM (P:Program) (rd:Nat->Blk) (nid:Nat) (o:Oper) (t:Nat->AV):Option CE :=
 match o.op with
 | .lookup ..=>lookE P rd o t
 | .mapUpdate ..=>updE P rd o t
 | .insert ..=>updE P rd o t
 | .makeMap ..=>mkM P rd nid o t
 | .typeAssert ..=>taM P o t
 | .range ..=>rangeM P rd nid o t
 | .next ..=>nextM rd o t
 | .load ..=>glM P o
 | .entry ..=>entryM rd o t
 | .call { callee:=.builtin .len,.. }=>lenM P rd o t
 | .call { callee:=.builtin .delete,.. }=>delM P rd o t
 | _=>none
theorem moreM_ok {P:Program} {rd:Nat->Blk} {nid:Nat} {o:Oper} {t:Nat->AV} {e:CE} (hd:∀ k,nid<=k->rd k=.dead) (h:moreM P rd nid o t=some e):CE.Good P o t rd e:=by
 unfold moreM at h
 split at h
 · exact lookE_ok h
 · exact updE_ok h
 · exact updE_ok h
 · exact mkM_ok hd h
 · exact taM_ok h
 · exact rangeM_ok hd h
 · exact nextM_ok h
 · exact glM_ok h
 · exact entryM_ok h
 · exact lenM_ok h
 · exact delM_ok h
 · cases h
end Go.Ax
