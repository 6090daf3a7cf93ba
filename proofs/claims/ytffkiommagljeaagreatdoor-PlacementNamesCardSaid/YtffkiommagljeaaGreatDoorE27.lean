import Derived.MapKept
import Derived.Test.YtffkiommagljeaaGreatDoorE26
set_option linter.unusedVariables false
set_option linter.unusedSimpArgs false
set_option linter.unusedSectionVars false
namespace Go.Ax
open Go
variable [Inhabited Gl0]
open Go.MapKept (IsKey findNow_spec run_checkKey run_findKey run_keyThatStays heap_set sameNow_of_keys)
theorem runs_stepY {P:Program} {o:Oper} {t:Nat->AV} {M:List Blk} {e:CE}
 (h:∀ H E w a,Conc H E w M->RelT t H E a->∃ n v w' H' E',(execOp a.eval o).run P w=.ok n w'/\(n=.value v∨(n=.skip/\v=undef))/\Rel e.r H' E' v/\Conc H' E' w' (applyW e.wr (killM e.kl M))/\Evol e.kl H E w H' E' w'):StepT P o t M e:=by
 intro H E w a K Q hC hT hd hk
 obtain ⟨n,v,w',H',E',hv,hn,h1,h2,h3⟩:=h H E w a hC hT
 unfold Oper.wp
 rw [hv]
 rcases hn with rfl | ⟨rfl,rfl⟩<;>exact hk _ w' H' E' h1 h2 h3
def keyD (P:Program) (t:TypeId):Option (TypeDesc×TypeId×TypeId):=match P.underlying t with
 | some (.map k e)=>(match P.underlying k with
   | some (.int q)=>some (.int q,k,e)
   | some .string=>some (.string,k,e)
   | some .bool=>some (.bool,k,e)
   | _=>none)
 | _=>none
theorem keyD_ok {P:Program} {t:TypeId} {d:TypeDesc} {k e:TypeId} (h:keyD P t=some (d,k,e)):P.underlying t=some (.map k e)/\P.underlying k=some d:=by
 unfold keyD at h
 split at h
 case h_2=>cases h
 rename_i k' e' hu
 split at h<;>(try (cases h;done))<;>(rename_i hk;cases h;exact ⟨hu,hk⟩)
def keyIs:TypeDesc->Value->Bool
 | .int k,.int k' _=>decide (k'=k)
 | .string,.string _=>true
 | .bool,.bool _=>true
 | _,_=>false
theorem keyIs_ok {d:TypeDesc} {v:Value} (h:keyIs d v=true):IsKey d v:=by
 unfold keyIs at h
 split at h
 · exact (of_decide_eq_true h:_=_)
 · trivial
 · trivial
 · cases h
def keyB:Value->Value->Bool
 | .int _ a,.int _ b=>decide (a=b)
 | .string a,.string b=>a.data.toList==b.data.toList
 | .bool a,.bool b=>a==b
 | _,_=>false
theorem keyB_iff {d:TypeDesc} {a b:Value} (ha:IsKey d a) (hb:IsKey d b):keyB a b=true↔a=b:=by
 cases d<;>cases a<;>cases b<;>simp_all [IsKey,keyB]
 rename_i x y
 obtain ⟨⟨x⟩⟩:=x
 obtain ⟨⟨y⟩⟩:=y
 simp
def mfindE (k:Value):List (Value×AV×Nat)->Nat->Option (Nat×AV)
 | [],_=>none
 | e::r,i=>match keyB k e.1 with | true=>some (i,e.2.1) | false=>mfindE k r (i+1)
def allKeys (d:TypeDesc):List (Value×AV×Nat)->Bool
 | []=>true
 | e::r=>keyIs d e.1&&allKeys d r
def setEs:List (Value×AV×Nat)->Nat->AV->List (Value×AV×Nat)
 | [],_,_=>[]
 | e::r,0,a=>(e.1,a,e.2.2)::r
 | e::r,i+1,a=>e::setEs r i a
def delEs:List (Value×AV×Nat)->Nat->List (Value×AV×Nat)
 | [],_=>[]
 | _::r,0=>r
 | e::r,i+1=>e::delEs r i
abbrev ents (es:List (Value×AV×Nat)):List (Value×Nat):=es.map fun e=>(e.1,e.2.2)
abbrev vals (es:List (Value×AV×Nat)):List AV:=es.map fun e=>e.2.1
abbrev entsM (l:List MapEntry):List (Value×Nat):=l.map fun e=>(e.key,e.born)
abbrev valsM (l:List MapEntry):List Value:=l.map fun e=>e.val
theorem find_ok {d:TypeDesc} {k:Value} {H:HH} {E:Env} (hk:IsKey d k):∀ {es:List (Value×AV×Nat)} {l:List MapEntry} (i:Nat),entsM l=ents es->RelL (vals es) H E (valsM l)->allKeys d es=true ->
 (mfindE k es i=none/\Instr.findNow d k l i=some none)∨∃ j e a,mfindE k es i=some (i+j,a)/\Instr.findNow d k l i=some (some (i+j,e.val))/\l[j]? = some e/\e.key=k/\Rel a H E e.val
 | [],l,i,h,_,_=>by
   have:l=[]:=by simpa using h
   subst this
   exact .inl ⟨rfl,rfl⟩
 | e::r,l,i,h,hr,ha=>by
   cases l with
   | nil=>simp at h
   | cons y l =>
     simp only [entsM,ents,List.map_cons,List.cons.injEq,Prod.mk.injEq] at h
     simp only [allKeys,Bool.and_eq_true] at ha
     obtain ⟨v,q,hv,h1,h2⟩:=hr
     simp only [valsM,List.map_cons,List.cons.injEq] at hv
     obtain ⟨rfl,rfl⟩:=hv
     have hyk:IsKey d y.key:=by rw [h.1.1];exact keyIs_ok ha.1
     obtain ⟨b,hb,hiff⟩:=sameNow_of_keys hk hyk
     cases b with
     | true =>
       have hke:k=y.key:=hiff.1 rfl
       refine .inr ⟨0,y,e.2.1,?_,by simp [Instr.findNow,hb],rfl,hke.symm,h1⟩
       have:keyB k e.1=true:=by rw [<- h.1.1];exact (keyB_iff hk hyk).2 hke
       simp [mfindE,this]
     | false =>
       have hke:k≠y.key:=fun q=>by have:=hiff.2 q;cases this
       have hkb:keyB k e.1=false:=by
        rw [<- h.1.1]
        cases hq:keyB k y.key with
        | false=>rfl
        | true=>exact absurd ((keyB_iff hk hyk).1 hq) hke
       rcases find_ok hk (i+1) h.2 h2 ha.2 with ⟨g1,g2⟩ | ⟨j,e',a,g1,g2,g3,g4,g5⟩
       · exact .inl ⟨by simp [mfindE,hkb,g1],by simp [Instr.findNow,hb,g2]⟩
       · exact .inr ⟨j+1,e',a,by simp [mfindE,hkb,g1];omega,by simp [Instr.findNow,hb,g2];omega,by simpa using g3,g4,g5⟩
def tupOk (ok:Bool) (a b:AV):AV:=match ok with | true=>.tup [a,b] | false=>a
theorem tupOk_rel {ok:Bool} {a:AV} {b:Bool} {H:HH} {E:Env} {v:Value} {x:AV} (h:Rel a H E v) (hx:x=.s (.bool b)∨x=.y (.bool b)):Rel (tupOk ok a x) H E (if ok then .tuple #[v,.bool b] else v):=by
 cases ok with
 | true=>exact ⟨#[v,.bool b],rfl,v,[.bool b],rfl,h,.bool b,[],rfl,(by rcases hx with rfl | rfl<;>exact ⟨rfl,rfl⟩),rfl⟩
 | false=>exact h
def zeroAV (P:Program) (t:TypeId):Option AV:=match P.info? t with | some i=>(match i.zero with | some z=>some (toAV z) | none=>none) | none=>none
theorem zeroAV_ok {P:Program} {t:TypeId} {a:AV} (H:HH) (E:Env) (w:World) (h:zeroAV P t=some a):∃ z,(zeroValue t).run P w=.ok z w/\Rel a H E z:=by
 unfold zeroAV at h
 split at h
 case h_2=>cases h
 rename_i i hi
 split at h
 case h_2=>cases h
 rename_i z hz
 cases h
 refine ⟨z,?_,rel_toAV z H E⟩
 have:(typeInfo t).run P w=.ok i w:=by simp [typeInfo,hi,Result.andThen]
 simp [zeroValue,this,hz,Result.andThen]
def selI (b:Bool) (v:Int):Int:=match b with | true=>v | false=>0
def lookE (P:Program) (rd:Nat->Blk) (o:Oper) (t:Nat->AV):Option CE :=
 match o.op with
 | .lookup xt x idx ok=>(match keyD P xt,scV (ev t idx) with
   | some (d,_,et),some kv=>(match keyIs d kv with
     | true=>(match ev t x with
       | .mref i=>(match rd i with
         | .mp es _=>(match allKeys d es&&isS (ev t idx) with
           | true=>(match mfindE kv es 0 with
             | some (_,a)=>some ⟨tupOk ok a (.s (.bool true)),[i],[],[],[]⟩
             | none=>(match zeroAV P et with | some z=>some ⟨tupOk ok z (.s (.bool false)),[i],[],[],[]⟩ | none=>none))
           | false=>none)
         | .mi kk vk has c=>(match d,kv,zeroAV P et with
           | .int k0,.int _ n,some (.s (.int zk z))=>(match decide (k0=kk)&&decide (zk=vk)&&decide (z=0) with
             | true=>some ⟨tupOk ok (.y (.int vk (selI (has n) (c n)))) (.y (.bool (has n))),[i],[],[],[]⟩
             | false=>none)
           | _,_,_=>none)
         | _=>none)
       | .s (.map none)=>(match zeroAV P et with | some z=>some ⟨tupOk ok z (.s (.bool false)),[],[],[],[]⟩ | none=>none)
       | _=>none)
     | false=>none)
   | _,_=>none)
 | _=>none
theorem isK {kk:IntKind} {v:Value}:IsKey (.int kk) v↔∃ x,v=.int kk x:=by
 constructor
 · intro h
   cases v<;>simp [IsKey] at h
   subst h
   exact ⟨_,rfl⟩
 · rintro ⟨x,rfl⟩
   rfl
theorem mget_find {kk:IntKind} {n:Int}:∀ {l:List MapEntry} (i:Nat),(∀ e∈l,∃ x,e.key=.int kk x) ->
 (mgetI n l=none/\Instr.findNow (.int kk) (.int kk n) l i=some none)∨∃ j e,mgetI n l=some e.val/\Instr.findNow (.int kk) (.int kk n) l i=some (some (i+j,e.val))/\l[j]? = some e/\e.key=.int kk n /\
   ∀ v y,mgetI y (l.modify j fun e=>{ e with key:=.int kk n,val:=v })=if n=y then some v else mgetI y l
 | [],_,_=>.inl ⟨rfl,rfl⟩
 | e::r,i,h=>by
   obtain ⟨x,hx⟩:=h e (.head _)
   by_cases hn:n=x
   · subst hn
     refine .inr ⟨0,e,by simp [mgetI,hx],by simp [Instr.findNow,hx,Instr.sameNow],rfl,hx,fun v y=>?_⟩
     by_cases hy:y=n
     · subst hy;simp [mgetI]
     · have hy2:¬ n=y:=fun q=>hy q.symm
       simp [mgetI,hx,hy,hy2]
   · have hb:(n==x)=false:=by simpa using hn
     rcases mget_find (n:=n) (i+1) (fun y hy=>h y (.tail _ hy)) with ⟨h1,h2⟩ | ⟨j,e',h1,h2,h3,h4,h5⟩
     · exact .inl ⟨by simp [mgetI,hx,hn,h1],by simp [Instr.findNow,hx,Instr.sameNow,hb,h2]⟩
     · refine .inr ⟨j+1,e',by simp [mgetI,hx,hn,h1],by simp [Instr.findNow,hx,Instr.sameNow,hb,h2];omega,by simpa using h3,h4,fun v y=>?_⟩
       simp only [List.modify_succ_cons,mgetI,hx,h5 v y]
       by_cases hy:y=x
       · subst hy;simp [hn]
       · simp [hy]
theorem run_lookup {P:Program} {w:World} {xt kt et:TypeId} {d:TypeDesc} {b:Nat} {es:Array MapEntry} {ck:Nat} {k z:Value} {r:Option (Nat×Value)} {ok:Bool} (hm:P.underlying xt=some (.map kt et)) (hk:P.underlying kt=some d) (hb:w.heap[b]? = some (.map es ck)) (hkey:IsKey d k) (hf:Instr.findNow d k es.toList 0=some r) (hz:r=none->(zeroValue et).run P w=.ok z w) :
 (Instr.lookup xt (.map (some b)) k ok).run P w=.ok (match r with | some (_,v)=>(if ok then .tuple #[v,.bool true] else v) | none=>(if ok then .tuple #[z,.bool false] else z)) w:=by
 cases r with
 | none=>simp [Instr.lookup,run_underlying hm,Go.MapKept.run_getObj_map hb,run_checkKey hk hkey,run_findKey hk hf,hz rfl,Result.andThen]
 | some r=>simp [Instr.lookup,run_underlying hm,Go.MapKept.run_getObj_map hb,run_checkKey hk hkey,run_findKey hk hf,Result.andThen]
theorem lookE_ok {P:Program} {rd:Nat->Blk} {o:Oper} {t:Nat->AV} {e:CE} (h:lookE P rd o t=some e):CE.Good P o t rd e:=by
 unfold lookE at h
 split at h
 case h_2=>cases h
 rename_i xt x idx ok hop
 split at h
 case h_2=>cases h
 rename_i d kt et kv hkd hkv
 obtain ⟨hm,hk⟩:=keyD_ok hkd
 split at h
 case h_2=>cases h
 rename_i hkis
 have hkey:=keyIs_ok hkis
 split at h
 · rename_i i hx
   split at h
   · rename_i es ck hg
     split at h
     case h_2=>cases h
     rename_i hall
     simp only [Bool.and_eq_true] at hall
     have go:∀ r,(∀ H E w b ms,Conc H E w (applyW [] (killM [] []))∨True->w.heap[b]? = some (.map ms ck)->entsM ms.toList=ents es->RelL (vals es) H E (valsM ms.toList)->∃ v,(Instr.lookup xt (.map (some b)) kv ok).run P w=.ok v w/\Rel r H E v)->CE.Good P o t rd ⟨r,[i],[],[],[]⟩:=by
      intro r hr M hM
      refine runs_stepZ fun H E w a hC hT=>?_
      have h1:=rel_ev hT x
      rw [hx] at h1
      obtain ⟨hl,b,hb,hv⟩:=h1
      have h2:=scV_ok hkv (rel_ev hT idx)
      have hB:=hC.blk i
      rw [hM i (by simp),hg] at hB
      obtain ⟨_,b',ms,g1,g2,g3,g4⟩:=hB
      rw [hb] at g1;cases g1
      obtain ⟨v,q1,q2⟩:=hr H E w b ms (.inr trivial) g2 g3 g4
      exact ⟨v,w,H,E,by simp [execOp,hop,hv,h2,q1],q2,hC,Evol.refl _ _ _ _⟩
     split at h
     · rename_i j a hf
       cases h
       refine go _ fun H E w b ms _ g2 g3 g4=>?_
       rcases find_ok hkey 0 g3 g4 hall.1 with ⟨q1,_⟩ | ⟨j',e',a',q1,q2,q3,q4,q5⟩
       · rw [hf] at q1;cases q1
       · rw [hf] at q1
         obtain ⟨_,rfl⟩:=Prod.mk.inj (Option.some.inj q1)
         exact ⟨_,run_lookup (z:=undef) hm hk g2 hkey q2 (fun h=>by cases h),tupOk_rel q5 (.inl rfl)⟩
     · rename_i hf
       split at h
       case h_2=>cases h
       rename_i z hz
       cases h
       refine go _ fun H E w b ms _ g2 g3 g4=>?_
       rcases find_ok hkey 0 g3 g4 hall.1 with ⟨_,q2⟩ | ⟨j',e',a',q1,q2,q3,q4,q5⟩
       · obtain ⟨zv,hz1,hz2⟩:=zeroAV_ok H E w hz
         exact ⟨_,run_lookup hm hk g2 hkey q2 (fun _=>hz1),tupOk_rel hz2 (.inl rfl)⟩
       · rw [hf] at q1;cases q1
   · rename_i kk vk has c hg
     split at h
     case h_2=>cases h
     rename_i k0 k1 n zk z hz
     split at h
     case h_2=>cases h
     rename_i hc
     simp only [Bool.and_eq_true,decide_eq_true_eq] at hc
     obtain ⟨⟨rfl,rfl⟩,rfl⟩:=hc
     cases h
     have:k1=k0:=hkey
     subst this
     intro M hM
     refine runs_stepZ fun H E w a hC hT=>?_
     have h1:=rel_ev hT x
     rw [hx] at h1
     obtain ⟨hl,b,hb,hv⟩:=h1
     have h2:=scV_ok hkv (rel_ev hT idx)
     have hB:=hC.blk i
     rw [hM i (by simp),hg] at hB
     obtain ⟨_,b',ms,ck,g1,g2,g3,g4⟩:=hB
     rw [hb] at g1;cases g1
     obtain ⟨zv,hz1,hz2⟩:=zeroAV_ok H E w hz
     have hz2:zv=.int zk 0:=hz2.1
     subst hz2
     have g4:=g4 n
     rcases mget_find (n:=n) 0 g3 with ⟨q1,q2⟩ | ⟨j,e',q1,q2,q3,q4,_⟩
     · rw [q1] at g4
       have hn:has n=false:=by cases hh:has n with | false=>rfl | true=>rw [hh] at g4;cases g4
       refine ⟨_,w,H,E,by simp [execOp,hop,hv,h2,run_lookup hm hk g2 hkey q2 (fun _=>hz1)];rfl,?_,hC,Evol.refl _ _ _ _⟩
       rw [hn]
       exact tupOk_rel (v:=.int zk 0) ⟨rfl,rfl⟩ (.inr rfl)
     · rw [q1] at g4
       have hn:has n=true:=by cases hh:has n with | true=>rfl | false=>rw [hh] at g4;cases g4
       rw [hn] at g4
       have g4:=Option.some.inj g4
       refine ⟨_,w,H,E,by simp [execOp,hop,hv,h2,run_lookup (z:=undef) hm hk g2 hkey q2 (fun h=>by cases h)];rfl,?_,hC,Evol.refl _ _ _ _⟩
       rw [hn,g4]
       exact tupOk_rel (v:=.int zk (c n)) ⟨rfl,rfl⟩ (.inr rfl)
   · cases h
 · rename_i hx
   split at h
   case h_2=>cases h
   rename_i z hz
   cases h
   intro M hM
   refine runs_stepZ fun H E w a hC hT=>?_
   have h1:=rel_ev hT x
   rw [hx] at h1
   have hv:a.eval x=.map none:=h1.1
   have h2:=scV_ok hkv (rel_ev hT idx)
   obtain ⟨zv,hz1,hz2⟩:=zeroAV_ok H E w hz
   refine ⟨if ok then .tuple #[zv,.bool false] else zv,w,H,E,?_,tupOk_rel hz2 (.inl rfl),hC,Evol.refl _ _ _ _⟩
   have hf:Instr.findNow d kv [] 0=some none:=rfl
   simp [execOp,hop,hv,h2,Instr.lookup,run_underlying hm,run_checkKey hk hkey,run_findKey hk hf,hz1,Result.andThen]
 · cases h
def updHas (has:Int->Bool) (n:Int):Int->Bool:=fun y=>decide (n=y)||has y
def updC (c:Int->Int) (n u:Int):Int->Int:=fun y=>match decide (n=y) with | true=>u | false=>c y
def updGo (P:Program) (rd:Nat->Blk) (mt:TypeId) (m k v:AV):Option CE:=match keyD P mt,scV k with
 | some (d,_,_),some kv=>(match keyIs d kv with
   | true=>(match m with
     | .mref i=>(match rd i with
       | .mp es ck=>(match allKeys d es&&isS k with
         | true=>some ⟨.junk,[i],[(i,match mfindE kv es 0 with | some (j,_)=>.mp (setEs es j v) ck | none=>.mp (es++[(kv,v,ck)]) (ck+1))],[],[]⟩
         | false=>none)
       | .mi kk vk has c=>(match d,kv,scV v with
         | .int k0,.int _ n,some (.int vk' u)=>(match decide (k0=kk)&&decide (vk'=vk) with
           | true=>some ⟨.junk,[i],[(i,.mi kk vk (updHas has n) (updC c n u))],[],[]⟩
           | false=>none)
         | _,_,_=>none)
       | _=>none)
     | _=>none)
   | false=>none)
 | _,_=>none
def updE (P:Program) (rd:Nat->Blk) (o:Oper) (t:Nat->AV):Option CE :=
 match o.op with
 | .mapUpdate mt m k v=>updGo P rd mt (ev t m) (ev t k) (ev t v)
 | .insert mt m k v=>updGo P rd mt (ev t m) (ev t k) (ev t v)
 | _=>none
def World.setO (w:World) (b:Nat) (o:Obj):World:={ w with heap:=w.heap.setIfInBounds b o }
theorem upd_setO {w:World} {b:Nat} {o o':Obj} (hb:w.heap[b]? = some o):Upd w (World.setO w b o') b o' :=
 ⟨rfl,rfl,rfl,by simp [World.setO],(heap_set hb).1,fun k hk=>(heap_set hb).2 k hk⟩
section
variable {P:Program} {w:World} {mt kt et:TypeId} {d:TypeDesc} {b:Nat} {es:Array MapEntry} {ck:Nat} {k v:Value}
theorem run_update_new (hm:P.underlying mt=some (.map kt et)) (hk:P.underlying kt=some d) (hb:w.heap[b]? = some (.map es ck)) (hkey:IsKey d k) (hf:Instr.findNow d k es.toList 0=some none) :
 (Instr.mapUpdate mt (.map (some b)) k v).run P w=.ok () (World.setO w b (.map (es.push ⟨k,v,ck⟩) (ck+1))):=by
 simp [Instr.mapUpdate,run_underlying hm,Go.MapKept.run_getObj_map hb,run_checkKey hk hkey,run_findKey hk hf,Go.MapKept.run_setObj_map _ hb,Result.andThen,World.setO]
theorem run_update_old {j:Nat} {e:MapEntry} (hm:P.underlying mt=some (.map kt et)) (hk:P.underlying kt=some d) (hb:w.heap[b]? = some (.map es ck)) (hkey:IsKey d k) (hf:Instr.findNow d k es.toList 0=some (some (j,e.val))) (hj:es.toList[j]? = some e) (hke:e.key=k) :
 (Instr.mapUpdate mt (.map (some b)) k v).run P w=.ok () (World.setO w b (.map (es.modify j fun e=>{ e with key:=k,val:=v }) ck)):=by
 have hj:es[j]? = some e:=by simpa using hj
 simp [Instr.mapUpdate,run_underlying hm,Go.MapKept.run_getObj_map hb,run_checkKey hk hkey,run_findKey hk hf,hj,hke,run_keyThatStays hkey,Go.MapKept.run_setObj_map _ hb,Result.andThen,World.setO]
end
theorem modify_ok {k v:Value} {a:AV} {H:HH} {E:Env} (hv:Rel a H E v):∀ {es:List (Value×AV×Nat)} {l:List MapEntry} {j:Nat} {e:MapEntry},entsM l=ents es->RelL (vals es) H E (valsM l)->l[j]? = some e->e.key=k ->
 entsM (l.modify j fun e=>{ e with key:=k,val:=v })=ents (setEs es j a)/\RelL (vals (setEs es j a)) H E (valsM (l.modify j fun e=>{ e with key:=k,val:=v }))
 | [],l,j,e,h,_,hj,_=>by
   have:l=[]:=by simpa using h
   subst this;simp at hj
 | x::r,l,j,e,h,hr,hj,hk=>by
   cases l with
   | nil=>simp at h
   | cons y l =>
     simp only [entsM,ents,List.map_cons,List.cons.injEq,Prod.mk.injEq] at h
     obtain ⟨u,q,hu,h1,h2⟩:=hr
     simp only [valsM,List.map_cons,List.cons.injEq] at hu
     obtain ⟨rfl,rfl⟩:=hu
     cases j with
     | zero =>
       simp at hj
       subst hj
       have h1e:x.1=k:=by rw [<- h.1.1];exact hk
       refine ⟨?_,?_⟩
       · simp only [List.modify_zero_cons,entsM,ents,setEs,List.map_cons,h1e,h.1.2]
         have:=h.2
         rw [this]
       · simp only [List.modify_zero_cons,valsM,vals,setEs,List.map_cons]
         exact ⟨v,_,rfl,hv,h2⟩
     | succ j =>
       simp only [List.getElem?_cons_succ] at hj
       obtain ⟨g1,g2⟩:=modify_ok hv h.2 h2 hj hk
       refine ⟨?_,?_⟩
       · simp only [List.modify_succ_cons,entsM,ents,setEs,List.map_cons,h.1.1,h.1.2]
         have:entsM _=_:=g1
         simp only [entsM,ents] at this
         rw [this]
       · simp only [List.modify_succ_cons,valsM,vals,setEs,List.map_cons]
         exact ⟨_,_,rfl,h1,g2⟩
theorem mget_push {n:Int} {kk:IntKind} {v:Value} {ck:Nat}:∀ {l:List MapEntry} (_:∀ e∈l,∃ x,e.key=.int kk x) (_:mgetI n l=none) (y:Int),mgetI y (l++[⟨.int kk n,v,ck⟩])=if n=y then some v else mgetI y l
 | [],_,_,y=>by
   by_cases hy:n=y
   · subst hy;simp [mgetI]
   · have:¬ y=n:=fun q=>hy q.symm
     simp [mgetI,hy,this]
 | e::r,h,hn,y=>by
   obtain ⟨x,hx⟩:=h e (.head _)
   simp only [mgetI,hx] at hn
   by_cases hnx:n=x
   · rw [if_pos hnx] at hn;cases hn
   · rw [if_neg hnx] at hn
     have:=mget_push (v:=v) (ck:=ck) (fun y hy=>h y (.tail _ hy)) hn y
     simp only [List.cons_append,mgetI,hx,this]
     by_cases hy:y=x
     · subst hy;simp [hnx]
     · simp [hy]
theorem updGo_ok {P:Program} {rd:Nat->Blk} {o:Oper} {t:Nat->AV} {mt:TypeId} {m k v:Operand} {e:CE} (hop:o.op=.mapUpdate mt m k v∨o.op=.insert mt m k v) (h:updGo P rd mt (ev t m) (ev t k) (ev t v)=some e):CE.Good P o t rd e:=by
 unfold updGo at h
 split at h
 case h_2=>cases h
 rename_i d kt et kv hkd hkv
 obtain ⟨hm,hk⟩:=keyD_ok hkd
 split at h
 case h_2=>cases h
 rename_i hkis
 have hkey:=keyIs_ok hkis
 split at h
 case h_2=>cases h
 rename_i i hx
 have hexec:∀ (a:Act) (w w':World),(Instr.mapUpdate mt (a.eval m) (a.eval k) (a.eval v)).run P w=.ok () w'->(execOp a.eval o).run P w=.ok .skip w':=fun a w w' hr=>by
  rcases hop with hop | hop<;>simp [execOp,hop,hr]
 split at h
 · rename_i es ck hg
   split at h
   case h_2=>cases h
   rename_i hall
   simp only [Bool.and_eq_true] at hall
   cases h
   intro M hM
   refine runs_stepY fun H E w a hC hT=>?_
   have h1:=rel_ev hT m
   rw [hx] at h1
   obtain ⟨hl,b,hb,hv⟩:=h1
   have h2:=scV_ok hkv (rel_ev hT k)
   have h3:=rel_ev hT v
   have hB:=hC.blk i
   rw [hM i (by simp),hg] at hB
   obtain ⟨_,b',ms,g1,g2,g3,g4⟩:=hB
   rw [hb] at g1;cases g1
   rcases find_ok hkey 0 g3 g4 hall.1 with ⟨q1,q2⟩ | ⟨j,e',a',q1,q2,q3,q4,q5⟩
   · have hrun:=run_update_new (v:=a.eval v) hm hk g2 hkey q2
     have hBk:BlkOk H E (World.setO w b (.map (ms.push ⟨kv,a.eval v,ck⟩) (ck+1))) i (.mp (es++[(kv,ev t v,ck)]) (ck+1)):=by
      refine ⟨hl,b,ms.push ⟨kv,a.eval v,ck⟩,hb,(heap_set g2).1,?_,?_⟩
      · rw [Array.toList_push,List.map_append,List.map_append,g3];rfl
      · have:=relL_append g4 (show RelL [ev t v] H E [a.eval v] from ⟨_,_,rfl,h3,rfl⟩)
        simpa using this
     obtain ⟨hc,hev⟩:=hC.upd hl hb (upd_setO g2) hBk
     refine ⟨_,undef,_,H,E,hexec a w _ (by rw [hv,h2];exact hrun),.inr ⟨rfl,rfl⟩,trivial,?_,hev⟩
     simp only [killM,applyW]
     rw [q1]
     exact hc
   · have hrun:=run_update_old (v:=a.eval v) hm hk g2 hkey (by simpa using q2) q3 q4
     simp only [Nat.zero_add] at q1
     obtain ⟨m1,m2⟩:=modify_ok h3 g3 g4 q3 q4
     obtain ⟨hc,hev⟩:=hC.upd hl hb (upd_setO g2) (B:=.mp (setEs es j (ev t v)) ck) ⟨hl,b,_,hb,(heap_set g2).1,(by rw [Array.toList_modify];exact m1),(by rw [Array.toList_modify];exact m2)⟩
     refine ⟨_,undef,_,H,E,hexec a w _ (by rw [hv,h2];exact hrun),.inr ⟨rfl,rfl⟩,trivial,?_,hev⟩
     simp only [killM,applyW]
     rw [q1]
     exact hc
 · rename_i kk vk has c hg
   split at h
   case h_2=>cases h
   rename_i k0 k1 n vk' u hu
   split at h
   case h_2=>cases h
   rename_i hc
   simp only [Bool.and_eq_true,decide_eq_true_eq] at hc
   obtain ⟨rfl,rfl⟩:=hc
   cases h
   have:k1=k0:=hkey
   subst this
   intro M hM
   refine runs_stepY fun H E w a hC hT=>?_
   have h1:=rel_ev hT m
   rw [hx] at h1
   obtain ⟨hl,b,hb,hv⟩:=h1
   have h2:=scV_ok hkv (rel_ev hT k)
   have h3:=scV_ok hu (rel_ev hT v)
   have hB:=hC.blk i
   rw [hM i (by simp),hg] at hB
   obtain ⟨_,b',ms,ck,g1,g2,g3,g4⟩:=hB
   rw [hb] at g1;cases g1
   have hg4:∀ y,(if n=y then some (Value.int vk' u) else mgetI y ms.toList)=(match updHas has n y with | true=>some (.int vk' (updC c n u y)) | false=>none):=by
    intro y
    by_cases hy:n=y
    · simp [updHas,updC,hy]
    · rw [if_neg hy,g4 y]
      have h1:updHas has n y=has y:=by simp [updHas,hy]
      have h2:updC c n u y=c y:=by simp [updC,hy]
      rw [h1,h2]
      rfl
   rcases mget_find (n:=n) 0 g3 with ⟨q1,q2⟩ | ⟨j,e',q1,q2,q3,q4,q5⟩
   · have hrun:=run_update_new (v:=.int vk' u) hm hk g2 hkey q2
     have hBk:BlkOk H E (World.setO w b (.map (ms.push ⟨.int k1 n,.int vk' u,ck⟩) (ck+1))) i (.mi k1 vk' (updHas has n) (updC c n u)):=by
      refine ⟨hl,b,ms.push ⟨.int k1 n,.int vk' u,ck⟩,ck+1,hb,(heap_set g2).1,fun e he=>?_,fun y=>?_⟩
      · rw [Array.toList_push,List.mem_append] at he
        rcases he with he | he
        · exact g3 e he
        · simp at he;subst he;exact ⟨n,rfl⟩
      · rw [Array.toList_push];exact (mget_push g3 q1 y).trans (hg4 y)
     obtain ⟨hc,hev⟩:=hC.upd hl hb (upd_setO g2) hBk
     exact ⟨_,undef,_,H,E,hexec a w _ (by rw [hv,h2,h3];exact hrun),.inr ⟨rfl,rfl⟩,trivial,hc,hev⟩
   · have hrun:=run_update_old (v:=.int vk' u) hm hk g2 hkey (by simpa using q2) q3 q4
     have q3':ms[j]? = some e':=by simpa using q3
     have hBk:BlkOk H E (World.setO w b (.map (ms.modify j fun e=>{ e with key:=.int k1 n,val:=.int vk' u }) ck)) i (.mi k1 vk' (updHas has n) (updC c n u)):=by
      refine ⟨hl,b,ms.modify j fun e=>{ e with key:=.int k1 n,val:=.int vk' u },ck,hb,(heap_set g2).1,fun e he=>?_,fun y=>?_⟩
      · exact isK.1 (Go.MapKept.isKey_modify (d:=.int k1) (fun x hx=>isK.2 (g3 x hx)) j _ (fun e'' he''=>by rw [q3'] at he'';cases he'';exact q4.symm) e he)
      · rw [Array.toList_modify];exact (q5 _ y).trans (hg4 y)
     obtain ⟨hc,hev⟩:=hC.upd hl hb (upd_setO g2) hBk
     exact ⟨_,undef,_,H,E,hexec a w _ (by rw [hv,h2,h3];exact hrun),.inr ⟨rfl,rfl⟩,trivial,hc,hev⟩
 · cases h
theorem updE_ok {P:Program} {rd:Nat->Blk} {o:Oper} {t:Nat->AV} {e:CE} (h:updE P rd o t=some e):CE.Good P o t rd e:=by
 unfold updE at h
 split at h
 · rename_i mt m k v hop;exact updGo_ok (.inl hop) h
 · rename_i mt m k v hop;exact updGo_ok (.inr hop) h
 · cases h
def mkM (P:Program) (rd:Nat->Blk) (nid:Nat) (o:Oper) (t:Nat->AV):Option CE :=
 match o.op with
 | .makeMap _ none=>some ⟨.mref nid,[nid],[(nid,.mp [] 0)],[],[]⟩
 | .makeMap ty (some r)=>(match P.underlying ty,scV (ev t r) with
   | some (.map _ _),some (.int _ _)=>some ⟨.mref nid,[nid],[(nid,.mp [] 0)],[],[]⟩
   | _,_=>none)
 | _=>none
theorem mkM_ok {P:Program} {rd:Nat->Blk} {nid:Nat} {o:Oper} {t:Nat->AV} {e:CE} (hd:∀ k,nid<=k->rd k=.dead) (h:mkM P rd nid o t=some e):CE.Good P o t rd e:=by
 have go:(∀ H E w a,RelT t H E a->(execOp a.eval o).run P w=.ok (.value (.map (some w.heap.size))) (w.alloc (.map #[] 0)))->CE.Good P o t rd ⟨.mref nid,[nid],[(nid,.mp [] 0)],[],[]⟩:=by
  intro hrun M hM
  refine runs_stepZ fun H E w a hC hT=>?_
  have hdn:getM M nid=.dead:=(hM nid (by simp)).trans (hd nid (Nat.le_refl _))
  obtain ⟨s1,s2,_⟩:=E.set_same nid (some w.heap.size) 0 0
  obtain ⟨hc,hev⟩:=hC.new (w':=w.alloc (.map #[] 0)) (i:=nid) (κ:=0) (η:=0) (bo:=some w.heap.size) (B:=.mp [] 0) hdn rfl rfl rfl (by simp) (fun b hb=>Go.RowKit.Below.heap_alloc w _ b hb) (fun b hb=>by cases hb;exact Nat.le_refl _)
   ⟨s1,w.heap.size,#[],s2,heap_alloc_new w _,rfl,rfl⟩
  exact ⟨_,_,H,_,hrun H E w a hT,⟨s1,_,s2,rfl⟩,hc,hev⟩
 unfold mkM at h
 split at h
 · rename_i ty hop
   cases h
   exact go fun H E w a _=>by simp [execOp,hop,Instr.makeMap,Result.andThen]
 · rename_i ty r hop
   split at h
   case h_2=>cases h
   rename_i kt et ik n hu hr
   cases h
   refine go fun H E w a hT=>?_
   have h2:=scV_ok hr (rel_ev hT r)
   simp [execOp,hop,Instr.makeMap,run_underlying hu,h2,asInt,asIntOf,Result.andThen]
 · cases h
def lenM (P:Program) (rd:Nat->Blk) (o:Oper) (t:Nat->AV):Option CE :=
 match o.op with
 | .call { callee:=.builtin .len,args,argTypes }=>(match args.toList,argTypes.toList with
   | [x],[ty]=>(match P.underlying ty,ev t x with
     | some (.map _ _),.mref i=>(match rd i with
       | .mp es _=>some ⟨.s (.int .i64 (len es:Nat)),[i],[],[],[]⟩
       | _=>none)
     | some (.map _ _),.s (.map none)=>some ⟨.s (.int .i64 0),[],[],[],[]⟩
     | _,_=>none)
   | _,_=>none)
 | _=>none
theorem lenM_ok {P:Program} {rd:Nat->Blk} {o:Oper} {t:Nat->AV} {e:CE} (h:lenM P rd o t=some e):CE.Good P o t rd e:=by
 unfold lenM at h
 split at h
 case h_2=>cases h
 rename_i args ats hop
 split at h
 case h_2=>cases h
 rename_i x ty hx hty
 have h1:args=#[x]:=Array.ext' hx
 have h2:ats=#[ty]:=Array.ext' hty
 subst h1;subst h2
 split at h
 · rename_i kt et i hu he
   split at h
   case h_2=>cases h
   rename_i es ck hg
   cases h
   intro M hM
   refine runs_stepZ fun H E w a hC hT=>?_
   have h1:=rel_ev hT x
   rw [he] at h1
   obtain ⟨hl,b,hb,hv⟩:=h1
   have hB:=hC.blk i
   rw [hM i (by simp),hg] at hB
   obtain ⟨_,b',ms,g1,g2,g3,g4⟩:=hB
   rw [hb] at g1;cases g1
   have hlen:ms.size=len es:=by
    have:=congrArg List.length g3
    simpa [len_eq] using this
   refine ⟨_,w,H,E,?_,⟨rfl,rfl⟩,hC,Evol.refl _ _ _ _⟩
   simp [execOp,hop,resolve,invoke,builtin,hv,Builtin.len_,run_underlying hu,Go.MapKept.run_getObj_map g2,goInt,hlen,Result.andThen]
 · rename_i kt et hu he
   cases h
   intro M hM
   refine runs_stepZ fun H E w a hC hT=>?_
   have h1:=rel_ev hT x
   rw [he] at h1
   have hv:a.eval x=.map none:=h1.1
   refine ⟨_,w,H,E,?_,⟨rfl,rfl⟩,hC,Evol.refl _ _ _ _⟩
   simp [execOp,hop,resolve,invoke,builtin,hv,Builtin.len_,run_underlying hu,goInt,Result.andThen]
 · cases h
end Go.Ax
