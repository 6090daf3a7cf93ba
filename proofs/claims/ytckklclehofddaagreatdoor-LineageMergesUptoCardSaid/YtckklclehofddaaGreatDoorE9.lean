import Derived.MapKept
import Derived.Laws.CopyRow
import Derived.Lib.AppendStr
import Derived.Lib.ConvBytes
import Derived.Stop.Asserts
import Derived.Laws.Externs
import Derived.Test.YtckklclehofddaaGreatDoorE7
import Derived.Test.YtckklclehofddaaGreatDoorE8
set_option linter.unusedVariables false
set_option linter.unusedSimpArgs false
set_option linter.unusedSectionVars false
namespace Go.Ax
open Go
variable [Inhabited Gl0]
open Go.MapKept (IsKey findNow_spec run_checkKey run_findKey run_keyThatStays heap_set sameNow_of_keys)
theorem runs_stepY {P:Program} {o:Oper} {t:Nat->AV} {M:List Blk} {e:CE}
 (h:∀ H E w a,Conc H E w M->RelT t H E a->∃ n v w' H' E',(execOp a.eval o).run P w=.ok n w'/\(n=.value v∨(n=.skip/\v=undef))/\Rel e.r H' E' v/\Conc H' E' w' (applyW e.wr (killM e.kl M))/\Evol e.kl H E w H' E' w'):StepT P o t M e:=by
 intro H E w a K Q hC hT hd hk
 obtain ⟨n,v,w',H',E',hv,hn,h1,h2,h3⟩:=h H E w a hC hT
 unfold Oper.wp
 rw [hv]
 rcases hn with rfl | ⟨rfl,rfl⟩<;>exact hk _ w' H' E' h1 h2 h3
def keyD (P:Program) (t:TypeId):Option (TypeDesc×TypeId×TypeId):=match P.underlying t with
 | some (.map k e)=>(match P.underlying k with
   | some (.int q)=>some (.int q,k,e)
   | some .string=>some (.string,k,e)
   | some .bool=>some (.bool,k,e)
   | _=>none)
 | _=>none
theorem keyD_ok {P:Program} {t:TypeId} {d:TypeDesc} {k e:TypeId} (h:keyD P t=some (d,k,e)):P.underlying t=some (.map k e)/\P.underlying k=some d:=by
 unfold keyD at h
 split at h
 case h_2=>cases h
 rename_i k' e' hu
 split at h<;>(try (cases h;done))<;>(rename_i hk;cases h;exact ⟨hu,hk⟩)
def keyIs:TypeDesc->Value->Bool
 | .int k,.int k' _=>decide (k'=k)
 | .string,.string _=>true
 | .bool,.bool _=>true
 | _,_=>false
theorem keyIs_ok {d:TypeDesc} {v:Value} (h:keyIs d v=true):IsKey d v:=by
 unfold keyIs at h
 split at h
 · exact (of_decide_eq_true h:_=_)
 · trivial
 · trivial
 · cases h
def keyB:Value->Value->Bool
 | .int _ a,.int _ b=>decide (a=b)
 | .string a,.string b=>a.data.toList==b.data.toList
 | .bool a,.bool b=>a==b
 | _,_=>false
theorem keyB_iff {d:TypeDesc} {a b:Value} (ha:IsKey d a) (hb:IsKey d b):keyB a b=true↔a=b:=by
 cases d<;>cases a<;>cases b<;>simp_all [IsKey,keyB]
 rename_i x y
 obtain ⟨⟨x⟩⟩:=x
 obtain ⟨⟨y⟩⟩:=y
 simp
def mfindE (k:Value):List (Value×AV×Nat)->Nat->Option (Nat×AV)
 | [],_=>none
 | e::r,i=>match keyB k e.1 with | true=>some (i,e.2.1) | false=>mfindE k r (i+1)
def allKeys (d:TypeDesc):List (Value×AV×Nat)->Bool
 | []=>true
 | e::r=>keyIs d e.1&&allKeys d r
def setEs:List (Value×AV×Nat)->Nat->AV->List (Value×AV×Nat)
 | [],_,_=>[]
 | e::r,0,a=>(e.1,a,e.2.2)::r
 | e::r,i+1,a=>e::setEs r i a
abbrev ents (es:List (Value×AV×Nat)):List (Value×Nat):=es.map fun e=>(e.1,e.2.2)
abbrev vals (es:List (Value×AV×Nat)):List AV:=es.map fun e=>e.2.1
abbrev entsM (l:List MapEntry):List (Value×Nat):=l.map fun e=>(e.key,e.born)
abbrev valsM (l:List MapEntry):List Value:=l.map fun e=>e.val
theorem find_ok {d:TypeDesc} {k:Value} {H:HH} {E:Env} (hk:IsKey d k):∀ {es:List (Value×AV×Nat)} {l:List MapEntry} (i:Nat),entsM l=ents es->RelL (vals es) H E (valsM l)->allKeys d es=true ->
 (mfindE k es i=none/\Instr.findNow d k l i=some none)∨∃ j e a,mfindE k es i=some (i+j,a)/\Instr.findNow d k l i=some (some (i+j,e.val))/\l[j]? = some e/\e.key=k/\Rel a H E e.val
 | [],l,i,h,_,_=>by
   have:l=[]:=by simpa using h
   subst this
   exact .inl ⟨rfl,rfl⟩
 | e::r,l,i,h,hr,ha=>by
   cases l with
   | nil=>simp at h
   | cons y l =>
     simp only [entsM,ents,List.map_cons,List.cons.injEq,Prod.mk.injEq] at h
     simp only [allKeys,Bool.and_eq_true] at ha
     obtain ⟨v,q,hv,h1,h2⟩:=hr
     simp only [valsM,List.map_cons,List.cons.injEq] at hv
     obtain ⟨rfl,rfl⟩:=hv
     have hyk:IsKey d y.key:=by rw [h.1.1];exact keyIs_ok ha.1
     obtain ⟨b,hb,hiff⟩:=sameNow_of_keys hk hyk
     cases b with
     | true =>
       have hke:k=y.key:=hiff.1 rfl
       refine .inr ⟨0,y,e.2.1,?_,by simp [Instr.findNow,hb],rfl,hke.symm,h1⟩
       have:keyB k e.1=true:=by rw [<- h.1.1];exact (keyB_iff hk hyk).2 hke
       simp [mfindE,this]
     | false =>
       have hke:k≠y.key:=fun q=>by have:=hiff.2 q;cases this
       have hkb:keyB k e.1=false:=by
        rw [<- h.1.1]
        cases hq:keyB k y.key with
        | false=>rfl
        | true=>exact absurd ((keyB_iff hk hyk).1 hq) hke
       rcases find_ok hk (i+1) h.2 h2 ha.2 with ⟨g1,g2⟩ | ⟨j,e',a,g1,g2,g3,g4,g5⟩
       · exact .inl ⟨by simp [mfindE,hkb,g1],by simp [Instr.findNow,hb,g2]⟩
       · exact .inr ⟨j+1,e',a,by simp [mfindE,hkb,g1];omega,by simp [Instr.findNow,hb,g2];omega,by simpa using g3,g4,g5⟩
def tupOk (ok:Bool) (a b:AV):AV:=match ok with | true=>.tup [a,b] | false=>a
theorem tupOk_rel {ok:Bool} {a:AV} {b:Bool} {H:HH} {E:Env} {v:Value} {x:AV} (h:Rel a H E v) (hx:x=.s (.bool b)∨x=.y (.bool b)):Rel (tupOk ok a x) H E (if ok then .tuple #[v,.bool b] else v):=by
 cases ok with
 | true=>exact ⟨#[v,.bool b],rfl,v,[.bool b],rfl,h,.bool b,[],rfl,(by rcases hx with rfl | rfl<;>exact ⟨rfl,rfl⟩),rfl⟩
 | false=>exact h
def zeroAV (P:Program) (t:TypeId):Option AV:=match P.info? t with | some i=>(match i.zero with | some z=>some (toAV z) | none=>none) | none=>none
theorem zeroAV_ok {P:Program} {t:TypeId} {a:AV} (H:HH) (E:Env) (w:World) (h:zeroAV P t=some a):∃ z,(zeroValue t).run P w=.ok z w/\Rel a H E z:=by
 unfold zeroAV at h
 split at h
 case h_2=>cases h
 rename_i i hi
 split at h
 case h_2=>cases h
 rename_i z hz
 cases h
 refine ⟨z,?_,rel_toAV z H E⟩
 have:(typeInfo t).run P w=.ok i w:=by simp [typeInfo,hi,Result.andThen]
 simp [zeroValue,this,hz,Result.andThen]
def selI (b:Bool) (v:Int):Int:=match b with | true=>v | false=>0
def lookE (P:Program) (rd:Nat->Blk) (o:Oper) (t:Nat->AV):Option CE :=
 match o.op with
 | .lookup xt x idx ok=>(match keyD P xt,scV (ev t idx) with
   | some (d,_,et),some kv=>(match keyIs d kv with
     | true=>(match ev t x with
       | .mref i=>(match rd i with
         | .mp es _=>(match allKeys d es&&isS (ev t idx) with
           | true=>(match mfindE kv es 0 with
             | some (_,a)=>some ⟨tupOk ok a (.s (.bool true)),[i],[],[],[]⟩
             | none=>(match zeroAV P et with | some z=>some ⟨tupOk ok z (.s (.bool false)),[i],[],[],[]⟩ | none=>none))
           | false=>none)
         | .mi kk vk has c=>(match d,kv,zeroAV P et with
           | .int k0,.int _ n,some (.s (.int zk z))=>(match decide (k0=kk)&&decide (zk=vk)&&decide (z=0) with
             | true=>some ⟨tupOk ok (.y (.int vk (selI (has n) (c n)))) (.y (.bool (has n))),[i],[],[],[]⟩
             | false=>none)
           | _,_,_=>none)
         | _=>none)
       | .s (.map none)=>(match zeroAV P et with | some z=>some ⟨tupOk ok z (.s (.bool false)),[],[],[],[]⟩ | none=>none)
       | _=>none)
     | false=>none)
   | _,_=>none)
 | _=>none
theorem isK {kk:IntKind} {v:Value}:IsKey (.int kk) v↔∃ x,v=.int kk x:=by
 constructor
 · intro h
   cases v<;>simp [IsKey] at h
   subst h
   exact ⟨_,rfl⟩
 · rintro ⟨x,rfl⟩
   rfl
theorem mget_find {kk:IntKind} {n:Int}:∀ {l:List MapEntry} (i:Nat),(∀ e∈l,∃ x,e.key=.int kk x) ->
 (mgetI n l=none/\Instr.findNow (.int kk) (.int kk n) l i=some none)∨∃ j e,mgetI n l=some e.val/\Instr.findNow (.int kk) (.int kk n) l i=some (some (i+j,e.val))/\l[j]? = some e/\e.key=.int kk n /\
   ∀ v y,mgetI y (l.modify j fun e=>{ e with key:=.int kk n,val:=v })=if n=y then some v else mgetI y l
 | [],_,_=>.inl ⟨rfl,rfl⟩
 | e::r,i,h=>by
   obtain ⟨x,hx⟩:=h e (.head _)
   by_cases hn:n=x
   · subst hn
     refine .inr ⟨0,e,by simp [mgetI,hx],by simp [Instr.findNow,hx,Instr.sameNow],rfl,hx,fun v y=>?_⟩
     by_cases hy:y=n
     · subst hy;simp [mgetI]
     · have hy2:¬ n=y:=fun q=>hy q.symm
       simp [mgetI,hx,hy,hy2]
   · have hb:(n==x)=false:=by simpa using hn
     rcases mget_find (n:=n) (i+1) (fun y hy=>h y (.tail _ hy)) with ⟨h1,h2⟩ | ⟨j,e',h1,h2,h3,h4,h5⟩
     · exact .inl ⟨by simp [mgetI,hx,hn,h1],by simp [Instr.findNow,hx,Instr.sameNow,hb,h2]⟩
     · refine .inr ⟨j+1,e',by simp [mgetI,hx,hn,h1],by simp [Instr.findNow,hx,Instr.sameNow,hb,h2];omega,by simpa using h3,h4,fun v y=>?_⟩
       simp only [List.modify_succ_cons,mgetI,hx,h5 v y]
       by_cases hy:y=x
       · subst hy;simp [hn]
       · simp [hy]
theorem run_lookup {P:Program} {w:World} {xt kt et:TypeId} {d:TypeDesc} {b:Nat} {es:Array MapEntry} {ck:Nat} {k z:Value} {r:Option (Nat×Value)} {ok:Bool} (hm:P.underlying xt=some (.map kt et)) (hk:P.underlying kt=some d) (hb:w.heap[b]? = some (.map es ck)) (hkey:IsKey d k) (hf:Instr.findNow d k es.toList 0=some r) (hz:r=none->(zeroValue et).run P w=.ok z w) :
 (Instr.lookup xt (.map (some b)) k ok).run P w=.ok (match r with | some (_,v)=>(if ok then .tuple #[v,.bool true] else v) | none=>(if ok then .tuple #[z,.bool false] else z)) w:=by
 cases r with
 | none=>simp [Instr.lookup,run_underlying hm,Go.MapKept.run_getObj_map hb,run_checkKey hk hkey,run_findKey hk hf,hz rfl,Result.andThen]
 | some r=>simp [Instr.lookup,run_underlying hm,Go.MapKept.run_getObj_map hb,run_checkKey hk hkey,run_findKey hk hf,Result.andThen]
theorem lookE_ok {P:Program} {rd:Nat->Blk} {o:Oper} {t:Nat->AV} {e:CE} (h:lookE P rd o t=some e):CE.Good P o t rd e:=by
 unfold lookE at h
 split at h
 case h_2=>cases h
 rename_i xt x idx ok hop
 split at h
 case h_2=>cases h
 rename_i d kt et kv hkd hkv
 obtain ⟨hm,hk⟩:=keyD_ok hkd
 split at h
 case h_2=>cases h
 rename_i hkis
 have hkey:=keyIs_ok hkis
 split at h
 · rename_i i hx
   split at h
   · rename_i es ck hg
     split at h
     case h_2=>cases h
     rename_i hall
     simp only [Bool.and_eq_true] at hall
     have go:∀ r,(∀ H E w b ms,Conc H E w (applyW [] (killM [] []))∨True->w.heap[b]? = some (.map ms ck)->entsM ms.toList=ents es->RelL (vals es) H E (valsM ms.toList)->∃ v,(Instr.lookup xt (.map (some b)) kv ok).run P w=.ok v w/\Rel r H E v)->CE.Good P o t rd ⟨r,[i],[],[],[]⟩:=by
      intro r hr M hM
      refine runs_stepZ fun H E w a hC hT=>?_
      have h1:=rel_ev hT x
      rw [hx] at h1
      obtain ⟨hl,b,hb,hv⟩:=h1
      have h2:=scV_ok hkv (rel_ev hT idx)
      have hB:=hC.blk i
      rw [hM i (by simp),hg] at hB
      obtain ⟨_,b',ms,g1,g2,g3,g4⟩:=hB
      rw [hb] at g1;cases g1
      obtain ⟨v,q1,q2⟩:=hr H E w b ms (.inr trivial) g2 g3 g4
      exact ⟨v,w,H,E,by simp [execOp,hop,hv,h2,q1],q2,hC,Evol.refl _ _ _ _⟩
     split at h
     · rename_i j a hf
       cases h
       refine go _ fun H E w b ms _ g2 g3 g4=>?_
       rcases find_ok hkey 0 g3 g4 hall.1 with ⟨q1,_⟩ | ⟨j',e',a',q1,q2,q3,q4,q5⟩
       · rw [hf] at q1;cases q1
       · rw [hf] at q1
         obtain ⟨_,rfl⟩:=Prod.mk.inj (Option.some.inj q1)
         exact ⟨_,run_lookup (z:=undef) hm hk g2 hkey q2 (fun h=>by cases h),tupOk_rel q5 (.inl rfl)⟩
     · rename_i hf
       split at h
       case h_2=>cases h
       rename_i z hz
       cases h
       refine go _ fun H E w b ms _ g2 g3 g4=>?_
       rcases find_ok hkey 0 g3 g4 hall.1 with ⟨_,q2⟩ | ⟨j',e',a',q1,q2,q3,q4,q5⟩
       · obtain ⟨zv,hz1,hz2⟩:=zeroAV_ok H E w hz
         exact ⟨_,run_lookup hm hk g2 hkey q2 (fun _=>hz1),tupOk_rel hz2 (.inl rfl)⟩
       · rw [hf] at q1;cases q1
   · rename_i kk vk has c hg
     split at h
     case h_2=>cases h
     rename_i k0 k1 n zk z hz
     split at h
     case h_2=>cases h
     rename_i hc
     simp only [Bool.and_eq_true,decide_eq_true_eq] at hc
     obtain ⟨⟨rfl,rfl⟩,rfl⟩:=hc
     cases h
     have:k1=k0:=hkey
     subst this
     intro M hM
     refine runs_stepZ fun H E w a hC hT=>?_
     have h1:=rel_ev hT x
     rw [hx] at h1
     obtain ⟨hl,b,hb,hv⟩:=h1
     have h2:=scV_ok hkv (rel_ev hT idx)
     have hB:=hC.blk i
     rw [hM i (by simp),hg] at hB
     obtain ⟨_,b',ms,ck,g1,g2,g3,g4⟩:=hB
     rw [hb] at g1;cases g1
     obtain ⟨zv,hz1,hz2⟩:=zeroAV_ok H E w hz
     have hz2:zv=.int zk 0:=hz2.1
     subst hz2
     have g4:=g4 n
     rcases mget_find (n:=n) 0 g3 with ⟨q1,q2⟩ | ⟨j,e',q1,q2,q3,q4,_⟩
     · rw [q1] at g4
       have hn:has n=false:=by cases hh:has n with | false=>rfl | true=>rw [hh] at g4;cases g4
       refine ⟨_,w,H,E,by simp [execOp,hop,hv,h2,run_lookup hm hk g2 hkey q2 (fun _=>hz1)];rfl,?_,hC,Evol.refl _ _ _ _⟩
       rw [hn]
       exact tupOk_rel (v:=.int zk 0) ⟨rfl,rfl⟩ (.inr rfl)
     · rw [q1] at g4
       have hn:has n=true:=by cases hh:has n with | true=>rfl | false=>rw [hh] at g4;cases g4
       rw [hn] at g4
       have g4:=Option.some.inj g4
       refine ⟨_,w,H,E,by simp [execOp,hop,hv,h2,run_lookup (z:=undef) hm hk g2 hkey q2 (fun h=>by cases h)];rfl,?_,hC,Evol.refl _ _ _ _⟩
       rw [hn,g4]
       exact tupOk_rel (v:=.int zk (c n)) ⟨rfl,rfl⟩ (.inr rfl)
   · cases h
 · rename_i hx
   split at h
   case h_2=>cases h
   rename_i z hz
   cases h
   intro M hM
   refine runs_stepZ fun H E w a hC hT=>?_
   have h1:=rel_ev hT x
   rw [hx] at h1
   have hv:a.eval x=.map none:=h1.1
   have h2:=scV_ok hkv (rel_ev hT idx)
   obtain ⟨zv,hz1,hz2⟩:=zeroAV_ok H E w hz
   refine ⟨if ok then .tuple #[zv,.bool false] else zv,w,H,E,?_,tupOk_rel hz2 (.inl rfl),hC,Evol.refl _ _ _ _⟩
   have hf:Instr.findNow d kv [] 0=some none:=rfl
   simp [execOp,hop,hv,h2,Instr.lookup,run_underlying hm,run_checkKey hk hkey,run_findKey hk hf,hz1,Result.andThen]
 · cases h
def updHas (has:Int->Bool) (n:Int):Int->Bool:=fun y=>decide (n=y)||has y
def updC (c:Int->Int) (n u:Int):Int->Int:=fun y=>match decide (n=y) with | true=>u | false=>c y
def updGo (P:Program) (rd:Nat->Blk) (mt:TypeId) (m k v:AV):Option CE:=match keyD P mt,scV k with
 | some (d,_,_),some kv=>(match keyIs d kv with
   | true=>(match m with
     | .mref i=>(match rd i with
       | .mp es ck=>(match allKeys d es&&isS k with
         | true=>some ⟨.junk,[i],[(i,match mfindE kv es 0 with | some (j,_)=>.mp (setEs es j v) ck | none=>.mp (es++[(kv,v,ck)]) (ck+1))],[],[]⟩
         | false=>none)
       | .mi kk vk has c=>(match d,kv,scV v with
         | .int k0,.int _ n,some (.int vk' u)=>(match decide (k0=kk)&&decide (vk'=vk) with
           | true=>some ⟨.junk,[i],[(i,.mi kk vk (updHas has n) (updC c n u))],[],[]⟩
           | false=>none)
         | _,_,_=>none)
       | _=>none)
     | _=>none)
   | false=>none)
 | _,_=>none
def updE (P:Program) (rd:Nat->Blk) (o:Oper) (t:Nat->AV):Option CE :=
 match o.op with
 | .mapUpdate mt m k v=>updGo P rd mt (ev t m) (ev t k) (ev t v)
 | .insert mt m k v=>updGo P rd mt (ev t m) (ev t k) (ev t v)
 | _=>none
def World.setO (w:World) (b:Nat) (o:Obj):World:={ w with heap:=w.heap.setIfInBounds b o }
theorem upd_setO {w:World} {b:Nat} {o o':Obj} (hb:w.heap[b]? = some o):Upd w (World.setO w b o') b o' :=
 ⟨rfl,rfl,rfl,by simp [World.setO],(heap_set hb).1,fun k hk=>(heap_set hb).2 k hk⟩
section
variable {P:Program} {w:World} {mt kt et:TypeId} {d:TypeDesc} {b:Nat} {es:Array MapEntry} {ck:Nat} {k v:Value}
theorem run_update_new (hm:P.underlying mt=some (.map kt et)) (hk:P.underlying kt=some d) (hb:w.heap[b]? = some (.map es ck)) (hkey:IsKey d k) (hf:Instr.findNow d k es.toList 0=some none) :
 (Instr.mapUpdate mt (.map (some b)) k v).run P w=.ok () (World.setO w b (.map (es.push ⟨k,v,ck⟩) (ck+1))):=by
 simp [Instr.mapUpdate,run_underlying hm,Go.MapKept.run_getObj_map hb,run_checkKey hk hkey,run_findKey hk hf,Go.MapKept.run_setObj_map _ hb,Result.andThen,World.setO]
theorem run_update_old {j:Nat} {e:MapEntry} (hm:P.underlying mt=some (.map kt et)) (hk:P.underlying kt=some d) (hb:w.heap[b]? = some (.map es ck)) (hkey:IsKey d k) (hf:Instr.findNow d k es.toList 0=some (some (j,e.val))) (hj:es.toList[j]? = some e) (hke:e.key=k) :
 (Instr.mapUpdate mt (.map (some b)) k v).run P w=.ok () (World.setO w b (.map (es.modify j fun e=>{ e with key:=k,val:=v }) ck)):=by
 have hj:es[j]? = some e:=by simpa using hj
 simp [Instr.mapUpdate,run_underlying hm,Go.MapKept.run_getObj_map hb,run_checkKey hk hkey,run_findKey hk hf,hj,hke,run_keyThatStays hkey,Go.MapKept.run_setObj_map _ hb,Result.andThen,World.setO]
end
theorem modify_ok {k v:Value} {a:AV} {H:HH} {E:Env} (hv:Rel a H E v):∀ {es:List (Value×AV×Nat)} {l:List MapEntry} {j:Nat} {e:MapEntry},entsM l=ents es->RelL (vals es) H E (valsM l)->l[j]? = some e->e.key=k ->
 entsM (l.modify j fun e=>{ e with key:=k,val:=v })=ents (setEs es j a)/\RelL (vals (setEs es j a)) H E (valsM (l.modify j fun e=>{ e with key:=k,val:=v }))
 | [],l,j,e,h,_,hj,_=>by
   have:l=[]:=by simpa using h
   subst this;simp at hj
 | x::r,l,j,e,h,hr,hj,hk=>by
   cases l with
   | nil=>simp at h
   | cons y l =>
     simp only [entsM,ents,List.map_cons,List.cons.injEq,Prod.mk.injEq] at h
     obtain ⟨u,q,hu,h1,h2⟩:=hr
     simp only [valsM,List.map_cons,List.cons.injEq] at hu
     obtain ⟨rfl,rfl⟩:=hu
     cases j with
     | zero =>
       simp at hj
       subst hj
       have h1e:x.1=k:=by rw [<- h.1.1];exact hk
       refine ⟨?_,?_⟩
       · simp only [List.modify_zero_cons,entsM,ents,setEs,List.map_cons,h1e,h.1.2]
         have:=h.2
         rw [this]
       · simp only [List.modify_zero_cons,valsM,vals,setEs,List.map_cons]
         exact ⟨v,_,rfl,hv,h2⟩
     | succ j =>
       simp only [List.getElem?_cons_succ] at hj
       obtain ⟨g1,g2⟩:=modify_ok hv h.2 h2 hj hk
       refine ⟨?_,?_⟩
       · simp only [List.modify_succ_cons,entsM,ents,setEs,List.map_cons,h.1.1,h.1.2]
         have:entsM _=_:=g1
         simp only [entsM,ents] at this
         rw [this]
       · simp only [List.modify_succ_cons,valsM,vals,setEs,List.map_cons]
         exact ⟨_,_,rfl,h1,g2⟩
theorem mget_push {n:Int} {kk:IntKind} {v:Value} {ck:Nat}:∀ {l:List MapEntry} (_:∀ e∈l,∃ x,e.key=.int kk x) (_:mgetI n l=none) (y:Int),mgetI y (l++[⟨.int kk n,v,ck⟩])=if n=y then some v else mgetI y l
 | [],_,_,y=>by
   by_cases hy:n=y
   · subst hy;simp [mgetI]
   · have:¬ y=n:=fun q=>hy q.symm
     simp [mgetI,hy,this]
 | e::r,h,hn,y=>by
   obtain ⟨x,hx⟩:=h e (.head _)
   simp only [mgetI,hx] at hn
   by_cases hnx:n=x
   · rw [if_pos hnx] at hn;cases hn
   · rw [if_neg hnx] at hn
     have:=mget_push (v:=v) (ck:=ck) (fun y hy=>h y (.tail _ hy)) hn y
     simp only [List.cons_append,mgetI,hx,this]
     by_cases hy:y=x
     · subst hy;simp [hnx]
     · simp [hy]
theorem updGo_ok {P:Program} {rd:Nat->Blk} {o:Oper} {t:Nat->AV} {mt:TypeId} {m k v:Operand} {e:CE} (hop:o.op=.mapUpdate mt m k v∨o.op=.insert mt m k v) (h:updGo P rd mt (ev t m) (ev t k) (ev t v)=some e):CE.Good P o t rd e:=by
 unfold updGo at h
 split at h
 case h_2=>cases h
 rename_i d kt et kv hkd hkv
 obtain ⟨hm,hk⟩:=keyD_ok hkd
 split at h
 case h_2=>cases h
 rename_i hkis
 have hkey:=keyIs_ok hkis
 split at h
 case h_2=>cases h
 rename_i i hx
 have hexec:∀ (a:Act) (w w':World),(Instr.mapUpdate mt (a.eval m) (a.eval k) (a.eval v)).run P w=.ok () w'->(execOp a.eval o).run P w=.ok .skip w':=fun a w w' hr=>by
  rcases hop with hop | hop<;>simp [execOp,hop,hr]
 split at h
 · rename_i es ck hg
   split at h
   case h_2=>cases h
   rename_i hall
   simp only [Bool.and_eq_true] at hall
   cases h
   intro M hM
   refine runs_stepY fun H E w a hC hT=>?_
   have h1:=rel_ev hT m
   rw [hx] at h1
   obtain ⟨hl,b,hb,hv⟩:=h1
   have h2:=scV_ok hkv (rel_ev hT k)
   have h3:=rel_ev hT v
   have hB:=hC.blk i
   rw [hM i (by simp),hg] at hB
   obtain ⟨_,b',ms,g1,g2,g3,g4⟩:=hB
   rw [hb] at g1;cases g1
   rcases find_ok hkey 0 g3 g4 hall.1 with ⟨q1,q2⟩ | ⟨j,e',a',q1,q2,q3,q4,q5⟩
   · have hrun:=run_update_new (v:=a.eval v) hm hk g2 hkey q2
     have hBk:BlkOk H E (World.setO w b (.map (ms.push ⟨kv,a.eval v,ck⟩) (ck+1))) i (.mp (es++[(kv,ev t v,ck)]) (ck+1)):=by
      refine ⟨hl,b,ms.push ⟨kv,a.eval v,ck⟩,hb,(heap_set g2).1,?_,?_⟩
      · rw [Array.toList_push,List.map_append,List.map_append,g3];rfl
      · have:=relL_append g4 (show RelL [ev t v] H E [a.eval v] from ⟨_,_,rfl,h3,rfl⟩)
        simpa using this
     obtain ⟨hc,hev⟩:=hC.upd hl hb (upd_setO g2) hBk
     refine ⟨_,undef,_,H,E,hexec a w _ (by rw [hv,h2];exact hrun),.inr ⟨rfl,rfl⟩,trivial,?_,hev⟩
     simp only [killM,applyW]
     rw [q1]
     exact hc
   · have hrun:=run_update_old (v:=a.eval v) hm hk g2 hkey (by simpa using q2) q3 q4
     simp only [Nat.zero_add] at q1
     obtain ⟨m1,m2⟩:=modify_ok h3 g3 g4 q3 q4
     obtain ⟨hc,hev⟩:=hC.upd hl hb (upd_setO g2) (B:=.mp (setEs es j (ev t v)) ck) ⟨hl,b,_,hb,(heap_set g2).1,(by rw [Array.toList_modify];exact m1),(by rw [Array.toList_modify];exact m2)⟩
     refine ⟨_,undef,_,H,E,hexec a w _ (by rw [hv,h2];exact hrun),.inr ⟨rfl,rfl⟩,trivial,?_,hev⟩
     simp only [killM,applyW]
     rw [q1]
     exact hc
 · rename_i kk vk has c hg
   split at h
   case h_2=>cases h
   rename_i k0 k1 n vk' u hu
   split at h
   case h_2=>cases h
   rename_i hc
   simp only [Bool.and_eq_true,decide_eq_true_eq] at hc
   obtain ⟨rfl,rfl⟩:=hc
   cases h
   have:k1=k0:=hkey
   subst this
   intro M hM
   refine runs_stepY fun H E w a hC hT=>?_
   have h1:=rel_ev hT m
   rw [hx] at h1
   obtain ⟨hl,b,hb,hv⟩:=h1
   have h2:=scV_ok hkv (rel_ev hT k)
   have h3:=scV_ok hu (rel_ev hT v)
   have hB:=hC.blk i
   rw [hM i (by simp),hg] at hB
   obtain ⟨_,b',ms,ck,g1,g2,g3,g4⟩:=hB
   rw [hb] at g1;cases g1
   have hg4:∀ y,(if n=y then some (Value.int vk' u) else mgetI y ms.toList)=(match updHas has n y with | true=>some (.int vk' (updC c n u y)) | false=>none):=by
    intro y
    by_cases hy:n=y
    · simp [updHas,updC,hy]
    · rw [if_neg hy,g4 y]
      have h1:updHas has n y=has y:=by simp [updHas,hy]
      have h2:updC c n u y=c y:=by simp [updC,hy]
      rw [h1,h2]
      rfl
   rcases mget_find (n:=n) 0 g3 with ⟨q1,q2⟩ | ⟨j,e',q1,q2,q3,q4,q5⟩
   · have hrun:=run_update_new (v:=.int vk' u) hm hk g2 hkey q2
     have hBk:BlkOk H E (World.setO w b (.map (ms.push ⟨.int k1 n,.int vk' u,ck⟩) (ck+1))) i (.mi k1 vk' (updHas has n) (updC c n u)):=by
      refine ⟨hl,b,ms.push ⟨.int k1 n,.int vk' u,ck⟩,ck+1,hb,(heap_set g2).1,fun e he=>?_,fun y=>?_⟩
      · rw [Array.toList_push,List.mem_append] at he
        rcases he with he | he
        · exact g3 e he
        · simp at he;subst he;exact ⟨n,rfl⟩
      · rw [Array.toList_push];exact (mget_push g3 q1 y).trans (hg4 y)
     obtain ⟨hc,hev⟩:=hC.upd hl hb (upd_setO g2) hBk
     exact ⟨_,undef,_,H,E,hexec a w _ (by rw [hv,h2,h3];exact hrun),.inr ⟨rfl,rfl⟩,trivial,hc,hev⟩
   · have hrun:=run_update_old (v:=.int vk' u) hm hk g2 hkey (by simpa using q2) q3 q4
     have q3':ms[j]? = some e':=by simpa using q3
     have hBk:BlkOk H E (World.setO w b (.map (ms.modify j fun e=>{ e with key:=.int k1 n,val:=.int vk' u }) ck)) i (.mi k1 vk' (updHas has n) (updC c n u)):=by
      refine ⟨hl,b,ms.modify j fun e=>{ e with key:=.int k1 n,val:=.int vk' u },ck,hb,(heap_set g2).1,fun e he=>?_,fun y=>?_⟩
      · exact isK.1 (Go.MapKept.isKey_modify (d:=.int k1) (fun x hx=>isK.2 (g3 x hx)) j _ (fun e'' he''=>by rw [q3'] at he'';cases he'';exact q4.symm) e he)
      · rw [Array.toList_modify];exact (q5 _ y).trans (hg4 y)
     obtain ⟨hc,hev⟩:=hC.upd hl hb (upd_setO g2) hBk
     exact ⟨_,undef,_,H,E,hexec a w _ (by rw [hv,h2,h3];exact hrun),.inr ⟨rfl,rfl⟩,trivial,hc,hev⟩
 · cases h
theorem updE_ok {P:Program} {rd:Nat->Blk} {o:Oper} {t:Nat->AV} {e:CE} (h:updE P rd o t=some e):CE.Good P o t rd e:=by
 unfold updE at h
 split at h
 · rename_i mt m k v hop;exact updGo_ok (.inl hop) h
 · rename_i mt m k v hop;exact updGo_ok (.inr hop) h
 · cases h
def mkM (P:Program) (rd:Nat->Blk) (nid:Nat) (o:Oper) (t:Nat->AV):Option CE :=
 match o.op with
 | .makeMap _ none=>some ⟨.mref nid,[nid],[(nid,.mp [] 0)],[],[]⟩
 | .makeMap ty (some r)=>(match P.underlying ty,scV (ev t r) with
   | some (.map _ _),some (.int _ _)=>some ⟨.mref nid,[nid],[(nid,.mp [] 0)],[],[]⟩
   | _,_=>none)
 | _=>none
theorem mkM_ok {P:Program} {rd:Nat->Blk} {nid:Nat} {o:Oper} {t:Nat->AV} {e:CE} (hd:∀ k,nid<=k->rd k=.dead) (h:mkM P rd nid o t=some e):CE.Good P o t rd e:=by
 have go:(∀ H E w a,RelT t H E a->(execOp a.eval o).run P w=.ok (.value (.map (some w.heap.size))) (w.alloc (.map #[] 0)))->CE.Good P o t rd ⟨.mref nid,[nid],[(nid,.mp [] 0)],[],[]⟩:=by
  intro hrun M hM
  refine runs_stepZ fun H E w a hC hT=>?_
  have hdn:getM M nid=.dead:=(hM nid (by simp)).trans (hd nid (Nat.le_refl _))
  obtain ⟨s1,s2,_⟩:=E.set_same nid (some w.heap.size) 0 0
  obtain ⟨hc,hev⟩:=hC.new (w':=w.alloc (.map #[] 0)) (i:=nid) (κ:=0) (η:=0) (bo:=some w.heap.size) (B:=.mp [] 0) hdn rfl rfl rfl (by simp) (fun b hb=>Go.RowKit.Below.heap_alloc w _ b hb) (fun b hb=>by cases hb;exact Nat.le_refl _)
   ⟨s1,w.heap.size,#[],s2,heap_alloc_new w _,rfl,rfl⟩
  exact ⟨_,_,H,_,hrun H E w a hT,⟨s1,_,s2,rfl⟩,hc,hev⟩
 unfold mkM at h
 split at h
 · rename_i ty hop
   cases h
   exact go fun H E w a _=>by simp [execOp,hop,Instr.makeMap,Result.andThen]
 · rename_i ty r hop
   split at h
   case h_2=>cases h
   rename_i kt et ik n hu hr
   cases h
   refine go fun H E w a hT=>?_
   have h2:=scV_ok hr (rel_ev hT r)
   simp [execOp,hop,Instr.makeMap,run_underlying hu,h2,asInt,asIntOf,Result.andThen]
 · cases h
def lenM (P:Program) (rd:Nat->Blk) (o:Oper) (t:Nat->AV):Option CE :=
 match o.op with
 | .call { callee:=.builtin .len,args,argTypes }=>(match args.toList,argTypes.toList with
   | [x],[ty]=>(match P.underlying ty,ev t x with
     | some (.map _ _),.mref i=>(match rd i with
       | .mp es _=>some ⟨.s (.int .i64 (len es:Nat)),[i],[],[],[]⟩
       | _=>none)
     | some (.map _ _),.s (.map none)=>some ⟨.s (.int .i64 0),[],[],[],[]⟩
     | _,_=>none)
   | _,_=>none)
 | _=>none
theorem lenM_ok {P:Program} {rd:Nat->Blk} {o:Oper} {t:Nat->AV} {e:CE} (h:lenM P rd o t=some e):CE.Good P o t rd e:=by
 unfold lenM at h
 split at h
 case h_2=>cases h
 rename_i args ats hop
 split at h
 case h_2=>cases h
 rename_i x ty hx hty
 have h1:args=#[x]:=Array.ext' hx
 have h2:ats=#[ty]:=Array.ext' hty
 subst h1;subst h2
 split at h
 · rename_i kt et i hu he
   split at h
   case h_2=>cases h
   rename_i es ck hg
   cases h
   intro M hM
   refine runs_stepZ fun H E w a hC hT=>?_
   have h1:=rel_ev hT x
   rw [he] at h1
   obtain ⟨hl,b,hb,hv⟩:=h1
   have hB:=hC.blk i
   rw [hM i (by simp),hg] at hB
   obtain ⟨_,b',ms,g1,g2,g3,g4⟩:=hB
   rw [hb] at g1;cases g1
   have hlen:ms.size=len es:=by
    have:=congrArg List.length g3
    simpa [len_eq] using this
   refine ⟨_,w,H,E,?_,⟨rfl,rfl⟩,hC,Evol.refl _ _ _ _⟩
   simp [execOp,hop,resolve,invoke,builtin,hv,Builtin.len_,run_underlying hu,Go.MapKept.run_getObj_map g2,goInt,hlen,Result.andThen]
 · rename_i kt et hu he
   cases h
   intro M hM
   refine runs_stepZ fun H E w a hC hT=>?_
   have h1:=rel_ev hT x
   rw [he] at h1
   have hv:a.eval x=.map none:=h1.1
   refine ⟨_,w,H,E,?_,⟨rfl,rfl⟩,hC,Evol.refl _ _ _ _⟩
   simp [execOp,hop,resolve,invoke,builtin,hv,Builtin.len_,run_underlying hu,goInt,Result.andThen]
 · cases h
end Go.Ax

namespace Go.Ax
open Go
variable [Inhabited Gl0]
def cut3E (P:Program) (o:Oper) (t:Nat->AV):Option CE:=match o.op with
 | .slice ty x lo (some hi) (some mx)=>(match P.underlying ty,sv (ev t x),bnd 0 (lo.map (ev fun i=>sv (t i))),bnd 0 (some (ev (fun i=>sv (t i)) hi)),bnd 0 (some (ev (fun i=>sv (t i)) mx)) with
   | some (.slice e),.own _ sz _ n,some l,some u,some m=>(match sizeT P e with
     | some sz'=>(match Nat.beq sz' sz with
       | true=>some ⟨.junk,[],[],[],[0<=l,l<=u,u<=m,m<=(n:Int)]⟩
       | false=>none)
     | none=>none)
   | _,_,_,_,_=>none)
 | _=>none
theorem run_bounds3 {P:Program} (w:World) {n cap:Nat} {lo:Option Value} {l u m:Int} {ku km:IntKind} (hlo:(lo=none/\l=0)∨∃ k,lo=some (.int k l))
 (h0:0<=l) (h1:l<=u) (h2:u<=m) (h3:m<=(cap:Int)):(Instr.sliceBounds true n cap lo (some (.int ku u)) (some (.int km m))).run P w=.ok (l.toNat,u.toNat,m.toNat) w:=by
 have hm:=run_sliceBound (P:=P) w km m cap .slice3Acap (by omega) (by omega)
 have hu:=run_sliceBound (P:=P) w ku u m.toNat .slice3B (by omega) (by omega)
 rcases hlo with ⟨rfl,rfl⟩ | ⟨kl,rfl⟩
 · simp [Instr.sliceBounds,hm,hu]
 · have hl:=run_sliceBound (P:=P) w kl l u.toNat .slice3C h0 (by omega)
   simp [Instr.sliceBounds,hm,hu,hl]
theorem bnd_int {t:Nat->AV} {a:Act} {H:HH} {E:Env} (hT:RelT t H E a) {d:Nat} {x:Operand} {q:Int} (h:bnd d (some (ev t x))=some q):∃ k,a.eval x=.int k q:=by
 rcases bnd_ok hT (x:=some x) (d:=d) (q:=q) (by simpa using h) with ⟨h,_⟩ | ⟨k,h⟩
 · cases h
 · exact ⟨k,by simpa using h⟩
theorem cut3E_ok {P:Program} {o:Oper} {t:Nat->AV} {rd:Nat->Blk} {e:CE} (h:cut3E P o t=some e) (ho:Hold e.ob):CE.Good P o t rd e:=by
 unfold cut3E at h
 split at h
 case h_2=>cases h
 rename_i ty x lo hi mx hop
 split at h
 case h_2=>cases h
 rename_i el i sz z n l u m hu hx0 hl hu' hm
 split at h
 case h_2=>cases h
 rename_i sz' hsz
 split at h
 case h_2=>cases h
 rename_i hs
 have hs:sz'=sz:=by simpa using hs
 subst hs
 cases h
 have b0:=ho (0<=l) (by simp)
 have b1:=ho (l<=u) (by simp)
 have b2:=ho (u<=m) (by simp)
 have b3:=ho (m<=(n:Int)) (by simp)
 intro M hM
 refine runs_stepZ fun H E w a hC hT=>?_
 have hx:=rel_sv (rel_ev hT x)
 rw [hx0] at hx
 obtain ⟨ku,hku⟩:=bnd_int (relT_sv hT) hu'
 obtain ⟨km,hkm⟩:=bnd_int (relT_sv hT) hm
 have hlo:=bnd_ok (relT_sv hT) hl
 have key:∀ A cap,n<=cap->a.eval x=.slice A n cap->∃ v,(execOp a.eval o).run P w=.ok (.value v) w:=by
  intro A cap hc hv
  have hrun:=run_bounds3 (P:=P) (n:=n) w (cap:=cap) (ku:=ku) (km:=km) hlo b0 b1 b2 (by omega)
  exact ⟨.slice (if m.toNat=l.toNat then A else A.map (·.add (l.toNat*sz'))) (u.toNat - l.toNat) (m.toNat - l.toNat),by
   simp [execOp,hop,hv,Instr.sliceAt,run_underlying hu,Instr.slice,hku,hkm,hrun,run_sizeOf' w hsz]⟩
 obtain ⟨hlv,hκ,hm2⟩:=hx
 have hv:∃ v,(execOp a.eval o).run P w=.ok (.value v) w:=by
  cases hι:E.ι i with
  | none =>
    rw [hι] at hm2
    obtain ⟨rfl,rfl,hv⟩:=hm2
    exact key none 0 (Nat.le_refl _) hv
  | some b =>
    rw [hι] at hm2
    obtain ⟨ad,hv,_⟩:=hm2
    exact key ad _ (by omega) hv
 obtain ⟨v,hv⟩:=hv
 exact ⟨v,w,H,E,hv,trivial,hC,Evol.refl _ _ _ _⟩
def partB (B:Blk) (sz n:Nat):Option (TypeId×Blk):=match B with
 | .lst ty s2 m _ cs=>(match Nat.beq s2 sz&&Nat.ble n m with | true=>some (ty,.lst ty sz n none (cs.take (n*sz))) | false=>none)
 | .row ty s2 _ _ c=>(match Nat.beq s2 sz with | true=>some (ty,.row ty sz n none c) | false=>none)
 | _=>none
def appPartE (P:Program) (rd:Nat->Blk) (o:Oper) (t:Nat->AV):Option CE:=none
theorem relL_takeD {H:HH} {E:Env}:∀ {l:List AV} {vs:List Value} (n:Nat),RelL l H E vs->RelL (l.take n) H E (vs.take n)
 | _,_,0,_=>by simp [RelL]
 | [],_,n+1,h=>by
   have h:_=[]:=h
   subst h;simp [RelL]
 | _::_,_,n+1,h=>by
   obtain ⟨v,r,rfl,h1,h2⟩:=h
   exact ⟨v,_,rfl,h1,relL_takeD n h2⟩
theorem partB_ok {H:HH} {E:Env} {w:World} {a sz n:Nat} {B B1:Blk} {ty:TypeId} (hB:BlkOk H E w a B) (h:partB B sz n=some (ty,B1)) (hn:n<=E.η a) :
 E.κ a<=maxLen/\n<=E.κ a/\(match E.ι a with
  | none=>n=0->Cont H E sz n ty B1 []
  | some b=>∃ vs,w.heap[b]? = some (.cells vs ty (0,0))/\vs.size=E.κ a*sz/\ones (vs.toList.take (n*sz))/\Cont H E sz n ty B1 (vs.toList.take (n*sz))):=by
 unfold partB at h
 split at h
 · rename_i ty' s2 m cap cs
   split at h
   case h_2=>cases h
   rename_i hb
   simp only [Bool.and_eq_true,Nat.beq_eq,Nat.ble_eq] at hb
   obtain ⟨rfl,hnm⟩:=hb
   cases h
   obtain ⟨_,hm,hκ,_,hc⟩:=hB
   refine ⟨hκ,by omega,?_⟩
   cases hι:E.ι a with
   | none =>
     rw [hι] at hc
     obtain ⟨_,rfl⟩:=hc
     intro h0
     subst h0
     exact ⟨rfl,rfl,rfl,by simp [RelL]⟩
   | some b =>
     rw [hι] at hc
     obtain ⟨vs,g1,g2,g3,g4⟩:=hc
     have hle:n*s2<=m*s2:=Nat.mul_le_mul_right _ hnm
     refine ⟨vs,g1,g3,fun x hx=>g2 x (List.take_subset_take_left _ hle hx),rfl,rfl,rfl,?_⟩
     have:=relL_takeD (n*s2) g4
     rwa [List.take_take,Nat.min_eq_left hle] at this
 · rename_i ty' s2 m cap c
   split at h
   case h_2=>cases h
   rename_i hb
   have hb:s2=sz:=by simpa using hb
   subst hb
   cases h
   obtain ⟨_,hm,hκ,_,hc⟩:=hB
   refine ⟨hκ,by omega,?_⟩
   cases hι:E.ι a with
   | none =>
     intro h0
     subst h0
     exact ⟨rfl,rfl,rfl,fun k hk=>by omega⟩
   | some b =>
     rw [hι] at hc
     obtain ⟨vs,g1,g2,g3,g4⟩:=hc
     have hle:n*s2<=m*s2:=Nat.mul_le_mul_right _ (by omega)
     refine ⟨vs,g1,g3,fun x hx=>g2 x (List.take_subset_take_left _ hle hx),rfl,rfl,rfl,fun k hk j hj=>?_⟩
     obtain ⟨x,hx,hr⟩:=g4 k (by omega) j hj
     refine ⟨x,?_,hr⟩
     have hlt:k*s2+j<n*s2:=by
      have:(k+1)*s2<=n*s2:=Nat.mul_le_mul_right _ hk
      rw [Nat.add_mul,Nat.one_mul] at this;omega
     rw [List.getElem?_take_of_lt hlt,Array.getElem?_toList]
     exact hx
 · cases h
theorem appPartE_ok {P:Program} {o:Oper} {t:Nat->AV} {rd:Nat->Blk} {e:CE} (h:appPartE P rd o t=some e) (ho:Hold e.ob):CE.Good P o t rd e:=by
 simp [appPartE] at h
def lookN (P:Program) (rd:Nat->Blk) (o:Oper) (t:Nat->AV):Option CE:=none
theorem lookN_ok {P:Program} {rd:Nat->Blk} {o:Oper} {t:Nat->AV} {e:CE} (h:lookN P rd o t=some e) (ho:Hold e.ob):CE.Good P o t rd e:=by
 simp [lookN] at h
end Go.Ax

namespace Go.Ax
open Go
variable [Inhabited Gl0]
def bytesC (s:ByteArray) (k:Nat) (_:Nat):AV:=.y (.int .u8 ((s.data.toList.getD k 0).toNat))
def HH.plus (H:HH) (b0:Nat) (o0:Obj):HH:=fun x b=>match Nat.beq b b0 with | true=>some o0 | false=>H x b
theorem HH.plus_same (H:HH) (b0:Nat) (o0:Obj) (x:Bool):H.plus b0 o0 x b0=some o0:=by simp [HH.plus]
theorem HH.plus_ne (H:HH) {b0 b:Nat} (o0:Obj) (x:Bool) (h:b≠b0):H.plus b0 o0 x b=H x b:=by
 have:Nat.beq b b0=false:=by
  cases hb:Nat.beq b b0
  · rfl
  · exact absurd (Nat.eq_of_beq_eq_true hb) h
 simp [HH.plus,this]
theorem fresh_imm {H:HH} {E:Env} {w w':World} {M:List Blk} {o0:Obj} (hC:Conc H E w M) (hos:w'.os=w.os) (ht:w'.tape=w.tape) (hout:w'.output=w.output) (hs:w.heap.size<=w'.heap.size)
 (hk:∀ b,b<w.heap.size->w'.heap[b]? = w.heap[b]?) (ho:w'.heap[w.heap.size]? = some o0) :
 Conc (H.plus w.heap.size o0) E w' M/\Evol [] H E w (H.plus w.heap.size o0) E w':=by
 have hlt:∀ x b o,H x b=some o->b<w.heap.size:=by
  intro x b o hb
  refine IH.lt_of hC.imm (b:=b) (o:=o) ?_
  cases x
  · exact hb
  · exact hC.tf.1 b o hb
 have hle:H.le (H.plus w.heap.size o0):=by
  intro x b o hb
  rw [HH.plus_ne H o0 x (by have:=hlt x b o hb;omega)]
  exact hb
 have hcase:∀ x b o,H.plus w.heap.size o0 x b=some o->(b=w.heap.size/\o=o0)∨H x b=some o:=by
  intro x b o hb
  by_cases h:b=w.heap.size
  · subst h
    rw [HH.plus_same] at hb
    cases hb
    exact .inl ⟨rfl,rfl⟩
  · rw [HH.plus_ne H o0 x h] at hb
    exact .inr hb
 refine ⟨⟨fun b o hb=>?_,hC.tf.up hle (fun b o hb=>?_),fun i=>?_,hC.injH,fun i b hb=>?_,fun i b hl hb=>Nat.lt_of_lt_of_le (hC.ltS i b hl hb) hs⟩,⟨hos,ht,hout,hs,fun b hb _=>hk b hb,fun i b hb=>.inl ⟨i,hb⟩,hle,fun x b o hb=>?_,fun i hl _=>⟨hl,rfl,rfl,rfl⟩⟩⟩
 · rcases hcase false b o hb with ⟨rfl,rfl⟩ | h
   · exact ho
   · exact (hk b (hlt _ _ _ h)).trans (hC.imm b o h)
 · rcases hcase true b o hb with ⟨rfl,rfl⟩ | h
   · exact HH.plus_same _ _ _ _
   · exact hle false b o (hC.tf.1 b o h)
 · have:=(hC.blk i).move (f:=some) (H':=H.plus w.heap.size o0) (E':=E) (w':=w') (i':=i) hle (fun a c hc hl=>by cases hc;exact ⟨hl,rfl,rfl,rfl⟩) rfl rfl rfl rfl (fun _=>Iff.rfl) fun b hb=>hk b (hC.ltH hb)
   rwa [renB_some] at this
 · rw [HH.plus_ne H o0 false (by have:=hC.ltH hb;omega)]
   exact hC.sepH i b hb
 · rcases hcase x b o hb with ⟨rfl,rfl⟩ | h
   · exact .inr (.inl (Nat.le_refl _))
   · exact .inl h
def strB (P:Program) (o:Oper) (t:Nat->AV):Option CE:=match o.op with
 | .convert src dst x=>(match P.underlying src,P.underlying dst with
   | some _,some (.slice el)=>(match P.underlying el,scV (ev t x) with
     | some (.int .u8),some (.string s)=>some ⟨.ys true 1 s.size (bytesC s),[],[],[],[]⟩
     | _,_=>none)
   | _,_=>none)
 | _=>none
theorem strB_ok {P:Program} {o:Oper} {t:Nat->AV} {rd:Nat->Blk} {e:CE} (h:strB P o t=some e):CE.Good P o t rd e:=by
 unfold strB at h
 split at h
 case h_2=>cases h
 rename_i src dst x hop
 split at h
 case h_2=>cases h
 rename_i u el hsrc hdst
 split at h
 case h_2=>cases h
 rename_i s hel hs
 cases h
 intro M hM
 refine runs_stepZ fun H E w a hC hT=>?_
 have hx:=scV_ok hs (rel_ev hT x)
 have hrun:=Lib.run_convert_string_bytes (P:=P) w src dst el s hsrc hdst hel
 obtain ⟨hc,hev⟩:=fresh_imm (w':=Lib.bytesWorld w el s) hC (by rfl) (by rfl) (by rfl) (by rw [Lib.bytesWorld_size];omega) (fun b hb=>Lib.bytesWorld_at_old w el s b hb) (Lib.bytesWorld_at_new w el s)
 refine ⟨.slice (some ⟨w.heap.size,0,none⟩) s.size (grownCap w s.size 0 el),Lib.bytesWorld w el s,_,E,by simp [execOp,hop,hx,hrun],?_,hc,hev⟩
 refine ⟨_,_,rfl,⟨grownCap_ge w s.size 0 el,fun h=>by cases h⟩,fun _=>⟨_,rfl,fun k hk j hj=>?_⟩⟩
 obtain rfl:j=0:=by omega
 refine ⟨.int .u8 ((s.data.toList.getD k 0).toNat),?_,rfl,rfl,rfl⟩
 have hcell:=Lib.bytesWorld_cell w el s k hk
 have e1:(⟨w.heap.size,0,none⟩:Addr).add (k*1+0)=⟨w.heap.size,k,none⟩:=by simp only [Addr.add];split<;>simp_all
 rw [e1]
 unfold World.cell? at hcell
 unfold IH.cell?
 rw [HH.plus_same]
 rw [Lib.bytesWorld_at_new] at hcell
 simpa using hcell
def negE (o:Oper) (t:Nat->AV):Option CE:=none
theorem negE_ok {P:Program} {o:Oper} {t:Nat->AV} {rd:Nat->Blk} {e:CE} (h:negE o t=some e):CE.Good P o t rd e:=by
 simp [negE] at h
theorem grow_any {H:HH} {E:Env} {w w':World} {M:List Blk} {el:TypeId} {a n m sz:Nat} {B':Blk} {v':Value} {xs news:List Value} (hC:Conc H E w M) (hl:E.lv a=true) (hxs:ones xs) (hones:ones news)
 (hown':w'.ownsRow 0 el sz v' (n+m) (xs++news)) (hgrow:w.grownBy w' (E.ι a)) (hat:∀ g,v'.ownBlock=some g->E.ι a=some g∨w.heap.size<=g) (hc2:Cont H E sz (n+m) el B' (xs++news)) (hcap:capOf B'=none) :
 ∃ E',Rel (.own a sz 0 (n+m)) H E' v'/\Conc H E' w' (killM [a] (putM M a B'))/\Evol [a] H E w H E' w':=by
 obtain ⟨bo,κ,hbo,hnκ,hκm,hv',hblk,hbn⟩:=owns_form hown'
 obtain ⟨e1,e2,e3,e4⟩:=E.set_same a bo κ (n+m)
 have hvia:E.via (E.set a bo κ (n+m)) (keepOf [a]):=by
  intro p q hpq hlp
  unfold keepOf at hpq
  split at hpq
  · cases hpq
  · rename_i hn
    cases hpq
    obtain ⟨f1,f2,f3⟩:=E.set_ne a p bo κ (n+m) (by simpa using hn)
    exact ⟨f1.trans hlp,f2,f3⟩
 have hB:BlkOk H (E.set a bo κ (n+m)) w' a (renB (keepOf [a]) B'):=by
  refine cont_blk (cont_ren hvia hc2) (by rw [capOf_ren];exact hcap) e1 (by rw [e3,e4];exact ⟨rfl,hnκ⟩) (by rw [e3];exact hκm) (fun y hy=>?_) (by rw [e2,e3];exact hblk)
  rcases List.mem_append.1 hy with hy | hy
  · exact hxs y hy
  · exact hones y hy
 obtain ⟨hconc,hev⟩:=hC.move hl hgrow (bo':=bo) (κ':=κ) (η':=n+m) (fun g hg=>hat g (hbo.trans hg)) hB
 refine ⟨E.set a bo κ (n+m),⟨e1,by rw [e3,e4];omega,?_⟩,hconc,hev⟩
 rw [e2,e3]
 cases bo with
 | none=>exact ⟨rfl,by have:=hbn rfl;omega,hv'⟩
 | some b=>exact ⟨_,hv',⟨fun _=>by simp,by simp⟩⟩
theorem appS_run {P:Program} {w:World} {t u ty e:TypeId} {i:TypeInfo} (ht:P.underlying t=some (.slice e)) (hu:P.underlying u=some .string) (hi:P.info? e=some i) (hz:i.zero=some (.int .u8 0)) (hsize:i.size=1) (hby:i.bytes=1)
 {v:Value} {n:Nat} {xs:List Value} (hown:w.ownsRow 0 e 1 v n xs) (s:ByteArray) (h63:n+s.size<=maxLen) (hbytes:n+s.size<=140737488355328) :
 ∃ v' w',(Builtin.append_ #[t,u] ty #[v,.string s]).run P w=.ok v' w'/\w'.ownsRow 0 e 1 v' (n+s.size) (xs++Lib.strCells s)/\w.grownBy w' v.ownBlock/\∀ g,v'.ownBlock=some g->v.ownBlock=some g∨w.heap.size<=g:=by
 have hsmall:n+s.size<=9223372036854775807:=by simp only [maxLen] at h63;omega
 have hxl:xs.length=n:=by simpa using hown.1
 rcases hown.2 with ⟨rfl,rfl⟩ | ⟨g,cap,cur,rfl,hbg,hg,hnc,hcm,hcs,htake⟩
 · have hx:xs=[]:=List.eq_nil_of_length_eq_zero hxl
   subst hx
   obtain ⟨v',w',h1,h2,h3,_⟩:=Lib.run_append_own_string (P:=P) w w.heap.size t u ty e i ht hu hi hz hsize hby (.slice none 0 0) 0 [] (World.ownsRow_nil w _ e 1) s h63 hbytes (Nat.le_refl _)
   refine ⟨v',w',h1,⟨h2.1,?_⟩,h3,fun g hg=>?_⟩
   · rcases h2.2 with h | ⟨g,cap,cur,a1,_,a3⟩
     · exact .inl h
     · exact .inr ⟨g,cap,cur,a1,Nat.zero_le _,a3⟩
   · rcases h2.2 with ⟨rfl,_⟩ | ⟨g',cap,cur,rfl,hb,_⟩
     · cases hg
     · have hg:some g'=some g:=hg
       cases hg
       exact .inr hb
 · obtain ⟨v',w',h1,h2,h3,_⟩:=Lib.run_append_own_string (P:=P) w 0 t u ty e i ht hu hi hz hsize hby (.slice (some ⟨g,0,none⟩) n cap) n xs hown s h63 hbytes (Nat.zero_le _)
   refine ⟨v',w',h1,h2,h3,fun g' hg'=>?_⟩
   by_cases hroom:n+s.size<=cap
   · have hcs':cur.size=cap:=by simpa using hcs
     have hr:=Lib.run_append_room_string (P:=P) w t u ty e i ht hu hi hsize g n cap cur hg s hroom (by omega)
     rw [hr] at h1
     cases h1
     exact .inl hg'
   · have holds:∀ j u,xs[j]? = some u->w.cell? ((⟨g,0,none⟩:Addr).add j)=some u:=hown.cells (g:=g) rfl
     have hr:=Lib.run_append_grow_string (P:=P) w t u ty e i (.int .u8 0) ht hu hi hz ⟨g,0,none⟩ n cap xs (by rw [hsize];simpa using hxl) holds s (by omega) (by omega) (by rw [hby];exact growslice_fits (by omega) (by omega))
     rw [hr] at h1
     cases h1
     have hg':some w.heap.size=some g':=hg'
     cases hg'
     exact .inr (Nat.le_refl _)
def zeroU8 (i:TypeInfo):Bool:=match i.zero with | some (.int .u8 z)=>decide (z=0) | _=>false
theorem zeroU8_ok {i:TypeInfo} (h:zeroU8 i=true):i.zero=some (.int .u8 0):=by
 unfold zeroU8 at h
 split at h
 · rename_i z hz
   have:z=0:=by simpa using h
   rw [hz,this]
 · cases h
def appSE (P:Program) (rd:Nat->Blk) (o:Oper) (t:Nat->AV):Option CE:=match o.op with
 | .call { callee:=.builtin .append,args,argTypes }=>(match argTypes.toList,args.toList with
   | [t1,t2],[s,x]=>(match P.underlying t1,P.underlying t2,sv (ev t s),scV (ev t x) with
     | some (.slice e),some .string,.own a 1 0 n,some (.string str)=>(match P.info? e,partB (rd a) 1 n with
       | some inf,some (ty,B)=>(match Nat.beq inf.size 1&&Nat.beq inf.bytes 1&&ty==e&&zeroU8 inf,appBlk B n 1 (str.size,none,bytesC str) with
         | true,some B'=>some ⟨.own a 1 0 (n+str.size),[a],killW [a] [(a,B')],[a],[n+str.size<=140737488355328]⟩
         | _,_=>none)
       | _,_=>none)
     | _,_,_,_=>none)
   | _,_=>none)
 | _=>none
theorem appSE_ok {P:Program} {o:Oper} {t:Nat->AV} {rd:Nat->Blk} {e:CE} (h:appSE P rd o t=some e) (ho:Hold e.ob):CE.Good P o t rd e:=by
 unfold appSE at h
 split at h
 case h_2=>cases h
 rename_i args ats hop
 split at h
 case h_2=>cases h
 rename_i t1 t2 s x hty hargs
 have h1:args=#[s,x]:=Array.ext' hargs
 have h2:ats=#[t1,t2]:=Array.ext' hty
 subst h1;subst h2
 split at h
 case h_2=>cases h
 rename_i el a n str hu hu2 hs0 hx0
 split at h
 case h_2=>cases h
 rename_i inf ty B hi hp
 split at h
 case h_2=>cases h
 rename_i B' hb happ
 cases h
 simp only [Bool.and_eq_true,beq_iff_eq,Nat.beq_eq] at hb
 obtain ⟨⟨⟨hsz,hby⟩,rfl⟩,hz⟩:=hb
 have hz:=zeroU8_ok hz
 have o1:=ho (n+str.size<=140737488355328) (by simp)
 intro M hM
 refine runs_stepZ fun H E w ac hC hT=>?_
 have hs:=rel_sv (rel_ev hT s)
 rw [hs0] at hs
 have hx:=scV_ok hx0 (rel_ev hT x)
 have hB:=hC.blk a
 rw [hM a (by simp)] at hB
 obtain ⟨hlv,hη,hm⟩:=hs
 obtain ⟨hκ,hnκ,hcont⟩:=partB_ok hB hp (by omega)
 have fin:∀ xs:List Value,w.ownsRow 0 ty 1 (ac.eval s) n xs->(ac.eval s).ownBlock=E.ι a->ones xs->Cont H E 1 n ty B xs ->
  ∃ v w' H' E',(execOp ac.eval o).run P w=.ok (.value v) w'/\Rel (.own a 1 0 (n+str.size)) H' E' v/\Conc H' E' w' (applyW (killW [a] [(a,B')]) (killM [a] M))/\Evol [a] H E w H' E' w':=by
  intro xs hown hob hxs hct
  obtain ⟨v',w',hrun,hown',hgrow,hat⟩:=appS_run (ty:=o.type) hu hu2 hi hz hsz hby hown str (by unfold maxLen;omega) o1
  have hr2:∀ k,k<str.size->∀ j,j<1->∃ u,(Lib.strCells str)[k*1+j]? = some u/\Rel (bytesC str k j) H E0 u:=by
   intro k hk j hj
   obtain rfl:j=0:=by omega
   have hk2:k<str.data.toList.length:=by simpa using hk
   refine ⟨.int .u8 ((str.data.toList.getD k 0).toNat),?_,rfl,rfl⟩
   simp [Lib.strCells,List.getD,hk2,hk]
  obtain ⟨hc2,hcap⟩:=appBlk_ok (src:=(str.size,none,bytesC str)) hct hown.1 (by rw [Lib.strCells_length];simp) (fun l hl=>by cases hl) (fun _=>hr2) happ
  rw [hob] at hgrow hat
  obtain ⟨E',hr,hc,hev⟩:=grow_any hC hlv hxs (fun y hy=>Lib.strCells_oneCell str y hy) hown' hgrow hat hc2 hcap
  refine ⟨v',w',H,E',by simp [execOp,hop,resolve,invoke,builtin,hx,hrun],hr,hc.eqv fun k=>?_,hev⟩
  exact killW_eqv [a] [(a,B')] M k
 cases hι:E.ι a with
 | none =>
   rw [hι] at hm hcont
   obtain ⟨_,rfl,hv⟩:=hm
   exact fin [] (by rw [hv];exact ⟨by simp,.inl ⟨rfl,rfl⟩⟩) (by rw [hv];exact hι.symm) (fun y hy=>by cases hy) (hcont rfl)
 | some b =>
   rw [hι] at hm hcont
   obtain ⟨ad,hv,had⟩:=hm
   obtain ⟨vs,g1,g2,g3,g4⟩:=hcont
   rw [had.1 (.inl rfl)] at hv
   have hle:n*1<=E.κ a*1:=Nat.mul_le_mul_right _ hnκ
   refine fin _ ?_ (by rw [hv];exact hι.symm) g3 g4
   rw [hv]
   exact ⟨by simp;omega,.inr ⟨b,E.κ a,vs,by simp,Nat.zero_le _,g1,by omega,hκ,g2,rfl⟩⟩
end Go.Ax

namespace Go.Ax
open Go
variable [Inhabited Gl0]
open Go.MapKept (IsKey run_checkKey run_findKey heap_set)
def taM (P:Program) (o:Oper) (t:Nat->AV):Option CE :=
 match o.op with
 | .typeAssert x _ asserted ok=>(match ev t x with
   | .ifc ty v=>(match P.underlying asserted with
     | some (.interface want)=>(match P.info? ty with
       | some i=>(match (lacking want i.methods).isEmpty with
         | true=>some ⟨tupOk ok (.ifc ty v) (.s (.bool true)),[],[],[],[]⟩
         | false=>(match ok,zeroAV P asserted with
           | true,some z=>some ⟨tupOk true z (.s (.bool false)),[],[],[],[]⟩
           | _,_=>none))
       | none=>none)
     | some d=>(match Nat.beq ty asserted with
       | true=>some ⟨tupOk ok v (.s (.bool true)),[],[],[],[]⟩
       | false=>(match ok,zeroAV P asserted with
          | true,some z=>some ⟨tupOk true z (.s (.bool false)),[],[],[],[]⟩
          | _,_=>none))
     | none=>none)
   | .s .nilIface=>(match ok,P.underlying asserted,zeroAV P asserted with
     | true,some _,some z=>some ⟨tupOk true z (.s (.bool false)),[],[],[],[]⟩
     | _,_,_=>none)
   | _=>none)
 | _=>none
theorem taM_ok {P:Program} {rd:Nat->Blk} {o:Oper} {t:Nat->AV} {e:CE} (h:taM P o t=some e):CE.Good P o t rd e:=by
 unfold taM at h
 split at h
 case h_2=>cases h
 rename_i x xt asserted ok hop
 have go:∀ {r:AV},(∀ H E (w:World) (u:Value),Rel (ev t x) H E u->∃ v,(Instr.typeAssert u xt asserted ok).run P w=.ok v w/\Rel r H E v)->CE.Good P o t rd ⟨r,[],[],[],[]⟩:=by
  intro r hr M hM
  refine runs_stepZ fun H E w a hC hT=>?_
  obtain ⟨v,q1,q2⟩:=hr H E w (a.eval x) (rel_ev hT x)
  exact ⟨v,w,H,E,by simp [execOp,hop,q1,Result.andThen],q2,hC,Evol.refl _ _ _ _⟩
 split at h
 · rename_i ty v hx
   rw [hx] at go
   split at h
   · rename_i want hu
     split at h
     case h_2=>cases h
     rename_i i hi
     split at h
     · rename_i hl
       cases h
       refine go fun H E w u hr=>?_
       obtain ⟨x',rfl,hx'⟩:=hr
       have hl:lacking want i.methods=[]:=by simpa using hl
       cases ok with
       | true=>exact ⟨_,run_typeAssert_has hu hi hl,⟨#[.iface ty x',.bool true],rfl,_,[.bool true],rfl,⟨x',rfl,hx'⟩,.bool true,[],rfl,⟨rfl,rfl⟩,rfl⟩⟩
       | false=>exact ⟨.iface ty x',by simp [Instr.typeAssert,run_underlying hu,typeInfo,hi,missingMethod_none hl,Result.andThen],⟨x',rfl,hx'⟩⟩
     · rename_i hl
       split at h
       case h_2=>cases h
       rename_i z hz
       cases h
       refine go fun H E w u hr=>?_
       obtain ⟨x',rfl,hx'⟩:=hr
       have hl:lacking want i.methods≠[]:=by simpa using hl
       obtain ⟨m,hm⟩:=missingMethod_some hl
       obtain ⟨zv,hz1,hz2⟩:=zeroAV_ok H E w hz
       exact ⟨.tuple #[zv,.bool false],by simp [Instr.typeAssert,run_underlying hu,typeInfo,hi,hm,hz1,Result.andThen],⟨#[zv,.bool false],rfl,zv,[.bool false],rfl,hz2,.bool false,[],rfl,⟨rfl,rfl⟩,rfl⟩⟩
   · rename_i d hu hd
     split at h
     · rename_i ht
       have ht:=Nat.eq_of_beq_eq_true ht
       subst ht
       cases h
       refine go fun H E w u hr=>?_
       obtain ⟨x',rfl,hx'⟩:=hr
       have hne:∀ ms,d≠.interface ms:=fun ms e=>hu ms e
       cases ok with
       | true=>exact ⟨.tuple #[x',.bool true],by cases d<;>first | exact absurd rfl (hne _) | simp [Instr.typeAssert,run_underlying hd,Result.andThen],⟨#[x',.bool true],rfl,_,[.bool true],rfl,hx',.bool true,[],rfl,⟨rfl,rfl⟩,rfl⟩⟩
       | false=>exact ⟨x',by cases d<;>first | exact absurd rfl (hne _) | simp [Instr.typeAssert,run_underlying hd,Result.andThen],hx'⟩
     · rename_i ht
       have ht:ty≠asserted:=fun e=>by subst e;simp at ht
       split at h
       case h_2=>cases h
       rename_i z hz
       cases h
       refine go fun H E w u hr=>?_
       obtain ⟨x',rfl,hx'⟩:=hr
       have hne:∀ ms,d≠.interface ms:=fun ms e=>hu ms e
       obtain ⟨zv,hz1,hz2⟩:=zeroAV_ok H E w hz
       refine ⟨.tuple #[zv,.bool false],?_,⟨#[zv,.bool false],rfl,zv,[.bool false],rfl,hz2,.bool false,[],rfl,⟨rfl,rfl⟩,rfl⟩⟩
       cases d<;>first | exact absurd rfl (hne _) | simp [Instr.typeAssert,run_underlying hd,ht,hz1,Result.andThen]
   · cases h
 · rename_i hx
   rw [hx] at go
   split at h
   case h_2=>cases h
   rename_i d z hd hz
   cases h
   refine go fun H E w u hr=>?_
   have hu:u=.nilIface:=hr.1
   subst hu
   obtain ⟨zv,hz1,hz2⟩:=zeroAV_ok H E w hz
   refine ⟨.tuple #[zv,.bool false],?_,⟨#[zv,.bool false],rfl,zv,[.bool false],rfl,hz2,.bool false,[],rfl,⟨rfl,rfl⟩,rfl⟩⟩
   cases d<;>simp [Instr.typeAssert,run_underlying hd,hz1,Result.andThen]
 · cases h
def delM (P:Program) (rd:Nat->Blk) (o:Oper) (t:Nat->AV):Option CE:=none
theorem delM_ok {P:Program} {rd:Nat->Blk} {o:Oper} {t:Nat->AV} {e:CE} (h:delM P rd o t=some e):CE.Good P o t rd e:=by
 simp [delM] at h
def rangeM (P:Program) (rd:Nat->Blk) (nid:Nat) (o:Oper) (t:Nat->AV):Option CE:=none
theorem rangeM_ok {P:Program} {rd:Nat->Blk} {nid:Nat} {o:Oper} {t:Nat->AV} {e:CE} (hd:∀ k,nid<=k->rd k=.dead) (h:rangeM P rd nid o t=some e):CE.Good P o t rd e:=by
 simp [rangeM] at h
def nextM (rd:Nat->Blk) (o:Oper) (t:Nat->AV):Option CE:=none
theorem nextM_ok {P:Program} {rd:Nat->Blk} {o:Oper} {t:Nat->AV} {e:CE} (h:nextM rd o t=some e):CE.Good P o t rd e:=by
 simp [nextM] at h
def entryM (rd:Nat->Blk) (o:Oper) (t:Nat->AV):Option CE:=none
theorem entryM_ok {P:Program} {rd:Nat->Blk} {o:Oper} {t:Nat->AV} {e:CE} (h:entryM rd o t=some e):CE.Good P o t rd e:=by
 simp [entryM] at h
def glM (P:Program) (o:Oper):Option CE:=none
theorem glM_ok {P:Program} {rd:Nat->Blk} {o:Oper} {t:Nat->AV} {e:CE} (h:glM P o=some e):CE.Good P o t rd e:=by
 simp [glM] at h
def moreM (P:Program) (rd:Nat->Blk) (nid:Nat) (o:Oper) (t:Nat->AV):Option CE :=
 match o.op with
 | .lookup ..=>lookE P rd o t
 | .mapUpdate ..=>updE P rd o t
 | .insert ..=>updE P rd o t
 | .makeMap ..=>mkM P rd nid o t
 | .typeAssert ..=>taM P o t
 | .range ..=>rangeM P rd nid o t
 | .next ..=>nextM rd o t
 | .load ..=>glM P o
 | .entry ..=>entryM rd o t
 | .call { callee:=.builtin .len,.. }=>lenM P rd o t
 | .call { callee:=.builtin .delete,.. }=>delM P rd o t
 | _=>none
theorem moreM_ok {P:Program} {rd:Nat->Blk} {nid:Nat} {o:Oper} {t:Nat->AV} {e:CE} (hd:∀ k,nid<=k->rd k=.dead) (h:moreM P rd nid o t=some e):CE.Good P o t rd e:=by
 unfold moreM at h
 split at h
 · exact lookE_ok h
 · exact updE_ok h
 · exact updE_ok h
 · exact mkM_ok hd h
 · exact taM_ok h
 · exact rangeM_ok hd h
 · exact nextM_ok h
 · exact glM_ok h
 · exact entryM_ok h
 · exact lenM_ok h
 · exact delM_ok h
 · cases h
end Go.Ax

namespace Go.Ax
open Go
variable [Inhabited Gl0]
def Env.give (E:Env) (i d:Nat) (b:Option Nat) (κ η:Nat):Env :=
 ⟨fun j=>if j=d then true else E.lv j,fun j=>if j=d then b else E.ι j,fun j=>if j=d then κ else E.κ j,fun j=>if j=d then η else E.η j,
  fun j x=>j≠d/\E.σ j x/\(j=i->b≠some x)⟩
theorem Env.give_same (E:Env) (i d:Nat) (b:Option Nat) (κ η:Nat):(E.give i d b κ η).lv d=true/\(E.give i d b κ η).ι d=b/\(E.give i d b κ η).κ d=κ/\(E.give i d b κ η).η d=η:=by simp [Env.give]
theorem Env.give_ne (E:Env) (i d j:Nat) (b:Option Nat) (κ η:Nat) (h:j≠d):(E.give i d b κ η).lv j=E.lv j/\(E.give i d b κ η).ι j=E.ι j/\(E.give i d b κ η).κ j=E.κ j/\(E.give i d b κ η).η j=E.η j:=by simp [Env.give,h]
structure Opn (i:Nat) (S:Nat->Prop) (E E':Env):Prop where
 ids:∀ j,E.lv j=true->E'.lv j=true/\E'.ι j=E.ι j/\E'.κ j=E.κ j/\E'.η j=E.η j
 keep:∀ j,E.lv j=true->j≠i->∀ x,E'.σ j x↔E.σ j x
 sub:∀ x,E'.σ i x->E.σ i x
 rest:∀ x,E.σ i x->¬ S x->E'.σ i x
theorem Opn.refl (i:Nat) (S:Nat->Prop) (E:Env):Opn i S E E:=⟨fun _ h=>⟨h,rfl,rfl,rfl⟩,fun _ _ _ _=>Iff.rfl,fun _ h=>h,fun _ h _=>h⟩
theorem Opn.via {i:Nat} {S:Nat->Prop} {E E':Env} (h:Opn i S E E'):E.via E' some:=fun a c hc hl=>by cases hc;exact h.ids a hl
theorem Opn.trans {i:Nat} {S S1 S2:Nat->Prop} {E E1 E2:Env} (h:Opn i S1 E E1) (k:Opn i S2 E1 E2) (h1:∀ x,S1 x->S x) (h2:∀ x,S2 x->S x):Opn i S E E2 where
 ids:=fun j hl=>by
  obtain ⟨a1,a2,a3,a4⟩:=h.ids j hl
  obtain ⟨b1,b2,b3,b4⟩:=k.ids j a1
  exact ⟨b1,b2.trans a2,b3.trans a3,b4.trans a4⟩
 keep:=fun j hl hj x=>(k.keep j (h.ids j hl).1 hj x).trans (h.keep j hl hj x)
 sub:=fun x hx=>h.sub x (k.sub x hx)
 rest:=fun x hx hn=>k.rest x (h.rest x hx fun hs=>hn (h1 x hs)) fun hs=>hn (h2 x hs)
theorem Conc.split {H:HH} {E:Env} {w:World} {M:List Blk} (hC:Conc H E w M) {i d κ η:Nat} {bo:Option Nat} {B:Blk} (hd:getM M d=.dead) (hi:getM M i=.any) (hσ:∀ b,bo=some b->E.σ i b) (hroot:∀ x,E.ι i=some x->¬ E.σ i x)
 (hB:BlkOk H (E.give i d bo κ η) w d B):Conc H (E.give i d bo κ η) w (putM M d B)/\Evol [] H E w H (E.give i d bo κ η) w/\Opn i (fun x=>bo=some x) E (E.give i d bo κ η):=by
 have hdead:E.lv d=false:=by have:=hC.blk d;rw [hd] at this;exact this
 have hli:E.lv i=true:=by have:=hC.blk i;rw [hi] at this;exact this.1
 have hne:∀ j,E.lv j=true->j≠d:=by rintro j hj rfl;rw [hdead] at hj;cases hj
 have hid:=hne i hli
 have hop:Opn i (fun x=>bo=some x) E (E.give i d bo κ η):=by
  refine ⟨fun j hl=>?_,fun j hl hj x=>?_,fun x hx=>hx.2.1,fun x hx hn=>⟨hid,hx,fun _=>hn⟩⟩
  · obtain ⟨e1,e2,e3,e4⟩:=E.give_ne i d j bo κ η (hne j hl)
    exact ⟨e1.trans hl,e2,e3,e4⟩
  · exact ⟨fun h=>h.2.1,fun h=>⟨hne j hl,h,fun e=>absurd e hj⟩⟩
 have hhas:∀ j x,(E.give i d bo κ η).has j x->(j=d/\bo=some x/\E.has i x)∨(j≠d/\E.has j x/\(j=i->bo≠some x)):=by
  rintro j x ⟨h1,h2⟩
  by_cases hj:j=d
  · subst hj
    rcases h2 with h2 | h2
    · have h2:bo=some x:=by simpa [Env.give] using h2
      exact .inl ⟨rfl,h2,hli,.inr (hσ x h2)⟩
    · exact absurd rfl h2.1
  · obtain ⟨e1,e2,_⟩:=E.give_ne i d j bo κ η hj
    rcases h2 with h2 | h2
    · refine .inr ⟨hj,⟨e1 ▸ h1,.inl (e2 ▸ h2)⟩,?_⟩
      rintro rfl hb
      exact hroot x (e2 ▸ h2) (hσ x hb)
    · exact .inr ⟨hj,⟨e1 ▸ h1,.inr h2.2.1⟩,h2.2.2⟩
 refine ⟨⟨hC.imm,hC.tf,fun j=>?_,fun a c x ha hc=>?_,fun a x ha=>?_,fun a x ha hx=>?_⟩,⟨rfl,rfl,rfl,Nat.le_refl _,fun _ _ _=>rfl,fun a x ha=>?_,HH.le_refl _,fun _ _ _ h=>.inl h,fun j hl _=>hop.ids j hl⟩,hop⟩
 · by_cases hj:d=j
   · subst hj;rw [getM_put_same];exact hB
   · rw [getM_put_ne _ _ _ _ hj]
     have hj':j≠d:=fun e=>hj e.symm
     obtain ⟨e1,e2,e3,e4⟩:=E.give_ne i d j bo κ η hj'
     by_cases hji:j=i
     · subst hji
       rw [hi]
       have:=hC.blk j
       rw [hi] at this
       obtain ⟨g1,b,o,g2,g3⟩:=this
       exact ⟨e1.trans g1,b,o,e2.trans g2,g3⟩
     · have:=(hC.blk j).move (f:=some) (H':=H) (E':=E.give i d bo κ η) (w':=w) (i':=j) (HH.le_refl _) hop.via e1 e2 e3 e4 (fun x=>by simp [Env.give,hj',hji]) fun _ _=>rfl
       rwa [renB_some] at this
 · rcases hhas a x ha with ⟨rfl,a1,a2⟩ | ⟨a0,a1,a2⟩<;>rcases hhas c x hc with ⟨rfl,b1,b2⟩ | ⟨b0,b1,b2⟩
   · rfl
   · have:=hC.injH i c x a2 b1
     exact absurd a1 (b2 this.symm)
   · have:=hC.injH a i x a1 b2
     exact absurd b1 (a2 this)
   · exact hC.injH a c x a1 b1
 · rcases hhas a x ha with ⟨rfl,a1,a2⟩ | ⟨a0,a1,a2⟩
   · exact hC.sepH i x a2
   · exact hC.sepH a x a1
 · rcases hhas a x ⟨ha,.inr hx⟩ with ⟨rfl,a1,a2⟩ | ⟨a0,a1,a2⟩
   · exact hC.ltH a2
   · exact hC.ltH a1
 · rcases hhas a x ha with ⟨rfl,a1,a2⟩ | ⟨a0,a1,a2⟩
   · exact .inl ⟨i,a2⟩
   · exact .inl ⟨a,a1⟩
def avOf:Tr->AV
 | .av a=>a
 | _=>.junk
theorem avOf_ok {H:HH} {hp:Nat->Option Obj} {t:Tr} {v:Value} {S:Nat->Prop} (h:TrOk H hp t v S):Rel (avOf t) H E0 v:=by
 cases t with
 | av a=>exact h
 | _=>trivial
mutual
def openV:Tr->Nat->AV×List Blk
 | .av a,_=>(a,[])
 | .box ty sz cs,d=>(.ptr (d+len (openL cs d).2) 0 sz 0,(openL cs d).2++[.box ty (openL cs d).1])
 | .row ty sz n c,d=>(.own d sz 0 n,[.row ty sz n none fun k j=>avOf (c k j)])
 | .frow ty sz n c,d=>(.own d sz 0 n,[.row ty sz n none c])
def openL:List Tr->Nat->List AV×List Blk
 | [],_=>([],[])
 | t::ts,d=>((openV t d).1::(openL ts (d+len (openV t d).2)).1,(openV t d).2++(openL ts (d+len (openV t d).2)).2)
end
def puts:List Blk->Nat->List Blk->List Blk
 | M,_,[]=>M
 | M,d,B::r=>puts (putM M d B) (d+1) r
theorem getM_puts:∀ (L M:List Blk) (d j:Nat),getM (puts M d L) j=if d<=j/\j<d+len L then getM L (j - d) else getM M j
 | [],M,d,j=>by
   have h:¬ (d<=j/\j<d+len ([]:List Blk)):=by simp [len]
   rw [if_neg h];rfl
 | B::r,M,d,j=>by
   simp only [puts]
   rw [getM_puts r]
   by_cases h1:d=j
   · subst h1
     rw [if_neg (by omega),getM_put_same,if_pos ⟨Nat.le_refl _,by simp [len]⟩]
     simp [getM]
   · by_cases h2:d+1<=j/\j<d+1+len r
     · rw [if_pos h2,if_pos (by simp [len];omega)]
       obtain ⟨m,rfl⟩:∃ m,j=d+1+m:=⟨j - (d+1),by omega⟩
       have e1:d+1+m - (d+1)=m:=by omega
       have e2:d+1+m - d=m+1:=by omega
       rw [e1,e2];rfl
     · rw [if_neg h2,if_neg (by simp [len];omega),getM_put_ne _ _ _ _ h1]
theorem puts_append:∀ (L R M:List Blk) (d:Nat),puts M d (L++R)=puts (puts M d L) (d+len L) R
 | [],R,M,d=>rfl
 | B::r,R,M,d=>by
   simp only [List.cons_append,puts,puts_append r,len]
   congr 1
   omega
theorem Evol.trans0 {H H1 H2:HH} {E E1 E2:Env} {w w1 w2:World} (h:Evol [] H E w H1 E1 w1) (k:Evol [] H1 E1 w1 H2 E2 w2):Evol [] H E w H2 E2 w2:=h.trans k fun _ h=>h
structure Pool (H:HH) (E:Env) (w:World) (M:List Blk) (i d top:Nat):Prop where
 conc:Conc H E w M
 any:getM M i=.any
 lt:i<d
 dead:∀ k,d<=k->k<top->getM M k=.dead
 root:∀ x,E.ι i=some x->¬ E.σ i x
theorem Pool.next {H:HH} {E E':Env} {w:World} {M:List Blk} {i d top:Nat} {S:Nat->Prop} {L:List Blk} (h:Pool H E w M i d top) (hC:Conc H E' w (puts M d L)) (ho:Opn i S E E'):Pool H E' w (puts M d L) i (d+len L) top where
 conc:=hC
 any:=by rw [getM_puts,if_neg (by have:=h.lt;omega)];exact h.any
 lt:=by have:=h.lt;omega
 dead:=fun k hk ht=>by rw [getM_puts,if_neg (by omega)];exact h.dead k (by omega) ht
 root:=fun x hx hs=>by
  have hl:E.lv i=true:=by have:=h.conc.blk i;rw [h.any] at this;exact this.1
  have:=(ho.ids i hl).2.1
  exact h.root x (this ▸ hx) (ho.sub x hs)
mutual
theorem openV_ok {H:HH} {w:World} {i top:Nat}:∀ (t:Tr) {E:Env} {M:List Blk} {d:Nat} {S:Nat->Prop} {v:Value},Pool H E w M i d top->d+len (openV t d).2<=top->(∀ x,S x->E.σ i x)->TrOk H (fun b=>w.heap[b]?) t v S ->
 ∃ E',Conc H E' w (puts M d (openV t d).2)/\Evol [] H E w H E' w/\Opn i S E E'/\Rel (openV t d).1 H E' v
 | .av a,E,M,d,S,v,hp,_,_,h=>⟨E,hp.conc,Evol.refl _ _ _ _,Opn.refl _ _ _,Rel.env (fun a c hc hl=>by simp [E0] at hl) h⟩
 | .box ty sz cs,E,M,d,S,v,hp,htop,hS,h=>by
   obtain ⟨b,vs,rfl,h2,h3,h4,h5⟩:=h
   have hlen:∀ A B:List Blk,len (A++B)=len A+len B:=fun A B=>by simp [len_eq]
   simp only [openV,hlen,len] at htop
   obtain ⟨E1,g1,g2,g3,g4⟩:=openL_ok cs hp (by omega) (fun x hx=>hS x hx.1) h5
   have hq:=hp.next g1 g3
   generalize hd':d+len (openL cs d).2=d' at *
   have hdd:getM (puts M d (openL cs d).2) d'=.dead:=by rw [getM_puts,if_neg (by omega)];exact hp.dead d' (by omega) (by omega)
   have hb1:E1.σ i b:=g3.rest b (hS b h2) fun hx=>hx.2 rfl
   obtain ⟨s1,s2,s3,s4⟩:=E1.give_same i d' (some b) 0 0
   have hlt:=hp.lt
   have hdead1:E1.lv d'=false:=by have:=g1.blk d';rw [hdd] at this;exact this
   have hvia:E1.via (E1.give i d' (some b) 0 0) some:=fun a c hc hl=>by
    cases hc
    have:a≠d':=by rintro rfl;rw [hdead1] at hl;cases hl
    obtain ⟨e1,e2,e3,e4⟩:=E1.give_ne i d' a (some b) 0 0 this
    exact ⟨e1.trans hl,e2,e3,e4⟩
   obtain ⟨c1,c2,c3⟩:=g1.split (κ:=0) (η:=0) (bo:=some b) (B:=.box ty (openL cs d).1) hdd hq.any (fun x hx=>by cases hx;exact hb1) hq.root
    ⟨s1,b,vs,s2,h3,h4,RelL.env hvia g4⟩
   refine ⟨_,?_,g2.trans0 c2,g3.trans c3 (fun x hx=>hx.1) (fun x hx=>by cases hx;exact h2),?_⟩
   · simp only [openV,puts_append,puts,hd']
     exact c1
   · simp only [openV,hd']
     exact ⟨s1,b,s2,by simp⟩
 | .row ty sz n c,E,M,d,S,v,hp,htop,hS,h=>by
   simp only [openV,len] at htop
   obtain ⟨κ,h1,h2,⟨rfl,rfl,rfl⟩ | ⟨b,vs,rfl,h4,h5,h6,h7,F,h8,h9,h10⟩⟩:=h
   · obtain ⟨s1,s2,s3,s4⟩:=E.give_same i d none 0 0
     obtain ⟨c1,c2,c3⟩:=hp.conc.split (κ:=0) (η:=0) (bo:=none) (B:=.row ty sz 0 none fun k j=>avOf (c k j)) (hp.dead d (Nat.le_refl _) (by omega)) hp.any (fun x hx=>by cases hx) hp.root
      ⟨s1,by rw [s3,s4];exact ⟨rfl,Nat.le_refl _⟩,by rw [s3];exact Nat.zero_le _,(fun q hq=>by cases hq),by rw [s2];exact s3⟩
     exact ⟨_,c1,c2,(Opn.refl i S E).trans c3 (fun _ h=>h) (fun x hx=>by cases hx),⟨s1,by rw [s3,s4];exact ⟨Nat.le_refl _,Nat.le_refl _⟩,by rw [s2];exact ⟨rfl,rfl,rfl⟩⟩⟩
   · obtain ⟨s1,s2,s3,s4⟩:=E.give_same i d (some b) κ n
     obtain ⟨c1,c2,c3⟩:=hp.conc.split (κ:=κ) (η:=n) (bo:=some b) (B:=.row ty sz n none fun k j=>avOf (c k j)) (hp.dead d (Nat.le_refl _) (by omega)) hp.any (fun x hx=>by cases hx;exact hS b h4) hp.root
      ⟨s1,by rw [s3,s4];exact ⟨rfl,h1⟩,by rw [s3];exact h2,(fun q hq=>by cases hq),by
       rw [s2,s3]
       refine ⟨vs,h5,h6,h7,fun k hk j hj=>?_⟩
       obtain ⟨x,g1,g2⟩:=h10 k hk j hj
       refine ⟨x,g1,?_⟩
       exact avOf_ok g2⟩
     refine ⟨_,c1,c2,(Opn.refl i S E).trans c3 (fun _ h=>h) (fun x hx=>by cases hx;exact h4),⟨s1,by rw [s3,s4];exact ⟨by omega,h1⟩,?_⟩⟩
     rw [s2,s3]
     exact ⟨_,rfl,fun _=>by simp,by simp⟩
 | .frow ty sz n c,E,M,d,S,v,hp,htop,hS,h=>by
   simp only [openV,len] at htop
   obtain ⟨κ,h1,h2,⟨rfl,rfl,rfl⟩ | ⟨b,vs,rfl,h4,h5,h6,h7,h10⟩⟩:=h
   · obtain ⟨s1,s2,s3,s4⟩:=E.give_same i d none 0 0
     obtain ⟨c1,c2,c3⟩:=hp.conc.split (κ:=0) (η:=0) (bo:=none) (B:=.row ty sz 0 none c) (hp.dead d (Nat.le_refl _) (by omega)) hp.any (fun x hx=>by cases hx) hp.root
      ⟨s1,by rw [s3,s4];exact ⟨rfl,Nat.le_refl _⟩,by rw [s3];exact Nat.zero_le _,(fun q hq=>by cases hq),by rw [s2];exact s3⟩
     exact ⟨_,c1,c2,(Opn.refl i S E).trans c3 (fun _ h=>h) (fun x hx=>by cases hx),⟨s1,by rw [s3,s4];exact ⟨Nat.le_refl _,Nat.le_refl _⟩,by rw [s2];exact ⟨rfl,rfl,rfl⟩⟩⟩
   · obtain ⟨s1,s2,s3,s4⟩:=E.give_same i d (some b) κ n
     obtain ⟨c1,c2,c3⟩:=hp.conc.split (κ:=κ) (η:=n) (bo:=some b) (B:=.row ty sz n none c) (hp.dead d (Nat.le_refl _) (by omega)) hp.any (fun x hx=>by cases hx;exact hS b h4) hp.root
      ⟨s1,by rw [s3,s4];exact ⟨rfl,h1⟩,by rw [s3];exact h2,(fun q hq=>by cases hq),by
       rw [s2,s3]
       refine ⟨vs,h5,h6,h7,fun k hk j hj=>?_⟩
       obtain ⟨x,g1,g2⟩:=h10 k hk j hj
       exact ⟨x,g1,g2⟩⟩
     refine ⟨_,c1,c2,(Opn.refl i S E).trans c3 (fun _ h=>h) (fun x hx=>by cases hx;exact h4),⟨s1,by rw [s3,s4];exact ⟨by omega,h1⟩,?_⟩⟩
     rw [s2,s3]
     exact ⟨_,rfl,fun _=>by simp,by simp⟩
theorem openL_ok {H:HH} {w:World} {i top:Nat}:∀ (l:List Tr) {E:Env} {M:List Blk} {d:Nat} {S:Nat->Prop} {vs:List Value},Pool H E w M i d top->d+len (openL l d).2<=top->(∀ x,S x->E.σ i x)->TrOkL H (fun b=>w.heap[b]?) l vs S ->
 ∃ E',Conc H E' w (puts M d (openL l d).2)/\Evol [] H E w H E' w/\Opn i S E E'/\RelL (openL l d).1 H E' vs
 | [],E,M,d,S,vs,hp,_,_,h=>⟨E,hp.conc,Evol.refl _ _ _ _,Opn.refl _ _ _,h⟩
 | t::ts,E,M,d,S,vs,hp,htop,hS,h=>by
   obtain ⟨v,r,S1,S2,rfl,h2,h3,h4,h5,h6⟩:=h
   have hlen:∀ A B:List Blk,len (A++B)=len A+len B:=fun A B=>by simp [len_eq]
   simp only [openL,hlen] at htop
   obtain ⟨E1,g1,g2,g3,g4⟩:=openV_ok t hp (by omega) (fun x hx=>hS x (h2 x hx)) h5
   obtain ⟨E2,k1,k2,k3,k4⟩:=openL_ok ts (hp.next g1 g3) (by omega) (fun x hx=>g3.rest x (hS x (h3 x hx)) fun hx1=>h4 x hx1 hx) h6
   refine ⟨E2,?_,g2.trans0 k2,g3.trans k3 h2 h3,v,r,rfl,Rel.env k3.via g4,k4⟩
   simp only [openL,puts_append]
   exact k1
end
end Go.Ax

namespace Go.Ax
open Go
variable [Inhabited Gl0]
open Go.MapKept (IsKey sameNow_of_keys heap_set run_checkKey run_findKey)
def KeyT.of:(q:KeyT)->Value->Option q.ty
 | .s,.string z=>some z
 | .i kk,.int k x=>(match kindB k kk with | true=>some x | false=>none)
 | _,_=>none
theorem upd_same {w:World} {b:Nat} {o:Obj} (h:w.heap[b]? = some o):Upd w w b o:=⟨rfl,rfl,rfl,rfl,h,fun _ _=>rfl⟩
def noneK {α:Type} (x:α) (t:T CE):List (α×AV)->T CE
 | []=>t
 | (k,_)::r=>.need (¬ x=k) (noneK x t r)
def wrFrom (d:Nat):List Blk->List (Nat×Blk)
 | []=>[]
 | B::r=>(d,B)::wrFrom (d+1) r
def nthK {α:Type}:List (α×AV)->Nat->Option (α×AV)
 | [],_=>none
 | p::_,0=>some p
 | _::r,n+1=>nthK r n
def idxK (h l:Nat):Nat:=match Nat.ble 900 h with | true=>l - 1 - (h - 900) | false=>h - 784
theorem applyW_wrFrom:∀ (L M:List Blk) (d:Nat),applyW (wrFrom d L) M=puts M d L
 | [],_,_=>rfl
 | B::r,M,d=>by simp only [wrFrom,applyW,puts];exact applyW_wrFrom r _ _
theorem lt_nid {M:List Blk} {rd:Nat->Blk} {nid i:Nat} (hd:∀ k,nid<=k->rd k=.dead) (hi:rd i≠.dead):i<nid:=by
 rcases Nat.lt_or_ge i nid with h | h
 · exact h
 · exact absurd (hd i h) hi
def delBi (has:Int->Bool) (x:Int):Int->Bool:=fun y=>!decide (x=y)&&has y
def delBs (has:ByteArray->Bool) (x:ByteArray):ByteArray->Bool:=fun y=>!decide (x=y)&&has y
def delB:(q:KeyT)->(q.ty->Bool)->q.ty->(q.ty->Bool)
 | .s,has,x=>delBs has x
 | .i _,has,x=>delBi has x
def dropK {α:Type}:List α->Nat->List α
 | [],_=>[]
 | _::r,0=>r
 | p::r,n+1=>p::dropK r n
def delCE (i:Nat) (q:KeyT) (has:q.ty->Bool) (c:q.ty->Tr) (n:Nat) (kn:List (q.ty×AV)):CE:=⟨.tup [],[i],[(i,.tmap q has c n kn)],[],[]⟩
def delT (P:Program) (rd:Nat->Blk) (h:Nat) (o:Oper) (t:Nat->AV):Option (T CE) :=
 match o.op with
 | .call { callee:=.builtin .delete,args,argTypes }=>(match args.toList,argTypes.toList with
   | [m,k],[mt,_]=>(match keyD P mt,scV (ev t k),ev t m with
     | some (d,_,_),some kv,.mref i=>(match rd i with
       | .tmap q has c n kn=>(match q.of kv,keyIs d kv with
         | some x,true=>(match (match Nat.ble 784 h with | true=>nthK kn (idxK h (len kn)) | false=>none) with
           | some (k,_)=>some (.need (x=k) (noneK x (.ret (delCE i q (delB q has x) c (n - 1) (dropK kn (idxK h (len kn))))) (dropK kn (idxK h (len kn)))))
           | none=>some (noneK x (.ite (has x) (.ret (delCE i q (delB q has x) c (n - 1) kn)) (.ret (delCE i q has c n kn))) kn))
         | _,_=>none)
       | _=>none)
     | _,_,_=>none)
   | _,_=>none)
 | _=>none
def tmT (P:Program) (rd:Nat->Blk) (nid h:Nat) (o:Oper) (t:Nat->AV):Option (T CE):=none
theorem tmT_ok {P:Program} {rd:Nat->Blk} {nid h:Nat} {o:Oper} {t:Nat->AV} {T0:T CE} (hd:∀ k,nid<=k->rd k=.dead) (hh:tmT P rd nid h o t=some T0):T0.Sat (CE.Good P o t rd):=by
 simp [tmT] at hh
end Go.Ax
