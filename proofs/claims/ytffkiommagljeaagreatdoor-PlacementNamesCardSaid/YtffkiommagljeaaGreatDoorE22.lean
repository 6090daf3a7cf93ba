import Derived.Stop.Asserts
import Derived.Laws.Externs
import Derived.Test.YtffkiommagljeaaGreatDoorE16
import Derived.Test.YtffkiommagljeaaGreatDoorE17
import Derived.Test.YtffkiommagljeaaGreatDoorE21
set_option linter.unusedVariables false
set_option linter.unusedSimpArgs false
set_option linter.unusedSectionVars false
namespace Go.Ax
open Go
variable [Inhabited Gl0]
def nodup:List Nat->Bool
 | []=>true
 | a::l=>!mem l a&&nodup l
theorem nodup_ok:∀ {l:List Nat},nodup l=true->∀ (i j a:Nat),l[i]? = some a->l[j]? = some a->i=j
 | [],_,i,_,a,h,_=>by simp at h
 | x::l,h,i,j,a,hi,hj=>by
   simp only [nodup,Bool.and_eq_true,Bool.not_eq_true'] at h
   have hx:∀ k,l[k]? = some x->False:=fun k hk=>by
    have:=mem_iff.2 (List.mem_of_getElem? hk)
    rw [h.1] at this;cases this
   cases i with
   | zero=>cases j with
     | zero=>rfl
     | succ j=>simp at hi hj;subst hi;exact absurd hj (hx j)
   | succ i=>cases j with
     | zero=>simp at hi hj;subst hj;exact absurd hi (hx i)
     | succ j=>simp at hi hj;rw [nodup_ok h.2 i j a hi hj]
def idx:List Nat->Nat->Option Nat
 | [],_=>none
 | a::l,i=>match Nat.beq a i with
   | true=>some 0
   | false=>(match idx l i with | some k=>some (k+1) | none=>none)
theorem idx_ok:∀ {l:List Nat} {i j:Nat},idx l i=some j->l[j]? = some i
 | [],_,_,h=>by simp [idx] at h
 | a::l,i,j,h=>by
   simp only [idx] at h
   split at h
   · rename_i hb
     cases h
     rw [Nat.eq_of_beq_eq_true hb];rfl
   · split at h
     · rename_i k hk
       cases h
       simpa using idx_ok hk
     · cases h
def pick (L:List Nat) (M:List Blk):List Nat->List Blk
 | []=>[]
 | i::r=>renB (idx L) (getM M i)::pick L M r
theorem getM_pick (L:List Nat) (M:List Blk):∀ (r:List Nat) (j:Nat),getM (pick L M r) j=match r[j]? with | some i=>renB (idx L) (getM M i) | none=>.dead
 | [],j=>by simp [pick,getM_nil]
 | i::r,0=>rfl
 | i::r,j+1=>by simp only [pick,getM,List.getElem?_cons_succ];exact getM_pick L M r j
def Env.pull (E:Env) (L:List Nat):Env :=
 ⟨fun j=>match L[j]? with | some i=>E.lv i | none=>false,fun j=>match L[j]? with | some i=>E.ι i | none=>none,fun j=>match L[j]? with | some i=>E.κ i | none=>0,fun j=>match L[j]? with | some i=>E.η i | none=>0,
  fun j x=>match L[j]? with | some i=>E.σ i x | none=>False⟩
theorem Env.pull_has {E:Env} {L:List Nat} {j x:Nat} (h:(E.pull L).has j x):∃ i,L[j]? = some i/\E.has i x:=by
 unfold Env.has Env.pull at h
 cases hj:L[j]? with
 | none=>simp [hj] at h
 | some i=>exact ⟨i,rfl,by simp [hj] at h;exact h⟩
theorem ACall.compact {P:Program} {f:FuncId} {args:List AV} {r:AV} {M:List Blk} {mv:List Nat} {L:List Nat} (h:ACall P f args [] r M mv) (hL:nodup L=true):ACall P f args [] (ren (idx L) r) (pick L M L) []:=by
 intro H E w vals hC hargs
 refine (h H E w vals hC hargs).mono ?_
 rintro e w1 ⟨v,H1,E1,rfl,hr,hC1,hE1⟩
 have hvia:E1.via (E1.pull L) (idx L):=fun i j hij hl=>by
  have:=idx_ok hij
  simp [Env.pull,this,hl]
 refine ⟨v,H1,E1.pull L,rfl,Rel.ren _ hvia hr,⟨hC1.imm,hC1.tf,fun j=>?_,fun i j b hi hj=>?_,fun i b hi=>?_,fun i b hi hib=>?_⟩,⟨hE1.os,hE1.tape,hE1.output,hE1.size,hE1.keep,fun i b hi=>?_,hE1.hh,hE1.new,fun i hl _=>?_⟩⟩
 · rw [getM_pick]
   cases hj:L[j]? with
   | none=>simp only [Env.pull,BlkOk,hj]
   | some i =>
     simp only []
     refine (hC1.blk i).move (HH.le_refl _) hvia ?_ ?_ ?_ ?_ (fun b=>?_) fun _ _=>rfl<;>simp_all [Env.pull]
 · obtain ⟨x,hx,h1⟩:=Env.pull_has hi
   obtain ⟨y,hy,h2⟩:=Env.pull_has hj
   have:=hC1.injH x y b h1 h2
   subst this
   exact nodup_ok hL i j x hx hy
 · obtain ⟨x,hx,h1⟩:=Env.pull_has hi
   exact hC1.sepH x b h1
 · obtain ⟨x,hx,h1⟩:=Env.pull_has ⟨hi,.inr hib⟩
   exact hC1.ltH h1
 · obtain ⟨x,hx,h1⟩:=Env.pull_has hi
   exact hE1.own x b h1
 · have:=hC.blk i
   rw [getM_nil] at this
   rw [show E.lv i=false from this] at hl;cases hl
mutual
def idsA:AV->List Nat
 | .ptr i _ _ _=>[i]
 | .own i _ _ _=>[i]
 | .mref i=>[i]
 | .agg cs=>idsL cs
 | .tup cs=>idsL cs
 | .fn _ a b=>idsL a++idsL b
 | .ifc _ a=>idsA a
 | _=>[]
def idsL:List AV->List Nat
 | []=>[]
 | a::l=>idsA a++idsL l
end
def idsP:List (Nat×List AV)->List Nat
 | []=>[]
 | p::r=>idsL p.2++idsP r
def idsB:Blk->List Nat
 | .box _ cs=>idsL cs
 | .lst _ _ _ _ cs=>idsL cs
 | .mp es _=>idsL (es.map fun e=>e.2.1)
 | .mit m _ _ _=>[m]
 | .tmap _ _ _ _ kn=>idsL (kn.map fun p=>p.2)
 | .trow _ _ _ _ _ op _=>idsP op
 | _=>[]
def fresh:List Nat->List Nat->List Nat
 | seen,[]=>seen
 | seen,i::r=>match mem seen i with | true=>fresh seen r | false=>fresh (seen++[i]) r
def reach (rd:Nat->Blk):Nat->List Nat->List Nat
 | 0,l=>l
 | n+1,l=>(fun m=>match Nat.beq (len m) (len l) with | true=>l | false=>reach rd n m) (fresh l (l.flatMap fun i=>idsB (rd i)))
def wrOf:Nat->Nat->List Blk->List (Nat×Blk)
 | _,_,[]=>[]
 | p,s,B::r=>(p,renB (shift s) B)::wrOf (p+1) s r
theorem place_eq:∀ (L M:List Blk) (p s:Nat),place M p s L=applyW (wrOf p s L) M
 | [],_,_,_=>rfl
 | B::r,M,p,s=>by simp only [place,wrOf,applyW];exact place_eq r _ _ _
theorem ids_wrOf:∀ (L:List Blk) (p s k:Nat),k<len L->p+k∈ids (wrOf p s L)
 | [],_,_,_,h=>by simp [len] at h
 | B::r,p,s,0,_=>by simp [wrOf,ids]
 | B::r,p,s,k+1,h=>by
   simp only [wrOf,ids,List.mem_cons]
   right
   rw [show p+(k+1)=p+1+k by omega]
   exact ids_wrOf r (p+1) s k (by simpa [len] using h)
abbrev Ans:=AV×List Blk×List Nat×List Prop
def IH1:=Nat->FuncId->List AV->List Blk->Option Ans
def IH1.Ok (P:Program) (ih:IH1):Prop:=∀ p g args M r M' mv ob,ih p g args M=some (r,M',mv,ob)->Hold ob->ACall P g args M r M' mv
def only (L:List Nat) (rd:Nat->Blk) (i:Nat):Blk:=match mem L i with | true=>rd i | false=>.dead
def depth:Nat:=8
def plainFn (P:Program) (g:FuncId):Bool:=match P.funcs[g]? with | some fn=>!(fn.name == "runtime.NumGoroutine" || fn.body.isNone) | none=>false
abbrev ER:=Exit×St×List Prop
structure Hints where
 op:FuncId->Nat->Nat->Option Hint
 lp:FuncId->Nat->Option (Exit×(St->Option St))
 sub:FuncId->Bool
 ct:FuncId->List AV->List Blk->Option Ans
def Hints.Ok (P:Program) (ht:Hints):Prop:=∀ g args M r M' mv ob,ht.ct g args M=some (r,M',mv,ob)->Hold ob->ACall P g args M r M' mv
def keyOf:Code->Option Nat
 | .region id _ _=>some id
 | .seq a _=>keyOf a
 | .block _ c=>keyOf c
 | .loop c=>keyOf c
 | _=>none
def ansOf (P:Program) (fn:Func) (fr:Bool) (e:ER):Option Ans :=
 match e with
 | (.ret,st,ob) | (.normal,st,ob)=>(match resA P st fn.results.toList with
   | some l=>(match fr with
     | false=>some (resV l,st.m,st.mv,ob)
     | true=>(fun L=>match nodup L with
       | true=>some (ren (idx L) (resV l),pick L st.m L,[],ob)
       | false=>none) (reach (getM st.m) depth (fresh [] (idsL l))))
   | none=>none)
 | _=>none
def noBlk (M:List Blk):Bool:=match M with | []=>true | _=>false
def inl (P:Program) (ec:FuncId->Code->St->Option ER) (g:FuncId) (args:List AV) (M:List Blk):Option Ans :=
 match P.funcs[g]? with
 | some fn=>(match fn.body with
   | some c=>(match ec g c ⟨initT fn.ntmps args,M,[]⟩ with
     | some e=>ansOf P fn (noBlk M) e
     | none=>none)
   | none=>none)
 | none=>none
def findM (name:String):List Method->Option Method
 | []=>none
 | m::r=>match m.name==name with | true=>some m | false=>findM name r
theorem findM_eq (name:String):∀ l,findM name l=l.find? (·.name==name)
 | []=>rfl
 | m::r=>by
   simp only [findM,List.find?_cons,findM_eq name r]
   cases m.name==name<;>rfl
def isPtrD:TypeDesc->Bool
 | .pointer _=>true
 | _=>false
def methE (P:Program) (ty:TypeId) (name:String):Option FuncId:=match P.info? ty with
 | some i=>(match findM name i.methods.toList with
   | some m=>(match m.path.toList,m.func,P.underlying ty with
     | [],some (f,b),some d=>(match b==isPtrD d||!b&&!isPtrD d with | true=>some f | false=>none)
     | _,_,_=>none)
   | none=>none)
 | none=>none
theorem method_run {P:Program} {w:World} {ty:TypeId} {name:String} {f:FuncId} (v:Value) (h:methE P ty name=some f) (n:Nat):(method (n+1) ty v name).run P w=.ok (f,v) w:=by
 unfold methE at h
 split at h
 case h_2=>cases h
 rename_i i hi
 split at h
 case h_2=>cases h
 rename_i m hm
 split at h
 case h_2=>cases h
 rename_i f' b d hp hf hu
 split at h
 case h_2=>cases h
 rename_i hb
 cases h
 have hm':i.methods.find? (·.name==name)=some m:=by
  rw [findM_eq] at hm
  rw [<- Array.find?_toList];exact hm
 have hpt:m.path=#[]:=Array.ext' hp
 cases b with
 | true =>
   cases d<;>simp [isPtrD] at hb
   simp [method,typeInfo,hi,hm',hpt,hf,follow,receiverAt,run_underlying hu,Place.get,Result.andThen]
 | false =>
   cases d<;>simp [isPtrD] at hb<;>simp [method,typeInfo,hi,hm',hpt,hf,follow,receiverAt,run_underlying hu,Place.get,Result.andThen]
def nTO:String := "internal/reflectlite.TypeOf"
def nCo:String := "(internal/reflectlite.rtype).Comparable"
def cutT (P:Program) (n:String):Option TypeId:=match P.cutTypes.find? (·.1==n) with | some (_,t)=>some t | none=>none
def extE (P:Program) (g:FuncId) (args:List AV):Option AV:=match P.funcs[g]? with
 | some fn=>(match fn.body.isNone&&fn.origin == "" with
   | true=>(match fn.name==nTO with
     | true=>(match args,cutT P "internal/reflectlite.rtype" with
       | [.ifc t _],some rt=>some (.ifc rt (.agg [.s (typeHandle P t)]))
       | _,_=>none)
     | false=>(match fn.name==nCo with
       | true=>(match args with
         | [.agg [.s h]]=>(match handleType P h with
           | some t=>(match P.packed t||P.holdsPacked P.depth t,P.info? t with
             | false,some i=>some (.s (.bool i.comparable))
             | _,_=>none)
           | none=>none)
         | _=>none)
       | false=>none))
   | false=>none)
 | none=>none
theorem find_TO {fn:Func} (h:fn.name=nTO):Extern.find fn=some Extern.ReflectliteType.typeOf:=by
 unfold Extern.find
 simp only [h]
 have h1:Extern.allGenericRows.lookup nTO=none:=by kernel_rfl
 have h2:Extern.allTypedRows.lookup nTO=none:=by kernel_rfl
 have h3:Extern.allRows.lookup nTO=some Extern.ReflectliteType.typeOf:=by kernel_rfl
 simp [h1,h2,h3]
theorem next_TO {fn:Func} (h:fn.name=nTO) (ho:fn.origin = ""):Extern.findNext fn=none:=by
 unfold Extern.findNext
 simp only [h,ho]
 have h1:Extern.allNextRows.lookup nTO=none:=by kernel_rfl
 have h2:Extern.allNextRows.lookup "" = none:=by kernel_rfl
 simp [h1,h2]
theorem find_Co {fn:Func} (h:fn.name=nCo):Extern.find fn=some (Extern.ReflectliteType.method fun t=>do Extern.Rtype.noPackHeld "Comparable" t;pure (.bool (<- typeInfo t).comparable)):=by
 unfold Extern.find
 simp only [h]
 have h1:Extern.allGenericRows.lookup nCo=none:=by kernel_rfl
 have h2:Extern.allTypedRows.lookup nCo=none:=by kernel_rfl
 have h3:Extern.allRows.lookup nCo=some (Extern.ReflectliteType.method fun t=>do Extern.Rtype.noPackHeld "Comparable" t;pure (.bool (<- typeInfo t).comparable)):=by kernel_rfl
 simp [h1,h2,h3]
theorem next_Co {fn:Func} (h:fn.name=nCo) (ho:fn.origin = ""):Extern.findNext fn=none:=by
 unfold Extern.findNext
 simp only [h,ho]
 have h1:Extern.allNextRows.lookup nCo=none:=by kernel_rfl
 have h2:Extern.allNextRows.lookup "" = none:=by kernel_rfl
 simp [h1,h2]
theorem cutT_ok {P:Program} {n:String} {t:TypeId} (h:cutT P n=some t) (w:World):(cutType n).run P w=.ok t w:=by
 unfold cutT at h
 split at h
 case h_2=>cases h
 rename_i q t' hf
 cases h
 simp [cutType,hf,Result.andThen]
theorem extE_ok {P:Program} {g:FuncId} {args:List AV} {r:AV} (h:extE P g args=some r) {H:HH} {E:Env} {vals:Array Value} (hargs:RelL args H E vals.toList) (w:World):∃ v,(callFunc g vals).run P w=.ok (.value v) w/\Rel r H E v:=by
 unfold extE at h
 split at h
 case h_2=>cases h
 rename_i fn hg
 split at h
 case h_2=>cases h
 rename_i hb
 simp only [Bool.and_eq_true,beq_iff_eq] at hb
 split at h
 · rename_i hn
   have hn:=beq_iff_eq.1 hn
   split at h
   case h_2=>cases h
   rename_i t a rt hrt
   cases h
   obtain ⟨v,q,hv,⟨x,rfl,_⟩,hq⟩:=hargs
   have hq:q=[]:=hq
   subst hq
   have hvals:vals=#[.iface t x]:=Array.ext' hv
   subst hvals
   refine ⟨.iface rt (.agg #[typeHandle P t]),?_,⟨_,rfl,_,rfl,_,[],rfl,⟨rfl,rfl⟩,rfl⟩⟩
   rw [run_callFunc_extern hg (by rw [hn];decide +kernel) hb.1 (next_TO hn hb.2) (find_TO hn)]
   have e:Extern.ReflectliteType.typeOf #[.iface t x]=Extern.ReflectliteType.toType t:=rfl
   simp [e,Extern.ReflectliteType.toType,cutT_ok hrt,Extern.Rtype.handle,Result.andThen]
 · split at h
   case h_2=>cases h
   rename_i hn
   have hn:=beq_iff_eq.1 hn
   split at h
   case h_2=>cases h
   rename_i hd
   split at h
   case h_2=>cases h
   rename_i t ht
   split at h
   case h_2=>cases h
   rename_i i hpk hi
   cases h
   obtain ⟨v,q,hv,⟨vs,rfl,hvs⟩,hq⟩:=hargs
   have hq:q=[]:=hq
   subst hq
   obtain ⟨u,r,hu,⟨rfl,hs⟩,hr⟩:=hvs
   have hr:r=[]:=hr
   subst hr
   have e1:vs=#[u]:=Array.ext' hu
   subst e1
   have hvals:vals=#[.agg #[u]]:=Array.ext' hv
   subst hvals
   simp only [Bool.or_eq_false_iff] at hpk
   refine ⟨.bool i.comparable,?_,⟨rfl,rfl⟩⟩
   rw [run_callFunc_extern hg (by rw [hn];decide +kernel) hb.1 (next_Co hn hb.2) (find_Co hn)]
   have e1:∀ f:TypeId->Sem Value,Extern.ReflectliteType.method f #[.agg #[u]]=(Extern.ReflectliteType.ofRtype (.agg #[u])).bind f:=fun _=>rfl
   have e2:Extern.ReflectliteType.ofRtype (.agg #[u])=(do let t <- Extern.Rtype.ofHandle u;Extern.Rtype.noPack "a Type asked or handed on" t;pure t):=rfl
   have a1:(Extern.Rtype.ofHandle u).run P w=.ok t w:=by simp [Extern.Rtype.ofHandle,ht,Result.andThen]
   have a2:(Extern.Rtype.noPack "a Type asked or handed on" t).run P w=.ok () w:=by
    show (if P.packed t then _ else pure ():Sem Unit).run P w=_
    rw [hpk.1];rfl
   have a3:(Extern.Rtype.noPackHeld "Comparable" t).run P w=.ok () w:=by
    show (if P.holdsPacked P.depth t then _ else pure ():Sem Unit).run P w=_
    rw [hpk.2];rfl
   have a4:(typeInfo t).run P w=.ok i w:=by simp [typeInfo,hi,Result.andThen]
   have a5:(Extern.ReflectliteType.ofRtype (.agg #[u])).run P w=.ok t w:=by
    rw [e2]
    simp only [Sem.run_bind,a1,a2,Result.andThen]
    rfl
   have a6:((Extern.ReflectliteType.ofRtype (.agg #[u])) >>= fun t=>do Extern.Rtype.noPackHeld "Comparable" t;pure (Value.bool (<- typeInfo t).comparable)).run P w=.ok (.bool i.comparable) w:=by
    simp only [Sem.run_bind,a5,a3,a4,Result.andThen]
    rfl
   rw [e1]
   exact (congrArg (fun r=>Result.andThen r fun v w'=>.ok (Next.value v) w') a6)
def upTo:Nat->Nat->List Nat
 | _,0=>[]
 | i,n+1=>i::upTo (i+1) n
theorem upTo_at:∀ (n i j:Nat) (r:List Nat),j<n->(upTo i n++r)[j]? = some (i+j)
 | 0,_,_,_,h=>absurd h (Nat.not_lt_zero _)
 | n+1,i,0,_,_=>rfl
 | n+1,i,j+1,r,h=>by
   simp only [upTo,List.cons_append,List.getElem?_cons_succ,upTo_at n (i+1) j r (by omega)]
   congr 1
   omega
def above (n:Nat):List Nat->List Nat
 | []=>[]
 | i::r=>match Nat.ble n i with | true=>i::above n r | false=>above n r
theorem ACall.compactM {P:Program} {f:FuncId} {args:List AV} {r:AV} {M0 M:List Blk} {mv:List Nat} {L:List Nat} (h:ACall P f args M0 r M mv) (hL:nodup L=true) (hp:∀ i,i<len M0->L[i]? = some i):ACall P f args M0 (ren (idx L) r) (pick L M L) mv:=by
 intro H E w vals hC hargs
 refine (h H E w vals hC hargs).mono ?_
 rintro e w1 ⟨v,H1,E1,rfl,hr,hC1,hE1⟩
 have hvia:E1.via (E1.pull L) (idx L):=fun i j hij hl=>by
  have:=idx_ok hij
  simp [Env.pull,this,hl]
 refine ⟨v,H1,E1.pull L,rfl,Rel.ren _ hvia hr,⟨hC1.imm,hC1.tf,fun j=>?_,fun i j b hi hj=>?_,fun i b hi=>?_,fun i b hi hib=>?_⟩,⟨hE1.os,hE1.tape,hE1.output,hE1.size,hE1.keep,fun i b hi=>?_,hE1.hh,hE1.new,fun i hl hmv=>?_⟩⟩
 · rw [getM_pick]
   cases hj:L[j]? with
   | none=>simp only [Env.pull,BlkOk,hj]
   | some i =>
     simp only []
     refine (hC1.blk i).move (HH.le_refl _) hvia ?_ ?_ ?_ ?_ (fun b=>?_) fun _ _=>rfl<;>simp_all [Env.pull]
 · obtain ⟨x,hx,h1⟩:=Env.pull_has hi
   obtain ⟨y,hy,h2⟩:=Env.pull_has hj
   have:=hC1.injH x y b h1 h2
   subst this
   exact nodup_ok hL i j x hx hy
 · obtain ⟨x,hx,h1⟩:=Env.pull_has hi
   exact hC1.sepH x b h1
 · obtain ⟨x,hx,h1⟩:=Env.pull_has ⟨hi,.inr hib⟩
   exact hC1.ltH h1
 · obtain ⟨x,hx,h1⟩:=Env.pull_has hi
   exact hE1.own x b h1
 · have hi:i<len M0:=by
    rcases Nat.lt_or_ge i (len M0) with h | h
    · exact h
    · have:=hC.blk i
      rw [getM_len _ _ h] at this
      rw [show E.lv i=false from this] at hl;cases hl
   have:=hE1.ids i hl hmv
   simp only [Env.pull,hp i hi]
   exact this
end Go.Ax
