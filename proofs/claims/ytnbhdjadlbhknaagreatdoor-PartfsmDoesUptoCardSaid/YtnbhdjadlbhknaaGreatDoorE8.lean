import Derived.Test.YtnbhdjadlbhknaaGreatDoorE7
set_option linter.unusedVariables false
set_option linter.unusedSimpArgs false
set_option linter.unusedSectionVars false
namespace Go.Ax
open Go
variable [Inhabited jZ]
theorem jm {fn:Func} {n:String} {e:Array Value->Sem Value} (h:fn.name=n) (h1:Extern.allGenericRows.lookup n=none) (h2:Extern.allTypedRows.lookup n=none) (h3:Extern.allRows.lookup n=some e):Extern.find fn=some e:=by
 unfold Extern.find
 simp only [h]
 simp [h1,h2,h3]
theorem kZ {fn:Func} {n:String} (h:fn.name=n) (ho:fn.origin = "") (h1:Extern.allNextRows.lookup n=none):Extern.findNext fn=none:=by
 unfold Extern.findNext
 simp only [h,ho]
 have h2:Extern.allNextRows.lookup "" = none:=by kernel_rfl
 simp [h1,h2]
def qC (P:Program) (t:TypeId):Option (TypeId×TypeInfo):=match P.info? t with
 | some i=>(match i.desc with
   | .named _ u=>(match P.info? u with | some j=>some (u,j) | none=>none)
   | _=>some (t,i))
 | none=>none
theorem lH {P:Program} {t:TypeId} {r:TypeId×TypeInfo} (h:qC P t=some r) (w:World):(Extern.Rtype.under t).run P w=.ok r w:=by
 unfold qC at h
 split at h
 case h_2=>cases h
 rename_i i hi
 split at h
 · rename_i q u hd
   split at h
   case h_2=>cases h
   rename_i j hj
   cases h
   simp [Extern.Rtype.under,typeInfo,hi,hd,hj,Result.andThen]
 · rename_i hd
   cases h
   cases hdd:i.desc<;>first | exact absurd hdd (hd _ _) | simp [Extern.Rtype.under,typeInfo,hi,hdd,Result.andThen]
def aaZ (i:TypeInfo):Option Nat:=match i.desc with
 | .bool=>some 1
 | .int .i64=>some (if i.str == "int" then 2 else 6)
 | .int .i8=>some 3 | .int .i16=>some 4 | .int .i32=>some 5
 | .int .u64=>some (if i.str == "uint" then 7 else if i.str == "uintptr" then 12 else 11)
 | .int .u8=>some 8 | .int .u16=>some 9 | .int .u32=>some 10
 | .array _ _=>some 17 | .chan _ _=>some 18 | .func _ _ _=>some 19 | .interface _=>some 20 | .map _ _=>some 21
 | .pointer _=>some 22 | .slice _=>some 23 | .string=>some 24 | .struct _=>some 25
 | _=>none
def CS (P:Program) (t:TypeId):Option Nat:=match qC P t with | some (_,i)=>aaZ i | none=>none
theorem vO {P:Program} {t:TypeId} {k:Nat} (h:CS P t=some k) (w:World):(Extern.Rtype.kind t).run P w=.ok k w:=by
 unfold CS at h
 split at h
 case h_2=>cases h
 rename_i u i hu
 have h1:=lH hu w
 unfold aaZ at h
 split at h<;>first | (cases h;done) | (rename_i hd;cases h;simp [Extern.Rtype.kind,h1,hd,Result.andThen])
def M7 (P:Program) (t:TypeId):Option TypeId:=match qC P t with
 | some (_,i)=>(match i.desc with
   | .array _ e | .chan _ e | .map _ e | .pointer e | .slice e=>some e
   | _=>none)
 | none=>none
theorem elem_run {P:Program} {t e:TypeId} (h:M7 P t=some e) (w:World):(Extern.Rtype.elem? t).run P w=.ok (some e) w:=by
 unfold M7 at h
 split at h
 case h_2=>cases h
 rename_i u i hu
 have h1:=lH hu w
 split at h<;>first | (cases h;done) | (rename_i hd;cases h;simp [Extern.Rtype.elem?,h1,hd,Result.andThen])
def Gp:TypeDesc->Option (Array (String×TypeId))
 | .interface w=>some w
 | _=>none
def Nw (P:Program) (T V:TypeId):Option Bool:=match P.methodsOfAPack P.depth V||P.methodsOfAPack P.depth T,qC P T,qC P V,P.info? V with
 | false,some (_,i),some (_,j),some k=>(match Gp i.desc,Gp j.desc with
   | some _,some _=>none
   | some want,none=>some (lacking want k.methods).isEmpty
   | none,_=>some false)
 | _,_,_,_=>none
theorem kC {P:Program} {t:TypeId} {what:String} (h:P.methodsOfAPack P.depth t=false) (w:World):(Extern.Rtype.noPackMethods what t).run P w=.ok () w:=by
 show (if P.methodsOfAPack P.depth t then _ else pure ():Sem Unit).run P w=_
 rw [h];rfl
theorem oW {P:Program} {t:TypeId} {what:String} (h:P.packed t=false) (w:World):(Extern.Rtype.noPack what t).run P w=.ok () w:=by
 show (if P.packed t then _ else pure ():Sem Unit).run P w=_
 rw [h];rfl
theorem AP (want:Array (String×TypeId)) (ms:Array Method):(Instr.missingMethod want ms).isNone=(lacking want ms).isEmpty:=by
 cases h:lacking want ms with
 | nil=>rw [missingMethod_none h];rfl
 | cons a l =>
   obtain ⟨m,hm⟩:=missingMethod_some (want:=want) (got:=ms) (by rw [h];simp)
   rw [hm];rfl
theorem Jv {P:Program} {T V:TypeId} {b:Bool} (h:Nw P T V=some b) (w:World):(Extern.Rtype.implements T V).run P w=.ok b w:=by
 unfold Nw at h
 split at h
 case h_2=>cases h
 rename_i u i v j k hp hT hV hk
 simp only [Bool.or_eq_false_iff] at hp
 have h1:=lH hT w
 have h2:=lH hV w
 have h3:=kC (what := "a method set held against an interface's list") hp.1 w
 have h4:=kC (what := "a method set held against an interface's list") hp.2 w
 have h5:(typeInfo V).run P w=.ok k w:=by simp [typeInfo,hk,Result.andThen]
 unfold Extern.Rtype.implements
 simp only [Sem.run_bind,h1,h2,h3,h4,Result.andThen]
 generalize i.desc=di at h
 generalize j.desc=dj at h
 split at h
 · cases h
 · rename_i want hi hj
   cases h
   cases di<;>simp [Gp] at hi
   subst hi
   cases dj<;>simp [Gp] at hj<;>simp [h5,AP,Result.andThen]
 · rename_i hi
   cases h
   cases di<;>simp [Gp] at hi<;>(cases dj<;>rfl)
def nameP (P:Program) (t:TypeId):Option Bool:=match P.info? t with
 | some i=>(match i.desc with
   | .named _ _ | .bool | .int _ | .float _ | .complex _ | .string | .unsafePointer=>some true
   | _=>some false)
 | none=>none
theorem vX {P:Program} {t:TypeId} {b:Bool} (h:nameP P t=some b) (w:World):(Extern.Rtype.hasName t).run P w=.ok b w:=by
 unfold nameP at h
 split at h
 case h_2=>cases h
 rename_i i hi
 split at h<;>cases h
 all_goals
  first
   | (rename_i hd;simp [Extern.Rtype.hasName,typeInfo,hi,hd,Result.andThen];done)
   | (cases hd:i.desc<;>simp_all [Extern.Rtype.hasName,typeInfo,hi,hd,Result.andThen])
def MC:TypeDesc->Bool
 | .chan _ _=>true
 | _=>false
def X7 (P:Program) (T V:TypeId):Option Bool:=match Nat.beq T V with
 | true=>some true
 | false=>(match nameP P T,nameP P V with
   | some true,some true=>some false
   | some _,some _=>(match qC P T,qC P V with
     | some (t,i),some (v,_)=>(match MC i.desc with | true=>none | false=>some (Nat.beq t v))
     | _,_=>none)
   | _,_=>none)
theorem MW {P:Program} {T V:TypeId} {b:Bool} (h:X7 P T V=some b) (w:World):(Extern.Rtype.directlyAssignable T V).run P w=.ok b w:=by
 unfold X7 at h
 split at h
 · rename_i he
   cases h
   have he:=Nat.eq_of_beq_eq_true he
   subst he
   simp [Extern.Rtype.directlyAssignable]
 · rename_i he
   have he:T≠V:=fun e=>by subst e;simp at he
   split at h
   · rename_i q1 q2
     cases h
     simp [Extern.Rtype.directlyAssignable,he,vX q1,vX q2,Result.andThen]
   · rename_i b1 b2 hq q1 q2
     split at h
     case h_2=>cases h
     rename_i t i v j hT hV
     split at h
     · cases h
     rename_i hch
     cases h
     have n1:=vX q1 w
     have n2:=vX q2 w
     have u1:=lH hT w
     have u2:=lH hV w
     have hb:¬ (b1=true/\b2=true):=fun ⟨e1,e2⟩=>hq e1 e2
     have hnat:(t==v)=Nat.beq t v:=by rw [Bool.eq_iff_iff];simp
     cases hd:i.desc<;>simp [hd,MC] at hch<;>simp [Extern.Rtype.directlyAssignable,he,n1,n2,u1,u2,hd,Result.andThen,hb,hnat]
   · cases h
def pQ (P:Program) (f:Array Value->Sem Value) (args:List AV) (rd:Nat->ay) (e:CE):Prop :=
 ∀ M,(∀ i∈e.rd,getM M i=rd i)->∀ H E w (vals:Array Value),Conc H E w M->aA args H E vals.toList->∃ v w' H' E',(f vals).run P w=.ok v w'/\Rel e.r H' E' v/\Conc H' E' w' (dx e.wr (dN e.kl M))/\bF e.kl H E w H' E' w'
theorem Ae {a:AV} {H:HH} {E:Env} {vals:Array Value} (h:aA [a] H E vals.toList):∃ v,vals=#[v]/\Rel a H E v:=by
 obtain ⟨v,r,h1,h2,h3⟩:=h
 have h3:r=[]:=h3
 subst h3
 exact ⟨v,Array.ext' h1,h2⟩
theorem ab3 {a b:AV} {H:HH} {E:Env} {vals:Array Value} (h:aA [a,b] H E vals.toList):∃ v u,vals=#[v,u]/\Rel a H E v/\Rel b H E u:=by
 obtain ⟨v,r,h1,h2,u,q,h3,h4,h5⟩:=h
 have h5:q=[]:=h5
 subst h5;subst h3
 exact ⟨v,u,Array.ext' h1,h2,h4⟩
theorem aeW {a b c:AV} {H:HH} {E:Env} {vs:Array Value} (h:aA [a,b,c] H E vs.toList):∃ x y z,vs=#[x,y,z]/\Rel a H E x/\Rel b H E y/\Rel c H E z:=by
 obtain ⟨v,r,h1,h2,u,q,h3,h4,z,p,h5,h6,h7⟩:=h
 have h7:p=[]:=h7
 subst h7;subst h5;subst h3
 exact ⟨v,u,z,Array.ext' h1,h2,h4,h6⟩
theorem pQ.pure {P:Program} {f:Array Value->Sem Value} {args:List AV} {rd:Nat->ay} {r:AV} {l:List Nat} (h:∀ M,(∀ i∈l,getM M i=rd i)->∀ H E w (vals:Array Value),Conc H E w M->aA args H E vals.toList->∃ v,(f vals).run P w=.ok v w/\Rel r H E v):pQ P f args rd ⟨r,l,[],[],[]⟩:=by
 intro M hM H E w vals hC ha
 obtain ⟨v,h1,h2⟩:=h M hM H E w vals hC ha
 exact ⟨v,w,H,E,h1,h2,hC,bF.refl _ _ _ _⟩
theorem uI {P:Program} {h:Value} {t:TypeId} (ht:handleType P h=some t) (w:World):(Extern.Rtype.ofHandle h).run P w=.ok t w:=by
 simp [Extern.Rtype.ofHandle,ht,Result.andThen]
theorem Og {P:Program} {h:Value} {t:TypeId} (ht:handleType P h=some t) (hp:P.packed t=false) (w:World):(Extern.ReflectliteType.ofRtype (.agg #[h])).run P w=.ok t w:=by
 have e2:Extern.ReflectliteType.ofRtype (.agg #[h])=(do let t <- Extern.Rtype.ofHandle h;Extern.Rtype.noPack "a Type asked or handed on" t;Pure.pure t):=rfl
 rw [e2]
 simp only [Sem.run_bind,uI ht,oW hp,Result.andThen]
 rfl
theorem KO {P:Program} {rt:TypeId} (hr:TA P "internal/reflectlite.rtype" = some rt) (t:TypeId) (w:World):(Extern.ReflectliteType.toType t).run P w=.ok (.iface rt (.agg #[typeHandle P t])) w:=by
 simp [Extern.ReflectliteType.toType,LW hr,Extern.Rtype.handle,Result.andThen]
def hOf (P:Program) (a:AV):Option TypeId:=match a with
 | .s h=>handleType P h
 | _=>none
theorem JM {P:Program} {a:AV} {t:TypeId} (h:hOf P a=some t) {H:HH} {E:Env} {v:Value} (hr:Rel a H E v):handleType P v=some t:=by
 unfold hOf at h
 split at h
 · rw [hr.1];exact h
 · cases h
def QY (P:Program) (a:AV):Option TypeId:=match a with
 | .agg [h]=>(match hOf P h with | some t=>(match P.packed t with | false=>some t | true=>none) | none=>none)
 | _=>none
theorem Ay {P:Program} {a:AV} {t:TypeId} (h:QY P a=some t) {H:HH} {E:Env} {v:Value} (hr:Rel a H E v) (w:World):(Extern.ReflectliteType.ofRtype v).run P w=.ok t w:=by
 unfold QY at h
 split at h
 case h_2=>cases h
 rename_i x
 split at h
 case h_2=>cases h
 rename_i t' ht
 split at h
 case h_2=>cases h
 rename_i hp
 cases h
 obtain ⟨vs,rfl,hvs⟩:=hr
 obtain ⟨u,rfl,hu⟩:=Ae hvs
 exact Og (JM ht hu) hp w
def XI (P:Program) (t:TypeId):Option AV:=match TA P "internal/reflectlite.rtype" with | some rt=>some (.ifc rt (.agg [.s (typeHandle P t)])) | none=>none
theorem NP {P:Program} {t:TypeId} {a:AV} (h:XI P t=some a) (H:HH) (E:Env) (w:World):∃ v,(Extern.ReflectliteType.toType t).run P w=.ok v w/\Rel a H E v:=by
 unfold XI at h
 split at h
 case h_2=>cases h
 rename_i rt hrt
 cases h
 exact ⟨_,KO hrt t w,_,rfl,_,rfl,_,[],rfl,⟨rfl,rfl⟩,rfl⟩
def reE (P:Program) (args:List AV):Option CE:=match args with
 | [r]=>(match QY P r with
   | some t=>(match M7 P t with
     | some e=>(match XI P e with | some a=>some ⟨a,[],[],[],[]⟩ | none=>none)
     | none=>none)
   | none=>none)
 | _=>none
theorem aeo {P:Program} {rd:Nat->ay} {args:List AV} {e:CE} (h:reE P args=some e):pQ P (Extern.ReflectliteType.method Extern.ReflectliteType.elem) args rd e:=by
 unfold reE at h
 split at h
 case h_2=>cases h
 rename_i r
 split at h
 case h_2=>cases h
 rename_i t ht
 split at h
 case h_2=>cases h
 rename_i el hel
 split at h
 case h_2=>cases h
 rename_i a ha
 cases h
 refine pQ.pure fun M _ H E w vals hC hargs=>?_
 obtain ⟨v,rfl,hv⟩:=Ae hargs
 obtain ⟨u,q1,q2⟩:=NP ha H E w
 refine ⟨u,?_,q2⟩
 have e1:Extern.ReflectliteType.method Extern.ReflectliteType.elem #[v]=(Extern.ReflectliteType.ofRtype v).bind Extern.ReflectliteType.elem:=rfl
 rw [e1]
 show ((Extern.ReflectliteType.ofRtype v) >>= Extern.ReflectliteType.elem).run P w=_
 simp only [Sem.run_bind,Ay ht hv,Result.andThen,Extern.ReflectliteType.elem,elem_run hel,q1]
def relE (P:Program) (f:TypeId->TypeId->Option Bool) (args:List AV):Option CE:=match args with
 | [r,.ifc _ u]=>(match QY P r,QY P u with
   | some t,some u=>(match f u t with | some b=>some ⟨.s (.bool b),[],[],[],[]⟩ | none=>none)
   | _,_=>none)
 | _=>none
theorem ME {P:Program} {rd:Nat->ay} {what:String} {f:TypeId->TypeId->Option Bool} {g:TypeId->TypeId->Sem Bool} (hfg:∀ u t b w,f u t=some b->(g u t).run P w=.ok b w) {args:List AV} {e:CE} (h:relE P f args=some e):pQ P (Extern.ReflectliteType.relation what g) args rd e:=by
 unfold relE at h
 split at h
 case h_2=>cases h
 rename_i r ty u
 split at h
 case h_2=>cases h
 rename_i t u' ht hu
 split at h
 case h_2=>cases h
 rename_i b hb
 cases h
 refine pQ.pure fun M _ H E w vals hC hargs=>?_
 obtain ⟨v,x,rfl,hv,y,rfl,hy⟩:=ab3 hargs
 refine ⟨.bool b,?_,rfl,rfl⟩
 have e1:Extern.ReflectliteType.relation what g #[v,.iface ty y]=(do Pure.pure (.bool (<- g (<- Extern.ReflectliteType.ofRtype y) (<- Extern.ReflectliteType.ofRtype v)))):=rfl
 rw [e1]
 simp only [Sem.run_bind,Ay ht hv,Ay hu hy,hfg _ _ _ _ hb,Result.andThen]
 rfl
def RP (P:Program) (u t:TypeId):Option Bool:=match CS P u,P.methodsOfAPack P.depth t||P.packed u with
 | some 20,false=>Nw P u t
 | _,_=>none
theorem TI {P:Program} (u t:TypeId) (b:Bool) (w:World) (h:RP P u t=some b):(Extern.ReflectliteType.implements_ u t).run P w=.ok b w:=by
 unfold RP at h
 split at h
 case h_2=>cases h
 rename_i hk hp
 simp only [Bool.or_eq_false_iff] at hp
 unfold Extern.ReflectliteType.implements_
 simp only [Sem.run_bind,vO hk,Result.andThen]
 simp only [bne_self_eq_false,Bool.false_eq_true,if_false,Sem.run_bind,kC hp.1,oW hp.2,Result.andThen]
 exact Jv h w
def ab9 (P:Program) (u t:TypeId):Option Bool:=match Nat.beq u t||!(P.methodsOfAPack P.depth t||P.methodsOfAPack P.depth u),X7 P u t,Nw P u t with
 | true,some a,some b=>some (a||b)
 | _,_,_=>none
theorem WO {P:Program} (u t:TypeId) (b:Bool) (w:World) (h:ab9 P u t=some b):(Extern.ReflectliteType.assignableTo u t).run P w=.ok b w:=by
 unfold ab9 at h
 split at h
 case h_2=>cases h
 rename_i a c hp hd hi
 cases h
 have h1:=MW hd w
 have h2:=Jv hi w
 unfold Extern.ReflectliteType.assignableTo
 by_cases he:u=t
 · subst he
   simp [h1,h2,Result.andThen]
 · have hb:Nat.beq u t=false:=by cases hq:Nat.beq u t with | false=>rfl | true=>exact absurd (Nat.eq_of_beq_eq_true hq) he
   rw [hb,Bool.false_or,Bool.not_eq_true',Bool.or_eq_false_iff] at hp
   simp [he,kC hp.1,kC hp.2,h1,h2,Result.andThen]
def akE (P:Program) (args:List AV):Option CE:=match args with
 | [h]=>(match hOf P h with
   | some t=>(match P.packed t,CS P t with
     | false,some k=>some ⟨.s (.int .u8 (Int.ofNat k)),[],[],[],[]⟩
     | _,_=>none)
   | none=>none)
 | _=>none
theorem adV {P:Program} {rd:Nat->ay} {args:List AV} {e:CE} (h:akE P args=some e):pQ P (Extern.ReflectliteType.abiMethod fun t=>do Pure.pure (.int .u8 (<- Extern.Rtype.kind t))) args rd e:=by
 unfold akE at h
 split at h
 case h_2=>cases h
 rename_i r
 split at h
 case h_2=>cases h
 rename_i t ht
 split at h
 case h_2=>cases h
 rename_i k hp hk
 cases h
 refine pQ.pure fun M _ H E w vals hC hargs=>?_
 obtain ⟨v,rfl,hv⟩:=Ae hargs
 refine ⟨.int .u8 (Int.ofNat k),?_,rfl,rfl⟩
 have e1:(Extern.ReflectliteType.abiMethod fun t=>do Pure.pure (.int .u8 (<- Extern.Rtype.kind t))) #[v]=(do let t <- Extern.Rtype.ofHandle v;Extern.Rtype.noPack "a method of abi.Type" t;Pure.pure (.int .u8 (<- Extern.Rtype.kind t))):=rfl
 rw [e1]
 simp only [Sem.run_bind,uI (JM ht hv),oW hp,vO hk,Result.andThen]
 rfl
def qV (P:Program) (a:AV):Option (TypeId×AV×Nat):=match a with
 | .agg [h,p,.s (.int .u64 (.ofNat (n+1)))]=>(match hOf P h,p with
   | some t,.ptr i k sz o=>some (t,.ptr i k sz o,n+1)
   | _,_=>none)
 | _=>none
theorem Dg {P:Program} {a p:AV} {t:TypeId} {n:Nat} (h:qV P a=some (t,p,n)) {H:HH} {E:Env} {v:Value} (hr:Rel a H E v) (w:World):∃ ad,(Extern.ReflectliteValue.partsAny v).run P w=.ok (some (t,ad,n)) w/\Rel p H E (.pointer (some ad)):=by
 unfold qV at h
 split at h
 case h_2=>cases h
 rename_i x q n'
 split at h
 case h_2=>cases h
 rename_i t' i k sz o ht
 cases h
 obtain ⟨vs,rfl,hvs⟩:=hr
 obtain ⟨u,y,z,rfl,hu,hy,hz⟩:=aeW hvs
 obtain ⟨rfl,_⟩:=hz
 have hy2:=hy
 obtain ⟨hl,b,hb,rfl⟩:=hy2
 refine ⟨⟨b,k*sz+o,none⟩,?_,hy⟩
 have e1:Extern.ReflectliteValue.partsAny (.agg #[u,.pointer (some ⟨b,k*sz+o,none⟩),.int .u64 (.ofNat (n'+1))])=(do Pure.pure (some (<- Extern.Rtype.ofHandle u,⟨b,k*sz+o,none⟩,(Int.ofNat (n'+1)).toNat))):=rfl
 rw [e1]
 simp only [Sem.run_bind,uI (JM ht hu),Result.andThen]
 rfl
theorem pE {P:Program} {a p:AV} {t:TypeId} {n:Nat} (h:qV P a=some (t,p,n)) (hp:P.packed t=false) {H:HH} {E:Env} {v:Value} (hr:Rel a H E v) (w:World):∃ ad,(Extern.ReflectliteValue.parts v).run P w=.ok (some (t,ad,n)) w/\Rel p H E (.pointer (some ad)):=by
 obtain ⟨ad,h1,h2⟩:=Dg h hr w
 refine ⟨ad,?_,h2⟩
 unfold Extern.ReflectliteValue.parts
 simp only [Sem.run_bind,h1,oW hp,Result.andThen]
 rfl
def vtE (P:Program) (args:List AV):Option CE:=match args with
 | [x]=>(match qV P x with
   | some (t,_,_)=>(match XI P t with | some a=>some ⟨a,[],[],[],[]⟩ | none=>none)
   | none=>none)
 | _=>none
theorem adq {P:Program} {rd:Nat->ay} {args:List AV} {z:Sem Value} {e:CE} (h:vtE P args=some e):pQ P (Extern.ReflectliteValue.methodAny z fun t _ _ _=>Extern.ReflectliteType.toType t) args rd e:=by
 unfold vtE at h
 split at h
 case h_2=>cases h
 rename_i x
 split at h
 case h_2=>cases h
 rename_i t p n hx
 split at h
 case h_2=>cases h
 rename_i a ha
 cases h
 refine pQ.pure fun M _ H E w vals hC hargs=>?_
 obtain ⟨v,rfl,hv⟩:=Ae hargs
 obtain ⟨ad,q1,_⟩:=Dg hx hv w
 obtain ⟨u,q2,q3⟩:=NP ha H E w
 refine ⟨u,?_,q3⟩
 have e1:(Extern.ReflectliteValue.methodAny z fun t _ _ _=>Extern.ReflectliteType.toType t) #[v]=(do match <- Extern.ReflectliteValue.partsAny v with | none=>z | some (t,a,fl)=>Extern.ReflectliteType.toType t):=rfl
 rw [e1]
 simp only [Sem.run_bind,q1,Result.andThen,q2]
def voE (P:Program) (nid:Nat) (args:List AV):Option CE:=match args with
 | [.ifc t x]=>(match CS P t,cellsOf x with
   | some k,some l=>some ⟨.agg [.s (typeHandle P t),.ptr nid 0 0 0,.s (.int .u64 (.ofNat (k+128+0)))],[nid],[(nid,.box t l)],[],[]⟩
   | _,_=>none)
 | _=>none
theorem ab4 {P:Program} {rd:Nat->ay} {nid:Nat} (hd:∀ k,nid<=k->rd k=.dead) {args:List AV} {e:CE} (h:voE P nid args=some e):pQ P (fun args=>Extern.ReflectliteValue.unpack (args.getD 0 (.tuple #[]))) args rd e:=by
 unfold voE at h
 split at h
 case h_2=>cases h
 rename_i t x
 split at h
 case h_2=>cases h
 rename_i k l hk hl
 cases h
 intro M hM H E w vals hC hargs
 obtain ⟨v,rfl,y,rfl,hy⟩:=Ae hargs
 have hdn:getM M nid=.dead:=(hM nid (by simp)).trans (hd nid (Nat.le_refl _))
 obtain ⟨c1,c2,_⟩:=mo hl hy
 obtain ⟨b1,b2,b3⟩:=Er t hC hdn c1 c2
 refine ⟨.agg #[typeHandle P t,.pointer (some ⟨w.heap.size,0,none⟩),.int .u64 (Int.ofNat (k+128+0))],_,H,_,?_,⟨_,rfl,_,_,rfl,⟨rfl,rfl⟩,_,_,rfl,b1,_,[],rfl,⟨rfl,rfl⟩,rfl⟩,b2,b3⟩
 show (Extern.ReflectliteValue.unpack (.iface t y)).run P w=_
 simp [Extern.ReflectliteValue.unpack,Extern.ReflectliteValue.mk,Extern.ReflectliteValue.flagIndir,newVar,newRow,Extern.Rtype.handle,vO hk,Result.andThen]
def ldE (P:Program) (rd:Nat->ay) (t:TypeId) (p:AV):Option AV:=match P.underlying t,yw P none rd t p with
 | some _,some e=>(match e.ob with | []=>some e.r | _=>none)
 | _,_=>none
theorem Lr {P:Program} {rd:Nat->ay} {t:TypeId} {p r:AV} (h:ldE P rd t p=some r) {H:HH} {E:Env} {w:World} {M:List ay} (hC:Conc H E w M) (hM:∀ i∈gN p,getM M i=rd i) {ad:Addr} (hr:Rel p H E (.pointer (some ad))):∃ u,(loadVar t ad).run P w=.ok u w/\Rel r H E u:=by
 unfold ldE at h
 split at h
 case h_2=>cases h
 rename_i d e hu he
 split at h
 case h_2=>cases h
 rename_i hob
 cases h
 rw [xS fun i hi=>(hM i hi).symm] at he
 obtain ⟨_,u,q1,q2⟩:=Ew hC hr ⟨d,hu⟩ he (by rw [hob];exact fun _ h=>by cases h)
 refine ⟨u,?_,q2⟩
 simpa [Instr.loadAt,Instr.sureAddr,Result.andThen] using q1
def vnE (P:Program) (rd:Nat->ay) (args:List AV):Option CE:=match args with
 | [x]=>(match qV P x with
   | some (t,p,n)=>(match P.packed t,([18,19,20,21,22,23,26]:List Nat).contains (n % 32),ldE P rd t p with
     | false,true,some (.ptr ..)=>some ⟨.s (.bool false),gN p,[],[],[]⟩
     | _,_,_=>none)
   | none=>none)
 | _=>none
theorem aco {P:Program} {rd:Nat->ay} {args:List AV} {z:Sem Value} {e:CE} (h:vnE P rd args=some e):pQ P (Extern.ReflectliteValue.method z Extern.ReflectliteValue.isNil) args rd e:=by
 unfold vnE at h
 split at h
 case h_2=>cases h
 rename_i x
 split at h
 case h_2=>cases h
 rename_i t p n hx
 split at h
 case h_2=>cases h
 rename_i i k sz o hp hc hld
 cases h
 refine pQ.pure fun M hM H E w vals hC hargs=>?_
 obtain ⟨v,rfl,hv⟩:=Ae hargs
 obtain ⟨ad,q1,q2⟩:=pE hx hp hv w
 obtain ⟨u,q3,_,b,_,rfl⟩:=Lr hld hC hM q2
 refine ⟨.bool false,?_,rfl,rfl⟩
 have e1:Extern.ReflectliteValue.method z Extern.ReflectliteValue.isNil #[v]=(do match <- Extern.ReflectliteValue.parts v with | none=>z | some (t,a,fl)=>Extern.ReflectliteValue.isNil t a fl (fl % 32)):=rfl
 rw [e1]
 simp only [Sem.run_bind,q1,Result.andThen,Extern.ReflectliteValue.isNil,hc,Bool.not_true,Bool.false_eq_true,if_false,q3]
 rfl
def veE (P:Program) (rd:Nat->ay) (args:List AV):Option CE:=match args with
 | [x]=>(match qV P x with
   | some (t,p,n)=>(match P.packed t,Nat.beq (n % 32) 22,ldE P rd t p,M7 P t with
     | false,true,some (.ptr i k sz o),some e=>(match CS P e with
       | some q=>some ⟨.agg [.s (typeHandle P e),.ptr i k sz o,.s (.int .u64 (.ofNat (q+128+256)))],gN p,[],[],[]⟩
       | none=>none)
     | _,_,_,_=>none)
   | none=>none)
 | _=>none
theorem ad7 {P:Program} {rd:Nat->ay} {args:List AV} {z:Sem Value} {e:CE} (h:veE P rd args=some e):pQ P (Extern.ReflectliteValue.method z Extern.ReflectliteValue.elem) args rd e:=by
 unfold veE at h
 split at h
 case h_2=>cases h
 rename_i x
 split at h
 case h_2=>cases h
 rename_i t p n hx
 split at h
 case h_2=>cases h
 rename_i i k sz o el hp hc hld hel
 split at h
 case h_2=>cases h
 rename_i q hq
 cases h
 have hc:=Nat.eq_of_beq_eq_true hc
 refine pQ.pure fun M hM H E w vals hC hargs=>?_
 obtain ⟨v,rfl,hv⟩:=Ae hargs
 obtain ⟨ad,q1,q2⟩:=pE hx hp hv w
 obtain ⟨u,q3,q4⟩:=Lr hld hC hM q2
 have q5:=q4
 obtain ⟨_,b,_,rfl⟩:=q5
 refine ⟨.agg #[typeHandle P el,.pointer (some ⟨b,k*sz+o,none⟩),.int .u64 (Int.ofNat (q+128+256))],?_,_,rfl,_,_,rfl,⟨rfl,rfl⟩,_,_,rfl,q4,_,[],rfl,⟨rfl,rfl⟩,rfl⟩
 have e1:Extern.ReflectliteValue.method z Extern.ReflectliteValue.elem #[v]=(do match <- Extern.ReflectliteValue.parts v with | none=>z | some (t,a,fl)=>Extern.ReflectliteValue.elem t a fl (fl % 32)):=rfl
 rw [e1]
 simp only [Sem.run_bind,q1,Result.andThen,hc]
 simp [Extern.ReflectliteValue.elem,q3,elem_run hel,Extern.ReflectliteValue.mk,Extern.Rtype.handle,vO hq,Extern.ReflectliteValue.flagIndir,Extern.ReflectliteValue.flagAddr,Result.andThen]
def vsE (P:Program) (rd:Nat->ay) (args:List AV):Option CE:=match args with
 | [x,y]=>(match qV P x,qV P y with
   | some (t,p,n),some (s,q,_)=>(match P.packed t||P.packed s||Nat.beq (n / 256 % 2) 0,ldE P rd s q,X7 P t s with
     | false,some val,some true=>(match mM P none rd t p val with
       | some e=>(match e.ob with
         | []=>some ⟨.tup [],gN p++gN q++ids e.wr,e.wr,[],[]⟩
         | _=>none)
       | none=>none)
     | _,_,_=>none)
   | _,_=>none)
 | _=>none
theorem aeb {P:Program} {rd:Nat->ay} {args:List AV} {e:CE} (h:vsE P rd args=some e):pQ P Extern.ReflectliteValue.set args rd e:=by
 unfold vsE at h
 split at h
 case h_2=>cases h
 rename_i x y
 split at h
 case h_2=>cases h
 rename_i t p n s q m hx hy
 split at h
 case h_2=>cases h
 rename_i val hb hld hdir
 split at h
 case h_2=>cases h
 rename_i e2 he
 split at h
 case h_2=>cases h
 rename_i hob
 cases h
 simp only [Bool.or_eq_false_iff] at hb
 obtain ⟨⟨hp1,hp2⟩,hfl⟩:=hb
 intro M hM H E w vals hC hargs
 obtain ⟨v,u,rfl,hv,hu⟩:=ab3 hargs
 obtain ⟨ad,q1,q2⟩:=pE hx hp1 hv w
 obtain ⟨bd,q3,q4⟩:=pE hy hp2 hu w
 obtain ⟨z,q5,q6⟩:=Lr hld hC (fun i hi=>hM i (by simp [hi])) q4
 rw [kW fun i hi=>(hM i (by simp [hi])).symm] at he
 obtain ⟨w',r1,_,_,r4,r5⟩:=o8 hC q2 q6 he (by rw [hob];exact fun _ h=>by cases h)
 have r1:(storeVar t ad z).run P w=.ok () w':=by simpa [Instr.storeAt,Instr.sureAddr,Result.andThen] using r1
 have hfl:¬ (n / 256 % 2=0):=fun e=>by rw [e] at hfl;simp at hfl
 refine ⟨.tuple #[],w',H,E,?_,⟨#[],rfl,rfl⟩,r4,r5⟩
 have e1:Extern.ReflectliteValue.set #[v,u]=(do
  let (some (dst,a,fl),some (src,b,_)):=(<- Extern.ReflectliteValue.parts v,<- Extern.ReflectliteValue.parts u)
   | unsupported (.noEntry "extern/(internal/reflectlite.Value).Set.zeroValue")
  if fl / Extern.ReflectliteValue.flagAddr % 2==0 then unsupported (.noEntry "extern/(internal/reflectlite.Value).Set.unaddressable")
  let val <- loadVar src b
  if <- Extern.Rtype.directlyAssignable dst src then storeVar dst a val
  else if <- Extern.Rtype.implements dst src then
   if (<- Extern.Rtype.kind src)==20 then
    match val with
    | .nilIface=>unsupported (.noEntry "extern/reflectlite: a nil value of one interface type handed on as a value of another")
    | _=>storeVar dst a val
   else storeVar dst a (.iface src val)
  else panicString ("reflectlite.Set: value of type " ++ (<- Extern.Rtype.spelt src) ++ " is not assignable to type " ++ (<- Extern.Rtype.spelt dst))
  Pure.pure (.tuple #[])):=rfl
 rw [e1]
 simp only [Sem.run_bind,q1,q3,Result.andThen,Extern.ReflectliteValue.flagAddr,beq_iff_eq,hfl,if_false,q5,MW hdir,if_true,r1]
 rfl
def abZ (P:Program) (g:FuncId) (args:List AV) (rd:Nat->ay) (e:CE):Prop :=
 ∀ M,(∀ i∈e.rd,getM M i=rd i)->∀ H E w (vals:Array Value),Conc H E w M->aA args H E vals.toList->∃ v w' H' E',(callFunc g vals).run P w=.ok (.value v) w'/\Rel e.r H' E' v/\Conc H' E' w' (dx e.wr (dN e.kl M))/\bF e.kl H E w H' E' w'
theorem pQ.ok {P:Program} {g:FuncId} {fn:Func} {f:Array Value->Sem Value} {args:List AV} {rd:Nat->ay} {e:CE} (h:pQ P f args rd e) (hg:P.funcs[g]? = some fn) (hn:(fn.name == "runtime.NumGoroutine")=false) (hb:fn.body.isNone=true) (h1:Extern.findNext fn=none) (h2:Extern.find fn=some f):abZ P g args rd e:=by
 intro M hM H E w vals hC ha
 obtain ⟨v,w',H',E',q1,q2,q3,q4⟩:=h M hM H E w vals hC ha
 refine ⟨v,w',H',E',?_,q2,q3,q4⟩
 rw [run_callFunc_extern hg hn hb h1 h2,q1]
 rfl
def nVO:String := "internal/reflectlite.ValueOf"
def nVT:String := "(internal/reflectlite.Value).Type"
def nVN:String := "(internal/reflectlite.Value).IsNil"
def nVE:String := "(internal/reflectlite.Value).Elem"
def nVS:String := "(internal/reflectlite.Value).Set"
def nRE:String := "(internal/reflectlite.rtype).Elem"
def nRI:String := "(internal/reflectlite.rtype).Implements"
def nRA:String := "(internal/reflectlite.rtype).AssignableTo"
def nAK:String := "(*internal/abi.Type).Kind"
def agq (P:Program) (nid:Nat) (n:String) (args:List AV) (rd:Nat->ay):Option CE :=
 if n==nVO then voE P nid args else
 if n==nVT then vtE P args else
 if n==nVN then vnE P rd args else
 if n==nVE then veE P rd args else
 if n==nVS then vsE P rd args else
 if n==nRE then reE P args else
 if n==nRI then relE P (RP P) args else
 if n==nRA then relE P (ab9 P) args else
 if n==nAK then akE P args else none
def extC (P:Program) (nid:Nat) (g:FuncId) (args:List AV) (rd:Nat->ay):Option CE:=match P.funcs[g]? with
 | some fn=>(match fn.body.isNone&&fn.origin == "" with
   | true=>agq P nid fn.name args rd
   | false=>none)
 | none=>none
theorem MZ {P:Program} {nid:Nat} {g:FuncId} {args:List AV} {rd:Nat->ay} {e:CE} (hd:∀ k,nid<=k->rd k=.dead) (h:extC P nid g args rd=some e):abZ P g args rd e:=by
 unfold extC at h
 split at h
 case h_2=>cases h
 rename_i fn hg
 split at h
 case h_2=>cases h
 rename_i hb
 simp only [Bool.and_eq_true,beq_iff_eq] at hb
 unfold agq at h
 split at h
 · rename_i hn
   have hn:=beq_iff_eq.1 hn
   exact (ab4 hd h).ok hg (by rw [hn];decide +kernel) hb.1 (kZ hn hb.2 (by kernel_rfl)) (jm hn (by kernel_rfl) (by kernel_rfl) (by kernel_rfl))
 split at h
 · rename_i hn
   have hn:=beq_iff_eq.1 hn
   exact (adq h).ok hg (by rw [hn];decide +kernel) hb.1 (kZ hn hb.2 (by kernel_rfl)) (jm hn (by kernel_rfl) (by kernel_rfl) (e:=Extern.ReflectliteValue.methodAny (Extern.ReflectliteValue.valueError "reflectlite.Value.Type" 0) fun t _ _ _=>Extern.ReflectliteType.toType t) (by kernel_rfl))
 split at h
 · rename_i hn
   have hn:=beq_iff_eq.1 hn
   exact (aco h).ok hg (by rw [hn];decide +kernel) hb.1 (kZ hn hb.2 (by kernel_rfl)) (jm hn (by kernel_rfl) (by kernel_rfl) (e:=Extern.ReflectliteValue.method (Extern.ReflectliteValue.valueError "reflectlite.Value.IsNil" 0) Extern.ReflectliteValue.isNil) (by kernel_rfl))
 split at h
 · rename_i hn
   have hn:=beq_iff_eq.1 hn
   exact (ad7 h).ok hg (by rw [hn];decide +kernel) hb.1 (kZ hn hb.2 (by kernel_rfl)) (jm hn (by kernel_rfl) (by kernel_rfl) (e:=Extern.ReflectliteValue.method (Extern.ReflectliteValue.valueError "reflectlite.Value.Elem" 0) Extern.ReflectliteValue.elem) (by kernel_rfl))
 split at h
 · rename_i hn
   have hn:=beq_iff_eq.1 hn
   exact (aeb h).ok hg (by rw [hn];decide +kernel) hb.1 (kZ hn hb.2 (by kernel_rfl)) (jm hn (by kernel_rfl) (by kernel_rfl) (by kernel_rfl))
 split at h
 · rename_i hn
   have hn:=beq_iff_eq.1 hn
   exact (aeo h).ok hg (by rw [hn];decide +kernel) hb.1 (kZ hn hb.2 (by kernel_rfl)) (jm hn (by kernel_rfl) (by kernel_rfl) (by kernel_rfl))
 split at h
 · rename_i hn
   have hn:=beq_iff_eq.1 hn
   exact (ME TI h).ok hg (by rw [hn];decide +kernel) hb.1 (kZ hn hb.2 (by kernel_rfl)) (jm hn (by kernel_rfl) (by kernel_rfl) (e:=Extern.ReflectliteType.relation "Implements" Extern.ReflectliteType.implements_) (by kernel_rfl))
 split at h
 · rename_i hn
   have hn:=beq_iff_eq.1 hn
   exact (ME WO h).ok hg (by rw [hn];decide +kernel) hb.1 (kZ hn hb.2 (by kernel_rfl)) (jm hn (by kernel_rfl) (by kernel_rfl) (e:=Extern.ReflectliteType.relation "AssignableTo" Extern.ReflectliteType.assignableTo) (by kernel_rfl))
 split at h
 · rename_i hn
   have hn:=beq_iff_eq.1 hn
   exact (adV h).ok hg (by rw [hn];decide +kernel) hb.1 (kZ hn hb.2 (by kernel_rfl)) (jm hn (by kernel_rfl) (by kernel_rfl) (e:=Extern.ReflectliteType.abiMethod fun t=>do Pure.pure (.int .u8 (<- Extern.Rtype.kind t))) (by kernel_rfl))
 · cases h
def Ua (P:Program) (ty:TypeId) (name:String) (av:AV):Option (FuncId×AV):=match P.info? ty with
 | some i=>(match Jm name i.methods.toList with
   | some m=>(match m.path.toList,m.func,av with
     | [s],some (f,b),.agg cs=>(match s.deref,P.underlying s.struct with
       | false,some (.struct fields)=>(match fields[s.index]? with
         | some fd=>(match Hf P fd.type cs fd.offset,P.underlying fd.type with
           | some a,some d=>(match b==q9 d||!b&&!q9 d with | true=>some (f,a) | false=>none)
           | _,_=>none)
         | none=>none)
       | _,_=>none)
     | _,_,_=>none)
   | none=>none)
 | none=>none
theorem NZ {P:Program} {w:World} {ty:TypeId} {name:String} {f:FuncId} {av a:AV} {H:HH} {E:Env} {v:Value} (h:Ua P ty name av=some (f,a)) (hv:Rel av H E v) (n:Nat):∃ x,(method (n+1) ty v name).run P w=.ok (f,x) w/\Rel a H E x:=by
 unfold Ua at h
 split at h
 case h_2=>cases h
 rename_i i hi
 split at h
 case h_2=>cases h
 rename_i m hm
 split at h
 case h_2=>cases h
 rename_i s f' b cs hp hf
 split at h
 case h_2=>cases h
 rename_i fields hde hst
 split at h
 case h_2=>cases h
 rename_i fd hfd
 split at h
 case h_2=>cases h
 rename_i a' d ha hu
 split at h
 case h_2=>cases h
 rename_i hb
 cases h
 have hm':i.methods.find? (·.name==name)=some m:=by
  rw [BL] at hm
  rw [<- Array.find?_toList];exact hm
 have hpt:m.path=#[s]:=Array.ext' hp
 obtain ⟨vs,rfl,hvs⟩:=hv
 obtain ⟨x,q1,q2⟩:=Ao w ha hvs
 refine ⟨x,?_,q2⟩
 cases b with
 | true =>
   cases d<;>simp [q9] at hb
   simp [method,typeInfo,hi,hm',hpt,hf,follow,hde,hfd,run_underlying hst,q1,receiverAt,run_underlying hu,Place.get,Result.andThen]
 | false =>
   cases d<;>simp [q9] at hb<;>simp [method,typeInfo,hi,hm',hpt,hf,follow,hde,hfd,run_underlying hst,q1,receiverAt,run_underlying hu,Place.get,Result.andThen]
def G9 (P:Program) (ty:TypeId) (name:String) (av:AV):Option (FuncId×AV):=match VQ P ty name with
 | some g=>some (g,av)
 | none=>Ua P ty name av
theorem O7 {P:Program} {w:World} {ty:TypeId} {name:String} {f:FuncId} {av a:AV} {H:HH} {E:Env} {v:Value} (h:G9 P ty name av=some (f,a)) (hv:Rel av H E v) (n:Nat):∃ x,(method (n+1) ty v name).run P w=.ok (f,x) w/\Rel a H E x:=by
 unfold G9 at h
 split at h
 · rename_i g hg
   cases h
   exact ⟨v,Le v hg n,hv⟩
 · exact NZ h hv n
theorem Ai {P:Program} {o:Oper} {T:Nat->AV} {ro:Operand} {name:String} {args:Array Operand} {ats:Array TypeId} {g:FuncId} {ty:TypeId} {av rv:AV} {H:HH} {E:Env} {w:World} {a:Act}
 (hop:o.op=.call { callee:=.invoke ro name,args,argTypes:=ats }) (hr:ev T ro=.ifc ty av) (hm:G9 P ty name av=some (g,rv)) (hT:ji T H E a) :
 ∃ vals,aA (rv::args.toList.map (ev T)) H E vals.toList/\(execOp a.eval o).run P w=(callFunc g vals).run P w:=by
 have h1:=aM hT ro
 rw [hr] at h1
 obtain ⟨v,hv,hx⟩:=h1
 obtain ⟨n,hn⟩:∃ n,P.types.size+Made.depth=n+1:=by
  have:0<Made.depth:=by decide
  exact ⟨P.types.size+Made.depth - 1,by omega⟩
 obtain ⟨x,q1,q2⟩:=O7 (w:=w) hm hx n
 refine ⟨#[x]++args.map a.eval,?_,?_⟩
 · have:=mZ hT args.toList
   simp only [Array.toList_append,List.cons_append,List.nil_append,Array.toList_map]
   exact ⟨x,_,rfl,q2,this⟩
 · have h1:(#[Value.iface ty v]++args.map a.eval).extract 1 (#[Value.iface ty v]++args.map a.eval).size=args.map a.eval:=by
    apply Array.ext'
    simp
    exact List.take_of_length_le (by simp)
   have h0:(#[Value.iface ty v]++args.map a.eval)[0]? = some (.iface ty v):=by
    rw [Array.getElem?_append_left (by simp)]
    rfl
   have h2:(execOp a.eval o).run P w=(invoke (.fn (.method name) #[]) (#[Value.iface ty v]++args.map a.eval)).run P w:=by
    simp [execOp,hop,resolve,hv,Result.andThen]
   rw [h2]
   generalize #[Value.iface ty v]++args.map a.eval=A at h0 h1
   simp only [invoke,h0,h1]
   simp [callMethod,hn,q1,Result.andThen]
theorem PE {P:Program} {o:Oper} {T:Nat->AV} {ro:Operand} {name:String} {args:Array Operand} {ats:Array TypeId} {g:FuncId} {ty:TypeId} {av rv:AV} {fn:Func} {M M':List ay} {r:AV} {mv:List Nat}
 (hop:o.op=.call { callee:=.invoke ro name,args,argTypes:=ats }) (hr:ev T ro=.ifc ty av) (hm:G9 P ty name av=some (g,rv)) (hg:P.funcs[g]? = some fn) (hn:(fn.name == "runtime.NumGoroutine")=false) (hb:fn.body.isNone=false)
 (h:dD P g (rv::args.toList.map (ev T)) M r M' mv) :
 ∀ H E w a (K:Act->World->Prop) (Q:Exit->Act->World->Prop),Conc H E w M->ji T H E a->(∀ v w' H' E',Rel r H' E' v->Conc H' E' w' M'->bF mv H E w H' E' w'->K (a.put o.dst v) w')->o.wp P a w K Q:=by
 intro H E w a K Q hC hT hk
 obtain ⟨vals,hargs,hrun⟩:=Ai (w:=w) hop hr hm hT
 have hrun2:(execOp a.eval o).run P w=.ok (.enter g vals) w:=by
  rw [hrun]
  have hn':¬ fn.name = "runtime.NumGoroutine" := by simpa using hn
  have hb':¬ fn.body=none:=fun e=>by simp [e] at hb
  simp [callFunc,hg,hn',hb']
 unfold Oper.wp
 rw [hrun2]
 refine (h H E w _ hC hargs).mono ?_
 rintro e w' ⟨v,H',E',rfl,hr',hC',hE'⟩
 exact hk v w' H' E' hr' hC' hE'
def IHT:=Nat->FuncId->List AV->List ay->T An
def IHT.Ok (P:Program) (ih:IHT):Prop:=∀ p g args M,(ih p g args M).Sat (aB P g args M)
def M6 (ih:IHT) (sub:Bool) (p:Nat) (g:FuncId) (args:List AV) (nid:Nat) (rd:Nat->ay):T CE :=
 match dS args with
 | true=>(ih p g (BU depth (fun _=>.dead) args) []).map fun a=>⟨ren (shift nid) a.1,ids (Ch nid nid a.2.1),Ch nid nid a.2.1,[],[]⟩
 | false=>(fun L=>match sub with
   | false=>(ih p g (BU depth (only L rd) args) []).bind fun a=>.need (fC a.1=true) (.need (TD a.2.1) (.ret ⟨ren (shift nid) a.1,L++ids (Ch nid nid a.2.1),Ch nid nid a.2.1,[],[]⟩))
   | true=>(ih p g (gY (wP L) args) (Hw L rd 0 nid)).bind fun a=>match sG L nid 0 a.2.1&&Ic L nid with
     | true=>.ret ⟨a.1,L++ids (wrS L nid a.2.1),wrS L nid a.2.1,wS L [] a.2.2,[]⟩
     | false=>.fail) (reach rd depth (fresh [] (wE args)))
def acS (P:Program) (g:FuncId) (args:List AV) (rd:Nat->ay) (e:CE):Prop:=∀ M,(∀ i∈e.rd,getM M i=rd i)->dD P g args M e.r (dx e.wr (dN e.kl M)) e.kl
theorem JC {P:Program} {ih:IHT} (hih:ih.Ok P) {sub:Bool} {p nid:Nat} {g:FuncId} {args:List AV} {rd:Nat->ay} (hd:∀ k,nid<=k->rd k=.dead):(M6 ih sub p g args nid rd).Sat (acS P g args rd):=by
 unfold M6
 split
 · rename_i hno
   refine (hih _ _ _ _).map fun a ha M hM=>?_
   simp only [dN]
   rw [<- Av]
   exact dD.direct ha hno fun k hk=>(hM _ (zY a.2.1 nid nid k hk)).trans (hd _ (by omega))
 · simp only
   split
   · refine (hih _ _ _ _).bind fun a ha=>T.Sat.need fun h1=>T.Sat.need fun h2=>T.Sat.ret fun M hM=>?_
     simp only [dN]
     rw [<- Av]
     refine dD.borrow (fun i=>?_) ha h1 (Dz h2) fun k hk=>(hM _ (List.mem_append_right _ (zY a.2.1 nid nid k hk))).trans (hd _ (by omega))
     unfold only
     split
     · rename_i hm
       exact .inr (hM i (List.mem_append_left _ (mem_iff.1 hm))).symm
     · exact .inl rfl
   · refine (hih _ _ _ _).bind fun a ha=>?_
     split
     case h_2=>exact T.Sat.fail
     rename_i ht
     simp only [Bool.and_eq_true] at ht
     refine T.Sat.ret fun M hM=>?_
     refine dD.sub (fun i hi=>hM i (List.mem_append_left _ hi)) (wF ht.2) ha ht.1 (fun j h1 h2=>?_) wY.2
     refine (hM j (List.mem_append_right _ ?_)).trans (hd j h1)
     unfold wrS
     rw [KA,List.map_append,<- KA,<- KA,xu,xu,List.mem_append]
     exact .inr (mem_iff.1 (oO.2 (by omega)))
def BZ (P:Program) (ih:IHT) (sub:FuncId->Bool) (els:CFT):CFT:=fun nid p o t rd =>
 match o.op with
 | .call { callee:=.value fo,args,.. }=>(match ev t fo with
   | .fn (.func g) first cap=>(match yZ P g with
     | true=>M6 ih (sub g) p g (first++args.toList.map (ev t)++cap) nid rd
     | false=>(match Ye P g (first++args.toList.map (ev t)++cap) with
       | some r=>.ret ⟨r,[],[],[],[]⟩
       | none=>(match extC P nid g (first++args.toList.map (ev t)++cap) rd with
         | some e=>.ret e
         | none=>.fail)))
   | _=>.fail)
 | .call { callee:=.invoke ro name,args,.. }=>(match ev t ro with
   | .ifc ty av=>(match G9 P ty name av with
     | some (g,rv)=>(match yZ P g with
       | true=>M6 ih (sub g) p g (rv::args.toList.map (ev t)) nid rd
       | false=>(match Ye P g (rv::args.toList.map (ev t)) with
         | some r=>.ret ⟨r,[],[],[],[]⟩
         | none=>(match extC P nid g (rv::args.toList.map (ev t)) rd with
           | some e=>.ret e
           | none=>.fail)))
     | none=>.fail)
   | _=>.fail)
 | _=>els nid p o t rd
theorem O1 {P:Program} {ih:IHT} (hih:ih.Ok P) {sub:FuncId->Bool} {els:CFT} (hel:MN P els):MN P (BZ P ih sub els):=by
 intro nid p o t rd hd
 unfold BZ
 split
 · rename_i fo args ats hop
   split
   · rename_i g first cap hf
     split
     · rename_i hp
       unfold yZ at hp
       split at hp
       case h_2=>cases hp
       rename_i fn hg
       simp only [Bool.not_eq_true',Bool.or_eq_false_iff] at hp
       refine (JC hih hd).mono fun e he M hM=>?_
       intro H E w a K Q hC hT hdf hk
       exact Pq hop hf hg hp.1 hp.2 (he M hM) H E w a K Q hC hT hk
     · have hvals:∀ H E w a,ji t H E a->∃ vals:Array Value,aA (first++args.toList.map (ev t)++cap) H E vals.toList/\(execOp a.eval o).run P w=(callFunc g vals).run P w:=by
        intro H E w a hT
        have hv:=aM hT fo
        rw [hf] at hv
        obtain ⟨x,y,hv,h1,h2⟩:=hv
        refine ⟨x++args.map a.eval++y,?_,by simp [execOp,hop,resolve,hv,Deferred.ofValue,invoke]⟩
        have:=fG (fG h1 (mZ hT args.toList)) h2
        simpa using this
       split
       · rename_i r hr
         refine T.Sat.ret fun M hM=>?_
         intro H E w a K Q hC hT hdf hk
         obtain ⟨vals,hargs,hrun⟩:=hvals H E w a hT
         obtain ⟨v,q1,q2⟩:=LP hr hargs w
         unfold Oper.wp
         rw [hrun,q1]
         exact hk v w H E q2 hC (bF.refl _ _ _ _)
       · split
         case h_2=>exact T.Sat.fail
         rename_i e he
         refine T.Sat.ret fun M hM=>?_
         intro H E w a K Q hC hT hdf hk
         obtain ⟨vals,hargs,hrun⟩:=hvals H E w a hT
         obtain ⟨v,w',H',E',q1,q2,q3,q4⟩:=MZ hd he M hM H E w vals hC hargs
         unfold Oper.wp
         rw [hrun,q1]
         exact hk v w' H' E' q2 q3 q4
   · exact T.Sat.fail
 · rename_i ro name args ats hop
   split
   · rename_i ty av hro
     split
     · rename_i g rv hm
       split
       · rename_i hp
         unfold yZ at hp
         split at hp
         case h_2=>cases hp
         rename_i fn hg
         simp only [Bool.not_eq_true',Bool.or_eq_false_iff] at hp
         refine (JC hih hd).mono fun e he M hM=>?_
         intro H E w a K Q hC hT hdf hk
         exact PE hop hro hm hg hp.1 hp.2 (he M hM) H E w a K Q hC hT hk
       · split
         · rename_i r hr
           refine T.Sat.ret fun M hM=>?_
           intro H E w a K Q hC hT hdf hk
           obtain ⟨vals,hargs,hrun⟩:=Ai (w:=w) hop hro hm hT
           obtain ⟨v,q1,q2⟩:=LP hr hargs w
           unfold Oper.wp
           rw [hrun,q1]
           exact hk v w H E q2 hC (bF.refl _ _ _ _)
         · split
           case h_2=>exact T.Sat.fail
           rename_i e he
           refine T.Sat.ret fun M hM=>?_
           intro H E w a K Q hC hT hdf hk
           obtain ⟨vals,hargs,hrun⟩:=Ai (w:=w) hop hro hm hT
           obtain ⟨v,w',H',E',q1,q2,q3,q4⟩:=MZ hd he M hM H E w vals hC hargs
           unfold Oper.wp
           rw [hrun,q1]
           exact hk v w' H' E' q2 q3 q4
     · exact T.Sat.fail
   · exact T.Sat.fail
 · exact hel _ _ _ _ _ hd
def TU (cf:CF):CFT:=fun nid p o t rd=>match cf nid p o t rd with | some e=>e.Co | none=>.fail
theorem Z7 {P:Program} {cf:CF} (h:EN P cf):MN P (TU cf):=by
 intro nid p o t rd hd
 unfold TU
 split
 · rename_i e he
   exact CE.gP fun ho M hM=>h _ _ _ _ _ _ he ho hd M hM
 · exact T.Sat.fail
def svI:AV->AV
 | .ifc t a=>.ifc t (sv a)
 | a=>sv a
theorem YX {a:AV} {H:HH} {E:Env} {v:Value} (h:Rel a H E v):Rel (svI a) H E v:=by
 cases a with
 | ifc t a=>exact ⟨h.choose,h.choose_spec.1,rO h.choose_spec.2⟩
 | _=>exact rO h
def ab' (P:Program):CF:=fun nid p o t rd=>match eqX P (fun _=>none) nid p o (fun i=>svI (t i)) rd with
 | some e=>some ⟨retag e.r,e.rd,e.wr,e.kl,e.ob⟩
 | none=>none
theorem aao (P:Program):EN P (ab' P):=by
 intro nid p o t rd e h ho hd M hM
 unfold ab' at h
 split at h
 case h_2=>cases h
 rename_i e' he
 cases h
 exact xU fun H E w ac K Q hC hT=>EP P _ nid p o _ rd e' he ho hd M hM H E w ac K Q hC fun i=>YX (hT i)
def xY (t:Nat->AV) (i:Nat) (a:AV) (j:Nat):AV:=match Nat.beq j i with | true=>a | false=>t j
theorem DC {t:Nat->AV} {H:HH} {E:Env} {ac:Act} {i:Nat} {a:AV} (h:ji t H E ac) (ha:∀ v,Rel (t i) H E v->Rel a H E v):ji (xY t i a) H E ac:=fun j=>by
 unfold xY
 split
 · rename_i hj
   have:=Nat.eq_of_beq_eq_true hj
   subst this
   exact ha _ (h j)
 · exact h j
def ad3 (P:Program):CF:=fun nid p o t rd=>match o.op with
 | .binOp _ _ (.tmp i) _ _=>(match t i with
   | .opt b tt a=>(match eqX P (fun _=>none) nid p o (xY t i (.ifc tt a)) rd,eqX P (fun _=>none) nid p o (xY t i (.s .nilIface)) rd with
     | some ⟨.s (.bool true),[],[],[],[]⟩,some ⟨.s (.bool false),[],[],[],[]⟩=>some ⟨.y (.bool b),[],[],[],[]⟩
     | some ⟨.s (.bool false),[],[],[],[]⟩,some ⟨.s (.bool true),[],[],[],[]⟩=>some ⟨.y (.bool (!b)),[],[],[],[]⟩
     | _,_=>none)
   | _=>none)
 | _=>none
theorem ab_ {a:AV} {H:HH} {E:Env} {v:Value} (h:Rel a H E0 v):Rel a H E v:=Rel.env (fun i j _ hl=>by simp [E0] at hl) h
theorem Zb (P:Program):EN P (ad3 P):=by
 intro nid p o t rd e h ho hd M hM
 unfold ad3 at h
 split at h
 case h_2=>cases h
 rename_i i y f hop
 split at h
 case h_2=>cases h
 rename_i b tt a hti
 have key:∀ (x y:Bool) (r:Bool),eqX P (fun _=>none) nid p o (xY t i (.ifc tt a)) rd=some ⟨.s (.bool x),[],[],[],[]⟩->eqX P (fun _=>none) nid p o (xY t i (.s .nilIface)) rd=some ⟨.s (.bool y),[],[],[],[]⟩->r=(if b then x else y)->StepT P o t M ⟨.y (.bool r),[],[],[],[]⟩:=by
  intro x y r h1 h2 hr H E w ac K Q hC hT hdf hk
  cases hb:b with
  | true =>
    have hs:=EP P (fun _=>none) nid p o (xY t i (.ifc tt a)) rd _ h1 (fun _ h=>by cases h) hd M (fun _ h=>by cases h)
    refine hs H E w ac K Q hC (DC hT fun v hv=>?_) hdf fun v w' H' E' q1 q2 q3=>?_
    · rw [hti,hb] at hv
      obtain ⟨z,h1,h2⟩:=hv.1 rfl
      exact ⟨z,h1,ab_ h2⟩
    · refine hk v w' H' E' ?_ q2 q3
      rw [hr,hb]
      exact q1
  | false =>
    have hs:=EP P (fun _=>none) nid p o (xY t i (.s .nilIface)) rd _ h2 (fun _ h=>by cases h) hd M (fun _ h=>by cases h)
    refine hs H E w ac K Q hC (DC hT fun v hv=>?_) hdf fun v w' H' E' q1 q2 q3=>?_
    · rw [hti,hb] at hv
      exact ⟨hv.2 rfl,rfl⟩
    · refine hk v w' H' E' ?_ q2 q3
      rw [hr,hb]
      exact q1
 split at h
 · rename_i h1 h2
   cases h
   exact key true false b h1 h2 (by cases b<;>rfl)
 · rename_i h1 h2
   cases h
   exact key false true (!b) h1 h2 (by cases b<;>rfl)
 · cases h
def eqS (P:Program):CF:=fun nid p o t rd=>match ab' P nid p o t rd with
 | some e=>some e
 | none=>ad3 P nid p o t rd
theorem acQ (P:Program):EN P (eqS P):=by
 intro nid p o t rd e h
 unfold eqS at h
 split at h
 · rename_i e' he
   cases h
   exact aao P nid p o t rd _ he
 · exact Zb P nid p o t rd e h
structure dZ (P:Program) where
 g:FuncId
 args:List AV
 m:List ay
 t:T An
 ok:t.Sat (aB P g args m)
structure Job where
 t:List AV
 m:List ay
 out:T (Exit×St)
structure aC (P:Program) where
 op:FuncId->Nat->Nat->Option Hint
 ct:FuncId->List AV->List ay->Option (T An)
 ctOk:∀ g args M t,ct g args M=some t->t.Sat (aB P g args M)
 cs:FuncId->Nat->Nat->List AV->List ay->Option (dZ P)
 lp:FuncId->Nat->St->Option Job
 sub:FuncId->Bool
 rounds:Nat
 gc:Bool
 sp:FuncId->Nat->SP
 spOk:∀ f id,acp P (sp f id)
  /-- contracts by what the slots hold -/
 ca:List AV->FuncId->Nat->Nat->Option (dZ P)
def ahN (P:Program):aC P:=⟨fun _ _ _=>none,fun _ _ _=>none,fun _ _ _ _ h=>(by cases h),fun _ _ _ _ _=>none,fun _ _ _=>none,fun _=>false,40,false,fun _ _ _ _ _ _ _=>none,fun _ _ _ _ _ _ _ _ h=>(by cases h),fun _ _ _ _=>none⟩
def aL (P:Program) (_f:FuncId) (_k:Nat) (c:Code) (st:St) (out:T (Exit×St)):Prop:=out.Sat fun e=>bS P (.loop c) st e.1 e.2
def Fv {P:Program} (C:dZ P) (g:FuncId) (args:List AV) (M:List ay):T An :=
 match Nat.beq C.g g&&ET (fu C.m) C.m&&Cb (fu C.m) C.args with
 | true=>.need (w_ args C.args) (.need (leQ M C.m) (C.t.map fun a=>(a.1,a.2.1,a.2.2++drops M C.m 0)))
 | false=>.fail
theorem Eb {P:Program} (C:dZ P) {g:FuncId} {args:List AV} {M:List ay}:(Fv C g args M).Sat (aB P g args M):=by
 unfold Fv
 split
 case h_2=>exact T.Sat.fail
 rename_i hb
 simp only [Bool.and_eq_true,Nat.beq_eq] at hb
 obtain ⟨⟨rfl,h2⟩,h3⟩:=hb
 refine T.Sat.need fun ha=>T.Sat.need fun hM=>C.ok.map fun a hc=>?_
 intro H E w vals hC hargs
 obtain ⟨E',hC',hE,hv⟩:=EX hC hM h2
 have hargs':aA C.args H E' vals.toList:=by
  have:=aA.ren _ hv (lC _ ha hargs)
  rwa [lD _ _ h3] at this
 refine (hc H E' w vals hC' hargs').mono ?_
 rintro e w' ⟨v,H1,E1,rfl,hr,hC1,hE1⟩
 exact ⟨v,H1,E1,rfl,hr,hC1,hE.trans (hE1.weak fun i hi=>List.mem_append_left _ hi) fun i hi=>List.mem_append_right _ hi⟩
def aey (P:Program) (fn:Func) (fr gc:Bool) (n:Nat) (e:Exit×St):T An :=
 match e with
 | (.ret,st) | (.normal,st)=>(match Ct P st fn.results.toList with
   | some l=>(match fr with
     | false=>(match gc with
       | false=>.ret (GU l,st.m,st.mv)
       | true=>(fun L=>match nodup L with
         | true=>fA (ren (idx L) (GU l)) fun r=>fM (pick L st.m L) fun m=>fNs st.mv fun mv=>.ret (r,m,mv)
         | false=>.fail) (upTo 0 n++above n (reach (getM st.m) depth (fresh [] (upTo 0 n++wE l)))))
     | true=>(fun L=>match nodup L with
       | true=>fA (ren (idx L) (GU l)) fun r=>fM (pick L st.m L) fun m=>.ret (r,m,[])
       | false=>.fail) (reach (getM st.m) depth (fresh [] (wE l))))
   | none=>.fail)
 | _=>.fail
theorem YV {P:Program} {f:FuncId} {fn:Func} {c:Code} {args:List AV} {M0:List ay} {e:Exit×St} (hf:P.funcs[f]? = some fn) (hb:fn.body=some c)
 (h:bS P c ⟨JB fn.ntmps args,M0,[]⟩ e.1 e.2) {gc:Bool}:(aey P fn (Mh M0) gc (len M0) e).Sat (aB P f args M0):=by
 unfold aey
 split
 case h_3=>exact T.Sat.fail
 all_goals
  split
  case h_2=>exact T.Sat.fail
  rename_i l hl
  split
  · split
    · refine T.Sat.ret ?_
      first
       | exact dD.sN hf hb (.inl rfl) h hl
       | exact dD.sN hf hb (.inr rfl) h hl
    · simp only
      split
      case h_2=>exact T.Sat.fail
      rename_i hn
      simp only [yc,LA,En]
      refine T.Sat.ret ?_
      first
       | exact dD.H6 (dD.sN hf hb (.inl rfl) h hl) hn (fun i hi=>by rw [EO _ _ _ _ hi,Nat.zero_add])
       | exact dD.H6 (dD.sN hf hb (.inr rfl) h hl) hn (fun i hi=>by rw [EO _ _ _ _ hi,Nat.zero_add])
  · rename_i hM
    have:M0=[]:=by cases M0 with | nil=>rfl | cons _ _=>simp [Mh] at hM
    subst this
    simp only
    split
    case h_2=>exact T.Sat.fail
    rename_i hn
    simp only [yc,LA]
    refine T.Sat.ret ?_
    first
     | exact dD.compact (dD.sN hf hb (.inl rfl) h hl) hn
     | exact dD.compact (dD.sN hf hb (.inr rfl) h hl) hn
abbrev EC:=FuncId->Code->St->T (Exit×St)
def EC.Ok (P:Program) (ec:EC):Prop:=∀ f c st,(ec f c st).Sat fun e=>bS P c st e.1 e.2
def O8 (P:Program) (gc:Bool) (ec:EC) (g:FuncId) (args:List AV) (M:List ay):T An :=
 match P.funcs[g]? with
 | some fn=>(match fn.body with
   | some c=>fL args fun args=>fSp (JB fn.ntmps args) fun t=>(match gc with | true=>fM M | false=>fun k=>k M) fun M=>(ec g c ⟨t,M,[]⟩).bind fun e=>aey P fn (Mh M) gc (len M) e
   | none=>.fail)
 | none=>.fail
abbrev adT (P:Program) (ec:EC) (g:FuncId) (args:List AV) (M:List ay):T An:=O8 P false ec g args M
theorem zq {P:Program} {gc:Bool} {ec:EC} (hec:ec.Ok P) {g:FuncId} {args:List AV} {M0:List ay}:(O8 P gc ec g args M0).Sat (aB P g args M0):=by
 unfold O8
 split
 case h_2=>exact T.Sat.fail
 rename_i fn hf
 split
 case h_2=>exact T.Sat.fail
 rename_i c hb
 cases gc<;>simp only [yF,Fb,LA]<;>exact (hec _ _ _).bind fun e he=>YV hf hb he
theorem aas {P:Program} {ec:EC} (hec:ec.Ok P) {g:FuncId} {args:List AV} {M0:List ay}:(adT P ec g args M0).Sat (aB P g args M0):=zq hec
def atT (P:Program) (ht:aC P) (f:FuncId) (rg:Nat) (ts:List AV) (ec:EC):IHT:=fun p g args M =>
 match ht.cs f rg p args M with
 | some C=>Fv C g args M
 | none=>(match ht.ca ts f rg p with
   | some C=>Fv C g args M
   | none=>(match ht.ct g args M with
     | some t=>t
     | none=>O8 P ht.gc ec g args M))
theorem aeC {P:Program} {ht:aC P} {f:FuncId} {rg:Nat} {ts:List AV} {ec:EC} (hec:ec.Ok P):(atT P ht f rg ts ec).Ok P:=by
 intro p g args M
 unfold atT
 split
 · exact Eb _
 · split
   · exact Eb _
   · split
     · rename_i t h
       exact ht.ctOk _ _ _ _ h
     · exact zq hec
def Kr (ec:EC) (f:FuncId) (c:Code):Nat->St->T (Exit×St)
 | 0,_=>.fail
 | n+1,st=>(ec f c st).bind fun e=>match e.1 with
   | .normal=>Kr ec f c n e.2
   | x=>.ret (x,e.2)
theorem DI {P:Program} {ec:EC} (hec:ec.Ok P) {f:FuncId} {c:Code}:∀ {n:Nat} {st:St},(Kr ec f c n st).Sat fun e=>∃ m,fT P c m st e.1 e.2
 | 0,_=>T.Sat.fail
 | n+1,st=>by
   refine (hec _ _ _).bind fun e he=>?_
   obtain ⟨x,s⟩:=e
   cases x with
   | normal=>exact (DI hec).mono fun e' ⟨m,hm⟩=>⟨m+1,fT.next he hm⟩
   | _=>exact T.Sat.ret ⟨1,fT.out (by intro h;cases h) he⟩
def aaI (ec:EC) (f:FuncId) (x:AV) (a b:Code) (st st1 st2:St):T (Exit×St) :=
 match x with
 | .s (.bool true)=>ec f a st
 | .s (.bool false)=>ec f b st
 | .y (.bool c)=>.ite c (ec f a st1) (ec f b st2)
 | _=>.fail
def know (st:St) (c:Operand) (b:Bool):St:=match c with
 | .tmp i=>⟨set st.t i (.s (.bool b)),st.m,st.mv⟩
 | _=>st
def KL (P:Program) (ht:aC P) (ec:EC) (f:FuncId) (c:Code) (st:St):T (Exit×St) :=
 match c with
 | .skip=>.ret (.normal,st)
 | .ret=>.ret (.ret,st)
 | .exit id=>.ret (.exit id,st)
 | .region id ops false=>(OQ P (ht.op f id) ⟨ht.sp f id,BZ P (atT P ht f id st.t ec) ht.sub (TU (orE (ZA P fun _=>none) (eqS P)))⟩ ops ops.toList 0 st).map fun s=>(.normal,s)
 | .region id ops true=>(wQ P (ht.op f id) ⟨ht.sp f id,BZ P (atT P ht f id st.t ec) ht.sub (TU (orE (ZA P fun _=>none) (eqS P)))⟩ ops st ops.toList 0 [] st).map fun s=>(.normal,s)
 | .seq a b=>(ec f a st).bind fun e=>match e.1 with
   | .normal=>ec f b e.2
   | x=>.ret (x,e.2)
 | .cond c a b=>aaI ec f (ev (get st.t) c) a b st (know st c true) (know st c false)
 | .block id c=>(ec f c st).map fun e=>match e.1 with
   | .exit j=>(match Nat.beq j id with | true=>(.normal,e.2) | false=>(.exit j,e.2))
   | x=>(x,e.2)
 | .loop c=>(match (match keyOf c with | some k=>ht.lp f k st | none=>none) with
   | some J=>.need (K3 st ⟨J.t,J.m,[]⟩) (.need (aL P f ((keyOf c).getD 0) c ⟨J.t,J.m,[]⟩ J.out) (J.out.map fun e=>(e.1,⟨e.2.t,e.2.m,e.2.mv++(drops st.m J.m 0++st.mv)⟩)))
   | none=>Kr ec f c ht.rounds st)
 | _=>.fail
def rC (P:Program) (ht:aC P) (n:Nat):EC:=Nat.rec (fun _ _ _=>.fail) (fun _ ih=>KL P ht ih) n
theorem Dk {P:Program} {st:St} {c:Operand} {d:Code} {x:Exit} {s:St} {b b':Bool} (hb:b=b') (hc:ev (get st.t) c=.y (.bool b)) (h:bS P d (know st c b') x s):bS P d st x s:=by
 cases c with
 | tmp i =>
   refine h.pre ?_
   refine ⟨fun _ h=>h,fun H E w vs hC hT=>⟨E,hC,?_,bF.refl _ _ _ _⟩⟩
   have hl:=aA.length hT
   refine gB (by simp only [know,length_set];exact hl) fun j v hv=>?_
   have hr:=bn hT j v hv
   simp only [know,vg]
   split
   · rename_i hij
     have e:get st.t i=.y (.bool b):=hc
     rw [<- hij.1,e] at hr
     subst hb
     exact hr
   · exact hr
 | const v=>exact h
 | global g=>exact h
 | func g=>exact h
theorem Vh {P:Program} {c:Operand} {d e:Code} {s s1:St} {x:Exit} {b:Bool} (hc:ev (get s.t) c=.y (.bool b)) (h:bS P (if b then d else e) s x s1):bS P (.cond c d e) s x s1:=by
 refine ⟨h.1,fun H E w a hC hT hd=>?_⟩
 have hr:=aM (kr hT) c
 rw [hc] at hr
 exact wp_cond hr.1 (h.2 H E w a hC hT hd)
theorem PK {P:Program} (hm:P.follows .mixedOrders=true) {ht:aC P} {ec:EC} (hec:ec.Ok P):EC.Ok P (KL P ht ec):=by
 intro f c st
 have hcf:∀ id,A8 P ⟨ht.sp f id,BZ P (atT P ht f id st.t ec) ht.sub (TU (orE (ZA P fun _=>none) (eqS P)))⟩:=fun id=>⟨ht.spOk f id,O1 (aeC hec) (Z7 (acG (aap P _) (acQ P)))⟩
 unfold KL
 split
 · exact T.Sat.ret bS.skip
 · exact T.Sat.ret bS.ret
 · exact T.Sat.ret bS.exit
 · exact (Ol (hcf _)).map fun s hs=>hs
 · exact (HV hm (hcf _)).map fun s hs=>hs
 · refine (hec _ _ _).bind fun e he=>?_
   obtain ⟨x,s⟩:=e
   cases x with
   | normal=>exact (hec _ _ _).mono fun e' h'=>bS.seq he h'
   | _=>exact T.Sat.ret (bS.Yv (by intro h;cases h) he)
 · rename_i c a b
   unfold aaI
   split
   · rename_i hc
     exact (hec _ _ _).mono fun e he=>bS.cond hc he
   · rename_i hc
     exact (hec _ _ _).mono fun e he=>bS.cond hc he
   · rename_i v hc
     refine T.Sat.ite (fun hb=>(hec _ _ _).mono fun e he=>Vh hc ?_) (fun hb=>(hec _ _ _).mono fun e he=>Vh hc ?_)
     · rw [if_pos hb];exact Dk hb hc he
     · rw [if_neg (by simp [hb])];exact Dk hb hc he
   · exact T.Sat.fail
 · rename_i id c
   refine (hec _ _ _).map fun e he=>?_
   obtain ⟨x,s⟩:=e
   cases x with
   | exit j =>
     cases hj:Nat.beq j id with
     | true =>
       have:=Nat.eq_of_beq_eq_true hj
       subst this
       simp only [hj]
       exact bS.KE he
     | false =>
       simp only [hj]
       exact bS.block he fun h=>by injection h with h;subst h;simp at hj
   | _=>exact bS.block he (by intro h;cases h)
 · split
   · rename_i J _
     refine T.Sat.need fun h1=>T.Sat.need fun h2=>T.Sat.map h2 fun e he=>?_
     exact Tj h1 he
   · exact (DI hec).mono fun e ⟨m,hm⟩=>bS.loop hm
 · exact T.Sat.fail
theorem lX {P:Program} (hm:P.follows .mixedOrders=true) {ht:aC P}:∀ n,EC.Ok P (rC P ht n)
 | 0=>fun _ _ _=>T.Sat.fail
 | n+1=>PK hm (lX hm n)
theorem aeg {P:Program} (hm:P.follows .mixedOrders=true) (ht:aC P) (n:Nat) {f:FuncId} {args:List AV} {M:List ay} {t:T An} (hd:t.Mq=true) (h:(adT P (rC P ht n) f args M).post fun a=>t.post fun b=>Oa a b):t.Sat (aB P f args M) :=
 (aas (lX hm n)).FV hd (fun _ _=>F3) h
def bJ {τ:Type} (X:List Nat) (S:τ->Exit×List AV×List ay) (a:τ):Exit×St:=((S a).1,⟨(S a).2.1,(S a).2.2,X⟩)
theorem Y1 {P:Program} (hm:P.follows .mixedOrders=true) (ht:aC P) (n:Nat) {f:FuncId} {k:Nat} {c:Code} {ι τ:Type} (μ:ι->Nat) (st:ι->List AV×List ay) (X:List Nat) (o:ι->T τ) (S:τ->Exit×List AV×List ay) (hd:∀ i,(o i).Mq=true)
 (h:∀ i,(rC P ht n f c ⟨(st i).1,(st i).2,[]⟩).post fun e=>match e.1 with
   | .normal=>∃ j,μ j<μ i/\K3 e.2 ⟨(st j).1,(st j).2,[]⟩/\allIn (drops e.2.m (st j).2 0++e.2.mv) X=true/\(o j).post fun a=>(o i).post fun b=>a=b
   | x=>(o i).post fun b=>KU (x,e.2) (bJ X S b)):∀ i,aL P f k c ⟨(st i).1,(st i).2,[]⟩ ((o i).map (bJ X S)):=by
 have key:∀ m i,μ i<m->(o i).Sat fun b=>∃ q,fT P c q ⟨(st i).1,(st i).2,[]⟩ (bJ X S b).1 (bJ X S b).2:=by
  intro m
  induction m with
  | zero=>intro i hi;omega
  | succ m ih =>
    intro i hi Q hQ
    obtain ⟨⟨x,s⟩,he,hp⟩:=lX hm (ht:=ht) n f c _ _ (h i)
    cases x with
    | normal =>
      obtain ⟨j,hj,hle,hX,hout⟩:=hp
      obtain ⟨a,⟨q,hq⟩,ha⟩:=ih j (by omega) _ hout
      obtain ⟨b,rfl,hQb⟩:=T.ny (hd i) ha hQ
      refine ⟨a,⟨q+1,?_⟩,hQb⟩
      have hmv:=pY hX
      refine fT.next he (s1:=s) ?_
      refine ⟨fun i hi=>hmv i (List.mem_append_right _ hi),fun H E w a' hC hT hd=>?_⟩
      obtain ⟨E',h1,h2,h3⟩:=zo hle hC hT
      refine kE ?_ q a' w (hq.2 H E' w a' h1 h2 hd)
      rintro x' a2 w2 ⟨H1,E1,rfl,hd1,hT1,hC1,hE1⟩
      exact ⟨H1,E1,rfl,hd1,hT1,hC1,h3.trans hE1 fun i hi=>hmv i (List.mem_append_left _ hi)⟩
    | _ =>
      obtain ⟨b,hb,hQb⟩:=T.ny (hd i) hp hQ
      exact ⟨b,⟨1,fT.out (fun e=>by
       unfold KU at hb
       split at hb
       · rename_i hbb
         simp only [Bool.and_eq_true] at hbb
         rw [<- K4 hbb.1] at e;cases e
       · exact hb.elim) (Nr he hb)⟩,hQb⟩
 intro i
 exact (key (μ i+1) i (by omega)).map fun e ⟨q,hq⟩=>bS.loop hq
def mO (k:Nat):Code->Option Code
 | .seq a b=>(match mO k a with | some c=>some c | none=>mO k b)
 | .cond _ a b=>(match mO k a with | some c=>some c | none=>mO k b)
 | .block _ c=>mO k c
 | .loop c=>(match (match keyOf c with | some q=>Nat.beq q k | none=>false) with | true=>some c | false=>mO k c)
 | _=>none
def aN (P:Program) (f:FuncId) (k:Nat):Code:=match P.funcs[f]? with
 | some fn=>(match fn.body with | some c=>(mO k c).getD .skip | none=>.skip)
 | none=>.skip
def look:List (Nat×AV)->Nat->AV
 | [],_=>.junk
 | (j,a)::r,i=>match Nat.beq i j with | true=>a | false=>look r i
def mkF (l:List (Nat×AV)):Nat->Nat->List AV
 | 0,_=>[]
 | n+1,i=>look l i::mkF l n (i+1)
def mkT (n:Nat) (l:List (Nat×AV)):List AV:=mkF l n 0
end Go.Ax
