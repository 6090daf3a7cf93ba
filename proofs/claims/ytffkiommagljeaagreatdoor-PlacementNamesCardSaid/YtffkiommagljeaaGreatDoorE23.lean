import Derived.Test.YtffkiommagljeaaGreatDoorE22
set_option linter.unusedVariables false
set_option linter.unusedSimpArgs false
set_option linter.unusedSectionVars false
namespace Go.Ax
open Go
variable [Inhabited Gl0]
theorem find_of {fn:Func} {n:String} {e:Array Value->Sem Value} (h:fn.name=n) (h1:Extern.allGenericRows.lookup n=none) (h2:Extern.allTypedRows.lookup n=none) (h3:Extern.allRows.lookup n=some e):Extern.find fn=some e:=by
 unfold Extern.find
 simp only [h]
 simp [h1,h2,h3]
theorem next_of {fn:Func} {n:String} (h:fn.name=n) (ho:fn.origin = "") (h1:Extern.allNextRows.lookup n=none):Extern.findNext fn=none:=by
 unfold Extern.findNext
 simp only [h,ho]
 have h2:Extern.allNextRows.lookup "" = none:=by kernel_rfl
 simp [h1,h2]
def underP (P:Program) (t:TypeId):Option (TypeId×TypeInfo):=match P.info? t with
 | some i=>(match i.desc with
   | .named _ u=>(match P.info? u with | some j=>some (u,j) | none=>none)
   | _=>some (t,i))
 | none=>none
theorem under_run {P:Program} {t:TypeId} {r:TypeId×TypeInfo} (h:underP P t=some r) (w:World):(Extern.Rtype.under t).run P w=.ok r w:=by
 unfold underP at h
 split at h
 case h_2=>cases h
 rename_i i hi
 split at h
 · rename_i q u hd
   split at h
   case h_2=>cases h
   rename_i j hj
   cases h
   simp [Extern.Rtype.under,typeInfo,hi,hd,hj,Result.andThen]
 · rename_i hd
   cases h
   cases hdd:i.desc<;>first | exact absurd hdd (hd _ _) | simp [Extern.Rtype.under,typeInfo,hi,hdd,Result.andThen]
def kindD (i:TypeInfo):Option Nat:=match i.desc with
 | .bool=>some 1
 | .int .i64=>some (if i.str == "int" then 2 else 6)
 | .int .i8=>some 3 | .int .i16=>some 4 | .int .i32=>some 5
 | .int .u64=>some (if i.str == "uint" then 7 else if i.str == "uintptr" then 12 else 11)
 | .int .u8=>some 8 | .int .u16=>some 9 | .int .u32=>some 10
 | .array _ _=>some 17 | .chan _ _=>some 18 | .func _ _ _=>some 19 | .interface _=>some 20 | .map _ _=>some 21
 | .pointer _=>some 22 | .slice _=>some 23 | .string=>some 24 | .struct _=>some 25
 | _=>none
def kindP (P:Program) (t:TypeId):Option Nat:=match underP P t with | some (_,i)=>kindD i | none=>none
theorem kind_run {P:Program} {t:TypeId} {k:Nat} (h:kindP P t=some k) (w:World):(Extern.Rtype.kind t).run P w=.ok k w:=by
 unfold kindP at h
 split at h
 case h_2=>cases h
 rename_i u i hu
 have h1:=under_run hu w
 unfold kindD at h
 split at h<;>first | (cases h;done) | (rename_i hd;cases h;simp [Extern.Rtype.kind,h1,hd,Result.andThen])
def elemP (P:Program) (t:TypeId):Option TypeId:=match underP P t with
 | some (_,i)=>(match i.desc with
   | .array _ e | .chan _ e | .map _ e | .pointer e | .slice e=>some e
   | _=>none)
 | none=>none
theorem elem_run {P:Program} {t e:TypeId} (h:elemP P t=some e) (w:World):(Extern.Rtype.elem? t).run P w=.ok (some e) w:=by
 unfold elemP at h
 split at h
 case h_2=>cases h
 rename_i u i hu
 have h1:=under_run hu w
 split at h<;>first | (cases h;done) | (rename_i hd;cases h;simp [Extern.Rtype.elem?,h1,hd,Result.andThen])
def isIfD:TypeDesc->Option (Array (String×TypeId))
 | .interface w=>some w
 | _=>none
def implP (P:Program) (T V:TypeId):Option Bool:=match P.methodsOfAPack P.depth V||P.methodsOfAPack P.depth T,underP P T,underP P V,P.info? V with
 | false,some (_,i),some (_,j),some k=>(match isIfD i.desc,isIfD j.desc with
   | some _,some _=>none
   | some want,none=>some (lacking want k.methods).isEmpty
   | none,_=>some false)
 | _,_,_,_=>none
theorem noPackM_run {P:Program} {t:TypeId} {what:String} (h:P.methodsOfAPack P.depth t=false) (w:World):(Extern.Rtype.noPackMethods what t).run P w=.ok () w:=by
 show (if P.methodsOfAPack P.depth t then _ else pure ():Sem Unit).run P w=_
 rw [h];rfl
theorem noPack_run {P:Program} {t:TypeId} {what:String} (h:P.packed t=false) (w:World):(Extern.Rtype.noPack what t).run P w=.ok () w:=by
 show (if P.packed t then _ else pure ():Sem Unit).run P w=_
 rw [h];rfl
theorem missing_isNone (want:Array (String×TypeId)) (ms:Array Method):(Instr.missingMethod want ms).isNone=(lacking want ms).isEmpty:=by
 cases h:lacking want ms with
 | nil=>rw [missingMethod_none h];rfl
 | cons a l =>
   obtain ⟨m,hm⟩:=missingMethod_some (want:=want) (got:=ms) (by rw [h];simp)
   rw [hm];rfl
theorem impl_run {P:Program} {T V:TypeId} {b:Bool} (h:implP P T V=some b) (w:World):(Extern.Rtype.implements T V).run P w=.ok b w:=by
 unfold implP at h
 split at h
 case h_2=>cases h
 rename_i u i v j k hp hT hV hk
 simp only [Bool.or_eq_false_iff] at hp
 have h1:=under_run hT w
 have h2:=under_run hV w
 have h3:=noPackM_run (what := "a method set held against an interface's list") hp.1 w
 have h4:=noPackM_run (what := "a method set held against an interface's list") hp.2 w
 have h5:(typeInfo V).run P w=.ok k w:=by simp [typeInfo,hk,Result.andThen]
 unfold Extern.Rtype.implements
 simp only [Sem.run_bind,h1,h2,h3,h4,Result.andThen]
 generalize i.desc=di at h
 generalize j.desc=dj at h
 split at h
 · cases h
 · rename_i want hi hj
   cases h
   cases di<;>simp [isIfD] at hi
   subst hi
   cases dj<;>simp [isIfD] at hj<;>simp [h5,missing_isNone,Result.andThen]
 · rename_i hi
   cases h
   cases di<;>simp [isIfD] at hi<;>(cases dj<;>rfl)
def nameP (P:Program) (t:TypeId):Option Bool:=match P.info? t with
 | some i=>(match i.desc with
   | .named _ _ | .bool | .int _ | .float _ | .complex _ | .string | .unsafePointer=>some true
   | _=>some false)
 | none=>none
theorem name_run {P:Program} {t:TypeId} {b:Bool} (h:nameP P t=some b) (w:World):(Extern.Rtype.hasName t).run P w=.ok b w:=by
 unfold nameP at h
 split at h
 case h_2=>cases h
 rename_i i hi
 split at h<;>cases h
 all_goals
  first
   | (rename_i hd;simp [Extern.Rtype.hasName,typeInfo,hi,hd,Result.andThen];done)
   | (cases hd:i.desc<;>simp_all [Extern.Rtype.hasName,typeInfo,hi,hd,Result.andThen])
def isChanD:TypeDesc->Bool
 | .chan _ _=>true
 | _=>false
def dirP (P:Program) (T V:TypeId):Option Bool:=match Nat.beq T V with
 | true=>some true
 | false=>(match nameP P T,nameP P V with
   | some true,some true=>some false
   | some _,some _=>(match underP P T,underP P V with
     | some (t,i),some (v,_)=>(match isChanD i.desc with | true=>none | false=>some (Nat.beq t v))
     | _,_=>none)
   | _,_=>none)
theorem dir_run {P:Program} {T V:TypeId} {b:Bool} (h:dirP P T V=some b) (w:World):(Extern.Rtype.directlyAssignable T V).run P w=.ok b w:=by
 unfold dirP at h
 split at h
 · rename_i he
   cases h
   have he:=Nat.eq_of_beq_eq_true he
   subst he
   simp [Extern.Rtype.directlyAssignable]
 · rename_i he
   have he:T≠V:=fun e=>by subst e;simp at he
   split at h
   · rename_i q1 q2
     cases h
     simp [Extern.Rtype.directlyAssignable,he,name_run q1,name_run q2,Result.andThen]
   · rename_i b1 b2 hq q1 q2
     split at h
     case h_2=>cases h
     rename_i t i v j hT hV
     split at h
     · cases h
     rename_i hch
     cases h
     have n1:=name_run q1 w
     have n2:=name_run q2 w
     have u1:=under_run hT w
     have u2:=under_run hV w
     have hb:¬ (b1=true/\b2=true):=fun ⟨e1,e2⟩=>hq e1 e2
     have hnat:(t==v)=Nat.beq t v:=by rw [Bool.eq_iff_iff];simp
     cases hd:i.desc<;>simp [hd,isChanD] at hch<;>simp [Extern.Rtype.directlyAssignable,he,n1,n2,u1,u2,hd,Result.andThen,hb,hnat]
   · cases h
def ExtV (P:Program) (f:Array Value->Sem Value) (args:List AV) (rd:Nat->Blk) (e:CE):Prop :=
 ∀ M,(∀ i∈e.rd,getM M i=rd i)->∀ H E w (vals:Array Value),Conc H E w M->RelL args H E vals.toList->∃ v w' H' E',(f vals).run P w=.ok v w'/\Rel e.r H' E' v/\Conc H' E' w' (applyW e.wr (killM e.kl M))/\Evol e.kl H E w H' E' w'
theorem relL1 {a:AV} {H:HH} {E:Env} {vals:Array Value} (h:RelL [a] H E vals.toList):∃ v,vals=#[v]/\Rel a H E v:=by
 obtain ⟨v,r,h1,h2,h3⟩:=h
 have h3:r=[]:=h3
 subst h3
 exact ⟨v,Array.ext' h1,h2⟩
theorem relL2 {a b:AV} {H:HH} {E:Env} {vals:Array Value} (h:RelL [a,b] H E vals.toList):∃ v u,vals=#[v,u]/\Rel a H E v/\Rel b H E u:=by
 obtain ⟨v,r,h1,h2,u,q,h3,h4,h5⟩:=h
 have h5:q=[]:=h5
 subst h5;subst h3
 exact ⟨v,u,Array.ext' h1,h2,h4⟩
theorem relL3 {a b c:AV} {H:HH} {E:Env} {vs:Array Value} (h:RelL [a,b,c] H E vs.toList):∃ x y z,vs=#[x,y,z]/\Rel a H E x/\Rel b H E y/\Rel c H E z:=by
 obtain ⟨v,r,h1,h2,u,q,h3,h4,z,p,h5,h6,h7⟩:=h
 have h7:p=[]:=h7
 subst h7;subst h5;subst h3
 exact ⟨v,u,z,Array.ext' h1,h2,h4,h6⟩
theorem ExtV.pure {P:Program} {f:Array Value->Sem Value} {args:List AV} {rd:Nat->Blk} {r:AV} {l:List Nat} (h:∀ M,(∀ i∈l,getM M i=rd i)->∀ H E w (vals:Array Value),Conc H E w M->RelL args H E vals.toList->∃ v,(f vals).run P w=.ok v w/\Rel r H E v):ExtV P f args rd ⟨r,l,[],[],[]⟩:=by
 intro M hM H E w vals hC ha
 obtain ⟨v,h1,h2⟩:=h M hM H E w vals hC ha
 exact ⟨v,w,H,E,h1,h2,hC,Evol.refl _ _ _ _⟩
theorem handle_run {P:Program} {h:Value} {t:TypeId} (ht:handleType P h=some t) (w:World):(Extern.Rtype.ofHandle h).run P w=.ok t w:=by
 simp [Extern.Rtype.ofHandle,ht,Result.andThen]
theorem rtype_run {P:Program} {h:Value} {t:TypeId} (ht:handleType P h=some t) (hp:P.packed t=false) (w:World):(Extern.ReflectliteType.ofRtype (.agg #[h])).run P w=.ok t w:=by
 have e2:Extern.ReflectliteType.ofRtype (.agg #[h])=(do let t <- Extern.Rtype.ofHandle h;Extern.Rtype.noPack "a Type asked or handed on" t;Pure.pure t):=rfl
 rw [e2]
 simp only [Sem.run_bind,handle_run ht,noPack_run hp,Result.andThen]
 rfl
theorem toType_run {P:Program} {rt:TypeId} (hr:cutT P "internal/reflectlite.rtype" = some rt) (t:TypeId) (w:World):(Extern.ReflectliteType.toType t).run P w=.ok (.iface rt (.agg #[typeHandle P t])) w:=by
 simp [Extern.ReflectliteType.toType,cutT_ok hr,Extern.Rtype.handle,Result.andThen]
def hOf (P:Program) (a:AV):Option TypeId:=match a with
 | .s h=>handleType P h
 | _=>none
theorem hOf_ok {P:Program} {a:AV} {t:TypeId} (h:hOf P a=some t) {H:HH} {E:Env} {v:Value} (hr:Rel a H E v):handleType P v=some t:=by
 unfold hOf at h
 split at h
 · rw [hr.1];exact h
 · cases h
def rtOf (P:Program) (a:AV):Option TypeId:=match a with
 | .agg [h]=>(match hOf P h with | some t=>(match P.packed t with | false=>some t | true=>none) | none=>none)
 | _=>none
theorem rtOf_run {P:Program} {a:AV} {t:TypeId} (h:rtOf P a=some t) {H:HH} {E:Env} {v:Value} (hr:Rel a H E v) (w:World):(Extern.ReflectliteType.ofRtype v).run P w=.ok t w:=by
 unfold rtOf at h
 split at h
 case h_2=>cases h
 rename_i x
 split at h
 case h_2=>cases h
 rename_i t' ht
 split at h
 case h_2=>cases h
 rename_i hp
 cases h
 obtain ⟨vs,rfl,hvs⟩:=hr
 obtain ⟨u,rfl,hu⟩:=relL1 hvs
 exact rtype_run (hOf_ok ht hu) hp w
def rtAV (P:Program) (t:TypeId):Option AV:=match cutT P "internal/reflectlite.rtype" with | some rt=>some (.ifc rt (.agg [.s (typeHandle P t)])) | none=>none
theorem rtAV_ok {P:Program} {t:TypeId} {a:AV} (h:rtAV P t=some a) (H:HH) (E:Env) (w:World):∃ v,(Extern.ReflectliteType.toType t).run P w=.ok v w/\Rel a H E v:=by
 unfold rtAV at h
 split at h
 case h_2=>cases h
 rename_i rt hrt
 cases h
 exact ⟨_,toType_run hrt t w,_,rfl,_,rfl,_,[],rfl,⟨rfl,rfl⟩,rfl⟩
def reE (P:Program) (args:List AV):Option CE:=match args with
 | [r]=>(match rtOf P r with
   | some t=>(match elemP P t with
     | some e=>(match rtAV P e with | some a=>some ⟨a,[],[],[],[]⟩ | none=>none)
     | none=>none)
   | none=>none)
 | _=>none
theorem reE_ok {P:Program} {rd:Nat->Blk} {args:List AV} {e:CE} (h:reE P args=some e):ExtV P (Extern.ReflectliteType.method Extern.ReflectliteType.elem) args rd e:=by
 unfold reE at h
 split at h
 case h_2=>cases h
 rename_i r
 split at h
 case h_2=>cases h
 rename_i t ht
 split at h
 case h_2=>cases h
 rename_i el hel
 split at h
 case h_2=>cases h
 rename_i a ha
 cases h
 refine ExtV.pure fun M _ H E w vals hC hargs=>?_
 obtain ⟨v,rfl,hv⟩:=relL1 hargs
 obtain ⟨u,q1,q2⟩:=rtAV_ok ha H E w
 refine ⟨u,?_,q2⟩
 have e1:Extern.ReflectliteType.method Extern.ReflectliteType.elem #[v]=(Extern.ReflectliteType.ofRtype v).bind Extern.ReflectliteType.elem:=rfl
 rw [e1]
 show ((Extern.ReflectliteType.ofRtype v) >>= Extern.ReflectliteType.elem).run P w=_
 simp only [Sem.run_bind,rtOf_run ht hv,Result.andThen,Extern.ReflectliteType.elem,elem_run hel,q1]
def relE (P:Program) (f:TypeId->TypeId->Option Bool) (args:List AV):Option CE:=match args with
 | [r,.ifc _ u]=>(match rtOf P r,rtOf P u with
   | some t,some u=>(match f u t with | some b=>some ⟨.s (.bool b),[],[],[],[]⟩ | none=>none)
   | _,_=>none)
 | _=>none
theorem relE_ok {P:Program} {rd:Nat->Blk} {what:String} {f:TypeId->TypeId->Option Bool} {g:TypeId->TypeId->Sem Bool} (hfg:∀ u t b w,f u t=some b->(g u t).run P w=.ok b w) {args:List AV} {e:CE} (h:relE P f args=some e):ExtV P (Extern.ReflectliteType.relation what g) args rd e:=by
 unfold relE at h
 split at h
 case h_2=>cases h
 rename_i r ty u
 split at h
 case h_2=>cases h
 rename_i t u' ht hu
 split at h
 case h_2=>cases h
 rename_i b hb
 cases h
 refine ExtV.pure fun M _ H E w vals hC hargs=>?_
 obtain ⟨v,x,rfl,hv,y,rfl,hy⟩:=relL2 hargs
 refine ⟨.bool b,?_,rfl,rfl⟩
 have e1:Extern.ReflectliteType.relation what g #[v,.iface ty y]=(do Pure.pure (.bool (<- g (<- Extern.ReflectliteType.ofRtype y) (<- Extern.ReflectliteType.ofRtype v)))):=rfl
 rw [e1]
 simp only [Sem.run_bind,rtOf_run ht hv,rtOf_run hu hy,hfg _ _ _ _ hb,Result.andThen]
 rfl
def implQ (P:Program) (u t:TypeId):Option Bool:=match kindP P u,P.methodsOfAPack P.depth t||P.packed u with
 | some 20,false=>implP P u t
 | _,_=>none
theorem implQ_ok {P:Program} (u t:TypeId) (b:Bool) (w:World) (h:implQ P u t=some b):(Extern.ReflectliteType.implements_ u t).run P w=.ok b w:=by
 unfold implQ at h
 split at h
 case h_2=>cases h
 rename_i hk hp
 simp only [Bool.or_eq_false_iff] at hp
 unfold Extern.ReflectliteType.implements_
 simp only [Sem.run_bind,kind_run hk,Result.andThen]
 simp only [bne_self_eq_false,Bool.false_eq_true,if_false,Sem.run_bind,noPackM_run hp.1,noPack_run hp.2,Result.andThen]
 exact impl_run h w
def asgQ (P:Program) (u t:TypeId):Option Bool:=match Nat.beq u t||!(P.methodsOfAPack P.depth t||P.methodsOfAPack P.depth u),dirP P u t,implP P u t with
 | true,some a,some b=>some (a||b)
 | _,_,_=>none
theorem asgQ_ok {P:Program} (u t:TypeId) (b:Bool) (w:World) (h:asgQ P u t=some b):(Extern.ReflectliteType.assignableTo u t).run P w=.ok b w:=by
 unfold asgQ at h
 split at h
 case h_2=>cases h
 rename_i a c hp hd hi
 cases h
 have h1:=dir_run hd w
 have h2:=impl_run hi w
 unfold Extern.ReflectliteType.assignableTo
 by_cases he:u=t
 · subst he
   simp [h1,h2,Result.andThen]
 · have hb:Nat.beq u t=false:=by cases hq:Nat.beq u t with | false=>rfl | true=>exact absurd (Nat.eq_of_beq_eq_true hq) he
   rw [hb,Bool.false_or,Bool.not_eq_true',Bool.or_eq_false_iff] at hp
   simp [he,noPackM_run hp.1,noPackM_run hp.2,h1,h2,Result.andThen]
def akE (P:Program) (args:List AV):Option CE:=match args with
 | [h]=>(match hOf P h with
   | some t=>(match P.packed t,kindP P t with
     | false,some k=>some ⟨.s (.int .u8 (Int.ofNat k)),[],[],[],[]⟩
     | _,_=>none)
   | none=>none)
 | _=>none
theorem akE_ok {P:Program} {rd:Nat->Blk} {args:List AV} {e:CE} (h:akE P args=some e):ExtV P (Extern.ReflectliteType.abiMethod fun t=>do Pure.pure (.int .u8 (<- Extern.Rtype.kind t))) args rd e:=by
 unfold akE at h
 split at h
 case h_2=>cases h
 rename_i r
 split at h
 case h_2=>cases h
 rename_i t ht
 split at h
 case h_2=>cases h
 rename_i k hp hk
 cases h
 refine ExtV.pure fun M _ H E w vals hC hargs=>?_
 obtain ⟨v,rfl,hv⟩:=relL1 hargs
 refine ⟨.int .u8 (Int.ofNat k),?_,rfl,rfl⟩
 have e1:(Extern.ReflectliteType.abiMethod fun t=>do Pure.pure (.int .u8 (<- Extern.Rtype.kind t))) #[v]=(do let t <- Extern.Rtype.ofHandle v;Extern.Rtype.noPack "a method of abi.Type" t;Pure.pure (.int .u8 (<- Extern.Rtype.kind t))):=rfl
 rw [e1]
 simp only [Sem.run_bind,handle_run (hOf_ok ht hv),noPack_run hp,kind_run hk,Result.andThen]
 rfl
def partsE (P:Program) (a:AV):Option (TypeId×AV×Nat):=match a with
 | .agg [h,p,.s (.int .u64 (.ofNat (n+1)))]=>(match hOf P h,p with
   | some t,.ptr i k sz o=>some (t,.ptr i k sz o,n+1)
   | _,_=>none)
 | _=>none
theorem parts_run {P:Program} {a p:AV} {t:TypeId} {n:Nat} (h:partsE P a=some (t,p,n)) {H:HH} {E:Env} {v:Value} (hr:Rel a H E v) (w:World):∃ ad,(Extern.ReflectliteValue.partsAny v).run P w=.ok (some (t,ad,n)) w/\Rel p H E (.pointer (some ad)):=by
 unfold partsE at h
 split at h
 case h_2=>cases h
 rename_i x q n'
 split at h
 case h_2=>cases h
 rename_i t' i k sz o ht
 cases h
 obtain ⟨vs,rfl,hvs⟩:=hr
 obtain ⟨u,y,z,rfl,hu,hy,hz⟩:=relL3 hvs
 obtain ⟨rfl,_⟩:=hz
 have hy2:=hy
 obtain ⟨hl,b,hb,rfl⟩:=hy2
 refine ⟨⟨b,k*sz+o,none⟩,?_,hy⟩
 have e1:Extern.ReflectliteValue.partsAny (.agg #[u,.pointer (some ⟨b,k*sz+o,none⟩),.int .u64 (.ofNat (n'+1))])=(do Pure.pure (some (<- Extern.Rtype.ofHandle u,⟨b,k*sz+o,none⟩,(Int.ofNat (n'+1)).toNat))):=rfl
 rw [e1]
 simp only [Sem.run_bind,handle_run (hOf_ok ht hu),Result.andThen]
 rfl
theorem partsP_run {P:Program} {a p:AV} {t:TypeId} {n:Nat} (h:partsE P a=some (t,p,n)) (hp:P.packed t=false) {H:HH} {E:Env} {v:Value} (hr:Rel a H E v) (w:World):∃ ad,(Extern.ReflectliteValue.parts v).run P w=.ok (some (t,ad,n)) w/\Rel p H E (.pointer (some ad)):=by
 obtain ⟨ad,h1,h2⟩:=parts_run h hr w
 refine ⟨ad,?_,h2⟩
 unfold Extern.ReflectliteValue.parts
 simp only [Sem.run_bind,h1,noPack_run hp,Result.andThen]
 rfl
def vtE (P:Program) (args:List AV):Option CE:=match args with
 | [x]=>(match partsE P x with
   | some (t,_,_)=>(match rtAV P t with | some a=>some ⟨a,[],[],[],[]⟩ | none=>none)
   | none=>none)
 | _=>none
theorem vtE_ok {P:Program} {rd:Nat->Blk} {args:List AV} {z:Sem Value} {e:CE} (h:vtE P args=some e):ExtV P (Extern.ReflectliteValue.methodAny z fun t _ _ _=>Extern.ReflectliteType.toType t) args rd e:=by
 unfold vtE at h
 split at h
 case h_2=>cases h
 rename_i x
 split at h
 case h_2=>cases h
 rename_i t p n hx
 split at h
 case h_2=>cases h
 rename_i a ha
 cases h
 refine ExtV.pure fun M _ H E w vals hC hargs=>?_
 obtain ⟨v,rfl,hv⟩:=relL1 hargs
 obtain ⟨ad,q1,_⟩:=parts_run hx hv w
 obtain ⟨u,q2,q3⟩:=rtAV_ok ha H E w
 refine ⟨u,?_,q3⟩
 have e1:(Extern.ReflectliteValue.methodAny z fun t _ _ _=>Extern.ReflectliteType.toType t) #[v]=(do match <- Extern.ReflectliteValue.partsAny v with | none=>z | some (t,a,fl)=>Extern.ReflectliteType.toType t):=rfl
 rw [e1]
 simp only [Sem.run_bind,q1,Result.andThen,q2]
def voE (P:Program) (nid:Nat) (args:List AV):Option CE:=match args with
 | [.ifc t x]=>(match kindP P t,cellsOf x with
   | some k,some l=>some ⟨.agg [.s (typeHandle P t),.ptr nid 0 0 0,.s (.int .u64 (.ofNat (k+128+0)))],[nid],[(nid,.box t l)],[],[]⟩
   | _,_=>none)
 | _=>none
theorem voE_ok {P:Program} {rd:Nat->Blk} {nid:Nat} (hd:∀ k,nid<=k->rd k=.dead) {args:List AV} {e:CE} (h:voE P nid args=some e):ExtV P (fun args=>Extern.ReflectliteValue.unpack (args.getD 0 (.tuple #[]))) args rd e:=by
 unfold voE at h
 split at h
 case h_2=>cases h
 rename_i t x
 split at h
 case h_2=>cases h
 rename_i k l hk hl
 cases h
 intro M hM H E w vals hC hargs
 obtain ⟨v,rfl,y,rfl,hy⟩:=relL1 hargs
 have hdn:getM M nid=.dead:=(hM nid (by simp)).trans (hd nid (Nat.le_refl _))
 obtain ⟨c1,c2,_⟩:=cellsOf_ok hl hy
 obtain ⟨b1,b2,b3⟩:=box_new t hC hdn c1 c2
 refine ⟨.agg #[typeHandle P t,.pointer (some ⟨w.heap.size,0,none⟩),.int .u64 (Int.ofNat (k+128+0))],_,H,_,?_,⟨_,rfl,_,_,rfl,⟨rfl,rfl⟩,_,_,rfl,b1,_,[],rfl,⟨rfl,rfl⟩,rfl⟩,b2,b3⟩
 show (Extern.ReflectliteValue.unpack (.iface t y)).run P w=_
 simp [Extern.ReflectliteValue.unpack,Extern.ReflectliteValue.mk,Extern.ReflectliteValue.flagIndir,newVar,newRow,Extern.Rtype.handle,kind_run hk,Result.andThen]
def ldE (P:Program) (rd:Nat->Blk) (t:TypeId) (p:AV):Option AV:=match P.underlying t,aLoad P none rd t p with
 | some _,some e=>(match e.ob with | []=>some e.r | _=>none)
 | _,_=>none
theorem ldE_ok {P:Program} {rd:Nat->Blk} {t:TypeId} {p r:AV} (h:ldE P rd t p=some r) {H:HH} {E:Env} {w:World} {M:List Blk} (hC:Conc H E w M) (hM:∀ i∈refOf p,getM M i=rd i) {ad:Addr} (hr:Rel p H E (.pointer (some ad))):∃ u,(loadVar t ad).run P w=.ok u w/\Rel r H E u:=by
 unfold ldE at h
 split at h
 case h_2=>cases h
 rename_i d e hu he
 split at h
 case h_2=>cases h
 rename_i hob
 cases h
 rw [aLoad_congr fun i hi=>(hM i hi).symm] at he
 obtain ⟨_,u,q1,q2⟩:=load_ok hC hr ⟨d,hu⟩ he (by rw [hob];exact fun _ h=>by cases h)
 refine ⟨u,?_,q2⟩
 simpa [Instr.loadAt,Instr.sureAddr,Result.andThen] using q1
def vnE (P:Program) (rd:Nat->Blk) (args:List AV):Option CE:=match args with
 | [x]=>(match partsE P x with
   | some (t,p,n)=>(match P.packed t,([18,19,20,21,22,23,26]:List Nat).contains (n % 32),ldE P rd t p with
     | false,true,some (.ptr ..)=>some ⟨.s (.bool false),refOf p,[],[],[]⟩
     | _,_,_=>none)
   | none=>none)
 | _=>none
theorem vnE_ok {P:Program} {rd:Nat->Blk} {args:List AV} {z:Sem Value} {e:CE} (h:vnE P rd args=some e):ExtV P (Extern.ReflectliteValue.method z Extern.ReflectliteValue.isNil) args rd e:=by
 unfold vnE at h
 split at h
 case h_2=>cases h
 rename_i x
 split at h
 case h_2=>cases h
 rename_i t p n hx
 split at h
 case h_2=>cases h
 rename_i i k sz o hp hc hld
 cases h
 refine ExtV.pure fun M hM H E w vals hC hargs=>?_
 obtain ⟨v,rfl,hv⟩:=relL1 hargs
 obtain ⟨ad,q1,q2⟩:=partsP_run hx hp hv w
 obtain ⟨u,q3,_,b,_,rfl⟩:=ldE_ok hld hC hM q2
 refine ⟨.bool false,?_,rfl,rfl⟩
 have e1:Extern.ReflectliteValue.method z Extern.ReflectliteValue.isNil #[v]=(do match <- Extern.ReflectliteValue.parts v with | none=>z | some (t,a,fl)=>Extern.ReflectliteValue.isNil t a fl (fl % 32)):=rfl
 rw [e1]
 simp only [Sem.run_bind,q1,Result.andThen,Extern.ReflectliteValue.isNil,hc,Bool.not_true,Bool.false_eq_true,if_false,q3]
 rfl
def veE (P:Program) (rd:Nat->Blk) (args:List AV):Option CE:=match args with
 | [x]=>(match partsE P x with
   | some (t,p,n)=>(match P.packed t,Nat.beq (n % 32) 22,ldE P rd t p,elemP P t with
     | false,true,some (.ptr i k sz o),some e=>(match kindP P e with
       | some q=>some ⟨.agg [.s (typeHandle P e),.ptr i k sz o,.s (.int .u64 (.ofNat (q+128+256)))],refOf p,[],[],[]⟩
       | none=>none)
     | _,_,_,_=>none)
   | none=>none)
 | _=>none
theorem veE_ok {P:Program} {rd:Nat->Blk} {args:List AV} {z:Sem Value} {e:CE} (h:veE P rd args=some e):ExtV P (Extern.ReflectliteValue.method z Extern.ReflectliteValue.elem) args rd e:=by
 unfold veE at h
 split at h
 case h_2=>cases h
 rename_i x
 split at h
 case h_2=>cases h
 rename_i t p n hx
 split at h
 case h_2=>cases h
 rename_i i k sz o el hp hc hld hel
 split at h
 case h_2=>cases h
 rename_i q hq
 cases h
 have hc:=Nat.eq_of_beq_eq_true hc
 refine ExtV.pure fun M hM H E w vals hC hargs=>?_
 obtain ⟨v,rfl,hv⟩:=relL1 hargs
 obtain ⟨ad,q1,q2⟩:=partsP_run hx hp hv w
 obtain ⟨u,q3,q4⟩:=ldE_ok hld hC hM q2
 have q5:=q4
 obtain ⟨_,b,_,rfl⟩:=q5
 refine ⟨.agg #[typeHandle P el,.pointer (some ⟨b,k*sz+o,none⟩),.int .u64 (Int.ofNat (q+128+256))],?_,_,rfl,_,_,rfl,⟨rfl,rfl⟩,_,_,rfl,q4,_,[],rfl,⟨rfl,rfl⟩,rfl⟩
 have e1:Extern.ReflectliteValue.method z Extern.ReflectliteValue.elem #[v]=(do match <- Extern.ReflectliteValue.parts v with | none=>z | some (t,a,fl)=>Extern.ReflectliteValue.elem t a fl (fl % 32)):=rfl
 rw [e1]
 simp only [Sem.run_bind,q1,Result.andThen,hc]
 simp [Extern.ReflectliteValue.elem,q3,elem_run hel,Extern.ReflectliteValue.mk,Extern.Rtype.handle,kind_run hq,Extern.ReflectliteValue.flagIndir,Extern.ReflectliteValue.flagAddr,Result.andThen]
def vsE (P:Program) (rd:Nat->Blk) (args:List AV):Option CE:=match args with
 | [x,y]=>(match partsE P x,partsE P y with
   | some (t,p,n),some (s,q,_)=>(match P.packed t||P.packed s||Nat.beq (n / 256 % 2) 0,ldE P rd s q,dirP P t s with
     | false,some val,some true=>(match aStore P none rd t p val with
       | some e=>(match e.ob with
         | []=>some ⟨.tup [],refOf p++refOf q++ids e.wr,e.wr,[],[]⟩
         | _=>none)
       | none=>none)
     | _,_,_=>none)
   | _,_=>none)
 | _=>none
theorem vsE_ok {P:Program} {rd:Nat->Blk} {args:List AV} {e:CE} (h:vsE P rd args=some e):ExtV P Extern.ReflectliteValue.set args rd e:=by
 unfold vsE at h
 split at h
 case h_2=>cases h
 rename_i x y
 split at h
 case h_2=>cases h
 rename_i t p n s q m hx hy
 split at h
 case h_2=>cases h
 rename_i val hb hld hdir
 split at h
 case h_2=>cases h
 rename_i e2 he
 split at h
 case h_2=>cases h
 rename_i hob
 cases h
 simp only [Bool.or_eq_false_iff] at hb
 obtain ⟨⟨hp1,hp2⟩,hfl⟩:=hb
 intro M hM H E w vals hC hargs
 obtain ⟨v,u,rfl,hv,hu⟩:=relL2 hargs
 obtain ⟨ad,q1,q2⟩:=partsP_run hx hp1 hv w
 obtain ⟨bd,q3,q4⟩:=partsP_run hy hp2 hu w
 obtain ⟨z,q5,q6⟩:=ldE_ok hld hC (fun i hi=>hM i (by simp [hi])) q4
 rw [aStore_congr fun i hi=>(hM i (by simp [hi])).symm] at he
 obtain ⟨w',r1,_,_,r4,r5⟩:=store_good hC q2 q6 he (by rw [hob];exact fun _ h=>by cases h)
 have r1:(storeVar t ad z).run P w=.ok () w':=by simpa [Instr.storeAt,Instr.sureAddr,Result.andThen] using r1
 have hfl:¬ (n / 256 % 2=0):=fun e=>by rw [e] at hfl;simp at hfl
 refine ⟨.tuple #[],w',H,E,?_,⟨#[],rfl,rfl⟩,r4,r5⟩
 have e1:Extern.ReflectliteValue.set #[v,u]=(do
  let (some (dst,a,fl),some (src,b,_)):=(<- Extern.ReflectliteValue.parts v,<- Extern.ReflectliteValue.parts u)
   | unsupported (.noEntry "extern/(internal/reflectlite.Value).Set.zeroValue")
  if fl / Extern.ReflectliteValue.flagAddr % 2==0 then unsupported (.noEntry "extern/(internal/reflectlite.Value).Set.unaddressable")
  let val <- loadVar src b
  if <- Extern.Rtype.directlyAssignable dst src then storeVar dst a val
  else if <- Extern.Rtype.implements dst src then
   if (<- Extern.Rtype.kind src)==20 then
    match val with
    | .nilIface=>unsupported (.noEntry "extern/reflectlite: a nil value of one interface type handed on as a value of another")
    | _=>storeVar dst a val
   else storeVar dst a (.iface src val)
  else panicString ("reflectlite.Set: value of type " ++ (<- Extern.Rtype.spelt src) ++ " is not assignable to type " ++ (<- Extern.Rtype.spelt dst))
  Pure.pure (.tuple #[])):=rfl
 rw [e1]
 simp only [Sem.run_bind,q1,q3,Result.andThen,Extern.ReflectliteValue.flagAddr,beq_iff_eq,hfl,if_false,q5,dir_run hdir,if_true,r1]
 rfl
def ExtOk (P:Program) (g:FuncId) (args:List AV) (rd:Nat->Blk) (e:CE):Prop :=
 ∀ M,(∀ i∈e.rd,getM M i=rd i)->∀ H E w (vals:Array Value),Conc H E w M->RelL args H E vals.toList->∃ v w' H' E',(callFunc g vals).run P w=.ok (.value v) w'/\Rel e.r H' E' v/\Conc H' E' w' (applyW e.wr (killM e.kl M))/\Evol e.kl H E w H' E' w'
theorem ExtV.ok {P:Program} {g:FuncId} {fn:Func} {f:Array Value->Sem Value} {args:List AV} {rd:Nat->Blk} {e:CE} (h:ExtV P f args rd e) (hg:P.funcs[g]? = some fn) (hn:(fn.name == "runtime.NumGoroutine")=false) (hb:fn.body.isNone=true) (h1:Extern.findNext fn=none) (h2:Extern.find fn=some f):ExtOk P g args rd e:=by
 intro M hM H E w vals hC ha
 obtain ⟨v,w',H',E',q1,q2,q3,q4⟩:=h M hM H E w vals hC ha
 refine ⟨v,w',H',E',?_,q2,q3,q4⟩
 rw [run_callFunc_extern hg hn hb h1 h2,q1]
 rfl
def nVO:String := "internal/reflectlite.ValueOf"
def nVT:String := "(internal/reflectlite.Value).Type"
def nVN:String := "(internal/reflectlite.Value).IsNil"
def nVE:String := "(internal/reflectlite.Value).Elem"
def nVS:String := "(internal/reflectlite.Value).Set"
def nRE:String := "(internal/reflectlite.rtype).Elem"
def nRI:String := "(internal/reflectlite.rtype).Implements"
def nRA:String := "(internal/reflectlite.rtype).AssignableTo"
def nAK:String := "(*internal/abi.Type).Kind"
def extN (P:Program) (nid:Nat) (n:String) (args:List AV) (rd:Nat->Blk):Option CE :=
 if n==nVO then voE P nid args else
 if n==nVT then vtE P args else
 if n==nVN then vnE P rd args else
 if n==nVE then veE P rd args else
 if n==nVS then vsE P rd args else
 if n==nRE then reE P args else
 if n==nRI then relE P (implQ P) args else
 if n==nRA then relE P (asgQ P) args else
 if n==nAK then akE P args else none
def extC (P:Program) (nid:Nat) (g:FuncId) (args:List AV) (rd:Nat->Blk):Option CE:=match P.funcs[g]? with
 | some fn=>(match fn.body.isNone&&fn.origin == "" with
   | true=>extN P nid fn.name args rd
   | false=>none)
 | none=>none
theorem extC_ok {P:Program} {nid:Nat} {g:FuncId} {args:List AV} {rd:Nat->Blk} {e:CE} (hd:∀ k,nid<=k->rd k=.dead) (h:extC P nid g args rd=some e):ExtOk P g args rd e:=by
 unfold extC at h
 split at h
 case h_2=>cases h
 rename_i fn hg
 split at h
 case h_2=>cases h
 rename_i hb
 simp only [Bool.and_eq_true,beq_iff_eq] at hb
 unfold extN at h
 split at h
 · rename_i hn
   have hn:=beq_iff_eq.1 hn
   exact (voE_ok hd h).ok hg (by rw [hn];decide +kernel) hb.1 (next_of hn hb.2 (by kernel_rfl)) (find_of hn (by kernel_rfl) (by kernel_rfl) (by kernel_rfl))
 split at h
 · rename_i hn
   have hn:=beq_iff_eq.1 hn
   exact (vtE_ok h).ok hg (by rw [hn];decide +kernel) hb.1 (next_of hn hb.2 (by kernel_rfl)) (find_of hn (by kernel_rfl) (by kernel_rfl) (e:=Extern.ReflectliteValue.methodAny (Extern.ReflectliteValue.valueError "reflectlite.Value.Type" 0) fun t _ _ _=>Extern.ReflectliteType.toType t) (by kernel_rfl))
 split at h
 · rename_i hn
   have hn:=beq_iff_eq.1 hn
   exact (vnE_ok h).ok hg (by rw [hn];decide +kernel) hb.1 (next_of hn hb.2 (by kernel_rfl)) (find_of hn (by kernel_rfl) (by kernel_rfl) (e:=Extern.ReflectliteValue.method (Extern.ReflectliteValue.valueError "reflectlite.Value.IsNil" 0) Extern.ReflectliteValue.isNil) (by kernel_rfl))
 split at h
 · rename_i hn
   have hn:=beq_iff_eq.1 hn
   exact (veE_ok h).ok hg (by rw [hn];decide +kernel) hb.1 (next_of hn hb.2 (by kernel_rfl)) (find_of hn (by kernel_rfl) (by kernel_rfl) (e:=Extern.ReflectliteValue.method (Extern.ReflectliteValue.valueError "reflectlite.Value.Elem" 0) Extern.ReflectliteValue.elem) (by kernel_rfl))
 split at h
 · rename_i hn
   have hn:=beq_iff_eq.1 hn
   exact (vsE_ok h).ok hg (by rw [hn];decide +kernel) hb.1 (next_of hn hb.2 (by kernel_rfl)) (find_of hn (by kernel_rfl) (by kernel_rfl) (by kernel_rfl))
 split at h
 · rename_i hn
   have hn:=beq_iff_eq.1 hn
   exact (reE_ok h).ok hg (by rw [hn];decide +kernel) hb.1 (next_of hn hb.2 (by kernel_rfl)) (find_of hn (by kernel_rfl) (by kernel_rfl) (by kernel_rfl))
 split at h
 · rename_i hn
   have hn:=beq_iff_eq.1 hn
   exact (relE_ok implQ_ok h).ok hg (by rw [hn];decide +kernel) hb.1 (next_of hn hb.2 (by kernel_rfl)) (find_of hn (by kernel_rfl) (by kernel_rfl) (e:=Extern.ReflectliteType.relation "Implements" Extern.ReflectliteType.implements_) (by kernel_rfl))
 split at h
 · rename_i hn
   have hn:=beq_iff_eq.1 hn
   exact (relE_ok asgQ_ok h).ok hg (by rw [hn];decide +kernel) hb.1 (next_of hn hb.2 (by kernel_rfl)) (find_of hn (by kernel_rfl) (by kernel_rfl) (e:=Extern.ReflectliteType.relation "AssignableTo" Extern.ReflectliteType.assignableTo) (by kernel_rfl))
 split at h
 · rename_i hn
   have hn:=beq_iff_eq.1 hn
   exact (akE_ok h).ok hg (by rw [hn];decide +kernel) hb.1 (next_of hn hb.2 (by kernel_rfl)) (find_of hn (by kernel_rfl) (by kernel_rfl) (e:=Extern.ReflectliteType.abiMethod fun t=>do Pure.pure (.int .u8 (<- Extern.Rtype.kind t))) (by kernel_rfl))
 · cases h
def methP (P:Program) (ty:TypeId) (name:String) (av:AV):Option (FuncId×AV):=match P.info? ty with
 | some i=>(match findM name i.methods.toList with
   | some m=>(match m.path.toList,m.func,av with
     | [s],some (f,b),.agg cs=>(match s.deref,P.underlying s.struct with
       | false,some (.struct fields)=>(match fields[s.index]? with
         | some fd=>(match aPart P fd.type cs fd.offset,P.underlying fd.type with
           | some a,some d=>(match b==isPtrD d||!b&&!isPtrD d with | true=>some (f,a) | false=>none)
           | _,_=>none)
         | none=>none)
       | _,_=>none)
     | _,_,_=>none)
   | none=>none)
 | none=>none
theorem methP_run {P:Program} {w:World} {ty:TypeId} {name:String} {f:FuncId} {av a:AV} {H:HH} {E:Env} {v:Value} (h:methP P ty name av=some (f,a)) (hv:Rel av H E v) (n:Nat):∃ x,(method (n+1) ty v name).run P w=.ok (f,x) w/\Rel a H E x:=by
 unfold methP at h
 split at h
 case h_2=>cases h
 rename_i i hi
 split at h
 case h_2=>cases h
 rename_i m hm
 split at h
 case h_2=>cases h
 rename_i s f' b cs hp hf
 split at h
 case h_2=>cases h
 rename_i fields hde hst
 split at h
 case h_2=>cases h
 rename_i fd hfd
 split at h
 case h_2=>cases h
 rename_i a' d ha hu
 split at h
 case h_2=>cases h
 rename_i hb
 cases h
 have hm':i.methods.find? (·.name==name)=some m:=by
  rw [findM_eq] at hm
  rw [<- Array.find?_toList];exact hm
 have hpt:m.path=#[s]:=Array.ext' hp
 obtain ⟨vs,rfl,hvs⟩:=hv
 obtain ⟨x,q1,q2⟩:=aPart_ok w ha hvs
 refine ⟨x,?_,q2⟩
 cases b with
 | true =>
   cases d<;>simp [isPtrD] at hb
   simp [method,typeInfo,hi,hm',hpt,hf,follow,hde,hfd,run_underlying hst,q1,receiverAt,run_underlying hu,Place.get,Result.andThen]
 | false =>
   cases d<;>simp [isPtrD] at hb<;>simp [method,typeInfo,hi,hm',hpt,hf,follow,hde,hfd,run_underlying hst,q1,receiverAt,run_underlying hu,Place.get,Result.andThen]
def methR (P:Program) (ty:TypeId) (name:String) (av:AV):Option (FuncId×AV):=match methE P ty name with
 | some g=>some (g,av)
 | none=>methP P ty name av
theorem methR_run {P:Program} {w:World} {ty:TypeId} {name:String} {f:FuncId} {av a:AV} {H:HH} {E:Env} {v:Value} (h:methR P ty name av=some (f,a)) (hv:Rel av H E v) (n:Nat):∃ x,(method (n+1) ty v name).run P w=.ok (f,x) w/\Rel a H E x:=by
 unfold methR at h
 split at h
 · rename_i g hg
   cases h
   exact ⟨v,method_run v hg n,hv⟩
 · exact methP_run h hv n
theorem inv_runR {P:Program} {o:Oper} {T:Nat->AV} {ro:Operand} {name:String} {args:Array Operand} {ats:Array TypeId} {g:FuncId} {ty:TypeId} {av rv:AV} {H:HH} {E:Env} {w:World} {a:Act}
 (hop:o.op=.call { callee:=.invoke ro name,args,argTypes:=ats }) (hr:ev T ro=.ifc ty av) (hm:methR P ty name av=some (g,rv)) (hT:RelT T H E a) :
 ∃ vals,RelL (rv::args.toList.map (ev T)) H E vals.toList/\(execOp a.eval o).run P w=(callFunc g vals).run P w:=by
 have h1:=rel_ev hT ro
 rw [hr] at h1
 obtain ⟨v,hv,hx⟩:=h1
 obtain ⟨n,hn⟩:∃ n,P.types.size+Made.depth=n+1:=by
  have:0<Made.depth:=by decide
  exact ⟨P.types.size+Made.depth - 1,by omega⟩
 obtain ⟨x,q1,q2⟩:=methR_run (w:=w) hm hx n
 refine ⟨#[x]++args.map a.eval,?_,?_⟩
 · have:=relL_ev hT args.toList
   simp only [Array.toList_append,List.cons_append,List.nil_append,Array.toList_map]
   exact ⟨x,_,rfl,q2,this⟩
 · have h1:(#[Value.iface ty v]++args.map a.eval).extract 1 (#[Value.iface ty v]++args.map a.eval).size=args.map a.eval:=by
    apply Array.ext'
    simp
    exact List.take_of_length_le (by simp)
   have h0:(#[Value.iface ty v]++args.map a.eval)[0]? = some (.iface ty v):=by
    rw [Array.getElem?_append_left (by simp)]
    rfl
   have h2:(execOp a.eval o).run P w=(invoke (.fn (.method name) #[]) (#[Value.iface ty v]++args.map a.eval)).run P w:=by
    simp [execOp,hop,resolve,hv,Result.andThen]
   rw [h2]
   generalize #[Value.iface ty v]++args.map a.eval=A at h0 h1
   simp only [invoke,h0,h1]
   simp [callMethod,hn,q1,Result.andThen]
theorem inv_stepR {P:Program} {o:Oper} {T:Nat->AV} {ro:Operand} {name:String} {args:Array Operand} {ats:Array TypeId} {g:FuncId} {ty:TypeId} {av rv:AV} {fn:Func} {M M':List Blk} {r:AV} {mv:List Nat}
 (hop:o.op=.call { callee:=.invoke ro name,args,argTypes:=ats }) (hr:ev T ro=.ifc ty av) (hm:methR P ty name av=some (g,rv)) (hg:P.funcs[g]? = some fn) (hn:(fn.name == "runtime.NumGoroutine")=false) (hb:fn.body.isNone=false)
 (h:ACall P g (rv::args.toList.map (ev T)) M r M' mv) :
 ∀ H E w a (K:Act->World->Prop) (Q:Exit->Act->World->Prop),Conc H E w M->RelT T H E a->(∀ v w' H' E',Rel r H' E' v->Conc H' E' w' M'->Evol mv H E w H' E' w'->K (a.put o.dst v) w')->o.wp P a w K Q:=by
 intro H E w a K Q hC hT hk
 obtain ⟨vals,hargs,hrun⟩:=inv_runR (w:=w) hop hr hm hT
 have hrun2:(execOp a.eval o).run P w=.ok (.enter g vals) w:=by
  rw [hrun]
  have hn':¬ fn.name = "runtime.NumGoroutine" := by simpa using hn
  have hb':¬ fn.body=none:=fun e=>by simp [e] at hb
  simp [callFunc,hg,hn',hb']
 unfold Oper.wp
 rw [hrun2]
 refine (h H E w _ hC hargs).mono ?_
 rintro e w' ⟨v,H',E',rfl,hr',hC',hE'⟩
 exact hk v w' H' E' hr' hC' hE'
end Go.Ax
