import Derived.Test.YtffkiommagljeaaGreatDoorE15
set_option linter.unusedVariables false
set_option linter.unusedSimpArgs false
set_option linter.unusedSectionVars false
namespace Go.Ax
open Go
variable [Inhabited Gl0]
def restr (l:List Nat) (t:Nat->AV) (i:Nat):AV:=match mem l i with | true=>t i | false=>.junk
theorem relT_restr {l:List Nat} {t:Nat->AV} {H:HH} {E:Env} {a:Act} (h:RelT t H E a):RelT (restr l t) H E a:=fun i=>by
 unfold restr
 split
 · exact h i
 · trivial
def pmAt:List DE->Nat->Nat
 | [],_=>0
 | d::_,0=>d.pm
 | _::l,n+1=>pmAt l n
theorem pmAt_eq:∀ (l:List DE) (n:Nat),pmAt l n=match l[n]? with | some d=>d.pm | none=>0
 | [],n=>by simp [pmAt]
 | d::_,0=>rfl
 | _::l,n+1=>by simp only [pmAt,List.getElem?_cons_succ];exact pmAt_eq l n
def pmOf (ds:List DE):List Nat->Nat
 | []=>0
 | e::r=>(2 ^ e ||| pmAt ds e) ||| pmOf ds r
theorem pmOf_bit {ds:List DE}:∀ {es:List Nat} {k:Nat},(pmOf ds es).testBit k=true->∃ e∈es,e=k∨(pmAt ds e).testBit k=true
 | [],k,h=>by simp [pmOf] at h
 | e::r,k,h=>by
   simp only [pmOf,Nat.testBit_or,Bool.or_eq_true] at h
   rcases h with (h | h) | h
   · rw [Nat.testBit_two_pow] at h
     exact ⟨e,by simp,.inl (by simpa using h)⟩
   · exact ⟨e,by simp,.inr h⟩
   · obtain ⟨x,hx,h⟩:=pmOf_bit h
     exact ⟨x,by simp [hx],h⟩
def allLt:List Nat->Nat->Bool
 | [],_=>true
 | e::r,p=>Nat.blt e p&&allLt r p
theorem allLt_ok:∀ {l:List Nat} {p:Nat},allLt l p=true->∀ k∈l,k<p
 | [],_,_,k,hk=>by cases hk
 | e::r,p,h,k,hk=>by
   simp only [allLt,Bool.and_eq_true,Nat.blt_eq] at h
   rcases List.mem_cons.1 hk with rfl | hk
   · exact h.1
   · exact allLt_ok h.2 k hk
def compatAll:List DE->Nat->DE->Bool
 | [],_,_=>true
 | e::r,k,d=>(d.pm.testBit k||compat e d)&&compatAll r (k+1) d
theorem compatAll_ok:∀ {l:List DE} {p:Nat} {d:DE},compatAll l p d=true->∀ k dk,l[k]? = some dk->d.pm.testBit (p+k)=true∨compat dk d=true
 | [],_,_,_,k,dk,hk=>by simp at hk
 | e::r,p,d,h,k,dk,hk=>by
   simp only [compatAll,Bool.and_eq_true,Bool.or_eq_true] at h
   cases k with
   | zero=>simp at hk;subst hk;exact h.1
   | succ k=>rw [show p+(k+1)=p+1+k by omega];exact compatAll_ok h.2 k dk (by simpa using hk)
def aPart (P:Program) (t:TypeId) (cs:List AV) (off:Nat):Option AV :=
 match P.underlying t with
 | none=>none
 | some _=>(match isAgg P t,sizeT P t with
   | true,some n=>if Nat.ble (off+n) (len cs) then some (.agg (takeL cs off n)) else none
   | false,_=>if Nat.ble (off+1) (len cs) then some (get cs off) else none
   | _,_=>none)
theorem aPart_ok {P:Program} {H:HH} {E:Env} (w:World) {t:TypeId} {cs:List AV} {vs:Array Value} {off:Nat} {a:AV} (h:aPart P t cs off=some a) (hr:RelL cs H E vs.toList) :
 ∃ u,(part t vs off).run P w=.ok u w/\Rel a H E u:=by
 have hlen:=RelL.length hr
 unfold aPart at h
 split at h
 · cases h
 rename_i d hd
 have hud:∃ d,P.underlying t=some d:=⟨d,hd⟩
 split at h
 · rename_i n ha hn
   split at h
   case isFalse=>cases h
   rename_i hle
   simp only [Nat.ble_eq,len_eq] at hle
   cases h
   refine ⟨.agg (vs.extract off (off+n)),?_,?_⟩
   · simp [part,run_isAgg' w hud,ha,run_sizeOf' w hn]
   · refine ⟨_,rfl,relL_mk (by simp at hlen;simp [length_takeL];omega) fun j u hj=>?_⟩
     have hjn:j<n:=by
      have:=(List.getElem?_eq_some_iff.1 hj).1
      simp at this;omega
     rw [get_takeL _ _ _ _ hjn]
     refine relL_get hr _ _ ?_
     simp only [Array.toList_extract,List.extract_eq_take_drop,Nat.add_sub_cancel_left] at hj
     rw [List.getElem?_take,if_pos hjn,List.getElem?_drop] at hj
     exact hj
 · rename_i ha
   split at h
   case isFalse=>cases h
   rename_i hle
   simp only [Nat.ble_eq,len_eq] at hle
   cases h
   have hlt:off<vs.size:=by simp at hlen;omega
   refine ⟨vs[off],?_,relL_get hr _ _ (by simp [hlt])⟩
   simp [part,run_isAgg' w hud,ha,hlt]
 · cases h
def eqF (P:Program) (rec:TypeId->AV->AV->Option Bool):List Field->List AV->List AV->Option Bool
 | [],_,_=>some true
 | f::r,xs,ys =>
   if f.name = "_" then eqF P rec r xs ys else
   match aPart P f.type xs f.offset,aPart P f.type ys f.offset with
   | some a,some b=>(match rec f.type a b with
     | some q=>(match eqF P rec r xs ys with | some q2=>some (q&&q2) | none=>none)
     | none=>none)
   | _,_=>none
def eqV (P:Program):Nat->TypeId->AV->AV->Option Bool
 | 0,_,_,_=>none
 | d+1,t,x,y =>
   match P.underlying t,x,y with
   | some (.int _),.s (.int k a),.s (.int k' b)=>if k=k' then some (a==b) else none
   | some .string,.s (.string a),.s (.string b)=>some (a.data.toList==b.data.toList)
   | some .bool,.s (.bool a),.s (.bool b)=>some (a==b)
   | some (.slice _),.s (.slice none 0 0),.s (.slice none 0 0)=>some true
   | some (.slice _),.s (.slice none 0 0),.sl _ _ (_+1) _=>some false
   | some (.slice _),.s (.slice none 0 0),.own _ _ _ (_+1)=>some false
   | some (.slice _),.sl _ _ (_+1) _,.s (.slice none 0 0)=>some false
   | some (.slice _),.own _ _ _ (_+1),.s (.slice none 0 0)=>some false
   | some (.pointer _),.s (.pointer none),.s (.pointer none)=>some true
   | some (.pointer _),.s (.pointer none),.ptr ..=>some false
   | some (.pointer _),.s (.pointer none),.ip ..=>some false
   | some (.pointer _),.ptr ..,.s (.pointer none)=>some false
   | some (.pointer _),.ip ..,.s (.pointer none)=>some false
   | some (.map _ _),.s (.map none),.s (.map none)=>some true
   | some (.func _ _ _),.s .nilFunc,.s .nilFunc=>some true
   | some (.func _ _ _),.s .nilFunc,.fn ..=>some false
   | some (.func _ _ _),.fn ..,.s .nilFunc=>some false
   | some (.interface _),.s .nilIface,.s .nilIface=>some true
   | some (.interface _),.s .nilIface,.ifc ..=>some false
   | some (.interface _),.ifc ..,.s .nilIface=>some false
   | some (.interface _),.ifc tx vx,.ifc ty vy=>if Nat.beq tx ty then (match P.info? tx with
      | some i=>if i.comparable then eqV P d tx vx vy else none
      | none=>none) else some false
   | some (.struct fs),.agg xs,.agg ys=>if P.stoodInHeld t then none else eqF P (eqV P d) fs.toList xs ys
   | _,_,_=>none
theorem eqF_ok {P:Program} {H:HH} {E:Env} (w:World) {rec:TypeId->AV->AV->Option Bool} {D:Nat} (hrec:∀ t a b q u v,rec t a b=some q->Rel a H E u->Rel b H E v->(Op.equalIn D t u v).run P w=.ok q w) :
 ∀ {fs:List Field} {xs ys:List AV} {xv yv:Array Value} {q:Bool},eqF P rec fs xs ys=some q->RelL xs H E xv.toList->RelL ys H E yv.toList->(Op.eqFields D xv yv fs).run P w=.ok q w
 | [],xs,ys,xv,yv,q,h,_,_=>by simp [eqF] at h;subst h;simp [Op.eqFields]
 | f::r,xs,ys,xv,yv,q,h,hx,hy=>by
   simp only [eqF] at h
   split at h
   · rename_i hn
     simp only [Op.eqFields,hn,ne_eq,not_true_eq_false,if_false]
     exact eqF_ok w hrec h hx hy
   · rename_i hn
     split at h
     case h_2=>cases h
     rename_i a b ha hb
     split at h
     case h_2=>cases h
     rename_i q1 hq1
     split at h
     case h_2=>cases h
     rename_i q2 hq2
     cases h
     obtain ⟨u,hu,hur⟩:=aPart_ok w ha hx
     obtain ⟨v,hv,hvr⟩:=aPart_ok w hb hy
     simp only [Op.eqFields,hn,ne_eq,not_false_eq_true,if_true,Sem.run_bind,hu,hv,Result.andThen_ok,hrec _ _ _ _ _ _ hq1 hur hvr]
     cases q1
     · simp
     · simp;exact eqF_ok w hrec hq2 hx hy
theorem rel_sl_pos {H:HH} {E:Env} {b:Bool} {sz n:Nat} {c:Nat->Nat->AV} {u:Value} (h:Rel (.sl b sz (n+1) c) H E u):∃ ad m k,u=.slice (some ad) m k:=by
 obtain ⟨a,cap,rfl,_,hk⟩:=h
 obtain ⟨ad,rfl,_⟩:=hk (Nat.succ_pos _)
 exact ⟨ad,_,_,rfl⟩
theorem rel_own_pos {H:HH} {E:Env} {i sz lo n:Nat} {u:Value} (h:Rel (.own i sz lo (n+1)) H E u):∃ ad m k,u=.slice (some ad) m k:=by
 obtain ⟨_,_,hm⟩:=h
 cases hi:E.ι i with
 | none=>rw [hi] at hm;obtain ⟨_,h0,_⟩:=hm;cases h0
 | some b =>
   rw [hi] at hm
   obtain ⟨a,rfl,ha⟩:=hm
   rw [ha.1 (.inr (Nat.succ_pos _))]
   exact ⟨_,_,_,rfl⟩
theorem eqV_ok {P:Program} {H:HH} {E:Env} (w:World):∀ (d D:Nat) (t:TypeId) (a b:AV) (q:Bool) (x y:Value),d<=D->eqV P d t a b=some q->Rel a H E x->Rel b H E y->(Op.equalIn D t x y).run P w=.ok q w
 | 0,_,_,_,_,_,_,_,_,h,_,_=>by simp [eqV] at h
 | d+1,0,_,_,_,_,_,_,hD,_,_,_=>by omega
 | d+1,D+1,t,a,b,q,x,y,hD,h,hx,hy=>by
   simp only [eqV] at h
   split at h
   · rename_i k a k' b hu
     split at h
     case isFalse=>cases h
     rename_i hk
     subst hk
     cases h
     obtain ⟨rfl,_⟩:=hx
     obtain ⟨rfl,_⟩:=hy
     exact run_equalIn_int w D t k _ a b hu
   · rename_i a b hu
     cases h
     obtain ⟨rfl,_⟩:=hx
     obtain ⟨rfl,_⟩:=hy
     rw [run_equalIn_string w D t a b hu,ByteArray.toList_eq,ByteArray.toList_eq]
   · rename_i a b hu
     cases h
     obtain ⟨rfl,_⟩:=hx
     obtain ⟨rfl,_⟩:=hy
     exact run_equalIn_bool' w D t a b hu
   · rename_i hu
     cases h
     obtain ⟨rfl,_⟩:=hx
     obtain ⟨rfl,_⟩:=hy
     simp [Op.equalIn,run_underlying hu]
   · rename_i hu
     cases h
     obtain ⟨rfl,_⟩:=hx
     obtain ⟨_,_,_,rfl⟩:=rel_sl_pos hy
     simp [Op.equalIn,run_underlying hu]
   · rename_i hu
     cases h
     obtain ⟨rfl,_⟩:=hx
     obtain ⟨_,_,_,rfl⟩:=rel_own_pos hy
     simp [Op.equalIn,run_underlying hu]
   · rename_i hu
     cases h
     obtain ⟨rfl,_⟩:=hy
     obtain ⟨_,_,_,rfl⟩:=rel_sl_pos hx
     simp [Op.equalIn,run_underlying hu]
   · rename_i hu
     cases h
     obtain ⟨rfl,_⟩:=hy
     obtain ⟨_,_,_,rfl⟩:=rel_own_pos hx
     simp [Op.equalIn,run_underlying hu]
   · rename_i hu
     cases h
     obtain ⟨rfl,_⟩:=hx
     obtain ⟨rfl,_⟩:=hy
     simp [Op.equalIn,run_underlying hu]
   · rename_i hu
     cases h
     obtain ⟨rfl,_⟩:=hx
     obtain ⟨_,b,_,rfl⟩:=hy
     simp [Op.equalIn,run_underlying hu]
   · rename_i hu
     cases h
     obtain ⟨rfl,_⟩:=hx
     obtain ⟨b,rfl,_⟩:=hy
     simp [Op.equalIn,run_underlying hu]
   · rename_i hu
     cases h
     obtain ⟨rfl,_⟩:=hy
     obtain ⟨_,b,_,rfl⟩:=hx
     simp [Op.equalIn,run_underlying hu]
   · rename_i hu
     cases h
     obtain ⟨rfl,_⟩:=hy
     obtain ⟨b,rfl,_⟩:=hx
     simp [Op.equalIn,run_underlying hu]
   · rename_i hu
     cases h
     obtain ⟨rfl,_⟩:=hx
     obtain ⟨rfl,_⟩:=hy
     simp [Op.equalIn,run_underlying hu]
   · rename_i hu
     cases h
     obtain ⟨rfl,_⟩:=hx
     obtain ⟨rfl,_⟩:=hy
     simp [Op.equalIn,run_underlying hu]
   · rename_i hu
     cases h
     obtain ⟨rfl,_⟩:=hx
     obtain ⟨_,_,rfl,_⟩:=hy
     simp [Op.equalIn,run_underlying hu]
   · rename_i hu
     cases h
     obtain ⟨rfl,_⟩:=hy
     obtain ⟨_,_,rfl,_⟩:=hx
     simp [Op.equalIn,run_underlying hu]
   · rename_i hu
     cases h
     obtain ⟨rfl,_⟩:=hx
     obtain ⟨rfl,_⟩:=hy
     simp [Op.equalIn,run_underlying hu]
   · rename_i hu
     cases h
     obtain ⟨rfl,_⟩:=hx
     obtain ⟨_,rfl,_⟩:=hy
     simp [Op.equalIn,run_underlying hu]
   · rename_i hu
     cases h
     obtain ⟨rfl,_⟩:=hy
     obtain ⟨_,rfl,_⟩:=hx
     simp [Op.equalIn,run_underlying hu]
   · rename_i tx vx ty vy hu
     obtain ⟨x',rfl,hx'⟩:=hx
     obtain ⟨y',rfl,hy'⟩:=hy
     split at h
     · rename_i ht
       have ht:=Nat.eq_of_beq_eq_true ht
       subst ht
       split at h
       case h_2=>cases h
       rename_i i hi
       split at h
       case isFalse=>cases h
       rename_i hc
       have:=eqV_ok w d D _ vx vy q x' y' (by omega) h hx' hy'
       simp [Op.equalIn,run_underlying hu,typeInfo,hi,hc,this]
     · rename_i ht
       cases h
       have ht:tx≠ty:=fun e=>ht (by subst e;exact Nat.beq_refl _)
       simp [Op.equalIn,run_underlying hu,ht]
   · rename_i fs xs ys hu
     obtain ⟨xv,rfl,hxr⟩:=hx
     obtain ⟨yv,rfl,hyr⟩:=hy
     split at h
     case isTrue=>cases h
     rename_i hs
     have hf:P.fieldsOf t=fs:=by simp [Program.fieldsOf,hu]
     have hu':P.underlying t=some (.struct (P.fieldsOf t)):=by rw [hf];exact hu
     rw [run_equalIn_struct w D t xv yv hu' (by simpa using hs),hf]
     exact eqF_ok w (fun t a b q u v h1 h2 h3=>eqV_ok w d D t a b q u v (by omega) h1 h2 h3) h hxr hyr
   · cases h
def isConst:Operand->Bool
 | .const _=>true
 | _=>false
def topOk:AV->Bool
 | .s (.int ..) | .s (.float ..) | .s (.complex ..) | .s (.string _) | .y _ | .ys .. | .yn .. | .junk | .opt .. | .tup _=>false
 | _=>true
def isNilIface:AV->Bool
 | .s .nilIface=>true
 | _=>false
def isAggA:AV->Bool
 | .agg _=>true
 | _=>false
def eqOkG (P:Program) (t:TypeId) (x y:Operand) (a b:AV):Bool :=
 topOk a&&topOk b&&(!(isNilIface a&&isNilIface b)||(isConst x||isConst y))&&(!(isAggA a&&isAggA b)||!P.eqGuardType P.depth t)
theorem topOk_ok {a:AV} {H:HH} {E:Env} {u:Value} (h:topOk a=true) (hr:Rel a H E u):(∀ k n,u≠.int k n)/\(∀ k n,u≠.float k n)/\(∀ k n m,u≠.complex k n m)/\(∀ b,u≠.string b)/\(u=.nilIface->isNilIface a=true)/\(∀ cs,u=.agg cs->isAggA a=true):=by
 cases a with
 | s v =>
   obtain ⟨rfl,hs⟩:=hr
   cases u<;>simp [topOk,scalar] at h hs ⊢<;>rfl
 | y v=>simp [topOk] at h
 | ys _ _ _ _=>simp [topOk] at h
 | yn _ _ _ _=>simp [topOk] at h
 | opt _ _ _=>simp [topOk] at h
 | junk=>simp [topOk] at h
 | tup cs=>simp [topOk] at h
 | ptr i k sz o=>obtain ⟨_,b,_,rfl⟩:=hr;simp
 | own i sz lo n =>
   obtain ⟨_,_,hm⟩:=hr
   cases hi:E.ι i with
   | none=>rw [hi] at hm;obtain ⟨_,_,rfl⟩:=hm;simp
   | some b=>rw [hi] at hm;obtain ⟨a,rfl,_⟩:=hm;simp
 | mref i=>obtain ⟨_,b,_,rfl⟩:=hr;simp
 | sl b sz n c=>obtain ⟨a,cap,rfl,_⟩:=hr;simp
 | ip b m c=>obtain ⟨ad,rfl,_⟩:=hr;simp
 | agg cs=>obtain ⟨vs,rfl,_⟩:=hr;simp [isAggA]
 | fn f x y=>obtain ⟨a,b,rfl,_⟩:=hr;simp
 | ifc t x=>obtain ⟨a,rfl,_⟩:=hr;simp
theorem run_eq_of {P:Program} {t:TypeId} {u v:Value} {w:World} {q:Bool} (h1:∀ k n,u≠.int k n) (h2:∀ k n,u≠.float k n) (h3:∀ k n m,u≠.complex k n m) (h4:∀ b,u≠.string b) (hq:(Op.equalIn 10000 t u v).run P w=.ok q w) :
 (binOp .eql t u v).run P w=.ok (.bool q) w/\(binOp .neq t u v).run P w=.ok (.bool (!q)) w:=by
 have e1:binOp .eql t u v=(do pure (.bool (<- Op.equal t u v))):=by
  cases u<;>first | exact absurd rfl (h1 _ _) | exact absurd rfl (h2 _ _) | exact absurd rfl (h3 _ _ _) | exact absurd rfl (h4 _) | rfl
 have e2:binOp .neq t u v=(do pure (.bool (!(<- Op.equal t u v)))):=by
  cases u<;>first | exact absurd rfl (h1 _ _) | exact absurd rfl (h2 _ _) | exact absurd rfl (h3 _ _ _) | exact absurd rfl (h4 _) | rfl
 rw [e1,e2]
 unfold Op.equal Op.maxDepth
 simp [hq]
theorem run_guard {P:Program} {op:BinOp} {t:TypeId} {x y:Operand} {a b:AV} {u v:Value} {H:HH} {E:Env} {w:World} (hop:op=.eql∨op=.neq) (h:eqOkG P t x y a b=true) (hu:Rel a H E u) (hv:Rel b H E v):(eqGuard op t x y u v).run P w=.ok () w:=by
 simp only [eqOkG,Bool.and_eq_true] at h
 obtain ⟨⟨⟨ha,hb⟩,hn⟩,hg⟩:=h
 obtain ⟨_,_,_,_,a5,a6⟩:=topOk_ok ha hu
 obtain ⟨_,_,_,_,b5,b6⟩:=topOk_ok hb hv
 by_cases hnn:u=.nilIface/\v=.nilIface
 · obtain ⟨rfl,rfl⟩:=hnn
   rw [a5 rfl,b5 rfl] at hn
   simp at hn
   rcases hop with rfl | rfl<;>cases x<;>cases y<;>simp [isConst] at hn<;>simp [eqGuard]
 · by_cases hag:∃ xs ys,u=.agg xs/\v=.agg ys
   · obtain ⟨xs,ys,rfl,rfl⟩:=hag
     rw [a6 _ rfl,b6 _ rfl] at hg
     exact run_eqGuard_agg w op t x y xs ys (by simpa using hg)
   · rcases hop with rfl | rfl<;>unfold eqGuard<;>simp only [Bool.not_true,Bool.false_eq_true,if_false] <;>
      (split<;>first | rfl | exact absurd ⟨rfl,rfl⟩ hnn | exact absurd ⟨_,_,rfl,rfl⟩ hag)
def boolC (h:Option Hint) (q:Bool):CE :=
 match h with
 | some (.b y)=>⟨.s (.bool y),[],[],[],[agree y q=true]⟩
 | _=>⟨.s (.bool q),[],[],[],[]⟩
theorem stepT_pure {P:Program} {o:Oper} {t:Nat->AV} {M:List Blk} {r:AV} {rd:List Nat} {ob:List Prop} (h:∀ H E w a,Conc H E w M->RelT t H E a->∃ v,(execOp a.eval o).run P w=.ok (.value v) w/\Rel r H E v):StepT P o t M ⟨r,rd,[],[],ob⟩:=by
 intro H E w a K Q hC hT hd hk
 obtain ⟨v,hv,hr⟩:=h H E w a hC hT
 unfold Oper.wp
 rw [hv]
 exact hk v w H E hr hC (Evol.refl _ _ _ _)
theorem boolC_ok {P:Program} {o:Oper} {t:Nat->AV} {M:List Blk} {h:Option Hint} {q:Bool} (hq:∀ H E w a,Conc H E w M->RelT t H E a->(execOp a.eval o).run P w=.ok (.value (.bool q)) w) (ho:Hold (boolC h q).ob):StepT P o t M (boolC h q):=by
 unfold boolC at ho ⊢
 split
 · rename_i y
   refine stepT_pure fun H E w a hC hT=>⟨_,hq H E w a hC hT,?_⟩
   have:=ho (agree y q=true) (by simp)
   cases y<;>cases q<;>first | exact ⟨rfl,rfl⟩ | simp [agree] at this
 · exact stepT_pure fun H E w a hC hT=>⟨_,hq H E w a hC hT,rfl,rfl⟩
def eqX (P:Program) (hh:Nat->Option Hint):CF:=fun _ p o t _ =>
 match o.op with
 | .binOp .eql ty x y _=>(match eqOkG P ty x y (ev t x) (ev t y) with
   | true=>(match eqV P 12 ty (ev t x) (ev t y) with | some q=>some (boolC (hh p) q) | none=>none)
   | false=>none)
 | .binOp .neq ty x y _=>(match eqOkG P ty x y (ev t x) (ev t y) with
   | true=>(match eqV P 12 ty (ev t x) (ev t y) with | some q=>some (boolC (hh p) (!q)) | none=>none)
   | false=>none)
 | _=>none
theorem eqX_ok (P:Program) (hh:Nat->Option Hint):CfOk P (eqX P hh):=by
 intro nid p o t rd e h ho hd M hM
 unfold eqX at h
 split at h
 · rename_i ty x y f hop
   split at h
   case h_2=>cases h
   rename_i hg
   split at h
   case h_2=>cases h
   rename_i q hq
   cases h
   refine boolC_ok (fun H E w a hC hT=>?_) ho
   have hx:=rel_ev hT x
   have hy:=rel_ev hT y
   have hg':=run_guard (op:=.eql) (w:=w) (.inl rfl) hg hx hy
   simp only [eqOkG,Bool.and_eq_true] at hg
   obtain ⟨a1,a2,a3,a4,_⟩:=topOk_ok hg.1.1.1 hx
   have:=(run_eq_of a1 a2 a3 a4 (eqV_ok w 12 10000 ty _ _ q _ _ (by omega) hq hx hy)).1
   simp [execOp,hop,hg',this]
 · rename_i ty x y f hop
   split at h
   case h_2=>cases h
   rename_i hg
   split at h
   case h_2=>cases h
   rename_i q hq
   cases h
   refine boolC_ok (fun H E w a hC hT=>?_) ho
   have hx:=rel_ev hT x
   have hy:=rel_ev hT y
   have hg':=run_guard (op:=.neq) (w:=w) (.inr rfl) hg hx hy
   simp only [eqOkG,Bool.and_eq_true] at hg
   obtain ⟨a1,a2,a3,a4,_⟩:=topOk_ok hg.1.1.1 hx
   have:=(run_eq_of a1 a2 a3 a4 (eqV_ok w 12 10000 ty _ _ q _ _ (by omega) hq hx hy)).2
   simp [execOp,hop,hg',this]
 · cases h
def orE (a b:CF):CF:=fun nid p o t rd=>match a nid p o t rd with | some e=>some e | none=>b nid p o t rd
theorem orE_ok {P:Program} {a b:CF} (ha:CfOk P a) (hb:CfOk P b):CfOk P (orE a b):=by
 intro nid p o t rd e h ho hd M hM
 unfold orE at h
 split at h
 · rename_i h1
   cases h
   exact ha _ _ _ _ _ _ h1 ho hd M hM
 · exact hb _ _ _ _ _ _ h ho hd M hM
def xops (P:Program) (hh:Nat->Option Hint):CF:=eqX P hh
theorem xops_ok (P:Program) (hh:Nat->Option Hint):CfOk P (xops P hh):=eqX_ok P hh
end Go.Ax
