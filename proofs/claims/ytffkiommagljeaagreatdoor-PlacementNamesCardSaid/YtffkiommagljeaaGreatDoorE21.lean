import Derived.Test.YtffkiommagljeaaGreatDoorE20
set_option linter.unusedVariables false
set_option linter.unusedSimpArgs false
set_option linter.unusedSectionVars false
namespace Go.Ax
open Go
variable [Inhabited Gl0]
def capLe:Option Nat->Option Nat->Bool
 | _,none=>true
 | some a,some b=>Nat.beq a b
 | none,some _=>false
def esLe:List (Value×AV×Nat)->List (Value×AV×Nat)->Prop
 | [],[]=>True
 | (k,a,n)::r,(k',a',n')::r'=>veq k k'/\n=n'/\a.le a'/\esLe r r'
 | _,_=>False
mutual
def Tr.le:Tr->Tr->Prop
 | .av a,t=>(match t with | .av b=>a.le b | _=>False)
 | .box ty sz cs,t=>(match t with | .box ty' sz' cs'=>(match Nat.beq ty ty'&&Nat.beq sz sz' with | true=>Tr.leL cs cs' | false=>False) | _=>False)
 | .row ty sz n c,t=>(match t with | .row ty' sz' n' c'=>(match Nat.beq ty ty'&&Nat.beq sz sz' with | true=>n=n'/\∀ k,k<n->∀ j,j<sz->(c k j).le (c' k j) | false=>False) | _=>False)
 | .frow ty sz n c,t=>(match t with | .frow ty' sz' n' c'=>(match Nat.beq ty ty'&&Nat.beq sz sz' with | true=>n=n'/\contLe n sz c c' | false=>False) | _=>False)
def Tr.leL:List Tr->List Tr->Prop
 | [],l=>(match l with | []=>True | _=>False)
 | t::ts,l=>(match l with | u::us=>t.le u/\Tr.leL ts us | []=>False)
end
mutual
theorem tr_le {H:HH} {hp:Nat->Option Obj}:∀ (t:Tr) {u:Tr} {v:Value} {S:Nat->Prop},t.le u->TrOk H hp t v S->TrOk H hp u v S
 | .av a,u,_,_,h,hr=>by
   cases u with
   | av b=>simp only [Tr.le] at h;exact rel_le a h hr
   | _=>simp only [Tr.le] at h
 | .box ty sz cs,u,_,_,h,hr=>by
   cases u with
   | box ty' sz' cs' =>
     simp only [Tr.le] at h
     split at h
     case h_2=>exact h.elim
     rename_i hb
     simp only [Bool.and_eq_true,Nat.beq_eq] at hb
     obtain ⟨rfl,rfl⟩:=hb
     obtain ⟨b,vs,h1,h2,h3,h4,h5⟩:=hr
     exact ⟨b,vs,h1,h2,h3,h4,trL_le cs h h5⟩
   | _=>simp only [Tr.le] at h
 | .row ty sz n c,u,_,_,h,hr=>by
   cases u with
   | row ty' sz' n' c' =>
     simp only [Tr.le] at h
     split at h
     case h_2=>exact h.elim
     rename_i hb
     simp only [Bool.and_eq_true,Nat.beq_eq] at hb
     obtain ⟨rfl,rfl⟩:=hb
     obtain ⟨rfl,hc⟩:=h
     obtain ⟨κ,h1,h2,h3 | ⟨b,vs,h3,h4,h5,h6,h7,F,h8,h9,h10⟩⟩:=hr
     · exact ⟨κ,h1,h2,.inl h3⟩
     · refine ⟨κ,h1,h2,.inr ⟨b,vs,h3,h4,h5,h6,h7,F,h8,h9,fun k hk j hj=>?_⟩⟩
       obtain ⟨x,g1,g2⟩:=h10 k hk j hj
       exact ⟨x,g1,tr_le (c k j) (hc k hk j hj) g2⟩
   | _=>simp only [Tr.le] at h
 | .frow ty sz n c,u,_,_,h,hr=>by
   cases u with
   | frow ty' sz' n' c' =>
     simp only [Tr.le] at h
     split at h
     case h_2=>exact h.elim
     rename_i hb
     simp only [Bool.and_eq_true,Nat.beq_eq] at hb
     obtain ⟨rfl,rfl⟩:=hb
     obtain ⟨rfl,hc⟩:=h
     obtain ⟨κ,h1,h2,h3 | ⟨b,vs,h3,h4,h5,h6,h7,h10⟩⟩:=hr
     · exact ⟨κ,h1,h2,.inl h3⟩
     · refine ⟨κ,h1,h2,.inr ⟨b,vs,h3,h4,h5,h6,h7,fun k hk j hj=>?_⟩⟩
       obtain ⟨x,g1,g2⟩:=h10 k hk j hj
       exact ⟨x,g1,rel_le0 (hc k hk j hj) g2⟩
   | _=>simp only [Tr.le] at h
theorem trL_le {H:HH} {hp:Nat->Option Obj}:∀ (l:List Tr) {r:List Tr} {vs:List Value} {S:Nat->Prop},Tr.leL l r->TrOkL H hp l vs S->TrOkL H hp r vs S
 | [],r,_,_,h,hr=>by
   cases r with
   | nil=>exact hr
   | cons _ _=>simp only [Tr.leL] at h
 | t::ts,r,_,_,h,hr=>by
   cases r with
   | nil=>simp only [Tr.leL] at h
   | cons u us =>
     simp only [Tr.leL] at h
     obtain ⟨v,q,S1,S2,h1,h2,h3,h4,h5,h6⟩:=hr
     exact ⟨v,q,S1,S2,h1,h2,h3,h4,tr_le t h.1 h5,trL_le ts h.2 h6⟩
end
def tmapLe (n n':Nat):(q:KeyT)->(q.ty->Bool)->(q.ty->Tr)->(q':KeyT)->(q'.ty->Bool)->(q'.ty->Tr)->Prop
 | .s,has,c,.s,has',c'=>n=n'/\(∀ x:ByteArray,has x=has' x)/\∀ x:ByteArray,has x=true->(c x).le (c' x)
 | .i k,has,c,.i k',has',c'=>(match kindB k k' with | true=>n=n'/\(∀ x:Int,has x=has' x)/\∀ x:Int,has x=true->(c x).le (c' x) | false=>False)
 | _,_,_,_,_,_=>False
theorem leL_tab {c c':Nat->Tr}:∀ {n o:Nat},Tr.leL (tabTr c o n) (tabTr c' o n)->∀ j,j<n->(c (o+j)).le (c' (o+j))
 | n+1,o,h,0,_=>by
   simp only [tabTr,Tr.leL] at h
   exact h.1
 | n+1,o,h,j+1,hj=>by
   simp only [tabTr,Tr.leL] at h
   have:=leL_tab h.2 j (by omega)
   rwa [show o+1+j=o+(j+1) by omega] at this
theorem leL_tab0 {c c':Nat->Tr} {n:Nat} (h:Tr.leL (tabTr c 0 n) (tabTr c' 0 n)) (j:Nat) (hj:j<n):(c j).le (c' j):=by
 have:=leL_tab h j hj
 rwa [Nat.zero_add] at this
def zEq:Value->Value->Bool
 | .int k a,.int k' b=>kindB k k'&&decide (a=b)
 | .string a,.string b=>Nat.beq a.size 0&&Nat.beq b.size 0
 | .bool a,.bool b=>(match a with | true=>b | false=>!b)
 | .slice none 0 0,.slice none 0 0=>true
 | .pointer none,.pointer none=>true
 | .map none,.map none=>true
 | .nilIface,.nilIface=>true
 | _,_=>false
theorem zEq_ok {a b:Value} (h:zEq a b=true):a=b:=by
 unfold zEq at h
 split at h
 · simp only [Bool.and_eq_true,decide_eq_true_eq] at h
   rw [of_decide_eq_true h.1,h.2]
 · rename_i a b
   simp only [Bool.and_eq_true,Nat.beq_eq] at h
   have e:∀ x:ByteArray,x.size=0->x=ByteArray.empty:=fun x hx=>by
    apply ByteArray.ext
    exact Array.eq_empty_of_size_eq_zero hx
   rw [e a h.1,e b h.2]
 · rename_i a b
   cases a<;>cases b<;>first | rfl | cases h
 · rfl
 · rfl
 · rfl
 · rfl
 · cases h
def zEqL:List Value->List Value->Bool
 | [],[]=>true
 | a::r,b::s=>zEq a b&&zEqL r s
 | _,_=>false
theorem zEqL_ok:∀ {a b:List Value},zEqL a b=true->a=b
 | [],[],_=>rfl
 | a::r,b::s,h=>by
   simp only [zEqL,Bool.and_eq_true] at h
   rw [zEq_ok h.1,zEqL_ok h.2]
 | [],_::_,h=>by cases h
 | _::_,[],h=>by cases h
def zsLe (a b:List Value):Bool:=match b with | []=>true | b=>zEqL a b
theorem zsLe_ok {a b:List Value} (h:zsLe a b=true) (hb:b≠[]):a=b:=by
 cases b with
 | nil=>exact absurd rfl hb
 | cons x r=>exact zEqL_ok h
def Blk.le:Blk->Blk->Prop
 | _,.dead=>True
 | .box ty cs,.box ty' cs'=>(match Nat.beq ty ty' with | true=>leL cs cs' | false=>False)
 | .lst ty sz n cap cs,.lst ty' sz' n' cap' cs'=>(match Nat.beq ty ty'&&Nat.beq sz sz'&&Nat.beq n n'&&capLe cap cap' with | true=>leL cs cs' | false=>False)
 | .lst ty sz n cap cs,.row ty' sz' n' cap' c'=>(match Nat.beq ty ty'&&Nat.beq sz sz'&&capLe cap cap' with | true=>n=n'/\lstLe sz n cs c' | false=>False)
 | .row ty sz n cap c,.row ty' sz' n' cap' c'=>(match Nat.beq ty ty'&&Nat.beq sz sz'&&capLe cap cap' with | true=>n=n'/\contLe n sz c c' | false=>False)
 | .mp es ck,.mp es' ck'=>ck=ck'/\esLe es es'
 | .mp es _,.mi _ _ has _=>(match es with | []=>∀ x,has x=false | _=>False)
 | .mi kk vk has c,.mi kk' vk' has' c'=>kk=kk'/\vk=vk'/\∀ x,has x=has' x/\(has x=true->c x=c' x)
 | .mit m s l k,.mit m' s' l' k'=>(match Nat.beq m m' with | true=>s=s'/\l=l'/\k=k' | false=>False)
 | .tmap q has c n kn,.tmap q' has' c' n' kn'=>(match kn with | []=>(match kn' with | []=>tmapLe n n' q has c q' has' c' | _=>False) | _=>False)
 | .trow ty sz n cap c op zs,.trow ty' sz' n' cap' c' op' zs'=>(match op with | []=>(match op' with | []=>(match Nat.beq ty ty'&&Nat.beq sz sz'&&capLe cap cap'&&zsLe zs zs' with | true=>n=n'/\∀ k,k<n->Tr.leL (tabTr (c k) 0 sz) (tabTr (c' k) 0 sz) | false=>False) | _=>False) | _=>False)
 | .any,.any=>True
 | _,_=>False
theorem tmapLe_ok {H:HH} {E E':Env} {hp:Nat->Option Obj} {i n n':Nat} {q q':KeyT} {has:q.ty->Bool} {c:q.ty->Tr} {has':q'.ty->Bool} {c':q'.ty->Tr} {l:List MapEntry} {ck:Nat} {F:q.ty->Nat->Prop} (h:tmapLe n n' q has c q' has' c') (hσ:∀ y,E.σ i y->E'.σ i y) (hm:MapOk H E hp i q has c n [] l ck F) :
 ∃ F',MapOk H E' hp i q' has' c' n' [] l ck F':=by
 have key:∀ {q:KeyT} {has has':q.ty->Bool} {c c':q.ty->Tr} {F:q.ty->Nat->Prop},n=n'->(∀ x,has x=has' x)->(∀ x,has x=true->(c x).le (c' x))->MapOk H E hp i q has c n [] l ck F->∃ F',MapOk H E' hp i q has' c' n' [] l ck F':=by
  intro q has has' c c' F h1 h2 h3 hm
  subst h1
  exact ⟨F,hm.ents,hm.size,fun x=>by rw [<- h2 x];exact hm.hasK x,fun p hp=>absurd hp (by simp),fun x y hy=>hσ y (hm.own x y hy),hm.sep,fun x hx v hv=>tr_le (c x) (h3 x ((hm.hasK x).2 ⟨v,hv⟩)) (hm.tr x (fun p hp=>absurd hp (by simp)) v hv)⟩
 unfold tmapLe at h
 split at h
 · exact key h.1 h.2.1 h.2.2 hm
 · split at h
   · rename_i hk
     have hk:=of_decide_eq_true hk
     subst hk
     exact key h.1 h.2.1 h.2.2 hm
   · exact h.elim
 · exact h.elim
theorem esLe_eq:∀ {es es':List (Value×AV×Nat)},esLe es es'->(es.map fun e=>(e.1,e.2.2))=(es'.map fun e=>(e.1,e.2.2))/\∀ {H:HH} {E:Env} {vs:List Value},RelL (es.map fun e=>e.2.1) H E vs->RelL (es'.map fun e=>e.2.1) H E vs
 | [],[],_=>⟨rfl,fun h=>h⟩
 | (k,a,n)::r,(k',a',n')::r',h=>by
   obtain ⟨h1,h2,h3,h4⟩:=h
   obtain ⟨g1,g2⟩:=esLe_eq h4
   refine ⟨by simp only [List.map_cons,veq_eq h1,h2,g1],fun {H E vs} hr=>?_⟩
   obtain ⟨v,q,hv,k1,k2⟩:=hr
   exact ⟨v,q,hv,rel_le _ h3 k1,g2 k2⟩
 | [],_::_,h=>h.elim
 | _::_,[],h=>h.elim
def leM:List Blk->List Blk->Prop
 | _,[]=>True
 | [],b::bs=>(match b with | .dead=>leM [] bs | _=>False)
 | a::as,b::bs=>(match b with | .dead=>leM as bs | b=>a.le b/\leM as bs)
theorem le_dead (B:Blk):B.le .dead:=by cases B<;>trivial
theorem leM_get:∀ {M M':List Blk},leM M M'->∀ i,(getM M i).le (getM M' i)
 | M,[],_,i=>by rw [getM_nil];exact le_dead _
 | [],b::bs,h,i=>by
   cases b<;>simp only [leM] at h<;>try exact h.elim
   cases i with
   | zero=>exact le_dead _
   | succ i=>simpa [getM,getM_nil] using leM_get h i
 | a::as,b::bs,h,i=>by
   have h2:a.le b/\leM as bs:=by
    cases b with
    | dead=>exact ⟨le_dead _,h⟩
    | _=>exact h
   cases i with
   | zero=>exact h2.1
   | succ i=>exact leM_get h2.2 i
def liveB (M:List Blk) (i:Nat):Bool:=match getM M i with | .dead=>false | _=>true
mutual
def okA (lv:Nat->Bool):AV->Bool
 | .ptr i _ _ _=>lv i
 | .own i _ _ _=>lv i
 | .mref i=>lv i
 | .agg cs=>okL lv cs
 | .tup cs=>okL lv cs
 | .fn _ a b=>okL lv a&&okL lv b
 | .ifc _ a=>okA lv a
 | _=>true
def okL (lv:Nat->Bool):List AV->Bool
 | []=>true
 | a::r=>okA lv a&&okL lv r
end
def keepL (lv:Nat->Bool) (i:Nat):Option Nat:=if lv i then some i else none
mutual
theorem ren_ok (lv:Nat->Bool):∀ a:AV,okA lv a=true->ren (keepL lv) a=a
 | .s _,_ | .y _,_ | .junk,_ | .sl ..,_ | .ys ..,_ | .yn ..,_ | .ip ..,_ | .opt ..,_=>rfl
 | .ptr i k sz o,h=>by simp only [okA] at h;simp [ren,keepL,h]
 | .own i sz lo n,h=>by simp only [okA] at h;simp [ren,keepL,h]
 | .mref i,h=>by simp only [okA] at h;simp [ren,keepL,h]
 | .agg cs,h=>by simp only [okA] at h;simp [ren,renL_ok lv cs h]
 | .tup cs,h=>by simp only [okA] at h;simp [ren,renL_ok lv cs h]
 | .fn f a b,h=>by simp only [okA,Bool.and_eq_true] at h;simp [ren,renL_ok lv a h.1,renL_ok lv b h.2]
 | .ifc t a,h=>by simp only [okA] at h;simp [ren,ren_ok lv a h]
theorem renL_ok (lv:Nat->Bool):∀ l:List AV,okL lv l=true->renL (keepL lv) l=l
 | [],_=>rfl
 | a::r,h=>by simp only [okL,Bool.and_eq_true] at h;simp [renL,ren_ok lv a h.1,renL_ok lv r h.2]
end
def okP (lv:Nat->Bool):List (Nat×List AV)->Bool
 | []=>true
 | p::r=>okL lv p.2&&okP lv r
def okB (lv:Nat->Bool):Blk->Bool
 | .box _ cs=>okL lv cs
 | .lst _ _ _ _ cs=>okL lv cs
 | .mp es _=>okL lv (es.map fun e=>e.2.1)
 | .mit m _ _ _=>lv m
 | .tmap _ _ _ _ kn=>okL lv (kn.map fun p=>p.2)
 | .trow _ _ _ _ _ op _=>okP lv op
 | _=>true
def okMs (lv:Nat->Bool):List Blk->Bool
 | []=>true
 | b::r=>okB lv b&&okMs lv r
theorem okMs_get {lv:Nat->Bool}:∀ {M:List Blk},okMs lv M=true->∀ i,okB lv (getM M i)=true
 | [],_,i=>by rw [getM_nil];rfl
 | b::r,h,i=>by
   simp only [okMs,Bool.and_eq_true] at h
   cases i with
   | zero=>exact h.1
   | succ i=>exact okMs_get h.2 i
def drops:List Blk->List Blk->Nat->List Nat
 | [],_,_=>[]
 | a::as,l,i=>(match a,l with
   | .dead,_=>drops as l.tail (i+1)
   | _,.dead::_=>i::drops as l.tail (i+1)
   | _,[]=>i::drops as [] (i+1)
   | _,_=>drops as l.tail (i+1))
theorem drops_mem:∀ {M M':List Blk} {p:Nat} (i:Nat),getM M i≠.dead->getM M' i=.dead->p+i∈drops M M' p
 | [],_,_,i,h,_=>absurd (getM_nil i) h
 | a::as,l,p,0,h,h'=>by
   have h:a≠.dead:=h
   cases l with
   | nil=>cases a<;>first | exact absurd rfl h | simp [drops]
   | cons b bs =>
     have h':b=.dead:=h'
     subst h'
     cases a<;>first | exact absurd rfl h | simp [drops]
 | a::as,l,p,i+1,h,h'=>by
   have h1:getM l.tail i=.dead:=by
    cases l with
    | nil=>exact getM_nil i
    | cons b bs=>exact h'
   have:=drops_mem (M:=as) (M':=l.tail) (p:=p+1) i h h1
   rw [show p+1+i=p+(i+1) by omega] at this
   simp only [drops]
   split
   · exact this
   · exact List.mem_cons_of_mem _ this
   · exact List.mem_cons_of_mem _ this
   · exact this
theorem blk_le {H:HH} {E E':Env} {w:World} {i:Nat} {B B':Blk} {lv:Nat->Bool} (h:BlkOk H E w i B) (hle:B.le B') (hok:okB lv B'=true) (hv:E.via E' (keepL lv)) (hne:B'≠.dead) (hl:E'.lv i=E.lv i) (hι:E'.ι i=E.ι i) (hκ:E'.κ i=E.κ i) (hη:E'.η i=E.η i) (hσ:E'.σ i=E.σ i):BlkOk H E' w i B':=by
 have hL:∀ {cs cs':List AV} {vs:List Value},leL cs cs'->okL lv cs'=true->RelL cs H E vs->RelL cs' H E' vs:=fun h1 h2 h3=>by
  have:=RelL.ren _ hv (relL_le _ h1 h3)
  rwa [renL_ok lv _ h2] at this
 have hcap:∀ {c c':Option Nat} {m:Nat},capLe c c'=true->(∀ q,c=some q->m=q)->∀ q,c'=some q->m=q:=by
  intro c c' m h1 h2 q hq
  subst hq
  cases c with
  | none=>cases h1
  | some a=>rw [h2 a rfl];exact Nat.eq_of_beq_eq_true h1
 cases B with
 | dead=>cases B'<;>first | exact absurd rfl hne | exact hle.elim
 | box ty cs =>
   cases B' with
   | box ty' cs' =>
     simp only [Blk.le] at hle
     split at hle
     case h_2=>exact hle.elim
     rename_i ht
     have ht:=Nat.eq_of_beq_eq_true ht
     subst ht
     obtain ⟨h0,b,vs,h1,h2,h3,h4⟩:=h
     exact ⟨hl.trans h0,b,vs,hι.trans h1,h2,h3,hL hle hok h4⟩
   | dead=>exact absurd rfl hne
   | _=>exact hle.elim
 | lst ty sz n cap cs =>
   obtain ⟨h0,ha,hb,hc,h1⟩:=h
   cases B' with
   | lst ty' sz' n' cap' cs' =>
     simp only [Blk.le] at hle
     split at hle
     case h_2=>exact hle.elim
     rename_i ht
     simp only [Bool.and_eq_true,Nat.beq_eq] at ht
     obtain ⟨⟨⟨rfl,rfl⟩,rfl⟩,hcl⟩:=ht
     refine ⟨hl.trans h0,by rw [hκ,hη];exact ha,by rw [hκ];exact hb,by rw [hκ];exact hcap hcl hc,?_⟩
     rw [hι,hκ]
     cases hi:E.ι i with
     | none =>
       rw [hi] at h1
       refine ⟨h1.1,?_⟩
       have:=h1.2
       subst this
       cases cs' with
       | nil=>rfl
       | cons _ _=>exact hle.elim
     | some b =>
       rw [hi] at h1
       obtain ⟨vs,h2,h3,h4,h5⟩:=h1
       exact ⟨vs,h2,h3,h4,hL hle hok h5⟩
   | row ty' sz' n' cap' c' =>
     simp only [Blk.le] at hle
     split at hle
     case h_2=>exact hle.elim
     rename_i ht
     simp only [Bool.and_eq_true,Nat.beq_eq] at ht
     obtain ⟨⟨rfl,rfl⟩,hcl⟩:=ht
     obtain ⟨rfl,hle⟩:=hle
     refine ⟨hl.trans h0,by rw [hκ,hη];exact ha,by rw [hκ];exact hb,by rw [hκ];exact hcap hcl hc,?_⟩
     rw [hι,hκ]
     cases hi:E.ι i with
     | none=>rw [hi] at h1;exact h1.1
     | some b =>
       rw [hi] at h1
       obtain ⟨vs,h2,h3,h4,h5⟩:=h1
       refine ⟨vs,h2,h3,h4,fun k hk j hj=>?_⟩
       have hlt:k*sz+j<n*sz:=by
        have:(k+1)*sz<=n*sz:=Nat.mul_le_mul_right _ hk
        rw [Nat.add_mul,Nat.one_mul] at this
        omega
       have hn:n*sz<=E.κ i*sz:=Nat.mul_le_mul_right _ ha.2
       have hsz:k*sz+j<vs.size:=by omega
       refine ⟨vs[k*sz+j],Array.getElem?_eq_getElem hsz,?_⟩
       obtain ⟨g1,g2⟩:=hle k hk j hj
       refine Rel.noRef _ g2 (rel_le0 g1 (relL_get h5 (k*sz+j) vs[k*sz+j] ?_))
       rw [List.getElem?_take,if_pos hlt]
       simp [hsz]
   | dead=>exact absurd rfl hne
   | _=>exact hle.elim
 | row ty sz n cap c =>
   obtain ⟨h0,ha,hb,hc,h1⟩:=h
   cases B' with
   | row ty' sz' n' cap' c' =>
     simp only [Blk.le] at hle
     split at hle
     case h_2=>exact hle.elim
     rename_i ht
     simp only [Bool.and_eq_true,Nat.beq_eq] at ht
     obtain ⟨⟨rfl,rfl⟩,hcl⟩:=ht
     obtain ⟨rfl,hle⟩:=hle
     refine ⟨hl.trans h0,by rw [hκ,hη];exact ha,by rw [hκ];exact hb,by rw [hκ];exact hcap hcl hc,?_⟩
     rw [hι,hκ]
     cases hi:E.ι i with
     | none=>rw [hi] at h1;exact h1
     | some b =>
       rw [hi] at h1
       obtain ⟨vs,h2,h3,h4,h5⟩:=h1
       refine ⟨vs,h2,h3,h4,fun k hk j hj=>?_⟩
       obtain ⟨x,hx,hr⟩:=h5 k hk j hj
       exact ⟨x,hx,rel_le0 (hle k hk j hj) hr⟩
   | dead=>exact absurd rfl hne
   | _=>exact hle.elim
 | mp es ck =>
   obtain ⟨h0,b,ms,h1,h2,h3,h4⟩:=h
   cases B' with
   | mp es' ck' =>
     obtain ⟨rfl,hle⟩:=hle
     obtain ⟨g1,g2⟩:=esLe_eq hle
     refine ⟨hl.trans h0,b,ms,hι.trans h1,h2,h3.trans g1,?_⟩
     have:=RelL.ren _ hv (g2 h4)
     rwa [renL_ok lv _ hok] at this
   | mi kk vk has c =>
     simp only [Blk.le] at hle
     split at hle
     case h_2=>exact hle.elim
     have:ms.toList=[]:=by simpa using h3
     refine ⟨hl.trans h0,b,ms,ck,hι.trans h1,h2,fun e he=>(by rw [this] at he;cases he),fun x=>?_⟩
     rw [this,hle x];rfl
   | dead=>exact absurd rfl hne
   | _=>exact hle.elim
 | mi kk vk has c =>
   obtain ⟨h0,b,ms,ck,h1,h2,h3,h4⟩:=h
   cases B' with
   | mi kk' vk' has' c' =>
     obtain ⟨rfl,rfl,hle⟩:=hle
     refine ⟨hl.trans h0,b,ms,ck,hι.trans h1,h2,h3,fun x=>?_⟩
     rw [h4 x,<- (hle x).1]
     cases hx:has x with
     | true=>simp only;rw [(hle x).2 hx]
     | false=>rfl
   | dead=>exact absurd rfl hne
   | _=>exact hle.elim
 | mit m s l k =>
   obtain ⟨h0,hm,b,bm,h1,h2,h3⟩:=h
   cases B' with
   | mit m' s' l' k' =>
     simp only [Blk.le] at hle
     split at hle
     case h_2=>exact hle.elim
     rename_i ht
     have ht:=Nat.eq_of_beq_eq_true ht
     subst ht
     obtain ⟨rfl,rfl,rfl⟩:=hle
     obtain ⟨g1,g2,_⟩:=hv m m (by simp only [okB] at hok;simp [keepL,hok]) hm
     exact ⟨hl.trans h0,g1,b,bm,hι.trans h1,g2.trans h2,h3⟩
   | dead=>exact absurd rfl hne
   | _=>exact hle.elim
 | tmap q has c n kn =>
   cases B' with
   | tmap q' has' c' n' kn' =>
     cases kn with
     | cons _ _=>exact hle.elim
     | nil =>
       cases kn' with
       | cons _ _=>exact hle.elim
       | nil =>
         obtain ⟨h0,b,ms,ck,F,h1,h2,h3,h4⟩:=h
         obtain ⟨F',h5⟩:=tmapLe_ok (E':=E') hle (fun y hy=>by rw [hσ];exact hy) h4
         exact ⟨hl.trans h0,b,ms,ck,F',hι.trans h1,by rw [hσ];exact h2,h3,h5⟩
   | dead=>exact absurd rfl hne
   | _=>exact hle.elim
 | trow ty sz n cap c op zs =>
   obtain ⟨h0,ha,hb,hc,h1⟩:=h
   cases B' with
   | trow ty' sz' n' cap' c' op' zs' =>
     cases op with
     | cons _ _=>exact hle.elim
     | nil =>
       cases op' with
       | cons _ _=>exact hle.elim
       | nil =>
         simp only [Blk.le] at hle
         split at hle
         case h_2=>exact hle.elim
         rename_i ht
         simp only [Bool.and_eq_true,Nat.beq_eq] at ht
         obtain ⟨⟨⟨rfl,rfl⟩,hcl⟩,hzl⟩:=ht
         obtain ⟨rfl,hle⟩:=hle
         refine ⟨hl.trans h0,by rw [hκ,hη];exact ha,by rw [hκ];exact hb,by rw [hκ];exact hcap hcl hc,?_⟩
         rw [hι,hκ]
         cases hi:E.ι i with
         | none=>rw [hi] at h1;exact h1
         | some b =>
           rw [hi] at h1
           obtain ⟨hs,vs,F,h2,h4⟩:=h1
           refine ⟨by rw [hσ];exact hs,vs,F,h2,h4.one,h4.size,fun k j x hx=>by rw [hσ];exact h4.own k j x hx,h4.sep,fun p hp=>(by cases hp),List.nodup_nil,fun p hp=>(by cases hp),fun k hk hn j hj=>?_,fun hz=>?_⟩
           · obtain ⟨x,g1,g2⟩:=h4.tr k hk (fun p hp=>by cases hp) j hj
             exact ⟨x,g1,tr_le _ (leL_tab0 (hle k hk) j hj) g2⟩
           · rw [<- zsLe_ok hzl hz]
             refine h4.spare ?_
             rw [zsLe_ok hzl hz];exact hz
   | dead=>exact absurd rfl hne
   | _=>exact hle.elim
 | any =>
   obtain ⟨h0,b,o,h1,h2⟩:=h
   cases B' with
   | any=>exact ⟨hl.trans h0,b,o,hι.trans h1,h2⟩
   | dead=>exact absurd rfl hne
   | _=>exact hle.elim
def knIds {α:Type} (rd:Nat->Blk) (c:α->Tr):List (α×AV)->List Nat
 | []=>[]
 | (k,a)::r=>cloIds rd (c k) a++knIds rd c r
def knLe {α:Type} (rd:Nat->Blk) (c:α->Tr):List (α×AV)->Prop
 | []=>True
 | (k,a)::r=>cloLe rd (c k) a/\knLe rd c r
def notIn {α:Type} (x:α) (p:Prop):List (α×AV)->Prop
 | []=>p
 | (k,_)::r=>¬ x=k->notIn x p r
def tmapLeK (rd:Nat->Blk) (n n':Nat):(q:KeyT)->(q.ty->Bool)->(q.ty->Tr)->List (q.ty×AV)->(q':KeyT)->(q'.ty->Bool)->(q'.ty->Tr)->Prop
 | .s,has,c,kn,.s,has',c'=>n=n'/\(∀ x:ByteArray,has x=has' x)/\knLe rd c' kn/\∀ x:ByteArray,has x=true->notIn x ((c x).le (c' x)) kn
 | .i k,has,c,kn,.i k',has',c'=>(match kindB k k' with | true=>n=n'/\(∀ x:Int,has x=has' x)/\knLe rd c' kn/\∀ x:Int,has x=true->notIn x ((c x).le (c' x)) kn | false=>False)
 | _,_,_,_,_,_,_=>False
def tmapIds (rd:Nat->Blk):(q:KeyT)->List (q.ty×AV)->(q':KeyT)->(q'.ty->Tr)->List Nat
 | .s,kn,.s,c'=>knIds rd c' kn
 | .i _,kn,.i _,c'=>knIds rd c' kn
 | _,_,_,_=>[]
def opLe (rd:Nat->Blk) (sz:Nat) (c:Nat->Nat->Tr):List (Nat×List AV)->Prop
 | []=>True
 | (k,as)::r=>cloLeL rd (tabTr (c k) 0 sz) as/\opLe rd sz c r
def opIds (rd:Nat->Blk) (sz:Nat) (c:Nat->Nat->Tr):List (Nat×List AV)->List Nat
 | []=>[]
 | (k,as)::r=>cloIdsL rd (tabTr (c k) 0 sz) as++opIds rd sz c r
def notInP (x:Nat) (p:Prop):List (Nat×List AV)->Prop
 | []=>p
 | (k,_)::r=>¬ x=k->notInP x p r
def Blk.leK (rd:Nat->Blk):Blk->Blk->Prop
 | .trow ty sz n cap c op zs,.trow ty' sz' n' cap' c' [] zs'=>(match Nat.beq ty ty'&&Nat.beq sz sz'&&capLe cap cap'&&zsLe zs zs' with | true=>n=n'/\opLe rd sz c' op/\∀ k,k<n->notInP k (Tr.leL (tabTr (c k) 0 sz) (tabTr (c' k) 0 sz)) op | false=>False)
 | .tmap q has c n kn,.tmap q' has' c' n' []=>tmapLeK rd n n' q has c kn q' has' c'
 | a,b=>a.le b
def Blk.idsK (rd:Nat->Blk):Blk->Blk->List Nat
 | .trow _ sz _ _ _ op _,.trow _ _ _ _ c' [] _=>opIds rd sz c' op
 | .tmap q _ _ _ kn,.tmap q' _ c' _ []=>tmapIds rd q kn q' c'
 | _,_=>[]
def leMK (rd:Nat->Blk):List Blk->List Blk->Prop
 | _,[]=>True
 | [],b::bs=>(match b with | .dead=>leMK rd [] bs | _=>False)
 | a::as,b::bs=>(match b with | .dead=>leMK rd as bs | b=>a.leK rd b/\leMK rd as bs)
def idsMK (rd:Nat->Blk):List Blk->List Blk->List Nat
 | a::as,b::bs=>a.idsK rd b++idsMK rd as bs
 | _,_=>[]
theorem leMK_get {rd:Nat->Blk}:∀ {M M':List Blk},leMK rd M M'->∀ i,getM M' i≠.dead->(getM M i).leK rd (getM M' i)
 | M,[],_,i,hn=>absurd (getM_nil i) hn
 | [],b::bs,h,i,hn=>by
   cases b<;>simp only [leMK] at h<;>try exact h.elim
   cases i with
   | zero=>exact absurd rfl hn
   | succ i=>simpa [getM,getM_nil] using leMK_get h i hn
 | a::as,b::bs,h,i,hn=>by
   cases i with
   | zero =>
     have hn:b≠.dead:=hn
     have h2:a.leK rd b:=by
      cases b with
      | dead=>exact absurd rfl hn
      | _=>exact h.1
     exact h2
   | succ i =>
     have h2:leMK rd as bs:=by
      cases b with
      | dead=>exact h
      | _=>exact h.2
     exact leMK_get h2 i hn
theorem idsK_nil {rd:Nat->Blk} {a b:Blk} (h:a=.dead∨b=.dead):a.idsK rd b=[]:=by
 rcases h with rfl | rfl
 · cases b<;>rfl
 · cases a<;>rfl
theorem idsMK_mem {rd:Nat->Blk}:∀ {M M':List Blk} (i:Nat) {x:Nat},x∈(getM M i).idsK rd (getM M' i)->x∈idsMK rd M M'
 | [],M',i,x,h=>by rw [getM_nil,idsK_nil (.inl rfl)] at h;cases h
 | _::_,[],i,x,h=>by rw [getM_nil i,idsK_nil (.inr rfl)] at h;cases h
 | a::as,b::bs,0,x,h=>List.mem_append_left _ h
 | a::as,b::bs,i+1,x,h=>List.mem_append_right _ (idsMK_mem (M:=as) (M':=bs) i h)
theorem idsMK_one {rd:Nat->Blk}:∀ {M M':List Blk},(idsMK rd M M').Nodup->∀ (i:Nat),((getM M i).idsK rd (getM M' i)).Nodup
 | [],M',_,i=>by rw [getM_nil,idsK_nil (.inl rfl)];exact List.nodup_nil
 | _::_,[],_,i=>by rw [getM_nil i,idsK_nil (.inr rfl)];exact List.nodup_nil
 | a::as,b::bs,h,0=>(List.nodup_append.1 h).1
 | a::as,b::bs,h,i+1=>idsMK_one (M:=as) (M':=bs) (List.nodup_append.1 h).2.1 i
theorem idsMK_two {rd:Nat->Blk}:∀ {M M':List Blk},(idsMK rd M M').Nodup->∀ (i j:Nat) {x:Nat},x∈(getM M i).idsK rd (getM M' i)->x∈(getM M j).idsK rd (getM M' j)->i=j
 | [],M',_,i,j,x,h,_=>by rw [getM_nil,idsK_nil (.inl rfl)] at h;cases h
 | _::_,[],_,i,j,x,h,_=>by rw [getM_nil i,idsK_nil (.inr rfl)] at h;cases h
 | a::as,b::bs,_,0,0,x,_,_=>rfl
 | a::as,b::bs,hn,0,j+1,x,h1,h2=>absurd rfl ((List.nodup_append.1 hn).2.2 x h1 x (idsMK_mem (M:=as) (M':=bs) j h2))
 | a::as,b::bs,hn,i+1,0,x,h1,h2=>absurd rfl ((List.nodup_append.1 hn).2.2 x h2 x (idsMK_mem (M:=as) (M':=bs) i h1))
 | a::as,b::bs,hn,i+1,j+1,x,h1,h2=>by rw [idsMK_two (M:=as) (M':=bs) (List.nodup_append.1 hn).2.1 i j h1 h2]
theorem knIds_mem {α:Type} {rd:Nat->Blk} {c:α->Tr}:∀ {kn:List (α×AV)} {p:α×AV} {j:Nat},p∈kn->j∈cloIds rd (c p.1) p.2->j∈knIds rd c kn
 | (k,a)::r,p,j,hp,hj=>by
   rcases List.mem_cons.1 hp with rfl | hp
   · exact List.mem_append_left _ hj
   · exact List.mem_append_right _ (knIds_mem hp hj)
theorem knIds_one {α:Type} {rd:Nat->Blk} {c:α->Tr}:∀ {kn:List (α×AV)},(knIds rd c kn).Nodup->∀ p∈kn,(cloIds rd (c p.1) p.2).Nodup
 | (k,a)::r,h,p,hp=>by
   have h:=List.nodup_append.1 h
   rcases List.mem_cons.1 hp with rfl | hp
   · exact h.1
   · exact knIds_one h.2.1 p hp
theorem knIds_two {α:Type} {rd:Nat->Blk} {c:α->Tr}:∀ {kn:List (α×AV)},(knIds rd c kn).Nodup->∀ {p p':α×AV} {j:Nat},p∈kn->p'∈kn->j∈cloIds rd (c p.1) p.2->j∈cloIds rd (c p'.1) p'.2->p.1=p'.1
 | (k,a)::r,h,p,p',j,hp,hp',h1,h2=>by
   have h:=List.nodup_append.1 h
   rcases List.mem_cons.1 hp with rfl | hp<;>rcases List.mem_cons.1 hp' with rfl | hp'
   · rfl
   · exact absurd rfl (h.2.2 j h1 j (knIds_mem hp' h2))
   · exact absurd rfl (h.2.2 j h2 j (knIds_mem hp h1))
   · exact knIds_two h.2.1 hp hp' h1 h2
theorem knLe_mem {α:Type} {rd:Nat->Blk} {c:α->Tr}:∀ {kn:List (α×AV)},knLe rd c kn->∀ p∈kn,cloLe rd (c p.1) p.2
 | (k,a)::r,h,p,hp=>by
   rcases List.mem_cons.1 hp with rfl | hp
   · exact h.1
   · exact knLe_mem h.2 p hp
theorem notIn_ok {α:Type} {x:α} {P:Prop}:∀ {kn:List (α×AV)},notIn x P kn->(∀ p∈kn,p.1≠x)->P
 | [],h,_=>h
 | (k,a)::r,h,hn=>notIn_ok (h fun e=>hn (k,a) (by simp) e.symm) fun p hp=>hn p (List.mem_cons_of_mem _ hp)
theorem map_uniq {α β:Type} {f:α->β}:∀ {l:List α},(l.map f).Nodup->∀ {a b:α},a∈l->b∈l->f a=f b->a=b
 | x::r,h,a,b,ha,hb,e=>by
   rw [List.map_cons,List.nodup_cons] at h
   rcases List.mem_cons.1 ha with h1 | h1<;>rcases List.mem_cons.1 hb with h2 | h2
   · exact h1.trans h2.symm
   · exact absurd (List.mem_map.2 ⟨b,h2,by rw [<- e,h1]⟩) h.1
   · exact absurd (List.mem_map.2 ⟨a,h1,by rw [e,h2]⟩) h.1
   · exact map_uniq h.2 h1 h2 e
theorem mgetK_uniq {q:KeyT} {l:List MapEntry} {ck:Nat} (h:EntsOk q l ck) {x:q.ty} {u v:Value} (hu:mgetK q x l u) (hv:mgetK q x l v):u=v:=by
 obtain ⟨e,he,hek,rfl⟩:=hu
 obtain ⟨e',he',hek',rfl⟩:=hv
 rw [map_uniq h.once he he' (hek.trans hek'.symm)]
theorem tmapLeK_ok {H:HH} {E E':Env} {w:World} {M:List Blk} {i n n':Nat} {q q':KeyT} {has:q.ty->Bool} {c:q.ty->Tr} {kn:List (q.ty×AV)} {has':q'.ty->Bool} {c':q'.ty->Tr} {l:List MapEntry} {ck:Nat} {F:q.ty->Nat->Prop} (hC:Conc H E w M) (hli:E.lv i=true) (h:tmapLeK (getM M) n n' q has c kn q' has' c')
 (hn:(tmapIds (getM M) q kn q' c').Nodup) (hi:i ∉ tmapIds (getM M) q kn q' c') (hσ:∀ y,(E.σ i y∨ofIds E (tmapIds (getM M) q kn q' c') y)->E'.σ i y) (hm:MapOk H E (fun b=>w.heap[b]?) i q has c n kn l ck F) :
 ∃ F',MapOk H E' (fun b=>w.heap[b]?) i q' has' c' n' [] l ck F':=by
 have key:∀ {q:KeyT} {has has':q.ty->Bool} {c c':q.ty->Tr} {kn:List (q.ty×AV)} {F:q.ty->Nat->Prop},(knIds (getM M) c' kn).Nodup->i ∉ knIds (getM M) c' kn->(∀ y,(E.σ i y∨ofIds E (knIds (getM M) c' kn) y)->E'.σ i y)->n=n'->(∀ x,has x=has' x)->knLe (getM M) c' kn->(∀ x,has x=true->notIn x ((c x).le (c' x)) kn) ->
  MapOk H E (fun b=>w.heap[b]?) i q has c n kn l ck F->∃ F',MapOk H E' (fun b=>w.heap[b]?) i q has' c' n' [] l ck F':=by
  intro q has has' c c' kn F hn hi hσ h1 h2 hk h3 hm
  subst h1
  refine ⟨fun x y=>(∃ p∈kn,p.1=x/\ofIds E (cloIds (getM M) (c' p.1) p.2) y)∨((∀ p∈kn,p.1≠x)/\F x y),hm.ents,hm.size,fun x=>by rw [<- h2 x];exact hm.hasK x,fun p hp=>absurd hp (by simp),fun x y hy=>hσ y ?_,fun x x' y hx hx'=>?_,fun x _ v hv=>?_⟩
  · rcases hy with ⟨p,hp,_,j,hj,hjy⟩ | ⟨_,hy⟩
    · exact .inr ⟨j,knIds_mem hp hj,hjy⟩
    · exact .inl (hm.own x y hy)
  · rcases hx with ⟨p,hp,rfl,j,hj,hjy⟩ | ⟨a1,hy⟩<;>rcases hx' with ⟨p',hp',rfl,j',hj',hjy'⟩ | ⟨a2,hy'⟩
    · have:=hC.injH j j' y hjy hjy'
      subst this
      exact knIds_two hn hp hp' hj hj'
    · have:=hC.injH j i y hjy ⟨hli,.inr (hm.own _ _ hy')⟩
      subst this
      exact absurd (knIds_mem hp hj) hi
    · have:=hC.injH j' i y hjy' ⟨hli,.inr (hm.own _ _ hy)⟩
      subst this
      exact absurd (knIds_mem hp' hj') hi
    · exact hm.sep x x' y hy hy'
  · by_cases hx:∃ p∈kn,p.1=x
    · obtain ⟨p,hp,rfl⟩:=hx
      obtain ⟨u,hu,hru⟩:=hm.known p hp
      have huv:u=v:=mgetK_uniq hm.ents hu hv
      subst huv
      exact TrOk.move (HH.le_refl _) _ (fun b hb=>.inl ⟨p,hp,rfl,hb⟩) (fun _ _=>rfl) (clo_ok hC _ (knLe_mem hk p hp) (knIds_one hn p hp) hru)
    · have hx':∀ p∈kn,p.1≠x:=fun p hp e=>hx ⟨p,hp,e⟩
      exact TrOk.move (HH.le_refl _) _ (fun b hb=>.inr ⟨hx',hb⟩) (fun _ _=>rfl) (tr_le (c x) (notIn_ok (h3 x ((hm.hasK x).2 ⟨v,hv⟩)) hx') (hm.tr x hx' v hv))
 unfold tmapLeK at h
 split at h
 · exact key hn hi hσ h.1 h.2.1 h.2.2.1 h.2.2.2 hm
 · split at h
   · rename_i hk
     have hk:=of_decide_eq_true hk
     subst hk
     exact key hn hi hσ h.1 h.2.1 h.2.2.1 h.2.2.2 hm
   · exact h.elim
 · exact h.elim
theorem tabTr_get (c:Nat->Tr):∀ (n o j:Nat),j<n->(tabTr c o n)[j]? = some (c (o+j))
 | 0,_,_,h=>by omega
 | n+1,o,0,_=>rfl
 | n+1,o,j+1,h=>by
   simp only [tabTr,List.getElem?_cons_succ]
   rw [tabTr_get c n (o+1) j (by omega)]
   congr 2;omega
theorem len_tabTr (c:Nat->Tr):∀ (n o:Nat),(tabTr c o n).length=n
 | 0,_=>rfl
 | n+1,o=>by simp [tabTr,len_tabTr c n]
theorem trOkL_get {H:HH} {hp:Nat->Option Obj}:∀ {ts:List Tr} {vs:List Value} {S:Nat->Prop},TrOkL H hp ts vs S ->
 ∃ G:Nat->Nat->Prop,(∀ j x,G j x->S x)/\(∀ j j' x,G j x->G j' x->j=j')/\∀ j t,ts[j]? = some t->∃ v,vs[j]? = some v/\TrOk H hp t v (G j)
 | [],vs,S,_=>⟨fun _ _=>False,fun _ _ h=>h.elim,fun _ _ _ h=>h.elim,fun j t h=>by simp at h⟩
 | t::ts,vs,S,h=>by
   obtain ⟨v,r,S1,S2,rfl,h2,h3,h4,h5,h6⟩:=h
   obtain ⟨G,g1,g2,g3⟩:=trOkL_get h6
   refine ⟨fun j x=>match j with | 0=>S1 x | j+1=>G j x,fun j x hx=>?_,fun j j' x hx hx'=>?_,fun j t' ht=>?_⟩
   · cases j with
     | zero=>exact h2 x hx
     | succ j=>exact h3 x (g1 j x hx)
   · cases j with
     | zero =>
       cases j' with
       | zero=>rfl
       | succ j'=>exact (h4 x hx (g1 j' x hx')).elim
     | succ j =>
       cases j' with
       | zero=>exact (h4 x hx' (g1 j x hx)).elim
       | succ j'=>rw [g2 j j' x hx hx']
   · cases j with
     | zero=>simp at ht;subst ht;exact ⟨v,rfl,h5⟩
     | succ j=>simpa using g3 j t' (by simpa using ht)
theorem trOkL_mk {H:HH} {hp:Nat->Option Obj}:∀ {ts:List Tr} {vs:List Value} {G:Nat->Nat->Prop},ts.length=vs.length->(∀ j j' x,G j x->G j' x->j=j')->(∀ j t,ts[j]? = some t->∃ v,vs[j]? = some v/\TrOk H hp t v (G j))->TrOkL H hp ts vs (fun x=>∃ j,G j x)
 | [],[],_,_,_,_=>rfl
 | t::ts,v::r,G,hl,h1,h2=>by
   obtain ⟨v',e,h3⟩:=h2 0 t rfl
   simp at e;subst e
   refine ⟨v,r,G 0,fun x=>∃ j,G (j+1) x,rfl,fun x hx=>⟨0,hx⟩,fun x ⟨j,hx⟩=>⟨j+1,hx⟩,fun x hx ⟨j,hx'⟩=>?_,h3,trOkL_mk (G:=fun j=>G (j+1)) (by simpa using hl) (fun j j' x hx hx'=>by have:=h1 _ _ x hx hx';omega) fun j t' ht=>by simpa using h2 (j+1) t' (by simpa using ht)⟩
   have:=h1 _ _ x hx hx';omega
 | [],_::_,_,hl,_,_=>by simp at hl
 | _::_,[],_,hl,_,_=>by simp at hl
theorem opIds_mem {rd:Nat->Blk} {sz:Nat} {c:Nat->Nat->Tr}:∀ {op:List (Nat×List AV)} {p:Nat×List AV} {j:Nat},p∈op->j∈cloIdsL rd (tabTr (c p.1) 0 sz) p.2->j∈opIds rd sz c op
 | (k,a)::r,p,j,hp,hj=>by
   rcases List.mem_cons.1 hp with rfl | hp
   · exact List.mem_append_left _ hj
   · exact List.mem_append_right _ (opIds_mem hp hj)
theorem opIds_one {rd:Nat->Blk} {sz:Nat} {c:Nat->Nat->Tr}:∀ {op:List (Nat×List AV)},(opIds rd sz c op).Nodup->∀ p∈op,(cloIdsL rd (tabTr (c p.1) 0 sz) p.2).Nodup
 | (k,a)::r,h,p,hp=>by
   have h:=List.nodup_append.1 h
   rcases List.mem_cons.1 hp with rfl | hp
   · exact h.1
   · exact opIds_one h.2.1 p hp
theorem opIds_two {rd:Nat->Blk} {sz:Nat} {c:Nat->Nat->Tr}:∀ {op:List (Nat×List AV)},(opIds rd sz c op).Nodup->∀ {p p':Nat×List AV} {j:Nat},p∈op->p'∈op->j∈cloIdsL rd (tabTr (c p.1) 0 sz) p.2->j∈cloIdsL rd (tabTr (c p'.1) 0 sz) p'.2->p.1=p'.1
 | (k,a)::r,h,p,p',j,hp,hp',h1,h2=>by
   have h:=List.nodup_append.1 h
   rcases List.mem_cons.1 hp with rfl | hp<;>rcases List.mem_cons.1 hp' with rfl | hp'
   · rfl
   · exact absurd rfl (h.2.2 j h1 j (opIds_mem hp' h2))
   · exact absurd rfl (h.2.2 j h2 j (opIds_mem hp h1))
   · exact opIds_two h.2.1 hp hp' h1 h2
theorem opLe_mem {rd:Nat->Blk} {sz:Nat} {c:Nat->Nat->Tr}:∀ {op:List (Nat×List AV)},opLe rd sz c op->∀ p∈op,cloLeL rd (tabTr (c p.1) 0 sz) p.2
 | (k,a)::r,h,p,hp=>by
   rcases List.mem_cons.1 hp with rfl | hp
   · exact h.1
   · exact opLe_mem h.2 p hp
theorem notInP_ok {x:Nat} {P:Prop}:∀ {op:List (Nat×List AV)},notInP x P op->(∀ p∈op,p.1≠x)->P
 | [],h,_=>h
 | (k,a)::r,h,hn=>notInP_ok (h fun e=>hn (k,a) (by simp) e.symm) fun p hp=>hn p (List.mem_cons_of_mem _ hp)
theorem trowLeK_ok {H:HH} {E E':Env} {w:World} {M:List Blk} {i sz n κ:Nat} {c c':Nat->Nat->Tr} {op:List (Nat×List AV)} {zs zs':List Value} {vs:List Value} {F:Nat->Nat->Nat->Prop} (hC:Conc H E w M) (hli:E.lv i=true) (hcl:opLe (getM M) sz c' op) (hle:∀ k,k<n->notInP k (Tr.leL (tabTr (c k) 0 sz) (tabTr (c' k) 0 sz)) op)
 (hn:(opIds (getM M) sz c' op).Nodup) (hi:i ∉ opIds (getM M) sz c' op) (hσ:∀ y,(E.σ i y∨ofIds E (opIds (getM M) sz c' op) y)->E'.σ i y) (hz:zsLe zs zs'=true) (hm:RowOk H E (fun b=>w.heap[b]?) i sz n κ c op zs vs F) :
 ∃ F',RowOk H E' (fun b=>w.heap[b]?) i sz n κ c' [] zs' vs F':=by
 have key:∀ p∈op,∃ G:Nat->Nat->Prop,(∀ j x,G j x->ofIds E (cloIdsL (getM M) (tabTr (c' p.1) 0 sz) p.2) x)/\(∀ j j' x,G j x->G j' x->j=j')/\∀ j,j<sz->∃ v,vs[p.1*sz+j]? = some v/\TrOk H (fun b=>w.heap[b]?) (c' p.1 j) v (G j):=by
  intro p hp
  obtain ⟨G,g1,g2,g3⟩:=trOkL_get (cloL_ok hC _ (opLe_mem hcl p hp) (opIds_one hn p hp) (hm.known p hp))
  refine ⟨G,g1,g2,fun j hj=>?_⟩
  obtain ⟨v,hv,ht⟩:=g3 j (c' p.1 j) (by rw [tabTr_get _ _ _ _ hj,Nat.zero_add])
  rw [List.getElem?_take,if_pos hj,List.getElem?_drop] at hv
  exact ⟨v,hv,ht⟩
 have hG:∃ G:Nat×List AV->Nat->Nat->Prop,∀ p∈op,(∀ j x,G p j x->ofIds E (cloIdsL (getM M) (tabTr (c' p.1) 0 sz) p.2) x)/\(∀ j j' x,G p j x->G p j' x->j=j')/\∀ j,j<sz->∃ v,vs[p.1*sz+j]? = some v/\TrOk H (fun b=>w.heap[b]?) (c' p.1 j) v (G p j):=by
  classical
  refine ⟨fun p=>if hp:p∈op then (key p hp).choose else fun _ _=>False,fun p hp=>?_⟩
  simp only [dif_pos hp]
  exact (key p hp).choose_spec
 obtain ⟨G,hG⟩:=hG
 have once:∀ {p p':Nat×List AV},p∈op->p'∈op->p.1=p'.1->p=p':=fun hp hp' e=>map_uniq hm.once hp hp' e
 refine ⟨fun k j x=>(∃ p∈op,p.1=k/\G p j x)∨((∀ p∈op,p.1≠k)/\F k j x),hm.one,hm.size,fun k j x hx=>hσ x ?_,fun k j k' j' x hx hx'=>?_,fun p hp=>(by cases hp),List.nodup_nil,fun p hp=>(by cases hp),fun k hk _ j hj=>?_,fun hz'=>?_⟩
 · rcases hx with ⟨p,hp,_,hx⟩ | ⟨_,hx⟩
   · obtain ⟨q,hq,hqx⟩:=(hG p hp).1 j x hx
     exact .inr ⟨q,opIds_mem hp hq,hqx⟩
   · exact .inl (hm.own k j x hx)
 · rcases hx with ⟨p,hp,rfl,hx⟩ | ⟨a1,hx⟩<;>rcases hx' with ⟨p',hp',rfl,hx'⟩ | ⟨a2,hx'⟩
   · obtain ⟨q,hq,hqx⟩:=(hG p hp).1 j x hx
     obtain ⟨q',hq',hqx'⟩:=(hG p' hp').1 j' x hx'
     have:=hC.injH q q' x hqx hqx'
     subst this
     have he:=opIds_two hn hp hp' hq hq'
     have:=once hp hp' he
     subst this
     exact ⟨rfl,(hG p hp).2.1 j j' x hx hx'⟩
   · obtain ⟨q,hq,hqx⟩:=(hG p hp).1 j x hx
     have:=hC.injH q i x hqx ⟨hli,.inr (hm.own _ _ _ hx')⟩
     subst this
     exact absurd (opIds_mem hp hq) hi
   · obtain ⟨q,hq,hqx⟩:=(hG p' hp').1 j' x hx'
     have:=hC.injH q i x hqx ⟨hli,.inr (hm.own _ _ _ hx)⟩
     subst this
     exact absurd (opIds_mem hp' hq) hi
   · exact hm.sep k j k' j' x hx hx'
 · by_cases hx:∃ p∈op,p.1=k
   · obtain ⟨p,hp,rfl⟩:=hx
     obtain ⟨v,hv,ht⟩:=(hG p hp).2.2 j hj
     exact ⟨v,hv,TrOk.move (HH.le_refl _) _ (fun b hb=>.inl ⟨p,hp,rfl,hb⟩) (fun _ _=>rfl) ht⟩
   · have hx':∀ p∈op,p.1≠k:=fun p hp e=>hx ⟨p,hp,e⟩
     obtain ⟨v,hv,ht⟩:=hm.tr k hk hx' j hj
     exact ⟨v,hv,TrOk.move (HH.le_refl _) _ (fun b hb=>.inr ⟨hx',hb⟩) (fun _ _=>rfl) (tr_le _ (leL_tab0 (notInP_ok (hle k hk) hx') j hj) ht)⟩
 · rw [<- zsLe_ok hz hz']
   refine hm.spare ?_
   rw [zsLe_ok hz hz'];exact hz'
def nodupB:List Nat->Bool
 | []=>true
 | i::r=>!mem r i&&nodupB r
theorem nodupB_ok:∀ {l:List Nat},nodupB l=true->l.Nodup
 | [],_=>List.nodup_nil
 | i::r,h=>by
   simp only [nodupB,Bool.and_eq_true,Bool.not_eq_true'] at h
   exact List.nodup_cons.2 ⟨fun hm=>(by rw [mem_iff.2 hm] at h;cases h.1),nodupB_ok h.2⟩
def noneLive (lv:Nat->Bool):List Nat->Bool
 | []=>true
 | i::r=>!lv i&&noneLive lv r
theorem noneLive_ok {lv:Nat->Bool}:∀ {l:List Nat},noneLive lv l=true->∀ i∈l,lv i=false
 | j::r,h,i,hi=>by
   simp only [noneLive,Bool.and_eq_true,Bool.not_eq_true'] at h
   rcases List.mem_cons.1 hi with rfl | hi
   · exact h.1
   · exact noneLive_ok h.2 i hi
def anyKn:List Blk->Bool
 | []=>false
 | .tmap _ _ _ _ (_::_)::_=>true
 | .trow _ _ _ _ _ (_::_) _::_=>true
 | _::r=>anyKn r
def chkK (ids:List Nat) (lv:Nat->Bool):Prop:=match nodupB ids&&noneLive lv ids with | true=>True | false=>False
def leQ (M M':List Blk):Prop:=match anyKn M with
 | false=>leM M M'
 | true=>leMK (getM M) M M'/\chkK (idsMK (getM M) M M') (liveB M')
theorem mem_le {H:HH} {E:Env} {w:World} {M M':List Blk} (hC:Conc H E w M) (hle:leM M M') (hok:okMs (liveB M') M'=true) :
 ∃ E',Conc H E' w M'/\Evol (drops M M' 0) H E w H E' w/\E.via E' (keepL (liveB M')):=by
 have hvia:E.via ⟨fun i=>E.lv i&&liveB M' i,E.ι,E.κ,E.η,E.σ⟩ (keepL (liveB M')):=by
  intro i j hij hl
  unfold keepL at hij
  split at hij
  · rename_i hv
    cases hij
    exact ⟨by simp [hl,hv],rfl,rfl,rfl⟩
  · cases hij
 have hcut:∀ {i b:Nat},Env.has ⟨fun i=>E.lv i&&liveB M' i,E.ι,E.κ,E.η,E.σ⟩ i b->E.has i b:=by
  rintro i b ⟨h1,h2⟩
  simp only [Bool.and_eq_true] at h1
  exact ⟨h1.1,h2⟩
 refine ⟨⟨fun i=>E.lv i&&liveB M' i,E.ι,E.κ,E.η,E.σ⟩,⟨hC.imm,hC.tf,fun i=>?_,fun i j b hi hj=>hC.injH i j b (hcut hi) (hcut hj),fun i b hi=>hC.sepH i b (hcut hi),fun i b hi hib=>hC.ltH (hcut ⟨hi,.inr hib⟩)⟩,⟨rfl,rfl,rfl,Nat.le_refl _,fun _ _ _=>rfl,fun i b hi=>.inl ⟨i,hcut hi⟩,HH.le_refl _,fun _ _ _ h=>.inl h,fun i hl hn=>⟨?_,rfl,rfl,rfl⟩⟩,hvia⟩
 · cases hd:getM M' i with
   | dead=>show (E.lv i&&liveB M' i)=false;simp [liveB,hd]
   | _ =>
     rw [<- hd]
     have hlv:liveB M' i=true:=by simp [liveB,hd]
     refine blk_le (hC.blk i) (leM_get hle i) (okMs_get hok i) hvia (by rw [hd];simp) ?_ rfl rfl rfl rfl
     simp [hlv]
 · simp only [hl,Bool.true_and]
   cases hd:getM M' i with
   | dead =>
     exfalso
     refine hn ?_
     have:=drops_mem (M:=M) (M':=M') (p:=0) i (fun e=>?_) hd
     · simpa using this
     · have h1:=hC.blk i
       rw [e] at h1
       rw [show E.lv i=false from h1] at hl;cases hl
   | _=>simp [liveB,hd]
theorem mem_leK {H:HH} {E:Env} {w:World} {M M':List Blk} (hC:Conc H E w M) (hle:leMK (getM M) M M') (hnd:(idsMK (getM M) M M').Nodup) (hdl:∀ j∈idsMK (getM M) M M',liveB M' j=false) (hok:okMs (liveB M') M'=true) :
 ∃ E',Conc H E' w M'/\Evol (drops M M' 0) H E w H E' w/\E.via E' (keepL (liveB M')):=by
 let E':Env:=⟨fun i=>E.lv i&&liveB M' i,E.ι,E.κ,E.η,fun i x=>E.σ i x∨ofIds E ((getM M i).idsK (getM M) (getM M' i)) x⟩
 have hvia:E.via E' (keepL (liveB M')):=by
  intro i j hij hl
  unfold keepL at hij
  split at hij
  · rename_i hv
    cases hij
    exact ⟨by simp [E',hl,hv],rfl,rfl,rfl⟩
  · cases hij
 have hcut:∀ {i b:Nat},E'.has i b->liveB M' i=true/\(E.has i b∨∃ j∈(getM M i).idsK (getM M) (getM M' i),E.has j b):=by
  rintro i b ⟨h1,h2⟩
  simp only [E',Bool.and_eq_true] at h1
  rcases h2 with h2 | h2 | h2
  · exact ⟨h1.2,.inl ⟨h1.1,.inl h2⟩⟩
  · exact ⟨h1.2,.inl ⟨h1.1,.inr h2⟩⟩
  · exact ⟨h1.2,.inr h2⟩
 have hany:∀ {i b:Nat},E'.has i b->∃ j,E.has j b:=fun h=>by
  rcases (hcut h).2 with h | ⟨j,_,h⟩
  · exact ⟨_,h⟩
  · exact ⟨j,h⟩
 have hdead:∀ i,∀ j∈(getM M i).idsK (getM M) (getM M' i),liveB M' j=false:=fun i j hj=>hdl j (idsMK_mem i hj)
 refine ⟨E',⟨hC.imm,hC.tf,fun i=>?_,fun i j b hi hj=>?_,fun i b hi=>?_,fun i b hi hib=>?_⟩,⟨rfl,rfl,rfl,Nat.le_refl _,fun _ _ _=>rfl,fun i b hi=>.inl (hany hi),HH.le_refl _,fun _ _ _ h=>.inl h,fun i hl hn=>⟨?_,rfl,rfl,rfl⟩⟩,hvia⟩
 · cases hlv:liveB M' i with
   | false =>
     have hd:getM M' i=.dead:=by
      unfold liveB at hlv
      split at hlv
      · assumption
      · cases hlv
     rw [hd]
     show (E.lv i&&liveB M' i)=false
     simp [hlv]
   | true =>
     have hne:getM M' i≠.dead:=fun e=>by simp [liveB,e] at hlv
     have h1:=leMK_get hle i hne
     have h2:=hC.blk i
     have hoki:=okMs_get hok i
     have hsame:(getM M i).idsK (getM M) (getM M' i)=[]->(getM M i).le (getM M' i)->BlkOk H E' w i (getM M' i):=fun h0 hl=>by
      refine blk_le h2 hl hoki hvia hne (by simp [E',hlv]) rfl rfl rfl ?_
      funext x
      refine propext ⟨fun h=>?_,fun h=>.inl h⟩
      rcases h with h | ⟨j,hj,_⟩
      · exact h
      · rw [h0] at hj;cases hj
     cases hB':getM M' i with
     | tmap q' has' c' n' kn' =>
       cases hB:getM M i with
       | tmap q has c n kn =>
         cases kn' with
         | nil =>
           have hnd1:=idsMK_one hnd i
           have hdl1:=hdead i
           rw [hB,hB'] at h1 hnd1 hdl1
           rw [hB] at h2
           obtain ⟨h0,b,ms,ck,F,g1,g2,g3,g4⟩:=h2
           have hi:i ∉ tmapIds (getM M) q kn q' c':=fun hm=>by have:=hdl1 i hm;rw [hlv] at this;cases this
           have hσ:∀ y,E'.σ i y↔(E.σ i y∨ofIds E (tmapIds (getM M) q kn q' c') y):=fun y=>by
            show (E.σ i y∨ofIds E ((getM M i).idsK (getM M) (getM M' i)) y)↔_
            rw [hB,hB'];exact Iff.rfl
           obtain ⟨F',h5⟩:=tmapLeK_ok (E':=E') hC h0 h1 hnd1 hi (fun y hy=>(hσ y).2 hy) g4
           refine ⟨by simp [E',h0,hlv],b,ms,ck,F',g1,fun hx=>?_,g3,h5⟩
           rcases (hσ b).1 hx with hx | ⟨j,hj,hx⟩
           · exact g2 hx
           · have:=hC.injH j i b hx ⟨h0,.inl g1⟩
             subst this
             exact hi hj
         | cons x r =>
           rw [<- hB']
           exact hsame (by rw [hB,hB'];rfl) (by rw [hB,hB'] at h1;rw [hB,hB'];exact h1)
       | _ =>
         rw [<- hB']
         exact hsame (by rw [hB,hB'];rfl) (by rw [hB,hB'] at h1;rw [hB,hB'];exact h1)
     | trow ty' sz' n' cap' c' op' zs' =>
       cases hB:getM M i with
       | trow ty sz n cap c op zs =>
         cases op' with
         | nil =>
           have hnd1:=idsMK_one hnd i
           have hdl1:=hdead i
           rw [hB,hB'] at h1 hnd1 hdl1
           rw [hB] at h2
           obtain ⟨h0,ha,hb,hc,h3⟩:=h2
           simp only [Blk.leK] at h1
           split at h1
           case h_2=>exact h1.elim
           rename_i ht
           simp only [Bool.and_eq_true,Nat.beq_eq] at ht
           obtain ⟨⟨⟨rfl,rfl⟩,hcl⟩,hzl⟩:=ht
           obtain ⟨rfl,hop,hle'⟩:=h1
           have hnd2:(opIds (getM M) sz c' op).Nodup:=hnd1
           have hi:i ∉ opIds (getM M) sz c' op:=fun hm=>by have:=hdl1 i hm;rw [hlv] at this;cases this
           have hσ:∀ y,E'.σ i y↔(E.σ i y∨ofIds E (opIds (getM M) sz c' op) y):=fun y=>by
            show (E.σ i y∨ofIds E ((getM M i).idsK (getM M) (getM M' i)) y)↔_
            rw [hB,hB'];exact Iff.rfl
           refine ⟨by simp [E',h0,hlv],ha,hb,fun q hq=>?_,?_⟩
           · subst hq
             cases cap with
             | none=>cases hcl
             | some a=>have:=hc a rfl;have:=Nat.eq_of_beq_eq_true hcl;show E.κ i=q;omega
           · show match E.ι i with | none=>E.κ i=0/\([]:List (Nat×List AV))=[] | some b=>¬ E'.σ i b/\∃ vs F,w.heap[b]? = some (.cells vs ty (0,0))/\RowOk H E' (fun x=>w.heap[x]?) i sz n (E.κ i) c' [] zs' vs.toList F
             cases hι:E.ι i with
             | none=>rw [hι] at h3;exact ⟨h3.1,rfl⟩
             | some b =>
               rw [hι] at h3
               obtain ⟨hs,vs,F,g3,g4⟩:=h3
               obtain ⟨F',h5⟩:=trowLeK_ok (E':=E') hC h0 hop hle' hnd2 hi (fun y hy=>(hσ y).2 hy) hzl g4
               refine ⟨fun hx=>?_,vs,F',g3,h5⟩
               rcases (hσ b).1 hx with hx | ⟨j,hj,hx⟩
               · exact hs hx
               · have:=hC.injH j i b hx ⟨h0,.inl hι⟩
                 subst this
                 exact hi hj
         | cons x r =>
           rw [<- hB']
           exact hsame (by rw [hB,hB'];rfl) (by rw [hB,hB'] at h1;rw [hB,hB'];exact h1)
       | _ =>
         rw [<- hB']
         exact hsame (by rw [hB,hB'];rfl) (by rw [hB,hB'] at h1;rw [hB,hB'];exact h1)
     | _ =>
       rw [<- hB']
       refine hsame ?_ ?_
       · rw [hB'];cases getM M i<;>rfl
       · rw [hB'] at h1 ⊢;cases hB:getM M i<;>(rw [hB] at h1;exact h1)
 · obtain ⟨l1,h1⟩:=hcut hi
   obtain ⟨l2,h2⟩:=hcut hj
   rcases h1 with h1 | ⟨p,hp,h1⟩<;>rcases h2 with h2 | ⟨r,hr,h2⟩
   · exact hC.injH i j b h1 h2
   · have:=hC.injH i r b h1 h2
     subst this
     rw [hdead j i hr] at l1;cases l1
   · have:=hC.injH p j b h1 h2
     subst this
     rw [hdead i p hp] at l2;cases l2
   · have:=hC.injH p r b h1 h2
     subst this
     exact idsMK_two hnd i j hp hr
 · obtain ⟨j,hj⟩:=hany hi
   exact hC.sepH j b hj
 · obtain ⟨j,hj⟩:=hany ⟨hi,.inr hib⟩
   exact hC.ltH hj
 · show (E.lv i&&liveB M' i)=true
   simp only [hl,Bool.true_and]
   cases hd:getM M' i with
   | dead =>
     exfalso
     refine hn ?_
     have:=drops_mem (M:=M) (M':=M') (p:=0) i (fun e=>?_) hd
     · simpa using this
     · have h1:=hC.blk i
       rw [e] at h1
       rw [show E.lv i=false from h1] at hl;cases hl
   | _=>simp [liveB,hd]
def allIn:List Nat->List Nat->Bool
 | [],_=>true
 | a::r,l=>mem l a&&allIn r l
theorem allIn_ok:∀ {l r:List Nat},allIn l r=true->∀ i∈l,i∈r
 | [],_,_,_,h=>by cases h
 | a::l,r,h,i,hi=>by
   simp only [allIn,Bool.and_eq_true] at h
   rcases List.mem_cons.1 hi with rfl | hi
   · exact mem_iff.1 h.1
   · exact allIn_ok h.2 i hi
theorem mem_leQ {H:HH} {E:Env} {w:World} {M M':List Blk} (hC:Conc H E w M) (hle:leQ M M') (hok:okMs (liveB M') M'=true) :
 ∃ E',Conc H E' w M'/\Evol (drops M M' 0) H E w H E' w/\E.via E' (keepL (liveB M')):=by
 unfold leQ at hle
 split at hle
 · exact mem_le hC hle hok
 · obtain ⟨h1,h2⟩:=hle
   unfold chkK at h2
   split at h2
   · rename_i hb
     simp only [Bool.and_eq_true] at hb
     exact mem_leK hC h1 (nodupB_ok hb.1) (noneLive_ok hb.2) hok
   · exact h2.elim
def stLe (s s':St):Prop:=leL s.t s'.t/\leQ s.m s'.m/\(okL (liveB s'.m) s'.t&&okMs (liveB s'.m) s'.m)=true
theorem stLe_ok {s s':St} (h:stLe s s') {H:HH} {E:Env} {w:World} {vs:List Value} (hC:Conc H E w s.m) (hT:RelL s.t H E vs) :
 ∃ E',Conc H E' w s'.m/\RelL s'.t H E' vs/\Evol (drops s.m s'.m 0) H E w H E' w:=by
 obtain ⟨h1,h2,h3⟩:=h
 simp only [Bool.and_eq_true] at h3
 obtain ⟨E',hC',hE,hv⟩:=mem_leQ hC h2 h3.2
 refine ⟨E',hC',?_,hE⟩
 have:=RelL.ren _ hv (relL_le _ h1 hT)
 rwa [renL_ok _ _ h3.1] at this
theorem stLe_pre {P:Program} {c:Code} {s s0:St} {x:Exit} {s1:St} (hle:stLe s s0) (h:ACode P c s0 x s1):ACode P c s x ⟨s1.t,s1.m,s1.mv++(drops s.m s0.m 0++s.mv)⟩:=by
 refine ⟨fun i hi=>by simp [hi],fun H E w a hC hT hd=>?_⟩
 obtain ⟨E',h1,h2,h3⟩:=stLe_ok hle hC hT
 refine wp_mono (h.2 H E' w a h1 h2 hd) ?_
 rintro x' a' w' ⟨H1,E1,rfl,hd1,hT1,hC1,hE1⟩
 exact ⟨H1,E1,rfl,hd1,hT1,hC1,h3.trans (hE1.weak fun i hi=>List.mem_append_left _ hi) fun i hi=>List.mem_append_right _ (List.mem_append_left _ hi)⟩
abbrev An:=AV×List Blk×List Nat
def ACall' (P:Program) (f:FuncId) (args:List AV) (M:List Blk) (a:An):Prop:=ACall P f args M a.1 a.2.1 a.2.2
def anLe (a b:An):Prop :=
 match allIn (drops a.2.1 b.2.1 0++a.2.2) b.2.2&&okA (liveB b.2.1) b.1&&okMs (liveB b.2.1) b.2.1 with
 | true=>a.1.le b.1/\leQ a.2.1 b.2.1
 | false=>False
theorem anLe_ok {P:Program} {f:FuncId} {args:List AV} {M:List Blk} {a b:An} (h:ACall' P f args M a) (hle:anLe a b):ACall' P f args M b:=by
 unfold anLe at hle
 split at hle
 case h_2=>exact hle.elim
 rename_i hb
 simp only [Bool.and_eq_true] at hb
 obtain ⟨⟨h1,h2⟩,h3⟩:=hb
 have hmv:=allIn_ok h1
 intro H E w vals hC hargs
 refine (h H E w vals hC hargs).mono ?_
 rintro e w' ⟨v,H',E',rfl,hr,hC',hE⟩
 obtain ⟨E2,hC2,hE2,hv⟩:=mem_leQ hC' hle.2 h3
 refine ⟨v,H',E2,rfl,?_,hC2,(hE.weak fun i hi=>hmv i (List.mem_append_right _ hi)).trans (hE2.weak fun i hi=>hmv i (List.mem_append_left _ hi)) fun i hi=>hi⟩
 have:=Rel.ren _ hv (rel_le _ hle.1 hr)
 rwa [ren_ok _ _ h2] at this
end Go.Ax
