import Derived.Stop.Asserts
import Derived.Laws.Externs
import Derived.Test.YtnbhdjadlbhknaaGreatDoorE5
import Derived.Test.YtnbhdjadlbhknaaGreatDoorE6
set_option linter.unusedVariables false
set_option linter.unusedSimpArgs false
set_option linter.unusedSectionVars false
namespace Go.Ax
open Go
variable [Inhabited jZ]
def DJ:Option Nat->Option Nat->Bool
 | _,none=>true
 | some a,some b=>Nat.beq a b
 | none,some _=>false
def adQ:List (Value×AV×Nat)->List (Value×AV×Nat)->Prop
 | [],[]=>True
 | (k,a,n)::r,(k',a',n')::r'=>veq k k'/\n=n'/\a.le a'/\adQ r r'
 | _,_=>False
mutual
def Tr.le:Tr->Tr->Prop
 | .av a,t=>(match t with | .av b=>a.le b | _=>False)
 | .box ty sz cs,t=>(match t with | .box ty' sz' cs'=>(match Nat.beq ty ty'&&Nat.beq sz sz' with | true=>Tr.w_ cs cs' | false=>False) | _=>False)
 | .row ty sz n c,t=>(match t with | .row ty' sz' n' c'=>(match Nat.beq ty ty'&&Nat.beq sz sz' with | true=>n=n'/\∀ k,k<n->∀ j,j<sz->(c k j).le (c' k j) | false=>False) | _=>False)
 | .frow ty sz n c,t=>(match t with | .frow ty' sz' n' c'=>(match Nat.beq ty ty'&&Nat.beq sz sz' with | true=>n=n'/\aj n sz c c' | false=>False) | _=>False)
def Tr.w_:List Tr->List Tr->Prop
 | [],l=>(match l with | []=>True | _=>False)
 | t::ts,l=>(match l with | u::us=>t.le u/\Tr.w_ ts us | []=>False)
end
mutual
theorem Dr {H:HH} {hp:Nat->Option Obj}:∀ (t:Tr) {u:Tr} {v:Value} {S:Nat->Prop},t.le u->iJ H hp t v S->iJ H hp u v S
 | .av a,u,_,_,h,hr=>by
   cases u with
   | av b=>simp only [Tr.le] at h;exact nE a h hr
   | _=>simp only [Tr.le] at h
 | .box ty sz cs,u,_,_,h,hr=>by
   cases u with
   | box ty' sz' cs' =>
     simp only [Tr.le] at h
     split at h
     case h_2=>exact h.elim
     rename_i hb
     simp only [Bool.and_eq_true,Nat.beq_eq] at hb
     obtain ⟨rfl,rfl⟩:=hb
     obtain ⟨b,vs,h1,h2,h3,h4,h5⟩:=hr
     exact ⟨b,vs,h1,h2,h3,h4,VG cs h h5⟩
   | _=>simp only [Tr.le] at h
 | .row ty sz n c,u,_,_,h,hr=>by
   cases u with
   | row ty' sz' n' c' =>
     simp only [Tr.le] at h
     split at h
     case h_2=>exact h.elim
     rename_i hb
     simp only [Bool.and_eq_true,Nat.beq_eq] at hb
     obtain ⟨rfl,rfl⟩:=hb
     obtain ⟨rfl,hc⟩:=h
     obtain ⟨κ,h1,h2,h3 | ⟨b,vs,h3,h4,h5,h6,h7,F,h8,h9,h10⟩⟩:=hr
     · exact ⟨κ,h1,h2,.inl h3⟩
     · refine ⟨κ,h1,h2,.inr ⟨b,vs,h3,h4,h5,h6,h7,F,h8,h9,fun k hk j hj=>?_⟩⟩
       obtain ⟨x,g1,g2⟩:=h10 k hk j hj
       exact ⟨x,g1,Dr (c k j) (hc k hk j hj) g2⟩
   | _=>simp only [Tr.le] at h
 | .frow ty sz n c,u,_,_,h,hr=>by
   cases u with
   | frow ty' sz' n' c' =>
     simp only [Tr.le] at h
     split at h
     case h_2=>exact h.elim
     rename_i hb
     simp only [Bool.and_eq_true,Nat.beq_eq] at hb
     obtain ⟨rfl,rfl⟩:=hb
     obtain ⟨rfl,hc⟩:=h
     obtain ⟨κ,h1,h2,h3 | ⟨b,vs,h3,h4,h5,h6,h7,h10⟩⟩:=hr
     · exact ⟨κ,h1,h2,.inl h3⟩
     · refine ⟨κ,h1,h2,.inr ⟨b,vs,h3,h4,h5,h6,h7,fun k hk j hj=>?_⟩⟩
       obtain ⟨x,g1,g2⟩:=h10 k hk j hj
       exact ⟨x,g1,kT (hc k hk j hj) g2⟩
   | _=>simp only [Tr.le] at h
theorem VG {H:HH} {hp:Nat->Option Obj}:∀ (l:List Tr) {r:List Tr} {vs:List Value} {S:Nat->Prop},Tr.w_ l r->jh H hp l vs S->jh H hp r vs S
 | [],r,_,_,h,hr=>by
   cases r with
   | nil=>exact hr
   | cons _ _=>simp only [Tr.w_] at h
 | t::ts,r,_,_,h,hr=>by
   cases r with
   | nil=>simp only [Tr.w_] at h
   | cons u us =>
     simp only [Tr.w_] at h
     obtain ⟨v,q,S1,S2,h1,h2,h3,h4,h5,h6⟩:=hr
     exact ⟨v,q,S1,S2,h1,h2,h3,h4,Dr t h.1 h5,VG ts h.2 h6⟩
end
def JX (n n':Nat):(q:mh)->(q.ty->Bool)->(q.ty->Tr)->(q':mh)->(q'.ty->Bool)->(q'.ty->Tr)->Prop
 | .s,has,c,.s,has',c'=>n=n'/\(∀ x:ByteArray,has x=has' x)/\∀ x:ByteArray,has x=true->(c x).le (c' x)
 | .i k,has,c,.i k',has',c'=>(match zF k k' with | true=>n=n'/\(∀ x:Int,has x=has' x)/\∀ x:Int,has x=true->(c x).le (c' x) | false=>False)
 | _,_,_,_,_,_=>False
theorem Ls {c c':Nat->Tr}:∀ {n o:Nat},Tr.w_ (eP c o n) (eP c' o n)->∀ j,j<n->(c (o+j)).le (c' (o+j))
 | n+1,o,h,0,_=>by
   simp only [eP,Tr.w_] at h
   exact h.1
 | n+1,o,h,j+1,hj=>by
   simp only [eP,Tr.w_] at h
   have:=Ls h.2 j (by omega)
   rwa [show o+1+j=o+(j+1) by omega] at this
theorem JH {c c':Nat->Tr} {n:Nat} (h:Tr.w_ (eP c 0 n) (eP c' 0 n)) (j:Nat) (hj:j<n):(c j).le (c' j):=by
 have:=Ls h j hj
 rwa [Nat.zero_add] at this
def zEq:Value->Value->Bool
 | .int k a,.int k' b=>zF k k'&&decide (a=b)
 | .string a,.string b=>Nat.beq a.size 0&&Nat.beq b.size 0
 | .bool a,.bool b=>(match a with | true=>b | false=>!b)
 | .slice none 0 0,.slice none 0 0=>true
 | .pointer none,.pointer none=>true
 | .map none,.map none=>true
 | .nilIface,.nilIface=>true
 | _,_=>false
theorem acB {a b:Value} (h:zEq a b=true):a=b:=by
 unfold zEq at h
 split at h
 · simp only [Bool.and_eq_true,decide_eq_true_eq] at h
   rw [of_decide_eq_true h.1,h.2]
 · rename_i a b
   simp only [Bool.and_eq_true,Nat.beq_eq] at h
   have e:∀ x:ByteArray,x.size=0->x=ByteArray.empty:=fun x hx=>by
    apply ByteArray.ext
    exact Array.eq_empty_of_size_eq_zero hx
   rw [e a h.1,e b h.2]
 · rename_i a b
   cases a<;>cases b<;>first | rfl | cases h
 · rfl
 · rfl
 · rfl
 · rfl
 · cases h
def XZ:List Value->List Value->Bool
 | [],[]=>true
 | a::r,b::s=>zEq a b&&XZ r s
 | _,_=>false
theorem Lv:∀ {a b:List Value},XZ a b=true->a=b
 | [],[],_=>rfl
 | a::r,b::s,h=>by
   simp only [XZ,Bool.and_eq_true] at h
   rw [acB h.1,Lv h.2]
 | [],_::_,h=>by cases h
 | _::_,[],h=>by cases h
def TV (a b:List Value):Bool:=match b with | []=>true | b=>XZ a b
theorem vY {a b:List Value} (h:TV a b=true) (hb:b≠[]):a=b:=by
 cases b with
 | nil=>exact absurd rfl hb
 | cons x r=>exact Lv h
def ay.le:ay->ay->Prop
 | _,.dead=>True
 | .box ty cs,.box ty' cs'=>(match Nat.beq ty ty' with | true=>w_ cs cs' | false=>False)
 | .lst ty sz n cap cs,.lst ty' sz' n' cap' cs'=>(match Nat.beq ty ty'&&Nat.beq sz sz'&&Nat.beq n n'&&DJ cap cap' with | true=>w_ cs cs' | false=>False)
 | .lst ty sz n cap cs,.row ty' sz' n' cap' c'=>(match Nat.beq ty ty'&&Nat.beq sz sz'&&DJ cap cap' with | true=>n=n'/\Gz sz n cs c' | false=>False)
 | .row ty sz n cap c,.row ty' sz' n' cap' c'=>(match Nat.beq ty ty'&&Nat.beq sz sz'&&DJ cap cap' with | true=>n=n'/\aj n sz c c' | false=>False)
 | .mp es ck,.mp es' ck'=>ck=ck'/\adQ es es'
 | .mp es _,.mi _ _ has _=>(match es with | []=>∀ x,has x=false | _=>False)
 | .mi kk vk has c,.mi kk' vk' has' c'=>kk=kk'/\vk=vk'/\∀ x,has x=has' x/\(has x=true->c x=c' x)
 | .mit m s l k,.mit m' s' l' k'=>(match Nat.beq m m' with | true=>s=s'/\l=l'/\k=k' | false=>False)
 | .tmap q has c n kn,.tmap q' has' c' n' kn'=>(match kn with | []=>(match kn' with | []=>JX n n' q has c q' has' c' | _=>False) | _=>False)
 | .trow ty sz n cap c op zs,.trow ty' sz' n' cap' c' op' zs'=>(match op with | []=>(match op' with | []=>(match Nat.beq ty ty'&&Nat.beq sz sz'&&DJ cap cap'&&TV zs zs' with | true=>n=n'/\∀ k,k<n->Tr.w_ (eP (c k) 0 sz) (eP (c' k) 0 sz) | false=>False) | _=>False) | _=>False)
 | .any,.any=>True
 | _,_=>False
theorem NV {H:HH} {E E':Env} {hp:Nat->Option Obj} {i n n':Nat} {q q':mh} {has:q.ty->Bool} {c:q.ty->Tr} {has':q'.ty->Bool} {c':q'.ty->Tr} {l:List MapEntry} {ck:Nat} {F:q.ty->Nat->Prop} (h:JX n n' q has c q' has' c') (hσ:∀ y,E.σ i y->E'.σ i y) (hm:vZ H E hp i q has c n [] l ck F) :
 ∃ F',vZ H E' hp i q' has' c' n' [] l ck F':=by
 have key:∀ {q:mh} {has has':q.ty->Bool} {c c':q.ty->Tr} {F:q.ty->Nat->Prop},n=n'->(∀ x,has x=has' x)->(∀ x,has x=true->(c x).le (c' x))->vZ H E hp i q has c n [] l ck F->∃ F',vZ H E' hp i q has' c' n' [] l ck F':=by
  intro q has has' c c' F h1 h2 h3 hm
  subst h1
  exact ⟨F,hm.ents,hm.size,fun x=>by rw [<- h2 x];exact hm.fZ x,fun p hp=>absurd hp (by simp),fun x y hy=>hσ y (hm.own x y hy),hm.sep,fun x hx v hv=>Dr (c x) (h3 x ((hm.fZ x).2 ⟨v,hv⟩)) (hm.tr x (fun p hp=>absurd hp (by simp)) v hv)⟩
 unfold JX at h
 split at h
 · exact key h.1 h.2.1 h.2.2 hm
 · split at h
   · rename_i hk
     have hk:=of_decide_eq_true hk
     subst hk
     exact key h.1 h.2.1 h.2.2 hm
   · exact h.elim
 · exact h.elim
theorem M5:∀ {es es':List (Value×AV×Nat)},adQ es es'->(es.map fun e=>(e.1,e.2.2))=(es'.map fun e=>(e.1,e.2.2))/\∀ {H:HH} {E:Env} {vs:List Value},aA (es.map fun e=>e.2.1) H E vs->aA (es'.map fun e=>e.2.1) H E vs
 | [],[],_=>⟨rfl,fun h=>h⟩
 | (k,a,n)::r,(k',a',n')::r',h=>by
   obtain ⟨h1,h2,h3,h4⟩:=h
   obtain ⟨g1,g2⟩:=M5 h4
   refine ⟨by simp only [List.map_cons,nK h1,h2,g1],fun {H E vs} hr=>?_⟩
   obtain ⟨v,q,hv,k1,k2⟩:=hr
   exact ⟨v,q,hv,nE _ h3 k1,g2 k2⟩
 | [],_::_,h=>h.elim
 | _::_,[],h=>h.elim
def leM:List ay->List ay->Prop
 | _,[]=>True
 | [],b::bs=>(match b with | .dead=>leM [] bs | _=>False)
 | a::as,b::bs=>(match b with | .dead=>leM as bs | b=>a.le b/\leM as bs)
theorem EB (B:ay):B.le .dead:=by cases B<;>trivial
theorem E5:∀ {M M':List ay},leM M M'->∀ i,(getM M i).le (getM M' i)
 | M,[],_,i=>by rw [dJ];exact EB _
 | [],b::bs,h,i=>by
   cases b<;>simp only [leM] at h<;>try exact h.elim
   cases i with
   | zero=>exact EB _
   | succ i=>simpa [getM,dJ] using E5 h i
 | a::as,b::bs,h,i=>by
   have h2:a.le b/\leM as bs:=by
    cases b with
    | dead=>exact ⟨EB _,h⟩
    | _=>exact h
   cases i with
   | zero=>exact h2.1
   | succ i=>exact E5 h2.2 i
def fu (M:List ay) (i:Nat):Bool:=match getM M i with | .dead=>false | _=>true
mutual
def Uf (lv:Nat->Bool):AV->Bool
 | .ptr i _ _ _=>lv i
 | .own i _ _ _=>lv i
 | .mref i=>lv i
 | .agg cs=>Cb lv cs
 | .tup cs=>Cb lv cs
 | .fn _ a b=>Cb lv a&&Cb lv b
 | .ifc _ a=>Uf lv a
 | _=>true
def Cb (lv:Nat->Bool):List AV->Bool
 | []=>true
 | a::r=>Uf lv a&&Cb lv r
end
def nu (lv:Nat->Bool) (i:Nat):Option Nat:=if lv i then some i else none
mutual
theorem J7 (lv:Nat->Bool):∀ a:AV,Uf lv a=true->ren (nu lv) a=a
 | .s _,_ | .y _,_ | .junk,_ | .sl ..,_ | .ys ..,_ | .yn ..,_ | .ip ..,_ | .opt ..,_=>rfl
 | .ptr i k sz o,h=>by simp only [Uf] at h;simp [ren,nu,h]
 | .own i sz lo n,h=>by simp only [Uf] at h;simp [ren,nu,h]
 | .mref i,h=>by simp only [Uf] at h;simp [ren,nu,h]
 | .agg cs,h=>by simp only [Uf] at h;simp [ren,lD lv cs h]
 | .tup cs,h=>by simp only [Uf] at h;simp [ren,lD lv cs h]
 | .fn f a b,h=>by simp only [Uf,Bool.and_eq_true] at h;simp [ren,lD lv a h.1,lD lv b h.2]
 | .ifc t a,h=>by simp only [Uf] at h;simp [ren,J7 lv a h]
theorem lD (lv:Nat->Bool):∀ l:List AV,Cb lv l=true->gY (nu lv) l=l
 | [],_=>rfl
 | a::r,h=>by simp only [Cb,Bool.and_eq_true] at h;simp [gY,J7 lv a h.1,lD lv r h.2]
end
def TN (lv:Nat->Bool):List (Nat×List AV)->Bool
 | []=>true
 | p::r=>Cb lv p.2&&TN lv r
def okB (lv:Nat->Bool):ay->Bool
 | .box _ cs=>Cb lv cs
 | .lst _ _ _ _ cs=>Cb lv cs
 | .mp es _=>Cb lv (es.map fun e=>e.2.1)
 | .mit m _ _ _=>lv m
 | .tmap _ _ _ _ kn=>Cb lv (kn.map fun p=>p.2)
 | .trow _ _ _ _ _ op _=>TN lv op
 | _=>true
def ET (lv:Nat->Bool):List ay->Bool
 | []=>true
 | b::r=>okB lv b&&ET lv r
theorem Bg {lv:Nat->Bool}:∀ {M:List ay},ET lv M=true->∀ i,okB lv (getM M i)=true
 | [],_,i=>by rw [dJ];rfl
 | b::r,h,i=>by
   simp only [ET,Bool.and_eq_true] at h
   cases i with
   | zero=>exact h.1
   | succ i=>exact Bg h.2 i
def drops:List ay->List ay->Nat->List Nat
 | [],_,_=>[]
 | a::as,l,i=>(match a,l with
   | .dead,_=>drops as l.tail (i+1)
   | _,.dead::_=>i::drops as l.tail (i+1)
   | _,[]=>i::drops as [] (i+1)
   | _,_=>drops as l.tail (i+1))
theorem wX:∀ {M M':List ay} {p:Nat} (i:Nat),getM M i≠.dead->getM M' i=.dead->p+i∈drops M M' p
 | [],_,_,i,h,_=>absurd (dJ i) h
 | a::as,l,p,0,h,h'=>by
   have h:a≠.dead:=h
   cases l with
   | nil=>cases a<;>first | exact absurd rfl h | simp [drops]
   | cons b bs =>
     have h':b=.dead:=h'
     subst h'
     cases a<;>first | exact absurd rfl h | simp [drops]
 | a::as,l,p,i+1,h,h'=>by
   have h1:getM l.tail i=.dead:=by
    cases l with
    | nil=>exact dJ i
    | cons b bs=>exact h'
   have:=wX (M:=as) (M':=l.tail) (p:=p+1) i h h1
   rw [show p+1+i=p+(i+1) by omega] at this
   simp only [drops]
   split
   · exact this
   · exact List.mem_cons_of_mem _ this
   · exact List.mem_cons_of_mem _ this
   · exact this
theorem VB {H:HH} {E E':Env} {w:World} {i:Nat} {B B':ay} {lv:Nat->Bool} (h:bV H E w i B) (hle:B.le B') (hok:okB lv B'=true) (hv:E.via E' (nu lv)) (hne:B'≠.dead) (hl:E'.lv i=E.lv i) (hι:E'.ι i=E.ι i) (hκ:E'.κ i=E.κ i) (hη:E'.η i=E.η i) (hσ:E'.σ i=E.σ i):bV H E' w i B':=by
 have hL:∀ {cs cs':List AV} {vs:List Value},w_ cs cs'->Cb lv cs'=true->aA cs H E vs->aA cs' H E' vs:=fun h1 h2 h3=>by
  have:=aA.ren _ hv (lC _ h1 h3)
  rwa [lD lv _ h2] at this
 have hcap:∀ {c c':Option Nat} {m:Nat},DJ c c'=true->(∀ q,c=some q->m=q)->∀ q,c'=some q->m=q:=by
  intro c c' m h1 h2 q hq
  subst hq
  cases c with
  | none=>cases h1
  | some a=>rw [h2 a rfl];exact Nat.eq_of_beq_eq_true h1
 cases B with
 | dead=>cases B'<;>first | exact absurd rfl hne | exact hle.elim
 | box ty cs =>
   cases B' with
   | box ty' cs' =>
     simp only [ay.le] at hle
     split at hle
     case h_2=>exact hle.elim
     rename_i ht
     have ht:=Nat.eq_of_beq_eq_true ht
     subst ht
     obtain ⟨h0,b,vs,h1,h2,h3,h4⟩:=h
     exact ⟨hl.trans h0,b,vs,hι.trans h1,h2,h3,hL hle hok h4⟩
   | dead=>exact absurd rfl hne
   | _=>exact hle.elim
 | lst ty sz n cap cs =>
   obtain ⟨h0,ha,hb,hc,h1⟩:=h
   cases B' with
   | lst ty' sz' n' cap' cs' =>
     simp only [ay.le] at hle
     split at hle
     case h_2=>exact hle.elim
     rename_i ht
     simp only [Bool.and_eq_true,Nat.beq_eq] at ht
     obtain ⟨⟨⟨rfl,rfl⟩,rfl⟩,hcl⟩:=ht
     refine ⟨hl.trans h0,by rw [hκ,hη];exact ha,by rw [hκ];exact hb,by rw [hκ];exact hcap hcl hc,?_⟩
     rw [hι,hκ]
     cases hi:E.ι i with
     | none =>
       rw [hi] at h1
       refine ⟨h1.1,?_⟩
       have:=h1.2
       subst this
       cases cs' with
       | nil=>rfl
       | cons _ _=>exact hle.elim
     | some b =>
       rw [hi] at h1
       obtain ⟨vs,h2,h3,h4,h5⟩:=h1
       exact ⟨vs,h2,h3,h4,hL hle hok h5⟩
   | row ty' sz' n' cap' c' =>
     simp only [ay.le] at hle
     split at hle
     case h_2=>exact hle.elim
     rename_i ht
     simp only [Bool.and_eq_true,Nat.beq_eq] at ht
     obtain ⟨⟨rfl,rfl⟩,hcl⟩:=ht
     obtain ⟨rfl,hle⟩:=hle
     refine ⟨hl.trans h0,by rw [hκ,hη];exact ha,by rw [hκ];exact hb,by rw [hκ];exact hcap hcl hc,?_⟩
     rw [hι,hκ]
     cases hi:E.ι i with
     | none=>rw [hi] at h1;exact h1.1
     | some b =>
       rw [hi] at h1
       obtain ⟨vs,h2,h3,h4,h5⟩:=h1
       refine ⟨vs,h2,h3,h4,fun k hk j hj=>?_⟩
       have hlt:k*sz+j<n*sz:=by
        have:(k+1)*sz<=n*sz:=Nat.mul_le_mul_right _ hk
        rw [Nat.add_mul,Nat.one_mul] at this
        omega
       have hn:n*sz<=E.κ i*sz:=Nat.mul_le_mul_right _ ha.2
       have hsz:k*sz+j<vs.size:=by omega
       refine ⟨vs[k*sz+j],Array.getElem?_eq_getElem hsz,?_⟩
       obtain ⟨g1,g2⟩:=hle k hk j hj
       refine Rel.dR _ g2 (kT g1 (bn h5 (k*sz+j) vs[k*sz+j] ?_))
       rw [List.getElem?_take,if_pos hlt]
       simp [hsz]
   | dead=>exact absurd rfl hne
   | _=>exact hle.elim
 | row ty sz n cap c =>
   obtain ⟨h0,ha,hb,hc,h1⟩:=h
   cases B' with
   | row ty' sz' n' cap' c' =>
     simp only [ay.le] at hle
     split at hle
     case h_2=>exact hle.elim
     rename_i ht
     simp only [Bool.and_eq_true,Nat.beq_eq] at ht
     obtain ⟨⟨rfl,rfl⟩,hcl⟩:=ht
     obtain ⟨rfl,hle⟩:=hle
     refine ⟨hl.trans h0,by rw [hκ,hη];exact ha,by rw [hκ];exact hb,by rw [hκ];exact hcap hcl hc,?_⟩
     rw [hι,hκ]
     cases hi:E.ι i with
     | none=>rw [hi] at h1;exact h1
     | some b =>
       rw [hi] at h1
       obtain ⟨vs,h2,h3,h4,h5⟩:=h1
       refine ⟨vs,h2,h3,h4,fun k hk j hj=>?_⟩
       obtain ⟨x,hx,hr⟩:=h5 k hk j hj
       exact ⟨x,hx,kT (hle k hk j hj) hr⟩
   | dead=>exact absurd rfl hne
   | _=>exact hle.elim
 | mp es ck =>
   obtain ⟨h0,b,ms,h1,h2,h3,h4⟩:=h
   cases B' with
   | mp es' ck' =>
     obtain ⟨rfl,hle⟩:=hle
     obtain ⟨g1,g2⟩:=M5 hle
     refine ⟨hl.trans h0,b,ms,hι.trans h1,h2,h3.trans g1,?_⟩
     have:=aA.ren _ hv (g2 h4)
     rwa [lD lv _ hok] at this
   | mi kk vk has c =>
     simp only [ay.le] at hle
     split at hle
     case h_2=>exact hle.elim
     have:ms.toList=[]:=by simpa using h3
     refine ⟨hl.trans h0,b,ms,ck,hι.trans h1,h2,fun e he=>(by rw [this] at he;cases he),fun x=>?_⟩
     rw [this,hle x];rfl
   | dead=>exact absurd rfl hne
   | _=>exact hle.elim
 | mi kk vk has c =>
   obtain ⟨h0,b,ms,ck,h1,h2,h3,h4⟩:=h
   cases B' with
   | mi kk' vk' has' c' =>
     obtain ⟨rfl,rfl,hle⟩:=hle
     refine ⟨hl.trans h0,b,ms,ck,hι.trans h1,h2,h3,fun x=>?_⟩
     rw [h4 x,<- (hle x).1]
     cases hx:has x with
     | true=>simp only;rw [(hle x).2 hx]
     | false=>rfl
   | dead=>exact absurd rfl hne
   | _=>exact hle.elim
 | mit m s l k =>
   obtain ⟨h0,hm,b,bm,h1,h2,h3⟩:=h
   cases B' with
   | mit m' s' l' k' =>
     simp only [ay.le] at hle
     split at hle
     case h_2=>exact hle.elim
     rename_i ht
     have ht:=Nat.eq_of_beq_eq_true ht
     subst ht
     obtain ⟨rfl,rfl,rfl⟩:=hle
     obtain ⟨g1,g2,_⟩:=hv m m (by simp only [okB] at hok;simp [nu,hok]) hm
     exact ⟨hl.trans h0,g1,b,bm,hι.trans h1,g2.trans h2,h3⟩
   | dead=>exact absurd rfl hne
   | _=>exact hle.elim
 | tmap q has c n kn =>
   cases B' with
   | tmap q' has' c' n' kn' =>
     cases kn with
     | cons _ _=>exact hle.elim
     | nil =>
       cases kn' with
       | cons _ _=>exact hle.elim
       | nil =>
         obtain ⟨h0,b,ms,ck,F,h1,h2,h3,h4⟩:=h
         obtain ⟨F',h5⟩:=NV (E':=E') hle (fun y hy=>by rw [hσ];exact hy) h4
         exact ⟨hl.trans h0,b,ms,ck,F',hι.trans h1,by rw [hσ];exact h2,h3,h5⟩
   | dead=>exact absurd rfl hne
   | _=>exact hle.elim
 | trow ty sz n cap c op zs =>
   obtain ⟨h0,ha,hb,hc,h1⟩:=h
   cases B' with
   | trow ty' sz' n' cap' c' op' zs' =>
     cases op with
     | cons _ _=>exact hle.elim
     | nil =>
       cases op' with
       | cons _ _=>exact hle.elim
       | nil =>
         simp only [ay.le] at hle
         split at hle
         case h_2=>exact hle.elim
         rename_i ht
         simp only [Bool.and_eq_true,Nat.beq_eq] at ht
         obtain ⟨⟨⟨rfl,rfl⟩,hcl⟩,hzl⟩:=ht
         obtain ⟨rfl,hle⟩:=hle
         refine ⟨hl.trans h0,by rw [hκ,hη];exact ha,by rw [hκ];exact hb,by rw [hκ];exact hcap hcl hc,?_⟩
         rw [hι,hκ]
         cases hi:E.ι i with
         | none=>rw [hi] at h1;exact h1
         | some b =>
           rw [hi] at h1
           obtain ⟨hs,vs,F,h2,h4⟩:=h1
           refine ⟨by rw [hσ];exact hs,vs,F,h2,h4.one,h4.size,fun k j x hx=>by rw [hσ];exact h4.own k j x hx,h4.sep,fun p hp=>(by cases hp),List.nodup_nil,fun p hp=>(by cases hp),fun k hk hn j hj=>?_,fun hz=>?_⟩
           · obtain ⟨x,g1,g2⟩:=h4.tr k hk (fun p hp=>by cases hp) j hj
             exact ⟨x,g1,Dr _ (JH (hle k hk) j hj) g2⟩
           · rw [<- vY hzl hz]
             refine h4.spare ?_
             rw [vY hzl hz];exact hz
   | dead=>exact absurd rfl hne
   | _=>exact hle.elim
 | any =>
   obtain ⟨h0,b,o,h1,h2⟩:=h
   cases B' with
   | any=>exact ⟨hl.trans h0,b,o,hι.trans h1,h2⟩
   | dead=>exact absurd rfl hne
   | _=>exact hle.elim
def vU {α:Type} (rd:Nat->ay) (c:α->Tr):List (α×AV)->List Nat
 | []=>[]
 | (k,a)::r=>jU rd (c k) a++vU rd c r
def Qk {α:Type} (rd:Nat->ay) (c:α->Tr):List (α×AV)->Prop
 | []=>True
 | (k,a)::r=>BO rd (c k) a/\Qk rd c r
def GN {α:Type} (x:α) (p:Prop):List (α×AV)->Prop
 | []=>p
 | (k,_)::r=>¬ x=k->GN x p r
def Fw (rd:Nat->ay) (n n':Nat):(q:mh)->(q.ty->Bool)->(q.ty->Tr)->List (q.ty×AV)->(q':mh)->(q'.ty->Bool)->(q'.ty->Tr)->Prop
 | .s,has,c,kn,.s,has',c'=>n=n'/\(∀ x:ByteArray,has x=has' x)/\Qk rd c' kn/\∀ x:ByteArray,has x=true->GN x ((c x).le (c' x)) kn
 | .i k,has,c,kn,.i k',has',c'=>(match zF k k' with | true=>n=n'/\(∀ x:Int,has x=has' x)/\Qk rd c' kn/\∀ x:Int,has x=true->GN x ((c x).le (c' x)) kn | false=>False)
 | _,_,_,_,_,_,_=>False
def sj (rd:Nat->ay):(q:mh)->List (q.ty×AV)->(q':mh)->(q'.ty->Tr)->List Nat
 | .s,kn,.s,c'=>vU rd c' kn
 | .i _,kn,.i _,c'=>vU rd c' kn
 | _,_,_,_=>[]
def Xq (rd:Nat->ay) (sz:Nat) (c:Nat->Nat->Tr):List (Nat×List AV)->Prop
 | []=>True
 | (k,as)::r=>BQ rd (eP (c k) 0 sz) as/\Xq rd sz c r
def qB (rd:Nat->ay) (sz:Nat) (c:Nat->Nat->Tr):List (Nat×List AV)->List Nat
 | []=>[]
 | (k,as)::r=>iR rd (eP (c k) 0 sz) as++qB rd sz c r
def EW (x:Nat) (p:Prop):List (Nat×List AV)->Prop
 | []=>p
 | (k,_)::r=>¬ x=k->EW x p r
def ay.leK (rd:Nat->ay):ay->ay->Prop
 | .trow ty sz n cap c op zs,.trow ty' sz' n' cap' c' [] zs'=>(match Nat.beq ty ty'&&Nat.beq sz sz'&&DJ cap cap'&&TV zs zs' with | true=>n=n'/\Xq rd sz c' op/\∀ k,k<n->EW k (Tr.w_ (eP (c k) 0 sz) (eP (c' k) 0 sz)) op | false=>False)
 | .tmap q has c n kn,.tmap q' has' c' n' []=>Fw rd n n' q has c kn q' has' c'
 | a,b=>a.le b
def ay.yH (rd:Nat->ay):ay->ay->List Nat
 | .trow _ sz _ _ _ op _,.trow _ _ _ _ c' [] _=>qB rd sz c' op
 | .tmap q _ _ _ kn,.tmap q' _ c' _ []=>sj rd q kn q' c'
 | _,_=>[]
def I8 (rd:Nat->ay):List ay->List ay->Prop
 | _,[]=>True
 | [],b::bs=>(match b with | .dead=>I8 rd [] bs | _=>False)
 | a::as,b::bs=>(match b with | .dead=>I8 rd as bs | b=>a.leK rd b/\I8 rd as bs)
def AL (rd:Nat->ay):List ay->List ay->List Nat
 | a::as,b::bs=>a.yH rd b++AL rd as bs
 | _,_=>[]
theorem AO {rd:Nat->ay}:∀ {M M':List ay},I8 rd M M'->∀ i,getM M' i≠.dead->(getM M i).leK rd (getM M' i)
 | M,[],_,i,hn=>absurd (dJ i) hn
 | [],b::bs,h,i,hn=>by
   cases b<;>simp only [I8] at h<;>try exact h.elim
   cases i with
   | zero=>exact absurd rfl hn
   | succ i=>simpa [getM,dJ] using AO h i hn
 | a::as,b::bs,h,i,hn=>by
   cases i with
   | zero =>
     have hn:b≠.dead:=hn
     have h2:a.leK rd b:=by
      cases b with
      | dead=>exact absurd rfl hn
      | _=>exact h.1
     exact h2
   | succ i =>
     have h2:I8 rd as bs:=by
      cases b with
      | dead=>exact h
      | _=>exact h.2
     exact AO h2 i hn
theorem oh {rd:Nat->ay} {a b:ay} (h:a=.dead∨b=.dead):a.yH rd b=[]:=by
 rcases h with rfl | rfl
 · cases b<;>rfl
 · cases a<;>rfl
theorem sI {rd:Nat->ay}:∀ {M M':List ay} (i:Nat) {x:Nat},x∈(getM M i).yH rd (getM M' i)->x∈AL rd M M'
 | [],M',i,x,h=>by rw [dJ,oh (.inl rfl)] at h;cases h
 | _::_,[],i,x,h=>by rw [dJ i,oh (.inr rfl)] at h;cases h
 | a::as,b::bs,0,x,h=>List.mem_append_left _ h
 | a::as,b::bs,i+1,x,h=>List.mem_append_right _ (sI (M:=as) (M':=bs) i h)
theorem xJ {rd:Nat->ay}:∀ {M M':List ay},(AL rd M M').Nodup->∀ (i:Nat),((getM M i).yH rd (getM M' i)).Nodup
 | [],M',_,i=>by rw [dJ,oh (.inl rfl)];exact List.nodup_nil
 | _::_,[],_,i=>by rw [dJ i,oh (.inr rfl)];exact List.nodup_nil
 | a::as,b::bs,h,0=>(List.nodup_append.1 h).1
 | a::as,b::bs,h,i+1=>xJ (M:=as) (M':=bs) (List.nodup_append.1 h).2.1 i
theorem C8 {rd:Nat->ay}:∀ {M M':List ay},(AL rd M M').Nodup->∀ (i j:Nat) {x:Nat},x∈(getM M i).yH rd (getM M' i)->x∈(getM M j).yH rd (getM M' j)->i=j
 | [],M',_,i,j,x,h,_=>by rw [dJ,oh (.inl rfl)] at h;cases h
 | _::_,[],_,i,j,x,h,_=>by rw [dJ i,oh (.inr rfl)] at h;cases h
 | a::as,b::bs,_,0,0,x,_,_=>rfl
 | a::as,b::bs,hn,0,j+1,x,h1,h2=>absurd rfl ((List.nodup_append.1 hn).2.2 x h1 x (sI (M:=as) (M':=bs) j h2))
 | a::as,b::bs,hn,i+1,0,x,h1,h2=>absurd rfl ((List.nodup_append.1 hn).2.2 x h2 x (sI (M:=as) (M':=bs) i h1))
 | a::as,b::bs,hn,i+1,j+1,x,h1,h2=>by rw [C8 (M:=as) (M':=bs) (List.nodup_append.1 hn).2.1 i j h1 h2]
theorem lI {α:Type} {rd:Nat->ay} {c:α->Tr}:∀ {kn:List (α×AV)} {p:α×AV} {j:Nat},p∈kn->j∈jU rd (c p.1) p.2->j∈vU rd c kn
 | (k,a)::r,p,j,hp,hj=>by
   rcases List.mem_cons.1 hp with rfl | hp
   · exact List.mem_append_left _ hj
   · exact List.mem_append_right _ (lI hp hj)
theorem Ef {α:Type} {rd:Nat->ay} {c:α->Tr}:∀ {kn:List (α×AV)},(vU rd c kn).Nodup->∀ p∈kn,(jU rd (c p.1) p.2).Nodup
 | (k,a)::r,h,p,hp=>by
   have h:=List.nodup_append.1 h
   rcases List.mem_cons.1 hp with rfl | hp
   · exact h.1
   · exact Ef h.2.1 p hp
theorem Dq {α:Type} {rd:Nat->ay} {c:α->Tr}:∀ {kn:List (α×AV)},(vU rd c kn).Nodup->∀ {p p':α×AV} {j:Nat},p∈kn->p'∈kn->j∈jU rd (c p.1) p.2->j∈jU rd (c p'.1) p'.2->p.1=p'.1
 | (k,a)::r,h,p,p',j,hp,hp',h1,h2=>by
   have h:=List.nodup_append.1 h
   rcases List.mem_cons.1 hp with rfl | hp<;>rcases List.mem_cons.1 hp' with rfl | hp'
   · rfl
   · exact absurd rfl (h.2.2 j h1 j (lI hp' h2))
   · exact absurd rfl (h.2.2 j h2 j (lI hp h1))
   · exact Dq h.2.1 hp hp' h1 h2
theorem Gx {α:Type} {rd:Nat->ay} {c:α->Tr}:∀ {kn:List (α×AV)},Qk rd c kn->∀ p∈kn,BO rd (c p.1) p.2
 | (k,a)::r,h,p,hp=>by
   rcases List.mem_cons.1 hp with rfl | hp
   · exact h.1
   · exact Gx h.2 p hp
theorem I7 {α:Type} {x:α} {P:Prop}:∀ {kn:List (α×AV)},GN x P kn->(∀ p∈kn,p.1≠x)->P
 | [],h,_=>h
 | (k,a)::r,h,hn=>I7 (h fun e=>hn (k,a) (by simp) e.symm) fun p hp=>hn p (List.mem_cons_of_mem _ hp)
theorem zI {α β:Type} {f:α->β}:∀ {l:List α},(l.map f).Nodup->∀ {a b:α},a∈l->b∈l->f a=f b->a=b
 | x::r,h,a,b,ha,hb,e=>by
   rw [List.map_cons,List.nodup_cons] at h
   rcases List.mem_cons.1 ha with h1 | h1<;>rcases List.mem_cons.1 hb with h2 | h2
   · exact h1.trans h2.symm
   · exact absurd (List.mem_map.2 ⟨b,h2,by rw [<- e,h1]⟩) h.1
   · exact absurd (List.mem_map.2 ⟨a,h1,by rw [e,h2]⟩) h.1
   · exact zI h.2 h1 h2 e
theorem JN {q:mh} {l:List MapEntry} {ck:Nat} (h:Qq q l ck) {x:q.ty} {u v:Value} (hu:Hq q x l u) (hv:Hq q x l v):u=v:=by
 obtain ⟨e,he,hek,rfl⟩:=hu
 obtain ⟨e',he',hek',rfl⟩:=hv
 rw [zI h.once he he' (hek.trans hek'.symm)]
theorem Ko {H:HH} {E E':Env} {w:World} {M:List ay} {i n n':Nat} {q q':mh} {has:q.ty->Bool} {c:q.ty->Tr} {kn:List (q.ty×AV)} {has':q'.ty->Bool} {c':q'.ty->Tr} {l:List MapEntry} {ck:Nat} {F:q.ty->Nat->Prop} (hC:Conc H E w M) (hli:E.lv i=true) (h:Fw (getM M) n n' q has c kn q' has' c')
 (hn:(sj (getM M) q kn q' c').Nodup) (hi:i ∉ sj (getM M) q kn q' c') (hσ:∀ y,(E.σ i y∨ofIds E (sj (getM M) q kn q' c') y)->E'.σ i y) (hm:vZ H E (fun b=>w.heap[b]?) i q has c n kn l ck F) :
 ∃ F',vZ H E' (fun b=>w.heap[b]?) i q' has' c' n' [] l ck F':=by
 have key:∀ {q:mh} {has has':q.ty->Bool} {c c':q.ty->Tr} {kn:List (q.ty×AV)} {F:q.ty->Nat->Prop},(vU (getM M) c' kn).Nodup->i ∉ vU (getM M) c' kn->(∀ y,(E.σ i y∨ofIds E (vU (getM M) c' kn) y)->E'.σ i y)->n=n'->(∀ x,has x=has' x)->Qk (getM M) c' kn->(∀ x,has x=true->GN x ((c x).le (c' x)) kn) ->
  vZ H E (fun b=>w.heap[b]?) i q has c n kn l ck F->∃ F',vZ H E' (fun b=>w.heap[b]?) i q has' c' n' [] l ck F':=by
  intro q has has' c c' kn F hn hi hσ h1 h2 hk h3 hm
  subst h1
  refine ⟨fun x y=>(∃ p∈kn,p.1=x/\ofIds E (jU (getM M) (c' p.1) p.2) y)∨((∀ p∈kn,p.1≠x)/\F x y),hm.ents,hm.size,fun x=>by rw [<- h2 x];exact hm.fZ x,fun p hp=>absurd hp (by simp),fun x y hy=>hσ y ?_,fun x x' y hx hx'=>?_,fun x _ v hv=>?_⟩
  · rcases hy with ⟨p,hp,_,j,hj,hjy⟩ | ⟨_,hy⟩
    · exact .inr ⟨j,lI hp hj,hjy⟩
    · exact .inl (hm.own x y hy)
  · rcases hx with ⟨p,hp,rfl,j,hj,hjy⟩ | ⟨a1,hy⟩<;>rcases hx' with ⟨p',hp',rfl,j',hj',hjy'⟩ | ⟨a2,hy'⟩
    · have:=hC.injH j j' y hjy hjy'
      subst this
      exact Dq hn hp hp' hj hj'
    · have:=hC.injH j i y hjy ⟨hli,.inr (hm.own _ _ hy')⟩
      subst this
      exact absurd (lI hp hj) hi
    · have:=hC.injH j' i y hjy' ⟨hli,.inr (hm.own _ _ hy)⟩
      subst this
      exact absurd (lI hp' hj') hi
    · exact hm.sep x x' y hy hy'
  · by_cases hx:∃ p∈kn,p.1=x
    · obtain ⟨p,hp,rfl⟩:=hx
      obtain ⟨u,hu,hru⟩:=hm.known p hp
      have huv:u=v:=JN hm.ents hu hv
      subst huv
      exact iJ.move (HH.le_refl _) _ (fun b hb=>.inl ⟨p,hp,rfl,hb⟩) (fun _ _=>rfl) (VX hC _ (Gx hk p hp) (Ef hn p hp) hru)
    · have hx':∀ p∈kn,p.1≠x:=fun p hp e=>hx ⟨p,hp,e⟩
      exact iJ.move (HH.le_refl _) _ (fun b hb=>.inr ⟨hx',hb⟩) (fun _ _=>rfl) (Dr (c x) (I7 (h3 x ((hm.fZ x).2 ⟨v,hv⟩)) hx') (hm.tr x hx' v hv))
 unfold Fw at h
 split at h
 · exact key hn hi hσ h.1 h.2.1 h.2.2.1 h.2.2.2 hm
 · split at h
   · rename_i hk
     have hk:=of_decide_eq_true hk
     subst hk
     exact key hn hi hσ h.1 h.2.1 h.2.2.1 h.2.2.2 hm
   · exact h.elim
 · exact h.elim
theorem xB (c:Nat->Tr):∀ (n o j:Nat),j<n->(eP c o n)[j]? = some (c (o+j))
 | 0,_,_,h=>by omega
 | n+1,o,0,_=>rfl
 | n+1,o,j+1,h=>by
   simp only [eP,List.getElem?_cons_succ]
   rw [xB c n (o+1) j (by omega)]
   congr 2;omega
theorem wT (c:Nat->Tr):∀ (n o:Nat),(eP c o n).length=n
 | 0,_=>rfl
 | n+1,o=>by simp [eP,wT c n]
theorem CV {H:HH} {hp:Nat->Option Obj}:∀ {ts:List Tr} {vs:List Value} {S:Nat->Prop},jh H hp ts vs S ->
 ∃ G:Nat->Nat->Prop,(∀ j x,G j x->S x)/\(∀ j j' x,G j x->G j' x->j=j')/\∀ j t,ts[j]? = some t->∃ v,vs[j]? = some v/\iJ H hp t v (G j)
 | [],vs,S,_=>⟨fun _ _=>False,fun _ _ h=>h.elim,fun _ _ _ h=>h.elim,fun j t h=>by simp at h⟩
 | t::ts,vs,S,h=>by
   obtain ⟨v,r,S1,S2,rfl,h2,h3,h4,h5,h6⟩:=h
   obtain ⟨G,g1,g2,g3⟩:=CV h6
   refine ⟨fun j x=>match j with | 0=>S1 x | j+1=>G j x,fun j x hx=>?_,fun j j' x hx hx'=>?_,fun j t' ht=>?_⟩
   · cases j with
     | zero=>exact h2 x hx
     | succ j=>exact h3 x (g1 j x hx)
   · cases j with
     | zero =>
       cases j' with
       | zero=>rfl
       | succ j'=>exact (h4 x hx (g1 j' x hx')).elim
     | succ j =>
       cases j' with
       | zero=>exact (h4 x hx' (g1 j x hx)).elim
       | succ j'=>rw [g2 j j' x hx hx']
   · cases j with
     | zero=>simp at ht;subst ht;exact ⟨v,rfl,h5⟩
     | succ j=>simpa using g3 j t' (by simpa using ht)
theorem Hy {H:HH} {hp:Nat->Option Obj}:∀ {ts:List Tr} {vs:List Value} {G:Nat->Nat->Prop},ts.length=vs.length->(∀ j j' x,G j x->G j' x->j=j')->(∀ j t,ts[j]? = some t->∃ v,vs[j]? = some v/\iJ H hp t v (G j))->jh H hp ts vs (fun x=>∃ j,G j x)
 | [],[],_,_,_,_=>rfl
 | t::ts,v::r,G,hl,h1,h2=>by
   obtain ⟨v',e,h3⟩:=h2 0 t rfl
   simp at e;subst e
   refine ⟨v,r,G 0,fun x=>∃ j,G (j+1) x,rfl,fun x hx=>⟨0,hx⟩,fun x ⟨j,hx⟩=>⟨j+1,hx⟩,fun x hx ⟨j,hx'⟩=>?_,h3,Hy (G:=fun j=>G (j+1)) (by simpa using hl) (fun j j' x hx hx'=>by have:=h1 _ _ x hx hx';omega) fun j t' ht=>by simpa using h2 (j+1) t' (by simpa using ht)⟩
   have:=h1 _ _ x hx hx';omega
 | [],_::_,_,hl,_,_=>by simp at hl
 | _::_,[],_,hl,_,_=>by simp at hl
theorem lS {rd:Nat->ay} {sz:Nat} {c:Nat->Nat->Tr}:∀ {op:List (Nat×List AV)} {p:Nat×List AV} {j:Nat},p∈op->j∈iR rd (eP (c p.1) 0 sz) p.2->j∈qB rd sz c op
 | (k,a)::r,p,j,hp,hj=>by
   rcases List.mem_cons.1 hp with rfl | hp
   · exact List.mem_append_left _ hj
   · exact List.mem_append_right _ (lS hp hj)
theorem C9 {rd:Nat->ay} {sz:Nat} {c:Nat->Nat->Tr}:∀ {op:List (Nat×List AV)},(qB rd sz c op).Nodup->∀ p∈op,(iR rd (eP (c p.1) 0 sz) p.2).Nodup
 | (k,a)::r,h,p,hp=>by
   have h:=List.nodup_append.1 h
   rcases List.mem_cons.1 hp with rfl | hp
   · exact h.1
   · exact C9 h.2.1 p hp
theorem Dw {rd:Nat->ay} {sz:Nat} {c:Nat->Nat->Tr}:∀ {op:List (Nat×List AV)},(qB rd sz c op).Nodup->∀ {p p':Nat×List AV} {j:Nat},p∈op->p'∈op->j∈iR rd (eP (c p.1) 0 sz) p.2->j∈iR rd (eP (c p'.1) 0 sz) p'.2->p.1=p'.1
 | (k,a)::r,h,p,p',j,hp,hp',h1,h2=>by
   have h:=List.nodup_append.1 h
   rcases List.mem_cons.1 hp with rfl | hp<;>rcases List.mem_cons.1 hp' with rfl | hp'
   · rfl
   · exact absurd rfl (h.2.2 j h1 j (lS hp' h2))
   · exact absurd rfl (h.2.2 j h2 j (lS hp h1))
   · exact Dw h.2.1 hp hp' h1 h2
theorem IU {rd:Nat->ay} {sz:Nat} {c:Nat->Nat->Tr}:∀ {op:List (Nat×List AV)},Xq rd sz c op->∀ p∈op,BQ rd (eP (c p.1) 0 sz) p.2
 | (k,a)::r,h,p,hp=>by
   rcases List.mem_cons.1 hp with rfl | hp
   · exact h.1
   · exact IU h.2 p hp
theorem Ec {x:Nat} {P:Prop}:∀ {op:List (Nat×List AV)},EW x P op->(∀ p∈op,p.1≠x)->P
 | [],h,_=>h
 | (k,a)::r,h,hn=>Ec (h fun e=>hn (k,a) (by simp) e.symm) fun p hp=>hn p (List.mem_cons_of_mem _ hp)
theorem Lh {H:HH} {E E':Env} {w:World} {M:List ay} {i sz n κ:Nat} {c c':Nat->Nat->Tr} {op:List (Nat×List AV)} {zs zs':List Value} {vs:List Value} {F:Nat->Nat->Nat->Prop} (hC:Conc H E w M) (hli:E.lv i=true) (hcl:Xq (getM M) sz c' op) (hle:∀ k,k<n->EW k (Tr.w_ (eP (c k) 0 sz) (eP (c' k) 0 sz)) op)
 (hn:(qB (getM M) sz c' op).Nodup) (hi:i ∉ qB (getM M) sz c' op) (hσ:∀ y,(E.σ i y∨ofIds E (qB (getM M) sz c' op) y)->E'.σ i y) (hz:TV zs zs'=true) (hm:AJ H E (fun b=>w.heap[b]?) i sz n κ c op zs vs F) :
 ∃ F',AJ H E' (fun b=>w.heap[b]?) i sz n κ c' [] zs' vs F':=by
 have key:∀ p∈op,∃ G:Nat->Nat->Prop,(∀ j x,G j x->ofIds E (iR (getM M) (eP (c' p.1) 0 sz) p.2) x)/\(∀ j j' x,G j x->G j' x->j=j')/\∀ j,j<sz->∃ v,vs[p.1*sz+j]? = some v/\iJ H (fun b=>w.heap[b]?) (c' p.1 j) v (G j):=by
  intro p hp
  obtain ⟨G,g1,g2,g3⟩:=CV (EL hC _ (IU hcl p hp) (C9 hn p hp) (hm.known p hp))
  refine ⟨G,g1,g2,fun j hj=>?_⟩
  obtain ⟨v,hv,ht⟩:=g3 j (c' p.1 j) (by rw [xB _ _ _ _ hj,Nat.zero_add])
  rw [List.getElem?_take,if_pos hj,List.getElem?_drop] at hv
  exact ⟨v,hv,ht⟩
 have hG:∃ G:Nat×List AV->Nat->Nat->Prop,∀ p∈op,(∀ j x,G p j x->ofIds E (iR (getM M) (eP (c' p.1) 0 sz) p.2) x)/\(∀ j j' x,G p j x->G p j' x->j=j')/\∀ j,j<sz->∃ v,vs[p.1*sz+j]? = some v/\iJ H (fun b=>w.heap[b]?) (c' p.1 j) v (G p j):=by
  classical
  refine ⟨fun p=>if hp:p∈op then (key p hp).choose else fun _ _=>False,fun p hp=>?_⟩
  simp only [dif_pos hp]
  exact (key p hp).choose_spec
 obtain ⟨G,hG⟩:=hG
 have once:∀ {p p':Nat×List AV},p∈op->p'∈op->p.1=p'.1->p=p':=fun hp hp' e=>zI hm.once hp hp' e
 refine ⟨fun k j x=>(∃ p∈op,p.1=k/\G p j x)∨((∀ p∈op,p.1≠k)/\F k j x),hm.one,hm.size,fun k j x hx=>hσ x ?_,fun k j k' j' x hx hx'=>?_,fun p hp=>(by cases hp),List.nodup_nil,fun p hp=>(by cases hp),fun k hk _ j hj=>?_,fun hz'=>?_⟩
 · rcases hx with ⟨p,hp,_,hx⟩ | ⟨_,hx⟩
   · obtain ⟨q,hq,hqx⟩:=(hG p hp).1 j x hx
     exact .inr ⟨q,lS hp hq,hqx⟩
   · exact .inl (hm.own k j x hx)
 · rcases hx with ⟨p,hp,rfl,hx⟩ | ⟨a1,hx⟩<;>rcases hx' with ⟨p',hp',rfl,hx'⟩ | ⟨a2,hx'⟩
   · obtain ⟨q,hq,hqx⟩:=(hG p hp).1 j x hx
     obtain ⟨q',hq',hqx'⟩:=(hG p' hp').1 j' x hx'
     have:=hC.injH q q' x hqx hqx'
     subst this
     have he:=Dw hn hp hp' hq hq'
     have:=once hp hp' he
     subst this
     exact ⟨rfl,(hG p hp).2.1 j j' x hx hx'⟩
   · obtain ⟨q,hq,hqx⟩:=(hG p hp).1 j x hx
     have:=hC.injH q i x hqx ⟨hli,.inr (hm.own _ _ _ hx')⟩
     subst this
     exact absurd (lS hp hq) hi
   · obtain ⟨q,hq,hqx⟩:=(hG p' hp').1 j' x hx'
     have:=hC.injH q i x hqx ⟨hli,.inr (hm.own _ _ _ hx)⟩
     subst this
     exact absurd (lS hp' hq) hi
   · exact hm.sep k j k' j' x hx hx'
 · by_cases hx:∃ p∈op,p.1=k
   · obtain ⟨p,hp,rfl⟩:=hx
     obtain ⟨v,hv,ht⟩:=(hG p hp).2.2 j hj
     exact ⟨v,hv,iJ.move (HH.le_refl _) _ (fun b hb=>.inl ⟨p,hp,rfl,hb⟩) (fun _ _=>rfl) ht⟩
   · have hx':∀ p∈op,p.1≠k:=fun p hp e=>hx ⟨p,hp,e⟩
     obtain ⟨v,hv,ht⟩:=hm.tr k hk hx' j hj
     exact ⟨v,hv,iJ.move (HH.le_refl _) _ (fun b hb=>.inr ⟨hx',hb⟩) (fun _ _=>rfl) (Dr _ (JH (Ec (hle k hk) hx') j hj) ht)⟩
 · rw [<- vY hz hz']
   refine hm.spare ?_
   rw [vY hz hz'];exact hz'
def nodupB:List Nat->Bool
 | []=>true
 | i::r=>!mem r i&&nodupB r
theorem Dh:∀ {l:List Nat},nodupB l=true->l.Nodup
 | [],_=>List.nodup_nil
 | i::r,h=>by
   simp only [nodupB,Bool.and_eq_true,Bool.not_eq_true'] at h
   exact List.nodup_cons.2 ⟨fun hm=>(by rw [mem_iff.2 hm] at h;cases h.1),Dh h.2⟩
def wM (lv:Nat->Bool):List Nat->Bool
 | []=>true
 | i::r=>!lv i&&wM lv r
theorem xV {lv:Nat->Bool}:∀ {l:List Nat},wM lv l=true->∀ i∈l,lv i=false
 | j::r,h,i,hi=>by
   simp only [wM,Bool.and_eq_true,Bool.not_eq_true'] at h
   rcases List.mem_cons.1 hi with rfl | hi
   · exact h.1
   · exact xV h.2 i hi
def aaO:List ay->Bool
 | []=>false
 | .tmap _ _ _ _ (_::_)::_=>true
 | .trow _ _ _ _ _ (_::_) _::_=>true
 | _::r=>aaO r
def fK (ids:List Nat) (lv:Nat->Bool):Prop:=match nodupB ids&&wM lv ids with | true=>True | false=>False
def leQ (M M':List ay):Prop:=match aaO M with
 | false=>leM M M'
 | true=>I8 (getM M) M M'/\fK (AL (getM M) M M') (fu M')
theorem aea {H:HH} {E:Env} {w:World} {M M':List ay} (hC:Conc H E w M) (hle:leM M M') (hok:ET (fu M') M'=true) :
 ∃ E',Conc H E' w M'/\bF (drops M M' 0) H E w H E' w/\E.via E' (nu (fu M')):=by
 have hvia:E.via ⟨fun i=>E.lv i&&fu M' i,E.ι,E.κ,E.η,E.σ⟩ (nu (fu M')):=by
  intro i j hij hl
  unfold nu at hij
  split at hij
  · rename_i hv
    cases hij
    exact ⟨by simp [hl,hv],rfl,rfl,rfl⟩
  · cases hij
 have hcut:∀ {i b:Nat},Env.has ⟨fun i=>E.lv i&&fu M' i,E.ι,E.κ,E.η,E.σ⟩ i b->E.has i b:=by
  rintro i b ⟨h1,h2⟩
  simp only [Bool.and_eq_true] at h1
  exact ⟨h1.1,h2⟩
 refine ⟨⟨fun i=>E.lv i&&fu M' i,E.ι,E.κ,E.η,E.σ⟩,⟨hC.imm,hC.tf,fun i=>?_,fun i j b hi hj=>hC.injH i j b (hcut hi) (hcut hj),fun i b hi=>hC.sepH i b (hcut hi),fun i b hi hib=>hC.o9 (hcut ⟨hi,.inr hib⟩)⟩,⟨rfl,rfl,rfl,Nat.le_refl _,fun _ _ _=>rfl,fun i b hi=>.inl ⟨i,hcut hi⟩,HH.le_refl _,fun _ _ _ h=>.inl h,fun i hl hn=>⟨?_,rfl,rfl,rfl⟩⟩,hvia⟩
 · cases hd:getM M' i with
   | dead=>show (E.lv i&&fu M' i)=false;simp [fu,hd]
   | _ =>
     rw [<- hd]
     have hlv:fu M' i=true:=by simp [fu,hd]
     refine VB (hC.blk i) (E5 hle i) (Bg hok i) hvia (by rw [hd];simp) ?_ rfl rfl rfl rfl
     simp [hlv]
 · simp only [hl,Bool.true_and]
   cases hd:getM M' i with
   | dead =>
     exfalso
     refine hn ?_
     have:=wX (M:=M) (M':=M') (p:=0) i (fun e=>?_) hd
     · simpa using this
     · have h1:=hC.blk i
       rw [e] at h1
       rw [show E.lv i=false from h1] at hl;cases hl
   | _=>simp [fu,hd]
theorem Xx {H:HH} {E:Env} {w:World} {M M':List ay} (hC:Conc H E w M) (hle:I8 (getM M) M M') (hnd:(AL (getM M) M M').Nodup) (hdl:∀ j∈AL (getM M) M M',fu M' j=false) (hok:ET (fu M') M'=true) :
 ∃ E',Conc H E' w M'/\bF (drops M M' 0) H E w H E' w/\E.via E' (nu (fu M')):=by
 let E':Env:=⟨fun i=>E.lv i&&fu M' i,E.ι,E.κ,E.η,fun i x=>E.σ i x∨ofIds E ((getM M i).yH (getM M) (getM M' i)) x⟩
 have hvia:E.via E' (nu (fu M')):=by
  intro i j hij hl
  unfold nu at hij
  split at hij
  · rename_i hv
    cases hij
    exact ⟨by simp [E',hl,hv],rfl,rfl,rfl⟩
  · cases hij
 have hcut:∀ {i b:Nat},E'.has i b->fu M' i=true/\(E.has i b∨∃ j∈(getM M i).yH (getM M) (getM M' i),E.has j b):=by
  rintro i b ⟨h1,h2⟩
  simp only [E',Bool.and_eq_true] at h1
  rcases h2 with h2 | h2 | h2
  · exact ⟨h1.2,.inl ⟨h1.1,.inl h2⟩⟩
  · exact ⟨h1.2,.inl ⟨h1.1,.inr h2⟩⟩
  · exact ⟨h1.2,.inr h2⟩
 have hany:∀ {i b:Nat},E'.has i b->∃ j,E.has j b:=fun h=>by
  rcases (hcut h).2 with h | ⟨j,_,h⟩
  · exact ⟨_,h⟩
  · exact ⟨j,h⟩
 have hdead:∀ i,∀ j∈(getM M i).yH (getM M) (getM M' i),fu M' j=false:=fun i j hj=>hdl j (sI i hj)
 refine ⟨E',⟨hC.imm,hC.tf,fun i=>?_,fun i j b hi hj=>?_,fun i b hi=>?_,fun i b hi hib=>?_⟩,⟨rfl,rfl,rfl,Nat.le_refl _,fun _ _ _=>rfl,fun i b hi=>.inl (hany hi),HH.le_refl _,fun _ _ _ h=>.inl h,fun i hl hn=>⟨?_,rfl,rfl,rfl⟩⟩,hvia⟩
 · cases hlv:fu M' i with
   | false =>
     have hd:getM M' i=.dead:=by
      unfold fu at hlv
      split at hlv
      · assumption
      · cases hlv
     rw [hd]
     show (E.lv i&&fu M' i)=false
     simp [hlv]
   | true =>
     have hne:getM M' i≠.dead:=fun e=>by simp [fu,e] at hlv
     have h1:=AO hle i hne
     have h2:=hC.blk i
     have hoki:=Bg hok i
     have hsame:(getM M i).yH (getM M) (getM M' i)=[]->(getM M i).le (getM M' i)->bV H E' w i (getM M' i):=fun h0 hl=>by
      refine VB h2 hl hoki hvia hne (by simp [E',hlv]) rfl rfl rfl ?_
      funext x
      refine propext ⟨fun h=>?_,fun h=>.inl h⟩
      rcases h with h | ⟨j,hj,_⟩
      · exact h
      · rw [h0] at hj;cases hj
     cases hB':getM M' i with
     | tmap q' has' c' n' kn' =>
       cases hB:getM M i with
       | tmap q has c n kn =>
         cases kn' with
         | nil =>
           have hnd1:=xJ hnd i
           have hdl1:=hdead i
           rw [hB,hB'] at h1 hnd1 hdl1
           rw [hB] at h2
           obtain ⟨h0,b,ms,ck,F,g1,g2,g3,g4⟩:=h2
           have hi:i ∉ sj (getM M) q kn q' c':=fun hm=>by have:=hdl1 i hm;rw [hlv] at this;cases this
           have hσ:∀ y,E'.σ i y↔(E.σ i y∨ofIds E (sj (getM M) q kn q' c') y):=fun y=>by
            show (E.σ i y∨ofIds E ((getM M i).yH (getM M) (getM M' i)) y)↔_
            rw [hB,hB'];exact Iff.rfl
           obtain ⟨F',h5⟩:=Ko (E':=E') hC h0 h1 hnd1 hi (fun y hy=>(hσ y).2 hy) g4
           refine ⟨by simp [E',h0,hlv],b,ms,ck,F',g1,fun hx=>?_,g3,h5⟩
           rcases (hσ b).1 hx with hx | ⟨j,hj,hx⟩
           · exact g2 hx
           · have:=hC.injH j i b hx ⟨h0,.inl g1⟩
             subst this
             exact hi hj
         | cons x r =>
           rw [<- hB']
           exact hsame (by rw [hB,hB'];rfl) (by rw [hB,hB'] at h1;rw [hB,hB'];exact h1)
       | _ =>
         rw [<- hB']
         exact hsame (by rw [hB,hB'];rfl) (by rw [hB,hB'] at h1;rw [hB,hB'];exact h1)
     | trow ty' sz' n' cap' c' op' zs' =>
       cases hB:getM M i with
       | trow ty sz n cap c op zs =>
         cases op' with
         | nil =>
           have hnd1:=xJ hnd i
           have hdl1:=hdead i
           rw [hB,hB'] at h1 hnd1 hdl1
           rw [hB] at h2
           obtain ⟨h0,ha,hb,hc,h3⟩:=h2
           simp only [ay.leK] at h1
           split at h1
           case h_2=>exact h1.elim
           rename_i ht
           simp only [Bool.and_eq_true,Nat.beq_eq] at ht
           obtain ⟨⟨⟨rfl,rfl⟩,hcl⟩,hzl⟩:=ht
           obtain ⟨rfl,hop,hle'⟩:=h1
           have hnd2:(qB (getM M) sz c' op).Nodup:=hnd1
           have hi:i ∉ qB (getM M) sz c' op:=fun hm=>by have:=hdl1 i hm;rw [hlv] at this;cases this
           have hσ:∀ y,E'.σ i y↔(E.σ i y∨ofIds E (qB (getM M) sz c' op) y):=fun y=>by
            show (E.σ i y∨ofIds E ((getM M i).yH (getM M) (getM M' i)) y)↔_
            rw [hB,hB'];exact Iff.rfl
           refine ⟨by simp [E',h0,hlv],ha,hb,fun q hq=>?_,?_⟩
           · subst hq
             cases cap with
             | none=>cases hcl
             | some a=>have:=hc a rfl;have:=Nat.eq_of_beq_eq_true hcl;show E.κ i=q;omega
           · show match E.ι i with | none=>E.κ i=0/\([]:List (Nat×List AV))=[] | some b=>¬ E'.σ i b/\∃ vs F,w.heap[b]? = some (.cells vs ty (0,0))/\AJ H E' (fun x=>w.heap[x]?) i sz n (E.κ i) c' [] zs' vs.toList F
             cases hι:E.ι i with
             | none=>rw [hι] at h3;exact ⟨h3.1,rfl⟩
             | some b =>
               rw [hι] at h3
               obtain ⟨hs,vs,F,g3,g4⟩:=h3
               obtain ⟨F',h5⟩:=Lh (E':=E') hC h0 hop hle' hnd2 hi (fun y hy=>(hσ y).2 hy) hzl g4
               refine ⟨fun hx=>?_,vs,F',g3,h5⟩
               rcases (hσ b).1 hx with hx | ⟨j,hj,hx⟩
               · exact hs hx
               · have:=hC.injH j i b hx ⟨h0,.inl hι⟩
                 subst this
                 exact hi hj
         | cons x r =>
           rw [<- hB']
           exact hsame (by rw [hB,hB'];rfl) (by rw [hB,hB'] at h1;rw [hB,hB'];exact h1)
       | _ =>
         rw [<- hB']
         exact hsame (by rw [hB,hB'];rfl) (by rw [hB,hB'] at h1;rw [hB,hB'];exact h1)
     | _ =>
       rw [<- hB']
       refine hsame ?_ ?_
       · rw [hB'];cases getM M i<;>rfl
       · rw [hB'] at h1 ⊢;cases hB:getM M i<;>(rw [hB] at h1;exact h1)
 · obtain ⟨l1,h1⟩:=hcut hi
   obtain ⟨l2,h2⟩:=hcut hj
   rcases h1 with h1 | ⟨p,hp,h1⟩<;>rcases h2 with h2 | ⟨r,hr,h2⟩
   · exact hC.injH i j b h1 h2
   · have:=hC.injH i r b h1 h2
     subst this
     rw [hdead j i hr] at l1;cases l1
   · have:=hC.injH p j b h1 h2
     subst this
     rw [hdead i p hp] at l2;cases l2
   · have:=hC.injH p r b h1 h2
     subst this
     exact C8 hnd i j hp hr
 · obtain ⟨j,hj⟩:=hany hi
   exact hC.sepH j b hj
 · obtain ⟨j,hj⟩:=hany ⟨hi,.inr hib⟩
   exact hC.o9 hj
 · show (E.lv i&&fu M' i)=true
   simp only [hl,Bool.true_and]
   cases hd:getM M' i with
   | dead =>
     exfalso
     refine hn ?_
     have:=wX (M:=M) (M':=M') (p:=0) i (fun e=>?_) hd
     · simpa using this
     · have h1:=hC.blk i
       rw [e] at h1
       rw [show E.lv i=false from h1] at hl;cases hl
   | _=>simp [fu,hd]
def allIn:List Nat->List Nat->Bool
 | [],_=>true
 | a::r,l=>mem l a&&allIn r l
theorem pY:∀ {l r:List Nat},allIn l r=true->∀ i∈l,i∈r
 | [],_,_,_,h=>by cases h
 | a::l,r,h,i,hi=>by
   simp only [allIn,Bool.and_eq_true] at h
   rcases List.mem_cons.1 hi with rfl | hi
   · exact mem_iff.1 h.1
   · exact pY h.2 i hi
theorem EX {H:HH} {E:Env} {w:World} {M M':List ay} (hC:Conc H E w M) (hle:leQ M M') (hok:ET (fu M') M'=true) :
 ∃ E',Conc H E' w M'/\bF (drops M M' 0) H E w H E' w/\E.via E' (nu (fu M')):=by
 unfold leQ at hle
 split at hle
 · exact aea hC hle hok
 · obtain ⟨h1,h2⟩:=hle
   unfold fK at h2
   split at h2
   · rename_i hb
     simp only [Bool.and_eq_true] at hb
     exact Xx hC h1 (Dh hb.1) (xV hb.2) hok
   · exact h2.elim
def K3 (s s':St):Prop:=w_ s.t s'.t/\leQ s.m s'.m/\(Cb (fu s'.m) s'.t&&ET (fu s'.m) s'.m)=true
theorem zo {s s':St} (h:K3 s s') {H:HH} {E:Env} {w:World} {vs:List Value} (hC:Conc H E w s.m) (hT:aA s.t H E vs) :
 ∃ E',Conc H E' w s'.m/\aA s'.t H E' vs/\bF (drops s.m s'.m 0) H E w H E' w:=by
 obtain ⟨h1,h2,h3⟩:=h
 simp only [Bool.and_eq_true] at h3
 obtain ⟨E',hC',hE,hv⟩:=EX hC h2 h3.2
 refine ⟨E',hC',?_,hE⟩
 have:=aA.ren _ hv (lC _ h1 hT)
 rwa [lD _ _ h3.1] at this
def exB:Exit->Exit->Bool
 | .normal,.normal=>true
 | .ret,.ret=>true
 | .exit i,.exit j=>Nat.beq i j
 | _,_=>false
theorem K4 {a b:Exit} (h:exB a b=true):a=b:=by
 unfold exB at h
 split at h
 · rfl
 · rfl
 · rw [Nat.eq_of_beq_eq_true h]
 · cases h
def KU (a b:Exit×St):Prop :=
 match exB a.1 b.1&&allIn (drops a.2.m b.2.m 0++a.2.mv) b.2.mv with
 | true=>K3 a.2 b.2
 | false=>False
theorem Nr {P:Program} {c:Code} {s:St} {a b:Exit×St} (h:bS P c s a.1 a.2) (hle:KU a b):bS P c s b.1 b.2:=by
 unfold KU at hle
 split at hle
 case h_2=>exact hle.elim
 rename_i hb
 simp only [Bool.and_eq_true] at hb
 rw [<- K4 hb.1]
 have hmv:=pY hb.2
 refine h.weak ⟨fun i hi=>hmv i (List.mem_append_right _ hi),fun H E w vs hC hT=>?_⟩
 obtain ⟨E',h1,h2,h3⟩:=zo hle hC hT
 exact ⟨E',h1,h2,h3.weak fun i hi=>hmv i (List.mem_append_left _ hi)⟩
theorem Tj {P:Program} {c:Code} {s s0:St} {x:Exit} {s1:St} (hle:K3 s s0) (h:bS P c s0 x s1):bS P c s x ⟨s1.t,s1.m,s1.mv++(drops s.m s0.m 0++s.mv)⟩:=by
 refine ⟨fun i hi=>by simp [hi],fun H E w a hC hT hd=>?_⟩
 obtain ⟨E',h1,h2,h3⟩:=zo hle hC hT
 refine wp_mono (h.2 H E' w a h1 h2 hd) ?_
 rintro x' a' w' ⟨H1,E1,rfl,hd1,hT1,hC1,hE1⟩
 exact ⟨H1,E1,rfl,hd1,hT1,hC1,h3.trans (hE1.weak fun i hi=>List.mem_append_left _ hi) fun i hi=>List.mem_append_right _ (List.mem_append_left _ hi)⟩
abbrev An:=AV×List ay×List Nat
def aB (P:Program) (f:FuncId) (args:List AV) (M:List ay) (a:An):Prop:=dD P f args M a.1 a.2.1 a.2.2
def Oa (a b:An):Prop :=
 match allIn (drops a.2.1 b.2.1 0++a.2.2) b.2.2&&Uf (fu b.2.1) b.1&&ET (fu b.2.1) b.2.1 with
 | true=>a.1.le b.1/\leQ a.2.1 b.2.1
 | false=>False
theorem F3 {P:Program} {f:FuncId} {args:List AV} {M:List ay} {a b:An} (h:aB P f args M a) (hle:Oa a b):aB P f args M b:=by
 unfold Oa at hle
 split at hle
 case h_2=>exact hle.elim
 rename_i hb
 simp only [Bool.and_eq_true] at hb
 obtain ⟨⟨h1,h2⟩,h3⟩:=hb
 have hmv:=pY h1
 intro H E w vals hC hargs
 refine (h H E w vals hC hargs).mono ?_
 rintro e w' ⟨v,H',E',rfl,hr,hC',hE⟩
 obtain ⟨E2,hC2,hE2,hv⟩:=EX hC' hle.2 h3
 refine ⟨v,H',E2,rfl,?_,hC2,(hE.weak fun i hi=>hmv i (List.mem_append_right _ hi)).trans (hE2.weak fun i hi=>hmv i (List.mem_append_left _ hi)) fun i hi=>hi⟩
 have:=Rel.ren _ hv (nE _ hle.1 hr)
 rwa [J7 _ _ h2] at this
def nodup:List Nat->Bool
 | []=>true
 | a::l=>!mem l a&&nodup l
theorem wo:∀ {l:List Nat},nodup l=true->∀ (i j a:Nat),l[i]? = some a->l[j]? = some a->i=j
 | [],_,i,_,a,h,_=>by simp at h
 | x::l,h,i,j,a,hi,hj=>by
   simp only [nodup,Bool.and_eq_true,Bool.not_eq_true'] at h
   have hx:∀ k,l[k]? = some x->False:=fun k hk=>by
    have:=mem_iff.2 (List.mem_of_getElem? hk)
    rw [h.1] at this;cases this
   cases i with
   | zero=>cases j with
     | zero=>rfl
     | succ j=>simp at hi hj;subst hi;exact absurd hj (hx j)
   | succ i=>cases j with
     | zero=>simp at hi hj;subst hj;exact absurd hi (hx i)
     | succ j=>simp at hi hj;rw [wo h.2 i j a hi hj]
def idx:List Nat->Nat->Option Nat
 | [],_=>none
 | a::l,i=>match Nat.beq a i with
   | true=>some 0
   | false=>(match idx l i with | some k=>some (k+1) | none=>none)
theorem FP:∀ {l:List Nat} {i j:Nat},idx l i=some j->l[j]? = some i
 | [],_,_,h=>by simp [idx] at h
 | a::l,i,j,h=>by
   simp only [idx] at h
   split at h
   · rename_i hb
     cases h
     rw [Nat.eq_of_beq_eq_true hb];rfl
   · split at h
     · rename_i k hk
       cases h
       simpa using FP hk
     · cases h
def pick (L:List Nat) (M:List ay):List Nat->List ay
 | []=>[]
 | i::r=>eY (idx L) (getM M i)::pick L M r
theorem rY (L:List Nat) (M:List ay):∀ (r:List Nat) (j:Nat),getM (pick L M r) j=match r[j]? with | some i=>eY (idx L) (getM M i) | none=>.dead
 | [],j=>by simp [pick,dJ]
 | i::r,0=>rfl
 | i::r,j+1=>by simp only [pick,getM,List.getElem?_cons_succ];exact rY L M r j
def Env.pull (E:Env) (L:List Nat):Env :=
 ⟨fun j=>match L[j]? with | some i=>E.lv i | none=>false,fun j=>match L[j]? with | some i=>E.ι i | none=>none,fun j=>match L[j]? with | some i=>E.κ i | none=>0,fun j=>match L[j]? with | some i=>E.η i | none=>0,
  fun j x=>match L[j]? with | some i=>E.σ i x | none=>False⟩
theorem Env.fQ {E:Env} {L:List Nat} {j x:Nat} (h:(E.pull L).has j x):∃ i,L[j]? = some i/\E.has i x:=by
 unfold Env.has Env.pull at h
 cases hj:L[j]? with
 | none=>simp [hj] at h
 | some i=>exact ⟨i,rfl,by simp [hj] at h;exact h⟩
theorem dD.compact {P:Program} {f:FuncId} {args:List AV} {r:AV} {M:List ay} {mv:List Nat} {L:List Nat} (h:dD P f args [] r M mv) (hL:nodup L=true):dD P f args [] (ren (idx L) r) (pick L M L) []:=by
 intro H E w vals hC hargs
 refine (h H E w vals hC hargs).mono ?_
 rintro e w1 ⟨v,H1,E1,rfl,hr,hC1,hE1⟩
 have hvia:E1.via (E1.pull L) (idx L):=fun i j hij hl=>by
  have:=FP hij
  simp [Env.pull,this,hl]
 refine ⟨v,H1,E1.pull L,rfl,Rel.ren _ hvia hr,⟨hC1.imm,hC1.tf,fun j=>?_,fun i j b hi hj=>?_,fun i b hi=>?_,fun i b hi hib=>?_⟩,⟨hE1.os,hE1.tape,hE1.output,hE1.size,hE1.keep,fun i b hi=>?_,hE1.hh,hE1.new,fun i hl _=>?_⟩⟩
 · rw [rY]
   cases hj:L[j]? with
   | none=>simp only [Env.pull,bV,hj]
   | some i =>
     simp only []
     refine (hC1.blk i).move (HH.le_refl _) hvia ?_ ?_ ?_ ?_ (fun b=>?_) fun _ _=>rfl<;>simp_all [Env.pull]
 · obtain ⟨x,hx,h1⟩:=Env.fQ hi
   obtain ⟨y,hy,h2⟩:=Env.fQ hj
   have:=hC1.injH x y b h1 h2
   subst this
   exact wo hL i j x hx hy
 · obtain ⟨x,hx,h1⟩:=Env.fQ hi
   exact hC1.sepH x b h1
 · obtain ⟨x,hx,h1⟩:=Env.fQ ⟨hi,.inr hib⟩
   exact hC1.o9 h1
 · obtain ⟨x,hx,h1⟩:=Env.fQ hi
   exact hE1.own x b h1
 · have:=hC.blk i
   rw [dJ] at this
   rw [show E.lv i=false from this] at hl;cases hl
mutual
def agv:AV->List Nat
 | .ptr i _ _ _=>[i]
 | .own i _ _ _=>[i]
 | .mref i=>[i]
 | .agg cs=>wE cs
 | .tup cs=>wE cs
 | .fn _ a b=>wE a++wE b
 | .ifc _ a=>agv a
 | _=>[]
def wE:List AV->List Nat
 | []=>[]
 | a::l=>agv a++wE l
end
def aeG:List (Nat×List AV)->List Nat
 | []=>[]
 | p::r=>wE p.2++aeG r
def aiG:ay->List Nat
 | .box _ cs=>wE cs
 | .lst _ _ _ _ cs=>wE cs
 | .mp es _=>wE (es.map fun e=>e.2.1)
 | .mit m _ _ _=>[m]
 | .tmap _ _ _ _ kn=>wE (kn.map fun p=>p.2)
 | .trow _ _ _ _ _ op _=>aeG op
 | _=>[]
def fresh:List Nat->List Nat->List Nat
 | seen,[]=>seen
 | seen,i::r=>match mem seen i with | true=>fresh seen r | false=>fresh (seen++[i]) r
def reach (rd:Nat->ay):Nat->List Nat->List Nat
 | 0,l=>l
 | n+1,l=>(fun m=>match Nat.beq (len m) (len l) with | true=>l | false=>reach rd n m) (fresh l (l.flatMap fun i=>aiG (rd i)))
def Ch:Nat->Nat->List ay->List (Nat×ay)
 | _,_,[]=>[]
 | p,s,B::r=>(p,eY (shift s) B)::Ch (p+1) s r
theorem Av:∀ (L M:List ay) (p s:Nat),place M p s L=dx (Ch p s L) M
 | [],_,_,_=>rfl
 | B::r,M,p,s=>by simp only [place,Ch,dx];exact Av r _ _ _
theorem zY:∀ (L:List ay) (p s k:Nat),k<len L->p+k∈ids (Ch p s L)
 | [],_,_,_,h=>by simp [len] at h
 | B::r,p,s,0,_=>by simp [Ch,ids]
 | B::r,p,s,k+1,h=>by
   simp only [Ch,ids,List.mem_cons]
   right
   rw [show p+(k+1)=p+1+k by omega]
   exact zY r (p+1) s k (by simpa [len] using h)
abbrev Ans:=AV×List ay×List Nat×List Prop
def IH1:=Nat->FuncId->List AV->List ay->Option Ans
def IH1.Ok (P:Program) (ih:IH1):Prop:=∀ p g args M r M' mv ob,ih p g args M=some (r,M',mv,ob)->Hold ob->dD P g args M r M' mv
def only (L:List Nat) (rd:Nat->ay) (i:Nat):ay:=match mem L i with | true=>rd i | false=>.dead
def depth:Nat:=8
def yZ (P:Program) (g:FuncId):Bool:=match P.funcs[g]? with | some fn=>!(fn.name == "runtime.NumGoroutine" || fn.body.isNone) | none=>false
abbrev ER:=Exit×St×List Prop
structure Hints where
 op:FuncId->Nat->Nat->Option Hint
 lp:FuncId->Nat->Option (Exit×(St->Option St))
 sub:FuncId->Bool
 ct:FuncId->List AV->List ay->Option Ans
def Hints.Ok (P:Program) (ht:Hints):Prop:=∀ g args M r M' mv ob,ht.ct g args M=some (r,M',mv,ob)->Hold ob->dD P g args M r M' mv
def keyOf:Code->Option Nat
 | .region id _ _=>some id
 | .seq a _=>keyOf a
 | .block _ c=>keyOf c
 | .loop c=>keyOf c
 | _=>none
def ag6 (P:Program) (fn:Func) (fr:Bool) (e:ER):Option Ans :=
 match e with
 | (.ret,st,ob) | (.normal,st,ob)=>(match Ct P st fn.results.toList with
   | some l=>(match fr with
     | false=>some (GU l,st.m,st.mv,ob)
     | true=>(fun L=>match nodup L with
       | true=>some (ren (idx L) (GU l),pick L st.m L,[],ob)
       | false=>none) (reach (getM st.m) depth (fresh [] (wE l))))
   | none=>none)
 | _=>none
def Mh (M:List ay):Bool:=match M with | []=>true | _=>false
def inl (P:Program) (ec:FuncId->Code->St->Option ER) (g:FuncId) (args:List AV) (M:List ay):Option Ans :=
 match P.funcs[g]? with
 | some fn=>(match fn.body with
   | some c=>(match ec g c ⟨JB fn.ntmps args,M,[]⟩ with
     | some e=>ag6 P fn (Mh M) e
     | none=>none)
   | none=>none)
 | none=>none
def Jm (name:String):List Method->Option Method
 | []=>none
 | m::r=>match m.name==name with | true=>some m | false=>Jm name r
theorem BL (name:String):∀ l,Jm name l=l.find? (·.name==name)
 | []=>rfl
 | m::r=>by
   simp only [Jm,List.find?_cons,BL name r]
   cases m.name==name<;>rfl
def q9:TypeDesc->Bool
 | .pointer _=>true
 | _=>false
def VQ (P:Program) (ty:TypeId) (name:String):Option FuncId:=match P.info? ty with
 | some i=>(match Jm name i.methods.toList with
   | some m=>(match m.path.toList,m.func,P.underlying ty with
     | [],some (f,b),some d=>(match b==q9 d||!b&&!q9 d with | true=>some f | false=>none)
     | _,_,_=>none)
   | none=>none)
 | none=>none
theorem Le {P:Program} {w:World} {ty:TypeId} {name:String} {f:FuncId} (v:Value) (h:VQ P ty name=some f) (n:Nat):(method (n+1) ty v name).run P w=.ok (f,v) w:=by
 unfold VQ at h
 split at h
 case h_2=>cases h
 rename_i i hi
 split at h
 case h_2=>cases h
 rename_i m hm
 split at h
 case h_2=>cases h
 rename_i f' b d hp hf hu
 split at h
 case h_2=>cases h
 rename_i hb
 cases h
 have hm':i.methods.find? (·.name==name)=some m:=by
  rw [BL] at hm
  rw [<- Array.find?_toList];exact hm
 have hpt:m.path=#[]:=Array.ext' hp
 cases b with
 | true =>
   cases d<;>simp [q9] at hb
   simp [method,typeInfo,hi,hm',hpt,hf,follow,receiverAt,run_underlying hu,Place.get,Result.andThen]
 | false =>
   cases d<;>simp [q9] at hb<;>simp [method,typeInfo,hi,hm',hpt,hf,follow,receiverAt,run_underlying hu,Place.get,Result.andThen]
def nTO:String := "internal/reflectlite.TypeOf"
def nCo:String := "(internal/reflectlite.rtype).Comparable"
def TA (P:Program) (n:String):Option TypeId:=match P.cutTypes.find? (·.1==n) with | some (_,t)=>some t | none=>none
def Ye (P:Program) (g:FuncId) (args:List AV):Option AV:=match P.funcs[g]? with
 | some fn=>(match fn.body.isNone&&fn.origin == "" with
   | true=>(match fn.name==nTO with
     | true=>(match args,TA P "internal/reflectlite.rtype" with
       | [.ifc t _],some rt=>some (.ifc rt (.agg [.s (typeHandle P t)]))
       | _,_=>none)
     | false=>(match fn.name==nCo with
       | true=>(match args with
         | [.agg [.s h]]=>(match handleType P h with
           | some t=>(match P.packed t||P.holdsPacked P.depth t,P.info? t with
             | false,some i=>some (.s (.bool i.comparable))
             | _,_=>none)
           | none=>none)
         | _=>none)
       | false=>none))
   | false=>none)
 | none=>none
theorem Zg {fn:Func} (h:fn.name=nTO):Extern.find fn=some Extern.ReflectliteType.typeOf:=by
 unfold Extern.find
 simp only [h]
 have h1:Extern.allGenericRows.lookup nTO=none:=by kernel_rfl
 have h2:Extern.allTypedRows.lookup nTO=none:=by kernel_rfl
 have h3:Extern.allRows.lookup nTO=some Extern.ReflectliteType.typeOf:=by kernel_rfl
 simp [h1,h2,h3]
theorem XO {fn:Func} (h:fn.name=nTO) (ho:fn.origin = ""):Extern.findNext fn=none:=by
 unfold Extern.findNext
 simp only [h,ho]
 have h1:Extern.allNextRows.lookup nTO=none:=by kernel_rfl
 have h2:Extern.allNextRows.lookup "" = none:=by kernel_rfl
 simp [h1,h2]
theorem XW {fn:Func} (h:fn.name=nCo):Extern.find fn=some (Extern.ReflectliteType.method fun t=>do Extern.Rtype.noPackHeld "Comparable" t;pure (.bool (<- typeInfo t).comparable)):=by
 unfold Extern.find
 simp only [h]
 have h1:Extern.allGenericRows.lookup nCo=none:=by kernel_rfl
 have h2:Extern.allTypedRows.lookup nCo=none:=by kernel_rfl
 have h3:Extern.allRows.lookup nCo=some (Extern.ReflectliteType.method fun t=>do Extern.Rtype.noPackHeld "Comparable" t;pure (.bool (<- typeInfo t).comparable)):=by kernel_rfl
 simp [h1,h2,h3]
theorem Zk {fn:Func} (h:fn.name=nCo) (ho:fn.origin = ""):Extern.findNext fn=none:=by
 unfold Extern.findNext
 simp only [h,ho]
 have h1:Extern.allNextRows.lookup nCo=none:=by kernel_rfl
 have h2:Extern.allNextRows.lookup "" = none:=by kernel_rfl
 simp [h1,h2]
theorem LW {P:Program} {n:String} {t:TypeId} (h:TA P n=some t) (w:World):(cutType n).run P w=.ok t w:=by
 unfold TA at h
 split at h
 case h_2=>cases h
 rename_i q t' hf
 cases h
 simp [cutType,hf,Result.andThen]
theorem LP {P:Program} {g:FuncId} {args:List AV} {r:AV} (h:Ye P g args=some r) {H:HH} {E:Env} {vals:Array Value} (hargs:aA args H E vals.toList) (w:World):∃ v,(callFunc g vals).run P w=.ok (.value v) w/\Rel r H E v:=by
 unfold Ye at h
 split at h
 case h_2=>cases h
 rename_i fn hg
 split at h
 case h_2=>cases h
 rename_i hb
 simp only [Bool.and_eq_true,beq_iff_eq] at hb
 split at h
 · rename_i hn
   have hn:=beq_iff_eq.1 hn
   split at h
   case h_2=>cases h
   rename_i t a rt hrt
   cases h
   obtain ⟨v,q,hv,⟨x,rfl,_⟩,hq⟩:=hargs
   have hq:q=[]:=hq
   subst hq
   have hvals:vals=#[.iface t x]:=Array.ext' hv
   subst hvals
   refine ⟨.iface rt (.agg #[typeHandle P t]),?_,⟨_,rfl,_,rfl,_,[],rfl,⟨rfl,rfl⟩,rfl⟩⟩
   rw [run_callFunc_extern hg (by rw [hn];decide +kernel) hb.1 (XO hn hb.2) (Zg hn)]
   have e:Extern.ReflectliteType.typeOf #[.iface t x]=Extern.ReflectliteType.toType t:=rfl
   simp [e,Extern.ReflectliteType.toType,LW hrt,Extern.Rtype.handle,Result.andThen]
 · split at h
   case h_2=>cases h
   rename_i hn
   have hn:=beq_iff_eq.1 hn
   split at h
   case h_2=>cases h
   rename_i hd
   split at h
   case h_2=>cases h
   rename_i t ht
   split at h
   case h_2=>cases h
   rename_i i hpk hi
   cases h
   obtain ⟨v,q,hv,⟨vs,rfl,hvs⟩,hq⟩:=hargs
   have hq:q=[]:=hq
   subst hq
   obtain ⟨u,r,hu,⟨rfl,hs⟩,hr⟩:=hvs
   have hr:r=[]:=hr
   subst hr
   have e1:vs=#[u]:=Array.ext' hu
   subst e1
   have hvals:vals=#[.agg #[u]]:=Array.ext' hv
   subst hvals
   simp only [Bool.or_eq_false_iff] at hpk
   refine ⟨.bool i.comparable,?_,⟨rfl,rfl⟩⟩
   rw [run_callFunc_extern hg (by rw [hn];decide +kernel) hb.1 (Zk hn hb.2) (XW hn)]
   have e1:∀ f:TypeId->Sem Value,Extern.ReflectliteType.method f #[.agg #[u]]=(Extern.ReflectliteType.ofRtype (.agg #[u])).bind f:=fun _=>rfl
   have e2:Extern.ReflectliteType.ofRtype (.agg #[u])=(do let t <- Extern.Rtype.ofHandle u;Extern.Rtype.noPack "a Type asked or handed on" t;pure t):=rfl
   have a1:(Extern.Rtype.ofHandle u).run P w=.ok t w:=by simp [Extern.Rtype.ofHandle,ht,Result.andThen]
   have a2:(Extern.Rtype.noPack "a Type asked or handed on" t).run P w=.ok () w:=by
    show (if P.packed t then _ else pure ():Sem Unit).run P w=_
    rw [hpk.1];rfl
   have a3:(Extern.Rtype.noPackHeld "Comparable" t).run P w=.ok () w:=by
    show (if P.holdsPacked P.depth t then _ else pure ():Sem Unit).run P w=_
    rw [hpk.2];rfl
   have a4:(typeInfo t).run P w=.ok i w:=by simp [typeInfo,hi,Result.andThen]
   have a5:(Extern.ReflectliteType.ofRtype (.agg #[u])).run P w=.ok t w:=by
    rw [e2]
    simp only [Sem.run_bind,a1,a2,Result.andThen]
    rfl
   have a6:((Extern.ReflectliteType.ofRtype (.agg #[u])) >>= fun t=>do Extern.Rtype.noPackHeld "Comparable" t;pure (Value.bool (<- typeInfo t).comparable)).run P w=.ok (.bool i.comparable) w:=by
    simp only [Sem.run_bind,a5,a3,a4,Result.andThen]
    rfl
   rw [e1]
   exact (congrArg (fun r=>Result.andThen r fun v w'=>.ok (Next.value v) w') a6)
def upTo:Nat->Nat->List Nat
 | _,0=>[]
 | i,n+1=>i::upTo (i+1) n
theorem EO:∀ (n i j:Nat) (r:List Nat),j<n->(upTo i n++r)[j]? = some (i+j)
 | 0,_,_,_,h=>absurd h (Nat.not_lt_zero _)
 | n+1,i,0,_,_=>rfl
 | n+1,i,j+1,r,h=>by
   simp only [upTo,List.cons_append,List.getElem?_cons_succ,EO n (i+1) j r (by omega)]
   congr 1
   omega
def above (n:Nat):List Nat->List Nat
 | []=>[]
 | i::r=>match Nat.ble n i with | true=>i::above n r | false=>above n r
theorem dD.H6 {P:Program} {f:FuncId} {args:List AV} {r:AV} {M0 M:List ay} {mv:List Nat} {L:List Nat} (h:dD P f args M0 r M mv) (hL:nodup L=true) (hp:∀ i,i<len M0->L[i]? = some i):dD P f args M0 (ren (idx L) r) (pick L M L) mv:=by
 intro H E w vals hC hargs
 refine (h H E w vals hC hargs).mono ?_
 rintro e w1 ⟨v,H1,E1,rfl,hr,hC1,hE1⟩
 have hvia:E1.via (E1.pull L) (idx L):=fun i j hij hl=>by
  have:=FP hij
  simp [Env.pull,this,hl]
 refine ⟨v,H1,E1.pull L,rfl,Rel.ren _ hvia hr,⟨hC1.imm,hC1.tf,fun j=>?_,fun i j b hi hj=>?_,fun i b hi=>?_,fun i b hi hib=>?_⟩,⟨hE1.os,hE1.tape,hE1.output,hE1.size,hE1.keep,fun i b hi=>?_,hE1.hh,hE1.new,fun i hl hmv=>?_⟩⟩
 · rw [rY]
   cases hj:L[j]? with
   | none=>simp only [Env.pull,bV,hj]
   | some i =>
     simp only []
     refine (hC1.blk i).move (HH.le_refl _) hvia ?_ ?_ ?_ ?_ (fun b=>?_) fun _ _=>rfl<;>simp_all [Env.pull]
 · obtain ⟨x,hx,h1⟩:=Env.fQ hi
   obtain ⟨y,hy,h2⟩:=Env.fQ hj
   have:=hC1.injH x y b h1 h2
   subst this
   exact wo hL i j x hx hy
 · obtain ⟨x,hx,h1⟩:=Env.fQ hi
   exact hC1.sepH x b h1
 · obtain ⟨x,hx,h1⟩:=Env.fQ ⟨hi,.inr hib⟩
   exact hC1.o9 h1
 · obtain ⟨x,hx,h1⟩:=Env.fQ hi
   exact hE1.own x b h1
 · have hi:i<len M0:=by
    rcases Nat.lt_or_ge i (len M0) with h | h
    · exact h
    · have:=hC.blk i
      rw [jK _ _ h] at this
      rw [show E.lv i=false from this] at hl;cases hl
   have:=hE1.ids i hl hmv
   simp only [Env.pull,hp i hi]
   exact this
end Go.Ax
