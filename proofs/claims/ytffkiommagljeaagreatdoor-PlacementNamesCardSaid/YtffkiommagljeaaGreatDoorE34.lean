import Derived.Laws.CopyRow
import Derived.Test.YtffkiommagljeaaGreatDoorE24
import Derived.Test.YtffkiommagljeaaGreatDoorE25
import Derived.Test.YtffkiommagljeaaGreatDoorE26
import Derived.Test.YtffkiommagljeaaGreatDoorE29
import Derived.Test.YtffkiommagljeaaGreatDoorE30
import Derived.Test.YtffkiommagljeaaGreatDoorE32
import Derived.Test.YtffkiommagljeaaGreatDoorE33
set_option linter.unusedVariables false
set_option linter.unusedSimpArgs false
set_option linter.unusedSectionVars false
namespace Go.Ax
open Go
variable [Inhabited Gl0]
theorem runs_step {P:Program} {o:Oper} {t:Nat->AV} {M:List Blk} {e:CE}
 (h:∀ H E w a,Conc H E w M->RelT t H E a->∃ v w' H' E',(execOp a.eval o).run P w=.ok (.value v) w'/\Rel e.r H' E' v/\Conc H' E' w' (applyW e.wr (killM e.kl M))/\Evol e.kl H E w H' E' w'):StepT P o t M e:=by
 intro H E w a K Q hC hT hd hk
 obtain ⟨v,w',H',E',hv,h1,h2,h3⟩:=h H E w a hC hT
 unfold Oper.wp
 rw [hv]
 exact hk v w' H' E' h1 h2 h3
def isNilOp:AV->Bool
 | .s (.slice none 0 0)=>true
 | _=>false
def isYn:AV->Bool
 | .yn ..=>true
 | _=>false
def boolE (b:Bool):CE:=⟨.s (.bool b),[],[],[],[]⟩
def nilQ (P:Program) (o:Oper) (t:Nat->AV):Option CE :=
 match o.op with
 | .binOp .eql ty x y _=>(match P.underlying ty,isYn (ev t x)&&isNilOp (ev t y) with
   | some (.slice _),true=>some (boolE false)
   | _,_=>none)
 | .binOp .neq ty x y _=>(match P.underlying ty,isYn (ev t x)&&isNilOp (ev t y) with
   | some (.slice _),true=>some (boolE true)
   | _,_=>none)
 | _=>none
theorem isYn_ok {x:AV} (h:isYn x=true) {H:HH} {E:Env} {v:Value} (hr:Rel x H E v):∃ a m c,v=.slice (some a) m c:=by
 unfold isYn at h
 split at h
 · obtain ⟨a,cap,rfl,_⟩:=hr;exact ⟨a,_,cap,rfl⟩
 · cases h
theorem isNilOp_ok {x:AV} (h:isNilOp x=true) {H:HH} {E:Env} {v:Value} (hr:Rel x H E v):v=.slice none 0 0:=by
 unfold isNilOp at h
 split at h
 · exact hr.1
 · cases h
theorem nil_run {P:Program} {ty el:TypeId} {w:World} {a:Addr} {m c d:Nat} (hu:P.underlying ty=some (.slice el)):(Op.equalIn (d+1) ty (.slice (some a) m c) (.slice none 0 0)).run P w=.ok false w:=by
 simp [Op.equalIn,run_underlying hu]
theorem nil_guard {P:Program} {op:BinOp} {t:TypeId} {x y:Operand} {w:World} {a:Addr} {m c:Nat} (hop:op=.eql∨op=.neq):(eqGuard op t x y (.slice (some a) m c) (.slice none 0 0)).run P w=.ok () w:=by
 rcases hop with rfl | rfl<;>simp [eqGuard]
theorem nilQ_ok {P:Program} {o:Oper} {t:Nat->AV} {rd:Nat->Blk} {e:CE} (h:nilQ P o t=some e):CE.Good P o t rd e:=by
 intro M _
 have key:∀ (q:Bool),(∀ (a:Act) (w:World) (ad:Addr) (m c:Nat) (x y:Operand) (ty f:TypeId),(o.op=.binOp .eql ty x y f/\q=false)∨(o.op=.binOp .neq ty x y f/\q=true)->∀ el,P.underlying ty=some (.slice el)->a.eval x=.slice (some ad) m c->a.eval y=.slice none 0 0->(execOp a.eval o).run P w=.ok (.value (.bool q)) w):=by
  intro q a w ad m c x y ty f hop el hu hx hy
  have hr:=run_eq_of (P:=P) (t:=ty) (u:=.slice (some ad) m c) (v:=.slice none 0 0) (w:=w) (q:=false) (by simp) (by simp) (by simp) (by simp) (nil_run (d:=9999) hu)
  rcases hop with ⟨hop,rfl⟩ | ⟨hop,rfl⟩
  · simp [execOp,hop,hx,hy,nil_guard (P:=P) (op:=.eql) (.inl rfl),hr.1]
  · simp [execOp,hop,hx,hy,nil_guard (P:=P) (op:=.neq) (.inr rfl),hr.2]
 unfold nilQ at h
 split at h
 case h_3=>cases h
 all_goals
  rename_i ty x y f hop
  split at h
  case h_2=>cases h
  rename_i el hu hb
  cases h
  simp only [Bool.and_eq_true] at hb
  refine runs_step fun H E w a hC hT=>?_
  obtain ⟨ad,m,c,hx⟩:=isYn_ok hb.1 (rel_ev hT x)
  have hy:=isNilOp_ok hb.2 (rel_ev hT y)
  refine ⟨.bool _,w,H,E,key _ a w ad m c x y ty f ?_ el hu hx hy,⟨rfl,rfl⟩,hC,Evol.refl _ _ _ _⟩
 · exact .inl ⟨hop,rfl⟩
 · exact .inr ⟨hop,rfl⟩
def isOwnL (rd:Nat->Blk):AV->Option Nat
 | .own i sz _ _=>(match rd i with
   | .lst _ s2 m _ _=>(match Nat.blt 0 m&&Nat.beq s2 sz with | true=>some i | false=>none)
   | _=>none)
 | _=>none
theorem isOwnL_ok {rd:Nat->Blk} {x:AV} {i:Nat} (h:isOwnL rd x=some i) {H:HH} {E:Env} {w:World} {M:List Blk} {v:Value} (hC:Conc H E w M) (hM:getM M i=rd i) (hr:Rel x H E v):∃ a m c,v=.slice (some a) m c:=by
 unfold isOwnL at h
 split at h
 case h_2=>cases h
 split at h
 case h_2=>cases h
 rename_i j sz lo n ty s2 m cap cs hg
 split at h
 case h_2=>cases h
 rename_i hb
 cases h
 simp only [Bool.and_eq_true,Nat.blt_eq] at hb
 have hB:=hC.blk i
 rw [hM,hg] at hB
 obtain ⟨_,h0,_,_,h1⟩:=hB
 obtain ⟨_,_,hm⟩:=hr
 cases hι:E.ι i with
 | none =>
   rw [hι] at h1
   have:=h1.1
   omega
 | some b =>
   rw [hι] at hm
   obtain ⟨ad,rfl,had⟩:=hm
   cases ad with
   | none=>exact absurd rfl had.2
   | some ad=>exact ⟨ad,_,_,rfl⟩
def ownNilE (P:Program) (rd:Nat->Blk) (o:Oper) (t:Nat->AV):Option CE :=
 match o.op with
 | .binOp .eql ty x y _=>(match P.underlying ty,isOwnL rd (ev t x),isNilOp (ev t y) with
   | some (.slice _),some i,true=>some ⟨.s (.bool false),[i],[],[],[]⟩
   | _,_,_=>none)
 | .binOp .neq ty x y _=>(match P.underlying ty,isOwnL rd (ev t x),isNilOp (ev t y) with
   | some (.slice _),some i,true=>some ⟨.s (.bool true),[i],[],[],[]⟩
   | _,_,_=>none)
 | _=>none
theorem ownNilE_ok {P:Program} {o:Oper} {t:Nat->AV} {rd:Nat->Blk} {e:CE} (h:ownNilE P rd o t=some e):CE.Good P o t rd e:=by
 have key:∀ (q:Bool),(∀ (a:Act) (w:World) (ad:Addr) (m c:Nat) (x y:Operand) (ty f:TypeId),(o.op=.binOp .eql ty x y f/\q=false)∨(o.op=.binOp .neq ty x y f/\q=true)->∀ el,P.underlying ty=some (.slice el)->a.eval x=.slice (some ad) m c->a.eval y=.slice none 0 0->(execOp a.eval o).run P w=.ok (.value (.bool q)) w):=by
  intro q a w ad m c x y ty f hop el hu hx hy
  have hr:=run_eq_of (P:=P) (t:=ty) (u:=.slice (some ad) m c) (v:=.slice none 0 0) (w:=w) (q:=false) (by simp) (by simp) (by simp) (by simp) (nil_run (d:=9999) hu)
  rcases hop with ⟨hop,rfl⟩ | ⟨hop,rfl⟩
  · simp [execOp,hop,hx,hy,nil_guard (P:=P) (op:=.eql) (.inl rfl),hr.1]
  · simp [execOp,hop,hx,hy,nil_guard (P:=P) (op:=.neq) (.inr rfl),hr.2]
 unfold ownNilE at h
 split at h
 case h_3=>cases h
 all_goals
  rename_i ty x y f hop
  split at h
  case h_2=>cases h
  rename_i el i hu hb hn
  cases h
  intro M hM
  refine runs_step (M:=M) fun H E w a hC hT=>?_
  obtain ⟨ad,m,c,hx⟩:=isOwnL_ok hb hC (hM i (by simp)) (rel_ev hT x)
  have hy:=isNilOp_ok hn (rel_ev hT y)
  refine ⟨.bool _,w,H,E,key _ a w ad m c x y ty f ?_ el hu hx hy,⟨rfl,rfl⟩,hC,Evol.refl _ _ _ _⟩
 · exact .inl ⟨hop,rfl⟩
 · exact .inr ⟨hop,rfl⟩
theorem nil_cases {P:Program} {f:FuncId} {pre post:List AV} {b:Bool} {sz n:Nat} {c:Nat->Nat->AV} {M:List Blk} {t:T An} (h1:n=0->t.Sat (ACall' P f (pre++.s (.slice none 0 0)::post) M)) (h2:t.Sat (ACall' P f (pre++.yn b sz n c::post) M))
 (hd:∃ a,t=.ret a):t.Sat (ACall' P f (pre++.ys b sz n c::post) M):=by
 obtain ⟨a,rfl⟩:=hd
 refine T.Sat.ret ?_
 have key:∀ {l:List AV},(T.ret a:T An).Sat (ACall' P f l M)->ACall' P f l M a:=fun h=>by
  obtain ⟨a',ha,e⟩:=h (fun x=>x=a) rfl
  rw [<- e];exact ha
 intro H E w vals hC hargs
 have hsplit:∀ (p:List AV) {vs:List Value} {x:AV},RelL (p++x::post) H E vs->∃ v1 v v2,vs=v1++v::v2/\RelL p H E v1/\Rel x H E v/\RelL post H E v2:=by
  intro p
  induction p with
  | nil=>intro vs x h;obtain ⟨v,r,rfl,h1,h2⟩:=h;exact ⟨[],v,r,rfl,rfl,h1,h2⟩
  | cons q p ih =>
    intro vs x h
    obtain ⟨v,r,rfl,h1,h2⟩:=h
    obtain ⟨v1,v',v2,rfl,g1,g2,g3⟩:=ih h2
    exact ⟨v::v1,v',v2,rfl,⟨v,v1,rfl,h1,g1⟩,g2,g3⟩
 have hjoin:∀ (p:List AV) {v1 v2:List Value} {x:AV} {v:Value},RelL p H E v1->Rel x H E v->RelL post H E v2->RelL (p++x::post) H E (v1++v::v2):=by
  intro p
  induction p with
  | nil=>intro v1 v2 x v h1 h2 h3;have h1:v1=[]:=h1;subst h1;exact ⟨v,v2,rfl,h2,h3⟩
  | cons q p ih =>
    intro v1 v2 x v h1 h2 h3
    obtain ⟨u,r,rfl,g1,g2⟩:=h1
    exact ⟨u,r++v::v2,rfl,g1,ih g2 h2 h3⟩
 obtain ⟨v1,v,v2,hv,g1,g2,g3⟩:=hsplit pre hargs
 obtain ⟨ad,cap,rfl,hn,hk⟩:=g2
 cases ad with
 | some ad =>
   refine key h2 H E w vals hC ?_
   rw [hv]
   refine hjoin pre g1 ⟨ad,cap,rfl,hn.1,fun k hkn j hj=>?_⟩ g3
   obtain ⟨ad',had,hk⟩:=hk (by omega)
   cases had
   exact hk k hkn j hj
 | none =>
   have hn0:n=0:=by
    rcases Nat.eq_zero_or_pos n with h0 | h0
    · exact h0
    · obtain ⟨_,h,_⟩:=hk h0;cases h
   have hc0:=hn.2 rfl
   subst hn0;subst hc0
   refine key (h1 rfl) H E w vals hC ?_
   rw [hv]
   exact hjoin pre g1 ⟨rfl,rfl⟩ g3
def shrinkR (rd:Nat->Blk):AV->Option CE
 | .own a sz 0 j=>(match rd a with
   | .row ty s2 _ cap c=>(match s2==sz with
     | true=>some ⟨.own a sz 0 j,[a],[(a,.row ty sz j cap c)],[a],[]⟩
     | false=>none)
   | _=>none)
 | _=>none
theorem shrinkR_ok {P:Program} {o:Oper} {t:Nat->AV} {rd:Nat->Blk} {x:Operand} {e:CE} (hop:o.op=.move x∨o.op=.assign x) (h:shrinkR rd (ev t x)=some e):CE.Good P o t rd e:=by
 intro M hM
 refine runs_step fun H E w a hC hT=>?_
 have hx:=rel_ev hT x
 unfold shrinkR at h
 split at h
 case h_2=>cases h
 rename_i i sz j he
 rw [he] at hx
 split at h
 case h_2=>cases h
 rename_i ty s2 n cap c hg
 split at h
 case h_2=>cases h
 rename_i hs
 have hs:s2=sz:=by simpa using hs
 subst hs
 cases h
 obtain ⟨hl,hη,hm⟩:=hx
 have hB:=hC.blk i
 rw [hM i (by simp),hg] at hB
 obtain ⟨_,hn,hκ,hcap,hb⟩:=hB
 obtain ⟨e1,e2,e3,e4⟩:=E.set_same i (E.ι i) (E.κ i) j
 have hB':BlkOk H (E.set i (E.ι i) (E.κ i) j) w i (renB (keepOf [i]) (.row ty s2 j cap c)):=by
  refine ⟨e1,by rw [e3,e4];omega,by rw [e3];exact hκ,by rw [e3];exact hcap,?_⟩
  rw [e2,e3]
  cases hι:E.ι i with
  | none=>rw [hι] at hb;exact hb
  | some b =>
    rw [hι] at hb
    obtain ⟨vs,g1,g2,g3,g4⟩:=hb
    refine ⟨vs,g1,fun x hx=>g2 x ?_,g3,fun k hk=>g4 k (by omega)⟩
    have:j*s2<=n*s2:=Nat.mul_le_mul_right _ (by omega)
    exact List.take_subset_take_left _ this hx
 obtain ⟨hc,hev⟩:=hC.move (bo':=E.ι i) (κ':=E.κ i) (η':=j) hl (w':=w) ⟨rfl,rfl,rfl,Nat.le_refl _,fun _ _ _=>rfl⟩ (fun g hg=>.inl hg) hB'
 refine ⟨a.eval x,w,H,_,?_,⟨e1,by rw [e3,e4];omega,by rw [e2,e3];exact hm⟩,hc.eqv fun k=>?_,hev⟩
 · rcases hop with hop | hop<;>simp [execOp,hop]
 · exact killW_eqv [i] [(i,.row ty s2 j cap c)] M k
theorem relL_takeF {H:HH} {E:Env}:∀ {l:List AV} {vs:List Value} (n:Nat),RelL l H E vs->RelL (l.take n) H E (vs.take n)
 | _,_,0,_=>by simp [RelL]
 | [],_,n+1,h=>by
   have h:_=[]:=h
   subst h;simp [RelL]
 | _::_,_,n+1,h=>by
   obtain ⟨v,r,rfl,h1,h2⟩:=h
   exact ⟨v,_,rfl,h1,relL_takeF n h2⟩
def shrinkL (rd:Nat->Blk):AV->Option CE
 | .own a sz 0 j=>(match rd a with
   | .lst ty s2 n cap cs=>(match s2==sz&&Nat.ble j n with
     | true=>some ⟨.own a sz 0 j,[a],killW [a] [(a,.lst ty sz j cap (cs.take (j*sz)))],[a],[]⟩
     | false=>none)
   | _=>none)
 | _=>none
theorem shrinkL_ok {P:Program} {o:Oper} {t:Nat->AV} {rd:Nat->Blk} {x:Operand} {e:CE} (hop:o.op=.move x∨o.op=.assign x) (h:shrinkL rd (ev t x)=some e):CE.Good P o t rd e:=by
 intro M hM
 refine runs_step fun H E w a hC hT=>?_
 have hx:=rel_ev hT x
 unfold shrinkL at h
 split at h
 case h_2=>cases h
 rename_i i sz j he
 rw [he] at hx
 split at h
 case h_2=>cases h
 rename_i ty s2 n cap cs hg
 split at h
 case h_2=>cases h
 rename_i hs
 simp only [Bool.and_eq_true,beq_iff_eq,Nat.ble_eq] at hs
 obtain ⟨rfl,hjn⟩:=hs
 cases h
 obtain ⟨hl,hη,hm⟩:=hx
 have hB:=hC.blk i
 rw [hM i (by simp),hg] at hB
 obtain ⟨_,hn,hκ,hcap,hb⟩:=hB
 obtain ⟨e1,e2,e3,e4⟩:=E.set_same i (E.ι i) (E.κ i) j
 have hvia:E.via (E.set i (E.ι i) (E.κ i) j) (keepOf [i]):=by
  intro p q hpq hlp
  have hqp:q=p/\p≠i:=by
   by_cases hpi:p=i
   · subst hpi;simp [keepOf,mem] at hpq
   · have:keepOf [i] p=some p:=by
      have:¬ i=p:=fun e=>hpi e.symm
      simp [keepOf,mem,hpi,this]
     rw [this] at hpq
     exact ⟨(Option.some.inj hpq).symm,hpi⟩
  obtain ⟨rfl,hpi⟩:=hqp
  obtain ⟨q1,q2,q3,q4⟩:=E.set_ne i q (E.ι i) (E.κ i) j hpi
  exact ⟨q1.trans hlp,q2,q3,q4⟩
 have hB':BlkOk H (E.set i (E.ι i) (E.κ i) j) w i (renB (keepOf [i]) (.lst ty s2 j cap (cs.take (j*s2)))):=by
  refine ⟨e1,by rw [e3,e4];omega,by rw [e3];exact hκ,by rw [e3];exact hcap,?_⟩
  rw [e2,e3]
  cases hι:E.ι i with
  | none=>rw [hι] at hb;exact ⟨hb.1,by rw [hb.2];simp [renL]⟩
  | some b =>
    rw [hι] at hb
    obtain ⟨vs,g1,g2,g3,g4⟩:=hb
    have hle:j*s2<=n*s2:=Nat.mul_le_mul_right _ hjn
    refine ⟨vs,g1,fun x hx=>g2 x (List.take_subset_take_left _ hle hx),g3,?_⟩
    have:=RelL.ren _ hvia (relL_takeF (j*s2) g4)
    rw [List.take_take,Nat.min_eq_left hle] at this
    first | exact this | (rw [<- hι];exact this) | (rw [hι] at this;exact this)
 obtain ⟨hc,hev⟩:=hC.move (bo':=E.ι i) (κ':=E.κ i) (η':=j) hl (w':=w) ⟨rfl,rfl,rfl,Nat.le_refl _,fun _ _ _=>rfl⟩ (fun g hg=>.inl hg) hB'
 refine ⟨a.eval x,w,H,_,?_,⟨e1,by rw [e3,e4];omega,by rw [e2,e3];exact hm⟩,hc.eqv fun k=>?_,hev⟩
 · rcases hop with hop | hop<;>simp [execOp,hop]
 · exact killW_eqv [i] [(i,.lst ty s2 j cap (cs.take (j*s2)))] M k
def shrinkE (rd:Nat->Blk) (x:AV):Option CE:=match shrinkR rd x with
 | some e=>some e
 | none=>shrinkL rd x
theorem shrinkE_ok {P:Program} {o:Oper} {t:Nat->AV} {rd:Nat->Blk} {x:Operand} {e:CE} (hop:o.op=.move x∨o.op=.assign x) (h:shrinkE rd (ev t x)=some e):CE.Good P o t rd e:=by
 unfold shrinkE at h
 split at h
 · rename_i e' he
   cases h
   exact shrinkR_ok hop he
 · exact shrinkL_ok hop h
def clrRow (lo n:Nat) (c:Nat->Nat->AV) (k j:Nat):AV:=if lo<=k/\k<lo+n then .junk else c k j
def clearE (P:Program) (rd:Nat->Blk) (ty:TypeId) (x:AV):Option CE :=
 match P.underlying ty,x with
 | some (.slice el),.own i sz lo n=>(match rd i,zeroL P el with
   | .row ty' s2 m cap c,some z=>(match s2==sz&&len z==sz&&Nat.ble 1 sz with
     | true=>some ⟨.tup [],[i],[(i,.row ty' sz m cap (clrRow lo n c))],[],[]⟩
     | false=>none)
   | _,_=>none)
 | _,_=>none
theorem zeroCells_len (z:Array Value) (n:Nat):(Builtin.zeroCells z n).toList.length=n*z.size:=by simp [Builtin.zeroCells]
theorem zeroCells_ones (z:Array Value) (n:Nat) (h:ones z.toList) (h0:0<z.size):∀ x∈(Builtin.zeroCells z n).toList,x.oneCell'=true:=by
 intro x hx
 simp only [Builtin.zeroCells,Array.toList_map,List.mem_map] at hx
 obtain ⟨i,_,rfl⟩:=hx
 have hlt:i % z.size<z.size:=Nat.mod_lt _ h0
 rw [getElem!_pos z _ hlt]
 exact h _ (by simp)
theorem clearE_ok {P:Program} {o:Oper} {t:Nat->AV} {rd:Nat->Blk} {ty:TypeId} {x:Operand} {e:CE} (hop:o.op=.call { callee:=.builtin .clear,args:=#[x],argTypes:=#[ty] }) (h:clearE P rd ty (ev t x)=some e):CE.Good P o t rd e:=by
 intro M hM
 refine runs_step fun H E w a hC hT=>?_
 have hx:=rel_ev hT x
 unfold clearE at h
 split at h
 case h_2=>cases h
 rename_i el i sz lo n hu he
 rw [he] at hx
 split at h
 case h_2=>cases h
 rename_i ty' s2 m cap c z hg hz
 split at h
 case h_2=>cases h
 rename_i hs
 simp only [Bool.and_eq_true,beq_iff_eq,Nat.ble_eq] at hs
 obtain ⟨⟨rfl,hzl⟩,hs0⟩:=hs
 cases h
 obtain ⟨hl,hη,hm⟩:=hx
 have hB:=hC.blk i
 rw [hM i (by simp),hg] at hB
 obtain ⟨hlv,hn,hκ,hcap,hb⟩:=hB
 obtain ⟨zi,zv,hi,hz',hrz,h1⟩:=zeroL_ok H E hz
 have hzs:zv.cells.size=s2:=by
  have:=RelL.length hrz
  rw [len_eq] at hzl
  rw [<- hzl,<- this,Array.length_toList]
 have hstay:(∀ v,a.eval x=v->(Builtin.clear_ #[ty] o.type #[v]).run P w=.ok (.tuple #[]) w)->n=0∨E.ι i=none->∃ v w' H' E',(execOp a.eval o).run P w=.ok (.value v) w'/\Rel (.tup []) H' E' v/\Conc H' E' w' (applyW [(i,.row ty' s2 m cap (clrRow lo n c))] (killM [] M))/\Evol [] H E w H' E' w':=by
  intro hrun h0
  refine ⟨.tuple #[],w,H,E,by simp [execOp,hop,resolve,invoke,builtin,hrun _ rfl],⟨#[],rfl,rfl⟩,?_,Evol.refl _ _ _ _⟩
  refine ⟨hC.imm,hC.tf,fun k=>?_,hC.injH,hC.sepH,hC.ltS⟩
  show BlkOk H E w k (getM (putM M i _) k)
  by_cases hk:i=k
  · subst hk
    rw [getM_put_same]
    refine ⟨hlv,hn,hκ,hcap,?_⟩
    cases hι:E.ι i with
    | none=>rw [hι] at hb;exact hb
    | some b =>
      rw [hι] at hb
      obtain ⟨vs,g1,g2,g3,g4⟩:=hb
      refine ⟨vs,g1,g2,g3,fun k hk j hj=>?_⟩
      obtain ⟨y,hy,hr⟩:=g4 k hk j hj
      refine ⟨y,hy,?_⟩
      unfold clrRow
      split
      · trivial
      · exact hr
  · rw [getM_put_ne _ _ _ _ hk]
    exact hC.blk k
 cases hι:E.ι i with
 | none =>
   rw [hι] at hm
   obtain ⟨_,rfl,hv⟩:=hm
   exact hstay (fun v hv'=>by rw [<- hv',hv];simp [Builtin.clear_,run_underlying hu]) (.inl rfl)
 | some b =>
   rw [hι] at hm hb
   obtain ⟨ad,hv,had⟩:=hm
   rcases Nat.eq_zero_or_pos n with h0 | h0
   · subst h0
     exact hstay (fun v hv'=>by rw [<- hv',hv];cases ad<;>simp [Builtin.clear_,run_underlying hu]) (.inl rfl)
   · obtain ⟨vs,g1,g2,g3,g4⟩:=hb
     have had:=had.1 (.inr h0)
     rw [had] at hv
     have hq:(lo+n)*s2<=m*s2:=Nat.mul_le_mul_right _ (by omega)
     have hq2:m*s2<=E.κ i*s2:=Nat.mul_le_mul_right _ hn.2
     rw [Nat.add_mul] at hq
     have hzc:(Builtin.zeroCells zv.cells n).toList.length=n*s2:=by rw [zeroCells_len,hzs]
     have hst:=run_storeCells_at P b (lo*s2) ty' (Builtin.zeroCells zv.cells n).toList 0 vs w g1 (by rw [hzc];omega) (zeroCells_ones _ _ h1 (by omega))
     have hrun:(Builtin.clear_ #[ty] o.type #[a.eval x]).run P w=.ok (.tuple #[]) (w.setRow b (vs.toList.take (lo*s2+0)++(Builtin.zeroCells zv.cells n).toList++vs.toList.drop (lo*s2+0+(Builtin.zeroCells zv.cells n).toList.length)).toArray):=by
      rw [hv]
      obtain ⟨n',rfl⟩:∃ n',n=n'+1:=⟨n - 1,by omega⟩
      simp [Builtin.clear_,run_underlying hu,zeroValue,typeInfo,hi,hz',hst]
     generalize hzq:(Builtin.zeroCells zv.cells n).toList=zs at hst hrun hzc
     have hzo:∀ x∈zs,x.oneCell'=true:=by rw [<- hzq];exact zeroCells_ones _ _ h1 (by omega)
     simp only [Nat.add_zero] at hrun
     have hget:∀ q,(vs.toList.take (lo*s2)++zs++vs.toList.drop (lo*s2+zs.length))[q]? = if lo*s2<=q/\q<lo*s2+n*s2 then zs[q - lo*s2]? else vs[q]?:=by
      intro q
      have htl:(vs.toList.take (lo*s2)).length=lo*s2:=by rw [List.length_take,Array.length_toList];omega
      by_cases hq1:q<lo*s2
      · rw [List.append_assoc,List.getElem?_append_left (by omega),List.getElem?_take,if_pos hq1,if_neg (by omega)];simp
      · by_cases hq2:q<lo*s2+n*s2
        · rw [List.append_assoc,List.getElem?_append_right (by omega),List.getElem?_append_left (by omega),if_pos ⟨by omega,hq2⟩,htl]
        · rw [List.getElem?_append_right (by rw [List.length_append];omega),List.length_append,htl,List.getElem?_drop,if_neg (by omega),hzc]
          rw [show lo*s2+n*s2+(q - (lo*s2+n*s2))=q by omega];simp
     generalize hnew:vs.toList.take (lo*s2)++zs++vs.toList.drop (lo*s2+zs.length)=new at hrun hget
     have hnl:new.length=vs.size:=by
      rw [<- hnew];simp [hzc];omega
     have hB2:BlkOk H E (w.setRow b new.toArray) i (.row ty' s2 m cap (clrRow lo n c)):=by
      refine ⟨hlv,hn,hκ,hcap,?_⟩
      rw [hι]
      refine ⟨new.toArray,setRow_heap w b vs _ ty' (0,0) g1,fun y hy=>?_,by simp [hnl,g3],fun k hk j hj=>?_⟩
      · obtain ⟨q,hq4⟩:=List.mem_iff_getElem?.1 hy
        rw [List.getElem?_take] at hq4
        split at hq4
        case isFalse=>cases hq4
        rename_i hqm
        simp only [List.toList_toArray] at hq4
        rw [hget] at hq4
        split at hq4
        · exact hzo _ (List.mem_of_getElem? hq4)
        · refine g2 y ?_
          rw [List.mem_iff_getElem?]
          exact ⟨q,by rw [List.getElem?_take,if_pos hqm];simpa using hq4⟩
      · have hkm:(k+1)*s2<=m*s2:=Nat.mul_le_mul_right _ hk
        rw [Nat.add_mul,Nat.one_mul] at hkm
        have hlt:k*s2+j<new.length:=by omega
        obtain ⟨y,hy,hr⟩:=g4 k hk j hj
        simp only [List.getElem?_toArray]
        rw [hget]
        unfold clrRow
        by_cases hkr:lo<=k/\k<lo+n
        · have a1:lo*s2<=k*s2:=Nat.mul_le_mul_right _ hkr.1
          have a2:(k+1)*s2<=(lo+n)*s2:=Nat.mul_le_mul_right _ hkr.2
          rw [Nat.add_mul,Nat.one_mul,Nat.add_mul] at a2
          rw [if_pos hkr,if_pos ⟨by omega,by omega⟩]
          exact ⟨_,List.getElem?_eq_getElem (by omega),trivial⟩
        · rw [if_neg hkr,if_neg ?_]
          · exact ⟨y,hy,hr⟩
          · intro ⟨b1,b2⟩
            refine hkr ⟨?_,?_⟩
            · rcases Nat.lt_or_ge k lo with h | h
              · have:(k+1)*s2<=lo*s2:=Nat.mul_le_mul_right _ h
                rw [Nat.add_mul,Nat.one_mul] at this;omega
              · exact h
            · rcases Nat.lt_or_ge k (lo+n) with h | h
              · exact h
              · have:(lo+n)*s2<=k*s2:=Nat.mul_le_mul_right _ h
                rw [Nat.add_mul] at this;omega
     obtain ⟨hc,hev⟩:=hC.upd (w':=w.setRow b new.toArray) (o:=.cells new.toArray ty' (0,0)) hl hι ⟨rfl,rfl,rfl,by simp [World.setRow],setRow_heap w b vs _ ty' (0,0) g1,fun k hk=>setRow_other w b k _ hk⟩ hB2
     refine ⟨.tuple #[],_,H,E,by simp [execOp,hop,resolve,invoke,builtin,hrun],⟨#[],rfl,rfl⟩,hc,hev⟩
def jnk:List AV->Nat->Nat->List AV
 | [],_,_=>[]
 | c::r,0,0=>c::r
 | _::r,0,n+1=>.junk::jnk r 0 n
 | c::r,p+1,n=>c::jnk r p n
theorem jnk_zero:∀ (cs:List AV) (p:Nat),jnk cs p 0=cs
 | [],_=>rfl
 | c::r,0=>rfl
 | c::r,p+1=>by simp [jnk,jnk_zero r p]
theorem jnk_rel {H:HH} {E:Env}:∀ {cs:List AV} {xs zs:List Value} (p:Nat),RelL cs H E xs->p+zs.length<=xs.length->RelL (jnk cs p zs.length) H E (xs.take p++zs++xs.drop (p+zs.length))
 | [],xs,zs,p,h,hl=>by
   have h:xs=[]:=h
   subst h
   have:zs=[]:=by cases zs with | nil=>rfl | cons _ _=>simp at hl
   subst this
   simp [jnk,RelL]
 | c::r,xs,[],0,h,hl=>by simpa [jnk] using h
 | c::r,xs,z::zs,0,h,hl=>by
   obtain ⟨v,q,rfl,h1,h2⟩:=h
   have:=jnk_rel (zs:=zs) 0 h2 (by simp at hl ⊢;omega)
   refine ⟨z,_,rfl,trivial,?_⟩
   simpa using this
 | c::r,xs,zs,p+1,h,hl=>by
   obtain ⟨v,q,rfl,h1,h2⟩:=h
   have:=jnk_rel (zs:=zs) p h2 (by simp at hl ⊢;omega)
   refine ⟨v,_,rfl,h1,?_⟩
   have e:p+1+zs.length=(p+zs.length)+1:=by omega
   simpa [e] using this
def clearL (P:Program) (rd:Nat->Blk) (ty:TypeId) (x:AV):Option CE :=
 match P.underlying ty,x with
 | some (.slice el),.own i sz lo n=>(match rd i,zeroL P el with
   | .lst ty' s2 m cap cs,some z=>(match s2==sz&&len z==sz&&Nat.ble 1 sz with
     | true=>some ⟨.tup [],[i],[(i,.lst ty' sz m cap (jnk cs (lo*sz) (n*sz)))],[],[]⟩
     | false=>none)
   | _,_=>none)
 | _,_=>none
theorem clearL_ok {P:Program} {o:Oper} {t:Nat->AV} {rd:Nat->Blk} {ty:TypeId} {x:Operand} {e:CE} (hop:o.op=.call { callee:=.builtin .clear,args:=#[x],argTypes:=#[ty] }) (h:clearL P rd ty (ev t x)=some e):CE.Good P o t rd e:=by
 intro M hM
 refine runs_step fun H E w a hC hT=>?_
 have hx:=rel_ev hT x
 unfold clearL at h
 split at h
 case h_2=>cases h
 rename_i el i sz lo n hu he
 rw [he] at hx
 split at h
 case h_2=>cases h
 rename_i ty' s2 m cap cs z hg hz
 split at h
 case h_2=>cases h
 rename_i hs
 simp only [Bool.and_eq_true,beq_iff_eq,Nat.ble_eq] at hs
 obtain ⟨⟨rfl,hzl⟩,hs0⟩:=hs
 cases h
 obtain ⟨hl,hη,hm⟩:=hx
 have hB:=hC.blk i
 rw [hM i (by simp),hg] at hB
 obtain ⟨hlv,hn,hκ,hcap,hb⟩:=hB
 obtain ⟨zi,zv,hi,hz',hrz,h1⟩:=zeroL_ok H E hz
 have hzs:zv.cells.size=s2:=by
  have:=RelL.length hrz
  rw [len_eq] at hzl
  rw [<- hzl,<- this,Array.length_toList]
 have hstay:(∀ v,a.eval x=v->(Builtin.clear_ #[ty] o.type #[v]).run P w=.ok (.tuple #[]) w)->n=0->∃ v w' H' E',(execOp a.eval o).run P w=.ok (.value v) w'/\Rel (.tup []) H' E' v/\Conc H' E' w' (applyW [(i,.lst ty' s2 m cap (jnk cs (lo*s2) (n*s2)))] (killM [] M))/\Evol [] H E w H' E' w':=by
  intro hrun h0
  subst h0
  refine ⟨.tuple #[],w,H,E,by simp [execOp,hop,resolve,invoke,builtin,hrun _ rfl],⟨#[],rfl,rfl⟩,?_,Evol.refl _ _ _ _⟩
  rw [Nat.zero_mul,jnk_zero]
  refine ⟨hC.imm,hC.tf,fun k=>?_,hC.injH,hC.sepH,hC.ltS⟩
  show BlkOk H E w k (getM (putM M i _) k)
  by_cases hk:i=k
  · subst hk
    rw [getM_put_same]
    exact ⟨hlv,hn,hκ,hcap,hb⟩
  · rw [getM_put_ne _ _ _ _ hk]
    exact hC.blk k
 cases hι:E.ι i with
 | none =>
   rw [hι] at hm
   obtain ⟨_,rfl,hv⟩:=hm
   exact hstay (fun v hv'=>by rw [<- hv',hv];simp [Builtin.clear_,run_underlying hu]) rfl
 | some b =>
   rw [hι] at hm hb
   obtain ⟨ad,hv,had⟩:=hm
   rcases Nat.eq_zero_or_pos n with h0 | h0
   · subst h0
     exact hstay (fun v hv'=>by rw [<- hv',hv];cases ad<;>simp [Builtin.clear_,run_underlying hu]) rfl
   · obtain ⟨vs,g1,g2,g3,g4⟩:=hb
     have had:=had.1 (.inr h0)
     rw [had] at hv
     have hq:(lo+n)*s2<=m*s2:=Nat.mul_le_mul_right _ (by omega)
     have hq2:m*s2<=E.κ i*s2:=Nat.mul_le_mul_right _ hn.2
     rw [Nat.add_mul] at hq
     have hzc:(Builtin.zeroCells zv.cells n).toList.length=n*s2:=by rw [zeroCells_len,hzs]
     have hst:=run_storeCells_at P b (lo*s2) ty' (Builtin.zeroCells zv.cells n).toList 0 vs w g1 (by rw [hzc];omega) (zeroCells_ones _ _ h1 (by omega))
     have hrun:(Builtin.clear_ #[ty] o.type #[a.eval x]).run P w=.ok (.tuple #[]) (w.setRow b (vs.toList.take (lo*s2+0)++(Builtin.zeroCells zv.cells n).toList++vs.toList.drop (lo*s2+0+(Builtin.zeroCells zv.cells n).toList.length)).toArray):=by
      rw [hv]
      obtain ⟨n',rfl⟩:∃ n',n=n'+1:=⟨n - 1,by omega⟩
      simp [Builtin.clear_,run_underlying hu,zeroValue,typeInfo,hi,hz',hst]
     generalize hzq:(Builtin.zeroCells zv.cells n).toList=zs at hst hrun hzc
     have hzo:∀ x∈zs,x.oneCell'=true:=by rw [<- hzq];exact zeroCells_ones _ _ h1 (by omega)
     simp only [Nat.add_zero] at hrun
     have hcut:(vs.toList.take (lo*s2)++zs++vs.toList.drop (lo*s2+zs.length)).take (m*s2)=(vs.toList.take (m*s2)).take (lo*s2)++zs++(vs.toList.take (m*s2)).drop (lo*s2+zs.length):=by
      rw [List.take_take,Nat.min_eq_left (by omega),List.drop_take,List.take_append,List.length_append,List.length_take,Array.length_toList,hzc,List.take_of_length_le]
      · congr 2
        omega
      · rw [List.length_append,List.length_take,Array.length_toList,hzc];omega
     generalize hnew:vs.toList.take (lo*s2)++zs++vs.toList.drop (lo*s2+zs.length)=new at hrun hcut
     have hnl:new.length=vs.size:=by
      rw [<- hnew];simp [hzc];omega
     have hB2:BlkOk H E (w.setRow b new.toArray) i (.lst ty' s2 m cap (jnk cs (lo*s2) (n*s2))):=by
      refine ⟨hlv,hn,hκ,hcap,?_⟩
      rw [hι]
      refine ⟨new.toArray,setRow_heap w b vs _ ty' (0,0) g1,fun y hy=>?_,by simp [hnl,g3],?_⟩
      · simp only [List.toList_toArray] at hy
        rw [hcut,List.mem_append,List.mem_append] at hy
        rcases hy with (hy | hy) | hy
        · exact g2 y (List.mem_of_mem_take hy)
        · exact hzo y hy
        · exact g2 y (List.mem_of_mem_drop hy)
      · simp only [List.toList_toArray]
        rw [hcut,<- hzc]
        have hz2:zs.length=n*s2:=by simpa using hzc
        refine jnk_rel _ g4 ?_
        rw [List.length_take,Array.length_toList]
        have q1:lo*s2+zs.length<=m*s2:=by rw [hz2];exact hq
        have q2:lo*s2+zs.length<=vs.size:=by rw [g3];exact Nat.le_trans q1 hq2
        exact Nat.le_min.2 ⟨q1,q2⟩
     obtain ⟨hc,hev⟩:=hC.upd (w':=w.setRow b new.toArray) (o:=.cells new.toArray ty' (0,0)) hl hι ⟨rfl,rfl,rfl,by simp [World.setRow],setRow_heap w b vs _ ty' (0,0) g1,fun k hk=>setRow_other w b k _ hk⟩ hB2
     refine ⟨.tuple #[],_,H,E,by simp [execOp,hop,resolve,invoke,builtin,hrun],⟨#[],rfl,rfl⟩,hc,hev⟩
def intoE (rd:Nat->Blk) (d:Nat):AV->Option CE
 | .own k sz lo n=>(match Nat.beq k d with
   | true=>none
   | false=>some ⟨.own d sz lo n,[k],[(k,.dead),(d,renB (keepOf [k,d]) (rd k))],[k,d],[]⟩)
 | _=>none
def Env.into (E:Env) (k d:Nat):Env :=
 ⟨fun j=>if j=d then E.lv k else if j=k then false else E.lv j,fun j=>if j=d then E.ι k else E.ι j,fun j=>if j=d then E.κ k else E.κ j,fun j=>if j=d then E.η k else E.η j,fun j x=>if j=d then E.σ k x else E.σ j x⟩
theorem intoE_ok {P:Program} {o:Oper} {t:Nat->AV} {rd:Nat->Blk} {d:Nat} {x:Operand} {e:CE} (hop:o.op=.move x∨o.op=.assign x) (h:intoE rd d (ev t x)=some e):CE.Good P o t rd e:=by
 intro M hM
 refine runs_step fun H E w a hC hT=>?_
 have hx:=rel_ev hT x
 unfold intoE at h
 split at h
 case h_2=>cases h
 rename_i k sz lo n he
 rw [he] at hx
 split at h
 · cases h
 rename_i hkd
 have hkd:k≠d:=fun e=>by rw [e,Nat.beq_refl] at hkd;cases hkd
 cases h
 have hMk:=hM k (by simp)
 obtain ⟨hl,hη,hm⟩:=hx
 have hvia:E.via (E.into k d) (keepOf [k,d]):=by
  intro i j hij hli
  unfold keepOf at hij
  split at hij
  · cases hij
  · rename_i hn
    cases hij
    simp at hn
    simp [Env.into,hn.1,hn.2,hli]
 have hed:(E.into k d).lv d=E.lv k/\(E.into k d).ι d=E.ι k/\(E.into k d).κ d=E.κ k/\(E.into k d).η d=E.η k:=by simp [Env.into]
 have hek:(E.into k d).lv k=false:=by simp [Env.into,hkd]
 have hej:∀ j,j≠k->j≠d->(E.into k d).lv j=E.lv j/\(E.into k d).ι j=E.ι j/\(E.into k d).κ j=E.κ j/\(E.into k d).η j=E.η j:=fun j h1 h2=>by simp [Env.into,h1,h2]
 have hB:renB (keepOf [k,d]) (rd k)=renB (keepOf [k,d]) (getM M k):=by
  rw [hMk]
 have hsrc:∀ j b,(E.into k d).has j b->(j=d/\E.has k b)∨(j≠k/\j≠d/\E.has j b):=by
  rintro j b ⟨h1,h2⟩
  by_cases hj:j=d
  · subst hj;exact .inl ⟨rfl,hl,by simpa [Env.into] using h2⟩
  · by_cases hj2:j=k
    · subst hj2;rw [hek] at h1;cases h1
    · exact .inr ⟨hj2,hj,by simpa [Env.into,hj,hj2,Env.has] using And.intro h1 h2⟩
 refine ⟨a.eval x,w,H,E.into k d,?_,⟨hed.1.trans hl,by rw [hed.2.2.1,hed.2.2.2];exact hη,by rw [hed.2.1,hed.2.2.1];exact hm⟩,⟨hC.imm,hC.tf,fun j=>?_,fun i j b h1 h2=>?_,fun i b h1=>?_,fun i b h1 h2=>?_⟩,⟨rfl,rfl,rfl,Nat.le_refl _,fun _ _ _=>rfl,fun i b h1=>?_,HH.le_refl _,fun _ _ _ h=>.inl h,fun i hi hn=>?_⟩⟩
 · rcases hop with hop | hop<;>simp [execOp,hop]
 · show BlkOk H (E.into k d) w j (getM (putM (putM (killM [k,d] M) k .dead) d _) j)
   by_cases hj:d=j
   · subst hj
     rw [getM_put_same,hB]
     exact (hC.blk k).move (HH.le_refl _) hvia hed.1 hed.2.1 hed.2.2.1 hed.2.2.2 (fun b=>by simp [Env.into]) fun _ _=>rfl
   · rw [getM_put_ne _ _ _ _ hj]
     by_cases hj2:k=j
     · subst hj2
       rw [getM_put_same]
       exact hek
     · rw [getM_put_ne _ _ _ _ hj2,getM_kill]
       obtain ⟨g1,g2,g3,g4⟩:=hej j (fun e=>hj2 e.symm) (fun e=>hj e.symm)
       exact (hC.blk j).move (HH.le_refl _) hvia g1 g2 g3 g4 (fun b=>by simp [Env.into,hj,hj2,Ne.symm hj,Ne.symm hj2]) fun _ _=>rfl
 · rcases hsrc i b h1 with ⟨rfl,a1⟩ | ⟨a0,a1,a2⟩<;>rcases hsrc j b h2 with ⟨rfl,b1⟩ | ⟨b0,b1,b2⟩
   · rfl
   · exact absurd (hC.injH k j b a1 b2).symm b0
   · exact absurd (hC.injH k i b b1 a2).symm a0
   · exact hC.injH i j b a2 b2
 · rcases hsrc i b h1 with ⟨rfl,a1⟩ | ⟨_,_,a2⟩
   · exact hC.sepH k b a1
   · exact hC.sepH i b a2
 · rcases hsrc i b ⟨h1,.inr h2⟩ with ⟨rfl,a1⟩ | ⟨_,_,a2⟩
   · exact hC.ltH a1
   · exact hC.ltH a2
 · rcases hsrc i b h1 with ⟨rfl,a1⟩ | ⟨_,_,a2⟩
   · exact .inl ⟨k,a1⟩
   · exact .inl ⟨i,a2⟩
 · simp at hn
   obtain ⟨g1,g2,g3,g4⟩:=hej i hn.1 hn.2
   exact ⟨g1.trans hi,g2,g3,g4⟩
def shrE (o:Oper) (t:Nat->AV):Option CE :=
 match o.op with
 | .binOp .shr _ x y _=>(match ev t x,ev t y with
   | .y (.int .u64 a),.s (.int .u64 (.ofNat n))=>(match Nat.blt n 64 with
     | true=>some ⟨.y (.int .u64 (a / 2 ^ n)),[],[],[],[]⟩
     | false=>none)
   | .s (.int .u64 a),.s (.int .u64 (.ofNat n))=>(match Nat.blt n 64 with
     | true=>some ⟨.s (.int .u64 (a / 2 ^ n)),[],[],[],[]⟩
     | false=>none)
   | _,_=>none)
 | _=>none
theorem shrE_ok {P:Program} {o:Oper} {t:Nat->AV} {rd:Nat->Blk} {e:CE} (h:shrE o t=some e):CE.Good P o t rd e:=by
 intro M _
 refine runs_step fun H E w a hC hT=>?_
 unfold shrE at h
 split at h
 case h_2=>cases h
 rename_i ty x y f hop
 have hx:=rel_ev hT x
 have hy:=rel_ev hT y
 have hr:∀ (b:Int) (n:Nat),n<64->(binOp .shr ty (.int .u64 b) (.int .u64 (n:Int))).run P w=.ok (.int .u64 (b / 2 ^ n)) w:=by
  intro b n hn
  have h1:¬ ((n:Int)<0):=by omega
  have h2:min n 64=n:=by omega
  simp [binOp,Op.shift,h1,IntKind.bits,h2]
 split at h
 · rename_i b n h1 h2
   rw [h1] at hx;rw [h2] at hy
   obtain ⟨hx,_⟩:=hx
   obtain ⟨hy,_⟩:=hy
   split at h
   case h_2=>cases h
   rename_i hn
   cases h
   refine ⟨_,w,H,E,by simp [execOp,hop,hx,hy,eqGuard,hr b n (by simpa using hn)],⟨rfl,rfl⟩,hC,Evol.refl _ _ _ _⟩
 · rename_i b n h1 h2
   rw [h1] at hx;rw [h2] at hy
   obtain ⟨hx,_⟩:=hx
   obtain ⟨hy,_⟩:=hy
   split at h
   case h_2=>cases h
   rename_i hn
   cases h
   refine ⟨_,w,H,E,by simp [execOp,hop,hx,hy,eqGuard,hr b n (by simpa using hn)],⟨rfl,rfl⟩,hC,Evol.refl _ _ _ _⟩
 · cases h
def nilStE (P:Program) (rd:Nat->Blk) (nid:Nat) (ty:TypeId) (a x:AV):Option CE :=
 match x with
 | .s (.slice none 0 0)=>(match P.underlying ty with
   | some (.slice el)=>(match P.info? el with
     | some i=>(match aStore P (some .ok) (fun j=>match Nat.beq j nid with | true=>.row el i.size 0 none (fun _ _=>.junk) | false=>rd j) ty a (.own nid i.size 0 0) with
       | some e=>some ⟨.junk,nid::refOf a,(nid,.row el i.size 0 none (fun _ _=>.junk))::e.wr,[],e.ob.map (· = true)⟩
       | none=>none)
     | none=>none)
   | _=>none)
 | _=>none
theorem nilStE_ok {P:Program} {o:Oper} {t:Nat->AV} {rd:Nat->Blk} {nid:Nat} {ty:TypeId} {x y:Operand} {e:CE} (hd:∀ k,nid<=k->rd k=.dead) (hop:o.op=.store ty x y) (h:nilStE P rd nid ty (ev t x) (ev t y)=some e) (ho:Hold e.ob):CE.Good P o t rd e:=by
 intro M hM H E w a K Q hC hT hdf hk
 have hx:=rel_ev hT x
 have hy:=rel_ev hT y
 unfold nilStE at h
 split at h
 case h_2=>cases h
 rename_i hyn
 rw [hyn] at hy
 obtain ⟨hy,_⟩:=hy
 split at h
 case h_2=>cases h
 rename_i el hu
 split at h
 case h_2=>cases h
 rename_i i hi
 split at h
 case h_2=>cases h
 rename_i ef hst
 cases h
 have hdn:getM M nid=.dead:=(hM nid (by simp)).trans (hd nid (Nat.le_refl _))
 obtain ⟨e1,e2,e3,e4⟩:=E.set_same nid none 0 0
 have hvia:=set_via (bo:=none) (κ:=0) (η:=0) hC hdn
 obtain ⟨hc,hev⟩:=hC.new (w':=w) (i:=nid) (κ:=0) (η:=0) (bo:=none) (B:=.row el i.size 0 none (fun _ _=>.junk)) hdn rfl rfl rfl (Nat.le_refl _) (fun _ _=>rfl) (fun b hb=>by cases hb)
  ⟨e1,by rw [e3,e4];exact ⟨rfl,Nat.le_refl _⟩,by rw [e3];exact Nat.zero_le _,(fun q hq=>by cases hq),by rw [e2];exact e3⟩
 have hx1:Rel (ev t x) H (E.set nid none 0 0) (a.eval x):=by
  have:=Rel.ren _ hvia hx
  rwa [ren_some] at this
 have hy1:Rel (.own nid i.size 0 0) H (E.set nid none 0 0) (a.eval y):=by
  rw [hy]
  exact ⟨e1,by rw [e3,e4];exact ⟨Nat.le_refl _,Nat.le_refl _⟩,by rw [e2];exact ⟨rfl,rfl,rfl⟩⟩
 have hst1:aStore P (some .ok) (getM (putM M nid (.row el i.size 0 none (fun _ _=>.junk)))) ty (ev t x) (.own nid i.size 0 0)=some ef:=by
  rw [<- hst]
  refine aStore_congr fun j hj=>?_
  cases hb:Nat.beq j nid
  · have hne:nid≠j:=fun e=>by rw [e,Nat.beq_refl] at hb;cases hb
    rw [getM_put_ne _ _ _ _ hne]
    exact hM j (by simp [hj])
  · have:=Nat.eq_of_beq_eq_true hb
    subst this
    rw [getM_put_same]
 obtain ⟨w',hrun,hr,hkl,hc2,hev2⟩:=store_good hc hx1 hy1 hst1 fun b hb=>ho (b=true) (by simp;exact hb)
 unfold Oper.wp
 have hrun2:(execOp a.eval o).run P w=.ok .skip w':=by simp [execOp,hop,hrun]
 rw [hrun2]
 exact hk undef w' H _ trivial hc2 (hev.trans hev2 fun _ h=>h)
theorem into_ok {H:HH} {E:Env} {w:World} {M:List Blk} {k d sz lo n:Nat} {v:Value} {B:Blk} (hC:Conc H E w M) (hx:Rel (.own k sz lo n) H E v) (hkd:k≠d) (hMk:getM M k=B) :
 Conc H (E.into k d) w (putM (putM (killM [k,d] M) k .dead) d (renB (keepOf [k,d]) B))/\Evol [k,d] H E w H (E.into k d) w/\Rel (.own d sz lo n) H (E.into k d) v/\E.via (E.into k d) (keepOf [k,d]):=by
 subst hMk
 obtain ⟨hl,hη,hm⟩:=hx
 have hvia:E.via (E.into k d) (keepOf [k,d]):=by
  intro i j hij hli
  unfold keepOf at hij
  split at hij
  · cases hij
  · rename_i hn
    cases hij
    simp at hn
    simp [Env.into,hn.1,hn.2,hli]
 have hed:(E.into k d).lv d=E.lv k/\(E.into k d).ι d=E.ι k/\(E.into k d).κ d=E.κ k/\(E.into k d).η d=E.η k:=by simp [Env.into]
 have hek:(E.into k d).lv k=false:=by simp [Env.into,hkd]
 have hej:∀ j,j≠k->j≠d->(E.into k d).lv j=E.lv j/\(E.into k d).ι j=E.ι j/\(E.into k d).κ j=E.κ j/\(E.into k d).η j=E.η j:=fun j h1 h2=>by simp [Env.into,h1,h2]
 have hsrc:∀ j b,(E.into k d).has j b->(j=d/\E.has k b)∨(j≠k/\j≠d/\E.has j b):=by
  rintro j b ⟨h1,h2⟩
  by_cases hj:j=d
  · subst hj;exact .inl ⟨rfl,hl,by simpa [Env.into] using h2⟩
  · by_cases hj2:j=k
    · subst hj2;rw [hek] at h1;cases h1
    · exact .inr ⟨hj2,hj,by simpa [Env.into,hj,hj2,Env.has] using And.intro h1 h2⟩
 refine ⟨⟨hC.imm,hC.tf,fun j=>?_,fun i j b h1 h2=>?_,fun i b h1=>?_,fun i b h1 h2=>?_⟩,⟨rfl,rfl,rfl,Nat.le_refl _,fun _ _ _=>rfl,fun i b h1=>?_,HH.le_refl _,fun _ _ _ h=>.inl h,fun i hi hn=>?_⟩,⟨hed.1.trans hl,by rw [hed.2.2.1,hed.2.2.2];exact hη,by rw [hed.2.1,hed.2.2.1];exact hm⟩,hvia⟩
 · by_cases hj:d=j
   · subst hj
     rw [getM_put_same]
     exact (hC.blk k).move (HH.le_refl _) hvia hed.1 hed.2.1 hed.2.2.1 hed.2.2.2 (fun b=>by simp [Env.into]) fun _ _=>rfl
   · rw [getM_put_ne _ _ _ _ hj]
     by_cases hj2:k=j
     · subst hj2
       rw [getM_put_same]
       exact hek
     · rw [getM_put_ne _ _ _ _ hj2,getM_kill]
       obtain ⟨g1,g2,g3,g4⟩:=hej j (fun e=>hj2 e.symm) (fun e=>hj e.symm)
       exact (hC.blk j).move (HH.le_refl _) hvia g1 g2 g3 g4 (fun b=>by simp [Env.into,hj,hj2,Ne.symm hj,Ne.symm hj2]) fun _ _=>rfl
 · rcases hsrc i b h1 with ⟨rfl,a1⟩ | ⟨a0,a1,a2⟩<;>rcases hsrc j b h2 with ⟨rfl,b1⟩ | ⟨b0,b1,b2⟩
   · rfl
   · exact absurd (hC.injH k j b a1 b2).symm b0
   · exact absurd (hC.injH k i b b1 a2).symm a0
   · exact hC.injH i j b a2 b2
 · rcases hsrc i b h1 with ⟨rfl,a1⟩ | ⟨_,_,a2⟩
   · exact hC.sepH k b a1
   · exact hC.sepH i b a2
 · rcases hsrc i b ⟨h1,.inr h2⟩ with ⟨rfl,a1⟩ | ⟨_,_,a2⟩
   · exact hC.ltH a1
   · exact hC.ltH a2
 · rcases hsrc i b h1 with ⟨rfl,a1⟩ | ⟨_,_,a2⟩
   · exact .inl ⟨k,a1⟩
   · exact .inl ⟨i,a2⟩
 · simp at hn
   obtain ⟨g1,g2,g3,g4⟩:=hej i hn.1 hn.2
   exact ⟨g1.trans hi,g2,g3,g4⟩
def stInRd (rd:Nat->Blk) (k d:Nat) (j:Nat):Blk:=match Nat.beq j k with
 | true=>.dead
 | false=>(match Nat.beq j d with | true=>renB (keepOf [k,d]) (rd k) | false=>renB (keepOf [k,d]) (rd j))
def stInE (P:Program) (rd:Nat->Blk) (d:Nat) (ty:TypeId) (a x:AV):Option CE :=
 match x with
 | .own k sz lo n=>(match Nat.beq k d with
   | true=>none
   | false=>(match aStore P (some .ok) (stInRd rd k d) ty (ren (keepOf [k,d]) a) (.own d sz lo n) with
     | some e=>some ⟨.junk,k::refOf (ren (keepOf [k,d]) a),(k,.dead)::(d,renB (keepOf [k,d]) (rd k))::e.wr,[k,d],e.ob.map (· = true)⟩
     | none=>none))
 | _=>none
theorem stInE_ok {P:Program} {o:Oper} {t:Nat->AV} {rd:Nat->Blk} {d:Nat} {ty:TypeId} {x y:Operand} {e:CE} (hop:o.op=.store ty x y) (h:stInE P rd d ty (ev t x) (ev t y)=some e) (ho:Hold e.ob):CE.Good P o t rd e:=by
 intro M hM H E w a K Q hC hT hdf hk
 have hx:=rel_ev hT x
 have hy:=rel_ev hT y
 unfold stInE at h
 split at h
 case h_2=>cases h
 rename_i k sz lo n hyo
 rw [hyo] at hy
 split at h
 · cases h
 rename_i hkd
 have hkd:k≠d:=fun e=>by rw [e,Nat.beq_refl] at hkd;cases hkd
 split at h
 case h_2=>cases h
 rename_i ef hst
 cases h
 have hMk:getM M k=rd k:=hM k (by simp)
 obtain ⟨hc,hev,hy1,hvia⟩:=into_ok hC hy hkd hMk
 have hx1:=Rel.ren _ hvia hx
 have hst1:aStore P (some .ok) (getM (putM (putM (killM [k,d] M) k .dead) d (renB (keepOf [k,d]) (rd k)))) ty (ren (keepOf [k,d]) (ev t x)) (.own d sz lo n)=some ef:=by
  rw [<- hst]
  refine aStore_congr fun j hj=>?_
  unfold stInRd
  cases hb:Nat.beq j k
  · have hne:k≠j:=fun e=>by rw [e,Nat.beq_refl] at hb;cases hb
    cases hb2:Nat.beq j d
    · have hne2:d≠j:=fun e=>by rw [e,Nat.beq_refl] at hb2;cases hb2
      rw [getM_put_ne _ _ _ _ hne2,getM_put_ne _ _ _ _ hne,getM_kill,hM j (by simp [hj])]
    · have:=Nat.eq_of_beq_eq_true hb2
      subst this
      rw [getM_put_same]
  · have:=Nat.eq_of_beq_eq_true hb
    subst this
    rw [getM_put_ne _ _ _ _ (fun e=>hkd e.symm),getM_put_same]
 obtain ⟨w',hrun,hr,hkl,hc2,hev2⟩:=store_good hc hx1 hy1 hst1 fun b hb=>ho (b=true) (by simp;exact hb)
 unfold Oper.wp
 have hrun2:(execOp a.eval o).run P w=.ok .skip w':=by simp [execOp,hop,hrun]
 rw [hrun2]
 exact hk undef w' H _ trivial hc2 (hev.trans (hev2.weak fun _ h=>(by cases h)) fun _ h=>h)
structure FrOk (H:HH) (E:Env) (w:World) (i sz m:Nat) (c:Nat->Nat->AV):Prop where
 lv:E.lv i=true
 me:m=E.η i
 val:∀ b,E.ι i=some b->∃ vs ty,w.heap[b]? = some (.cells vs ty (0,0))/\∀ k,k<m->∀ j,j<sz->∃ x,vs[k*sz+j]? = some x/\x.oneCell'=true/\Rel (c k j) (fun _=>H true) E0 x
theorem fr_row {H:HH} {E:Env} {w:World} {i sz m:Nat} {ty:TypeId} {cap:Option Nat} {c:Nat->Nat->AV} (h:BlkOk H E w i (.row ty sz m cap c)) (ht:∀ k,k<m->∀ j,j<sz->tagT (c k j)=true):FrOk H E w i sz m c:=by
 obtain ⟨h1,h2,h3,h4,h5⟩:=h
 refine ⟨h1,h2.1,fun b hb=>?_⟩
 rw [hb] at h5
 obtain ⟨vs,g1,g2,g3,g4⟩:=h5
 refine ⟨vs,ty,g1,fun k hk j hj=>?_⟩
 obtain ⟨x,hx,hr⟩:=g4 k hk j hj
 refine ⟨x,hx,g2 x ?_,Rel.tag _ (ht k hk j hj) hr⟩
 have hlt:k*sz+j<m*sz:=by
  have:(k+1)*sz<=m*sz:=Nat.mul_le_mul_right _ hk
  rw [Nat.add_mul] at this;omega
 refine List.mem_iff_getElem?.2 ⟨k*sz+j,?_⟩
 rw [List.getElem?_take,if_pos hlt]
 simpa using hx
theorem fr_lst {H:HH} {E:Env} {w:World} {i sz m:Nat} {ty:TypeId} {cap:Option Nat} {cs:List AV} (h:BlkOk H E w i (.lst ty sz m cap cs)) (hn:noRefL cs=true) (ht:tagTL cs=true):FrOk H E w i sz m (fun k j=>get cs (k*sz+j)):=by
 obtain ⟨h1,h2,h3,h4,h5⟩:=h
 refine ⟨h1,h2.1,fun b hb=>?_⟩
 rw [hb] at h5
 obtain ⟨vs,g1,g2,g3,g4⟩:=h5
 refine ⟨vs,ty,g1,fun k hk j hj=>?_⟩
 have hlt:k*sz+j<m*sz:=by
  have:(k+1)*sz<=m*sz:=Nat.mul_le_mul_right _ hk
  rw [Nat.add_mul] at this;omega
 have hsz:m*sz<=E.κ i*sz:=Nat.mul_le_mul_right _ h2.2
 have hlv:k*sz+j<vs.size:=by omega
 have hx:vs[k*sz+j]? = some vs[k*sz+j]:=Array.getElem?_eq_getElem hlv
 have hx2:(vs.toList.take (m*sz))[k*sz+j]? = some vs[k*sz+j]:=by
  rw [List.getElem?_take,if_pos hlt];simp
 refine ⟨_,hx,g2 _ (List.mem_iff_getElem?.2 ⟨_,hx2⟩),?_⟩
 have hr:=relL_get g4 _ _ hx2
 have htg:∀ (l:List AV) (q:Nat),tagTL l=true->tagT (get l q)=true:=by
  intro l
  induction l with
  | nil=>intro q _;cases q<;>rfl
  | cons a r ih =>
    intro q hq
    simp only [tagTL,Bool.and_eq_true] at hq
    cases q with
    | zero=>exact hq.1
    | succ q=>exact ih q hq.2
 exact Rel.noRef _ (noRef_get hn _) (Rel.tag _ (htg cs _ ht) hr)
def HH.frz (H:HH) (w:World) (fr:Nat->Bool):HH:=fun x b=>match fr b with | true=>w.heap[b]? | false=>H x b
def Env.drop (E:Env) (L:List Nat):Env:=⟨fun j=>!mem L j&&E.lv j,E.ι,E.κ,E.η,E.σ⟩
theorem Env.drop_has {E:Env} {L:List Nat} {j b:Nat} (h:(E.drop L).has j b):j ∉ L/\E.has j b:=by
 obtain ⟨h1,h2⟩:=h
 simp only [Env.drop,Bool.and_eq_true,Bool.not_eq_true'] at h1
 exact ⟨fun hm=>(by rw [mem_iff.2 hm] at h1;cases h1.1),h1.2,h2⟩
def isFr (E:Env):List Nat->Nat->Bool
 | [],_=>false
 | i::r,b=>decide (E.ι i=some b)||isFr E r b
theorem isFr_iff {E:Env}:∀ {L:List Nat} {b:Nat},isFr E L b=true↔∃ i∈L,E.ι i=some b
 | [],b=>by simp [isFr]
 | a::r,b=>by simp [isFr,isFr_iff (L:=r)]
def deadW:List Nat->List (Nat×Blk)
 | []=>[]
 | i::r=>(i,.dead)::deadW r
theorem lastW_dead:∀ (L:List Nat) (j:Nat),lastW (deadW L) j=if mem L j then some .dead else none
 | [],_=>rfl
 | i::r,j=>by
   simp only [deadW,lastW,lastW_dead r j,mem]
   by_cases hm:mem r j=true
   · simp [hm]
   · have hm':mem r j=false:=by simpa using hm
     by_cases hi:i=j
     · simp [hm',hi]
     · have:Nat.beq i j=false:=by
        cases hb:Nat.beq i j
        · rfl
        · exact absurd (Nat.eq_of_beq_eq_true hb) hi
       simp [hm',hi,this]
theorem freeze_ok {H:HH} {E:Env} {w:World} {M:List Blk} {L:List Nat} (hC:Conc H E w M) (hL:∀ i∈L,E.lv i=true) :
 H.le (H.frz w (isFr E L))/\Conc (H.frz w (isFr E L)) (E.drop L) w (applyW (deadW L) (killM L M))/\Evol L H E w (H.frz w (isFr E L)) (E.drop L) w:=by
 have hnone:∀ x b,isFr E L b=true->H x b=none:=by
  intro x b hb
  obtain ⟨i,hi,hib⟩:=isFr_iff.1 hb
  have h0:=hC.sep i b (hL i hi) hib
  cases x
  · exact h0
  · cases hx:H true b with
    | none=>rfl
    | some o=>have:=hC.tf.1 b o hx;rw [h0] at this;cases this
 have hle:H.le (H.frz w (isFr E L)):=by
  intro x b o ho
  show (match isFr E L b with | true=>w.heap[b]? | false=>H x b)=some o
  cases hb:isFr E L b
  · exact ho
  · rw [hnone x b hb] at ho;cases ho
 have hcase:∀ x b o,H.frz w (isFr E L) x b=some o->(isFr E L b=true/\w.heap[b]? = some o)∨H x b=some o:=by
  intro x b o ho
  have ho:(match isFr E L b with | true=>w.heap[b]? | false=>H x b)=some o:=ho
  cases hb:isFr E L b
  · rw [hb] at ho;exact .inr ho
  · rw [hb] at ho;exact .inl ⟨rfl,ho⟩
 have hlv:∀ j,(E.drop L).lv j=true->j ∉ L/\E.lv j=true:=by
  intro j hj
  simp only [Env.drop,Bool.and_eq_true,Bool.not_eq_true'] at hj
  refine ⟨fun hm=>?_,hj.2⟩
  rw [mem_iff.2 hm] at hj
  cases hj.1
 have hvia:E.via (E.drop L) (keepOf L):=by
  intro i j hij hl
  have hj:=keepOf_some hij
  subst hj
  unfold keepOf at hij
  split at hij
  · cases hij
  · rename_i hn
    have hm:mem L j=false:=by
     cases hm:mem L j
     · rfl
     · exact absurd (List.contains_iff_mem.2 (mem_iff.1 hm)) hn
    exact ⟨by simp [Env.drop,hm,hl],rfl,rfl,rfl⟩
 refine ⟨hle,⟨fun b o ho=>?_,hC.tf.up hle (fun b o ho=>?_),fun j=>?_,fun i j b hi hj=>hC.injH i j b (Env.drop_has hi).2 (Env.drop_has hj).2,fun i b hi=>?_,fun i b hi hib=>hC.ltH (Env.drop_has ⟨hi,.inr hib⟩).2⟩,⟨rfl,rfl,rfl,Nat.le_refl _,fun _ _ _=>rfl,fun i b hi=>.inl ⟨i,(Env.drop_has hi).2⟩,hle,fun x b o ho=>?_,fun i hi hn=>?_⟩⟩
 · rcases hcase false b o ho with ⟨_,h⟩ | h
   · exact h
   · exact hC.imm b o h
 · show (match isFr E L b with | true=>w.heap[b]? | false=>H false b)=some o
   have ho:(match isFr E L b with | true=>w.heap[b]? | false=>H true b)=some o:=ho
   cases hb:isFr E L b
   · rw [hb] at ho;exact hC.tf.1 b o ho
   · rw [hb] at ho;exact ho
 · rw [getM_applyW,lastW_dead,getM_kill]
   cases hm:mem L j
   · simp only [Bool.false_eq_true,if_false,Option.getD_none]
     exact (hC.blk j).move hle hvia (by simp [Env.drop,hm]) rfl rfl rfl (fun _=>Iff.rfl) fun _ _=>rfl
   · simp only [if_true,Option.getD_some]
     show (E.drop L).lv j=false
     simp [Env.drop,hm]
 · obtain ⟨h1,h2⟩:=Env.drop_has hi
   show (match isFr E L b with | true=>w.heap[b]? | false=>H false b)=none
   cases hb:isFr E L b
   · exact hC.sepH i b h2
   · obtain ⟨j,hj,hjb⟩:=isFr_iff.1 hb
     have:=hC.injH i j b h2 ⟨hL j hj,.inl hjb⟩
     subst this
     exact absurd hj h1
 · rcases hcase x b o ho with ⟨h,_⟩ | h
   · obtain ⟨i,hi,hib⟩:=isFr_iff.1 h
     exact .inr (.inr ⟨i,hL i hi,.inl hib⟩)
   · exact .inl h
 · have hm:mem L i=false:=by
    cases hm:mem L i
    · rfl
    · exact absurd (mem_iff.1 hm) hn
   exact ⟨by simp [Env.drop,hm,hi],rfl,rfl,rfl⟩
theorem frz_rel {H:HH} {E:Env} {w:World} {L:List Nat} {i sz lo n m:Nat} {c:Nat->Nat->AV} {v:Value} (hi:i∈L) (hF:FrOk H E w i sz m c) (hle:H.le (H.frz w (isFr E L))) (h:Rel (.own i sz lo n) H E v):Rel (.ys true sz n (rowAt lo c)) (H.frz w (isFr E L)) (E.drop L) v:=by
 obtain ⟨hl,hη,hm⟩:=h
 cases hib:E.ι i with
 | none =>
   rw [hib] at hm
   obtain ⟨_,rfl,rfl⟩:=hm
   exact ⟨none,0,rfl,⟨Nat.le_refl _,fun _=>rfl⟩,fun h=>absurd h (Nat.lt_irrefl _)⟩
 | some b =>
   rw [hib] at hm
   obtain ⟨a,rfl,ha,hne⟩:=hm
   refine ⟨a,_,rfl,⟨by omega,fun h=>absurd h hne⟩,fun h0=>⟨_,ha (.inr h0),fun k hk j hj=>?_⟩⟩
   obtain ⟨vs,ty,h1,h2⟩:=hF.val b hib
   have hme:=hF.me
   obtain ⟨x,hx,ho,hr⟩:=h2 (lo+k) (by omega) j hj
   refine ⟨x,?_,ho,?_⟩
   · rw [addr_add]
     have hb:isFr E L b=true:=isFr_iff.2 ⟨i,hi,hib⟩
     have e:H.frz w (isFr E L) true b=some (.cells vs ty (0,0)):=by
      show (match isFr E L b with | true=>w.heap[b]? | false=>H true b)=_
      rw [hb];exact h1
     unfold IH.cell?
     simp only [e]
     rw [Nat.add_mul] at hx
     have e2:lo*sz+(k*sz+j)=lo*sz+k*sz+j:=by omega
     rw [e2]
     simpa using hx
   · rw [rowAt_eq]
     have:HH.le (fun _=>H true) (HH.at (H.frz w (isFr E L)) true):=fun _=>hle true
     exact Rel.mono _ this hr
theorem frz_ptr {H:HH} {E:Env} {w:World} {L:List Nat} {i sz:Nat} {ty:TypeId} {cs:List AV} {v:Value} (hi:i∈L) (hB:BlkOk H E w i (.box ty cs)) (hn:noRefL cs=true) (ht:tagTL cs=true) (hle:H.le (H.frz w (isFr E L))) (h:Rel (.ptr i 0 sz 0) H E v):Rel (.ip true (len cs) (get cs)) (H.frz w (isFr E L)) (E.drop L) v:=by
 obtain ⟨hl,b,hb,rfl⟩:=h
 obtain ⟨_,b',vs,hb',g1,g2,g3⟩:=hB
 rw [hb] at hb';cases hb'
 have hlen:=RelL.length g3
 have htg:∀ (l:List AV) (q:Nat),tagTL l=true->tagT (get l q)=true:=by
  intro l
  induction l with
  | nil=>intro q _;cases q<;>rfl
  | cons a r ih =>
    intro q hq
    simp only [tagTL,Bool.and_eq_true] at hq
    cases q with
    | zero=>exact hq.1
    | succ q=>exact ih q hq.2
 refine ⟨⟨b,0*sz+0,none⟩,rfl,fun j hj=>?_⟩
 rw [len_eq] at hj
 have hlt:j<vs.toList.length:=by omega
 have hx:vs.toList[j]? = some vs.toList[j]:=List.getElem?_eq_getElem hlt
 refine ⟨vs.toList[j],?_,g2 _ (List.getElem_mem hlt),?_⟩
 · rw [addr_add]
   have hfr:isFr E L b=true:=isFr_iff.2 ⟨i,hi,hb⟩
   have e:H.frz w (isFr E L) true b=some (.cells vs ty (0,0)):=by
    show (match isFr E L b with | true=>w.heap[b]? | false=>H true b)=_
    rw [hfr];exact g1
   unfold IH.cell?
   simp only [e]
   rw [Array.getElem?_toList] at hx
   simp
 · have hr:Rel (get cs j) (fun _=>H true) E0 vs.toList[j]:=Rel.noRef _ (noRef_get hn j) (Rel.tag _ (htg cs j ht) (relL_get g3 _ _ hx))
   have:HH.le (fun _=>H true) (HH.at (H.frz w (isFr E L)) true):=fun _=>hle true
   exact Rel.mono _ this hr
def frzC (rd:Nat->Blk):List AV->Option (List AV×List Nat×List Prop)
 | []=>some ([],[],[])
 | a::r=>(match frzC rd r with
   | none=>none
   | some (l,L,ob)=>(match a with
     | .own i sz lo n=>(match rd i with
       | .row _ s2 m _ c=>(match Nat.beq s2 sz&&!mem L i with
         | true=>some (.ys true sz n (rowAt lo c)::l,i::L,(∀ k,k<m->∀ j,j<sz->tagT (c k j)=true)::ob)
         | false=>none)
       | .lst _ s2 _ _ cs=>(match Nat.beq s2 sz&&!mem L i&&noRefL cs&&tagTL cs with
         | true=>some (.ys true sz n (rowAt lo fun k j=>get cs (k*sz+j))::l,i::L,ob)
         | false=>none)
       | _=>none)
     | a=>(match noRef a with | true=>some (a::l,L,ob) | false=>none)))
theorem frzC_lv {rd:Nat->Blk} {H:HH} {E:Env} {w:World} {M:List Blk}:∀ {cells:List AV} {l:List AV} {L:List Nat} {ob:List Prop} {vs:List Value},frzC rd cells=some (l,L,ob)->RelL cells H E vs->∀ i∈L,E.lv i=true
 | [],l,L,ob,vs,h,_,i,hi=>by simp only [frzC] at h;cases h;cases hi
 | a::r,l,L,ob,vs,h,hr,i,hi=>by
   obtain ⟨v,s,_,h1,h2⟩:=hr
   simp only [frzC] at h
   split at h
   · cases h
   rename_i l' L' ob' hr'
   have ih:=frzC_lv (M:=M) (w:=w) hr' h2
   split at h
   · split at h
     · split at h
       · cases h
         rcases List.mem_cons.1 hi with rfl | hi
         · exact h1.1
         · exact ih i hi
       · cases h
     · split at h
       · cases h
         rcases List.mem_cons.1 hi with rfl | hi
         · exact h1.1
         · exact ih i hi
       · cases h
     · cases h
   · split at h
     · cases h;exact ih i hi
     · cases h
theorem frzC_rel {rd:Nat->Blk} {H:HH} {E:Env} {w:World} {M:List Blk} {LL:List Nat} (hC:Conc H E w M) (hle:H.le (H.frz w (isFr E LL))):∀ {cells:List AV} {l:List AV} {L:List Nat} {ob:List Prop} {vs:List Value},frzC rd cells=some (l,L,ob)->(∀ i∈L,i∈LL/\getM M i=rd i)->Hold ob->RelL cells H E vs->RelL l (H.frz w (isFr E LL)) (E.drop LL) vs
 | [],l,L,ob,vs,h,_,_,hr=>by simp only [frzC] at h;cases h;exact hr
 | a::r,l,L,ob,vs,h,hM,ho,hr=>by
   obtain ⟨v,s,rfl,h1,h2⟩:=hr
   simp only [frzC] at h
   split at h
   · cases h
   rename_i l' L' ob' hr'
   split at h
   · rename_i i sz lo n
     split at h
     · rename_i ty s2 m cap c hrd
       split at h
       · rename_i hb
         cases h
         simp only [Bool.and_eq_true,Nat.beq_eq] at hb
         obtain ⟨rfl,_⟩:=hb
         have hB:=hC.blk i
         obtain ⟨hi,hMi⟩:=hM i (by simp)
         rw [hMi,hrd] at hB
         have hF:=fr_row hB (ho _ (by simp))
         exact ⟨v,s,rfl,frz_rel hi hF hle h1,frzC_rel hC hle hr' (fun j hj=>hM j (by simp [hj])) (fun p hp=>ho p (by simp [hp])) h2⟩
       · cases h
     · rename_i ty s2 m cap cs hrd
       split at h
       · rename_i hb
         cases h
         simp only [Bool.and_eq_true,Nat.beq_eq] at hb
         obtain ⟨⟨⟨rfl,_⟩,hn⟩,ht⟩:=hb
         have hB:=hC.blk i
         obtain ⟨hi,hMi⟩:=hM i (by simp)
         rw [hMi,hrd] at hB
         have hF:=fr_lst hB hn ht
         exact ⟨v,s,rfl,frz_rel hi hF hle h1,frzC_rel hC hle hr' (fun j hj=>hM j (by simp [hj])) ho h2⟩
       · cases h
     · cases h
   · split at h
     · rename_i hn
       cases h
       exact ⟨v,s,rfl,Rel.mono _ hle (Rel.noRef _ hn h1),frzC_rel hC hle hr' hM ho h2⟩
     · cases h
def frzE (rd:Nat->Blk):AV->Option CE
 | .agg cs=>(match frzC rd cs with | some (l,L,ob)=>some ⟨.agg l,L,deadW L,L,ob⟩ | none=>none)
 | .own i sz lo n=>(match frzC rd [.own i sz lo n] with | some (l,L,ob)=>some ⟨get l 0,L,deadW L,L,ob⟩ | none=>none)
 | .ifc ty (.ptr i 0 sz 0)=>(match rd i with
   | .box _ cs=>(match noRefL cs&&tagTL cs with
     | true=>some ⟨.ifc ty (.ip true (len cs) (get cs)),[i],deadW [i],[i],[]⟩
     | false=>none)
   | _=>none)
 | _=>none
theorem frzI_rel {rd:Nat->Blk} {ty bty:TypeId} {i sz:Nat} {cs:List AV} {M:List Blk} {H:HH} {E:Env} {w:World} {v:Value} (hrd:rd i=.box bty cs) (hb:(noRefL cs&&tagTL cs)=true) (hM:getM M i=rd i) (hC:Conc H E w M) (hr:Rel (.ifc ty (.ptr i 0 sz 0)) H E v) :
 ∃ H' E',Rel (.ifc ty (.ip true (len cs) (get cs))) H' E' v/\Conc H' E' w (applyW (deadW [i]) (killM [i] M))/\Evol [i] H E w H' E' w:=by
 simp only [Bool.and_eq_true] at hb
 obtain ⟨x,hv,hr⟩:=hr
 have hB:=hC.blk i
 rw [hM,hrd] at hB
 obtain ⟨hle,hC2,hE2⟩:=freeze_ok (L:=[i]) hC (fun j hj=>by simp at hj;subst hj;exact hr.1)
 exact ⟨_,_,⟨x,hv,frz_ptr (by simp) hB hb.1 hb.2 hle hr⟩,hC2,hE2⟩
theorem frzE_ok {P:Program} {o:Oper} {t:Nat->AV} {rd:Nat->Blk} {x:Operand} {e:CE} (hop:o.op=.move x∨o.op=.assign x) (h:frzE rd (ev t x)=some e) (ho:Hold e.ob):CE.Good P o t rd e:=by
 intro M hM
 refine runs_step fun H E w a hC hT=>?_
 have hx:=rel_ev hT x
 unfold frzE at h
 split at h
 · rename_i cs hcs
   rw [hcs] at hx
   obtain ⟨vs,hv,hr⟩:=hx
   split at h
   case h_2=>cases h
   rename_i l L ob hf
   cases h
   have hL:=frzC_lv (M:=M) (w:=w) hf hr
   obtain ⟨hle,hC2,hE2⟩:=freeze_ok hC hL
   refine ⟨a.eval x,w,_,_,?_,⟨vs,hv,frzC_rel hC hle hf (fun i hi=>⟨hi,hM i hi⟩) ho hr⟩,hC2,hE2⟩
   rcases hop with hop | hop<;>simp [execOp,hop]
 · rename_i i sz lo n hcs
   rw [hcs] at hx
   split at h
   case h_2=>cases h
   rename_i l L ob hf
   cases h
   have hr:RelL [.own i sz lo n] H E [a.eval x]:=⟨_,_,rfl,hx,rfl⟩
   have hL:=frzC_lv (M:=M) (w:=w) hf hr
   obtain ⟨hle,hC2,hE2⟩:=freeze_ok hC hL
   refine ⟨a.eval x,w,_,_,?_,?_,hC2,hE2⟩
   · rcases hop with hop | hop<;>simp [execOp,hop]
   · have:=frzC_rel hC hle hf (fun i hi=>⟨hi,hM i hi⟩) ho hr
     have h0:=relL_get this 0 (a.eval x) (by simp)
     exact h0
 · rename_i ty i sz hcs
   rw [hcs] at hx
   split at h
   case h_2=>cases h
   rename_i bty cs hrd
   split at h
   case h_2=>cases h
   rename_i hb
   cases h
   obtain ⟨H2,E2,q1,q2,q3⟩:=frzI_rel hrd hb (hM i (by simp)) hC hx
   refine ⟨a.eval x,w,H2,E2,?_,q1,q2,q3⟩
   rcases hop with hop | hop<;>simp [execOp,hop]
 · cases h
def mvE (rd:Nat->Blk) (h:Nat) (x:AV):Option CE:=match h with
 | 0=>none
 | 1=>(match x with | .agg _=>frzE rd x | _=>shrinkE rd x)
 | d+2=>(match Nat.beq d 777 with | true=>frzE rd x | false=>intoE rd d x)
theorem mvE_ok {P:Program} {o:Oper} {t:Nat->AV} {rd:Nat->Blk} {h:Nat} {x:Operand} {e:CE} (hop:o.op=.move x∨o.op=.assign x) (he:mvE rd h (ev t x)=some e) (ho:Hold e.ob):CE.Good P o t rd e:=by
 unfold mvE at he
 split at he
 · cases he
 · split at he
   · exact frzE_ok hop he ho
   · exact shrinkE_ok hop he
 · split at he
   · exact frzE_ok hop he ho
   · exact intoE_ok hop he
def frzAny (P:Program) (rd:Nat->Blk) (nid:Nat) (o:Oper) (t:Nat->AV):Option CE :=
 match yop P rd nid o t with
 | some e=>(match e.wr,e.kl,frzE rd e.r with
   | [],[],some f=>some ⟨f.r,e.rd++f.rd,f.wr,f.kl,e.ob++f.ob⟩
   | _,_,_=>none)
 | none=>none
theorem frzV {rd:Nat->Blk} {r:AV} {f:CE} (h:frzE rd r=some f) (ho:Hold f.ob) {M:List Blk} (hM:∀ i∈f.rd,getM M i=rd i) {H:HH} {E:Env} {w:World} {v:Value} (hC:Conc H E w M) (hr:Rel r H E v) :
 ∃ H' E',Rel f.r H' E' v/\Conc H' E' w (applyW f.wr (killM f.kl M))/\Evol f.kl H E w H' E' w:=by
 unfold frzE at h
 split at h
 · rename_i cs
   obtain ⟨vs,hv,hr⟩:=hr
   split at h
   case h_2=>cases h
   rename_i l L ob hf
   cases h
   have hL:=frzC_lv (M:=M) (w:=w) hf hr
   obtain ⟨hle,hC2,hE2⟩:=freeze_ok hC hL
   exact ⟨_,_,⟨vs,hv,frzC_rel hC hle hf (fun i hi=>⟨hi,hM i hi⟩) ho hr⟩,hC2,hE2⟩
 · rename_i i sz lo n
   split at h
   case h_2=>cases h
   rename_i l L ob hf
   cases h
   have hr:RelL [.own i sz lo n] H E [v]:=⟨_,_,rfl,hr,rfl⟩
   have hL:=frzC_lv (M:=M) (w:=w) hf hr
   obtain ⟨hle,hC2,hE2⟩:=freeze_ok hC hL
   exact ⟨_,_,relL_get (frzC_rel hC hle hf (fun i hi=>⟨hi,hM i hi⟩) ho hr) 0 v (by simp),hC2,hE2⟩
 · rename_i ty i sz
   split at h
   case h_2=>cases h
   rename_i bty cs hrd
   split at h
   case h_2=>cases h
   rename_i hb
   cases h
   exact frzI_rel hrd hb (hM i (by simp)) hC hr
 · cases h
theorem frzAny_ok {P:Program} {rd:Nat->Blk} {nid:Nat} {o:Oper} {t:Nat->AV} {e:CE} (hd:∀ k,nid<=k->rd k=.dead) (h:frzAny P rd nid o t=some e) (ho:Hold e.ob):CE.Good P o t rd e:=by
 unfold frzAny at h
 split at h
 case h_2=>cases h
 rename_i g hg
 split at h
 case h_2=>cases h
 rename_i f hw hk hf
 cases h
 obtain ⟨o1,o2⟩:=ho.append
 intro M hM H E w a K Q hC hT hdf hkk
 have hs:=yop_ok hg o1 hd (M:=M) (fun i hi=>hM i (by simp [hi]))
 refine hs H E w a K Q hC hT hdf fun v w' H' E' hr hc hev=>?_
 rw [hw,hk] at hc
 rw [hk] at hev
 have hc:Conc H' E' w' M:=hc
 obtain ⟨H2,E2,q1,q2,q3⟩:=frzV hf o2 (M:=M) (fun i hi=>hM i (by simp [hi])) hc hr
 exact hkk v w' H2 E2 q1 q2 (hev.trans q3 fun _ h=>by cases h)
theorem freeze_ok2 {H:HH} {E:Env} {w w':World} {M:List Blk} {L:List Nat} (hC:Conc H E w M) (hL:∀ i∈L,E.lv i=true) (hos:w'.os=w.os) (htp:w'.tape=w.tape) (hout:w'.output=w.output) (hsz:w'.heap.size=w.heap.size)
 (hk:∀ b,isFr E L b=false->w'.heap[b]? = w.heap[b]?) :
 H.le (H.frz w' (isFr E L))/\Conc (H.frz w' (isFr E L)) (E.drop L) w' (applyW (deadW L) (killM L M))/\Evol L H E w (H.frz w' (isFr E L)) (E.drop L) w':=by
 have hnone:∀ x b,isFr E L b=true->H x b=none:=by
  intro x b hb
  obtain ⟨i,hi,hib⟩:=isFr_iff.1 hb
  have h0:=hC.sep i b (hL i hi) hib
  cases x
  · exact h0
  · cases hx:H true b with
    | none=>rfl
    | some o=>have:=hC.tf.1 b o hx;rw [h0] at this;cases this
 have hle:H.le (H.frz w' (isFr E L)):=by
  intro x b o ho
  show (match isFr E L b with | true=>w'.heap[b]? | false=>H x b)=some o
  cases hb:isFr E L b
  · exact ho
  · rw [hnone x b hb] at ho;cases ho
 have hcase:∀ x b o,H.frz w' (isFr E L) x b=some o->(isFr E L b=true/\w'.heap[b]? = some o)∨(isFr E L b=false/\H x b=some o):=by
  intro x b o ho
  have ho:(match isFr E L b with | true=>w'.heap[b]? | false=>H x b)=some o:=ho
  cases hb:isFr E L b
  · rw [hb] at ho;exact .inr ⟨rfl,ho⟩
  · rw [hb] at ho;exact .inl ⟨rfl,ho⟩
 have hlv:∀ j,(E.drop L).lv j=true->j ∉ L/\E.lv j=true:=by
  intro j hj
  simp only [Env.drop,Bool.and_eq_true,Bool.not_eq_true'] at hj
  refine ⟨fun hm=>?_,hj.2⟩
  rw [mem_iff.2 hm] at hj
  cases hj.1
 have hnf:∀ j b,j ∉ L->E.has j b->isFr E L b=false:=by
  intro j b hj hb
  cases hf:isFr E L b
  · rfl
  · obtain ⟨i,hi,hib⟩:=isFr_iff.1 hf
    have:=hC.injH i j b ⟨hL i hi,.inl hib⟩ hb
    subst this
    exact absurd hi hj
 have hvia:E.via (E.drop L) (keepOf L):=by
  intro i j hij hl
  have hj:=keepOf_some hij
  subst hj
  unfold keepOf at hij
  split at hij
  · cases hij
  · rename_i hn
    have hm:mem L j=false:=by
     cases hm:mem L j
     · rfl
     · exact absurd (List.contains_iff_mem.2 (mem_iff.1 hm)) hn
    exact ⟨by simp [Env.drop,hm,hl],rfl,rfl,rfl⟩
 refine ⟨hle,⟨fun b o ho=>?_,hC.tf.up hle (fun b o ho=>?_),fun j=>?_,fun i j b hi hj=>hC.injH i j b (Env.drop_has hi).2 (Env.drop_has hj).2,fun i b hi=>?_,fun i b hi hib=>by rw [hsz];exact hC.ltH (Env.drop_has ⟨hi,.inr hib⟩).2⟩,⟨hos,htp,hout,by omega,fun b _ hn=>?_,fun i b hi=>.inl ⟨i,(Env.drop_has hi).2⟩,hle,fun x b o ho=>?_,fun i hi hn=>?_⟩⟩
 · rcases hcase false b o ho with ⟨_,h⟩ | ⟨hf,h⟩
   · exact h
   · rw [hk b hf];exact hC.imm b o h
 · show (match isFr E L b with | true=>w'.heap[b]? | false=>H false b)=some o
   have ho:(match isFr E L b with | true=>w'.heap[b]? | false=>H true b)=some o:=ho
   cases hb:isFr E L b
   · rw [hb] at ho;exact hC.tf.1 b o ho
   · rw [hb] at ho;exact ho
 · rw [getM_applyW,lastW_dead,getM_kill]
   cases hm:mem L j
   · simp only [Bool.false_eq_true,if_false,Option.getD_none]
     exact (hC.blk j).move hle hvia (by simp [Env.drop,hm]) rfl rfl rfl (fun _=>Iff.rfl) fun b hb=>hk b (hnf j b (fun hj=>by rw [mem_iff.2 hj] at hm;cases hm) hb)
   · simp only [if_true,Option.getD_some]
     show (E.drop L).lv j=false
     simp [Env.drop,hm]
 · obtain ⟨h1,h2⟩:=Env.drop_has hi
   show (match isFr E L b with | true=>w'.heap[b]? | false=>H false b)=none
   rw [hnf i b h1 h2]
   exact hC.sepH i b h2
 · refine hk b ?_
   cases hf:isFr E L b
   · rfl
   · obtain ⟨i,hi,hib⟩:=isFr_iff.1 hf
     exact absurd ⟨hL i hi,.inl hib⟩ (hn i)
 · rcases hcase x b o ho with ⟨h,_⟩ | ⟨_,h⟩
   · obtain ⟨i,hi,hib⟩:=isFr_iff.1 h
     exact .inr (.inr ⟨i,hL i hi,.inl hib⟩)
   · exact .inl h
 · have hm:mem L i=false:=by
    cases hm:mem L i
    · rfl
    · exact absurd (mem_iff.1 hm) hn
   exact ⟨by simp [Env.drop,hm,hi],rfl,rfl,rfl⟩
def isU8S (P:Program) (t:TypeId):Bool:=match P.underlying t with
 | some (.slice e)=>(match P.underlying e with | some (.int .u8)=>true | _=>false)
 | _=>false
def convE (P:Program) (rd:Nat->Blk) (o:Oper) (t:Nat->AV):Option CE:=match o.op with
 | .convert src dst x=>(match Nat.beq src dst&&isU8S P src,ev t x with
   | true,.own i sz lo n=>(match Nat.blt 0 n,rd i with
     | true,.lst _ s2 _ _ cs=>(match Nat.beq s2 sz&&noRefL cs&&tagTL cs with
       | true=>some ⟨.ys true sz n (rowAt lo fun k j=>get cs (k*sz+j)),[i],deadW [i],[i],[]⟩
       | false=>none)
     | _,_=>none)
   | _,_=>none)
 | _=>none
theorem convE_ok {P:Program} {o:Oper} {t:Nat->AV} {rd:Nat->Blk} {e:CE} (h:convE P rd o t=some e):CE.Good P o t rd e:=by
 unfold convE at h
 split at h
 case h_2=>cases h
 rename_i src dst x hop
 split at h
 case h_2=>cases h
 rename_i i sz lo n hb1 hx0
 split at h
 case h_2=>cases h
 rename_i ty s2 m cap cs hn hrd
 split at h
 case h_2=>cases h
 rename_i hb2
 cases h
 simp only [Bool.and_eq_true,Nat.beq_eq] at hb1 hb2
 obtain ⟨rfl,hu⟩:=hb1
 obtain ⟨⟨rfl,hr0⟩,ht0⟩:=hb2
 have hn0:0<n:=by simpa using hn
 intro M hM
 refine runs_step fun H E w a hC hT=>?_
 have hx:=rel_ev hT x
 rw [hx0] at hx
 have hB:=hC.blk i
 rw [hM i (by simp),hrd] at hB
 have hF:=fr_lst hB hr0 ht0
 obtain ⟨hl,hη,hm⟩:=hx
 cases hib:E.ι i with
 | none =>
   rw [hib] at hm
   obtain ⟨_,h0,_⟩:=hm
   omega
 | some b =>
   rw [hib] at hm
   obtain ⟨ad,he,had,hne⟩:=hm
   have had:=had (.inr hn0)
   subst had
   obtain ⟨vs,ty',g1,g2⟩:=hF.val b hib
   have hfr:isFr E [i] b=true:=isFr_iff.2 ⟨i,by simp,hib⟩
   have hheap:∀ c,(w.freeze ⟨b,vs.size,none⟩ 1).heap[c]? = if b=c then some (.cells vs ty' (vs.size,vs.size+1)) else w.heap[c]?:=fun c=>by
    simp only [World.freeze,Nat.succ_ne_self,if_false,Nat.one_ne_zero,Array.getElem?_modify]
    split
    · rename_i h;subst h;rw [g1];rfl
    · rfl
   obtain ⟨hle,hC2,hE2⟩:=freeze_ok2 (w':=w.freeze ⟨b,vs.size,none⟩ 1) (L:=[i]) hC (fun j hj=>by simp at hj;subst hj;exact hl) rfl rfl rfl (by simp [World.freeze]) (fun c hc=>by
    rw [hheap,if_neg]
    rintro rfl
    rw [hfr] at hc;cases hc)
   have hs:∃ el,P.underlying src=some (.slice el)/\P.underlying el=some (.int .u8):=by
    unfold isU8S at hu
    split at hu
    · rename_i el h1
      split at hu
      · rename_i h2;exact ⟨el,h1,h2⟩
      · cases hu
    · cases hu
   obtain ⟨el,hs1,hs2⟩:=hs
   refine ⟨a.eval x,w.freeze ⟨b,vs.size,none⟩ 1,_,_,?_,?_,hC2,hE2⟩
   · rw [show a.eval x=_ from he]
     simp [execOp,hop,he,convert,run_underlying hs1,run_underlying hs2,markStringish,Result.andThen]
     have hsh:w.shape? b=some (ty',vs.size):=by simp [World.shape?,g1]
     rw [hsh]
     rfl
   · rw [show a.eval x=_ from he]
     refine ⟨_,_,rfl,⟨by omega,fun h=>absurd h (by simp)⟩,fun h0=>⟨_,rfl,fun k hk j hj=>?_⟩⟩
     obtain ⟨y,hy,ho,hr⟩:=g2 (lo+k) (by have:=hF.me;omega) j hj
     refine ⟨y,?_,ho,?_⟩
     · rw [addr_add]
       have e:H.frz (w.freeze ⟨b,vs.size,none⟩ 1) (isFr E [i]) true b=some (.cells vs ty' (vs.size,vs.size+1)):=by
        show (match isFr E [i] b with | true=>(w.freeze ⟨b,vs.size,none⟩ 1).heap[b]? | false=>H true b)=_
        rw [hfr]
        show (w.freeze ⟨b,vs.size,none⟩ 1).heap[b]? = _
        rw [hheap,if_pos rfl]
       unfold IH.cell?
       simp only [e]
       rw [Nat.add_mul] at hy
       have e2:lo*s2+(k*s2+j)=lo*s2+k*s2+j:=by omega
       rw [e2]
       simpa using hy
     · rw [rowAt_eq]
       have:HH.le (fun _=>H true) (HH.at (H.frz (w.freeze ⟨b,vs.size,none⟩ 1) (isFr E [i])) true):=fun _=>hle true
       exact Rel.mono _ this hr
def moreF (P:Program) (rd:Nat->Blk) (nid:Nat) (o:Oper) (t:Nat->AV):Option CE:=match (match zerosL P nid o t with | some e=>some e | none=>zerosE P nid o t) with
 | some e=>some e
 | none=>(match moreE P rd nid o t with
   | some e=>some e
   | none=>(match moreM P rd nid o t with
     | some e=>some e
     | none=>(match convE P rd o t with
       | some e=>some e
       | none=>(match cut3E P o t with
         | some e=>some e
         | none=>(match lookN P rd o t with
           | some e=>some e
           | none=>(match strB P o t with
             | some e=>some e
             | none=>(match negE o t with
               | some e=>some e
               | none=>(match appSE P rd o t with
                 | some e=>some e
                 | none=>ownNilE P rd o t))))))))
theorem moreF_ok {P:Program} {rd:Nat->Blk} {nid:Nat} {o:Oper} {t:Nat->AV} {e:CE} (hd:∀ k,nid<=k->rd k=.dead) (h:moreF P rd nid o t=some e) (ho:Hold e.ob):CE.Good P o t rd e:=by
 unfold moreF at h
 split at h
 · rename_i g hg
   cases h
   split at hg
   · rename_i g' hg'
     cases hg
     exact zerosL_ok hd hg'
   · exact zerosE_ok hd hg ho
 · split at h
   · rename_i g hg
     cases h
     exact moreE_ok hd hg ho
   · split at h
     · rename_i g hg
       cases h
       exact moreM_ok hd hg
     · split at h
       · rename_i g hg
         cases h
         exact convE_ok hg
       · split at h
         · rename_i g hg
           cases h
           exact cut3E_ok hg ho
         · split at h
           · rename_i g hg
             cases h
             exact lookN_ok hg ho
           · split at h
             · rename_i g hg
               cases h
               exact strB_ok hg
             · split at h
               · rename_i g hg
                 cases h
                 exact negE_ok hg
               · split at h
                 · rename_i g hg
                   cases h
                   exact appSE_ok hg ho
                 · exact ownNilE_ok h
def withinE (P:Program) (rd:Nat->Blk) (o:Oper) (t:Nat->AV):Option CE:=match cutUpE P rd o t with
 | some e=>some e
 | none=>(match inAppE P rd o t with
   | some e=>some e
   | none=>(match cutUpL P rd o t with
     | some e=>some e
     | none=>appNoE P o t))
theorem withinE_ok {P:Program} {rd:Nat->Blk} {o:Oper} {t:Nat->AV} {e:CE} (h:withinE P rd o t=some e) (ho:Hold e.ob):CE.Good P o t rd e:=by
 unfold withinE at h
 split at h
 · rename_i g hg
   cases h
   exact cutUpE_ok hg ho
 · split at h
   · rename_i g hg
     cases h
     exact inAppE_ok hg ho
   · split at h
     · rename_i g hg
       cases h
       exact cutUpL_ok hg ho
     · exact appNoE_ok h
def spX (P:Program) (sh:Nat->Nat):SP:=fun nid p o t rd =>
 match trR P rd nid (sh p) o t with
 | some T=>some T
 | none =>
 match Nat.beq (sh p) 779 with
 | true=>(match frzAny P rd nid o t with | some e=>some e.toT | none=>none)
 | false =>
 match Nat.ble 1000 (sh p) with
 | true=>(match aggZ P rd nid o t (sh p - 1000) with | some e=>some e.toT | none=>none)
 | false =>
 match Nat.beq (sh p) 781 with
 | true=>(match withinE P rd o t with | some e=>some e.toT | none=>none)
 | false =>
 match Nat.beq (sh p) 782 with
 | true=>(match appPartE P rd o t with | some e=>some e.toT | none=>none)
 | false =>
 match o.op with
 | .store ty x y=>(match sh p with
   | 0=>none
   | 1=>(match nilStE P rd nid ty (ev t x) (ev t y) with | some e=>some e.toT | none=>none)
   | d+2=>(match stInE P rd d ty (ev t x) (ev t y) with | some e=>some e.toT | none=>none))
 | .move x=>(match mvE rd (sh p) (ev t x) with | some e=>some e.toT | none=>none)
 | .assign x=>(match mvE rd (sh p) (ev t x) with | some e=>some e.toT | none=>none)
 | .binOp ..=>(match nilQ P o t with | some e=>some e.toT | none=>(match shrE o t with | some e=>some e.toT | none=>(match moreF P rd nid o t with | some e=>some e.toT | none=>none)))
 | .call { callee:=.builtin .clear,args,argTypes }=>(match args.toList,argTypes.toList with
   | [x],[ty]=>(match clearE P rd ty (ev t x) with | some e=>some e.toT | none=>(match clearL P rd ty (ev t x) with | some e=>some e.toT | none=>none))
   | _,_=>none)
 | _=>(match tmT P rd nid (sh p) o t with | some T=>some T | none=>(match moreF P rd nid o t with | some e=>some e.toT | none=>none))
theorem spX_ok (P:Program) (sh:Nat->Nat):SpOk P (spX P sh):=by
 intro nid p o t rd T h hd
 unfold spX at h
 split at h
 · rename_i T' hT'
   cases h
   exact trR_ok hd hT'
 split at h
 · split at h
   case h_2=>cases h
   rename_i e he
   cases h
   exact CE.toT_ok fun ho=>by
    have:=frzAny_ok hd he (o:=o) (t:=t)
    exact this ho
 split at h
 · split at h
   case h_2=>cases h
   rename_i e he
   cases h
   exact CE.toT_ok fun ho=>aggZ_ok hd he ho
 split at h
 · split at h
   case h_2=>cases h
   rename_i e he
   cases h
   exact CE.toT_ok fun ho=>withinE_ok he ho
 split at h
 · split at h
   case h_2=>cases h
   rename_i e he
   cases h
   exact CE.toT_ok fun ho=>appPartE_ok he ho
 split at h
 · rename_i ty x y hop
   split at h
   · cases h
   · split at h
     case h_2=>cases h
     rename_i e he
     cases h
     exact CE.toT_ok fun ho=>by
      have:=nilStE_ok hd hop he (t:=t)
      exact this ho
   · split at h
     case h_2=>cases h
     rename_i e he
     cases h
     exact CE.toT_ok fun ho=>by
      have:=stInE_ok hop he (t:=t)
      exact this ho
 · rename_i x hop
   split at h
   case h_2=>cases h
   rename_i e he
   cases h
   exact CE.toT_ok fun ho=>mvE_ok (.inl hop) he ho
 · rename_i x hop
   split at h
   case h_2=>cases h
   rename_i e he
   cases h
   exact CE.toT_ok fun ho=>mvE_ok (.inr hop) he ho
 · split at h
   · rename_i e he
     cases h
     exact CE.toT_ok fun _=>nilQ_ok he
   · split at h
     · rename_i e he
       cases h
       exact CE.toT_ok fun _=>shrE_ok he
     · split at h
       case h_2=>cases h
       rename_i e he
       cases h
       exact CE.toT_ok fun ho=>moreF_ok hd he ho
 · rename_i args ats hop
   split at h
   case h_2=>cases h
   rename_i x ty hx hty
   have h1:args=#[x]:=Array.ext' hx
   have h2:ats=#[ty]:=Array.ext' hty
   subst h1;subst h2
   split at h
   · rename_i e he
     cases h
     exact CE.toT_ok fun _=>clearE_ok hop he
   · split at h
     case h_2=>cases h
     rename_i e he
     cases h
     exact CE.toT_ok fun _=>clearL_ok hop he
 · split at h
   · rename_i T' hT'
     cases h
     exact tmT_ok hd hT'
   · split at h
     case h_2=>cases h
     rename_i e he
     cases h
     exact CE.toT_ok fun ho=>moreF_ok hd he ho
def hT (P:Program):HintsT P:={ noHT P with sp:=fun _ _=>spX P fun _=>0,spOk:=fun _ _=>spX_ok P _ }
end Go.Ax
