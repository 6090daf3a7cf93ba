import Derived.Laws.CopyRow
import Derived.Test.YtnbhdjadlbhknaaGreatDoorE1
import Derived.Test.YtnbhdjadlbhknaaGreatDoorE3
import Derived.Test.YtnbhdjadlbhknaaGreatDoorE8
import Derived.Test.YtnbhdjadlbhknaaGreatDoorE9
import Derived.Test.YtnbhdjadlbhknaaGreatDoorE10
set_option linter.unusedVariables false
set_option linter.unusedSimpArgs false
set_option linter.unusedSectionVars false
namespace Go.Ax
open Go
variable [Inhabited jZ]
theorem iP {P:Program} {o:Oper} {t:Nat->AV} {M:List ay} {e:CE}
 (h:∀ H E w a,Conc H E w M->ji t H E a->∃ v w' H' E',(execOp a.eval o).run P w=.ok (.value v) w'/\Rel e.r H' E' v/\Conc H' E' w' (dx e.wr (dN e.kl M))/\bF e.kl H E w H' E' w'):StepT P o t M e:=by
 intro H E w a K Q hC hT hd hk
 obtain ⟨v,w',H',E',hv,h1,h2,h3⟩:=h H E w a hC hT
 unfold Oper.wp
 rw [hv]
 exact hk v w' H' E' h1 h2 h3
def yX:AV->Bool
 | .s (.slice none 0 0)=>true
 | _=>false
def WQ:AV->Bool
 | .yn ..=>true
 | _=>false
def abV (b:Bool):CE:=⟨.s (.bool b),[],[],[],[]⟩
def acP (P:Program) (o:Oper) (t:Nat->AV):Option CE :=
 match o.op with
 | .binOp .eql ty x y _=>(match P.underlying ty,WQ (ev t x)&&yX (ev t y) with
   | some (.slice _),true=>some (abV false)
   | _,_=>none)
 | .binOp .neq ty x y _=>(match P.underlying ty,WQ (ev t x)&&yX (ev t y) with
   | some (.slice _),true=>some (abV true)
   | _,_=>none)
 | _=>none
theorem Xi {x:AV} (h:WQ x=true) {H:HH} {E:Env} {v:Value} (hr:Rel x H E v):∃ a m c,v=.slice (some a) m c:=by
 unfold WQ at h
 split at h
 · obtain ⟨a,cap,rfl,_⟩:=hr;exact ⟨a,_,cap,rfl⟩
 · cases h
theorem KQ {x:AV} (h:yX x=true) {H:HH} {E:Env} {v:Value} (hr:Rel x H E v):v=.slice none 0 0:=by
 unfold yX at h
 split at h
 · exact hr.1
 · cases h
theorem XT {P:Program} {ty el:TypeId} {w:World} {a:Addr} {m c d:Nat} (hu:P.underlying ty=some (.slice el)):(Op.equalIn (d+1) ty (.slice (some a) m c) (.slice none 0 0)).run P w=.ok false w:=by
 simp [Op.equalIn,run_underlying hu]
theorem CW {P:Program} {op:BinOp} {t:TypeId} {x y:Operand} {w:World} {a:Addr} {m c:Nat} (hop:op=.eql∨op=.neq):(eqGuard op t x y (.slice (some a) m c) (.slice none 0 0)).run P w=.ok () w:=by
 rcases hop with rfl | rfl<;>simp [eqGuard]
theorem W9 {P:Program} {o:Oper} {t:Nat->AV} {rd:Nat->ay} {e:CE} (h:acP P o t=some e):CE.Good P o t rd e:=by
 intro M _
 have key:∀ (q:Bool),(∀ (a:Act) (w:World) (ad:Addr) (m c:Nat) (x y:Operand) (ty f:TypeId),(o.op=.binOp .eql ty x y f/\q=false)∨(o.op=.binOp .neq ty x y f/\q=true)->∀ el,P.underlying ty=some (.slice el)->a.eval x=.slice (some ad) m c->a.eval y=.slice none 0 0->(execOp a.eval o).run P w=.ok (.value (.bool q)) w):=by
  intro q a w ad m c x y ty f hop el hu hx hy
  have hr:=run_eq_of (P:=P) (t:=ty) (u:=.slice (some ad) m c) (v:=.slice none 0 0) (w:=w) (q:=false) (by simp) (by simp) (by simp) (by simp) (XT (d:=9999) hu)
  rcases hop with ⟨hop,rfl⟩ | ⟨hop,rfl⟩
  · simp [execOp,hop,hx,hy,CW (P:=P) (op:=.eql) (.inl rfl),hr.1]
  · simp [execOp,hop,hx,hy,CW (P:=P) (op:=.neq) (.inr rfl),hr.2]
 unfold acP at h
 split at h
 case h_3=>cases h
 all_goals
  rename_i ty x y f hop
  split at h
  case h_2=>cases h
  rename_i el hu hb
  cases h
  simp only [Bool.and_eq_true] at hb
  refine iP fun H E w a hC hT=>?_
  obtain ⟨ad,m,c,hx⟩:=Xi hb.1 (aM hT x)
  have hy:=KQ hb.2 (aM hT y)
  refine ⟨.bool _,w,H,E,key _ a w ad m c x y ty f ?_ el hu hx hy,⟨rfl,rfl⟩,hC,bF.refl _ _ _ _⟩
 · exact .inl ⟨hop,rfl⟩
 · exact .inr ⟨hop,rfl⟩
theorem wR {P:Program} {f:FuncId} {pre post:List AV} {b:Bool} {sz n:Nat} {c:Nat->Nat->AV} {M:List ay} {t:T An} (h1:n=0->t.Sat (aB P f (pre++.s (.slice none 0 0)::post) M)) (h2:t.Sat (aB P f (pre++.yn b sz n c::post) M))
 (hd:∃ a,t=.ret a):t.Sat (aB P f (pre++.ys b sz n c::post) M):=by
 obtain ⟨a,rfl⟩:=hd
 refine T.Sat.ret ?_
 have key:∀ {l:List AV},(T.ret a:T An).Sat (aB P f l M)->aB P f l M a:=fun h=>by
  obtain ⟨a',ha,e⟩:=h (fun x=>x=a) rfl
  rw [<- e];exact ha
 intro H E w vals hC hargs
 have hsplit:∀ (p:List AV) {vs:List Value} {x:AV},aA (p++x::post) H E vs->∃ v1 v v2,vs=v1++v::v2/\aA p H E v1/\Rel x H E v/\aA post H E v2:=by
  intro p
  induction p with
  | nil=>intro vs x h;obtain ⟨v,r,rfl,h1,h2⟩:=h;exact ⟨[],v,r,rfl,rfl,h1,h2⟩
  | cons q p ih =>
    intro vs x h
    obtain ⟨v,r,rfl,h1,h2⟩:=h
    obtain ⟨v1,v',v2,rfl,g1,g2,g3⟩:=ih h2
    exact ⟨v::v1,v',v2,rfl,⟨v,v1,rfl,h1,g1⟩,g2,g3⟩
 have hjoin:∀ (p:List AV) {v1 v2:List Value} {x:AV} {v:Value},aA p H E v1->Rel x H E v->aA post H E v2->aA (p++x::post) H E (v1++v::v2):=by
  intro p
  induction p with
  | nil=>intro v1 v2 x v h1 h2 h3;have h1:v1=[]:=h1;subst h1;exact ⟨v,v2,rfl,h2,h3⟩
  | cons q p ih =>
    intro v1 v2 x v h1 h2 h3
    obtain ⟨u,r,rfl,g1,g2⟩:=h1
    exact ⟨u,r++v::v2,rfl,g1,ih g2 h2 h3⟩
 obtain ⟨v1,v,v2,hv,g1,g2,g3⟩:=hsplit pre hargs
 obtain ⟨ad,cap,rfl,hn,hk⟩:=g2
 cases ad with
 | some ad =>
   refine key h2 H E w vals hC ?_
   rw [hv]
   refine hjoin pre g1 ⟨ad,cap,rfl,hn.1,fun k hkn j hj=>?_⟩ g3
   obtain ⟨ad',had,hk⟩:=hk (by omega)
   cases had
   exact hk k hkn j hj
 | none =>
   have hn0:n=0:=by
    rcases Nat.eq_zero_or_pos n with h0 | h0
    · exact h0
    · obtain ⟨_,h,_⟩:=hk h0;cases h
   have hc0:=hn.2 rfl
   subst hn0;subst hc0
   refine key (h1 rfl) H E w vals hC ?_
   rw [hv]
   exact hjoin pre g1 ⟨rfl,rfl⟩ g3
def FT (rd:Nat->ay):AV->Option CE
 | .own a sz 0 j=>(match rd a with
   | .row ty s2 _ cap c=>(match s2==sz with
     | true=>some ⟨.own a sz 0 j,[a],[(a,.row ty sz j cap c)],[a],[]⟩
     | false=>none)
   | _=>none)
 | _=>none
theorem Kc {P:Program} {o:Oper} {t:Nat->AV} {rd:Nat->ay} {x:Operand} {e:CE} (hop:o.op=.move x∨o.op=.assign x) (h:FT rd (ev t x)=some e):CE.Good P o t rd e:=by
 intro M hM
 refine iP fun H E w a hC hT=>?_
 have hx:=aM hT x
 unfold FT at h
 split at h
 case h_2=>cases h
 rename_i i sz j he
 rw [he] at hx
 split at h
 case h_2=>cases h
 rename_i ty s2 n cap c hg
 split at h
 case h_2=>cases h
 rename_i hs
 have hs:s2=sz:=by simpa using hs
 subst hs
 cases h
 obtain ⟨hl,hη,hm⟩:=hx
 have hB:=hC.blk i
 rw [hM i (by simp),hg] at hB
 obtain ⟨_,hn,hκ,hcap,hb⟩:=hB
 obtain ⟨e1,e2,e3,e4⟩:=E.eO i (E.ι i) (E.κ i) j
 have hB':bV H (E.set i (E.ι i) (E.κ i) j) w i (eY (aO [i]) (.row ty s2 j cap c)):=by
  refine ⟨e1,by rw [e3,e4];omega,by rw [e3];exact hκ,by rw [e3];exact hcap,?_⟩
  rw [e2,e3]
  cases hι:E.ι i with
  | none=>rw [hι] at hb;exact hb
  | some b =>
    rw [hι] at hb
    obtain ⟨vs,g1,g2,g3,g4⟩:=hb
    refine ⟨vs,g1,fun x hx=>g2 x ?_,g3,fun k hk=>g4 k (by omega)⟩
    have:j*s2<=n*s2:=Nat.mul_le_mul_right _ (by omega)
    exact List.take_subset_take_left _ this hx
 obtain ⟨hc,hev⟩:=hC.move (bo':=E.ι i) (κ':=E.κ i) (η':=j) hl (w':=w) ⟨rfl,rfl,rfl,Nat.le_refl _,fun _ _ _=>rfl⟩ (fun g hg=>.inl hg) hB'
 refine ⟨a.eval x,w,H,_,?_,⟨e1,by rw [e3,e4];omega,by rw [e2,e3];exact hm⟩,hc.eqv fun k=>?_,hev⟩
 · rcases hop with hop | hop<;>simp [execOp,hop]
 · exact sD [i] [(i,.row ty s2 j cap c)] M k
theorem zN {H:HH} {E:Env}:∀ {l:List AV} {vs:List Value} (n:Nat),aA l H E vs->aA (l.take n) H E (vs.take n)
 | _,_,0,_=>by simp [aA]
 | [],_,n+1,h=>by
   have h:_=[]:=h
   subst h;simp [aA]
 | _::_,_,n+1,h=>by
   obtain ⟨v,r,rfl,h1,h2⟩:=h
   exact ⟨v,_,rfl,h1,zN n h2⟩
def E_ (rd:Nat->ay):AV->Option CE
 | .own a sz 0 j=>(match rd a with
   | .lst ty s2 n cap cs=>(match s2==sz&&Nat.ble j n with
     | true=>some ⟨.own a sz 0 j,[a],uU [a] [(a,.lst ty sz j cap (cs.take (j*sz)))],[a],[]⟩
     | false=>none)
   | _=>none)
 | _=>none
theorem KG {P:Program} {o:Oper} {t:Nat->AV} {rd:Nat->ay} {x:Operand} {e:CE} (hop:o.op=.move x∨o.op=.assign x) (h:E_ rd (ev t x)=some e):CE.Good P o t rd e:=by
 intro M hM
 refine iP fun H E w a hC hT=>?_
 have hx:=aM hT x
 unfold E_ at h
 split at h
 case h_2=>cases h
 rename_i i sz j he
 rw [he] at hx
 split at h
 case h_2=>cases h
 rename_i ty s2 n cap cs hg
 split at h
 case h_2=>cases h
 rename_i hs
 simp only [Bool.and_eq_true,beq_iff_eq,Nat.ble_eq] at hs
 obtain ⟨rfl,hjn⟩:=hs
 cases h
 obtain ⟨hl,hη,hm⟩:=hx
 have hB:=hC.blk i
 rw [hM i (by simp),hg] at hB
 obtain ⟨_,hn,hκ,hcap,hb⟩:=hB
 obtain ⟨e1,e2,e3,e4⟩:=E.eO i (E.ι i) (E.κ i) j
 have hvia:E.via (E.set i (E.ι i) (E.κ i) j) (aO [i]):=by
  intro p q hpq hlp
  have hqp:q=p/\p≠i:=by
   by_cases hpi:p=i
   · subst hpi;simp [aO,mem] at hpq
   · have:aO [i] p=some p:=by
      have:¬ i=p:=fun e=>hpi e.symm
      simp [aO,mem,hpi,this]
     rw [this] at hpq
     exact ⟨(Option.some.inj hpq).symm,hpi⟩
  obtain ⟨rfl,hpi⟩:=hqp
  obtain ⟨q1,q2,q3,q4⟩:=E.mK i q (E.ι i) (E.κ i) j hpi
  exact ⟨q1.trans hlp,q2,q3,q4⟩
 have hB':bV H (E.set i (E.ι i) (E.κ i) j) w i (eY (aO [i]) (.lst ty s2 j cap (cs.take (j*s2)))):=by
  refine ⟨e1,by rw [e3,e4];omega,by rw [e3];exact hκ,by rw [e3];exact hcap,?_⟩
  rw [e2,e3]
  cases hι:E.ι i with
  | none=>rw [hι] at hb;exact ⟨hb.1,by rw [hb.2];simp [gY]⟩
  | some b =>
    rw [hι] at hb
    obtain ⟨vs,g1,g2,g3,g4⟩:=hb
    have hle:j*s2<=n*s2:=Nat.mul_le_mul_right _ hjn
    refine ⟨vs,g1,fun x hx=>g2 x (List.take_subset_take_left _ hle hx),g3,?_⟩
    have:=aA.ren _ hvia (zN (j*s2) g4)
    rw [List.take_take,Nat.min_eq_left hle] at this
    first | exact this | (rw [<- hι];exact this) | (rw [hι] at this;exact this)
 obtain ⟨hc,hev⟩:=hC.move (bo':=E.ι i) (κ':=E.κ i) (η':=j) hl (w':=w) ⟨rfl,rfl,rfl,Nat.le_refl _,fun _ _ _=>rfl⟩ (fun g hg=>.inl hg) hB'
 refine ⟨a.eval x,w,H,_,?_,⟨e1,by rw [e3,e4];omega,by rw [e2,e3];exact hm⟩,hc.eqv fun k=>?_,hev⟩
 · rcases hop with hop | hop<;>simp [execOp,hop]
 · exact sD [i] [(i,.lst ty s2 j cap (cs.take (j*s2)))] M k
def EM (rd:Nat->ay) (x:AV):Option CE:=match FT rd x with
 | some e=>some e
 | none=>E_ rd x
theorem K7 {P:Program} {o:Oper} {t:Nat->AV} {rd:Nat->ay} {x:Operand} {e:CE} (hop:o.op=.move x∨o.op=.assign x) (h:EM rd (ev t x)=some e):CE.Good P o t rd e:=by
 unfold EM at h
 split at h
 · rename_i e' he
   cases h
   exact Kc hop he
 · exact KG hop h
def rP (lo n:Nat) (c:Nat->Nat->AV) (k j:Nat):AV:=if lo<=k/\k<lo+n then .junk else c k j
def La (P:Program) (rd:Nat->ay) (ty:TypeId) (x:AV):Option CE :=
 match P.underlying ty,x with
 | some (.slice el),.own i sz lo n=>(match rd i,oo P el with
   | .row ty' s2 m cap c,some z=>(match s2==sz&&len z==sz&&Nat.ble 1 sz with
     | true=>some ⟨.tup [],[i],[(i,.row ty' sz m cap (rP lo n c))],[],[]⟩
     | false=>none)
   | _,_=>none)
 | _,_=>none
theorem tF (z:Array Value) (n:Nat):(Builtin.zeroCells z n).toList.length=n*z.size:=by simp [Builtin.zeroCells]
theorem jM (z:Array Value) (n:Nat) (h:ones z.toList) (h0:0<z.size):∀ x∈(Builtin.zeroCells z n).toList,x.oneCell'=true:=by
 intro x hx
 simp only [Builtin.zeroCells,Array.toList_map,List.mem_map] at hx
 obtain ⟨i,_,rfl⟩:=hx
 have hlt:i % z.size<z.size:=Nat.mod_lt _ h0
 rw [getElem!_pos z _ hlt]
 exact h _ (by simp)
theorem Oq {P:Program} {o:Oper} {t:Nat->AV} {rd:Nat->ay} {ty:TypeId} {x:Operand} {e:CE} (hop:o.op=.call { callee:=.builtin .clear,args:=#[x],argTypes:=#[ty] }) (h:La P rd ty (ev t x)=some e):CE.Good P o t rd e:=by
 intro M hM
 refine iP fun H E w a hC hT=>?_
 have hx:=aM hT x
 unfold La at h
 split at h
 case h_2=>cases h
 rename_i el i sz lo n hu he
 rw [he] at hx
 split at h
 case h_2=>cases h
 rename_i ty' s2 m cap c z hg hz
 split at h
 case h_2=>cases h
 rename_i hs
 simp only [Bool.and_eq_true,beq_iff_eq,Nat.ble_eq] at hs
 obtain ⟨⟨rfl,hzl⟩,hs0⟩:=hs
 cases h
 obtain ⟨hl,hη,hm⟩:=hx
 have hB:=hC.blk i
 rw [hM i (by simp),hg] at hB
 obtain ⟨hlv,hn,hκ,hcap,hb⟩:=hB
 obtain ⟨zi,zv,hi,hz',hrz,h1⟩:=iK H E hz
 have hzs:zv.cells.size=s2:=by
  have:=aA.length hrz
  rw [len_eq] at hzl
  rw [<- hzl,<- this,Array.length_toList]
 have hstay:(∀ v,a.eval x=v->(Builtin.clear_ #[ty] o.type #[v]).run P w=.ok (.tuple #[]) w)->n=0∨E.ι i=none->∃ v w' H' E',(execOp a.eval o).run P w=.ok (.value v) w'/\Rel (.tup []) H' E' v/\Conc H' E' w' (dx [(i,.row ty' s2 m cap (rP lo n c))] (dN [] M))/\bF [] H E w H' E' w':=by
  intro hrun h0
  refine ⟨.tuple #[],w,H,E,by simp [execOp,hop,resolve,invoke,builtin,hrun _ rfl],⟨#[],rfl,rfl⟩,?_,bF.refl _ _ _ _⟩
  refine ⟨hC.imm,hC.tf,fun k=>?_,hC.injH,hC.sepH,hC.ltS⟩
  show bV H E w k (getM (iH M i _) k)
  by_cases hk:i=k
  · subst hk
    rw [aT]
    refine ⟨hlv,hn,hκ,hcap,?_⟩
    cases hι:E.ι i with
    | none=>rw [hι] at hb;exact hb
    | some b =>
      rw [hι] at hb
      obtain ⟨vs,g1,g2,g3,g4⟩:=hb
      refine ⟨vs,g1,g2,g3,fun k hk j hj=>?_⟩
      obtain ⟨y,hy,hr⟩:=g4 k hk j hj
      refine ⟨y,hy,?_⟩
      unfold rP
      split
      · trivial
      · exact hr
  · rw [aW _ _ _ _ hk]
    exact hC.blk k
 cases hι:E.ι i with
 | none =>
   rw [hι] at hm
   obtain ⟨_,rfl,hv⟩:=hm
   exact hstay (fun v hv'=>by rw [<- hv',hv];simp [Builtin.clear_,run_underlying hu]) (.inl rfl)
 | some b =>
   rw [hι] at hm hb
   obtain ⟨ad,hv,had⟩:=hm
   rcases Nat.eq_zero_or_pos n with h0 | h0
   · subst h0
     exact hstay (fun v hv'=>by rw [<- hv',hv];cases ad<;>simp [Builtin.clear_,run_underlying hu]) (.inl rfl)
   · obtain ⟨vs,g1,g2,g3,g4⟩:=hb
     have had:=had.1 (.inr h0)
     rw [had] at hv
     have hq:(lo+n)*s2<=m*s2:=Nat.mul_le_mul_right _ (by omega)
     have hq2:m*s2<=E.κ i*s2:=Nat.mul_le_mul_right _ hn.2
     rw [Nat.add_mul] at hq
     have hzc:(Builtin.zeroCells zv.cells n).toList.length=n*s2:=by rw [tF,hzs]
     have hst:=run_storeCells_at P b (lo*s2) ty' (Builtin.zeroCells zv.cells n).toList 0 vs w g1 (by rw [hzc];omega) (jM _ _ h1 (by omega))
     have hrun:(Builtin.clear_ #[ty] o.type #[a.eval x]).run P w=.ok (.tuple #[]) (w.setRow b (vs.toList.take (lo*s2+0)++(Builtin.zeroCells zv.cells n).toList++vs.toList.drop (lo*s2+0+(Builtin.zeroCells zv.cells n).toList.length)).toArray):=by
      rw [hv]
      obtain ⟨n',rfl⟩:∃ n',n=n'+1:=⟨n - 1,by omega⟩
      simp [Builtin.clear_,run_underlying hu,zeroValue,typeInfo,hi,hz',hst]
     generalize hzq:(Builtin.zeroCells zv.cells n).toList=zs at hst hrun hzc
     have hzo:∀ x∈zs,x.oneCell'=true:=by rw [<- hzq];exact jM _ _ h1 (by omega)
     simp only [Nat.add_zero] at hrun
     have hget:∀ q,(vs.toList.take (lo*s2)++zs++vs.toList.drop (lo*s2+zs.length))[q]? = if lo*s2<=q/\q<lo*s2+n*s2 then zs[q - lo*s2]? else vs[q]?:=by
      intro q
      have htl:(vs.toList.take (lo*s2)).length=lo*s2:=by rw [List.length_take,Array.length_toList];omega
      by_cases hq1:q<lo*s2
      · rw [List.append_assoc,List.getElem?_append_left (by omega),List.getElem?_take,if_pos hq1,if_neg (by omega)];simp
      · by_cases hq2:q<lo*s2+n*s2
        · rw [List.append_assoc,List.getElem?_append_right (by omega),List.getElem?_append_left (by omega),if_pos ⟨by omega,hq2⟩,htl]
        · rw [List.getElem?_append_right (by rw [List.length_append];omega),List.length_append,htl,List.getElem?_drop,if_neg (by omega),hzc]
          rw [show lo*s2+n*s2+(q - (lo*s2+n*s2))=q by omega];simp
     generalize hnew:vs.toList.take (lo*s2)++zs++vs.toList.drop (lo*s2+zs.length)=new at hrun hget
     have hnl:new.length=vs.size:=by
      rw [<- hnew];simp [hzc];omega
     have hB2:bV H E (w.setRow b new.toArray) i (.row ty' s2 m cap (rP lo n c)):=by
      refine ⟨hlv,hn,hκ,hcap,?_⟩
      rw [hι]
      refine ⟨new.toArray,setRow_heap w b vs _ ty' (0,0) g1,fun y hy=>?_,by simp [hnl,g3],fun k hk j hj=>?_⟩
      · obtain ⟨q,hq4⟩:=List.mem_iff_getElem?.1 hy
        rw [List.getElem?_take] at hq4
        split at hq4
        case isFalse=>cases hq4
        rename_i hqm
        simp only [List.toList_toArray] at hq4
        rw [hget] at hq4
        split at hq4
        · exact hzo _ (List.mem_of_getElem? hq4)
        · refine g2 y ?_
          rw [List.mem_iff_getElem?]
          exact ⟨q,by rw [List.getElem?_take,if_pos hqm];simpa using hq4⟩
      · have hkm:(k+1)*s2<=m*s2:=Nat.mul_le_mul_right _ hk
        rw [Nat.add_mul,Nat.one_mul] at hkm
        have hlt:k*s2+j<new.length:=by omega
        obtain ⟨y,hy,hr⟩:=g4 k hk j hj
        simp only [List.getElem?_toArray]
        rw [hget]
        unfold rP
        by_cases hkr:lo<=k/\k<lo+n
        · have a1:lo*s2<=k*s2:=Nat.mul_le_mul_right _ hkr.1
          have a2:(k+1)*s2<=(lo+n)*s2:=Nat.mul_le_mul_right _ hkr.2
          rw [Nat.add_mul,Nat.one_mul,Nat.add_mul] at a2
          rw [if_pos hkr,if_pos ⟨by omega,by omega⟩]
          exact ⟨_,List.getElem?_eq_getElem (by omega),trivial⟩
        · rw [if_neg hkr,if_neg ?_]
          · exact ⟨y,hy,hr⟩
          · intro ⟨b1,b2⟩
            refine hkr ⟨?_,?_⟩
            · rcases Nat.lt_or_ge k lo with h | h
              · have:(k+1)*s2<=lo*s2:=Nat.mul_le_mul_right _ h
                rw [Nat.add_mul,Nat.one_mul] at this;omega
              · exact h
            · rcases Nat.lt_or_ge k (lo+n) with h | h
              · exact h
              · have:(lo+n)*s2<=k*s2:=Nat.mul_le_mul_right _ h
                rw [Nat.add_mul] at this;omega
     obtain ⟨hc,hev⟩:=hC.upd (w':=w.setRow b new.toArray) (o:=.cells new.toArray ty' (0,0)) hl hι ⟨rfl,rfl,rfl,by simp [World.setRow],setRow_heap w b vs _ ty' (0,0) g1,fun k hk=>setRow_other w b k _ hk⟩ hB2
     refine ⟨.tuple #[],_,H,E,by simp [execOp,hop,resolve,invoke,builtin,hrun],⟨#[],rfl,rfl⟩,hc,hev⟩
def Wj:List AV->Nat->Nat->List AV
 | [],_,_=>[]
 | c::r,0,0=>c::r
 | _::r,0,n+1=>.junk::Wj r 0 n
 | c::r,p+1,n=>c::Wj r p n
theorem Iq:∀ (cs:List AV) (p:Nat),Wj cs p 0=cs
 | [],_=>rfl
 | c::r,0=>rfl
 | c::r,p+1=>by simp [Wj,Iq r p]
theorem Fg {H:HH} {E:Env}:∀ {cs:List AV} {xs zs:List Value} (p:Nat),aA cs H E xs->p+zs.length<=xs.length->aA (Wj cs p zs.length) H E (xs.take p++zs++xs.drop (p+zs.length))
 | [],xs,zs,p,h,hl=>by
   have h:xs=[]:=h
   subst h
   have:zs=[]:=by cases zs with | nil=>rfl | cons _ _=>simp at hl
   subst this
   simp [Wj,aA]
 | c::r,xs,[],0,h,hl=>by simpa [Wj] using h
 | c::r,xs,z::zs,0,h,hl=>by
   obtain ⟨v,q,rfl,h1,h2⟩:=h
   have:=Fg (zs:=zs) 0 h2 (by simp at hl ⊢;omega)
   refine ⟨z,_,rfl,trivial,?_⟩
   simpa using this
 | c::r,xs,zs,p+1,h,hl=>by
   obtain ⟨v,q,rfl,h1,h2⟩:=h
   have:=Fg (zs:=zs) p h2 (by simp at hl ⊢;omega)
   refine ⟨v,_,rfl,h1,?_⟩
   have e:p+1+zs.length=(p+zs.length)+1:=by omega
   simpa [e] using this
def K_ (P:Program) (rd:Nat->ay) (ty:TypeId) (x:AV):Option CE :=
 match P.underlying ty,x with
 | some (.slice el),.own i sz lo n=>(match rd i,oo P el with
   | .lst ty' s2 m cap cs,some z=>(match s2==sz&&len z==sz&&Nat.ble 1 sz with
     | true=>some ⟨.tup [],[i],[(i,.lst ty' sz m cap (Wj cs (lo*sz) (n*sz)))],[],[]⟩
     | false=>none)
   | _,_=>none)
 | _,_=>none
theorem PD {P:Program} {o:Oper} {t:Nat->AV} {rd:Nat->ay} {ty:TypeId} {x:Operand} {e:CE} (hop:o.op=.call { callee:=.builtin .clear,args:=#[x],argTypes:=#[ty] }) (h:K_ P rd ty (ev t x)=some e):CE.Good P o t rd e:=by
 intro M hM
 refine iP fun H E w a hC hT=>?_
 have hx:=aM hT x
 unfold K_ at h
 split at h
 case h_2=>cases h
 rename_i el i sz lo n hu he
 rw [he] at hx
 split at h
 case h_2=>cases h
 rename_i ty' s2 m cap cs z hg hz
 split at h
 case h_2=>cases h
 rename_i hs
 simp only [Bool.and_eq_true,beq_iff_eq,Nat.ble_eq] at hs
 obtain ⟨⟨rfl,hzl⟩,hs0⟩:=hs
 cases h
 obtain ⟨hl,hη,hm⟩:=hx
 have hB:=hC.blk i
 rw [hM i (by simp),hg] at hB
 obtain ⟨hlv,hn,hκ,hcap,hb⟩:=hB
 obtain ⟨zi,zv,hi,hz',hrz,h1⟩:=iK H E hz
 have hzs:zv.cells.size=s2:=by
  have:=aA.length hrz
  rw [len_eq] at hzl
  rw [<- hzl,<- this,Array.length_toList]
 have hstay:(∀ v,a.eval x=v->(Builtin.clear_ #[ty] o.type #[v]).run P w=.ok (.tuple #[]) w)->n=0->∃ v w' H' E',(execOp a.eval o).run P w=.ok (.value v) w'/\Rel (.tup []) H' E' v/\Conc H' E' w' (dx [(i,.lst ty' s2 m cap (Wj cs (lo*s2) (n*s2)))] (dN [] M))/\bF [] H E w H' E' w':=by
  intro hrun h0
  subst h0
  refine ⟨.tuple #[],w,H,E,by simp [execOp,hop,resolve,invoke,builtin,hrun _ rfl],⟨#[],rfl,rfl⟩,?_,bF.refl _ _ _ _⟩
  rw [Nat.zero_mul,Iq]
  refine ⟨hC.imm,hC.tf,fun k=>?_,hC.injH,hC.sepH,hC.ltS⟩
  show bV H E w k (getM (iH M i _) k)
  by_cases hk:i=k
  · subst hk
    rw [aT]
    exact ⟨hlv,hn,hκ,hcap,hb⟩
  · rw [aW _ _ _ _ hk]
    exact hC.blk k
 cases hι:E.ι i with
 | none =>
   rw [hι] at hm
   obtain ⟨_,rfl,hv⟩:=hm
   exact hstay (fun v hv'=>by rw [<- hv',hv];simp [Builtin.clear_,run_underlying hu]) rfl
 | some b =>
   rw [hι] at hm hb
   obtain ⟨ad,hv,had⟩:=hm
   rcases Nat.eq_zero_or_pos n with h0 | h0
   · subst h0
     exact hstay (fun v hv'=>by rw [<- hv',hv];cases ad<;>simp [Builtin.clear_,run_underlying hu]) rfl
   · obtain ⟨vs,g1,g2,g3,g4⟩:=hb
     have had:=had.1 (.inr h0)
     rw [had] at hv
     have hq:(lo+n)*s2<=m*s2:=Nat.mul_le_mul_right _ (by omega)
     have hq2:m*s2<=E.κ i*s2:=Nat.mul_le_mul_right _ hn.2
     rw [Nat.add_mul] at hq
     have hzc:(Builtin.zeroCells zv.cells n).toList.length=n*s2:=by rw [tF,hzs]
     have hst:=run_storeCells_at P b (lo*s2) ty' (Builtin.zeroCells zv.cells n).toList 0 vs w g1 (by rw [hzc];omega) (jM _ _ h1 (by omega))
     have hrun:(Builtin.clear_ #[ty] o.type #[a.eval x]).run P w=.ok (.tuple #[]) (w.setRow b (vs.toList.take (lo*s2+0)++(Builtin.zeroCells zv.cells n).toList++vs.toList.drop (lo*s2+0+(Builtin.zeroCells zv.cells n).toList.length)).toArray):=by
      rw [hv]
      obtain ⟨n',rfl⟩:∃ n',n=n'+1:=⟨n - 1,by omega⟩
      simp [Builtin.clear_,run_underlying hu,zeroValue,typeInfo,hi,hz',hst]
     generalize hzq:(Builtin.zeroCells zv.cells n).toList=zs at hst hrun hzc
     have hzo:∀ x∈zs,x.oneCell'=true:=by rw [<- hzq];exact jM _ _ h1 (by omega)
     simp only [Nat.add_zero] at hrun
     have hcut:(vs.toList.take (lo*s2)++zs++vs.toList.drop (lo*s2+zs.length)).take (m*s2)=(vs.toList.take (m*s2)).take (lo*s2)++zs++(vs.toList.take (m*s2)).drop (lo*s2+zs.length):=by
      rw [List.take_take,Nat.min_eq_left (by omega),List.drop_take,List.take_append,List.length_append,List.length_take,Array.length_toList,hzc,List.take_of_length_le]
      · congr 2
        omega
      · rw [List.length_append,List.length_take,Array.length_toList,hzc];omega
     generalize hnew:vs.toList.take (lo*s2)++zs++vs.toList.drop (lo*s2+zs.length)=new at hrun hcut
     have hnl:new.length=vs.size:=by
      rw [<- hnew];simp [hzc];omega
     have hB2:bV H E (w.setRow b new.toArray) i (.lst ty' s2 m cap (Wj cs (lo*s2) (n*s2))):=by
      refine ⟨hlv,hn,hκ,hcap,?_⟩
      rw [hι]
      refine ⟨new.toArray,setRow_heap w b vs _ ty' (0,0) g1,fun y hy=>?_,by simp [hnl,g3],?_⟩
      · simp only [List.toList_toArray] at hy
        rw [hcut,List.mem_append,List.mem_append] at hy
        rcases hy with (hy | hy) | hy
        · exact g2 y (List.mem_of_mem_take hy)
        · exact hzo y hy
        · exact g2 y (List.mem_of_mem_drop hy)
      · simp only [List.toList_toArray]
        rw [hcut,<- hzc]
        have hz2:zs.length=n*s2:=by simpa using hzc
        refine Fg _ g4 ?_
        rw [List.length_take,Array.length_toList]
        have q1:lo*s2+zs.length<=m*s2:=by rw [hz2];exact hq
        have q2:lo*s2+zs.length<=vs.size:=by rw [g3];exact Nat.le_trans q1 hq2
        exact Nat.le_min.2 ⟨q1,q2⟩
     obtain ⟨hc,hev⟩:=hC.upd (w':=w.setRow b new.toArray) (o:=.cells new.toArray ty' (0,0)) hl hι ⟨rfl,rfl,rfl,by simp [World.setRow],setRow_heap w b vs _ ty' (0,0) g1,fun k hk=>setRow_other w b k _ hk⟩ hB2
     refine ⟨.tuple #[],_,H,E,by simp [execOp,hop,resolve,invoke,builtin,hrun],⟨#[],rfl,rfl⟩,hc,hev⟩
def Si (rd:Nat->ay) (d:Nat):AV->Option CE
 | .own k sz lo n=>(match Nat.beq k d with
   | true=>none
   | false=>some ⟨.own d sz lo n,[k],[(k,.dead),(d,eY (aO [k,d]) (rd k))],[k,d],[]⟩)
 | _=>none
def Env.into (E:Env) (k d:Nat):Env :=
 ⟨fun j=>if j=d then E.lv k else if j=k then false else E.lv j,fun j=>if j=d then E.ι k else E.ι j,fun j=>if j=d then E.κ k else E.κ j,fun j=>if j=d then E.η k else E.η j,fun j x=>if j=d then E.σ k x else E.σ j x⟩
theorem Qp {P:Program} {o:Oper} {t:Nat->AV} {rd:Nat->ay} {d:Nat} {x:Operand} {e:CE} (hop:o.op=.move x∨o.op=.assign x) (h:Si rd d (ev t x)=some e):CE.Good P o t rd e:=by
 intro M hM
 refine iP fun H E w a hC hT=>?_
 have hx:=aM hT x
 unfold Si at h
 split at h
 case h_2=>cases h
 rename_i k sz lo n he
 rw [he] at hx
 split at h
 · cases h
 rename_i hkd
 have hkd:k≠d:=fun e=>by rw [e,Nat.beq_refl] at hkd;cases hkd
 cases h
 have hMk:=hM k (by simp)
 obtain ⟨hl,hη,hm⟩:=hx
 have hvia:E.via (E.into k d) (aO [k,d]):=by
  intro i j hij hli
  unfold aO at hij
  split at hij
  · cases hij
  · rename_i hn
    cases hij
    simp at hn
    simp [Env.into,hn.1,hn.2,hli]
 have hed:(E.into k d).lv d=E.lv k/\(E.into k d).ι d=E.ι k/\(E.into k d).κ d=E.κ k/\(E.into k d).η d=E.η k:=by simp [Env.into]
 have hek:(E.into k d).lv k=false:=by simp [Env.into,hkd]
 have hej:∀ j,j≠k->j≠d->(E.into k d).lv j=E.lv j/\(E.into k d).ι j=E.ι j/\(E.into k d).κ j=E.κ j/\(E.into k d).η j=E.η j:=fun j h1 h2=>by simp [Env.into,h1,h2]
 have hB:eY (aO [k,d]) (rd k)=eY (aO [k,d]) (getM M k):=by
  rw [hMk]
 have hsrc:∀ j b,(E.into k d).has j b->(j=d/\E.has k b)∨(j≠k/\j≠d/\E.has j b):=by
  rintro j b ⟨h1,h2⟩
  by_cases hj:j=d
  · subst hj;exact .inl ⟨rfl,hl,by simpa [Env.into] using h2⟩
  · by_cases hj2:j=k
    · subst hj2;rw [hek] at h1;cases h1
    · exact .inr ⟨hj2,hj,by simpa [Env.into,hj,hj2,Env.has] using And.intro h1 h2⟩
 refine ⟨a.eval x,w,H,E.into k d,?_,⟨hed.1.trans hl,by rw [hed.2.2.1,hed.2.2.2];exact hη,by rw [hed.2.1,hed.2.2.1];exact hm⟩,⟨hC.imm,hC.tf,fun j=>?_,fun i j b h1 h2=>?_,fun i b h1=>?_,fun i b h1 h2=>?_⟩,⟨rfl,rfl,rfl,Nat.le_refl _,fun _ _ _=>rfl,fun i b h1=>?_,HH.le_refl _,fun _ _ _ h=>.inl h,fun i hi hn=>?_⟩⟩
 · rcases hop with hop | hop<;>simp [execOp,hop]
 · show bV H (E.into k d) w j (getM (iH (iH (dN [k,d] M) k .dead) d _) j)
   by_cases hj:d=j
   · subst hj
     rw [aT,hB]
     exact (hC.blk k).move (HH.le_refl _) hvia hed.1 hed.2.1 hed.2.2.1 hed.2.2.2 (fun b=>by simp [Env.into]) fun _ _=>rfl
   · rw [aW _ _ _ _ hj]
     by_cases hj2:k=j
     · subst hj2
       rw [aT]
       exact hek
     · rw [aW _ _ _ _ hj2,fI]
       obtain ⟨g1,g2,g3,g4⟩:=hej j (fun e=>hj2 e.symm) (fun e=>hj e.symm)
       exact (hC.blk j).move (HH.le_refl _) hvia g1 g2 g3 g4 (fun b=>by simp [Env.into,hj,hj2,Ne.symm hj,Ne.symm hj2]) fun _ _=>rfl
 · rcases hsrc i b h1 with ⟨rfl,a1⟩ | ⟨a0,a1,a2⟩<;>rcases hsrc j b h2 with ⟨rfl,b1⟩ | ⟨b0,b1,b2⟩
   · rfl
   · exact absurd (hC.injH k j b a1 b2).symm b0
   · exact absurd (hC.injH k i b b1 a2).symm a0
   · exact hC.injH i j b a2 b2
 · rcases hsrc i b h1 with ⟨rfl,a1⟩ | ⟨_,_,a2⟩
   · exact hC.sepH k b a1
   · exact hC.sepH i b a2
 · rcases hsrc i b ⟨h1,.inr h2⟩ with ⟨rfl,a1⟩ | ⟨_,_,a2⟩
   · exact hC.o9 a1
   · exact hC.o9 a2
 · rcases hsrc i b h1 with ⟨rfl,a1⟩ | ⟨_,_,a2⟩
   · exact .inl ⟨k,a1⟩
   · exact .inl ⟨i,a2⟩
 · simp at hn
   obtain ⟨g1,g2,g3,g4⟩:=hej i hn.1 hn.2
   exact ⟨g1.trans hi,g2,g3,g4⟩
def adX (o:Oper) (t:Nat->AV):Option CE :=
 match o.op with
 | .binOp .shr _ x y _=>(match ev t x,ev t y with
   | .y (.int .u64 a),.s (.int .u64 (.ofNat n))=>(match Nat.blt n 64 with
     | true=>some ⟨.y (.int .u64 (a / 2 ^ n)),[],[],[],[]⟩
     | false=>none)
   | .s (.int .u64 a),.s (.int .u64 (.ofNat n))=>(match Nat.blt n 64 with
     | true=>some ⟨.s (.int .u64 (a / 2 ^ n)),[],[],[],[]⟩
     | false=>none)
   | _,_=>none)
 | _=>none
theorem Zp {P:Program} {o:Oper} {t:Nat->AV} {rd:Nat->ay} {e:CE} (h:adX o t=some e):CE.Good P o t rd e:=by
 intro M _
 refine iP fun H E w a hC hT=>?_
 unfold adX at h
 split at h
 case h_2=>cases h
 rename_i ty x y f hop
 have hx:=aM hT x
 have hy:=aM hT y
 have hr:∀ (b:Int) (n:Nat),n<64->(binOp .shr ty (.int .u64 b) (.int .u64 (n:Int))).run P w=.ok (.int .u64 (b / 2 ^ n)) w:=by
  intro b n hn
  have h1:¬ ((n:Int)<0):=by omega
  have h2:min n 64=n:=by omega
  simp [binOp,Op.shift,h1,IntKind.bits,h2]
 split at h
 · rename_i b n h1 h2
   rw [h1] at hx;rw [h2] at hy
   obtain ⟨hx,_⟩:=hx
   obtain ⟨hy,_⟩:=hy
   split at h
   case h_2=>cases h
   rename_i hn
   cases h
   refine ⟨_,w,H,E,by simp [execOp,hop,hx,hy,eqGuard,hr b n (by simpa using hn)],⟨rfl,rfl⟩,hC,bF.refl _ _ _ _⟩
 · rename_i b n h1 h2
   rw [h1] at hx;rw [h2] at hy
   obtain ⟨hx,_⟩:=hx
   obtain ⟨hy,_⟩:=hy
   split at h
   case h_2=>cases h
   rename_i hn
   cases h
   refine ⟨_,w,H,E,by simp [execOp,hop,hx,hy,eqGuard,hr b n (by simpa using hn)],⟨rfl,rfl⟩,hC,bF.refl _ _ _ _⟩
 · cases h
def J9 (P:Program) (rd:Nat->ay) (nid:Nat) (ty:TypeId) (a x:AV):Option CE :=
 match x with
 | .s (.slice none 0 0)=>(match P.underlying ty with
   | some (.slice el)=>(match P.info? el with
     | some i=>(match mM P (some .ok) (fun j=>match Nat.beq j nid with | true=>.row el i.size 0 none (fun _ _=>.junk) | false=>rd j) ty a (.own nid i.size 0 0) with
       | some e=>some ⟨.junk,nid::gN a,(nid,.row el i.size 0 none (fun _ _=>.junk))::e.wr,[],e.ob.map (· = true)⟩
       | none=>none)
     | none=>none)
   | _=>none)
 | _=>none
theorem Oe {P:Program} {o:Oper} {t:Nat->AV} {rd:Nat->ay} {nid:Nat} {ty:TypeId} {x y:Operand} {e:CE} (hd:∀ k,nid<=k->rd k=.dead) (hop:o.op=.store ty x y) (h:J9 P rd nid ty (ev t x) (ev t y)=some e) (ho:Hold e.ob):CE.Good P o t rd e:=by
 intro M hM H E w a K Q hC hT hdf hk
 have hx:=aM hT x
 have hy:=aM hT y
 unfold J9 at h
 split at h
 case h_2=>cases h
 rename_i hyn
 rw [hyn] at hy
 obtain ⟨hy,_⟩:=hy
 split at h
 case h_2=>cases h
 rename_i el hu
 split at h
 case h_2=>cases h
 rename_i i hi
 split at h
 case h_2=>cases h
 rename_i ef hst
 cases h
 have hdn:getM M nid=.dead:=(hM nid (by simp)).trans (hd nid (Nat.le_refl _))
 obtain ⟨e1,e2,e3,e4⟩:=E.eO nid none 0 0
 have hvia:=pF (bo:=none) (κ:=0) (η:=0) hC hdn
 obtain ⟨hc,hev⟩:=hC.new (w':=w) (i:=nid) (κ:=0) (η:=0) (bo:=none) (B:=.row el i.size 0 none (fun _ _=>.junk)) hdn rfl rfl rfl (Nat.le_refl _) (fun _ _=>rfl) (fun b hb=>by cases hb)
  ⟨e1,by rw [e3,e4];exact ⟨rfl,Nat.le_refl _⟩,by rw [e3];exact Nat.zero_le _,(fun q hq=>by cases hq),by rw [e2];exact e3⟩
 have hx1:Rel (ev t x) H (E.set nid none 0 0) (a.eval x):=by
  have:=Rel.ren _ hvia hx
  rwa [mg] at this
 have hy1:Rel (.own nid i.size 0 0) H (E.set nid none 0 0) (a.eval y):=by
  rw [hy]
  exact ⟨e1,by rw [e3,e4];exact ⟨Nat.le_refl _,Nat.le_refl _⟩,by rw [e2];exact ⟨rfl,rfl,rfl⟩⟩
 have hst1:mM P (some .ok) (getM (iH M nid (.row el i.size 0 none (fun _ _=>.junk)))) ty (ev t x) (.own nid i.size 0 0)=some ef:=by
  rw [<- hst]
  refine kW fun j hj=>?_
  cases hb:Nat.beq j nid
  · have hne:nid≠j:=fun e=>by rw [e,Nat.beq_refl] at hb;cases hb
    rw [aW _ _ _ _ hne]
    exact hM j (by simp [hj])
  · have:=Nat.eq_of_beq_eq_true hb
    subst this
    rw [aT]
 obtain ⟨w',hrun,hr,hkl,hc2,hev2⟩:=o8 hc hx1 hy1 hst1 fun b hb=>ho (b=true) (by simp;exact hb)
 unfold Oper.wp
 have hrun2:(execOp a.eval o).run P w=.ok .skip w':=by simp [execOp,hop,hrun]
 rw [hrun2]
 exact hk undef w' H _ trivial hc2 (hev.trans hev2 fun _ h=>h)
theorem YL {H:HH} {E:Env} {w:World} {M:List ay} {k d sz lo n:Nat} {v:Value} {B:ay} (hC:Conc H E w M) (hx:Rel (.own k sz lo n) H E v) (hkd:k≠d) (hMk:getM M k=B) :
 Conc H (E.into k d) w (iH (iH (dN [k,d] M) k .dead) d (eY (aO [k,d]) B))/\bF [k,d] H E w H (E.into k d) w/\Rel (.own d sz lo n) H (E.into k d) v/\E.via (E.into k d) (aO [k,d]):=by
 subst hMk
 obtain ⟨hl,hη,hm⟩:=hx
 have hvia:E.via (E.into k d) (aO [k,d]):=by
  intro i j hij hli
  unfold aO at hij
  split at hij
  · cases hij
  · rename_i hn
    cases hij
    simp at hn
    simp [Env.into,hn.1,hn.2,hli]
 have hed:(E.into k d).lv d=E.lv k/\(E.into k d).ι d=E.ι k/\(E.into k d).κ d=E.κ k/\(E.into k d).η d=E.η k:=by simp [Env.into]
 have hek:(E.into k d).lv k=false:=by simp [Env.into,hkd]
 have hej:∀ j,j≠k->j≠d->(E.into k d).lv j=E.lv j/\(E.into k d).ι j=E.ι j/\(E.into k d).κ j=E.κ j/\(E.into k d).η j=E.η j:=fun j h1 h2=>by simp [Env.into,h1,h2]
 have hsrc:∀ j b,(E.into k d).has j b->(j=d/\E.has k b)∨(j≠k/\j≠d/\E.has j b):=by
  rintro j b ⟨h1,h2⟩
  by_cases hj:j=d
  · subst hj;exact .inl ⟨rfl,hl,by simpa [Env.into] using h2⟩
  · by_cases hj2:j=k
    · subst hj2;rw [hek] at h1;cases h1
    · exact .inr ⟨hj2,hj,by simpa [Env.into,hj,hj2,Env.has] using And.intro h1 h2⟩
 refine ⟨⟨hC.imm,hC.tf,fun j=>?_,fun i j b h1 h2=>?_,fun i b h1=>?_,fun i b h1 h2=>?_⟩,⟨rfl,rfl,rfl,Nat.le_refl _,fun _ _ _=>rfl,fun i b h1=>?_,HH.le_refl _,fun _ _ _ h=>.inl h,fun i hi hn=>?_⟩,⟨hed.1.trans hl,by rw [hed.2.2.1,hed.2.2.2];exact hη,by rw [hed.2.1,hed.2.2.1];exact hm⟩,hvia⟩
 · by_cases hj:d=j
   · subst hj
     rw [aT]
     exact (hC.blk k).move (HH.le_refl _) hvia hed.1 hed.2.1 hed.2.2.1 hed.2.2.2 (fun b=>by simp [Env.into]) fun _ _=>rfl
   · rw [aW _ _ _ _ hj]
     by_cases hj2:k=j
     · subst hj2
       rw [aT]
       exact hek
     · rw [aW _ _ _ _ hj2,fI]
       obtain ⟨g1,g2,g3,g4⟩:=hej j (fun e=>hj2 e.symm) (fun e=>hj e.symm)
       exact (hC.blk j).move (HH.le_refl _) hvia g1 g2 g3 g4 (fun b=>by simp [Env.into,hj,hj2,Ne.symm hj,Ne.symm hj2]) fun _ _=>rfl
 · rcases hsrc i b h1 with ⟨rfl,a1⟩ | ⟨a0,a1,a2⟩<;>rcases hsrc j b h2 with ⟨rfl,b1⟩ | ⟨b0,b1,b2⟩
   · rfl
   · exact absurd (hC.injH k j b a1 b2).symm b0
   · exact absurd (hC.injH k i b b1 a2).symm a0
   · exact hC.injH i j b a2 b2
 · rcases hsrc i b h1 with ⟨rfl,a1⟩ | ⟨_,_,a2⟩
   · exact hC.sepH k b a1
   · exact hC.sepH i b a2
 · rcases hsrc i b ⟨h1,.inr h2⟩ with ⟨rfl,a1⟩ | ⟨_,_,a2⟩
   · exact hC.o9 a1
   · exact hC.o9 a2
 · rcases hsrc i b h1 with ⟨rfl,a1⟩ | ⟨_,_,a2⟩
   · exact .inl ⟨k,a1⟩
   · exact .inl ⟨i,a2⟩
 · simp at hn
   obtain ⟨g1,g2,g3,g4⟩:=hej i hn.1 hn.2
   exact ⟨g1.trans hi,g2,g3,g4⟩
def Sm (rd:Nat->ay) (k d:Nat) (j:Nat):ay:=match Nat.beq j k with
 | true=>.dead
 | false=>(match Nat.beq j d with | true=>eY (aO [k,d]) (rd k) | false=>eY (aO [k,d]) (rd j))
def UH (P:Program) (rd:Nat->ay) (d:Nat) (ty:TypeId) (a x:AV):Option CE :=
 match x with
 | .own k sz lo n=>(match Nat.beq k d with
   | true=>none
   | false=>(match mM P (some .ok) (Sm rd k d) ty (ren (aO [k,d]) a) (.own d sz lo n) with
     | some e=>some ⟨.junk,k::gN (ren (aO [k,d]) a),(k,.dead)::(d,eY (aO [k,d]) (rd k))::e.wr,[k,d],e.ob.map (· = true)⟩
     | none=>none))
 | _=>none
theorem VL {P:Program} {o:Oper} {t:Nat->AV} {rd:Nat->ay} {d:Nat} {ty:TypeId} {x y:Operand} {e:CE} (hop:o.op=.store ty x y) (h:UH P rd d ty (ev t x) (ev t y)=some e) (ho:Hold e.ob):CE.Good P o t rd e:=by
 intro M hM H E w a K Q hC hT hdf hk
 have hx:=aM hT x
 have hy:=aM hT y
 unfold UH at h
 split at h
 case h_2=>cases h
 rename_i k sz lo n hyo
 rw [hyo] at hy
 split at h
 · cases h
 rename_i hkd
 have hkd:k≠d:=fun e=>by rw [e,Nat.beq_refl] at hkd;cases hkd
 split at h
 case h_2=>cases h
 rename_i ef hst
 cases h
 have hMk:getM M k=rd k:=hM k (by simp)
 obtain ⟨hc,hev,hy1,hvia⟩:=YL hC hy hkd hMk
 have hx1:=Rel.ren _ hvia hx
 have hst1:mM P (some .ok) (getM (iH (iH (dN [k,d] M) k .dead) d (eY (aO [k,d]) (rd k)))) ty (ren (aO [k,d]) (ev t x)) (.own d sz lo n)=some ef:=by
  rw [<- hst]
  refine kW fun j hj=>?_
  unfold Sm
  cases hb:Nat.beq j k
  · have hne:k≠j:=fun e=>by rw [e,Nat.beq_refl] at hb;cases hb
    cases hb2:Nat.beq j d
    · have hne2:d≠j:=fun e=>by rw [e,Nat.beq_refl] at hb2;cases hb2
      rw [aW _ _ _ _ hne2,aW _ _ _ _ hne,fI,hM j (by simp [hj])]
    · have:=Nat.eq_of_beq_eq_true hb2
      subst this
      rw [aT]
  · have:=Nat.eq_of_beq_eq_true hb
    subst this
    rw [aW _ _ _ _ (fun e=>hkd e.symm),aT]
 obtain ⟨w',hrun,hr,hkl,hc2,hev2⟩:=o8 hc hx1 hy1 hst1 fun b hb=>ho (b=true) (by simp;exact hb)
 unfold Oper.wp
 have hrun2:(execOp a.eval o).run P w=.ok .skip w':=by simp [execOp,hop,hrun]
 rw [hrun2]
 exact hk undef w' H _ trivial hc2 (hev.trans (hev2.weak fun _ h=>(by cases h)) fun _ h=>h)
structure aew (H:HH) (E:Env) (w:World) (i sz m:Nat) (c:Nat->Nat->AV):Prop where
 lv:E.lv i=true
 me:m=E.η i
 val:∀ b,E.ι i=some b->∃ vs ty,w.heap[b]? = some (.cells vs ty (0,0))/\∀ k,k<m->∀ j,j<sz->∃ x,vs[k*sz+j]? = some x/\x.oneCell'=true/\Rel (c k j) (fun _=>H true) E0 x
theorem adl {H:HH} {E:Env} {w:World} {i sz m:Nat} {ty:TypeId} {cap:Option Nat} {c:Nat->Nat->AV} (h:bV H E w i (.row ty sz m cap c)) (ht:∀ k,k<m->∀ j,j<sz->fC (c k j)=true):aew H E w i sz m c:=by
 obtain ⟨h1,h2,h3,h4,h5⟩:=h
 refine ⟨h1,h2.1,fun b hb=>?_⟩
 rw [hb] at h5
 obtain ⟨vs,g1,g2,g3,g4⟩:=h5
 refine ⟨vs,ty,g1,fun k hk j hj=>?_⟩
 obtain ⟨x,hx,hr⟩:=g4 k hk j hj
 refine ⟨x,hx,g2 x ?_,Rel.tag _ (ht k hk j hj) hr⟩
 have hlt:k*sz+j<m*sz:=by
  have:(k+1)*sz<=m*sz:=Nat.mul_le_mul_right _ hk
  rw [Nat.add_mul] at this;omega
 refine List.mem_iff_getElem?.2 ⟨k*sz+j,?_⟩
 rw [List.getElem?_take,if_pos hlt]
 simpa using hx
theorem Qj {H:HH} {E:Env} {w:World} {i sz m:Nat} {ty:TypeId} {cap:Option Nat} {cs:List AV} (h:bV H E w i (.lst ty sz m cap cs)) (hn:dS cs=true) (ht:iW cs=true):aew H E w i sz m (fun k j=>get cs (k*sz+j)):=by
 obtain ⟨h1,h2,h3,h4,h5⟩:=h
 refine ⟨h1,h2.1,fun b hb=>?_⟩
 rw [hb] at h5
 obtain ⟨vs,g1,g2,g3,g4⟩:=h5
 refine ⟨vs,ty,g1,fun k hk j hj=>?_⟩
 have hlt:k*sz+j<m*sz:=by
  have:(k+1)*sz<=m*sz:=Nat.mul_le_mul_right _ hk
  rw [Nat.add_mul] at this;omega
 have hsz:m*sz<=E.κ i*sz:=Nat.mul_le_mul_right _ h2.2
 have hlv:k*sz+j<vs.size:=by omega
 have hx:vs[k*sz+j]? = some vs[k*sz+j]:=Array.getElem?_eq_getElem hlv
 have hx2:(vs.toList.take (m*sz))[k*sz+j]? = some vs[k*sz+j]:=by
  rw [List.getElem?_take,if_pos hlt];simp
 refine ⟨_,hx,g2 _ (List.mem_iff_getElem?.2 ⟨_,hx2⟩),?_⟩
 have hr:=bn g4 _ _ hx2
 have htg:∀ (l:List AV) (q:Nat),iW l=true->fC (get l q)=true:=by
  intro l
  induction l with
  | nil=>intro q _;cases q<;>rfl
  | cons a r ih =>
    intro q hq
    simp only [iW,Bool.and_eq_true] at hq
    cases q with
    | zero=>exact hq.1
    | succ q=>exact ih q hq.2
 exact Rel.dR _ (jT hn _) (Rel.tag _ (htg cs _ ht) hr)
def HH.BD (H:HH) (w:World) (fr:Nat->Bool):HH:=fun x b=>match fr b with | true=>w.heap[b]? | false=>H x b
def Env.drop (E:Env) (L:List Nat):Env:=⟨fun j=>!mem L j&&E.lv j,E.ι,E.κ,E.η,E.σ⟩
theorem Env.jk {E:Env} {L:List Nat} {j b:Nat} (h:(E.drop L).has j b):j ∉ L/\E.has j b:=by
 obtain ⟨h1,h2⟩:=h
 simp only [Env.drop,Bool.and_eq_true,Bool.not_eq_true'] at h1
 exact ⟨fun hm=>(by rw [mem_iff.2 hm] at h1;cases h1.1),h1.2,h2⟩
def eF (E:Env):List Nat->Nat->Bool
 | [],_=>false
 | i::r,b=>decide (E.ι i=some b)||eF E r b
theorem iO {E:Env}:∀ {L:List Nat} {b:Nat},eF E L b=true↔∃ i∈L,E.ι i=some b
 | [],b=>by simp [eF]
 | a::r,b=>by simp [eF,iO (L:=r)]
def tQ:List Nat->List (Nat×ay)
 | []=>[]
 | i::r=>(i,.dead)::tQ r
theorem uz:∀ (L:List Nat) (j:Nat),fD (tQ L) j=if mem L j then some .dead else none
 | [],_=>rfl
 | i::r,j=>by
   simp only [tQ,fD,uz r j,mem]
   by_cases hm:mem r j=true
   · simp [hm]
   · have hm':mem r j=false:=by simpa using hm
     by_cases hi:i=j
     · simp [hm',hi]
     · have:Nat.beq i j=false:=by
        cases hb:Nat.beq i j
        · rfl
        · exact absurd (Nat.eq_of_beq_eq_true hb) hi
       simp [hm',hi,this]
theorem n_ {H:HH} {E:Env} {w:World} {M:List ay} {L:List Nat} (hC:Conc H E w M) (hL:∀ i∈L,E.lv i=true) :
 H.le (H.BD w (eF E L))/\Conc (H.BD w (eF E L)) (E.drop L) w (dx (tQ L) (dN L M))/\bF L H E w (H.BD w (eF E L)) (E.drop L) w:=by
 have hnone:∀ x b,eF E L b=true->H x b=none:=by
  intro x b hb
  obtain ⟨i,hi,hib⟩:=iO.1 hb
  have h0:=hC.sep i b (hL i hi) hib
  cases x
  · exact h0
  · cases hx:H true b with
    | none=>rfl
    | some o=>have:=hC.tf.1 b o hx;rw [h0] at this;cases this
 have hle:H.le (H.BD w (eF E L)):=by
  intro x b o ho
  show (match eF E L b with | true=>w.heap[b]? | false=>H x b)=some o
  cases hb:eF E L b
  · exact ho
  · rw [hnone x b hb] at ho;cases ho
 have hcase:∀ x b o,H.BD w (eF E L) x b=some o->(eF E L b=true/\w.heap[b]? = some o)∨H x b=some o:=by
  intro x b o ho
  have ho:(match eF E L b with | true=>w.heap[b]? | false=>H x b)=some o:=ho
  cases hb:eF E L b
  · rw [hb] at ho;exact .inr ho
  · rw [hb] at ho;exact .inl ⟨rfl,ho⟩
 have hlv:∀ j,(E.drop L).lv j=true->j ∉ L/\E.lv j=true:=by
  intro j hj
  simp only [Env.drop,Bool.and_eq_true,Bool.not_eq_true'] at hj
  refine ⟨fun hm=>?_,hj.2⟩
  rw [mem_iff.2 hm] at hj
  cases hj.1
 have hvia:E.via (E.drop L) (aO L):=by
  intro i j hij hl
  have hj:=jA hij
  subst hj
  unfold aO at hij
  split at hij
  · cases hij
  · rename_i hn
    have hm:mem L j=false:=by
     cases hm:mem L j
     · rfl
     · exact absurd (List.contains_iff_mem.2 (mem_iff.1 hm)) hn
    exact ⟨by simp [Env.drop,hm,hl],rfl,rfl,rfl⟩
 refine ⟨hle,⟨fun b o ho=>?_,hC.tf.up hle (fun b o ho=>?_),fun j=>?_,fun i j b hi hj=>hC.injH i j b (Env.jk hi).2 (Env.jk hj).2,fun i b hi=>?_,fun i b hi hib=>hC.o9 (Env.jk ⟨hi,.inr hib⟩).2⟩,⟨rfl,rfl,rfl,Nat.le_refl _,fun _ _ _=>rfl,fun i b hi=>.inl ⟨i,(Env.jk hi).2⟩,hle,fun x b o ho=>?_,fun i hi hn=>?_⟩⟩
 · rcases hcase false b o ho with ⟨_,h⟩ | h
   · exact h
   · exact hC.imm b o h
 · show (match eF E L b with | true=>w.heap[b]? | false=>H false b)=some o
   have ho:(match eF E L b with | true=>w.heap[b]? | false=>H true b)=some o:=ho
   cases hb:eF E L b
   · rw [hb] at ho;exact hC.tf.1 b o ho
   · rw [hb] at ho;exact ho
 · rw [iN,uz,fI]
   cases hm:mem L j
   · simp only [Bool.false_eq_true,if_false,Option.getD_none]
     exact (hC.blk j).move hle hvia (by simp [Env.drop,hm]) rfl rfl rfl (fun _=>Iff.rfl) fun _ _=>rfl
   · simp only [if_true,Option.getD_some]
     show (E.drop L).lv j=false
     simp [Env.drop,hm]
 · obtain ⟨h1,h2⟩:=Env.jk hi
   show (match eF E L b with | true=>w.heap[b]? | false=>H false b)=none
   cases hb:eF E L b
   · exact hC.sepH i b h2
   · obtain ⟨j,hj,hjb⟩:=iO.1 hb
     have:=hC.injH i j b h2 ⟨hL j hj,.inl hjb⟩
     subst this
     exact absurd hj h1
 · rcases hcase x b o ho with ⟨h,_⟩ | h
   · obtain ⟨i,hi,hib⟩:=iO.1 h
     exact .inr (.inr ⟨i,hL i hi,.inl hib⟩)
   · exact .inl h
 · have hm:mem L i=false:=by
    cases hm:mem L i
    · rfl
    · exact absurd (mem_iff.1 hm) hn
   exact ⟨by simp [Env.drop,hm,hi],rfl,rfl,rfl⟩
theorem Ni {H:HH} {E:Env} {w:World} {L:List Nat} {i sz lo n m:Nat} {c:Nat->Nat->AV} {v:Value} (hi:i∈L) (hF:aew H E w i sz m c) (hle:H.le (H.BD w (eF E L))) (h:Rel (.own i sz lo n) H E v):Rel (.ys true sz n (rowAt lo c)) (H.BD w (eF E L)) (E.drop L) v:=by
 obtain ⟨hl,hη,hm⟩:=h
 cases hib:E.ι i with
 | none =>
   rw [hib] at hm
   obtain ⟨_,rfl,rfl⟩:=hm
   exact ⟨none,0,rfl,⟨Nat.le_refl _,fun _=>rfl⟩,fun h=>absurd h (Nat.lt_irrefl _)⟩
 | some b =>
   rw [hib] at hm
   obtain ⟨a,rfl,ha,hne⟩:=hm
   refine ⟨a,_,rfl,⟨by omega,fun h=>absurd h hne⟩,fun h0=>⟨_,ha (.inr h0),fun k hk j hj=>?_⟩⟩
   obtain ⟨vs,ty,h1,h2⟩:=hF.val b hib
   have hme:=hF.me
   obtain ⟨x,hx,ho,hr⟩:=h2 (lo+k) (by omega) j hj
   refine ⟨x,?_,ho,?_⟩
   · rw [addr_add]
     have hb:eF E L b=true:=iO.2 ⟨i,hi,hib⟩
     have e:H.BD w (eF E L) true b=some (.cells vs ty (0,0)):=by
      show (match eF E L b with | true=>w.heap[b]? | false=>H true b)=_
      rw [hb];exact h1
     unfold IH.cell?
     simp only [e]
     rw [Nat.add_mul] at hx
     have e2:lo*sz+(k*sz+j)=lo*sz+k*sz+j:=by omega
     rw [e2]
     simpa using hx
   · rw [uW]
     have:HH.le (fun _=>H true) (HH.at (H.BD w (eF E L)) true):=fun _=>hle true
     exact Rel.mono _ this hr
theorem ZH {H:HH} {E:Env} {w:World} {L:List Nat} {i sz:Nat} {ty:TypeId} {cs:List AV} {v:Value} (hi:i∈L) (hB:bV H E w i (.box ty cs)) (hn:dS cs=true) (ht:iW cs=true) (hle:H.le (H.BD w (eF E L))) (h:Rel (.ptr i 0 sz 0) H E v):Rel (.ip true (len cs) (get cs)) (H.BD w (eF E L)) (E.drop L) v:=by
 obtain ⟨hl,b,hb,rfl⟩:=h
 obtain ⟨_,b',vs,hb',g1,g2,g3⟩:=hB
 rw [hb] at hb';cases hb'
 have hlen:=aA.length g3
 have htg:∀ (l:List AV) (q:Nat),iW l=true->fC (get l q)=true:=by
  intro l
  induction l with
  | nil=>intro q _;cases q<;>rfl
  | cons a r ih =>
    intro q hq
    simp only [iW,Bool.and_eq_true] at hq
    cases q with
    | zero=>exact hq.1
    | succ q=>exact ih q hq.2
 refine ⟨⟨b,0*sz+0,none⟩,rfl,fun j hj=>?_⟩
 rw [len_eq] at hj
 have hlt:j<vs.toList.length:=by omega
 have hx:vs.toList[j]? = some vs.toList[j]:=List.getElem?_eq_getElem hlt
 refine ⟨vs.toList[j],?_,g2 _ (List.getElem_mem hlt),?_⟩
 · rw [addr_add]
   have hfr:eF E L b=true:=iO.2 ⟨i,hi,hb⟩
   have e:H.BD w (eF E L) true b=some (.cells vs ty (0,0)):=by
    show (match eF E L b with | true=>w.heap[b]? | false=>H true b)=_
    rw [hfr];exact g1
   unfold IH.cell?
   simp only [e]
   rw [Array.getElem?_toList] at hx
   simp
 · have hr:Rel (get cs j) (fun _=>H true) E0 vs.toList[j]:=Rel.dR _ (jT hn j) (Rel.tag _ (htg cs j ht) (bn g3 _ _ hx))
   have:HH.le (fun _=>H true) (HH.at (H.BD w (eF E L)) true):=fun _=>hle true
   exact Rel.mono _ this hr
def FI (rd:Nat->ay):List AV->Option (List AV×List Nat×List Prop)
 | []=>some ([],[],[])
 | a::r=>(match FI rd r with
   | none=>none
   | some (l,L,ob)=>(match a with
     | .own i sz lo n=>(match rd i with
       | .row _ s2 m _ c=>(match Nat.beq s2 sz&&!mem L i with
         | true=>some (.ys true sz n (rowAt lo c)::l,i::L,(∀ k,k<m->∀ j,j<sz->fC (c k j)=true)::ob)
         | false=>none)
       | .lst _ s2 _ _ cs=>(match Nat.beq s2 sz&&!mem L i&&dS cs&&iW cs with
         | true=>some (.ys true sz n (rowAt lo fun k j=>get cs (k*sz+j))::l,i::L,ob)
         | false=>none)
       | _=>none)
     | a=>(match dR a with | true=>some (a::l,L,ob) | false=>none)))
theorem vK {rd:Nat->ay} {H:HH} {E:Env} {w:World} {M:List ay}:∀ {cells:List AV} {l:List AV} {L:List Nat} {ob:List Prop} {vs:List Value},FI rd cells=some (l,L,ob)->aA cells H E vs->∀ i∈L,E.lv i=true
 | [],l,L,ob,vs,h,_,i,hi=>by simp only [FI] at h;cases h;cases hi
 | a::r,l,L,ob,vs,h,hr,i,hi=>by
   obtain ⟨v,s,_,h1,h2⟩:=hr
   simp only [FI] at h
   split at h
   · cases h
   rename_i l' L' ob' hr'
   have ih:=vK (M:=M) (w:=w) hr' h2
   split at h
   · split at h
     · split at h
       · cases h
         rcases List.mem_cons.1 hi with rfl | hi
         · exact h1.1
         · exact ih i hi
       · cases h
     · split at h
       · cases h
         rcases List.mem_cons.1 hi with rfl | hi
         · exact h1.1
         · exact ih i hi
       · cases h
     · cases h
   · split at h
     · cases h;exact ih i hi
     · cases h
theorem mq {rd:Nat->ay} {H:HH} {E:Env} {w:World} {M:List ay} {LL:List Nat} (hC:Conc H E w M) (hle:H.le (H.BD w (eF E LL))):∀ {cells:List AV} {l:List AV} {L:List Nat} {ob:List Prop} {vs:List Value},FI rd cells=some (l,L,ob)->(∀ i∈L,i∈LL/\getM M i=rd i)->Hold ob->aA cells H E vs->aA l (H.BD w (eF E LL)) (E.drop LL) vs
 | [],l,L,ob,vs,h,_,_,hr=>by simp only [FI] at h;cases h;exact hr
 | a::r,l,L,ob,vs,h,hM,ho,hr=>by
   obtain ⟨v,s,rfl,h1,h2⟩:=hr
   simp only [FI] at h
   split at h
   · cases h
   rename_i l' L' ob' hr'
   split at h
   · rename_i i sz lo n
     split at h
     · rename_i ty s2 m cap c hrd
       split at h
       · rename_i hb
         cases h
         simp only [Bool.and_eq_true,Nat.beq_eq] at hb
         obtain ⟨rfl,_⟩:=hb
         have hB:=hC.blk i
         obtain ⟨hi,hMi⟩:=hM i (by simp)
         rw [hMi,hrd] at hB
         have hF:=adl hB (ho _ (by simp))
         exact ⟨v,s,rfl,Ni hi hF hle h1,mq hC hle hr' (fun j hj=>hM j (by simp [hj])) (fun p hp=>ho p (by simp [hp])) h2⟩
       · cases h
     · rename_i ty s2 m cap cs hrd
       split at h
       · rename_i hb
         cases h
         simp only [Bool.and_eq_true,Nat.beq_eq] at hb
         obtain ⟨⟨⟨rfl,_⟩,hn⟩,ht⟩:=hb
         have hB:=hC.blk i
         obtain ⟨hi,hMi⟩:=hM i (by simp)
         rw [hMi,hrd] at hB
         have hF:=Qj hB hn ht
         exact ⟨v,s,rfl,Ni hi hF hle h1,mq hC hle hr' (fun j hj=>hM j (by simp [hj])) ho h2⟩
       · cases h
     · cases h
   · split at h
     · rename_i hn
       cases h
       exact ⟨v,s,rfl,Rel.mono _ hle (Rel.dR _ hn h1),mq hC hle hr' hM ho h2⟩
     · cases h
def J6 (rd:Nat->ay):AV->Option CE
 | .agg cs=>(match FI rd cs with | some (l,L,ob)=>some ⟨.agg l,L,tQ L,L,ob⟩ | none=>none)
 | .own i sz lo n=>(match FI rd [.own i sz lo n] with | some (l,L,ob)=>some ⟨get l 0,L,tQ L,L,ob⟩ | none=>none)
 | .ifc ty (.ptr i 0 sz 0)=>(match rd i with
   | .box _ cs=>(match dS cs&&iW cs with
     | true=>some ⟨.ifc ty (.ip true (len cs) (get cs)),[i],tQ [i],[i],[]⟩
     | false=>none)
   | _=>none)
 | _=>none
theorem Jk {rd:Nat->ay} {ty bty:TypeId} {i sz:Nat} {cs:List AV} {M:List ay} {H:HH} {E:Env} {w:World} {v:Value} (hrd:rd i=.box bty cs) (hb:(dS cs&&iW cs)=true) (hM:getM M i=rd i) (hC:Conc H E w M) (hr:Rel (.ifc ty (.ptr i 0 sz 0)) H E v) :
 ∃ H' E',Rel (.ifc ty (.ip true (len cs) (get cs))) H' E' v/\Conc H' E' w (dx (tQ [i]) (dN [i] M))/\bF [i] H E w H' E' w:=by
 simp only [Bool.and_eq_true] at hb
 obtain ⟨x,hv,hr⟩:=hr
 have hB:=hC.blk i
 rw [hM,hrd] at hB
 obtain ⟨hle,hC2,hE2⟩:=n_ (L:=[i]) hC (fun j hj=>by simp at hj;subst hj;exact hr.1)
 exact ⟨_,_,⟨x,hv,ZH (by simp) hB hb.1 hb.2 hle hr⟩,hC2,hE2⟩
theorem Mg {P:Program} {o:Oper} {t:Nat->AV} {rd:Nat->ay} {x:Operand} {e:CE} (hop:o.op=.move x∨o.op=.assign x) (h:J6 rd (ev t x)=some e) (ho:Hold e.ob):CE.Good P o t rd e:=by
 intro M hM
 refine iP fun H E w a hC hT=>?_
 have hx:=aM hT x
 unfold J6 at h
 split at h
 · rename_i cs hcs
   rw [hcs] at hx
   obtain ⟨vs,hv,hr⟩:=hx
   split at h
   case h_2=>cases h
   rename_i l L ob hf
   cases h
   have hL:=vK (M:=M) (w:=w) hf hr
   obtain ⟨hle,hC2,hE2⟩:=n_ hC hL
   refine ⟨a.eval x,w,_,_,?_,⟨vs,hv,mq hC hle hf (fun i hi=>⟨hi,hM i hi⟩) ho hr⟩,hC2,hE2⟩
   rcases hop with hop | hop<;>simp [execOp,hop]
 · rename_i i sz lo n hcs
   rw [hcs] at hx
   split at h
   case h_2=>cases h
   rename_i l L ob hf
   cases h
   have hr:aA [.own i sz lo n] H E [a.eval x]:=⟨_,_,rfl,hx,rfl⟩
   have hL:=vK (M:=M) (w:=w) hf hr
   obtain ⟨hle,hC2,hE2⟩:=n_ hC hL
   refine ⟨a.eval x,w,_,_,?_,?_,hC2,hE2⟩
   · rcases hop with hop | hop<;>simp [execOp,hop]
   · have:=mq hC hle hf (fun i hi=>⟨hi,hM i hi⟩) ho hr
     have h0:=bn this 0 (a.eval x) (by simp)
     exact h0
 · rename_i ty i sz hcs
   rw [hcs] at hx
   split at h
   case h_2=>cases h
   rename_i bty cs hrd
   split at h
   case h_2=>cases h
   rename_i hb
   cases h
   obtain ⟨H2,E2,q1,q2,q3⟩:=Jk hrd hb (hM i (by simp)) hC hx
   refine ⟨a.eval x,w,H2,E2,?_,q1,q2,q3⟩
   rcases hop with hop | hop<;>simp [execOp,hop]
 · cases h
def mvE (rd:Nat->ay) (h:Nat) (x:AV):Option CE:=match h with
 | 0=>none
 | 1=>(match x with | .agg _=>J6 rd x | _=>EM rd x)
 | d+2=>(match Nat.beq d 777 with | true=>J6 rd x | false=>Si rd d x)
theorem SA {P:Program} {o:Oper} {t:Nat->AV} {rd:Nat->ay} {h:Nat} {x:Operand} {e:CE} (hop:o.op=.move x∨o.op=.assign x) (he:mvE rd h (ev t x)=some e) (ho:Hold e.ob):CE.Good P o t rd e:=by
 unfold mvE at he
 split at he
 · cases he
 · split at he
   · exact Mg hop he ho
   · exact K7 hop he
 · split at he
   · exact Mg hop he ho
   · exact Qp hop he
def JV (P:Program) (rd:Nat->ay) (nid:Nat) (o:Oper) (t:Nat->AV):Option CE :=
 match yop P rd nid o t with
 | some e=>(match e.wr,e.kl,J6 rd e.r with
   | [],[],some f=>some ⟨f.r,e.rd++f.rd,f.wr,f.kl,e.ob++f.ob⟩
   | _,_,_=>none)
 | none=>none
theorem ah9 {rd:Nat->ay} {r:AV} {f:CE} (h:J6 rd r=some f) (ho:Hold f.ob) {M:List ay} (hM:∀ i∈f.rd,getM M i=rd i) {H:HH} {E:Env} {w:World} {v:Value} (hC:Conc H E w M) (hr:Rel r H E v) :
 ∃ H' E',Rel f.r H' E' v/\Conc H' E' w (dx f.wr (dN f.kl M))/\bF f.kl H E w H' E' w:=by
 unfold J6 at h
 split at h
 · rename_i cs
   obtain ⟨vs,hv,hr⟩:=hr
   split at h
   case h_2=>cases h
   rename_i l L ob hf
   cases h
   have hL:=vK (M:=M) (w:=w) hf hr
   obtain ⟨hle,hC2,hE2⟩:=n_ hC hL
   exact ⟨_,_,⟨vs,hv,mq hC hle hf (fun i hi=>⟨hi,hM i hi⟩) ho hr⟩,hC2,hE2⟩
 · rename_i i sz lo n
   split at h
   case h_2=>cases h
   rename_i l L ob hf
   cases h
   have hr:aA [.own i sz lo n] H E [v]:=⟨_,_,rfl,hr,rfl⟩
   have hL:=vK (M:=M) (w:=w) hf hr
   obtain ⟨hle,hC2,hE2⟩:=n_ hC hL
   exact ⟨_,_,bn (mq hC hle hf (fun i hi=>⟨hi,hM i hi⟩) ho hr) 0 v (by simp),hC2,hE2⟩
 · rename_i ty i sz
   split at h
   case h_2=>cases h
   rename_i bty cs hrd
   split at h
   case h_2=>cases h
   rename_i hb
   cases h
   exact Jk hrd hb (hM i (by simp)) hC hr
 · cases h
theorem OD {P:Program} {rd:Nat->ay} {nid:Nat} {o:Oper} {t:Nat->AV} {e:CE} (hd:∀ k,nid<=k->rd k=.dead) (h:JV P rd nid o t=some e) (ho:Hold e.ob):CE.Good P o t rd e:=by
 unfold JV at h
 split at h
 case h_2=>cases h
 rename_i g hg
 split at h
 case h_2=>cases h
 rename_i f hw hk hf
 cases h
 obtain ⟨o1,o2⟩:=ho.append
 intro M hM H E w a K Q hC hT hdf hkk
 have hs:=KZ hg o1 hd (M:=M) (fun i hi=>hM i (by simp [hi]))
 refine hs H E w a K Q hC hT hdf fun v w' H' E' hr hc hev=>?_
 rw [hw,hk] at hc
 rw [hk] at hev
 have hc:Conc H' E' w' M:=hc
 obtain ⟨H2,E2,q1,q2,q3⟩:=ah9 hf o2 (M:=M) (fun i hi=>hM i (by simp [hi])) hc hr
 exact hkk v w' H2 E2 q1 q2 (hev.trans q3 fun _ h=>by cases h)
theorem Kj {H:HH} {E:Env} {w w':World} {M:List ay} {L:List Nat} (hC:Conc H E w M) (hL:∀ i∈L,E.lv i=true) (hos:w'.os=w.os) (htp:w'.tape=w.tape) (hout:w'.output=w.output) (hsz:w'.heap.size=w.heap.size)
 (hk:∀ b,eF E L b=false->w'.heap[b]? = w.heap[b]?) :
 H.le (H.BD w' (eF E L))/\Conc (H.BD w' (eF E L)) (E.drop L) w' (dx (tQ L) (dN L M))/\bF L H E w (H.BD w' (eF E L)) (E.drop L) w':=by
 have hnone:∀ x b,eF E L b=true->H x b=none:=by
  intro x b hb
  obtain ⟨i,hi,hib⟩:=iO.1 hb
  have h0:=hC.sep i b (hL i hi) hib
  cases x
  · exact h0
  · cases hx:H true b with
    | none=>rfl
    | some o=>have:=hC.tf.1 b o hx;rw [h0] at this;cases this
 have hle:H.le (H.BD w' (eF E L)):=by
  intro x b o ho
  show (match eF E L b with | true=>w'.heap[b]? | false=>H x b)=some o
  cases hb:eF E L b
  · exact ho
  · rw [hnone x b hb] at ho;cases ho
 have hcase:∀ x b o,H.BD w' (eF E L) x b=some o->(eF E L b=true/\w'.heap[b]? = some o)∨(eF E L b=false/\H x b=some o):=by
  intro x b o ho
  have ho:(match eF E L b with | true=>w'.heap[b]? | false=>H x b)=some o:=ho
  cases hb:eF E L b
  · rw [hb] at ho;exact .inr ⟨rfl,ho⟩
  · rw [hb] at ho;exact .inl ⟨rfl,ho⟩
 have hlv:∀ j,(E.drop L).lv j=true->j ∉ L/\E.lv j=true:=by
  intro j hj
  simp only [Env.drop,Bool.and_eq_true,Bool.not_eq_true'] at hj
  refine ⟨fun hm=>?_,hj.2⟩
  rw [mem_iff.2 hm] at hj
  cases hj.1
 have hnf:∀ j b,j ∉ L->E.has j b->eF E L b=false:=by
  intro j b hj hb
  cases hf:eF E L b
  · rfl
  · obtain ⟨i,hi,hib⟩:=iO.1 hf
    have:=hC.injH i j b ⟨hL i hi,.inl hib⟩ hb
    subst this
    exact absurd hi hj
 have hvia:E.via (E.drop L) (aO L):=by
  intro i j hij hl
  have hj:=jA hij
  subst hj
  unfold aO at hij
  split at hij
  · cases hij
  · rename_i hn
    have hm:mem L j=false:=by
     cases hm:mem L j
     · rfl
     · exact absurd (List.contains_iff_mem.2 (mem_iff.1 hm)) hn
    exact ⟨by simp [Env.drop,hm,hl],rfl,rfl,rfl⟩
 refine ⟨hle,⟨fun b o ho=>?_,hC.tf.up hle (fun b o ho=>?_),fun j=>?_,fun i j b hi hj=>hC.injH i j b (Env.jk hi).2 (Env.jk hj).2,fun i b hi=>?_,fun i b hi hib=>by rw [hsz];exact hC.o9 (Env.jk ⟨hi,.inr hib⟩).2⟩,⟨hos,htp,hout,by omega,fun b _ hn=>?_,fun i b hi=>.inl ⟨i,(Env.jk hi).2⟩,hle,fun x b o ho=>?_,fun i hi hn=>?_⟩⟩
 · rcases hcase false b o ho with ⟨_,h⟩ | ⟨hf,h⟩
   · exact h
   · rw [hk b hf];exact hC.imm b o h
 · show (match eF E L b with | true=>w'.heap[b]? | false=>H false b)=some o
   have ho:(match eF E L b with | true=>w'.heap[b]? | false=>H true b)=some o:=ho
   cases hb:eF E L b
   · rw [hb] at ho;exact hC.tf.1 b o ho
   · rw [hb] at ho;exact ho
 · rw [iN,uz,fI]
   cases hm:mem L j
   · simp only [Bool.false_eq_true,if_false,Option.getD_none]
     exact (hC.blk j).move hle hvia (by simp [Env.drop,hm]) rfl rfl rfl (fun _=>Iff.rfl) fun b hb=>hk b (hnf j b (fun hj=>by rw [mem_iff.2 hj] at hm;cases hm) hb)
   · simp only [if_true,Option.getD_some]
     show (E.drop L).lv j=false
     simp [Env.drop,hm]
 · obtain ⟨h1,h2⟩:=Env.jk hi
   show (match eF E L b with | true=>w'.heap[b]? | false=>H false b)=none
   rw [hnf i b h1 h2]
   exact hC.sepH i b h2
 · refine hk b ?_
   cases hf:eF E L b
   · rfl
   · obtain ⟨i,hi,hib⟩:=iO.1 hf
     exact absurd ⟨hL i hi,.inl hib⟩ (hn i)
 · rcases hcase x b o ho with ⟨h,_⟩ | ⟨_,h⟩
   · obtain ⟨i,hi,hib⟩:=iO.1 h
     exact .inr (.inr ⟨i,hL i hi,.inl hib⟩)
   · exact .inl h
 · have hm:mem L i=false:=by
    cases hm:mem L i
    · rfl
    · exact absurd (mem_iff.1 hm) hn
   exact ⟨by simp [Env.drop,hm,hi],rfl,rfl,rfl⟩
def aa8 (P:Program) (t:TypeId):Bool:=match P.underlying t with
 | some (.slice e)=>(match P.underlying e with | some (.int .u8)=>true | _=>false)
 | _=>false
def UL (P:Program) (rd:Nat->ay) (o:Oper) (t:Nat->AV):Option CE:=match o.op with
 | .convert src dst x=>(match Nat.beq src dst&&aa8 P src,ev t x with
   | true,.own i sz lo n=>(match Nat.blt 0 n,rd i with
     | true,.lst _ s2 _ _ cs=>(match Nat.beq s2 sz&&dS cs&&iW cs with
       | true=>some ⟨.ys true sz n (rowAt lo fun k j=>get cs (k*sz+j)),[i],tQ [i],[i],[]⟩
       | false=>none)
     | _,_=>none)
   | _,_=>none)
 | _=>none
theorem Rt {P:Program} {o:Oper} {t:Nat->AV} {rd:Nat->ay} {e:CE} (h:UL P rd o t=some e):CE.Good P o t rd e:=by
 unfold UL at h
 split at h
 case h_2=>cases h
 rename_i src dst x hop
 split at h
 case h_2=>cases h
 rename_i i sz lo n hb1 hx0
 split at h
 case h_2=>cases h
 rename_i ty s2 m cap cs hn hrd
 split at h
 case h_2=>cases h
 rename_i hb2
 cases h
 simp only [Bool.and_eq_true,Nat.beq_eq] at hb1 hb2
 obtain ⟨rfl,hu⟩:=hb1
 obtain ⟨⟨rfl,hr0⟩,ht0⟩:=hb2
 have hn0:0<n:=by simpa using hn
 intro M hM
 refine iP fun H E w a hC hT=>?_
 have hx:=aM hT x
 rw [hx0] at hx
 have hB:=hC.blk i
 rw [hM i (by simp),hrd] at hB
 have hF:=Qj hB hr0 ht0
 obtain ⟨hl,hη,hm⟩:=hx
 cases hib:E.ι i with
 | none =>
   rw [hib] at hm
   obtain ⟨_,h0,_⟩:=hm
   omega
 | some b =>
   rw [hib] at hm
   obtain ⟨ad,he,had,hne⟩:=hm
   have had:=had (.inr hn0)
   subst had
   obtain ⟨vs,ty',g1,g2⟩:=hF.val b hib
   have hfr:eF E [i] b=true:=iO.2 ⟨i,by simp,hib⟩
   have hheap:∀ c,(w.freeze ⟨b,vs.size,none⟩ 1).heap[c]? = if b=c then some (.cells vs ty' (vs.size,vs.size+1)) else w.heap[c]?:=fun c=>by
    simp only [World.freeze,Nat.succ_ne_self,if_false,Nat.one_ne_zero,Array.getElem?_modify]
    split
    · rename_i h;subst h;rw [g1];rfl
    · rfl
   obtain ⟨hle,hC2,hE2⟩:=Kj (w':=w.freeze ⟨b,vs.size,none⟩ 1) (L:=[i]) hC (fun j hj=>by simp at hj;subst hj;exact hl) rfl rfl rfl (by simp [World.freeze]) (fun c hc=>by
    rw [hheap,if_neg]
    rintro rfl
    rw [hfr] at hc;cases hc)
   have hs:∃ el,P.underlying src=some (.slice el)/\P.underlying el=some (.int .u8):=by
    unfold aa8 at hu
    split at hu
    · rename_i el h1
      split at hu
      · rename_i h2;exact ⟨el,h1,h2⟩
      · cases hu
    · cases hu
   obtain ⟨el,hs1,hs2⟩:=hs
   refine ⟨a.eval x,w.freeze ⟨b,vs.size,none⟩ 1,_,_,?_,?_,hC2,hE2⟩
   · rw [show a.eval x=_ from he]
     simp [execOp,hop,he,convert,run_underlying hs1,run_underlying hs2,markStringish,Result.andThen]
     have hsh:w.shape? b=some (ty',vs.size):=by simp [World.shape?,g1]
     rw [hsh]
     rfl
   · rw [show a.eval x=_ from he]
     refine ⟨_,_,rfl,⟨by omega,fun h=>absurd h (by simp)⟩,fun h0=>⟨_,rfl,fun k hk j hj=>?_⟩⟩
     obtain ⟨y,hy,ho,hr⟩:=g2 (lo+k) (by have:=hF.me;omega) j hj
     refine ⟨y,?_,ho,?_⟩
     · rw [addr_add]
       have e:H.BD (w.freeze ⟨b,vs.size,none⟩ 1) (eF E [i]) true b=some (.cells vs ty' (vs.size,vs.size+1)):=by
        show (match eF E [i] b with | true=>(w.freeze ⟨b,vs.size,none⟩ 1).heap[b]? | false=>H true b)=_
        rw [hfr]
        show (w.freeze ⟨b,vs.size,none⟩ 1).heap[b]? = _
        rw [hheap,if_pos rfl]
       unfold IH.cell?
       simp only [e]
       rw [Nat.add_mul] at hy
       have e2:lo*s2+(k*s2+j)=lo*s2+k*s2+j:=by omega
       rw [e2]
       simpa using hy
     · rw [uW]
       have:HH.le (fun _=>H true) (HH.at (H.BD (w.freeze ⟨b,vs.size,none⟩ 1) (eF E [i])) true):=fun _=>hle true
       exact Rel.mono _ this hr
def LX (P:Program) (rd:Nat->ay) (nid:Nat) (o:Oper) (t:Nat->AV):Option CE:=match (match JZ P nid o t with | some e=>some e | none=>BA P nid o t) with
 | some e=>some e
 | none=>(match R8 P rd nid o t with
   | some e=>some e
   | none=>(match Sc P rd nid o t with
     | some e=>some e
     | none=>(match UL P rd o t with
       | some e=>some e
       | none=>(match Uz P o t with
         | some e=>some e
         | none=>(match Qg P rd o t with
           | some e=>some e
           | none=>(match bD P o t with
             | some e=>some e
             | none=>(match acM o t with
               | some e=>some e
               | none=>Ri P rd o t)))))))
theorem Hr {P:Program} {rd:Nat->ay} {nid:Nat} {o:Oper} {t:Nat->AV} {e:CE} (hd:∀ k,nid<=k->rd k=.dead) (h:LX P rd nid o t=some e) (ho:Hold e.ob):CE.Good P o t rd e:=by
 unfold LX at h
 split at h
 · rename_i g hg
   cases h
   split at hg
   · rename_i g' hg'
     cases hg
     exact Pj hd hg'
   · exact Dm hd hg ho
 · split at h
   · rename_i g hg
     cases h
     exact QV hd hg ho
   · split at h
     · rename_i g hg
       cases h
       exact QZ hd hg
     · split at h
       · rename_i g hg
         cases h
         exact Rt hg
       · split at h
         · rename_i g hg
           cases h
           exact Tf hg ho
         · split at h
           · rename_i g hg
             cases h
             exact Vl hg ho
           · split at h
             · rename_i g hg
               cases h
               exact YS hg
             · split at h
               · rename_i g hg
                 cases h
                 exact XJ hg
               · exact P5 h ho
def El (P:Program) (rd:Nat->ay) (o:Oper) (t:Nat->AV):Option CE:=none
theorem J_ {P:Program} {rd:Nat->ay} {o:Oper} {t:Nat->AV} {e:CE} (h:El P rd o t=some e) (ho:Hold e.ob):CE.Good P o t rd e:=by
 simp [El] at h
def spX (P:Program) (sh:Nat->Nat):SP:=fun nid p o t rd =>
 match trR P rd nid (sh p) o t with
 | some T=>some T
 | none =>
 match Nat.beq (sh p) 779 with
 | true=>(match JV P rd nid o t with | some e=>some e.Co | none=>none)
 | false =>
 match Nat.ble 1000 (sh p) with
 | true=>(match ac2 P rd nid o t (sh p - 1000) with | some e=>some e.Co | none=>none)
 | false =>
 match Nat.beq (sh p) 781 with
 | true=>(match El P rd o t with | some e=>some e.Co | none=>none)
 | false =>
 match Nat.beq (sh p) 782 with
 | true=>(match Ap P rd o t with | some e=>some e.Co | none=>none)
 | false =>
 match o.op with
 | .store ty x y=>(match sh p with
   | 0=>none
   | 1=>(match J9 P rd nid ty (ev t x) (ev t y) with | some e=>some e.Co | none=>none)
   | d+2=>(match UH P rd d ty (ev t x) (ev t y) with | some e=>some e.Co | none=>none))
 | .move x=>(match mvE rd (sh p) (ev t x) with | some e=>some e.Co | none=>none)
 | .assign x=>(match mvE rd (sh p) (ev t x) with | some e=>some e.Co | none=>none)
 | .binOp ..=>(match acP P o t with | some e=>some e.Co | none=>(match adX o t with | some e=>some e.Co | none=>(match LX P rd nid o t with | some e=>some e.Co | none=>none)))
 | .call { callee:=.builtin .clear,args,argTypes }=>(match args.toList,argTypes.toList with
   | [x],[ty]=>(match La P rd ty (ev t x) with | some e=>some e.Co | none=>(match K_ P rd ty (ev t x) with | some e=>some e.Co | none=>none))
   | _,_=>none)
 | _=>(match tmT P rd nid (sh p) o t with | some T=>some T | none=>(match LX P rd nid o t with | some e=>some e.Co | none=>none))
theorem Vf (P:Program) (sh:Nat->Nat):acp P (spX P sh):=by
 intro nid p o t rd T h hd
 unfold spX at h
 split at h
 · rename_i T' hT'
   cases h
   exact adU hd hT'
 split at h
 · split at h
   case h_2=>cases h
   rename_i e he
   cases h
   exact CE.gP fun ho=>by
    have:=OD hd he (o:=o) (t:=t)
    exact this ho
 split at h
 · split at h
   case h_2=>cases h
   rename_i e he
   cases h
   exact CE.gP fun ho=>Wx hd he ho
 split at h
 · split at h
   case h_2=>cases h
   rename_i e he
   cases h
   exact CE.gP fun ho=>J_ he ho
 split at h
 · split at h
   case h_2=>cases h
   rename_i e he
   cases h
   exact CE.gP fun ho=>H9 he ho
 split at h
 · rename_i ty x y hop
   split at h
   · cases h
   · split at h
     case h_2=>cases h
     rename_i e he
     cases h
     exact CE.gP fun ho=>by
      have:=Oe hd hop he (t:=t)
      exact this ho
   · split at h
     case h_2=>cases h
     rename_i e he
     cases h
     exact CE.gP fun ho=>by
      have:=VL hop he (t:=t)
      exact this ho
 · rename_i x hop
   split at h
   case h_2=>cases h
   rename_i e he
   cases h
   exact CE.gP fun ho=>SA (.inl hop) he ho
 · rename_i x hop
   split at h
   case h_2=>cases h
   rename_i e he
   cases h
   exact CE.gP fun ho=>SA (.inr hop) he ho
 · split at h
   · rename_i e he
     cases h
     exact CE.gP fun _=>W9 he
   · split at h
     · rename_i e he
       cases h
       exact CE.gP fun _=>Zp he
     · split at h
       case h_2=>cases h
       rename_i e he
       cases h
       exact CE.gP fun ho=>Hr hd he ho
 · rename_i args ats hop
   split at h
   case h_2=>cases h
   rename_i x ty hx hty
   have h1:args=#[x]:=Array.ext' hx
   have h2:ats=#[ty]:=Array.ext' hty
   subst h1;subst h2
   split at h
   · rename_i e he
     cases h
     exact CE.gP fun _=>Oq hop he
   · split at h
     case h_2=>cases h
     rename_i e he
     cases h
     exact CE.gP fun _=>PD hop he
 · split at h
   · rename_i T' hT'
     cases h
     exact ada hd hT'
   · split at h
     case h_2=>cases h
     rename_i e he
     cases h
     exact CE.gP fun ho=>Hr hd he ho
def hT (P:Program):aC P:={ ahN P with sp:=fun _ _=>spX P fun _=>0,spOk:=fun _ _=>Vf P _ }
end Go.Ax

set_option linter.unusedVariables false
namespace Go.Ax
open Go Go.Proofs Go.Shelf Go.RowKit Go.Lib
variable [Inhabited jZ]
variable {P:Program} {ρ:Ren}
set_option maxHeartbeats 4000000 in
set_option maxRecDepth 100000 in
theorem YG {sz bytes:Nat} {zv:Value} {nm:String} (L:nD P ρ sz bytes zv nm) (base:Option Addr) (n c vb voff m vc:Nat) (w w1:World) (v':Value) (hm:0<m) (hnc:n<=c) (hc63:c<=9223372036854775807) (hnil:base=none->n=0)
 (hrun:(Builtin.append_ #[(ρ.t 24),(ρ.t 24)] (ρ.t 24) #[.slice base n c,.slice (some ⟨vb,voff,none⟩) m vc]).run P w=.ok v' w1) :
 Calls P (ρ.f 22) #[.slice base n c,.int .i64 n,.slice (some ⟨vb,voff,none⟩) m vc] w fun e w'=>e=.returned v'/\w'=w1:=by
 have t0:=L.t0;have a0:=L.a0;have z0:=L.z0;have v0:=L.v0;have t3:=L.t3;have a3:=L.a3;have z3:=L.z3;have v3:=L.v3;have t4:=L.t4;have a4:=L.a4;have z4:=L.z4;have v4:=L.v4;have t24:=L.t24;have a24:=L.a24;have z24:=L.z24;have v24:=L.v24;have z9:=L.z9
 have u0:=run_underlying L.t0;have u3:=run_underlying L.t3;have u4:=run_underlying L.t4;have u24:=run_underlying L.t24
 have mixed:=L.mixed
 have hz1:¬ ((m:Int)=0):=by omega
 go_enter L.f22,Body2.n22_ntmps ρ
 cases base with
 | none =>
   have h0:=hnil rfl
   subst h0
   go_wp2_with (at_builtin;refine Lib.wpList_append_run _ rfl _ _ _ _ rfl _ _ rfl rfl _ _ hrun ?_)
   go_ret
   exact ⟨rfl,rfl⟩
 | some a =>
   obtain ⟨ab,ao,asp⟩:=a
   go_wp2_with (at_builtin;refine Lib.wpList_append_run _ rfl _ _ _ _ rfl _ _ rfl rfl _ _ hrun ?_)
   all_goals (go_ret;exact ⟨rfl,rfl⟩)
structure abO (w w':World) (b o:Nat) (vs:List Value) (cur cur':Array Value) (el:TypeId) (fz:Nat×Nat):Prop where
 at':w'.heap[b]? = some (.cells cur' el fz)
 size:cur'.size=cur.size
 get:∀ j,cur'[j]? = if o<=j/\j<o+vs.length then vs[j - o]? else cur[j]?
 hsize:w'.heap.size=w.heap.size
 other:∀ k,k≠b->w'.heap[k]? = w.heap[k]?
 os:w'.os=w.os
 tape:w'.tape=w.tape
 output:w'.output=w.output
theorem setCell_at (w:World) (b o:Nat) (v:Value) (cur:Array Value) (el:TypeId) (fz:Nat×Nat) (h:w.heap[b]? = some (.cells cur el fz)) (ho:o<cur.size) :
 abO w (w.setCell ⟨b,o,none⟩ v) b o [v] cur (cur.setIfInBounds o v) el fz:=by
 refine ⟨?_,by simp,fun j=>?_,by simp [World.setCell],fun k hk=>?_,rfl,rfl,rfl⟩
 · simp [World.setCell,Array.getElem?_modify,h]
 · rw [Array.getElem?_setIfInBounds]
   by_cases hj:o=j
   · subst hj
     have e:o<=o/\o<o + [v].length:=⟨Nat.le_refl _,by simp⟩
     simp [ho]
   · rw [if_neg hj,if_neg (by simp;omega)]
 · simp [World.setCell,Array.getElem?_modify,Ne.symm hk]
theorem setCells_at (b:Nat) (el:TypeId) (fz:Nat×Nat):∀ (vs:List Value) (o:Nat) (w:World) (cur:Array Value),w.heap[b]? = some (.cells cur el fz)->o+vs.length<=cur.size->∃ cur',abO w (w.setCells b o vs) b o vs cur cur' el fz
 | [],o,w,cur,h,_=>⟨cur,h,rfl,fun j=>by rw [if_neg (by simp only [List.length_nil];omega)],rfl,fun _ _=>rfl,rfl,rfl,rfl⟩
 | v::r,o,w,cur,h,hl=>by
   simp only [List.length_cons] at hl
   have h1:=setCell_at w b o v cur el fz h (by omega)
   obtain ⟨cur',h2⟩:=setCells_at b el fz r (o+1) _ _ h1.at' (by rw [h1.size];omega)
   refine ⟨cur',h2.at',h2.size.trans h1.size,fun j=>?_,h2.hsize.trans h1.hsize,fun k hk=>(h2.other k hk).trans (h1.other k hk),h2.os.trans h1.os,h2.tape.trans h1.tape,h2.output.trans h1.output⟩
   rw [h2.get,h1.get]
   simp only [List.length_cons,List.length_nil]
   by_cases a:o+1<=j/\j<o+1+r.length
   · rw [if_pos a,if_pos (by omega),show j - o=(j - (o+1))+1 by omega,List.getElem?_cons_succ]
   · rw [if_neg a]
     by_cases c:o=j
     · subst c
       rw [if_pos (by omega),if_pos (by omega)];simp
     · rw [if_neg (by omega),if_neg (by omega)]
theorem frozen_of_row {w:World} {b:Nat} {cur:Array Value} {el:TypeId} (h:w.heap[b]? = some (.cells cur el (0,0))) (j:Nat):w.frozen? ⟨b,j,none⟩=false:=by
 simp [World.frozen?,h]
theorem tY {sz bytes:Nat} {zv:Value} {nm:String} (L:nD P ρ sz bytes zv nm) {i0:TypeInfo} (hi0:P.info? (ρ.t 9)=some i0) (hz0:i0.zero=some zv) (hs0:i0.size=sz) (hb0:i0.bytes=bytes)
 {w:World} {s:Value} {n m i vb voff vc:Nat} {xs news:List Value} {vcur:Array Value} {tA:TypeId} (hown:w.ownsRow 0 (ρ.t 9) sz s n xs) (hin:i<=n) (hm:0<m) (hvb:s.ownBlock≠some vb)
 (hvh:w.heap[vb]? = some (.cells vcur tA (0,0))) (hvl:news.length=m*sz) (hvs:∀ j v,news[j]? = some v->vcur[voff+j]? = some v) (h1c:ones xs) (h1v:ones news) (h63:n+m<=maxLen) (hbig:(n+m)*bytes<=140737488355328) :
 Calls P (ρ.f 22) #[s,.int .i64 i,.slice (some ⟨vb,voff,none⟩) m vc] w fun e w'=>∃ s',e=.returned s'/\w'.ownsRow 0 (ρ.t 9) sz s' (n+m) (xs.take (i*sz)++news++xs.drop (i*sz))/\w.grownBy w' s.ownBlock /\
  (s'.ownBlock=s.ownBlock∨s'.ownBlock=some w.heap.size):=by
 have hm63:maxLen=9223372036854775807:=rfl
 have h0:0<sz:=L.pos
 have hle:∀ x y:Nat,x<=y->x*sz<=y*sz:=fun x y h=>Nat.mul_le_mul_right _ h
 have hvc:∀ j v,news[j]? = some v->w.cell? ⟨vb,voff+j,none⟩=some v:=fun j v hj=>by
  rw [cell_of_row w vb _ vcur tA (0,0) hvh];exact hvs j v hj
 by_cases hie:i=n
 · subst hie
   obtain ⟨v',w',hrun,hown',hgrow,_,hat⟩:=tZ (P:=P) (ty:=ρ.t 24) (t:=ρ.t 24) (c:=vc) (news:=news) (A:=some ⟨vb,voff,none⟩) (m:=m) L.t24 hi0 hz0 (by rw [hs0];exact L.zc) (by omega) (by rw [hs0];exact hown) (by rw [hs0];exact hvl) (fun h=>by cases h)
    (fun ad had j u hu=>by cases had;rw [addr_add];exact hvc j u hu) h1v h63 (by rw [hb0];exact hbig)
   have hx:xs.take (i*sz)=xs/\xs.drop (i*sz)=[]:=by
    have:=hown.1
    exact ⟨List.take_of_length_le (by omega),List.drop_of_length_le (by omega)⟩
   rw [hx.1,hx.2,List.append_nil]
   rw [hs0] at hown'
   have key:∀ base c,s=.slice base i c->(base=none->i=0)->i<=c->c<=9223372036854775807->Calls P (ρ.f 22) #[s,.int .i64 i,.slice (some ⟨vb,voff,none⟩) m vc] w fun e w'=>∃ s',e=.returned s'/\w'.ownsRow 0 (ρ.t 9) sz s' (i+m) (xs++news)/\w.grownBy w' s.ownBlock /\
    (s'.ownBlock=s.ownBlock∨s'.ownBlock=some w.heap.size):=by
    intro base c hs hb hic hc
    subst hs
    refine (YG L base i c vb voff m vc w w' v' hm hic hc hb hrun).mono ?_
    rintro e w2 ⟨rfl,rfl⟩
    exact ⟨v',rfl,hown',hgrow,hat⟩
   rcases hown.2 with ⟨rfl,rfl⟩ | ⟨g,cap,cur,rfl,_,hg,hn,hmx,hs,ht⟩
   · exact key none 0 rfl (fun _=>rfl) (Nat.le_refl _) (by omega)
   · exact key (some ⟨g,0,none⟩) cap rfl (fun h=>by cases h) hn (by omega)
 · have hin':i<n:=by omega
   rcases hown.2 with ⟨rfl,rfl⟩ | ⟨g,c,cur,rfl,_,hg,hn,hmx,hs,ht⟩
   · omega
   have hxl:=hown.1
   have hcur:∀ j,j<n*sz->cur[j]? = xs[j]?:=fun j hj=>by
    rw [<- ht,List.getElem?_take,if_pos hj];simp
   have hcs:∀ j v,xs[j]? = some v->w.cell? ⟨g,j,none⟩=some v:=fun j v hj=>by
    have hj':=(List.getElem?_eq_some_iff.1 hj).1
    rw [cell_of_row w g _ cur (ρ.t 9) (0,0) hg,hcur j (by omega)];exact hj
   have hne:vb≠g:=fun e=>hvb (by subst e;rfl)
   have hnc:=hle n c hn
   have hdl:(xs.drop (i*sz)).length=(n - i)*sz:=by rw [List.length_drop,hxl,Nat.sub_mul]
   have him:(i+m)*sz+(n - i)*sz=(n+m)*sz:=by rw [<- Nat.add_mul];congr 1;omega
   have him2:(i+m)*sz=i*sz+m*sz:=Nat.add_mul _ _ _
   have hnm2:(n+m)*sz=n*sz+m*sz:=Nat.add_mul _ _ _
   have hil:=hle i n hin
   -- what the cells are in the end
   have fin:∀ (c2:Array Value),(∀ j,j<(n+m)*sz->c2[j]? = if i*sz<=j/\j<i*sz+m*sz then news[j - i*sz]? else if (i+m)*sz<=j/\j<(i+m)*sz+(n - i)*sz then (xs.drop (i*sz))[j - (i+m)*sz]? else xs[j]?)->(n+m)*sz<=c2.size ->
    c2.toList.take ((n+m)*sz)=xs.take (i*sz)++news++xs.drop (i*sz):=by
    intro c2 hc2 hl2
    apply List.ext_getElem?
    intro j
    rw [List.getElem?_take]
    by_cases hj:j<(n+m)*sz
    · rw [if_pos hj,Array.getElem?_toList,hc2 j hj]
      by_cases a:j<i*sz
      · rw [if_neg (by omega),if_neg (by omega),List.append_assoc,List.getElem?_append_left (by rw [List.length_take];omega),List.getElem?_take,if_pos a]
      · by_cases b:j<i*sz+m*sz
        · rw [if_pos (by omega),List.append_assoc,List.getElem?_append_right (by rw [List.length_take];omega),List.getElem?_append_left (by rw [List.length_take];omega)]
          rw [List.length_take,Nat.min_eq_left (by omega)]
        · rw [if_neg (by omega),if_pos (by omega),List.getElem?_append_right (by rw [List.length_append,List.length_take];omega)]
          rw [List.length_append,List.length_take,Nat.min_eq_left (by omega),hvl]
          congr 1;omega
    · rw [if_neg hj,List.getElem?_eq_none]
      rw [List.length_append,List.length_append,List.length_take,hdl,hvl];omega
   have hlen:(xs.take (i*sz)++news++xs.drop (i*sz)).length=(n+m)*sz:=by
    rw [List.length_append,List.length_append,List.length_take,hdl,hvl];omega
   by_cases hroom:n+m<=c
   · have hcc:=hle (n+m) c hroom
     have hin0:0<cur.size:=by have:=Nat.mul_pos (show 0<n by omega) h0;omega
     refine (OU L g n c i vb voff m vc xs news w hin' hm hroom (by omega) hne hxl hvl hcs (fun j hj=>?_) (fun j _=>frozen_of_row hg j) hvc h1c h1v tA (ρ.t 9) vcur.size cur.size ?_ ?_ (by omega) (frozen_of_row hvh _) (frozen_of_row hvh _)).mono ?_
     · rw [cell_of_row w g _ cur (ρ.t 9) (0,0) hg,Array.getElem?_eq_getElem (by omega)];rfl
     · simp [World.shape?,hvh]
     · simp [World.shape?,hg]
     · rintro e w' ⟨rfl,rfl⟩
       obtain ⟨c1,a1⟩:=setCells_at g (ρ.t 9) (0,0) (xs.drop (i*sz)) ((i+m)*sz) w.drew cur hg (by rw [hdl];omega)
       obtain ⟨c2,a2⟩:=setCells_at g (ρ.t 9) (0,0) news (i*sz) _ c1 a1.at' (by rw [hvl,a1.size];omega)
       refine ⟨_,rfl,⟨hlen,.inr ⟨g,c,c2,rfl,Nat.zero_le _,a2.at',hroom,hmx,by rw [a2.size,a1.size,hs],?_⟩⟩,⟨a2.os.trans a1.os,a2.tape.trans a1.tape,a2.output.trans a1.output,by rw [a2.hsize,a1.hsize];exact Nat.le_refl _,fun k hk hkn=>?_⟩,.inl rfl⟩
       · refine fin c2 (fun j hj=>?_) (by rw [a2.size,a1.size,hs];exact hcc)
         rw [a2.get,hvl,a1.get,hdl]
         by_cases x:i*sz<=j/\j<i*sz+m*sz
         · rw [if_pos x,if_pos x]
         · rw [if_neg x,if_neg x]
           by_cases y:(i+m)*sz<=j/\j<(i+m)*sz+(n - i)*sz
           · rw [if_pos y,if_pos y]
           · rw [if_neg y,if_neg y];exact hcur j (by omega)
       · have:k≠g:=fun e=>hkn (by subst e;rfl)
         rw [a2.other k this,a1.other k this];rfl
   · refine (VI L g n c i vb voff m vc xs news w hin' hm hn (by omega) hbig h63 hxl hvl hcs hvc h1c h1v).mono ?_
     rintro e w' ⟨rfl,rfl⟩
     have hG:=grownCap_ge w (n+m) c (ρ.t 9)
     have hG2:=grownCap_le_maxLen w (n+m) c (ρ.t 9) (by omega)
     generalize grownCap w (n+m) c (ρ.t 9)=G at hG hG2 ⊢
     have hRs:((xs.take (i*sz)).toArray++Builtin.zeroCells zv.cells (n+m - i)++Builtin.zeroCells zv.cells (G - (n+m))).size=G*sz:=by
      simp only [Array.size_append,pX,L.zc,List.size_toArray,List.length_take,hxl]
      rw [Nat.min_eq_left (by omega),<- Nat.add_mul,<- Nat.add_mul];congr 1;omega
     have hRg:∀ j,j<i*sz->((xs.take (i*sz)).toArray++Builtin.zeroCells zv.cells (n+m - i)++Builtin.zeroCells zv.cells (G - (n+m)))[j]? = xs[j]?:=fun j hj=>by
      rw [Array.append_assoc,Array.getElem?_append_left (by simp;omega)]
      simp [List.getElem?_take,hj]
     generalize ((xs.take (i*sz)).toArray++Builtin.zeroCells zv.cells (n+m - i)++Builtin.zeroCells zv.cells (G - (n+m)))=ROW at hRs hRg ⊢
     have hGs:=hle (n+m) G hG
     have b0:(w.alloc (.cells ROW (ρ.t 9))).drew.heap[w.heap.size]? = some (.cells ROW (ρ.t 9) (0,0)):=heap_alloc_new w _
     obtain ⟨c1,a1⟩:=setCells_at w.heap.size (ρ.t 9) (0,0) news (i*sz) _ ROW b0 (by rw [hvl,hRs];omega)
     obtain ⟨c2,a2⟩:=setCells_at w.heap.size (ρ.t 9) (0,0) (xs.drop (i*sz)) ((i+m)*sz) ((w.alloc (.cells ROW (ρ.t 9))).drew.setCells w.heap.size (i*sz) news).drew c1 a1.at' (by rw [hdl,a1.size,hRs];omega)
     have hold:∀ k,k<w.heap.size->(w.alloc (.cells ROW (ρ.t 9))).drew.heap[k]? = w.heap[k]?:=fun k hk=>Go.RowKit.Below.heap_alloc w _ k hk
     have hszs:(w.alloc (.cells ROW (ρ.t 9))).drew.heap.size=w.heap.size+1:=Array.size_push _
     refine ⟨_,rfl,⟨hlen,.inr ⟨w.heap.size,G,c2,rfl,Nat.zero_le _,a2.at',hG,hG2,by rw [a2.size,a1.size,hRs],?_⟩⟩,⟨a2.os.trans a1.os,a2.tape.trans a1.tape,a2.output.trans a1.output,?_,fun k hk hkn=>?_⟩,.inr rfl⟩
     · refine fin c2 (fun j hj=>?_) (by rw [a2.size,a1.size,hRs];exact hGs)
       rw [a2.get,hdl,a1.get,hvl]
       by_cases y:(i+m)*sz<=j/\j<(i+m)*sz+(n - i)*sz
       · rw [if_pos y,if_neg (by omega),if_pos y]
       · rw [if_neg y]
         by_cases x:i*sz<=j/\j<i*sz+m*sz
         · rw [if_pos x,if_pos x]
         · rw [if_neg x,if_neg x,if_neg y];exact hRg j (by omega)
     · rw [a2.hsize]
       have:=a1.hsize
       rw [hszs] at this
       show w.heap.size<=((w.alloc (.cells ROW (ρ.t 9))).drew.setCells w.heap.size (i*sz) news).heap.size
       omega
     · have:k≠w.heap.size:=by omega
       rw [a2.other k this]
       show ((w.alloc (.cells ROW (ρ.t 9))).drew.setCells w.heap.size (i*sz) news).heap[k]? = _
       rw [a1.other k this,hold k hk]
end Go.Ax
