import Derived.Orders
import Derived.Test.YtnbhdjadlbhknaaGreatDoorE4
set_option linter.unusedVariables false
set_option linter.unusedSimpArgs false
set_option linter.unusedSectionVars false
namespace Go.Ax
open Go
variable [Inhabited jZ]
def mem:List Nat->Nat->Bool
 | [],_=>false
 | a::l,i=>Nat.beq a i||mem l i
theorem mem_iff:∀ {l:List Nat} {i:Nat},mem l i=true↔i∈l
 | [],i=>by simp [mem]
 | a::l,i=>by
   simp only [mem,Bool.or_eq_true,Nat.beq_eq,List.mem_cons,mem_iff (l:=l)]
   exact or_congr_left eq_comm
def Lb:List Nat->List Nat->Bool
 | [],_=>true
 | a::l,r=>!mem r a&&Lb l r
theorem zn:∀ {l r:List Nat},Lb l r=true->∀ i∈l,i ∉ r
 | [],_,_,i,hi=>by cases hi
 | a::l,r,h,i,hi=>by
   simp [Lb] at h
   rcases List.mem_cons.1 hi with rfl | hi
   · intro hr
     have:=mem_iff.2 hr
     rw [h.1] at this;cases this
   · exact zn h.2 i hi
structure DE where
 pm:Nat
 dst:Option Nat
 look:List Nat
 rd:List Nat
 r:AV
 wr:List (Nat×ay)
 kl:List Nat
 ob:List Prop
def ids (l:List (Nat×ay)):List Nat:=match l with | []=>[] | p::r=>p.1::ids r
theorem KA (l:List (Nat×ay)):ids l=l.map (·.1):=by induction l with | nil=>rfl | cons p r ih=>simp [ids,ih]
def DE.pV (d:DE) (m:List ay):Stp:=⟨d.r,dx d.wr (dN d.kl m),d.kl,d.ob⟩
def DE.app (d:DE) (s:St):St:=s.app d.dst (d.pV s.m)
def alike (d:DE) (s s':St):Prop:=s.t.length=s'.t.length/\(∀ t∈d.look,get s.t t=get s'.t t)/\∀ i∈d.rd,getM s.m i=getM s'.m i
theorem alike.refl (d:DE) (s:St):alike d s s:=⟨rfl,fun _ _=>rfl,fun _ _=>rfl⟩
theorem alike.symm {d:DE} {s s':St} (h:alike d s s'):alike d s' s:=⟨h.1.symm,fun t ht=>(h.2.1 t ht).symm,fun i hi=>(h.2.2 i hi).symm⟩
theorem alike.trans {d:DE} {s s' s2:St} (h:alike d s s') (k:alike d s' s2):alike d s s2 :=
 ⟨h.1.trans k.1,fun t ht=>(h.2.1 t ht).trans (k.2.1 t ht),fun i hi=>(h.2.2 i hi).trans (k.2.2 i hi)⟩
mutual
def iQ (K:List Nat):AV->Bool
 | .ptr i _ _ _=>!mem K i
 | .own i _ _ _=>!mem K i
 | .mref i=>!mem K i
 | .agg cs=>mW K cs
 | .tup cs=>mW K cs
 | .fn _ a b=>mW K a&&mW K b
 | .ifc _ a=>iQ K a
 | _=>true
def mW (K:List Nat):List AV->Bool
 | []=>true
 | a::r=>iQ K a&&mW K r
end
def Cv (K:List Nat):List (Nat×List AV)->Bool
 | []=>true
 | p::r=>mW K p.2&&Cv K r
def kQ (K:List Nat):ay->Bool
 | .box _ cs=>mW K cs
 | .lst _ _ _ _ cs=>mW K cs
 | .mp es _=>mW K (es.map fun e=>e.2.1)
 | .mit m _ _ _=>!mem K m
 | .tmap _ _ _ _ kn=>mW K (kn.map fun p=>p.2)
 | .trow _ _ _ _ _ op _=>Cv K op
 | _=>true
def IL (K:List Nat):List (Nat×ay)->Bool
 | []=>true
 | p::r=>kQ K p.2&&IL K r
theorem oN {K:List Nat} {i:Nat} (h:(!mem K i)=true):aO K i=some i:=by
 unfold aO
 have:i ∉ K:=fun hi=>by rw [mem_iff.2 hi] at h;cases h
 simp [this]
mutual
theorem u_ (K:List Nat):∀ a:AV,iQ K a=true->ren (aO K) a=a
 | .s _,_ | .y _,_ | .junk,_ | .sl ..,_ | .ys ..,_ | .yn ..,_ | .ip ..,_ | .opt ..,_=>rfl
 | .ptr i k sz o,h=>by simp only [iQ] at h;simp [ren,oN h]
 | .own i sz lo n,h=>by simp only [iQ] at h;simp [ren,oN h]
 | .mref i,h=>by simp only [iQ] at h;simp [ren,oN h]
 | .agg cs,h=>by simp only [iQ] at h;simp [ren,kP K cs h]
 | .tup cs,h=>by simp only [iQ] at h;simp [ren,kP K cs h]
 | .fn f a b,h=>by simp only [iQ,Bool.and_eq_true] at h;simp [ren,kP K a h.1,kP K b h.2]
 | .ifc t a,h=>by simp only [iQ] at h;simp [ren,u_ K a h]
theorem kP (K:List Nat):∀ l:List AV,mW K l=true->gY (aO K) l=l
 | [],_=>rfl
 | a::r,h=>by simp only [mW,Bool.and_eq_true] at h;simp [gY,u_ K a h.1,kP K r h.2]
end
theorem Gl {K:List Nat}:∀ {es:List (Value×AV×Nat)},mW K (es.map fun e=>e.2.1)=true->(es.map fun e=>(e.1,ren (aO K) e.2.1,e.2.2))=es
 | [],_=>rfl
 | e::r,h=>by
   simp only [List.map_cons,mW,Bool.and_eq_true] at h
   simp only [List.map_cons,u_ K _ h.1,Gl h.2]
theorem Ib {K:List Nat} {α:Type}:∀ {es:List (α×AV)},mW K (es.map fun e=>e.2)=true->(es.map fun e=>(e.1,ren (aO K) e.2))=es
 | [],_=>rfl
 | e::r,h=>by
   simp only [List.map_cons,mW,Bool.and_eq_true] at h
   simp only [List.map_cons,u_ K _ h.1,Ib h.2]
theorem H_ {K:List Nat}:∀ {op:List (Nat×List AV)},Cv K op=true->(op.map fun p=>(p.1,gY (aO K) p.2))=op
 | [],_=>rfl
 | p::r,h=>by
   simp only [Cv,Bool.and_eq_true] at h
   simp only [List.map_cons,kP K _ h.1,H_ h.2]
theorem IV {K:List Nat} {B:ay} (h:kQ K B=true):eY (aO K) B=B:=by
 cases B with
 | box ty cs=>simp only [kQ] at h;simp [eY,kP K cs h]
 | lst ty z n c cs=>simp only [kQ] at h;simp [eY,kP K cs h]
 | mp es ck=>simp only [kQ] at h;simp only [eY];rw [Gl h]
 | mit m since seen last=>simp only [kQ] at h;simp only [eY,oN h]
 | tmap q has c n kn=>simp only [kQ] at h;simp only [eY];rw [Ib h]
 | trow ty sz n cap c op zs=>simp only [kQ] at h;simp only [eY];rw [H_ h]
 | _=>rfl
theorem jA {L:List Nat} {i j:Nat} (h:aO L i=some j):j=i:=by
 unfold aO at h
 split at h
 · cases h
 · cases h;rfl
mutual
theorem F4:∀ a:AV,iQ [] a=true
 | .s _ | .y _ | .junk | .sl .. | .ys .. | .yn .. | .ip .. | .opt ..=>rfl
 | .ptr i k sz o=>rfl
 | .own i sz lo n=>rfl
 | .mref i=>rfl
 | .agg cs=>by simp only [iQ];exact iY cs
 | .tup cs=>by simp only [iQ];exact iY cs
 | .fn f a b=>by simp only [iQ,Bool.and_eq_true];exact ⟨iY a,iY b⟩
 | .ifc t a=>by simp only [iQ];exact F4 a
theorem iY:∀ l:List AV,mW [] l=true
 | []=>rfl
 | a::r=>by simp only [mW,Bool.and_eq_true];exact ⟨F4 a,iY r⟩
end
theorem I5:∀ op:List (Nat×List AV),Cv [] op=true
 | []=>rfl
 | p::r=>by simp only [Cv,Bool.and_eq_true];exact ⟨iY _,I5 r⟩
theorem IC:∀ l:List (Nat×ay),IL [] l=true
 | []=>rfl
 | p::r=>by
   simp only [IL,Bool.and_eq_true]
   refine ⟨?_,IC r⟩
   cases p.2 with
   | box ty cs=>exact iY cs
   | lst ty z n c cs=>exact iY cs
   | mp es ck=>exact iY _
   | tmap q has c n kn=>exact iY _
   | trow ty sz n cap c op zs=>exact I5 op
   | _=>rfl
mutual
theorem Bd (K L:List Nat):∀ a:AV,iQ K a=true->iQ K (ren (aO L) a)=true
 | .s _,_ | .y _,_ | .junk,_ | .sl ..,_ | .ys ..,_ | .yn ..,_ | .ip ..,_ | .opt ..,_=>rfl
 | .ptr i k sz o,h=>by
   simp only [ren]
   cases hk:aO L i with
   | none=>rfl
   | some j=>have:=jA hk;subst this;exact h
 | .own i sz lo n,h=>by
   simp only [ren]
   cases hk:aO L i with
   | none=>rfl
   | some j=>have:=jA hk;subst this;exact h
 | .mref i,h=>by
   simp only [ren]
   cases hk:aO L i with
   | none=>rfl
   | some j=>have:=jA hk;subst this;exact h
 | .agg cs,h=>by simp only [iQ] at h;simp only [ren,iQ];exact iw K L cs h
 | .tup cs,h=>by simp only [iQ] at h;simp only [ren,iQ];exact iw K L cs h
 | .fn f a b,h=>by simp only [iQ,Bool.and_eq_true] at h;simp only [ren,iQ,Bool.and_eq_true];exact ⟨iw K L a h.1,iw K L b h.2⟩
 | .ifc t a,h=>by simp only [iQ] at h;simp only [ren,iQ];exact Bd K L a h
theorem iw (K L:List Nat):∀ l:List AV,mW K l=true->mW K (gY (aO L) l)=true
 | [],_=>rfl
 | a::r,h=>by simp only [mW,Bool.and_eq_true] at h;simp only [gY,mW,Bool.and_eq_true];exact ⟨Bd K L a h.1,iw K L r h.2⟩
end
theorem Di (K L:List Nat):∀ op:List (Nat×List AV),Cv K op=true->Cv K (op.map fun p=>(p.1,gY (aO L) p.2))=true
 | [],_=>rfl
 | p::r,h=>by simp only [Cv,Bool.and_eq_true] at h;simp only [List.map_cons,Cv,Bool.and_eq_true];exact ⟨iw K L _ h.1,Di K L r h.2⟩
theorem Ow {K L:List Nat} {B:ay} (h:kQ K B=true):kQ K (eY (aO L) B)=true:=by
 cases B with
 | box ty cs=>simp only [kQ] at h;simp only [eY,kQ];exact iw K L cs h
 | lst ty z n c cs=>simp only [kQ] at h;simp only [eY,kQ];exact iw K L cs h
 | mp es ck =>
   simp only [kQ] at h
   have:=iw K L _ h
   rw [uP,List.map_map] at this
   simp only [eY,kQ,List.map_map];exact this
 | mit m since seen last =>
   simp only [eY]
   cases hk:aO L m with
   | none=>rfl
   | some j=>have:=jA hk;subst this;exact h
 | trow ty sz n cap c op zs=>exact Di K L op h
 | tmap q has c n kn =>
   simp only [kQ] at h
   have:=iw K L _ h
   rw [uP,List.map_map] at this
   simp only [eY,kQ,List.map_map];exact this
 | _=>rfl
def sees (p q:DE):Bool:=(match p.dst with | some d=>mem q.look d | none=>false)||!Lb (ids p.wr) q.rd
def kOk (p q:DE):Bool:=match p.kl,q.kl with
 | [],[]=>true
 | K,[]=>iQ K q.r&&IL K q.wr
 | [],K=>iQ K p.r&&IL K p.wr
 | _,_=>false
def compat (p q:DE):Bool:=kOk p q&&!sees p q&&!sees q p&&Lb (ids p.wr) (ids q.wr)&&(match p.dst,q.dst with | some a,some b=>!Nat.beq a b | _,_=>true)
theorem yD (f:Nat->Option Nat):∀ l:List AV,(gY f l).length=l.length
 | []=>rfl
 | _::l=>by simp [gY,yD f l]
theorem Ij (f:Nat->Option Nat):∀ (l:List AV) (i:Nat),get (gY f l) i=ren f (get l i)
 | [],_=>by simp [gY,get,ren]
 | _::_,0=>rfl
 | _::l,n+1=>Ij f l n
theorem uT (k:List Nat) (l:List AV):(Cy k l).length=l.length:=by rw [Br,yD]
theorem OI (k:List Nat) (l:List AV) (i:Nat):get (Cy k l) i=kill k (get l i):=by rw [Br,Ij,zf]
theorem GR (t:List AV) (d:Option Nat) (v:AV):(Cq t d v).length=t.length:=by cases d<;>simp [Cq,length_set]
theorem U5 (t:List AV) (d:Option Nat) (v:AV) (j:Nat):get (Cq t d v) j=if d=some j/\j<t.length then v else get t j:=by
 cases d with
 | none=>simp [Cq]
 | some i =>
   simp only [Cq,vg,Option.some.injEq]
   by_cases h:i=j
   · subst h;rfl
   · simp [h]
def fD:List (Nat×ay)->Nat->Option ay
 | [],_=>none
 | (i,B)::r,j=>match fD r j with | some b=>some b | none=>if i=j then some B else none
theorem iN:∀ (l:List (Nat×ay)) (M:List ay) (j:Nat),getM (dx l M) j=(fD l j).getD (getM M j)
 | [],_,_=>rfl
 | (i,B)::r,M,j=>by
   simp only [dx,fD]
   rw [iN r]
   cases h:fD r j with
   | some b=>rfl
   | none =>
     by_cases hij:i=j
     · subst hij;simp [aT]
     · simp [hij,aW _ _ _ _ hij]
theorem pG:∀ {l:List (Nat×ay)} {j:Nat},j ∉ ids l->fD l j=none
 | [],_,_=>rfl
 | (i,B)::r,j,h=>by
   simp [ids] at h
   simp [fD,pG h.2,Ne.symm h.1]
theorem tq (d:DE) (s:St) (j:Nat):get (d.app s).t j=if d.dst=some j/\j<s.t.length then d.r else kill d.kl (get s.t j):=by
 simp only [DE.app,DE.pV,St.app,U5,uT,OI]
theorem tH (d:DE) (s:St) (j:Nat):getM (d.app s).m j=(fD d.wr j).getD (eY (aO d.kl) (getM s.m j)):=by
 simp only [DE.app,DE.pV,St.app,fI,iN]
theorem jJ (d:DE) (s:St):(d.app s).t.length=s.t.length:=by simp only [DE.app,DE.pV,St.app,GR,uT]
theorem alike.app {d e:DE} {s s':St} (h:alike d s s'):alike d (e.app s) (e.app s'):=by
 refine ⟨by rw [jJ,jJ];exact h.1,fun t ht=>?_,fun i hi=>?_⟩
 · rw [tq,tq,h.1,h.2.1 t ht]
 · rw [tH,tH,h.2.2 i hi]
def Aw (e d:DE) (s:St):Prop:=(∀ t∈d.look,kill e.kl (get s.t t)=get s.t t)/\∀ i∈d.rd,eY (aO e.kl) (getM s.m i)=getM s.m i
theorem alike.away {d e:DE} {s s':St} (hk:Aw e d s) (hs:sees e d=false) (h:alike d s s'):alike d (e.app s) s':=by
 simp only [sees,Bool.or_eq_false_iff,Bool.not_eq_false'] at hs
 refine ⟨by rw [jJ];exact h.1,fun t ht=>?_,fun i hi=>?_⟩
 · rw [tq,hk.1 t ht]
   have:e.dst≠some t:=by
    intro he
    rw [he] at hs
    have:=mem_iff.2 ht
    simp only at hs
    rw [hs.1] at this;cases this
   simp only [this,false_and,if_false]
   exact h.2.1 t ht
 · rw [tH,hk.2 i hi]
   rw [pG (fun hw=>zn hs.2 i hw hi)]
   exact h.2.2 i hi
def St.eqv (s s':St):Prop:=s.t=s'.t/\∀ i,getM s.m i=getM s'.m i
theorem GH {l l':List AV} (hl:l.length=l'.length) (h:∀ i,get l i=get l' i):l=l':=by
 induction l generalizing l' with
 | nil=>cases l' with | nil=>rfl | cons=>simp at hl
 | cons a l ih =>
   cases l' with
   | nil=>simp at hl
   | cons b l' =>
     have h0:=h 0
     simp only [get] at h0
     subst h0
     rw [ih (by simpa using hl) fun i=>h (i+1)]
theorem St.eqv.refl (s:St):s.eqv s:=⟨rfl,fun _=>rfl⟩
theorem St.eqv.trans {s s' s2:St} (h:s.eqv s') (k:s'.eqv s2):s.eqv s2:=⟨h.1.trans k.1,fun i=>(h.2 i).trans (k.2 i)⟩
theorem St.eqv.app {s s':St} (d:DE) (h:s.eqv s'):(d.app s).eqv (d.app s') :=
 ⟨GH (by rw [jJ,jJ,h.1]) fun i=>by rw [tq,tq,h.1],fun i=>by rw [tH,tH,h.2]⟩
theorem DX {K:List Nat}:∀ {l:List (Nat×ay)} {i:Nat} {B:ay},IL K l=true->fD l i=some B->kQ K B=true
 | [],_,_,_,h=>by cases h
 | p::r,i,B,h,hl=>by
   simp only [IL,Bool.and_eq_true] at h
   obtain ⟨pi,pB⟩:=p
   simp only [fD] at hl
   cases hr:fD r i with
   | some b=>rw [hr] at hl;cases hl;exact DX h.2 hr
   | none =>
     rw [hr] at hl
     by_cases hi:pi=i
     · simp [hi] at hl;subst hl;exact h.1
     · simp [hi] at hl
theorem Gy {K:List Nat} {a:AV} (h:iQ K a=true):kill K a=a:=by rw [zf];exact u_ K a h
theorem Sz {p q:DE} (hq:q.kl=[]) (h1:iQ p.kl q.r=true) (h2:IL p.kl q.wr=true) (h3:∀ i∈ids p.wr,i ∉ ids q.wr) (h4:∀ a,p.dst=some a->q.dst≠some a) (s:St):(p.app (q.app s)).eqv (q.app (p.app s)):=by
 refine ⟨GH (by rw [jJ,jJ,jJ,jJ]) fun i=>?_,fun i=>?_⟩
 · rw [tq,tq,tq,tq,jJ,jJ,hq]
   have k0:∀ x,kill [] x=x:=fun _=>rfl
   by_cases a:p.dst=some i
   · have b:¬ q.dst=some i:=h4 i a
     simp [a,b,k0]
   · by_cases b:q.dst=some i
     · by_cases c:i<s.t.length
       · simp [a,b,c,Gy h1,k0]
       · simp [a,b,c,k0]
     · simp [a,b,k0]
 · rw [tH,tH,tH,tH,hq,jq]
   simp only [eD]
   by_cases a:i∈ids p.wr
   · rw [pG (h3 i a)];rfl
   · rw [pG a]
     cases hl:fD q.wr i with
     | none=>rfl
     | some B=>simp only [Option.getD_some,Option.getD_none];exact IV (DX h2 hl)
theorem St.eqv.symm {s s':St} (h:s.eqv s'):s'.eqv s:=⟨h.1.symm,fun i=>(h.2 i).symm⟩
theorem Qa {p q:DE} (h:compat p q=true) (s:St):(p.app (q.app s)).eqv (q.app (p.app s)):=by
 simp only [compat,Bool.and_eq_true,Bool.not_eq_true'] at h
 obtain ⟨⟨⟨⟨hk,h1⟩,h2⟩,h3⟩,h4⟩:=h
 have hd:∀ a,p.dst=some a->q.dst≠some a:=by
  intro a ha hb
  rw [ha,hb] at h4
  simp at h4
 have hw:=zn h3
 unfold kOk at hk
 cases hq:q.kl with
 | nil =>
   cases hp:p.kl with
   | nil=>exact Sz hq (by rw [hp];exact F4 _) (by rw [hp];exact IC _) hw hd s
   | cons x r =>
     rw [hp,hq] at hk
     simp only [Bool.and_eq_true] at hk
     exact Sz hq (by rw [hp];exact hk.1) (by rw [hp];exact hk.2) hw hd s
 | cons y r =>
   cases hp:p.kl with
   | nil =>
     rw [hp,hq] at hk
     simp only [Bool.and_eq_true] at hk
     exact (Sz hp (by rw [hq];exact hk.1) (by rw [hq];exact hk.2) (fun i hi hj=>hw i hj hi) (fun a ha hb=>hd a hb ha) s).symm
   | cons x r=>rw [hp,hq] at hk;cases hk
theorem qN {p q:DE} (h:compat p q=true):sees p q=false/\sees q p=false:=by
 simp only [compat,Bool.and_eq_true,Bool.not_eq_true'] at h
 exact ⟨h.1.1.1.2,h.1.1.2⟩
theorem Jr {p q:DE} (h:compat p q=true):compat q p=true:=by
 simp only [compat,Bool.and_eq_true,Bool.not_eq_true'] at h ⊢
 obtain ⟨⟨⟨⟨hk,h1⟩,h2⟩,h3⟩,h4⟩:=h
 refine ⟨⟨⟨⟨?_,h2⟩,h1⟩,?_⟩,?_⟩
 · revert hk
   unfold kOk
   cases p.kl<;>cases q.kl<;>simp
 · have:∀ (l r:List Nat),(∀ x∈l,x ∉ r)->Lb l r=true:=by
    intro l r
    induction l with
    | nil=>intro _;rfl
    | cons x l ihl =>
      intro hx
      simp only [Lb,Bool.and_eq_true,Bool.not_eq_true']
      refine ⟨?_,ihl fun y hy=>hx y (by simp [hy])⟩
      cases hm:mem r x with
      | false=>rfl
      | true=>exact absurd (mem_iff.1 hm) (hx x (by simp))
   exact this _ _ fun x hx hx'=>zn h3 x hx' hx
 · revert h4;cases p.dst<;>cases q.dst<;>simp
   rename_i x y
   intro h
   cases hb:Nat.beq y x with
   | false=>rfl
   | true=>have:=Nat.eq_of_beq_eq_true hb;subst this;rw [hb] at h;cases h
def dI:List DE->Nat->(Nat->Bool)->St->St
 | [],_,_,s=>s
 | d::r,p,X,s=>dI r (p+1) X (if X p then d.app s else s)
theorem CX:∀ (l:List DE) (p:Nat) (X:Nat->Bool) {s s':St},s.eqv s'->(dI l p X s).eqv (dI l p X s')
 | [],_,_,_,_,h=>h
 | d::r,p,X,s,s',h=>by
   simp only [dI]
   refine CX r _ X ?_
   split
   · exact h.app d
   · exact h
theorem m_:∀ (l:List DE) (p:Nat) {X Y:Nat->Bool} (s:St),(∀ k,p<=k->k<p+l.length->X k=Y k)->dI l p X s=dI l p Y s
 | [],_,_,_,_,_=>rfl
 | d::r,p,X,Y,s,h=>by
   simp only [dI]
   rw [h p (Nat.le_refl _) (by simp),m_ r (p+1) _ fun k h1 h2=>h k (by omega) (by simp;omega)]
theorem oU:∀ (l:List DE) (p:Nat) {X:Nat->Bool} (s:St),(∀ k,p<=k->X k=false)->dI l p X s=s
 | [],_,_,_,_=>rfl
 | d::r,p,X,s,h=>by
   simp only [dI]
   rw [h p (Nat.le_refl _),oU r (p+1) _ fun k hk=>h k (by omega)]
   rfl
theorem kU:∀ (l r:List DE) (p:Nat) (X:Nat->Bool) (s:St),dI (l++r) p X s=dI r (p+l.length) X (dI l p X s)
 | [],_,_,_,_=>rfl
 | d::l,r,p,X,s=>by
   simp only [List.cons_append,dI]
   rw [kU l r]
   simp [Nat.add_assoc,Nat.add_comm 1]
theorem uE:∀ (l:List DE) (p:Nat) (X:Nat->Bool) (d:DE) (s:St),(∀ k dk,l[k]? = some dk->X (p+k)=true->compat dk d=true)->(dI l p X (d.app s)).eqv (d.app (dI l p X s))
 | [],_,_,d,s,_=>St.eqv.refl _
 | e::r,p,X,d,s,h=>by
   simp only [dI]
   have hr:∀ k dk,r[k]? = some dk->X (p+1+k)=true->compat dk d=true:=fun k dk hk hX=>h (k+1) dk (by simpa using hk) (by rw [show p+(k+1)=p+1+k by omega];exact hX)
   split
   · rename_i hX
     have hc:=h 0 e (by simp) (by simpa using hX)
     exact (CX r _ X (Qa hc s)).trans (uE r (p+1) X d (e.app s) hr)
   · exact uE r (p+1) X d s hr
def ins (X:Nat->Bool) (q:Nat) (k:Nat):Bool:=if k=q then true else X k
theorem Du:∀ (l:List DE) (p:Nat) (X:Nat->Bool) (q:Nat) (d:DE) (s:St),p<=q->l[q - p]? = some d->X q=false ->
 (∀ k dk,l[k]? = some dk->q<p+k->X (p+k)=true->compat dk d=true)->(dI l p (ins X q) s).eqv (d.app (dI l p X s))
 | [],_,_,_,_,_,_,hd,_,_=>by simp at hd
 | e::r,p,X,q,d,s,hpq,hd,hq,h=>by
   simp only [dI]
   by_cases hp:p=q
   · subst hp
     simp at hd
     subst hd
     simp only [ins,if_pos,hq]
     rw [m_ r (p+1) (X:=ins X p) (Y:=X) _ fun k h1 h2=>by simp [ins];omega]
     exact uE r (p+1) X e s fun k dk hk hX=>h (k+1) dk (by simpa using hk) (by omega) (by rw [show p+(k+1)=p+1+k by omega];exact hX)
   · have:ins X q p=X p:=by simp [ins,hp]
     rw [this]
     refine Du r (p+1) X q d _ (by omega) ?_ hq fun k dk hk hl hX=>h (k+1) dk (by simpa using hk) (by omega) (by rw [show p+(k+1)=p+1+k by omega];exact hX)
     rw [show q - p=(q - (p+1))+1 by omega] at hd
     simpa using hd
theorem kM (R:St->Prop):∀ (l:List DE) (p:Nat) (Z Y:Nat->Bool) (d:DE) (s s':St),(∀ e∈l,∀ s,R s->R (e.app s))->R s->R s'->alike d s s' ->
 (∀ j dj,l[j]? = some dj->Y (p+j)=true->Z (p+j)=true->alike dj s s') ->
 (∀ k dk,l[k]? = some dk->Z (p+k)=true->Y (p+k)=false->(∀ s,R s->Aw dk d s)/\sees dk d=false/\∀ j dj,k<j->l[j]? = some dj->Y (p+j)=true->Z (p+j)=true->(∀ s,R s->Aw dk dj s)/\sees dk dj=false) ->
 (∀ k dk,l[k]? = some dk->Z (p+k)=false->Y (p+k)=true->(∀ s,R s->Aw dk d s)/\sees dk d=false/\∀ j dj,k<j->l[j]? = some dj->Y (p+j)=true->Z (p+j)=true->(∀ s,R s->Aw dk dj s)/\sees dk dj=false) ->
 alike d (dI l p Z s) (dI l p Y s')
 | [],_,_,_,_,_,_,_,_,_,h,_,_,_=>h
 | e::r,p,Z,Y,d,s,s',hR,hs,hs',h,hj,h1,h2=>by
   simp only [dI]
   have e1:∀ k,p+1+k=p+(k+1):=fun k=>by omega
   have hRr:∀ e∈r,∀ s,R s->R (e.app s):=fun e he=>hR e (List.mem_cons_of_mem _ he)
   have hRe:=hR e (by simp)
   have g1:∀ k dk,r[k]? = some dk->Z (p+1+k)=true->Y (p+1+k)=false->(∀ s,R s->Aw dk d s)/\sees dk d=false/\∀ j dj,k<j->r[j]? = some dj->Y (p+1+j)=true->Z (p+1+j)=true->(∀ s,R s->Aw dk dj s)/\sees dk dj=false:=by
    intro k dk hk hz hy
    rw [e1] at hz hy
    obtain ⟨a,b,c⟩:=h1 (k+1) dk (by simpa using hk) hz hy
    exact ⟨a,b,fun j dj hkj hj hY hZ=>c (j+1) dj (by omega) (by simpa using hj) (by rw [e1] at hY;exact hY) (by rw [e1] at hZ;exact hZ)⟩
   have g2:∀ k dk,r[k]? = some dk->Z (p+1+k)=false->Y (p+1+k)=true->(∀ s,R s->Aw dk d s)/\sees dk d=false/\∀ j dj,k<j->r[j]? = some dj->Y (p+1+j)=true->Z (p+1+j)=true->(∀ s,R s->Aw dk dj s)/\sees dk dj=false:=by
    intro k dk hk hz hy
    rw [e1] at hz hy
    obtain ⟨a,b,c⟩:=h2 (k+1) dk (by simpa using hk) hz hy
    exact ⟨a,b,fun j dj hkj hj hY hZ=>c (j+1) dj (by omega) (by simpa using hj) (by rw [e1] at hY;exact hY) (by rw [e1] at hZ;exact hZ)⟩
   have gj:∀ j dj,r[j]? = some dj->Y (p+1+j)=true->Z (p+1+j)=true->alike dj s s':=fun j dj hjj hY hZ =>
    hj (j+1) dj (by simpa using hjj) (by rw [e1] at hY;exact hY) (by rw [e1] at hZ;exact hZ)
   cases hz:Z p<;>cases hy:Y p<;>simp only [if_true,Bool.false_eq_true,if_false]
   · exact kM R r (p+1) Z Y d s s' hRr hs hs' h gj g1 g2
   · obtain ⟨a,b,c⟩:=h2 0 e (by simp) (by simpa using hz) (by simpa using hy)
     refine kM R r (p+1) Z Y d s _ hRr hs (hRe _ hs') (h.symm.away (a _ hs') b).symm (fun j dj hjj hY hZ=>?_) g1 g2
     obtain ⟨c1,c2⟩:=c (j+1) dj (by omega) (by simpa using hjj) (by rw [e1] at hY;exact hY) (by rw [e1] at hZ;exact hZ)
     exact ((gj j dj hjj hY hZ).symm.away (c1 _ hs') c2).symm
   · obtain ⟨a,b,c⟩:=h1 0 e (by simp) (by simpa using hz) (by simpa using hy)
     refine kM R r (p+1) Z Y d _ s' hRr (hRe _ hs) hs' (h.away (a _ hs) b) (fun j dj hjj hY hZ=>?_) g1 g2
     obtain ⟨c1,c2⟩:=c (j+1) dj (by omega) (by simpa using hjj) (by rw [e1] at hY;exact hY) (by rw [e1] at hZ;exact hZ)
     exact (gj j dj hjj hY hZ).away (c1 _ hs) c2
   · exact kM R r (p+1) Z Y d _ _ hRr (hRe _ hs) (hRe _ hs') h.app (fun j dj hjj hY hZ=>(gj j dj hjj hY hZ).app) g1 g2
def MF (K:List Nat) (s0:St):List Nat->Bool
 | []=>true
 | t::r=>iQ K (get s0.t t)&&MF K s0 r
def Mi (K:List Nat) (s0:St):List Nat->Bool
 | []=>true
 | i::r=>kQ K (getM s0.m i)&&Mi K s0 r
def Nb (K rd:List Nat):List (Nat×ay)->Bool
 | []=>true
 | p::r=>(!mem rd p.1||kQ K p.2)&&Nb K rd r
def LM (K look rd:List Nat):List DE->Bool
 | []=>true
 | f::r=>(match f.dst with | some t=>!mem look t||iQ K f.r | none=>true)&&(Nb K rd f.wr&&LM K look rd r)
def stat (s0:St) (ds:List DE) (e d:DE):Bool:=MF e.kl s0 d.look&&(Mi e.kl s0 d.rd&&LM e.kl d.look d.rd ds)
def clean (K:List Nat) (d:DE) (s:St):Prop:=(∀ t∈d.look,iQ K (get s.t t)=true)/\∀ i∈d.rd,kQ K (getM s.m i)=true
theorem GJ {e d:DE} {s:St} (h:clean e.kl d s):Aw e d s:=⟨fun t ht=>Gy (h.1 t ht),fun i hi=>IV (h.2 i hi)⟩
theorem Jw {K:List Nat} {s0:St}:∀ {l:List Nat},MF K s0 l=true->∀ t∈l,iQ K (get s0.t t)=true
 | [],_,t,ht=>by cases ht
 | a::r,h,t,ht=>by
   simp only [MF,Bool.and_eq_true] at h
   rcases List.mem_cons.1 ht with rfl | ht
   · exact h.1
   · exact Jw h.2 t ht
theorem Ie {K:List Nat} {s0:St}:∀ {l:List Nat},Mi K s0 l=true->∀ t∈l,kQ K (getM s0.m t)=true
 | [],_,t,ht=>by cases ht
 | a::r,h,t,ht=>by
   simp only [Mi,Bool.and_eq_true] at h
   rcases List.mem_cons.1 ht with rfl | ht
   · exact h.1
   · exact Ie h.2 t ht
theorem zQ {K rd:List Nat}:∀ {l:List (Nat×ay)} {i:Nat} {B:ay},Nb K rd l=true->i∈rd->fD l i=some B->kQ K B=true
 | [],_,_,_,_,h=>by cases h
 | p::r,i,B,h,hi,hl=>by
   obtain ⟨pi,pB⟩:=p
   simp only [Nb,Bool.and_eq_true,Bool.or_eq_true] at h
   simp only [fD] at hl
   cases hr:fD r i with
   | some b=>rw [hr] at hl;cases hl;exact zQ h.2 hi hr
   | none =>
     rw [hr] at hl
     by_cases he:pi=i
     · simp [he] at hl
       subst hl
       rcases h.1 with h1 | h1
       · rw [he,mem_iff.2 hi] at h1;cases h1
       · exact h1
     · simp [he] at hl
theorem IE {K look rd:List Nat}:∀ {ds:List DE},LM K look rd ds=true->∀ f∈ds,(∀ t,f.dst=some t->t∈look->iQ K f.r=true)/\∀ i B,i∈rd->fD f.wr i=some B->kQ K B=true
 | [],_,f,hf=>by cases hf
 | g::r,h,f,hf=>by
   simp only [LM,Bool.and_eq_true] at h
   rcases List.mem_cons.1 hf with rfl | hf
   · refine ⟨fun t ht hl=>?_,fun i B hi hb=>zQ h.2.1 hi hb⟩
     have h1:=h.1
     rw [ht] at h1
     simp only [Bool.or_eq_true] at h1
     rcases h1 with h1 | h1
     · rw [mem_iff.2 hl] at h1;cases h1
     · exact h1
   · exact IE h.2.2 f hf
def Rch (s0:St) (ds:List DE) (s:St):Prop:=∀ e∈ds,∀ d∈ds,stat s0 ds e d=true->clean e.kl d s
theorem Il (s0:St) (ds:List DE):Rch s0 ds s0:=by
 intro e _ d _ h
 simp only [stat,Bool.and_eq_true] at h
 exact ⟨Jw h.1,Ie h.2.1⟩
theorem XD {s0:St} {ds:List DE}:∀ f∈ds,∀ s,Rch s0 ds s->Rch s0 ds (f.app s):=by
 intro f hf s hs e he d hd h
 obtain ⟨h1,h2⟩:=hs e he d hd h
 simp only [stat,Bool.and_eq_true] at h
 obtain ⟨g1,g2⟩:=IE h.2.2 f hf
 refine ⟨fun t ht=>?_,fun i hi=>?_⟩
 · rw [tq]
   split
   · rename_i hc
     exact g1 t hc.1 ht
   · rw [zf];exact Bd _ _ _ (h1 t ht)
 · rw [tH]
   cases hl:fD f.wr i with
   | some B=>exact g2 i B hi hl
   | none=>exact Ow (h2 i hi)
def vP (s0:St) (ds:List DE) (e d:DE):Bool:=match e.kl,d.kl with
 | [],[]=>true
 | _,_=>stat s0 ds e d&&stat s0 ds d e
theorem EZ {s0:St} {ds:List DE} {e d:DE} (he:e∈ds) (hd:d∈ds) (h:vP s0 ds e d=true):(∀ s,Rch s0 ds s->Aw e d s)/\∀ s,Rch s0 ds s->Aw d e s:=by
 unfold vP at h
 split at h
 · rename_i h1 h2
   refine ⟨fun s _=>⟨fun t _=>by rw [h1];rfl,fun i _=>by rw [h1,jq,eD]⟩,fun s _=>⟨fun t _=>by rw [h2];rfl,fun i _=>by rw [h2,jq,eD]⟩⟩
 · simp only [Bool.and_eq_true] at h
   exact ⟨fun s hs=>GJ (hs e he d hd h.1),fun s hs=>GJ (hs d hd e he h.2)⟩
def EF (s0:St) (ds:List DE) (j:Nat) (d:DE):List DE->Nat->Bool
 | [],_=>true
 | e::r,k=>(!Nat.blt k j||(d.pm.testBit k||vP s0 ds e d))&&EF s0 ds j d r (k+1)
def Z5 (s0:St) (ds:List DE):List DE->Nat->Bool
 | [],_=>true
 | d::r,j=>EF s0 ds j d ds 0&&Z5 s0 ds r (j+1)
def Xo:List DE->Bool
 | []=>true
 | d::r=>(match d.kl with | []=>true | _=>false)&&Xo r
def U4 (s0:St) (ds:List DE):Bool:=Xo ds||Z5 s0 ds ds 0
def Y7 (s0:St) (ds:List DE):Prop:=∀ k j dk dj,k<j->ds[k]? = some dk->ds[j]? = some dj->dj.pm.testBit k=true∨vP s0 ds dk dj=true
theorem Js {s0:St} {ds:List DE} {j:Nat} {d:DE}:∀ {l:List DE} {p:Nat},EF s0 ds j d l p=true->∀ k e,l[k]? = some e->p+k<j->d.pm.testBit (p+k)=true∨vP s0 ds e d=true
 | [],_,_,k,e,hk,_=>by simp at hk
 | a::r,p,h,k,e,hk,hj=>by
   simp only [EF,Bool.and_eq_true,Bool.or_eq_true] at h
   cases k with
   | zero =>
     simp at hk
     subst hk
     rcases h.1 with h1 | h1
     · exfalso
       have:Nat.blt p j=true:=by rw [Nat.blt_eq];omega
       rw [this] at h1;cases h1
     · exact h1
   | succ k =>
     have:=Js h.2 k e (by simpa using hk) (by omega)
     rwa [show p+1+k=p+(k+1) by omega] at this
theorem UO {s0:St} {ds:List DE}:∀ {l:List DE} {p:Nat},Z5 s0 ds l p=true->∀ j d,l[j]? = some d->∀ k e,ds[k]? = some e->k<p+j->d.pm.testBit k=true∨vP s0 ds e d=true
 | [],_,_,j,d,hj=>by simp at hj
 | a::r,p,h,j,d,hj=>by
   simp only [Z5,Bool.and_eq_true] at h
   intro k e hk hkj
   cases j with
   | zero =>
     simp at hj
     subst hj
     have:=Js h.1 k e hk (by omega)
     simpa using this
   | succ j=>exact UO h.2 j d (by simpa using hj) k e hk (by omega)
theorem Fx:∀ {l:List DE},Xo l=true->∀ d∈l,d.kl=[]
 | [],_,d,hd=>by cases hd
 | a::r,h,d,hd=>by
   simp only [Xo,Bool.and_eq_true] at h
   rcases List.mem_cons.1 hd with rfl | hd
   · have h1:=h.1
     split at h1
     · assumption
     · cases h1
   · exact Fx h.2 d hd
theorem Tc {s0:St} {ds:List DE} (h:U4 s0 ds=true):Y7 s0 ds:=by
 intro k j dk dj hkj hk hj
 simp only [U4,Bool.or_eq_true] at h
 rcases h with h | h
 · right
   unfold vP
   rw [Fx h dk (List.mem_of_getElem? hk),Fx h dj (List.mem_of_getElem? hj)]
 · exact UO h j dj hj k dk hk (by omega)
def aaC (P:Program) (ops:Array Oper) (o:Oper) (d:DE) (s:St):Prop :=
 ∀ H E w a (K:Act->World->Prop) (Q:Exit->Act->World->Prop),Conc H E w s.m->aA s.t H E a.tmps.toList->a.defers=[] ->
  (∀ v w' H' E',Rel d.r H' E' v->Conc H' E' w' (dx d.wr (dN d.kl s.m))->bF d.kl H E w H' E' w'->K (a.put o.dst v) w') ->
  if Region.wanted o (yielded ops a.tmps) then o.wp P a w K Q∨(o.asks P a w/\LetsOut Q) else K (a.put o.dst undef) w
def iB (o:Oper):List Nat:=(o.after.toList.filter fun e=>Region.binds .any e).map (·.on)
theorem Df {o:Oper} {k:Nat}:k∈iB o↔∃ e∈o.after,Region.binds .any e=true/\e.on=k:=by
 simp [iB,and_assoc]
def below (q k:Nat):Bool:=Nat.blt k q
structure DOk (P:Program) (ops:Array Oper) (s0:St) (n:Nat) (ds:List DE):Prop where
 size:ds.length=n
 step:∀ j d,j<n->ds[j]? = some d->∃ o,ops[j]? = some o/\d.dst=o.dst/\(∀ k∈iB o,k<j) /\
  (∀ k,d.pm.testBit k=true->k<j/\(k∈iB o∨∃ e de,e∈iB o/\ds[e]? = some de/\de.pm.testBit k=true)) /\
  (∀ k dk,k<j->ds[k]? = some dk->d.pm.testBit k=true∨compat dk d=true) /\
  (∀ s',alike d (dI ds 0 (below j) s0) s'->aaC P ops o d s')
theorem DOk.pm {P:Program} {ops:Array Oper} {s0:St} {n:Nat} {ds:List DE} (h:DOk P ops s0 n ds) {X:Nat->Bool} (hX:∀ j d o,ds[j]? = some d->ops[j]? = some o->X j=true->∀ k∈iB o,X k=true) :
 ∀ (m j:Nat) (d:DE) (o:Oper),j<m->ds[j]? = some d->ops[j]? = some o->(∀ k∈iB o,X k=true)->∀ k,d.pm.testBit k=true->X k=true:=by
 intro m
 induction m with
 | zero=>intro j d o h0;omega
 | succ m ih =>
   intro j d o hj hd ho hk k hb
   have hjn:j<n:=by rw [<- h.size];exact (List.getElem?_eq_some_iff.1 hd).1
   obtain ⟨o',ho',hdst,he,hpm,_⟩:=h.step j d hjn hd
   rw [ho] at ho';cases ho'
   obtain ⟨_,hb'⟩:=hpm k hb
   rcases hb' with hb' | ⟨e,de,hme,hde,hbit⟩
   · exact hk k hb'
   · have hej:=he e hme
     have hen:e<n:=by omega
     obtain ⟨oe,hoe,_⟩:=h.step e de hen hde
     exact ih e de oe (by omega) hde hoe (hX e de oe hde hoe (hk e hme)) k hbit
def left (X:Nat->Bool):Nat->Nat
 | 0=>0
 | n+1=>left X n+(match X n with | true=>0 | false=>1)
theorem JD (X:Nat->Bool) (q:Nat) (hq:X q=false):∀ n,left (ins X q) n+(if q<n then 1 else 0)=left X n
 | 0=>by simp [left]
 | n+1=>by
   have ih:=JD X q hq n
   have h1:ins X q n=if n=q then true else X n:=rfl
   simp only [left]
   rw [h1]
   by_cases h:n=q
   · subst h
     rw [if_neg (Nat.lt_irrefl _)] at ih
     rw [if_pos (Nat.lt_succ_self _),if_pos rfl,hq]
     simp only
     omega
   · rw [if_neg h]
     by_cases h1:q<n
     · rw [if_pos h1] at ih;rw [if_pos (by omega)];omega
     · rw [if_neg h1] at ih;rw [if_neg (by omega)];omega
theorem D9 (X:Nat->Bool):∀ n,left X n=0->∀ k,k<n->X k=true
 | 0,_,k,hk=>by omega
 | n+1,h,k,hk=>by
   simp only [left] at h
   rcases Nat.lt_or_ge k n with h1 | h1
   · exact D9 X n (by omega) k h1
   · have:k=n:=by omega
     subst this
     cases hx:X k
     · rw [hx] at h;simp at h
     · rfl
theorem Conc.eqv {H:HH} {E:Env} {w:World} {M M':List ay} (h:Conc H E w M) (hm:∀ i,getM M i=getM M' i):Conc H E w M' :=
 ⟨h.imm,h.tf,fun i=>by rw [<- hm];exact h.blk i,h.injH,h.sepH,h.ltS⟩
theorem KW {P:Program} {ops:Array Oper} {s0:St} {ds:List DE} (h:DOk P ops s0 ops.size ds) (hreg:Y7 s0 ds) {MV:List Nat} (hMV:∀ d∈ds,∀ i∈d.kl,i∈MV) {Q:Exit->Act->World->Prop} :
 ∀ (fuel:Nat) (listed:Array Bool) (H:HH) (E:Env) (w:World) (a:Act),listed.size=ops.size ->
  left (fun k=>listed.getD k false) ops.size<=fuel ->
  (∀ j d o,ds[j]? = some d->ops[j]? = some o->listed.getD j false=true->∀ k∈iB o,listed.getD k false=true) ->
  Conc H E w (dI ds 0 (fun k=>listed.getD k false) s0).m->aA (dI ds 0 (fun k=>listed.getD k false) s0).t H E a.tmps.toList->a.defers=[] ->
  (∀ a' w' H' E',a'.defers=[]->aA (dI ds 0 (fun _=>true) s0).t H' E' a'.tmps.toList->Conc H' E' w' (dI ds 0 (fun _=>true) s0).m->bF MV H E w H' E' w'->Q .normal a' w') ->
  wpAny P .any ops Q fuel listed a w:=by
 intro fuel
 have hdone:∀ (listed:Array Bool),listed.size=ops.size->Region.ready .any ops listed=[]->∀ k,k<ops.size->listed.getD k false=true:=by
  intro listed hsz hr k
  induction k using Nat.strongRecOn with
  | ind k ih =>
    intro hk
    cases hl:listed.getD k false with
    | true=>rfl
    | false =>
      exfalso
      have hdk:k<ds.length:=by rw [h.size];exact hk
      obtain ⟨o,ho,_,he,_⟩:=h.step k ds[k] hk (List.getElem?_eq_getElem hdk)
      have:k∈Region.ready .any ops listed:=mem_ready.2 ⟨by
       have:k<listed.size:=by omega
       simp [this] at hl ⊢;exact hl,o,ho,fun e hee hb=>by
       have hk':=he e.on (Df.2 ⟨e,hee,hb,rfl⟩)
       exact ih e.on hk' (by omega)⟩
      rw [hr] at this;cases this
 have hfin:∀ (listed:Array Bool) H E w a,(∀ k,k<ops.size->listed.getD k false=true)->Conc H E w (dI ds 0 (fun k=>listed.getD k false) s0).m->aA (dI ds 0 (fun k=>listed.getD k false) s0).t H E a.tmps.toList->a.defers=[] ->
  (∀ a' w' H' E',a'.defers=[]->aA (dI ds 0 (fun _=>true) s0).t H' E' a'.tmps.toList->Conc H' E' w' (dI ds 0 (fun _=>true) s0).m->bF MV H E w H' E' w'->Q .normal a' w')->Q .normal a w:=by
  intro listed H E w a hall hC hT hd hq
  rw [m_ ds 0 (Y:=fun _=>true) s0 fun k _ hk=>hall k (by rw [<- h.size];omega)] at hC hT
  exact hq a w H E hd hT hC (bF.refl _ _ _ _)
 induction fuel with
 | zero =>
   intro listed H E w a hsz hf hX hC hT hd hq
   have hall:=D9 _ _ (Nat.le_zero.1 hf)
   refine ⟨?_,hfin listed H E w a hall hC hT hd hq⟩
   cases hr:Region.ready .any ops listed with
   | nil=>rfl
   | cons i r =>
     exfalso
     have hi:i∈Region.ready .any ops listed:=by rw [hr];simp
     obtain ⟨hun,o,ho,_⟩:=mem_ready.1 hi
     have hlt:=(Array.getElem?_eq_some_iff.1 ho).1
     have:=hall i hlt
     have hil:i<listed.size:=by omega
     simp [hil] at hun this
     rw [hun] at this;cases this
 | succ fuel ih =>
   intro listed H E w a hsz hf hX hC hT hd hq
   refine ⟨fun hr=>hfin listed H E w a (hdone listed hsz hr) hC hT hd hq,fun i hi=>?_⟩
   obtain ⟨hun,o,ho,hall⟩:=mem_ready.1 hi
   have hlt:=(Array.getElem?_eq_some_iff.1 ho).1
   have hil:i<listed.size:=by omega
   have hXi:listed.getD i false=false:=by simp [hil] at hun ⊢;exact hun
   have hdl:i<ds.length:=by rw [h.size];exact hlt
   have hdi:ds[i]? = some ds[i]:=List.getElem?_eq_getElem hdl
   generalize ds[i]=d at hdi
   obtain ⟨o',ho',hdst,hed,hpm,hcm,hstep⟩:=h.step i d hlt hdi
   rw [ho] at ho';cases ho'
   have hpred:∀ k∈iB o,listed.getD k false=true:=fun k hk=>by
    obtain ⟨e,he,hb,rfl⟩:=Df.1 hk
    exact hall e he hb
   have hpmX:=h.pm (X:=fun k=>listed.getD k false) hX (i+1) i d o (by omega) hdi ho hpred
   have hlt':∀ {k dk},ds[k]? = some dk->k<ops.size:=fun {k dk} hk=>by rw [<- h.size];exact (List.getElem?_eq_some_iff.1 hk).1
   -- later ones that went by are not bound to i
   have hlater:∀ k dk,ds[k]? = some dk->i<k->listed.getD k false=true->compat d dk=true/\vP s0 ds d dk=true:=by
    intro k dk hk hik hXk
    obtain ⟨ok,hok,_,_,_,hcm',_⟩:=h.step k dk (hlt' hk) hk
    have hno:¬ dk.pm.testBit i=true:=by
     intro hb
     have:=h.pm (X:=fun k=>listed.getD k false) hX (k+1) k dk ok (by omega) hk hok (hX k dk ok hk hok hXk) i hb
     rw [show listed.getD i false=true from this] at hXi;cases hXi
    exact ⟨(hcm' i d hik hdi).resolve_left hno,(hreg i k d dk hik hdi hk).resolve_left hno⟩
   have hearlier:∀ k dk,ds[k]? = some dk->k<i->listed.getD k false=false->compat dk d=true/\vP s0 ds dk d=true:=by
    intro k dk hk hki hXk
    have hno:¬ d.pm.testBit k=true:=by
     intro hb
     have:=hpmX k hb
     rw [show listed.getD k false=true from this] at hXk;cases hXk
    exact ⟨(hcm k dk hki hk).resolve_left hno,(hreg k i dk d hki hk hdi).resolve_left hno⟩
   have hmem:∀ {k dk},ds[k]? = some dk->dk∈ds:=fun hk=>List.mem_of_getElem? hk
   have hag:alike d (dI ds 0 (below i) s0) (dI ds 0 (fun k=>listed.getD k false) s0):=by
    refine kM (Rch s0 ds) ds 0 _ _ d s0 s0 XD (Il _ _) (Il _ _) (alike.refl _ _) (fun _ _ _ _ _=>alike.refl _ _) ?_ ?_
    · intro k dk hk hz hy
      simp only [Nat.zero_add,below,Nat.blt_eq] at hz hy
      obtain ⟨hc,hp⟩:=hearlier k dk hk hz hy
      refine ⟨(EZ (hmem hk) (hmem hdi) hp).1,(qN hc).1,fun j dj hkj hj hYj _=>?_⟩
      simp only [Nat.zero_add] at hYj
      obtain ⟨oj,hoj,_,_,_,hcm',_⟩:=h.step j dj (hlt' hj) hj
      have hno:¬ dj.pm.testBit k=true:=by
       intro hb
       have:=h.pm (X:=fun k=>listed.getD k false) hX (j+1) j dj oj (by omega) hj hoj (hX j dj oj hj hoj hYj) k hb
       rw [show listed.getD k false=true from this] at hy;cases hy
      exact ⟨(EZ (hmem hk) (hmem hj) ((hreg k j dk dj hkj hk hj).resolve_left hno)).1,(qN ((hcm' k dk hkj hk).resolve_left hno)).1⟩
    · intro k dk hk hz hy
      simp only [Nat.zero_add,below] at hz hy
      have hz':¬ k<i:=by rw [<- Nat.blt_eq,hz];simp
      have hne:k≠i:=fun e=>by subst e;rw [hXi] at hy;cases hy
      obtain ⟨hc,hp⟩:=hlater k dk hk (by omega) hy
      refine ⟨(EZ (hmem hdi) (hmem hk) hp).2,(qN hc).2,fun j dj hkj hj _ hZj=>?_⟩
      simp only [Nat.zero_add,below,Nat.blt_eq] at hZj
      omega
   have hins:(dI ds 0 (fun k=>(listed.setIfInBounds i true).getD k false) s0).eqv (d.app (dI ds 0 (fun k=>listed.getD k false) s0)):=by
    have e:(fun k=>(listed.setIfInBounds i true).getD k false)=ins (fun k=>listed.getD k false) i:=by
     funext k
     simp only [ins]
     by_cases hk:k=i
     · subst hk;simp [hil]
     · rw [if_neg hk];exact getD_set_ne false (Ne.symm hk)
    rw [e]
    exact Du ds 0 _ i d s0 (Nat.zero_le _) (by simpa using hdi) hXi fun k dk hk hik hXk=>by
     simp only [Nat.zero_add] at hik hXk
     exact Jr (hlater k dk hk hik hXk).1
   have hst:=hstep _ hag
   unfold wpOp
   simp only [ho]
   refine hst H E w a _ Q hC hT hd fun v w' H' E' hr hC' hE'=>?_
   have hT':aA (d.app (dI ds 0 (fun k=>listed.getD k false) s0)).t H' E' (a.put o.dst v).tmps.toList:=by
    show aA (Cq (Cy d.kl _) d.dst d.r) H' E' _
    rw [hdst]
    exact rR (hE'.acD hT) hr
   refine ih (listed.setIfInBounds i true) H' E' w' _ (by simp [hsz]) ?_ ?_ ?_ ?_ (by rw [put_defers];exact hd) ?_
   · have hl:=JD (fun k=>listed.getD k false) i hXi ops.size
     rw [if_pos hlt] at hl
     have e:(fun k=>(listed.setIfInBounds i true).getD k false)=ins (fun k=>listed.getD k false) i:=by
      funext k
      simp only [ins]
      by_cases hk:k=i
      · subst hk;simp [hil]
      · rw [if_neg hk];exact getD_set_ne false (Ne.symm hk)
     rw [e];omega
   · intro j dj oj hj hoj hXj k hk
     by_cases hji:j=i
     · subst hji
       rw [ho] at hoj;cases hoj
       exact getD_set_true (hpred k hk)
     · rw [getD_set_ne false (Ne.symm hji)] at hXj
       exact getD_set_true (hX j dj oj hj hoj hXj k hk)
   · exact hC'.eqv fun k=>(hins.2 k).symm
   · rw [hins.1];exact hT'
   · intro a2 w2 H2 E2 h1 h2 h3 h4
     exact hq a2 w2 H2 E2 h1 h2 h3 (hE'.trans h4 (hMV d (List.mem_of_getElem? hdi)))
theorem Ph {H:HH} {E:Env} {w:World} {M:List ay} (h:Conc H E w M) (n:Nat):Conc H E { w with drawn:=n } M:=by
 refine ⟨h.imm,h.tf,fun i=>?_,h.injH,h.sepH,h.ltS⟩
 have:=(h.blk i).move (f:=some) (E':=E) (H':=H) (w':={ w with drawn:=n }) (i':=i) (HH.le_refl _) (fun a c hc hl=>by cases hc;exact ⟨hl,rfl,rfl,rfl⟩) rfl rfl rfl rfl (fun _=>Iff.rfl) fun _ _=>rfl
 rwa [eD] at this
theorem D5:∀ (l:List DE) (p:Nat) (s:St),(∀ i∈s.mv,i∈(dI l p (fun _=>true) s).mv)/\∀ d∈l,∀ i∈d.kl,i∈(dI l p (fun _=>true) s).mv
 | [],_,s=>⟨fun _ h=>h,fun d hd=>by cases hd⟩
 | e::r,p,s=>by
   obtain ⟨h1,h2⟩:=D5 r (p+1) (e.app s)
   refine ⟨fun i hi=>h1 i (FR i hi),fun d hd i hi=>?_⟩
   rcases List.mem_cons.1 hd with rfl | hd
   · exact h1 i (by simp [DE.app,St.app,DE.pV,hi])
   · exact h2 d hd i hi
theorem bS.drawn {P:Program} {ops:Array Oper} {id:Nat} {s0:St} {ds:List DE} (hm:P.follows .mixedOrders=true) (h:DOk P ops s0 ops.size ds) (hreg:Y7 s0 ds) :
 bS P (.region id ops true) s0 .normal (dI ds 0 (fun _=>true) s0):=by
 obtain ⟨h1,h2⟩:=D5 ds 0 s0
 refine ⟨h1,fun H E w a hC hT hd=>wp_region_any hm ?_⟩
 have e:(fun k=>(Array.replicate ops.size false).getD k false)=fun _=>false:=by
  funext k
  simp only [Array.getD_eq_getD_getElem?,Array.getElem?_replicate]
  split<;>rfl
 have hn:dI ds 0 (fun k=>(Array.replicate ops.size false).getD k false) s0=s0:=by
  rw [e];exact oU ds 0 s0 fun _ _=>rfl
 refine KW h hreg h2 ops.size _ H E { w with drawn:=w.drawn+1 } a (by simp) ?_ ?_ (by rw [hn];exact Ph hC _) (by rw [hn];exact hT) hd ?_
 · have:∀ (X:Nat->Bool) n,left X n<=n:=by
    intro X n
    induction n with
    | zero=>simp [left]
    | succ n ih=>simp only [left];cases X n<;>simp<;>omega
   exact this _ _
 · intro j d o _ _ hj
   rw [show (Array.replicate ops.size false).getD j false=false from congrFun e j] at hj;cases hj
 · intro a' w' H' E' hd' hT' hC' hE'
   refine ⟨H',E',rfl,hd',hT',hC',?_⟩
   exact ⟨hE'.os,hE'.tape,hE'.output,hE'.size,hE'.keep,hE'.own,hE'.hh,hE'.new,hE'.ids⟩
def gN:AV->List Nat
 | .ptr i _ _ _=>[i]
 | .own i _ _ _=>[i]
 | _=>[]
def Lc (t:Nat->AV) (op:Op):List Nat :=
 match op with
 | .load _ a=>gN (ev t a)
 | .store _ a _=>gN (ev t a)
 | .call { callee:=.builtin .append,args,.. }=>args.toList.flatMap fun x=>gN (ev t x)
 | _=>[]
theorem Gm {h:Option Hint} {rd rd':Nat->ay} {a:AV} {n:Nat} (hr:∀ i∈gN a,rd i=rd' i):tJ h rd a n=tJ h rd' a n:=by
 cases a<;>first | rfl | skip
 rename_i i k sz o
 simp only [tJ,hr i (by simp [gN])]
theorem xS {P:Program} {h:Option Hint} {rd rd':Nat->ay} {t:TypeId} {a:AV} (hr:∀ i∈gN a,rd i=rd' i):yw P h rd t a=yw P h rd' t a:=by
 unfold yw
 have e:∀ n,tJ h rd a n=tJ h rd' a n:=fun n=>Gm hr
 rw [e 1]
 split
 · split
   · rw [e]
   · rfl
 · rfl
theorem kW {P:Program} {h:Option Hint} {rd rd':Nat->ay} {t:TypeId} {a x:AV} (hr:∀ i∈gN a,rd i=rd' i):mM P h rd t a x=mM P h rd' t a x:=by
 cases a with
 | ptr i k sz o =>
   have e:=hr i (by simp [gN])
   cases hc:cellsOf x<;>cases hn:sizeT P t<;>simp [mM,hc,hn,e]
 | _=>rfl
theorem rz {rd rd':Nat->ay} {sz:Nat} {x:AV} (hr:∀ i∈gN x,rd i=rd' i):oD rd sz x=oD rd' sz x:=by
 cases x with
 | own i sz' lo n =>
   have e:=hr i (by simp [gN])
   simp [oD,e]
 | s v =>
   cases v with
   | slice a m c=>cases a<;>cases m<;>cases c<;>rfl
   | _=>rfl
 | _=>rfl
theorem Ce {P:Program} {h:Option Hint} {rd rd':Nat->ay} {nid:Nat} {t:TypeId} {s x:AV} (hs:∀ i∈gN s,rd i=rd' i) (hx:∀ i∈gN x,rd i=rd' i):kY P h rd nid t s x=kY P h rd' nid t s x:=by
 unfold kY
 have e:∀ sz,oD rd sz x=oD rd' sz x:=fun sz=>rz hx
 cases s with
 | own i sz' lo n =>
   have e2:=hs i (by simp [gN])
   cases hu:P.underlying t with
   | none=>rfl
   | some d=>cases d<;>cases lo<;>simp [e,e2]
 | s v =>
   cases v with
   | slice a m c=>cases a<;>cases m<;>cases c<;>simp [e]
   | _=>simp [e]
 | _=>simp [e]
theorem adE {P:Program} {h:Option Hint} {rd rd':Nat->ay} {nid:Nat} {t:Nat->AV} {op:Op} (hr:∀ i∈Lc t op,rd i=rd' i):oK P h rd nid t op=oK P h rd' nid t op:=by
 cases op with
 | load ty a =>
   simp only [Lc] at hr
   simp only [oK,xS hr]
 | store ty a x =>
   simp only [Lc] at hr
   simp only [oK,kW hr]
 | call c =>
   obtain ⟨callee,args,argTypes⟩:=c
   cases callee with
   | value f=>rfl
   | invoke r m=>rfl
   | builtin b =>
     cases b with
     | append =>
       simp only [Lc] at hr
       simp only [oK]
       split
       · rename_i t1 t2 s x h1 h2
         rw [h2] at hr
         rw [Ce (fun i hi=>hr i (by simp [hi])) (fun i hi=>hr i (by simp [hi]))]
       · rfl
     | _=>rfl
 | unOp u _ _=>cases u<;>rfl
 | _=>rfl
theorem DF {h:Option Hint} {nid nid':Nat} {r:AV} {e:Eff} (h1:xW h nid r=some e) (hn:nid ∉ ids e.wr):xW h nid' r=some e:=by
 have key:(∃ ty sz,h=some (.row ty sz)/\r=.s (.slice none 0 0))∨(∀ n,xW h n r=xQ r):=by
  unfold xW
  split
  · exact .inl ⟨_,_,rfl,rfl⟩
  · exact .inr fun _=>rfl
 rcases key with ⟨ty,sz,rfl,rfl⟩ | k
 · simp only [xW] at h1
   cases h1;simp [ids] at hn
 · rw [k] at h1 ⊢;exact h1
theorem yJ {P:Program} {nid nid':Nat} {t:TypeId} {n:Nat} {pa:List (Nat×AV)} {e:Eff} (h1:jv P nid t n pa=some e) (hn:nid ∉ ids e.wr):jv P nid' t n pa=some e:=by
 unfold jv at h1
 repeat' split at h1
 all_goals first | cases h1;simp [ids] at hn | cases h1
theorem I4 {P:Program} {h:Option Hint} {rd:Nat->ay} {nid nid':Nat} {t:TypeId} {s x:AV} {e:Eff} (h1:kY P h rd nid t s x=some e) (hn:nid ∉ ids e.wr):kY P h rd nid' t s x=some e:=by
 have key:(∃ i sz lo n,s=.own i sz lo n)∨(∀ i sz lo n,s≠.own i sz lo n):=by
  cases s with
  | own i sz lo n=>exact .inl ⟨i,sz,lo,n,rfl⟩
  | _=>exact .inr fun _ _ _ _ h=>by cases h
 rcases key with ⟨i,sz,lo,n,rfl⟩ | hs
 · cases lo<;>exact h1
 · exfalso
   unfold kY at h1
   repeat' split at h1
   all_goals first | (cases h1;done) | (cases h1;simp [ids] at hn;done) | exact absurd rfl (hs _ _ _ _)
theorem ZR {P:Program} {h:Option Hint} {rd:Nat->ay} {nid nid':Nat} {t:Nat->AV} {op:Op} {e:Eff} (h1:oK P h rd nid t op=some e) (hn:nid ∉ ids e.wr):oK P h rd nid' t op=some e:=by
 cases op with
 | move x=>exact DF h1 hn
 | assign x=>exact DF h1 hn
 | alloc ty =>
   simp only [oK] at h1
   split at h1
   · cases h1;simp [ids] at hn
   · cases h1
 | box ty x =>
   simp only [oK] at h1
   split at h1
   · cases h1;simp [ids] at hn
   · cases h1
 | buildSlice ty n pa=>exact yJ h1 hn
 | call c =>
   obtain ⟨callee,args,argTypes⟩:=c
   cases callee with
   | value f=>exact h1
   | invoke r m=>exact h1
   | builtin b =>
     cases b with
     | append =>
       simp only [oK] at h1 ⊢
       split at h1
       · split at h1
         · rename_i hq
           rw [if_pos hq]
           exact I4 h1 hn
         · cases h1
       · cases h1
     | _=>exact h1
 | unOp u _ _=>cases u<;>exact h1
 | _=>exact h1
structure CE where
 r:AV
 rd:List Nat
 wr:List (Nat×ay)
 kl:List Nat
 ob:List Prop
def CE.pV (e:CE) (m:List ay):Stp:=⟨e.r,dx e.wr (dN e.kl m),e.kl,e.ob⟩
def StepT (P:Program) (o:Oper) (t:Nat->AV) (M:List ay) (e:CE):Prop :=
 ∀ H E w a (K:Act->World->Prop) (Q:Exit->Act->World->Prop),Conc H E w M->ji t H E a->a.defers=[] ->
  (∀ v w' H' E',Rel e.r H' E' v->Conc H' E' w' (dx e.wr (dN e.kl M))->bF e.kl H E w H' E' w'->K (a.put o.dst v) w')->o.wp P a w K Q
def uU (kl:List Nat):List (Nat×ay)->List (Nat×ay)
 | []=>[]
 | p::r=>(p.1,match kl with | []=>p.2 | _=>eY (aO kl) p.2)::uU kl r
theorem yB (kl:List Nat) (j:Nat):∀ l,fD (uU kl l) j=(fD l j).map (eY (aO kl))
 | []=>rfl
 | (i,B)::r=>by
   have hb:(match kl with | []=>B | _=>eY (aO kl) B)=eY (aO kl) B:=by
    cases kl with
    | nil=>rw [jq,eD]
    | cons _ _=>rfl
   simp only [uU,fD,yB kl j r,hb]
   cases fD r j with
   | some b=>rfl
   | none=>simp only [Option.map_none];split<;>rfl
theorem sD (kl:List Nat) (wr:List (Nat×ay)) (M:List ay) (j:Nat):getM (dN kl (dx wr M)) j=getM (dx (uU kl wr) (dN kl M)) j:=by
 rw [fI,iN,iN,yB,fI]
 cases fD wr j<;>rfl
def CF:=Nat->Nat->Oper->(Nat->AV)->(Nat->ay)->Option CE
def EN (P:Program) (cf:CF):Prop :=
 ∀ nid p o t rd e,cf nid p o t rd=some e->Hold e.ob->(∀ k,nid<=k->rd k=.dead)->∀ M,(∀ i∈e.rd,getM M i=rd i)->StepT P o t M e
theorem V7 {P:Program} {hh:Option Hint} {nid:Nat} {o:Oper} {t:Nat->AV} {rd:Nat->ay} {e:Eff} (h:oK P hh rd nid t o.op=some e) (ho:Hold (e.ob.map (· = true))) (hd:∀ k,nid<=k->rd k=.dead) {M:List ay}
 (hM:∀ i∈Lc t o.op++ids e.wr,getM M i=rd i):StepT P o t M ⟨e.r,Lc t o.op++ids e.wr,uU e.kl e.wr,e.kl,e.ob.map (· = true)⟩:=by
 intro H E w a K Q hC hT hdf hk
 obtain ⟨nid',hd',h'⟩:∃ nid',getM M nid'=.dead/\oK P hh (getM M) nid' t o.op=some e:=by
  rw [adE (rd':=getM M) fun i hi=>(hM i (by simp [hi])).symm] at h
  by_cases hn:nid∈ids e.wr
  · exact ⟨nid,(hM nid (by simp [hn])).trans (hd nid (Nat.le_refl _)),h⟩
  · exact ⟨len M,jK _ _ (Nat.le_refl _),ZR h hn⟩
 obtain ⟨n,v,w',E',hrun,hn,hr,hc,hev⟩:=Gs (a:=a) hC hd' hT h' fun b hb=>ho (b=true) (by simp;exact hb)
 have hc:=hc.eqv (sD e.kl e.wr M)
 unfold Oper.wp
 rw [hrun]
 rcases hn with rfl | ⟨rfl,rfl⟩
 · exact hk v w' H E' hr hc hev
 · exact hk undef w' H E' hr hc hev
def wC (l:List Nat) (t:Nat->AV) (i:Nat):AV:=match mem l i with | true=>t i | false=>.junk
theorem Aa {l:List Nat} {t:Nat->AV} {H:HH} {E:Env} {a:Act} (h:ji t H E a):ji (wC l t) H E a:=fun i=>by
 unfold wC
 split
 · exact h i
 · trivial
def Od:List DE->Nat->Nat
 | [],_=>0
 | d::_,0=>d.pm
 | _::l,n+1=>Od l n
theorem LJ:∀ (l:List DE) (n:Nat),Od l n=match l[n]? with | some d=>d.pm | none=>0
 | [],n=>by simp [Od]
 | d::_,0=>rfl
 | _::l,n+1=>by simp only [Od,List.getElem?_cons_succ];exact LJ l n
def Lp (ds:List DE):List Nat->Nat
 | []=>0
 | e::r=>(2 ^ e ||| Od ds e) ||| Lp ds r
theorem Ii {ds:List DE}:∀ {es:List Nat} {k:Nat},(Lp ds es).testBit k=true->∃ e∈es,e=k∨(Od ds e).testBit k=true
 | [],k,h=>by simp [Lp] at h
 | e::r,k,h=>by
   simp only [Lp,Nat.testBit_or,Bool.or_eq_true] at h
   rcases h with (h | h) | h
   · rw [Nat.testBit_two_pow] at h
     exact ⟨e,by simp,.inl (by simpa using h)⟩
   · exact ⟨e,by simp,.inr h⟩
   · obtain ⟨x,hx,h⟩:=Ii h
     exact ⟨x,by simp [hx],h⟩
def Ic:List Nat->Nat->Bool
 | [],_=>true
 | e::r,p=>Nat.blt e p&&Ic r p
theorem wF:∀ {l:List Nat} {p:Nat},Ic l p=true->∀ k∈l,k<p
 | [],_,_,k,hk=>by cases hk
 | e::r,p,h,k,hk=>by
   simp only [Ic,Bool.and_eq_true,Nat.blt_eq] at h
   rcases List.mem_cons.1 hk with rfl | hk
   · exact h.1
   · exact wF h.2 k hk
def oq:List DE->Nat->DE->Bool
 | [],_,_=>true
 | e::r,k,d=>(d.pm.testBit k||compat e d)&&oq r (k+1) d
theorem wm:∀ {l:List DE} {p:Nat} {d:DE},oq l p d=true->∀ k dk,l[k]? = some dk->d.pm.testBit (p+k)=true∨compat dk d=true
 | [],_,_,_,k,dk,hk=>by simp at hk
 | e::r,p,d,h,k,dk,hk=>by
   simp only [oq,Bool.and_eq_true,Bool.or_eq_true] at h
   cases k with
   | zero=>simp at hk;subst hk;exact h.1
   | succ k=>rw [show p+(k+1)=p+1+k by omega];exact wm h.2 k dk (by simpa using hk)
def Hf (P:Program) (t:TypeId) (cs:List AV) (off:Nat):Option AV :=
 match P.underlying t with
 | none=>none
 | some _=>(match isAgg P t,sizeT P t with
   | true,some n=>if Nat.ble (off+n) (len cs) then some (.agg (kL cs off n)) else none
   | false,_=>if Nat.ble (off+1) (len cs) then some (get cs off) else none
   | _,_=>none)
theorem Ao {P:Program} {H:HH} {E:Env} (w:World) {t:TypeId} {cs:List AV} {vs:Array Value} {off:Nat} {a:AV} (h:Hf P t cs off=some a) (hr:aA cs H E vs.toList) :
 ∃ u,(part t vs off).run P w=.ok u w/\Rel a H E u:=by
 have hlen:=aA.length hr
 unfold Hf at h
 split at h
 · cases h
 rename_i d hd
 have hud:∃ d,P.underlying t=some d:=⟨d,hd⟩
 split at h
 · rename_i n ha hn
   split at h
   case isFalse=>cases h
   rename_i hle
   simp only [Nat.ble_eq,len_eq] at hle
   cases h
   refine ⟨.agg (vs.extract off (off+n)),?_,?_⟩
   · simp [part,iG w hud,ha,dz w hn]
   · refine ⟨_,rfl,gB (by simp at hlen;simp [gu];omega) fun j u hj=>?_⟩
     have hjn:j<n:=by
      have:=(List.getElem?_eq_some_iff.1 hj).1
      simp at this;omega
     rw [jy _ _ _ _ hjn]
     refine bn hr _ _ ?_
     simp only [Array.toList_extract,List.extract_eq_take_drop,Nat.add_sub_cancel_left] at hj
     rw [List.getElem?_take,if_pos hjn,List.getElem?_drop] at hj
     exact hj
 · rename_i ha
   split at h
   case isFalse=>cases h
   rename_i hle
   simp only [Nat.ble_eq,len_eq] at hle
   cases h
   have hlt:off<vs.size:=by simp at hlen;omega
   refine ⟨vs[off],?_,bn hr _ _ (by simp [hlt])⟩
   simp [part,iG w hud,ha,hlt]
 · cases h
def eqF (P:Program) (rec:TypeId->AV->AV->Option Bool):List Field->List AV->List AV->Option Bool
 | [],_,_=>some true
 | f::r,xs,ys =>
   if f.name = "_" then eqF P rec r xs ys else
   match Hf P f.type xs f.offset,Hf P f.type ys f.offset with
   | some a,some b=>(match rec f.type a b with
     | some q=>(match eqF P rec r xs ys with | some q2=>some (q&&q2) | none=>none)
     | none=>none)
   | _,_=>none
def eqV (P:Program):Nat->TypeId->AV->AV->Option Bool
 | 0,_,_,_=>none
 | d+1,t,x,y =>
   match P.underlying t,x,y with
   | some (.int _),.s (.int k a),.s (.int k' b)=>if k=k' then some (a==b) else none
   | some .string,.s (.string a),.s (.string b)=>some (a.data.toList==b.data.toList)
   | some .bool,.s (.bool a),.s (.bool b)=>some (a==b)
   | some (.slice _),.s (.slice none 0 0),.s (.slice none 0 0)=>some true
   | some (.slice _),.s (.slice none 0 0),.sl _ _ (_+1) _=>some false
   | some (.slice _),.s (.slice none 0 0),.own _ _ _ (_+1)=>some false
   | some (.slice _),.sl _ _ (_+1) _,.s (.slice none 0 0)=>some false
   | some (.slice _),.own _ _ _ (_+1),.s (.slice none 0 0)=>some false
   | some (.pointer _),.s (.pointer none),.s (.pointer none)=>some true
   | some (.pointer _),.s (.pointer none),.ptr ..=>some false
   | some (.pointer _),.s (.pointer none),.ip ..=>some false
   | some (.pointer _),.ptr ..,.s (.pointer none)=>some false
   | some (.pointer _),.ip ..,.s (.pointer none)=>some false
   | some (.map _ _),.s (.map none),.s (.map none)=>some true
   | some (.func _ _ _),.s .nilFunc,.s .nilFunc=>some true
   | some (.func _ _ _),.s .nilFunc,.fn ..=>some false
   | some (.func _ _ _),.fn ..,.s .nilFunc=>some false
   | some (.interface _),.s .nilIface,.s .nilIface=>some true
   | some (.interface _),.s .nilIface,.ifc ..=>some false
   | some (.interface _),.ifc ..,.s .nilIface=>some false
   | some (.interface _),.ifc tx vx,.ifc ty vy=>if Nat.beq tx ty then (match P.info? tx with
      | some i=>if i.comparable then eqV P d tx vx vy else none
      | none=>none) else some false
   | some (.struct fs),.agg xs,.agg ys=>if P.stoodInHeld t then none else eqF P (eqV P d) fs.toList xs ys
   | _,_,_=>none
theorem J8 {P:Program} {H:HH} {E:Env} (w:World) {rec:TypeId->AV->AV->Option Bool} {D:Nat} (hrec:∀ t a b q u v,rec t a b=some q->Rel a H E u->Rel b H E v->(Op.equalIn D t u v).run P w=.ok q w) :
 ∀ {fs:List Field} {xs ys:List AV} {xv yv:Array Value} {q:Bool},eqF P rec fs xs ys=some q->aA xs H E xv.toList->aA ys H E yv.toList->(Op.eqFields D xv yv fs).run P w=.ok q w
 | [],xs,ys,xv,yv,q,h,_,_=>by simp [eqF] at h;subst h;simp [Op.eqFields]
 | f::r,xs,ys,xv,yv,q,h,hx,hy=>by
   simp only [eqF] at h
   split at h
   · rename_i hn
     simp only [Op.eqFields,hn,ne_eq,not_true_eq_false,if_false]
     exact J8 w hrec h hx hy
   · rename_i hn
     split at h
     case h_2=>cases h
     rename_i a b ha hb
     split at h
     case h_2=>cases h
     rename_i q1 hq1
     split at h
     case h_2=>cases h
     rename_i q2 hq2
     cases h
     obtain ⟨u,hu,hur⟩:=Ao w ha hx
     obtain ⟨v,hv,hvr⟩:=Ao w hb hy
     simp only [Op.eqFields,hn,ne_eq,not_false_eq_true,if_true,Sem.run_bind,hu,hv,Result.andThen_ok,hrec _ _ _ _ _ _ hq1 hur hvr]
     cases q1
     · simp
     · simp;exact J8 w hrec hq2 hx hy
theorem zP {H:HH} {E:Env} {b:Bool} {sz n:Nat} {c:Nat->Nat->AV} {u:Value} (h:Rel (.sl b sz (n+1) c) H E u):∃ ad m k,u=.slice (some ad) m k:=by
 obtain ⟨a,cap,rfl,_,hk⟩:=h
 obtain ⟨ad,rfl,_⟩:=hk (Nat.succ_pos _)
 exact ⟨ad,_,_,rfl⟩
theorem yA {H:HH} {E:Env} {i sz lo n:Nat} {u:Value} (h:Rel (.own i sz lo (n+1)) H E u):∃ ad m k,u=.slice (some ad) m k:=by
 obtain ⟨_,_,hm⟩:=h
 cases hi:E.ι i with
 | none=>rw [hi] at hm;obtain ⟨_,h0,_⟩:=hm;cases h0
 | some b =>
   rw [hi] at hm
   obtain ⟨a,rfl,ha⟩:=hm
   rw [ha.1 (.inr (Nat.succ_pos _))]
   exact ⟨_,_,_,rfl⟩
theorem Fa {P:Program} {H:HH} {E:Env} (w:World):∀ (d D:Nat) (t:TypeId) (a b:AV) (q:Bool) (x y:Value),d<=D->eqV P d t a b=some q->Rel a H E x->Rel b H E y->(Op.equalIn D t x y).run P w=.ok q w
 | 0,_,_,_,_,_,_,_,_,h,_,_=>by simp [eqV] at h
 | d+1,0,_,_,_,_,_,_,hD,_,_,_=>by omega
 | d+1,D+1,t,a,b,q,x,y,hD,h,hx,hy=>by
   simp only [eqV] at h
   split at h
   · rename_i k a k' b hu
     split at h
     case isFalse=>cases h
     rename_i hk
     subst hk
     cases h
     obtain ⟨rfl,_⟩:=hx
     obtain ⟨rfl,_⟩:=hy
     exact run_equalIn_int w D t k _ a b hu
   · rename_i a b hu
     cases h
     obtain ⟨rfl,_⟩:=hx
     obtain ⟨rfl,_⟩:=hy
     rw [run_equalIn_string w D t a b hu,ByteArray.toList_eq,ByteArray.toList_eq]
   · rename_i a b hu
     cases h
     obtain ⟨rfl,_⟩:=hx
     obtain ⟨rfl,_⟩:=hy
     exact run_equalIn_bool' w D t a b hu
   · rename_i hu
     cases h
     obtain ⟨rfl,_⟩:=hx
     obtain ⟨rfl,_⟩:=hy
     simp [Op.equalIn,run_underlying hu]
   · rename_i hu
     cases h
     obtain ⟨rfl,_⟩:=hx
     obtain ⟨_,_,_,rfl⟩:=zP hy
     simp [Op.equalIn,run_underlying hu]
   · rename_i hu
     cases h
     obtain ⟨rfl,_⟩:=hx
     obtain ⟨_,_,_,rfl⟩:=yA hy
     simp [Op.equalIn,run_underlying hu]
   · rename_i hu
     cases h
     obtain ⟨rfl,_⟩:=hy
     obtain ⟨_,_,_,rfl⟩:=zP hx
     simp [Op.equalIn,run_underlying hu]
   · rename_i hu
     cases h
     obtain ⟨rfl,_⟩:=hy
     obtain ⟨_,_,_,rfl⟩:=yA hx
     simp [Op.equalIn,run_underlying hu]
   · rename_i hu
     cases h
     obtain ⟨rfl,_⟩:=hx
     obtain ⟨rfl,_⟩:=hy
     simp [Op.equalIn,run_underlying hu]
   · rename_i hu
     cases h
     obtain ⟨rfl,_⟩:=hx
     obtain ⟨_,b,_,rfl⟩:=hy
     simp [Op.equalIn,run_underlying hu]
   · rename_i hu
     cases h
     obtain ⟨rfl,_⟩:=hx
     obtain ⟨b,rfl,_⟩:=hy
     simp [Op.equalIn,run_underlying hu]
   · rename_i hu
     cases h
     obtain ⟨rfl,_⟩:=hy
     obtain ⟨_,b,_,rfl⟩:=hx
     simp [Op.equalIn,run_underlying hu]
   · rename_i hu
     cases h
     obtain ⟨rfl,_⟩:=hy
     obtain ⟨b,rfl,_⟩:=hx
     simp [Op.equalIn,run_underlying hu]
   · rename_i hu
     cases h
     obtain ⟨rfl,_⟩:=hx
     obtain ⟨rfl,_⟩:=hy
     simp [Op.equalIn,run_underlying hu]
   · rename_i hu
     cases h
     obtain ⟨rfl,_⟩:=hx
     obtain ⟨rfl,_⟩:=hy
     simp [Op.equalIn,run_underlying hu]
   · rename_i hu
     cases h
     obtain ⟨rfl,_⟩:=hx
     obtain ⟨_,_,rfl,_⟩:=hy
     simp [Op.equalIn,run_underlying hu]
   · rename_i hu
     cases h
     obtain ⟨rfl,_⟩:=hy
     obtain ⟨_,_,rfl,_⟩:=hx
     simp [Op.equalIn,run_underlying hu]
   · rename_i hu
     cases h
     obtain ⟨rfl,_⟩:=hx
     obtain ⟨rfl,_⟩:=hy
     simp [Op.equalIn,run_underlying hu]
   · rename_i hu
     cases h
     obtain ⟨rfl,_⟩:=hx
     obtain ⟨_,rfl,_⟩:=hy
     simp [Op.equalIn,run_underlying hu]
   · rename_i hu
     cases h
     obtain ⟨rfl,_⟩:=hy
     obtain ⟨_,rfl,_⟩:=hx
     simp [Op.equalIn,run_underlying hu]
   · rename_i tx vx ty vy hu
     obtain ⟨x',rfl,hx'⟩:=hx
     obtain ⟨y',rfl,hy'⟩:=hy
     split at h
     · rename_i ht
       have ht:=Nat.eq_of_beq_eq_true ht
       subst ht
       split at h
       case h_2=>cases h
       rename_i i hi
       split at h
       case isFalse=>cases h
       rename_i hc
       have:=Fa w d D _ vx vy q x' y' (by omega) h hx' hy'
       simp [Op.equalIn,run_underlying hu,typeInfo,hi,hc,this]
     · rename_i ht
       cases h
       have ht:tx≠ty:=fun e=>ht (by subst e;exact Nat.beq_refl _)
       simp [Op.equalIn,run_underlying hu,ht]
   · rename_i fs xs ys hu
     obtain ⟨xv,rfl,hxr⟩:=hx
     obtain ⟨yv,rfl,hyr⟩:=hy
     split at h
     case isTrue=>cases h
     rename_i hs
     have hf:P.fieldsOf t=fs:=by simp [Program.fieldsOf,hu]
     have hu':P.underlying t=some (.struct (P.fieldsOf t)):=by rw [hf];exact hu
     rw [run_equalIn_struct w D t xv yv hu' (by simpa using hs),hf]
     exact J8 w (fun t a b q u v h1 h2 h3=>Fa w d D t a b q u v (by omega) h1 h2 h3) h hxr hyr
   · cases h
def isConst:Operand->Bool
 | .const _=>true
 | _=>false
def sW:AV->Bool
 | .s (.int ..) | .s (.float ..) | .s (.complex ..) | .s (.string _) | .y _ | .ys .. | .yn .. | .junk | .opt .. | .tup _=>false
 | _=>true
def isNilIface:AV->Bool
 | .s .nilIface=>true
 | _=>false
def EY:AV->Bool
 | .agg _=>true
 | _=>false
def DL (P:Program) (t:TypeId) (x y:Operand) (a b:AV):Bool :=
 sW a&&sW b&&(!(isNilIface a&&isNilIface b)||(isConst x||isConst y))&&(!(EY a&&EY b)||!P.eqGuardType P.depth t)
theorem uX {a:AV} {H:HH} {E:Env} {u:Value} (h:sW a=true) (hr:Rel a H E u):(∀ k n,u≠.int k n)/\(∀ k n,u≠.float k n)/\(∀ k n m,u≠.complex k n m)/\(∀ b,u≠.string b)/\(u=.nilIface->isNilIface a=true)/\(∀ cs,u=.agg cs->EY a=true):=by
 cases a with
 | s v =>
   obtain ⟨rfl,hs⟩:=hr
   cases u<;>simp [sW,scalar] at h hs ⊢<;>rfl
 | y v=>simp [sW] at h
 | ys _ _ _ _=>simp [sW] at h
 | yn _ _ _ _=>simp [sW] at h
 | opt _ _ _=>simp [sW] at h
 | junk=>simp [sW] at h
 | tup cs=>simp [sW] at h
 | ptr i k sz o=>obtain ⟨_,b,_,rfl⟩:=hr;simp
 | own i sz lo n =>
   obtain ⟨_,_,hm⟩:=hr
   cases hi:E.ι i with
   | none=>rw [hi] at hm;obtain ⟨_,_,rfl⟩:=hm;simp
   | some b=>rw [hi] at hm;obtain ⟨a,rfl,_⟩:=hm;simp
 | mref i=>obtain ⟨_,b,_,rfl⟩:=hr;simp
 | sl b sz n c=>obtain ⟨a,cap,rfl,_⟩:=hr;simp
 | ip b m c=>obtain ⟨ad,rfl,_⟩:=hr;simp
 | agg cs=>obtain ⟨vs,rfl,_⟩:=hr;simp [EY]
 | fn f x y=>obtain ⟨a,b,rfl,_⟩:=hr;simp
 | ifc t x=>obtain ⟨a,rfl,_⟩:=hr;simp
theorem run_eq_of {P:Program} {t:TypeId} {u v:Value} {w:World} {q:Bool} (h1:∀ k n,u≠.int k n) (h2:∀ k n,u≠.float k n) (h3:∀ k n m,u≠.complex k n m) (h4:∀ b,u≠.string b) (hq:(Op.equalIn 10000 t u v).run P w=.ok q w) :
 (binOp .eql t u v).run P w=.ok (.bool q) w/\(binOp .neq t u v).run P w=.ok (.bool (!q)) w:=by
 have e1:binOp .eql t u v=(do pure (.bool (<- Op.equal t u v))):=by
  cases u<;>first | exact absurd rfl (h1 _ _) | exact absurd rfl (h2 _ _) | exact absurd rfl (h3 _ _ _) | exact absurd rfl (h4 _) | rfl
 have e2:binOp .neq t u v=(do pure (.bool (!(<- Op.equal t u v)))):=by
  cases u<;>first | exact absurd rfl (h1 _ _) | exact absurd rfl (h2 _ _) | exact absurd rfl (h3 _ _ _) | exact absurd rfl (h4 _) | rfl
 rw [e1,e2]
 unfold Op.equal Op.maxDepth
 simp [hq]
theorem Db {P:Program} {op:BinOp} {t:TypeId} {x y:Operand} {a b:AV} {u v:Value} {H:HH} {E:Env} {w:World} (hop:op=.eql∨op=.neq) (h:DL P t x y a b=true) (hu:Rel a H E u) (hv:Rel b H E v):(eqGuard op t x y u v).run P w=.ok () w:=by
 simp only [DL,Bool.and_eq_true] at h
 obtain ⟨⟨⟨ha,hb⟩,hn⟩,hg⟩:=h
 obtain ⟨_,_,_,_,a5,a6⟩:=uX ha hu
 obtain ⟨_,_,_,_,b5,b6⟩:=uX hb hv
 by_cases hnn:u=.nilIface/\v=.nilIface
 · obtain ⟨rfl,rfl⟩:=hnn
   rw [a5 rfl,b5 rfl] at hn
   simp at hn
   rcases hop with rfl | rfl<;>cases x<;>cases y<;>simp [isConst] at hn<;>simp [eqGuard]
 · by_cases hag:∃ xs ys,u=.agg xs/\v=.agg ys
   · obtain ⟨xs,ys,rfl,rfl⟩:=hag
     rw [a6 _ rfl,b6 _ rfl] at hg
     exact run_eqGuard_agg w op t x y xs ys (by simpa using hg)
   · rcases hop with rfl | rfl<;>unfold eqGuard<;>simp only [Bool.not_true,Bool.false_eq_true,if_false] <;>
      (split<;>first | rfl | exact absurd ⟨rfl,rfl⟩ hnn | exact absurd ⟨_,_,rfl,rfl⟩ hag)
def Gu (h:Option Hint) (q:Bool):CE :=
 match h with
 | some (.b y)=>⟨.s (.bool y),[],[],[],[agree y q=true]⟩
 | _=>⟨.s (.bool q),[],[],[],[]⟩
theorem BR {P:Program} {o:Oper} {t:Nat->AV} {M:List ay} {r:AV} {rd:List Nat} {ob:List Prop} (h:∀ H E w a,Conc H E w M->ji t H E a->∃ v,(execOp a.eval o).run P w=.ok (.value v) w/\Rel r H E v):StepT P o t M ⟨r,rd,[],[],ob⟩:=by
 intro H E w a K Q hC hT hd hk
 obtain ⟨v,hv,hr⟩:=h H E w a hC hT
 unfold Oper.wp
 rw [hv]
 exact hk v w H E hr hC (bF.refl _ _ _ _)
theorem Gh {P:Program} {o:Oper} {t:Nat->AV} {M:List ay} {h:Option Hint} {q:Bool} (hq:∀ H E w a,Conc H E w M->ji t H E a->(execOp a.eval o).run P w=.ok (.value (.bool q)) w) (ho:Hold (Gu h q).ob):StepT P o t M (Gu h q):=by
 unfold Gu at ho ⊢
 split
 · rename_i y
   refine BR fun H E w a hC hT=>⟨_,hq H E w a hC hT,?_⟩
   have:=ho (agree y q=true) (by simp)
   cases y<;>cases q<;>first | exact ⟨rfl,rfl⟩ | simp [agree] at this
 · exact BR fun H E w a hC hT=>⟨_,hq H E w a hC hT,rfl,rfl⟩
def eqX (P:Program) (hh:Nat->Option Hint):CF:=fun _ p o t _ =>
 match o.op with
 | .binOp .eql ty x y _=>(match DL P ty x y (ev t x) (ev t y) with
   | true=>(match eqV P 12 ty (ev t x) (ev t y) with | some q=>some (Gu (hh p) q) | none=>none)
   | false=>none)
 | .binOp .neq ty x y _=>(match DL P ty x y (ev t x) (ev t y) with
   | true=>(match eqV P 12 ty (ev t x) (ev t y) with | some q=>some (Gu (hh p) (!q)) | none=>none)
   | false=>none)
 | _=>none
theorem EP (P:Program) (hh:Nat->Option Hint):EN P (eqX P hh):=by
 intro nid p o t rd e h ho hd M hM
 unfold eqX at h
 split at h
 · rename_i ty x y f hop
   split at h
   case h_2=>cases h
   rename_i hg
   split at h
   case h_2=>cases h
   rename_i q hq
   cases h
   refine Gh (fun H E w a hC hT=>?_) ho
   have hx:=aM hT x
   have hy:=aM hT y
   have hg':=Db (op:=.eql) (w:=w) (.inl rfl) hg hx hy
   simp only [DL,Bool.and_eq_true] at hg
   obtain ⟨a1,a2,a3,a4,_⟩:=uX hg.1.1.1 hx
   have:=(run_eq_of a1 a2 a3 a4 (Fa w 12 10000 ty _ _ q _ _ (by omega) hq hx hy)).1
   simp [execOp,hop,hg',this]
 · rename_i ty x y f hop
   split at h
   case h_2=>cases h
   rename_i hg
   split at h
   case h_2=>cases h
   rename_i q hq
   cases h
   refine Gh (fun H E w a hC hT=>?_) ho
   have hx:=aM hT x
   have hy:=aM hT y
   have hg':=Db (op:=.neq) (w:=w) (.inr rfl) hg hx hy
   simp only [DL,Bool.and_eq_true] at hg
   obtain ⟨a1,a2,a3,a4,_⟩:=uX hg.1.1.1 hx
   have:=(run_eq_of a1 a2 a3 a4 (Fa w 12 10000 ty _ _ q _ _ (by omega) hq hx hy)).2
   simp [execOp,hop,hg',this]
 · cases h
def orE (a b:CF):CF:=fun nid p o t rd=>match a nid p o t rd with | some e=>some e | none=>b nid p o t rd
theorem acG {P:Program} {a b:CF} (ha:EN P a) (hb:EN P b):EN P (orE a b):=by
 intro nid p o t rd e h ho hd M hM
 unfold orE at h
 split at h
 · rename_i h1
   cases h
   exact ha _ _ _ _ _ _ h1 ho hd M hM
 · exact hb _ _ _ _ _ _ h ho hd M hM
def ZA (P:Program) (hh:Nat->Option Hint):CF:=eqX P hh
theorem aap (P:Program) (hh:Nat->Option Hint):EN P (ZA P hh):=EP P hh
def wP (L:List Nat) (i:Nat):Option Nat:=match mem L i with | true=>some i | false=>none
def Hw (L:List Nat) (rd:Nat->ay):Nat->Nat->List ay
 | _,0=>[]
 | i,n+1=>(match mem L i with | true=>eY (wP L) (rd i) | false=>.dead)::Hw L rd (i+1) n
theorem C_ (L:List Nat) (rd:Nat->ay):∀ (n i j:Nat),getM (Hw L rd i n) j=if j<n then (match mem L (i+j) with | true=>eY (wP L) (rd (i+j)) | false=>.dead) else .dead
 | 0,i,j=>by simp [Hw,dJ]
 | n+1,i,0=>by simp [Hw,getM]
 | n+1,i,j+1=>by
   simp only [Hw,getM,C_ L rd n (i+1) j,Nat.add_lt_add_iff_right]
   rw [show i+1+j=i+(j+1) by omega]
def sG (L:List Nat) (nid:Nat):Nat->List ay->Bool
 | _,[]=>true
 | i,B::r=>(match Nat.ble nid i with | true=>true | false=>mem L i||(match B with | .dead=>true | _=>false))&&sG L nid (i+1) r
theorem z_ {L:List Nat} {nid:Nat}:∀ {M:List ay} {p:Nat},sG L nid p M=true->∀ j,p+j<nid->mem L (p+j)=false->getM M j=.dead
 | [],p,_,j,_,_=>dJ j
 | B::r,p,h,0,hj,hm=>by
   simp only [sG,Bool.and_eq_true] at h
   have hn:Nat.ble nid p=false:=by
    cases hb:Nat.ble nid p with
    | false=>rfl
    | true=>have:=Nat.le_of_ble_eq_true hb;omega
   rw [hn] at h
   simp only [Bool.or_eq_true] at h
   have hm:mem L p=false:=hm
   rw [hm] at h
   simp only [getM]
   cases B<;>simp at h<;>rfl
 | B::r,p,h,j+1,hj,hm=>by
   simp only [sG,Bool.and_eq_true] at h
   exact z_ h.2 j (by omega) (by rw [show p+1+j=p+(j+1) by omega];exact hm)
def pairs (M:List ay):List Nat->List (Nat×ay)
 | []=>[]
 | i::r=>(i,getM M i)::pairs M r
def uG (a:Nat):Nat->List Nat
 | 0=>[]
 | n+1=>a::uG (a+1) n
theorem oO:∀ {n a i:Nat},mem (uG a n) i=true↔a<=i/\i<a+n
 | 0,a,i=>by simp [uG,mem]
 | n+1,a,i=>by
   simp only [uG,mem,Bool.or_eq_true,Nat.beq_eq,oO (n:=n)]
   omega
theorem qR (M:List ay) (j:Nat):∀ (l:List Nat),fD (pairs M l) j=match mem l j with | true=>some (getM M j) | false=>none
 | []=>rfl
 | i::r=>by
   simp only [pairs,fD,qR M j r,mem]
   cases hm:mem r j with
   | true=>simp
   | false =>
     by_cases hij:i=j
     · subst hij;simp
     · have:Nat.beq i j=false:=by
        cases hb:Nat.beq i j with
        | false=>rfl
        | true=>exact absurd (Nat.eq_of_beq_eq_true hb) hij
       simp [hij,this]
theorem xu (M:List ay):∀ l,ids (pairs M l)=l
 | []=>rfl
 | i::r=>by simp [pairs,ids,xu M r]
theorem Es (a b:List (Nat×ay)) (j:Nat):fD (a++b) j=match fD b j with | some B=>some B | none=>fD a j:=by
 induction a with
 | nil=>simp only [List.nil_append,fD];cases fD b j<;>rfl
 | cons p r ih =>
   obtain ⟨i,B⟩:=p
   simp only [List.cons_append,fD,ih]
   cases fD b j<;>rfl
def FX (L:List Nat) (nid n j:Nat):Bool:=mem L j||(Nat.ble nid j&&Nat.blt j n)
def wrS (L:List Nat) (nid:Nat) (M':List ay):List (Nat×ay):=pairs M' L++pairs M' (uG nid (len M' - nid))
theorem PI (L:List Nat) (nid:Nat) (M':List ay) (j:Nat):fD (wrS L nid M') j=match FX L nid (len M') j with | true=>some (getM M' j) | false=>none:=by
 unfold wrS
 rw [Es,qR,qR]
 have e:mem (uG nid (len M' - nid)) j=(Nat.ble nid j&&Nat.blt j (len M')):=by
  rw [Bool.eq_iff_iff,oO]
  simp only [Bool.and_eq_true,Nat.ble_eq,Nat.blt_eq]
  omega
 rw [e,FX]
 cases (Nat.ble nid j&&Nat.blt j (len M'))<;>cases mem L j<;>rfl
def wS (L:List Nat):List Nat->List Nat->List Nat
 | acc,[]=>acc
 | acc,i::r=>match mem L i&&!mem acc i with | true=>wS L (i::acc) r | false=>wS L acc r
theorem wY {L:List Nat}:∀ {l acc:List Nat},(∀ i∈acc,i∈wS L acc l)/\∀ i∈l,mem L i=true->i∈wS L acc l
 | [],acc=>⟨fun _ h=>h,fun _ h=>by cases h⟩
 | j::r,acc=>by
   simp only [wS]
   split
   · obtain ⟨h1,h2⟩:=wY (L:=L) (l:=r) (acc:=j::acc)
     refine ⟨fun i hi=>h1 i (by simp [hi]),fun i hi hm=>?_⟩
     rcases List.mem_cons.1 hi with rfl | hi
     · exact h1 i (by simp)
     · exact h2 i hi hm
   · rename_i hc
     obtain ⟨h1,h2⟩:=wY (L:=L) (l:=r) (acc:=acc)
     refine ⟨h1,fun i hi hm=>?_⟩
     rcases List.mem_cons.1 hi with rfl | hi
     · rw [hm,Bool.true_and,Bool.not_eq_false'] at hc
       exact h1 i (mem_iff.1 hc)
     · exact h2 i hi hm
theorem dD.sub {P:Program} {f:FuncId} {args:List AV} {r:AV} {mv mv' L:List Nat} {nid:Nat} {M M':List ay} {rd:Nat->ay} (hM:∀ i∈L,getM M i=rd i) (hL:∀ i∈L,i<nid)
 (h:dD P f (gY (wP L) args) (Hw L rd 0 nid) r M' mv) (hlow:sG L nid 0 M'=true) (hnew:∀ j,nid<=j->j<len M'->getM M j=.dead) (hmv:∀ i∈mv,mem L i=true->i∈mv') :
 dD P f args M r (dx (wrS L nid M') (dN mv' M)) mv':=by
 intro H E w vals hC hargs
 have hvia:E.via ⟨fun i=>mem L i&&E.lv i,E.ι,E.κ,E.η,E.σ⟩ (wP L):=by
  intro i j hij hl
  unfold wP at hij
  split at hij
  · rename_i hm
    cases hij
    exact ⟨by simp [hm,hl],rfl,rfl,rfl⟩
  · cases hij
 have hcut:∀ {i b:Nat},Env.has ⟨fun i=>mem L i&&E.lv i,E.ι,E.κ,E.η,E.σ⟩ i b->mem L i=true/\E.has i b:=by
  rintro i b ⟨h1,h2⟩
  simp only [Bool.and_eq_true] at h1
  exact ⟨h1.1,h1.2,h2⟩
 have hCL:Conc H ⟨fun i=>mem L i&&E.lv i,E.ι,E.κ,E.η,E.σ⟩ w (Hw L rd 0 nid):=by
  refine ⟨hC.imm,hC.tf,fun i=>?_,fun i j b hi hj=>hC.injH i j b (hcut hi).2 (hcut hj).2,fun i b hi=>hC.sepH i b (hcut hi).2,fun i b hi hib=>hC.o9 (hcut ⟨hi,.inr hib⟩).2⟩
  · rw [C_,Nat.zero_add]
    by_cases hi:i<nid
    · rw [if_pos hi]
      cases hm:mem L i with
      | false=>simp only [bV,hm,Bool.false_and]
      | true =>
        simp only []
        rw [<- hM i (mem_iff.1 hm)]
        exact (hC.blk i).move (HH.le_refl _) hvia (by simp [hm]) rfl rfl rfl (fun _=>Iff.rfl) fun _ _=>rfl
    · rw [if_neg hi]
      cases hm:mem L i with
      | false=>simp only [bV,hm,Bool.false_and]
      | true=>exact absurd (hL i (mem_iff.1 hm)) hi
 refine (h H _ w vals hCL (aA.ren _ hvia hargs)).mono ?_
 rintro e w1 ⟨v,H1,E1,rfl,hr,hC1,hE1⟩
 have hin:∀ j,E1.lv j=true->FX L nid (len M') j=true:=by
  intro j hl
  have h1:=hC1.Mx hl
  unfold FX
  cases hm:mem L j with
  | true=>rfl
  | false =>
    simp only [Bool.false_or,Bool.and_eq_true,Nat.ble_eq,Nat.blt_eq]
    refine ⟨?_,h1⟩
    rcases Nat.lt_or_ge j nid with h2 | h2
    · have h3:=z_ hlow j (by omega) (by rw [Nat.zero_add];exact hm)
      have h4:=hC1.blk j
      rw [h3] at h4
      rw [show E1.lv j=false from h4] at hl;cases hl
    · exact h2
 have hout:∀ j,E.lv j=true->mem L j=false->FX L nid (len M') j=false:=by
  intro j hl hm
  unfold FX
  rw [hm,Bool.false_or]
  cases hb:(Nat.ble nid j&&Nat.blt j (len M')) with
  | false=>rfl
  | true =>
    simp only [Bool.and_eq_true,Nat.ble_eq,Nat.blt_eq] at hb
    have h4:=hC.blk j
    rw [hnew j hb.1 hb.2] at h4
    rw [show E.lv j=false from h4] at hl;cases hl
 let E':Env:=⟨fun j=>if FX L nid (len M') j then E1.lv j else E.lv j,fun j=>if FX L nid (len M') j then E1.ι j else E.ι j,fun j=>if FX L nid (len M') j then E1.κ j else E.κ j,fun j=>if FX L nid (len M') j then E1.η j else E.η j,fun j x=>if FX L nid (len M') j then E1.σ j x else E.σ j x⟩
 have ein:∀ j,FX L nid (len M') j=true->E'.lv j=E1.lv j/\E'.ι j=E1.ι j/\E'.κ j=E1.κ j/\E'.η j=E1.η j:=fun j hj=>by simp [E',hj]
 have eout:∀ j,FX L nid (len M') j=false->E'.lv j=E.lv j/\E'.ι j=E.ι j/\E'.κ j=E.κ j/\E'.η j=E.η j:=fun j hj=>by simp [E',hj]
 have hvia1:E1.via E' some:=by
  intro i j hij hl
  cases hij
  obtain ⟨e1,e2⟩:=ein i (hin i hl)
  exact ⟨e1.trans hl,e2⟩
 have hviaE:E.via E' (aO mv'):=by
  intro i j hij hl
  unfold aO at hij
  split at hij
  · cases hij
  rename_i hn
  cases hij
  have hn:i ∉ mv':=by simpa using hn
  cases hm:mem L i with
  | true =>
    obtain ⟨a1,a2,a3,a4⟩:=hE1.ids i (by simp [hm,hl]) fun hi=>hn (hmv i hi hm)
    obtain ⟨e1,e2,e3,e4⟩:=ein i (by simp [FX,hm])
    exact ⟨e1.trans a1,e2.trans a2,e3.trans a3,e4.trans a4⟩
  | false =>
    obtain ⟨e1,e2⟩:=eout i (hout i hl hm)
    exact ⟨e1.trans hl,e2⟩
 have hcase:∀ j b,E'.has j b->(FX L nid (len M') j=true/\E1.has j b)∨(mem L j=false/\E.has j b):=by
  intro j b hl
  cases hj:FX L nid (len M') j with
  | true =>
    refine .inl ⟨rfl,?_⟩
    simpa [Env.has,E',hj] using hl
  | false =>
    refine .inr ⟨?_,by simpa [Env.has,E',hj] using hl⟩
    cases hm:mem L j with
    | false=>rfl
    | true=>simp [FX,hm] at hj
 have hcross:∀ i j b,E1.has i b->mem L j=false->E.has j b->False:=by
  intro i j b h1 h3 h4
  rcases hE1.own i b h1 with ⟨k,hk⟩ | h6
  · obtain ⟨hk1,hk2⟩:=hcut hk
    have:=hC.injH k j b hk2 h4
    subst this
    rw [h3] at hk1;cases hk1
  · have:=hC.o9 h4;omega
 refine ⟨v,H1,E',rfl,?_,⟨hC1.imm,hC1.tf,fun j=>?_,fun i j b hi hj=>?_,fun i b hi=>?_,fun i b hi hib=>?_⟩,⟨hE1.os,hE1.tape,hE1.output,hE1.size,fun b hb hn=>hE1.keep b hb fun i hl=>hn i (hcut hl).2,fun i b hi=>?_,hE1.hh,fun c b o ho=>by
  rcases hE1.new c b o ho with h | h | ⟨k,hk⟩
  · exact .inl h
  · exact .inr (.inl h)
  · exact .inr (.inr ⟨k,(hcut hk).2⟩),fun i hl hn=>?_⟩⟩
 · have:=Rel.ren _ hvia1 hr
   rwa [mg] at this
 · rw [iN,PI,fI]
   cases hj:FX L nid (len M') j with
   | true =>
     obtain ⟨e1,e2,e3,e4⟩:=ein j hj
     have:=(hC1.blk j).move (f:=some) (w':=w1) (i':=j) (HH.le_refl _) hvia1 e1 e2 e3 e4 (fun b=>by simp [E',hj]) fun _ _=>rfl
     rwa [eD] at this
   | false =>
     obtain ⟨e1,e2,e3,e4⟩:=eout j hj
     refine (hC.blk j).move hE1.hh hviaE e1 e2 e3 e4 (fun b=>by simp [E',hj]) fun b hb=>hE1.keep b (hC.o9 hb) fun i hi=>?_
     obtain ⟨hk1,hk2⟩:=hcut hi
     have:=hC.injH i j b hk2 hb
     subst this
     simp [FX,hk1] at hj
 · rcases hcase i b hi with ⟨_,a1⟩ | ⟨h1,a1⟩<;>rcases hcase j b hj with ⟨_,b1⟩ | ⟨h2,b1⟩
   · exact hC1.injH i j b a1 b1
   · exact (hcross i j b a1 h2 b1).elim
   · exact (hcross j i b b1 h1 a1).elim
   · exact hC.injH i j b a1 b1
 · rcases hcase i b hi with ⟨_,a1⟩ | ⟨h1,a1⟩
   · exact hC1.sepH i b a1
   · cases hx:H1 false b with
     | none=>rfl
     | some o =>
       rcases hE1.new false b o hx with h | h | ⟨k,hk⟩
       · rw [hC.sepH i b a1] at h;cases h
       · have:=hC.o9 a1;omega
       · obtain ⟨hk1,hk2⟩:=hcut hk
         have:=hC.injH k i b hk2 a1
         subst this
         rw [h1] at hk1;cases hk1
 · rcases hcase i b ⟨hi,.inr hib⟩ with ⟨_,a1⟩ | ⟨_,a1⟩
   · exact hC1.o9 a1
   · have:=hC.o9 a1;have:=hE1.size;omega
 · rcases hcase i b hi with ⟨_,a1⟩ | ⟨_,a1⟩
   · rcases hE1.own i b a1 with ⟨k,hk⟩ | h
     · exact .inl ⟨k,(hcut hk).2⟩
     · exact .inr h
   · exact .inl ⟨i,a1⟩
 · have:=hviaE i i (by unfold aO;rw [if_neg (by simpa using hn)]) hl
   exact this
end Go.Ax
