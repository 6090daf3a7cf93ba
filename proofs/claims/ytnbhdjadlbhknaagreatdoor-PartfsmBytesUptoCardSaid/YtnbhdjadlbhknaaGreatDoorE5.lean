import Derived.Orders
import Derived.Test.YtnbhdjadlbhknaaGreatDoorE4
set_option linter.unusedVariables false
set_option linter.unusedSimpArgs false
set_option linter.unusedSectionVars false
namespace Go.Ax
open Go
variable [Inhabited kK]
def mem:List Nat->Nat->Bool
 | [],_=>false
 | a::l,i=>Nat.beq a i||mem l i
theorem mem_iff:∀ {l:List Nat} {i:Nat},mem l i=true↔i∈l
 | [],i=>by simp [mem]
 | a::l,i=>by
   simp only [mem,Bool.or_eq_true,Nat.beq_eq,List.mem_cons,mem_iff (l:=l)]
   exact or_congr_left eq_comm
def KT:List Nat->List Nat->Bool
 | [],_=>true
 | a::l,r=>!mem r a&&KT l r
theorem yZ:∀ {l r:List Nat},KT l r=true->∀ i∈l,i ∉ r
 | [],_,_,i,hi=>by cases hi
 | a::l,r,h,i,hi=>by
   simp [KT] at h
   rcases List.mem_cons.1 hi with rfl | hi
   · intro hr
     have:=mem_iff.2 hr
     rw [h.1] at this;cases this
   · exact yZ h.2 i hi
structure DE where
 pm:Nat
 dst:Option Nat
 look:List Nat
 rd:List Nat
 r:AV
 wr:List (Nat×aH)
 kl:List Nat
 ob:List Prop
def ids (l:List (Nat×aH)):List Nat:=match l with | []=>[] | p::r=>p.1::ids r
theorem KU (l:List (Nat×aH)):ids l=l.map (·.1):=by induction l with | nil=>rfl | cons p r ih=>simp [ids,ih]
def DE.pU (d:DE) (m:List aH):Stp:=⟨d.r,eH d.wr (fF d.kl m),d.kl,d.ob⟩
def DE.app (d:DE) (s:St):St:=s.app d.dst (d.pU s.m)
def alike (d:DE) (s s':St):Prop:=s.t.length=s'.t.length/\(∀ t∈d.look,get s.t t=get s'.t t)/\∀ i∈d.rd,getM s.m i=getM s'.m i
theorem alike.refl (d:DE) (s:St):alike d s s:=⟨rfl,fun _ _=>rfl,fun _ _=>rfl⟩
theorem alike.symm {d:DE} {s s':St} (h:alike d s s'):alike d s' s:=⟨h.1.symm,fun t ht=>(h.2.1 t ht).symm,fun i hi=>(h.2.2 i hi).symm⟩
theorem alike.trans {d:DE} {s s' s2:St} (h:alike d s s') (k:alike d s' s2):alike d s s2 :=
 ⟨h.1.trans k.1,fun t ht=>(h.2.1 t ht).trans (k.2.1 t ht),fun i hi=>(h.2.2 i hi).trans (k.2.2 i hi)⟩
mutual
def jk (K:List Nat):AV->Bool
 | .ptr i _ _ _=>!mem K i
 | .own i _ _ _=>!mem K i
 | .mref i=>!mem K i
 | .agg cs=>nA K cs
 | .tup cs=>nA K cs
 | .fn _ a b=>nA K a&&nA K b
 | .ifc _ a=>jk K a
 | _=>true
def nA (K:List Nat):List AV->Bool
 | []=>true
 | a::r=>jk K a&&nA K r
end
def Cb (K:List Nat):List (Nat×List AV)->Bool
 | []=>true
 | p::r=>nA K p.2&&Cb K r
def lN (K:List Nat):aH->Bool
 | .box _ cs=>nA K cs
 | .lst _ _ _ _ cs=>nA K cs
 | .mp es _=>nA K (es.map fun e=>e.2.1)
 | .mit m _ _ _=>!mem K m
 | .tmap _ _ _ _ kn=>nA K (kn.map fun p=>p.2)
 | .trow _ _ _ _ _ op _=>Cb K op
 | _=>true
def IW (K:List Nat):List (Nat×aH)->Bool
 | []=>true
 | p::r=>lN K p.2&&IW K r
theorem oH {K:List Nat} {i:Nat} (h:(!mem K i)=true):aX K i=some i:=by
 unfold aX
 have:i ∉ K:=fun hi=>by rw [mem_iff.2 hi] at h;cases h
 simp [this]
mutual
theorem vY (K:List Nat):∀ a:AV,jk K a=true->ren (aX K) a=a
 | .s _,_ | .y _,_ | .junk,_ | .sl ..,_ | .ys ..,_ | .yn ..,_ | .ip ..,_ | .opt ..,_=>rfl
 | .ptr i k sz o,h=>by simp only [jk] at h;simp [ren,oH h]
 | .own i sz lo n,h=>by simp only [jk] at h;simp [ren,oH h]
 | .mref i,h=>by simp only [jk] at h;simp [ren,oH h]
 | .agg cs,h=>by simp only [jk] at h;simp [ren,kV K cs h]
 | .tup cs,h=>by simp only [jk] at h;simp [ren,kV K cs h]
 | .fn f a b,h=>by simp only [jk,Bool.and_eq_true] at h;simp [ren,kV K a h.1,kV K b h.2]
 | .ifc t a,h=>by simp only [jk] at h;simp [ren,vY K a h]
theorem kV (K:List Nat):∀ l:List AV,nA K l=true->jI (aX K) l=l
 | [],_=>rfl
 | a::r,h=>by simp only [nA,Bool.and_eq_true] at h;simp [jI,vY K a h.1,kV K r h.2]
end
theorem Hu {K:List Nat}:∀ {es:List (Value×AV×Nat)},nA K (es.map fun e=>e.2.1)=true->(es.map fun e=>(e.1,ren (aX K) e.2.1,e.2.2))=es
 | [],_=>rfl
 | e::r,h=>by
   simp only [List.map_cons,nA,Bool.and_eq_true] at h
   simp only [List.map_cons,vY K _ h.1,Hu h.2]
theorem G8 {K:List Nat} {α:Type}:∀ {es:List (α×AV)},nA K (es.map fun e=>e.2)=true->(es.map fun e=>(e.1,ren (aX K) e.2))=es
 | [],_=>rfl
 | e::r,h=>by
   simp only [List.map_cons,nA,Bool.and_eq_true] at h
   simp only [List.map_cons,vY K _ h.1,G8 h.2]
theorem Ih {K:List Nat}:∀ {op:List (Nat×List AV)},Cb K op=true->(op.map fun p=>(p.1,jI (aX K) p.2))=op
 | [],_=>rfl
 | p::r,h=>by
   simp only [Cb,Bool.and_eq_true] at h
   simp only [List.map_cons,kV K _ h.1,Ih h.2]
theorem Iz {K:List Nat} {B:aH} (h:lN K B=true):gD (aX K) B=B:=by
 cases B with
 | box ty cs=>simp only [lN] at h;simp [gD,kV K cs h]
 | lst ty z n c cs=>simp only [lN] at h;simp [gD,kV K cs h]
 | mp es ck=>simp only [lN] at h;simp only [gD];rw [Hu h]
 | mit m since seen last=>simp only [lN] at h;simp only [gD,oH h]
 | tmap q has c n kn=>simp only [lN] at h;simp only [gD];rw [G8 h]
 | trow ty sz n cap c op zs=>simp only [lN] at h;simp only [gD];rw [Ih h]
 | _=>rfl
theorem lu {L:List Nat} {i j:Nat} (h:aX L i=some j):j=i:=by
 unfold aX at h
 split at h
 · cases h
 · cases h;rfl
mutual
theorem Ed:∀ a:AV,jk [] a=true
 | .s _ | .y _ | .junk | .sl .. | .ys .. | .yn .. | .ip .. | .opt ..=>rfl
 | .ptr i k sz o=>rfl
 | .own i sz lo n=>rfl
 | .mref i=>rfl
 | .agg cs=>by simp only [jk];exact jH cs
 | .tup cs=>by simp only [jk];exact jH cs
 | .fn f a b=>by simp only [jk,Bool.and_eq_true];exact ⟨jH a,jH b⟩
 | .ifc t a=>by simp only [jk];exact Ed a
theorem jH:∀ l:List AV,nA [] l=true
 | []=>rfl
 | a::r=>by simp only [nA,Bool.and_eq_true];exact ⟨Ed a,jH r⟩
end
theorem Hz:∀ op:List (Nat×List AV),Cb [] op=true
 | []=>rfl
 | p::r=>by simp only [Cb,Bool.and_eq_true];exact ⟨jH _,Hz r⟩
theorem Gj:∀ l:List (Nat×aH),IW [] l=true
 | []=>rfl
 | p::r=>by
   simp only [IW,Bool.and_eq_true]
   refine ⟨?_,Gj r⟩
   cases p.2 with
   | box ty cs=>exact jH cs
   | lst ty z n c cs=>exact jH cs
   | mp es ck=>exact jH _
   | tmap q has c n kn=>exact jH _
   | trow ty sz n cap c op zs=>exact Hz op
   | _=>rfl
mutual
theorem Bc (K L:List Nat):∀ a:AV,jk K a=true->jk K (ren (aX L) a)=true
 | .s _,_ | .y _,_ | .junk,_ | .sl ..,_ | .ys ..,_ | .yn ..,_ | .ip ..,_ | .opt ..,_=>rfl
 | .ptr i k sz o,h=>by
   simp only [ren]
   cases hk:aX L i with
   | none=>rfl
   | some j=>have:=lu hk;subst this;exact h
 | .own i sz lo n,h=>by
   simp only [ren]
   cases hk:aX L i with
   | none=>rfl
   | some j=>have:=lu hk;subst this;exact h
 | .mref i,h=>by
   simp only [ren]
   cases hk:aX L i with
   | none=>rfl
   | some j=>have:=lu hk;subst this;exact h
 | .agg cs,h=>by simp only [jk] at h;simp only [ren,jk];exact iL K L cs h
 | .tup cs,h=>by simp only [jk] at h;simp only [ren,jk];exact iL K L cs h
 | .fn f a b,h=>by simp only [jk,Bool.and_eq_true] at h;simp only [ren,jk,Bool.and_eq_true];exact ⟨iL K L a h.1,iL K L b h.2⟩
 | .ifc t a,h=>by simp only [jk] at h;simp only [ren,jk];exact Bc K L a h
theorem iL (K L:List Nat):∀ l:List AV,nA K l=true->nA K (jI (aX L) l)=true
 | [],_=>rfl
 | a::r,h=>by simp only [nA,Bool.and_eq_true] at h;simp only [jI,nA,Bool.and_eq_true];exact ⟨Bc K L a h.1,iL K L r h.2⟩
end
theorem C_ (K L:List Nat):∀ op:List (Nat×List AV),Cb K op=true->Cb K (op.map fun p=>(p.1,jI (aX L) p.2))=true
 | [],_=>rfl
 | p::r,h=>by simp only [Cb,Bool.and_eq_true] at h;simp only [List.map_cons,Cb,Bool.and_eq_true];exact ⟨iL K L _ h.1,C_ K L r h.2⟩
theorem Nf {K L:List Nat} {B:aH} (h:lN K B=true):lN K (gD (aX L) B)=true:=by
 cases B with
 | box ty cs=>simp only [lN] at h;simp only [gD,lN];exact iL K L cs h
 | lst ty z n c cs=>simp only [lN] at h;simp only [gD,lN];exact iL K L cs h
 | mp es ck =>
   simp only [lN] at h
   have:=iL K L _ h
   rw [uW,List.map_map] at this
   simp only [gD,lN,List.map_map];exact this
 | mit m since seen last =>
   simp only [gD]
   cases hk:aX L m with
   | none=>rfl
   | some j=>have:=lu hk;subst this;exact h
 | trow ty sz n cap c op zs=>exact C_ K L op h
 | tmap q has c n kn =>
   simp only [lN] at h
   have:=iL K L _ h
   rw [uW,List.map_map] at this
   simp only [gD,lN,List.map_map];exact this
 | _=>rfl
def sees (p q:DE):Bool:=(match p.dst with | some d=>mem q.look d | none=>false)||!KT (ids p.wr) q.rd
def kOk (p q:DE):Bool:=match p.kl,q.kl with
 | [],[]=>true
 | K,[]=>jk K q.r&&IW K q.wr
 | [],K=>jk K p.r&&IW K p.wr
 | _,_=>false
def compat (p q:DE):Bool:=kOk p q&&!sees p q&&!sees q p&&KT (ids p.wr) (ids q.wr)&&(match p.dst,q.dst with | some a,some b=>!Nat.beq a b | _,_=>true)
theorem yj (f:Nat->Option Nat):∀ l:List AV,(jI f l).length=l.length
 | []=>rfl
 | _::l=>by simp [jI,yj f l]
theorem GV (f:Nat->Option Nat):∀ (l:List AV) (i:Nat),get (jI f l) i=ren f (get l i)
 | [],_=>by simp [jI,get,ren]
 | _::_,0=>rfl
 | _::l,n+1=>GV f l n
theorem uL (k:List Nat) (l:List AV):(CY k l).length=l.length:=by rw [Ah,yj]
theorem Nu (k:List Nat) (l:List AV) (i:Nat):get (CY k l) i=kill k (get l i):=by rw [Ah,GV,zu]
theorem I4 (t:List AV) (d:Option Nat) (v:AV):(Cc t d v).length=t.length:=by cases d<;>simp [Cc,length_set]
theorem Tf (t:List AV) (d:Option Nat) (v:AV) (j:Nat):get (Cc t d v) j=if d=some j/\j<t.length then v else get t j:=by
 cases d with
 | none=>simp [Cc]
 | some i =>
   simp only [Cc,vH,Option.some.injEq]
   by_cases h:i=j
   · subst h;rfl
   · simp [h]
def gB:List (Nat×aH)->Nat->Option aH
 | [],_=>none
 | (i,B)::r,j=>match gB r j with | some b=>some b | none=>if i=j then some B else none
theorem jO:∀ (l:List (Nat×aH)) (M:List aH) (j:Nat),getM (eH l M) j=(gB l j).getD (getM M j)
 | [],_,_=>rfl
 | (i,B)::r,M,j=>by
   simp only [eH,gB]
   rw [jO r]
   cases h:gB r j with
   | some b=>rfl
   | none =>
     by_cases hij:i=j
     · subst hij;simp [b_]
     · simp [hij,dw _ _ _ _ hij]
theorem oO:∀ {l:List (Nat×aH)} {j:Nat},j ∉ ids l->gB l j=none
 | [],_,_=>rfl
 | (i,B)::r,j,h=>by
   simp [ids] at h
   simp [gB,oO h.2,Ne.symm h.1]
theorem tu (d:DE) (s:St) (j:Nat):get (d.app s).t j=if d.dst=some j/\j<s.t.length then d.r else kill d.kl (get s.t j):=by
 simp only [DE.app,DE.pU,St.app,Tf,uL,Nu]
theorem sZ (d:DE) (s:St) (j:Nat):getM (d.app s).m j=(gB d.wr j).getD (gD (aX d.kl) (getM s.m j)):=by
 simp only [DE.app,DE.pU,St.app,jh,jO]
theorem kC (d:DE) (s:St):(d.app s).t.length=s.t.length:=by simp only [DE.app,DE.pU,St.app,I4,uL]
theorem alike.app {d e:DE} {s s':St} (h:alike d s s'):alike d (e.app s) (e.app s'):=by
 refine ⟨by rw [kC,kC];exact h.1,fun t ht=>?_,fun i hi=>?_⟩
 · rw [tu,tu,h.1,h.2.1 t ht]
 · rw [sZ,sZ,h.2.2 i hi]
def Aw (e d:DE) (s:St):Prop:=(∀ t∈d.look,kill e.kl (get s.t t)=get s.t t)/\∀ i∈d.rd,gD (aX e.kl) (getM s.m i)=getM s.m i
theorem alike.away {d e:DE} {s s':St} (hk:Aw e d s) (hs:sees e d=false) (h:alike d s s'):alike d (e.app s) s':=by
 simp only [sees,Bool.or_eq_false_iff,Bool.not_eq_false'] at hs
 refine ⟨by rw [kC];exact h.1,fun t ht=>?_,fun i hi=>?_⟩
 · rw [tu,hk.1 t ht]
   have:e.dst≠some t:=by
    intro he
    rw [he] at hs
    have:=mem_iff.2 ht
    simp only at hs
    rw [hs.1] at this;cases this
   simp only [this,false_and,if_false]
   exact h.2.1 t ht
 · rw [sZ,hk.2 i hi]
   rw [oO (fun hw=>yZ hs.2 i hw hi)]
   exact h.2.2 i hi
def St.eqv (s s':St):Prop:=s.t=s'.t/\∀ i,getM s.m i=getM s'.m i
theorem Ga {l l':List AV} (hl:l.length=l'.length) (h:∀ i,get l i=get l' i):l=l':=by
 induction l generalizing l' with
 | nil=>cases l' with | nil=>rfl | cons=>simp at hl
 | cons a l ih =>
   cases l' with
   | nil=>simp at hl
   | cons b l' =>
     have h0:=h 0
     simp only [get] at h0
     subst h0
     rw [ih (by simpa using hl) fun i=>h (i+1)]
theorem St.eqv.refl (s:St):s.eqv s:=⟨rfl,fun _=>rfl⟩
theorem St.eqv.trans {s s' s2:St} (h:s.eqv s') (k:s'.eqv s2):s.eqv s2:=⟨h.1.trans k.1,fun i=>(h.2 i).trans (k.2 i)⟩
theorem St.eqv.app {s s':St} (d:DE) (h:s.eqv s'):(d.app s).eqv (d.app s') :=
 ⟨Ga (by rw [kC,kC,h.1]) fun i=>by rw [tu,tu,h.1],fun i=>by rw [sZ,sZ,h.2]⟩
theorem Dx {K:List Nat}:∀ {l:List (Nat×aH)} {i:Nat} {B:aH},IW K l=true->gB l i=some B->lN K B=true
 | [],_,_,_,h=>by cases h
 | p::r,i,B,h,hl=>by
   simp only [IW,Bool.and_eq_true] at h
   obtain ⟨pi,pB⟩:=p
   simp only [gB] at hl
   cases hr:gB r i with
   | some b=>rw [hr] at hl;cases hl;exact Dx h.2 hr
   | none =>
     rw [hr] at hl
     by_cases hi:pi=i
     · simp [hi] at hl;subst hl;exact h.1
     · simp [hi] at hl
theorem GJ {K:List Nat} {a:AV} (h:jk K a=true):kill K a=a:=by rw [zu];exact vY K a h
theorem OU {p q:DE} (hq:q.kl=[]) (h1:jk p.kl q.r=true) (h2:IW p.kl q.wr=true) (h3:∀ i∈ids p.wr,i ∉ ids q.wr) (h4:∀ a,p.dst=some a->q.dst≠some a) (s:St):(p.app (q.app s)).eqv (q.app (p.app s)):=by
 refine ⟨Ga (by rw [kC,kC,kC,kC]) fun i=>?_,fun i=>?_⟩
 · rw [tu,tu,tu,tu,kC,kC,hq]
   have k0:∀ x,kill [] x=x:=fun _=>rfl
   by_cases a:p.dst=some i
   · have b:¬ q.dst=some i:=h4 i a
     simp [a,b,k0]
   · by_cases b:q.dst=some i
     · by_cases c:i<s.t.length
       · simp [a,b,c,GJ h1,k0]
       · simp [a,b,c,k0]
     · simp [a,b,k0]
 · rw [sZ,sZ,sZ,sZ,hq,jL]
   simp only [fH]
   by_cases a:i∈ids p.wr
   · rw [oO (h3 i a)];rfl
   · rw [oO a]
     cases hl:gB q.wr i with
     | none=>rfl
     | some B=>simp only [Option.getD_some,Option.getD_none];exact Iz (Dx h2 hl)
theorem St.eqv.symm {s s':St} (h:s.eqv s'):s'.eqv s:=⟨h.1.symm,fun i=>(h.2 i).symm⟩
theorem Rp {p q:DE} (h:compat p q=true) (s:St):(p.app (q.app s)).eqv (q.app (p.app s)):=by
 simp only [compat,Bool.and_eq_true,Bool.not_eq_true'] at h
 obtain ⟨⟨⟨⟨hk,h1⟩,h2⟩,h3⟩,h4⟩:=h
 have hd:∀ a,p.dst=some a->q.dst≠some a:=by
  intro a ha hb
  rw [ha,hb] at h4
  simp at h4
 have hw:=yZ h3
 unfold kOk at hk
 cases hq:q.kl with
 | nil =>
   cases hp:p.kl with
   | nil=>exact OU hq (by rw [hp];exact Ed _) (by rw [hp];exact Gj _) hw hd s
   | cons x r =>
     rw [hp,hq] at hk
     simp only [Bool.and_eq_true] at hk
     exact OU hq (by rw [hp];exact hk.1) (by rw [hp];exact hk.2) hw hd s
 | cons y r =>
   cases hp:p.kl with
   | nil =>
     rw [hp,hq] at hk
     simp only [Bool.and_eq_true] at hk
     exact (OU hp (by rw [hq];exact hk.1) (by rw [hq];exact hk.2) (fun i hi hj=>hw i hj hi) (fun a ha hb=>hd a hb ha) s).symm
   | cons x r=>rw [hp,hq] at hk;cases hk
theorem qm {p q:DE} (h:compat p q=true):sees p q=false/\sees q p=false:=by
 simp only [compat,Bool.and_eq_true,Bool.not_eq_true'] at h
 exact ⟨h.1.1.1.2,h.1.1.2⟩
theorem H8 {p q:DE} (h:compat p q=true):compat q p=true:=by
 simp only [compat,Bool.and_eq_true,Bool.not_eq_true'] at h ⊢
 obtain ⟨⟨⟨⟨hk,h1⟩,h2⟩,h3⟩,h4⟩:=h
 refine ⟨⟨⟨⟨?_,h2⟩,h1⟩,?_⟩,?_⟩
 · revert hk
   unfold kOk
   cases p.kl<;>cases q.kl<;>simp
 · have:∀ (l r:List Nat),(∀ x∈l,x ∉ r)->KT l r=true:=by
    intro l r
    induction l with
    | nil=>intro _;rfl
    | cons x l ihl =>
      intro hx
      simp only [KT,Bool.and_eq_true,Bool.not_eq_true']
      refine ⟨?_,ihl fun y hy=>hx y (by simp [hy])⟩
      cases hm:mem r x with
      | false=>rfl
      | true=>exact absurd (mem_iff.1 hm) (hx x (by simp))
   exact this _ _ fun x hx hx'=>yZ h3 x hx' hx
 · revert h4;cases p.dst<;>cases q.dst<;>simp
   rename_i x y
   intro h
   cases hb:Nat.beq y x with
   | false=>rfl
   | true=>have:=Nat.eq_of_beq_eq_true hb;subst this;rw [hb] at h;cases h
def eB:List DE->Nat->(Nat->Bool)->St->St
 | [],_,_,s=>s
 | d::r,p,X,s=>eB r (p+1) X (if X p then d.app s else s)
theorem CV:∀ (l:List DE) (p:Nat) (X:Nat->Bool) {s s':St},s.eqv s'->(eB l p X s).eqv (eB l p X s')
 | [],_,_,_,_,h=>h
 | d::r,p,X,s,s',h=>by
   simp only [eB]
   refine CV r _ X ?_
   split
   · exact h.app d
   · exact h
theorem nJ:∀ (l:List DE) (p:Nat) {X Y:Nat->Bool} (s:St),(∀ k,p<=k->k<p+l.length->X k=Y k)->eB l p X s=eB l p Y s
 | [],_,_,_,_,_=>rfl
 | d::r,p,X,Y,s,h=>by
   simp only [eB]
   rw [h p (Nat.le_refl _) (by simp),nJ r (p+1) _ fun k h1 h2=>h k (by omega) (by simp;omega)]
theorem o8:∀ (l:List DE) (p:Nat) {X:Nat->Bool} (s:St),(∀ k,p<=k->X k=false)->eB l p X s=s
 | [],_,_,_,_=>rfl
 | d::r,p,X,s,h=>by
   simp only [eB]
   rw [h p (Nat.le_refl _),o8 r (p+1) _ fun k hk=>h k (by omega)]
   rfl
theorem lU:∀ (l r:List DE) (p:Nat) (X:Nat->Bool) (s:St),eB (l++r) p X s=eB r (p+l.length) X (eB l p X s)
 | [],_,_,_,_=>rfl
 | d::l,r,p,X,s=>by
   simp only [List.cons_append,eB]
   rw [lU l r]
   simp [Nat.add_assoc,Nat.add_comm 1]
theorem uD:∀ (l:List DE) (p:Nat) (X:Nat->Bool) (d:DE) (s:St),(∀ k dk,l[k]? = some dk->X (p+k)=true->compat dk d=true)->(eB l p X (d.app s)).eqv (d.app (eB l p X s))
 | [],_,_,d,s,_=>St.eqv.refl _
 | e::r,p,X,d,s,h=>by
   simp only [eB]
   have hr:∀ k dk,r[k]? = some dk->X (p+1+k)=true->compat dk d=true:=fun k dk hk hX=>h (k+1) dk (by simpa using hk) (by rw [show p+(k+1)=p+1+k by omega];exact hX)
   split
   · rename_i hX
     have hc:=h 0 e (by simp) (by simpa using hX)
     exact (CV r _ X (Rp hc s)).trans (uD r (p+1) X d (e.app s) hr)
   · exact uD r (p+1) X d s hr
def ins (X:Nat->Bool) (q:Nat) (k:Nat):Bool:=if k=q then true else X k
theorem Ce:∀ (l:List DE) (p:Nat) (X:Nat->Bool) (q:Nat) (d:DE) (s:St),p<=q->l[q - p]? = some d->X q=false ->
 (∀ k dk,l[k]? = some dk->q<p+k->X (p+k)=true->compat dk d=true)->(eB l p (ins X q) s).eqv (d.app (eB l p X s))
 | [],_,_,_,_,_,_,hd,_,_=>by simp at hd
 | e::r,p,X,q,d,s,hpq,hd,hq,h=>by
   simp only [eB]
   by_cases hp:p=q
   · subst hp
     simp at hd
     subst hd
     simp only [ins,if_pos,hq]
     rw [nJ r (p+1) (X:=ins X p) (Y:=X) _ fun k h1 h2=>by simp [ins];omega]
     exact uD r (p+1) X e s fun k dk hk hX=>h (k+1) dk (by simpa using hk) (by omega) (by rw [show p+(k+1)=p+1+k by omega];exact hX)
   · have:ins X q p=X p:=by simp [ins,hp]
     rw [this]
     refine Ce r (p+1) X q d _ (by omega) ?_ hq fun k dk hk hl hX=>h (k+1) dk (by simpa using hk) (by omega) (by rw [show p+(k+1)=p+1+k by omega];exact hX)
     rw [show q - p=(q - (p+1))+1 by omega] at hd
     simpa using hd
theorem lH (R:St->Prop):∀ (l:List DE) (p:Nat) (Z Y:Nat->Bool) (d:DE) (s s':St),(∀ e∈l,∀ s,R s->R (e.app s))->R s->R s'->alike d s s' ->
 (∀ j dj,l[j]? = some dj->Y (p+j)=true->Z (p+j)=true->alike dj s s') ->
 (∀ k dk,l[k]? = some dk->Z (p+k)=true->Y (p+k)=false->(∀ s,R s->Aw dk d s)/\sees dk d=false/\∀ j dj,k<j->l[j]? = some dj->Y (p+j)=true->Z (p+j)=true->(∀ s,R s->Aw dk dj s)/\sees dk dj=false) ->
 (∀ k dk,l[k]? = some dk->Z (p+k)=false->Y (p+k)=true->(∀ s,R s->Aw dk d s)/\sees dk d=false/\∀ j dj,k<j->l[j]? = some dj->Y (p+j)=true->Z (p+j)=true->(∀ s,R s->Aw dk dj s)/\sees dk dj=false) ->
 alike d (eB l p Z s) (eB l p Y s')
 | [],_,_,_,_,_,_,_,_,_,h,_,_,_=>h
 | e::r,p,Z,Y,d,s,s',hR,hs,hs',h,hj,h1,h2=>by
   simp only [eB]
   have e1:∀ k,p+1+k=p+(k+1):=fun k=>by omega
   have hRr:∀ e∈r,∀ s,R s->R (e.app s):=fun e he=>hR e (List.mem_cons_of_mem _ he)
   have hRe:=hR e (by simp)
   have g1:∀ k dk,r[k]? = some dk->Z (p+1+k)=true->Y (p+1+k)=false->(∀ s,R s->Aw dk d s)/\sees dk d=false/\∀ j dj,k<j->r[j]? = some dj->Y (p+1+j)=true->Z (p+1+j)=true->(∀ s,R s->Aw dk dj s)/\sees dk dj=false:=by
    intro k dk hk hz hy
    rw [e1] at hz hy
    obtain ⟨a,b,c⟩:=h1 (k+1) dk (by simpa using hk) hz hy
    exact ⟨a,b,fun j dj hkj hj hY hZ=>c (j+1) dj (by omega) (by simpa using hj) (by rw [e1] at hY;exact hY) (by rw [e1] at hZ;exact hZ)⟩
   have g2:∀ k dk,r[k]? = some dk->Z (p+1+k)=false->Y (p+1+k)=true->(∀ s,R s->Aw dk d s)/\sees dk d=false/\∀ j dj,k<j->r[j]? = some dj->Y (p+1+j)=true->Z (p+1+j)=true->(∀ s,R s->Aw dk dj s)/\sees dk dj=false:=by
    intro k dk hk hz hy
    rw [e1] at hz hy
    obtain ⟨a,b,c⟩:=h2 (k+1) dk (by simpa using hk) hz hy
    exact ⟨a,b,fun j dj hkj hj hY hZ=>c (j+1) dj (by omega) (by simpa using hj) (by rw [e1] at hY;exact hY) (by rw [e1] at hZ;exact hZ)⟩
   have gj:∀ j dj,r[j]? = some dj->Y (p+1+j)=true->Z (p+1+j)=true->alike dj s s':=fun j dj hjj hY hZ =>
    hj (j+1) dj (by simpa using hjj) (by rw [e1] at hY;exact hY) (by rw [e1] at hZ;exact hZ)
   cases hz:Z p<;>cases hy:Y p<;>simp only [if_true,Bool.false_eq_true,if_false]
   · exact lH R r (p+1) Z Y d s s' hRr hs hs' h gj g1 g2
   · obtain ⟨a,b,c⟩:=h2 0 e (by simp) (by simpa using hz) (by simpa using hy)
     refine lH R r (p+1) Z Y d s _ hRr hs (hRe _ hs') (h.symm.away (a _ hs') b).symm (fun j dj hjj hY hZ=>?_) g1 g2
     obtain ⟨c1,c2⟩:=c (j+1) dj (by omega) (by simpa using hjj) (by rw [e1] at hY;exact hY) (by rw [e1] at hZ;exact hZ)
     exact ((gj j dj hjj hY hZ).symm.away (c1 _ hs') c2).symm
   · obtain ⟨a,b,c⟩:=h1 0 e (by simp) (by simpa using hz) (by simpa using hy)
     refine lH R r (p+1) Z Y d _ s' hRr (hRe _ hs) hs' (h.away (a _ hs) b) (fun j dj hjj hY hZ=>?_) g1 g2
     obtain ⟨c1,c2⟩:=c (j+1) dj (by omega) (by simpa using hjj) (by rw [e1] at hY;exact hY) (by rw [e1] at hZ;exact hZ)
     exact (gj j dj hjj hY hZ).away (c1 _ hs) c2
   · exact lH R r (p+1) Z Y d _ _ hRr (hRe _ hs) (hRe _ hs') h.app (fun j dj hjj hY hZ=>(gj j dj hjj hY hZ).app) g1 g2
def K9 (K:List Nat) (s0:St):List Nat->Bool
 | []=>true
 | t::r=>jk K (get s0.t t)&&K9 K s0 r
def LY (K:List Nat) (s0:St):List Nat->Bool
 | []=>true
 | i::r=>lN K (getM s0.m i)&&LY K s0 r
def LM (K rd:List Nat):List (Nat×aH)->Bool
 | []=>true
 | p::r=>(!mem rd p.1||lN K p.2)&&LM K rd r
def LB (K look rd:List Nat):List DE->Bool
 | []=>true
 | f::r=>(match f.dst with | some t=>!mem look t||jk K f.r | none=>true)&&(LM K rd f.wr&&LB K look rd r)
def stat (s0:St) (ds:List DE) (e d:DE):Bool:=K9 e.kl s0 d.look&&(LY e.kl s0 d.rd&&LB e.kl d.look d.rd ds)
def clean (K:List Nat) (d:DE) (s:St):Prop:=(∀ t∈d.look,jk K (get s.t t)=true)/\∀ i∈d.rd,lN K (getM s.m i)=true
theorem IG {e d:DE} {s:St} (h:clean e.kl d s):Aw e d s:=⟨fun t ht=>GJ (h.1 t ht),fun i hi=>Iz (h.2 i hi)⟩
theorem Gp {K:List Nat} {s0:St}:∀ {l:List Nat},K9 K s0 l=true->∀ t∈l,jk K (get s0.t t)=true
 | [],_,t,ht=>by cases ht
 | a::r,h,t,ht=>by
   simp only [K9,Bool.and_eq_true] at h
   rcases List.mem_cons.1 ht with rfl | ht
   · exact h.1
   · exact Gp h.2 t ht
theorem Ig {K:List Nat} {s0:St}:∀ {l:List Nat},LY K s0 l=true->∀ t∈l,lN K (getM s0.m t)=true
 | [],_,t,ht=>by cases ht
 | a::r,h,t,ht=>by
   simp only [LY,Bool.and_eq_true] at h
   rcases List.mem_cons.1 ht with rfl | ht
   · exact h.1
   · exact Ig h.2 t ht
theorem Bp {K rd:List Nat}:∀ {l:List (Nat×aH)} {i:Nat} {B:aH},LM K rd l=true->i∈rd->gB l i=some B->lN K B=true
 | [],_,_,_,_,h=>by cases h
 | p::r,i,B,h,hi,hl=>by
   obtain ⟨pi,pB⟩:=p
   simp only [LM,Bool.and_eq_true,Bool.or_eq_true] at h
   simp only [gB] at hl
   cases hr:gB r i with
   | some b=>rw [hr] at hl;cases hl;exact Bp h.2 hi hr
   | none =>
     rw [hr] at hl
     by_cases he:pi=i
     · simp [he] at hl
       subst hl
       rcases h.1 with h1 | h1
       · rw [he,mem_iff.2 hi] at h1;cases h1
       · exact h1
     · simp [he] at hl
theorem H7 {K look rd:List Nat}:∀ {ds:List DE},LB K look rd ds=true->∀ f∈ds,(∀ t,f.dst=some t->t∈look->jk K f.r=true)/\∀ i B,i∈rd->gB f.wr i=some B->lN K B=true
 | [],_,f,hf=>by cases hf
 | g::r,h,f,hf=>by
   simp only [LB,Bool.and_eq_true] at h
   rcases List.mem_cons.1 hf with rfl | hf
   · refine ⟨fun t ht hl=>?_,fun i B hi hb=>Bp h.2.1 hi hb⟩
     have h1:=h.1
     rw [ht] at h1
     simp only [Bool.or_eq_true] at h1
     rcases h1 with h1 | h1
     · rw [mem_iff.2 hl] at h1;cases h1
     · exact h1
   · exact H7 h.2.2 f hf
def Rch (s0:St) (ds:List DE) (s:St):Prop:=∀ e∈ds,∀ d∈ds,stat s0 ds e d=true->clean e.kl d s
theorem Ii (s0:St) (ds:List DE):Rch s0 ds s0:=by
 intro e _ d _ h
 simp only [stat,Bool.and_eq_true] at h
 exact ⟨Gp h.1,Ig h.2.1⟩
theorem Uh {s0:St} {ds:List DE}:∀ f∈ds,∀ s,Rch s0 ds s->Rch s0 ds (f.app s):=by
 intro f hf s hs e he d hd h
 obtain ⟨h1,h2⟩:=hs e he d hd h
 simp only [stat,Bool.and_eq_true] at h
 obtain ⟨g1,g2⟩:=H7 h.2.2 f hf
 refine ⟨fun t ht=>?_,fun i hi=>?_⟩
 · rw [tu]
   split
   · rename_i hc
     exact g1 t hc.1 ht
   · rw [zu];exact Bc _ _ _ (h1 t ht)
 · rw [sZ]
   cases hl:gB f.wr i with
   | some B=>exact g2 i B hi hl
   | none=>exact Nf (h2 i hi)
def vN (s0:St) (ds:List DE) (e d:DE):Bool:=match e.kl,d.kl with
 | [],[]=>true
 | _,_=>stat s0 ds e d&&stat s0 ds d e
theorem EW {s0:St} {ds:List DE} {e d:DE} (he:e∈ds) (hd:d∈ds) (h:vN s0 ds e d=true):(∀ s,Rch s0 ds s->Aw e d s)/\∀ s,Rch s0 ds s->Aw d e s:=by
 unfold vN at h
 split at h
 · rename_i h1 h2
   refine ⟨fun s _=>⟨fun t _=>by rw [h1];rfl,fun i _=>by rw [h1,jL,fH]⟩,fun s _=>⟨fun t _=>by rw [h2];rfl,fun i _=>by rw [h2,jL,fH]⟩⟩
 · simp only [Bool.and_eq_true] at h
   exact ⟨fun s hs=>IG (hs e he d hd h.1),fun s hs=>IG (hs d hd e he h.2)⟩
def ED (s0:St) (ds:List DE) (j:Nat) (d:DE):List DE->Nat->Bool
 | [],_=>true
 | e::r,k=>(!Nat.blt k j||(d.pm.testBit k||vN s0 ds e d))&&ED s0 ds j d r (k+1)
def WR (s0:St) (ds:List DE):List DE->Nat->Bool
 | [],_=>true
 | d::r,j=>ED s0 ds j d ds 0&&WR s0 ds r (j+1)
def YG:List DE->Bool
 | []=>true
 | d::r=>(match d.kl with | []=>true | _=>false)&&YG r
def PE (s0:St) (ds:List DE):Bool:=YG ds||WR s0 ds ds 0
def Ug (s0:St) (ds:List DE):Prop:=∀ k j dk dj,k<j->ds[k]? = some dk->ds[j]? = some dj->dj.pm.testBit k=true∨vN s0 ds dk dj=true
theorem FN {s0:St} {ds:List DE} {j:Nat} {d:DE}:∀ {l:List DE} {p:Nat},ED s0 ds j d l p=true->∀ k e,l[k]? = some e->p+k<j->d.pm.testBit (p+k)=true∨vN s0 ds e d=true
 | [],_,_,k,e,hk,_=>by simp at hk
 | a::r,p,h,k,e,hk,hj=>by
   simp only [ED,Bool.and_eq_true,Bool.or_eq_true] at h
   cases k with
   | zero =>
     simp at hk
     subst hk
     rcases h.1 with h1 | h1
     · exfalso
       have:Nat.blt p j=true:=by rw [Nat.blt_eq];omega
       rw [this] at h1;cases h1
     · exact h1
   | succ k =>
     have:=FN h.2 k e (by simpa using hk) (by omega)
     rwa [show p+1+k=p+(k+1) by omega] at this
theorem Rs {s0:St} {ds:List DE}:∀ {l:List DE} {p:Nat},WR s0 ds l p=true->∀ j d,l[j]? = some d->∀ k e,ds[k]? = some e->k<p+j->d.pm.testBit k=true∨vN s0 ds e d=true
 | [],_,_,j,d,hj=>by simp at hj
 | a::r,p,h,j,d,hj=>by
   simp only [WR,Bool.and_eq_true] at h
   intro k e hk hkj
   cases j with
   | zero =>
     simp at hj
     subst hj
     have:=FN h.1 k e hk (by omega)
     simpa using this
   | succ j=>exact Rs h.2 j d (by simpa using hj) k e hk (by omega)
theorem Fq:∀ {l:List DE},YG l=true->∀ d∈l,d.kl=[]
 | [],_,d,hd=>by cases hd
 | a::r,h,d,hd=>by
   simp only [YG,Bool.and_eq_true] at h
   rcases List.mem_cons.1 hd with rfl | hd
   · have h1:=h.1
     split at h1
     · assumption
     · cases h1
   · exact Fq h.2 d hd
theorem PK {s0:St} {ds:List DE} (h:PE s0 ds=true):Ug s0 ds:=by
 intro k j dk dj hkj hk hj
 simp only [PE,Bool.or_eq_true] at h
 rcases h with h | h
 · right
   unfold vN
   rw [Fq h dk (List.mem_of_getElem? hk),Fq h dj (List.mem_of_getElem? hj)]
 · exact Rs h j dj hj k dk hk (by omega)
def aaj (P:Program) (ops:Array Oper) (o:Oper) (d:DE) (s:St):Prop :=
 ∀ H E w a (K:Act->World->Prop) (Q:Exit->Act->World->Prop),Conc H E w s.m->aI s.t H E a.tmps.toList->a.defers=[] ->
  (∀ v w' H' E',Rel d.r H' E' v->Conc H' E' w' (eH d.wr (fF d.kl s.m))->cO d.kl H E w H' E' w'->K (a.put o.dst v) w') ->
  if Region.wanted o (yielded ops a.tmps) then o.wp P a w K Q∨(o.asks P a w/\LetsOut Q) else K (a.put o.dst undef) w
def iT (o:Oper):List Nat:=(o.after.toList.filter fun e=>Region.binds .any e).map (·.on)
theorem CX {o:Oper} {k:Nat}:k∈iT o↔∃ e∈o.after,Region.binds .any e=true/\e.on=k:=by
 simp [iT,and_assoc]
def below (q k:Nat):Bool:=Nat.blt k q
structure ZC (P:Program) (ops:Array Oper) (s0:St) (n:Nat) (ds:List DE):Prop where
 size:ds.length=n
 step:∀ j d,j<n->ds[j]? = some d->∃ o,ops[j]? = some o/\d.dst=o.dst/\(∀ k∈iT o,k<j) /\
  (∀ k,d.pm.testBit k=true->k<j/\(k∈iT o∨∃ e de,e∈iT o/\ds[e]? = some de/\de.pm.testBit k=true)) /\
  (∀ k dk,k<j->ds[k]? = some dk->d.pm.testBit k=true∨compat dk d=true) /\
  (∀ s',alike d (eB ds 0 (below j) s0) s'->aaj P ops o d s')
theorem ZC.pm {P:Program} {ops:Array Oper} {s0:St} {n:Nat} {ds:List DE} (h:ZC P ops s0 n ds) {X:Nat->Bool} (hX:∀ j d o,ds[j]? = some d->ops[j]? = some o->X j=true->∀ k∈iT o,X k=true) :
 ∀ (m j:Nat) (d:DE) (o:Oper),j<m->ds[j]? = some d->ops[j]? = some o->(∀ k∈iT o,X k=true)->∀ k,d.pm.testBit k=true->X k=true:=by
 intro m
 induction m with
 | zero=>intro j d o h0;omega
 | succ m ih =>
   intro j d o hj hd ho hk k hb
   have hjn:j<n:=by rw [<- h.size];exact (List.getElem?_eq_some_iff.1 hd).1
   obtain ⟨o',ho',hdst,he,hpm,_⟩:=h.step j d hjn hd
   rw [ho] at ho';cases ho'
   obtain ⟨_,hb'⟩:=hpm k hb
   rcases hb' with hb' | ⟨e,de,hme,hde,hbit⟩
   · exact hk k hb'
   · have hej:=he e hme
     have hen:e<n:=by omega
     obtain ⟨oe,hoe,_⟩:=h.step e de hen hde
     exact ih e de oe (by omega) hde hoe (hX e de oe hde hoe (hk e hme)) k hbit
def left (X:Nat->Bool):Nat->Nat
 | 0=>0
 | n+1=>left X n+(match X n with | true=>0 | false=>1)
theorem I_ (X:Nat->Bool) (q:Nat) (hq:X q=false):∀ n,left (ins X q) n+(if q<n then 1 else 0)=left X n
 | 0=>by simp [left]
 | n+1=>by
   have ih:=I_ X q hq n
   have h1:ins X q n=if n=q then true else X n:=rfl
   simp only [left]
   rw [h1]
   by_cases h:n=q
   · subst h
     rw [if_neg (Nat.lt_irrefl _)] at ih
     rw [if_pos (Nat.lt_succ_self _),if_pos rfl,hq]
     simp only
     omega
   · rw [if_neg h]
     by_cases h1:q<n
     · rw [if_pos h1] at ih;rw [if_pos (by omega)];omega
     · rw [if_neg h1] at ih;rw [if_neg (by omega)];omega
theorem C9 (X:Nat->Bool):∀ n,left X n=0->∀ k,k<n->X k=true
 | 0,_,k,hk=>by omega
 | n+1,h,k,hk=>by
   simp only [left] at h
   rcases Nat.lt_or_ge k n with h1 | h1
   · exact C9 X n (by omega) k h1
   · have:k=n:=by omega
     subst this
     cases hx:X k
     · rw [hx] at h;simp at h
     · rfl
theorem Conc.eqv {H:HH} {E:Env} {w:World} {M M':List aH} (h:Conc H E w M) (hm:∀ i,getM M i=getM M' i):Conc H E w M' :=
 ⟨h.imm,h.tf,fun i=>by rw [<- hm];exact h.blk i,h.injH,h.sepH,h.ltS⟩
theorem KD {P:Program} {ops:Array Oper} {s0:St} {ds:List DE} (h:ZC P ops s0 ops.size ds) (hreg:Ug s0 ds) {MV:List Nat} (hMV:∀ d∈ds,∀ i∈d.kl,i∈MV) {Q:Exit->Act->World->Prop} :
 ∀ (fuel:Nat) (listed:Array Bool) (H:HH) (E:Env) (w:World) (a:Act),listed.size=ops.size ->
  left (fun k=>listed.getD k false) ops.size<=fuel ->
  (∀ j d o,ds[j]? = some d->ops[j]? = some o->listed.getD j false=true->∀ k∈iT o,listed.getD k false=true) ->
  Conc H E w (eB ds 0 (fun k=>listed.getD k false) s0).m->aI (eB ds 0 (fun k=>listed.getD k false) s0).t H E a.tmps.toList->a.defers=[] ->
  (∀ a' w' H' E',a'.defers=[]->aI (eB ds 0 (fun _=>true) s0).t H' E' a'.tmps.toList->Conc H' E' w' (eB ds 0 (fun _=>true) s0).m->cO MV H E w H' E' w'->Q .normal a' w') ->
  wpAny P .any ops Q fuel listed a w:=by
 intro fuel
 have hdone:∀ (listed:Array Bool),listed.size=ops.size->Region.ready .any ops listed=[]->∀ k,k<ops.size->listed.getD k false=true:=by
  intro listed hsz hr k
  induction k using Nat.strongRecOn with
  | ind k ih =>
    intro hk
    cases hl:listed.getD k false with
    | true=>rfl
    | false =>
      exfalso
      have hdk:k<ds.length:=by rw [h.size];exact hk
      obtain ⟨o,ho,_,he,_⟩:=h.step k ds[k] hk (List.getElem?_eq_getElem hdk)
      have:k∈Region.ready .any ops listed:=mem_ready.2 ⟨by
       have:k<listed.size:=by omega
       simp [this] at hl ⊢;exact hl,o,ho,fun e hee hb=>by
       have hk':=he e.on (CX.2 ⟨e,hee,hb,rfl⟩)
       exact ih e.on hk' (by omega)⟩
      rw [hr] at this;cases this
 have hfin:∀ (listed:Array Bool) H E w a,(∀ k,k<ops.size->listed.getD k false=true)->Conc H E w (eB ds 0 (fun k=>listed.getD k false) s0).m->aI (eB ds 0 (fun k=>listed.getD k false) s0).t H E a.tmps.toList->a.defers=[] ->
  (∀ a' w' H' E',a'.defers=[]->aI (eB ds 0 (fun _=>true) s0).t H' E' a'.tmps.toList->Conc H' E' w' (eB ds 0 (fun _=>true) s0).m->cO MV H E w H' E' w'->Q .normal a' w')->Q .normal a w:=by
  intro listed H E w a hall hC hT hd hq
  rw [nJ ds 0 (Y:=fun _=>true) s0 fun k _ hk=>hall k (by rw [<- h.size];omega)] at hC hT
  exact hq a w H E hd hT hC (cO.refl _ _ _ _)
 induction fuel with
 | zero =>
   intro listed H E w a hsz hf hX hC hT hd hq
   have hall:=C9 _ _ (Nat.le_zero.1 hf)
   refine ⟨?_,hfin listed H E w a hall hC hT hd hq⟩
   cases hr:Region.ready .any ops listed with
   | nil=>rfl
   | cons i r =>
     exfalso
     have hi:i∈Region.ready .any ops listed:=by rw [hr];simp
     obtain ⟨hun,o,ho,_⟩:=mem_ready.1 hi
     have hlt:=(Array.getElem?_eq_some_iff.1 ho).1
     have:=hall i hlt
     have hil:i<listed.size:=by omega
     simp [hil] at hun this
     rw [hun] at this;cases this
 | succ fuel ih =>
   intro listed H E w a hsz hf hX hC hT hd hq
   refine ⟨fun hr=>hfin listed H E w a (hdone listed hsz hr) hC hT hd hq,fun i hi=>?_⟩
   obtain ⟨hun,o,ho,hall⟩:=mem_ready.1 hi
   have hlt:=(Array.getElem?_eq_some_iff.1 ho).1
   have hil:i<listed.size:=by omega
   have hXi:listed.getD i false=false:=by simp [hil] at hun ⊢;exact hun
   have hdl:i<ds.length:=by rw [h.size];exact hlt
   have hdi:ds[i]? = some ds[i]:=List.getElem?_eq_getElem hdl
   generalize ds[i]=d at hdi
   obtain ⟨o',ho',hdst,hed,hpm,hcm,hstep⟩:=h.step i d hlt hdi
   rw [ho] at ho';cases ho'
   have hpred:∀ k∈iT o,listed.getD k false=true:=fun k hk=>by
    obtain ⟨e,he,hb,rfl⟩:=CX.1 hk
    exact hall e he hb
   have hpmX:=h.pm (X:=fun k=>listed.getD k false) hX (i+1) i d o (by omega) hdi ho hpred
   have hlt':∀ {k dk},ds[k]? = some dk->k<ops.size:=fun {k dk} hk=>by rw [<- h.size];exact (List.getElem?_eq_some_iff.1 hk).1
   -- later ones that went by are not bound to i
   have hlater:∀ k dk,ds[k]? = some dk->i<k->listed.getD k false=true->compat d dk=true/\vN s0 ds d dk=true:=by
    intro k dk hk hik hXk
    obtain ⟨ok,hok,_,_,_,hcm',_⟩:=h.step k dk (hlt' hk) hk
    have hno:¬ dk.pm.testBit i=true:=by
     intro hb
     have:=h.pm (X:=fun k=>listed.getD k false) hX (k+1) k dk ok (by omega) hk hok (hX k dk ok hk hok hXk) i hb
     rw [show listed.getD i false=true from this] at hXi;cases hXi
    exact ⟨(hcm' i d hik hdi).resolve_left hno,(hreg i k d dk hik hdi hk).resolve_left hno⟩
   have hearlier:∀ k dk,ds[k]? = some dk->k<i->listed.getD k false=false->compat dk d=true/\vN s0 ds dk d=true:=by
    intro k dk hk hki hXk
    have hno:¬ d.pm.testBit k=true:=by
     intro hb
     have:=hpmX k hb
     rw [show listed.getD k false=true from this] at hXk;cases hXk
    exact ⟨(hcm k dk hki hk).resolve_left hno,(hreg k i dk d hki hk hdi).resolve_left hno⟩
   have hmem:∀ {k dk},ds[k]? = some dk->dk∈ds:=fun hk=>List.mem_of_getElem? hk
   have hag:alike d (eB ds 0 (below i) s0) (eB ds 0 (fun k=>listed.getD k false) s0):=by
    refine lH (Rch s0 ds) ds 0 _ _ d s0 s0 Uh (Ii _ _) (Ii _ _) (alike.refl _ _) (fun _ _ _ _ _=>alike.refl _ _) ?_ ?_
    · intro k dk hk hz hy
      simp only [Nat.zero_add,below,Nat.blt_eq] at hz hy
      obtain ⟨hc,hp⟩:=hearlier k dk hk hz hy
      refine ⟨(EW (hmem hk) (hmem hdi) hp).1,(qm hc).1,fun j dj hkj hj hYj _=>?_⟩
      simp only [Nat.zero_add] at hYj
      obtain ⟨oj,hoj,_,_,_,hcm',_⟩:=h.step j dj (hlt' hj) hj
      have hno:¬ dj.pm.testBit k=true:=by
       intro hb
       have:=h.pm (X:=fun k=>listed.getD k false) hX (j+1) j dj oj (by omega) hj hoj (hX j dj oj hj hoj hYj) k hb
       rw [show listed.getD k false=true from this] at hy;cases hy
      exact ⟨(EW (hmem hk) (hmem hj) ((hreg k j dk dj hkj hk hj).resolve_left hno)).1,(qm ((hcm' k dk hkj hk).resolve_left hno)).1⟩
    · intro k dk hk hz hy
      simp only [Nat.zero_add,below] at hz hy
      have hz':¬ k<i:=by rw [<- Nat.blt_eq,hz];simp
      have hne:k≠i:=fun e=>by subst e;rw [hXi] at hy;cases hy
      obtain ⟨hc,hp⟩:=hlater k dk hk (by omega) hy
      refine ⟨(EW (hmem hdi) (hmem hk) hp).2,(qm hc).2,fun j dj hkj hj _ hZj=>?_⟩
      simp only [Nat.zero_add,below,Nat.blt_eq] at hZj
      omega
   have hins:(eB ds 0 (fun k=>(listed.setIfInBounds i true).getD k false) s0).eqv (d.app (eB ds 0 (fun k=>listed.getD k false) s0)):=by
    have e:(fun k=>(listed.setIfInBounds i true).getD k false)=ins (fun k=>listed.getD k false) i:=by
     funext k
     simp only [ins]
     by_cases hk:k=i
     · subst hk;simp [hil]
     · rw [if_neg hk];exact getD_set_ne false (Ne.symm hk)
    rw [e]
    exact Ce ds 0 _ i d s0 (Nat.zero_le _) (by simpa using hdi) hXi fun k dk hk hik hXk=>by
     simp only [Nat.zero_add] at hik hXk
     exact H8 (hlater k dk hk hik hXk).1
   have hst:=hstep _ hag
   unfold wpOp
   simp only [ho]
   refine hst H E w a _ Q hC hT hd fun v w' H' E' hr hC' hE'=>?_
   have hT':aI (d.app (eB ds 0 (fun k=>listed.getD k false) s0)).t H' E' (a.put o.dst v).tmps.toList:=by
    show aI (Cc (CY d.kl _) d.dst d.r) H' E' _
    rw [hdst]
    exact qY (hE'.abH hT) hr
   refine ih (listed.setIfInBounds i true) H' E' w' _ (by simp [hsz]) ?_ ?_ ?_ ?_ (by rw [put_defers];exact hd) ?_
   · have hl:=I_ (fun k=>listed.getD k false) i hXi ops.size
     rw [if_pos hlt] at hl
     have e:(fun k=>(listed.setIfInBounds i true).getD k false)=ins (fun k=>listed.getD k false) i:=by
      funext k
      simp only [ins]
      by_cases hk:k=i
      · subst hk;simp [hil]
      · rw [if_neg hk];exact getD_set_ne false (Ne.symm hk)
     rw [e];omega
   · intro j dj oj hj hoj hXj k hk
     by_cases hji:j=i
     · subst hji
       rw [ho] at hoj;cases hoj
       exact getD_set_true (hpred k hk)
     · rw [getD_set_ne false (Ne.symm hji)] at hXj
       exact getD_set_true (hX j dj oj hj hoj hXj k hk)
   · exact hC'.eqv fun k=>(hins.2 k).symm
   · rw [hins.1];exact hT'
   · intro a2 w2 H2 E2 h1 h2 h3 h4
     exact hq a2 w2 H2 E2 h1 h2 h3 (hE'.trans h4 (hMV d (List.mem_of_getElem? hdi)))
theorem N8 {H:HH} {E:Env} {w:World} {M:List aH} (h:Conc H E w M) (n:Nat):Conc H E { w with drawn:=n } M:=by
 refine ⟨h.imm,h.tf,fun i=>?_,h.injH,h.sepH,h.ltS⟩
 have:=(h.blk i).move (f:=some) (E':=E) (H':=H) (w':={ w with drawn:=n }) (i':=i) (HH.le_refl _) (fun a c hc hl=>by cases hc;exact ⟨hl,rfl,rfl,rfl⟩) rfl rfl rfl rfl (fun _=>Iff.rfl) fun _ _=>rfl
 rwa [fH] at this
theorem Cv:∀ (l:List DE) (p:Nat) (s:St),(∀ i∈s.mv,i∈(eB l p (fun _=>true) s).mv)/\∀ d∈l,∀ i∈d.kl,i∈(eB l p (fun _=>true) s).mv
 | [],_,s=>⟨fun _ h=>h,fun d hd=>by cases hd⟩
 | e::r,p,s=>by
   obtain ⟨h1,h2⟩:=Cv r (p+1) (e.app s)
   refine ⟨fun i hi=>h1 i (Eu i hi),fun d hd i hi=>?_⟩
   rcases List.mem_cons.1 hd with rfl | hd
   · exact h1 i (by simp [DE.app,St.app,DE.pU,hi])
   · exact h2 d hd i hi
theorem cB.drawn {P:Program} {ops:Array Oper} {id:Nat} {s0:St} {ds:List DE} (hm:P.follows .mixedOrders=true) (h:ZC P ops s0 ops.size ds) (hreg:Ug s0 ds) :
 cB P (.region id ops true) s0 .normal (eB ds 0 (fun _=>true) s0):=by
 obtain ⟨h1,h2⟩:=Cv ds 0 s0
 refine ⟨h1,fun H E w a hC hT hd=>wp_region_any hm ?_⟩
 have e:(fun k=>(Array.replicate ops.size false).getD k false)=fun _=>false:=by
  funext k
  simp only [Array.getD_eq_getD_getElem?,Array.getElem?_replicate]
  split<;>rfl
 have hn:eB ds 0 (fun k=>(Array.replicate ops.size false).getD k false) s0=s0:=by
  rw [e];exact o8 ds 0 s0 fun _ _=>rfl
 refine KD h hreg h2 ops.size _ H E { w with drawn:=w.drawn+1 } a (by simp) ?_ ?_ (by rw [hn];exact N8 hC _) (by rw [hn];exact hT) hd ?_
 · have:∀ (X:Nat->Bool) n,left X n<=n:=by
    intro X n
    induction n with
    | zero=>simp [left]
    | succ n ih=>simp only [left];cases X n<;>simp<;>omega
   exact this _ _
 · intro j d o _ _ hj
   rw [show (Array.replicate ops.size false).getD j false=false from congrFun e j] at hj;cases hj
 · intro a' w' H' E' hd' hT' hC' hE'
   refine ⟨H',E',rfl,hd',hT',hC',?_⟩
   exact ⟨hE'.os,hE'.tape,hE'.output,hE'.size,hE'.keep,hE'.own,hE'.hh,hE'.new,hE'.ids⟩
def iG:AV->List Nat
 | .ptr i _ _ _=>[i]
 | .own i _ _ _=>[i]
 | _=>[]
def JK (t:Nat->AV) (op:Op):List Nat :=
 match op with
 | .load _ a=>iG (ev t a)
 | .store _ a _=>iG (ev t a)
 | .call { callee:=.builtin .append,args,.. }=>args.toList.flatMap fun x=>iG (ev t x)
 | _=>[]
theorem Hf {h:Option Hint} {rd rd':Nat->aH} {a:AV} {n:Nat} (hr:∀ i∈iG a,rd i=rd' i):sV h rd a n=sV h rd' a n:=by
 cases a<;>first | rfl | skip
 rename_i i k sz o
 simp only [sV,hr i (by simp [iG])]
theorem yG {P:Program} {h:Option Hint} {rd rd':Nat->aH} {t:TypeId} {a:AV} (hr:∀ i∈iG a,rd i=rd' i):xX P h rd t a=xX P h rd' t a:=by
 unfold xX
 have e:∀ n,sV h rd a n=sV h rd' a n:=fun n=>Hf hr
 rw [e 1]
 split
 · split
   · rw [e]
   · rfl
 · rfl
theorem oK {P:Program} {h:Option Hint} {rd rd':Nat->aH} {t:TypeId} {a x:AV} (hr:∀ i∈iG a,rd i=rd' i):oP P h rd t a x=oP P h rd' t a x:=by
 cases a with
 | ptr i k sz o =>
   have e:=hr i (by simp [iG])
   cases hc:cellsOf x<;>cases hn:sizeT P t<;>simp [oP,hc,hn,e]
 | _=>rfl
theorem yE {rd rd':Nat->aH} {sz:Nat} {x:AV} (hr:∀ i∈iG x,rd i=rd' i):pJ rd sz x=pJ rd' sz x:=by
 cases x with
 | own i sz' lo n =>
   have e:=hr i (by simp [iG])
   simp [pJ,e]
 | s v =>
   cases v with
   | slice a m c=>cases a<;>cases m<;>cases c<;>rfl
   | _=>rfl
 | _=>rfl
theorem BP {P:Program} {h:Option Hint} {rd rd':Nat->aH} {nid:Nat} {t:TypeId} {s x:AV} (hs:∀ i∈iG s,rd i=rd' i) (hx:∀ i∈iG x,rd i=rd' i):lZ P h rd nid t s x=lZ P h rd' nid t s x:=by
 unfold lZ
 have e:∀ sz,pJ rd sz x=pJ rd' sz x:=fun sz=>yE hx
 cases s with
 | own i sz' lo n =>
   have e2:=hs i (by simp [iG])
   cases hu:P.underlying t with
   | none=>rfl
   | some d=>cases d<;>cases lo<;>simp [e,e2]
 | s v =>
   cases v with
   | slice a m c=>cases a<;>cases m<;>cases c<;>simp [e]
   | _=>simp [e]
 | _=>simp [e]
theorem abP {P:Program} {h:Option Hint} {rd rd':Nat->aH} {nid:Nat} {t:Nat->AV} {op:Op} (hr:∀ i∈JK t op,rd i=rd' i):oF P h rd nid t op=oF P h rd' nid t op:=by
 cases op with
 | load ty a =>
   simp only [JK] at hr
   simp only [oF,yG hr]
 | store ty a x =>
   simp only [JK] at hr
   simp only [oF,oK hr]
 | call c =>
   obtain ⟨callee,args,argTypes⟩:=c
   cases callee with
   | value f=>rfl
   | invoke r m=>rfl
   | builtin b =>
     cases b with
     | append =>
       simp only [JK] at hr
       simp only [oF]
       split
       · rename_i t1 t2 s x h1 h2
         rw [h2] at hr
         rw [BP (fun i hi=>hr i (by simp [hi])) (fun i hi=>hr i (by simp [hi]))]
       · rfl
     | _=>rfl
 | unOp u _ _=>cases u<;>rfl
 | _=>rfl
theorem Cg {h:Option Hint} {nid nid':Nat} {r:AV} {e:Eff} (h1:xY h nid r=some e) (hn:nid ∉ ids e.wr):xY h nid' r=some e:=by
 have key:(∃ ty sz,h=some (.row ty sz)/\r=.s (.slice none 0 0))∨(∀ n,xY h n r=wO r):=by
  unfold xY
  split
  · exact .inl ⟨_,_,rfl,rfl⟩
  · exact .inr fun _=>rfl
 rcases key with ⟨ty,sz,rfl,rfl⟩ | k
 · simp only [xY] at h1
   cases h1;simp [ids] at hn
 · rw [k] at h1 ⊢;exact h1
theorem yM {P:Program} {nid nid':Nat} {t:TypeId} {n:Nat} {pa:List (Nat×AV)} {e:Eff} (h1:jP P nid t n pa=some e) (hn:nid ∉ ids e.wr):jP P nid' t n pa=some e:=by
 unfold jP at h1
 repeat' split at h1
 all_goals first | cases h1;simp [ids] at hn | cases h1
theorem F7 {P:Program} {h:Option Hint} {rd:Nat->aH} {nid nid':Nat} {t:TypeId} {s x:AV} {e:Eff} (h1:lZ P h rd nid t s x=some e) (hn:nid ∉ ids e.wr):lZ P h rd nid' t s x=some e:=by
 have key:(∃ i sz lo n,s=.own i sz lo n)∨(∀ i sz lo n,s≠.own i sz lo n):=by
  cases s with
  | own i sz lo n=>exact .inl ⟨i,sz,lo,n,rfl⟩
  | _=>exact .inr fun _ _ _ _ h=>by cases h
 rcases key with ⟨i,sz,lo,n,rfl⟩ | hs
 · cases lo<;>exact h1
 · exfalso
   unfold lZ at h1
   repeat' split at h1
   all_goals first | (cases h1;done) | (cases h1;simp [ids] at hn;done) | exact absurd rfl (hs _ _ _ _)
theorem Yx {P:Program} {h:Option Hint} {rd:Nat->aH} {nid nid':Nat} {t:Nat->AV} {op:Op} {e:Eff} (h1:oF P h rd nid t op=some e) (hn:nid ∉ ids e.wr):oF P h rd nid' t op=some e:=by
 cases op with
 | move x=>exact Cg h1 hn
 | assign x=>exact Cg h1 hn
 | alloc ty =>
   simp only [oF] at h1
   split at h1
   · cases h1;simp [ids] at hn
   · cases h1
 | box ty x =>
   simp only [oF] at h1
   split at h1
   · cases h1;simp [ids] at hn
   · cases h1
 | buildSlice ty n pa=>exact yM h1 hn
 | call c =>
   obtain ⟨callee,args,argTypes⟩:=c
   cases callee with
   | value f=>exact h1
   | invoke r m=>exact h1
   | builtin b =>
     cases b with
     | append =>
       simp only [oF] at h1 ⊢
       split at h1
       · split at h1
         · rename_i hq
           rw [if_pos hq]
           exact F7 h1 hn
         · cases h1
       · cases h1
     | _=>exact h1
 | unOp u _ _=>cases u<;>exact h1
 | _=>exact h1
structure CE where
 r:AV
 rd:List Nat
 wr:List (Nat×aH)
 kl:List Nat
 ob:List Prop
def CE.pU (e:CE) (m:List aH):Stp:=⟨e.r,eH e.wr (fF e.kl m),e.kl,e.ob⟩
def StepT (P:Program) (o:Oper) (t:Nat->AV) (M:List aH) (e:CE):Prop :=
 ∀ H E w a (K:Act->World->Prop) (Q:Exit->Act->World->Prop),Conc H E w M->jM t H E a->a.defers=[] ->
  (∀ v w' H' E',Rel e.r H' E' v->Conc H' E' w' (eH e.wr (fF e.kl M))->cO e.kl H E w H' E' w'->K (a.put o.dst v) w')->o.wp P a w K Q
def vw (kl:List Nat):List (Nat×aH)->List (Nat×aH)
 | []=>[]
 | p::r=>(p.1,match kl with | []=>p.2 | _=>gD (aX kl) p.2)::vw kl r
theorem yu (kl:List Nat) (j:Nat):∀ l,gB (vw kl l) j=(gB l j).map (gD (aX kl))
 | []=>rfl
 | (i,B)::r=>by
   have hb:(match kl with | []=>B | _=>gD (aX kl) B)=gD (aX kl) B:=by
    cases kl with
    | nil=>rw [jL,fH]
    | cons _ _=>rfl
   simp only [vw,gB,yu kl j r,hb]
   cases gB r j with
   | some b=>rfl
   | none=>simp only [Option.map_none];split<;>rfl
theorem sD (kl:List Nat) (wr:List (Nat×aH)) (M:List aH) (j:Nat):getM (fF kl (eH wr M)) j=getM (eH (vw kl wr) (fF kl M)) j:=by
 rw [jh,jO,jO,yu,jh]
 cases gB wr j<;>rfl
def CF:=Nat->Nat->Oper->(Nat->AV)->(Nat->aH)->Option CE
def Ee (P:Program) (cf:CF):Prop :=
 ∀ nid p o t rd e,cf nid p o t rd=some e->Hold e.ob->(∀ k,nid<=k->rd k=.dead)->∀ M,(∀ i∈e.rd,getM M i=rd i)->StepT P o t M e
theorem Te {P:Program} {hh:Option Hint} {nid:Nat} {o:Oper} {t:Nat->AV} {rd:Nat->aH} {e:Eff} (h:oF P hh rd nid t o.op=some e) (ho:Hold (e.ob.map (· = true))) (hd:∀ k,nid<=k->rd k=.dead) {M:List aH}
 (hM:∀ i∈JK t o.op++ids e.wr,getM M i=rd i):StepT P o t M ⟨e.r,JK t o.op++ids e.wr,vw e.kl e.wr,e.kl,e.ob.map (· = true)⟩:=by
 intro H E w a K Q hC hT hdf hk
 obtain ⟨nid',hd',h'⟩:∃ nid',getM M nid'=.dead/\oF P hh (getM M) nid' t o.op=some e:=by
  rw [abP (rd':=getM M) fun i hi=>(hM i (by simp [hi])).symm] at h
  by_cases hn:nid∈ids e.wr
  · exact ⟨nid,(hM nid (by simp [hn])).trans (hd nid (Nat.le_refl _)),h⟩
  · exact ⟨len M,mK _ _ (Nat.le_refl _),Yx h hn⟩
 obtain ⟨n,v,w',E',hrun,hn,hr,hc,hev⟩:=Hr (a:=a) hC hd' hT h' fun b hb=>ho (b=true) (by simp;exact hb)
 have hc:=hc.eqv (sD e.kl e.wr M)
 unfold Oper.wp
 rw [hrun]
 rcases hn with rfl | ⟨rfl,rfl⟩
 · exact hk v w' H E' hr hc hev
 · exact hk undef w' H E' hr hc hev
def vo (l:List Nat) (t:Nat->AV) (i:Nat):AV:=match mem l i with | true=>t i | false=>.junk
theorem AY {l:List Nat} {t:Nat->AV} {H:HH} {E:Env} {a:Act} (h:jM t H E a):jM (vo l t) H E a:=fun i=>by
 unfold vo
 split
 · exact h i
 · trivial
def NQ:List DE->Nat->Nat
 | [],_=>0
 | d::_,0=>d.pm
 | _::l,n+1=>NQ l n
theorem KY:∀ (l:List DE) (n:Nat),NQ l n=match l[n]? with | some d=>d.pm | none=>0
 | [],n=>by simp [NQ]
 | d::_,0=>rfl
 | _::l,n+1=>by simp only [NQ,List.getElem?_cons_succ];exact KY l n
def Kv (ds:List DE):List Nat->Nat
 | []=>0
 | e::r=>(2 ^ e ||| NQ ds e) ||| Kv ds r
theorem G9 {ds:List DE}:∀ {es:List Nat} {k:Nat},(Kv ds es).testBit k=true->∃ e∈es,e=k∨(NQ ds e).testBit k=true
 | [],k,h=>by simp [Kv] at h
 | e::r,k,h=>by
   simp only [Kv,Nat.testBit_or,Bool.or_eq_true] at h
   rcases h with (h | h) | h
   · rw [Nat.testBit_two_pow] at h
     exact ⟨e,by simp,.inl (by simpa using h)⟩
   · exact ⟨e,by simp,.inr h⟩
   · obtain ⟨x,hx,h⟩:=G9 h
     exact ⟨x,by simp [hx],h⟩
def IX:List Nat->Nat->Bool
 | [],_=>true
 | e::r,p=>Nat.blt e p&&IX r p
theorem wG:∀ {l:List Nat} {p:Nat},IX l p=true->∀ k∈l,k<p
 | [],_,_,k,hk=>by cases hk
 | e::r,p,h,k,hk=>by
   simp only [IX,Bool.and_eq_true,Nat.blt_eq] at h
   rcases List.mem_cons.1 hk with rfl | hk
   · exact h.1
   · exact wG h.2 k hk
def n_:List DE->Nat->DE->Bool
 | [],_,_=>true
 | e::r,k,d=>(d.pm.testBit k||compat e d)&&n_ r (k+1) d
theorem wB:∀ {l:List DE} {p:Nat} {d:DE},n_ l p d=true->∀ k dk,l[k]? = some dk->d.pm.testBit (p+k)=true∨compat dk d=true
 | [],_,_,_,k,dk,hk=>by simp at hk
 | e::r,p,d,h,k,dk,hk=>by
   simp only [n_,Bool.and_eq_true,Bool.or_eq_true] at h
   cases k with
   | zero=>simp at hk;subst hk;exact h.1
   | succ k=>rw [show p+(k+1)=p+1+k by omega];exact wB h.2 k dk (by simpa using hk)
def I9 (P:Program) (t:TypeId) (cs:List AV) (off:Nat):Option AV :=
 match P.underlying t with
 | none=>none
 | some _=>(match isAgg P t,sizeT P t with
   | true,some n=>if Nat.ble (off+n) (len cs) then some (.agg (kY cs off n)) else none
   | false,_=>if Nat.ble (off+1) (len cs) then some (get cs off) else none
   | _,_=>none)
theorem AU {P:Program} {H:HH} {E:Env} (w:World) {t:TypeId} {cs:List AV} {vs:Array Value} {off:Nat} {a:AV} (h:I9 P t cs off=some a) (hr:aI cs H E vs.toList) :
 ∃ u,(part t vs off).run P w=.ok u w/\Rel a H E u:=by
 have hlen:=aI.length hr
 unfold I9 at h
 split at h
 · cases h
 rename_i d hd
 have hud:∃ d,P.underlying t=some d:=⟨d,hd⟩
 split at h
 · rename_i n ha hn
   split at h
   case isFalse=>cases h
   rename_i hle
   simp only [Nat.ble_eq,len_eq] at hle
   cases h
   refine ⟨.agg (vs.extract off (off+n)),?_,?_⟩
   · simp [part,je w hud,ha,eX w hn]
   · refine ⟨_,rfl,iq (by simp at hlen;simp [gQ];omega) fun j u hj=>?_⟩
     have hjn:j<n:=by
      have:=(List.getElem?_eq_some_iff.1 hj).1
      simp at this;omega
     rw [jQ _ _ _ _ hjn]
     refine bK hr _ _ ?_
     simp only [Array.toList_extract,List.extract_eq_take_drop,Nat.add_sub_cancel_left] at hj
     rw [List.getElem?_take,if_pos hjn,List.getElem?_drop] at hj
     exact hj
 · rename_i ha
   split at h
   case isFalse=>cases h
   rename_i hle
   simp only [Nat.ble_eq,len_eq] at hle
   cases h
   have hlt:off<vs.size:=by simp at hlen;omega
   refine ⟨vs[off],?_,bK hr _ _ (by simp [hlt])⟩
   simp [part,je w hud,ha,hlt]
 · cases h
def eqF (P:Program) (rec:TypeId->AV->AV->Option Bool):List Field->List AV->List AV->Option Bool
 | [],_,_=>some true
 | f::r,xs,ys =>
   if f.name = "_" then eqF P rec r xs ys else
   match I9 P f.type xs f.offset,I9 P f.type ys f.offset with
   | some a,some b=>(match rec f.type a b with
     | some q=>(match eqF P rec r xs ys with | some q2=>some (q&&q2) | none=>none)
     | none=>none)
   | _,_=>none
def eqV (P:Program):Nat->TypeId->AV->AV->Option Bool
 | 0,_,_,_=>none
 | d+1,t,x,y =>
   match P.underlying t,x,y with
   | some (.int _),.s (.int k a),.s (.int k' b)=>if k=k' then some (a==b) else none
   | some .string,.s (.string a),.s (.string b)=>some (a.data.toList==b.data.toList)
   | some .bool,.s (.bool a),.s (.bool b)=>some (a==b)
   | some (.slice _),.s (.slice none 0 0),.s (.slice none 0 0)=>some true
   | some (.slice _),.s (.slice none 0 0),.sl _ _ (_+1) _=>some false
   | some (.slice _),.s (.slice none 0 0),.own _ _ _ (_+1)=>some false
   | some (.slice _),.sl _ _ (_+1) _,.s (.slice none 0 0)=>some false
   | some (.slice _),.own _ _ _ (_+1),.s (.slice none 0 0)=>some false
   | some (.pointer _),.s (.pointer none),.s (.pointer none)=>some true
   | some (.pointer _),.s (.pointer none),.ptr ..=>some false
   | some (.pointer _),.s (.pointer none),.ip ..=>some false
   | some (.pointer _),.ptr ..,.s (.pointer none)=>some false
   | some (.pointer _),.ip ..,.s (.pointer none)=>some false
   | some (.map _ _),.s (.map none),.s (.map none)=>some true
   | some (.func _ _ _),.s .nilFunc,.s .nilFunc=>some true
   | some (.func _ _ _),.s .nilFunc,.fn ..=>some false
   | some (.func _ _ _),.fn ..,.s .nilFunc=>some false
   | some (.interface _),.s .nilIface,.s .nilIface=>some true
   | some (.interface _),.s .nilIface,.ifc ..=>some false
   | some (.interface _),.ifc ..,.s .nilIface=>some false
   | some (.interface _),.ifc tx vx,.ifc ty vy=>if Nat.beq tx ty then (match P.info? tx with
      | some i=>if i.comparable then eqV P d tx vx vy else none
      | none=>none) else some false
   | some (.struct fs),.agg xs,.agg ys=>if P.stoodInHeld t then none else eqF P (eqV P d) fs.toList xs ys
   | _,_,_=>none
theorem Jl {P:Program} {H:HH} {E:Env} (w:World) {rec:TypeId->AV->AV->Option Bool} {D:Nat} (hrec:∀ t a b q u v,rec t a b=some q->Rel a H E u->Rel b H E v->(Op.equalIn D t u v).run P w=.ok q w) :
 ∀ {fs:List Field} {xs ys:List AV} {xv yv:Array Value} {q:Bool},eqF P rec fs xs ys=some q->aI xs H E xv.toList->aI ys H E yv.toList->(Op.eqFields D xv yv fs).run P w=.ok q w
 | [],xs,ys,xv,yv,q,h,_,_=>by simp [eqF] at h;subst h;simp [Op.eqFields]
 | f::r,xs,ys,xv,yv,q,h,hx,hy=>by
   simp only [eqF] at h
   split at h
   · rename_i hn
     simp only [Op.eqFields,hn,ne_eq,not_true_eq_false,if_false]
     exact Jl w hrec h hx hy
   · rename_i hn
     split at h
     case h_2=>cases h
     rename_i a b ha hb
     split at h
     case h_2=>cases h
     rename_i q1 hq1
     split at h
     case h_2=>cases h
     rename_i q2 hq2
     cases h
     obtain ⟨u,hu,hur⟩:=AU w ha hx
     obtain ⟨v,hv,hvr⟩:=AU w hb hy
     simp only [Op.eqFields,hn,ne_eq,not_false_eq_true,if_true,Sem.run_bind,hu,hv,Result.andThen_ok,hrec _ _ _ _ _ _ hq1 hur hvr]
     cases q1
     · simp
     · simp;exact Jl w hrec hq2 hx hy
theorem AP {H:HH} {E:Env} {b:Bool} {sz n:Nat} {c:Nat->Nat->AV} {u:Value} (h:Rel (.sl b sz (n+1) c) H E u):∃ ad m k,u=.slice (some ad) m k:=by
 obtain ⟨a,cap,rfl,_,hk⟩:=h
 obtain ⟨ad,rfl,_⟩:=hk (Nat.succ_pos _)
 exact ⟨ad,_,_,rfl⟩
theorem yD {H:HH} {E:Env} {i sz lo n:Nat} {u:Value} (h:Rel (.own i sz lo (n+1)) H E u):∃ ad m k,u=.slice (some ad) m k:=by
 obtain ⟨_,_,hm⟩:=h
 cases hi:E.ι i with
 | none=>rw [hi] at hm;obtain ⟨_,h0,_⟩:=hm;cases h0
 | some b =>
   rw [hi] at hm
   obtain ⟨a,rfl,ha⟩:=hm
   rw [ha.1 (.inr (Nat.succ_pos _))]
   exact ⟨_,_,_,rfl⟩
theorem Fj {P:Program} {H:HH} {E:Env} (w:World):∀ (d D:Nat) (t:TypeId) (a b:AV) (q:Bool) (x y:Value),d<=D->eqV P d t a b=some q->Rel a H E x->Rel b H E y->(Op.equalIn D t x y).run P w=.ok q w
 | 0,_,_,_,_,_,_,_,_,h,_,_=>by simp [eqV] at h
 | d+1,0,_,_,_,_,_,_,hD,_,_,_=>by omega
 | d+1,D+1,t,a,b,q,x,y,hD,h,hx,hy=>by
   simp only [eqV] at h
   split at h
   · rename_i k a k' b hu
     split at h
     case isFalse=>cases h
     rename_i hk
     subst hk
     cases h
     obtain ⟨rfl,_⟩:=hx
     obtain ⟨rfl,_⟩:=hy
     exact run_equalIn_int w D t k _ a b hu
   · rename_i a b hu
     cases h
     obtain ⟨rfl,_⟩:=hx
     obtain ⟨rfl,_⟩:=hy
     rw [run_equalIn_string w D t a b hu,ByteArray.toList_eq,ByteArray.toList_eq]
   · rename_i a b hu
     cases h
     obtain ⟨rfl,_⟩:=hx
     obtain ⟨rfl,_⟩:=hy
     exact run_equalIn_bool' w D t a b hu
   · rename_i hu
     cases h
     obtain ⟨rfl,_⟩:=hx
     obtain ⟨rfl,_⟩:=hy
     simp [Op.equalIn,run_underlying hu]
   · rename_i hu
     cases h
     obtain ⟨rfl,_⟩:=hx
     obtain ⟨_,_,_,rfl⟩:=AP hy
     simp [Op.equalIn,run_underlying hu]
   · rename_i hu
     cases h
     obtain ⟨rfl,_⟩:=hx
     obtain ⟨_,_,_,rfl⟩:=yD hy
     simp [Op.equalIn,run_underlying hu]
   · rename_i hu
     cases h
     obtain ⟨rfl,_⟩:=hy
     obtain ⟨_,_,_,rfl⟩:=AP hx
     simp [Op.equalIn,run_underlying hu]
   · rename_i hu
     cases h
     obtain ⟨rfl,_⟩:=hy
     obtain ⟨_,_,_,rfl⟩:=yD hx
     simp [Op.equalIn,run_underlying hu]
   · rename_i hu
     cases h
     obtain ⟨rfl,_⟩:=hx
     obtain ⟨rfl,_⟩:=hy
     simp [Op.equalIn,run_underlying hu]
   · rename_i hu
     cases h
     obtain ⟨rfl,_⟩:=hx
     obtain ⟨_,b,_,rfl⟩:=hy
     simp [Op.equalIn,run_underlying hu]
   · rename_i hu
     cases h
     obtain ⟨rfl,_⟩:=hx
     obtain ⟨b,rfl,_⟩:=hy
     simp [Op.equalIn,run_underlying hu]
   · rename_i hu
     cases h
     obtain ⟨rfl,_⟩:=hy
     obtain ⟨_,b,_,rfl⟩:=hx
     simp [Op.equalIn,run_underlying hu]
   · rename_i hu
     cases h
     obtain ⟨rfl,_⟩:=hy
     obtain ⟨b,rfl,_⟩:=hx
     simp [Op.equalIn,run_underlying hu]
   · rename_i hu
     cases h
     obtain ⟨rfl,_⟩:=hx
     obtain ⟨rfl,_⟩:=hy
     simp [Op.equalIn,run_underlying hu]
   · rename_i hu
     cases h
     obtain ⟨rfl,_⟩:=hx
     obtain ⟨rfl,_⟩:=hy
     simp [Op.equalIn,run_underlying hu]
   · rename_i hu
     cases h
     obtain ⟨rfl,_⟩:=hx
     obtain ⟨_,_,rfl,_⟩:=hy
     simp [Op.equalIn,run_underlying hu]
   · rename_i hu
     cases h
     obtain ⟨rfl,_⟩:=hy
     obtain ⟨_,_,rfl,_⟩:=hx
     simp [Op.equalIn,run_underlying hu]
   · rename_i hu
     cases h
     obtain ⟨rfl,_⟩:=hx
     obtain ⟨rfl,_⟩:=hy
     simp [Op.equalIn,run_underlying hu]
   · rename_i hu
     cases h
     obtain ⟨rfl,_⟩:=hx
     obtain ⟨_,rfl,_⟩:=hy
     simp [Op.equalIn,run_underlying hu]
   · rename_i hu
     cases h
     obtain ⟨rfl,_⟩:=hy
     obtain ⟨_,rfl,_⟩:=hx
     simp [Op.equalIn,run_underlying hu]
   · rename_i tx vx ty vy hu
     obtain ⟨x',rfl,hx'⟩:=hx
     obtain ⟨y',rfl,hy'⟩:=hy
     split at h
     · rename_i ht
       have ht:=Nat.eq_of_beq_eq_true ht
       subst ht
       split at h
       case h_2=>cases h
       rename_i i hi
       split at h
       case isFalse=>cases h
       rename_i hc
       have:=Fj w d D _ vx vy q x' y' (by omega) h hx' hy'
       simp [Op.equalIn,run_underlying hu,typeInfo,hi,hc,this]
     · rename_i ht
       cases h
       have ht:tx≠ty:=fun e=>ht (by subst e;exact Nat.beq_refl _)
       simp [Op.equalIn,run_underlying hu,ht]
   · rename_i fs xs ys hu
     obtain ⟨xv,rfl,hxr⟩:=hx
     obtain ⟨yv,rfl,hyr⟩:=hy
     split at h
     case isTrue=>cases h
     rename_i hs
     have hf:P.fieldsOf t=fs:=by simp [Program.fieldsOf,hu]
     have hu':P.underlying t=some (.struct (P.fieldsOf t)):=by rw [hf];exact hu
     rw [run_equalIn_struct w D t xv yv hu' (by simpa using hs),hf]
     exact Jl w (fun t a b q u v h1 h2 h3=>Fj w d D t a b q u v (by omega) h1 h2 h3) h hxr hyr
   · cases h
def isConst:Operand->Bool
 | .const _=>true
 | _=>false
def tH:AV->Bool
 | .s (.int ..) | .s (.float ..) | .s (.complex ..) | .s (.string _) | .y _ | .ys .. | .yn .. | .junk | .opt .. | .tup _=>false
 | _=>true
def isNilIface:AV->Bool
 | .s .nilIface=>true
 | _=>false
def DV:AV->Bool
 | .agg _=>true
 | _=>false
def Dm (P:Program) (t:TypeId) (x y:Operand) (a b:AV):Bool :=
 tH a&&tH b&&(!(isNilIface a&&isNilIface b)||(isConst x||isConst y))&&(!(DV a&&DV b)||!P.eqGuardType P.depth t)
theorem u_ {a:AV} {H:HH} {E:Env} {u:Value} (h:tH a=true) (hr:Rel a H E u):(∀ k n,u≠.int k n)/\(∀ k n,u≠.float k n)/\(∀ k n m,u≠.complex k n m)/\(∀ b,u≠.string b)/\(u=.nilIface->isNilIface a=true)/\(∀ cs,u=.agg cs->DV a=true):=by
 cases a with
 | s v =>
   obtain ⟨rfl,hs⟩:=hr
   cases u<;>simp [tH,scalar] at h hs ⊢<;>rfl
 | y v=>simp [tH] at h
 | ys _ _ _ _=>simp [tH] at h
 | yn _ _ _ _=>simp [tH] at h
 | opt _ _ _=>simp [tH] at h
 | junk=>simp [tH] at h
 | tup cs=>simp [tH] at h
 | ptr i k sz o=>obtain ⟨_,b,_,rfl⟩:=hr;simp
 | own i sz lo n =>
   obtain ⟨_,_,hm⟩:=hr
   cases hi:E.ι i with
   | none=>rw [hi] at hm;obtain ⟨_,_,rfl⟩:=hm;simp
   | some b=>rw [hi] at hm;obtain ⟨a,rfl,_⟩:=hm;simp
 | mref i=>obtain ⟨_,b,_,rfl⟩:=hr;simp
 | sl b sz n c=>obtain ⟨a,cap,rfl,_⟩:=hr;simp
 | ip b m c=>obtain ⟨ad,rfl,_⟩:=hr;simp
 | agg cs=>obtain ⟨vs,rfl,_⟩:=hr;simp [DV]
 | fn f x y=>obtain ⟨a,b,rfl,_⟩:=hr;simp
 | ifc t x=>obtain ⟨a,rfl,_⟩:=hr;simp
theorem run_eq_of {P:Program} {t:TypeId} {u v:Value} {w:World} {q:Bool} (h1:∀ k n,u≠.int k n) (h2:∀ k n,u≠.float k n) (h3:∀ k n m,u≠.complex k n m) (h4:∀ b,u≠.string b) (hq:(Op.equalIn 10000 t u v).run P w=.ok q w) :
 (binOp .eql t u v).run P w=.ok (.bool q) w/\(binOp .neq t u v).run P w=.ok (.bool (!q)) w:=by
 have e1:binOp .eql t u v=(do pure (.bool (<- Op.equal t u v))):=by
  cases u<;>first | exact absurd rfl (h1 _ _) | exact absurd rfl (h2 _ _) | exact absurd rfl (h3 _ _ _) | exact absurd rfl (h4 _) | rfl
 have e2:binOp .neq t u v=(do pure (.bool (!(<- Op.equal t u v)))):=by
  cases u<;>first | exact absurd rfl (h1 _ _) | exact absurd rfl (h2 _ _) | exact absurd rfl (h3 _ _ _) | exact absurd rfl (h4 _) | rfl
 rw [e1,e2]
 unfold Op.equal Op.maxDepth
 simp [hq]
theorem CB {P:Program} {op:BinOp} {t:TypeId} {x y:Operand} {a b:AV} {u v:Value} {H:HH} {E:Env} {w:World} (hop:op=.eql∨op=.neq) (h:Dm P t x y a b=true) (hu:Rel a H E u) (hv:Rel b H E v):(eqGuard op t x y u v).run P w=.ok () w:=by
 simp only [Dm,Bool.and_eq_true] at h
 obtain ⟨⟨⟨ha,hb⟩,hn⟩,hg⟩:=h
 obtain ⟨_,_,_,_,a5,a6⟩:=u_ ha hu
 obtain ⟨_,_,_,_,b5,b6⟩:=u_ hb hv
 by_cases hnn:u=.nilIface/\v=.nilIface
 · obtain ⟨rfl,rfl⟩:=hnn
   rw [a5 rfl,b5 rfl] at hn
   simp at hn
   rcases hop with rfl | rfl<;>cases x<;>cases y<;>simp [isConst] at hn<;>simp [eqGuard]
 · by_cases hag:∃ xs ys,u=.agg xs/\v=.agg ys
   · obtain ⟨xs,ys,rfl,rfl⟩:=hag
     rw [a6 _ rfl,b6 _ rfl] at hg
     exact run_eqGuard_agg w op t x y xs ys (by simpa using hg)
   · rcases hop with rfl | rfl<;>unfold eqGuard<;>simp only [Bool.not_true,Bool.false_eq_true,if_false] <;>
      (split<;>first | rfl | exact absurd ⟨rfl,rfl⟩ hnn | exact absurd ⟨_,_,rfl,rfl⟩ hag)
def FX (h:Option Hint) (q:Bool):CE :=
 match h with
 | some (.b y)=>⟨.s (.bool y),[],[],[],[agree y q=true]⟩
 | _=>⟨.s (.bool q),[],[],[],[]⟩
theorem Bz {P:Program} {o:Oper} {t:Nat->AV} {M:List aH} {r:AV} {rd:List Nat} {ob:List Prop} (h:∀ H E w a,Conc H E w M->jM t H E a->∃ v,(execOp a.eval o).run P w=.ok (.value v) w/\Rel r H E v):StepT P o t M ⟨r,rd,[],[],ob⟩:=by
 intro H E w a K Q hC hT hd hk
 obtain ⟨v,hv,hr⟩:=h H E w a hC hT
 unfold Oper.wp
 rw [hv]
 exact hk v w H E hr hC (cO.refl _ _ _ _)
theorem Jc {P:Program} {o:Oper} {t:Nat->AV} {M:List aH} {h:Option Hint} {q:Bool} (hq:∀ H E w a,Conc H E w M->jM t H E a->(execOp a.eval o).run P w=.ok (.value (.bool q)) w) (ho:Hold (FX h q).ob):StepT P o t M (FX h q):=by
 unfold FX at ho ⊢
 split
 · rename_i y
   refine Bz fun H E w a hC hT=>⟨_,hq H E w a hC hT,?_⟩
   have:=ho (agree y q=true) (by simp)
   cases y<;>cases q<;>first | exact ⟨rfl,rfl⟩ | simp [agree] at this
 · exact Bz fun H E w a hC hT=>⟨_,hq H E w a hC hT,rfl,rfl⟩
def ZR (P:Program) (hh:Nat->Option Hint):CF:=fun _ p o t _ =>
 match o.op with
 | .binOp .eql ty x y _=>(match Dm P ty x y (ev t x) (ev t y) with
   | true=>(match eqV P 12 ty (ev t x) (ev t y) with | some q=>some (FX (hh p) q) | none=>none)
   | false=>none)
 | .binOp .neq ty x y _=>(match Dm P ty x y (ev t x) (ev t y) with
   | true=>(match eqV P 12 ty (ev t x) (ev t y) with | some q=>some (FX (hh p) (!q)) | none=>none)
   | false=>none)
 | _=>none
theorem Fb (P:Program) (hh:Nat->Option Hint):Ee P (ZR P hh):=by
 intro nid p o t rd e h ho hd M hM
 unfold ZR at h
 split at h
 · rename_i ty x y f hop
   split at h
   case h_2=>cases h
   rename_i hg
   split at h
   case h_2=>cases h
   rename_i q hq
   cases h
   refine Jc (fun H E w a hC hT=>?_) ho
   have hx:=aV hT x
   have hy:=aV hT y
   have hg':=CB (op:=.eql) (w:=w) (.inl rfl) hg hx hy
   simp only [Dm,Bool.and_eq_true] at hg
   obtain ⟨a1,a2,a3,a4,_⟩:=u_ hg.1.1.1 hx
   have:=(run_eq_of a1 a2 a3 a4 (Fj w 12 10000 ty _ _ q _ _ (by omega) hq hx hy)).1
   simp [execOp,hop,hg',this]
 · rename_i ty x y f hop
   split at h
   case h_2=>cases h
   rename_i hg
   split at h
   case h_2=>cases h
   rename_i q hq
   cases h
   refine Jc (fun H E w a hC hT=>?_) ho
   have hx:=aV hT x
   have hy:=aV hT y
   have hg':=CB (op:=.neq) (w:=w) (.inr rfl) hg hx hy
   simp only [Dm,Bool.and_eq_true] at hg
   obtain ⟨a1,a2,a3,a4,_⟩:=u_ hg.1.1.1 hx
   have:=(run_eq_of a1 a2 a3 a4 (Fj w 12 10000 ty _ _ q _ _ (by omega) hq hx hy)).2
   simp [execOp,hop,hg',this]
 · cases h
def orE (a b:CF):CF:=fun nid p o t rd=>match a nid p o t rd with | some e=>some e | none=>b nid p o t rd
theorem acJ {P:Program} {a b:CF} (ha:Ee P a) (hb:Ee P b):Ee P (orE a b):=by
 intro nid p o t rd e h ho hd M hM
 unfold orE at h
 split at h
 · rename_i h1
   cases h
   exact ha _ _ _ _ _ _ h1 ho hd M hM
 · exact hb _ _ _ _ _ _ h ho hd M hM
def UL (P:Program) (hh:Nat->Option Hint):CF:=ZR P hh
theorem XL (P:Program) (hh:Nat->Option Hint):Ee P (UL P hh):=Fb P hh
def xA (L:List Nat) (i:Nat):Option Nat:=match mem L i with | true=>some i | false=>none
def Gm (L:List Nat) (rd:Nat->aH):Nat->Nat->List aH
 | _,0=>[]
 | i,n+1=>(match mem L i with | true=>gD (xA L) (rd i) | false=>.dead)::Gm L rd (i+1) n
theorem Dv (L:List Nat) (rd:Nat->aH):∀ (n i j:Nat),getM (Gm L rd i n) j=if j<n then (match mem L (i+j) with | true=>gD (xA L) (rd (i+j)) | false=>.dead) else .dead
 | 0,i,j=>by simp [Gm,dW]
 | n+1,i,0=>by simp [Gm,getM]
 | n+1,i,j+1=>by
   simp only [Gm,getM,Dv L rd n (i+1) j,Nat.add_lt_add_iff_right]
   rw [show i+1+j=i+(j+1) by omega]
def rQ (L:List Nat) (nid:Nat):Nat->List aH->Bool
 | _,[]=>true
 | i,B::r=>(match Nat.ble nid i with | true=>true | false=>mem L i||(match B with | .dead=>true | _=>false))&&rQ L nid (i+1) r
theorem Bw {L:List Nat} {nid:Nat}:∀ {M:List aH} {p:Nat},rQ L nid p M=true->∀ j,p+j<nid->mem L (p+j)=false->getM M j=.dead
 | [],p,_,j,_,_=>dW j
 | B::r,p,h,0,hj,hm=>by
   simp only [rQ,Bool.and_eq_true] at h
   have hn:Nat.ble nid p=false:=by
    cases hb:Nat.ble nid p with
    | false=>rfl
    | true=>have:=Nat.le_of_ble_eq_true hb;omega
   rw [hn] at h
   simp only [Bool.or_eq_true] at h
   have hm:mem L p=false:=hm
   rw [hm] at h
   simp only [getM]
   cases B<;>simp at h<;>rfl
 | B::r,p,h,j+1,hj,hm=>by
   simp only [rQ,Bool.and_eq_true] at h
   exact Bw h.2 j (by omega) (by rw [show p+1+j=p+(j+1) by omega];exact hm)
def pairs (M:List aH):List Nat->List (Nat×aH)
 | []=>[]
 | i::r=>(i,getM M i)::pairs M r
def wQ (a:Nat):Nat->List Nat
 | 0=>[]
 | n+1=>a::wQ (a+1) n
theorem tO:∀ {n a i:Nat},mem (wQ a n) i=true↔a<=i/\i<a+n
 | 0,a,i=>by simp [wQ,mem]
 | n+1,a,i=>by
   simp only [wQ,mem,Bool.or_eq_true,Nat.beq_eq,tO (n:=n)]
   omega
theorem rJ (M:List aH) (j:Nat):∀ (l:List Nat),gB (pairs M l) j=match mem l j with | true=>some (getM M j) | false=>none
 | []=>rfl
 | i::r=>by
   simp only [pairs,gB,rJ M j r,mem]
   cases hm:mem r j with
   | true=>simp
   | false =>
     by_cases hij:i=j
     · subst hij;simp
     · have:Nat.beq i j=false:=by
        cases hb:Nat.beq i j with
        | false=>rfl
        | true=>exact absurd (Nat.eq_of_beq_eq_true hb) hij
       simp [hij,this]
theorem xS (M:List aH):∀ l,ids (pairs M l)=l
 | []=>rfl
 | i::r=>by simp [pairs,ids,xS M r]
theorem Fp (a b:List (Nat×aH)) (j:Nat):gB (a++b) j=match gB b j with | some B=>some B | none=>gB a j:=by
 induction a with
 | nil=>simp only [List.nil_append,gB];cases gB b j<;>rfl
 | cons p r ih =>
   obtain ⟨i,B⟩:=p
   simp only [List.cons_append,gB,ih]
   cases gB b j<;>rfl
def DL (L:List Nat) (nid n j:Nat):Bool:=mem L j||(Nat.ble nid j&&Nat.blt j n)
def wrS (L:List Nat) (nid:Nat) (M':List aH):List (Nat×aH):=pairs M' L++pairs M' (wQ nid (len M' - nid))
theorem OA (L:List Nat) (nid:Nat) (M':List aH) (j:Nat):gB (wrS L nid M') j=match DL L nid (len M') j with | true=>some (getM M' j) | false=>none:=by
 unfold wrS
 rw [Fp,rJ,rJ]
 have e:mem (wQ nid (len M' - nid)) j=(Nat.ble nid j&&Nat.blt j (len M')):=by
  rw [Bool.eq_iff_iff,tO]
  simp only [Bool.and_eq_true,Nat.ble_eq,Nat.blt_eq]
  omega
 rw [e,DL]
 cases (Nat.ble nid j&&Nat.blt j (len M'))<;>cases mem L j<;>rfl
def xI (L:List Nat):List Nat->List Nat->List Nat
 | acc,[]=>acc
 | acc,i::r=>match mem L i&&!mem acc i with | true=>xI L (i::acc) r | false=>xI L acc r
theorem wW {L:List Nat}:∀ {l acc:List Nat},(∀ i∈acc,i∈xI L acc l)/\∀ i∈l,mem L i=true->i∈xI L acc l
 | [],acc=>⟨fun _ h=>h,fun _ h=>by cases h⟩
 | j::r,acc=>by
   simp only [xI]
   split
   · obtain ⟨h1,h2⟩:=wW (L:=L) (l:=r) (acc:=j::acc)
     refine ⟨fun i hi=>h1 i (by simp [hi]),fun i hi hm=>?_⟩
     rcases List.mem_cons.1 hi with rfl | hi
     · exact h1 i (by simp)
     · exact h2 i hi hm
   · rename_i hc
     obtain ⟨h1,h2⟩:=wW (L:=L) (l:=r) (acc:=acc)
     refine ⟨h1,fun i hi hm=>?_⟩
     rcases List.mem_cons.1 hi with rfl | hi
     · rw [hm,Bool.true_and,Bool.not_eq_false'] at hc
       exact h1 i (mem_iff.1 hc)
     · exact h2 i hi hm
theorem fq.sub {P:Program} {f:FuncId} {args:List AV} {r:AV} {mv mv' L:List Nat} {nid:Nat} {M M':List aH} {rd:Nat->aH} (hM:∀ i∈L,getM M i=rd i) (hL:∀ i∈L,i<nid)
 (h:fq P f (jI (xA L) args) (Gm L rd 0 nid) r M' mv) (hlow:rQ L nid 0 M'=true) (hnew:∀ j,nid<=j->j<len M'->getM M j=.dead) (hmv:∀ i∈mv,mem L i=true->i∈mv') :
 fq P f args M r (eH (wrS L nid M') (fF mv' M)) mv':=by
 intro H E w vals hC hargs
 have hvia:E.via ⟨fun i=>mem L i&&E.lv i,E.ι,E.κ,E.η,E.σ⟩ (xA L):=by
  intro i j hij hl
  unfold xA at hij
  split at hij
  · rename_i hm
    cases hij
    exact ⟨by simp [hm,hl],rfl,rfl,rfl⟩
  · cases hij
 have hcut:∀ {i b:Nat},Env.has ⟨fun i=>mem L i&&E.lv i,E.ι,E.κ,E.η,E.σ⟩ i b->mem L i=true/\E.has i b:=by
  rintro i b ⟨h1,h2⟩
  simp only [Bool.and_eq_true] at h1
  exact ⟨h1.1,h1.2,h2⟩
 have hCL:Conc H ⟨fun i=>mem L i&&E.lv i,E.ι,E.κ,E.η,E.σ⟩ w (Gm L rd 0 nid):=by
  refine ⟨hC.imm,hC.tf,fun i=>?_,fun i j b hi hj=>hC.injH i j b (hcut hi).2 (hcut hj).2,fun i b hi=>hC.sepH i b (hcut hi).2,fun i b hi hib=>hC.sw (hcut ⟨hi,.inr hib⟩).2⟩
  · rw [Dv,Nat.zero_add]
    by_cases hi:i<nid
    · rw [if_pos hi]
      cases hm:mem L i with
      | false=>simp only [dY,hm,Bool.false_and]
      | true =>
        simp only []
        rw [<- hM i (mem_iff.1 hm)]
        exact (hC.blk i).move (HH.le_refl _) hvia (by simp [hm]) rfl rfl rfl (fun _=>Iff.rfl) fun _ _=>rfl
    · rw [if_neg hi]
      cases hm:mem L i with
      | false=>simp only [dY,hm,Bool.false_and]
      | true=>exact absurd (hL i (mem_iff.1 hm)) hi
 refine (h H _ w vals hCL (aI.ren _ hvia hargs)).mono ?_
 rintro e w1 ⟨v,H1,E1,rfl,hr,hC1,hE1⟩
 have hin:∀ j,E1.lv j=true->DL L nid (len M') j=true:=by
  intro j hl
  have h1:=hC1.LU hl
  unfold DL
  cases hm:mem L j with
  | true=>rfl
  | false =>
    simp only [Bool.false_or,Bool.and_eq_true,Nat.ble_eq,Nat.blt_eq]
    refine ⟨?_,h1⟩
    rcases Nat.lt_or_ge j nid with h2 | h2
    · have h3:=Bw hlow j (by omega) (by rw [Nat.zero_add];exact hm)
      have h4:=hC1.blk j
      rw [h3] at h4
      rw [show E1.lv j=false from h4] at hl;cases hl
    · exact h2
 have hout:∀ j,E.lv j=true->mem L j=false->DL L nid (len M') j=false:=by
  intro j hl hm
  unfold DL
  rw [hm,Bool.false_or]
  cases hb:(Nat.ble nid j&&Nat.blt j (len M')) with
  | false=>rfl
  | true =>
    simp only [Bool.and_eq_true,Nat.ble_eq,Nat.blt_eq] at hb
    have h4:=hC.blk j
    rw [hnew j hb.1 hb.2] at h4
    rw [show E.lv j=false from h4] at hl;cases hl
 let E':Env:=⟨fun j=>if DL L nid (len M') j then E1.lv j else E.lv j,fun j=>if DL L nid (len M') j then E1.ι j else E.ι j,fun j=>if DL L nid (len M') j then E1.κ j else E.κ j,fun j=>if DL L nid (len M') j then E1.η j else E.η j,fun j x=>if DL L nid (len M') j then E1.σ j x else E.σ j x⟩
 have ein:∀ j,DL L nid (len M') j=true->E'.lv j=E1.lv j/\E'.ι j=E1.ι j/\E'.κ j=E1.κ j/\E'.η j=E1.η j:=fun j hj=>by simp [E',hj]
 have eout:∀ j,DL L nid (len M') j=false->E'.lv j=E.lv j/\E'.ι j=E.ι j/\E'.κ j=E.κ j/\E'.η j=E.η j:=fun j hj=>by simp [E',hj]
 have hvia1:E1.via E' some:=by
  intro i j hij hl
  cases hij
  obtain ⟨e1,e2⟩:=ein i (hin i hl)
  exact ⟨e1.trans hl,e2⟩
 have hviaE:E.via E' (aX mv'):=by
  intro i j hij hl
  unfold aX at hij
  split at hij
  · cases hij
  rename_i hn
  cases hij
  have hn:i ∉ mv':=by simpa using hn
  cases hm:mem L i with
  | true =>
    obtain ⟨a1,a2,a3,a4⟩:=hE1.ids i (by simp [hm,hl]) fun hi=>hn (hmv i hi hm)
    obtain ⟨e1,e2,e3,e4⟩:=ein i (by simp [DL,hm])
    exact ⟨e1.trans a1,e2.trans a2,e3.trans a3,e4.trans a4⟩
  | false =>
    obtain ⟨e1,e2⟩:=eout i (hout i hl hm)
    exact ⟨e1.trans hl,e2⟩
 have hcase:∀ j b,E'.has j b->(DL L nid (len M') j=true/\E1.has j b)∨(mem L j=false/\E.has j b):=by
  intro j b hl
  cases hj:DL L nid (len M') j with
  | true =>
    refine .inl ⟨rfl,?_⟩
    simpa [Env.has,E',hj] using hl
  | false =>
    refine .inr ⟨?_,by simpa [Env.has,E',hj] using hl⟩
    cases hm:mem L j with
    | false=>rfl
    | true=>simp [DL,hm] at hj
 have hcross:∀ i j b,E1.has i b->mem L j=false->E.has j b->False:=by
  intro i j b h1 h3 h4
  rcases hE1.own i b h1 with ⟨k,hk⟩ | h6
  · obtain ⟨hk1,hk2⟩:=hcut hk
    have:=hC.injH k j b hk2 h4
    subst this
    rw [h3] at hk1;cases hk1
  · have:=hC.sw h4;omega
 refine ⟨v,H1,E',rfl,?_,⟨hC1.imm,hC1.tf,fun j=>?_,fun i j b hi hj=>?_,fun i b hi=>?_,fun i b hi hib=>?_⟩,⟨hE1.os,hE1.tape,hE1.output,hE1.size,fun b hb hn=>hE1.keep b hb fun i hl=>hn i (hcut hl).2,fun i b hi=>?_,hE1.hh,fun c b o ho=>by
  rcases hE1.new c b o ho with h | h | ⟨k,hk⟩
  · exact .inl h
  · exact .inr (.inl h)
  · exact .inr (.inr ⟨k,(hcut hk).2⟩),fun i hl hn=>?_⟩⟩
 · have:=Rel.ren _ hvia1 hr
   rwa [nS] at this
 · rw [jO,OA,jh]
   cases hj:DL L nid (len M') j with
   | true =>
     obtain ⟨e1,e2,e3,e4⟩:=ein j hj
     have:=(hC1.blk j).move (f:=some) (w':=w1) (i':=j) (HH.le_refl _) hvia1 e1 e2 e3 e4 (fun b=>by simp [E',hj]) fun _ _=>rfl
     rwa [fH] at this
   | false =>
     obtain ⟨e1,e2,e3,e4⟩:=eout j hj
     refine (hC.blk j).move hE1.hh hviaE e1 e2 e3 e4 (fun b=>by simp [E',hj]) fun b hb=>hE1.keep b (hC.sw hb) fun i hi=>?_
     obtain ⟨hk1,hk2⟩:=hcut hi
     have:=hC.injH i j b hk2 hb
     subst this
     simp [DL,hk1] at hj
 · rcases hcase i b hi with ⟨_,a1⟩ | ⟨h1,a1⟩<;>rcases hcase j b hj with ⟨_,b1⟩ | ⟨h2,b1⟩
   · exact hC1.injH i j b a1 b1
   · exact (hcross i j b a1 h2 b1).elim
   · exact (hcross j i b b1 h1 a1).elim
   · exact hC.injH i j b a1 b1
 · rcases hcase i b hi with ⟨_,a1⟩ | ⟨h1,a1⟩
   · exact hC1.sepH i b a1
   · cases hx:H1 false b with
     | none=>rfl
     | some o =>
       rcases hE1.new false b o hx with h | h | ⟨k,hk⟩
       · rw [hC.sepH i b a1] at h;cases h
       · have:=hC.sw a1;omega
       · obtain ⟨hk1,hk2⟩:=hcut hk
         have:=hC.injH k i b hk2 a1
         subst this
         rw [h1] at hk1;cases hk1
 · rcases hcase i b ⟨hi,.inr hib⟩ with ⟨_,a1⟩ | ⟨_,a1⟩
   · exact hC1.sw a1
   · have:=hC.sw a1;have:=hE1.size;omega
 · rcases hcase i b hi with ⟨_,a1⟩ | ⟨_,a1⟩
   · rcases hE1.own i b a1 with ⟨k,hk⟩ | h
     · exact .inl ⟨k,(hcut hk).2⟩
     · exact .inr h
   · exact .inl ⟨i,a1⟩
 · have:=hviaE i i (by unfold aX;rw [if_neg (by simpa using hn)]) hl
   exact this
end Go.Ax
