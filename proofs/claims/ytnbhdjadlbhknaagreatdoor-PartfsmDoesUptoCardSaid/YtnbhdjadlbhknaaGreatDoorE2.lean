import Derived.WalkKit
import Derived.Orders
import Derived.LoopN
set_option linter.unusedVariables false
set_option linter.unusedSimpArgs false
set_option linter.unusedSectionVars false
namespace Go.Ax
open Go
inductive AV where
 | s (v:Value)
 | y (v:Value)
 | junk
 | ptr (i k sz o:Nat)
 | own (i sz lo n:Nat)
 | mref (i:Nat)
 | sl (b:Bool) (sz n:Nat) (c:Nat->Nat->AV)
 | ys (b:Bool) (sz n:Nat) (c:Nat->Nat->AV)
 | yn (b:Bool) (sz n:Nat) (c:Nat->Nat->AV)
 | ip (b:Bool) (m:Nat) (c:Nat->AV)
 | agg (cs:List AV)
 | tup (cs:List AV)
 | fn (f:Fn) (first cap:List AV)
 | ifc (t:TypeId) (v:AV)
 | opt (b:Bool) (t:TypeId) (v:AV)
abbrev IH:=Nat->Option Obj
def IH.cell? (I:IH) (a:Addr):Option Value :=
 match I a.block with
 | some (.cells c _ _)=>if a.spot.isSome then none else c[a.off]?
 | _=>none
def IH.le (I J:IH):Prop:=∀ b o,I b=some o->J b=some o
theorem IH.le_refl (I:IH):I.le I:=fun _ _ h=>h
theorem IH.le_trans {I J K:IH} (h:I.le J) (k:J.le K):I.le K:=fun b o x=>k b o (h b o x)
theorem IH.oM {I J:IH} (h:I.le J) {a:Addr} {v:Value} (hc:I.cell? a=some v):J.cell? a=some v:=by
 unfold IH.cell? at *
 split at hc
 · rename_i c _ _ hb;rw [h _ _ hb];exact hc
 · cases hc
abbrev HH:=Bool->IH
def HH.le (H H':HH):Prop:=∀ b,(H b).le (H' b)
theorem HH.le_refl (H:HH):H.le H:=fun _=>IH.le_refl _
theorem HH.le_trans {H K L:HH} (h:H.le K) (k:K.le L):H.le L:=fun b=>IH.le_trans (h b) (k b)
def HH.at (H:HH) (b:Bool):HH:=if b then fun _=>H true else H
theorem HH.Np {H H':HH} (h:H.le H') (b:Bool):(H.at b).le (H'.at b):=by
 cases b
 · exact h
 · intro c;exact h true
structure jZ where
 hs:List (Nat×TypeId×Value)
structure Env where
 lv:Nat->Bool
 ι:Nat->Option Nat
 κ:Nat->Nat
 η:Nat->Nat
  /-- further blocks that belong to an id -/
 σ:Nat->Nat->Prop
def E0:Env:=⟨fun _=>false,fun _=>none,fun _=>0,fun _=>0,fun _ _=>False⟩
def Env.has (E:Env) (i b:Nat):Prop:=E.lv i=true/\(E.ι i=some b∨E.σ i b)
theorem oV {i b:Nat} (h:E0.has i b):False:=by simp [E0,Env.has] at h
def scalar:Value->Bool
 | .bool _ | .int .. | .float .. | .complex .. | .string _ | .pointer none | .pointer (some ⟨_,_,none⟩) | .slice none 0 0 | .map none | .chan none | .nilFunc | .nilIface=>true
 | _=>false
def HOk [Inhabited jZ] (H:HH):Prop:=(H true).le (H false)/\∀ p∈(default:jZ).hs,scalar p.2.2=true/\(H true).cell? ⟨p.1,0,none⟩=some (.iface p.2.1 (.agg #[p.2.2]))
theorem HOk.up [Inhabited jZ] {H H':HH} (h:HOk H) (k:H.le H') (ht:(H' true).le (H' false)):HOk H':=⟨ht,fun p hp=>⟨(h.2 p hp).1,IH.oM (k true) (h.2 p hp).2⟩⟩
mutual
def Rel:AV->HH->Env->Value->Prop
 | .s v,_,_,u=>u=v/\scalar v=true
 | .y v,_,_,u=>u=v/\scalar v=true
 | .junk,_,_,_=>True
 | .ptr i k sz o,_,E,u=>E.lv i=true/\∃ b,E.ι i=some b/\u=.pointer (some ⟨b,k*sz+o,none⟩)
 | .own i sz lo n,_,E,u=>E.lv i=true/\(lo+n<=E.η i/\E.η i<=E.κ i) /\
    match E.ι i with
    | some b=>∃ a,u=.slice a n (E.κ i - lo)/\(((lo=0∨0<n)->a=some ⟨b,lo*sz,none⟩)/\a≠none)
    | none=>lo=0/\n=0/\u=.slice none 0 0
 | .mref i,_,E,u=>E.lv i=true/\∃ b,E.ι i=some b/\u=.map (some b)
 | .sl b sz n c,H,_,u=>∃ a cap,u=.slice a n cap/\(n<=cap/\(a=none->cap=0)) /\
    (0<n->∃ ad,a=some ad/\∀ k,k<n->∀ j,j<sz->∃ x,(H b).cell? (ad.add (k*sz+j))=some x/\x.oneCell'=true/\Rel (c k j) (H.at b) E0 x)
 | .ys b sz n c,H,_,u=>∃ a cap,u=.slice a n cap/\(n<=cap/\(a=none->cap=0)) /\
    (0<n->∃ ad,a=some ad/\∀ k,k<n->∀ j,j<sz->∃ x,(H b).cell? (ad.add (k*sz+j))=some x/\x.oneCell'=true/\Rel (c k j) (H.at b) E0 x)
 | .yn b sz n c,H,_,u=>∃ ad cap,u=.slice (some ad) n cap/\n<=cap /\
    (∀ k,k<n->∀ j,j<sz->∃ x,(H b).cell? (ad.add (k*sz+j))=some x/\x.oneCell'=true/\Rel (c k j) (H.at b) E0 x)
 | .ip b m c,H,_,u=>∃ ad,u=.pointer (some ad)/\∀ j,j<m->∃ x,(H b).cell? (ad.add j)=some x/\x.oneCell'=true/\Rel (c j) (H.at b) E0 x
 | .agg cs,H,E,u=>∃ vs,u=.agg vs/\aA cs H E vs.toList
 | .tup cs,H,E,u=>∃ vs,u=.tuple vs/\aA cs H E vs.toList
 | .fn f a b,H,E,u=>∃ x y,u=.func f x y/\aA a H E x.toList/\aA b H E y.toList
 | .ifc t a,H,E,u=>∃ x,u=.iface t x/\Rel a H E x
 | .opt b t a,H,_,u=>(b=true->∃ x,u=.iface t x/\Rel a H E0 x)/\(b=false->u=.nilIface)
def aA:List AV->HH->Env->List Value->Prop
 | [],_,_,vs=>vs=[]
 | a::as,H,E,vs=>∃ v r,vs=v::r/\Rel a H E v/\aA as H E r
end
mutual
def ren (f:Nat->Option Nat):AV->AV
 | .ptr i k sz o=>match f i with | some j=>.ptr j k sz o | none=>.junk
 | .own i sz lo n=>match f i with | some j=>.own j sz lo n | none=>.junk
 | .mref i=>match f i with | some j=>.mref j | none=>.junk
 | .agg cs=>.agg (gY f cs)
 | .tup cs=>.tup (gY f cs)
 | .fn g a b=>.fn g (gY f a) (gY f b)
 | .ifc t a=>.ifc t (ren f a)
 | a=>a
def gY (f:Nat->Option Nat):List AV->List AV
 | []=>[]
 | a::as=>ren f a::gY f as
end
def Env.via (E E':Env) (f:Nat->Option Nat):Prop :=
 ∀ i j,f i=some j->E.lv i=true->E'.lv j=true/\E'.ι j=E.ι i/\E'.κ j=E.κ i/\E'.η j=E.η i
mutual
theorem Rel.mono:∀ (a:AV) {H H':HH} {E:Env} {v:Value},H.le H'->Rel a H E v->Rel a H' E v
 | .s _,_,_,_,_,_,h=>h
 | .y _,_,_,_,_,_,h=>h
 | .junk,_,_,_,_,_,_=>trivial
 | .ptr ..,_,_,_,_,_,h=>h
 | .own ..,_,_,_,_,_,h=>h
 | .mref ..,_,_,_,_,_,h=>h
 | .yn b sz n c,_,_,_,_,hH,h=>by
   obtain ⟨ad,cap,hu,hn,hk⟩:=h
   refine ⟨ad,cap,hu,hn,fun k hkn j hj=>?_⟩
   obtain ⟨x,hx,h1,hr⟩:=hk k hkn j hj
   exact ⟨x,IH.oM (hH b) hx,h1,Rel.mono (c k j) (HH.Np hH b) hr⟩
 | .ys b sz n c,_,_,_,_,hH,h=>by
   obtain ⟨a,cap,hu,hn,hc⟩:=h
   refine ⟨a,cap,hu,hn,fun h0=>?_⟩
   obtain ⟨ad,ha,hk⟩:=hc h0
   refine ⟨ad,ha,fun k hkn j hj=>?_⟩
   obtain ⟨x,hx,h1,hr⟩:=hk k hkn j hj
   exact ⟨x,IH.oM (hH b) hx,h1,Rel.mono (c k j) (HH.Np hH b) hr⟩
 | .sl b sz n c,_,_,_,_,hH,h=>by
   obtain ⟨a,cap,hu,hn,hc⟩:=h
   refine ⟨a,cap,hu,hn,fun h0=>?_⟩
   obtain ⟨ad,ha,hk⟩:=hc h0
   refine ⟨ad,ha,fun k hkn j hj=>?_⟩
   obtain ⟨x,hx,h1,hr⟩:=hk k hkn j hj
   exact ⟨x,IH.oM (hH b) hx,h1,Rel.mono (c k j) (HH.Np hH b) hr⟩
 | .ip b m c,_,_,_,_,hH,h=>by
   obtain ⟨ad,hu,hc⟩:=h
   refine ⟨ad,hu,fun j hj=>?_⟩
   obtain ⟨x,hx,h1,hr⟩:=hc j hj
   exact ⟨x,IH.oM (hH b) hx,h1,Rel.mono (c j) (HH.Np hH b) hr⟩
 | .agg cs,_,_,_,_,hH,h=>by
   obtain ⟨vs,hu,hr⟩:=h
   exact ⟨vs,hu,aA.mono cs hH hr⟩
 | .tup cs,_,_,_,_,hH,h=>by
   obtain ⟨vs,hu,hr⟩:=h
   exact ⟨vs,hu,aA.mono cs hH hr⟩
 | .fn f a b,_,_,_,_,hH,h=>by
   obtain ⟨x,y,hu,h1,h2⟩:=h
   exact ⟨x,y,hu,aA.mono a hH h1,aA.mono b hH h2⟩
 | .ifc t a,_,_,_,_,hH,h=>by
   obtain ⟨x,hu,h1⟩:=h
   exact ⟨x,hu,Rel.mono a hH h1⟩
 | .opt b t a,_,_,_,_,hH,h=>⟨fun hb=>by
   obtain ⟨x,hu,h1⟩:=h.1 hb
   exact ⟨x,hu,Rel.mono a hH h1⟩,h.2⟩
theorem aA.mono:∀ (l:List AV) {H H':HH} {E:Env} {vs:List Value},H.le H'->aA l H E vs->aA l H' E vs
 | [],_,_,_,_,_,h=>h
 | a::as,_,_,_,_,hH,h=>by
   obtain ⟨v,r,hv,h1,h2⟩:=h
   exact ⟨v,r,hv,Rel.mono a hH h1,aA.mono as hH h2⟩
end
mutual
theorem Rel.ren:∀ (a:AV) {H:HH} {E E':Env} {f:Nat->Option Nat} {v:Value},E.via E' f->Rel a H E v->Rel (ren f a) H E' v
 | .s _,_,_,_,_,_,_,h=>h
 | .y _,_,_,_,_,_,_,h=>h
 | .ys ..,_,_,_,_,_,_,h=>h
 | .yn ..,_,_,_,_,_,_,h=>h
 | .junk,_,_,_,_,_,_,_=>trivial
 | .ptr i k sz o,_,E,E',f,_,hf,h=>by
   obtain ⟨hl,b,hb,hu⟩:=h
   show Rel (match f i with | some j=>AV.ptr j k sz o | none=>.junk) _ E' _
   cases hfi:f i with
   | none=>trivial
   | some j =>
     obtain ⟨h1,h2,_⟩:=hf i j hfi hl
     exact ⟨h1,b,h2.trans hb,hu⟩
 | .own i sz lo n,_,E,E',f,_,hf,h=>by
   obtain ⟨hl,hk,hm⟩:=h
   show Rel (match f i with | some j=>AV.own j sz lo n | none=>.junk) _ E' _
   cases hfi:f i with
   | none=>trivial
   | some j =>
     obtain ⟨h1,h2,h3,h4⟩:=hf i j hfi hl
     refine ⟨h1,by rw [h3,h4];exact hk,?_⟩
     rw [h2,h3];exact hm
 | .mref i,_,E,E',f,_,hf,h=>by
   obtain ⟨hl,b,hb,hu⟩:=h
   show Rel (match f i with | some j=>AV.mref j | none=>.junk) _ E' _
   cases hfi:f i with
   | none=>trivial
   | some j =>
     obtain ⟨h1,h2,_⟩:=hf i j hfi hl
     exact ⟨h1,b,h2.trans hb,hu⟩
 | .sl ..,_,_,_,_,_,_,h=>h
 | .ip ..,_,_,_,_,_,_,h=>h
 | .opt ..,_,_,_,_,_,_,h=>h
 | .agg cs,_,_,_,_,_,hf,h=>by
   obtain ⟨vs,hu,hr⟩:=h
   exact ⟨vs,hu,aA.ren cs hf hr⟩
 | .tup cs,_,_,_,_,_,hf,h=>by
   obtain ⟨vs,hu,hr⟩:=h
   exact ⟨vs,hu,aA.ren cs hf hr⟩
 | .fn g a b,_,_,_,_,_,hf,h=>by
   obtain ⟨x,y,hu,h1,h2⟩:=h
   exact ⟨x,y,hu,aA.ren a hf h1,aA.ren b hf h2⟩
 | .ifc t a,_,_,_,_,_,hf,h=>by
   obtain ⟨x,hu,h1⟩:=h
   exact ⟨x,hu,Rel.ren a hf h1⟩
theorem aA.ren:∀ (l:List AV) {H:HH} {E E':Env} {f:Nat->Option Nat} {vs:List Value},E.via E' f->aA l H E vs->aA (gY f l) H E' vs
 | [],_,_,_,_,_,_,h=>h
 | a::as,_,_,_,_,_,hf,h=>by
   obtain ⟨v,r,hv,h1,h2⟩:=h
   exact ⟨v,r,hv,Rel.ren a hf h1,aA.ren as hf h2⟩
end
mutual
theorem mg:∀ (a:AV),ren some a=a
 | .s _ | .y _ | .junk | .ptr .. | .own .. | .mref .. | .sl .. | .ys .. | .yn .. | .ip .. | .opt ..=>rfl
 | .agg cs=>by simp [ren,jC cs]
 | .tup cs=>by simp [ren,jC cs]
 | .fn g a b=>by simp [ren,jC a,jC b]
 | .ifc t a=>by simp [ren,mg a]
theorem jC:∀ (l:List AV),gY some l=l
 | []=>rfl
 | a::as=>by simp [gY,mg a,jC as]
end
theorem Rel.env {a:AV} {H:HH} {E E':Env} {v:Value} (hf:E.via E' some) (h:Rel a H E v):Rel a H E' v:=by
 have:=Rel.ren a hf h;rwa [mg] at this
theorem aA.env {a:List AV} {H:HH} {E E':Env} {v:List Value} (hf:E.via E' some) (h:aA a H E v):aA a H E' v:=by
 have:=aA.ren a hf h;rwa [jC] at this
mutual
def dR:AV->Bool
 | .ptr .. | .own .. | .mref ..=>false
 | .agg cs=>dS cs
 | .tup cs=>dS cs
 | .fn _ a b=>dS a&&dS b
 | .ifc _ a=>dR a
 | _=>true
def dS:List AV->Bool
 | []=>true
 | a::as=>dR a&&dS as
end
mutual
theorem Rel.dR:∀ (a:AV) {H:HH} {E E':Env} {v:Value},dR a=true->Rel a H E v->Rel a H E' v
 | .s _,_,_,_,_,_,h=>h
 | .y _,_,_,_,_,_,h=>h
 | .ys ..,_,_,_,_,_,h=>h
 | .yn ..,_,_,_,_,_,h=>h
 | .junk,_,_,_,_,_,_=>trivial
 | .ptr ..,_,_,_,_,h,_=>by simp [Go.Ax.dR] at h
 | .own ..,_,_,_,_,h,_=>by simp [Go.Ax.dR] at h
 | .mref ..,_,_,_,_,h,_=>by simp [Go.Ax.dR] at h
 | .sl ..,_,_,_,_,_,h=>h
 | .ip ..,_,_,_,_,_,h=>h
 | .opt ..,_,_,_,_,_,h=>h
 | .agg cs,_,_,_,_,hn,h=>by
   obtain ⟨vs,hu,hr⟩:=h
   exact ⟨vs,hu,aA.dR cs hn hr⟩
 | .tup cs,_,_,_,_,hn,h=>by
   obtain ⟨vs,hu,hr⟩:=h
   exact ⟨vs,hu,aA.dR cs hn hr⟩
 | .fn g a b,_,_,_,_,hn,h=>by
   obtain ⟨x,y,hu,h1,h2⟩:=h
   simp [Go.Ax.dR] at hn
   exact ⟨x,y,hu,aA.dR a hn.1 h1,aA.dR b hn.2 h2⟩
 | .ifc t a,_,_,_,_,hn,h=>by
   obtain ⟨x,hu,h1⟩:=h
   exact ⟨x,hu,Rel.dR a hn h1⟩
theorem aA.dR:∀ (l:List AV) {H:HH} {E E':Env} {vs:List Value},dS l=true->aA l H E vs->aA l H E' vs
 | [],_,_,_,_,_,h=>h
 | a::as,_,_,_,_,hn,h=>by
   obtain ⟨v,r,hv,h1,h2⟩:=h
   simp [dS] at hn
   exact ⟨v,r,hv,Rel.dR a hn.1 h1,aA.dR as hn.2 h2⟩
end
theorem aA.length:∀ {l:List AV} {H:HH} {E:Env} {vs:List Value},aA l H E vs->vs.length=l.length
 | [],_,_,_,h=>by simp [aA] at h;simp [h]
 | _::_,_,_,_,h=>by
   obtain ⟨v,r,rfl,_,h2⟩:=h
   simp [aA.length h2]
end Go.Ax

namespace Go.Ax
open Go
variable [Inhabited jZ]
inductive Tr where
 | av (a:AV)
 | box (ty:TypeId) (sz:Nat) (cs:List Tr)
 | row (ty:TypeId) (sz n:Nat) (c:Nat->Nat->Tr)
 | frow (ty:TypeId) (sz n:Nat) (c:Nat->Nat->AV)
inductive mh where
 | s
 | i (kk:IntKind)
def mh.ty:mh->Type
 | .s=>ByteArray
 | .i _=>Int
def mh.val:(q:mh)->q.ty->Value
 | .s,x=>.string x
 | .i kk,x=>.int kk x
inductive ay where
 | box (ty:TypeId) (cs:List AV)
 | lst (ty:TypeId) (sz n:Nat) (cap:Option Nat) (cs:List AV)
 | row (ty:TypeId) (sz n:Nat) (cap:Option Nat) (c:Nat->Nat->AV)
 | mp (es:List (Value×AV×Nat)) (ck:Nat)
 | mi (kk vk:IntKind) (has:Int->Bool) (c:Int->Int)
 | mit (m since:Nat) (seen:List Nat) (last:Nat)
 | tmap (q:mh) (has:q.ty->Bool) (c:q.ty->Tr) (n:Nat) (kn:List (q.ty×AV))
 | trow (ty:TypeId) (sz n:Nat) (cap:Option Nat) (c:Nat->Nat->Tr) (op:List (Nat×List AV)) (zs:List Value)
 | any
 | dead
def jc (x:Int):List MapEntry->Option Value
 | []=>none
 | e::r=>match e.key with
   | .int _ y=>if x=y then some e.val else jc x r
   | _=>jc x r
def getM:List ay->Nat->ay
 | [],_=>.dead
 | a::_,0=>a
 | _::l,n+1=>getM l n
def iH:List ay->Nat->ay->List ay
 | [],0,v=>[v]
 | [],n+1,v=>.dead::iH [] n v
 | _::l,0,v=>v::l
 | a::l,n+1,v=>a::iH l n v
theorem dJ (i:Nat):getM [] i=.dead:=by cases i<;>rfl
theorem aT:∀ (M:List ay) (i:Nat) (v:ay),getM (iH M i v) i=v
 | [],0,_=>rfl
 | [],n+1,v=>aT [] n v
 | _::_,0,_=>rfl
 | _::l,n+1,v=>aT l n v
theorem aW:∀ (M:List ay) (i j:Nat) (v:ay),i≠j->getM (iH M i v) j=getM M j
 | [],0,0,_,h=>absurd rfl h
 | [],0,j+1,_,_=>by simp [iH,getM]
 | [],i+1,0,_,_=>by simp [iH,getM]
 | [],i+1,j+1,v,h=>by
   simp only [iH,getM]
   rw [aW [] i j v (by omega),dJ]
 | _::_,0,0,_,h=>absurd rfl h
 | _::_,0,_+1,_,_=>rfl
 | _::_,_+1,0,_,_=>rfl
 | _::l,i+1,j+1,v,h=>aW l i j v (by omega)
def ones (vs:List Value):Prop:=∀ x∈vs,x.oneCell'=true
mutual
def iJ (H:HH) (hp:Nat->Option Obj):Tr->Value->(Nat->Prop)->Prop
 | .av a,v,_=>Rel a H E0 v
 | .box ty _ cs,v,S=>∃ b vs,v=.pointer (some ⟨b,0,none⟩)/\S b/\hp b=some (.cells vs ty (0,0))/\ones vs.toList/\jh H hp cs vs.toList (fun x=>S x/\x≠b)
 | .row ty sz n c,v,S=>∃ κ,n<=κ/\κ<=maxLen/\((n=0/\κ=0/\v=.slice none 0 0)∨∃ b vs,v=.slice (some ⟨b,0,none⟩) n κ/\S b/\hp b=some (.cells vs ty (0,0))/\ones (vs.toList.take (n*sz))/\vs.size=κ*sz /\
    ∃ F:Nat->Nat->Nat->Prop,(∀ k j x,F k j x->S x/\x≠b)/\(∀ k j k' j' x,F k j x->F k' j' x->k=k'/\j=j')/\∀ k,k<n->∀ j,j<sz->∃ x,vs[k*sz+j]? = some x/\iJ H hp (c k j) x (F k j))
 | .frow ty sz n c,v,S=>∃ κ,n<=κ/\κ<=maxLen/\((n=0/\κ=0/\v=.slice none 0 0)∨∃ b vs,v=.slice (some ⟨b,0,none⟩) n κ/\S b/\hp b=some (.cells vs ty (0,0))/\ones (vs.toList.take (n*sz))/\vs.size=κ*sz /\
    ∀ k,k<n->∀ j,j<sz->∃ x,vs[k*sz+j]? = some x/\Rel (c k j) H E0 x)
def jh (H:HH) (hp:Nat->Option Obj):List Tr->List Value->(Nat->Prop)->Prop
 | [],vs,_=>vs=[]
 | t::ts,vs,S=>∃ v r S1 S2,vs=v::r/\(∀ x,S1 x->S x)/\(∀ x,S2 x->S x)/\(∀ x,S1 x->S2 x->False)/\iJ H hp t v S1/\jh H hp ts r S2
end
mutual
theorem iJ.move {H H':HH} {hp hp':Nat->Option Obj} (hH:H.le H'):∀ (t:Tr) {v:Value} {S S':Nat->Prop},(∀ b,S b->S' b)->(∀ b,S b->hp' b=hp b)->iJ H hp t v S->iJ H' hp' t v S'
 | .av a,_,_,_,_,_,h=>Rel.mono a hH h
 | .box ty sz cs,_,S,S',hS,hw,h=>by
   obtain ⟨b,vs,h1,h2,h3,h4,h5⟩:=h
   exact ⟨b,vs,h1,hS b h2,(hw b h2).trans h3,h4,jh.move hH cs (fun x hx=>⟨hS x hx.1,hx.2⟩) (fun x hx=>hw x hx.1) h5⟩
 | .row ty sz n c,_,S,S',hS,hw,h=>by
   obtain ⟨κ,h1,h2,h3 | ⟨b,vs,h3,h4,h5,h6,h7,F,h8,h9,h10⟩⟩:=h
   · exact ⟨κ,h1,h2,.inl h3⟩
   · refine ⟨κ,h1,h2,.inr ⟨b,vs,h3,hS b h4,(hw b h4).trans h5,h6,h7,F,fun k j x hx=>⟨hS x (h8 k j x hx).1,(h8 k j x hx).2⟩,h9,fun k hk j hj=>?_⟩⟩
     obtain ⟨x,g1,g2⟩:=h10 k hk j hj
     exact ⟨x,g1,iJ.move hH (c k j) (fun _ h=>h) (fun b hb=>hw b (h8 k j b hb).1) g2⟩
 | .frow ty sz n c,_,S,S',hS,hw,h=>by
   obtain ⟨κ,h1,h2,h3 | ⟨b,vs,h3,h4,h5,h6,h7,h10⟩⟩:=h
   · exact ⟨κ,h1,h2,.inl h3⟩
   · refine ⟨κ,h1,h2,.inr ⟨b,vs,h3,hS b h4,(hw b h4).trans h5,h6,h7,fun k hk j hj=>?_⟩⟩
     obtain ⟨x,g1,g2⟩:=h10 k hk j hj
     exact ⟨x,g1,Rel.mono _ hH g2⟩
theorem jh.move {H H':HH} {hp hp':Nat->Option Obj} (hH:H.le H'):∀ (l:List Tr) {vs:List Value} {S S':Nat->Prop},(∀ b,S b->S' b)->(∀ b,S b->hp' b=hp b)->jh H hp l vs S->jh H' hp' l vs S'
 | [],_,_,_,_,_,h=>h
 | t::ts,_,S,S',hS,hw,h=>by
   obtain ⟨v,r,S1,S2,h1,h2,h3,h4,h5,h6⟩:=h
   exact ⟨v,r,S1,S2,h1,fun x hx=>hS x (h2 x hx),fun x hx=>hS x (h3 x hx),h4,iJ.move hH t (fun _ h=>h) (fun b hb=>hw b (h2 b hb)) h5,jh.move hH ts (fun _ h=>h) (fun b hb=>hw b (h3 b hb)) h6⟩
end
def Hq (q:mh) (x:q.ty) (l:List MapEntry) (v:Value):Prop:=∃ e∈l,e.key=q.val x/\e.val=v
structure Qq (q:mh) (l:List MapEntry) (ck:Nat):Prop where
 key:∀ e∈l,∃ x,e.key=q.val x
 once:(l.map fun e=>e.key).Nodup
 born:(l.map fun e=>e.born).Nodup
 lt:∀ e∈l,e.born<ck
structure vZ (H:HH) (E:Env) (hp:Nat->Option Obj) (i:Nat) (q:mh) (has:q.ty->Bool) (c:q.ty->Tr) (n:Nat) (kn:List (q.ty×AV)) (l:List MapEntry) (ck:Nat) (F:q.ty->Nat->Prop):Prop where
 ents:Qq q l ck
 size:l.length=n
 fZ:∀ x,has x=true↔∃ v,Hq q x l v
 known:∀ p∈kn,∃ v,Hq q p.1 l v/\Rel p.2 H E v
 own:∀ x y,F x y->E.σ i y
 sep:∀ x x' y,F x y->F x' y->x=x'
 tr:∀ x,(∀ p∈kn,p.1≠x)->∀ v,Hq q x l v->iJ H hp (c x) v (F x)
structure AJ (H:HH) (E:Env) (hp:Nat->Option Obj) (i sz n κ:Nat) (c:Nat->Nat->Tr) (op:List (Nat×List AV)) (zs:List Value) (vs:List Value) (F:Nat->Nat->Nat->Prop):Prop where
 one:ones (vs.take (n*sz))
 size:vs.length=κ*sz
 own:∀ k j x,F k j x->E.σ i x
 sep:∀ k j k' j' x,F k j x->F k' j' x->k=k'/\j=j'
 lt:∀ p∈op,p.1<n
 once:(op.map fun p=>p.1).Nodup
 known:∀ p∈op,aA p.2 H E ((vs.drop (p.1*sz)).take sz)
 tr:∀ k,k<n->(∀ p∈op,p.1≠k)->∀ j,j<sz->∃ x,vs[k*sz+j]? = some x/\iJ H hp (c k j) x (F k j)
 spare:zs≠[]->vs.drop (n*sz)=(Builtin.zeroCells zs.toArray (κ - n)).toList
def bV (H:HH) (E:Env) (w:World) (i:Nat):ay->Prop
 | .dead=>E.lv i=false
 | .box ty cs=>E.lv i=true/\∃ b vs,E.ι i=some b/\w.heap[b]? = some (.cells vs ty (0,0))/\ones vs.toList/\aA cs H E vs.toList
 | .lst ty sz n cap cs=>E.lv i=true/\(n=E.η i/\n<=E.κ i)/\E.κ i<=maxLen/\(∀ q,cap=some q->E.κ i=q) /\
    match E.ι i with
    | none=>E.κ i=0/\cs=[]
    | some b=>∃ vs,w.heap[b]? = some (.cells vs ty (0,0))/\ones (vs.toList.take (n*sz))/\vs.size=E.κ i*sz/\aA cs H E (vs.toList.take (n*sz))
 | .row ty sz n cap c=>E.lv i=true/\(n=E.η i/\n<=E.κ i)/\E.κ i<=maxLen/\(∀ q,cap=some q->E.κ i=q) /\
    match E.ι i with
    | none=>E.κ i=0
    | some b=>∃ vs,w.heap[b]? = some (.cells vs ty (0,0))/\ones (vs.toList.take (n*sz))/\vs.size=E.κ i*sz /\
       ∀ k,k<n->∀ j,j<sz->∃ x,vs[k*sz+j]? = some x/\Rel (c k j) H E0 x
 | .mp es ck=>E.lv i=true/\∃ b ms,E.ι i=some b/\w.heap[b]? = some (.map ms ck)/\(ms.toList.map fun e=>(e.key,e.born))=(es.map fun e=>(e.1,e.2.2))/\aA (es.map fun e=>e.2.1) H E (ms.toList.map fun e=>e.val)
 | .mi kk vk has c=>E.lv i=true/\∃ b ms ck,E.ι i=some b/\w.heap[b]? = some (.map ms ck)/\(∀ e∈ms.toList,∃ x,e.key=.int kk x) /\
    ∀ x,jc x ms.toList=(match has x with | true=>some (.int vk (c x)) | false=>none)
 | .mit m since seen last=>E.lv i=true/\E.lv m=true/\∃ b bm,E.ι i=some b/\E.ι m=some bm/\w.heap[b]? = some (.mapIter (some bm) since seen.toArray last)
 | .tmap q has c n kn=>E.lv i=true/\∃ b ms ck F,E.ι i=some b/\¬ E.σ i b/\w.heap[b]? = some (.map ms ck)/\vZ H E (fun x=>w.heap[x]?) i q has c n kn ms.toList ck F
 | .trow ty sz n cap c op zs=>E.lv i=true/\(n=E.η i/\n<=E.κ i)/\E.κ i<=maxLen/\(∀ q,cap=some q->E.κ i=q) /\
    match E.ι i with
    | none=>E.κ i=0/\op=[]
    | some b=>¬ E.σ i b/\∃ vs F,w.heap[b]? = some (.cells vs ty (0,0))/\AJ H E (fun x=>w.heap[x]?) i sz n (E.κ i) c op zs vs.toList F
 | .any=>E.lv i=true/\∃ b o,E.ι i=some b/\w.heap[b]? = some o
structure Conc (H:HH) (E:Env) (w:World) (M:List ay):Prop where
 imm:∀ b o,H false b=some o->w.heap[b]? = some o
 tf:HOk H
 blk:∀ i,bV H E w i (getM M i)
 injH:∀ i j b,E.has i b->E.has j b->i=j
 sepH:∀ i b,E.has i b->H false b=none
 ltS:∀ i b,E.lv i=true->E.σ i b->b<w.heap.size
theorem Conc.inj {H:HH} {E:Env} {w:World} {M:List ay} (h:Conc H E w M) (i j b:Nat) (hi:E.lv i=true) (hj:E.lv j=true) (hib:E.ι i=some b) (hjb:E.ι j=some b):i=j:=h.injH i j b ⟨hi,.inl hib⟩ ⟨hj,.inl hjb⟩
theorem Conc.sep {H:HH} {E:Env} {w:World} {M:List ay} (h:Conc H E w M) (i b:Nat) (hi:E.lv i=true) (hib:E.ι i=some b):H false b=none:=h.sepH i b ⟨hi,.inl hib⟩
theorem IH.p8 {H:HH} {w:World} (hi:∀ b o,H false b=some o->w.heap[b]? = some o) {b:Nat} {o:Obj} (h:H false b=some o):b<w.heap.size :=
 (Array.getElem?_eq_some_iff.1 (hi b o h)).1
theorem bV.lt {H:HH} {E:Env} {w:World} {i b:Nat} {B:ay} (h:bV H E w i B) (hl:E.lv i=true) (hb:E.ι i=some b):b<w.heap.size:=by
 cases B with
 | dead=>simp [bV,hl] at h
 | box ty cs =>
   obtain ⟨_,b',vs,h1,h2,_⟩:=h
   rw [hb] at h1;cases h1
   exact (Array.getElem?_eq_some_iff.1 h2).1
 | lst ty sz n cap cs =>
   obtain ⟨_,_,_,_,h1⟩:=h
   rw [hb] at h1
   obtain ⟨vs,h2,_⟩:=h1
   exact (Array.getElem?_eq_some_iff.1 h2).1
 | row ty sz n cap c =>
   obtain ⟨_,_,_,_,h1⟩:=h
   rw [hb] at h1
   obtain ⟨vs,h2,_⟩:=h1
   exact (Array.getElem?_eq_some_iff.1 h2).1
 | mp es ck =>
   obtain ⟨_,b',ms,h1,h2,_⟩:=h
   rw [hb] at h1;cases h1
   exact (Array.getElem?_eq_some_iff.1 h2).1
 | mi kk vk has c =>
   obtain ⟨_,b',ms,ck,h1,h2,_⟩:=h
   rw [hb] at h1;cases h1
   exact (Array.getElem?_eq_some_iff.1 h2).1
 | mit m since seen last =>
   obtain ⟨_,_,b',bm,h1,_,h2⟩:=h
   rw [hb] at h1;cases h1
   exact (Array.getElem?_eq_some_iff.1 h2).1
 | tmap q has c n kn =>
   obtain ⟨_,b',ms,ck,F,h1,_,h2,_⟩:=h
   rw [hb] at h1;cases h1
   exact (Array.getElem?_eq_some_iff.1 h2).1
 | trow ty sz n cap c op zs =>
   obtain ⟨_,_,_,_,h1⟩:=h
   rw [hb] at h1
   obtain ⟨_,vs,F,h2,_⟩:=h1
   exact (Array.getElem?_eq_some_iff.1 h2).1
 | any =>
   obtain ⟨_,b',o,h1,h2⟩:=h
   rw [hb] at h1;cases h1
   exact (Array.getElem?_eq_some_iff.1 h2).1
theorem Conc.lt {H:HH} {E:Env} {w:World} {M:List ay} (h:Conc H E w M) {i b:Nat} (hl:E.lv i=true) (hb:E.ι i=some b):b<w.heap.size :=
 (h.blk i).lt hl hb
theorem Conc.o9 {H:HH} {E:Env} {w:World} {M:List ay} (h:Conc H E w M) {i b:Nat} (hb:E.has i b):b<w.heap.size:=by
 rcases hb with ⟨hl,hb | hb⟩
 · exact h.lt hl hb
 · exact h.ltS i b hl hb
def eY (f:Nat->Option Nat):ay->ay
 | .box ty cs=>.box ty (gY f cs)
 | .lst ty sz n cap cs=>.lst ty sz n cap (gY f cs)
 | .mp es ck=>.mp (es.map fun e=>(e.1,ren f e.2.1,e.2.2)) ck
 | .mit m since seen last=>match f m with | some j=>.mit j since seen last | none=>.any
 | .tmap q has c n kn=>.tmap q has c n (kn.map fun p=>(p.1,ren f p.2))
 | .trow ty sz n cap c op zs=>.trow ty sz n cap c (op.map fun p=>(p.1,gY f p.2)) zs
 | b=>b
theorem uP (f:Nat->Option Nat):∀ l:List AV,gY f l=l.map (ren f)
 | []=>rfl
 | a::l=>by simp [gY,uP f l]
theorem bV.move {H H':HH} {E E':Env} {w w':World} {i i':Nat} {B:ay} {f:Nat->Option Nat} (h:bV H E w i B) (hH:H.le H') (hv:E.via E' f)
 (hl:E'.lv i'=E.lv i) (hι:E'.ι i'=E.ι i) (hκ:E'.κ i'=E.κ i) (hη:E'.η i'=E.η i) (hσ:∀ b,E'.σ i' b↔E.σ i b) (hwH:∀ b,E.has i b->w'.heap[b]? = w.heap[b]?):bV H' E' w' i' (eY f B):=by
 have hw:∀ b,E.lv i=true->E.ι i=some b->w'.heap[b]? = w.heap[b]?:=fun b h1 h2=>hwH b ⟨h1,.inl h2⟩
 cases B with
 | dead=>exact hl.trans h
 | box ty cs =>
   obtain ⟨h0,b,vs,h1,h2,h3,h4⟩:=h
   exact ⟨hl.trans h0,b,vs,hι.trans h1,(hw b h0 h1).trans h2,h3,aA.mono _ hH (aA.ren _ hv h4)⟩
 | lst ty sz n cap cs =>
   obtain ⟨h0,ha,hb,hc,h1⟩:=h
   refine ⟨hl.trans h0,by rw [hκ,hη];exact ha,by rw [hκ];exact hb,by rw [hκ];exact hc,?_⟩
   rw [hι,hκ]
   cases hi:E.ι i with
   | none =>
     rw [hi] at h1
     obtain ⟨h2,rfl⟩:=h1
     exact ⟨h2,rfl⟩
   | some b =>
     rw [hi] at h1
     obtain ⟨vs,h2,h3,h4,h5⟩:=h1
     exact ⟨vs,(hw b h0 hi).trans h2,h3,h4,aA.mono _ hH (aA.ren _ hv h5)⟩
 | row ty sz n cap c =>
   obtain ⟨h0,ha,hb,hc,h1⟩:=h
   refine ⟨hl.trans h0,by rw [hκ,hη];exact ha,by rw [hκ];exact hb,by rw [hκ];exact hc,?_⟩
   rw [hι,hκ]
   cases hi:E.ι i with
   | none=>rw [hi] at h1;exact h1
   | some b =>
     rw [hi] at h1
     obtain ⟨vs,h2,h3,h4,h5⟩:=h1
     refine ⟨vs,(hw b h0 hi).trans h2,h3,h4,fun k hk j hj=>?_⟩
     obtain ⟨x,hx,hr⟩:=h5 k hk j hj
     exact ⟨x,hx,Rel.mono _ hH hr⟩
 | mp es ck =>
   obtain ⟨h0,b,ms,h1,h2,h3,h4⟩:=h
   refine ⟨hl.trans h0,b,ms,hι.trans h1,(hw b h0 h1).trans h2,by rw [h3];simp,?_⟩
   have:=aA.mono _ hH (aA.ren _ hv h4)
   rw [uP,List.map_map] at this
   rw [List.map_map];exact this
 | mi kk vk has c =>
   obtain ⟨h0,b,ms,ck,h1,h2,h3⟩:=h
   exact ⟨hl.trans h0,b,ms,ck,hι.trans h1,(hw b h0 h1).trans h2,h3⟩
 | mit m since seen last =>
   obtain ⟨h0,hm,b,bm,h1,h2,h3⟩:=h
   show bV H' E' w' i' (match f m with | some j=>ay.mit j since seen last | none=>ay.any)
   cases hfm:f m with
   | none=>exact ⟨hl.trans h0,b,_,hι.trans h1,(hw b h0 h1).trans h3⟩
   | some j =>
     obtain ⟨g1,g2,_⟩:=hv m j hfm hm
     exact ⟨hl.trans h0,g1,b,bm,hι.trans h1,g2.trans h2,(hw b h0 h1).trans h3⟩
 | tmap q has c n kn =>
   obtain ⟨h0,b,ms,ck,F,h1,h2,h3,h4⟩:=h
   refine ⟨hl.trans h0,b,ms,ck,F,hι.trans h1,fun hn=>h2 ((hσ b).1 hn),(hw b h0 h1).trans h3,h4.ents,h4.size,h4.fZ,fun p hp=>?_,fun x y hy=>(hσ y).2 (h4.own x y hy),h4.sep,fun x hx v hv'=>?_⟩
   · obtain ⟨p0,hp0,rfl⟩:=List.mem_map.1 hp
     obtain ⟨v,g1,g2⟩:=h4.known p0 hp0
     exact ⟨v,g1,Rel.mono _ hH (Rel.ren _ hv g2)⟩
   · refine iJ.move hH (c x) (fun _ h=>h) (fun y hy=>hwH y ⟨h0,.inr (h4.own x y hy)⟩) (h4.tr x (fun p hp=>?_) v hv')
     have:=hx (p.1,ren f p.2) (List.mem_map.2 ⟨p,hp,rfl⟩)
     exact this
 | trow ty sz n cap c op zs =>
   obtain ⟨h0,ha,hb,hc,h1⟩:=h
   refine ⟨hl.trans h0,by rw [hκ,hη];exact ha,by rw [hκ];exact hb,by rw [hκ];exact hc,?_⟩
   rw [hι,hκ]
   cases hi:E.ι i with
   | none=>rw [hi] at h1;exact ⟨h1.1,by rw [h1.2];rfl⟩
   | some b =>
     rw [hi] at h1
     obtain ⟨hs,vs,F,h2,h4⟩:=h1
     have hfst:((op.map fun p=>(p.1,gY f p.2)).map fun p=>p.1)=op.map fun p=>p.1:=by rw [List.map_map];rfl
     refine ⟨fun hn=>hs ((hσ b).1 hn),vs,F,(hw b h0 hi).trans h2,h4.one,h4.size,fun k j x hx=>(hσ x).2 (h4.own k j x hx),h4.sep,fun p hp=>?_,by rw [hfst];exact h4.once,fun p hp=>?_,fun k hk hn j hj=>?_,h4.spare⟩
     · obtain ⟨p0,hp0,rfl⟩:=List.mem_map.1 hp
       exact h4.lt p0 hp0
     · obtain ⟨p0,hp0,rfl⟩:=List.mem_map.1 hp
       exact aA.mono _ hH (aA.ren _ hv (h4.known p0 hp0))
     · obtain ⟨x,g1,g2⟩:=h4.tr k hk (fun p hp=>hn (p.1,gY f p.2) (List.mem_map.2 ⟨p,hp,rfl⟩)) j hj
       exact ⟨x,g1,iJ.move hH (c k j) (fun _ h=>h) (fun y hy=>hwH y ⟨h0,.inr (h4.own k j y hy)⟩) g2⟩
 | any =>
   obtain ⟨h0,b,o,h1,h2⟩:=h
   exact ⟨hl.trans h0,b,o,hι.trans h1,(hw b h0 h1).trans h2⟩
structure bF (mv:List Nat) (H:HH) (E:Env) (w:World) (H':HH) (E':Env) (w':World):Prop where
 os:w'.os=w.os
 tape:w'.tape=w.tape
 output:w'.output=w.output
 size:w.heap.size<=w'.heap.size
 keep:∀ b,b<w.heap.size->(∀ i,¬ E.has i b)->w'.heap[b]? = w.heap[b]?
 own:∀ i b,E'.has i b->(∃ j,E.has j b)∨w.heap.size<=b
 hh:H.le H'
 new:∀ c b o,H' c b=some o->H c b=some o∨w.heap.size<=b∨∃ i,E.has i b
 ids:∀ i,E.lv i=true->i ∉ mv->E'.lv i=true/\E'.ι i=E.ι i/\E'.κ i=E.κ i/\E'.η i=E.η i
theorem bF.refl (mv:List Nat) (H:HH) (E:Env) (w:World):bF mv H E w H E w :=
 ⟨rfl,rfl,rfl,Nat.le_refl _,fun _ _ _=>rfl,fun i _ hb=>.inl ⟨i,hb⟩,HH.le_refl _,fun _ _ _ h=>.inl h,fun _ h _=>⟨h,rfl,rfl,rfl⟩⟩
theorem bF.weak {mv mv':List Nat} {H H':HH} {E E':Env} {w w':World} (h:bF mv H E w H' E' w') (hm:∀ i,i∈mv->i∈mv'):bF mv' H E w H' E' w' :=
 { h with ids:=fun i hl hn=>h.ids i hl fun hi=>hn (hm i hi) }
theorem bF.trans {mv mv':List Nat} {H H1 H2:HH} {E E1 E2:Env} {w w1 w2:World} (h:bF mv H E w H1 E1 w1) (k:bF mv' H1 E1 w1 H2 E2 w2) (hm:∀ i,i∈mv->i∈mv') :
 bF mv' H E w H2 E2 w2 where
 os:=k.os.trans h.os
 tape:=k.tape.trans h.tape
 output:=k.output.trans h.output
 size:=Nat.le_trans h.size k.size
 keep:=fun b hb hn=>by
  refine (k.keep b (Nat.lt_of_lt_of_le hb h.size) fun i hl=>?_).trans (h.keep b hb hn)
  rcases h.own i b hl with ⟨j,hj⟩ | hge
  · exact hn j hj
  · omega
 own:=fun i b hl=>by
  rcases k.own i b hl with ⟨j,hj⟩ | hge
  · exact h.own j b hj
  · exact .inr (Nat.le_trans h.size hge)
 hh:=HH.le_trans h.hh k.hh
 new:=fun c b o ho=>by
  rcases k.new c b o ho with h1 | h1 | ⟨i,hi⟩
  · exact h.new c b o h1
  · exact .inr (.inl (Nat.le_trans h.size h1))
  · rcases h.own i b hi with h2 | h2
    · exact .inr (.inr h2)
    · exact .inr (.inl h2)
 ids:=fun i hl hn=>by
  obtain ⟨a1,a2,a3,a4⟩:=h.ids i hl fun hi=>hn (hm i hi)
  obtain ⟨b1,b2,b3,b4⟩:=k.ids i a1 hn
  exact ⟨b1,b2.trans a2,b3.trans a3,b4.trans a4⟩
def aO (mv:List Nat) (i:Nat):Option Nat:=if mv.contains i then none else some i
theorem bF.via {mv:List Nat} {H H':HH} {E E':Env} {w w':World} (h:bF mv H E w H' E' w'):E.via E' (aO mv):=by
 intro i j hj hl
 unfold aO at hj
 split at hj
 · cases hj
 · rename_i hn
   cases hj
   exact h.ids i hl (by simpa using hn)
def kill (mv:List Nat) (a:AV):AV:=match mv with | []=>a | _=>ren (aO mv) a
def Cy (mv:List Nat) (l:List AV):List AV:=match mv with | []=>l | _=>gY (aO mv) l
def dN (mv:List Nat) (M:List ay):List ay:=match mv with | []=>M | _=>M.map (eY (aO mv))
theorem jq:aO []=some:=by funext i;simp [aO]
theorem zf (mv:List Nat) (a:AV):kill mv a=ren (aO mv) a:=by
 cases mv with
 | nil=>rw [jq,mg];rfl
 | cons _ _=>rfl
theorem Br (mv:List Nat) (a:List AV):Cy mv a=gY (aO mv) a:=by
 cases mv with
 | nil=>rw [jq,jC];rfl
 | cons _ _=>rfl
theorem eD (B:ay):eY some B=B:=by cases B<;>simp [eY,jC,mg]
theorem Uc (mv:List Nat) (M:List ay):dN mv M=M.map (eY (aO mv)):=by
 cases mv with
 | nil =>
   rw [jq]
   have:eY some=id:=funext eD
   simp [dN,this]
 | cons _ _=>rfl
theorem GA (g:ay->ay) (hg:g .dead=.dead):∀ (M:List ay) (i:Nat),getM (M.map g) i=g (getM M i)
 | [],i=>by simp [dJ,hg]
 | _::_,0=>rfl
 | _::l,i+1=>GA g hg l i
theorem fI (mv:List Nat) (M:List ay) (i:Nat):getM (dN mv M) i=eY (aO mv) (getM M i):=by
 rw [Uc,GA _ rfl]
theorem bF.rel {mv:List Nat} {H H':HH} {E E':Env} {w w':World} (h:bF mv H E w H' E' w') {a:AV} {v:Value} (hr:Rel a H E v):Rel (kill mv a) H' E' v:=by
 rw [zf];exact Rel.mono _ h.hh (Rel.ren _ h.via hr)
theorem bF.acD {mv:List Nat} {H H':HH} {E E':Env} {w w':World} (h:bF mv H E w H' E' w') {a:List AV} {v:List Value} (hr:aA a H E v):aA (Cy mv a) H' E' v:=by
 rw [Br];exact aA.mono _ h.hh (aA.ren _ h.via hr)
structure Upd (w w':World) (b:Nat) (o:Obj):Prop where
 os:w'.os=w.os
 tape:w'.tape=w.tape
 output:w'.output=w.output
 size:w'.heap.size=w.heap.size
 same:w'.heap[b]? = some o
 other:∀ k,k≠b->w'.heap[k]? = w.heap[k]?
theorem Conc.upd {H:HH} {E:Env} {w w':World} {M:List ay} (h:Conc H E w M) {i b:Nat} {o:Obj} {B:ay} (hl:E.lv i=true) (hb:E.ι i=some b) (hu:Upd w w' b o)
 (hB:bV H E w' i B):Conc H E w' (iH M i B)/\bF [] H E w H E w':=by
 have hib:E.has i b:=⟨hl,.inl hb⟩
 have hother:∀ j,j≠i->∀ c,E.has j c->w'.heap[c]? = w.heap[c]?:=by
  intro j hj c hc
  exact hu.other c fun e=>hj (h.injH j i b (e ▸ hc) hib)
 refine ⟨⟨fun c x hx=>?_,h.tf,fun j=>?_,h.injH,h.sepH,fun j c h1 h2=>by rw [hu.size];exact h.ltS j c h1 h2⟩,⟨hu.os,hu.tape,hu.output,by rw [hu.size];exact Nat.le_refl _,fun c hc hn=>?_,fun j c hj=>.inl ⟨j,hj⟩,HH.le_refl _,fun _ _ _ hx=>.inl hx,fun _ hx _=>⟨hx,rfl,rfl,rfl⟩⟩⟩
 · rw [hu.other c fun e=>by subst e;rw [h.sep i c hl hb] at hx;cases hx]
   exact h.imm c x hx
 · by_cases hj:i=j
   · subst hj;rw [aT];exact hB
   · rw [aW _ _ _ _ hj]
     have:=(h.blk j).move (f:=some) (H':=H) (E':=E) (w':=w') (i':=j) (HH.le_refl _) (fun a c hc hl=>by cases hc;exact ⟨hl,rfl,rfl,rfl⟩) rfl rfl rfl rfl (fun _=>Iff.rfl) (hother j fun e=>hj e.symm)
     rwa [eD] at this
 · exact hu.other c fun e=>hn i (by rw [e];exact hib)
def Env.set (E:Env) (i:Nat) (b:Option Nat) (κ η:Nat):Env :=
 ⟨fun j=>if j=i then true else E.lv j,fun j=>if j=i then b else E.ι j,fun j=>if j=i then κ else E.κ j,fun j=>if j=i then η else E.η j,fun j x=>j≠i/\E.σ j x⟩
theorem Env.eO (E:Env) (i:Nat) (b:Option Nat) (κ η:Nat):(E.set i b κ η).lv i=true/\(E.set i b κ η).ι i=b/\(E.set i b κ η).κ i=κ/\(E.set i b κ η).η i=η:=by simp [Env.set]
theorem Env.mK (E:Env) (i j:Nat) (b:Option Nat) (κ η:Nat) (h:j≠i):(E.set i b κ η).lv j=E.lv j/\(E.set i b κ η).ι j=E.ι j/\(E.set i b κ η).κ j=E.κ j/\(E.set i b κ η).η j=E.η j:=by simp [Env.set,h]
theorem Env.ko {E:Env} {i j x:Nat} {b:Option Nat} {κ η:Nat} (h:(E.set i b κ η).has j x):(j=i/\b=some x)∨(j≠i/\E.has j x):=by
 obtain ⟨h1,h2⟩:=h
 by_cases hj:j=i
 · subst hj
   simp [Env.set] at h2
   exact .inl ⟨rfl,h2⟩
 · simp [Env.set,hj] at h1 h2
   exact .inr ⟨hj,h1,h2⟩
theorem Conc.new {H:HH} {E:Env} {w w':World} {M:List ay} (h:Conc H E w M) {i κ η:Nat} {bo:Option Nat} {B:ay} (hd:getM M i=.dead)
 (hos:w'.os=w.os) (ht:w'.tape=w.tape) (hout:w'.output=w.output) (hs:w.heap.size<=w'.heap.size) (hk:∀ b,b<w.heap.size->w'.heap[b]? = w.heap[b]?)
 (hb:∀ b,bo=some b->w.heap.size<=b) (hB:bV H (E.set i bo κ η) w' i B):Conc H (E.set i bo κ η) w' (iH M i B)/\bF [] H E w H (E.set i bo κ η) w':=by
 have hdead:E.lv i=false:=by have:=h.blk i;rw [hd] at this;exact this
 have hne:∀ j,E.lv j=true->j≠i:=by rintro j hj rfl;rw [hdead] at hj;cases hj
 have hvia:E.via (E.set i bo κ η) some:=by
  intro a c hc hl
  cases hc
  obtain ⟨e1,e2,e3,e4⟩:=E.mK i a bo κ η (hne a hl)
  exact ⟨e1.trans hl,e2,e3,e4⟩
 refine ⟨⟨fun c x hx=>?_,h.tf,fun j=>?_,fun a c b' ha hc=>?_,fun a b' ha=>?_,fun a b' ha hab=>?_⟩,⟨hos,ht,hout,hs,fun c hc _=>hk c hc,fun j c hj=>?_,HH.le_refl _,fun _ _ _ hx=>.inl hx,fun j hj _=>?_⟩⟩
 · rw [hk c (IH.p8 h.imm hx)];exact h.imm c x hx
 · by_cases hj:i=j
   · subst hj;rw [aT];exact hB
   · rw [aW _ _ _ _ hj]
     have hj':j≠i:=fun e=>hj e.symm
     obtain ⟨e1,e2,e3,e4⟩:=E.mK i j bo κ η hj'
     have:=(h.blk j).move (f:=some) (H':=H) (E':=E.set i bo κ η) (w':=w') (i':=j) (HH.le_refl _) hvia e1 e2 e3 e4 (fun b=>by simp [Env.set,hj']) fun b hb=>hk b (h.o9 hb)
     rwa [eD] at this
 · rcases Env.ko ha with ⟨rfl,h1⟩ | ⟨_,h1⟩<;>rcases Env.ko hc with ⟨rfl,h2⟩ | ⟨_,h2⟩
   · rfl
   · have:=h.o9 h2;have:=hb b' h1;omega
   · have:=h.o9 h1;have:=hb b' h2;omega
   · exact h.injH a c b' h1 h2
 · rcases Env.ko ha with ⟨rfl,h1⟩ | ⟨_,h1⟩
   · cases hx:H false b' with
     | none=>rfl
     | some o=>have:=IH.p8 h.imm hx;have:=hb b' h1;omega
   · exact h.sepH a b' h1
 · rcases Env.ko ⟨ha,.inr hab⟩ with ⟨rfl,h1⟩ | ⟨_,h1⟩
   · exact absurd rfl hab.1
   · have:=h.o9 h1;omega
 · rcases Env.ko hj with ⟨rfl,h1⟩ | ⟨_,h1⟩
   · exact .inr (hb c h1)
   · exact .inl ⟨j,h1⟩
 · obtain ⟨e1,e2,e3⟩:=E.mK i j bo κ η (hne j hj)
   exact ⟨e1.trans hj,e2,e3.1,e3.2⟩
def get:List AV->Nat->AV
 | [],_=>.junk
 | a::_,0=>a
 | _::l,n+1=>get l n
def set:List AV->Nat->AV->List AV
 | [],_,_=>[]
 | _::l,0,v=>v::l
 | a::l,n+1,v=>a::set l n v
def yP:List AV->Nat->List AV->List AV
 | l,_,[]=>l
 | l,o,v::vs=>yP (set l o v) (o+1) vs
def kL (l:List AV):Nat->Nat->List AV
 | _,0=>[]
 | o,n+1=>get l o::kL l (o+1) n
def tab (c:Nat->AV):Nat->Nat->List AV
 | _,0=>[]
 | o,n+1=>c o::tab c (o+1) n
def sAV (v:Value):AV:=if scalar v then .s v else .junk
def ZE:Value->AV
 | .agg cs=>.agg (cs.toList.map sAV)
 | v=>sAV v
def ev (t:Nat->AV):Operand->AV
 | .tmp i=>t i
 | .const v=>ZE v
 | .global _=>.junk
 | .func f=>.fn (.func f) [] []
def one:AV->Bool
 | .agg _ | .tup _ | .junk=>false
 | _=>true
def nO:List AV->Bool
 | []=>true
 | a::l=>one a&&nO l
def cellsOf:AV->Option (List AV)
 | .agg cs=>if nO cs then some cs else none
 | a=>if one a then some [a] else none
inductive Hint where
 | ok
 | b (x:Bool)
 | row (ty:TypeId) (sz:Nat)
 | res (r:AV) (M:List ay)
def JI (h:Option Hint) (b:Bool):Option (List Bool) :=
 match h with
 | some _=>some [b]
 | none=>match b with | true=>some [] | false=>none
structure Eff where
 r:AV
 wr:List (Nat×ay)
 kl:List Nat
 ob:List Bool
def xQ (r:AV):Option Eff:=some ⟨r,[],[],[]⟩
def yK (r:AV) (ob:List Bool):Option Eff:=some ⟨r,[],[],ob⟩
def agree (y x:Bool):Bool:=match y with | true=>x | false=>!x
def aZ (h:Option Hint) (x:Bool):Option Eff :=
 match h with
 | some (.b y)=>yK (.s (.bool y)) [agree y x]
 | _=>xQ (.s (.bool x))
def isAgg (P:Program) (t:TypeId):Bool:=match P.underlying t with | some (.struct _) | some (.array _ _)=>true | _=>false
def sizeT (P:Program) (t:TypeId):Option Nat:=(P.info? t).map (·.size)
def len {α:Type}:List α->Nat
 | []=>0
 | _::l=>len l+1
def nX (h:Option Hint) (B:ay) (k sz o n:Nat):Option (List AV×List Bool) :=
 match B with
 | .box _ cs=>match k with
   | 0=>if o+n<=len cs then some (kL cs o n,[]) else none
   | _+1=>none
 | .lst _ sz' _ _ cs=>if sz'==sz&&Nat.ble (k*sz+o+n) (len cs) then some (kL cs (k*sz+o) n,[]) else none
 | .row _ sz' m _ c=>if sz'==sz&&Nat.ble (o+n) sz then (match JI h (decide (k<m)) with | some ob=>some (tab (c k) o n,ob) | none=>none) else none
 | .trow _ sz' _ _ _ op _=>(match op with
   | (k0,as)::_=>if sz'==sz&&Nat.ble (o+n) sz then (match JI h (decide (k=k0)) with | some ob=>some (kL as o n,ob) | none=>none) else none
   | []=>none)
 | _=>none
def tJ (h:Option Hint) (rd:Nat->ay) (a:AV) (n:Nat):Option (List AV×List Bool) :=
 match a with
 | .ptr i k sz o=>nX h (rd i) k sz o n
 | .ip _ m c=>if Nat.ble n m then some (tab c 0 n,[]) else none
 | _=>none
def yw (P:Program) (h:Option Hint) (rd:Nat->ay) (t:TypeId) (a:AV):Option Eff :=
 match isAgg P t with
 | true=>match sizeT P t with
   | some n=>match tJ h rd a n with | some (cs,ob)=>yK (.agg cs) ob | none=>none
   | none=>none
 | false=>match tJ h rd a 1 with
   | some (c::_,ob)=>(match h,c with
     | some (.b y),.s (.bool x)=>yK (.s (.bool y)) (agree y x::ob)
     | _,c=>yK c ob)
   | _=>none
def pO (c:Nat->Nat->AV) (k o:Nat) (l:List AV) (k' j:Nat):AV :=
 if k'=k/\o<=j/\j<o+len l then get l (j - o) else c k' j
def nV (h:Option Hint) (B:ay) (k sz o:Nat) (l:List AV):Option (ay×List Bool) :=
 match B with
 | .box ty cs=>match k with
   | 0=>if Nat.ble (o+len l) (len cs) then some (.box ty (yP cs o l),[]) else none
   | _+1=>none
 | .lst ty sz' n cap cs=>if sz'==sz&&Nat.ble (k*sz+o+len l) (len cs) then some (.lst ty sz' n cap (yP cs (k*sz+o) l),[]) else none
 | .row ty sz' m cap c=>if sz'==sz&&Nat.ble (o+len l) sz&&dS l then (match JI h (decide (k<m)) with | some ob=>some (.row ty sz' m cap (pO c k o l),ob) | none=>none) else none
 | .trow ty sz' m cap c op zs=>(match op with
   | (k0,as)::r=>if sz'==sz&&Nat.ble (o+len l) sz then (match JI h (decide (k=k0)) with | some ob=>some (.trow ty sz' m cap c ((k0,yP as o l)::r) zs,ob) | none=>none) else none
   | []=>none)
 | _=>none
def mM (P:Program) (h:Option Hint) (rd:Nat->ay) (t:TypeId) (a x:AV):Option Eff :=
 match a,cellsOf x,sizeT P t with
 | .ptr i k sz o,some l,some n =>
   if n==len l then (match nV h (rd i) k sz o l with | some (B,ob)=>some ⟨.junk,[(i,B)],[],ob⟩ | none=>none) else none
 | _,_,_=>none
def oo (P:Program) (t:TypeId):Option (List AV):=match P.info? t with | some i=>(match i.zero with | some v=>cellsOf (ZE v) | none=>none) | none=>none
def tO (place:Nat->Option (Nat×Nat)):List AV->List (Nat×AV)->Option (List AV)
 | cells,[]=>some cells
 | cells,(i,v)::r=>match place i,cellsOf v with
   | some (off,size),some l=>if size==len l&&Nat.ble (off+len l) (len cells) then tO place (yP cells off l) r else none
   | _,_=>none
def u6 (P:Program):List Field->Option (List (Nat×Nat))
 | []=>some []
 | f::r=>match sizeT P f.type,u6 P r with
   | some n,some l=>some ((f.offset,n)::l)
   | _,_=>none
def KD (P:Program) (t:TypeId) (parts:List (Nat×AV)):Option Eff :=
 match P.underlying t,oo P t with
 | some (.struct fs),some z=>(match u6 P fs.toList with
   | some pl=>(match tO (fun i=>pl[i]?) z parts with | some l=>xQ (.agg l) | none=>none)
   | none=>none)
 | some (.array _ e),some z=>(match sizeT P e with
   | some n=>(match tO (fun i=>some (i*n,n)) z parts with | some l=>xQ (.agg l) | none=>none)
   | none=>none)
 | _,_=>none
def rep (z:List AV):Nat->List AV
 | 0=>[]
 | n+1=>z++rep z n
def jv (P:Program) (nid:Nat) (t:TypeId) (n:Nat) (parts:List (Nat×AV)):Option Eff :=
 match P.underlying t with
 | some (.slice e)=>(match sizeT P e,oo P e with
   | some sz,some z =>
     if len z==sz&&Nat.ble 1 sz&&Nat.ble (n*sz) 16777216 then
      (match tO (fun i=>some (i*sz,sz)) (rep z n) parts with
       | some l=>some ⟨.own nid sz 0 n,[(nid,.lst e sz n (some n) l)],[],[]⟩
       | none=>none)
     else none
   | _,_=>none)
 | _=>none
def acn (P:Program) (t:TypeId) (op:BinOp) (x y:Value):Option Value :=
 match op,x,y with
 | .add,.int k a,.int k' b=>if k=k' then some (.int k (k.wrap (a+b))) else none
 | .sub,.int k a,.int k' b=>if k=k' then some (.int k (k.wrap (a - b))) else none
 | .mul,.int k a,.int k' b=>if k=k' then some (.int k (k.wrap (a*b))) else none
 | .eql,.int k a,.int k' b=>if k=k' then some (.bool (a==b)) else none
 | .neq,.int k a,.int k' b=>if k=k' then some (.bool (a != b)) else none
 | .lss,.int k a,.int k' b=>if k=k' then some (.bool (decide (a<b))) else none
 | .leq,.int k a,.int k' b=>if k=k' then some (.bool (decide (a<=b))) else none
 | .gtr,.int k a,.int k' b=>if k=k' then some (.bool (decide (b<a))) else none
 | .geq,.int k a,.int k' b=>if k=k' then some (.bool (decide (b<=a))) else none
 | .eql,.string a,.string b=>some (.bool (a.data.toList==b.data.toList))
 | .neq,.string a,.string b=>some (.bool (!(a.data.toList==b.data.toList)))
 | .lss,.string a,.string b=>some (.bool (Op.bytesLess a.data.toList b.data.toList))
 | .leq,.string a,.string b=>some (.bool (Op.bytesLess a.data.toList b.data.toList||a.data.toList==b.data.toList))
 | .gtr,.string a,.string b=>some (.bool (!(Op.bytesLess a.data.toList b.data.toList||a.data.toList==b.data.toList)))
 | .geq,.string a,.string b=>some (.bool (!Op.bytesLess a.data.toList b.data.toList))
 | .eql,.bool a,.bool b=>(match P.underlying t with | some .bool=>some (.bool (a==b)) | _=>none)
 | .neq,.bool a,.bool b=>(match P.underlying t with | some .bool=>some (.bool (!(a==b))) | _=>none)
 | _,_,_=>none
def nk (P:Program):List Field->List AV->List AV->Option Bool
 | [],_,_=>some true
 | f::r,xs,ys =>
   if f.name = "_" then nk P r xs ys else
   match P.underlying f.type,get xs f.offset,get ys f.offset with
   | some (.int _),.s (.int k a),.s (.int k' b)=>if k=k' then (match nk P r xs ys with | some q=>some (a==b&&q) | none=>none) else none
   | some .string,.s (.string a),.s (.string b)=>(match nk P r xs ys with | some q=>some (a.data.toList==b.data.toList&&q) | none=>none)
   | some .bool,.s (.bool a),.s (.bool b)=>(match nk P r xs ys with | some q=>some (a==b&&q) | none=>none)
   | _,_,_=>none
def acy (P:Program) (h:Option Hint) (op:BinOp) (t:TypeId) (x y:AV):Option Eff :=
 match x,y with
 | .s a,.s b=>(match acn P t op a b with
   | some (.bool r)=>aZ h r
   | some r=>xQ (.s r)
   | none=>none)
 | .agg xs,.agg ys=>(match P.underlying t with
   | some (.struct fs)=>if P.stoodInHeld t||P.eqGuardType P.depth t then none else
     (match op,nk P fs.toList xs ys with
      | .eql,some q=>aZ h q
      | .neq,some q=>aZ h (!q)
      | _,_=>none)
   | _=>none)
 | _,_=>none
def QS (P:Program) (dst:TypeId) (src:TypeId) (x:AV):Option Eff :=
 match P.underlying src,P.underlying dst,x with
 | some (.int _),some (.int k),.s (.int _ n)=>xQ (.s (.int k (k.wrap n)))
 | some .string,some .string,.s (.string s)=>xQ (.s (.string s))
 | _,_,_=>none
def K9 (P:Program) (s:TypeId) (x:AV) (f:Nat):Option Eff :=
 match P.underlying s,x with
 | some (.struct fs),.agg cs=>(match fs[f]? with
   | some fd=>if (P.underlying fd.type).isNone then none else (match isAgg P fd.type,sizeT P fd.type with
     | true,some n=>if Nat.ble (fd.offset+n) (len cs) then xQ (.agg (kL cs fd.offset n)) else none
     | false,_=>if Nat.ble (fd.offset+1) (len cs) then xQ (get cs fd.offset) else none
     | _,_=>none)
   | none=>none)
 | _,_=>none
def uK (P:Program) (s:TypeId) (x:AV) (f:Nat):Option Eff :=
 match P.underlying s with
 | some (.struct fs)=>(match fs[f]? with
   | some fd=>(match sizeT P fd.type with
     | some (_+1)=>(match x with
       | .ptr i k sz o=>xQ (.ptr i k sz (o+fd.offset))
       | .ip b m c=>if Nat.ble fd.offset m then xQ (.ip b (m - fd.offset) (fun j=>c (fd.offset+j))) else none
       | _=>none)
     | _=>none)
   | none=>none)
 | _=>none
def uy (P:Program) (h:Option Hint) (t:TypeId) (x i:AV):Option Eff :=
 match P.underlying t,i with
 | some (.slice e),.s (.int _ q)=>(match sizeT P e with
   | some sz=>(match x with
     | .sl b sz' n c=>if sz'==sz then (match JI h (decide (0<=q)&&decide (q<(n:Int))) with | some ob=>yK (.ip b sz (c q.toNat)) ob | none=>none) else none
     | .own a sz' lo n=>if sz'==sz then (match JI h (decide (0<=q)&&decide (q<(n:Int))) with | some ob=>yK (.ptr a (lo+q.toNat) sz 0) ob | none=>none) else none
     | _=>none)
   | none=>none)
 | some (.array n e),.s (.int _ q)=>(match sizeT P e with
   | some sz=>(match x with
     | .ptr a k sz' o=>(match JI h (decide (0<=q)&&decide (q<(n:Int))) with | some ob=>yK (.ptr a k sz' (o+q.toNat*sz)) ob | none=>none)
     | .ip b m c=>if Nat.ble (n*sz) m then (match JI h (decide (0<=q)&&decide (q<(n:Int))) with | some ob=>yK (.ip b sz (fun j=>c (q.toNat*sz+j))) ob | none=>none) else none
     | _=>none)
   | none=>none)
 | _,_=>none
def bnd (d:Nat):Option AV->Option Int
 | none=>some d
 | some (.s (.int _ q))=>some q
 | _=>none
def Ll (P:Program) (h:Option Hint) (t:TypeId) (x:AV) (lo hi mx:Option AV):Option Eff :=
 match mx,P.underlying t,x with
 | none,some .string,.s (.string s)=>(match bnd 0 lo,bnd s.size hi with
   | some l,some u=>(match JI h (decide (0<=l)&&decide (l<=u)&&decide (u<=(s.size:Int))) with
     | some ob=>yK (.s (.string (s.extract l.toNat u.toNat))) ob | none=>none)
   | _,_=>none)
 | none,some (.slice e),.sl b sz n c=>(match sizeT P e,bnd 0 lo,bnd n hi with
   | some sz',some l,some u=>if sz'==sz then (match JI h (decide (0<=l)&&decide (l<=u)&&decide (u<=(n:Int))) with
     | some ob=>yK (.sl b sz (u.toNat - l.toNat) (fun k=>c (l.toNat+k))) ob | none=>none) else none
   | _,_,_=>none)
 | none,some (.slice e),.own i sz z n=>(match sizeT P e,bnd 0 lo,bnd n hi with
   | some sz',some l,some u=>if sz'==sz then (match JI h (decide (0<=l)&&decide (l<=u)&&decide (u<=(n:Int))) with
     | some ob=>yK (.own i sz (z+l.toNat) (u.toNat - l.toNat)) ob | none=>none) else none
   | _,_,_=>none)
 | _,_,_=>none
def aeh (P:Program) (t:TypeId) (x:AV):Option Eff :=
 match P.underlying t,x with
 | some .string,.s (.string s)=>xQ (.s (.int .i64 (s.size:Nat)))
 | some (.slice _),.s (.slice none 0 0)=>xQ (.s (.int .i64 0))
 | some (.slice _),.sl _ _ n _=>xQ (.s (.int .i64 (n:Nat)))
 | some (.slice _),.own _ _ _ n=>xQ (.s (.int .i64 (n:Nat)))
 | some (.array n _),_=>xQ (.s (.int .i64 (n:Nat)))
 | _,_=>none
def oD (rd:Nat->ay) (sz:Nat) (x:AV):Option (Nat×(Option (List AV))×(Nat->Nat->AV)) :=
 match x with
 | .s (.slice none 0 0)=>some (0,some [],fun _ _=>.junk)
 | .sl _ sz' n c=>if sz'==sz then some (n,none,c) else none
 | .own i sz' lo n=>if sz'==sz then (match rd i with
   | .lst _ s2 m _ cs=>if s2==sz&&Nat.ble (lo+n) m then some (n,some (kL cs (lo*sz) (n*sz)),fun k j=>get cs ((lo+k)*sz+j)) else none
   | .row _ s2 _ _ c=>if s2==sz then some (n,none,fun k=>c (lo+k)) else none
   | _=>none) else none
 | _=>none
def aY (n:Nat) (c d:Nat->Nat->AV) (k j:Nat):AV:=if k<n then c k j else d (k - n) j
def uH (B:ay) (n sz:Nat) (src:Nat×Option (List AV)×(Nat->Nat->AV)):Option ay :=
 match B,src with
 | .lst ty _ _ _ cs,(m,some l,_)=>if nO l then some (.lst ty sz (n+m) none (cs++l)) else none
 | .lst ty _ _ _ cs,(m,none,d)=>if dS cs then some (.row ty sz (n+m) none (aY n (fun k j=>get cs (k*sz+j)) d)) else none
 | .row ty _ _ _ c,(m,some l,_)=>if dS l&&nO l then some (.row ty sz (n+m) none (aY n c (fun k j=>get l (k*sz+j)))) else none
 | .row ty _ _ _ c,(m,none,d)=>some (.row ty sz (n+m) none (aY n c d))
 | _,_=>none
def kY (P:Program) (h:Option Hint) (rd:Nat->ay) (nid:Nat) (t:TypeId) (s x:AV):Option Eff :=
 match P.underlying t with
 | some (.slice e)=>(match P.info? e,oo P e with
   | some i,some z=>(match oD rd i.size x with
     | some src =>
       if Nat.ble 1 i.size&&len z==i.size then
       (match s with
        | .s (.slice none 0 0)=>(match JI h (decide (src.1<=maxLen)&&decide (src.1*i.bytes<=140737488355328)),uH (.lst e i.size 0 none []) 0 i.size src with
          | some ob,some B=>some ⟨.own nid i.size 0 src.1,[(nid,B)],[],ob⟩
          | _,_=>none)
        | .own a sz 0 n=>if sz==i.size then (match rd a with
          | .lst ty s2 m _ cs=>if ty==e&&s2==sz&&m==n then
            (match JI h (decide (n+src.1<=maxLen)&&decide ((n+src.1)*i.bytes<=140737488355328)),uH (.lst ty s2 m none cs) n sz src with
             | some ob,some B=>some ⟨.own a sz 0 (n+src.1),[(a,B)],[a],ob⟩
             | _,_=>none) else none
          | .row ty s2 m _ c=>if ty==e&&s2==sz then
            (match JI h (decide (m=n)&&decide (n+src.1<=maxLen)&&decide ((n+src.1)*i.bytes<=140737488355328)),uH (.row ty s2 m none c) n sz src with
             | some ob,some B=>some ⟨.own a sz 0 (n+src.1),[(a,B)],[a],ob⟩
             | _,_=>none) else none
          | _=>none) else none
        | _=>none)
       else none
     | none=>none)
   | _,_=>none)
 | _=>none
def mm2 (isMax:Bool):Value->Value->Option Value
 | .int k x,.int _ y=>some (.int k (match isMax with | true=>(if y > x then y else x) | false=>(if y<x then y else x)))
 | .string x,.string y=>some (.string (match isMax with | true=>(if (!Op.bytesLess x.data.toList y.data.toList)=true then x else y) | false=>(if (Op.bytesLess x.data.toList y.data.toList||x.data.toList==y.data.toList)=true then x else y)))
 | _,_=>none
def mmL (isMax:Bool):Value->List AV->Option Value
 | v,[]=>some v
 | v,.s u::r=>(match mm2 isMax v u with | some x=>mmL isMax x r | none=>none)
 | _,_=>none
def zu (isMax:Bool):List AV->Option Eff
 | .s v::r=>(match mmL isMax v r with | some x=>xQ (.s x) | none=>none)
 | _=>none
def xW (h:Option Hint) (nid:Nat) (r:AV):Option Eff :=
 match h,r with
 | some (.row ty sz),.s (.slice none 0 0)=>some ⟨.own nid sz 0 0,[(nid,.row ty sz 0 none (fun _ _=>.junk))],[],[]⟩
 | _,r=>xQ r
def oK (P:Program) (h:Option Hint) (rd:Nat->ay) (nid:Nat) (t:Nat->AV) (op:Op):Option Eff :=
 match op with
 | .move x | .assign x=>xW h nid (ev t x)
 | .pick c a b=>(match ev t c with
   | .s (.bool true)=>xQ (ev t a)
   | .s (.bool false)=>xQ (ev t b)
   | _=>none)
 | .alloc ty=>(match oo P ty with | some z=>some ⟨.ptr nid 0 0 0,[(nid,.box ty z)],[],[]⟩ | none=>none)
 | .box ty x=>(match cellsOf (ev t x) with | some l=>some ⟨.ptr nid 0 0 0,[(nid,.box ty l)],[],[]⟩ | none=>none)
 | .build ty parts=>KD P ty (parts.toList.map fun p=>(p.1,ev t p.2))
 | .buildSlice ty n parts=>jv P nid ty n (parts.toList.map fun p=>(p.1,ev t p.2))
 | .load ty a=>(match P.underlying ty with | some _=>yw P h rd ty (ev t a) | none=>none)
 | .store ty a x=>mM P h rd ty (ev t a) (ev t x)
 | .nilCheck x=>(match ev t x with
   | .ptr i k sz o=>xQ (.ptr i k sz o)
   | .ip b m c=>xQ (.ip b m c)
   | .fn (.func f) a b=>xQ (.fn (.func f) a b)
   | _=>none)
 | .binOp op ty x y _=>acy P h op ty (ev t x) (ev t y)
 | .unOp .not _ x=>(match ev t x with | .s (.bool b)=>aZ h (!b) | _=>none)
 | .convert src dst x=>QS P dst src (ev t x)
 | .makeInterface ty x=>(match P.underlying ty with
   | some (.interface _)=>none
   | some _=>xQ (.ifc ty (ev t x))
   | none=>none)
 | .makeFunc fn first cap=>xQ (.fn fn (first.toList.map (ev t)) (cap.toList.map (ev t)))
 | .slice ty x lo hi mx=>Ll P h ty (ev t x) (lo.map (ev t)) (hi.map (ev t)) (mx.map (ev t))
 | .fieldAddr s x f=>uK P s (ev t x) f
 | .field s x f=>K9 P s (ev t x) f
 | .indexAddr ty x i=>uy P h ty (ev t x) (ev t i)
 | .extract x i=>(match ev t x with | .tup l=>if Nat.ble (i+1) (len l) then xQ (get l i) else none | _=>none)
 | .call { callee:=.builtin .len,args,argTypes }=>(match argTypes.toList,args.toList with
   | [ty],[x]=>aeh P ty (ev t x)
   | _,_=>none)
 | .call { callee:=.builtin .append,args,argTypes }=>(match argTypes.toList,args.toList with
   | [t1,t2],[s,x]=>if t1==t2 then kY P h rd nid t1 (ev t s) (ev t x) else none
   | _,_=>none)
 | .call { callee:=.builtin .max,args,.. }=>zu true (args.toList.map (ev t))
 | .call { callee:=.builtin .min,args,.. }=>zu false (args.toList.map (ev t))
 | _=>none
def dx:List (Nat×ay)->List ay->List ay
 | [],M=>M
 | (i,B)::r,M=>dx r (iH M i B)
theorem len_eq {α:Type} (l:List α):len l=l.length:=by induction l with | nil=>rfl | cons _ _ ih=>simp [len,ih]
theorem bn:∀ {l:List AV} {H:HH} {E:Env} {vs:List Value},aA l H E vs->∀ i v,vs[i]? = some v->Rel (get l i) H E v
 | [],_,_,_,h,i,v,hv=>by simp [aA] at h;subst h;simp at hv
 | a::as,_,_,_,h,i,v,hv=>by
   obtain ⟨u,r,rfl,h1,h2⟩:=h
   match i,hv with
   | 0,hv=>simp at hv;subst hv;exact h1
   | i+1,hv=>exact bn h2 i v (by simpa using hv)
theorem gB:∀ {l:List AV} {H:HH} {E:Env} {vs:List Value},vs.length=l.length->(∀ i v,vs[i]? = some v->Rel (get l i) H E v)->aA l H E vs
 | [],_,_,vs,h,_=>by simp at h;exact h
 | a::as,_,_,[],h,_=>by simp at h
 | a::as,_,_,v::r,h,k=>⟨v,r,rfl,k 0 v rfl,gB (by simpa using h) fun i u hu=>k (i+1) u (by simpa using hu)⟩
theorem Aq {l:List AV} {H:HH} {E:Env} {vs:Array Value} (h:aA l H E vs.toList) (i:Nat):Rel (get l i) H E (vs.getD i undef):=by
 rcases Nat.lt_or_ge i vs.size with hi | hi
 · have:vs.toList[i]? = some (vs.getD i undef):=by simp [hi]
   exact bn h i _ this
 · have hl:=aA.length h
   have:get l i=.junk:=by
    have:∀ (l:List AV) i,l.length<=i->get l i=.junk:=by
     intro l
     induction l with
     | nil=>intro i _;cases i<;>rfl
     | cons a l ih=>intro i hi;match i,hi with | 0,hi=>simp at hi | i+1,hi=>exact ih i (by simpa using hi)
    exact this l i (by simp at hl;omega)
   rw [this];trivial
theorem length_set (l:List AV) (i:Nat) (v:AV):(set l i v).length=l.length:=by
 induction l generalizing i with
 | nil=>rfl
 | cons a l ih=>cases i<;>simp [set,ih]
theorem vg:∀ (l:List AV) (i j:Nat) (v:AV),get (set l i v) j=if i=j/\i<l.length then v else get l j
 | [],i,j,v=>by simp [set]
 | _::_,0,0,v=>by simp [set,get]
 | _::_,0,_+1,v=>by simp [set,get]
 | _::_,_+1,0,v=>by simp [set,get]
 | _::l,i+1,j+1,v=>by simp only [set,get,vg l i j v,List.length_cons,Nat.add_right_cancel_iff,Nat.add_lt_add_iff_right]
theorem kI (vs:List AV):∀ (l:List AV) (o:Nat),(yP l o vs).length=l.length:=by
 induction vs with
 | nil=>intro l o;cases l<;>rfl
 | cons v vs ih=>intro l o;cases l<;>simp [yP,ih,length_set]
theorem qY:∀ (vs l:List AV) (o j:Nat),o+vs.length<=l.length->get (yP l o vs) j=if o<=j/\j<o+vs.length then get vs (j - o) else get l j
 | [],l,o,j,_=>by
   have:¬ (o<=j/\j<o+([]:List AV).length):=by simp
   rw [if_neg this];cases l<;>rfl
 | v::vs,l,o,j,h=>by
   have hs:yP l o (v::vs)=yP (set l o v) (o+1) vs:=by cases l<;>rfl
   simp at h
   rw [hs,qY vs _ (o+1) j (by rw [length_set];omega),vg]
   by_cases h1:o=j
   · subst h1
     rw [if_neg (by omega),if_pos ⟨rfl,by omega⟩,if_pos (by simp)]
     simp [get]
   · by_cases h2:o+1<=j/\j<o+1+vs.length
     · rw [if_pos h2,if_pos (by simp;omega)]
       obtain ⟨m,rfl⟩:∃ m,j=o+1+m:=⟨j - (o+1),by omega⟩
       have e1:o+1+m - (o+1)=m:=by omega
       have e2:o+1+m - o=m+1:=by omega
       rw [e1,e2];rfl
     · rw [if_neg h2,if_neg (by omega),if_neg (by simp;omega)]
theorem gu (l:List AV):∀ (o n:Nat),(kL l o n).length=n
 | _,0=>rfl
 | o,n+1=>by simp [kL,gu l (o+1) n]
theorem jy (l:List AV):∀ (n o i:Nat),i<n->get (kL l o n) i=get l (o+i)
 | 0,_,i,h=>by omega
 | n+1,o,0,_=>by simp [kL,get]
 | n+1,o,i+1,h=>by
   simp only [kL,get]
   rw [jy l n (o+1) i (by omega)]
   congr 1;omega
theorem uj (c:Nat->AV):∀ (o n:Nat),(tab c o n).length=n
 | _,0=>rfl
 | o,n+1=>by simp [tab,uj c (o+1) n]
theorem ED (c:Nat->AV):∀ (n o i:Nat),i<n->get (tab c o n) i=c (o+i)
 | 0,_,i,h=>by omega
 | n+1,o,0,_=>by simp [tab,get]
 | n+1,o,i+1,h=>by
   simp only [tab,get]
   rw [ED c n (o+1) i (by omega)]
   congr 1;omega
theorem M8 (v:Value) (H:HH) (E:Env):Rel (sAV v) H E v:=by
 unfold sAV
 split
 · rename_i h;exact ⟨rfl,h⟩
 · trivial
theorem Gw (H:HH) (E:Env):∀ (vs:List Value),aA (vs.map sAV) H E vs
 | []=>rfl
 | v::vs=>⟨v,vs,rfl,M8 v H E,Gw H E vs⟩
theorem zS (v:Value) (H:HH) (E:Env):Rel (ZE v) H E v:=by
 cases v with
 | agg cs=>exact ⟨cs,rfl,Gw H E cs.toList⟩
 | _=>exact M8 _ H E
def ji (t:Nat->AV) (H:HH) (E:Env) (a:Act):Prop:=∀ i,Rel (t i) H E (a.tmps.getD i undef)
theorem kr {t:List AV} {a:Act} {H:HH} {E:Env} (hT:aA t H E a.tmps.toList):ji (get t) H E a:=fun i=>Aq hT i
theorem aM {t:Nat->AV} {a:Act} {H:HH} {E:Env} (hT:ji t H E a) (x:Operand):Rel (ev t x) H E (a.eval x):=by
 cases x with
 | tmp i=>exact hT i
 | const v=>exact zS v H E
 | global g=>trivial
 | func f=>exact ⟨#[],#[],rfl,rfl,rfl⟩
theorem mZ {t:Nat->AV} {a:Act} {H:HH} {E:Env} (hT:ji t H E a):∀ (l:List Operand),aA (l.map (ev t)) H E (l.map a.eval)
 | []=>rfl
 | x::l=>⟨_,_,rfl,aM hT x,mZ hT l⟩
theorem one_cell {a:AV} {H:HH} {E:Env} {v:Value} (h1:one a=true) (h:Rel a H E v):v.oneCell'=true:=by
 cases a with
 | s u=>obtain ⟨rfl,hs⟩:=h;cases v<;>first | rfl | simp [scalar] at hs
 | y u=>obtain ⟨rfl,hs⟩:=h;cases v<;>first | rfl | simp [scalar] at hs
 | ys b sz n c=>obtain ⟨a,cap,rfl,_⟩:=h;rfl
 | yn b sz n c=>obtain ⟨a,cap,rfl,_⟩:=h;rfl
 | junk=>simp [one] at h1
 | ptr i k sz o=>obtain ⟨_,b,_,rfl⟩:=h;rfl
 | own i sz lo n =>
   obtain ⟨_,_,h2⟩:=h
   split at h2
   · obtain ⟨a,rfl,_⟩:=h2;rfl
   · obtain ⟨_,_,rfl⟩:=h2;rfl
 | mref i=>obtain ⟨_,b,_,rfl⟩:=h;rfl
 | sl b sz n c=>obtain ⟨a,cap,rfl,_⟩:=h;rfl
 | ip b m c=>obtain ⟨ad,rfl,_⟩:=h;rfl
 | agg cs=>simp [one] at h1
 | tup cs=>simp [one] at h1
 | fn f x y=>obtain ⟨_,_,rfl,_⟩:=h;rfl
 | ifc t x=>obtain ⟨_,rfl,_⟩:=h;rfl
 | opt b t x=>cases b with
   | true=>obtain ⟨_,rfl,_⟩:=h.1 rfl;rfl
   | false=>rw [h.2 rfl];rfl
theorem FQ:∀ {l:List AV} {H:HH} {E:Env} {vs:List Value},nO l=true->aA l H E vs->ones vs
 | [],_,_,_,_,h=>by simp [aA] at h;subst h;intro x hx;cases hx
 | a::as,_,_,_,h1,h=>by
   obtain ⟨v,r,rfl,h2,h3⟩:=h
   simp [nO] at h1
   intro x hx
   rcases List.mem_cons.1 hx with rfl | hx
   · exact one_cell h1.1 h2
   · exact FQ h1.2 h3 x hx
theorem cells_one {v:Value} (h:v.oneCell'=true):v.cells=#[v]:=by cases v<;>first | rfl | simp [Value.oneCell'] at h
theorem mo {a:AV} {l:List AV} {H:HH} {E:Env} {v:Value} (hc:cellsOf a=some l) (h:Rel a H E v):aA l H E v.cells.toList/\ones v.cells.toList/\nO l=true:=by
 have key:∀ b:AV,one b=true->b=a->l=[b]->aA l H E v.cells.toList/\ones v.cells.toList/\nO l=true:=by
  rintro b hb rfl rfl
  have h1:=one_cell hb h
  rw [cells_one h1]
  exact ⟨⟨v,[],rfl,h,rfl⟩,fun x hx=>by simp at hx;subst hx;exact h1,by simp [nO,hb]⟩
 cases a with
 | agg cs =>
   simp only [cellsOf] at hc
   split at hc
   · rename_i h1
     cases hc
     obtain ⟨vs,rfl,hr⟩:=h
     exact ⟨hr,FQ h1 hr,h1⟩
   · cases hc
 | junk=>simp [cellsOf,one] at hc
 | tup cs=>simp [cellsOf,one] at hc
 | s u=>exact key _ rfl rfl (by simpa [cellsOf,one] using hc.symm)
 | y u=>exact key _ rfl rfl (by simpa [cellsOf,one] using hc.symm)
 | ys b sz n c=>exact key _ rfl rfl (by simpa [cellsOf,one] using hc.symm)
 | yn b sz n c=>exact key _ rfl rfl (by simpa [cellsOf,one] using hc.symm)
 | mref i=>exact key _ rfl rfl (by simpa [cellsOf,one] using hc.symm)
 | ptr i k sz o=>exact key _ rfl rfl (by simpa [cellsOf,one] using hc.symm)
 | own i sz lo n=>exact key _ rfl rfl (by simpa [cellsOf,one] using hc.symm)
 | sl b sz n c=>exact key _ rfl rfl (by simpa [cellsOf,one] using hc.symm)
 | ip b m c=>exact key _ rfl rfl (by simpa [cellsOf,one] using hc.symm)
 | fn f x y=>exact key _ rfl rfl (by simpa [cellsOf,one] using hc.symm)
 | ifc t x=>exact key _ rfl rfl (by simpa [cellsOf,one] using hc.symm)
 | opt b t x=>exact key _ rfl rfl (by simpa [cellsOf,one] using hc.symm)
def All (ob:List Bool):Prop:=∀ b∈ob,b=true
theorem all_nil:All []:=fun _ h=>by cases h
theorem All.append {a b:List Bool} (h:All (a++b)):All a/\All b:=⟨fun x hx=>h x (by simp [hx]),fun x hx=>h x (by simp [hx])⟩
theorem jF {h:Option Hint} {b:Bool} {ob:List Bool} (hc:JI h b=some ob) (ho:All ob):b=true:=by
 unfold JI at hc
 split at hc
 · cases hc;exact ho b (by simp)
 · split at hc
   · rfl
   · cases hc
theorem addr_add (b o n:Nat):(⟨b,o,none⟩:Addr).add n=⟨b,o+n,none⟩:=by unfold Addr.add;split<;>simp_all
theorem add_add' (a:Addr) (i j:Nat):(a.add i).add j=a.add (i+j):=by
 unfold Addr.add
 by_cases hi:i=0<;>by_cases hj:j=0<;>simp [hi,hj,Nat.add_assoc]
theorem AY {H:HH} {w:World} (hi:∀ b o,H false b=some o->w.heap[b]? = some o) (ht:(H true).le (H false)) {b:Bool} {a:Addr} {v:Value} (h:(H b).cell? a=some v):w.cell? a=some v:=by
 have h':(H false).cell? a=some v:=by cases b;exact h;exact IH.oM ht h
 unfold IH.cell? at h'
 unfold World.cell?
 cases hb:H false a.block with
 | none=>rw [hb] at h';simp at h'
 | some o =>
   rw [hi _ _ hb]
   rw [hb] at h'
   cases o<;>first | exact h' | simp at h'
theorem HH.zA {H:HH} (ht:(H true).le (H false)) (b:Bool):(H.at b).le H:=by
 cases b
 · exact HH.le_refl _
 · intro c;cases c
   · exact ht
   · exact IH.le_refl _
theorem iG {P:Program} {t:TypeId} (w:World) (h:∃ d,P.underlying t=some d):(_root_.Go.isAgg t).run P w=.ok (isAgg P t) w:=by
 obtain ⟨d,hd⟩:=h
 unfold _root_.Go.isAgg isAgg
 simp only [Sem.run_bind,run_underlying hd,Result.andThen_ok,hd]
 cases d<;>rfl
theorem dz {P:Program} {t:TypeId} {n:Nat} (w:World) (h:sizeT P t=some n):(sizeOf t).run P w=.ok n w:=by
 unfold sizeT at h
 cases hi:P.info? t with
 | none=>simp [hi] at h
 | some i=>simp [hi] at h;subst h;simp [sizeOf,typeInfo,hi]
theorem yu {P:Program} {t:TypeId} {n:Nat} (h:sizeT P t=some n):∃ i,P.info? t=some i/\i.size=n:=by
 unfold sizeT at h
 cases hi:P.info? t with
 | none=>simp [hi] at h
 | some i=>simp [hi] at h;exact ⟨i,rfl,h⟩
theorem acr (E:Env):E0.via E some:=fun _ _ _ h=>by simp [E0] at h
theorem Sr {a:AV} {H:HH} {E:Env} {v:Value} (h:Rel a H E0 v):Rel a H E v:=Rel.env (acr E) h
theorem adI {a:AV} {H:HH} {E:Env} {v:Value} {b:Bool} (ht:(H true).le (H false)) (h:Rel a (H.at b) E0 v):Rel a H E v:=Rel.mono _ (HH.zA ht b) (Sr h)
theorem qx {l:List Value} {q p n:Nat} (h:ones (l.take q)) (hpn:p+n<=q):ones ((l.drop p).take n):=by
 intro x hx
 obtain ⟨j,hj⟩:=List.mem_iff_getElem?.1 hx
 rw [List.getElem?_take] at hj
 split at hj
 · rw [List.getElem?_drop] at hj
   exact h x (List.mem_iff_getElem?.2 ⟨p+j,by rw [List.getElem?_take,if_pos (by omega)];exact hj⟩)
 · cases hj
theorem Sd {H:HH} {E:Env} {w:World} {i b k sz o n:Nat} {B:ay} {hh:Option Hint} {cs:List AV} {ob:List Bool} (hB:bV H E w i B) (hb:E.ι i=some b)
 (h:nX hh B k sz o n=some (cs,ob)) (ho:All ob) :
 ∃ vs:List Value,vs.length=n/\(∀ j u,vs[j]? = some u->w.cell? ⟨b,k*sz+o+j,none⟩=some u)/\aA cs H E vs/\ones vs:=by
 cases B with
 | dead=>simp [nX] at h
 | mp es ck=>simp [nX] at h
 | mi kk vk has c=>simp [nX] at h
 | mit m since seen last=>simp [nX] at h
 | any=>simp [nX] at h
 | tmap q has c n kn=>simp [nX] at h
 | trow ty sz' m cap c op zs =>
   obtain ⟨_,h0,hκ,_,h1⟩:=hB
   rw [hb] at h1
   obtain ⟨_,vs,F,h2,h4⟩:=h1
   simp only [nX] at h
   split at h
   case h_2=>cases h
   rename_i k0 as r
   split at h
   case isFalse=>cases h
   rename_i hle
   simp only [Bool.and_eq_true,beq_iff_eq,Nat.ble_eq] at hle
   obtain ⟨rfl,hle⟩:=hle
   split at h
   case h_2=>cases h
   rename_i ob' hc
   cases h
   have hk:k=k0:=by simpa using jF hc ho
   subst hk
   have hkm:=h4.lt (k,as) (by simp)
   have hkn:=h4.known (k,as) (by simp)
   simp only at hkm hkn
   have hms:m*sz'<=E.κ i*sz':=Nat.mul_le_mul_right _ h0.2
   have hk1:(k+1)*sz'<=m*sz':=Nat.mul_le_mul_right _ hkm
   rw [Nat.add_mul,Nat.one_mul] at hk1
   have hsize:=h4.size
   have hlen:=aA.length hkn
   simp only [List.length_take,List.length_drop] at hlen
   refine ⟨(vs.toList.drop (k*sz'+o)).take n,by simp at hsize ⊢;omega,fun j u hu=>?_,gB (by rw [gu];simp at hsize ⊢;omega) fun j u hu=>?_,qx h4.one (by omega)⟩
   · rw [cell_of_row w b _ vs ty (0,0) h2]
     rw [List.getElem?_take] at hu
     split at hu
     · rw [List.getElem?_drop] at hu;simpa using hu
     · cases hu
   · rw [List.getElem?_take] at hu
     split at hu
     · rename_i hj
       rw [jy _ _ _ _ hj]
       rw [List.getElem?_drop] at hu
       exact bn hkn _ _ (by rw [List.getElem?_take,if_pos (by omega),List.getElem?_drop,<- Nat.add_assoc];exact hu)
     · cases hu
 | box ty l =>
   obtain ⟨_,b',vs,h1,h2,h3,h4⟩:=hB
   rw [hb] at h1;cases h1
   cases k with
   | succ k=>simp [nX] at h
   | zero =>
     simp only [nX,len_eq] at h
     split at h
     · rename_i hle
       cases h
       have hlen:=aA.length h4
       refine ⟨(vs.toList.drop o).take n,by simp;simp at hlen;omega,fun j u hu=>?_,gB (by rw [gu];simp;simp at hlen;omega) fun j u hu=>?_,fun x hx=>h3 x (List.mem_of_mem_drop (List.mem_of_mem_take hx))⟩
       · rw [cell_of_row w b _ vs ty (0,0) h2]
         rw [List.getElem?_take] at hu
         split at hu
         · rw [List.getElem?_drop] at hu;simpa using hu
         · cases hu
       · rw [List.getElem?_take] at hu
         split at hu
         · rename_i hj
           rw [jy _ _ _ _ hj]
           rw [List.getElem?_drop] at hu
           exact bn h4 _ _ hu
         · cases hu
     · cases h
 | lst ty sz' m cap l =>
   obtain ⟨_,h0,hκ,_,h1⟩:=hB
   rw [hb] at h1
   obtain ⟨vs,h2,h3,h5,h4⟩:=h1
   simp only [nX] at h
   split at h
   · rename_i hle
     cases h
     simp only [Bool.and_eq_true,beq_iff_eq,Nat.ble_eq,len_eq] at hle
     obtain ⟨rfl,hle⟩:=hle
     have hlen:=aA.length h4
     have hm:m*sz'<=vs.toList.length:=by simp [h5];exact Nat.mul_le_mul_right _ h0.2
     have hll:l.length=m*sz':=by simp at hlen;simp at hm;omega
     refine ⟨(vs.toList.drop (k*sz'+o)).take n,by simp;simp at hm;omega,fun j u hu=>?_,gB (by rw [gu];simp;simp at hm;omega) fun j u hu=>?_,qx h3 (by rw [<- hll];exact hle)⟩
     · rw [cell_of_row w b _ vs ty (0,0) h2]
       rw [List.getElem?_take] at hu
       split at hu
       · rw [List.getElem?_drop] at hu;simpa using hu
       · cases hu
     · rw [List.getElem?_take] at hu
       split at hu
       · rename_i hj
         rw [jy _ _ _ _ hj]
         rw [List.getElem?_drop] at hu
         exact bn h4 _ _ (by rw [List.getElem?_take,if_pos (by omega)];exact hu)
       · cases hu
   · cases h
 | row ty sz' m cap c =>
   obtain ⟨_,h0,hκ,_,h1⟩:=hB
   rw [hb] at h1
   obtain ⟨vs,h2,h3,h5,h4⟩:=h1
   simp only [nX] at h
   split at h
   · rename_i hle
     simp only [Bool.and_eq_true,beq_iff_eq,Nat.ble_eq] at hle
     obtain ⟨rfl,hle⟩:=hle
     split at h
     case h_2=>cases h
     rename_i ob' hc
     cases h
     have hk:k<m:=by simpa using jF hc ho
     have hcell:∀ j,j<n->∃ x,vs[k*sz'+(o+j)]? = some x/\Rel (c k (o+j)) H E0 x:=fun j hj=>h4 k hk (o+j) (by omega)
     have hkm:k*sz'+o+n<=m*sz':=by
      have:(k+1)*sz'<=m*sz':=Nat.mul_le_mul_right _ hk
      rw [Nat.add_mul] at this;omega
     have hsz:k*sz'+(o+n)<=vs.size:=by
      have:m*sz'<=E.κ i*sz':=Nat.mul_le_mul_right _ h0.2
      omega
     refine ⟨(vs.toList.drop (k*sz'+o)).take n,by simp;omega,fun j u hu=>?_,gB (by rw [uj];simp;omega) fun j u hu=>?_,qx h3 hkm⟩
     · rw [cell_of_row w b _ vs ty (0,0) h2]
       rw [List.getElem?_take] at hu
       split at hu
       · rw [List.getElem?_drop] at hu;simpa using hu
       · cases hu
     · rw [List.getElem?_take] at hu
       split at hu
       · rename_i hj
         rw [ED _ _ _ _ hj]
         rw [List.getElem?_drop] at hu
         obtain ⟨x,hx,hr⟩:=hcell j hj
         have:x=u:=by
          have:vs[k*sz'+(o+j)]? = some u:=by rw [<- Nat.add_assoc];simpa using hu
          rw [hx] at this;simpa using this
         subst this
         exact Sr hr
       · cases hu
   · cases h
theorem GZ {H:HH} {E:Env} {w:World} {M:List ay} {hh:Option Hint} {av:AV} {v:Value} {n:Nat} {cs:List AV} {ob:List Bool} (hC:Conc H E w M) (hr:Rel av H E v)
 (h:tJ hh (getM M) av n=some (cs,ob)) (ho:All ob) :
 ∃ ad,∃ vs:List Value,v=.pointer (some ad)/\vs.length=n/\(∀ j u,vs[j]? = some u->w.cell? (ad.add j)=some u)/\aA cs H E vs/\ones vs:=by
 cases av with
 | ptr i k sz o =>
   obtain ⟨hl,b,hb,rfl⟩:=hr
   obtain ⟨vs,h1,h2,h3,h4⟩:=Sd (hC.blk i) hb h ho
   exact ⟨_,vs,rfl,h1,fun j u hu=>by rw [addr_add];exact h2 j u hu,h3,h4⟩
 | ip b m c =>
   obtain ⟨ad,rfl,hc⟩:=hr
   simp only [tJ] at h
   split at h
   · rename_i hle
     cases h
     have hle:n<=m:=by simpa using hle
     have hex:∀ n',n'<=m->∃ vs:List Value,vs.length=n'/\∀ j u,vs[j]? = some u->w.cell? (ad.add j)=some u/\Rel (c j) H E u/\u.oneCell'=true:=by
      intro n'
      induction n' with
      | zero=>intro _;exact ⟨[],rfl,fun j u hu=>by simp at hu⟩
      | succ q ih =>
        intro hq
        obtain ⟨vs,hl,hv⟩:=ih (by omega)
        obtain ⟨x,hx,h1,hrx⟩:=hc q (by omega)
        refine ⟨vs++[x],by simp [hl],fun j u hu=>?_⟩
        rw [List.getElem?_append] at hu
        split at hu
        · exact hv j u hu
        · rename_i hj
          have:j=q:=by
           rcases Nat.lt_or_ge (j - vs.length) 1 with h' | h'
           · omega
           · rw [List.getElem?_eq_none (by simpa using h')] at hu;cases hu
          subst this
          simp [hl] at hu
          subst hu
          exact ⟨AY hC.imm hC.tf.1 hx,adI hC.tf.1 hrx,h1⟩
     obtain ⟨vs,hl,hv⟩:=hex n hle
     refine ⟨ad,vs,rfl,hl,fun j u hu=>(hv j u hu).1,gB (by rw [uj,hl]) fun j u hu=>?_,fun x hx=>?_⟩
     · have hj:j<n:=by rw [<- hl];exact (List.getElem?_eq_some_iff.1 hu).1
       rw [ED _ _ _ _ hj,Nat.zero_add]
       exact (hv j u hu).2.1
     · obtain ⟨j,hj⟩:=List.mem_iff_getElem?.1 hx
       exact (hv j x hj).2.2
   · cases h
 | _=>simp [tJ] at h
structure Plain (e:Eff):Prop where
 wr:e.wr=[]
 kl:e.kl=[]
theorem cK {r:AV} {e:Eff} (h:xQ r=some e):Plain e/\e.r=r/\e.ob=[]:=by cases h;exact ⟨⟨rfl,rfl⟩,rfl,rfl⟩
theorem fO {r:AV} {ob:List Bool} {e:Eff} (h:yK r ob=some e):Plain e/\e.r=r/\e.ob=ob:=by cases h;exact ⟨⟨rfl,rfl⟩,rfl,rfl⟩
theorem G8 {y x:Bool} (h:agree y x=true):x=y:=by cases y<;>cases x<;>simp_all [agree]
theorem vH {hh:Option Hint} {x:Bool} {e:Eff} {H:HH} {E:Env} (h:aZ hh x=some e) (ho:All e.ob):Plain e/\Rel e.r H E (.bool x):=by
 unfold aZ at h
 split at h
 · rename_i y
   obtain ⟨hp,hr,hob⟩:=fO h
   refine ⟨hp,?_⟩
   rw [hr]
   have hxy:x=y:=G8 (ho (agree y x) (by rw [hob];simp))
   subst hxy
   exact ⟨rfl,rfl⟩
 · obtain ⟨hp,hr,_⟩:=cK h
   exact ⟨hp,by rw [hr];exact ⟨rfl,rfl⟩⟩
theorem Ew {P:Program} {H:HH} {E:Env} {w:World} {M:List ay} {hh:Option Hint} {t:TypeId} {av:AV} {v:Value} {e:Eff} (hC:Conc H E w M) (hr:Rel av H E v)
 (hu:∃ d,P.underlying t=some d) (h:yw P hh (getM M) t av=some e) (ho:All e.ob):Plain e/\∃ u,(Instr.loadAt t v).run P w=.ok u w/\Rel e.r H E u:=by
 unfold yw at h
 split at h
 · rename_i hagg
   split at h
   case h_2=>cases h
   rename_i n hn
   split at h
   case h_2=>cases h
   rename_i cs ob hp
   obtain ⟨hpl,hr',hob⟩:=fO h
   obtain ⟨ad,vs,rfl,hl,hc,hrel,_⟩:=GZ hC hr hp (by rw [<- hob];exact ho)
   refine ⟨hpl,.agg vs.toArray,?_,by rw [hr'];exact ⟨_,rfl,hrel⟩⟩
   have hlc:=run_loadCells_list (P:=P) w ad vs hc
   rw [hl] at hlc
   simp [Instr.loadAt,Instr.sureAddr,loadVar,iG w hu,hagg,dz w hn,hlc]
 · rename_i hagg
   split at h
   · rename_i c _ ob hp
     have hone:∀ {ob':List Bool},All ob'->ob'=ob->∃ ad u,v=.pointer (some ad)/\w.cell? ad=some u/\Rel c H E u:=by
      rintro _ ho' rfl
      obtain ⟨ad,vs,rfl,hl,hc,hrel,_⟩:=GZ hC hr hp ho'
      obtain ⟨u,r,rfl,h1,_⟩:=hrel
      exact ⟨ad,u,rfl,by have:=hc 0 u rfl;simpa [Addr.add] using this,h1⟩
     have hrun:∀ ad u,w.cell? ad=some u->(Instr.loadAt t (.pointer (some ad))).run P w=.ok u w:=by
      intro ad u hc
      simp [Instr.loadAt,Instr.sureAddr,loadVar,iG w hu,hagg,hc]
     split at h
     · rename_i y x
       obtain ⟨hpl,hr',hob⟩:=fO h
       obtain ⟨ad,u,rfl,hc,h1⟩:=hone (fun b hb=>ho b (by rw [hob];simp [hb])) rfl
       refine ⟨hpl,u,hrun ad u hc,?_⟩
       rw [hr']
       obtain ⟨rfl,_⟩:=h1
       have hxy:x=y:=G8 (ho (agree y x) (by rw [hob];simp))
       subst hxy
       exact ⟨rfl,rfl⟩
     · obtain ⟨hpl,hr',hob⟩:=fO h
       obtain ⟨ad,u,rfl,hc,h1⟩:=hone ho hob
       exact ⟨hpl,u,hrun ad u hc,by rw [hr'];exact h1⟩
   · cases h
end Go.Ax
