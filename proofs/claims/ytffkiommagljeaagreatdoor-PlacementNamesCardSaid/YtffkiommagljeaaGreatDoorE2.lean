import Derived.WalkKit
import Derived.Orders
import Derived.LoopN
set_option linter.unusedVariables false
set_option linter.unusedSimpArgs false
set_option linter.unusedSectionVars false
namespace Go.Ax
open Go
inductive AV where
 | s (v:Value)
 | y (v:Value)
 | junk
 | ptr (i k sz o:Nat)
 | own (i sz lo n:Nat)
 | mref (i:Nat)
 | sl (b:Bool) (sz n:Nat) (c:Nat->Nat->AV)
 | ys (b:Bool) (sz n:Nat) (c:Nat->Nat->AV)
 | yn (b:Bool) (sz n:Nat) (c:Nat->Nat->AV)
 | ip (b:Bool) (m:Nat) (c:Nat->AV)
 | agg (cs:List AV)
 | tup (cs:List AV)
 | fn (f:Fn) (first cap:List AV)
 | ifc (t:TypeId) (v:AV)
 | opt (b:Bool) (t:TypeId) (v:AV)
abbrev IH:=Nat->Option Obj
def IH.cell? (I:IH) (a:Addr):Option Value :=
 match I a.block with
 | some (.cells c _ _)=>if a.spot.isSome then none else c[a.off]?
 | _=>none
def IH.le (I J:IH):Prop:=∀ b o,I b=some o->J b=some o
theorem IH.le_refl (I:IH):I.le I:=fun _ _ h=>h
theorem IH.le_trans {I J K:IH} (h:I.le J) (k:J.le K):I.le K:=fun b o x=>k b o (h b o x)
theorem IH.le_cell {I J:IH} (h:I.le J) {a:Addr} {v:Value} (hc:I.cell? a=some v):J.cell? a=some v:=by
 unfold IH.cell? at *
 split at hc
 · rename_i c _ _ hb;rw [h _ _ hb];exact hc
 · cases hc
abbrev HH:=Bool->IH
def HH.le (H H':HH):Prop:=∀ b,(H b).le (H' b)
theorem HH.le_refl (H:HH):H.le H:=fun _=>IH.le_refl _
theorem HH.le_trans {H K L:HH} (h:H.le K) (k:K.le L):H.le L:=fun b=>IH.le_trans (h b) (k b)
def HH.at (H:HH) (b:Bool):HH:=if b then fun _=>H true else H
theorem HH.at_le {H H':HH} (h:H.le H') (b:Bool):(H.at b).le (H'.at b):=by
 cases b
 · exact h
 · intro c;exact h true
structure Gl0 where
 hs:List (Nat×TypeId×Value)
structure Env where
 lv:Nat->Bool
 ι:Nat->Option Nat
 κ:Nat->Nat
 η:Nat->Nat
  /-- further blocks that belong to an id -/
 σ:Nat->Nat->Prop
def E0:Env:=⟨fun _=>false,fun _=>none,fun _=>0,fun _=>0,fun _ _=>False⟩
def Env.has (E:Env) (i b:Nat):Prop:=E.lv i=true/\(E.ι i=some b∨E.σ i b)
theorem E0_has {i b:Nat} (h:E0.has i b):False:=by simp [E0,Env.has] at h
def scalar:Value->Bool
 | .bool _ | .int .. | .float .. | .complex .. | .string _ | .pointer none | .pointer (some ⟨_,_,none⟩) | .slice none 0 0 | .map none | .chan none | .nilFunc | .nilIface=>true
 | _=>false
def HOk [Inhabited Gl0] (H:HH):Prop:=(H true).le (H false)/\∀ p∈(default:Gl0).hs,scalar p.2.2=true/\(H true).cell? ⟨p.1,0,none⟩=some (.iface p.2.1 (.agg #[p.2.2]))
theorem HOk.up [Inhabited Gl0] {H H':HH} (h:HOk H) (k:H.le H') (ht:(H' true).le (H' false)):HOk H':=⟨ht,fun p hp=>⟨(h.2 p hp).1,IH.le_cell (k true) (h.2 p hp).2⟩⟩
mutual
def Rel:AV->HH->Env->Value->Prop
 | .s v,_,_,u=>u=v/\scalar v=true
 | .y v,_,_,u=>u=v/\scalar v=true
 | .junk,_,_,_=>True
 | .ptr i k sz o,_,E,u=>E.lv i=true/\∃ b,E.ι i=some b/\u=.pointer (some ⟨b,k*sz+o,none⟩)
 | .own i sz lo n,_,E,u=>E.lv i=true/\(lo+n<=E.η i/\E.η i<=E.κ i) /\
    match E.ι i with
    | some b=>∃ a,u=.slice a n (E.κ i - lo)/\(((lo=0∨0<n)->a=some ⟨b,lo*sz,none⟩)/\a≠none)
    | none=>lo=0/\n=0/\u=.slice none 0 0
 | .mref i,_,E,u=>E.lv i=true/\∃ b,E.ι i=some b/\u=.map (some b)
 | .sl b sz n c,H,_,u=>∃ a cap,u=.slice a n cap/\(n<=cap/\(a=none->cap=0)) /\
    (0<n->∃ ad,a=some ad/\∀ k,k<n->∀ j,j<sz->∃ x,(H b).cell? (ad.add (k*sz+j))=some x/\x.oneCell'=true/\Rel (c k j) (H.at b) E0 x)
 | .ys b sz n c,H,_,u=>∃ a cap,u=.slice a n cap/\(n<=cap/\(a=none->cap=0)) /\
    (0<n->∃ ad,a=some ad/\∀ k,k<n->∀ j,j<sz->∃ x,(H b).cell? (ad.add (k*sz+j))=some x/\x.oneCell'=true/\Rel (c k j) (H.at b) E0 x)
 | .yn b sz n c,H,_,u=>∃ ad cap,u=.slice (some ad) n cap/\n<=cap /\
    (∀ k,k<n->∀ j,j<sz->∃ x,(H b).cell? (ad.add (k*sz+j))=some x/\x.oneCell'=true/\Rel (c k j) (H.at b) E0 x)
 | .ip b m c,H,_,u=>∃ ad,u=.pointer (some ad)/\∀ j,j<m->∃ x,(H b).cell? (ad.add j)=some x/\x.oneCell'=true/\Rel (c j) (H.at b) E0 x
 | .agg cs,H,E,u=>∃ vs,u=.agg vs/\RelL cs H E vs.toList
 | .tup cs,H,E,u=>∃ vs,u=.tuple vs/\RelL cs H E vs.toList
 | .fn f a b,H,E,u=>∃ x y,u=.func f x y/\RelL a H E x.toList/\RelL b H E y.toList
 | .ifc t a,H,E,u=>∃ x,u=.iface t x/\Rel a H E x
 | .opt b t a,H,_,u=>(b=true->∃ x,u=.iface t x/\Rel a H E0 x)/\(b=false->u=.nilIface)
def RelL:List AV->HH->Env->List Value->Prop
 | [],_,_,vs=>vs=[]
 | a::as,H,E,vs=>∃ v r,vs=v::r/\Rel a H E v/\RelL as H E r
end
mutual
def ren (f:Nat->Option Nat):AV->AV
 | .ptr i k sz o=>match f i with | some j=>.ptr j k sz o | none=>.junk
 | .own i sz lo n=>match f i with | some j=>.own j sz lo n | none=>.ys true 0 n fun _ _=>.junk
 | .mref i=>match f i with | some j=>.mref j | none=>.junk
 | .agg cs=>.agg (renL f cs)
 | .tup cs=>.tup (renL f cs)
 | .fn g a b=>.fn g (renL f a) (renL f b)
 | .ifc t a=>.ifc t (ren f a)
 | a=>a
def renL (f:Nat->Option Nat):List AV->List AV
 | []=>[]
 | a::as=>ren f a::renL f as
end
def Env.via (E E':Env) (f:Nat->Option Nat):Prop :=
 ∀ i j,f i=some j->E.lv i=true->E'.lv j=true/\E'.ι j=E.ι i/\E'.κ j=E.κ i/\E'.η j=E.η i
mutual
theorem Rel.mono:∀ (a:AV) {H H':HH} {E:Env} {v:Value},H.le H'->Rel a H E v->Rel a H' E v
 | .s _,_,_,_,_,_,h=>h
 | .y _,_,_,_,_,_,h=>h
 | .junk,_,_,_,_,_,_=>trivial
 | .ptr ..,_,_,_,_,_,h=>h
 | .own ..,_,_,_,_,_,h=>h
 | .mref ..,_,_,_,_,_,h=>h
 | .yn b sz n c,_,_,_,_,hH,h=>by
   obtain ⟨ad,cap,hu,hn,hk⟩:=h
   refine ⟨ad,cap,hu,hn,fun k hkn j hj=>?_⟩
   obtain ⟨x,hx,h1,hr⟩:=hk k hkn j hj
   exact ⟨x,IH.le_cell (hH b) hx,h1,Rel.mono (c k j) (HH.at_le hH b) hr⟩
 | .ys b sz n c,_,_,_,_,hH,h=>by
   obtain ⟨a,cap,hu,hn,hc⟩:=h
   refine ⟨a,cap,hu,hn,fun h0=>?_⟩
   obtain ⟨ad,ha,hk⟩:=hc h0
   refine ⟨ad,ha,fun k hkn j hj=>?_⟩
   obtain ⟨x,hx,h1,hr⟩:=hk k hkn j hj
   exact ⟨x,IH.le_cell (hH b) hx,h1,Rel.mono (c k j) (HH.at_le hH b) hr⟩
 | .sl b sz n c,_,_,_,_,hH,h=>by
   obtain ⟨a,cap,hu,hn,hc⟩:=h
   refine ⟨a,cap,hu,hn,fun h0=>?_⟩
   obtain ⟨ad,ha,hk⟩:=hc h0
   refine ⟨ad,ha,fun k hkn j hj=>?_⟩
   obtain ⟨x,hx,h1,hr⟩:=hk k hkn j hj
   exact ⟨x,IH.le_cell (hH b) hx,h1,Rel.mono (c k j) (HH.at_le hH b) hr⟩
 | .ip b m c,_,_,_,_,hH,h=>by
   obtain ⟨ad,hu,hc⟩:=h
   refine ⟨ad,hu,fun j hj=>?_⟩
   obtain ⟨x,hx,h1,hr⟩:=hc j hj
   exact ⟨x,IH.le_cell (hH b) hx,h1,Rel.mono (c j) (HH.at_le hH b) hr⟩
 | .agg cs,_,_,_,_,hH,h=>by
   obtain ⟨vs,hu,hr⟩:=h
   exact ⟨vs,hu,RelL.mono cs hH hr⟩
 | .tup cs,_,_,_,_,hH,h=>by
   obtain ⟨vs,hu,hr⟩:=h
   exact ⟨vs,hu,RelL.mono cs hH hr⟩
 | .fn f a b,_,_,_,_,hH,h=>by
   obtain ⟨x,y,hu,h1,h2⟩:=h
   exact ⟨x,y,hu,RelL.mono a hH h1,RelL.mono b hH h2⟩
 | .ifc t a,_,_,_,_,hH,h=>by
   obtain ⟨x,hu,h1⟩:=h
   exact ⟨x,hu,Rel.mono a hH h1⟩
 | .opt b t a,_,_,_,_,hH,h=>⟨fun hb=>by
   obtain ⟨x,hu,h1⟩:=h.1 hb
   exact ⟨x,hu,Rel.mono a hH h1⟩,h.2⟩
theorem RelL.mono:∀ (l:List AV) {H H':HH} {E:Env} {vs:List Value},H.le H'->RelL l H E vs->RelL l H' E vs
 | [],_,_,_,_,_,h=>h
 | a::as,_,_,_,_,hH,h=>by
   obtain ⟨v,r,hv,h1,h2⟩:=h
   exact ⟨v,r,hv,Rel.mono a hH h1,RelL.mono as hH h2⟩
end
mutual
theorem Rel.ren:∀ (a:AV) {H:HH} {E E':Env} {f:Nat->Option Nat} {v:Value},E.via E' f->Rel a H E v->Rel (ren f a) H E' v
 | .s _,_,_,_,_,_,_,h=>h
 | .y _,_,_,_,_,_,_,h=>h
 | .ys ..,_,_,_,_,_,_,h=>h
 | .yn ..,_,_,_,_,_,_,h=>h
 | .junk,_,_,_,_,_,_,_=>trivial
 | .ptr i k sz o,_,E,E',f,_,hf,h=>by
   obtain ⟨hl,b,hb,hu⟩:=h
   show Rel (match f i with | some j=>AV.ptr j k sz o | none=>.junk) _ E' _
   cases hfi:f i with
   | none=>trivial
   | some j =>
     obtain ⟨h1,h2,_⟩:=hf i j hfi hl
     exact ⟨h1,b,h2.trans hb,hu⟩
 | .own i sz lo n,_,E,E',f,_,hf,h=>by
   obtain ⟨hl,hk,hm⟩:=h
   show Rel (match f i with | some j=>AV.own j sz lo n | none=>.ys true 0 n fun _ _=>.junk) _ E' _
   cases hfi:f i with
   | none =>
     cases hi:E.ι i with
     | none =>
       rw [hi] at hm
       obtain ⟨_,rfl,rfl⟩:=hm
       exact ⟨none,0,rfl,⟨Nat.le_refl _,fun _=>rfl⟩,fun h0=>absurd h0 (Nat.lt_irrefl 0)⟩
     | some b =>
       rw [hi] at hm
       obtain ⟨a,rfl,_,ha⟩:=hm
       refine ⟨a,_,rfl,⟨by omega,fun h=>absurd h ha⟩,fun _=>?_⟩
       cases a with
       | none=>exact absurd rfl ha
       | some ad=>exact ⟨ad,rfl,fun k _ j hj=>absurd hj (Nat.not_lt_zero j)⟩
   | some j =>
     obtain ⟨h1,h2,h3,h4⟩:=hf i j hfi hl
     refine ⟨h1,by rw [h3,h4];exact hk,?_⟩
     rw [h2,h3];exact hm
 | .mref i,_,E,E',f,_,hf,h=>by
   obtain ⟨hl,b,hb,hu⟩:=h
   show Rel (match f i with | some j=>AV.mref j | none=>.junk) _ E' _
   cases hfi:f i with
   | none=>trivial
   | some j =>
     obtain ⟨h1,h2,_⟩:=hf i j hfi hl
     exact ⟨h1,b,h2.trans hb,hu⟩
 | .sl ..,_,_,_,_,_,_,h=>h
 | .ip ..,_,_,_,_,_,_,h=>h
 | .opt ..,_,_,_,_,_,_,h=>h
 | .agg cs,_,_,_,_,_,hf,h=>by
   obtain ⟨vs,hu,hr⟩:=h
   exact ⟨vs,hu,RelL.ren cs hf hr⟩
 | .tup cs,_,_,_,_,_,hf,h=>by
   obtain ⟨vs,hu,hr⟩:=h
   exact ⟨vs,hu,RelL.ren cs hf hr⟩
 | .fn g a b,_,_,_,_,_,hf,h=>by
   obtain ⟨x,y,hu,h1,h2⟩:=h
   exact ⟨x,y,hu,RelL.ren a hf h1,RelL.ren b hf h2⟩
 | .ifc t a,_,_,_,_,_,hf,h=>by
   obtain ⟨x,hu,h1⟩:=h
   exact ⟨x,hu,Rel.ren a hf h1⟩
theorem RelL.ren:∀ (l:List AV) {H:HH} {E E':Env} {f:Nat->Option Nat} {vs:List Value},E.via E' f->RelL l H E vs->RelL (renL f l) H E' vs
 | [],_,_,_,_,_,_,h=>h
 | a::as,_,_,_,_,_,hf,h=>by
   obtain ⟨v,r,hv,h1,h2⟩:=h
   exact ⟨v,r,hv,Rel.ren a hf h1,RelL.ren as hf h2⟩
end
mutual
theorem ren_some:∀ (a:AV),ren some a=a
 | .s _ | .y _ | .junk | .ptr .. | .own .. | .mref .. | .sl .. | .ys .. | .yn .. | .ip .. | .opt ..=>rfl
 | .agg cs=>by simp [ren,renL_some cs]
 | .tup cs=>by simp [ren,renL_some cs]
 | .fn g a b=>by simp [ren,renL_some a,renL_some b]
 | .ifc t a=>by simp [ren,ren_some a]
theorem renL_some:∀ (l:List AV),renL some l=l
 | []=>rfl
 | a::as=>by simp [renL,ren_some a,renL_some as]
end
theorem Rel.env {a:AV} {H:HH} {E E':Env} {v:Value} (hf:E.via E' some) (h:Rel a H E v):Rel a H E' v:=by
 have:=Rel.ren a hf h;rwa [ren_some] at this
theorem RelL.env {a:List AV} {H:HH} {E E':Env} {v:List Value} (hf:E.via E' some) (h:RelL a H E v):RelL a H E' v:=by
 have:=RelL.ren a hf h;rwa [renL_some] at this
mutual
def noRef:AV->Bool
 | .ptr .. | .own .. | .mref ..=>false
 | .agg cs=>noRefL cs
 | .tup cs=>noRefL cs
 | .fn _ a b=>noRefL a&&noRefL b
 | .ifc _ a=>noRef a
 | _=>true
def noRefL:List AV->Bool
 | []=>true
 | a::as=>noRef a&&noRefL as
end
mutual
theorem Rel.noRef:∀ (a:AV) {H:HH} {E E':Env} {v:Value},noRef a=true->Rel a H E v->Rel a H E' v
 | .s _,_,_,_,_,_,h=>h
 | .y _,_,_,_,_,_,h=>h
 | .ys ..,_,_,_,_,_,h=>h
 | .yn ..,_,_,_,_,_,h=>h
 | .junk,_,_,_,_,_,_=>trivial
 | .ptr ..,_,_,_,_,h,_=>by simp [Go.Ax.noRef] at h
 | .own ..,_,_,_,_,h,_=>by simp [Go.Ax.noRef] at h
 | .mref ..,_,_,_,_,h,_=>by simp [Go.Ax.noRef] at h
 | .sl ..,_,_,_,_,_,h=>h
 | .ip ..,_,_,_,_,_,h=>h
 | .opt ..,_,_,_,_,_,h=>h
 | .agg cs,_,_,_,_,hn,h=>by
   obtain ⟨vs,hu,hr⟩:=h
   exact ⟨vs,hu,RelL.noRef cs hn hr⟩
 | .tup cs,_,_,_,_,hn,h=>by
   obtain ⟨vs,hu,hr⟩:=h
   exact ⟨vs,hu,RelL.noRef cs hn hr⟩
 | .fn g a b,_,_,_,_,hn,h=>by
   obtain ⟨x,y,hu,h1,h2⟩:=h
   simp [Go.Ax.noRef] at hn
   exact ⟨x,y,hu,RelL.noRef a hn.1 h1,RelL.noRef b hn.2 h2⟩
 | .ifc t a,_,_,_,_,hn,h=>by
   obtain ⟨x,hu,h1⟩:=h
   exact ⟨x,hu,Rel.noRef a hn h1⟩
theorem RelL.noRef:∀ (l:List AV) {H:HH} {E E':Env} {vs:List Value},noRefL l=true->RelL l H E vs->RelL l H E' vs
 | [],_,_,_,_,_,h=>h
 | a::as,_,_,_,_,hn,h=>by
   obtain ⟨v,r,hv,h1,h2⟩:=h
   simp [noRefL] at hn
   exact ⟨v,r,hv,Rel.noRef a hn.1 h1,RelL.noRef as hn.2 h2⟩
end
theorem RelL.length:∀ {l:List AV} {H:HH} {E:Env} {vs:List Value},RelL l H E vs->vs.length=l.length
 | [],_,_,_,h=>by simp [RelL] at h;simp [h]
 | _::_,_,_,_,h=>by
   obtain ⟨v,r,rfl,_,h2⟩:=h
   simp [RelL.length h2]
end Go.Ax
