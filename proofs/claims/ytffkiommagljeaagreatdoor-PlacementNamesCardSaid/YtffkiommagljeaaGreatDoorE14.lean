import Derived.Orders
import Derived.Test.YtffkiommagljeaaGreatDoorE13
set_option linter.unusedVariables false
set_option linter.unusedSimpArgs false
set_option linter.unusedSectionVars false
namespace Go.Ax
open Go
variable [Inhabited Gl0]
def mem:List Nat->Nat->Bool
 | [],_=>false
 | a::l,i=>Nat.beq a i||mem l i
theorem mem_iff:∀ {l:List Nat} {i:Nat},mem l i=true↔i∈l
 | [],i=>by simp [mem]
 | a::l,i=>by
   simp only [mem,Bool.or_eq_true,Nat.beq_eq,List.mem_cons,mem_iff (l:=l)]
   exact or_congr_left eq_comm
def disj:List Nat->List Nat->Bool
 | [],_=>true
 | a::l,r=>!mem r a&&disj l r
theorem disj_ok:∀ {l r:List Nat},disj l r=true->∀ i∈l,i ∉ r
 | [],_,_,i,hi=>by cases hi
 | a::l,r,h,i,hi=>by
   simp [disj] at h
   rcases List.mem_cons.1 hi with rfl | hi
   · intro hr
     have:=mem_iff.2 hr
     rw [h.1] at this;cases this
   · exact disj_ok h.2 i hi
structure DE where
 pm:Nat
 dst:Option Nat
 look:List Nat
 rd:List Nat
 r:AV
 wr:List (Nat×Blk)
 kl:List Nat
 ob:List Prop
def ids (l:List (Nat×Blk)):List Nat:=match l with | []=>[] | p::r=>p.1::ids r
theorem ids_eq (l:List (Nat×Blk)):ids l=l.map (·.1):=by induction l with | nil=>rfl | cons p r ih=>simp [ids,ih]
def DE.stp (d:DE) (m:List Blk):Stp:=⟨d.r,applyW d.wr (killM d.kl m),d.kl,d.ob⟩
def DE.app (d:DE) (s:St):St:=s.app d.dst (d.stp s.m)
def alike (d:DE) (s s':St):Prop:=s.t.length=s'.t.length/\(∀ t∈d.look,get s.t t=get s'.t t)/\∀ i∈d.rd,getM s.m i=getM s'.m i
theorem alike.refl (d:DE) (s:St):alike d s s:=⟨rfl,fun _ _=>rfl,fun _ _=>rfl⟩
theorem alike.symm {d:DE} {s s':St} (h:alike d s s'):alike d s' s:=⟨h.1.symm,fun t ht=>(h.2.1 t ht).symm,fun i hi=>(h.2.2 i hi).symm⟩
theorem alike.trans {d:DE} {s s' s2:St} (h:alike d s s') (k:alike d s' s2):alike d s s2 :=
 ⟨h.1.trans k.1,fun t ht=>(h.2.1 t ht).trans (k.2.1 t ht),fun i hi=>(h.2.2 i hi).trans (k.2.2 i hi)⟩
mutual
def offA (K:List Nat):AV->Bool
 | .ptr i _ _ _=>!mem K i
 | .own i _ _ _=>!mem K i
 | .mref i=>!mem K i
 | .agg cs=>offL K cs
 | .tup cs=>offL K cs
 | .fn _ a b=>offL K a&&offL K b
 | .ifc _ a=>offA K a
 | _=>true
def offL (K:List Nat):List AV->Bool
 | []=>true
 | a::r=>offA K a&&offL K r
end
def offP (K:List Nat):List (Nat×List AV)->Bool
 | []=>true
 | p::r=>offL K p.2&&offP K r
def offB (K:List Nat):Blk->Bool
 | .box _ cs=>offL K cs
 | .lst _ _ _ _ cs=>offL K cs
 | .mp es _=>offL K (es.map fun e=>e.2.1)
 | .mit m _ _ _=>!mem K m
 | .tmap _ _ _ _ kn=>offL K (kn.map fun p=>p.2)
 | .trow _ _ _ _ _ op _=>offP K op
 | _=>true
def offW (K:List Nat):List (Nat×Blk)->Bool
 | []=>true
 | p::r=>offB K p.2&&offW K r
theorem keepOf_off {K:List Nat} {i:Nat} (h:(!mem K i)=true):keepOf K i=some i:=by
 unfold keepOf
 have:i ∉ K:=fun hi=>by rw [mem_iff.2 hi] at h;cases h
 simp [this]
mutual
theorem off_ren (K:List Nat):∀ a:AV,offA K a=true->ren (keepOf K) a=a
 | .s _,_ | .y _,_ | .junk,_ | .sl ..,_ | .ys ..,_ | .yn ..,_ | .ip ..,_ | .opt ..,_=>rfl
 | .ptr i k sz o,h=>by simp only [offA] at h;simp [ren,keepOf_off h]
 | .own i sz lo n,h=>by simp only [offA] at h;simp [ren,keepOf_off h]
 | .mref i,h=>by simp only [offA] at h;simp [ren,keepOf_off h]
 | .agg cs,h=>by simp only [offA] at h;simp [ren,off_renL K cs h]
 | .tup cs,h=>by simp only [offA] at h;simp [ren,off_renL K cs h]
 | .fn f a b,h=>by simp only [offA,Bool.and_eq_true] at h;simp [ren,off_renL K a h.1,off_renL K b h.2]
 | .ifc t a,h=>by simp only [offA] at h;simp [ren,off_ren K a h]
theorem off_renL (K:List Nat):∀ l:List AV,offL K l=true->renL (keepOf K) l=l
 | [],_=>rfl
 | a::r,h=>by simp only [offL,Bool.and_eq_true] at h;simp [renL,off_ren K a h.1,off_renL K r h.2]
end
theorem off_renM {K:List Nat}:∀ {es:List (Value×AV×Nat)},offL K (es.map fun e=>e.2.1)=true->(es.map fun e=>(e.1,ren (keepOf K) e.2.1,e.2.2))=es
 | [],_=>rfl
 | e::r,h=>by
   simp only [List.map_cons,offL,Bool.and_eq_true] at h
   simp only [List.map_cons,off_ren K _ h.1,off_renM h.2]
theorem off_renK {K:List Nat} {α:Type}:∀ {es:List (α×AV)},offL K (es.map fun e=>e.2)=true->(es.map fun e=>(e.1,ren (keepOf K) e.2))=es
 | [],_=>rfl
 | e::r,h=>by
   simp only [List.map_cons,offL,Bool.and_eq_true] at h
   simp only [List.map_cons,off_ren K _ h.1,off_renK h.2]
theorem off_renP {K:List Nat}:∀ {op:List (Nat×List AV)},offP K op=true->(op.map fun p=>(p.1,renL (keepOf K) p.2))=op
 | [],_=>rfl
 | p::r,h=>by
   simp only [offP,Bool.and_eq_true] at h
   simp only [List.map_cons,off_renL K _ h.1,off_renP h.2]
theorem off_renB {K:List Nat} {B:Blk} (h:offB K B=true):renB (keepOf K) B=B:=by
 cases B with
 | box ty cs=>simp only [offB] at h;simp [renB,off_renL K cs h]
 | lst ty z n c cs=>simp only [offB] at h;simp [renB,off_renL K cs h]
 | mp es ck=>simp only [offB] at h;simp only [renB];rw [off_renM h]
 | mit m since seen last=>simp only [offB] at h;simp only [renB,keepOf_off h]
 | tmap q has c n kn=>simp only [offB] at h;simp only [renB];rw [off_renK h]
 | trow ty sz n cap c op zs=>simp only [offB] at h;simp only [renB];rw [off_renP h]
 | _=>rfl
theorem keepOf_some {L:List Nat} {i j:Nat} (h:keepOf L i=some j):j=i:=by
 unfold keepOf at h
 split at h
 · cases h
 · cases h;rfl
mutual
theorem off_nil:∀ a:AV,offA [] a=true
 | .s _ | .y _ | .junk | .sl .. | .ys .. | .yn .. | .ip .. | .opt ..=>rfl
 | .ptr i k sz o=>rfl
 | .own i sz lo n=>rfl
 | .mref i=>rfl
 | .agg cs=>by simp only [offA];exact offL_nil cs
 | .tup cs=>by simp only [offA];exact offL_nil cs
 | .fn f a b=>by simp only [offA,Bool.and_eq_true];exact ⟨offL_nil a,offL_nil b⟩
 | .ifc t a=>by simp only [offA];exact off_nil a
theorem offL_nil:∀ l:List AV,offL [] l=true
 | []=>rfl
 | a::r=>by simp only [offL,Bool.and_eq_true];exact ⟨off_nil a,offL_nil r⟩
end
theorem offP_nil:∀ op:List (Nat×List AV),offP [] op=true
 | []=>rfl
 | p::r=>by simp only [offP,Bool.and_eq_true];exact ⟨offL_nil _,offP_nil r⟩
theorem offW_nil:∀ l:List (Nat×Blk),offW [] l=true
 | []=>rfl
 | p::r=>by
   simp only [offW,Bool.and_eq_true]
   refine ⟨?_,offW_nil r⟩
   cases p.2 with
   | box ty cs=>exact offL_nil cs
   | lst ty z n c cs=>exact offL_nil cs
   | mp es ck=>exact offL_nil _
   | tmap q has c n kn=>exact offL_nil _
   | trow ty sz n cap c op zs=>exact offP_nil op
   | _=>rfl
mutual
theorem off_keep (K L:List Nat):∀ a:AV,offA K a=true->offA K (ren (keepOf L) a)=true
 | .s _,_ | .y _,_ | .junk,_ | .sl ..,_ | .ys ..,_ | .yn ..,_ | .ip ..,_ | .opt ..,_=>rfl
 | .ptr i k sz o,h=>by
   simp only [ren]
   cases hk:keepOf L i with
   | none=>rfl
   | some j=>have:=keepOf_some hk;subst this;exact h
 | .own i sz lo n,h=>by
   simp only [ren]
   cases hk:keepOf L i with
   | none=>rfl
   | some j=>have:=keepOf_some hk;subst this;exact h
 | .mref i,h=>by
   simp only [ren]
   cases hk:keepOf L i with
   | none=>rfl
   | some j=>have:=keepOf_some hk;subst this;exact h
 | .agg cs,h=>by simp only [offA] at h;simp only [ren,offA];exact off_keepL K L cs h
 | .tup cs,h=>by simp only [offA] at h;simp only [ren,offA];exact off_keepL K L cs h
 | .fn f a b,h=>by simp only [offA,Bool.and_eq_true] at h;simp only [ren,offA,Bool.and_eq_true];exact ⟨off_keepL K L a h.1,off_keepL K L b h.2⟩
 | .ifc t a,h=>by simp only [offA] at h;simp only [ren,offA];exact off_keep K L a h
theorem off_keepL (K L:List Nat):∀ l:List AV,offL K l=true->offL K (renL (keepOf L) l)=true
 | [],_=>rfl
 | a::r,h=>by simp only [offL,Bool.and_eq_true] at h;simp only [renL,offL,Bool.and_eq_true];exact ⟨off_keep K L a h.1,off_keepL K L r h.2⟩
end
theorem off_keepP (K L:List Nat):∀ op:List (Nat×List AV),offP K op=true->offP K (op.map fun p=>(p.1,renL (keepOf L) p.2))=true
 | [],_=>rfl
 | p::r,h=>by simp only [offP,Bool.and_eq_true] at h;simp only [List.map_cons,offP,Bool.and_eq_true];exact ⟨off_keepL K L _ h.1,off_keepP K L r h.2⟩
theorem off_keepB {K L:List Nat} {B:Blk} (h:offB K B=true):offB K (renB (keepOf L) B)=true:=by
 cases B with
 | box ty cs=>simp only [offB] at h;simp only [renB,offB];exact off_keepL K L cs h
 | lst ty z n c cs=>simp only [offB] at h;simp only [renB,offB];exact off_keepL K L cs h
 | mp es ck =>
   simp only [offB] at h
   have:=off_keepL K L _ h
   rw [renL_map,List.map_map] at this
   simp only [renB,offB,List.map_map];exact this
 | mit m since seen last =>
   simp only [renB]
   cases hk:keepOf L m with
   | none=>rfl
   | some j=>have:=keepOf_some hk;subst this;exact h
 | trow ty sz n cap c op zs=>exact off_keepP K L op h
 | tmap q has c n kn =>
   simp only [offB] at h
   have:=off_keepL K L _ h
   rw [renL_map,List.map_map] at this
   simp only [renB,offB,List.map_map];exact this
 | _=>rfl
def sees (p q:DE):Bool:=(match p.dst with | some d=>mem q.look d | none=>false)||!disj (ids p.wr) q.rd
def kOk (p q:DE):Bool:=match p.kl,q.kl with
 | [],[]=>true
 | K,[]=>offA K q.r&&offW K q.wr
 | [],K=>offA K p.r&&offW K p.wr
 | _,_=>false
def compat (p q:DE):Bool:=kOk p q&&!sees p q&&!sees q p&&disj (ids p.wr) (ids q.wr)&&(match p.dst,q.dst with | some a,some b=>!Nat.beq a b | _,_=>true)
theorem length_renL (f:Nat->Option Nat):∀ l:List AV,(renL f l).length=l.length
 | []=>rfl
 | _::l=>by simp [renL,length_renL f l]
theorem get_renL (f:Nat->Option Nat):∀ (l:List AV) (i:Nat),get (renL f l) i=ren f (get l i)
 | [],_=>by simp [renL,get,ren]
 | _::_,0=>rfl
 | _::l,n+1=>get_renL f l n
theorem length_killL (k:List Nat) (l:List AV):(killL k l).length=l.length:=by rw [killL_eq,length_renL]
theorem get_killL (k:List Nat) (l:List AV) (i:Nat):get (killL k l) i=kill k (get l i):=by rw [killL_eq,get_renL,kill_eq]
theorem length_putT (t:List AV) (d:Option Nat) (v:AV):(putT t d v).length=t.length:=by cases d<;>simp [putT,length_set]
theorem get_putT (t:List AV) (d:Option Nat) (v:AV) (j:Nat):get (putT t d v) j=if d=some j/\j<t.length then v else get t j:=by
 cases d with
 | none=>simp [putT]
 | some i =>
   simp only [putT,get_set,Option.some.injEq]
   by_cases h:i=j
   · subst h;rfl
   · simp [h]
def lastW:List (Nat×Blk)->Nat->Option Blk
 | [],_=>none
 | (i,B)::r,j=>match lastW r j with | some b=>some b | none=>if i=j then some B else none
theorem getM_applyW:∀ (l:List (Nat×Blk)) (M:List Blk) (j:Nat),getM (applyW l M) j=(lastW l j).getD (getM M j)
 | [],_,_=>rfl
 | (i,B)::r,M,j=>by
   simp only [applyW,lastW]
   rw [getM_applyW r]
   cases h:lastW r j with
   | some b=>rfl
   | none =>
     by_cases hij:i=j
     · subst hij;simp [getM_put_same]
     · simp [hij,getM_put_ne _ _ _ _ hij]
theorem lastW_none:∀ {l:List (Nat×Blk)} {j:Nat},j ∉ ids l->lastW l j=none
 | [],_,_=>rfl
 | (i,B)::r,j,h=>by
   simp [ids] at h
   simp [lastW,lastW_none h.2,Ne.symm h.1]
theorem app_t (d:DE) (s:St) (j:Nat):get (d.app s).t j=if d.dst=some j/\j<s.t.length then d.r else kill d.kl (get s.t j):=by
 simp only [DE.app,DE.stp,St.app,get_putT,length_killL,get_killL]
theorem app_m (d:DE) (s:St) (j:Nat):getM (d.app s).m j=(lastW d.wr j).getD (renB (keepOf d.kl) (getM s.m j)):=by
 simp only [DE.app,DE.stp,St.app,getM_kill,getM_applyW]
theorem app_len (d:DE) (s:St):(d.app s).t.length=s.t.length:=by simp only [DE.app,DE.stp,St.app,length_putT,length_killL]
theorem alike.app {d e:DE} {s s':St} (h:alike d s s'):alike d (e.app s) (e.app s'):=by
 refine ⟨by rw [app_len,app_len];exact h.1,fun t ht=>?_,fun i hi=>?_⟩
 · rw [app_t,app_t,h.1,h.2.1 t ht]
 · rw [app_m,app_m,h.2.2 i hi]
def Aw (e d:DE) (s:St):Prop:=(∀ t∈d.look,kill e.kl (get s.t t)=get s.t t)/\∀ i∈d.rd,renB (keepOf e.kl) (getM s.m i)=getM s.m i
theorem alike.away {d e:DE} {s s':St} (hk:Aw e d s) (hs:sees e d=false) (h:alike d s s'):alike d (e.app s) s':=by
 simp only [sees,Bool.or_eq_false_iff,Bool.not_eq_false'] at hs
 refine ⟨by rw [app_len];exact h.1,fun t ht=>?_,fun i hi=>?_⟩
 · rw [app_t,hk.1 t ht]
   have:e.dst≠some t:=by
    intro he
    rw [he] at hs
    have:=mem_iff.2 ht
    simp only at hs
    rw [hs.1] at this;cases this
   simp only [this,false_and,if_false]
   exact h.2.1 t ht
 · rw [app_m,hk.2 i hi]
   rw [lastW_none (fun hw=>disj_ok hs.2 i hw hi)]
   exact h.2.2 i hi
def St.eqv (s s':St):Prop:=s.t=s'.t/\∀ i,getM s.m i=getM s'.m i
theorem list_ext {l l':List AV} (hl:l.length=l'.length) (h:∀ i,get l i=get l' i):l=l':=by
 induction l generalizing l' with
 | nil=>cases l' with | nil=>rfl | cons=>simp at hl
 | cons a l ih =>
   cases l' with
   | nil=>simp at hl
   | cons b l' =>
     have h0:=h 0
     simp only [get] at h0
     subst h0
     rw [ih (by simpa using hl) fun i=>h (i+1)]
theorem St.eqv.refl (s:St):s.eqv s:=⟨rfl,fun _=>rfl⟩
theorem St.eqv.trans {s s' s2:St} (h:s.eqv s') (k:s'.eqv s2):s.eqv s2:=⟨h.1.trans k.1,fun i=>(h.2 i).trans (k.2 i)⟩
theorem St.eqv.app {s s':St} (d:DE) (h:s.eqv s'):(d.app s).eqv (d.app s') :=
 ⟨list_ext (by rw [app_len,app_len,h.1]) fun i=>by rw [app_t,app_t,h.1],fun i=>by rw [app_m,app_m,h.2]⟩
theorem offW_last {K:List Nat}:∀ {l:List (Nat×Blk)} {i:Nat} {B:Blk},offW K l=true->lastW l i=some B->offB K B=true
 | [],_,_,_,h=>by cases h
 | p::r,i,B,h,hl=>by
   simp only [offW,Bool.and_eq_true] at h
   obtain ⟨pi,pB⟩:=p
   simp only [lastW] at hl
   cases hr:lastW r i with
   | some b=>rw [hr] at hl;cases hl;exact offW_last h.2 hr
   | none =>
     rw [hr] at hl
     by_cases hi:pi=i
     · simp [hi] at hl;subst hl;exact h.1
     · simp [hi] at hl
theorem kill_off {K:List Nat} {a:AV} (h:offA K a=true):kill K a=a:=by rw [kill_eq];exact off_ren K a h
theorem comm1 {p q:DE} (hq:q.kl=[]) (h1:offA p.kl q.r=true) (h2:offW p.kl q.wr=true) (h3:∀ i∈ids p.wr,i ∉ ids q.wr) (h4:∀ a,p.dst=some a->q.dst≠some a) (s:St):(p.app (q.app s)).eqv (q.app (p.app s)):=by
 refine ⟨list_ext (by rw [app_len,app_len,app_len,app_len]) fun i=>?_,fun i=>?_⟩
 · rw [app_t,app_t,app_t,app_t,app_len,app_len,hq]
   have k0:∀ x,kill [] x=x:=fun _=>rfl
   by_cases a:p.dst=some i
   · have b:¬ q.dst=some i:=h4 i a
     simp [a,b,k0]
   · by_cases b:q.dst=some i
     · by_cases c:i<s.t.length
       · simp [a,b,c,kill_off h1,k0]
       · simp [a,b,c,k0]
     · simp [a,b,k0]
 · rw [app_m,app_m,app_m,app_m,hq,keepOf_nil]
   simp only [renB_some]
   by_cases a:i∈ids p.wr
   · rw [lastW_none (h3 i a)];rfl
   · rw [lastW_none a]
     cases hl:lastW q.wr i with
     | none=>rfl
     | some B=>simp only [Option.getD_some,Option.getD_none];exact off_renB (offW_last h2 hl)
theorem St.eqv.symm {s s':St} (h:s.eqv s'):s'.eqv s:=⟨h.1.symm,fun i=>(h.2 i).symm⟩
theorem app_comm {p q:DE} (h:compat p q=true) (s:St):(p.app (q.app s)).eqv (q.app (p.app s)):=by
 simp only [compat,Bool.and_eq_true,Bool.not_eq_true'] at h
 obtain ⟨⟨⟨⟨hk,h1⟩,h2⟩,h3⟩,h4⟩:=h
 have hd:∀ a,p.dst=some a->q.dst≠some a:=by
  intro a ha hb
  rw [ha,hb] at h4
  simp at h4
 have hw:=disj_ok h3
 unfold kOk at hk
 cases hq:q.kl with
 | nil =>
   cases hp:p.kl with
   | nil=>exact comm1 hq (by rw [hp];exact off_nil _) (by rw [hp];exact offW_nil _) hw hd s
   | cons x r =>
     rw [hp,hq] at hk
     simp only [Bool.and_eq_true] at hk
     exact comm1 hq (by rw [hp];exact hk.1) (by rw [hp];exact hk.2) hw hd s
 | cons y r =>
   cases hp:p.kl with
   | nil =>
     rw [hp,hq] at hk
     simp only [Bool.and_eq_true] at hk
     exact (comm1 hp (by rw [hq];exact hk.1) (by rw [hq];exact hk.2) (fun i hi hj=>hw i hj hi) (fun a ha hb=>hd a hb ha) s).symm
   | cons x r=>rw [hp,hq] at hk;cases hk
theorem compat_sees {p q:DE} (h:compat p q=true):sees p q=false/\sees q p=false:=by
 simp only [compat,Bool.and_eq_true,Bool.not_eq_true'] at h
 exact ⟨h.1.1.1.2,h.1.1.2⟩
theorem compat_comm {p q:DE} (h:compat p q=true):compat q p=true:=by
 simp only [compat,Bool.and_eq_true,Bool.not_eq_true'] at h ⊢
 obtain ⟨⟨⟨⟨hk,h1⟩,h2⟩,h3⟩,h4⟩:=h
 refine ⟨⟨⟨⟨?_,h2⟩,h1⟩,?_⟩,?_⟩
 · revert hk
   unfold kOk
   cases p.kl<;>cases q.kl<;>simp
 · have:∀ (l r:List Nat),(∀ x∈l,x ∉ r)->disj l r=true:=by
    intro l r
    induction l with
    | nil=>intro _;rfl
    | cons x l ihl =>
      intro hx
      simp only [disj,Bool.and_eq_true,Bool.not_eq_true']
      refine ⟨?_,ihl fun y hy=>hx y (by simp [hy])⟩
      cases hm:mem r x with
      | false=>rfl
      | true=>exact absurd (mem_iff.1 hm) (hx x (by simp))
   exact this _ _ fun x hx hx'=>disj_ok h3 x hx' hx
 · revert h4;cases p.dst<;>cases q.dst<;>simp
   rename_i x y
   intro h
   cases hb:Nat.beq y x with
   | false=>rfl
   | true=>have:=Nat.eq_of_beq_eq_true hb;subst this;rw [hb] at h;cases h
def foldX:List DE->Nat->(Nat->Bool)->St->St
 | [],_,_,s=>s
 | d::r,p,X,s=>foldX r (p+1) X (if X p then d.app s else s)
theorem foldX_eqv:∀ (l:List DE) (p:Nat) (X:Nat->Bool) {s s':St},s.eqv s'->(foldX l p X s).eqv (foldX l p X s')
 | [],_,_,_,_,h=>h
 | d::r,p,X,s,s',h=>by
   simp only [foldX]
   refine foldX_eqv r _ X ?_
   split
   · exact h.app d
   · exact h
theorem foldX_congr:∀ (l:List DE) (p:Nat) {X Y:Nat->Bool} (s:St),(∀ k,p<=k->k<p+l.length->X k=Y k)->foldX l p X s=foldX l p Y s
 | [],_,_,_,_,_=>rfl
 | d::r,p,X,Y,s,h=>by
   simp only [foldX]
   rw [h p (Nat.le_refl _) (by simp),foldX_congr r (p+1) _ fun k h1 h2=>h k (by omega) (by simp;omega)]
theorem foldX_none:∀ (l:List DE) (p:Nat) {X:Nat->Bool} (s:St),(∀ k,p<=k->X k=false)->foldX l p X s=s
 | [],_,_,_,_=>rfl
 | d::r,p,X,s,h=>by
   simp only [foldX]
   rw [h p (Nat.le_refl _),foldX_none r (p+1) _ fun k hk=>h k (by omega)]
   rfl
theorem foldX_append:∀ (l r:List DE) (p:Nat) (X:Nat->Bool) (s:St),foldX (l++r) p X s=foldX r (p+l.length) X (foldX l p X s)
 | [],_,_,_,_=>rfl
 | d::l,r,p,X,s=>by
   simp only [List.cons_append,foldX]
   rw [foldX_append l r]
   simp [Nat.add_assoc,Nat.add_comm 1]
theorem foldX_over:∀ (l:List DE) (p:Nat) (X:Nat->Bool) (d:DE) (s:St),(∀ k dk,l[k]? = some dk->X (p+k)=true->compat dk d=true)->(foldX l p X (d.app s)).eqv (d.app (foldX l p X s))
 | [],_,_,d,s,_=>St.eqv.refl _
 | e::r,p,X,d,s,h=>by
   simp only [foldX]
   have hr:∀ k dk,r[k]? = some dk->X (p+1+k)=true->compat dk d=true:=fun k dk hk hX=>h (k+1) dk (by simpa using hk) (by rw [show p+(k+1)=p+1+k by omega];exact hX)
   split
   · rename_i hX
     have hc:=h 0 e (by simp) (by simpa using hX)
     exact (foldX_eqv r _ X (app_comm hc s)).trans (foldX_over r (p+1) X d (e.app s) hr)
   · exact foldX_over r (p+1) X d s hr
def ins (X:Nat->Bool) (q:Nat) (k:Nat):Bool:=if k=q then true else X k
theorem foldX_ins:∀ (l:List DE) (p:Nat) (X:Nat->Bool) (q:Nat) (d:DE) (s:St),p<=q->l[q - p]? = some d->X q=false ->
 (∀ k dk,l[k]? = some dk->q<p+k->X (p+k)=true->compat dk d=true)->(foldX l p (ins X q) s).eqv (d.app (foldX l p X s))
 | [],_,_,_,_,_,_,hd,_,_=>by simp at hd
 | e::r,p,X,q,d,s,hpq,hd,hq,h=>by
   simp only [foldX]
   by_cases hp:p=q
   · subst hp
     simp at hd
     subst hd
     simp only [ins,if_pos,hq]
     rw [foldX_congr r (p+1) (X:=ins X p) (Y:=X) _ fun k h1 h2=>by simp [ins];omega]
     exact foldX_over r (p+1) X e s fun k dk hk hX=>h (k+1) dk (by simpa using hk) (by omega) (by rw [show p+(k+1)=p+1+k by omega];exact hX)
   · have:ins X q p=X p:=by simp [ins,hp]
     rw [this]
     refine foldX_ins r (p+1) X q d _ (by omega) ?_ hq fun k dk hk hl hX=>h (k+1) dk (by simpa using hk) (by omega) (by rw [show p+(k+1)=p+1+k by omega];exact hX)
     rw [show q - p=(q - (p+1))+1 by omega] at hd
     simpa using hd
theorem foldX_alike (R:St->Prop):∀ (l:List DE) (p:Nat) (Z Y:Nat->Bool) (d:DE) (s s':St),(∀ e∈l,∀ s,R s->R (e.app s))->R s->R s'->alike d s s' ->
 (∀ j dj,l[j]? = some dj->Y (p+j)=true->Z (p+j)=true->alike dj s s') ->
 (∀ k dk,l[k]? = some dk->Z (p+k)=true->Y (p+k)=false->(∀ s,R s->Aw dk d s)/\sees dk d=false/\∀ j dj,k<j->l[j]? = some dj->Y (p+j)=true->Z (p+j)=true->(∀ s,R s->Aw dk dj s)/\sees dk dj=false) ->
 (∀ k dk,l[k]? = some dk->Z (p+k)=false->Y (p+k)=true->(∀ s,R s->Aw dk d s)/\sees dk d=false/\∀ j dj,k<j->l[j]? = some dj->Y (p+j)=true->Z (p+j)=true->(∀ s,R s->Aw dk dj s)/\sees dk dj=false) ->
 alike d (foldX l p Z s) (foldX l p Y s')
 | [],_,_,_,_,_,_,_,_,_,h,_,_,_=>h
 | e::r,p,Z,Y,d,s,s',hR,hs,hs',h,hj,h1,h2=>by
   simp only [foldX]
   have e1:∀ k,p+1+k=p+(k+1):=fun k=>by omega
   have hRr:∀ e∈r,∀ s,R s->R (e.app s):=fun e he=>hR e (List.mem_cons_of_mem _ he)
   have hRe:=hR e (by simp)
   have g1:∀ k dk,r[k]? = some dk->Z (p+1+k)=true->Y (p+1+k)=false->(∀ s,R s->Aw dk d s)/\sees dk d=false/\∀ j dj,k<j->r[j]? = some dj->Y (p+1+j)=true->Z (p+1+j)=true->(∀ s,R s->Aw dk dj s)/\sees dk dj=false:=by
    intro k dk hk hz hy
    rw [e1] at hz hy
    obtain ⟨a,b,c⟩:=h1 (k+1) dk (by simpa using hk) hz hy
    exact ⟨a,b,fun j dj hkj hj hY hZ=>c (j+1) dj (by omega) (by simpa using hj) (by rw [e1] at hY;exact hY) (by rw [e1] at hZ;exact hZ)⟩
   have g2:∀ k dk,r[k]? = some dk->Z (p+1+k)=false->Y (p+1+k)=true->(∀ s,R s->Aw dk d s)/\sees dk d=false/\∀ j dj,k<j->r[j]? = some dj->Y (p+1+j)=true->Z (p+1+j)=true->(∀ s,R s->Aw dk dj s)/\sees dk dj=false:=by
    intro k dk hk hz hy
    rw [e1] at hz hy
    obtain ⟨a,b,c⟩:=h2 (k+1) dk (by simpa using hk) hz hy
    exact ⟨a,b,fun j dj hkj hj hY hZ=>c (j+1) dj (by omega) (by simpa using hj) (by rw [e1] at hY;exact hY) (by rw [e1] at hZ;exact hZ)⟩
   have gj:∀ j dj,r[j]? = some dj->Y (p+1+j)=true->Z (p+1+j)=true->alike dj s s':=fun j dj hjj hY hZ =>
    hj (j+1) dj (by simpa using hjj) (by rw [e1] at hY;exact hY) (by rw [e1] at hZ;exact hZ)
   cases hz:Z p<;>cases hy:Y p<;>simp only [if_true,Bool.false_eq_true,if_false]
   · exact foldX_alike R r (p+1) Z Y d s s' hRr hs hs' h gj g1 g2
   · obtain ⟨a,b,c⟩:=h2 0 e (by simp) (by simpa using hz) (by simpa using hy)
     refine foldX_alike R r (p+1) Z Y d s _ hRr hs (hRe _ hs') (h.symm.away (a _ hs') b).symm (fun j dj hjj hY hZ=>?_) g1 g2
     obtain ⟨c1,c2⟩:=c (j+1) dj (by omega) (by simpa using hjj) (by rw [e1] at hY;exact hY) (by rw [e1] at hZ;exact hZ)
     exact ((gj j dj hjj hY hZ).symm.away (c1 _ hs') c2).symm
   · obtain ⟨a,b,c⟩:=h1 0 e (by simp) (by simpa using hz) (by simpa using hy)
     refine foldX_alike R r (p+1) Z Y d _ s' hRr (hRe _ hs) hs' (h.away (a _ hs) b) (fun j dj hjj hY hZ=>?_) g1 g2
     obtain ⟨c1,c2⟩:=c (j+1) dj (by omega) (by simpa using hjj) (by rw [e1] at hY;exact hY) (by rw [e1] at hZ;exact hZ)
     exact (gj j dj hjj hY hZ).away (c1 _ hs) c2
   · exact foldX_alike R r (p+1) Z Y d _ _ hRr (hRe _ hs) (hRe _ hs') h.app (fun j dj hjj hY hZ=>(gj j dj hjj hY hZ).app) g1 g2
def offTs (K:List Nat) (s0:St):List Nat->Bool
 | []=>true
 | t::r=>offA K (get s0.t t)&&offTs K s0 r
def offMs (K:List Nat) (s0:St):List Nat->Bool
 | []=>true
 | i::r=>offB K (getM s0.m i)&&offMs K s0 r
def offWs (K rd:List Nat):List (Nat×Blk)->Bool
 | []=>true
 | p::r=>(!mem rd p.1||offB K p.2)&&offWs K rd r
def offDs (K look rd:List Nat):List DE->Bool
 | []=>true
 | f::r=>(match f.dst with | some t=>!mem look t||offA K f.r | none=>true)&&(offWs K rd f.wr&&offDs K look rd r)
def stat (s0:St) (ds:List DE) (e d:DE):Bool:=offTs e.kl s0 d.look&&(offMs e.kl s0 d.rd&&offDs e.kl d.look d.rd ds)
def clean (K:List Nat) (d:DE) (s:St):Prop:=(∀ t∈d.look,offA K (get s.t t)=true)/\∀ i∈d.rd,offB K (getM s.m i)=true
theorem clean_aw {e d:DE} {s:St} (h:clean e.kl d s):Aw e d s:=⟨fun t ht=>kill_off (h.1 t ht),fun i hi=>off_renB (h.2 i hi)⟩
theorem offTs_ok {K:List Nat} {s0:St}:∀ {l:List Nat},offTs K s0 l=true->∀ t∈l,offA K (get s0.t t)=true
 | [],_,t,ht=>by cases ht
 | a::r,h,t,ht=>by
   simp only [offTs,Bool.and_eq_true] at h
   rcases List.mem_cons.1 ht with rfl | ht
   · exact h.1
   · exact offTs_ok h.2 t ht
theorem offMs_ok {K:List Nat} {s0:St}:∀ {l:List Nat},offMs K s0 l=true->∀ t∈l,offB K (getM s0.m t)=true
 | [],_,t,ht=>by cases ht
 | a::r,h,t,ht=>by
   simp only [offMs,Bool.and_eq_true] at h
   rcases List.mem_cons.1 ht with rfl | ht
   · exact h.1
   · exact offMs_ok h.2 t ht
theorem offWs_last {K rd:List Nat}:∀ {l:List (Nat×Blk)} {i:Nat} {B:Blk},offWs K rd l=true->i∈rd->lastW l i=some B->offB K B=true
 | [],_,_,_,_,h=>by cases h
 | p::r,i,B,h,hi,hl=>by
   obtain ⟨pi,pB⟩:=p
   simp only [offWs,Bool.and_eq_true,Bool.or_eq_true] at h
   simp only [lastW] at hl
   cases hr:lastW r i with
   | some b=>rw [hr] at hl;cases hl;exact offWs_last h.2 hi hr
   | none =>
     rw [hr] at hl
     by_cases he:pi=i
     · simp [he] at hl
       subst hl
       rcases h.1 with h1 | h1
       · rw [he,mem_iff.2 hi] at h1;cases h1
       · exact h1
     · simp [he] at hl
theorem offDs_ok {K look rd:List Nat}:∀ {ds:List DE},offDs K look rd ds=true->∀ f∈ds,(∀ t,f.dst=some t->t∈look->offA K f.r=true)/\∀ i B,i∈rd->lastW f.wr i=some B->offB K B=true
 | [],_,f,hf=>by cases hf
 | g::r,h,f,hf=>by
   simp only [offDs,Bool.and_eq_true] at h
   rcases List.mem_cons.1 hf with rfl | hf
   · refine ⟨fun t ht hl=>?_,fun i B hi hb=>offWs_last h.2.1 hi hb⟩
     have h1:=h.1
     rw [ht] at h1
     simp only [Bool.or_eq_true] at h1
     rcases h1 with h1 | h1
     · rw [mem_iff.2 hl] at h1;cases h1
     · exact h1
   · exact offDs_ok h.2.2 f hf
def Rch (s0:St) (ds:List DE) (s:St):Prop:=∀ e∈ds,∀ d∈ds,stat s0 ds e d=true->clean e.kl d s
theorem rch_zero (s0:St) (ds:List DE):Rch s0 ds s0:=by
 intro e _ d _ h
 simp only [stat,Bool.and_eq_true] at h
 exact ⟨offTs_ok h.1,offMs_ok h.2.1⟩
theorem rch_app {s0:St} {ds:List DE}:∀ f∈ds,∀ s,Rch s0 ds s->Rch s0 ds (f.app s):=by
 intro f hf s hs e he d hd h
 obtain ⟨h1,h2⟩:=hs e he d hd h
 simp only [stat,Bool.and_eq_true] at h
 obtain ⟨g1,g2⟩:=offDs_ok h.2.2 f hf
 refine ⟨fun t ht=>?_,fun i hi=>?_⟩
 · rw [app_t]
   split
   · rename_i hc
     exact g1 t hc.1 ht
   · rw [kill_eq];exact off_keep _ _ _ (h1 t ht)
 · rw [app_m]
   cases hl:lastW f.wr i with
   | some B=>exact g2 i B hi hl
   | none=>exact off_keepB (h2 i hi)
def pairB (s0:St) (ds:List DE) (e d:DE):Bool:=match e.kl,d.kl with
 | [],[]=>true
 | _,_=>stat s0 ds e d&&stat s0 ds d e
theorem pair_aw {s0:St} {ds:List DE} {e d:DE} (he:e∈ds) (hd:d∈ds) (h:pairB s0 ds e d=true):(∀ s,Rch s0 ds s->Aw e d s)/\∀ s,Rch s0 ds s->Aw d e s:=by
 unfold pairB at h
 split at h
 · rename_i h1 h2
   refine ⟨fun s _=>⟨fun t _=>by rw [h1];rfl,fun i _=>by rw [h1,keepOf_nil,renB_some]⟩,fun s _=>⟨fun t _=>by rw [h2];rfl,fun i _=>by rw [h2,keepOf_nil,renB_some]⟩⟩
 · simp only [Bool.and_eq_true] at h
   exact ⟨fun s hs=>clean_aw (hs e he d hd h.1),fun s hs=>clean_aw (hs d hd e he h.2)⟩
def earlyB (s0:St) (ds:List DE) (j:Nat) (d:DE):List DE->Nat->Bool
 | [],_=>true
 | e::r,k=>(!Nat.blt k j||(d.pm.testBit k||pairB s0 ds e d))&&earlyB s0 ds j d r (k+1)
def regB (s0:St) (ds:List DE):List DE->Nat->Bool
 | [],_=>true
 | d::r,j=>earlyB s0 ds j d ds 0&&regB s0 ds r (j+1)
def noKl:List DE->Bool
 | []=>true
 | d::r=>(match d.kl with | []=>true | _=>false)&&noKl r
def regOk (s0:St) (ds:List DE):Bool:=noKl ds||regB s0 ds ds 0
def RegP (s0:St) (ds:List DE):Prop:=∀ k j dk dj,k<j->ds[k]? = some dk->ds[j]? = some dj->dj.pm.testBit k=true∨pairB s0 ds dk dj=true
theorem early_ok {s0:St} {ds:List DE} {j:Nat} {d:DE}:∀ {l:List DE} {p:Nat},earlyB s0 ds j d l p=true->∀ k e,l[k]? = some e->p+k<j->d.pm.testBit (p+k)=true∨pairB s0 ds e d=true
 | [],_,_,k,e,hk,_=>by simp at hk
 | a::r,p,h,k,e,hk,hj=>by
   simp only [earlyB,Bool.and_eq_true,Bool.or_eq_true] at h
   cases k with
   | zero =>
     simp at hk
     subst hk
     rcases h.1 with h1 | h1
     · exfalso
       have:Nat.blt p j=true:=by rw [Nat.blt_eq];omega
       rw [this] at h1;cases h1
     · exact h1
   | succ k =>
     have:=early_ok h.2 k e (by simpa using hk) (by omega)
     rwa [show p+1+k=p+(k+1) by omega] at this
theorem reg_ok {s0:St} {ds:List DE}:∀ {l:List DE} {p:Nat},regB s0 ds l p=true->∀ j d,l[j]? = some d->∀ k e,ds[k]? = some e->k<p+j->d.pm.testBit k=true∨pairB s0 ds e d=true
 | [],_,_,j,d,hj=>by simp at hj
 | a::r,p,h,j,d,hj=>by
   simp only [regB,Bool.and_eq_true] at h
   intro k e hk hkj
   cases j with
   | zero =>
     simp at hj
     subst hj
     have:=early_ok h.1 k e hk (by omega)
     simpa using this
   | succ j=>exact reg_ok h.2 j d (by simpa using hj) k e hk (by omega)
theorem noKl_ok:∀ {l:List DE},noKl l=true->∀ d∈l,d.kl=[]
 | [],_,d,hd=>by cases hd
 | a::r,h,d,hd=>by
   simp only [noKl,Bool.and_eq_true] at h
   rcases List.mem_cons.1 hd with rfl | hd
   · have h1:=h.1
     split at h1
     · assumption
     · cases h1
   · exact noKl_ok h.2 d hd
theorem regOk_ok {s0:St} {ds:List DE} (h:regOk s0 ds=true):RegP s0 ds:=by
 intro k j dk dj hkj hk hj
 simp only [regOk,Bool.or_eq_true] at h
 rcases h with h | h
 · right
   unfold pairB
   rw [noKl_ok h dk (List.mem_of_getElem? hk),noKl_ok h dj (List.mem_of_getElem? hj)]
 · exact reg_ok h j dj hj k dk hk (by omega)
end Go.Ax
