import Derived.Test.YtffkiommagljeaaGreatDoorE13
import Derived.Test.YtffkiommagljeaaGreatDoorE16
import Derived.Test.YtffkiommagljeaaGreatDoorE19
set_option linter.unusedVariables false
set_option linter.unusedSimpArgs false
set_option linter.unusedSectionVars false
namespace Go.Ax
open Go
variable [Inhabited Gl0]
def kindB:IntKind->IntKind->Bool
 | a,b=>decide (a=b)
def veq:Value->Value->Prop
 | .int k a,.int k' b=>(match kindB k k' with | true=>a=b | false=>False)
 | .bool a,.bool b=>a=b
 | .string a,.string b=>a=b
 | .nilIface,.nilIface=>True
 | .nilFunc,.nilFunc=>True
 | .pointer none,.pointer none=>True
 | .slice none 0 0,.slice none 0 0=>True
 | a,b=>a=b
theorem veq_eq {a b:Value} (h:veq a b):a=b:=by
 unfold veq at h
 split at h
 · rename_i k a k' b
   split at h
   · rename_i hk
     have:=of_decide_eq_true hk
     rw [this,h]
   · exact h.elim
 · rw [h]
 · rw [h]
 · rfl
 · rfl
 · rfl
 · rfl
 · exact h
def isNilS:Value->Bool
 | .slice none 0 0=>true
 | _=>false
def fnB:Fn->Fn->Bool
 | .func f,.func g=>Nat.beq f g
 | _,_=>false
theorem fnB_eq {a b:Fn} (h:fnB a b=true):a=b:=by
 unfold fnB at h
 split at h
 · rw [Nat.eq_of_beq_eq_true h]
 · cases h
def sameC (n sz:Nat) (c c':Nat->Nat->AV):Prop:=∀ k,k<n->∀ j,j<sz->c k j=c' k j
def le0:AV->AV->Prop
 | .s v,.s u=>veq v u
 | .s v,.y u=>veq v u
 | .s v,.ys _ _ n _=>(match isNilS v with | true=>n=0 | false=>False)
 | .y v,.s u=>veq v u
 | .y v,.y u=>veq v u
 | .sl d sz n c,.sl d' sz' n' c'=>(match Nat.beq sz sz' with | true=>d=d'/\n=n'/\sameC n sz c c' | false=>False)
 | .sl d sz n c,.ys d' sz' n' c'=>(match Nat.beq sz sz' with | true=>d=d'/\n=n'/\sameC n sz c c' | false=>False)
 | .ys d sz n c,.ys d' sz' n' c'=>(match Nat.beq sz sz' with | true=>d=d'/\n=n'/\sameC n sz c c' | false=>False)
 | .ifc t (.s v),.ifc t' (.y u)=>(match Nat.beq t t' with | true=>veq v u | false=>False)
 | .ifc t (.y v),.ifc t' (.y u)=>(match Nat.beq t t' with | true=>veq v u | false=>False)
 | _,.junk=>True
 | a,b=>a=b
theorem nil_ys {v:Value} {H:HH} {E:Env} {b:Bool} {sz n:Nat} {c:Nat->Nat->AV} (hn:isNilS v=true) (h:n=0):Rel (.ys b sz n c) H E v:=by
 subst h
 unfold isNilS at hn
 split at hn
 · exact ⟨none,0,rfl,⟨Nat.le_refl _,fun _=>rfl⟩,fun h=>by omega⟩
 · cases hn
theorem rel_le0 {a b:AV} {H:HH} {E:Env} {v:Value} (h:le0 a b) (hr:Rel a H E v):Rel b H E v:=by
 unfold le0 at h
 split at h
 · obtain ⟨rfl,hs⟩:=hr;rw [<- veq_eq h];exact ⟨rfl,hs⟩
 · obtain ⟨rfl,hs⟩:=hr;rw [<- veq_eq h];exact ⟨rfl,hs⟩
 · obtain ⟨rfl,hs⟩:=hr
   split at h
   · rename_i hn;exact nil_ys hn h
   · exact h.elim
 · obtain ⟨rfl,hs⟩:=hr;rw [<- veq_eq h];exact ⟨rfl,hs⟩
 · obtain ⟨rfl,hs⟩:=hr;rw [<- veq_eq h];exact ⟨rfl,hs⟩
 all_goals
  first
   | (split at h
      · rename_i hb
        simp only [Nat.beq_eq] at hb
        subst hb
        obtain ⟨rfl,rfl,hc⟩:=h
        obtain ⟨a,cap,hu,hn,hk⟩:=hr
        refine ⟨a,cap,hu,hn,fun h0=>?_⟩
        obtain ⟨ad,ha,hk⟩:=hk h0
        refine ⟨ad,ha,fun k hkn j hj=>?_⟩
        obtain ⟨x,hx,h1,h2⟩:=hk k hkn j hj
        exact ⟨x,hx,h1,by rw [<- hc k hkn j hj];exact h2⟩
      · exact h.elim)
   | (split at h
      · rename_i hb
        simp only [Nat.beq_eq] at hb
        subst hb
        obtain ⟨x,hx,rfl,hs⟩:=hr
        rw [veq_eq h] at hx hs
        exact ⟨_,hx,rfl,hs⟩
      · exact h.elim)
   | trivial
   | (rw [<- h];exact hr)
def contLe (n sz:Nat) (c c':Nat->Nat->AV):Prop:=∀ k,k<n->∀ j,j<sz->le0 (c k j) (c' k j)
def cellLe (m:Nat) (c c':Nat->AV):Prop:=∀ j,j<m->le0 (c j) (c' j)
mutual
def AV.le:AV->AV->Prop
 | .s v,b=>(match b with
   | .junk=>True
   | .s u=>veq v u
   | .y u=>veq v u
   | .ys _ _ n _=>(match isNilS v with | true=>n=0 | false=>False)
   | .opt x _ _=>(match v with | .nilIface=>x=false | _=>False)
   | _=>False)
 | .y v,b=>(match b with
   | .junk=>True
   | .y u=>veq v u
   | .s u=>veq v u
   | _=>False)
 | .junk,b=>(match b with | .junk=>True | _=>False)
 | .ptr i k sz o,b=>(match b with
   | .junk=>True
   | .ptr i' k' sz' o'=>(match Nat.beq i i'&&Nat.beq sz sz' with | true=>k=k'/\o=o' | false=>False)
   | _=>False)
 | .own i sz lo n,b=>(match b with
   | .junk=>True
   | .own i' sz' lo' n'=>(match Nat.beq i i'&&Nat.beq sz sz' with | true=>lo=lo'/\n=n' | false=>False)
   | _=>False)
 | .mref i,b=>(match b with
   | .junk=>True
   | .mref i'=>(match Nat.beq i i' with | true=>True | false=>False)
   | _=>False)
 | .sl d sz n c,b=>(match b with
   | .junk=>True
   | .sl d' sz' n' c'=>(match Nat.beq sz sz' with | true=>d=d'/\n=n'/\contLe n sz c c' | false=>False)
   | .ys d' sz' n' c'=>(match Nat.beq sz sz' with | true=>d=d'/\n=n'/\contLe n sz c c' | false=>False)
   | _=>False)
 | .ys d sz n c,b=>(match b with
   | .junk=>True
   | .ys d' sz' n' c'=>(match Nat.beq sz sz' with | true=>d=d'/\n=n'/\contLe n sz c c' | false=>False)
   | _=>False)
 | .yn d sz n c,b=>(match b with
   | .junk=>True
   | b=>AV.yn d sz n c=b)
 | .ip d m c,b=>(match b with
   | .junk=>True
   | .ip d' m' c'=>d=d'/\m'<=m/\cellLe m' c c'
   | _=>False)
 | .agg cs,b=>(match b with
   | .junk=>True
   | .agg cs'=>leL cs cs'
   | _=>False)
 | .tup cs,b=>(match b with
   | .junk=>True
   | .tup cs'=>leL cs cs'
   | _=>False)
 | .fn f x y,b=>(match b with
   | .junk=>True
   | .fn f' x' y'=>(match fnB f f' with | true=>leL x x'/\leL y y' | false=>False)
   | _=>False)
 | .ifc t a,b=>(match b with
   | .junk=>True
   | .ifc t' a'=>(match Nat.beq t t' with | true=>a.le a' | false=>False)
   | .opt x t' a'=>(match Nat.beq t t'&&noRef a with | true=>x=true/\a.le a' | false=>False)
   | _=>False)
 | .opt x t a,b=>(match b with
   | .junk=>True
   | .opt x' t' a'=>(match Nat.beq t t' with | true=>x=x'/\a.le a' | false=>False)
   | .ifc t' a'=>(match Nat.beq t t'&&noRef a with | true=>x=true/\a.le a' | false=>False)
   | .s u=>(match u with | .nilIface=>x=false | _=>False)
   | _=>False)
def leL:List AV->List AV->Prop
 | [],l=>(match l with | []=>True | _=>False)
 | a::as,l=>(match l with
   | .junk::bs=>leL as bs
   | b::bs=>a.le b/\leL as bs
   | []=>False)
end
mutual
theorem rel_le:∀ (a:AV) {b:AV} {H:HH} {E:Env} {v:Value},a.le b->Rel a H E v->Rel b H E v
 | .s u,b,H,E,v,h,hr=>by
   obtain ⟨rfl,hs⟩:=hr
   cases b<;>simp only [AV.le] at h<;>try exact h.elim
   · rw [<- veq_eq h];exact ⟨rfl,hs⟩
   · rw [<- veq_eq h];exact ⟨rfl,hs⟩
   · trivial
   · split at h
     · rename_i hn;exact nil_ys hn h
     · exact h.elim
   · split at h
     · subst h
       exact ⟨fun hb=>absurd hb (by decide),fun _=>rfl⟩
     · exact h.elim
 | .y u,b,H,E,v,h,hr=>by
   obtain ⟨rfl,hs⟩:=hr
   cases b<;>simp only [AV.le] at h<;>try exact h.elim
   · rw [<- veq_eq h];exact ⟨rfl,hs⟩
   · rw [<- veq_eq h];exact ⟨rfl,hs⟩
   · trivial
 | .junk,b,H,E,v,h,hr=>by
   cases b<;>simp only [AV.le] at h<;>first | exact h.elim | trivial
 | .ptr i k sz o,b,H,E,v,h,hr=>by
   cases b<;>simp only [AV.le] at h<;>try exact h.elim
   · trivial
   · split at h
     · rename_i hb
       simp only [Bool.and_eq_true,Nat.beq_eq] at hb
       obtain ⟨rfl,rfl⟩:=hb
       obtain ⟨rfl,rfl⟩:=h
       exact hr
     · exact h.elim
 | .own i sz lo n,b,H,E,v,h,hr=>by
   cases b<;>simp only [AV.le] at h<;>try exact h.elim
   · trivial
   · split at h
     · rename_i hb
       simp only [Bool.and_eq_true,Nat.beq_eq] at hb
       obtain ⟨rfl,rfl⟩:=hb
       obtain ⟨rfl,rfl⟩:=h
       exact hr
     · exact h.elim
 | .mref i,b,H,E,v,h,hr=>by
   cases b<;>simp only [AV.le] at h<;>try exact h.elim
   · trivial
   · split at h
     · rename_i hb
       simp only [Nat.beq_eq] at hb
       subst hb
       exact hr
     · exact h.elim
 | .sl d sz n c,b,H,E,v,h,hr=>by
   cases b<;>simp only [AV.le] at h<;>try exact h.elim
   · trivial
   · split at h
     · rename_i hb
       simp only [Nat.beq_eq] at hb
       subst hb
       obtain ⟨rfl,rfl,hc⟩:=h
       obtain ⟨a,cap,hu,hn,hk⟩:=hr
       refine ⟨a,cap,hu,hn,fun h0=>?_⟩
       obtain ⟨ad,ha,hk⟩:=hk h0
       refine ⟨ad,ha,fun k hkn j hj=>?_⟩
       obtain ⟨x,hx,h1,h2⟩:=hk k hkn j hj
       exact ⟨x,hx,h1,rel_le0 (hc k hkn j hj) h2⟩
     · exact h.elim
   · split at h
     · rename_i hb
       simp only [Nat.beq_eq] at hb
       subst hb
       obtain ⟨rfl,rfl,hc⟩:=h
       obtain ⟨a,cap,hu,hn,hk⟩:=hr
       refine ⟨a,cap,hu,hn,fun h0=>?_⟩
       obtain ⟨ad,ha,hk⟩:=hk h0
       refine ⟨ad,ha,fun k hkn j hj=>?_⟩
       obtain ⟨x,hx,h1,h2⟩:=hk k hkn j hj
       exact ⟨x,hx,h1,rel_le0 (hc k hkn j hj) h2⟩
     · exact h.elim
 | .ys d sz n c,b,H,E,v,h,hr=>by
   cases b<;>simp only [AV.le] at h<;>try exact h.elim
   · trivial
   · split at h
     · rename_i hb
       simp only [Nat.beq_eq] at hb
       subst hb
       obtain ⟨rfl,rfl,hc⟩:=h
       obtain ⟨a,cap,hu,hn,hk⟩:=hr
       refine ⟨a,cap,hu,hn,fun h0=>?_⟩
       obtain ⟨ad,ha,hk⟩:=hk h0
       refine ⟨ad,ha,fun k hkn j hj=>?_⟩
       obtain ⟨x,hx,h1,h2⟩:=hk k hkn j hj
       exact ⟨x,hx,h1,rel_le0 (hc k hkn j hj) h2⟩
     · exact h.elim
 | .yn d sz n c,b,H,E,v,h,hr=>by
   cases b<;>simp only [AV.le] at h<;>first | trivial | (rw [<- h];exact hr)
 | .ip d m c,b,H,E,v,h,hr=>by
   cases b<;>simp only [AV.le] at h<;>try exact h.elim
   · trivial
   · obtain ⟨rfl,hm,hc⟩:=h
     obtain ⟨ad,hu,hk⟩:=hr
     refine ⟨ad,hu,fun j hj=>?_⟩
     obtain ⟨x,hx,h1,h2⟩:=hk j (by omega)
     exact ⟨x,hx,h1,rel_le0 (hc j hj) h2⟩
 | .agg cs,b,H,E,v,h,hr=>by
   cases b<;>simp only [AV.le] at h<;>try exact h.elim
   · trivial
   · obtain ⟨vs,hu,h2⟩:=hr
     exact ⟨vs,hu,relL_le cs h h2⟩
 | .tup cs,b,H,E,v,h,hr=>by
   cases b<;>simp only [AV.le] at h<;>try exact h.elim
   · trivial
   · obtain ⟨vs,hu,h2⟩:=hr
     exact ⟨vs,hu,relL_le cs h h2⟩
 | .fn f x y,b,H,E,v,h,hr=>by
   cases b<;>simp only [AV.le] at h<;>try exact h.elim
   · trivial
   · split at h
     · rename_i hb
       have:=fnB_eq hb
       subst this
       obtain ⟨p,q,hu,h1,h2⟩:=hr
       exact ⟨p,q,hu,relL_le x h.1 h1,relL_le y h.2 h2⟩
     · exact h.elim
 | .ifc t a,b,H,E,v,h,hr=>by
   cases b<;>simp only [AV.le] at h<;>try exact h.elim
   · trivial
   · split at h
     · rename_i hb
       simp only [Nat.beq_eq] at hb
       subst hb
       obtain ⟨x,hu,h1⟩:=hr
       exact ⟨x,hu,rel_le a h h1⟩
     · exact h.elim
   · split at h
     · rename_i hb
       simp only [Bool.and_eq_true,Nat.beq_eq] at hb
       obtain ⟨rfl,hno⟩:=hb
       obtain ⟨rfl,h⟩:=h
       obtain ⟨x,hu,h1⟩:=hr
       exact ⟨fun _=>⟨x,hu,rel_le a h (Rel.noRef a hno h1)⟩,fun hb=>absurd hb (by decide)⟩
     · exact h.elim
 | .opt x t a,b,H,E,v,h,hr=>by
   cases b<;>simp only [AV.le] at h<;>try exact h.elim
   · split at h
     · subst h
       exact ⟨hr.2 rfl,rfl⟩
     · exact h.elim
   · trivial
   · split at h
     · rename_i hb
       simp only [Bool.and_eq_true,Nat.beq_eq] at hb
       obtain ⟨rfl,hno⟩:=hb
       obtain ⟨rfl,h⟩:=h
       obtain ⟨x,hu,h1⟩:=hr.1 rfl
       exact ⟨x,hu,rel_le a h (Rel.noRef a hno h1)⟩
     · exact h.elim
   · split at h
     · rename_i hb
       simp only [Nat.beq_eq] at hb
       subst hb
       obtain ⟨rfl,h⟩:=h
       exact ⟨fun hb=>by
        obtain ⟨x,hu,h1⟩:=hr.1 hb
        exact ⟨x,hu,rel_le a h h1⟩,hr.2⟩
     · exact h.elim
theorem relL_le:∀ (l:List AV) {r:List AV} {H:HH} {E:Env} {vs:List Value},leL l r->RelL l H E vs->RelL r H E vs
 | [],r,_,_,_,h,hr=>by
   cases r with
   | nil=>exact hr
   | cons _ _=>exact h.elim
 | a::as,r,_,_,_,h,hr=>by
   obtain ⟨v,q,hv,h1,h2⟩:=hr
   cases r with
   | nil=>exact h.elim
   | cons b bs =>
     have key:a.le b/\leL as bs->RelL (b::bs) _ _ _:=fun k=>⟨v,q,hv,rel_le a k.1 h1,relL_le as k.2 h2⟩
     cases b with
     | junk=>exact ⟨v,q,hv,trivial,relL_le as h h2⟩
     | _=>exact key h
end
def lstLe (sz n:Nat) (cs:List AV) (c':Nat->Nat->AV):Prop:=∀ k,k<n->∀ j,j<sz->le0 (get cs (k*sz+j)) (c' k j)/\noRef (c' k j)=true
def leafLe (a:AV):Tr->Prop
 | .av b=>noRef b=true/\a.le b
 | _=>False
mutual
def cloLe (rd:Nat->Blk):Tr->AV->Prop
 | .av b,a=>noRef b=true/\a.le b
 | .box ty sz cs,a=>(match a with
   | .ptr i 0 _ 0=>(match rd i with
     | .box ty' as=>(match Nat.beq ty ty' with | true=>cloLeL rd cs as | false=>False)
     | _=>False)
   | _=>False)
 | .row ty sz n c,a=>(match a with
   | .own i sz' 0 n'=>(match rd i with
     | .row ty' s2 m cap c0=>(match Nat.beq ty ty'&&Nat.beq sz sz'&&Nat.beq sz s2 with | true=>n=n'/\∀ k,k<n->∀ j,j<sz->leafLe (c0 k j) (c k j) | false=>False)
     | _=>False)
   | .s (.slice none 0 0)=>n=0
   | _=>False)
 | .frow ty sz n c,a=>(match a with
   | .own i sz' 0 n'=>(match rd i with
     | .row ty' s2 m cap c0=>(match Nat.beq ty ty'&&Nat.beq sz sz'&&Nat.beq sz s2 with | true=>n=n'/\contLe n sz c0 c | false=>False)
     | .lst ty' s2 m cap cs=>(match Nat.beq ty ty'&&Nat.beq sz sz'&&Nat.beq sz s2 with | true=>n=n'/\lstLe sz n cs c | false=>False)
     | _=>False)
   | .s (.slice none 0 0)=>n=0
   | _=>False)
def cloLeL (rd:Nat->Blk):List Tr->List AV->Prop
 | [],l=>(match l with | []=>True | _=>False)
 | t::ts,l=>(match l with | a::as=>cloLe rd t a/\cloLeL rd ts as | []=>False)
end
mutual
def cloIds (rd:Nat->Blk):Tr->AV->List Nat
 | .av _,_=>[]
 | .box _ _ cs,a=>(match a with
   | .ptr i _ _ _=>i::(match rd i with | .box _ as=>cloIdsL rd cs as | _=>[])
   | _=>[])
 | .row ..,a=>(match a with | .own i _ _ _=>[i] | _=>[])
 | .frow ..,a=>(match a with | .own i _ _ _=>[i] | _=>[])
def cloIdsL (rd:Nat->Blk):List Tr->List AV->List Nat
 | [],_=>[]
 | t::ts,l=>(match l with | a::as=>cloIds rd t a++cloIdsL rd ts as | []=>[])
end
theorem leafLe_ok {a:AV} {t:Tr} {H:HH} {hp:Nat->Option Obj} {E:Env} {v:Value} {S:Nat->Prop} (h:leafLe a t) (hr:Rel a H E v):TrOk H hp t v S:=by
 cases t with
 | av b=>exact Rel.noRef _ h.1 (rel_le _ h.2 hr)
 | _=>exact h.elim
def ofIds (E:Env) (L:List Nat) (b:Nat):Prop:=∃ j∈L,E.has j b
mutual
theorem clo_ok {H:HH} {E:Env} {w:World} {M:List Blk} (hC:Conc H E w M):∀ (t:Tr) {a:AV} {v:Value},cloLe (getM M) t a->(cloIds (getM M) t a).Nodup->Rel a H E v->TrOk H (fun b=>w.heap[b]?) t v (ofIds E (cloIds (getM M) t a))
 | .av b,a,v,h,_,hr=>Rel.noRef _ h.1 (rel_le _ h.2 hr)
 | .box ty sz cs,a,v,h,hn,hr=>by
   simp only [cloLe] at h
   split at h
   case h_2=>exact h.elim
   rename_i i s0
   split at h
   case h_2=>exact h.elim
   rename_i ty' as hg
   split at h
   case h_2=>exact h.elim
   rename_i ht
   have ht:=Nat.eq_of_beq_eq_true ht
   subst ht
   obtain ⟨hl,b,hb,rfl⟩:=hr
   have hB:=hC.blk i
   rw [hg] at hB
   obtain ⟨_,b',vs,h1,h2,h3,h4⟩:=hB
   rw [hb] at h1;cases h1
   simp only [cloIds,hg] at hn ⊢
   rw [List.nodup_cons] at hn
   refine ⟨b,vs,by simp,⟨i,by simp,hl,.inl hb⟩,h2,h3,?_⟩
   refine TrOkL.move (HH.le_refl _) cs (S:=ofIds E (cloIdsL (getM M) cs as)) ?_ (fun _ _=>rfl) (cloL_ok hC cs h hn.2 h4)
   rintro x ⟨j,hj,hx⟩
   refine ⟨⟨j,List.mem_cons_of_mem _ hj,hx⟩,?_⟩
   rintro rfl
   have:=hC.injH i j x ⟨hl,.inl hb⟩ hx
   subst this
   exact hn.1 hj
 | .row ty sz n c,a,v,h,hn,hr=>by
   simp only [cloLe] at h
   split at h
   · rename_i i sz' n'
     split at h
     case h_2=>exact h.elim
     rename_i ty' s2 m cap c0 hg
     split at h
     case h_2=>exact h.elim
     rename_i ht
     simp only [Bool.and_eq_true,Nat.beq_eq] at ht
     obtain ⟨⟨rfl,rfl⟩,rfl⟩:=ht
     obtain ⟨rfl,h⟩:=h
     obtain ⟨hl,hη,hm⟩:=hr
     have hB:=hC.blk i
     rw [hg] at hB
     obtain ⟨_,ha,hb,_,h1⟩:=hB
     refine ⟨E.κ i,by omega,hb,?_⟩
     cases hι:E.ι i with
     | none =>
       rw [hι] at hm h1
       exact .inl ⟨hm.2.1,h1,hm.2.2⟩
     | some b =>
       rw [hι] at hm h1
       obtain ⟨ad,rfl,had⟩:=hm
       obtain ⟨vs,h2,h3,h4,h5⟩:=h1
       have:=had.1 (.inl rfl)
       subst this
       refine .inr ⟨b,vs,by simp,⟨i,by simp [cloIds],hl,.inl hι⟩,h2,fun x hx=>h3 x ?_,h4,fun _ _ _=>False,fun _ _ _ hx=>hx.elim,fun _ _ _ _ _ hx=>hx.elim,fun k hk j hj=>?_⟩
       · have hle:n*sz<=m*sz:=Nat.mul_le_mul_right _ (by omega)
         exact List.mem_of_mem_take (i:=n*sz) (by rw [List.take_take,Nat.min_eq_left hle];exact hx)
       · obtain ⟨x,g1,g2⟩:=h5 k (by omega) j hj
         exact ⟨x,g1,leafLe_ok (h k hk j hj) g2⟩
   · subst h
     have hv:v=.slice none 0 0:=hr.1
     exact ⟨0,Nat.le_refl _,Nat.zero_le _,.inl ⟨rfl,rfl,hv⟩⟩
   · exact h.elim
 | .frow ty sz n c,a,v,h,hn,hr=>by
   simp only [cloLe] at h
   split at h
   · rename_i i sz' n'
     obtain ⟨hl,hη,hm⟩:=hr
     have hB:=hC.blk i
     split at h
     · rename_i ty' s2 m cap c0 hg
       split at h
       case h_2=>exact h.elim
       rename_i ht
       simp only [Bool.and_eq_true,Nat.beq_eq] at ht
       obtain ⟨⟨rfl,rfl⟩,rfl⟩:=ht
       obtain ⟨rfl,h⟩:=h
       rw [hg] at hB
       obtain ⟨_,ha,hb,_,h1⟩:=hB
       refine ⟨E.κ i,by omega,hb,?_⟩
       cases hι:E.ι i with
       | none =>
         rw [hι] at hm h1
         exact .inl ⟨hm.2.1,h1,hm.2.2⟩
       | some b =>
         rw [hι] at hm h1
         obtain ⟨ad,rfl,had⟩:=hm
         obtain ⟨vs,h2,h3,h4,h5⟩:=h1
         have:=had.1 (.inl rfl)
         subst this
         refine .inr ⟨b,vs,by simp,⟨i,by simp [cloIds],hl,.inl hι⟩,h2,fun x hx=>h3 x ?_,h4,fun k hk j hj=>?_⟩
         · have hle:n*sz<=m*sz:=Nat.mul_le_mul_right _ (by omega)
           exact List.mem_of_mem_take (i:=n*sz) (by rw [List.take_take,Nat.min_eq_left hle];exact hx)
         · obtain ⟨x,g1,g2⟩:=h5 k (by omega) j hj
           exact ⟨x,g1,rel_le0 (h k hk j hj) g2⟩
     · rename_i ty' s2 m cap cs hg
       split at h
       case h_2=>exact h.elim
       rename_i ht
       simp only [Bool.and_eq_true,Nat.beq_eq] at ht
       obtain ⟨⟨rfl,rfl⟩,rfl⟩:=ht
       obtain ⟨rfl,h⟩:=h
       rw [hg] at hB
       obtain ⟨_,ha,hb,_,h1⟩:=hB
       refine ⟨E.κ i,by omega,hb,?_⟩
       cases hι:E.ι i with
       | none =>
         rw [hι] at hm h1
         exact .inl ⟨hm.2.1,h1.1,hm.2.2⟩
       | some b =>
         rw [hι] at hm h1
         obtain ⟨ad,rfl,had⟩:=hm
         obtain ⟨vs,h2,h3,h4,h5⟩:=h1
         have:=had.1 (.inl rfl)
         subst this
         refine .inr ⟨b,vs,by simp,⟨i,by simp [cloIds],hl,.inl hι⟩,h2,fun x hx=>h3 x ?_,h4,fun k hk j hj=>?_⟩
         · have hle:n*sz<=m*sz:=Nat.mul_le_mul_right _ (by omega)
           exact List.mem_of_mem_take (i:=n*sz) (by rw [List.take_take,Nat.min_eq_left hle];exact hx)
         · have hlt:k*sz+j<n*sz:=by
            have:(k+1)*sz<=n*sz:=Nat.mul_le_mul_right _ hk
            rw [Nat.add_mul,Nat.one_mul] at this
            omega
           have hnm:n*sz<=m*sz:=Nat.mul_le_mul_right _ (by omega)
           have hk2:m*sz<=E.κ i*sz:=Nat.mul_le_mul_right _ ha.2
           have hsz:k*sz+j<vs.size:=by omega
           refine ⟨vs[k*sz+j],Array.getElem?_eq_getElem hsz,?_⟩
           obtain ⟨g1,g2⟩:=h k hk j hj
           refine Rel.noRef _ g2 (rel_le0 g1 (relL_get h5 (k*sz+j) vs[k*sz+j] ?_))
           rw [List.getElem?_take,if_pos (by omega)]
           simp [hsz]
     · exact h.elim
   · subst h
     have hv:v=.slice none 0 0:=hr.1
     exact ⟨0,Nat.le_refl _,Nat.zero_le _,.inl ⟨rfl,rfl,hv⟩⟩
   · exact h.elim
theorem cloL_ok {H:HH} {E:Env} {w:World} {M:List Blk} (hC:Conc H E w M):∀ (l:List Tr) {as:List AV} {vs:List Value},cloLeL (getM M) l as->(cloIdsL (getM M) l as).Nodup->RelL as H E vs->TrOkL H (fun b=>w.heap[b]?) l vs (ofIds E (cloIdsL (getM M) l as))
 | [],as,vs,h,_,hr=>by
   cases as with
   | nil=>exact hr
   | cons _ _=>exact h.elim
 | t::ts,as,vs,h,hn,hr=>by
   cases as with
   | nil=>exact h.elim
   | cons a as =>
     obtain ⟨v,r,rfl,h1,h2⟩:=hr
     simp only [cloIdsL] at hn ⊢
     rw [List.nodup_append] at hn
     refine ⟨v,r,_,_,rfl,?_,?_,?_,clo_ok hC t h.1 hn.1 h1,cloL_ok hC ts h.2 hn.2.1 h2⟩
     · rintro x ⟨j,hj,hx⟩;exact ⟨j,List.mem_append_left _ hj,hx⟩
     · rintro x ⟨j,hj,hx⟩;exact ⟨j,List.mem_append_right _ hj,hx⟩
     · rintro x ⟨j,hj,hx⟩ ⟨k,hk,hy⟩
       have:=hC.injH j k x hx hy
       exact hn.2.2 j hj k hk this
end
end Go.Ax
