import Derived.IntWalk
import Derived.Test.YtffkiommagljeaaGreatDoorE18
import Derived.Test.YtffkiommagljeaaGreatDoorE22
import Derived.Test.YtffkiommagljeaaGreatDoorE24
import Derived.Test.YtffkiommagljeaaGreatDoorE34
import Derived.Test.YtffkiommagljeaaGreatDoorE35
set_option linter.unusedVariables false
set_option linter.unusedSimpArgs false
set_option linter.unusedSectionVars false
namespace Go.Ax
open Go Go.Shelf
variable [Inhabited Gl0]
def insL (cs vs:List AV):Nat->List AV
 | 0=>vs++cs
 | p+1=>match cs with | []=>vs | c::r=>c::insL r vs p
def insBlk (ty:TypeId) (sz bytes n m i:Nat) (vs:List AV):Blk->Option Blk
 | .lst ty' s2 n' _ cs=>if ty'==ty&&s2==sz&&n'==n&&Nat.ble i n&&Nat.ble (n+m) 9223372036854775807&&Nat.ble ((n+m)*bytes) 140737488355328 then some (.lst ty sz (n+m) none (insL cs vs (i*sz))) else none
 | _=>none
def insSrc (sz:Nat) (M:List Blk):AV->Option (Nat×Nat×List AV)
 | .own b s1 lo m=>if s1==sz then (match getM M b with
   | .lst _ s2 n _ cs=>if s2==sz&&Nat.ble (lo+m) n&&allOne (takeL cs (lo*sz) (m*sz)) then some (b,m,takeL cs (lo*sz) (m*sz)) else none
   | _=>none) else none
 | _=>none
def insCt (ty:TypeId) (sz bytes:Nat) (args:List AV) (M:List Blk):Option Ans :=
 match args with
 | [s,.s (.int .i64 (.ofNat i)),v]=>(match insSrc sz M v with
   | some (b,m+1,vs)=>(match s with
     | .own a s1 0 n=>if s1==sz&&!Nat.beq a b then (match insBlk ty sz bytes n (m+1) i vs (getM M a) with
       | some B=>some (.own a sz 0 (n+(m+1)),killM [a] (putM M a B),[a],[])
       | none=>none) else none
     | .s (.slice none 0 0)=>(match insBlk ty sz bytes 0 (m+1) i vs (.lst ty sz 0 none []) with
       | some B=>some (.own (len M) sz 0 (0+(m+1)),putM M (len M) B,[],[])
       | none=>none)
     | _=>none)
   | _=>none)
 | _=>none
theorem relL_insL {H:HH} {E:Env}:∀ {cs vs:List AV} {xs news:List Value} (p:Nat),RelL cs H E xs->RelL vs H E news->RelL (insL cs vs p) H E (xs.take p++news++xs.drop p)
 | cs,vs,xs,news,0,h,k=>by simpa [insL] using relL_append k h
 | [],vs,xs,news,p+1,h,k=>by
   have h:xs=[]:=h
   subst h
   simpa [insL] using k
 | c::cs,vs,xs,news,p+1,h,k=>by
   obtain ⟨v,r,rfl,h1,h2⟩:=h
   exact ⟨v,_,by simp,h1,relL_insL p h2 k⟩
theorem relL_sub {H:HH} {E:Env} {cs:List AV} {vs:List Value} {o n:Nat} (h:RelL cs H E vs) (hl:o+n<=cs.length):RelL (takeL cs o n) H E ((vs.drop o).take n):=by
 have hh:=RelL.length h
 refine relL_mk (by rw [length_takeL];simp;omega) fun j u hu=>?_
 rw [List.getElem?_take] at hu
 split at hu
 · rename_i hj
   rw [get_takeL _ _ _ _ hj]
   rw [List.getElem?_drop] at hu
   exact relL_get h _ _ hu
 · cases hu
theorem insSrc_ok {H:HH} {E:Env} {w:World} {M:List Blk} {sz b m:Nat} {va:AV} {v:Value} {vs:List AV} (hC:Conc H E w M) (hv:Rel va H E v) (h:insSrc sz M va=some (b,m+1,vs)) :
 E.lv b=true/\∃ g off c vcur tA news,E.ι b=some g/\v=.slice (some ⟨g,off,none⟩) (m+1) c/\w.heap[g]? = some (.cells vcur tA (0,0))/\news.length=(m+1)*sz/\(∀ j u,news[j]? = some u->vcur[off+j]? = some u)/\RelL vs H E news/\ones news:=by
 unfold insSrc at h
 split at h
 case h_2=>cases h
 rename_i b' s1 lo m'
 split at h
 case isFalse=>cases h
 rename_i hs
 have hs:s1=sz:=by simpa using hs
 subst hs
 split at h
 case h_2=>cases h
 rename_i ty s2 n cap cs hg
 split at h
 case isFalse=>cases h
 rename_i hb
 simp only [Bool.and_eq_true,beq_iff_eq,Nat.ble_eq] at hb
 obtain ⟨⟨rfl,hlm⟩,ha⟩:=hb
 cases h
 obtain ⟨hlv,hκ,hm⟩:=hv
 have hB:=hC.blk b
 rw [hg] at hB
 obtain ⟨_,hmκ,_,_,hm2⟩:=hB
 refine ⟨hlv,?_⟩
 cases hι:E.ι b with
 | none=>rw [hι] at hm;obtain ⟨_,h0,_⟩:=hm;cases h0
 | some g =>
   rw [hι] at hm hm2
   obtain ⟨A,rfl,hA⟩:=hm
   obtain ⟨cur,h1,h2,h3,h4⟩:=hm2
   have hle:(lo+(m+1))*s2<=n*s2:=Nat.mul_le_mul_right _ hlm
   rw [Nat.add_mul] at hle
   have hsz:n*s2<=E.κ b*s2:=Nat.mul_le_mul_right _ hmκ.2
   have hcl:=RelL.length h4
   rw [List.length_take,Array.length_toList] at hcl
   have hr:=relL_sub (o:=lo*s2) (n:=(m+1)*s2) h4 (by omega)
   rw [hA.1 (.inr (Nat.succ_pos _))]
   refine ⟨g,lo*s2,_,cur,ty,_,rfl,rfl,h1,?_,fun j u hu=>?_,hr,ones_of ha hr⟩
   · rw [List.length_take,List.length_drop,List.length_take,Array.length_toList];omega
   · rw [List.getElem?_take] at hu
     split at hu
     · rw [List.getElem?_drop,List.getElem?_take] at hu
       split at hu
       · simpa using hu
       · cases hu
     · cases hu
theorem insCt_ok {P:Program} {ρ:Ren} {sz bytes:Nat} {zv:Value} {nm:String} (L:InsLay P ρ sz bytes zv nm) {args:List AV} {M M':List Blk} {r:AV} {mv:List Nat} {ob:List Prop} (h:insCt (ρ.t 9) sz bytes args M=some (r,M',mv,ob)):ACall P (ρ.f 22) args M r M' mv:=by
 obtain ⟨i0,hi0,hz0,hs0,hb0⟩:=info_parts L.i9
 intro H E w vals hC hargs
 unfold insCt at h
 split at h
 case h_2=>cases h
 rename_i sa i va
 obtain ⟨s,l1,e1,hs,iv,l2,e2,hiv,v,l3,e3,hv,e4⟩:=hargs
 have e4:l3=[]:=e4
 subst e4;subst e3;subst e2
 obtain ⟨rfl,_⟩:=hiv
 have hvals:vals=#[s,.int .i64 i,v]:=Array.ext' e1
 subst hvals
 split at h
 case h_2=>cases h
 rename_i b m vs hsrc
 obtain ⟨hlb,g,off,c,vcur,tA,news,hbg,rfl,hvh,hvl,hvs,hvr,hv1⟩:=insSrc_ok hC hv hsrc
 have hm63:maxLen=9223372036854775807:=rfl
 split at h
 · rename_i a s1 n
   split at h
   case isFalse=>cases h
   rename_i hab
   simp only [Bool.and_eq_true,beq_iff_eq,Bool.not_eq_true'] at hab
   obtain ⟨rfl,hab⟩:=hab
   have hne:a≠b:=fun e=>by subst e;rw [Nat.beq_refl] at hab;cases hab
   split at h
   case h_2=>cases h
   rename_i B hB
   cases h
   unfold insBlk at hB
   split at hB
   case h_2=>cases hB
   rename_i ty' s2 n' cap cs hg
   split at hB
   case isFalse=>cases hB
   rename_i hq
   simp only [Bool.and_eq_true,beq_iff_eq,Nat.ble_eq] at hq
   obtain ⟨⟨⟨⟨⟨rfl,rfl⟩,rfl⟩,hin⟩,hn63⟩,hnb⟩:=hq
   cases hB
   obtain ⟨hlv,hκ,hm⟩:=hs
   have hBk:=hC.blk a
   rw [hg] at hBk
   obtain ⟨_,hmκ,hκm,_,hm2⟩:=hBk
   have hown:∃ xs,w.ownsRow 0 (ρ.t 9) s2 s n' xs/\s.ownBlock=E.ι a/\ones xs/\RelL cs H E xs:=by
    cases hι:E.ι a with
    | none =>
      rw [hι] at hm hm2
      obtain ⟨_,rfl,rfl⟩:=hm
      obtain ⟨_,rfl⟩:=hm2
      exact ⟨[],⟨by simp,.inl ⟨rfl,rfl⟩⟩,rfl,fun x hx=>(by cases hx),rfl⟩
    | some g' =>
      rw [hι] at hm hm2
      obtain ⟨ad,rfl,had⟩:=hm
      obtain ⟨cur,h1,h2,h3,h4⟩:=hm2
      rw [had.1 (.inl rfl)]
      have hle:n'*s2<=E.κ a*s2:=Nat.mul_le_mul_right _ hmκ.2
      exact ⟨_,⟨by simp;omega,.inr ⟨g',E.κ a,cur,by simp,Nat.zero_le _,h1,by omega,hκm,h3,rfl⟩⟩,rfl,h2,h4⟩
   obtain ⟨xs,hown,hob,hxs,hxr⟩:=hown
   refine (insert_run L hi0 hz0 hs0 hb0 (vc:=c) (i:=i) hown hin (Nat.succ_pos m) (by rw [hob];exact fun e=>hne (hC.inj a b g hlv hlb e hbg)) hvh hvl hvs hxs hv1 (by omega) hnb).mono ?_
   rintro e w' ⟨v',rfl,hown',hgrow,hat⟩
   obtain ⟨bo,κ,hbo,hnκ,hκm',hv',hblk,hbn⟩:=owns_form hown'
   rw [hob] at hgrow hat
   obtain ⟨e1,e2,e3,e4⟩:=E.set_same a bo κ (n'+(m+1))
   have hvia:E.via (E.set a bo κ (n'+(m+1))) (keepOf [a]):=by
    intro p q hpq hlp
    unfold keepOf at hpq
    split at hpq
    · cases hpq
    · rename_i hn
      cases hpq
      obtain ⟨f1,f2,f3⟩:=E.set_ne a p bo κ (n'+(m+1)) (by simpa using hn)
      exact ⟨f1.trans hlp,f2,f3⟩
   have hcont:Cont H E s2 (n'+(m+1)) (ρ.t 9) (.lst (ρ.t 9) s2 (n'+(m+1)) none (insL cs vs (i*s2))) (xs.take (i*s2)++news++xs.drop (i*s2)):=⟨rfl,rfl,rfl,relL_insL _ hxr hvr⟩
   have hB:BlkOk H (E.set a bo κ (n'+(m+1))) w' a (renB (keepOf [a]) (.lst (ρ.t 9) s2 (n'+(m+1)) none (insL cs vs (i*s2)))):=by
    refine cont_blk (cont_ren hvia hcont) rfl e1 (by rw [e3,e4];exact ⟨rfl,hnκ⟩) (by rw [e3];exact hκm') (fun y hy=>?_) (by rw [e2,e3];exact hblk)
    rcases List.mem_append.1 hy with hy | hy
    · rcases List.mem_append.1 hy with hy | hy
      · exact hxs y (List.mem_of_mem_take hy)
      · exact hv1 y hy
    · exact hxs y (List.mem_of_mem_drop hy)
   obtain ⟨hconc,hev⟩:=hC.move hlv hgrow (bo':=bo) (κ':=κ) (η':=n'+(m+1)) (fun g hg=>by
    rw [hbo,hg] at hat
    rcases hat with h | h
    · exact .inl h.symm
    · cases h;exact .inr (Nat.le_refl _)) hB
   refine ⟨v',H,E.set a bo κ (n'+(m+1)),rfl,⟨e1,by rw [e3,e4];omega,?_⟩,hconc,hev⟩
   rw [e2,e3]
   cases bo with
   | none=>exact ⟨rfl,by have:=hbn rfl;omega,hv'⟩
   | some b=>exact ⟨_,hv',⟨fun _=>by simp,by simp⟩⟩
 · obtain ⟨rfl,_⟩:=hs
   split at h
   case h_2=>cases h
   rename_i B hB
   cases h
   simp only [insBlk] at hB
   split at hB
   case isFalse=>cases hB
   rename_i hq
   simp only [Bool.and_eq_true,beq_iff_eq,Nat.ble_eq] at hq
   obtain ⟨⟨⟨⟨_,_⟩,hin⟩,hn63⟩,hnb⟩:=hq
   have hi00:i=0:=by omega
   subst hi00
   cases hB
   have hd:getM M (len M)=.dead:=getM_len _ _ (Nat.le_refl _)
   refine (insert_run L hi0 hz0 hs0 hb0 (vc:=c) (i:=0) (World.ownsRow_nil w 0 (ρ.t 9) sz) (Nat.le_refl _) (Nat.succ_pos m) (by simp [Value.ownBlock]) hvh hvl hvs (fun x hx=>(by cases hx)) hv1 (by omega) hnb).mono ?_
   rintro e w' ⟨v',rfl,hown',hgrow,hat⟩
   obtain ⟨bo,κ,hbo,hnκ,hκm',hv',hblk,hbn⟩:=owns_form hown'
   obtain ⟨e1,e2,e3,e4⟩:=E.set_same (len M) bo κ (0+(m+1))
   have hcont:Cont H E sz (0+(m+1)) (ρ.t 9) (.lst (ρ.t 9) sz (0+(m+1)) none (insL [] vs (0*sz))) (([]:List Value).take (0*sz)++news++([]:List Value).drop (0*sz)):=⟨rfl,rfl,rfl,relL_insL (cs:=[]) _ rfl hvr⟩
   have hB:BlkOk H (E.set (len M) bo κ (0+(m+1))) w' (len M) (.lst (ρ.t 9) sz (0+(m+1)) none (insL [] vs (0*sz))):=by
    have hc3:=cont_ren (set_via (bo:=bo) (κ:=κ) (η:=0+(m+1)) hC hd) hcont
    rw [renB_some] at hc3
    refine cont_blk hc3 rfl e1 (by rw [e3,e4];exact ⟨rfl,hnκ⟩) (by rw [e3];exact hκm') (fun y hy=>hv1 y (by simpa using hy)) (by rw [e2,e3];exact hblk)
   obtain ⟨hconc,hev⟩:=hC.new (bo:=bo) (κ:=κ) (η:=0+(m+1)) hd hgrow.os hgrow.tape hgrow.output hgrow.size (fun b hb=>hgrow.block b hb (by simp [Value.ownBlock])) (fun b hb=>by
    rw [hbo,hb] at hat
    rcases hat with h | h
    · simp [Value.ownBlock] at h
    · cases h;exact Nat.le_refl _) hB
   refine ⟨v',H,E.set (len M) bo κ (0+(m+1)),rfl,⟨e1,by rw [e3,e4];omega,?_⟩,hconc,hev⟩
   rw [e2,e3]
   cases bo with
   | none=>exact ⟨rfl,by have:=hbn rfl;omega,hv'⟩
   | some b=>exact ⟨some ⟨b,0,none⟩,by rw [hv'];simp,⟨fun _=>by simp,by simp⟩⟩
 · cases h
end Go.Ax

namespace Go.Ax
open Go
variable [Inhabited Gl0]
theorem veq_refl (a:Value):veq a a:=by
 unfold veq
 split<;>simp_all [kindB]
@[simp] theorem le0_refl (a:AV):le0 a a:=by
 unfold le0
 split<;>first | (simp_all [veq_refl,sameC];done) | (rename_i h;cases h;first | exact veq_refl _ | simp [sameC] | simp [veq_refl]) | trivial
@[simp] theorem contLe_refl (n sz:Nat) (c:Nat->Nat->AV):contLe n sz c c:=fun _ _ _ _=>le0_refl _
@[simp] theorem cellLe_refl (n:Nat) (c:Nat->AV):cellLe n c c:=fun _ _=>le0_refl _
@[simp] theorem contLe_zero (sz:Nat) (c c':Nat->Nat->AV):contLe 0 sz c c':=fun _ h=>absurd h (Nat.not_lt_zero _)
@[simp] theorem sameC_refl (n sz:Nat) (c:Nat->Nat->AV):sameC n sz c c:=fun _ _ _ _=>rfl
@[simp] theorem le0_yy (v u:Value):le0 (.y v) (.y u)=veq v u:=rfl
@[simp] theorem le0_sy (v u:Value):le0 (.s v) (.y u)=veq v u:=rfl
@[simp] theorem le0_ys (v u:Value):le0 (.y v) (.s u)=veq v u:=rfl
@[simp] theorem le0_ss (v u:Value):le0 (.s v) (.s u)=veq v u:=rfl
@[simp] theorem le0_isy (t:TypeId) (v u:Value):le0 (.ifc t (.s v)) (.ifc t (.y u))=veq v u:=by simp [le0]
@[simp] theorem le0_iyy (t:TypeId) (v u:Value):le0 (.ifc t (.y v)) (.ifc t (.y u))=veq v u:=by simp [le0]
@[simp] theorem veq_int (k:IntKind) (a b:Int):veq (.int k a) (.int k b)=(a=b):=by simp [veq,kindB]
@[simp] theorem veq_bool (a b:Bool):veq (.bool a) (.bool b)=(a=b):=rfl
@[simp] theorem veq_string (a b:ByteArray):veq (.string a) (.string b)=(a=b):=rfl
@[simp] theorem get_zero (a:AV) (l:List AV):get (a::l) 0=a:=rfl
@[simp] theorem get_succ (a:AV) (l:List AV) (n:Nat):get (a::l) (n+1)=get l n:=rfl
@[simp] theorem appRow_zero (c d:Nat->Nat->AV):appRow 0 c d=d:=by funext k j;simp [appRow]
@[simp] theorem rowAt_zero (c:Nat->Nat->AV):rowAt 0 c=c:=rfl
@[simp] theorem cellLe_one {c c':Nat->AV}:cellLe 1 c c'↔le0 (c 0) (c' 0):=by
 constructor
 · intro h
   exact h 0 (by omega)
 · intro h j hj
   have e:j=0:=by omega
   rw [e]
   exact h
theorem wrap_i64 {n:Int} (h1:-9223372036854775808<=n) (h2:n<=9223372036854775807):IntKind.wrap IntKind.i64 n=n:=IntWalk.i64_in _ (by omega)
def ctrVC (P:Program) (ht:HintsT P) (f:Nat) (args:List AV) (M:List Blk) (t:T An):Prop :=
 (inlT P (ecodeT P ht 300) f args M).post fun a=>t.post fun b=>anLe a b
theorem ctr_vc {P:Program} (hm:P.follows .mixedOrders=true) {ht:HintsT P} {f:Nat} {args:List AV} {M:List Blk} {t:T An} (hd:t.det=true) (h:ctrVC P ht f args M t):t.Sat (ACall' P f args M):=ctr_of hm ht 300 hd h
@[simp] theorem le0_junk (a:AV):le0 a .junk:=by cases a<;>first | trivial | (rename_i v;cases v<;>trivial)
def op1 (f r p:Nat) (h:Hint) (els:FuncId->Nat->Nat->Option Hint):FuncId->Nat->Nat->Option Hint:=fun f' r' p'=>match Nat.beq f f'&&Nat.beq r r'&&Nat.beq p p' with | true=>some h | false=>els f' r' p'
def noOp:FuncId->Nat->Nat->Option Hint:=fun _ _ _=>none
def sh1 (f r p h:Nat) (els:FuncId->Nat->Nat->Nat):FuncId->Nat->Nat->Nat:=fun f' r' p'=>match Nat.beq f f'&&Nat.beq r r'&&Nat.beq p p' with | true=>h | false=>els f' r' p'
def noSh:FuncId->Nat->Nat->Nat:=fun _ _ _=>0
def withSh {P:Program} (h:HintsT P) (sh:FuncId->Nat->Nat->Nat):HintsT P:={ h with sp:=fun f r=>spX P (sh f r),spOk:=fun _ _=>spX_ok P _ }
def hh (P:Program) (lp:FuncId->Nat->St->Option Job) (cs:FuncId->Nat->Nat->List AV->List Blk->Option (Ctr P)) (op:FuncId->Nat->Nat->Option Hint):HintsT P:={ hT P with lp:=lp,cs:=cs,op:=op }
end Go.Ax

namespace Go.Ax
variable [Inhabited Gl0]
set_option maxRecDepth 1000000
instance glNone:Inhabited Gl0:=⟨⟨[]⟩⟩
end Go.Ax

namespace Go.Ax
open Go
variable [Inhabited Gl0]
structure Memo (P:Program) where
 g:FuncId
 args:List AV
 m:List Blk
 r:AV
 m':List Blk
 mv:List Nat
 ok:ACall P g args m r m' mv
def isRet (r:AV) (m':List Blk) (mv:List Nat):T An->Bool
 | .ret a=>eqA a.1 r&&eqM a.2.1 m'&&eqNs a.2.2 mv
 | .ite b y n=>match b with | true=>isRet r m' mv y | false=>isRet r m' mv n
 | _=>false
theorem isRet_ok {P:Program} {g:FuncId} {args:List AV} {m:List Blk} {r:AV} {m':List Blk} {mv:List Nat}:∀ {t:T An},isRet r m' mv t=true->t.Sat (ACall' P g args m)->ACall P g args m r m' mv
 | .ret a,h,hs=>by
   simp only [isRet,Bool.and_eq_true] at h
   obtain ⟨x,h1,h2⟩:=hs (fun x=>x=a) rfl
   subst h2
   obtain ⟨x1,x2,x3⟩:=x
   obtain ⟨⟨q1,q2⟩,q3⟩:=h
   have q1:=eqA_ok q1
   have q2:=eqM_ok q2
   have q3:=eqNs_ok q3
   simp only at q1 q2 q3
   subst q1;subst q2;subst q3
   exact h1
 | .ite true y n,h,hs=>isRet_ok (t:=y) h fun Q hq=>hs Q ⟨fun _=>hq,fun e=>by cases e⟩
 | .ite false y n,h,hs=>isRet_ok (t:=n) h fun Q hq=>hs Q ⟨fun e=>(by cases e),fun _=>hq⟩
 | .need ..,h,_=>by simp [isRet] at h
 | .both ..,h,_=>by simp [isRet] at h
 | .hyp ..,h,_=>by simp [isRet] at h
 | .all ..,h,_=>by simp [isRet] at h
 | .fail,h,_=>by simp [isRet] at h
theorem memo_of {P:Program} (hm:P.follows .mixedOrders=true) {ht:HintsT P} (n:Nat) {g:FuncId} {args:List AV} {m:List Blk} {r:AV} {m':List Blk} {mv:List Nat} (h:isRet r m' mv (inlG P ht.gc (ecodeT P ht n) g args m)=true):ACall P g args m r m' mv :=
 isRet_ok h (inlG_ok (ecodeT_ok hm n))
def memoIn {P:Program}:List (Memo P)->FuncId->List AV->List Blk->Option (T An)
 | [],_,_,_=>none
 | c::l,g,args,M=>match Nat.beq c.g g&&eqAs c.args args&&eqM c.m M with
   | true=>some (.ret (c.r,c.m',c.mv))
   | false=>memoIn l g args M
theorem memoIn_ok {P:Program}:∀ {l:List (Memo P)} {g:FuncId} {args:List AV} {M:List Blk} {t:T An},memoIn l g args M=some t->t.Sat (ACall' P g args M)
 | [],_,_,_,_,h=>by cases h
 | c::l,g,args,M,t,h=>by
   simp only [memoIn] at h
   split at h
   · rename_i hc
     simp only [Bool.and_eq_true] at hc
     obtain ⟨⟨h1,h2⟩,h3⟩:=hc
     have h1:=nb h1
     have h2:=eqAs_ok h2
     have h3:=eqM_ok h3
     subst h1;subst h2;subst h3
     cases h
     exact T.Sat.ret c.ok
   · exact memoIn_ok h
def withInsC {P:Program} {ρ:Go.Shelf.Ren} {sz bytes:Nat} {zv:Value} {nm:String} (h:HintsT P) (L:InsLay P ρ sz bytes zv nm):HintsT P :=
 { h with
  ct:=fun g args M=>match Nat.beq g (ρ.f 22) with
   | true=>(match insCt (ρ.t 9) sz bytes args M with
     | some (r,M',mv,_)=>some (.ret (r,M',mv))
     | none=>h.ct g args M)
   | false=>h.ct g args M
  ctOk:=fun g args M t e=>by
   split at e
   · rename_i hg
     split at e
     · rename_i r M' mv ob hi
       cases e
       rw [Nat.eq_of_beq_eq_true hg]
       exact T.Sat.ret (insCt_ok L hi)
     · exact h.ctOk _ _ _ _ e
   · exact h.ctOk _ _ _ _ e }
def closedH (P:Program) (sh:FuncId->Nat->Nat->Nat):HintsT P:={ withSh (hT P) sh with sub:=fun _=>true,gc:=true }
structure ClnLay (P:Program) (F:FuncId) (ty sz:Nat):Prop where
 s:ACall P F [.ys false sz 0 fun _ _=>.junk] [] (.own 0 sz 0 0) [.lst ty sz 0 none []] []
def clnCt (ty sz:Nat) (args:List AV) (M:List Blk):Option An:=match args with
 | [.own i s2 _ 0]=>(match getM M i with
   | .lst _ s3 0 _ []=>(match Nat.beq s2 sz&&Nat.beq s3 sz with
     | true=>some (.own (len M) sz 0 0,putM M (len M) (.lst ty sz 0 none []),[])
     | false=>none)
   | _=>none)
 | _=>none
theorem clnCt_ok {P:Program} {F:FuncId} {ty sz:Nat} (L:ClnLay P F ty sz) {args:List AV} {M:List Blk} {a:An} (h:clnCt ty sz args M=some a):ACall' P F args M a:=by
 unfold clnCt at h
 split at h
 case h_2=>cases h
 rename_i i s2 lo
 split at h
 case h_2=>cases h
 rename_i t2 s3 cap hg
 split at h
 case h_2=>cases h
 rename_i hb
 simp only [Bool.and_eq_true,Nat.beq_eq] at hb
 obtain ⟨rfl,rfl⟩:=hb
 cases h
 have hd:=ACall.direct (M:=M) (nid:=len M) (n:=0) (rd:=fun _=>.dead) (args:=[.ys false s3 0 fun _ _=>.junk]) L.s rfl (fun k hk=>getM_len _ _ (by omega))
 have e1:ren (shift (len M)) (.own 0 s3 0 0)=.own (len M) s3 0 0:=by
  show AV.own (0+len M) s3 0 0=_
  rw [Nat.zero_add]
 rw [e1] at hd
 intro H E w vals hC hargs
 refine hd H E w vals hC ?_
 obtain ⟨v,r,hv,⟨_,_,hm⟩,hr⟩:=hargs
 refine ⟨v,r,hv,?_,hr⟩
 cases hi:E.ι i with
 | none =>
   rw [hi] at hm
   obtain ⟨_,_,rfl⟩:=hm
   exact ⟨none,0,rfl,⟨Nat.le_refl _,fun _=>rfl⟩,fun h=>absurd h (Nat.lt_irrefl 0)⟩
 | some b =>
   rw [hi] at hm
   obtain ⟨ad,rfl,had⟩:=hm
   exact ⟨ad,_,rfl,⟨Nat.zero_le _,fun h=>absurd h had.2⟩,fun h=>absurd h (Nat.lt_irrefl 0)⟩
def withCln {P:Program} {F:FuncId} {ty sz:Nat} (h:HintsT P) (L:ClnLay P F ty sz):HintsT P :=
 { h with
  ct:=fun g args M=>match Nat.beq g F with
   | true=>(match clnCt ty sz args M with
     | some a=>some (.ret a)
     | none=>h.ct g args M)
   | false=>h.ct g args M
  ctOk:=fun g args M t e=>by
   split at e
   · rename_i hg
     split at e
     · rename_i a ha
       cases e
       have hg:=Nat.eq_of_beq_eq_true hg
       subst hg
       exact T.Sat.ret (clnCt_ok L ha)
     · exact h.ctOk g args M t e
   · exact h.ctOk g args M t e }
def ctrVCg (P:Program) (ht:HintsT P) (f:Nat) (args:List AV) (M:List Blk) (t:T An):Prop :=
 (inlG P true (ecodeT P ht 300) f args M).post fun a=>t.post fun b=>anLe a b
theorem ctr_vcg {P:Program} (hm:P.follows .mixedOrders=true) {ht:HintsT P} {f:Nat} {args:List AV} {M:List Blk} {t:T An} (hd:t.det=true) (h:ctrVCg P ht f args M t):t.Sat (ACall' P f args M) :=
 (inlG_ok (ecodeT_ok hm 300)).of_post hd (fun _ _=>anLe_ok) h
end Go.Ax
