import Derived.IntWalk
import Derived.ProofKit
import Derived.ReadAgain
import Derived.SizedLaws
import Derived.Below
import Derived.Test.YtnbhdjadlbhknaaGreatDoorE7
import Derived.Test.YtnbhdjadlbhknaaGreatDoorE8
import Derived.Test.YtnbhdjadlbhknaaGreatDoorE11
set_option linter.unusedVariables false
set_option linter.unusedSimpArgs false
set_option linter.unusedSectionVars false
namespace Go.Ax
open Go Go.Shelf
variable [Inhabited jZ]
def Fq (cs vs:List AV):Nat->List AV
 | 0=>vs++cs
 | p+1=>match cs with | []=>vs | c::r=>c::Fq r vs p
def Eo (ty:TypeId) (sz bytes n m i:Nat) (vs:List AV):ay->Option ay
 | .lst ty' s2 n' _ cs=>if ty'==ty&&s2==sz&&n'==n&&Nat.ble i n&&Nat.ble (n+m) 9223372036854775807&&Nat.ble ((n+m)*bytes) 140737488355328 then some (.lst ty sz (n+m) none (Fq cs vs (i*sz))) else none
 | _=>none
def ES (sz:Nat) (M:List ay):AV->Option (Nat×Nat×List AV)
 | .own b s1 lo m=>if s1==sz then (match getM M b with
   | .lst _ s2 n _ cs=>if s2==sz&&Nat.ble (lo+m) n&&nO (kL cs (lo*sz) (m*sz)) then some (b,m,kL cs (lo*sz) (m*sz)) else none
   | _=>none) else none
 | _=>none
def RA (ty:TypeId) (sz bytes:Nat) (args:List AV) (M:List ay):Option Ans :=
 match args with
 | [s,.s (.int .i64 (.ofNat i)),v]=>(match ES sz M v with
   | some (b,m+1,vs)=>(match s with
     | .own a s1 0 n=>if s1==sz&&!Nat.beq a b then (match Eo ty sz bytes n (m+1) i vs (getM M a) with
       | some B=>some (.own a sz 0 (n+(m+1)),dN [a] (iH M a B),[a],[])
       | none=>none) else none
     | .s (.slice none 0 0)=>(match Eo ty sz bytes 0 (m+1) i vs (.lst ty sz 0 none []) with
       | some B=>some (.own (len M) sz 0 (0+(m+1)),iH M (len M) B,[],[])
       | none=>none)
     | _=>none)
   | _=>none)
 | _=>none
theorem xI {H:HH} {E:Env}:∀ {cs vs:List AV} {xs news:List Value} (p:Nat),aA cs H E xs->aA vs H E news->aA (Fq cs vs p) H E (xs.take p++news++xs.drop p)
 | cs,vs,xs,news,0,h,k=>by simpa [Fq] using fG k h
 | [],vs,xs,news,p+1,h,k=>by
   have h:xs=[]:=h
   subst h
   simpa [Fq] using k
 | c::cs,vs,xs,news,p+1,h,k=>by
   obtain ⟨v,r,rfl,h1,h2⟩:=h
   exact ⟨v,_,by simp,h1,xI p h2 k⟩
theorem Vg {H:HH} {E:Env} {cs:List AV} {vs:List Value} {o n:Nat} (h:aA cs H E vs) (hl:o+n<=cs.length):aA (kL cs o n) H E ((vs.drop o).take n):=by
 have hh:=aA.length h
 refine gB (by rw [gu];simp;omega) fun j u hu=>?_
 rw [List.getElem?_take] at hu
 split at hu
 · rename_i hj
   rw [jy _ _ _ _ hj]
   rw [List.getElem?_drop] at hu
   exact bn h _ _ hu
 · cases hu
theorem DW {H:HH} {E:Env} {w:World} {M:List ay} {sz b m:Nat} {va:AV} {v:Value} {vs:List AV} (hC:Conc H E w M) (hv:Rel va H E v) (h:ES sz M va=some (b,m+1,vs)) :
 E.lv b=true/\∃ g off c vcur tA news,E.ι b=some g/\v=.slice (some ⟨g,off,none⟩) (m+1) c/\w.heap[g]? = some (.cells vcur tA (0,0))/\news.length=(m+1)*sz/\(∀ j u,news[j]? = some u->vcur[off+j]? = some u)/\aA vs H E news/\ones news:=by
 unfold ES at h
 split at h
 case h_2=>cases h
 rename_i b' s1 lo m'
 split at h
 case isFalse=>cases h
 rename_i hs
 have hs:s1=sz:=by simpa using hs
 subst hs
 split at h
 case h_2=>cases h
 rename_i ty s2 n cap cs hg
 split at h
 case isFalse=>cases h
 rename_i hb
 simp only [Bool.and_eq_true,beq_iff_eq,Nat.ble_eq] at hb
 obtain ⟨⟨rfl,hlm⟩,ha⟩:=hb
 cases h
 obtain ⟨hlv,hκ,hm⟩:=hv
 have hB:=hC.blk b
 rw [hg] at hB
 obtain ⟨_,hmκ,_,_,hm2⟩:=hB
 refine ⟨hlv,?_⟩
 cases hι:E.ι b with
 | none=>rw [hι] at hm;obtain ⟨_,h0,_⟩:=hm;cases h0
 | some g =>
   rw [hι] at hm hm2
   obtain ⟨A,rfl,hA⟩:=hm
   obtain ⟨cur,h1,h2,h3,h4⟩:=hm2
   have hle:(lo+(m+1))*s2<=n*s2:=Nat.mul_le_mul_right _ hlm
   rw [Nat.add_mul] at hle
   have hsz:n*s2<=E.κ b*s2:=Nat.mul_le_mul_right _ hmκ.2
   have hcl:=aA.length h4
   rw [List.length_take,Array.length_toList] at hcl
   have hr:=Vg (o:=lo*s2) (n:=(m+1)*s2) h4 (by omega)
   rw [hA.1 (.inr (Nat.succ_pos _))]
   refine ⟨g,lo*s2,_,cur,ty,_,rfl,rfl,h1,?_,fun j u hu=>?_,hr,FQ ha hr⟩
   · rw [List.length_take,List.length_drop,List.length_take,Array.length_toList];omega
   · rw [List.getElem?_take] at hu
     split at hu
     · rw [List.getElem?_drop,List.getElem?_take] at hu
       split at hu
       · simpa using hu
       · cases hu
     · cases hu
theorem U7 {P:Program} {ρ:Ren} {sz bytes:Nat} {zv:Value} {nm:String} (L:nD P ρ sz bytes zv nm) {args:List AV} {M M':List ay} {r:AV} {mv:List Nat} {ob:List Prop} (h:RA (ρ.t 9) sz bytes args M=some (r,M',mv,ob)):dD P (ρ.f 22) args M r M' mv:=by
 obtain ⟨i0,hi0,hz0,hs0,hb0⟩:=info_parts L.i9
 intro H E w vals hC hargs
 unfold RA at h
 split at h
 case h_2=>cases h
 rename_i sa i va
 obtain ⟨s,l1,e1,hs,iv,l2,e2,hiv,v,l3,e3,hv,e4⟩:=hargs
 have e4:l3=[]:=e4
 subst e4;subst e3;subst e2
 obtain ⟨rfl,_⟩:=hiv
 have hvals:vals=#[s,.int .i64 i,v]:=Array.ext' e1
 subst hvals
 split at h
 case h_2=>cases h
 rename_i b m vs hsrc
 obtain ⟨hlb,g,off,c,vcur,tA,news,hbg,rfl,hvh,hvl,hvs,hvr,hv1⟩:=DW hC hv hsrc
 have hm63:maxLen=9223372036854775807:=rfl
 split at h
 · rename_i a s1 n
   split at h
   case isFalse=>cases h
   rename_i hab
   simp only [Bool.and_eq_true,beq_iff_eq,Bool.not_eq_true'] at hab
   obtain ⟨rfl,hab⟩:=hab
   have hne:a≠b:=fun e=>by subst e;rw [Nat.beq_refl] at hab;cases hab
   split at h
   case h_2=>cases h
   rename_i B hB
   cases h
   unfold Eo at hB
   split at hB
   case h_2=>cases hB
   rename_i ty' s2 n' cap cs hg
   split at hB
   case isFalse=>cases hB
   rename_i hq
   simp only [Bool.and_eq_true,beq_iff_eq,Nat.ble_eq] at hq
   obtain ⟨⟨⟨⟨⟨rfl,rfl⟩,rfl⟩,hin⟩,hn63⟩,hnb⟩:=hq
   cases hB
   obtain ⟨hlv,hκ,hm⟩:=hs
   have hBk:=hC.blk a
   rw [hg] at hBk
   obtain ⟨_,hmκ,hκm,_,hm2⟩:=hBk
   have hown:∃ xs,w.ownsRow 0 (ρ.t 9) s2 s n' xs/\s.ownBlock=E.ι a/\ones xs/\aA cs H E xs:=by
    cases hι:E.ι a with
    | none =>
      rw [hι] at hm hm2
      obtain ⟨_,rfl,rfl⟩:=hm
      obtain ⟨_,rfl⟩:=hm2
      exact ⟨[],⟨by simp,.inl ⟨rfl,rfl⟩⟩,rfl,fun x hx=>(by cases hx),rfl⟩
    | some g' =>
      rw [hι] at hm hm2
      obtain ⟨ad,rfl,had⟩:=hm
      obtain ⟨cur,h1,h2,h3,h4⟩:=hm2
      rw [had.1 (.inl rfl)]
      have hle:n'*s2<=E.κ a*s2:=Nat.mul_le_mul_right _ hmκ.2
      exact ⟨_,⟨by simp;omega,.inr ⟨g',E.κ a,cur,by simp,Nat.zero_le _,h1,by omega,hκm,h3,rfl⟩⟩,rfl,h2,h4⟩
   obtain ⟨xs,hown,hob,hxs,hxr⟩:=hown
   refine (tY L hi0 hz0 hs0 hb0 (vc:=c) (i:=i) hown hin (Nat.succ_pos m) (by rw [hob];exact fun e=>hne (hC.inj a b g hlv hlb e hbg)) hvh hvl hvs hxs hv1 (by omega) hnb).mono ?_
   rintro e w' ⟨v',rfl,hown',hgrow,hat⟩
   obtain ⟨bo,κ,hbo,hnκ,hκm',hv',hblk,hbn⟩:=lM hown'
   rw [hob] at hgrow hat
   obtain ⟨e1,e2,e3,e4⟩:=E.eO a bo κ (n'+(m+1))
   have hvia:E.via (E.set a bo κ (n'+(m+1))) (aO [a]):=by
    intro p q hpq hlp
    unfold aO at hpq
    split at hpq
    · cases hpq
    · rename_i hn
      cases hpq
      obtain ⟨f1,f2,f3⟩:=E.mK a p bo κ (n'+(m+1)) (by simpa using hn)
      exact ⟨f1.trans hlp,f2,f3⟩
   have hcont:Cont H E s2 (n'+(m+1)) (ρ.t 9) (.lst (ρ.t 9) s2 (n'+(m+1)) none (Fq cs vs (i*s2))) (xs.take (i*s2)++news++xs.drop (i*s2)):=⟨rfl,rfl,rfl,xI _ hxr hvr⟩
   have hB:bV H (E.set a bo κ (n'+(m+1))) w' a (eY (aO [a]) (.lst (ρ.t 9) s2 (n'+(m+1)) none (Fq cs vs (i*s2)))):=by
    refine nU (oJ hvia hcont) rfl e1 (by rw [e3,e4];exact ⟨rfl,hnκ⟩) (by rw [e3];exact hκm') (fun y hy=>?_) (by rw [e2,e3];exact hblk)
    rcases List.mem_append.1 hy with hy | hy
    · rcases List.mem_append.1 hy with hy | hy
      · exact hxs y (List.mem_of_mem_take hy)
      · exact hv1 y hy
    · exact hxs y (List.mem_of_mem_drop hy)
   obtain ⟨hconc,hev⟩:=hC.move hlv hgrow (bo':=bo) (κ':=κ) (η':=n'+(m+1)) (fun g hg=>by
    rw [hbo,hg] at hat
    rcases hat with h | h
    · exact .inl h.symm
    · cases h;exact .inr (Nat.le_refl _)) hB
   refine ⟨v',H,E.set a bo κ (n'+(m+1)),rfl,⟨e1,by rw [e3,e4];omega,?_⟩,hconc,hev⟩
   rw [e2,e3]
   cases bo with
   | none=>exact ⟨rfl,by have:=hbn rfl;omega,hv'⟩
   | some b=>exact ⟨_,hv',⟨fun _=>by simp,by simp⟩⟩
 · obtain ⟨rfl,_⟩:=hs
   split at h
   case h_2=>cases h
   rename_i B hB
   cases h
   simp only [Eo] at hB
   split at hB
   case isFalse=>cases hB
   rename_i hq
   simp only [Bool.and_eq_true,beq_iff_eq,Nat.ble_eq] at hq
   obtain ⟨⟨⟨⟨_,_⟩,hin⟩,hn63⟩,hnb⟩:=hq
   have hi00:i=0:=by omega
   subst hi00
   cases hB
   have hd:getM M (len M)=.dead:=jK _ _ (Nat.le_refl _)
   refine (tY L hi0 hz0 hs0 hb0 (vc:=c) (i:=0) (World.ownsRow_nil w 0 (ρ.t 9) sz) (Nat.le_refl _) (Nat.succ_pos m) (by simp [Value.ownBlock]) hvh hvl hvs (fun x hx=>(by cases hx)) hv1 (by omega) hnb).mono ?_
   rintro e w' ⟨v',rfl,hown',hgrow,hat⟩
   obtain ⟨bo,κ,hbo,hnκ,hκm',hv',hblk,hbn⟩:=lM hown'
   obtain ⟨e1,e2,e3,e4⟩:=E.eO (len M) bo κ (0+(m+1))
   have hcont:Cont H E sz (0+(m+1)) (ρ.t 9) (.lst (ρ.t 9) sz (0+(m+1)) none (Fq [] vs (0*sz))) (([]:List Value).take (0*sz)++news++([]:List Value).drop (0*sz)):=⟨rfl,rfl,rfl,xI (cs:=[]) _ rfl hvr⟩
   have hB:bV H (E.set (len M) bo κ (0+(m+1))) w' (len M) (.lst (ρ.t 9) sz (0+(m+1)) none (Fq [] vs (0*sz))):=by
    have hc3:=oJ (pF (bo:=bo) (κ:=κ) (η:=0+(m+1)) hC hd) hcont
    rw [eD] at hc3
    refine nU hc3 rfl e1 (by rw [e3,e4];exact ⟨rfl,hnκ⟩) (by rw [e3];exact hκm') (fun y hy=>hv1 y (by simpa using hy)) (by rw [e2,e3];exact hblk)
   obtain ⟨hconc,hev⟩:=hC.new (bo:=bo) (κ:=κ) (η:=0+(m+1)) hd hgrow.os hgrow.tape hgrow.output hgrow.size (fun b hb=>hgrow.block b hb (by simp [Value.ownBlock])) (fun b hb=>by
    rw [hbo,hb] at hat
    rcases hat with h | h
    · simp [Value.ownBlock] at h
    · cases h;exact Nat.le_refl _) hB
   refine ⟨v',H,E.set (len M) bo κ (0+(m+1)),rfl,⟨e1,by rw [e3,e4];omega,?_⟩,hconc,hev⟩
   rw [e2,e3]
   cases bo with
   | none=>exact ⟨rfl,by have:=hbn rfl;omega,hv'⟩
   | some b=>exact ⟨some ⟨b,0,none⟩,by rw [hv'];simp,⟨fun _=>by simp,by simp⟩⟩
 · cases h
def qb (i m:Nat) (c d:Nat->Nat->AV) (k j:Nat):AV:=if k<i then c k j else if k<i+m then d (k - i) j else c (k - m) j
def intOf:AV->Option Int
 | .y (.int .i64 i)=>some i
 | .s (.int .i64 i)=>some i
 | _=>none
def acX (ty:TypeId) (sz bytes:Nat) (args:List AV) (M:List ay):Option (T An) :=
 match args with
 | [.own a s1 0 n,iv,v]=>(match intOf iv,ES sz M v with
   | some i,some (b,m+1,vs)=>(match getM M a with
     | .row ty' s2 n' _ c=>(match ty'==ty&&s2==sz&&s1==sz&&!Nat.beq a b&&dS vs with
       | true=>some (.need (n'=n/\0<=i/\i<=(n:Int)/\n+(m+1)<=9223372036854775807/\(n+(m+1))*bytes<=140737488355328)
          (.ret (.own a sz 0 (n+(m+1)),dN [a] (iH M a (.row ty sz (n+(m+1)) none (qb i.toNat (m+1) c (fun k j=>get vs (k*sz+j))))),[a])))
       | false=>none)
     | _=>none)
   | _,_=>none)
 | _=>none
theorem QD {H:HH} {E:Env} {sz n m i:Nat} {ty:TypeId} {c:Nat->Nat->AV} {xs news:List Value} {vs:List AV} (hin:i<=n) (hc:∀ k,k<n->∀ j,j<sz->∃ x,xs[k*sz+j]? = some x/\Rel (c k j) H E0 x) (hx:xs.length=n*sz) (hn:news.length=m*sz) (hv:aA vs H E news) (hr:dS vs=true) :
 Cont H E sz (n+m) ty (.row ty sz (n+m) none (qb i m c (fun k j=>get vs (k*sz+j)))) (xs.take (i*sz)++news++xs.drop (i*sz)):=by
 refine ⟨rfl,rfl,rfl,fun k hk j hj=>?_⟩
 have hmul:∀ a b:Nat,a<b->a*sz+j<b*sz:=fun a b h=>by
  have:(a+1)*sz<=b*sz:=Nat.mul_le_mul_right _ h
  rw [Nat.add_mul,Nat.one_mul] at this;omega
 have hle:i*sz<=n*sz:=Nat.mul_le_mul_right _ hin
 have htl:(xs.take (i*sz)).length=i*sz:=by rw [List.length_take];omega
 unfold qb
 by_cases h1:k<i
 · rw [if_pos h1]
   obtain ⟨x,hx1,hx2⟩:=hc k (by omega) j hj
   have:=hmul k i h1
   refine ⟨x,?_,hx2⟩
   rw [List.append_assoc,List.getElem?_append_left (by omega),List.getElem?_take,if_pos this]
   exact hx1
 · rw [if_neg h1]
   by_cases h2:k<i+m
   · rw [if_pos h2]
     have h3:=hmul (k - i) m (by omega)
     have hki:k*sz=i*sz+(k - i)*sz:=by rw [<- Nat.add_mul];congr 1;omega
     have hlt:(k - i)*sz+j<news.length:=by omega
     refine ⟨news[(k - i)*sz+j],?_,?_⟩
     · rw [List.append_assoc,List.getElem?_append_right (by omega),List.getElem?_append_left (by omega),htl]
       rw [List.getElem?_eq_getElem (by omega)]
       congr 2;omega
     · have hg:=aA.dR (E':=E0) _ hr hv
       exact bn hg _ _ (List.getElem?_eq_getElem hlt)
   · rw [if_neg h2]
     obtain ⟨x,hx1,hx2⟩:=hc (k - m) (by omega) j hj
     refine ⟨x,?_,hx2⟩
     have hki:k*sz=(k - m)*sz+m*sz:=by rw [<- Nat.add_mul];congr 1;omega
     have h4:i*sz<=(k - m)*sz:=Nat.mul_le_mul_right _ (by omega)
     rw [List.getElem?_append_right (by rw [List.length_append];omega),List.length_append,htl,hn,List.getElem?_drop]
     rw [show i*sz+(k*sz+j - (i*sz+m*sz))=(k - m)*sz+j by omega]
     exact hx1
theorem aae {P:Program} {ρ:Ren} {sz bytes:Nat} {zv:Value} {nm:String} (L:nD P ρ sz bytes zv nm) {args:List AV} {M:List ay} {t:T An} (h:acX (ρ.t 9) sz bytes args M=some t):t.Sat (aB P (ρ.f 22) args M):=by
 obtain ⟨i0,hi0,hz0,hs0,hb0⟩:=info_parts L.i9
 unfold acX at h
 split at h
 case h_2=>cases h
 rename_i a s1 n iv va
 split at h
 case h_2=>cases h
 rename_i i b m vs hiv hsrc
 split at h
 case h_2=>cases h
 rename_i ty' s2 n' cap c hg
 split at h
 case h_2=>cases h
 rename_i hb
 cases h
 simp only [Bool.and_eq_true,beq_iff_eq,Bool.not_eq_true'] at hb
 obtain ⟨⟨⟨⟨rfl,rfl⟩,rfl⟩,hab⟩,hnr⟩:=hb
 have hne:a≠b:=fun e=>by subst e;rw [Nat.beq_refl] at hab;cases hab
 refine T.Sat.need fun hn=>T.Sat.ret ?_
 obtain ⟨rfl,hi1,hi2,hn63,hnb⟩:=hn
 obtain ⟨i,rfl⟩:=Int.eq_ofNat_of_zero_le hi1
 have hin:i<=n':=by omega
 rw [Int.toNat_natCast]
 intro H E w vals hC hargs
 obtain ⟨s,l1,e1,hs,iv',l2,e2,hiv',v,l3,e3,hv,e4⟩:=hargs
 have e4:l3=[]:=e4
 subst e4;subst e3;subst e2
 have hiv2:iv'=.int .i64 i:=by
  unfold intOf at hiv
  split at hiv
  · cases hiv;exact hiv'.1
  · cases hiv;exact hiv'.1
  · cases hiv
 subst hiv2
 have hvals:vals=#[s,.int .i64 i,v]:=Array.ext' e1
 subst hvals
 obtain ⟨hlb,g,off,cv,vcur,tA,news,hbg,rfl,hvh,hvl,hvs,hvr,hv1⟩:=DW hC hv hsrc
 have hm63:maxLen=9223372036854775807:=rfl
 obtain ⟨hlv,hκ,hm⟩:=hs
 have hBk:=hC.blk a
 rw [hg] at hBk
 obtain ⟨_,hmκ,hκm,_,hm2⟩:=hBk
 have hown:∃ xs,w.ownsRow 0 (ρ.t 9) s1 s n' xs/\s.ownBlock=E.ι a/\ones xs/\xs.length=n'*s1/\∀ k,k<n'->∀ j,j<s1->∃ x,xs[k*s1+j]? = some x/\Rel (c k j) H E0 x:=by
  cases hι:E.ι a with
  | none =>
    rw [hι] at hm hm2
    obtain ⟨_,rfl,rfl⟩:=hm
    exact ⟨[],⟨by simp,.inl ⟨rfl,rfl⟩⟩,rfl,fun x hx=>(by cases hx),by simp,fun k hk=>by omega⟩
  | some g' =>
    rw [hι] at hm hm2
    obtain ⟨ad,rfl,had⟩:=hm
    obtain ⟨cur,h1,h2,h3,h4⟩:=hm2
    rw [had.1 (.inl rfl)]
    have hle:n'*s1<=E.κ a*s1:=Nat.mul_le_mul_right _ hmκ.2
    refine ⟨_,⟨by simp;omega,.inr ⟨g',E.κ a,cur,by simp,Nat.zero_le _,h1,by omega,hκm,h3,rfl⟩⟩,rfl,h2,by simp;omega,fun k hk j hj=>?_⟩
    obtain ⟨x,hx,hr⟩:=h4 k hk j hj
    refine ⟨x,?_,hr⟩
    have:(k+1)*s1<=n'*s1:=Nat.mul_le_mul_right _ hk
    rw [Nat.add_mul,Nat.one_mul] at this
    rw [List.getElem?_take,if_pos (by omega)]
    simpa using hx
 obtain ⟨xs,hown,hob,hxs,hxl,hxr⟩:=hown
 refine (tY L hi0 hz0 hs0 hb0 (vc:=cv) (i:=i) hown hin (Nat.succ_pos m) (by rw [hob];exact fun e=>hne (hC.inj a b g hlv hlb e hbg)) hvh hvl hvs hxs hv1 (by omega) hnb).mono ?_
 rintro e w' ⟨v',rfl,hown',hgrow,hat⟩
 obtain ⟨bo,κ,hbo,hnκ,hκm',hv',hblk,hbn⟩:=lM hown'
 rw [hob] at hgrow hat
 obtain ⟨e1,e2,e3,e4⟩:=E.eO a bo κ (n'+(m+1))
 have hvia:E.via (E.set a bo κ (n'+(m+1))) (aO [a]):=by
  intro p q hpq hlp
  unfold aO at hpq
  split at hpq
  · cases hpq
  · rename_i hn
    cases hpq
    obtain ⟨f1,f2,f3⟩:=E.mK a p bo κ (n'+(m+1)) (by simpa using hn)
    exact ⟨f1.trans hlp,f2,f3⟩
 have hcont:=QD (ty:=ρ.t 9) hin hxr hxl hvl hvr hnr
 have hB:bV H (E.set a bo κ (n'+(m+1))) w' a (eY (aO [a]) (.row (ρ.t 9) s1 (n'+(m+1)) none (qb i (m+1) c (fun k j=>get vs (k*s1+j))))):=by
  refine nU (oJ hvia hcont) rfl e1 (by rw [e3,e4];exact ⟨rfl,hnκ⟩) (by rw [e3];exact hκm') (fun y hy=>?_) (by rw [e2,e3];exact hblk)
  rcases List.mem_append.1 hy with hy | hy
  · rcases List.mem_append.1 hy with hy | hy
    · exact hxs y (List.mem_of_mem_take hy)
    · exact hv1 y hy
  · exact hxs y (List.mem_of_mem_drop hy)
 obtain ⟨hconc,hev⟩:=hC.move hlv hgrow (bo':=bo) (κ':=κ) (η':=n'+(m+1)) (fun g hg=>by
  rw [hbo,hg] at hat
  rcases hat with h | h
  · exact .inl h.symm
  · cases h;exact .inr (Nat.le_refl _)) hB
 refine ⟨v',H,E.set a bo κ (n'+(m+1)),rfl,⟨e1,by rw [e3,e4];omega,?_⟩,hconc,hev⟩
 rw [e2,e3]
 cases bo with
 | none=>exact ⟨rfl,by have:=hbn rfl;omega,hv'⟩
 | some b=>exact ⟨_,hv',⟨fun _=>by simp,by simp⟩⟩
end Go.Ax

namespace Go.Ax
open Go
variable [Inhabited jZ]
theorem BH (a:Value):veq a a:=by
 unfold veq
 split<;>simp_all [zF]
@[simp] theorem dn (a:AV):qA a a:=by
 unfold qA
 split<;>first | (simp_all [BH,CP];done) | (rename_i h;cases h;first | exact BH _ | simp [CP] | simp [BH]) | trivial
@[simp] theorem aG (n sz:Nat) (c:Nat->Nat->AV):aj n sz c c:=fun _ _ _ _=>dn _
@[simp] theorem aaH (n:Nat) (c:Nat->AV):gq n c c:=fun _ _=>dn _
@[simp] theorem aaM (sz:Nat) (c c':Nat->Nat->AV):aj 0 sz c c':=fun _ h=>absurd h (Nat.not_lt_zero _)
@[simp] theorem acs (n sz:Nat) (c:Nat->Nat->AV):CP n sz c c:=fun _ _ _ _=>rfl
@[simp] theorem aif (v u:Value):qA (.y v) (.y u)=veq v u:=rfl
@[simp] theorem aiA (v u:Value):qA (.s v) (.y u)=veq v u:=rfl
@[simp] theorem aiZ (v u:Value):qA (.y v) (.s u)=veq v u:=rfl
@[simp] theorem ai' (v u:Value):qA (.s v) (.s u)=veq v u:=rfl
@[simp] theorem ahF (t:TypeId) (v u:Value):qA (.ifc t (.s v)) (.ifc t (.y u))=veq v u:=by simp [qA]
@[simp] theorem ahL (t:TypeId) (v u:Value):qA (.ifc t (.y v)) (.ifc t (.y u))=veq v u:=by simp [qA]
@[simp] theorem ahG (k:IntKind) (a b:Int):veq (.int k a) (.int k b)=(a=b):=by simp [veq,zF]
@[simp] theorem aeS (a b:Bool):veq (.bool a) (.bool b)=(a=b):=rfl
@[simp] theorem aeu (a b:ByteArray):veq (.string a) (.string b)=(a=b):=rfl
@[simp] theorem afu (a:AV) (l:List AV):get (a::l) 0=a:=rfl
@[simp] theorem afA (a:AV) (l:List AV) (n:Nat):get (a::l) (n+1)=get l n:=rfl
@[simp] theorem H8 (c d:Nat->Nat->AV):aY 0 c d=d:=by funext k j;simp [aY]
@[simp] theorem rowAt_zero (c:Nat->Nat->AV):rowAt 0 c=c:=rfl
@[simp] theorem adH {c c':Nat->AV}:gq 1 c c'↔qA (c 0) (c' 0):=by
 constructor
 · intro h
   exact h 0 (by omega)
 · intro h j hj
   have e:j=0:=by omega
   rw [e]
   exact h
theorem wrap_i64 {n:Int} (h1:-9223372036854775808<=n) (h2:n<=9223372036854775807):IntKind.wrap IntKind.i64 n=n:=IntWalk.i64_in _ (by omega)
theorem wrap_u64 {n:Int} (h1:0<=n) (h2:n<=18446744073709551615):IntKind.wrap IntKind.u64 n=n:=by
 simp [IntKind.wrap,IntKind.bits,IntKind.signed];omega
theorem cast_succ_eq {k j:Nat}:((k:Int)+1=(j:Int))↔j=k+1:=by omega
def bP (P:Program) (ht:aC P) (f k:Nat) {ι τ:Type} (μ:ι->Nat) (sV:ι->List AV) (stM:ι->List ay) (X:List Nat) (o:ι->T τ) (S:τ->Exit×List AV×List ay) (i:ι):Prop :=
 (rC P ht 300 f (aN P f k) ⟨sV i,stM i,[]⟩).post fun e=>match e.1 with
   | .normal=>∃ j,μ j<μ i/\K3 e.2 ⟨sV j,stM j,[]⟩/\allIn (drops e.2.m (stM j) 0++e.2.mv) X=true/\(o j).post fun a=>(o i).post fun b=>a=b
   | x=>(o i).post fun b=>KU (x,e.2) (bJ X S b)
theorem dY {P:Program} (hm:P.follows .mixedOrders=true) {ht:aC P} {f k:Nat} {ι τ:Type} {μ:ι->Nat} {sV:ι->List AV} {stM:ι->List ay} {X:List Nat} {o:ι->T τ} {S:τ->Exit×List AV×List ay} (hd:∀ i,(o i).Mq=true)
 (h:∀ i,bP P ht f k μ sV stM X o S i) (i:ι):aL P f k (aN P f k) ⟨sV i,stM i,[]⟩ ((o i).map (bJ X S)) :=
 Y1 hm ht 300 μ (fun i=>(sV i,stM i)) X o S hd h i
def bf (P:Program) (ht:aC P) (f:Nat) (args:List AV) (M:List ay) (t:T An):Prop :=
 (adT P (rC P ht 300) f args M).post fun a=>t.post fun b=>Oa a b
theorem aP {P:Program} (hm:P.follows .mixedOrders=true) {ht:aC P} {f:Nat} {args:List AV} {M:List ay} {t:T An} (hd:t.Mq=true) (h:bf P ht f args M t):t.Sat (aB P f args M):=aeg hm ht 300 hd h
def dM {ι τ:Type} (sV:ι->List AV) (stM:ι->List ay) (X:List Nat) (o:ι->T τ) (S:τ->Exit×List AV×List ay) (i:ι):Job:=⟨sV i,stM i,(o i).map (bJ X S)⟩
def ah {α:Type} [Inhabited α] (enc:α->List AV) (l:List α) (k j:Nat):AV:=get (enc (l.getD k default)) j
theorem sK {α:Type} [Inhabited α] {enc:α->List AV} {l:List α} {n sz:Nat} {cs:List AV} {x:α} (hn:n=l.length) (h:∀ j,j<sz->qA (get cs j) (get (enc x) j)) :
 aj (n+1) sz (aY n (ah enc l) (fun k j=>get cs (k*sz+j))) (ah enc (l++[x])):=by
 subst hn
 intro k hk j hj
 unfold aY ah
 by_cases h1:k<l.length
 · rw [if_pos h1]
   simp [List.getElem?_append_left h1]
 · obtain rfl:k=l.length:=by omega
   simp [h j hj]
theorem drop_cons {α:Type} [Inhabited α] {l:List α} {k:Nat} (h:k<l.length):l.drop k=(l[k]?.getD default)::l.drop (k+1):=by
 rw [List.drop_eq_getElem_cons h]
 simp [h]
theorem iX {α:Type} {l:List α} {k:Nat} (h:l.length<=k):l.drop k=[]:=List.drop_eq_nil_of_le h
theorem M9 {α:Type} [Inhabited α] {enc:α->List AV} {l:List α} {i sz n:Nat} {cs:List AV} {x:α} (hn:n=l.length) (hi:i<l.length) (hl:cs.length=sz) (h:∀ j,j<sz->qA (get cs j) (get (enc x) j)) :
 aj n sz (pO (ah enc l) i 0 cs) (ah enc (l.set i x)):=by
 subst hn
 intro k hk j hj
 unfold pO ah
 by_cases h1:k=i
 · subst h1
   rw [if_pos ⟨rfl,Nat.zero_le _,by rw [len_eq];omega⟩]
   simp [List.getElem?_set,hi,h j hj]
 · rw [if_neg (by rintro ⟨h,_⟩;exact h1 h)]
   simp [List.getElem?_set,Ne.symm h1]
def tV (m:Nat) (c:Nat->Nat->AV) (k j:Nat):AV:=if k<m then c k j else .junk
@[simp] theorem QK (a:AV):qA a .junk:=by cases a<;>first | trivial | (rename_i v;cases v<;>trivial)
theorem adD {n sz m:Nat} {c c':Nat->Nat->AV} (h:∀ k,k<n->k<m->∀ j,j<sz->qA (c k j) (c' k j)):aj n sz c (tV m c'):=by
 intro k hk j hj
 unfold tV
 by_cases h1:k<m
 · rw [if_pos h1];exact h k hk h1 j hj
 · rw [if_neg h1];exact QK _
theorem XA {n sz m d:Nat} {c c':Nat->Nat->AV} (h:aj m sz c c') (hn:n=m):aj n sz (rP m d (tV m c)) c':=by
 subst hn
 intro k hk j hj
 unfold rP tV
 rw [if_neg (by omega),if_pos hk]
 exact h k hk j hj
theorem TH {α:Type} [Inhabited α] {enc:α->List AV} {l:List α} {i sz n:Nat} {d:Nat->Nat->AV} {x:α} (hn:n=l.length+1) (hi:i<=l.length) (h:∀ j,j<sz->qA (d 0 j) (get (enc x) j)) :
 aj n sz (qb i 1 (ah enc l) d) (ah enc (l.take i++x::l.drop i)):=by
 subst hn
 intro k hk j hj
 unfold qb ah
 have hlen:(l.take i).length=i:=by rw [List.length_take];omega
 by_cases h1:k<i
 · rw [if_pos h1]
   have e:(l.take i++x::l.drop i)[k]? = l[k]?:=by
    rw [List.getElem?_append_left (by omega),List.getElem?_take,if_pos h1]
   simp [e]
 · rw [if_neg h1]
   by_cases h2:k<i+1
   · obtain rfl:k=i:=by omega
     rw [if_pos (by omega)]
     have e:(l.take k++x::l.drop k)[k]? = some x:=by
      rw [List.getElem?_append_right (by omega),hlen];simp
     simp [e,h j hj]
   · rw [if_neg h2]
     have e:(l.take i++x::l.drop i)[k]? = l[k - 1]?:=by
      rw [List.getElem?_append_right (by omega),hlen]
      obtain ⟨q,rfl⟩:∃ q,k=i+1+q:=⟨k - i - 1,by omega⟩
      rw [show i+1+q - i=q+1 by omega,List.getElem?_cons_succ,List.getElem?_drop]
      congr 1;omega
     simp [e]
theorem qm {α:Type} [Inhabited α] {enc:α->List AV} {l:List α} {n sz:Nat} {c:Nat->Nat->AV} {cs:List AV} {x:α} (hc:aj n sz c (ah enc l)) (hn:n=l.length) (h:∀ j,j<sz->qA (get cs j) (get (enc x) j)) :
 aj (n+1) sz (aY n c (fun k j=>get cs (k*sz+j))) (ah enc (l++[x])):=by
 subst hn
 intro k hk j hj
 unfold aY
 by_cases h1:k<l.length
 · rw [if_pos h1]
   have:=hc k h1 j hj
   unfold ah at this ⊢
   simpa [List.getElem?_append_left h1] using this
 · obtain rfl:k=l.length:=by omega
   simp [ah,h j hj]
def mU (f k:Nat) (J:Job) (els:FuncId->Nat->St->Option Job):FuncId->Nat->St->Option Job:=fun f' k' s=>match Nat.beq f f'&&Nat.beq k k' with | true=>some J | false=>els f' k' s
def cs1 {P:Program} (f r p:Nat) (C:dZ P) (els:FuncId->Nat->Nat->List AV->List ay->Option (dZ P)):FuncId->Nat->Nat->List AV->List ay->Option (dZ P) :=
 fun f' r' p' a m=>match Nat.beq f f'&&Nat.beq r r'&&Nat.beq p p' with | true=>some C | false=>els f' r' p' a m
def bO:FuncId->Nat->St->Option Job:=fun _ _ _=>none
def bN {P:Program}:FuncId->Nat->Nat->List AV->List ay->Option (dZ P):=fun _ _ _ _ _=>none
def op1 (f r p:Nat) (h:Hint) (els:FuncId->Nat->Nat->Option Hint):FuncId->Nat->Nat->Option Hint:=fun f' r' p'=>match Nat.beq f f'&&Nat.beq r r'&&Nat.beq p p' with | true=>some h | false=>els f' r' p'
def bM:FuncId->Nat->Nat->Option Hint:=fun _ _ _=>none
def uL (f r p h:Nat) (els:FuncId->Nat->Nat->Nat):FuncId->Nat->Nat->Nat:=fun f' r' p'=>match Nat.beq f f'&&Nat.beq r r'&&Nat.beq p p' with | true=>h | false=>els f' r' p'
def noSh:FuncId->Nat->Nat->Nat:=fun _ _ _=>0
def aiK (l:List Nat) (f:FuncId):Bool:=mem l f
def dO {P:Program} (h:aC P) (sh:FuncId->Nat->Nat->Nat):aC P:={ h with sp:=fun f r=>spX P (sh f r),spOk:=fun _ _=>Vf P _ }
def nC {P:Program} (h:aC P) (l:List Nat):aC P:={ h with sub:=aiK l }
def Nu {P:Program} {ρ:Go.Shelf.Ren} {sz bytes:Nat} {zv:Value} {nm:String} (h:aC P) (L:nD P ρ sz bytes zv nm):aC P :=
 { h with
  ct:=fun g args M=>match Nat.beq g (ρ.f 22) with
   | true=>acX (ρ.t 9) sz bytes args M
   | false=>none
  ctOk:=fun g args M t e=>by
   split at e
   · rename_i hg
     rw [Nat.eq_of_beq_eq_true hg]
     exact aae L e
   · cases e }
def hh (P:Program) (lp:FuncId->Nat->St->Option Job) (cs:FuncId->Nat->Nat->List AV->List ay->Option (dZ P)) (op:FuncId->Nat->Nat->Option Hint):aC P:={ hT P with lp:=lp,cs:=cs,op:=op }
end Go.Ax

namespace Go.Ax
variable [Inhabited jZ]
set_option maxRecDepth 1000000
theorem Ue {P:Program} (hm:P.follows .mixedOrders=true) (n:Nat) {f:FuncId} {k:Nat} {c:Code} {ι τ:Type} (ht:ι->aC P) (μ:ι->Nat) (st:ι->List AV×List ay) (X:List Nat) (o:ι->T τ) (S:τ->Exit×List AV×List ay) (hd:∀ i,(o i).Mq=true)
 (h:∀ i,(rC P (ht i) n f c ⟨(st i).1,(st i).2,[]⟩).post fun e=>match e.1 with
   | .normal=>∃ j,μ j<μ i/\K3 e.2 ⟨(st j).1,(st j).2,[]⟩/\allIn (drops e.2.m (st j).2 0++e.2.mv) X=true/\(o j).post fun a=>(o i).post fun b=>a=b
   | x=>(o i).post fun b=>KU (x,e.2) (bJ X S b)):∀ i,aL P f k c ⟨(st i).1,(st i).2,[]⟩ ((o i).map (bJ X S)):=by
 have key:∀ m i,μ i<m->(o i).Sat fun b=>∃ q,fT P c q ⟨(st i).1,(st i).2,[]⟩ (bJ X S b).1 (bJ X S b).2:=by
  intro m
  induction m with
  | zero=>intro i hi;omega
  | succ m ih =>
    intro i hi Q hQ
    obtain ⟨⟨x,s⟩,he,hp⟩:=lX hm (ht:=ht i) n f c _ _ (h i)
    cases x with
    | normal =>
      obtain ⟨j,hj,hle,hX,hout⟩:=hp
      obtain ⟨a,⟨q,hq⟩,ha⟩:=ih j (by omega) _ hout
      obtain ⟨b,rfl,hQb⟩:=T.ny (hd i) ha hQ
      refine ⟨a,⟨q+1,?_⟩,hQb⟩
      have hmv:=pY hX
      refine fT.next he (s1:=s) ?_
      refine ⟨fun i hi=>hmv i (List.mem_append_right _ hi),fun H E w a' hC hT hd=>?_⟩
      obtain ⟨E',h1,h2,h3⟩:=zo hle hC hT
      refine kE ?_ q a' w (hq.2 H E' w a' h1 h2 hd)
      rintro x' a2 w2 ⟨H1,E1,rfl,hd1,hT1,hC1,hE1⟩
      exact ⟨H1,E1,rfl,hd1,hT1,hC1,h3.trans hE1 fun i hi=>hmv i (List.mem_append_left _ hi)⟩
    | _ =>
      obtain ⟨b,hb,hQb⟩:=T.ny (hd i) hp hQ
      exact ⟨b,⟨1,fT.out (fun e=>by
       unfold KU at hb
       split at hb
       · rename_i hbb
         simp only [Bool.and_eq_true] at hbb
         rw [<- K4 hbb.1] at e;cases e
       · exact hb.elim) (Nr he hb)⟩,hQb⟩
 intro i
 exact (key (μ i+1) i (by omega)).map fun e ⟨q,hq⟩=>bS.loop hq
theorem dK {P:Program} (hm:P.follows .mixedOrders=true) {f k:Nat} {ι τ:Type} {ht:ι->aC P} {μ:ι->Nat} {sV:ι->List AV} {stM:ι->List ay} {X:List Nat} {o:ι->T τ} {S:τ->Exit×List AV×List ay} (hd:∀ i,(o i).Mq=true)
 (h:∀ i,bP P (ht i) f k μ sV stM X o S i) (i:ι):aL P f k (aN P f k) ⟨sV i,stM i,[]⟩ ((o i).map (bJ X S)) :=
 Ue hm 300 ht μ (fun i=>(sV i,stM i)) X o S hd h i
instance ah4:Inhabited jZ:=⟨⟨[]⟩⟩
end Go.Ax

namespace Go.Ax
open Go Go.ChangeShapes Go.WideShapes Go.RowKit
variable [Inhabited jZ]
theorem O5 {mv:List Nat} {H H':HH} {E':Env} {w w':World} (h:bF mv H E0 w H' E' w') (may:MemPlace->Prop):w.keptBut w' may:=by
 refine ⟨h.os,h.output,fun i hi=>?_⟩
 have:=h.keep i hi fun j hj=>oV hj
 rw [this]
 cases w.heap[i]? with
 | none=>rfl
 | some o=>cases o<;>first | exact ⟨rfl,rfl,rfl,fun _ _=>rfl⟩ | exact .inr ⟨rfl,rfl⟩ | rfl
set_option maxRecDepth 100000
inductive Sh where
 | int (k:IntKind)
 | bool
 | str
 | sl (e:Sh)
 | st (fs:List Sh)
mutual
def Sh.size:Sh->Nat
 | .st fs=>Sh.Ea fs
 | _=>1
def Sh.Ea:List Sh->Nat
 | []=>0
 | s::r=>s.size+Sh.Ea r
end
mutual
def Sh.ok (P:Program):Sh->TypeId->Bool
 | .int k,t=>match P.underlying t with | some (.int k')=>decide (k'=k) | _=>false
 | .bool,t=>match P.underlying t with | some .bool=>true | _=>false
 | .str,t=>match P.underlying t with | some .string=>true | _=>false
 | .sl e,t=>match P.underlying t with | some (.slice u)=>Sh.ok P e u&&Nat.beq (P.cellsOf u) e.size | _=>false
 | .st fs,t=>match P.underlying t with | some (.struct l)=>Sh.Cb P fs l.toList 0&&Nat.beq (P.cellsOf t) (Sh.Ea fs) | _=>false
def Sh.Cb (P:Program):List Sh->List Field->Nat->Bool
 | [],[],_=>true
 | s::r,f::fs,o=>Nat.beq f.offset o&&(Nat.beq (P.cellsOf f.type) s.size&&(Sh.ok P s f.type&&Sh.Cb P r fs (o+s.size)))
 | _,_,_=>false
end
mutual
def Sh.enc {K:Type}:Sh->DataW K->List AV
 | .int k,d=>match d with | .lit (.int _ n)=>[.y (.int k n)] | _=>[]
 | .bool,d=>match d with | .lit (.bool b)=>[.y (.bool b)] | _=>[]
 | .str,d=>match d with | .lit (.string l)=>[.y (.string ⟨l.toArray⟩)] | _=>[]
 | .sl e,d=>match d with | .slice xs _=>[.ys true e.size xs.length (fun k j=>get (Sh.enc e (xs.getD k .nil)) j)] | _=>[.ys true e.size 0 (fun _ _=>.junk)]
 | .st fs,d=>match d with | .agg ds=>Sh.FW fs ds | _=>[]
def Sh.FW {K:Type}:List Sh->List (DataW K)->List AV
 | [],_=>[]
 | s::r,l=>match l with | d::ds=>s.enc d++Sh.FW r ds | []=>[]
end
mutual
def Sh.wf {K:Type}:Sh->DataW K->Prop
 | .int k,d=>∃ k' n,d=.lit (.int k' n)/\(Lit.int k n).wf=true
 | .bool,d=>∃ b,d=.lit (.bool b)
 | .str,d=>∃ l,d=.lit (.string l)/\l.length<=maxLen
 | .sl e,d=>d=.nil∨∃ xs r,d=.slice xs r/\∀ x∈xs,Sh.wf e x
 | .st fs,d=>∃ ds,d=.agg ds/\Sh.wfL fs ds
def Sh.wfL {K:Type}:List Sh->List (DataW K)->Prop
 | [],l=>l=[]
 | s::r,l=>∃ d ds,l=d::ds/\Sh.wf s d/\Sh.wfL r ds
end
def Sh.P8 (P:Program):List Sh->List TypeId->Bool
 | [],[]=>true
 | s::r,t::ts=>s.ok P t&&Sh.P8 P r ts
 | _,_=>false
def Sh.abS {K:Type} (w:World):List Sh->List (DataW K)->List Value->Prop
 | s::r,d::ds,v::vs=>aA (s.enc d) (fun _=>vW w) E0 v.cells.toList/\Sh.abS w r ds vs
 | [],[],[]=>True
 | _,_,_=>False
theorem aA.app:∀ {a b:List AV} {H:HH} {E:Env} {xs ys:List Value},aA a H E xs->aA b H E ys->aA (a++b) H E (xs++ys)
 | [],_,_,_,_,_,h1,h2=>by
   simp only [aA] at h1
   subst h1;exact h2
 | _::_,_,_,_,_,_,h1,h2=>by
   obtain ⟨v,r,rfl,h3,h4⟩:=h1
   exact ⟨v,_,rfl,h3,aA.app h4 h2⟩
section
variable {K:Type} {enc:TypeId×Value->K} {P:Program} {w:World} {sp:Nat->Bool}
theorem O4 {a:Addr} {n:Nat} {cs:List Value} (h:w.cells? 0 a n=some cs):cs.length=n/\∀ j,j<n->w.cell? (a.add j)=cs[j]?:=by
 unfold World.cells? at h
 rw [if_pos (Nat.zero_le _)] at h
 refine ⟨by simpa using mapM_some_length h,fun j hj=>mapM_some_get h j j (by simp [hj])⟩
mutual
theorem vT:∀ (sh:Sh) {fuel:Nat} {t:TypeId} {cs:List Value} {x:DataW K×List MemPlace},sh.ok P t=true->DataW.trod enc P w 0 sp true fuel t cs=some x ->
 aA (sh.enc x.1) (fun _=>vW w) E0 cs/\(∀ v∈cs,v.oneCell'=true)/\sh.wf x.1
 | .int k,fuel,t,cs,x,hk,h=>by
   unfold Sh.ok at hk
   split at hk
   · rename_i k' hu
     have:=of_decide_eq_true hk
     subst this
     obtain ⟨n,rfl,rfl,hw⟩:=DataW.trod_int hu h
     exact ⟨⟨_,_,rfl,⟨rfl,rfl⟩,rfl⟩,fun v hv=>by simp at hv;subst hv;rfl,_,_,rfl,hw⟩
   · cases hk
 | .bool,fuel,t,cs,x,hk,h=>by
   unfold Sh.ok at hk
   split at hk
   · rename_i hu
     obtain ⟨n,rfl,rfl⟩:=DataW.trod_bool hu h
     exact ⟨⟨_,_,rfl,⟨rfl,rfl⟩,rfl⟩,fun v hv=>by simp at hv;subst hv;rfl,_,rfl⟩
   · cases hk
 | .str,fuel,t,cs,x,hk,h=>by
   unfold Sh.ok at hk
   split at hk
   · rename_i hu
     obtain ⟨s,rfl,rfl,hs⟩:=DataW.trod_string hu h
     exact ⟨⟨_,_,rfl,⟨by simp,rfl⟩,rfl⟩,fun v hv=>by simp at hv;subst hv;rfl,_,rfl,by simpa using hs⟩
   · cases hk
 | .sl e,fuel,t,cs,x,hk,h=>by
   unfold Sh.ok at hk
   split at hk
   · rename_i u hu
     rw [Bool.and_eq_true,Nat.beq_eq] at hk
     rcases DataW.trod_slice hu h with ⟨rfl,rfl⟩ | ⟨a,len,cap,elems,rest,n,rfl,rfl,rfl,_,hlc,_,hlen,hel,_,_⟩
     · exact ⟨⟨_,_,rfl,⟨none,0,rfl,⟨Nat.le_refl _,fun _=>rfl⟩,fun h=>absurd h (Nat.lt_irrefl _)⟩,rfl⟩,fun v hv=>by simp at hv;subst hv;rfl,Or.inl rfl⟩
     · refine ⟨⟨_,_,rfl,⟨some a,cap,by simp [hlen],⟨by simpa [hlen] using hlc,fun h=>by cases h⟩,fun _=>⟨a,rfl,fun k hk' j hj=>?_⟩⟩,rfl⟩,fun v hv=>by simp at hv;subst hv;rfl,Or.inr ⟨_,_,rfl,fun y hy=>?_⟩⟩
       case refine_2 =>
        obtain ⟨z,hz,rfl⟩:=List.mem_map.1 hy
        obtain ⟨i,hi,rfl⟩:=List.mem_iff_getElem.1 hz
        have h1:=hel i (by omega)
        rw [List.getElem?_eq_getElem hi,Option.bind_eq_some_iff] at h1
        obtain ⟨cs',hc,ht⟩:=h1
        exact (vT e hk.1 ht).2.2
       have hk2:k<elems.length:=by simpa using hk'
       have h1:=hel k (by omega)
       rw [List.getElem?_eq_getElem hk2,Option.bind_eq_some_iff] at h1
       obtain ⟨cs',hc,ht⟩:=h1
       obtain ⟨h2,h3,_⟩:=vT e hk.1 ht
       obtain ⟨h4,h5⟩:=O4 hc
       have hj':j<cs'.length:=by rw [h4,hk.2];exact hj
       have h6:=h5 j (by omega)
       rw [add_add',List.getElem?_eq_getElem hj',hk.2] at h6
       refine ⟨cs'[j],h6,h3 _ (List.getElem_mem hj'),?_⟩
       have h7:=bn h2 _ _ (List.getElem?_eq_getElem hj')
       have h8:(elems.map (·.1)).getD k .nil=elems[k].1:=by simp [hk2]
       show Rel (get (e.enc ((elems.map (·.1)).getD k .nil)) j) _ _ _
       rw [h8];exact h7
   · cases hk
 | .st fs,fuel,t,cs,x,hk,h=>by
   unfold Sh.ok at hk
   split at hk
   · rename_i l hu
     rw [Bool.and_eq_true,Nat.beq_eq] at hk
     obtain ⟨xs,n,rfl,rfl,hl,hxs,hf⟩:=DataW.trod_struct hu h
     have:=Ee fs (cs:=cs) (o:=0) (xs:=xs) (n:=n) hk.1 (by rw [hl,hk.2];omega) (by simpa using hxs) (fun i f hif=>hf i f (by simpa using hif))
     obtain ⟨h1,h2,h3⟩:=this
     exact ⟨by simpa [Sh.enc] using h1,by simpa using h2,_,rfl,h3⟩
   · cases hk
theorem Ee:∀ (fs:List Sh) {l:List Field} {o n:Nat} {cs:List Value} {xs:List (DataW K×List MemPlace)},Sh.Cb P fs l o=true->cs.length=o+Sh.Ea fs->xs.length=l.length ->
 (∀ (i:Nat) (f:Field),l[i]? = some f->DataW.trod enc P w 0 sp true n f.type ((cs.drop f.offset).take (P.cellsOf f.type))=xs[i]?) ->
 aA (Sh.FW fs (xs.map (·.1))) (fun _=>vW w) E0 (cs.drop o)/\(∀ v∈cs.drop o,v.oneCell'=true)/\Sh.wfL fs (xs.map (·.1))
 | [],l,o,n,cs,xs,hk,hl,hx,hf=>by
   have:cs.drop o=[]:=List.drop_eq_nil_of_le (by simp [Sh.Ea] at hl;omega)
   rw [this]
   refine ⟨rfl,fun v hv=>(by cases hv),?_⟩
   match l,hk with
   | [],_=>simpa [Sh.wfL] using hx
   | _::_,hk=>simp [Sh.Cb] at hk
 | s::r,l,o,n,cs,xs,hk,hl,hx,hf=>by
   match l,xs,hk,hx,hf with
   | [],_,hk,_,_=>simp [Sh.Cb] at hk
   | f::fs',x::xs',hk,hx,hf =>
     simp only [Sh.Cb,Bool.and_eq_true,Nat.beq_eq] at hk
     obtain ⟨h1,h2,h3,h4⟩:=hk
     have h5:=hf 0 f rfl
     rw [h1,h2] at h5
     obtain ⟨h6,h7,h10⟩:=vT s h3 h5
     obtain ⟨h8,h9,h11⟩:=Ee r (l:=fs') (o:=o+s.size) (n:=n) (cs:=cs) (xs:=xs') h4 (by simp [Sh.Ea] at hl;omega) (by simpa using hx) (fun i g hg=>hf (i+1) g hg)
     have e:cs.drop o=(cs.drop o).take s.size++cs.drop (o+s.size):=by
      rw [<- List.drop_drop,List.take_append_drop]
     rw [e]
     exact ⟨aA.app h6 h8,fun v hv=>by
      rcases List.mem_append.1 hv with hv | hv
      · exact h7 v hv
      · exact h9 v hv,_,_,rfl,h10,h11⟩
end
theorem GV:∀ (shs:List Sh) {ts:List TypeId} {vs:List Value} {ds:List (DataW K)} {ps:List MemPlace},Sh.P8 P shs ts=true->DataW.TrodAll enc P w 0 sp true ts vs ds ps ->
 Sh.abS w shs ds vs/\Sh.wfL shs ds
 | [],[],_,_,_,_,h=>by
   obtain ⟨rfl,rfl,_⟩:=trodAll_nil h
   exact ⟨trivial,rfl⟩
 | [],_::_,_,_,_,hk,_=>by simp [Sh.P8] at hk
 | _::_,[],_,_,_,hk,_=>by simp [Sh.P8] at hk
 | s::r,t::ts,vs,ds,ps,hk,h=>by
   simp only [Sh.P8,Bool.and_eq_true] at hk
   obtain ⟨v,vs',d,ds',p,q,rfl,rfl,rfl,⟨n,h1⟩,h2⟩:=trodAll_cons h
   obtain ⟨h3,h4,h5⟩:=vT s hk.1 h1
   obtain ⟨h6,h7⟩:=GV r hk.2 h2
   exact ⟨⟨h3,h6⟩,_,_,rfl,h5,h7⟩
theorem sZ {w':World}:∀ {ts:List TypeId} {vs:List Value} {ds:List (DataW K)} {ps:List MemPlace},DataW.TrodAll enc P w 0 sp true ts vs ds ps->(∀ p∈ps,w.sameAt w' p)->DataW.TrodAll enc P w' 0 sp true ts vs ds ps
 | [],[],[],_,h,_=>h
 | _::_,_::_,_::_,_,⟨p,q,⟨n,h1⟩,h2,e⟩,hs=>⟨p,q,⟨n,DataW.trod_carry n _ _ _ h1 fun x hx=>hs x (by rw [e];exact List.mem_append_left _ hx)⟩,sZ h2 (fun x hx=>hs x (by rw [e];exact List.mem_append_right _ hx)),e⟩
def oF (P:Program):Bool:=(List.range P.types.size).all fun t=>match P.underlying t with | some (.slice e)=>decide (0<P.cellsOf e) | _=>true
theorem E8 (h:oF P=true):∀ t e,t<P.types.size->P.underlying t=some (.slice e)->0<P.cellsOf e:=by
 intro t e ht hu
 have:=List.all_eq_true.1 h t (List.mem_range.2 ht)
 rw [hu] at this
 exact of_decide_eq_true this
theorem OW {fn:Func} {s:ChangeSpec} {t:TypeId} {apart:Bool} {w':World} {args:Array Value} {ds gs:List (DataW K)} {before:List MemPlace} {mv:List Nat} {H H':HH} {E':Env} (hr:fn.resultTypes.toList=[t])
 (ht:P.underlying t=some .bool) (hv:s.vars=[]) (hs:s.fn K ds={ results:=[.lit (.bool true)],args:=ds }) (hl:laidOutB P=true) (hm:mapsRowed P=true) (hz:oF P=true) (hts:∀ t∈fn.params.toList,t<P.types.size)
 (hW:DataW.Whole enc P fn.params.toList s.vars apart w args.toList ds gs before) (hE:bF mv H E0 w H' E' w') :
 s.post enc P fn apart true false false w args (.bool true) w':=by
 have hlt:=hW.lt
 have hW':=hW
 obtain ⟨p,q,hA,hV,rfl,hfz,hnd⟩:=hW
 rw [hv] at hV
 obtain ⟨rfl,rfl⟩:=trodVars_none hV
 have hsz:fn.resultTypes.size=1:=by rw [<- Array.length_toList,hr];rfl
 have e0:s.fn K (ds++[])={ results:=[.lit (.bool true)],args:=ds }:=by rw [List.append_nil];exact hs
 refine ⟨ds,[],_,[],p,[],hW',?_,?_,?_,O5 hE _,fun h=>by cases h⟩
 · rw [e0,hr,hsz]
   exact trodAll_mk1 (shut_bool ht true)
 · rw [e0]
   refine sZ (DataW.TrodAll.respare (kids_rows hl hm) (E8 hz) hts hA fun x hx=>?_) fun x hx=>?_
   · have:=hlt x (by simpa using hx)
     simpa using this
   · have hb:=hlt x (by simpa using hx)
     have hk:=hE.keep x.block hb fun j hj=>oV hj
     cases x with
     | cell b off =>
       have hk':w'.heap[b]? = w.heap[b]?:=hk
       show w'.cell? ⟨b,off,none⟩=w.cell? ⟨b,off,none⟩
       unfold World.cell?
       dsimp only
       rw [hk']
     | map b=>exact hk
 · rw [e0,hv];rfl
theorem KS {f:FuncId} {fn:Func} {s:ChangeSpec} {t:TypeId} {apart:Bool} {args:Array Value} {ds gs:List (DataW K)} {before:List MemPlace} {avs:List AV} {M:List ay} {mv:List Nat} (h:dD P f avs [] (.y (.bool true)) M mv) (hrel:aA avs (fun _=>vW w) E0 args.toList)
 (hr:fn.resultTypes.toList=[t]) (ht:P.underlying t=some .bool) (hv:s.vars=[]) (hs:s.fn K ds={ results:=[.lit (.bool true)],args:=ds }) (hl:laidOutB P=true) (hm:mapsRowed P=true) (hz:oF P=true) (hts:∀ t∈fn.params.toList,t<P.types.size)
 (hW:DataW.Whole enc P fn.params.toList s.vars apart w args.toList ds gs before) (hg:ag1 w:=by exact fun _ h=>by cases h) :
 Calls P f args w fun e w'=>∃ v,e=.returned v/\s.post enc P fn apart true false false w args v w':=by
 refine (h (fun _=>vW w) E0 w args (BG (fun b o hb=>hb) ⟨fun b o hb=>hb,hg⟩) hrel).mono ?_
 rintro e w' ⟨v,H',E',rfl,hr',hC',hE'⟩
 obtain ⟨rfl,_⟩:=hr'
 exact ⟨_,rfl,OW hr ht hv hs hl hm hz hts hW hE'⟩
end
def xk {K:Type} (e:Sh):DataW K->AV
 | .slice xs _=>.ys true e.size xs.length (fun k j=>get (Sh.enc e (xs.getD k .nil)) j)
 | _=>.ys true e.size 0 (fun _ _=>.junk)
theorem zh {K:Type} (e:Sh) (d:DataW K):(Sh.sl e).enc d=[xk e d]:=by cases d<;>rfl
def bU {K α:Type} (to:DataW K->α):DataW K->List α
 | .slice xs _=>xs.map to
 | _=>[]
theorem FH {K α:Type} [Inhabited α] {e:Sh} {encA:α->List AV} {to:DataW K->α} (hto:∀ x,e.wf x->e.enc x=encA (to x)) {d:DataW K} (hd:(Sh.sl e).wf d) {H:HH} {E:Env} {v:Value} (h:Rel (xk e d) H E v) :
 Rel (.ys true e.size (bU to d).length (ah encA (bU to d))) H E v:=by
 rcases hd with rfl | ⟨xs,r,rfl,hx⟩
 · obtain ⟨a,cap,h1,h2,_⟩:=h
   exact ⟨a,cap,h1,h2,fun h=>absurd h (Nat.lt_irrefl _)⟩
 · obtain ⟨a,cap,h1,h2,h3⟩:=h
   refine ⟨a,cap,by simpa [bU] using h1,by simpa [bU] using h2,fun h0=>?_⟩
   obtain ⟨ad,h4,h5⟩:=h3 (by simpa [bU] using h0)
   refine ⟨ad,h4,fun k hk j hj=>?_⟩
   have hk':k<xs.length:=by simpa [bU] using hk
   obtain ⟨x,h6,h7,h8⟩:=h5 k hk' j hj
   refine ⟨x,h6,h7,?_⟩
   have e1:xs.getD k .nil=xs[k]:=by simp [hk']
   have e2:(bU to (DataW.slice xs r)).getD k default=to xs[k]:=by simp [bU,hk']
   show Rel (get (encA ((bU to (DataW.slice xs r)).getD k default)) j) _ _ _
   rw [e2,<- hto _ (hx _ (List.getElem_mem hk')),<- e1]
   exact h8
theorem gF {K:Type} {P:Program} {t:TypeId} {ts:List TypeId} {d:DataW K} {ds:List (DataW K)} (h:(DataW.weightsEach P (t::ts) (d::ds)).all (·<=reachBytes)=true):(d.weights P t).all (·<=reachBytes)=true/\(DataW.weightsEach P ts ds).all (·<=reachBytes)=true:=by
 rw [DataW.weightsEach,List.all_append,Bool.and_eq_true] at h
 exact h
theorem zB {K:Type} {P:Program} {t:TypeId} {fs:Array Field} {ds:List (DataW K)} (hu:P.underlying t=some (.struct fs)) (h:((DataW.agg ds).weights P t).all (·<=reachBytes)=true):(DataW.weightsEach P (fs.toList.map (·.type)) ds).all (·<=reachBytes)=true:=by
 rw [DataW.weights,hu] at h
 exact h
theorem kg {K α:Type} {P:Program} {t u:TypeId} (to:DataW K->α) {d:DataW K} (hu:P.underlying t=some (.slice u)) (h:(d.weights P t).all (·<=reachBytes)=true):(bU to d).length*P.bytesOf u<=140737488351232:=by
 cases d
 case slice xs r =>
  rw [DataW.weights,hu] at h
  simp only [List.all_cons,Bool.and_eq_true,decide_eq_true_eq] at h
  have h1:=h.1
  rw [Nat.add_mul] at h1
  simp only [bU,List.length_map]
  unfold reachBytes at h1
  omega
 all_goals simp [bU]
theorem ZL {P:Program} {f:FuncId} {avs:List AV} (h:(T.ret (AV.y (.bool true),([]:List ay),([]:List Nat))).Sat (aB P f avs [])):dD P f avs [] (.y (.bool true)) [] []:=by
 obtain ⟨a,ha,rfl⟩:=h (fun a=>a=(AV.y (.bool true),[],[])) rfl
 exact ha
end Go.Ax

namespace Go.Ax
open Go Go.RowKit
variable [Inhabited jZ]
theorem Kt {H:HH} {E:Env} {w w':World} {M:List ay} (hC:Conc H E w M) (hb:Below w.heap.size w w'):Conc H E w' M/\bF [] H E w H E w':=by
 refine ⟨⟨fun b o hx=>(hb.block b (IH.p8 hC.imm hx)).trans (hC.imm b o hx),hC.tf,fun i=>?_,hC.injH,hC.sepH,fun i b hl hx=>Nat.lt_of_lt_of_le (hC.ltS i b hl hx) hb.size⟩,⟨hb.os,hb.tape,hb.output,hb.size,fun c hc _=>hb.block c hc,fun j c hj=>.inl ⟨j,hj⟩,HH.le_refl _,fun _ _ _ hx=>.inl hx,fun _ hx _=>⟨hx,rfl,rfl,rfl⟩⟩⟩
 have:=(hC.blk i).move (f:=some) (H':=H) (E':=E) (w':=w') (i':=i) (HH.le_refl _) (fun a c hc hl=>by cases hc;exact ⟨hl,rfl,rfl,rfl⟩) rfl rfl rfl rfl (fun _=>Iff.rfl) fun b he=>hb.block b (hC.o9 he)
 rwa [eD] at this
theorem Lm {P:Program} {f:FuncId} {args:List AV} {r:AV} (h:∀ (w:World) (vals:Array Value),(∃ H E,aA args H E vals.toList)->Calls P f vals w fun e w'=>∃ v,e=.returned v/\(∀ H E,Rel r H E v)/\Below w.heap.size w w'):(T.ret (r,[],[]):T An).Sat (aB P f args []):=by
 refine T.Sat.ret fun H E w vals hC hargs=>?_
 refine (h w vals ⟨H,E,hargs⟩).mono ?_
 rintro e w' ⟨v,he,hr,hb⟩
 obtain ⟨h1,h2⟩:=Kt hC hb
 exact ⟨v,H,E,he,hr H E,h1,h2⟩
theorem G7 {K α:Type} [Inhabited α] {e:Sh} {encA:α->List AV} {to:DataW K->α} (hto:∀ x,e.wf x->∀ j,j<e.size->∀ H E v,Rel (get (e.enc x) j) H E v->Rel (get (encA (to x)) j) H E v) {d:DataW K} (hd:(Sh.sl e).wf d) {H:HH} {E:Env} {v:Value} (h:Rel (xk e d) H E v) :
 Rel (.ys true e.size (bU to d).length (ah encA (bU to d))) H E v:=by
 rcases hd with rfl | ⟨xs,r,rfl,hx⟩
 · obtain ⟨a,cap,h1,h2,_⟩:=h
   exact ⟨a,cap,h1,h2,fun h=>absurd h (Nat.lt_irrefl _)⟩
 · obtain ⟨a,cap,h1,h2,h3⟩:=h
   refine ⟨a,cap,by simpa [bU] using h1,by simpa [bU] using h2,fun h0=>?_⟩
   obtain ⟨ad,h4,h5⟩:=h3 (by simpa [bU] using h0)
   refine ⟨ad,h4,fun k hk j hj=>?_⟩
   have hk':k<xs.length:=by simpa [bU] using hk
   obtain ⟨x,h6,h7,h8⟩:=h5 k hk' j hj
   refine ⟨x,h6,h7,?_⟩
   have e1:xs.getD k .nil=xs[k]:=by simp [hk']
   have e2:(bU to (DataW.slice xs r)).getD k default=to xs[k]:=by simp [bU,hk']
   show Rel (get (encA ((bU to (DataW.slice xs r)).getD k default)) j) _ _ _
   rw [e2]
   have h8:Rel (get (e.enc (xs.getD k .nil)) j) (H.at true) E0 x:=h8
   rw [e1] at h8
   exact hto _ (hx _ (List.getElem_mem hk')) j hj _ _ _ h8
end Go.Ax

namespace Go.Ax
open Go
variable [Inhabited jZ]
def jR (P:Program) (ht:aC P) (f:Nat) (args:List AV) (M:List ay) (t:T An):Prop :=
 (O8 P true (rC P ht 300) f args M).post fun a=>t.post fun b=>Oa a b
theorem jo {P:Program} (hm:P.follows .mixedOrders=true) {ht:aC P} {f:Nat} {args:List AV} {M:List ay} {t:T An} (hd:t.Mq=true) (h:jR P ht f args M t):t.Sat (aB P f args M) :=
 (zq (lX hm 300)).FV hd (fun _ _=>F3) h
theorem dD.aic {P:Program} {f:FuncId} {args:List AV} {r:AV} {M0 M:List ay} {mv:List Nat} {L:List Nat} (h:dD P f args M0 r M mv) (hL:nodup L=true) (hp:∀ i,i<len M0->i∈mv∨L[i]? = some i):dD P f args M0 (ren (idx L) r) (pick L M L) mv:=by
 intro H E w vals hC hargs
 refine (h H E w vals hC hargs).mono ?_
 rintro e w1 ⟨v,H1,E1,rfl,hr,hC1,hE1⟩
 have hvia:E1.via (E1.pull L) (idx L):=fun i j hij hl=>by
  have:=FP hij
  simp [Env.pull,this,hl]
 refine ⟨v,H1,E1.pull L,rfl,Rel.ren _ hvia hr,⟨hC1.imm,hC1.tf,fun j=>?_,fun i j b hi hj=>?_,fun i b hi=>?_,fun i b hi hib=>?_⟩,⟨hE1.os,hE1.tape,hE1.output,hE1.size,hE1.keep,fun i b hi=>?_,hE1.hh,hE1.new,fun i hl hmv=>?_⟩⟩
 · rw [rY]
   cases hj:L[j]? with
   | none=>simp only [Env.pull,bV,hj]
   | some i =>
     simp only []
     refine (hC1.blk i).move (HH.le_refl _) hvia ?_ ?_ ?_ ?_ (fun b=>?_) fun _ _=>rfl<;>simp_all [Env.pull]
 · obtain ⟨x,hx,h1⟩:=Env.fQ hi
   obtain ⟨y,hy,h2⟩:=Env.fQ hj
   have:=hC1.injH x y b h1 h2
   subst this
   exact wo hL i j x hx hy
 · obtain ⟨x,hx,h1⟩:=Env.fQ hi
   exact hC1.sepH x b h1
 · obtain ⟨x,hx,h1⟩:=Env.fQ ⟨hi,.inr hib⟩
   exact hC1.o9 h1
 · obtain ⟨x,hx,h1⟩:=Env.fQ hi
   exact hE1.own x b h1
 · have hi:i<len M0:=by
    rcases Nat.lt_or_ge i (len M0) with h | h
    · exact h
    · have:=hC.blk i
      rw [jK _ _ h] at this
      rw [show E.lv i=false from this] at hl;cases hl
   have:=hE1.ids i hl hmv
   simp only [Env.pull,(hp i hi).resolve_left hmv]
   exact this
def MK (mv L:List Nat):Nat->Bool
 | 0=>true
 | n+1=>(mem mv n||(match L[n]? with | some i=>Nat.beq i n | none=>false))&&MK mv L n
theorem Gq {mv L:List Nat}:∀ {n:Nat},MK mv L n=true->∀ i,i<n->i∈mv∨L[i]? = some i
 | n+1,h,i,hi=>by
   simp only [MK,Bool.and_eq_true,Bool.or_eq_true] at h
   by_cases e:i=n
   · subst e
     rcases h.1 with h1 | h1
     · exact .inl (mem_iff.1 h1)
     · right
       split at h1
       · rename_i j hj
         rw [hj,Nat.eq_of_beq_eq_true h1]
       · cases h1
   · exact Gq h.2 i (by omega)
theorem dD.more {P:Program} {f:FuncId} {args:List AV} {r:AV} {M0 M:List ay} {mv:List Nat} (K:List Nat) (h:dD P f args M0 r M mv):dD P f args M0 r M (mv++K):=by
 intro H E w vals hC hargs
 refine (h H E w vals hC hargs).mono ?_
 rintro e w1 ⟨v,H1,E1,rfl,hr,hC1,hE1⟩
 exact ⟨v,H1,E1,rfl,hr,hC1,hE1.weak fun i hi=>List.mem_append_left _ hi⟩
def R3 (n:Nat) (L K:List Nat) (a:An):T An:=match nodup L&&MK (a.2.2++K) L n with
 | true=>.ret (ren (idx L) a.1,pick L a.2.1 L,a.2.2++K)
 | false=>.fail
theorem QG {P:Program} {f:FuncId} {args:List AV} {M:List ay} {L K:List Nat} {a:An} (h:aB P f args M a):(R3 (len M) L K a).Sat (aB P f args M):=by
 unfold R3
 split
 · rename_i hb
   simp only [Bool.and_eq_true] at hb
   exact T.Sat.ret (dD.aic (dD.more K h) hb.1 (Gq hb.2))
 · exact T.Sat.fail
def QN (P:Program) (ht:aC P) (L K:List Nat) (f:Nat) (args:List AV) (M:List ay) (t:T An):Prop :=
 ((O8 P true (rC P ht 300) f args M).bind (R3 (len M) L K)).post fun a=>t.post fun b=>Oa a b
theorem Zo {P:Program} (hm:P.follows .mixedOrders=true) {ht:aC P} {L K:List Nat} {f:Nat} {args:List AV} {M:List ay} {t:T An} (hd:t.Mq=true) (h:QN P ht L K f args M t):t.Sat (aB P f args M) :=
 ((zq (lX hm 300)).bind fun _ ha=>QG ha).FV hd (fun _ _=>F3) h
def Ur {P:Program} {ρ:Go.Shelf.Ren} {sz bytes:Nat} {zv:Value} {nm:String} (h:aC P) (L:nD P ρ sz bytes zv nm):aC P :=
 { h with
  ct:=fun g args M=>match Nat.beq g (ρ.f 22) with
   | true=>(match RA (ρ.t 9) sz bytes args M with
     | some (r,M',mv,_)=>some (.ret (r,M',mv))
     | none=>h.ct g args M)
   | false=>h.ct g args M
  ctOk:=fun g args M t e=>by
   split at e
   · rename_i hg
     split at e
     · rename_i r M' mv ob hi
       cases e
       rw [Nat.eq_of_beq_eq_true hg]
       exact T.Sat.ret (U7 L hi)
     · exact h.ctOk _ _ _ _ e
   · exact h.ctOk _ _ _ _ e }
def WK (P:Program) (sh:FuncId->Nat->Nat->Nat):aC P:={ dO (hT P) sh with sub:=fun _=>true,gc:=true }
end Go.Ax
