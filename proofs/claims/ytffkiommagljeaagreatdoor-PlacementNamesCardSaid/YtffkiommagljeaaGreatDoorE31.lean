import Derived.Test.YtffkiommagljeaaGreatDoorE21
set_option linter.unusedVariables false
set_option linter.unusedSimpArgs false
set_option linter.unusedSectionVars false
namespace Go.Ax
open Go
variable [Inhabited Gl0]
def Env.give (E:Env) (i d:Nat) (b:Option Nat) (κ η:Nat):Env :=
 ⟨fun j=>if j=d then true else E.lv j,fun j=>if j=d then b else E.ι j,fun j=>if j=d then κ else E.κ j,fun j=>if j=d then η else E.η j,
  fun j x=>j≠d/\E.σ j x/\(j=i->b≠some x)⟩
theorem Env.give_same (E:Env) (i d:Nat) (b:Option Nat) (κ η:Nat):(E.give i d b κ η).lv d=true/\(E.give i d b κ η).ι d=b/\(E.give i d b κ η).κ d=κ/\(E.give i d b κ η).η d=η:=by simp [Env.give]
theorem Env.give_ne (E:Env) (i d j:Nat) (b:Option Nat) (κ η:Nat) (h:j≠d):(E.give i d b κ η).lv j=E.lv j/\(E.give i d b κ η).ι j=E.ι j/\(E.give i d b κ η).κ j=E.κ j/\(E.give i d b κ η).η j=E.η j:=by simp [Env.give,h]
structure Opn (i:Nat) (S:Nat->Prop) (E E':Env):Prop where
 ids:∀ j,E.lv j=true->E'.lv j=true/\E'.ι j=E.ι j/\E'.κ j=E.κ j/\E'.η j=E.η j
 keep:∀ j,E.lv j=true->j≠i->∀ x,E'.σ j x↔E.σ j x
 sub:∀ x,E'.σ i x->E.σ i x
 rest:∀ x,E.σ i x->¬ S x->E'.σ i x
theorem Opn.refl (i:Nat) (S:Nat->Prop) (E:Env):Opn i S E E:=⟨fun _ h=>⟨h,rfl,rfl,rfl⟩,fun _ _ _ _=>Iff.rfl,fun _ h=>h,fun _ h _=>h⟩
theorem Opn.via {i:Nat} {S:Nat->Prop} {E E':Env} (h:Opn i S E E'):E.via E' some:=fun a c hc hl=>by cases hc;exact h.ids a hl
theorem Opn.trans {i:Nat} {S S1 S2:Nat->Prop} {E E1 E2:Env} (h:Opn i S1 E E1) (k:Opn i S2 E1 E2) (h1:∀ x,S1 x->S x) (h2:∀ x,S2 x->S x):Opn i S E E2 where
 ids:=fun j hl=>by
  obtain ⟨a1,a2,a3,a4⟩:=h.ids j hl
  obtain ⟨b1,b2,b3,b4⟩:=k.ids j a1
  exact ⟨b1,b2.trans a2,b3.trans a3,b4.trans a4⟩
 keep:=fun j hl hj x=>(k.keep j (h.ids j hl).1 hj x).trans (h.keep j hl hj x)
 sub:=fun x hx=>h.sub x (k.sub x hx)
 rest:=fun x hx hn=>k.rest x (h.rest x hx fun hs=>hn (h1 x hs)) fun hs=>hn (h2 x hs)
theorem Conc.split {H:HH} {E:Env} {w:World} {M:List Blk} (hC:Conc H E w M) {i d κ η:Nat} {bo:Option Nat} {B:Blk} (hd:getM M d=.dead) (hi:getM M i=.any) (hσ:∀ b,bo=some b->E.σ i b) (hroot:∀ x,E.ι i=some x->¬ E.σ i x)
 (hB:BlkOk H (E.give i d bo κ η) w d B):Conc H (E.give i d bo κ η) w (putM M d B)/\Evol [] H E w H (E.give i d bo κ η) w/\Opn i (fun x=>bo=some x) E (E.give i d bo κ η):=by
 have hdead:E.lv d=false:=by have:=hC.blk d;rw [hd] at this;exact this
 have hli:E.lv i=true:=by have:=hC.blk i;rw [hi] at this;exact this.1
 have hne:∀ j,E.lv j=true->j≠d:=by rintro j hj rfl;rw [hdead] at hj;cases hj
 have hid:=hne i hli
 have hop:Opn i (fun x=>bo=some x) E (E.give i d bo κ η):=by
  refine ⟨fun j hl=>?_,fun j hl hj x=>?_,fun x hx=>hx.2.1,fun x hx hn=>⟨hid,hx,fun _=>hn⟩⟩
  · obtain ⟨e1,e2,e3,e4⟩:=E.give_ne i d j bo κ η (hne j hl)
    exact ⟨e1.trans hl,e2,e3,e4⟩
  · exact ⟨fun h=>h.2.1,fun h=>⟨hne j hl,h,fun e=>absurd e hj⟩⟩
 have hhas:∀ j x,(E.give i d bo κ η).has j x->(j=d/\bo=some x/\E.has i x)∨(j≠d/\E.has j x/\(j=i->bo≠some x)):=by
  rintro j x ⟨h1,h2⟩
  by_cases hj:j=d
  · subst hj
    rcases h2 with h2 | h2
    · have h2:bo=some x:=by simpa [Env.give] using h2
      exact .inl ⟨rfl,h2,hli,.inr (hσ x h2)⟩
    · exact absurd rfl h2.1
  · obtain ⟨e1,e2,_⟩:=E.give_ne i d j bo κ η hj
    rcases h2 with h2 | h2
    · refine .inr ⟨hj,⟨e1 ▸ h1,.inl (e2 ▸ h2)⟩,?_⟩
      rintro rfl hb
      exact hroot x (e2 ▸ h2) (hσ x hb)
    · exact .inr ⟨hj,⟨e1 ▸ h1,.inr h2.2.1⟩,h2.2.2⟩
 refine ⟨⟨hC.imm,hC.tf,fun j=>?_,fun a c x ha hc=>?_,fun a x ha=>?_,fun a x ha hx=>?_⟩,⟨rfl,rfl,rfl,Nat.le_refl _,fun _ _ _=>rfl,fun a x ha=>?_,HH.le_refl _,fun _ _ _ h=>.inl h,fun j hl _=>hop.ids j hl⟩,hop⟩
 · by_cases hj:d=j
   · subst hj;rw [getM_put_same];exact hB
   · rw [getM_put_ne _ _ _ _ hj]
     have hj':j≠d:=fun e=>hj e.symm
     obtain ⟨e1,e2,e3,e4⟩:=E.give_ne i d j bo κ η hj'
     by_cases hji:j=i
     · subst hji
       rw [hi]
       have:=hC.blk j
       rw [hi] at this
       obtain ⟨g1,b,o,g2,g3⟩:=this
       exact ⟨e1.trans g1,b,o,e2.trans g2,g3⟩
     · have:=(hC.blk j).move (f:=some) (H':=H) (E':=E.give i d bo κ η) (w':=w) (i':=j) (HH.le_refl _) hop.via e1 e2 e3 e4 (fun x=>by simp [Env.give,hj',hji]) fun _ _=>rfl
       rwa [renB_some] at this
 · rcases hhas a x ha with ⟨rfl,a1,a2⟩ | ⟨a0,a1,a2⟩<;>rcases hhas c x hc with ⟨rfl,b1,b2⟩ | ⟨b0,b1,b2⟩
   · rfl
   · have:=hC.injH i c x a2 b1
     exact absurd a1 (b2 this.symm)
   · have:=hC.injH a i x a1 b2
     exact absurd b1 (a2 this)
   · exact hC.injH a c x a1 b1
 · rcases hhas a x ha with ⟨rfl,a1,a2⟩ | ⟨a0,a1,a2⟩
   · exact hC.sepH i x a2
   · exact hC.sepH a x a1
 · rcases hhas a x ⟨ha,.inr hx⟩ with ⟨rfl,a1,a2⟩ | ⟨a0,a1,a2⟩
   · exact hC.ltH a2
   · exact hC.ltH a1
 · rcases hhas a x ha with ⟨rfl,a1,a2⟩ | ⟨a0,a1,a2⟩
   · exact .inl ⟨i,a2⟩
   · exact .inl ⟨a,a1⟩
def avOf:Tr->AV
 | .av a=>a
 | _=>.junk
theorem avOf_ok {H:HH} {hp:Nat->Option Obj} {t:Tr} {v:Value} {S:Nat->Prop} (h:TrOk H hp t v S):Rel (avOf t) H E0 v:=by
 cases t with
 | av a=>exact h
 | _=>trivial
mutual
def openV:Tr->Nat->AV×List Blk
 | .av a,_=>(a,[])
 | .box ty sz cs,d=>(.ptr (d+len (openL cs d).2) 0 sz 0,(openL cs d).2++[.box ty (openL cs d).1])
 | .row ty sz n c,d=>(.own d sz 0 n,[.row ty sz n none fun k j=>avOf (c k j)])
 | .frow ty sz n c,d=>(.own d sz 0 n,[.row ty sz n none c])
def openL:List Tr->Nat->List AV×List Blk
 | [],_=>([],[])
 | t::ts,d=>((openV t d).1::(openL ts (d+len (openV t d).2)).1,(openV t d).2++(openL ts (d+len (openV t d).2)).2)
end
def puts:List Blk->Nat->List Blk->List Blk
 | M,_,[]=>M
 | M,d,B::r=>puts (putM M d B) (d+1) r
theorem getM_puts:∀ (L M:List Blk) (d j:Nat),getM (puts M d L) j=if d<=j/\j<d+len L then getM L (j - d) else getM M j
 | [],M,d,j=>by
   have h:¬ (d<=j/\j<d+len ([]:List Blk)):=by simp [len]
   rw [if_neg h];rfl
 | B::r,M,d,j=>by
   simp only [puts]
   rw [getM_puts r]
   by_cases h1:d=j
   · subst h1
     rw [if_neg (by omega),getM_put_same,if_pos ⟨Nat.le_refl _,by simp [len]⟩]
     simp [getM]
   · by_cases h2:d+1<=j/\j<d+1+len r
     · rw [if_pos h2,if_pos (by simp [len];omega)]
       obtain ⟨m,rfl⟩:∃ m,j=d+1+m:=⟨j - (d+1),by omega⟩
       have e1:d+1+m - (d+1)=m:=by omega
       have e2:d+1+m - d=m+1:=by omega
       rw [e1,e2];rfl
     · rw [if_neg h2,if_neg (by simp [len];omega),getM_put_ne _ _ _ _ h1]
theorem puts_append:∀ (L R M:List Blk) (d:Nat),puts M d (L++R)=puts (puts M d L) (d+len L) R
 | [],R,M,d=>rfl
 | B::r,R,M,d=>by
   simp only [List.cons_append,puts,puts_append r,len]
   congr 1
   omega
theorem Evol.trans0 {H H1 H2:HH} {E E1 E2:Env} {w w1 w2:World} (h:Evol [] H E w H1 E1 w1) (k:Evol [] H1 E1 w1 H2 E2 w2):Evol [] H E w H2 E2 w2:=h.trans k fun _ h=>h
structure Pool (H:HH) (E:Env) (w:World) (M:List Blk) (i d top:Nat):Prop where
 conc:Conc H E w M
 any:getM M i=.any
 lt:i<d
 dead:∀ k,d<=k->k<top->getM M k=.dead
 root:∀ x,E.ι i=some x->¬ E.σ i x
theorem Pool.next {H:HH} {E E':Env} {w:World} {M:List Blk} {i d top:Nat} {S:Nat->Prop} {L:List Blk} (h:Pool H E w M i d top) (hC:Conc H E' w (puts M d L)) (ho:Opn i S E E'):Pool H E' w (puts M d L) i (d+len L) top where
 conc:=hC
 any:=by rw [getM_puts,if_neg (by have:=h.lt;omega)];exact h.any
 lt:=by have:=h.lt;omega
 dead:=fun k hk ht=>by rw [getM_puts,if_neg (by omega)];exact h.dead k (by omega) ht
 root:=fun x hx hs=>by
  have hl:E.lv i=true:=by have:=h.conc.blk i;rw [h.any] at this;exact this.1
  have:=(ho.ids i hl).2.1
  exact h.root x (this ▸ hx) (ho.sub x hs)
mutual
theorem openV_ok {H:HH} {w:World} {i top:Nat}:∀ (t:Tr) {E:Env} {M:List Blk} {d:Nat} {S:Nat->Prop} {v:Value},Pool H E w M i d top->d+len (openV t d).2<=top->(∀ x,S x->E.σ i x)->TrOk H (fun b=>w.heap[b]?) t v S ->
 ∃ E',Conc H E' w (puts M d (openV t d).2)/\Evol [] H E w H E' w/\Opn i S E E'/\Rel (openV t d).1 H E' v
 | .av a,E,M,d,S,v,hp,_,_,h=>⟨E,hp.conc,Evol.refl _ _ _ _,Opn.refl _ _ _,Rel.env (fun a c hc hl=>by simp [E0] at hl) h⟩
 | .box ty sz cs,E,M,d,S,v,hp,htop,hS,h=>by
   obtain ⟨b,vs,rfl,h2,h3,h4,h5⟩:=h
   have hlen:∀ A B:List Blk,len (A++B)=len A+len B:=fun A B=>by simp [len_eq]
   simp only [openV,hlen,len] at htop
   obtain ⟨E1,g1,g2,g3,g4⟩:=openL_ok cs hp (by omega) (fun x hx=>hS x hx.1) h5
   have hq:=hp.next g1 g3
   generalize hd':d+len (openL cs d).2=d' at *
   have hdd:getM (puts M d (openL cs d).2) d'=.dead:=by rw [getM_puts,if_neg (by omega)];exact hp.dead d' (by omega) (by omega)
   have hb1:E1.σ i b:=g3.rest b (hS b h2) fun hx=>hx.2 rfl
   obtain ⟨s1,s2,s3,s4⟩:=E1.give_same i d' (some b) 0 0
   have hlt:=hp.lt
   have hdead1:E1.lv d'=false:=by have:=g1.blk d';rw [hdd] at this;exact this
   have hvia:E1.via (E1.give i d' (some b) 0 0) some:=fun a c hc hl=>by
    cases hc
    have:a≠d':=by rintro rfl;rw [hdead1] at hl;cases hl
    obtain ⟨e1,e2,e3,e4⟩:=E1.give_ne i d' a (some b) 0 0 this
    exact ⟨e1.trans hl,e2,e3,e4⟩
   obtain ⟨c1,c2,c3⟩:=g1.split (κ:=0) (η:=0) (bo:=some b) (B:=.box ty (openL cs d).1) hdd hq.any (fun x hx=>by cases hx;exact hb1) hq.root
    ⟨s1,b,vs,s2,h3,h4,RelL.env hvia g4⟩
   refine ⟨_,?_,g2.trans0 c2,g3.trans c3 (fun x hx=>hx.1) (fun x hx=>by cases hx;exact h2),?_⟩
   · simp only [openV,puts_append,puts,hd']
     exact c1
   · simp only [openV,hd']
     exact ⟨s1,b,s2,by simp⟩
 | .row ty sz n c,E,M,d,S,v,hp,htop,hS,h=>by
   simp only [openV,len] at htop
   obtain ⟨κ,h1,h2,⟨rfl,rfl,rfl⟩ | ⟨b,vs,rfl,h4,h5,h6,h7,F,h8,h9,h10⟩⟩:=h
   · obtain ⟨s1,s2,s3,s4⟩:=E.give_same i d none 0 0
     obtain ⟨c1,c2,c3⟩:=hp.conc.split (κ:=0) (η:=0) (bo:=none) (B:=.row ty sz 0 none fun k j=>avOf (c k j)) (hp.dead d (Nat.le_refl _) (by omega)) hp.any (fun x hx=>by cases hx) hp.root
      ⟨s1,by rw [s3,s4];exact ⟨rfl,Nat.le_refl _⟩,by rw [s3];exact Nat.zero_le _,(fun q hq=>by cases hq),by rw [s2];exact s3⟩
     exact ⟨_,c1,c2,(Opn.refl i S E).trans c3 (fun _ h=>h) (fun x hx=>by cases hx),⟨s1,by rw [s3,s4];exact ⟨Nat.le_refl _,Nat.le_refl _⟩,by rw [s2];exact ⟨rfl,rfl,rfl⟩⟩⟩
   · obtain ⟨s1,s2,s3,s4⟩:=E.give_same i d (some b) κ n
     obtain ⟨c1,c2,c3⟩:=hp.conc.split (κ:=κ) (η:=n) (bo:=some b) (B:=.row ty sz n none fun k j=>avOf (c k j)) (hp.dead d (Nat.le_refl _) (by omega)) hp.any (fun x hx=>by cases hx;exact hS b h4) hp.root
      ⟨s1,by rw [s3,s4];exact ⟨rfl,h1⟩,by rw [s3];exact h2,(fun q hq=>by cases hq),by
       rw [s2,s3]
       refine ⟨vs,h5,h6,h7,fun k hk j hj=>?_⟩
       obtain ⟨x,g1,g2⟩:=h10 k hk j hj
       refine ⟨x,g1,?_⟩
       exact avOf_ok g2⟩
     refine ⟨_,c1,c2,(Opn.refl i S E).trans c3 (fun _ h=>h) (fun x hx=>by cases hx;exact h4),⟨s1,by rw [s3,s4];exact ⟨by omega,h1⟩,?_⟩⟩
     rw [s2,s3]
     exact ⟨_,rfl,fun _=>by simp,by simp⟩
 | .frow ty sz n c,E,M,d,S,v,hp,htop,hS,h=>by
   simp only [openV,len] at htop
   obtain ⟨κ,h1,h2,⟨rfl,rfl,rfl⟩ | ⟨b,vs,rfl,h4,h5,h6,h7,h10⟩⟩:=h
   · obtain ⟨s1,s2,s3,s4⟩:=E.give_same i d none 0 0
     obtain ⟨c1,c2,c3⟩:=hp.conc.split (κ:=0) (η:=0) (bo:=none) (B:=.row ty sz 0 none c) (hp.dead d (Nat.le_refl _) (by omega)) hp.any (fun x hx=>by cases hx) hp.root
      ⟨s1,by rw [s3,s4];exact ⟨rfl,Nat.le_refl _⟩,by rw [s3];exact Nat.zero_le _,(fun q hq=>by cases hq),by rw [s2];exact s3⟩
     exact ⟨_,c1,c2,(Opn.refl i S E).trans c3 (fun _ h=>h) (fun x hx=>by cases hx),⟨s1,by rw [s3,s4];exact ⟨Nat.le_refl _,Nat.le_refl _⟩,by rw [s2];exact ⟨rfl,rfl,rfl⟩⟩⟩
   · obtain ⟨s1,s2,s3,s4⟩:=E.give_same i d (some b) κ n
     obtain ⟨c1,c2,c3⟩:=hp.conc.split (κ:=κ) (η:=n) (bo:=some b) (B:=.row ty sz n none c) (hp.dead d (Nat.le_refl _) (by omega)) hp.any (fun x hx=>by cases hx;exact hS b h4) hp.root
      ⟨s1,by rw [s3,s4];exact ⟨rfl,h1⟩,by rw [s3];exact h2,(fun q hq=>by cases hq),by
       rw [s2,s3]
       refine ⟨vs,h5,h6,h7,fun k hk j hj=>?_⟩
       obtain ⟨x,g1,g2⟩:=h10 k hk j hj
       exact ⟨x,g1,g2⟩⟩
     refine ⟨_,c1,c2,(Opn.refl i S E).trans c3 (fun _ h=>h) (fun x hx=>by cases hx;exact h4),⟨s1,by rw [s3,s4];exact ⟨by omega,h1⟩,?_⟩⟩
     rw [s2,s3]
     exact ⟨_,rfl,fun _=>by simp,by simp⟩
theorem openL_ok {H:HH} {w:World} {i top:Nat}:∀ (l:List Tr) {E:Env} {M:List Blk} {d:Nat} {S:Nat->Prop} {vs:List Value},Pool H E w M i d top->d+len (openL l d).2<=top->(∀ x,S x->E.σ i x)->TrOkL H (fun b=>w.heap[b]?) l vs S ->
 ∃ E',Conc H E' w (puts M d (openL l d).2)/\Evol [] H E w H E' w/\Opn i S E E'/\RelL (openL l d).1 H E' vs
 | [],E,M,d,S,vs,hp,_,_,h=>⟨E,hp.conc,Evol.refl _ _ _ _,Opn.refl _ _ _,h⟩
 | t::ts,E,M,d,S,vs,hp,htop,hS,h=>by
   obtain ⟨v,r,S1,S2,rfl,h2,h3,h4,h5,h6⟩:=h
   have hlen:∀ A B:List Blk,len (A++B)=len A+len B:=fun A B=>by simp [len_eq]
   simp only [openL,hlen] at htop
   obtain ⟨E1,g1,g2,g3,g4⟩:=openV_ok t hp (by omega) (fun x hx=>hS x (h2 x hx)) h5
   obtain ⟨E2,k1,k2,k3,k4⟩:=openL_ok ts (hp.next g1 g3) (by omega) (fun x hx=>g3.rest x (hS x (h3 x hx)) fun hx1=>h4 x hx1 hx) h6
   refine ⟨E2,?_,g2.trans0 k2,g3.trans k3 h2 h3,v,r,rfl,Rel.env k3.via g4,k4⟩
   simp only [openL,puts_append]
   exact k1
end
end Go.Ax
