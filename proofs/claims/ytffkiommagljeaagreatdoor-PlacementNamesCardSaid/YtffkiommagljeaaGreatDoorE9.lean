import Derived.Test.YtffkiommagljeaaGreatDoorE8
set_option linter.unusedVariables false
set_option linter.unusedSimpArgs false
set_option linter.unusedSectionVars false
namespace Go.Ax
open Go
variable [Inhabited Gl0]
theorem list_of {w:World} {ad:Addr} {Q:Nat->Value->Prop}:∀ N,(∀ i,i<N->∃ x,w.cell? (ad.add i)=some x/\x.oneCell'=true/\Q i x) ->
 ∃ news:List Value,news.length=N/\∀ i u,news[i]? = some u->w.cell? (ad.add i)=some u/\u.oneCell'=true/\Q i u
 | 0,_=>⟨[],rfl,fun i u h=>by simp at h⟩
 | N+1,h=>by
   obtain ⟨l,hl,hv⟩:=list_of N fun i hi=>h i (by omega)
   obtain ⟨x,hx⟩:=h N (by omega)
   refine ⟨l++[x],by simp [hl],fun i u hu=>?_⟩
   rw [List.getElem?_append] at hu
   split at hu
   · exact hv i u hu
   · rename_i hi
     have:i=N:=by
      rcases Nat.lt_or_ge (i - l.length) 1 with h' | h'
      · omega
      · rw [List.getElem?_eq_none (by simpa using h')] at hu;cases hu
     subst this
     simp [hl] at hu
     subst hu
     exact hx
theorem srcOf_ok {H:HH} {E:Env} {w:World} {M:List Blk} {sz:Nat} {xa:AV} {x:Value} {src:Nat×Option (List AV)×(Nat->Nat->AV)} (hC:Conc H E w M) (hx:Rel xa H E x) (h0:0<sz)
 (h:srcOf (getM M) sz xa=some src) :
 ∃ A c,∃ news:List Value,x=.slice A src.1 c/\news.length=src.1*sz/\(A=none->src.1=0)/\(∀ ad,A=some ad->∀ j u,news[j]? = some u->w.cell? (ad.add j)=some u)/\ones news /\
  (∀ l,src.2.1=some l->RelL l H E news)/\(src.2.1=none->∀ k,k<src.1->∀ j,j<sz->∃ u,news[k*sz+j]? = some u/\Rel (src.2.2 k j) H E0 u):=by
 unfold srcOf at h
 split at h
 · cases h
   obtain ⟨rfl,_⟩:=hx
   exact ⟨none,0,[],rfl,by simp,fun _=>rfl,fun ad h=>by simp at h,fun x hx=>(by cases hx),fun l hl=>by simp at hl;subst hl;rfl,fun h=>by simp at h⟩
 · rename_i b sz' n c
   split at h
   case isFalse=>cases h
   rename_i hs
   have hs:sz'=sz:=by simpa using hs
   subst hs
   cases h
   obtain ⟨A,cap,rfl,hcap,hk⟩:=hx
   rcases Nat.eq_zero_or_pos n with hn | hn
   · subst hn
     exact ⟨A,cap,[],rfl,by simp,fun _=>rfl,fun ad _ j u hu=>by simp at hu,fun x hx=>(by cases hx),fun l hl=>by simp at hl,fun _ k hk=>by omega⟩
   · obtain ⟨ad,rfl,hk2⟩:=hk hn
     obtain ⟨news,hl,hv⟩:=list_of (w:=w) (ad:=ad) (Q:=fun i u=>Rel (c (i / sz') (i % sz')) H E0 u) (n*sz') fun i hi=>by
      have hd:i / sz'<n:=(Nat.div_lt_iff_lt_mul h0).2 hi
      obtain ⟨x,hx,h1,hr⟩:=hk2 (i / sz') hd (i % sz') (Nat.mod_lt _ h0)
      have e:i / sz'*sz'+i % sz'=i:=by rw [Nat.mul_comm];exact Nat.div_add_mod i sz'
      rw [e] at hx
      exact ⟨x,imm_cell hC.imm hC.tf.1 hx,h1,Rel.mono _ (HH.at_le_self hC.tf.1 b) hr⟩
     refine ⟨some ad,cap,news,rfl,hl,fun h=>by simp at h,fun ad' h' j u hu=>by cases h';exact (hv j u hu).1,fun x hx=>?_,fun l hl=>by simp at hl,fun _ k hk j hj=>?_⟩
     · obtain ⟨j,hj⟩:=List.mem_iff_getElem?.1 hx
       exact (hv j x hj).2.1
     · have hlt:k*sz'+j<news.length:=by
        rw [hl]
        have:(k+1)*sz'<=n*sz':=Nat.mul_le_mul_right _ hk
        rw [Nat.add_mul] at this;omega
       refine ⟨news[k*sz'+j],List.getElem?_eq_getElem hlt,?_⟩
       have:=(hv _ _ (List.getElem?_eq_getElem hlt)).2.2
       have e1:(k*sz'+j) / sz'=k:=by rw [Nat.mul_comm,Nat.mul_add_div h0,Nat.div_eq_of_lt hj];rfl
       have e2:(k*sz'+j) % sz'=j:=by rw [Nat.mul_comm,Nat.mul_add_mod,Nat.mod_eq_of_lt hj]
       rw [e1,e2] at this
       exact this
 · rename_i i sz' lo n
   split at h
   case isFalse=>cases h
   rename_i hs
   have hs:sz'=sz:=by simpa using hs
   subst hs
   obtain ⟨hlv,hκ,hm⟩:=hx
   have hB:=hC.blk i
   split at h
   · rename_i ty s2 m cap cs hg
     rw [hg] at hB
     split at h
     case isFalse=>cases h
     rename_i hb
     simp only [Bool.and_eq_true,beq_iff_eq,Nat.ble_eq] at hb
     obtain ⟨rfl,hlm⟩:=hb
     cases h
     obtain ⟨_,hmκ,_,_,hm2⟩:=hB
     cases hι:E.ι i with
     | none =>
       rw [hι] at hm
       obtain ⟨_,rfl,rfl⟩:=hm
       exact ⟨none,0,[],rfl,by simp,fun _=>rfl,fun ad h=>by simp at h,fun x hx=>(by cases hx),fun l hl=>by simp [takeL] at hl;subst hl;rfl,fun h=>by simp at h⟩
     | some b =>
       rw [hι] at hm hm2
       obtain ⟨A,rfl,hA⟩:=hm
       obtain ⟨vs,h1,h2,h3,h4⟩:=hm2
       rcases Nat.eq_zero_or_pos n with hn | hn
       · subst hn
         exact ⟨A,_,[],rfl,by simp,fun _=>rfl,fun ad _ j u hu=>by simp at hu,fun x hx=>(by cases hx),fun l hl=>by simp [takeL] at hl;subst hl;rfl,fun h=>by simp at h⟩
       · have hle:(lo+n)*s2<=m*s2:=Nat.mul_le_mul_right _ hlm
         rw [Nat.add_mul] at hle
         have hsz:m*s2<=E.κ i*s2:=Nat.mul_le_mul_right _ hmκ.2
         have hvl:vs.toList.length=E.κ i*s2:=by simpa using h3
         refine ⟨A,_,(vs.toList.drop (lo*s2)).take (n*s2),rfl,by simp;omega,fun h=>(by rw [hA.1 (.inr hn)] at h;cases h),fun ad had j u hu=>?_,ones_sub h2 hle,fun l hl=>?_,fun h=>by simp at h⟩
         · rw [hA.1 (.inr hn)] at had
           cases had
           rw [addr_add,cell_of_row w b _ vs ty (0,0) h1]
           rw [List.getElem?_take] at hu
           split at hu
           · rw [List.getElem?_drop] at hu;simpa using hu
           · cases hu
         · simp at hl
           subst hl
           refine relL_mk (by rw [length_takeL];simp;omega) fun j u hu=>?_
           rw [List.getElem?_take] at hu
           split at hu
           · rename_i hj
             rw [get_takeL _ _ _ _ hj]
             rw [List.getElem?_drop] at hu
             exact relL_get h4 _ _ (by rw [List.getElem?_take,if_pos (by omega)];exact hu)
           · cases hu
   · rename_i ty s2 m cap c hg
     rw [hg] at hB
     split at h
     case isFalse=>cases h
     rename_i hb
     have hb:s2=sz':=by simpa using hb
     subst hb
     cases h
     obtain ⟨_,hmκ,_,_,hm2⟩:=hB
     have hlm:lo+n<=m:=by omega
     cases hι:E.ι i with
     | none =>
       rw [hι] at hm
       obtain ⟨_,rfl,rfl⟩:=hm
       exact ⟨none,0,[],rfl,by simp,fun _=>rfl,fun ad h=>by simp at h,fun x hx=>(by cases hx),fun l hl=>by simp at hl,fun _ k hk=>by simp at hk⟩
     | some b =>
       rw [hι] at hm hm2
       obtain ⟨A,rfl,hA⟩:=hm
       obtain ⟨vs,h1,h2,h3,h4⟩:=hm2
       rcases Nat.eq_zero_or_pos n with hn | hn
       · subst hn
         exact ⟨A,_,[],rfl,by simp,fun _=>rfl,fun ad _ j u hu=>by simp at hu,fun x hx=>(by cases hx),fun l hl=>by simp at hl,fun _ k hk=>by simp at hk⟩
       · have hle:(lo+n)*s2<=m*s2:=Nat.mul_le_mul_right _ hlm
         rw [Nat.add_mul] at hle
         have hsz:m*s2<=E.κ i*s2:=Nat.mul_le_mul_right _ hmκ.2
         have hvl:vs.toList.length=E.κ i*s2:=by simpa using h3
         refine ⟨A,_,(vs.toList.drop (lo*s2)).take (n*s2),rfl,by simp;omega,fun h=>(by rw [hA.1 (.inr hn)] at h;cases h),fun ad had j u hu=>?_,ones_sub h2 hle,fun l hl=>by simp at hl,fun _ k hk j hj=>?_⟩
         · rw [hA.1 (.inr hn)] at had
           cases had
           rw [addr_add,cell_of_row w b _ vs ty (0,0) h1]
           rw [List.getElem?_take] at hu
           split at hu
           · rw [List.getElem?_drop] at hu;simpa using hu
           · cases hu
         · have hk':k<n:=hk
           obtain ⟨x,hx,hr⟩:=h4 (lo+k) (by omega) j hj
           refine ⟨x,?_,hr⟩
           have hkn:(k+1)*s2<=n*s2:=Nat.mul_le_mul_right _ hk'
           rw [Nat.add_mul] at hkn
           rw [List.getElem?_take,if_pos (by omega),List.getElem?_drop]
           rw [Nat.add_mul,Nat.add_assoc] at hx
           simpa using hx
   · cases h
 · cases h
def Cont (H:HH) (E:Env) (sz n:Nat) (ty:TypeId):Blk->List Value->Prop
 | .lst ty' sz' n' _ cs,vs=>ty=ty'/\sz=sz'/\n=n'/\RelL cs H E vs
 | .row ty' sz' n' _ c,vs=>ty=ty'/\sz=sz'/\n=n'/\∀ k,k<n->∀ j,j<sz->∃ x,vs[k*sz+j]? = some x/\Rel (c k j) H E0 x
 | _,_=>False
def capOf:Blk->Option Nat
 | .lst _ _ _ cap _=>cap
 | .row _ _ _ cap _=>cap
 | _=>none
theorem appBlk_ok {H:HH} {E:Env} {sz n:Nat} {ty:TypeId} {B B':Blk} {xs news:List Value} {src:Nat×Option (List AV)×(Nat->Nat->AV)} (hc:Cont H E sz n ty B xs) (hl:xs.length=n*sz) (hn:news.length=src.1*sz)
 (h1:∀ l,src.2.1=some l->RelL l H E news) (h2:src.2.1=none->∀ k,k<src.1->∀ j,j<sz->∃ u,news[k*sz+j]? = some u/\Rel (src.2.2 k j) H E0 u) (h:appBlk B n sz src=some B') :
 Cont H E sz (n+src.1) ty B' (xs++news)/\capOf B'=none:=by
 have hlo:∀ k j,k<n->j<sz->k*sz+j<xs.length:=by
  intro k j hk hj
  have:(k+1)*sz<=n*sz:=Nat.mul_le_mul_right _ hk
  rw [Nat.add_mul] at this;omega
 have hhi:∀ k j,¬ k<n->(xs++news)[k*sz+j]? = news[(k - n)*sz+j]?:=by
  intro k j hk
  have:n*sz<=k*sz:=Nat.mul_le_mul_right _ (by omega)
  rw [List.getElem?_append,if_neg (by omega),hl]
  congr 1
  rw [Nat.sub_mul];omega
 unfold appBlk at h
 split at h
 · rename_i ty' _ _ _ cs m l d
   split at h
   case isFalse=>cases h
   cases h
   obtain ⟨rfl,rfl,rfl,hr⟩:=hc
   exact ⟨⟨rfl,rfl,rfl,relL_append hr (h1 l rfl)⟩,rfl⟩
 · rename_i ty' _ _ _ cs m d
   split at h
   case isFalse=>cases h
   rename_i hnr
   cases h
   obtain ⟨rfl,rfl,rfl,hr⟩:=hc
   refine ⟨⟨rfl,rfl,rfl,fun k hk j hj=>?_⟩,rfl⟩
   unfold appRow
   by_cases hkn:k<n
   · rw [if_pos hkn]
     have hlt:=hlo k j hkn hj
     refine ⟨xs[k*sz+j],by rw [List.getElem?_append,if_pos hlt];exact List.getElem?_eq_getElem hlt,?_⟩
     exact Rel.noRef _ (noRef_get hnr _) (relL_get hr _ _ (List.getElem?_eq_getElem hlt))
   · rw [if_neg hkn,hhi k j hkn]
     exact h2 rfl (k - n) (by simp only at hk;omega) j hj
 · rename_i ty' _ _ _ c m l d
   split at h
   case isFalse=>cases h
   rename_i hnr
   simp only [Bool.and_eq_true] at hnr
   cases h
   obtain ⟨rfl,rfl,rfl,hr⟩:=hc
   refine ⟨⟨rfl,rfl,rfl,fun k hk j hj=>?_⟩,rfl⟩
   unfold appRow
   by_cases hkn:k<n
   · rw [if_pos hkn]
     obtain ⟨x,hx,hrx⟩:=hr k hkn j hj
     exact ⟨x,by rw [List.getElem?_append,if_pos (hlo k j hkn hj)];exact hx,hrx⟩
   · rw [if_neg hkn,hhi k j hkn]
     have hrl:=h1 l rfl
     simp only at hk hn
     have hlt:(k - n)*sz+j<news.length:=by
      have:(k - n+1)*sz<=m*sz:=Nat.mul_le_mul_right _ (by omega)
      rw [Nat.add_mul] at this;omega
     exact ⟨_,List.getElem?_eq_getElem hlt,Rel.noRef _ (noRef_get hnr.1 _) (relL_get hrl _ _ (List.getElem?_eq_getElem hlt))⟩
 · rename_i ty' _ _ _ c m d
   cases h
   obtain ⟨rfl,rfl,rfl,hr⟩:=hc
   refine ⟨⟨rfl,rfl,rfl,fun k hk j hj=>?_⟩,rfl⟩
   unfold appRow
   by_cases hkn:k<n
   · rw [if_pos hkn]
     obtain ⟨x,hx,hrx⟩:=hr k hkn j hj
     exact ⟨x,by rw [List.getElem?_append,if_pos (hlo k j hkn hj)];exact hx,hrx⟩
   · rw [if_neg hkn,hhi k j hkn]
     exact h2 rfl (k - n) (by simp only at hk;omega) j hj
 · cases h
theorem cont_blk {H:HH} {E:Env} {w:World} {sz n i:Nat} {ty:TypeId} {B:Blk} {xs:List Value} (hc:Cont H E sz n ty B xs) (hcap:capOf B=none) (hlv:E.lv i=true) (hκ:n=E.η i/\n<=E.κ i) (hmx:E.κ i<=maxLen) (h1:ones xs)
 (hm:match E.ι i with | none=>E.κ i=0/\xs=[] | some b=>∃ vs,w.heap[b]? = some (.cells vs ty (0,0))/\vs.size=E.κ i*sz/\vs.toList.take (n*sz)=xs):BlkOk H E w i B:=by
 cases B with
 | lst ty' sz' n' cap cs =>
   obtain ⟨rfl,rfl,rfl,hr⟩:=hc
   refine ⟨hlv,hκ,hmx,fun q hq=>(by simp [capOf] at hcap;subst hcap;cases hq),?_⟩
   cases hι:E.ι i with
   | none =>
     rw [hι] at hm
     obtain ⟨h2,rfl⟩:=hm
     refine ⟨h2,?_⟩
     have:=RelL.length hr
     simpa using this.symm
   | some b =>
     rw [hι] at hm
     obtain ⟨vs,h2,h3,h4⟩:=hm
     exact ⟨vs,h2,by rw [h4];exact h1,h3,by rw [h4];exact hr⟩
 | row ty' sz' n' cap c =>
   obtain ⟨rfl,rfl,rfl,hr⟩:=hc
   refine ⟨hlv,hκ,hmx,fun q hq=>(by simp [capOf] at hcap;subst hcap;cases hq),?_⟩
   cases hι:E.ι i with
   | none=>rw [hι] at hm;exact hm.1
   | some b =>
     rw [hι] at hm
     obtain ⟨vs,h2,h3,h4⟩:=hm
     refine ⟨vs,h2,by rw [h4];exact h1,h3,fun k hk j hj=>?_⟩
     obtain ⟨x,hx,hrx⟩:=hr k hk j hj
     rw [<- h4,List.getElem?_take] at hx
     split at hx
     · exact ⟨x,by simpa using hx,hrx⟩
     · cases hx
 | box _ _=>exact hc.elim
 | mp es ck=>exact hc.elim
 | mi kk vk has c=>exact hc.elim
 | mit m since seen last=>exact hc.elim
 | any=>exact hc.elim
 | tmap q has c n kn=>exact hc.elim
 | trow ty sz n cap c op zs=>exact hc.elim
 | dead=>exact hc.elim
theorem cont_ren {H:HH} {E E':Env} {sz n:Nat} {ty:TypeId} {B:Blk} {xs:List Value} {f:Nat->Option Nat} (hv:E.via E' f) (hc:Cont H E sz n ty B xs):Cont H E' sz n ty (renB f B) xs:=by
 cases B with
 | lst _ _ _ _ _=>exact ⟨hc.1,hc.2.1,hc.2.2.1,RelL.ren _ hv hc.2.2.2⟩
 | row _ _ _ _ _=>exact hc
 | box _ _=>exact hc.elim
 | mp es ck=>exact hc.elim
 | mi kk vk has c=>exact hc.elim
 | mit m since seen last=>exact hc.elim
 | any=>exact hc.elim
 | tmap q has c n kn=>exact hc.elim
 | trow ty sz n cap c op zs=>exact hc.elim
 | dead=>exact hc.elim
theorem capOf_ren {B:Blk} {f:Nat->Option Nat}:capOf (renB f B)=capOf B:=by
 cases B with
 | mit m since seen last=>show capOf (match f m with | some j=>Blk.mit j since seen last | none=>Blk.any)=_;cases f m<;>rfl
 | _=>rfl
theorem Conc.move {H:HH} {E:Env} {w w':World} {M:List Blk} {a κ' η':Nat} {bo':Option Nat} {B:Blk} (hC:Conc H E w M) (hl:E.lv a=true) (hw:w.grownBy w' (E.ι a)) (hbo:∀ g,bo'=some g->E.ι a=some g∨w.heap.size<=g)
 (hB:BlkOk H (E.set a bo' κ' η') w' a (renB (keepOf [a]) B)):Conc H (E.set a bo' κ' η') w' (killM [a] (putM M a B))/\Evol [a] H E w H (E.set a bo' κ' η') w':=by
 have hvia:E.via (E.set a bo' κ' η') (keepOf [a]):=by
  intro i j hij hli
  unfold keepOf at hij
  split at hij
  · cases hij
  · rename_i hn
    cases hij
    have hne:i≠a:=by simpa using hn
    obtain ⟨e1,e2,e3⟩:=E.set_ne a i bo' κ' η' hne
    exact ⟨e1.trans hli,e2,e3⟩
 have hsame:∀ b,b<w.heap.size->E.ι a≠some b->w'.heap[b]? = w.heap[b]?:=fun b hb hn=>hw.block b hb fun e=>hn e.symm
 refine ⟨⟨fun b o ho=>?_,hC.tf,fun i=>?_,fun i j b hi hj=>?_,fun i b hi=>?_,fun i b hi hib=>?_⟩,⟨hw.os,hw.tape,hw.output,hw.size,fun b hb hn=>hsame b hb (fun e=>hn a ⟨hl,.inl e⟩),fun i b hi=>?_,HH.le_refl _,fun _ _ _ h=>.inl h,fun i hi hn=>?_⟩⟩
 · rw [hsame b (IH.lt_of hC.imm ho) fun e=>by rw [hC.sep a b hl e] at ho;cases ho]
   exact hC.imm b o ho
 · rw [getM_kill]
   by_cases hi:a=i
   · subst hi;rw [getM_put_same];exact hB
   · rw [getM_put_ne _ _ _ _ hi]
     have hi':i≠a:=fun e=>hi e.symm
     obtain ⟨e1,e2,e3,e4⟩:=E.set_ne a i bo' κ' η' hi'
     exact (hC.blk i).move (HH.le_refl _) hvia e1 e2 e3 e4 (fun b=>by simp [Env.set,hi']) fun b hb=>hsame b (hC.ltH hb) fun e=>hi (hC.injH a i b ⟨hl,.inl e⟩ hb)
 · rcases Env.set_has hi with ⟨rfl,h1⟩ | ⟨n1,h1⟩<;>rcases Env.set_has hj with ⟨rfl,h2⟩ | ⟨n2,h2⟩
   · rfl
   · have hlt:=hC.ltH h2
     rcases hbo b h1 with h3 | h3
     · exact hC.injH i j b ⟨hl,.inl h3⟩ h2
     · omega
   · have hlt:=hC.ltH h1
     rcases hbo b h2 with h3 | h3
     · exact hC.injH i j b h1 ⟨hl,.inl h3⟩
     · omega
   · exact hC.injH i j b h1 h2
 · rcases Env.set_has hi with ⟨rfl,h1⟩ | ⟨n1,h1⟩
   · rcases hbo b h1 with h3 | h3
     · exact hC.sep i b hl h3
     · cases hx:H false b with
       | none=>rfl
       | some o=>have:=IH.lt_of hC.imm hx;omega
   · exact hC.sepH i b h1
 · rcases Env.set_has ⟨hi,.inr hib⟩ with ⟨rfl,h1⟩ | ⟨n1,h1⟩
   · exact absurd rfl hib.1
   · have:=hC.ltH h1;have:=hw.size;omega
 · rcases Env.set_has hi with ⟨rfl,h1⟩ | ⟨n1,h1⟩
   · rcases hbo b h1 with h3 | h3
     · exact .inl ⟨i,hl,.inl h3⟩
     · exact .inr h3
   · exact .inl ⟨i,h1⟩
 · exact hvia i i (by unfold keepOf;rw [if_neg (by simpa using hn)]) hi
theorem append_run {P:Program} {w:World} {t ty el:TypeId} {i:TypeInfo} {z v:Value} {n m c:Nat} {xs news:List Value} {A:Option Addr} (hu:P.underlying t=some (.slice el)) (hi:P.info? el=some i) (hz:i.zero=some z)
 (hzs:z.cells.size=i.size) (h0:0<i.size) (hown:w.ownsRow 0 el i.size v n xs) (hl:news.length=m*i.size) (hA:A=none->m=0) (hc:∀ ad,A=some ad->∀ j u,news[j]? = some u->w.cell? (ad.add j)=some u)
 (h1:ones news) (h63:n+m<=maxLen) (hb:(n+m)*i.bytes<=140737488355328) :
 ∃ v' w',(Builtin.append_ #[t,t] ty #[v,.slice A m c]).run P w=.ok v' w'/\w'.ownsRow 0 el i.size v' (n+m) (xs++news)/\w.grownBy w' v.ownBlock /\
  (v'=.slice none 0 0->v=.slice none 0 0/\m=0)/\(v'.ownBlock=v.ownBlock∨v'.ownBlock=some w.heap.size):=by
 cases A with
 | some ad =>
   obtain ⟨v',w',h2,h3,h4,h5,h6⟩:=run_append_own_at (P:=P) w 0 t ty el i z i.size i.bytes hu hi hz rfl rfl hzs h0 v n xs hown ad m c news hl (hc ad rfl) h1 h63 hb (Nat.zero_le _)
   exact ⟨v',w',h2,h3,h4,h5.1,h6⟩
 | none =>
   have hm:=hA rfl
   subst hm
   have hn:news=[]:=List.eq_nil_of_length_eq_zero (by simpa using hl)
   subst hn
   refine ⟨v,w,?_,by simpa using hown,⟨rfl,rfl,rfl,Nat.le_refl _,fun _ _ _=>rfl⟩,fun h=>⟨h,rfl⟩,.inl rfl⟩
   rcases hown.2 with ⟨rfl,rfl⟩ | ⟨g,cap,cur,rfl,_,_,hnc,_⟩
   · simp [Builtin.append_,run_underlying hu,sizeOf,typeInfo,hi,Builtin.lenOf,Builtin.firstCells]
   · simp [Builtin.append_,run_underlying hu,sizeOf,typeInfo,hi,Builtin.lenOf,Builtin.firstCells,hnc,storeCells]
theorem owns_form {w:World} {el:TypeId} {sz n:Nat} {v:Value} {xs:List Value} (h:w.ownsRow 0 el sz v n xs) :
 ∃ bo κ,v.ownBlock=bo/\n<=κ/\κ<=maxLen/\v=(match bo with | none=>.slice none 0 0 | some b=>.slice (some ⟨b,0,none⟩) n κ) /\
  (match bo with | none=>κ=0/\xs=[] | some b=>∃ vs,w.heap[b]? = some (.cells vs el (0,0))/\vs.size=κ*sz/\vs.toList.take (n*sz)=xs)/\(bo=none->n=0):=by
 rcases h.2 with ⟨rfl,rfl⟩ | ⟨g,cap,cur,rfl,_,hg,hn,hm,hs,ht⟩
 · have:=h.1
   exact ⟨none,0,rfl,Nat.le_refl _,Nat.zero_le _,rfl,⟨rfl,List.eq_nil_of_length_eq_zero (by simpa using this)⟩,fun _=>rfl⟩
 · exact ⟨some g,cap,rfl,hn,hm,rfl,⟨cur,hg,hs,ht⟩,fun h=>by cases h⟩
theorem grow_good {P:Program} {H:HH} {E:Env} {w:World} {M:List Blk} {t ty el:TypeId} {i:TypeInfo} {z:Value} {a n c:Nat} {B B':Blk} {s x:Value} {xs:List Value} {src:Nat×Option (List AV)×(Nat->Nat->AV)} {xa:AV}
 (hC:Conc H E w M) (hu:P.underlying t=some (.slice el)) (hi:P.info? el=some i) (hz:i.zero=some z) (hzs:z.cells.size=i.size) (h0:0<i.size)
 (hl:E.lv a=true) (hown:w.ownsRow 0 el i.size s n xs) (hob:s.ownBlock=E.ι a) (hxs:ones xs) (hcont:Cont H E i.size n el B xs) (hx:Rel xa H E x) (hsrc:srcOf (getM M) i.size xa=some src)
 (h63:n+src.1<=maxLen) (hb:(n+src.1)*i.bytes<=140737488355328) (happ:appBlk B n i.size src=some B') (_hc:c=0) :
 ∃ u w' E',(Builtin.append_ #[t,t] ty #[s,x]).run P w=.ok u w'/\Rel (.own a i.size 0 (n+src.1)) H E' u/\Conc H E' w' (killM [a] (putM M a B'))/\Evol [a] H E w H E' w':=by
 obtain ⟨A,c',news,rfl,hnl,hA,hcell,hones,hr1,hr2⟩:=srcOf_ok hC hx h0 hsrc
 obtain ⟨v',w',hrun,hown',hgrow,_,hat⟩:=append_run (ty:=ty) (c:=c') hu hi hz hzs h0 hown hnl hA hcell hones h63 hb
 obtain ⟨hc2,hcap⟩:=appBlk_ok hcont hown.1 hnl hr1 hr2 happ
 obtain ⟨bo,κ,hbo,hnκ,hκm,hv',hblk,hbn⟩:=owns_form hown'
 rw [hob] at hgrow hat
 obtain ⟨e1,e2,e3,e4⟩:=E.set_same a bo κ (n+src.1)
 have hvia:E.via (E.set a bo κ (n+src.1)) (keepOf [a]):=by
  intro p q hpq hlp
  unfold keepOf at hpq
  split at hpq
  · cases hpq
  · rename_i hn
    cases hpq
    obtain ⟨f1,f2,f3⟩:=E.set_ne a p bo κ (n+src.1) (by simpa using hn)
    exact ⟨f1.trans hlp,f2,f3⟩
 have hB:BlkOk H (E.set a bo κ (n+src.1)) w' a (renB (keepOf [a]) B'):=by
  refine cont_blk (cont_ren hvia hc2) (by rw [capOf_ren];exact hcap) e1 (by rw [e3,e4];exact ⟨rfl,hnκ⟩) (by rw [e3];exact hκm) (fun y hy=>?_) (by rw [e2,e3];exact hblk)
  rcases List.mem_append.1 hy with hy | hy
  · exact hxs y hy
  · exact hones y hy
 obtain ⟨hconc,hev⟩:=hC.move hl hgrow (bo':=bo) (κ':=κ) (η':=n+src.1) (fun g hg=>by
  rw [hbo,hg] at hat
  rcases hat with h | h
  · exact .inl h.symm
  · cases h;exact .inr (Nat.le_refl _)) hB
 refine ⟨v',w',E.set a bo κ (n+src.1),hrun,⟨e1,by rw [e3,e4];omega,?_⟩,hconc,hev⟩
 rw [e2,e3]
 cases bo with
 | none=>exact ⟨rfl,by have:=hbn rfl;omega,hv'⟩
 | some b=>exact ⟨_,hv',⟨fun _=>by simp,by simp⟩⟩
theorem append_good {P:Program} {H:HH} {E:Env} {w:World} {M:List Blk} {hh:Option Hint} {t ty:TypeId} {nid:Nat} {sa xa:AV} {s x:Value} {e:Eff} (hC:Conc H E w M) (hd:getM M nid=.dead) (hs:Rel sa H E s) (hx:Rel xa H E x)
 (h:aAppend P hh (getM M) nid t sa xa=some e) (ho:All e.ob) :
 ∃ u w' E',(Builtin.append_ #[t,t] ty #[s,x]).run P w=.ok u w'/\Rel e.r H E' u/\Conc H E' w' (killM e.kl (applyW e.wr M))/\Evol e.kl H E w H E' w':=by
 unfold aAppend at h
 split at h
 case h_2=>cases h
 rename_i el hu
 split at h
 case h_2=>cases h
 rename_i i zl hi hzl
 split at h
 case h_2=>cases h
 rename_i src hsrc
 split at h
 case isFalse=>cases h
 rename_i hb0
 simp only [Bool.and_eq_true,beq_iff_eq,Nat.ble_eq,len_eq] at hb0
 obtain ⟨h0,hzlen⟩:=hb0
 obtain ⟨i',z,hi',hz,hrz,hoz⟩:=zeroL_ok H E hzl
 rw [hi] at hi';cases hi'
 have hzs:z.cells.size=i.size:=by have:=RelL.length hrz;simp at this;omega
 split at h
 · -- nil
   obtain ⟨rfl,_⟩:=hs
   split at h
   case h_2=>cases h
   rename_i ob B hc happ
   cases h
   have hb:=chk_ok hc ho
   simp only [Bool.and_eq_true,decide_eq_true_eq] at hb
   obtain ⟨A,c',news,rfl,hnl,hA,hcell,hones,hr1,hr2⟩:=srcOf_ok hC hx h0 hsrc
   have hown0:=World.ownsRow_nil w 0 el i.size
   obtain ⟨v',w',hrun,hown',hgrow,_,hat⟩:=append_run (ty:=ty) (c:=c') (n:=0) hu hi hz hzs h0 hown0 hnl hA hcell hones (by omega) (by rw [Nat.zero_add];exact hb.2)
   have hcont0:Cont H E i.size 0 el (.lst el i.size 0 none []) []:=⟨rfl,rfl,rfl,rfl⟩
   obtain ⟨hc2,hcap⟩:=appBlk_ok hcont0 (by simp) hnl hr1 hr2 happ
   obtain ⟨bo,κ,hbo,hnκ,hκm,hv',hblk,hbn⟩:=owns_form hown'
   obtain ⟨e1,e2,e3,e4⟩:=E.set_same nid bo κ src.1
   have hB:BlkOk H (E.set nid bo κ src.1) w' nid B:=by
    have hc3:=cont_ren (set_via (bo:=bo) (κ:=κ) (η:=src.1) hC hd) hc2
    rw [renB_some] at hc3
    refine cont_blk hc3 hcap e1 (by rw [e3,e4];omega) (by rw [e3];exact hκm) (fun y hy=>by simpa using hones y (by simpa using hy)) (by rw [e2,e3];exact hblk)
   obtain ⟨hconc,hev⟩:=hC.new (bo:=bo) (κ:=κ) (η:=src.1) hd hgrow.os hgrow.tape hgrow.output hgrow.size (fun b hb=>hgrow.block b hb (by simp [Value.ownBlock])) (fun b hb=>by
    rw [hbo,hb] at hat
    rcases hat with h | h
    · simp [Value.ownBlock] at h
    · cases h;exact Nat.le_refl _) hB
   refine ⟨v',w',E.set nid bo κ src.1,hrun,⟨e1,by rw [e3,e4];omega,?_⟩,hconc,hev⟩
   rw [e2,e3]
   cases bo with
   | none=>exact ⟨rfl,by have:=hbn rfl;omega,hv'⟩
   | some b=>exact ⟨some ⟨b,0,none⟩,by rw [hv'];simp,⟨fun _=>by simp,by simp⟩⟩
 · -- a row of one's own
   rename_i a sz n
   split at h
   case isFalse=>cases h
   rename_i hsz
   have hsz:sz=i.size:=by simpa using hsz
   subst hsz
   obtain ⟨hlv,hκ,hm⟩:=hs
   have hB:=hC.blk a
   have hown:∀ {xs:List Value},xs.length=n*i.size->(match E.ι a with | none=>E.κ a=0/\xs=[] | some b=>∃ vs,w.heap[b]? = some (.cells vs el (0,0))/\vs.size=E.κ a*i.size/\vs.toList.take (n*i.size)=xs)->E.κ a<=maxLen ->
    w.ownsRow 0 el i.size s n xs/\s.ownBlock=E.ι a:=by
    intro xs hxl hmm hκm
    cases hι:E.ι a with
    | none =>
      rw [hι] at hm hmm
      obtain ⟨_,rfl,rfl⟩:=hm
      exact ⟨⟨hxl,.inl ⟨rfl,rfl⟩⟩,rfl⟩
    | some b =>
      rw [hι] at hm hmm
      obtain ⟨ad,rfl,had⟩:=hm
      obtain ⟨vs,h1,h2,h3⟩:=hmm
      rw [had.1 (.inl rfl)]
      exact ⟨⟨hxl,.inr ⟨b,E.κ a,vs,by simp,Nat.zero_le _,h1,by omega,hκm,h2,h3⟩⟩,rfl⟩
   split at h
   · rename_i ty' s2 m cap cs hg
     split at h
     case isFalse=>cases h
     rename_i hty
     simp only [Bool.and_eq_true,beq_iff_eq] at hty
     obtain ⟨⟨rfl,rfl⟩,rfl⟩:=hty
     split at h
     case h_2=>cases h
     rename_i ob B' hc happ
     cases h
     have hb:=chk_ok hc ho
     simp only [Bool.and_eq_true,decide_eq_true_eq] at hb
     rw [hg] at hB
     obtain ⟨_,hmκ,hκm,_,hm2⟩:=hB
     cases hι:E.ι a with
     | none =>
       rw [hι] at hm2
       obtain ⟨hκ0,rfl⟩:=hm2
       obtain ⟨ho1,ho2⟩:=hown (xs:=[]) (by simp [show m=0 by omega]) (by rw [hι];exact ⟨hκ0,rfl⟩) hκm
       exact grow_good (B:=.lst ty' i.size m none []) hC hu hi hz hzs h0 hlv ho1 ho2 (fun y hy=>by cases hy) ⟨rfl,rfl,rfl,rfl⟩ hx hsrc hb.1 hb.2 happ rfl
     | some b =>
       rw [hι] at hm2
       obtain ⟨vs,h1,h2,h3,h4⟩:=hm2
       have hle:m*i.size<=E.κ a*i.size:=Nat.mul_le_mul_right _ hmκ.2
       obtain ⟨ho1,ho2⟩:=hown (xs:=vs.toList.take (m*i.size)) (by simp;omega) (by rw [hι];exact ⟨vs,h1,h3,rfl⟩) hκm
       exact grow_good (B:=.lst ty' i.size m none cs) hC hu hi hz hzs h0 hlv ho1 ho2 h2 ⟨rfl,rfl,rfl,h4⟩ hx hsrc hb.1 hb.2 happ rfl
   · rename_i ty' s2 m cap cf hg
     split at h
     case isFalse=>cases h
     rename_i hty
     simp only [Bool.and_eq_true,beq_iff_eq] at hty
     obtain ⟨rfl,rfl⟩:=hty
     split at h
     case h_2=>cases h
     rename_i ob B' hc happ
     cases h
     have hb:=chk_ok hc ho
     simp only [Bool.and_eq_true,decide_eq_true_eq] at hb
     obtain ⟨⟨rfl,hb1⟩,hb2⟩:=hb
     rw [hg] at hB
     obtain ⟨_,hmκ,hκm,_,hm2⟩:=hB
     cases hι:E.ι a with
     | none =>
       rw [hι] at hm2
       obtain ⟨ho1,ho2⟩:=hown (xs:=[]) (by simp [show m=0 by omega]) (by rw [hι];exact ⟨hm2,rfl⟩) hκm
       exact grow_good (B:=.row ty' i.size m none cf) hC hu hi hz hzs h0 hlv ho1 ho2 (fun y hy=>by cases hy) ⟨rfl,rfl,rfl,fun k hk=>by omega⟩ hx hsrc hb1 hb2 happ rfl
     | some b =>
       rw [hι] at hm2
       obtain ⟨vs,h1,h2,h3,h4⟩:=hm2
       have hle:m*i.size<=E.κ a*i.size:=Nat.mul_le_mul_right _ hmκ.2
       obtain ⟨ho1,ho2⟩:=hown (xs:=vs.toList.take (m*i.size)) (by simp;omega) (by rw [hι];exact ⟨vs,h1,h3,rfl⟩) hκm
       refine grow_good (B:=.row ty' i.size m none cf) hC hu hi hz hzs h0 hlv ho1 ho2 h2 ⟨rfl,rfl,rfl,fun k hk j hj=>?_⟩ hx hsrc hb1 hb2 happ rfl
       obtain ⟨y,hy,hry⟩:=h4 k hk j hj
       have hlt:k*i.size+j<m*i.size:=by
        have:(k+1)*i.size<=m*i.size:=Nat.mul_le_mul_right _ hk
        rw [Nat.add_mul] at this;omega
       exact ⟨y,by rw [List.getElem?_take,if_pos hlt];simpa using hy,hry⟩
   · cases h
 · cases h
end Go.Ax
