import Derived.Test.YtffkiommagljeaaGreatDoorE12
set_option linter.unusedVariables false
set_option linter.unusedSimpArgs false
set_option linter.unusedSectionVars false
namespace Go.Ax
open Go
variable [Inhabited Gl0]
mutual
def tagT:AV->Bool
 | .sl b _ _ _=>b
 | .ys b _ _ _=>b
 | .yn b _ _ _=>b
 | .ip b _ _=>b
 | .agg cs=>tagTL cs
 | .tup cs=>tagTL cs
 | .fn _ a b=>tagTL a&&tagTL b
 | .ifc _ a=>tagT a
 | .opt _ _ a=>tagT a
 | _=>true
def tagTL:List AV->Bool
 | []=>true
 | a::as=>tagT a&&tagTL as
end
mutual
theorem Rel.tag:∀ (a:AV) {H:HH} {E:Env} {v:Value},tagT a=true->Rel a H E v->Rel a (fun _=>H true) E v
 | .s _,_,_,_,_,h=>h
 | .y _,_,_,_,_,h=>h
 | .junk,_,_,_,_,_=>trivial
 | .ptr ..,_,_,_,_,h=>h
 | .own ..,_,_,_,_,h=>h
 | .mref ..,_,_,_,_,h=>h
 | .yn b _ _ _,_,_,_,ht,h=>by
   simp only [tagT] at ht
   subst ht
   exact h
 | .ys b _ _ _,_,_,_,ht,h=>by
   simp only [tagT] at ht
   subst ht
   exact h
 | .sl b _ _ _,_,_,_,ht,h=>by
   simp only [tagT] at ht
   subst ht
   exact h
 | .ip b _ _,_,_,_,ht,h=>by
   simp only [tagT] at ht
   subst ht
   exact h
 | .agg cs,_,_,_,ht,h=>by
   obtain ⟨vs,hu,hr⟩:=h
   exact ⟨vs,hu,RelL.tag cs ht hr⟩
 | .tup cs,_,_,_,ht,h=>by
   obtain ⟨vs,hu,hr⟩:=h
   exact ⟨vs,hu,RelL.tag cs ht hr⟩
 | .fn f a b,_,_,_,ht,h=>by
   obtain ⟨x,y,hu,h1,h2⟩:=h
   simp [tagT] at ht
   exact ⟨x,y,hu,RelL.tag a ht.1 h1,RelL.tag b ht.2 h2⟩
 | .ifc t a,_,_,_,ht,h=>by
   obtain ⟨x,hu,h1⟩:=h
   exact ⟨x,hu,Rel.tag a ht h1⟩
 | .opt b t a,_,_,_,ht,h=>⟨fun hb=>by
   obtain ⟨x,hu,h1⟩:=h.1 hb
   exact ⟨x,hu,Rel.tag a ht h1⟩,h.2⟩
theorem RelL.tag:∀ (l:List AV) {H:HH} {E:Env} {vs:List Value},tagTL l=true->RelL l H E vs->RelL l (fun _=>H true) E vs
 | [],_,_,_,_,h=>h
 | a::as,_,_,_,ht,h=>by
   obtain ⟨v,r,hv,h1,h2⟩:=h
   simp [tagTL] at ht
   exact ⟨v,r,hv,Rel.tag a ht.1 h1,RelL.tag as ht.2 h2⟩
end
def blkT:Blk->Bool
 | .box _ cs=>tagTL cs
 | .lst _ _ _ _ cs=>tagTL cs
 | .row ..=>false
 | .mp es _=>tagTL (es.map fun e=>e.2.1)
 | .mi ..=>true
 | .mit ..=>true
 | .tmap ..=>false
 | .trow ..=>false
 | .any=>true
 | .dead=>true
mutual
def trT:Tr->Prop
 | .av a=>tagT a=true
 | .box _ _ cs=>trTL cs
 | .row _ sz n c=>∀ k,k<n->∀ j,j<sz->trT (c k j)
 | .frow _ sz n c=>∀ k,k<n->∀ j,j<sz->tagT (c k j)=true
def trTL:List Tr->Prop
 | []=>True
 | t::ts=>trT t/\trTL ts
end
mutual
theorem TrOk.tag {H:HH} {hp:Nat->Option Obj}:∀ (t:Tr) {v:Value} {S:Nat->Prop},trT t->TrOk H hp t v S->TrOk (fun _=>H true) hp t v S
 | .av a,_,_,ht,h=>Rel.tag a (by simpa only [trT] using ht) h
 | .box ty sz cs,_,_,ht,h=>by
   simp only [trT] at ht
   obtain ⟨b,vs,h1,h2,h3,h4,h5⟩:=h
   exact ⟨b,vs,h1,h2,h3,h4,TrOkL.tag cs ht h5⟩
 | .row ty sz n c,_,_,ht,h=>by
   simp only [trT] at ht
   obtain ⟨κ,h1,h2,h3 | ⟨b,vs,h3,h4,h5,h6,h7,F,h8,h9,h10⟩⟩:=h
   · exact ⟨κ,h1,h2,.inl h3⟩
   · refine ⟨κ,h1,h2,.inr ⟨b,vs,h3,h4,h5,h6,h7,F,h8,h9,fun k hk j hj=>?_⟩⟩
     obtain ⟨x,g1,g2⟩:=h10 k hk j hj
     exact ⟨x,g1,TrOk.tag (c k j) (ht k hk j hj) g2⟩
 | .frow ty sz n c,_,_,ht,h=>by
   simp only [trT] at ht
   obtain ⟨κ,h1,h2,h3 | ⟨b,vs,h3,h4,h5,h6,h7,h10⟩⟩:=h
   · exact ⟨κ,h1,h2,.inl h3⟩
   · refine ⟨κ,h1,h2,.inr ⟨b,vs,h3,h4,h5,h6,h7,fun k hk j hj=>?_⟩⟩
     obtain ⟨x,g1,g2⟩:=h10 k hk j hj
     exact ⟨x,g1,Rel.tag _ (ht k hk j hj) g2⟩
theorem TrOkL.tag {H:HH} {hp:Nat->Option Obj}:∀ (l:List Tr) {vs:List Value} {S:Nat->Prop},trTL l->TrOkL H hp l vs S->TrOkL (fun _=>H true) hp l vs S
 | [],_,_,_,h=>h
 | t::ts,_,_,ht,h=>by
   simp only [trTL] at ht
   obtain ⟨v,r,S1,S2,h1,h2,h3,h4,h5,h6⟩:=h
   exact ⟨v,r,S1,S2,h1,h2,h3,h4,TrOk.tag t ht.1 h5,TrOkL.tag ts ht.2 h6⟩
end
def tabTr (c:Nat->Tr):Nat->Nat->List Tr
 | _,0=>[]
 | o,n+1=>c o::tabTr c (o+1) n
theorem trTL_tab {c:Nat->Tr}:∀ {n o:Nat},trTL (tabTr c o n)->∀ j,j<n->trT (c (o+j))
 | n+1,o,h,0,_=>by
   simp only [tabTr,trTL] at h
   exact h.1
 | n+1,o,h,j+1,hj=>by
   simp only [tabTr,trTL] at h
   have:=trTL_tab h.2 j (by omega)
   rwa [show o+1+j=o+(j+1) by omega] at this
theorem trTL_tab0 {c:Nat->Tr} {n:Nat} (h:trTL (tabTr c 0 n)) (j:Nat) (hj:j<n):trT (c j):=by
 have:=trTL_tab h j hj
 rwa [Nat.zero_add] at this
def opTP:List (Nat×List AV)->Prop
 | []=>True
 | p::r=>tagTL p.2=true/\opTP r
theorem opTP_mem:∀ {l:List (Nat×List AV)},opTP l->∀ p∈l,tagTL p.2=true
 | q::r,h,p,hp=>by
   rcases List.mem_cons.1 hp with rfl | hp
   · exact h.1
   · exact opTP_mem h.2 p hp
def blkTP:Blk->Prop
 | .row _ sz n _ c=>∀ k,k<n->∀ j,j<sz->tagT (c k j)=true
 | .trow _ sz n _ c op _=>opTP op/\∀ k,k<n->trTL (tabTr (c k) 0 sz)
 | B=>blkT B=true
theorem BlkOk.tag {H:HH} {E:Env} {w:World} {i:Nat} {B:Blk} (ht:blkTP B) (h:BlkOk H E w i B):BlkOk (fun _=>H true) E w i B:=by
 cases B with
 | dead=>exact h
 | mp es ck =>
   obtain ⟨h0,b,ms,h1,h2,h3,h4⟩:=h
   exact ⟨h0,b,ms,h1,h2,h3,RelL.tag _ ht h4⟩
 | mi kk vk has c=>exact h
 | mit m since seen last=>exact h
 | any=>exact h
 | tmap q has c n kn=>exact absurd ht (by simp [blkTP,blkT])
 | trow ty sz n cap c op zs =>
   obtain ⟨h0,ha,hb,hc,h1⟩:=h
   refine ⟨h0,ha,hb,hc,?_⟩
   cases hι:E.ι i with
   | none=>rw [hι] at h1;exact h1
   | some b =>
     rw [hι] at h1
     obtain ⟨hs,vs,F,h2,h4⟩:=h1
     exact ⟨hs,vs,F,h2,h4.one,h4.size,h4.own,h4.sep,h4.lt,h4.once,fun p hp=>RelL.tag _ (opTP_mem ht.1 p hp) (h4.known p hp),fun k hk hn j hj=>by
      obtain ⟨x,g1,g2⟩:=h4.tr k hk hn j hj
      exact ⟨x,g1,TrOk.tag _ (trTL_tab0 (ht.2 k hk) j hj) g2⟩,h4.spare⟩
 | box ty cs =>
   obtain ⟨h0,b,vs,h1,h2,h3,h4⟩:=h
   exact ⟨h0,b,vs,h1,h2,h3,RelL.tag cs ht h4⟩
 | lst ty sz n cap cs =>
   obtain ⟨h0,ha,hb,hc,h1⟩:=h
   refine ⟨h0,ha,hb,hc,?_⟩
   cases hι:E.ι i with
   | none=>rw [hι] at h1;exact h1
   | some b =>
     rw [hι] at h1
     obtain ⟨vs,h2,h3,h4,h5⟩:=h1
     exact ⟨vs,h2,h3,h4,RelL.tag cs ht h5⟩
 | row ty sz n cap c =>
   obtain ⟨h0,ha,hb,hc,h1⟩:=h
   refine ⟨h0,ha,hb,hc,?_⟩
   cases hι:E.ι i with
   | none=>rw [hι] at h1;exact h1
   | some b =>
     rw [hι] at h1
     obtain ⟨vs,h2,h3,h4,h5⟩:=h1
     refine ⟨vs,h2,h3,h4,fun k hk j hj=>?_⟩
     obtain ⟨x,hx,hr⟩:=h5 k hk j hj
     exact ⟨x,hx,Rel.tag _ (ht k hk j hj) hr⟩
def shift (s i:Nat):Option Nat:=some (i+s)
def place:List Blk->Nat->Nat->List Blk->List Blk
 | M,_,_,[]=>M
 | M,p,s,B::r=>place (putM M p (renB (shift s) B)) (p+1) s r
theorem getM_place:∀ (L M:List Blk) (p s j:Nat),getM (place M p s L) j=if p<=j/\j<p+len L then renB (shift s) (getM L (j - p)) else getM M j
 | [],M,p,s,j=>by
   have h:¬ (p<=j/\j<p+len ([]:List Blk)):=by simp [len]
   rw [if_neg h];rfl
 | B::r,M,p,s,j=>by
   simp only [place]
   rw [getM_place r]
   by_cases h1:p=j
   · subst h1
     rw [if_neg (by omega),getM_put_same,if_pos ⟨Nat.le_refl _,by simp [len]⟩]
     simp [getM]
   · by_cases h2:p+1<=j/\j<p+1+len r
     · rw [if_pos h2,if_pos (by simp [len];omega)]
       obtain ⟨m,rfl⟩:∃ m,j=p+1+m:=⟨j - (p+1),by omega⟩
       have e1:p+1+m - (p+1)=m:=by omega
       have e2:p+1+m - p=m+1:=by omega
       rw [e1,e2];rfl
     · rw [if_neg h2,if_neg (by simp [len];omega),getM_put_ne _ _ _ _ h1]
theorem Conc.live_lt {H:HH} {E:Env} {w:World} {M:List Blk} (h:Conc H E w M) {i:Nat} (hl:E.lv i=true):i<len M:=by
 rcases Nat.lt_or_ge i (len M) with h1 | h1
 · exact h1
 · have:=h.blk i
   rw [getM_len M i h1] at this
   rw [show E.lv i=false from this] at hl;cases hl
def Env.join (E E1:Env) (s n:Nat):Env :=
 ⟨fun j=>if s<=j/\j<s+n then E1.lv (j - s) else E.lv j,fun j=>if s<=j/\j<s+n then E1.ι (j - s) else E.ι j,
  fun j=>if s<=j/\j<s+n then E1.κ (j - s) else E.κ j,fun j=>if s<=j/\j<s+n then E1.η (j - s) else E.η j,
  fun j x=>if s<=j/\j<s+n then E1.σ (j - s) x else E.σ j x⟩
theorem Env.join_in (E E1:Env) (s n j:Nat) (h:s<=j/\j<s+n):(E.join E1 s n).lv j=E1.lv (j - s)/\(E.join E1 s n).ι j=E1.ι (j - s)/\(E.join E1 s n).κ j=E1.κ (j - s)/\(E.join E1 s n).η j=E1.η (j - s):=by
 simp [Env.join,h]
theorem Env.join_out (E E1:Env) (s n j:Nat) (h:¬ (s<=j/\j<s+n)):(E.join E1 s n).lv j=E.lv j/\(E.join E1 s n).ι j=E.ι j/\(E.join E1 s n).κ j=E.κ j/\(E.join E1 s n).η j=E.η j:=by
 unfold Env.join;exact ⟨if_neg h,if_neg h,if_neg h,if_neg h⟩
theorem Env.join_has {E E1:Env} {s n j x:Nat} (h:(E.join E1 s n).has j x):(¬ (s<=j/\j<s+n)/\E.has j x)∨((s<=j/\j<s+n)/\E1.has (j - s) x):=by
 by_cases hj:s<=j/\j<s+n
 · simp only [Env.has,Env.join,if_pos hj] at h
   exact .inr ⟨hj,h⟩
 · simp only [Env.has,Env.join,if_neg hj] at h
   exact .inl ⟨hj,h⟩
theorem frame_core {Hs H H1 H2:HH} {E E1:Env} {w w1:World} {M M2:List Blk} {mv:List Nat} {nid:Nat} (hC:Conc H E w M) (hC1:Conc H1 E1 w1 M2) (hE:Evol mv Hs E0 w H1 E1 w1) (h12:H.le H2) (htf:(H2 true).le (H2 false))
 (himm:∀ b o,H2 false b=some o->w1.heap[b]? = some o) (hnew:∀ c b o,H2 c b=some o->H c b=some o∨(w.heap.size<=b/\∃ c',H1 c' b=some o))
 (hblk:∀ i,BlkOk H2 E1 w1 i (getM M2 i)) (hd:∀ k,k<len M2->getM M (nid+k)=.dead) :
 E1.via (E.join E1 nid (len M2)) (shift nid)/\Conc H2 (E.join E1 nid (len M2)) w1 (place M nid nid M2)/\Evol [] H E w H2 (E.join E1 nid (len M2)) w1:=by
 have hkeep:∀ b,b<w.heap.size->w1.heap[b]? = w.heap[b]?:=fun b hb=>hE.keep b hb fun i hl=>E0_has hl
 have hown1:∀ i b,E1.has i b->w.heap.size<=b:=fun i b hl=>by
  rcases hE.own i b hl with ⟨j,hj⟩ | h
  · exact (E0_has hj).elim
  · exact h
 have hout:∀ j,E.lv j=true->¬ (nid<=j/\j<nid+len M2):=by
  intro j hl ⟨h1,h2⟩
  have h3:=hd (j - nid) (by omega)
  rw [show nid+(j - nid)=j from by omega] at h3
  have:=hC.blk j
  rw [h3] at this
  rw [show E.lv j=false from this] at hl;cases hl
 have hvia1:E1.via (E.join E1 nid (len M2)) (shift nid):=by
  intro i j hij hl
  cases hij
  have hlt:=hC1.live_lt hl
  obtain ⟨e1,e2,e3,e4⟩:=E.join_in E1 nid (len M2) (i+nid) ⟨by omega,by omega⟩
  rw [Nat.add_sub_cancel] at e1 e2 e3 e4
  exact ⟨e1.trans hl,e2,e3,e4⟩
 have hvia:E.via (E.join E1 nid (len M2)) some:=by
  intro i j hij hl
  cases hij
  obtain ⟨e1,e2,e3,e4⟩:=E.join_out E1 nid (len M2) i (hout i hl)
  exact ⟨e1.trans hl,e2,e3,e4⟩
 refine ⟨hvia1,⟨himm,hC.tf.up h12 htf,fun j=>?_,fun i j b hi hj=>?_,fun i b hi=>?_,fun i b hi hib=>?_⟩,⟨hE.os,hE.tape,hE.output,hE.size,fun b hb _=>hkeep b hb,fun j b hl=>?_,h12,fun c b o ho=>?_,fun i hl _=>hvia i i rfl hl⟩⟩
 · rw [getM_place]
   by_cases h:nid<=j/\j<nid+len M2
   · rw [if_pos h]
     obtain ⟨e1,e2,e3,e4⟩:=E.join_in E1 nid (len M2) j h
     exact (hblk (j - nid)).move (HH.le_refl _) hvia1 e1 e2 e3 e4 (fun b=>by simp [Env.join,h]) fun _ _=>rfl
   · rw [if_neg h]
     obtain ⟨e1,e2,e3,e4⟩:=E.join_out E1 nid (len M2) j h
     have:=(hC.blk j).move (f:=some) (w':=w1) (i':=j) h12 hvia e1 e2 e3 e4 (fun b=>by simp only [Env.join,if_neg h]) fun b hb=>hkeep b (hC.ltH hb)
     rwa [renB_some] at this
 · rcases Env.join_has hi with ⟨_,a1⟩ | ⟨h1,a1⟩<;>rcases Env.join_has hj with ⟨_,b1⟩ | ⟨h2,b1⟩
   · exact hC.injH i j b a1 b1
   · have:=hC.ltH a1;have:=hown1 _ b b1;omega
   · have:=hC.ltH b1;have:=hown1 _ b a1;omega
   · have:=hC1.injH _ _ b a1 b1;omega
 · cases hx:H2 false b with
   | none=>rfl
   | some o =>
     rcases Env.join_has hi with ⟨_,a1⟩ | ⟨_,a1⟩
     · rcases hnew false b o hx with h | ⟨h,_⟩
       · rw [hC.sepH i b a1] at h;cases h
       · have:=hC.ltH a1;omega
     · have hge:=hown1 _ b a1
       rcases hnew false b o hx with h | ⟨_,c',h⟩
       · have:=IH.lt_of hC.imm h;omega
       · have h':H1 false b=some o:=by cases c';exact h;exact hC1.tf.1 b o h
         rw [hC1.sepH _ b a1] at h';cases h'
 · rcases Env.join_has ⟨hi,.inr hib⟩ with ⟨_,a1⟩ | ⟨_,a1⟩
   · have:=hC.ltH a1;have:=hE.size;omega
   · exact hC1.ltH a1
 · rcases Env.join_has hl with ⟨_,a1⟩ | ⟨_,a1⟩
   · exact .inl ⟨j,a1⟩
   · exact .inr (hown1 _ b a1)
 · rcases hnew c b o ho with h | ⟨h,_⟩
   · exact .inl h
   · exact .inr (.inl h)
theorem conc_nil {H:HH} {w:World} (hi:∀ b o,H false b=some o->w.heap[b]? = some o) (ht:HOk H):Conc H E0 w [] :=
 ⟨hi,ht,fun i=>by rw [getM_nil];rfl,fun i j b h=>(E0_has h).elim,fun i b h=>(E0_has h).elim,fun i b h=>by simp [E0] at h⟩
def allBP:List Blk->Prop
 | []=>True
 | B::r=>(match B with | .row _ sz n _ c=>∀ k,k<n->∀ j,j<sz->tagT (c k j)=true | .trow _ sz n _ c op _=>opTP op/\∀ k,k<n->trTL (tabTr (c k) 0 sz) | B=>blkT B=true)/\allBP r
theorem allBP_get:∀ {M:List Blk},allBP M->∀ i,blkTP (getM M i)
 | [],_,i=>by rw [getM_nil];exact (rfl:blkT .dead=true)
 | B::r,h,0=>by
   have:=h.1
   show blkTP B
   cases B<;>exact this
 | B::r,h,i+1=>allBP_get h.2 i
theorem ACall.borrow {P:Program} {f:FuncId} {n nid:Nat} {args:List AV} {M M2:List Blk} {r:AV} {mv:List Nat} {rd:Nat->Blk} (hrd:∀ i,rd i=.dead∨rd i=getM M i) (h:ACall P f (viewL n rd args) [] r M2 mv) (ht:tagT r=true) (hb:∀ i,blkTP (getM M2 i))
 (hd:∀ k,k<len M2->getM M (nid+k)=.dead):ACall P f args M (ren (shift nid) r) (place M nid nid M2) []:=by
 intro H E w vals hC hargs
 refine (h (HB H w) E0 w vals (conc_nil (fun b o hb=>hb) (hC.tf.up (HB_le hC.imm) (HB_tf hC.imm hC.tf.1))) (viewL_ok hC hrd n hargs)).mono ?_
 rintro e w1 ⟨v,H1,E1,rfl,hr,hC1,hE1⟩
 have hH1:∀ b o,H1 true b=some o->H true b=some o∨w.heap.size<=b:=fun b o hbo=>by
  rcases hE1.new true b o hbo with h | h | ⟨i,hi⟩
  · exact .inl h
  · exact .inr h
  · exact (E0_has hi).elim
 let H2:HH:=fun c b=>match H c b with | some o=>some o | none=>H1 true b
 have h12:H.le H2:=fun c b o ho=>by show (match H c b with | some o=>some o | none=>H1 true b)=some o;rw [ho]
 have h1t:HH.le (fun _=>H1 true) H2:=fun c b o ho=>by
  show (match H c b with | some o=>some o | none=>H1 true b)=some o
  cases hx:H c b with
  | none=>exact ho
  | some o' =>
    have hx':H false b=some o':=by cases c;exact hx;exact hC.tf.1 b o' hx
    rcases hH1 b o ho with h | h
    · have:=hC.tf.1 b o h
      rw [hx'] at this
      exact this
    · have:=IH.lt_of hC.imm hx'
      omega
 have hsplit:∀ c b o,H2 c b=some o->H c b=some o∨H1 true b=some o:=fun c b o ho=>by
  have ho:(match H c b with | some o=>some o | none=>H1 true b)=some o:=ho
  cases hx:H c b with
  | none=>rw [hx] at ho;exact .inr ho
  | some o'=>rw [hx] at ho;exact .inl ho
 have hkeep:∀ b,b<w.heap.size->w1.heap[b]? = w.heap[b]?:=fun b hb=>hE1.keep b hb fun i hl=>E0_has hl
 obtain ⟨g1,g2,g3⟩:=frame_core (H2:=H2) (nid:=nid) hC hC1 hE1 h12 (fun b o ho=>by
  rcases hsplit true b o ho with h | h
  · exact h12 false b o (hC.tf.1 b o h)
  · exact h1t false b o h) (fun b o ho=>by
  rcases hsplit false b o ho with h | h
  · rw [hkeep b (IH.lt_of hC.imm h)];exact hC.imm b o h
  · exact hC1.imm b o (hC1.tf.1 b o h)) (fun c b o ho=>by
  rcases hsplit c b o ho with h | h
  · exact .inl h
  · rcases hH1 b o h with h' | h'
    · left
      cases c
      · exact hC.tf.1 b o h'
      · exact h'
    · exact .inr ⟨h',true,h⟩) (fun i=>by
  have:=((hC1.blk i).tag (hb i)).move (f:=some) (E':=E1) (w':=w1) (i':=i) h1t (fun a c hc hl=>by cases hc;exact ⟨hl,rfl,rfl,rfl⟩) rfl rfl rfl rfl (fun _=>Iff.rfl) fun _ _=>rfl
  rwa [renB_some] at this) hd
 exact ⟨v,H2,_,rfl,Rel.mono _ h1t (Rel.ren _ g1 (Rel.tag _ ht hr)),g2,g3⟩
mutual
theorem viewG_no:∀ (a:AV) {g:AV->AV} {H:HH} {E:Env} {v:Value},(H true).le (H false)->noRef a=true->Rel a H E v->Rel (viewG g a) H E0 v
 | .s _,_,_,_,_,_,_,h=>h
 | .y _,_,_,_,_,_,_,h=>h
 | .junk,_,_,_,_,_,_,_=>trivial
 | .ptr ..,_,_,_,_,_,h,_=>by simp [Go.Ax.noRef] at h
 | .own ..,_,_,_,_,_,h,_=>by simp [Go.Ax.noRef] at h
 | .sl ..,_,_,_,_,_,_,h=>h
 | .ys ..,_,_,_,_,_,_,h=>h
 | .yn ..,_,_,_,_,_,_,h=>h
 | .ip ..,_,_,_,_,_,_,h=>h
 | .opt ..,_,_,_,_,_,_,h=>h
 | .agg cs,_,_,_,_,ht,hn,h=>by
   obtain ⟨vs,hu,hr⟩:=h
   exact ⟨vs,hu,viewGL_no cs ht hn hr⟩
 | .tup cs,_,_,_,_,ht,hn,h=>by
   obtain ⟨vs,hu,hr⟩:=h
   exact ⟨vs,hu,viewGL_no cs ht hn hr⟩
 | .fn f a b,_,_,_,_,ht,hn,h=>by
   obtain ⟨x,y,hu,h1,h2⟩:=h
   simp [Go.Ax.noRef] at hn
   exact ⟨x,y,hu,viewGL_no a ht hn.1 h1,viewGL_no b ht hn.2 h2⟩
 | .ifc t a,_,_,_,_,ht,hn,h=>by
   obtain ⟨x,hu,h1⟩:=h
   exact ⟨x,hu,viewG_no a ht hn h1⟩
theorem viewGL_no:∀ (l:List AV) {g:AV->AV} {H:HH} {E:Env} {vs:List Value},(H true).le (H false)->noRefL l=true->RelL l H E vs->RelL (viewGL g l) H E0 vs
 | [],_,_,_,_,_,_,h=>h
 | a::as,_,_,_,_,ht,hn,h=>by
   obtain ⟨v,r,hv,h1,h2⟩:=h
   simp [noRefL] at hn
   exact ⟨v,r,hv,viewG_no a ht hn.1 h1,viewGL_no as ht hn.2 h2⟩
theorem viewG_e0:∀ (a:AV) {g:AV->AV} {H:HH} {v:Value},(H true).le (H false)->Rel a H E0 v->Rel (viewG g a) H E0 v
 | .s _,_,_,_,_,h=>h
 | .y _,_,_,_,_,h=>h
 | .junk,_,_,_,_,_=>trivial
 | .ptr ..,_,_,_,_,h=>by obtain ⟨hl,_⟩:=h;simp [E0] at hl
 | .own ..,_,_,_,_,h=>by obtain ⟨hl,_⟩:=h;simp [E0] at hl
 | .sl ..,_,_,_,_,h=>h
 | .ys ..,_,_,_,_,h=>h
 | .yn ..,_,_,_,_,h=>h
 | .ip ..,_,_,_,_,h=>h
 | .opt ..,_,_,_,_,h=>h
 | .agg cs,_,_,_,ht,h=>by
   obtain ⟨vs,hu,hr⟩:=h
   exact ⟨vs,hu,viewGL_e0 cs ht hr⟩
 | .tup cs,_,_,_,ht,h=>by
   obtain ⟨vs,hu,hr⟩:=h
   exact ⟨vs,hu,viewGL_e0 cs ht hr⟩
 | .fn f a b,_,_,_,ht,h=>by
   obtain ⟨x,y,hu,h1,h2⟩:=h
   exact ⟨x,y,hu,viewGL_e0 a ht h1,viewGL_e0 b ht h2⟩
 | .ifc t a,_,_,_,ht,h=>by
   obtain ⟨x,hu,h1⟩:=h
   exact ⟨x,hu,viewG_e0 a ht h1⟩
theorem viewGL_e0:∀ (l:List AV) {g:AV->AV} {H:HH} {vs:List Value},(H true).le (H false)->RelL l H E0 vs->RelL (viewGL g l) H E0 vs
 | [],_,_,_,_,h=>h
 | a::as,_,_,_,ht,h=>by
   obtain ⟨v,r,hv,h1,h2⟩:=h
   exact ⟨v,r,hv,viewG_e0 a ht h1,viewGL_e0 as ht h2⟩
end
theorem viewL_no {H:HH} {E:Env} {n:Nat} {rd:Nat->Blk} (ht:(H true).le (H false)):∀ {l:List AV} {vs:List Value},noRefL l=true->RelL l H E vs->RelL (viewL n rd l) H E0 vs
 | [],_,_,h=>h
 | a::_,_,hn,h=>by
   obtain ⟨v,r,hv,h1,h2⟩:=h
   simp [noRefL] at hn
   refine ⟨v,r,hv,?_,viewL_no ht hn.2 h2⟩
   cases n with
   | zero=>exact viewG_no a ht hn.1 h1
   | succ n=>exact viewG_no a ht hn.1 h1
theorem ACall.direct {P:Program} {f:FuncId} {n nid:Nat} {args:List AV} {M M2:List Blk} {r:AV} {mv:List Nat} {rd:Nat->Blk} (h:ACall P f (viewL n rd args) [] r M2 mv) (hno:noRefL args=true)
 (hd:∀ k,k<len M2->getM M (nid+k)=.dead):ACall P f args M (ren (shift nid) r) (place M nid nid M2) []:=by
 intro H E w vals hC hargs
 refine (h H E0 w vals (conc_nil hC.imm hC.tf) (viewL_no hC.tf.1 hno hargs)).mono ?_
 rintro e w1 ⟨v,H1,E1,rfl,hr,hC1,hE1⟩
 obtain ⟨g1,g2,g3⟩:=frame_core (H2:=H1) (nid:=nid) hC hC1 hE1 hE1.hh hC1.tf.1 hC1.imm (fun c b o ho=>by
  rcases hE1.new c b o ho with h | h | ⟨i,hi⟩
  · exact .inl h
  · exact .inr ⟨h,c,ho⟩
  · exact (E0_has hi).elim) hC1.blk hd
 exact ⟨v,H1,_,rfl,Rel.ren _ g1 hr,g2,g3⟩
theorem call_step {P:Program} {o:Oper} {T:Nat->AV} {fo:Operand} {args:Array Operand} {ats:Array TypeId} {g:FuncId} {first cap:List AV} {fn:Func} {M M':List Blk} {r:AV} {mv:List Nat}
 (hop:o.op=.call { callee:=.value fo,args,argTypes:=ats }) (hf:ev T fo=.fn (.func g) first cap) (hg:P.funcs[g]? = some fn) (hn:(fn.name == "runtime.NumGoroutine")=false) (hb:fn.body.isNone=false)
 (h:ACall P g (first++args.toList.map (ev T)++cap) M r M' mv) :
 ∀ H E w a (K:Act->World->Prop) (Q:Exit->Act->World->Prop),Conc H E w M->RelT T H E a->(∀ v w' H' E',Rel r H' E' v->Conc H' E' w' M'->Evol mv H E w H' E' w'->K (a.put o.dst v) w')->o.wp P a w K Q:=by
 intro H E w a K Q hC hT hk
 have hr:=rel_ev hT fo
 rw [hf] at hr
 obtain ⟨x,y,hv,h1,h2⟩:=hr
 have hargs:RelL (first++args.toList.map (ev T)++cap) H E (x++args.map a.eval++y).toList:=by
  have:=relL_append (relL_append h1 (relL_ev hT args.toList)) h2
  simpa using this
 have hrun:(execOp a.eval o).run P w=.ok (.enter g (x++args.map a.eval++y)) w:=by
  have hn':¬ fn.name = "runtime.NumGoroutine" := by simpa using hn
  have hb':¬ fn.body=none:=fun e=>by simp [e] at hb
  simp [execOp,hop,resolve,hv,Deferred.ofValue,invoke,callFunc,hg,hn',hb']
 unfold Oper.wp
 rw [hrun]
 refine (h H E w _ hC hargs).mono ?_
 rintro e w' ⟨v,H',E',rfl,hr',hC',hE'⟩
 exact hk v w' H' E' hr' hC' hE'
end Go.Ax
