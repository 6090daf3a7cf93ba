import Derived.Test.YtffkiommagljeaaGreatDoorE5
set_option linter.unusedVariables false
set_option linter.unusedSimpArgs false
set_option linter.unusedSectionVars false
namespace Go.Ax
open Go
variable [Inhabited Gl0]
theorem splice_get (l v:List Value) (o:Nat) (h:o+v.length<=l.length) (j:Nat) :
 (l.take o++v++l.drop (o+v.length))[j]? = if o<=j/\j<o+v.length then v[j - o]? else l[j]?:=by
 rw [List.append_assoc,List.getElem?_append]
 have hl:(l.take o).length=o:=by simp;omega
 rw [hl]
 by_cases h1:j<o
 · rw [if_pos h1,if_neg (by omega),List.getElem?_take,if_pos h1]
 · rw [if_neg h1,List.getElem?_append]
   by_cases h2:j<o+v.length
   · rw [if_pos (by omega),if_pos ⟨by omega,h2⟩]
   · rw [if_neg (by omega),if_neg (by omega),List.getElem?_drop]
     congr 1;omega
theorem splice_len (l v:List Value) (o:Nat) (h:o+v.length<=l.length):(l.take o++v++l.drop (o+v.length)).length=l.length:=by
 simp;omega
theorem splice_ones {l v:List Value} {o:Nat} (hl:ones l) (hv:ones v):ones (l.take o++v++l.drop (o+v.length)):=by
 intro x hx
 simp only [List.mem_append] at hx
 rcases hx with (hx | hx) | hx
 · exact hl x (List.mem_of_mem_take hx)
 · exact hv x hx
 · exact hl x (List.mem_of_mem_drop hx)
theorem noRef_get:∀ {l:List AV},noRefL l=true->∀ i,noRef (get l i)=true
 | [],_,i=>by cases i<;>rfl
 | a::as,h,0=>by simp [noRefL] at h;exact h.1
 | a::as,h,i+1=>by simp [noRefL] at h;exact noRef_get h.2 i
def splice (l v:List Value) (o:Nat):List Value:=l.take o++v++l.drop (o+v.length)
theorem ones_take_splice {l v:List Value} {o q:Nat} (hl:ones (l.take q)) (hv:ones v) (h:o+v.length<=l.length):ones ((splice l v o).take q):=by
 intro x hx
 obtain ⟨j,hj⟩:=List.mem_iff_getElem?.1 hx
 rw [List.getElem?_take] at hj
 split at hj
 · rename_i hq
   unfold splice at hj
   rw [splice_get _ _ _ h] at hj
   split at hj
   · exact hv x (List.mem_iff_getElem?.2 ⟨_,hj⟩)
   · exact hl x (List.mem_iff_getElem?.2 ⟨j,by rw [List.getElem?_take,if_pos hq];exact hj⟩)
 · cases hj
theorem wrBlk_ok {H:HH} {E:Env} {w:World} {i b k sz o:Nat} {B B':Blk} {hh:Option Hint} {l:List AV} {vals:List Value} {ob:List Bool} (hB:BlkOk H E w i B) (hb:E.ι i=some b)
 (h:wrBlk hh B k sz o l=some (B',ob)) (ho:All ob) (hr:RelL l H E vals) (h1:ones vals) :
 ∃ vs ty,w.heap[b]? = some (.cells vs ty (0,0))/\k*sz+o+vals.length<=vs.size /\
  ∀ w',(∀ c,c≠b->w'.heap[c]? = w.heap[c]?)->w'.heap[b]? = some (.cells (splice vs.toList vals (k*sz+o)).toArray ty (0,0))->BlkOk H E w' i B':=by
 have hlen:=RelL.length hr
 cases B with
 | dead=>simp [wrBlk] at h
 | mp es ck=>simp [wrBlk] at h
 | mi kk vk has c=>simp [wrBlk] at h
 | mit m since seen last=>simp [wrBlk] at h
 | any=>simp [wrBlk] at h
 | tmap q has c n kn=>simp [wrBlk] at h
 | trow ty sz' m cap c op zs =>
   obtain ⟨hl,h0,hκ,hcap,h2⟩:=hB
   rw [hb] at h2
   obtain ⟨hs,vs,F,h3,h4⟩:=h2
   simp only [wrBlk] at h
   split at h
   case h_2=>cases h
   rename_i k0 as r
   split at h
   case isFalse=>cases h
   rename_i hle
   simp only [Bool.and_eq_true,beq_iff_eq,Nat.ble_eq,len_eq] at hle
   obtain ⟨rfl,hle⟩:=hle
   split at h
   case h_2=>cases h
   rename_i ob' hc
   cases h
   have hk:k=k0:=by simpa using chk_ok hc ho
   subst hk
   have hkm:=h4.lt (k,as) (by simp)
   have hkn:=h4.known (k,as) (by simp)
   simp only at hkm hkn
   have hms:m*sz'<=E.κ i*sz':=Nat.mul_le_mul_right _ h0.2
   have hk1:(k+1)*sz'<=m*sz':=Nat.mul_le_mul_right _ hkm
   rw [Nat.add_mul,Nat.one_mul] at hk1
   have hsize:=h4.size
   have hal:=RelL.length hkn
   simp only [List.length_take,List.length_drop] at hal
   have hfit:k*sz'+o+vals.length<=vs.toList.length:=by omega
   have hget:∀ q,(splice vs.toList vals (k*sz'+o))[q]? = if k*sz'+o<=q/\q<k*sz'+o+vals.length then vals[q - (k*sz'+o)]? else vs.toList[q]?:=fun q=>by unfold splice;exact splice_get _ _ _ hfit q
   have hoth:∀ k' j,k'≠k->j<sz'->¬ (k*sz'+o<=k'*sz'+j/\k'*sz'+j<k*sz'+o+vals.length):=by
    intro k' j hne hj hh
    rcases Nat.lt_or_gt_of_ne hne with hlt | hgt
    · have:(k'+1)*sz'<=k*sz':=Nat.mul_le_mul_right _ hlt
      rw [Nat.add_mul,Nat.one_mul] at this;omega
    · have:(k+1)*sz'<=k'*sz':=Nat.mul_le_mul_right _ hgt
      rw [Nat.add_mul,Nat.one_mul] at this;omega
   have honce:=h4.once
   rw [List.map_cons,List.nodup_cons] at honce
   refine ⟨vs,ty,h3,by simpa using hfit,fun w' hsame hw=>⟨hl,h0,hκ,hcap,?_⟩⟩
   rw [hb]
   refine ⟨hs,_,F,hw,by rw [List.toList_toArray];exact ones_take_splice h4.one h1 hfit,by rw [List.toList_toArray];unfold splice;rw [splice_len _ _ _ hfit];exact hsize,h4.own,h4.sep,fun p hp=>?_,by rw [List.map_cons,List.nodup_cons];exact honce,fun p hp=>?_,fun k' hk' hn j hj=>?_,fun hz=>?_⟩
   · rcases List.mem_cons.1 hp with rfl | hp
     · exact hkm
     · exact h4.lt p (List.mem_cons_of_mem _ hp)
   · rw [List.toList_toArray]
     rcases List.mem_cons.1 hp with rfl | hp
     · refine relL_mk (by rw [List.length_take,List.length_drop,length_setL];unfold splice;rw [splice_len _ _ _ hfit];simp only;omega) fun j u hu=>?_
       simp only at hu ⊢
       rw [List.getElem?_take] at hu
       split at hu
       case isFalse=>cases hu
       rename_i hj
       rw [List.getElem?_drop,hget] at hu
       rw [get_setL _ _ _ _ (by omega)]
       by_cases hjj:o<=j/\j<o+l.length
       · rw [if_pos (by omega)] at hu
         rw [if_pos hjj]
         refine relL_get hr _ _ ?_
         rw [show j - o=k*sz'+j - (k*sz'+o) by omega]
         exact hu
       · rw [if_neg (by omega)] at hu
         rw [if_neg hjj]
         exact relL_get hkn _ _ (by rw [List.getElem?_take,if_pos hj,List.getElem?_drop];exact hu)
     · have hpk:p.1≠k:=fun e=>honce.1 (List.mem_map.2 ⟨p,hp,e⟩)
       have hold:=h4.known p (List.mem_cons_of_mem _ hp)
       have:((splice vs.toList vals (k*sz'+o)).drop (p.1*sz')).take sz'=(vs.toList.drop (p.1*sz')).take sz':=by
        refine List.ext_getElem? fun q=>?_
        rw [List.getElem?_take,List.getElem?_take]
        split
        · rename_i hq
          rw [List.getElem?_drop,List.getElem?_drop,hget,if_neg (hoth p.1 q hpk hq)]
        · rfl
       rw [this];exact hold
   · rw [List.toList_toArray]
     have hne:k'≠k:=fun e=>hn (k,setL as o l) (by simp) e.symm
     obtain ⟨x,g1,g2⟩:=h4.tr k' hk' (fun p hp=>by
      rcases List.mem_cons.1 hp with rfl | hp
      · exact fun e=>hne e.symm
      · exact hn p (List.mem_cons_of_mem _ hp)) j hj
     refine ⟨x,by rw [hget,if_neg (hoth k' j hne hj)];exact g1,TrOk.move (HH.le_refl _) _ (fun _ h=>h) (fun y hy=>?_) g2⟩
     have hyb:y≠b:=fun e=>hs (e ▸ h4.own k' j y hy)
     exact hsame y hyb
   · rw [List.toList_toArray,<- h4.spare hz]
     refine List.ext_getElem? fun q=>?_
     rw [List.getElem?_drop,List.getElem?_drop,hget,if_neg (by omega)]
 | box ty cs =>
   obtain ⟨hl,b',vs,h2,h3,h4,h5⟩:=hB
   rw [hb] at h2;cases h2
   cases k with
   | succ k=>simp [wrBlk] at h
   | zero =>
     simp only [wrBlk,len_eq] at h
     split at h
     · rename_i hle
       cases h
       have hle:o+l.length<=cs.length:=by simpa using hle
       have hcl:=RelL.length h5
       have hfit:o+vals.length<=vs.toList.length:=by omega
       refine ⟨vs,ty,h3,by simp at hfit ⊢;omega,fun w' hsame hw=>⟨hl,b,_,hb,hw,?_,?_⟩⟩
       · rw [List.toList_toArray];exact splice_ones h4 h1
       · rw [List.toList_toArray]
         refine relL_mk (by unfold splice;rw [splice_len _ _ _ (by simpa using hfit),length_setL];exact hcl) fun j u hu=>?_
         unfold splice at hu
         rw [splice_get _ _ _ (by simpa using hfit)] at hu
         rw [get_setL _ _ _ _ (by simpa using hle)]
         simp only [Nat.zero_mul,Nat.zero_add] at hu ⊢
         by_cases hj:o<=j/\j<o+l.length
         · rw [if_pos (by omega)] at hu
           rw [if_pos hj]
           exact relL_get hr _ _ hu
         · rw [if_neg (by omega)] at hu
           rw [if_neg hj]
           exact relL_get h5 _ _ hu
     · cases h
 | lst ty sz' m cap cs =>
   obtain ⟨hl,h0,hκ,hcap,h2⟩:=hB
   rw [hb] at h2
   obtain ⟨vs,h3,h4,h5,h6⟩:=h2
   simp only [wrBlk] at h
   split at h
   · rename_i hle
     cases h
     simp only [Bool.and_eq_true,beq_iff_eq,Nat.ble_eq,len_eq] at hle
     obtain ⟨rfl,hle⟩:=hle
     have hcl:=RelL.length h6
     have hm:m*sz'<=vs.toList.length:=by simp [h5];exact Nat.mul_le_mul_right _ h0.2
     have hll:cs.length=m*sz':=by simp at hcl;simp at hm;omega
     have hfit:k*sz'+o+vals.length<=vs.toList.length:=by omega
     refine ⟨vs,ty,h3,by simpa using hfit,fun w' hsame hw=>⟨hl,h0,hκ,hcap,?_⟩⟩
     rw [hb]
     refine ⟨_,hw,?_,?_,?_⟩
     · rw [List.toList_toArray];exact ones_take_splice h4 h1 hfit
     · simp only [List.size_toArray];unfold splice;rw [splice_len _ _ _ hfit];simpa using h5
     · rw [List.toList_toArray]
       refine relL_mk ?_ fun j u hu=>?_
       · rw [List.length_take];unfold splice;rw [splice_len _ _ _ hfit,length_setL];omega
       · rw [List.getElem?_take] at hu
         split at hu
         · rename_i hjm
           unfold splice at hu
           rw [splice_get _ _ _ hfit] at hu
           rw [get_setL _ _ _ _ hle]
           by_cases hj:k*sz'+o<=j/\j<k*sz'+o+l.length
           · rw [if_pos (by omega)] at hu
             rw [if_pos hj]
             exact relL_get hr _ _ hu
           · rw [if_neg (by omega)] at hu
             rw [if_neg hj]
             exact relL_get h6 _ _ (by rw [List.getElem?_take,if_pos hjm];exact hu)
         · cases hu
   · cases h
 | row ty sz' m cap c =>
   obtain ⟨hl,h0,hκ,hcap,h2⟩:=hB
   rw [hb] at h2
   obtain ⟨vs,h3,h4,h5,h6⟩:=h2
   simp only [wrBlk] at h
   split at h
   · rename_i hle
     simp only [Bool.and_eq_true,beq_iff_eq,Nat.ble_eq,len_eq] at hle
     obtain ⟨⟨rfl,hle⟩,hnr⟩:=hle
     split at h
     case h_2=>cases h
     rename_i ob' hc
     cases h
     have hk:k<m:=by simpa using chk_ok hc ho
     have hmk:(k+1)*sz'<=m*sz':=Nat.mul_le_mul_right _ hk
     have hmκ:m*sz'<=E.κ i*sz':=Nat.mul_le_mul_right _ h0.2
     rw [Nat.add_mul] at hmk
     have hfit:k*sz'+o+vals.length<=vs.toList.length:=by simp [h5];omega
     refine ⟨vs,ty,h3,by simpa using hfit,fun w' hsame hw=>⟨hl,h0,hκ,hcap,?_⟩⟩
     rw [hb]
     refine ⟨_,hw,?_,?_,?_⟩
     · rw [List.toList_toArray];exact ones_take_splice h4 h1 hfit
     · simp only [List.size_toArray];unfold splice;rw [splice_len _ _ _ hfit];simpa using h5
     · intro k' hk' j hj
       obtain ⟨x,hx,hrx⟩:=h6 k' hk' j hj
       rw [List.getElem?_toArray]
       unfold splice
       rw [splice_get _ _ _ hfit]
       unfold wrRow
       rw [len_eq]
       by_cases hkk:k'=k
       · subst hkk
         by_cases hj2:o<=j/\j<o+l.length
         · rw [if_pos (by omega),if_pos ⟨rfl,hj2⟩]
           have e:k'*sz'+j - (k'*sz'+o)=j - o:=by omega
           rw [e]
           have hlt:j - o<vals.length:=by omega
           refine ⟨vals[j - o],List.getElem?_eq_getElem hlt,?_⟩
           exact Rel.noRef _ (noRef_get hnr _) (relL_get hr _ _ (List.getElem?_eq_getElem hlt))
         · rw [if_neg (by omega),if_neg (by simp;omega)]
           exact ⟨x,by simpa using hx,hrx⟩
       · rw [if_neg ?_,if_neg (by simp [hkk])]
         · exact ⟨x,by simpa using hx,hrx⟩
         · rintro ⟨h7,h8⟩
           rcases Nat.lt_or_gt_of_ne hkk with h9 | h9
           · have:(k'+1)*sz'<=k*sz':=Nat.mul_le_mul_right _ h9
             rw [Nat.add_mul] at this
             omega
           · have:(k+1)*sz'<=k'*sz':=Nat.mul_le_mul_right _ h9
             rw [Nat.add_mul] at this
             omega
   · cases h
def Good (H:HH) (E:Env) (w:World) (M:List Blk) (e:Eff) (run:Result Next):Prop :=
 ∃ n v w' E',run=.ok n w'/\(n=.value v∨(n=.skip/\v=undef))/\Rel e.r H E' v/\Conc H E' w' (killM e.kl (applyW e.wr M))/\Evol e.kl H E w H E' w'
theorem good_plain {H:HH} {E:Env} {w:World} {M:List Blk} {e:Eff} {v:Value} {run:Result Next} (hC:Conc H E w M) (hp:Plain e) (hr:Rel e.r H E v) (hrun:run=.ok (.value v) w):Good H E w M e run:=by
 refine ⟨_,v,w,E,hrun,.inl rfl,hr,?_,Evol.refl _ _ _ _⟩
 rw [hp.wr,hp.kl];exact hC
theorem store_good {P:Program} {H:HH} {E:Env} {w:World} {M:List Blk} {hh:Option Hint} {t:TypeId} {av xv:AV} {v x:Value} {e:Eff} (hC:Conc H E w M) (hr:Rel av H E v) (hx:Rel xv H E x)
 (h:aStore P hh (getM M) t av xv=some e) (ho:All e.ob):∃ w',(Instr.storeAt t v x).run P w=.ok () w'/\e.r=.junk/\e.kl=[]/\Conc H E w' (applyW e.wr M)/\Evol [] H E w H E w':=by
 unfold aStore at h
 split at h
 case h_2=>cases h
 rename_i i k sz o l n hl hn
 split at h
 case isFalse=>cases h
 rename_i hnl
 split at h
 case h_2=>cases h
 rename_i B ob hw
 cases h
 obtain ⟨hlv,b,hb,rfl⟩:=hr
 obtain ⟨hrl,hones,_⟩:=cellsOf_ok hl hx
 obtain ⟨vs,ty,h1,h2,h3⟩:=wrBlk_ok (hC.blk i) hb hw ho hrl hones
 have hsz:x.cells.size=n:=by
  have:=RelL.length hrl
  rw [len_eq] at hnl
  simp at hnl this
  omega
 have hst:=run_storeCells_at P b (k*sz+o) ty x.cells.toList 0 vs w h1 (by simpa using h2) hones
 simp only [Nat.add_zero] at hst
 have hu:Upd w (w.setRow b (splice vs.toList x.cells.toList (k*sz+o)).toArray) b (.cells (splice vs.toList x.cells.toList (k*sz+o)).toArray ty (0,0)) :=
  ⟨rfl,rfl,rfl,size_setRow _ _ _,setRow_heap w b vs _ ty _ h1,fun c hc=>setRow_other w b c _ hc⟩
 obtain ⟨hC',hE'⟩:=hC.upd hlv hb hu (h3 _ hu.other hu.same)
 refine ⟨_,?_,rfl,rfl,hC',hE'⟩
 simp only [Instr.storeAt,Instr.sureAddr,storeVar,Sem.run_bind,Sem.run_pure,Result.andThen_ok,run_sizeOf' w hn,hsz,ne_eq,not_true_eq_false,if_false]
 exact hst
theorem alloc_conc {H:HH} {E:Env} {w:World} {M:List Blk} {nid κ η:Nat} {B:Blk} (hC:Conc H E w M) (hd:getM M nid=.dead) (vs:Array Value) (ty:TypeId)
 (hB:BlkOk H (E.set nid (some w.heap.size) κ η) (w.alloc (.cells vs ty)) nid B) :
 Conc H (E.set nid (some w.heap.size) κ η) (w.alloc (.cells vs ty)) (putM M nid B)/\Evol [] H E w H (E.set nid (some w.heap.size) κ η) (w.alloc (.cells vs ty)) :=
 hC.new (w':=w.alloc (.cells vs ty)) hd rfl rfl rfl (by simp) (fun b hb=>Go.RowKit.Below.heap_alloc w _ b hb) (fun b hb=>by cases hb;exact Nat.le_refl _) hB
theorem set_via {H:HH} {E:Env} {w:World} {M:List Blk} {nid κ η:Nat} {bo:Option Nat} (hC:Conc H E w M) (hd:getM M nid=.dead):E.via (E.set nid bo κ η) some:=by
 intro a c hc hl
 cases hc
 have hdead:E.lv nid=false:=by have:=hC.blk nid;rw [hd] at this;exact this
 have hne:a≠nid:=by rintro rfl;rw [hdead] at hl;cases hl
 obtain ⟨e1,e2,e3⟩:=E.set_ne nid a bo κ η hne
 exact ⟨e1.trans hl,e2,e3⟩
theorem box_new {H:HH} {E:Env} {w:World} {M:List Blk} {nid:Nat} {l:List AV} {vs:Array Value} (ty:TypeId) (hC:Conc H E w M) (hd:getM M nid=.dead) (hr:RelL l H E vs.toList) (h1:ones vs.toList) :
 let E':=E.set nid (some w.heap.size) 0 0
 Rel (.ptr nid 0 0 0) H E' (.pointer (some ⟨w.heap.size,0,none⟩))/\Conc H E' (w.alloc (.cells vs ty)) (putM M nid (.box ty l))/\Evol [] H E w H E' (w.alloc (.cells vs ty)):=by
 intro E'
 obtain ⟨e1,e2,_⟩:=E.set_same nid (some w.heap.size) 0 0
 refine ⟨⟨e1,w.heap.size,e2,rfl⟩,?_⟩
 exact alloc_conc hC hd vs ty ⟨e1,w.heap.size,vs,e2,heap_alloc_new w _,h1,RelL.env (set_via hC hd) hr⟩
end Go.Ax
