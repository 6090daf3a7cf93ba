import Derived.Maps.AppendAt
import Derived.Test.YtnbhdjadlbhknaaGreatDoorE2
set_option linter.unusedVariables false
set_option linter.unusedSimpArgs false
set_option linter.unusedSectionVars false
namespace Go.Ax
open Go
variable [Inhabited jZ]
theorem iE (l v:List Value) (o:Nat) (h:o+v.length<=l.length) (j:Nat) :
 (l.take o++v++l.drop (o+v.length))[j]? = if o<=j/\j<o+v.length then v[j - o]? else l[j]?:=by
 rw [List.append_assoc,List.getElem?_append]
 have hl:(l.take o).length=o:=by simp;omega
 rw [hl]
 by_cases h1:j<o
 · rw [if_pos h1,if_neg (by omega),List.getElem?_take,if_pos h1]
 · rw [if_neg h1,List.getElem?_append]
   by_cases h2:j<o+v.length
   · rw [if_pos (by omega),if_pos ⟨by omega,h2⟩]
   · rw [if_neg (by omega),if_neg (by omega),List.getElem?_drop]
     congr 1;omega
theorem jr (l v:List Value) (o:Nat) (h:o+v.length<=l.length):(l.take o++v++l.drop (o+v.length)).length=l.length:=by
 simp;omega
theorem xZ {l v:List Value} {o:Nat} (hl:ones l) (hv:ones v):ones (l.take o++v++l.drop (o+v.length)):=by
 intro x hx
 simp only [List.mem_append] at hx
 rcases hx with (hx | hx) | hx
 · exact hl x (List.mem_of_mem_take hx)
 · exact hv x hx
 · exact hl x (List.mem_of_mem_drop hx)
theorem jT:∀ {l:List AV},dS l=true->∀ i,dR (get l i)=true
 | [],_,i=>by cases i<;>rfl
 | a::as,h,0=>by simp [dS] at h;exact h.1
 | a::as,h,i+1=>by simp [dS] at h;exact jT h.2 i
def splice (l v:List Value) (o:Nat):List Value:=l.take o++v++l.drop (o+v.length)
theorem jY {l v:List Value} {o q:Nat} (hl:ones (l.take q)) (hv:ones v) (h:o+v.length<=l.length):ones ((splice l v o).take q):=by
 intro x hx
 obtain ⟨j,hj⟩:=List.mem_iff_getElem?.1 hx
 rw [List.getElem?_take] at hj
 split at hj
 · rename_i hq
   unfold splice at hj
   rw [iE _ _ _ h] at hj
   split at hj
   · exact hv x (List.mem_iff_getElem?.2 ⟨_,hj⟩)
   · exact hl x (List.mem_iff_getElem?.2 ⟨j,by rw [List.getElem?_take,if_pos hq];exact hj⟩)
 · cases hj
theorem QH {H:HH} {E:Env} {w:World} {i b k sz o:Nat} {B B':ay} {hh:Option Hint} {l:List AV} {vals:List Value} {ob:List Bool} (hB:bV H E w i B) (hb:E.ι i=some b)
 (h:nV hh B k sz o l=some (B',ob)) (ho:All ob) (hr:aA l H E vals) (h1:ones vals) :
 ∃ vs ty,w.heap[b]? = some (.cells vs ty (0,0))/\k*sz+o+vals.length<=vs.size /\
  ∀ w',(∀ c,c≠b->w'.heap[c]? = w.heap[c]?)->w'.heap[b]? = some (.cells (splice vs.toList vals (k*sz+o)).toArray ty (0,0))->bV H E w' i B':=by
 have hlen:=aA.length hr
 cases B with
 | dead=>simp [nV] at h
 | mp es ck=>simp [nV] at h
 | mi kk vk has c=>simp [nV] at h
 | mit m since seen last=>simp [nV] at h
 | any=>simp [nV] at h
 | tmap q has c n kn=>simp [nV] at h
 | trow ty sz' m cap c op zs =>
   obtain ⟨hl,h0,hκ,hcap,h2⟩:=hB
   rw [hb] at h2
   obtain ⟨hs,vs,F,h3,h4⟩:=h2
   simp only [nV] at h
   split at h
   case h_2=>cases h
   rename_i k0 as r
   split at h
   case isFalse=>cases h
   rename_i hle
   simp only [Bool.and_eq_true,beq_iff_eq,Nat.ble_eq,len_eq] at hle
   obtain ⟨rfl,hle⟩:=hle
   split at h
   case h_2=>cases h
   rename_i ob' hc
   cases h
   have hk:k=k0:=by simpa using jF hc ho
   subst hk
   have hkm:=h4.lt (k,as) (by simp)
   have hkn:=h4.known (k,as) (by simp)
   simp only at hkm hkn
   have hms:m*sz'<=E.κ i*sz':=Nat.mul_le_mul_right _ h0.2
   have hk1:(k+1)*sz'<=m*sz':=Nat.mul_le_mul_right _ hkm
   rw [Nat.add_mul,Nat.one_mul] at hk1
   have hsize:=h4.size
   have hal:=aA.length hkn
   simp only [List.length_take,List.length_drop] at hal
   have hfit:k*sz'+o+vals.length<=vs.toList.length:=by omega
   have hget:∀ q,(splice vs.toList vals (k*sz'+o))[q]? = if k*sz'+o<=q/\q<k*sz'+o+vals.length then vals[q - (k*sz'+o)]? else vs.toList[q]?:=fun q=>by unfold splice;exact iE _ _ _ hfit q
   have hoth:∀ k' j,k'≠k->j<sz'->¬ (k*sz'+o<=k'*sz'+j/\k'*sz'+j<k*sz'+o+vals.length):=by
    intro k' j hne hj hh
    rcases Nat.lt_or_gt_of_ne hne with hlt | hgt
    · have:(k'+1)*sz'<=k*sz':=Nat.mul_le_mul_right _ hlt
      rw [Nat.add_mul,Nat.one_mul] at this;omega
    · have:(k+1)*sz'<=k'*sz':=Nat.mul_le_mul_right _ hgt
      rw [Nat.add_mul,Nat.one_mul] at this;omega
   have honce:=h4.once
   rw [List.map_cons,List.nodup_cons] at honce
   refine ⟨vs,ty,h3,by simpa using hfit,fun w' hsame hw=>⟨hl,h0,hκ,hcap,?_⟩⟩
   rw [hb]
   refine ⟨hs,_,F,hw,by rw [List.toList_toArray];exact jY h4.one h1 hfit,by rw [List.toList_toArray];unfold splice;rw [jr _ _ _ hfit];exact hsize,h4.own,h4.sep,fun p hp=>?_,by rw [List.map_cons,List.nodup_cons];exact honce,fun p hp=>?_,fun k' hk' hn j hj=>?_,fun hz=>?_⟩
   · rcases List.mem_cons.1 hp with rfl | hp
     · exact hkm
     · exact h4.lt p (List.mem_cons_of_mem _ hp)
   · rw [List.toList_toArray]
     rcases List.mem_cons.1 hp with rfl | hp
     · refine gB (by rw [List.length_take,List.length_drop,kI];unfold splice;rw [jr _ _ _ hfit];simp only;omega) fun j u hu=>?_
       simp only at hu ⊢
       rw [List.getElem?_take] at hu
       split at hu
       case isFalse=>cases hu
       rename_i hj
       rw [List.getElem?_drop,hget] at hu
       rw [qY _ _ _ _ (by omega)]
       by_cases hjj:o<=j/\j<o+l.length
       · rw [if_pos (by omega)] at hu
         rw [if_pos hjj]
         refine bn hr _ _ ?_
         rw [show j - o=k*sz'+j - (k*sz'+o) by omega]
         exact hu
       · rw [if_neg (by omega)] at hu
         rw [if_neg hjj]
         exact bn hkn _ _ (by rw [List.getElem?_take,if_pos hj,List.getElem?_drop];exact hu)
     · have hpk:p.1≠k:=fun e=>honce.1 (List.mem_map.2 ⟨p,hp,e⟩)
       have hold:=h4.known p (List.mem_cons_of_mem _ hp)
       have:((splice vs.toList vals (k*sz'+o)).drop (p.1*sz')).take sz'=(vs.toList.drop (p.1*sz')).take sz':=by
        refine List.ext_getElem? fun q=>?_
        rw [List.getElem?_take,List.getElem?_take]
        split
        · rename_i hq
          rw [List.getElem?_drop,List.getElem?_drop,hget,if_neg (hoth p.1 q hpk hq)]
        · rfl
       rw [this];exact hold
   · rw [List.toList_toArray]
     have hne:k'≠k:=fun e=>hn (k,yP as o l) (by simp) e.symm
     obtain ⟨x,g1,g2⟩:=h4.tr k' hk' (fun p hp=>by
      rcases List.mem_cons.1 hp with rfl | hp
      · exact fun e=>hne e.symm
      · exact hn p (List.mem_cons_of_mem _ hp)) j hj
     refine ⟨x,by rw [hget,if_neg (hoth k' j hne hj)];exact g1,iJ.move (HH.le_refl _) _ (fun _ h=>h) (fun y hy=>?_) g2⟩
     have hyb:y≠b:=fun e=>hs (e ▸ h4.own k' j y hy)
     exact hsame y hyb
   · rw [List.toList_toArray,<- h4.spare hz]
     refine List.ext_getElem? fun q=>?_
     rw [List.getElem?_drop,List.getElem?_drop,hget,if_neg (by omega)]
 | box ty cs =>
   obtain ⟨hl,b',vs,h2,h3,h4,h5⟩:=hB
   rw [hb] at h2;cases h2
   cases k with
   | succ k=>simp [nV] at h
   | zero =>
     simp only [nV,len_eq] at h
     split at h
     · rename_i hle
       cases h
       have hle:o+l.length<=cs.length:=by simpa using hle
       have hcl:=aA.length h5
       have hfit:o+vals.length<=vs.toList.length:=by omega
       refine ⟨vs,ty,h3,by simp at hfit ⊢;omega,fun w' hsame hw=>⟨hl,b,_,hb,hw,?_,?_⟩⟩
       · rw [List.toList_toArray];exact xZ h4 h1
       · rw [List.toList_toArray]
         refine gB (by unfold splice;rw [jr _ _ _ (by simpa using hfit),kI];exact hcl) fun j u hu=>?_
         unfold splice at hu
         rw [iE _ _ _ (by simpa using hfit)] at hu
         rw [qY _ _ _ _ (by simpa using hle)]
         simp only [Nat.zero_mul,Nat.zero_add] at hu ⊢
         by_cases hj:o<=j/\j<o+l.length
         · rw [if_pos (by omega)] at hu
           rw [if_pos hj]
           exact bn hr _ _ hu
         · rw [if_neg (by omega)] at hu
           rw [if_neg hj]
           exact bn h5 _ _ hu
     · cases h
 | lst ty sz' m cap cs =>
   obtain ⟨hl,h0,hκ,hcap,h2⟩:=hB
   rw [hb] at h2
   obtain ⟨vs,h3,h4,h5,h6⟩:=h2
   simp only [nV] at h
   split at h
   · rename_i hle
     cases h
     simp only [Bool.and_eq_true,beq_iff_eq,Nat.ble_eq,len_eq] at hle
     obtain ⟨rfl,hle⟩:=hle
     have hcl:=aA.length h6
     have hm:m*sz'<=vs.toList.length:=by simp [h5];exact Nat.mul_le_mul_right _ h0.2
     have hll:cs.length=m*sz':=by simp at hcl;simp at hm;omega
     have hfit:k*sz'+o+vals.length<=vs.toList.length:=by omega
     refine ⟨vs,ty,h3,by simpa using hfit,fun w' hsame hw=>⟨hl,h0,hκ,hcap,?_⟩⟩
     rw [hb]
     refine ⟨_,hw,?_,?_,?_⟩
     · rw [List.toList_toArray];exact jY h4 h1 hfit
     · simp only [List.size_toArray];unfold splice;rw [jr _ _ _ hfit];simpa using h5
     · rw [List.toList_toArray]
       refine gB ?_ fun j u hu=>?_
       · rw [List.length_take];unfold splice;rw [jr _ _ _ hfit,kI];omega
       · rw [List.getElem?_take] at hu
         split at hu
         · rename_i hjm
           unfold splice at hu
           rw [iE _ _ _ hfit] at hu
           rw [qY _ _ _ _ hle]
           by_cases hj:k*sz'+o<=j/\j<k*sz'+o+l.length
           · rw [if_pos (by omega)] at hu
             rw [if_pos hj]
             exact bn hr _ _ hu
           · rw [if_neg (by omega)] at hu
             rw [if_neg hj]
             exact bn h6 _ _ (by rw [List.getElem?_take,if_pos hjm];exact hu)
         · cases hu
   · cases h
 | row ty sz' m cap c =>
   obtain ⟨hl,h0,hκ,hcap,h2⟩:=hB
   rw [hb] at h2
   obtain ⟨vs,h3,h4,h5,h6⟩:=h2
   simp only [nV] at h
   split at h
   · rename_i hle
     simp only [Bool.and_eq_true,beq_iff_eq,Nat.ble_eq,len_eq] at hle
     obtain ⟨⟨rfl,hle⟩,hnr⟩:=hle
     split at h
     case h_2=>cases h
     rename_i ob' hc
     cases h
     have hk:k<m:=by simpa using jF hc ho
     have hmk:(k+1)*sz'<=m*sz':=Nat.mul_le_mul_right _ hk
     have hmκ:m*sz'<=E.κ i*sz':=Nat.mul_le_mul_right _ h0.2
     rw [Nat.add_mul] at hmk
     have hfit:k*sz'+o+vals.length<=vs.toList.length:=by simp [h5];omega
     refine ⟨vs,ty,h3,by simpa using hfit,fun w' hsame hw=>⟨hl,h0,hκ,hcap,?_⟩⟩
     rw [hb]
     refine ⟨_,hw,?_,?_,?_⟩
     · rw [List.toList_toArray];exact jY h4 h1 hfit
     · simp only [List.size_toArray];unfold splice;rw [jr _ _ _ hfit];simpa using h5
     · intro k' hk' j hj
       obtain ⟨x,hx,hrx⟩:=h6 k' hk' j hj
       rw [List.getElem?_toArray]
       unfold splice
       rw [iE _ _ _ hfit]
       unfold pO
       rw [len_eq]
       by_cases hkk:k'=k
       · subst hkk
         by_cases hj2:o<=j/\j<o+l.length
         · rw [if_pos (by omega),if_pos ⟨rfl,hj2⟩]
           have e:k'*sz'+j - (k'*sz'+o)=j - o:=by omega
           rw [e]
           have hlt:j - o<vals.length:=by omega
           refine ⟨vals[j - o],List.getElem?_eq_getElem hlt,?_⟩
           exact Rel.dR _ (jT hnr _) (bn hr _ _ (List.getElem?_eq_getElem hlt))
         · rw [if_neg (by omega),if_neg (by simp;omega)]
           exact ⟨x,by simpa using hx,hrx⟩
       · rw [if_neg ?_,if_neg (by simp [hkk])]
         · exact ⟨x,by simpa using hx,hrx⟩
         · rintro ⟨h7,h8⟩
           rcases Nat.lt_or_gt_of_ne hkk with h9 | h9
           · have:(k'+1)*sz'<=k*sz':=Nat.mul_le_mul_right _ h9
             rw [Nat.add_mul] at this
             omega
           · have:(k+1)*sz'<=k'*sz':=Nat.mul_le_mul_right _ h9
             rw [Nat.add_mul] at this
             omega
   · cases h
def Good (H:HH) (E:Env) (w:World) (M:List ay) (e:Eff) (run:Result Next):Prop :=
 ∃ n v w' E',run=.ok n w'/\(n=.value v∨(n=.skip/\v=undef))/\Rel e.r H E' v/\Conc H E' w' (dN e.kl (dx e.wr M))/\bF e.kl H E w H E' w'
theorem cO {H:HH} {E:Env} {w:World} {M:List ay} {e:Eff} {v:Value} {run:Result Next} (hC:Conc H E w M) (hp:Plain e) (hr:Rel e.r H E v) (hrun:run=.ok (.value v) w):Good H E w M e run:=by
 refine ⟨_,v,w,E,hrun,.inl rfl,hr,?_,bF.refl _ _ _ _⟩
 rw [hp.wr,hp.kl];exact hC
theorem o8 {P:Program} {H:HH} {E:Env} {w:World} {M:List ay} {hh:Option Hint} {t:TypeId} {av xv:AV} {v x:Value} {e:Eff} (hC:Conc H E w M) (hr:Rel av H E v) (hx:Rel xv H E x)
 (h:mM P hh (getM M) t av xv=some e) (ho:All e.ob):∃ w',(Instr.storeAt t v x).run P w=.ok () w'/\e.r=.junk/\e.kl=[]/\Conc H E w' (dx e.wr M)/\bF [] H E w H E w':=by
 unfold mM at h
 split at h
 case h_2=>cases h
 rename_i i k sz o l n hl hn
 split at h
 case isFalse=>cases h
 rename_i hnl
 split at h
 case h_2=>cases h
 rename_i B ob hw
 cases h
 obtain ⟨hlv,b,hb,rfl⟩:=hr
 obtain ⟨hrl,hones,_⟩:=mo hl hx
 obtain ⟨vs,ty,h1,h2,h3⟩:=QH (hC.blk i) hb hw ho hrl hones
 have hsz:x.cells.size=n:=by
  have:=aA.length hrl
  rw [len_eq] at hnl
  simp at hnl this
  omega
 have hst:=run_storeCells_at P b (k*sz+o) ty x.cells.toList 0 vs w h1 (by simpa using h2) hones
 simp only [Nat.add_zero] at hst
 have hu:Upd w (w.setRow b (splice vs.toList x.cells.toList (k*sz+o)).toArray) b (.cells (splice vs.toList x.cells.toList (k*sz+o)).toArray ty (0,0)) :=
  ⟨rfl,rfl,rfl,size_setRow _ _ _,setRow_heap w b vs _ ty _ h1,fun c hc=>setRow_other w b c _ hc⟩
 obtain ⟨hC',hE'⟩:=hC.upd hlv hb hu (h3 _ hu.other hu.same)
 refine ⟨_,?_,rfl,rfl,hC',hE'⟩
 simp only [Instr.storeAt,Instr.sureAddr,storeVar,Sem.run_bind,Sem.run_pure,Result.andThen_ok,dz w hn,hsz,ne_eq,not_true_eq_false,if_false]
 exact hst
theorem oP {H:HH} {E:Env} {w:World} {M:List ay} {nid κ η:Nat} {B:ay} (hC:Conc H E w M) (hd:getM M nid=.dead) (vs:Array Value) (ty:TypeId)
 (hB:bV H (E.set nid (some w.heap.size) κ η) (w.alloc (.cells vs ty)) nid B) :
 Conc H (E.set nid (some w.heap.size) κ η) (w.alloc (.cells vs ty)) (iH M nid B)/\bF [] H E w H (E.set nid (some w.heap.size) κ η) (w.alloc (.cells vs ty)) :=
 hC.new (w':=w.alloc (.cells vs ty)) hd rfl rfl rfl (by simp) (fun b hb=>Go.RowKit.Below.heap_alloc w _ b hb) (fun b hb=>by cases hb;exact Nat.le_refl _) hB
theorem pF {H:HH} {E:Env} {w:World} {M:List ay} {nid κ η:Nat} {bo:Option Nat} (hC:Conc H E w M) (hd:getM M nid=.dead):E.via (E.set nid bo κ η) some:=by
 intro a c hc hl
 cases hc
 have hdead:E.lv nid=false:=by have:=hC.blk nid;rw [hd] at this;exact this
 have hne:a≠nid:=by rintro rfl;rw [hdead] at hl;cases hl
 obtain ⟨e1,e2,e3⟩:=E.mK nid a bo κ η hne
 exact ⟨e1.trans hl,e2,e3⟩
theorem Er {H:HH} {E:Env} {w:World} {M:List ay} {nid:Nat} {l:List AV} {vs:Array Value} (ty:TypeId) (hC:Conc H E w M) (hd:getM M nid=.dead) (hr:aA l H E vs.toList) (h1:ones vs.toList) :
 let E':=E.set nid (some w.heap.size) 0 0
 Rel (.ptr nid 0 0 0) H E' (.pointer (some ⟨w.heap.size,0,none⟩))/\Conc H E' (w.alloc (.cells vs ty)) (iH M nid (.box ty l))/\bF [] H E w H E' (w.alloc (.cells vs ty)):=by
 intro E'
 obtain ⟨e1,e2,_⟩:=E.eO nid (some w.heap.size) 0 0
 refine ⟨⟨e1,w.heap.size,e2,rfl⟩,?_⟩
 exact oP hC hd vs ty ⟨e1,w.heap.size,vs,e2,heap_alloc_new w _,h1,aA.env (pF hC hd) hr⟩
def PR (H:HH) (E:Env):List (Nat×AV)->List (Nat×Value)->Prop
 | [],vs=>vs=[]
 | (i,a)::r,vs=>∃ v q,vs=(i,v)::q/\Rel a H E v/\PR H E r q
theorem UN {t:Nat->AV} {a:Act} {H:HH} {E:Env} (hT:ji t H E a):∀ (l:List (Nat×Operand)),PR H E (l.map fun p=>(p.1,ev t p.2)) (l.map fun p=>(p.1,a.eval p.2))
 | []=>rfl
 | (_,x)::l=>⟨_,_,rfl,aM hT x,UN hT l⟩
theorem foldl_set (off:Nat):∀ (vs:List Value) (k:Nat) (cells:Array Value),off+k+vs.length<=cells.size ->
 ((vs.zipIdx k).foldl (fun (cs:Array Value) (p:Value×Nat)=>cs.setIfInBounds (off+p.2) p.1) cells).toList=splice cells.toList vs (off+k)
 | [],k,cells,_=>by unfold splice;simp
 | v::vs,k,cells,h=>by
   simp at h
   simp only [List.zipIdx_cons,List.foldl_cons]
   rw [foldl_set off vs (k+1) (cells.setIfInBounds (off+k) v) (by simp;omega)]
   apply List.ext_getElem?
   intro j
   unfold splice
   rw [iE _ _ _ (by simp;omega),iE _ _ _ (by simp;omega)]
   simp only [Array.toList_setIfInBounds,List.length_cons]
   by_cases h1:off+k=j
   · subst h1
     rw [if_neg (by omega),if_pos (by omega)]
     have hlt:off+k<cells.toList.length:=by simp;omega
     rw [List.getElem?_set_self hlt]
     simp
   · by_cases h2:off+(k+1)<=j/\j<off+(k+1)+vs.length
     · rw [if_pos h2,if_pos (by omega)]
       obtain ⟨m,rfl⟩:∃ m,j=off+(k+1)+m:=⟨j - (off+(k+1)),by omega⟩
       have e1:off+(k+1)+m - (off+(k+1))=m:=by omega
       have e2:off+(k+1)+m - (off+k)=m+1:=by omega
       rw [e1,e2];rfl
     · rw [if_neg h2,if_neg (by omega),List.getElem?_set_ne (by omega)]
theorem OE (off:Nat) (v:Value) (cells:Array Value) (h:off+v.cells.size<=cells.size) :
 (v.cells.zipIdx.foldl (fun (cs:Array Value) (p:Value×Nat)=>cs.setIfInBounds (off+p.2) p.1) cells).toList=splice cells.toList v.cells.toList off:=by
 rw [<- Array.foldl_toList,Array.toList_zipIdx]
 simpa using foldl_set off v.cells.toList 0 cells (by simpa using h)
theorem Jj {H:HH} {E:Env} {cs l:List AV} {cv vs:List Value} {o:Nat} (hc:aA cs H E cv) (hl:aA l H E vs) (h:o+l.length<=cs.length):aA (yP cs o l) H E (splice cv vs o):=by
 have h1:=aA.length hc
 have h2:=aA.length hl
 refine gB (by unfold splice;rw [jr _ _ _ (by omega),kI];exact h1) fun j u hu=>?_
 unfold splice at hu
 rw [iE _ _ _ (by omega)] at hu
 rw [qY _ _ _ _ h]
 by_cases hj:o<=j/\j<o+l.length
 · rw [if_pos (by omega)] at hu
   rw [if_pos hj]
   exact bn hl _ _ hu
 · rw [if_neg (by omega)] at hu
   rw [if_neg hj]
   exact bn hc _ _ hu
theorem y9 {H:HH} {E:Env} {place place':Nat->Option (Nat×Nat)} (hpl:∀ i p,place i=some p->place' i=some p):∀ {pa:List (Nat×AV)} {pv:List (Nat×Value)} {cs l:List AV} {cv:Array Value},
 PR H E pa pv->aA cs H E cv.toList->ones cv.toList->tO place cs pa=some l->∃ cv',Instr.fill place' cv pv=some cv'/\aA l H E cv'.toList/\ones cv'.toList
 | [],pv,cs,l,cv,hp,hc,h1,h=>by
   simp [PR] at hp;subst hp
   simp [tO] at h;subst h
   exact ⟨cv,rfl,hc,h1⟩
 | (i,a)::r,pv,cs,l,cv,hp,hc,h1,h=>by
   obtain ⟨v,q,rfl,hr,hq⟩:=hp
   simp only [tO] at h
   split at h
   case h_2=>cases h
   rename_i off size l' hpi hcl
   split at h
   case isFalse=>cases h
   rename_i hle
   simp only [Bool.and_eq_true,beq_iff_eq,Nat.ble_eq,len_eq] at hle
   obtain ⟨rfl,hle⟩:=hle
   obtain ⟨hrl,hones,_⟩:=mo hcl hr
   have hsz:=aA.length hrl
   have hcs:=aA.length hc
   simp at hsz hcs
   have hfs:=OE off v cv (by omega)
   obtain ⟨cv',h3,h4,h5⟩:=y9 hpl (cv:=v.cells.zipIdx.foldl (fun (cs:Array Value) (p:Value×Nat)=>cs.setIfInBounds (off+p.2) p.1) cv) hq (by rw [hfs];exact Jj hc hrl hle) (by rw [hfs];exact xZ h1 hones) h
   refine ⟨cv',?_,h4,h5⟩
   simp only [Instr.fill,hpl i _ hpi]
   rw [if_neg (by simp;omega)]
   exact h3
theorem iK {P:Program} {t:TypeId} {l:List AV} (H:HH) (E:Env) (h:oo P t=some l):∃ i z,P.info? t=some i/\i.zero=some z/\aA l H E z.cells.toList/\ones z.cells.toList:=by
 unfold oo at h
 split at h
 case h_2=>cases h
 rename_i i hi
 split at h
 case h_2=>cases h
 rename_i z hz
 obtain ⟨h1,h2,_⟩:=mo h (zS z H E)
 exact ⟨i,z,hi,hz,h1,h2⟩
theorem zW {P:Program}:∀ {fs:List Field} {pl:List (Nat×Nat)},u6 P fs=some pl->fs.mapM (fun f=>(P.info? f.type).map fun i=>(f.offset,i.size))=some pl
 | [],pl,h=>by simp [u6] at h;subst h;rfl
 | f::r,pl,h=>by
   simp only [u6] at h
   split at h
   case h_2=>cases h
   rename_i n l hn hl
   cases h
   obtain ⟨i,hi,rfl⟩:=yu hn
   simp [List.mapM_cons,hi,zW hl]
theorem Ve {P:Program} {H:HH} {E:Env} {w:World} {t:TypeId} {pa:List (Nat×AV)} {pv:Array (Nat×Value)} {e:Eff} (hp:PR H E pa pv.toList) (h:KD P t pa=some e) :
 Plain e/\∃ u,(Instr.build t pv).run P w=.ok u w/\Rel e.r H E u:=by
 unfold KD at h
 split at h
 · rename_i fs z hu hz
   split at h
   case h_2=>cases h
   rename_i pl hpl
   split at h
   case h_2=>cases h
   rename_i l hf
   obtain ⟨hpn,hr,_⟩:=cK h
   obtain ⟨i,zv,hi,hz',hrz,h1⟩:=iK H E hz
   obtain ⟨cv',h3,h4,_⟩:=y9 (place':=fun i=>pl.toArray[i]?) (fun i p hip=>by simpa using hip) hp hrz h1 hf
   refine ⟨hpn,.agg cv',run_build w t pv cv' ?_,by rw [hr];exact ⟨_,rfl,h4⟩⟩
   simp [Program.built,hi,hu,hz',zW hpl]
   simpa using h3
 · rename_i n el z hu hz
   split at h
   case h_2=>cases h
   rename_i m hm
   split at h
   case h_2=>cases h
   rename_i l hf
   obtain ⟨hpn,hr,_⟩:=cK h
   obtain ⟨i,zv,hi,hz',hrz,h1⟩:=iK H E hz
   obtain ⟨ie,hie,rfl⟩:=yu hm
   obtain ⟨cv',h3,h4,_⟩:=y9 (place':=fun i=>some (i*ie.size,ie.size)) (fun i p hip=>hip) hp hrz h1 hf
   refine ⟨hpn,.agg cv',run_build w t pv cv' ?_,by rw [hr];exact ⟨_,rfl,h4⟩⟩
   simp [Program.built,hi,hu,hz',hie]
   exact h3
 · cases h
theorem fG {H:HH} {E:Env}:∀ {a b:List AV} {x y:List Value},aA a H E x->aA b H E y->aA (a++b) H E (x++y)
 | [],_,_,_,h,k=>by simp [aA] at h;subst h;exact k
 | _::_,_,_,_,h,k=>by
   obtain ⟨v,r,rfl,h1,h2⟩:=h
   exact ⟨v,r++_,rfl,h1,fG h2 k⟩
theorem Kv {H:HH} {E:Env} {z:List AV} {zv:Array Value} {sz:Nat} (hz:aA z H E zv.toList) (hs:zv.size=sz) (h0:1<=sz):∀ n,aA (rep z n) H E ((Array.range (n*sz)).map (zv[· % zv.size]!)).toList
 | 0=>by simp [rep,aA]
 | n+1=>by
   have ih:=Kv hz hs h0 n
   have e:((Array.range ((n+1)*sz)).map (zv[· % zv.size]!)).toList=zv.toList++((Array.range (n*sz)).map (zv[· % zv.size]!)).toList:=by
    apply List.ext_getElem?
    intro j
    rw [List.getElem?_append]
    simp only [Array.toList_map,Array.toList_range,List.getElem?_map,Array.length_toList]
    by_cases hj:j<zv.size
    · rw [if_pos hj]
      have:j<(n+1)*sz:=by rw [Nat.add_mul];omega
      rw [List.getElem?_range this]
      simp [Nat.mod_eq_of_lt hj,hj]
    · rw [if_neg hj]
      by_cases hj2:j<(n+1)*sz
      · rw [List.getElem?_range hj2,List.getElem?_range (by rw [Nat.add_mul] at hj2;omega)]
        simp only [Option.map_some]
        congr 2
        rw [<- Nat.mod_eq_sub_mod (by omega)]
      · rw [List.getElem?_eq_none (by simpa using hj2),List.getElem?_eq_none (by rw [Nat.add_mul] at hj2;simp;omega)]
   rw [e]
   exact fG hz ih
theorem uY {zv:Array Value} (h:ones zv.toList) (h0:0<zv.size) (m:Nat):ones ((Array.range m).map (zv[· % zv.size]!)).toList:=by
 intro x hx
 simp only [Array.toList_map,Array.toList_range,List.mem_map] at hx
 obtain ⟨i,_,rfl⟩:=hx
 have:i % zv.size<zv.size:=Nat.mod_lt _ h0
 apply h
 simp [this]
theorem yQ {P:Program} {H:HH} {E:Env} {w:World} {M:List ay} {nid n:Nat} {t:TypeId} {pa:List (Nat×AV)} {pv:Array (Nat×Value)} {e:Eff} (hC:Conc H E w M) (hd:getM M nid=.dead)
 (hp:PR H E pa pv.toList) (h:jv P nid t n pa=some e) :
 ∃ u w' E',(Instr.buildSlice t n pv).run P w=.ok u w'/\Rel e.r H E' u/\Conc H E' w' (dN e.kl (dx e.wr M))/\bF e.kl H E w H E' w':=by
 unfold jv at h
 split at h
 case h_2=>cases h
 rename_i el hu
 split at h
 case h_2=>cases h
 rename_i sz z hsz hz
 split at h
 case isFalse=>cases h
 rename_i hb
 simp only [Bool.and_eq_true,beq_iff_eq,Nat.ble_eq,len_eq] at hb
 obtain ⟨⟨hzl,h1⟩,hlim⟩:=hb
 split at h
 case h_2=>cases h
 rename_i l hf
 cases h
 obtain ⟨i,zv,hi,hz',hrz,hoz⟩:=iK H E hz
 have hzs:zv.cells.size=sz:=by have:=aA.length hrz;simp at this;omega
 have hrep:=Kv hrz hzs h1 n
 have hor:=uY hoz (by omega) (n*sz)
 obtain ⟨cv',h3,h4,h5⟩:=y9 (place':=fun i=>some (i*sz,sz)) (fun i p hip=>hip) hp hrep hor hf
 have hszc:cv'.size=n*sz:=by
  have e1:=aA.length h4
  have:l.length=(rep z n).length:=by
   have:∀ (pa:List (Nat×AV)) (cs l:List AV) (pl:Nat->Option (Nat×Nat)),tO pl cs pa=some l->l.length=cs.length:=by
    intro pa
    induction pa with
    | nil=>intro cs l pl h;simp [tO] at h;rw [h]
    | cons p r ih =>
      intro cs l pl h
      obtain ⟨i,a⟩:=p
      simp only [tO] at h
      split at h
      case h_2=>cases h
      split at h
      case isFalse=>cases h
      rw [ih _ _ _ h,kI]
   exact this _ _ _ _ hf
  have e2:=aA.length hrep
  simp at e1 e2
  omega
 have hrun:(Instr.buildSlice t n pv).run P w=.ok (.slice (some ⟨w.heap.size,0,none⟩) n n) (w.alloc (.cells cv' el)):=by
  have hne:¬ n*sz > 2 ^ 24:=by omega
  by_cases hn0:n*sz=0
  · have hn:n=0:=by rcases Nat.mul_eq_zero.1 hn0 with h | h<;>omega
    subst hn
    have h3':Instr.fill (fun i=>some (i*sz,sz)) #[] pv.toList=some cv':=by simpa [Array.range_zero'] using h3
    simp [Instr.buildSlice,run_underlying hu,dz w hsz,Array.range_zero',h3',newRow]
  · simp [Instr.buildSlice,run_underlying hu,dz w hsz,hne,hn0,zeroValue,typeInfo,hi,hz',h3,newRow]
 obtain ⟨e1,e2,e3,e4⟩:=E.eO nid (some w.heap.size) n n
 have hconc:=oP (κ:=n) (η:=n) (B:=.lst el sz n (some n) l) hC hd cv' el
  ⟨e1,by rw [e3,e4];exact ⟨rfl,Nat.le_refl _⟩,by rw [e3];have:n*1<=n*sz:=Nat.mul_le_mul_left _ h1;unfold maxLen;omega,fun q hq=>by cases hq;exact e3,by
   rw [e2]
   refine ⟨cv',heap_alloc_new w _,fun x hx=>h5 x (List.mem_of_mem_take hx),by rw [e3];exact hszc,?_⟩
   rw [List.take_of_length_le (by simp;omega)]
   exact aA.env (pF hC hd) h4⟩
 exact ⟨_,_,_,hrun,⟨e1,by rw [e3,e4];omega,by rw [e2];exact ⟨some ⟨w.heap.size,0,none⟩,by rw [e3];simp,by simp⟩⟩,hconc.1,hconc.2⟩
theorem Nc {P:Program} {t:TypeId} {op:BinOp} {a b r:Value} (w:World) (h:acn P t op a b=some r):(binOp op t a b).run P w=.ok r w/\scalar r=true/\∀ x y,(eqGuard op t x y a b).run P w=.ok () w:=by
 unfold acn at h
 split at h
 all_goals first
  | (rename_i k a k' b;split at h;(case isFalse=>cases h);rename_i hk;subst hk;cases h;refine ⟨by simp [binOp,Op.intArith,Op.intCmp],rfl,fun x y=>by simp [eqGuard]⟩)
  | (rename_i a b;cases h;refine ⟨?_,rfl,fun x y=>by simp [eqGuard]⟩;simp [binOp,Op.stringOp,ByteArray.toList_eq];done)
  | (rename_i a b;split at h;(case h_2=>cases h);rename_i hu;cases h;first | exact ⟨run_eql_bool w t a b hu,rfl,fun x y=>by simp [eqGuard]⟩ | exact ⟨run_neq_bool w t a b hu,rfl,fun x y=>by simp [eqGuard]⟩)
  | cases h
theorem lT {P:Program} {t:TypeId} {cs:Array Value} {off:Nat} {v:Value} (w:World) (h:isAgg P t=false) (hu:∃ d,P.underlying t=some d) (hv:cs[off]? = some v):(part t cs off).run P w=.ok v w:=by
 simp [part,iG w hu,h,hv]
theorem jW {P:Program} {H:HH} {E:Env} (w:World):∀ {fs:List Field} {xs ys:List AV} {xv yv:Array Value} {q:Bool},nk P fs xs ys=some q->aA xs H E xv.toList->aA ys H E yv.toList ->
 (Op.eqFields 9999 xv yv fs).run P w=.ok q w
 | [],xs,ys,xv,yv,q,h,_,_=>by simp [nk] at h;subst h;simp [Op.eqFields]
 | f::r,xs,ys,xv,yv,q,h,hx,hy=>by
   simp only [nk] at h
   split at h
   · rename_i hn
     simp only [Op.eqFields,hn,ne_eq,not_true_eq_false,if_false]
     exact jW w h hx hy
   · rename_i hn
     have hcell:∀ {l:List AV} {lv:Array Value} {o:Nat} {u:Value},aA l H E lv.toList->get l o=.s u->lv[o]? = some u:=by
      intro l lv o u hl hg
      rcases Nat.lt_or_ge o lv.size with ho | ho
      · have h1:lv.toList[o]? = some lv[o]:=by simp [ho]
        have h2:=bn hl o _ h1
        rw [hg] at h2
        obtain ⟨h3,_⟩:=h2
        rw [<- h3];simp [ho]
      · have h3:∀ (l:List AV) i,l.length<=i->get l i=.junk:=by
         intro l
         induction l with
         | nil=>intro i _;cases i<;>rfl
         | cons a l ih=>intro i hi;match i,hi with | 0,hi=>simp at hi | i+1,hi=>exact ih i (by simpa using hi)
        have h4:=aA.length hl
        rw [h3 l o (by simp at h4;omega)] at hg
        cases hg
     split at h
     · rename_i k a k' b hu hgx hgy
       split at h
       case isFalse=>cases h
       rename_i hk
       subst hk
       split at h
       case h_2=>cases h
       rename_i q' hq
       cases h
       have ha:isAgg P f.type=false:=by simp [isAgg,hu]
       simp only [Op.eqFields,hn,ne_eq,not_false_eq_true,if_true,Sem.run_bind,lT w ha ⟨_,hu⟩ (hcell hx hgx),lT w ha ⟨_,hu⟩ (hcell hy hgy),Result.andThen_ok,run_equalIn_int w 9998 f.type k _ a b hu]
       cases hab:(a==b)
       · simp
       · simp;exact jW w hq hx hy
     · rename_i a b hu hgx hgy
       split at h
       case h_2=>cases h
       rename_i q' hq
       cases h
       have ha:isAgg P f.type=false:=by simp [isAgg,hu]
       simp only [Op.eqFields,hn,ne_eq,not_false_eq_true,if_true,Sem.run_bind,lT w ha ⟨_,hu⟩ (hcell hx hgx),lT w ha ⟨_,hu⟩ (hcell hy hgy),Result.andThen_ok,run_equalIn_string w 9998 f.type a b hu,ByteArray.toList_eq]
       cases hab:(a.data.toList==b.data.toList)
       · simp
       · simp;exact jW w hq hx hy
     · rename_i a b hu hgx hgy
       split at h
       case h_2=>cases h
       rename_i q' hq
       cases h
       have ha:isAgg P f.type=false:=by simp [isAgg,hu]
       simp only [Op.eqFields,hn,ne_eq,not_false_eq_true,if_true,Sem.run_bind,lT w ha ⟨_,hu⟩ (hcell hx hgx),lT w ha ⟨_,hu⟩ (hcell hy hgy),Result.andThen_ok,run_equalIn_bool' w 9998 f.type a b hu]
       cases hab:(a==b)
       · simp
       · simp;exact jW w hq hx hy
     · cases h
theorem acj {P:Program} {H:HH} {E:Env} {w:World} {hh:Option Hint} {op:BinOp} {t:TypeId} {xa ya:AV} {x y:Value} {e:Eff} (hx:Rel xa H E x) (hy:Rel ya H E y) (h:acy P hh op t xa ya=some e)
 (ho:All e.ob):Plain e/\∃ u,(binOp op t x y).run P w=.ok u w/\Rel e.r H E u/\∀ p q,(eqGuard op t p q x y).run P w=.ok () w:=by
 unfold acy at h
 split at h
 · rename_i a b
   obtain ⟨rfl,_⟩:=hx
   obtain ⟨rfl,_⟩:=hy
   split at h
   · rename_i r hs
     obtain ⟨h1,_,h3⟩:=Nc w hs
     obtain ⟨hp,hr⟩:=vH (H:=H) (E:=E) h ho
     exact ⟨hp,_,h1,hr,h3⟩
   · rename_i r _ hs
     obtain ⟨h1,h2,h3⟩:=Nc w hs
     obtain ⟨hp,hr,_⟩:=cK h
     exact ⟨hp,_,h1,by rw [hr];exact ⟨rfl,h2⟩,h3⟩
   · cases h
 · rename_i xs ys
   obtain ⟨xv,rfl,hxr⟩:=hx
   obtain ⟨yv,rfl,hyr⟩:=hy
   split at h
   case h_2=>cases h
   rename_i fs hu
   split at h
   case isTrue=>cases h
   rename_i hg
   simp only [Bool.or_eq_true,not_or,Bool.not_eq_true] at hg
   have hf:P.fieldsOf t=fs:=by simp [Program.fieldsOf,hu]
   have hu':P.underlying t=some (.struct (P.fieldsOf t)):=by rw [hf];exact hu
   split at h
   · rename_i q hq
     obtain ⟨hp,hr⟩:=vH (H:=H) (E:=E) h ho
     refine ⟨hp,_,?_,hr,fun p q=>run_eqGuard_agg w _ t p q xv yv hg.2⟩
     rw [run_eql_struct,run_equalIn_struct w 9999 t xv yv hu' hg.1,hf,jW w hq hxr hyr]
     rfl
   · rename_i q hq
     obtain ⟨hp,hr⟩:=vH (H:=H) (E:=E) h ho
     refine ⟨hp,_,?_,hr,fun p q=>run_eqGuard_agg w _ t p q xv yv hg.2⟩
     rw [run_neq_struct,run_equalIn_struct w 9999 t xv yv hu' hg.1,hf,jW w hq hxr hyr]
     rfl
   · cases h
 · cases h
theorem Ww {P:Program} {H:HH} {E:Env} {w:World} {src dst:TypeId} {xa:AV} {x:Value} {e:Eff} (hx:Rel xa H E x) (h:QS P dst src xa=some e) :
 Plain e/\∃ u,(convert src dst x).run P w=.ok u w/\Rel e.r H E u:=by
 unfold QS at h
 split at h
 · rename_i k n h1 h2
   obtain ⟨rfl,_⟩:=hx
   obtain ⟨hp,hr,_⟩:=cK h
   exact ⟨hp,_,by simp [convert,run_underlying h1,run_underlying h2,Conv.intToInt];rfl,by rw [hr];exact ⟨rfl,rfl⟩⟩
 · rename_i s h1 h2
   obtain ⟨rfl,_⟩:=hx
   obtain ⟨hp,hr,_⟩:=cK h
   exact ⟨hp,_,by simp [convert,run_underlying h1,run_underlying h2];rfl,by rw [hr];exact ⟨rfl,rfl⟩⟩
 · cases h
theorem Sq {P:Program} {H:HH} {E:Env} {w:World} {s:TypeId} {xa:AV} {x:Value} {f:Nat} {e:Eff} (hx:Rel xa H E x) (h:K9 P s xa f=some e) :
 Plain e/\∃ u,(Instr.field s x f).run P w=.ok u w/\Rel e.r H E u:=by
 unfold K9 at h
 split at h
 case h_2=>cases h
 rename_i fs cs hs
 obtain ⟨vs,rfl,hr⟩:=hx
 have hlen:=aA.length hr
 split at h
 case h_2=>cases h
 rename_i fd hfd
 split at h
 case isTrue=>cases h
 rename_i hnn
 have hud:∃ d,P.underlying fd.type=some d:=by
  cases hq:P.underlying fd.type with
  | none=>simp [hq] at hnn
  | some d=>exact ⟨d,rfl⟩
 split at h
 · rename_i n ha hn
   split at h
   case isFalse=>cases h
   rename_i hle
   simp only [Nat.ble_eq,len_eq] at hle
   obtain ⟨hp,hr',_⟩:=cK h
   refine ⟨hp,.agg (vs.extract fd.offset (fd.offset+n)),?_,?_⟩
   · simp [Instr.field,run_underlying hs,hfd,part,iG w hud,ha,dz w hn,asAgg]
   · rw [hr']
     refine ⟨_,rfl,gB (by simp at hlen;simp [gu];omega) fun j u hj=>?_⟩
     have hjn:j<n:=by
      have:=(List.getElem?_eq_some_iff.1 hj).1
      simp at this;omega
     rw [jy _ _ _ _ hjn]
     refine bn hr _ _ ?_
     simp only [Array.toList_extract,List.extract_eq_take_drop,Nat.add_sub_cancel_left] at hj
     rw [List.getElem?_take,if_pos hjn,List.getElem?_drop] at hj
     exact hj
 · rename_i ha
   split at h
   case isFalse=>cases h
   rename_i hle
   simp only [Nat.ble_eq,len_eq] at hle
   obtain ⟨hp,hr',_⟩:=cK h
   have hlt:fd.offset<vs.size:=by simp at hlen;omega
   refine ⟨hp,vs[fd.offset],?_,by rw [hr'];exact bn hr _ _ (by simp [hlt])⟩
   simp [Instr.field,run_underlying hs,hfd,part,iG w hud,ha,asAgg,hlt]
 · cases h
theorem Ep {P:Program} {H:HH} {E:Env} {w:World} {s:TypeId} {xa:AV} {x:Value} {f:Nat} {e:Eff} (hx:Rel xa H E x) (h:uK P s xa f=some e) :
 Plain e/\∃ u,(Instr.fieldAt s x f).run P w=.ok u w/\Rel e.r H E u:=by
 unfold uK at h
 split at h
 case h_2=>cases h
 rename_i fs hs
 split at h
 case h_2=>cases h
 rename_i fd hfd
 split at h
 case h_2=>cases h
 rename_i n hn
 have hrun:∀ a:Addr,(Instr.fieldAt s (.pointer (some a)) f).run P w=.ok (.pointer (some (a.add fd.offset))) w:=by
  intro a
  simp [Instr.fieldAt,run_underlying hs,hfd,Instr.sureAddr,fieldPlace,dz w hn]
 split at h
 · rename_i i k sz o
   obtain ⟨hl,b,hb,rfl⟩:=hx
   obtain ⟨hp,hr,_⟩:=cK h
   refine ⟨hp,_,hrun _,?_⟩
   rw [hr,addr_add]
   exact ⟨hl,b,hb,by rw [Nat.add_assoc]⟩
 · rename_i b m c
   obtain ⟨ad,rfl,hc⟩:=hx
   split at h
   case isFalse=>cases h
   rename_i hle
   obtain ⟨hp,hr,_⟩:=cK h
   refine ⟨hp,_,hrun _,?_⟩
   rw [hr]
   refine ⟨_,rfl,fun j hj=>?_⟩
   rw [add_add']
   exact hc (fd.offset+j) (by simp at hle;omega)
 · cases h
theorem VU {P:Program} {H:HH} {E:Env} {w:World} {hh:Option Hint} {t:TypeId} {xa ia:AV} {x i:Value} {e:Eff} (hx:Rel xa H E x) (hi:Rel ia H E i) (h:uy P hh t xa ia=some e) (ho:All e.ob) :
 Plain e/\∃ u,(Instr.indexAt t x i).run P w=.ok u w/\Rel e.r H E u:=by
 unfold uy at h
 split at h
 · rename_i el kd q hu
   obtain ⟨rfl,_⟩:=hi
   split at h
   case h_2=>cases h
   rename_i sz hsz
   split at h
   · rename_i b sz' n c
     split at h
     case isFalse=>cases h
     rename_i hs
     have hs:sz'=sz:=by simpa using hs
     subst hs
     split at h
     case h_2=>cases h
     rename_i ob hc
     obtain ⟨hp,hr,hob⟩:=fO h
     have hb:=jF hc (by rw [<- hob];exact ho)
     simp only [Bool.and_eq_true,decide_eq_true_eq] at hb
     obtain ⟨a,cap,rfl,hcap,hk⟩:=hx
     obtain ⟨ad,rfl,hk2⟩:=hk (by omega)
     refine ⟨hp,.pointer (some (ad.add (q.toNat*sz'))),?_,?_⟩
     · simp [Instr.indexAt,asIntOf,run_underlying hu,dz w hsz,hb]
     · rw [hr]
       refine ⟨_,rfl,fun j hj=>?_⟩
       rw [add_add']
       exact hk2 q.toNat (by omega) j hj
   · rename_i a sz' lo n
     split at h
     case isFalse=>cases h
     rename_i hs
     have hs:sz'=sz:=by simpa using hs
     subst hs
     split at h
     case h_2=>cases h
     rename_i ob hc
     obtain ⟨hp,hr,hob⟩:=fO h
     have hb:=jF hc (by rw [<- hob];exact ho)
     simp only [Bool.and_eq_true,decide_eq_true_eq] at hb
     obtain ⟨hl,hκ,hm⟩:=hx
     cases hι:E.ι a with
     | none=>rw [hι] at hm;omega
     | some b =>
       rw [hι] at hm
       obtain ⟨ad,rfl,had⟩:=hm
       obtain rfl:=had.1 (.inr (by omega))
       refine ⟨hp,.pointer (some ⟨b,(lo+q.toNat)*sz',none⟩),?_,by rw [hr];exact ⟨hl,b,hι,by simp⟩⟩
       simp [Instr.indexAt,asIntOf,run_underlying hu,dz w hsz,hb,addr_add,Nat.add_mul]
   · cases h
 · rename_i len el kd q hu
   obtain ⟨rfl,_⟩:=hi
   split at h
   case h_2=>cases h
   rename_i sz hsz
   split at h
   · rename_i a k sz' o
     split at h
     case h_2=>cases h
     rename_i ob hc
     obtain ⟨hp,hr,hob⟩:=fO h
     have hb:=jF hc (by rw [<- hob];exact ho)
     simp only [Bool.and_eq_true,decide_eq_true_eq] at hb
     obtain ⟨hl,b,hb',rfl⟩:=hx
     refine ⟨hp,.pointer (some ⟨b,k*sz'+(o+q.toNat*sz),none⟩),?_,by rw [hr];exact ⟨hl,b,hb',rfl⟩⟩
     simp [Instr.indexAt,asIntOf,run_underlying hu,dz w hsz,hb,Instr.sureAddr,addr_add,Nat.add_assoc]
   · rename_i b m c
     split at h
     case isFalse=>cases h
     rename_i hle
     split at h
     case h_2=>cases h
     rename_i ob hc
     obtain ⟨hp,hr,hob⟩:=fO h
     have hb:=jF hc (by rw [<- hob];exact ho)
     simp only [Bool.and_eq_true,decide_eq_true_eq] at hb
     obtain ⟨ad,rfl,hcc⟩:=hx
     refine ⟨hp,.pointer (some (ad.add (q.toNat*sz))),?_,?_⟩
     · simp [Instr.indexAt,asIntOf,run_underlying hu,dz w hsz,hb,Instr.sureAddr]
     · rw [hr]
       refine ⟨_,rfl,fun j hj=>?_⟩
       rw [add_add']
       refine hcc _ ?_
       have:(q.toNat+1)*sz<=len*sz:=Nat.mul_le_mul_right _ (by omega)
       rw [Nat.add_mul] at this
       simp at hle;omega
   · cases h
 · cases h
theorem pz {P:Program} (w:World) {DV:Bool} {n cap:Nat} {lo hi:Option Value} {l u:Int} (hlo:(lo=none/\l=0)∨∃ k,lo=some (.int k l)) (hhi:(hi=none/\u=n)∨∃ k,hi=some (.int k u))
 (h0:0<=l) (h1:l<=u) (h2:u<=n) (h3:n<=cap):(Instr.sliceBounds DV n cap lo hi none).run P w=.ok (l.toNat,u.toNat,cap) w:=by
 rcases hhi with ⟨rfl,rfl⟩ | ⟨kh,rfl⟩
 · rcases hlo with ⟨rfl,rfl⟩ | ⟨kl,rfl⟩
   · simp [Instr.sliceBounds]
   · simp [Instr.sliceBounds,run_sliceBound w kl l n _ h0 h1]
 · have hu:=run_sliceBound (P:=P) w kh u cap (if DV then .sliceAcap else .sliceAlen) (by omega) (by omega)
   rcases hlo with ⟨rfl,rfl⟩ | ⟨kl,rfl⟩
   · simp [Instr.sliceBounds,hu]
   · have hl:=run_sliceBound (P:=P) w kl l u.toNat .sliceB h0 (by omega)
     simp [Instr.sliceBounds,hu,hl]
theorem nG {t:Nat->AV} {a:Act} {H:HH} {E:Env} (hT:ji t H E a) {d:Nat} {x:Option Operand} {q:Int} (h:bnd d (x.map (ev t))=some q) :
 (x.map a.eval=none/\q=d)∨∃ k,x.map a.eval=some (.int k q):=by
 cases x with
 | none=>simp [bnd] at h;exact .inl ⟨rfl,h.symm⟩
 | some x =>
   have hr:=aM hT x
   simp only [Option.map_some] at h ⊢
   generalize ev t x=av at h hr
   unfold bnd at h
   split at h
   · rename_i he;cases he
   · rename_i k q' he
     cases he
     cases h
     obtain ⟨h1,_⟩:=hr
     exact .inr ⟨k,by rw [h1]⟩
   · cases h
theorem U_ {P:Program} {H:HH} {E:Env} {w:World} {hh:Option Hint} {ty:TypeId} {t:Nat->AV} {a:Act} {x:Operand} {lo hi mx:Option Operand} {e:Eff} (hT:ji t H E a)
 (h:Ll P hh ty (ev t x) (lo.map (ev t)) (hi.map (ev t)) (mx.map (ev t))=some e) (ho:All e.ob) :
 Plain e/\∃ u,(Instr.sliceAt ty (a.eval x) (lo.map a.eval) (hi.map a.eval) (mx.map a.eval)).run P w=.ok u w/\Rel e.r H E u:=by
 have hx:=aM hT x
 generalize ev t x=xa at h hx
 have hmx:∀ {q:Option AV},q=none->mx.map (ev t)=q->mx=none:=by
  rintro q rfl hq
  cases mx with
  | none=>rfl
  | some m=>cases hq
 unfold Ll at h
 split at h
 · rename_i s hm hu
   have hmx:=hmx rfl hm
   subst hmx
   obtain ⟨hx,_⟩:=hx
   rw [hx]
   split at h
   case h_2=>cases h
   rename_i l u hl hu'
   split at h
   case h_2=>cases h
   rename_i ob hc
   obtain ⟨hp,hr,hob⟩:=fO h
   have hb:=jF hc (by rw [<- hob];exact ho)
   simp only [Bool.and_eq_true,decide_eq_true_eq] at hb
   obtain ⟨⟨h0,h1⟩,h2⟩:=hb
   have hrun:=pz (P:=P) (DV:=false) w (nG hT hl) (nG hT hu') h0 h1 h2 (Nat.le_refl _)
   refine ⟨hp,.string (s.extract l.toNat u.toNat),?_,by rw [hr];exact ⟨rfl,rfl⟩⟩
   simp [Instr.sliceAt,run_underlying hu,Instr.slice,hrun]
 · rename_i el b sz n c hm hu
   have hmx:=hmx rfl hm
   subst hmx
   split at h
   case h_2=>cases h
   rename_i sz' l u hsz hl hu'
   split at h
   case isFalse=>cases h
   rename_i hs
   have hs:sz'=sz:=by simpa using hs
   subst hs
   split at h
   case h_2=>cases h
   rename_i ob hc
   obtain ⟨hp,hr,hob⟩:=fO h
   have hb:=jF hc (by rw [<- hob];exact ho)
   simp only [Bool.and_eq_true,decide_eq_true_eq] at hb
   obtain ⟨⟨h0,h1⟩,h2⟩:=hb
   obtain ⟨ad,cap,hv,hcap,hk⟩:=hx
   rw [hv]
   have hrun:=pz (P:=P) (DV:=true) w (nG hT hl) (nG hT hu') h0 h1 h2 hcap.1
   refine ⟨hp,.slice (if cap=l.toNat then ad else ad.map (·.add (l.toNat*sz'))) (u.toNat - l.toNat) (cap - l.toNat),?_,?_⟩
   · simp [Instr.sliceAt,run_underlying hu,Instr.slice,hrun,dz w hsz]
   · rw [hr]
     refine ⟨_,_,rfl,⟨by have:=hcap.1;omega,fun h3=>?_⟩,fun h3=>?_⟩
     · have:ad=none:=by
        split at h3
        · exact h3
        · cases ad<;>simp_all
       have:=hcap.2 this
       omega
     have hcap:=hcap.1
     obtain ⟨ad',rfl,hk2⟩:=hk (by omega)
     rw [if_neg (by omega)]
     refine ⟨_,rfl,fun k hkk j hj=>?_⟩
     rw [add_add',<- Nat.add_assoc,<- Nat.add_mul]
     exact hk2 (l.toNat+k) (by omega) j hj
 · rename_i el i sz z n hm hu
   have hmx:=hmx rfl hm
   subst hmx
   split at h
   case h_2=>cases h
   rename_i sz' l u hsz hl hu'
   split at h
   case isFalse=>cases h
   rename_i hs
   have hs:sz'=sz:=by simpa using hs
   subst hs
   split at h
   case h_2=>cases h
   rename_i ob hc
   obtain ⟨hp,hr,hob⟩:=fO h
   have hb:=jF hc (by rw [<- hob];exact ho)
   simp only [Bool.and_eq_true,decide_eq_true_eq] at hb
   obtain ⟨⟨h0,h1⟩,h2⟩:=hb
   obtain ⟨hlv,hκ,hm2⟩:=hx
   cases hι:E.ι i with
   | none =>
     rw [hι] at hm2
     obtain ⟨rfl,rfl,hv⟩:=hm2
     rw [hv]
     have hrun:=pz (P:=P) (DV:=true) (cap:=0) w (nG hT hl) (nG hT hu') h0 h1 h2 (Nat.le_refl _)
     have hl0:l.toNat=0:=by omega
     have hu0:u.toNat=0:=by omega
     refine ⟨hp,.slice none 0 0,?_,?_⟩
     · simp [Instr.sliceAt,run_underlying hu,Instr.slice,hrun,dz w hsz,hl0,hu0]
     · rw [hr,hl0,hu0]
       exact ⟨hlv,by omega,by rw [hι];exact ⟨rfl,rfl,rfl⟩⟩
   | some b =>
     rw [hι] at hm2
     obtain ⟨ad,hv,had⟩:=hm2
     rw [hv]
     have hrun:=pz (P:=P) (DV:=true) w (nG hT hl) (nG hT hu') h0 h1 h2 (show n<=E.κ i - z by omega)
     refine ⟨hp,.slice (if E.κ i - z=l.toNat then ad else ad.map (·.add (l.toNat*sz'))) (u.toNat - l.toNat) (E.κ i - z - l.toNat),?_,?_⟩
     · simp [Instr.sliceAt,run_underlying hu,Instr.slice,hrun,dz w hsz]
     · rw [hr]
       refine ⟨hlv,by omega,?_⟩
       rw [hι]
       have e:E.κ i - z - l.toNat=E.κ i - (z+l.toNat):=by omega
       refine ⟨_,by rw [e],⟨fun h3=>?_,by have:=had.2;split<;>cases ad<;>simp_all⟩⟩
       rcases h3 with h3 | h3
       · have hz:z=0:=by omega
         have hl0:l.toNat=0:=by omega
         subst hz
         rw [had.1 (.inl rfl),hl0]
         simp [Addr.add]
       · rw [had.1 (by omega),if_neg (by omega)]
         simp [addr_add,Nat.add_mul]
 · cases h
theorem adk {P:Program} {H:HH} {E:Env} {w:World} {t ty:TypeId} {xa:AV} {x:Value} {e:Eff} (hx:Rel xa H E x) (h:aeh P t xa=some e) :
 Plain e/\∃ u,(Builtin.len_ #[t] ty #[x]).run P w=.ok u w/\Rel e.r H E u:=by
 unfold aeh at h
 split at h
 · rename_i s hu
   obtain ⟨rfl,_⟩:=hx
   obtain ⟨hp,hr,_⟩:=cK h
   exact ⟨hp,_,by simp [Builtin.len_,run_underlying hu];rfl,by rw [hr];exact ⟨rfl,rfl⟩⟩
 · rename_i hu
   obtain ⟨rfl,_⟩:=hx
   obtain ⟨hp,hr,_⟩:=cK h
   exact ⟨hp,_,by simp [Builtin.len_,run_underlying hu];rfl,by rw [hr];exact ⟨rfl,rfl⟩⟩
 · rename_i b sz n c hu
   obtain ⟨ad,cap,rfl,_⟩:=hx
   obtain ⟨hp,hr,_⟩:=cK h
   exact ⟨hp,_,by simp [Builtin.len_,run_underlying hu];rfl,by rw [hr];exact ⟨rfl,rfl⟩⟩
 · rename_i i sz lo n hu
   obtain ⟨hp,hr,_⟩:=cK h
   obtain ⟨_,_,hm⟩:=hx
   refine ⟨hp,.int .i64 n,?_,by rw [hr];exact ⟨rfl,rfl⟩⟩
   split at hm
   · obtain ⟨ad,rfl,_⟩:=hm
     simp [Builtin.len_,run_underlying hu,goInt]
   · obtain ⟨_,rfl,rfl⟩:=hm
     simp [Builtin.len_,run_underlying hu,goInt]
 · rename_i n el hu
   obtain ⟨hp,hr,_⟩:=cK h
   exact ⟨hp,.int .i64 n,by simp [Builtin.len_,run_underlying hu,goInt],by rw [hr];exact ⟨rfl,rfl⟩⟩
 · cases h
theorem ad4 {P:Program} {w:World} {isMax:Bool} {x y v:Value} (h:mm2 isMax x y=some v):((if isMax then Builtin.max2 x y else Builtin.min2 x y)).run P w=.ok v w/\scalar v=true:=by
 unfold mm2 at h
 split at h
 · cases h
   cases isMax<;>exact ⟨rfl,rfl⟩
 · rename_i a b
   cases h
   cases isMax
   · refine ⟨?_,rfl⟩
     simp [Builtin.min2,Op.stringOp,ByteArray.toList_eq,asBool]
   · refine ⟨?_,rfl⟩
     simp [Builtin.max2,Op.stringOp,ByteArray.toList_eq,asBool]
 · cases h
theorem RJ {P:Program} {H:HH} {E:Env} {w:World} {isMax:Bool}:∀ {r:List AV} {v u:Value} {vs:List Value},mmL isMax v r=some u->scalar v=true->aA r H E vs ->
 (vs.foldlM (fun a b=>if isMax then Builtin.max2 a b else Builtin.min2 a b) v).run P w=.ok u w/\scalar u=true
 | [],v,u,vs,h,hs,hr=>by
   simp [aA] at hr;subst hr
   simp [mmL] at h;subst h
   exact ⟨rfl,hs⟩
 | a::r,v,u,vs,h,hs,hr=>by
   obtain ⟨x,q,rfl,h1,h2⟩:=hr
   cases a<;>simp only [mmL] at h<;>try (cases h;done)
   obtain ⟨rfl,_⟩:=h1
   split at h
   case h_2=>cases h
   rename_i y hy
   obtain ⟨hm,hsy⟩:=ad4 (P:=P) (w:=w) hy
   obtain ⟨h3,h4⟩:=RJ (P:=P) (w:=w) h hsy h2
   exact ⟨by rw [List.foldlM_cons,Sem.run_bind,hm];exact h3,h4⟩
theorem CB {P:Program} {H:HH} {E:Env} {w:World} {isMax:Bool} {l:List AV} {vs:Array Value} {ts:Array TypeId} {ty:TypeId} {e:Eff} (hr:aA l H E vs.toList) (h:zu isMax l=some e) :
 Plain e/\∃ u,(if isMax then Builtin.max_ ts ty vs else Builtin.min_ ts ty vs).run P w=.ok u w/\Rel e.r H E u:=by
 unfold zu at h
 split at h
 case h_2=>cases h
 rename_i v r
 obtain ⟨x,q,hq,h1,h2⟩:=hr
 obtain ⟨rfl,hs⟩:=h1
 split at h
 case h_2=>cases h
 rename_i u hu
 obtain ⟨hp,hr',_⟩:=cK h
 obtain ⟨h3,h4⟩:=RJ (P:=P) (w:=w) hu hs h2
 refine ⟨hp,u,?_,by rw [hr'];exact ⟨rfl,h4⟩⟩
 cases isMax
 · simp only [Builtin.min_,hq];simpa using h3
 · simp only [Builtin.max_,hq];simpa using h3
theorem Mw {w:World} {ad:Addr} {Q:Nat->Value->Prop}:∀ N,(∀ i,i<N->∃ x,w.cell? (ad.add i)=some x/\x.oneCell'=true/\Q i x) ->
 ∃ news:List Value,news.length=N/\∀ i u,news[i]? = some u->w.cell? (ad.add i)=some u/\u.oneCell'=true/\Q i u
 | 0,_=>⟨[],rfl,fun i u h=>by simp at h⟩
 | N+1,h=>by
   obtain ⟨l,hl,hv⟩:=Mw N fun i hi=>h i (by omega)
   obtain ⟨x,hx⟩:=h N (by omega)
   refine ⟨l++[x],by simp [hl],fun i u hu=>?_⟩
   rw [List.getElem?_append] at hu
   split at hu
   · exact hv i u hu
   · rename_i hi
     have:i=N:=by
      rcases Nat.lt_or_ge (i - l.length) 1 with h' | h'
      · omega
      · rw [List.getElem?_eq_none (by simpa using h')] at hu;cases hu
     subst this
     simp [hl] at hu
     subst hu
     exact hx
theorem qK {H:HH} {E:Env} {w:World} {M:List ay} {sz:Nat} {xa:AV} {x:Value} {src:Nat×Option (List AV)×(Nat->Nat->AV)} (hC:Conc H E w M) (hx:Rel xa H E x) (h0:0<sz)
 (h:oD (getM M) sz xa=some src) :
 ∃ A c,∃ news:List Value,x=.slice A src.1 c/\news.length=src.1*sz/\(A=none->src.1=0)/\(∀ ad,A=some ad->∀ j u,news[j]? = some u->w.cell? (ad.add j)=some u)/\ones news /\
  (∀ l,src.2.1=some l->aA l H E news)/\(src.2.1=none->∀ k,k<src.1->∀ j,j<sz->∃ u,news[k*sz+j]? = some u/\Rel (src.2.2 k j) H E0 u):=by
 unfold oD at h
 split at h
 · cases h
   obtain ⟨rfl,_⟩:=hx
   exact ⟨none,0,[],rfl,by simp,fun _=>rfl,fun ad h=>by simp at h,fun x hx=>(by cases hx),fun l hl=>by simp at hl;subst hl;rfl,fun h=>by simp at h⟩
 · rename_i b sz' n c
   split at h
   case isFalse=>cases h
   rename_i hs
   have hs:sz'=sz:=by simpa using hs
   subst hs
   cases h
   obtain ⟨A,cap,rfl,hcap,hk⟩:=hx
   rcases Nat.eq_zero_or_pos n with hn | hn
   · subst hn
     exact ⟨A,cap,[],rfl,by simp,fun _=>rfl,fun ad _ j u hu=>by simp at hu,fun x hx=>(by cases hx),fun l hl=>by simp at hl,fun _ k hk=>by omega⟩
   · obtain ⟨ad,rfl,hk2⟩:=hk hn
     obtain ⟨news,hl,hv⟩:=Mw (w:=w) (ad:=ad) (Q:=fun i u=>Rel (c (i / sz') (i % sz')) H E0 u) (n*sz') fun i hi=>by
      have hd:i / sz'<n:=(Nat.div_lt_iff_lt_mul h0).2 hi
      obtain ⟨x,hx,h1,hr⟩:=hk2 (i / sz') hd (i % sz') (Nat.mod_lt _ h0)
      have e:i / sz'*sz'+i % sz'=i:=by rw [Nat.mul_comm];exact Nat.div_add_mod i sz'
      rw [e] at hx
      exact ⟨x,AY hC.imm hC.tf.1 hx,h1,Rel.mono _ (HH.zA hC.tf.1 b) hr⟩
     refine ⟨some ad,cap,news,rfl,hl,fun h=>by simp at h,fun ad' h' j u hu=>by cases h';exact (hv j u hu).1,fun x hx=>?_,fun l hl=>by simp at hl,fun _ k hk j hj=>?_⟩
     · obtain ⟨j,hj⟩:=List.mem_iff_getElem?.1 hx
       exact (hv j x hj).2.1
     · have hlt:k*sz'+j<news.length:=by
        rw [hl]
        have:(k+1)*sz'<=n*sz':=Nat.mul_le_mul_right _ hk
        rw [Nat.add_mul] at this;omega
       refine ⟨news[k*sz'+j],List.getElem?_eq_getElem hlt,?_⟩
       have:=(hv _ _ (List.getElem?_eq_getElem hlt)).2.2
       have e1:(k*sz'+j) / sz'=k:=by rw [Nat.mul_comm,Nat.mul_add_div h0,Nat.div_eq_of_lt hj];rfl
       have e2:(k*sz'+j) % sz'=j:=by rw [Nat.mul_comm,Nat.mul_add_mod,Nat.mod_eq_of_lt hj]
       rw [e1,e2] at this
       exact this
 · rename_i i sz' lo n
   split at h
   case isFalse=>cases h
   rename_i hs
   have hs:sz'=sz:=by simpa using hs
   subst hs
   obtain ⟨hlv,hκ,hm⟩:=hx
   have hB:=hC.blk i
   split at h
   · rename_i ty s2 m cap cs hg
     rw [hg] at hB
     split at h
     case isFalse=>cases h
     rename_i hb
     simp only [Bool.and_eq_true,beq_iff_eq,Nat.ble_eq] at hb
     obtain ⟨rfl,hlm⟩:=hb
     cases h
     obtain ⟨_,hmκ,_,_,hm2⟩:=hB
     cases hι:E.ι i with
     | none =>
       rw [hι] at hm
       obtain ⟨_,rfl,rfl⟩:=hm
       exact ⟨none,0,[],rfl,by simp,fun _=>rfl,fun ad h=>by simp at h,fun x hx=>(by cases hx),fun l hl=>by simp [kL] at hl;subst hl;rfl,fun h=>by simp at h⟩
     | some b =>
       rw [hι] at hm hm2
       obtain ⟨A,rfl,hA⟩:=hm
       obtain ⟨vs,h1,h2,h3,h4⟩:=hm2
       rcases Nat.eq_zero_or_pos n with hn | hn
       · subst hn
         exact ⟨A,_,[],rfl,by simp,fun _=>rfl,fun ad _ j u hu=>by simp at hu,fun x hx=>(by cases hx),fun l hl=>by simp [kL] at hl;subst hl;rfl,fun h=>by simp at h⟩
       · have hle:(lo+n)*s2<=m*s2:=Nat.mul_le_mul_right _ hlm
         rw [Nat.add_mul] at hle
         have hsz:m*s2<=E.κ i*s2:=Nat.mul_le_mul_right _ hmκ.2
         have hvl:vs.toList.length=E.κ i*s2:=by simpa using h3
         refine ⟨A,_,(vs.toList.drop (lo*s2)).take (n*s2),rfl,by simp;omega,fun h=>(by rw [hA.1 (.inr hn)] at h;cases h),fun ad had j u hu=>?_,qx h2 hle,fun l hl=>?_,fun h=>by simp at h⟩
         · rw [hA.1 (.inr hn)] at had
           cases had
           rw [addr_add,cell_of_row w b _ vs ty (0,0) h1]
           rw [List.getElem?_take] at hu
           split at hu
           · rw [List.getElem?_drop] at hu;simpa using hu
           · cases hu
         · simp at hl
           subst hl
           refine gB (by rw [gu];simp;omega) fun j u hu=>?_
           rw [List.getElem?_take] at hu
           split at hu
           · rename_i hj
             rw [jy _ _ _ _ hj]
             rw [List.getElem?_drop] at hu
             exact bn h4 _ _ (by rw [List.getElem?_take,if_pos (by omega)];exact hu)
           · cases hu
   · rename_i ty s2 m cap c hg
     rw [hg] at hB
     split at h
     case isFalse=>cases h
     rename_i hb
     have hb:s2=sz':=by simpa using hb
     subst hb
     cases h
     obtain ⟨_,hmκ,_,_,hm2⟩:=hB
     have hlm:lo+n<=m:=by omega
     cases hι:E.ι i with
     | none =>
       rw [hι] at hm
       obtain ⟨_,rfl,rfl⟩:=hm
       exact ⟨none,0,[],rfl,by simp,fun _=>rfl,fun ad h=>by simp at h,fun x hx=>(by cases hx),fun l hl=>by simp at hl,fun _ k hk=>by simp at hk⟩
     | some b =>
       rw [hι] at hm hm2
       obtain ⟨A,rfl,hA⟩:=hm
       obtain ⟨vs,h1,h2,h3,h4⟩:=hm2
       rcases Nat.eq_zero_or_pos n with hn | hn
       · subst hn
         exact ⟨A,_,[],rfl,by simp,fun _=>rfl,fun ad _ j u hu=>by simp at hu,fun x hx=>(by cases hx),fun l hl=>by simp at hl,fun _ k hk=>by simp at hk⟩
       · have hle:(lo+n)*s2<=m*s2:=Nat.mul_le_mul_right _ hlm
         rw [Nat.add_mul] at hle
         have hsz:m*s2<=E.κ i*s2:=Nat.mul_le_mul_right _ hmκ.2
         have hvl:vs.toList.length=E.κ i*s2:=by simpa using h3
         refine ⟨A,_,(vs.toList.drop (lo*s2)).take (n*s2),rfl,by simp;omega,fun h=>(by rw [hA.1 (.inr hn)] at h;cases h),fun ad had j u hu=>?_,qx h2 hle,fun l hl=>by simp at hl,fun _ k hk j hj=>?_⟩
         · rw [hA.1 (.inr hn)] at had
           cases had
           rw [addr_add,cell_of_row w b _ vs ty (0,0) h1]
           rw [List.getElem?_take] at hu
           split at hu
           · rw [List.getElem?_drop] at hu;simpa using hu
           · cases hu
         · have hk':k<n:=hk
           obtain ⟨x,hx,hr⟩:=h4 (lo+k) (by omega) j hj
           refine ⟨x,?_,hr⟩
           have hkn:(k+1)*s2<=n*s2:=Nat.mul_le_mul_right _ hk'
           rw [Nat.add_mul] at hkn
           rw [List.getElem?_take,if_pos (by omega),List.getElem?_drop]
           rw [Nat.add_mul,Nat.add_assoc] at hx
           simpa using hx
   · cases h
 · cases h
def Cont (H:HH) (E:Env) (sz n:Nat) (ty:TypeId):ay->List Value->Prop
 | .lst ty' sz' n' _ cs,vs=>ty=ty'/\sz=sz'/\n=n'/\aA cs H E vs
 | .row ty' sz' n' _ c,vs=>ty=ty'/\sz=sz'/\n=n'/\∀ k,k<n->∀ j,j<sz->∃ x,vs[k*sz+j]? = some x/\Rel (c k j) H E0 x
 | _,_=>False
def capOf:ay->Option Nat
 | .lst _ _ _ cap _=>cap
 | .row _ _ _ cap _=>cap
 | _=>none
theorem xw {H:HH} {E:Env} {sz n:Nat} {ty:TypeId} {B B':ay} {xs news:List Value} {src:Nat×Option (List AV)×(Nat->Nat->AV)} (hc:Cont H E sz n ty B xs) (hl:xs.length=n*sz) (hn:news.length=src.1*sz)
 (h1:∀ l,src.2.1=some l->aA l H E news) (h2:src.2.1=none->∀ k,k<src.1->∀ j,j<sz->∃ u,news[k*sz+j]? = some u/\Rel (src.2.2 k j) H E0 u) (h:uH B n sz src=some B') :
 Cont H E sz (n+src.1) ty B' (xs++news)/\capOf B'=none:=by
 have hlo:∀ k j,k<n->j<sz->k*sz+j<xs.length:=by
  intro k j hk hj
  have:(k+1)*sz<=n*sz:=Nat.mul_le_mul_right _ hk
  rw [Nat.add_mul] at this;omega
 have hhi:∀ k j,¬ k<n->(xs++news)[k*sz+j]? = news[(k - n)*sz+j]?:=by
  intro k j hk
  have:n*sz<=k*sz:=Nat.mul_le_mul_right _ (by omega)
  rw [List.getElem?_append,if_neg (by omega),hl]
  congr 1
  rw [Nat.sub_mul];omega
 unfold uH at h
 split at h
 · rename_i ty' _ _ _ cs m l d
   split at h
   case isFalse=>cases h
   cases h
   obtain ⟨rfl,rfl,rfl,hr⟩:=hc
   exact ⟨⟨rfl,rfl,rfl,fG hr (h1 l rfl)⟩,rfl⟩
 · rename_i ty' _ _ _ cs m d
   split at h
   case isFalse=>cases h
   rename_i hnr
   cases h
   obtain ⟨rfl,rfl,rfl,hr⟩:=hc
   refine ⟨⟨rfl,rfl,rfl,fun k hk j hj=>?_⟩,rfl⟩
   unfold aY
   by_cases hkn:k<n
   · rw [if_pos hkn]
     have hlt:=hlo k j hkn hj
     refine ⟨xs[k*sz+j],by rw [List.getElem?_append,if_pos hlt];exact List.getElem?_eq_getElem hlt,?_⟩
     exact Rel.dR _ (jT hnr _) (bn hr _ _ (List.getElem?_eq_getElem hlt))
   · rw [if_neg hkn,hhi k j hkn]
     exact h2 rfl (k - n) (by simp only at hk;omega) j hj
 · rename_i ty' _ _ _ c m l d
   split at h
   case isFalse=>cases h
   rename_i hnr
   simp only [Bool.and_eq_true] at hnr
   cases h
   obtain ⟨rfl,rfl,rfl,hr⟩:=hc
   refine ⟨⟨rfl,rfl,rfl,fun k hk j hj=>?_⟩,rfl⟩
   unfold aY
   by_cases hkn:k<n
   · rw [if_pos hkn]
     obtain ⟨x,hx,hrx⟩:=hr k hkn j hj
     exact ⟨x,by rw [List.getElem?_append,if_pos (hlo k j hkn hj)];exact hx,hrx⟩
   · rw [if_neg hkn,hhi k j hkn]
     have hrl:=h1 l rfl
     simp only at hk hn
     have hlt:(k - n)*sz+j<news.length:=by
      have:(k - n+1)*sz<=m*sz:=Nat.mul_le_mul_right _ (by omega)
      rw [Nat.add_mul] at this;omega
     exact ⟨_,List.getElem?_eq_getElem hlt,Rel.dR _ (jT hnr.1 _) (bn hrl _ _ (List.getElem?_eq_getElem hlt))⟩
 · rename_i ty' _ _ _ c m d
   cases h
   obtain ⟨rfl,rfl,rfl,hr⟩:=hc
   refine ⟨⟨rfl,rfl,rfl,fun k hk j hj=>?_⟩,rfl⟩
   unfold aY
   by_cases hkn:k<n
   · rw [if_pos hkn]
     obtain ⟨x,hx,hrx⟩:=hr k hkn j hj
     exact ⟨x,by rw [List.getElem?_append,if_pos (hlo k j hkn hj)];exact hx,hrx⟩
   · rw [if_neg hkn,hhi k j hkn]
     exact h2 rfl (k - n) (by simp only at hk;omega) j hj
 · cases h
theorem nU {H:HH} {E:Env} {w:World} {sz n i:Nat} {ty:TypeId} {B:ay} {xs:List Value} (hc:Cont H E sz n ty B xs) (hcap:capOf B=none) (hlv:E.lv i=true) (hκ:n=E.η i/\n<=E.κ i) (hmx:E.κ i<=maxLen) (h1:ones xs)
 (hm:match E.ι i with | none=>E.κ i=0/\xs=[] | some b=>∃ vs,w.heap[b]? = some (.cells vs ty (0,0))/\vs.size=E.κ i*sz/\vs.toList.take (n*sz)=xs):bV H E w i B:=by
 cases B with
 | lst ty' sz' n' cap cs =>
   obtain ⟨rfl,rfl,rfl,hr⟩:=hc
   refine ⟨hlv,hκ,hmx,fun q hq=>(by simp [capOf] at hcap;subst hcap;cases hq),?_⟩
   cases hι:E.ι i with
   | none =>
     rw [hι] at hm
     obtain ⟨h2,rfl⟩:=hm
     refine ⟨h2,?_⟩
     have:=aA.length hr
     simpa using this.symm
   | some b =>
     rw [hι] at hm
     obtain ⟨vs,h2,h3,h4⟩:=hm
     exact ⟨vs,h2,by rw [h4];exact h1,h3,by rw [h4];exact hr⟩
 | row ty' sz' n' cap c =>
   obtain ⟨rfl,rfl,rfl,hr⟩:=hc
   refine ⟨hlv,hκ,hmx,fun q hq=>(by simp [capOf] at hcap;subst hcap;cases hq),?_⟩
   cases hι:E.ι i with
   | none=>rw [hι] at hm;exact hm.1
   | some b =>
     rw [hι] at hm
     obtain ⟨vs,h2,h3,h4⟩:=hm
     refine ⟨vs,h2,by rw [h4];exact h1,h3,fun k hk j hj=>?_⟩
     obtain ⟨x,hx,hrx⟩:=hr k hk j hj
     rw [<- h4,List.getElem?_take] at hx
     split at hx
     · exact ⟨x,by simpa using hx,hrx⟩
     · cases hx
 | box _ _=>exact hc.elim
 | mp es ck=>exact hc.elim
 | mi kk vk has c=>exact hc.elim
 | mit m since seen last=>exact hc.elim
 | any=>exact hc.elim
 | tmap q has c n kn=>exact hc.elim
 | trow ty sz n cap c op zs=>exact hc.elim
 | dead=>exact hc.elim
theorem oJ {H:HH} {E E':Env} {sz n:Nat} {ty:TypeId} {B:ay} {xs:List Value} {f:Nat->Option Nat} (hv:E.via E' f) (hc:Cont H E sz n ty B xs):Cont H E' sz n ty (eY f B) xs:=by
 cases B with
 | lst _ _ _ _ _=>exact ⟨hc.1,hc.2.1,hc.2.2.1,aA.ren _ hv hc.2.2.2⟩
 | row _ _ _ _ _=>exact hc
 | box _ _=>exact hc.elim
 | mp es ck=>exact hc.elim
 | mi kk vk has c=>exact hc.elim
 | mit m since seen last=>exact hc.elim
 | any=>exact hc.elim
 | tmap q has c n kn=>exact hc.elim
 | trow ty sz n cap c op zs=>exact hc.elim
 | dead=>exact hc.elim
theorem DZ {B:ay} {f:Nat->Option Nat}:capOf (eY f B)=capOf B:=by
 cases B with
 | mit m since seen last=>show capOf (match f m with | some j=>ay.mit j since seen last | none=>ay.any)=_;cases f m<;>rfl
 | _=>rfl
theorem Conc.move {H:HH} {E:Env} {w w':World} {M:List ay} {a κ' η':Nat} {bo':Option Nat} {B:ay} (hC:Conc H E w M) (hl:E.lv a=true) (hw:w.grownBy w' (E.ι a)) (hbo:∀ g,bo'=some g->E.ι a=some g∨w.heap.size<=g)
 (hB:bV H (E.set a bo' κ' η') w' a (eY (aO [a]) B)):Conc H (E.set a bo' κ' η') w' (dN [a] (iH M a B))/\bF [a] H E w H (E.set a bo' κ' η') w':=by
 have hvia:E.via (E.set a bo' κ' η') (aO [a]):=by
  intro i j hij hli
  unfold aO at hij
  split at hij
  · cases hij
  · rename_i hn
    cases hij
    have hne:i≠a:=by simpa using hn
    obtain ⟨e1,e2,e3⟩:=E.mK a i bo' κ' η' hne
    exact ⟨e1.trans hli,e2,e3⟩
 have hsame:∀ b,b<w.heap.size->E.ι a≠some b->w'.heap[b]? = w.heap[b]?:=fun b hb hn=>hw.block b hb fun e=>hn e.symm
 refine ⟨⟨fun b o ho=>?_,hC.tf,fun i=>?_,fun i j b hi hj=>?_,fun i b hi=>?_,fun i b hi hib=>?_⟩,⟨hw.os,hw.tape,hw.output,hw.size,fun b hb hn=>hsame b hb (fun e=>hn a ⟨hl,.inl e⟩),fun i b hi=>?_,HH.le_refl _,fun _ _ _ h=>.inl h,fun i hi hn=>?_⟩⟩
 · rw [hsame b (IH.p8 hC.imm ho) fun e=>by rw [hC.sep a b hl e] at ho;cases ho]
   exact hC.imm b o ho
 · rw [fI]
   by_cases hi:a=i
   · subst hi;rw [aT];exact hB
   · rw [aW _ _ _ _ hi]
     have hi':i≠a:=fun e=>hi e.symm
     obtain ⟨e1,e2,e3,e4⟩:=E.mK a i bo' κ' η' hi'
     exact (hC.blk i).move (HH.le_refl _) hvia e1 e2 e3 e4 (fun b=>by simp [Env.set,hi']) fun b hb=>hsame b (hC.o9 hb) fun e=>hi (hC.injH a i b ⟨hl,.inl e⟩ hb)
 · rcases Env.ko hi with ⟨rfl,h1⟩ | ⟨n1,h1⟩<;>rcases Env.ko hj with ⟨rfl,h2⟩ | ⟨n2,h2⟩
   · rfl
   · have hlt:=hC.o9 h2
     rcases hbo b h1 with h3 | h3
     · exact hC.injH i j b ⟨hl,.inl h3⟩ h2
     · omega
   · have hlt:=hC.o9 h1
     rcases hbo b h2 with h3 | h3
     · exact hC.injH i j b h1 ⟨hl,.inl h3⟩
     · omega
   · exact hC.injH i j b h1 h2
 · rcases Env.ko hi with ⟨rfl,h1⟩ | ⟨n1,h1⟩
   · rcases hbo b h1 with h3 | h3
     · exact hC.sep i b hl h3
     · cases hx:H false b with
       | none=>rfl
       | some o=>have:=IH.p8 hC.imm hx;omega
   · exact hC.sepH i b h1
 · rcases Env.ko ⟨hi,.inr hib⟩ with ⟨rfl,h1⟩ | ⟨n1,h1⟩
   · exact absurd rfl hib.1
   · have:=hC.o9 h1;have:=hw.size;omega
 · rcases Env.ko hi with ⟨rfl,h1⟩ | ⟨n1,h1⟩
   · rcases hbo b h1 with h3 | h3
     · exact .inl ⟨i,hl,.inl h3⟩
     · exact .inr h3
   · exact .inl ⟨i,h1⟩
 · exact hvia i i (by unfold aO;rw [if_neg (by simpa using hn)]) hi
theorem tZ {P:Program} {w:World} {t ty el:TypeId} {i:TypeInfo} {z v:Value} {n m c:Nat} {xs news:List Value} {A:Option Addr} (hu:P.underlying t=some (.slice el)) (hi:P.info? el=some i) (hz:i.zero=some z)
 (hzs:z.cells.size=i.size) (h0:0<i.size) (hown:w.ownsRow 0 el i.size v n xs) (hl:news.length=m*i.size) (hA:A=none->m=0) (hc:∀ ad,A=some ad->∀ j u,news[j]? = some u->w.cell? (ad.add j)=some u)
 (h1:ones news) (h63:n+m<=maxLen) (hb:(n+m)*i.bytes<=140737488355328) :
 ∃ v' w',(Builtin.append_ #[t,t] ty #[v,.slice A m c]).run P w=.ok v' w'/\w'.ownsRow 0 el i.size v' (n+m) (xs++news)/\w.grownBy w' v.ownBlock /\
  (v'=.slice none 0 0->v=.slice none 0 0/\m=0)/\(v'.ownBlock=v.ownBlock∨v'.ownBlock=some w.heap.size):=by
 cases A with
 | some ad =>
   obtain ⟨v',w',h2,h3,h4,h5,h6⟩:=run_append_own_at (P:=P) w 0 t ty el i z i.size i.bytes hu hi hz rfl rfl hzs h0 v n xs hown ad m c news hl (hc ad rfl) h1 h63 hb (Nat.zero_le _)
   exact ⟨v',w',h2,h3,h4,h5.1,h6⟩
 | none =>
   have hm:=hA rfl
   subst hm
   have hn:news=[]:=List.eq_nil_of_length_eq_zero (by simpa using hl)
   subst hn
   refine ⟨v,w,?_,by simpa using hown,⟨rfl,rfl,rfl,Nat.le_refl _,fun _ _ _=>rfl⟩,fun h=>⟨h,rfl⟩,.inl rfl⟩
   rcases hown.2 with ⟨rfl,rfl⟩ | ⟨g,cap,cur,rfl,_,_,hnc,_⟩
   · simp [Builtin.append_,run_underlying hu,sizeOf,typeInfo,hi,Builtin.lenOf,Builtin.firstCells]
   · simp [Builtin.append_,run_underlying hu,sizeOf,typeInfo,hi,Builtin.lenOf,Builtin.firstCells,hnc,storeCells]
theorem lM {w:World} {el:TypeId} {sz n:Nat} {v:Value} {xs:List Value} (h:w.ownsRow 0 el sz v n xs) :
 ∃ bo κ,v.ownBlock=bo/\n<=κ/\κ<=maxLen/\v=(match bo with | none=>.slice none 0 0 | some b=>.slice (some ⟨b,0,none⟩) n κ) /\
  (match bo with | none=>κ=0/\xs=[] | some b=>∃ vs,w.heap[b]? = some (.cells vs el (0,0))/\vs.size=κ*sz/\vs.toList.take (n*sz)=xs)/\(bo=none->n=0):=by
 rcases h.2 with ⟨rfl,rfl⟩ | ⟨g,cap,cur,rfl,_,hg,hn,hm,hs,ht⟩
 · have:=h.1
   exact ⟨none,0,rfl,Nat.le_refl _,Nat.zero_le _,rfl,⟨rfl,List.eq_nil_of_length_eq_zero (by simpa using this)⟩,fun _=>rfl⟩
 · exact ⟨some g,cap,rfl,hn,hm,rfl,⟨cur,hg,hs,ht⟩,fun h=>by cases h⟩
theorem r_ {P:Program} {H:HH} {E:Env} {w:World} {M:List ay} {t ty el:TypeId} {i:TypeInfo} {z:Value} {a n c:Nat} {B B':ay} {s x:Value} {xs:List Value} {src:Nat×Option (List AV)×(Nat->Nat->AV)} {xa:AV}
 (hC:Conc H E w M) (hu:P.underlying t=some (.slice el)) (hi:P.info? el=some i) (hz:i.zero=some z) (hzs:z.cells.size=i.size) (h0:0<i.size)
 (hl:E.lv a=true) (hown:w.ownsRow 0 el i.size s n xs) (hob:s.ownBlock=E.ι a) (hxs:ones xs) (hcont:Cont H E i.size n el B xs) (hx:Rel xa H E x) (hsrc:oD (getM M) i.size xa=some src)
 (h63:n+src.1<=maxLen) (hb:(n+src.1)*i.bytes<=140737488355328) (happ:uH B n i.size src=some B') (_hc:c=0) :
 ∃ u w' E',(Builtin.append_ #[t,t] ty #[s,x]).run P w=.ok u w'/\Rel (.own a i.size 0 (n+src.1)) H E' u/\Conc H E' w' (dN [a] (iH M a B'))/\bF [a] H E w H E' w':=by
 obtain ⟨A,c',news,rfl,hnl,hA,hcell,hones,hr1,hr2⟩:=qK hC hx h0 hsrc
 obtain ⟨v',w',hrun,hown',hgrow,_,hat⟩:=tZ (ty:=ty) (c:=c') hu hi hz hzs h0 hown hnl hA hcell hones h63 hb
 obtain ⟨hc2,hcap⟩:=xw hcont hown.1 hnl hr1 hr2 happ
 obtain ⟨bo,κ,hbo,hnκ,hκm,hv',hblk,hbn⟩:=lM hown'
 rw [hob] at hgrow hat
 obtain ⟨e1,e2,e3,e4⟩:=E.eO a bo κ (n+src.1)
 have hvia:E.via (E.set a bo κ (n+src.1)) (aO [a]):=by
  intro p q hpq hlp
  unfold aO at hpq
  split at hpq
  · cases hpq
  · rename_i hn
    cases hpq
    obtain ⟨f1,f2,f3⟩:=E.mK a p bo κ (n+src.1) (by simpa using hn)
    exact ⟨f1.trans hlp,f2,f3⟩
 have hB:bV H (E.set a bo κ (n+src.1)) w' a (eY (aO [a]) B'):=by
  refine nU (oJ hvia hc2) (by rw [DZ];exact hcap) e1 (by rw [e3,e4];exact ⟨rfl,hnκ⟩) (by rw [e3];exact hκm) (fun y hy=>?_) (by rw [e2,e3];exact hblk)
  rcases List.mem_append.1 hy with hy | hy
  · exact hxs y hy
  · exact hones y hy
 obtain ⟨hconc,hev⟩:=hC.move hl hgrow (bo':=bo) (κ':=κ) (η':=n+src.1) (fun g hg=>by
  rw [hbo,hg] at hat
  rcases hat with h | h
  · exact .inl h.symm
  · cases h;exact .inr (Nat.le_refl _)) hB
 refine ⟨v',w',E.set a bo κ (n+src.1),hrun,⟨e1,by rw [e3,e4];omega,?_⟩,hconc,hev⟩
 rw [e2,e3]
 cases bo with
 | none=>exact ⟨rfl,by have:=hbn rfl;omega,hv'⟩
 | some b=>exact ⟨_,hv',⟨fun _=>by simp,by simp⟩⟩
theorem Gt {P:Program} {H:HH} {E:Env} {w:World} {M:List ay} {hh:Option Hint} {t ty:TypeId} {nid:Nat} {sa xa:AV} {s x:Value} {e:Eff} (hC:Conc H E w M) (hd:getM M nid=.dead) (hs:Rel sa H E s) (hx:Rel xa H E x)
 (h:kY P hh (getM M) nid t sa xa=some e) (ho:All e.ob) :
 ∃ u w' E',(Builtin.append_ #[t,t] ty #[s,x]).run P w=.ok u w'/\Rel e.r H E' u/\Conc H E' w' (dN e.kl (dx e.wr M))/\bF e.kl H E w H E' w':=by
 unfold kY at h
 split at h
 case h_2=>cases h
 rename_i el hu
 split at h
 case h_2=>cases h
 rename_i i zl hi hzl
 split at h
 case h_2=>cases h
 rename_i src hsrc
 split at h
 case isFalse=>cases h
 rename_i hb0
 simp only [Bool.and_eq_true,beq_iff_eq,Nat.ble_eq,len_eq] at hb0
 obtain ⟨h0,hzlen⟩:=hb0
 obtain ⟨i',z,hi',hz,hrz,hoz⟩:=iK H E hzl
 rw [hi] at hi';cases hi'
 have hzs:z.cells.size=i.size:=by have:=aA.length hrz;simp at this;omega
 split at h
 · -- nil
   obtain ⟨rfl,_⟩:=hs
   split at h
   case h_2=>cases h
   rename_i ob B hc happ
   cases h
   have hb:=jF hc ho
   simp only [Bool.and_eq_true,decide_eq_true_eq] at hb
   obtain ⟨A,c',news,rfl,hnl,hA,hcell,hones,hr1,hr2⟩:=qK hC hx h0 hsrc
   have hown0:=World.ownsRow_nil w 0 el i.size
   obtain ⟨v',w',hrun,hown',hgrow,_,hat⟩:=tZ (ty:=ty) (c:=c') (n:=0) hu hi hz hzs h0 hown0 hnl hA hcell hones (by omega) (by rw [Nat.zero_add];exact hb.2)
   have hcont0:Cont H E i.size 0 el (.lst el i.size 0 none []) []:=⟨rfl,rfl,rfl,rfl⟩
   obtain ⟨hc2,hcap⟩:=xw hcont0 (by simp) hnl hr1 hr2 happ
   obtain ⟨bo,κ,hbo,hnκ,hκm,hv',hblk,hbn⟩:=lM hown'
   obtain ⟨e1,e2,e3,e4⟩:=E.eO nid bo κ src.1
   have hB:bV H (E.set nid bo κ src.1) w' nid B:=by
    have hc3:=oJ (pF (bo:=bo) (κ:=κ) (η:=src.1) hC hd) hc2
    rw [eD] at hc3
    refine nU hc3 hcap e1 (by rw [e3,e4];omega) (by rw [e3];exact hκm) (fun y hy=>by simpa using hones y (by simpa using hy)) (by rw [e2,e3];exact hblk)
   obtain ⟨hconc,hev⟩:=hC.new (bo:=bo) (κ:=κ) (η:=src.1) hd hgrow.os hgrow.tape hgrow.output hgrow.size (fun b hb=>hgrow.block b hb (by simp [Value.ownBlock])) (fun b hb=>by
    rw [hbo,hb] at hat
    rcases hat with h | h
    · simp [Value.ownBlock] at h
    · cases h;exact Nat.le_refl _) hB
   refine ⟨v',w',E.set nid bo κ src.1,hrun,⟨e1,by rw [e3,e4];omega,?_⟩,hconc,hev⟩
   rw [e2,e3]
   cases bo with
   | none=>exact ⟨rfl,by have:=hbn rfl;omega,hv'⟩
   | some b=>exact ⟨some ⟨b,0,none⟩,by rw [hv'];simp,⟨fun _=>by simp,by simp⟩⟩
 · -- a row of one's own
   rename_i a sz n
   split at h
   case isFalse=>cases h
   rename_i hsz
   have hsz:sz=i.size:=by simpa using hsz
   subst hsz
   obtain ⟨hlv,hκ,hm⟩:=hs
   have hB:=hC.blk a
   have hown:∀ {xs:List Value},xs.length=n*i.size->(match E.ι a with | none=>E.κ a=0/\xs=[] | some b=>∃ vs,w.heap[b]? = some (.cells vs el (0,0))/\vs.size=E.κ a*i.size/\vs.toList.take (n*i.size)=xs)->E.κ a<=maxLen ->
    w.ownsRow 0 el i.size s n xs/\s.ownBlock=E.ι a:=by
    intro xs hxl hmm hκm
    cases hι:E.ι a with
    | none =>
      rw [hι] at hm hmm
      obtain ⟨_,rfl,rfl⟩:=hm
      exact ⟨⟨hxl,.inl ⟨rfl,rfl⟩⟩,rfl⟩
    | some b =>
      rw [hι] at hm hmm
      obtain ⟨ad,rfl,had⟩:=hm
      obtain ⟨vs,h1,h2,h3⟩:=hmm
      rw [had.1 (.inl rfl)]
      exact ⟨⟨hxl,.inr ⟨b,E.κ a,vs,by simp,Nat.zero_le _,h1,by omega,hκm,h2,h3⟩⟩,rfl⟩
   split at h
   · rename_i ty' s2 m cap cs hg
     split at h
     case isFalse=>cases h
     rename_i hty
     simp only [Bool.and_eq_true,beq_iff_eq] at hty
     obtain ⟨⟨rfl,rfl⟩,rfl⟩:=hty
     split at h
     case h_2=>cases h
     rename_i ob B' hc happ
     cases h
     have hb:=jF hc ho
     simp only [Bool.and_eq_true,decide_eq_true_eq] at hb
     rw [hg] at hB
     obtain ⟨_,hmκ,hκm,_,hm2⟩:=hB
     cases hι:E.ι a with
     | none =>
       rw [hι] at hm2
       obtain ⟨hκ0,rfl⟩:=hm2
       obtain ⟨ho1,ho2⟩:=hown (xs:=[]) (by simp [show m=0 by omega]) (by rw [hι];exact ⟨hκ0,rfl⟩) hκm
       exact r_ (B:=.lst ty' i.size m none []) hC hu hi hz hzs h0 hlv ho1 ho2 (fun y hy=>by cases hy) ⟨rfl,rfl,rfl,rfl⟩ hx hsrc hb.1 hb.2 happ rfl
     | some b =>
       rw [hι] at hm2
       obtain ⟨vs,h1,h2,h3,h4⟩:=hm2
       have hle:m*i.size<=E.κ a*i.size:=Nat.mul_le_mul_right _ hmκ.2
       obtain ⟨ho1,ho2⟩:=hown (xs:=vs.toList.take (m*i.size)) (by simp;omega) (by rw [hι];exact ⟨vs,h1,h3,rfl⟩) hκm
       exact r_ (B:=.lst ty' i.size m none cs) hC hu hi hz hzs h0 hlv ho1 ho2 h2 ⟨rfl,rfl,rfl,h4⟩ hx hsrc hb.1 hb.2 happ rfl
   · rename_i ty' s2 m cap cf hg
     split at h
     case isFalse=>cases h
     rename_i hty
     simp only [Bool.and_eq_true,beq_iff_eq] at hty
     obtain ⟨rfl,rfl⟩:=hty
     split at h
     case h_2=>cases h
     rename_i ob B' hc happ
     cases h
     have hb:=jF hc ho
     simp only [Bool.and_eq_true,decide_eq_true_eq] at hb
     obtain ⟨⟨rfl,hb1⟩,hb2⟩:=hb
     rw [hg] at hB
     obtain ⟨_,hmκ,hκm,_,hm2⟩:=hB
     cases hι:E.ι a with
     | none =>
       rw [hι] at hm2
       obtain ⟨ho1,ho2⟩:=hown (xs:=[]) (by simp [show m=0 by omega]) (by rw [hι];exact ⟨hm2,rfl⟩) hκm
       exact r_ (B:=.row ty' i.size m none cf) hC hu hi hz hzs h0 hlv ho1 ho2 (fun y hy=>by cases hy) ⟨rfl,rfl,rfl,fun k hk=>by omega⟩ hx hsrc hb1 hb2 happ rfl
     | some b =>
       rw [hι] at hm2
       obtain ⟨vs,h1,h2,h3,h4⟩:=hm2
       have hle:m*i.size<=E.κ a*i.size:=Nat.mul_le_mul_right _ hmκ.2
       obtain ⟨ho1,ho2⟩:=hown (xs:=vs.toList.take (m*i.size)) (by simp;omega) (by rw [hι];exact ⟨vs,h1,h3,rfl⟩) hκm
       refine r_ (B:=.row ty' i.size m none cf) hC hu hi hz hzs h0 hlv ho1 ho2 h2 ⟨rfl,rfl,rfl,fun k hk j hj=>?_⟩ hx hsrc hb1 hb2 happ rfl
       obtain ⟨y,hy,hry⟩:=h4 k hk j hj
       have hlt:k*i.size+j<m*i.size:=by
        have:(k+1)*i.size<=m*i.size:=Nat.mul_le_mul_right _ hk
        rw [Nat.add_mul] at this;omega
       exact ⟨y,by rw [List.getElem?_take,if_pos hlt];simpa using hy,hry⟩
   · cases h
 · cases h
theorem vR {H:HH} {E:Env} {w:World} {M:List ay} {e:Eff} {u:Value} {w':World} {E':Env} {run:Result Next} (hrun:run=.ok (.value u) w') (hr:Rel e.r H E' u)
 (hC:Conc H E' w' (dN e.kl (dx e.wr M))) (hE:bF e.kl H E w H E' w'):Good H E w M e run:=⟨_,u,w',E',hrun,.inl rfl,hr,hC,hE⟩
theorem Gs {P:Program} {H:HH} {E:Env} {w:World} {M:List ay} {hh:Option Hint} {nid:Nat} {t:Nat->AV} {a:Act} {o:Oper} {e:Eff} (hC:Conc H E w M) (hd:getM M nid=.dead) (hT:ji t H E a)
 (h:oK P hh (getM M) nid t o.op=some e) (ho:All e.ob):Good H E w M e ((execOp a.eval o).run P w):=by
 have mv:∀ x,xW hh nid (ev t x)=some e->((execOp a.eval o).run P w=.ok (.value (a.eval x)) w)->Good H E w M e ((execOp a.eval o).run P w):=by
  intro x h hrun
  have hx:=aM hT x
  unfold xW at h
  split at h
  · rename_i ty sz he _
    cases h
    rw [he] at hx
    obtain ⟨hx,_⟩:=hx
    obtain ⟨e1,e2,e3,e4⟩:=E.eO nid none 0 0
    obtain ⟨hc,hev⟩:=hC.new (w':=w) (i:=nid) (κ:=0) (η:=0) (bo:=none) (B:=.row ty sz 0 none (fun _ _=>.junk)) hd rfl rfl rfl (Nat.le_refl _) (fun _ _=>rfl) (fun b hb=>by cases hb)
     ⟨e1,by rw [e3,e4];exact ⟨rfl,Nat.le_refl _⟩,by rw [e3];exact Nat.zero_le _,(fun q hq=>by cases hq),by rw [e2];exact e3⟩
    refine vR hrun ?_ hc hev
    rw [hx]
    exact ⟨e1,by rw [e3,e4];exact ⟨Nat.le_refl _,Nat.le_refl _⟩,by rw [e2];exact ⟨rfl,rfl,rfl⟩⟩
  · obtain ⟨hp,hr,_⟩:=cK h
    exact cO hC hp (by rw [hr];exact hx) hrun
 cases hop:o.op with
 | move x=>exact mv x (by simpa only [oK,hop] using h) (by simp [execOp,hop])
 | assign x=>exact mv x (by simpa only [oK,hop] using h) (by simp [execOp,hop])
 | pick c x y =>
   simp only [oK,hop] at h
   have hc:=aM hT c
   split at h
   · rename_i he
     rw [he] at hc
     obtain ⟨hc,_⟩:=hc
     obtain ⟨hp,hr,_⟩:=cK h
     exact cO hC hp (by rw [hr];exact aM hT x) (by simp [execOp,hop,hc,asBool])
   · rename_i he
     rw [he] at hc
     obtain ⟨hc,_⟩:=hc
     obtain ⟨hp,hr,_⟩:=cK h
     exact cO hC hp (by rw [hr];exact aM hT y) (by simp [execOp,hop,hc,asBool])
   · cases h
 | alloc ty =>
   simp only [oK,hop] at h
   split at h
   case h_2=>cases h
   rename_i z hz
   cases h
   obtain ⟨i,zv,hi,hz',hrz,hoz⟩:=iK H E hz
   obtain ⟨h1,h2,h3⟩:=Er (nid:=nid) ty hC hd hrz hoz
   exact vR (by simp [execOp,hop,Instr.alloc,zeroValue,typeInfo,hi,hz',newVar,newRow]) h1 h2 h3
 | box ty x =>
   simp only [oK,hop] at h
   split at h
   case h_2=>cases h
   rename_i l hl
   cases h
   obtain ⟨hrl,hones,_⟩:=mo hl (aM hT x)
   obtain ⟨h1,h2,h3⟩:=Er (nid:=nid) ty hC hd hrl hones
   exact vR (by simp [execOp,hop,Instr.box,newVar,newRow]) h1 h2 h3
 | build ty parts =>
   simp only [oK,hop] at h
   have hpr:=UN hT parts.toList
   obtain ⟨hp,u,hrun,hr⟩:=Ve (w:=w) (pv:=parts.map fun p=>(p.1,a.eval p.2)) (by simpa using hpr) h
   exact cO hC hp hr (by simp [execOp,hop,hrun])
 | buildSlice ty n parts =>
   simp only [oK,hop] at h
   have hpr:=UN hT parts.toList
   obtain ⟨u,w',E',hrun,hr,hc,hev⟩:=yQ (pv:=parts.map fun p=>(p.1,a.eval p.2)) hC hd (by simpa using hpr) h
   exact vR (by simp [execOp,hop,hrun]) hr hc hev
 | load ty x =>
   simp only [oK,hop] at h
   split at h
   case h_2=>cases h
   rename_i d hu
   obtain ⟨hp,u,hrun,hr⟩:=Ew (P:=P) hC (aM hT x) ⟨d,hu⟩ h ho
   exact cO hC hp hr (by simp [execOp,hop,hrun])
 | store ty x y =>
   simp only [oK,hop] at h
   obtain ⟨w',hrun,hr,hk,hc,hev⟩:=o8 hC (aM hT x) (aM hT y) h ho
   refine ⟨.skip,undef,w',E,by simp [execOp,hop,hrun],.inr ⟨rfl,rfl⟩,by rw [hr];trivial,?_,?_⟩
   · rw [hk];exact hc
   · rw [hk];exact hev
 | nilCheck x =>
   simp only [oK,hop] at h
   have hx:=aM hT x
   split at h
   · rename_i i k sz o' he
     rw [he] at hx
     obtain ⟨hp,hr,_⟩:=cK h
     obtain ⟨hl,b,hb,hv⟩:=hx
     exact cO hC hp (v:=a.eval x) (by rw [hr,hv];exact ⟨hl,b,hb,rfl⟩) (by simp [execOp,hop,hv])
   · rename_i b m c he
     rw [he] at hx
     obtain ⟨hp,hr,_⟩:=cK h
     have hx2:=hx
     obtain ⟨ad,hv,hcc⟩:=hx
     exact cO hC hp (v:=a.eval x) (by rw [hr];exact hx2) (by simp [execOp,hop,hv])
   · rename_i f p q he
     rw [he] at hx
     obtain ⟨hp,hr,_⟩:=cK h
     have hx2:=hx
     obtain ⟨y,z,hv,_⟩:=hx
     exact cO hC hp (v:=a.eval x) (by rw [hr];exact hx2) (by simp [execOp,hop,hv])
   · cases h
 | binOp op ty x y yt =>
   simp only [oK,hop] at h
   obtain ⟨hp,u,hrun,hr,hg⟩:=acj (w:=w) (aM hT x) (aM hT y) h ho
   exact cO hC hp hr (by simp [execOp,hop,hg x y,hrun])
 | unOp op ty x =>
   cases op<;>simp only [oK,hop] at h<;>try (cases h;done)
   have hx:=aM hT x
   split at h
   case h_2=>cases h
   rename_i b he
   rw [he] at hx
   obtain ⟨hv,_⟩:=hx
   obtain ⟨hp,hr⟩:=vH (H:=H) (E:=E) h ho
   exact cO hC hp hr (by simp [execOp,hop,hv,Op.unary])
 | convert src dst x =>
   simp only [oK,hop] at h
   obtain ⟨hp,u,hrun,hr⟩:=Ww (w:=w) (aM hT x) h
   exact cO hC hp hr (by simp [execOp,hop,hrun])
 | makeInterface ty x =>
   simp only [oK,hop] at h
   split at h
   · cases h
   · rename_i d hni hu
     obtain ⟨hp,hr,_⟩:=cK h
     have hc:P.concrete ty=true:=by
      unfold Program.concrete
      rw [hu]
      cases d<;>first | rfl | exact absurd rfl (hni _)
     exact cO hC hp (v:=.iface ty (a.eval x)) (by rw [hr];exact ⟨_,rfl,aM hT x⟩) (by simp [execOp,hop,run_makeInterface w ty _ hc])
   · cases h
 | makeFunc fn first cap =>
   simp only [oK,hop] at h
   obtain ⟨hp,hr,_⟩:=cK h
   exact cO hC hp (v:=.func fn (first.map a.eval) (cap.map a.eval)) (by rw [hr];exact ⟨_,_,rfl,by simpa using mZ hT first.toList,by simpa using mZ hT cap.toList⟩) (by simp [execOp,hop,Instr.makeFunc])
 | slice ty x lo hi mx =>
   simp only [oK,hop] at h
   obtain ⟨hp,u,hrun,hr⟩:=U_ (w:=w) hT h ho
   exact cO hC hp hr (by simp [execOp,hop,hrun])
 | fieldAddr s x f =>
   simp only [oK,hop] at h
   obtain ⟨hp,u,hrun,hr⟩:=Ep (w:=w) (aM hT x) h
   exact cO hC hp hr (by simp [execOp,hop,hrun])
 | field s x f =>
   simp only [oK,hop] at h
   obtain ⟨hp,u,hrun,hr⟩:=Sq (w:=w) (aM hT x) h
   exact cO hC hp hr (by simp [execOp,hop,hrun])
 | indexAddr ty x i =>
   simp only [oK,hop] at h
   obtain ⟨hp,u,hrun,hr⟩:=VU (w:=w) (aM hT x) (aM hT i) h ho
   exact cO hC hp hr (by simp [execOp,hop,hrun])
 | extract x i =>
   simp only [oK,hop] at h
   have hx:=aM hT x
   split at h
   case h_2=>cases h
   rename_i l he
   split at h
   case isFalse=>cases h
   rename_i hle
   rw [he] at hx
   obtain ⟨vs,hv,hr⟩:=hx
   obtain ⟨hp,hr',_⟩:=cK h
   simp only [Nat.ble_eq,len_eq] at hle
   have hlt:i<vs.size:=by have:=aA.length hr;simp at this;omega
   exact cO hC hp (v:=vs[i]) (by rw [hr'];exact bn hr _ _ (by simp [hlt])) (by simp [execOp,hop,hv,Instr.extract,hlt])
 | call c =>
   obtain ⟨callee,args,argTypes⟩:=c
   cases callee with
   | value f=>simp [oK,hop] at h
   | invoke r m=>simp [oK,hop] at h
   | builtin b =>
     cases b<;>simp only [oK,hop] at h<;>try (cases h;done)
     case append =>
      split at h
      case h_2=>cases h
      rename_i t1 t2 s x hat har
      split at h
      case isFalse=>cases h
      rename_i htt
      have htt:t1=t2:=by simpa using htt
      subst htt
      obtain ⟨u,w',E',hrun,hr,hc,hev⟩:=Gt (ty:=o.type) hC hd (aM hT s) (aM hT x) h ho
      have hargs:args=#[s,x]:=by apply Array.ext';simpa using har
      have htys:argTypes=#[t1,t1]:=by apply Array.ext';simpa using hat
      subst hargs;subst htys
      exact vR (by simp [execOp,hop,resolve,invoke,builtin,hrun]) hr hc hev
     case len =>
      split at h
      case h_2=>cases h
      rename_i ty x hat har
      have hargs:args=#[x]:=by apply Array.ext';simpa using har
      have htys:argTypes=#[ty]:=by apply Array.ext';simpa using hat
      subst hargs;subst htys
      obtain ⟨hp,u,hrun,hr⟩:=adk (P:=P) (ty:=o.type) (w:=w) (aM hT x) h
      exact cO hC hp hr (by simp [execOp,hop,resolve,invoke,builtin,hrun])
     case max =>
      obtain ⟨hp,u,hrun,hr⟩:=CB (P:=P) (w:=w) (isMax:=true) (ts:=argTypes) (ty:=o.type) (vs:=args.map a.eval) (by simpa using mZ hT args.toList) h
      exact cO hC hp hr (by simp at hrun;simp [execOp,hop,resolve,invoke,builtin,hrun])
     case min =>
      obtain ⟨hp,u,hrun,hr⟩:=CB (P:=P) (w:=w) (isMax:=false) (ts:=argTypes) (ty:=o.type) (vs:=args.map a.eval) (by simpa using mZ hT args.toList) h
      exact cO hC hp hr (by simp at hrun;simp [execOp,hop,resolve,invoke,builtin,hrun])
 | _=>simp [oK,hop] at h
end Go.Ax
