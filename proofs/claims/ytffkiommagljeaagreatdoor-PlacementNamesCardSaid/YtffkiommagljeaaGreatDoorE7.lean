import Derived.Test.YtffkiommagljeaaGreatDoorE6
set_option linter.unusedVariables false
set_option linter.unusedSimpArgs false
set_option linter.unusedSectionVars false
namespace Go.Ax
open Go
variable [Inhabited Gl0]
def PR (H:HH) (E:Env):List (Nat×AV)->List (Nat×Value)->Prop
 | [],vs=>vs=[]
 | (i,a)::r,vs=>∃ v q,vs=(i,v)::q/\Rel a H E v/\PR H E r q
theorem pr_ev {t:Nat->AV} {a:Act} {H:HH} {E:Env} (hT:RelT t H E a):∀ (l:List (Nat×Operand)),PR H E (l.map fun p=>(p.1,ev t p.2)) (l.map fun p=>(p.1,a.eval p.2))
 | []=>rfl
 | (_,x)::l=>⟨_,_,rfl,rel_ev hT x,pr_ev hT l⟩
theorem foldl_set (off:Nat):∀ (vs:List Value) (k:Nat) (cells:Array Value),off+k+vs.length<=cells.size ->
 ((vs.zipIdx k).foldl (fun (cs:Array Value) (p:Value×Nat)=>cs.setIfInBounds (off+p.2) p.1) cells).toList=splice cells.toList vs (off+k)
 | [],k,cells,_=>by unfold splice;simp
 | v::vs,k,cells,h=>by
   simp at h
   simp only [List.zipIdx_cons,List.foldl_cons]
   rw [foldl_set off vs (k+1) (cells.setIfInBounds (off+k) v) (by simp;omega)]
   apply List.ext_getElem?
   intro j
   unfold splice
   rw [splice_get _ _ _ (by simp;omega),splice_get _ _ _ (by simp;omega)]
   simp only [Array.toList_setIfInBounds,List.length_cons]
   by_cases h1:off+k=j
   · subst h1
     rw [if_neg (by omega),if_pos (by omega)]
     have hlt:off+k<cells.toList.length:=by simp;omega
     rw [List.getElem?_set_self hlt]
     simp
   · by_cases h2:off+(k+1)<=j/\j<off+(k+1)+vs.length
     · rw [if_pos h2,if_pos (by omega)]
       obtain ⟨m,rfl⟩:∃ m,j=off+(k+1)+m:=⟨j - (off+(k+1)),by omega⟩
       have e1:off+(k+1)+m - (off+(k+1))=m:=by omega
       have e2:off+(k+1)+m - (off+k)=m+1:=by omega
       rw [e1,e2];rfl
     · rw [if_neg h2,if_neg (by omega),List.getElem?_set_ne (by omega)]
theorem fill_step (off:Nat) (v:Value) (cells:Array Value) (h:off+v.cells.size<=cells.size) :
 (v.cells.zipIdx.foldl (fun (cs:Array Value) (p:Value×Nat)=>cs.setIfInBounds (off+p.2) p.1) cells).toList=splice cells.toList v.cells.toList off:=by
 rw [<- Array.foldl_toList,Array.toList_zipIdx]
 simpa using foldl_set off v.cells.toList 0 cells (by simpa using h)
theorem relL_splice {H:HH} {E:Env} {cs l:List AV} {cv vs:List Value} {o:Nat} (hc:RelL cs H E cv) (hl:RelL l H E vs) (h:o+l.length<=cs.length):RelL (setL cs o l) H E (splice cv vs o):=by
 have h1:=RelL.length hc
 have h2:=RelL.length hl
 refine relL_mk (by unfold splice;rw [splice_len _ _ _ (by omega),length_setL];exact h1) fun j u hu=>?_
 unfold splice at hu
 rw [splice_get _ _ _ (by omega)] at hu
 rw [get_setL _ _ _ _ h]
 by_cases hj:o<=j/\j<o+l.length
 · rw [if_pos (by omega)] at hu
   rw [if_pos hj]
   exact relL_get hl _ _ hu
 · rw [if_neg (by omega)] at hu
   rw [if_neg hj]
   exact relL_get hc _ _ hu
theorem fill_ok {H:HH} {E:Env} {place place':Nat->Option (Nat×Nat)} (hpl:∀ i p,place i=some p->place' i=some p):∀ {pa:List (Nat×AV)} {pv:List (Nat×Value)} {cs l:List AV} {cv:Array Value},
 PR H E pa pv->RelL cs H E cv.toList->ones cv.toList->fillA place cs pa=some l->∃ cv',Instr.fill place' cv pv=some cv'/\RelL l H E cv'.toList/\ones cv'.toList
 | [],pv,cs,l,cv,hp,hc,h1,h=>by
   simp [PR] at hp;subst hp
   simp [fillA] at h;subst h
   exact ⟨cv,rfl,hc,h1⟩
 | (i,a)::r,pv,cs,l,cv,hp,hc,h1,h=>by
   obtain ⟨v,q,rfl,hr,hq⟩:=hp
   simp only [fillA] at h
   split at h
   case h_2=>cases h
   rename_i off size l' hpi hcl
   split at h
   case isFalse=>cases h
   rename_i hle
   simp only [Bool.and_eq_true,beq_iff_eq,Nat.ble_eq,len_eq] at hle
   obtain ⟨rfl,hle⟩:=hle
   obtain ⟨hrl,hones,_⟩:=cellsOf_ok hcl hr
   have hsz:=RelL.length hrl
   have hcs:=RelL.length hc
   simp at hsz hcs
   have hfs:=fill_step off v cv (by omega)
   obtain ⟨cv',h3,h4,h5⟩:=fill_ok hpl (cv:=v.cells.zipIdx.foldl (fun (cs:Array Value) (p:Value×Nat)=>cs.setIfInBounds (off+p.2) p.1) cv) hq (by rw [hfs];exact relL_splice hc hrl hle) (by rw [hfs];exact splice_ones h1 hones) h
   refine ⟨cv',?_,h4,h5⟩
   simp only [Instr.fill,hpl i _ hpi]
   rw [if_neg (by simp;omega)]
   exact h3
theorem zeroL_ok {P:Program} {t:TypeId} {l:List AV} (H:HH) (E:Env) (h:zeroL P t=some l):∃ i z,P.info? t=some i/\i.zero=some z/\RelL l H E z.cells.toList/\ones z.cells.toList:=by
 unfold zeroL at h
 split at h
 case h_2=>cases h
 rename_i i hi
 split at h
 case h_2=>cases h
 rename_i z hz
 obtain ⟨h1,h2,_⟩:=cellsOf_ok h (rel_toAV z H E)
 exact ⟨i,z,hi,hz,h1,h2⟩
theorem placesF_ok {P:Program}:∀ {fs:List Field} {pl:List (Nat×Nat)},placesF P fs=some pl->fs.mapM (fun f=>(P.info? f.type).map fun i=>(f.offset,i.size))=some pl
 | [],pl,h=>by simp [placesF] at h;subst h;rfl
 | f::r,pl,h=>by
   simp only [placesF] at h
   split at h
   case h_2=>cases h
   rename_i n l hn hl
   cases h
   obtain ⟨i,hi,rfl⟩:=und_of_size hn
   simp [List.mapM_cons,hi,placesF_ok hl]
theorem build_ok {P:Program} {H:HH} {E:Env} {w:World} {t:TypeId} {pa:List (Nat×AV)} {pv:Array (Nat×Value)} {e:Eff} (hp:PR H E pa pv.toList) (h:aBuild P t pa=some e) :
 Plain e/\∃ u,(Instr.build t pv).run P w=.ok u w/\Rel e.r H E u:=by
 unfold aBuild at h
 split at h
 · rename_i fs z hu hz
   split at h
   case h_2=>cases h
   rename_i pl hpl
   split at h
   case h_2=>cases h
   rename_i l hf
   obtain ⟨hpn,hr,_⟩:=plain_pur h
   obtain ⟨i,zv,hi,hz',hrz,h1⟩:=zeroL_ok H E hz
   obtain ⟨cv',h3,h4,_⟩:=fill_ok (place':=fun i=>pl.toArray[i]?) (fun i p hip=>by simpa using hip) hp hrz h1 hf
   refine ⟨hpn,.agg cv',run_build w t pv cv' ?_,by rw [hr];exact ⟨_,rfl,h4⟩⟩
   simp [Program.built,hi,hu,hz',placesF_ok hpl]
   simpa using h3
 · rename_i n el z hu hz
   split at h
   case h_2=>cases h
   rename_i m hm
   split at h
   case h_2=>cases h
   rename_i l hf
   obtain ⟨hpn,hr,_⟩:=plain_pur h
   obtain ⟨i,zv,hi,hz',hrz,h1⟩:=zeroL_ok H E hz
   obtain ⟨ie,hie,rfl⟩:=und_of_size hm
   obtain ⟨cv',h3,h4,_⟩:=fill_ok (place':=fun i=>some (i*ie.size,ie.size)) (fun i p hip=>hip) hp hrz h1 hf
   refine ⟨hpn,.agg cv',run_build w t pv cv' ?_,by rw [hr];exact ⟨_,rfl,h4⟩⟩
   simp [Program.built,hi,hu,hz',hie]
   exact h3
 · cases h
theorem relL_append {H:HH} {E:Env}:∀ {a b:List AV} {x y:List Value},RelL a H E x->RelL b H E y->RelL (a++b) H E (x++y)
 | [],_,_,_,h,k=>by simp [RelL] at h;subst h;exact k
 | _::_,_,_,_,h,k=>by
   obtain ⟨v,r,rfl,h1,h2⟩:=h
   exact ⟨v,r++_,rfl,h1,relL_append h2 k⟩
theorem rep_ok {H:HH} {E:Env} {z:List AV} {zv:Array Value} {sz:Nat} (hz:RelL z H E zv.toList) (hs:zv.size=sz) (h0:1<=sz):∀ n,RelL (rep z n) H E ((Array.range (n*sz)).map (zv[· % zv.size]!)).toList
 | 0=>by simp [rep,RelL]
 | n+1=>by
   have ih:=rep_ok hz hs h0 n
   have e:((Array.range ((n+1)*sz)).map (zv[· % zv.size]!)).toList=zv.toList++((Array.range (n*sz)).map (zv[· % zv.size]!)).toList:=by
    apply List.ext_getElem?
    intro j
    rw [List.getElem?_append]
    simp only [Array.toList_map,Array.toList_range,List.getElem?_map,Array.length_toList]
    by_cases hj:j<zv.size
    · rw [if_pos hj]
      have:j<(n+1)*sz:=by rw [Nat.add_mul];omega
      rw [List.getElem?_range this]
      simp [Nat.mod_eq_of_lt hj,hj]
    · rw [if_neg hj]
      by_cases hj2:j<(n+1)*sz
      · rw [List.getElem?_range hj2,List.getElem?_range (by rw [Nat.add_mul] at hj2;omega)]
        simp only [Option.map_some]
        congr 2
        rw [<- Nat.mod_eq_sub_mod (by omega)]
      · rw [List.getElem?_eq_none (by simpa using hj2),List.getElem?_eq_none (by rw [Nat.add_mul] at hj2;simp;omega)]
   rw [e]
   exact relL_append hz ih
theorem ones_rep {zv:Array Value} (h:ones zv.toList) (h0:0<zv.size) (m:Nat):ones ((Array.range m).map (zv[· % zv.size]!)).toList:=by
 intro x hx
 simp only [Array.toList_map,Array.toList_range,List.mem_map] at hx
 obtain ⟨i,_,rfl⟩:=hx
 have:i % zv.size<zv.size:=Nat.mod_lt _ h0
 apply h
 simp [this]
theorem buildSlice_good {P:Program} {H:HH} {E:Env} {w:World} {M:List Blk} {nid n:Nat} {t:TypeId} {pa:List (Nat×AV)} {pv:Array (Nat×Value)} {e:Eff} (hC:Conc H E w M) (hd:getM M nid=.dead)
 (hp:PR H E pa pv.toList) (h:aBuildSlice P nid t n pa=some e) :
 ∃ u w' E',(Instr.buildSlice t n pv).run P w=.ok u w'/\Rel e.r H E' u/\Conc H E' w' (killM e.kl (applyW e.wr M))/\Evol e.kl H E w H E' w':=by
 unfold aBuildSlice at h
 split at h
 case h_2=>cases h
 rename_i el hu
 split at h
 case h_2=>cases h
 rename_i sz z hsz hz
 split at h
 case isFalse=>cases h
 rename_i hb
 simp only [Bool.and_eq_true,beq_iff_eq,Nat.ble_eq,len_eq] at hb
 obtain ⟨⟨hzl,h1⟩,hlim⟩:=hb
 split at h
 case h_2=>cases h
 rename_i l hf
 cases h
 obtain ⟨i,zv,hi,hz',hrz,hoz⟩:=zeroL_ok H E hz
 have hzs:zv.cells.size=sz:=by have:=RelL.length hrz;simp at this;omega
 have hrep:=rep_ok hrz hzs h1 n
 have hor:=ones_rep hoz (by omega) (n*sz)
 obtain ⟨cv',h3,h4,h5⟩:=fill_ok (place':=fun i=>some (i*sz,sz)) (fun i p hip=>hip) hp hrep hor hf
 have hszc:cv'.size=n*sz:=by
  have e1:=RelL.length h4
  have:l.length=(rep z n).length:=by
   have:∀ (pa:List (Nat×AV)) (cs l:List AV) (pl:Nat->Option (Nat×Nat)),fillA pl cs pa=some l->l.length=cs.length:=by
    intro pa
    induction pa with
    | nil=>intro cs l pl h;simp [fillA] at h;rw [h]
    | cons p r ih =>
      intro cs l pl h
      obtain ⟨i,a⟩:=p
      simp only [fillA] at h
      split at h
      case h_2=>cases h
      split at h
      case isFalse=>cases h
      rw [ih _ _ _ h,length_setL]
   exact this _ _ _ _ hf
  have e2:=RelL.length hrep
  simp at e1 e2
  omega
 have hrun:(Instr.buildSlice t n pv).run P w=.ok (.slice (some ⟨w.heap.size,0,none⟩) n n) (w.alloc (.cells cv' el)):=by
  have hne:¬ n*sz > 2 ^ 24:=by omega
  by_cases hn0:n*sz=0
  · have hn:n=0:=by rcases Nat.mul_eq_zero.1 hn0 with h | h<;>omega
    subst hn
    have h3':Instr.fill (fun i=>some (i*sz,sz)) #[] pv.toList=some cv':=by simpa [Array.range_zero'] using h3
    simp [Instr.buildSlice,run_underlying hu,run_sizeOf' w hsz,Array.range_zero',h3',newRow]
  · simp [Instr.buildSlice,run_underlying hu,run_sizeOf' w hsz,hne,hn0,zeroValue,typeInfo,hi,hz',h3,newRow]
 obtain ⟨e1,e2,e3,e4⟩:=E.set_same nid (some w.heap.size) n n
 have hconc:=alloc_conc (κ:=n) (η:=n) (B:=.lst el sz n (some n) l) hC hd cv' el
  ⟨e1,by rw [e3,e4];exact ⟨rfl,Nat.le_refl _⟩,by rw [e3];have:n*1<=n*sz:=Nat.mul_le_mul_left _ h1;unfold maxLen;omega,fun q hq=>by cases hq;exact e3,by
   rw [e2]
   refine ⟨cv',heap_alloc_new w _,fun x hx=>h5 x (List.mem_of_mem_take hx),by rw [e3];exact hszc,?_⟩
   rw [List.take_of_length_le (by simp;omega)]
   exact RelL.env (set_via hC hd) h4⟩
 exact ⟨_,_,_,hrun,⟨e1,by rw [e3,e4];omega,by rw [e2];exact ⟨some ⟨w.heap.size,0,none⟩,by rw [e3];simp,by simp⟩⟩,hconc.1,hconc.2⟩
end Go.Ax
