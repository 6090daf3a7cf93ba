import Derived.Test.YtffkiommagljeaaGreatDoorE11
set_option linter.unusedVariables false
set_option linter.unusedSimpArgs false
set_option linter.unusedSectionVars false
namespace Go.Ax
open Go
variable [Inhabited Gl0]
def resA (P:Program) (st:St):List ResultVar->Option (List AV)
 | []=>some []
 | .tmp t::r=>(match resA P st r with | some l=>some (get st.t t::l) | none=>none)
 | .cell a ty::r=>(match P.underlying ty,get st.t a with
   | some _,.ptr i k sz o=>(match aLoad P none (getM st.m) ty (.ptr i k sz o),resA P st r with
     | some e,some l=>(match e.ob with | []=>some (e.r::l) | _=>none)
     | _,_=>none)
   | _,_=>none)
def resV:List AV->AV
 | [a]=>a
 | l=>.tup l
def resF (tmps:Array Value):ResultVar->Sem Value
 | .tmp t=>pure (tmps.getD t undef)
 | .cell a t=>do loadVar t (<- asAddr (tmps.getD a undef))
theorem resA_ok {P:Program} {H:HH} {E:Env} {w:World} {st:St} {tmps:Array Value} (hC:Conc H E w st.m) (hT:RelL st.t H E tmps.toList):∀ {rv:List ResultVar} {l:List AV},resA P st rv=some l ->
 ∃ vs:List Value,(rv.mapM (resF tmps)).run P w=.ok vs w/\RelL l H E vs
 | [],l,h=>by simp [resA] at h;subst h;exact ⟨[],rfl,rfl⟩
 | .tmp t::r,l,h=>by
   simp only [resA] at h
   split at h
   case h_2=>cases h
   rename_i l' hl
   cases h
   obtain ⟨vs,h1,h2⟩:=resA_ok hC hT hl
   refine ⟨tmps.getD t undef::vs,?_,_,_,rfl,rel_getD hT t,h2⟩
   rw [List.mapM_cons]
   simp only [resF,Sem.run_bind,Sem.run_pure,Result.andThen_ok,h1]
 | .cell a ty::r,l,h=>by
   simp only [resA] at h
   split at h
   case h_2=>cases h
   rename_i d i k sz o hu hg
   split at h
   case h_2=>cases h
   rename_i e l' he hl
   split at h
   case h_2=>cases h
   rename_i hob
   cases h
   obtain ⟨vs,h1,h2⟩:=resA_ok hC hT hl
   have hr:=rel_getD hT a
   rw [hg] at hr
   obtain ⟨_,u,hrun,hru⟩:=load_ok (P:=P) hC hr ⟨d,hu⟩ he (by rw [hob];exact all_nil)
   obtain ⟨hlv,b,hb,hv⟩:=hr
   refine ⟨u::vs,?_,_,_,rfl,hru,h2⟩
   rw [hv] at hrun
   simp only [Instr.loadAt,Instr.sureAddr,Sem.run_bind,Sem.run_pure,Result.andThen_ok] at hrun
   rw [List.mapM_cons]
   simp only [resF,hv,asAddr,Sem.run_bind,Sem.run_pure,Result.andThen_ok,hrun,h1]
theorem results_ok {P:Program} {H:HH} {E:Env} {w:World} {st:St} {fn:Func} {tmps:Array Value} {l:List AV} (hC:Conc H E w st.m) (hT:RelL st.t H E tmps.toList) (h:resA P st fn.results.toList=some l) :
 ∃ v,(results fn tmps).run P w=.ok v w/\Rel (resV l) H E v:=by
 obtain ⟨vs,h1,h2⟩:=resA_ok hC hT h
 refine ⟨if h:vs.toArray.size=1 then vs.toArray[0] else .tuple vs.toArray,?_,?_⟩
 · have e:results fn tmps=(do let vs <- fn.results.mapM (resF tmps);pure (if h:vs.size=1 then vs[0] else .tuple vs)):=by
    unfold results
    congr 1
   rw [e]
   simp only [Array.mapM_eq_mapM_toList,Sem.run_bind,Sem.run_map,h1,Result.andThen_ok,Sem.run_pure]
 · have hl:=RelL.length h2
   match l,vs,h2,hl with
   | [a],[v],h2,_ =>
     obtain ⟨v',r,hv,h3,_⟩:=h2
     cases hv
     simpa [resV] using h3
   | [],[],h2,_=>exact ⟨#[],rfl,h2⟩
   | a::b::c,u::v::z,h2,_ =>
     refine ⟨(u::v::z).toArray,?_,by simpa using h2⟩
     rw [dif_neg (by simp)]
def initT (n:Nat) (args:List AV):List AV:=args++List.replicate (n - args.length) .junk
theorem relL_junk (H:HH) (E:Env) (v:Value):∀ n,RelL (List.replicate n .junk) H E (List.replicate n v)
 | 0=>rfl
 | n+1=>by rw [List.replicate_succ,List.replicate_succ];exact ⟨_,_,rfl,trivial,relL_junk H E v n⟩
theorem ACall.of_code {P:Program} {f:FuncId} {fn:Func} {c:Code} {args:List AV} {M:List Blk} {x:Exit} {st':St} {l:List AV} (hf:P.funcs[f]? = some fn) (hb:fn.body=some c) (hx:x=.ret∨x=.normal)
 (h:ACode P c ⟨initT fn.ntmps args,M,[]⟩ x st') (hr:resA P st' fn.results.toList=some l):ACall P f args M (resV l) st'.m st'.mv:=by
 intro H E w vals hC hargs
 refine calls_of_wp hf hb (wp_mono (h.2 H E w _ hC ?_ rfl) ?_)
 · have hl:=RelL.length hargs
   simp only [initT,Array.toList_append,Array.toList_replicate]
   have e:vals.size=args.length:=by simpa using hl
   rw [e]
   exact relL_append hargs (relL_junk H E _ _)
 · rintro x' a' w' ⟨H',E',rfl,hd',hT',hC',hE'⟩
   obtain ⟨v,hrun,hrv⟩:=results_ok hC' hT' hr
   rcases hx with rfl | rfl
   · exact ⟨hd',v,hrun,v,H',E',rfl,hrv,hC',hE'⟩
   · exact ⟨hd',v,hrun,v,H',E',rfl,hrv,hC',hE'⟩
mutual
def viewG (g:AV->AV):AV->AV
 | .ptr i k sz o=>g (.ptr i k sz o)
 | .own i sz lo n=>g (.own i sz lo n)
 | .mref _=>.junk
 | .sl b sz n c=>.sl b sz n c
 | .ys b sz n c=>.ys b sz n c
 | .yn b sz n c=>.yn b sz n c
 | .ip b m c=>.ip b m c
 | .opt b t a=>.opt b t a
 | .agg cs=>.agg (viewGL g cs)
 | .tup cs=>.tup (viewGL g cs)
 | .fn f a b=>.fn f (viewGL g a) (viewGL g b)
 | .ifc t a=>.ifc t (viewG g a)
 | .s v=>.s v
 | .y v=>.y v
 | .junk=>.junk
def viewGL (g:AV->AV):List AV->List AV
 | []=>[]
 | a::as=>viewG g a::viewGL g as
end
def mapA (v:AV->AV):List AV->List AV
 | []=>[]
 | a::r=>v a::mapA v r
theorem get_mapA {v:AV->AV} (hv:v .junk=.junk):∀ (l:List AV) (i:Nat),get (mapA v l) i=v (get l i)
 | [],i=>by cases i<;>exact hv.symm
 | a::r,0=>rfl
 | a::r,i+1=>get_mapA hv r i
def rowAt (lo:Nat) (c:Nat->Nat->AV):Nat->Nat->AV:=match lo with
 | 0=>c
 | m+1=>fun k j=>c (m+1+k) j
theorem rowAt_eq (lo:Nat) (c:Nat->Nat->AV) (k j:Nat):rowAt lo c k j=c (lo+k) j:=by
 cases lo with
 | zero=>simp [rowAt]
 | succ m=>rfl
mutual
def trV:Tr->AV
 | .av a=>a
 | .box _ _ cs=>.ip false (len cs) (get (trVL cs))
 | .row _ sz n c=>.ys false sz n fun k j=>trV (c k j)
 | .frow _ sz n c=>.ys false sz n c
def trVL:List Tr->List AV
 | []=>[]
 | t::ts=>trV t::trVL ts
end
def ownV (v:AV->AV) (B:Blk) (sz lo n:Nat):AV :=
 match B with
 | .lst _ s2 q _ cs=>if s2==sz then (if Nat.beq n 0&&Nat.blt 0 q then .yn false sz n fun _ _=>.junk else .sl false sz n (fun k j=>get (mapA v cs) ((lo+k)*sz+j))) else .junk
 | .row _ s2 _ _ c=>if s2==sz then .ys false sz n (rowAt lo c) else .junk
 | .trow _ s2 _ _ c op _=>(match op with | []=>if s2==sz then .ys false sz n (rowAt lo fun k j=>trV (c k j)) else .junk | _::_=>.junk)
 | _=>.junk
def ptrV (v:AV->AV) (B:Blk) (k sz o:Nat):AV :=
 match B with
 | .box _ cs=>(match k with
   | 0=>if Nat.ble o (len cs) then .ip false (len cs - o) (fun j=>get (mapA v cs) (o+j)) else .junk
   | _+1=>.junk)
 | .lst _ s2 _ _ cs=>if s2==sz&&Nat.ble (k*sz+o) (len cs) then .ip false (len cs - (k*sz+o)) (fun j=>get (mapA v cs) (k*sz+o+j)) else .junk
 | _=>.junk
def refV (v:AV->AV) (rd:Nat->Blk):AV->AV
 | .own i sz lo n=>ownV v (rd i) sz lo n
 | .ptr i k sz o=>ptrV v (rd i) k sz o
 | _=>.junk
def viewN:Nat->(Nat->Blk)->AV->AV
 | 0,_=>viewG fun _=>.junk
 | n+1,rd=>viewG (refV (viewN n rd) rd)
def viewL (n:Nat) (rd:Nat->Blk):List AV->List AV
 | []=>[]
 | a::as=>viewN n rd a::viewL n rd as
def heapI (w:World):IH:=fun b=>w.heap[b]?
def GlOk (w:World):Prop:=∀ p∈(default:Gl0).hs,scalar p.2.2=true/\(heapI w).cell? ⟨p.1,0,none⟩=some (.iface p.2.1 (.agg #[p.2.2]))
def HB (H:HH) (w:World):HH:=fun b=>if b then H true else heapI w
theorem HB_le {H:HH} {w:World} (hi:∀ b o,H false b=some o->w.heap[b]? = some o):H.le (HB H w):=fun c b o h=>by
 cases c
 · exact hi b o h
 · exact h
theorem HB_tf {H:HH} {w:World} (hi:∀ b o,H false b=some o->w.heap[b]? = some o) (ht:(H true).le (H false)):(HB H w true).le (HB H w false):=fun b o h=>hi b o (ht b o h)
theorem heapI_cell {w:World} {a:Addr} {v:Value} (h:w.cell? a=some v):(heapI w).cell? a=some v:=by
 unfold World.cell? at h
 unfold IH.cell? heapI
 cases hb:w.heap[a.block]? with
 | none=>simp [hb] at h
 | some o=>rw [hb] at h;cases o<;>first | exact h | simp at h
mutual
theorem viewG_ok:∀ (a:AV) {g:AV->AV} {H:HH} {E:Env} {w:World} {v:Value},(∀ b o,H false b=some o->w.heap[b]? = some o)->(H true).le (H false) ->
 (∀ i k sz o u,Rel (.ptr i k sz o) H E u->Rel (g (.ptr i k sz o)) (HB H w) E0 u)->(∀ i sz lo n u,Rel (.own i sz lo n) H E u->Rel (g (.own i sz lo n)) (HB H w) E0 u)->Rel a H E v->Rel (viewG g a) (HB H w) E0 v
 | .s _,_,_,_,_,_,_,_,_,_,h=>h
 | .y _,_,_,_,_,_,_,_,_,_,h=>h
 | .junk,_,_,_,_,_,_,_,_,_,_=>trivial
 | .ptr i k sz o,_,_,_,_,_,_,_,h1,_,h=>h1 i k sz o _ h
 | .own i sz lo n,_,_,_,_,_,_,_,_,h2,h=>h2 i sz lo n _ h
 | .mref _,_,_,_,_,_,_,_,_,_,_=>trivial
 | .sl b sz n c,_,_,_,_,_,hi,_,_,_,h=>Rel.mono (.sl b sz n c) (HB_le hi) h
 | .ys b sz n c,_,_,_,_,_,hi,_,_,_,h=>Rel.mono (.ys b sz n c) (HB_le hi) h
 | .yn b sz n c,_,_,_,_,_,hi,_,_,_,h=>Rel.mono (.yn b sz n c) (HB_le hi) h
 | .ip b m c,_,_,_,_,_,hi,_,_,_,h=>Rel.mono (.ip b m c) (HB_le hi) h
 | .opt b t a,_,_,_,_,_,hi,_,_,_,h=>Rel.mono (.opt b t a) (HB_le hi) h
 | .agg cs,_,_,_,_,_,hi,ht,h1,h2,h=>by
   obtain ⟨vs,hu,hr⟩:=h
   exact ⟨vs,hu,viewGL_ok cs hi ht h1 h2 hr⟩
 | .tup cs,_,_,_,_,_,hi,ht,h1,h2,h=>by
   obtain ⟨vs,hu,hr⟩:=h
   exact ⟨vs,hu,viewGL_ok cs hi ht h1 h2 hr⟩
 | .fn f a b,_,_,_,_,_,hi,ht,h1,h2,h=>by
   obtain ⟨x,y,hu,h3,h4⟩:=h
   exact ⟨x,y,hu,viewGL_ok a hi ht h1 h2 h3,viewGL_ok b hi ht h1 h2 h4⟩
 | .ifc t a,_,_,_,_,_,hi,ht,h1,h2,h=>by
   obtain ⟨x,hu,h3⟩:=h
   exact ⟨x,hu,viewG_ok a hi ht h1 h2 h3⟩
theorem viewGL_ok:∀ (l:List AV) {g:AV->AV} {H:HH} {E:Env} {w:World} {vs:List Value},(∀ b o,H false b=some o->w.heap[b]? = some o)->(H true).le (H false) ->
 (∀ i k sz o u,Rel (.ptr i k sz o) H E u->Rel (g (.ptr i k sz o)) (HB H w) E0 u)->(∀ i sz lo n u,Rel (.own i sz lo n) H E u->Rel (g (.own i sz lo n)) (HB H w) E0 u)->RelL l H E vs->RelL (viewGL g l) (HB H w) E0 vs
 | [],_,_,_,_,_,_,_,_,_,h=>h
 | a::as,_,_,_,_,_,hi,ht,h1,h2,h=>by
   obtain ⟨v,r,hv,h3,h4⟩:=h
   exact ⟨v,r,hv,viewG_ok a hi ht h1 h2 h3,viewGL_ok as hi ht h1 h2 h4⟩
end
mutual
theorem trV_ok {H:HH} {w:World} (hi:∀ b o,H false b=some o->w.heap[b]? = some o):∀ (t:Tr) {v:Value} {S:Nat->Prop},TrOk H (fun b=>w.heap[b]?) t v S->Rel (trV t) (HB H w) E0 v
 | .av a,_,_,h=>Rel.mono a (HB_le hi) h
 | .box ty sz cs,_,_,h=>by
   obtain ⟨b,vs,rfl,h2,h3,h4,h5⟩:=h
   have h6:=trVL_ok hi cs h5
   have hlen:=RelL.length h6
   have hll:(trVL cs).length=len cs:=by rw [<- trVL_len cs,len_eq]
   refine ⟨_,rfl,fun j hj=>?_⟩
   have hlt:j<vs.toList.length:=by omega
   refine ⟨vs.toList[j],?_,h4 _ (List.getElem_mem hlt),relL_get h6 _ _ (List.getElem?_eq_getElem hlt)⟩
   rw [addr_add]
   refine heapI_cell ?_
   rw [cell_of_row w b _ vs ty (0,0) h3]
   simp at hlt ⊢
 | .row ty sz n c,_,_,h=>by
   obtain ⟨κ,h1,h2,⟨rfl,rfl,rfl⟩ | ⟨b,vs,rfl,h4,h5,h6,h7,F,h8,h9,h10⟩⟩:=h
   · exact ⟨none,0,rfl,⟨Nat.le_refl _,fun _=>rfl⟩,fun h=>by omega⟩
   · refine ⟨_,_,rfl,⟨h1,fun h=>by cases h⟩,fun _=>⟨_,rfl,fun k hk j hj=>?_⟩⟩
     obtain ⟨x,g1,g2⟩:=h10 k hk j hj
     refine ⟨x,?_,h6 x ?_,trV_ok hi (c k j) g2⟩
     · rw [addr_add]
       refine heapI_cell ?_
       rw [cell_of_row w b _ vs ty (0,0) h5]
       simpa using g1
     · have hle:(k+1)*sz<=n*sz:=Nat.mul_le_mul_right _ hk
       rw [Nat.add_mul,Nat.one_mul] at hle
       exact List.mem_iff_getElem?.2 ⟨k*sz+j,by rw [List.getElem?_take,if_pos (by omega)];simpa using g1⟩
 | .frow ty sz n c,_,_,h=>by
   obtain ⟨κ,h1,h2,⟨rfl,rfl,rfl⟩ | ⟨b,vs,rfl,h4,h5,h6,h7,h10⟩⟩:=h
   · exact ⟨none,0,rfl,⟨Nat.le_refl _,fun _=>rfl⟩,fun h=>by omega⟩
   · refine ⟨_,_,rfl,⟨h1,fun h=>by cases h⟩,fun _=>⟨_,rfl,fun k hk j hj=>?_⟩⟩
     obtain ⟨x,g1,g2⟩:=h10 k hk j hj
     refine ⟨x,?_,h6 x ?_,Rel.mono _ (HB_le hi) g2⟩
     · rw [addr_add]
       refine heapI_cell ?_
       rw [cell_of_row w b _ vs ty (0,0) h5]
       simpa using g1
     · have hle:(k+1)*sz<=n*sz:=Nat.mul_le_mul_right _ hk
       rw [Nat.add_mul,Nat.one_mul] at hle
       exact List.mem_iff_getElem?.2 ⟨k*sz+j,by rw [List.getElem?_take,if_pos (by omega)];simpa using g1⟩
theorem trVL_ok {H:HH} {w:World} (hi:∀ b o,H false b=some o->w.heap[b]? = some o):∀ (l:List Tr) {vs:List Value} {S:Nat->Prop},TrOkL H (fun b=>w.heap[b]?) l vs S->RelL (trVL l) (HB H w) E0 vs
 | [],_,_,h=>h
 | t::ts,_,_,h=>by
   obtain ⟨v,r,S1,S2,rfl,_,_,_,h5,h6⟩:=h
   exact ⟨v,r,rfl,trV_ok hi t h5,trVL_ok hi ts h6⟩
theorem trVL_len:∀ l:List Tr,len (trVL l)=len l
 | []=>rfl
 | _::ts=>by simp [trVL,len,trVL_len ts]
end
theorem viewN_junk (n:Nat) (rd:Nat->Blk):viewN n rd .junk=.junk:=by cases n<;>rfl
theorem view_ok {H:HH} {E:Env} {w:World} {M:List Blk} {rd:Nat->Blk} (hC:Conc H E w M) (hrd:∀ i,rd i=.dead∨rd i=getM M i):∀ (n:Nat) {a:AV} {v:Value},Rel a H E v->Rel (viewN n rd a) (HB H w) E0 v
 | 0,a,v,h=>viewG_ok a hC.imm hC.tf.1 (fun _ _ _ _ _ _=>trivial) (fun _ _ _ _ _ _=>trivial) h
 | n+1,a,v,h=>by
   refine viewG_ok a hC.imm hC.tf.1 (fun i k sz o u hu=>?_) (fun i sz lo m u hu=>?_) h
   · obtain ⟨hl,b,hb,rfl⟩:=hu
     have hB:rd i≠.dead->BlkOk H E w i (rd i):=fun hne=>by
      rcases hrd i with h | h
      · exact absurd h hne
      · rw [h];exact hC.blk i
     show Rel (ptrV (viewN n rd) (rd i) k sz o) _ _ _
     unfold ptrV
     split
     · rename_i ty cs hg
       cases k with
       | succ k=>trivial
       | zero=>?_
       show Rel (if Nat.ble o (len cs) then _ else _) _ _ _
       split
       · rename_i hle
         rw [hg] at hB
         have hB:=hB (by simp)
         obtain ⟨_,b',vs,h1,h2,h3,h4⟩:=hB
         rw [hb] at h1;cases h1
         have hlen:=RelL.length h4
         refine ⟨_,rfl,fun j hj=>?_⟩
         rw [len_eq] at hj
         simp only [len_eq,Nat.ble_eq] at hle
         have hlt:o+j<vs.toList.length:=by omega
         refine ⟨vs.toList[o+j],?_,h3 _ (List.getElem_mem hlt),by simp only [get_mapA (viewN_junk n rd)];exact view_ok hC hrd n (relL_get h4 _ _ (List.getElem?_eq_getElem hlt))⟩
         rw [Nat.zero_mul,Nat.zero_add,addr_add]
         refine heapI_cell ?_
         rw [cell_of_row w b _ vs ty (0,0) h2]
         simp at hlt ⊢
       · trivial
     · rename_i ty s2 m cap cs hg
       split
       · rename_i hle
         simp only [Bool.and_eq_true,beq_iff_eq,Nat.ble_eq,len_eq] at hle
         obtain ⟨rfl,hle⟩:=hle
         rw [hg] at hB
         have hB:=hB (by simp)
         obtain ⟨_,h0,_,_,h1⟩:=hB
         rw [hb] at h1
         obtain ⟨vs,h2,h3,h5,h4⟩:=h1
         have hlen:=RelL.length h4
         refine ⟨_,rfl,fun j hj=>?_⟩
         rw [len_eq] at hj
         have hlt:k*s2+o+j<(vs.toList.take (m*s2)).length:=by omega
         refine ⟨(vs.toList.take (m*s2))[k*s2+o+j],?_,h3 _ (List.getElem_mem hlt),by simp only [get_mapA (viewN_junk n rd)];exact view_ok hC hrd n (relL_get h4 _ _ (List.getElem?_eq_getElem hlt))⟩
         rw [addr_add]
         refine heapI_cell ?_
         rw [cell_of_row w b _ vs ty (0,0) h2]
         simp at hlt ⊢
       · trivial
     · trivial
   · obtain ⟨hl,hη,hm⟩:=hu
     have hB:rd i≠.dead->BlkOk H E w i (rd i):=fun hne=>by
      rcases hrd i with h | h
      · exact absurd h hne
      · rw [h];exact hC.blk i
     show Rel (ownV (viewN n rd) (rd i) sz lo m) _ _ _
     unfold ownV
     split
     · rename_i ty s2 q cap cs hg
       split
       · rename_i hs
         have hs:s2=sz:=by simpa using hs
         subst hs
         rw [hg] at hB
         have hB:=hB (by simp)
         obtain ⟨_,h0,_,_,h1⟩:=hB
         split
         · rename_i hz
           simp only [Bool.and_eq_true,Nat.beq_eq,Nat.blt_eq] at hz
           obtain ⟨rfl,hq0⟩:=hz
           cases hι:E.ι i with
           | none =>
             rw [hι] at h1
             have:=h1.1
             omega
           | some b =>
             rw [hι] at hm
             obtain ⟨ad,rfl,had⟩:=hm
             cases ad with
             | none=>exact absurd rfl had.2
             | some ad=>exact ⟨ad,_,rfl,Nat.zero_le _,fun k hk=>absurd hk (Nat.not_lt_zero k)⟩
         cases hι:E.ι i with
         | none =>
           rw [hι] at hm
           obtain ⟨_,rfl,rfl⟩:=hm
           exact ⟨none,0,rfl,⟨Nat.le_refl _,fun _=>rfl⟩,fun h=>by omega⟩
         | some b =>
           rw [hι] at hm h1
           obtain ⟨ad,rfl,had⟩:=hm
           obtain ⟨vs,h2,h3,h5,h4⟩:=h1
           refine ⟨ad,_,rfl,⟨by omega,fun h0=>?_⟩,fun hpos=>⟨_,had.1 (.inr hpos),fun k hk j hj=>?_⟩⟩
           · exact absurd h0 had.2
           have hq:(lo+k+1)*s2<=q*s2:=Nat.mul_le_mul_right _ (by omega)
           have hqκ:q*s2<=E.κ i*s2:=Nat.mul_le_mul_right _ h0.2
           rw [Nat.add_mul,Nat.one_mul] at hq
           have hvl:vs.toList.length=E.κ i*s2:=by simpa using h5
           have hlt:(lo+k)*s2+j<(vs.toList.take (q*s2)).length:=by rw [List.length_take];omega
           refine ⟨(vs.toList.take (q*s2))[(lo+k)*s2+j],?_,h3 _ (List.getElem_mem hlt),by simp only [get_mapA (viewN_junk n rd)];exact view_ok hC hrd n (relL_get h4 _ _ (List.getElem?_eq_getElem hlt))⟩
           rw [addr_add,<- Nat.add_assoc,<- Nat.add_mul]
           refine heapI_cell ?_
           rw [cell_of_row w b _ vs ty (0,0) h2]
           simp at hlt ⊢
       · trivial
     · rename_i ty s2 q cap c hg
       split
       · rename_i hs
         have hs:s2=sz:=by simpa using hs
         subst hs
         rw [hg] at hB
         have hB:=hB (by simp)
         obtain ⟨_,h0,_,_,h1⟩:=hB
         cases hι:E.ι i with
         | none =>
           rw [hι] at hm
           obtain ⟨_,rfl,rfl⟩:=hm
           exact ⟨none,0,rfl,⟨Nat.le_refl _,fun _=>rfl⟩,fun h=>by omega⟩
         | some b =>
           rw [hι] at hm h1
           obtain ⟨ad,rfl,had⟩:=hm
           obtain ⟨vs,h2,h3,h5,h4⟩:=h1
           refine ⟨ad,_,rfl,⟨by omega,fun h0=>?_⟩,fun hpos=>⟨_,had.1 (.inr hpos),fun k hk j hj=>?_⟩⟩
           · exact absurd h0 had.2
           obtain ⟨x,hx,hrx⟩:=h4 (lo+k) (by omega) j hj
           have hq:(lo+k+1)*s2<=q*s2:=Nat.mul_le_mul_right _ (by omega)
           rw [Nat.add_mul,Nat.one_mul] at hq
           refine ⟨x,?_,h3 x ?_,by rw [rowAt_eq];exact Rel.mono _ (HB_le hC.imm) hrx⟩
           · rw [addr_add,<- Nat.add_assoc,<- Nat.add_mul]
             refine heapI_cell ?_
             rw [cell_of_row w b _ vs ty (0,0) h2]
             exact hx
           · refine List.mem_iff_getElem?.2 ⟨(lo+k)*s2+j,?_⟩
             rw [List.getElem?_take,if_pos (by omega)]
             simpa using hx
       · trivial
     · rename_i ty s2 q cap c op zs hg
       split
       case h_2=>trivial
       split
       · rename_i hs
         have hs:s2=sz:=by simpa using hs
         subst hs
         rw [hg] at hB
         have hB:=hB (by simp)
         obtain ⟨_,h0,_,_,h1⟩:=hB
         cases hι:E.ι i with
         | none =>
           rw [hι] at hm
           obtain ⟨_,rfl,rfl⟩:=hm
           exact ⟨none,0,rfl,⟨Nat.le_refl _,fun _=>rfl⟩,fun h=>by omega⟩
         | some b =>
           rw [hι] at hm h1
           obtain ⟨ad,rfl,had⟩:=hm
           obtain ⟨_,vs,F,h2,h4⟩:=h1
           refine ⟨ad,_,rfl,⟨by omega,fun h0=>?_⟩,fun hpos=>⟨_,had.1 (.inr hpos),fun k hk j hj=>?_⟩⟩
           · exact absurd h0 had.2
           obtain ⟨x,hx,hrx⟩:=h4.tr (lo+k) (by omega) (fun p hp=>by cases hp) j hj
           have hq:(lo+k+1)*s2<=q*s2:=Nat.mul_le_mul_right _ (by omega)
           rw [Nat.add_mul,Nat.one_mul] at hq
           refine ⟨x,?_,h4.one x ?_,by rw [rowAt_eq];exact trV_ok hC.imm _ hrx⟩
           · rw [addr_add,<- Nat.add_assoc,<- Nat.add_mul]
             refine heapI_cell ?_
             rw [cell_of_row w b _ vs ty (0,0) h2]
             simpa using hx
           · refine List.mem_iff_getElem?.2 ⟨(lo+k)*s2+j,?_⟩
             rw [List.getElem?_take,if_pos (by omega)]
             simpa using hx
       · trivial
     · trivial
theorem viewL_ok {H:HH} {E:Env} {w:World} {M:List Blk} {rd:Nat->Blk} (hC:Conc H E w M) (hrd:∀ i,rd i=.dead∨rd i=getM M i) (n:Nat):∀ {l:List AV} {vs:List Value},RelL l H E vs->RelL (viewL n rd l) (HB H w) E0 vs
 | [],_,h=>h
 | _::_,_,h=>by
   obtain ⟨v,r,hv,h1,h2⟩:=h
   exact ⟨v,r,hv,view_ok hC hrd n h1,viewL_ok hC hrd n h2⟩
end Go.Ax
