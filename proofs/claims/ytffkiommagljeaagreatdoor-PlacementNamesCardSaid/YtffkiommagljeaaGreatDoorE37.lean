import Derived.ProofKit
import Derived.ReadAgain
import Derived.SizedLaws
import Derived.Below
import Derived.Test.YtffkiommagljeaaGreatDoorE22
import Derived.Test.YtffkiommagljeaaGreatDoorE36
set_option linter.unusedVariables false
set_option linter.unusedSimpArgs false
set_option linter.unusedSectionVars false
namespace Go.Ax
open Go
variable [Inhabited Gl0]
theorem idx_lt {l:List Nat} {i j:Nat} (h:idx l i=some j):j<l.length:=by
 have:=idx_ok h
 exact (List.getElem?_eq_some_iff.1 this).1
theorem idx_some:∀ {l:List Nat} {i:Nat},i∈l->∃ j,idx l i=some j
 | a::l,i,h=>by
   simp only [idx]
   by_cases e:a=i
   · subst e
     exact ⟨0,by simp⟩
   · have:Nat.beq a i=false:=by
      cases hb:Nat.beq a i with
      | false=>rfl
      | true=>exact absurd (Nat.eq_of_beq_eq_true hb) e
     rw [this]
     rcases List.mem_cons.1 h with h | h
     · exact absurd h.symm e
     · obtain ⟨j,hj⟩:=idx_some h
       exact ⟨j+1,by simp [hj]⟩
def expI (L:List Nat) (nid j:Nat):Option Nat:=match L[j]? with
 | some i=>some i
 | none=>some (nid+(j - L.length))
def invI (L:List Nat) (nid i:Nat):Option Nat:=match idx L i with
 | some j=>some j
 | none=>(match Nat.ble nid i with | true=>some (L.length+(i - nid)) | false=>none)
structure LOk (L:List Nat) (nid:Nat):Prop where
 n:nodup L=true
 lt:∀ i∈L,i<nid
theorem inv_exp {L:List Nat} {nid i j:Nat} (h:LOk L nid) (he:expI L nid j=some i):invI L nid i=some j:=by
 unfold expI at he
 unfold invI
 split at he
 · rename_i i' hi
   cases he
   obtain ⟨j',hj'⟩:=idx_some (List.mem_of_getElem? hi)
   rw [hj']
   have:=nodup_ok h.n _ _ _ (idx_ok hj') hi
   rw [this]
 · rename_i hn
   cases he
   have hj:L.length<=j:=by simpa using hn
   have hno:idx L (nid+(j - L.length))=none:=by
    cases hx:idx L (nid+(j - L.length)) with
    | none=>rfl
    | some q =>
      have:=h.lt _ (List.mem_of_getElem? (idx_ok hx))
      omega
   rw [hno]
   have:Nat.ble nid (nid+(j - L.length))=true:=by rw [Nat.ble_eq];omega
   simp only [this]
   congr 1
   omega
theorem inv_cases {L:List Nat} {nid i j:Nat} (h:invI L nid i=some j):idx L i=some j∨(idx L i=none/\nid<=i/\j=L.length+(i - nid)):=by
 unfold invI at h
 cases hx:idx L i with
 | some k=>rw [hx] at h;exact .inl h
 | none =>
   rw [hx] at h
   simp only at h
   cases hb:Nat.ble nid i with
   | true =>
     rw [hb] at h
     simp only at h
     exact .inr ⟨rfl,Nat.le_of_ble_eq_true hb,(Option.some.inj h).symm⟩
   | false=>rw [hb] at h;cases h
theorem inv_inj {L:List Nat} {nid i i' j:Nat} (h1:invI L nid i=some j) (h2:invI L nid i'=some j):i=i':=by
 rcases inv_cases h1 with a | ⟨_,a,e⟩<;>rcases inv_cases h2 with b | ⟨_,b,e'⟩
 · have e1:=idx_ok a
   have e2:=idx_ok b
   rw [e1] at e2
   exact Option.some.inj e2
 · have:=idx_lt a
   omega
 · have:=idx_lt b
   omega
 · omega
def Env.pullI (E:Env) (f:Nat->Option Nat):Env :=
 ⟨fun i=>match f i with | some j=>E.lv j | none=>false,fun i=>match f i with | some j=>E.ι j | none=>none,fun i=>match f i with | some j=>E.κ j | none=>0,fun i=>match f i with | some j=>E.η j | none=>0,
  fun i x=>match f i with | some j=>E.σ j x | none=>False⟩
theorem Env.pullI_has {E:Env} {f:Nat->Option Nat} {i x:Nat} (h:(E.pullI f).has i x):∃ j,f i=some j/\E.has j x:=by
 unfold Env.has Env.pullI at h
 cases hj:f i with
 | none=>simp [hj] at h
 | some j=>exact ⟨j,rfl,by simp [hj] at h;exact h⟩
def expM (L:List Nat) (nid:Nat) (M2:List Blk):List Blk:=(upTo 0 (nid+(len M2 - L.length))).map fun i=>match invI L nid i with
 | some j=>renB (expI L nid) (getM M2 j)
 | none=>.dead
theorem getM_upTo (f:Nat->Blk):∀ (n s i:Nat),getM ((upTo s n).map f) i=if i<n then f (s+i) else .dead
 | 0,s,i=>by simp [upTo,getM_nil]
 | n+1,s,0=>by simp [upTo,getM]
 | n+1,s,i+1=>by
   simp only [upTo,List.map_cons,getM,getM_upTo f n (s+1) i,Nat.add_lt_add_iff_right]
   rw [show s+1+i=s+(i+1) by omega]
theorem getM_expM {L:List Nat} {nid:Nat} {M2:List Blk} (h:LOk L nid) (i:Nat):getM (expM L nid M2) i=match invI L nid i with | some j=>renB (expI L nid) (getM M2 j) | none=>.dead:=by
 unfold expM
 rw [getM_upTo,Nat.zero_add]
 split
 · rfl
 · rename_i hi
   cases hv:invI L nid i with
   | none=>rfl
   | some j =>
     simp only
     unfold invI at hv
     split at hv
     · rename_i j' hj'
       have:=h.lt _ (List.mem_of_getElem? (idx_ok hj'))
       omega
     · split at hv
       · cases hv
         rw [getM_len _ _ (by omega)]
         rfl
       · cases hv
def expV (L mv:List Nat):List Nat:=mv.filterMap fun j=>L[j]?
theorem ACall.expand {P:Program} {f:FuncId} {args:List AV} {M M2:List Blk} {r:AV} {mv L:List Nat} {nid:Nat} (hL:LOk L nid) (hM:∀ i,getM M i≠.dead->i∈L)
 (h:ACall P f (renL (idx L) args) (pick L M L) r M2 mv):ACall P f args M (ren (expI L nid) r) (expM L nid M2) (expV L mv):=by
 intro H E w vals hC hargs
 have hv0:E.via (E.pull L) (idx L):=fun i j hij hl=>by
  have:=idx_ok hij
  simp [Env.pull,this,hl]
 have hC0:Conc H (E.pull L) w (pick L M L):=by
  refine ⟨hC.imm,hC.tf,fun j=>?_,fun i j b hi hj=>?_,fun i b hi=>?_,fun i b hi hib=>?_⟩
  · rw [getM_pick]
    cases hj:L[j]? with
    | none=>simp only [Env.pull,BlkOk,hj]
    | some i =>
      simp only []
      refine (hC.blk i).move (HH.le_refl _) hv0 ?_ ?_ ?_ ?_ (fun b=>?_) fun _ _=>rfl<;>simp_all [Env.pull]
  · obtain ⟨x,hx,h1⟩:=Env.pull_has hi
    obtain ⟨y,hy,h2⟩:=Env.pull_has hj
    have:=hC.injH x y b h1 h2
    subst this
    exact nodup_ok hL.n i j x hx hy
  · obtain ⟨x,hx,h1⟩:=Env.pull_has hi
    exact hC.sepH x b h1
  · obtain ⟨x,hx,h1⟩:=Env.pull_has ⟨hi,.inr hib⟩
    exact hC.ltH h1
 refine (h H (E.pull L) w vals hC0 (RelL.ren _ hv0 hargs)).mono ?_
 rintro e w1 ⟨v,H1,E1,rfl,hr,hC1,hE1⟩
 have hvia:E1.via (E1.pullI (invI L nid)) (expI L nid):=fun j i hji hl=>by
  have:=inv_exp hL hji
  simp [Env.pullI,this,hl]
 refine ⟨v,H1,E1.pullI (invI L nid),rfl,Rel.ren _ hvia hr,⟨hC1.imm,hC1.tf,fun i=>?_,fun i i' b hi hi'=>?_,fun i b hi=>?_,fun i b hi hib=>?_⟩,⟨hE1.os,hE1.tape,hE1.output,hE1.size,fun b hb hn=>hE1.keep b hb fun j hj=>?_,fun i b hi=>?_,hE1.hh,fun c b o ho=>?_,fun i hl hmv=>?_⟩⟩
 · rw [getM_expM hL]
   cases hj:invI L nid i with
   | none=>simp only [Env.pullI,BlkOk,hj]
   | some j =>
     simp only []
     refine (hC1.blk j).move (HH.le_refl _) hvia ?_ ?_ ?_ ?_ (fun b=>?_) fun _ _=>rfl<;>simp_all [Env.pullI]
 · obtain ⟨x,hx,h1⟩:=Env.pullI_has hi
   obtain ⟨y,hy,h2⟩:=Env.pullI_has hi'
   have:=hC1.injH x y b h1 h2
   subst this
   exact inv_inj hx hy
 · obtain ⟨x,hx,h1⟩:=Env.pullI_has hi
   exact hC1.sepH x b h1
 · obtain ⟨x,hx,h1⟩:=Env.pullI_has ⟨hi,.inr hib⟩
   exact hC1.ltH h1
 · obtain ⟨x,_,h1⟩:=Env.pull_has hj
   exact hn x h1
 · obtain ⟨x,_,h1⟩:=Env.pullI_has hi
   rcases hE1.own x b h1 with ⟨j,hj⟩ | h2
   · obtain ⟨y,_,h3⟩:=Env.pull_has hj
     exact .inl ⟨y,h3⟩
   · exact .inr h2
 · rcases hE1.new c b o ho with h1 | h1 | ⟨j,hj⟩
   · exact .inl h1
   · exact .inr (.inl h1)
   · obtain ⟨y,_,h3⟩:=Env.pull_has hj
     exact .inr (.inr ⟨y,h3⟩)
 · have hi:i∈L:=hM i fun hd=>by
    have:=hC.blk i
    rw [hd] at this
    rw [show E.lv i=false from this] at hl;cases hl
   obtain ⟨j,hj⟩:=idx_some hi
   have hLj:=idx_ok hj
   have hjm:j ∉ mv:=fun hm=>hmv (List.mem_filterMap.2 ⟨j,hm,hLj⟩)
   have hlj:(E.pull L).lv j=true:=by simp [Env.pull,hLj,hl]
   obtain ⟨a1,a2,a3,a4⟩:=hE1.ids j hlj hjm
   have hinv:invI L nid i=some j:=by unfold invI;rw [hj]
   have e1:(E.pull L).ι j=E.ι i:=by simp [Env.pull,hLj]
   have e2:(E.pull L).κ j=E.κ i:=by simp [Env.pull,hLj]
   have e3:(E.pull L).η j=E.η i:=by simp [Env.pull,hLj]
   simp only [Env.pullI,hinv]
   exact ⟨a1,a2.trans e1,a3.trans e2,a4.trans e3⟩
def liveL:Nat->List Blk->List Nat
 | _,[]=>[]
 | i,.dead::r=>liveL (i+1) r
 | i,_::r=>i::liveL (i+1) r
theorem liveL_mem:∀ {M:List Blk} {s i:Nat},getM M i≠.dead->s+i∈liveL s M
 | [],_,i,h=>absurd (getM_nil i) h
 | B::r,s,0,h=>by
   have hB:B≠.dead:=h
   cases B<;>first | (exact absurd rfl hB) | simp [liveL]
 | B::r,s,i+1,h=>by
   have hr:s+(i+1)∈liveL (s+1) r:=by
    have:=liveL_mem (M:=r) (s:=s+1) (i:=i) h
    rwa [show s+1+i=s+(i+1) by omega] at this
   cases B<;>simp only [liveL]<;>first | exact hr | exact List.mem_cons_of_mem _ hr
def memoC {P:Program} (l:List (Memo P)) (g:FuncId) (args:List AV) (M:List Blk):Option (T An) :=
 (fun L=>match nodup L&&allLt L (len M) with
   | true=>(fun args' M'=>match memoIn l g args' M' with
     | some (.ret a)=>some (.ret (ren (expI L (len M)) a.1,expM L (len M) a.2.1,expV L a.2.2))
     | _=>none) (renL (idx L) args) (pick L M L)
   | false=>none) (liveL 0 M)
theorem memoC_ok {P:Program} {l:List (Memo P)} {g:FuncId} {args:List AV} {M:List Blk} {t:T An} (h:memoC l g args M=some t):t.Sat (ACall' P g args M):=by
 unfold memoC at h
 simp only at h
 split at h
 case h_2=>cases h
 rename_i hb
 simp only [Bool.and_eq_true] at hb
 split at h
 case h_2=>cases h
 rename_i a ha
 cases h
 have hs:=memoIn_ok ha
 obtain ⟨a',ha',e⟩:=hs (fun x=>x=a) rfl
 subst e
 refine T.Sat.ret (ACall.expand ⟨hb.1,allLt_ok hb.2⟩ (fun i hi=>?_) ha')
 have:=liveL_mem (s:=0) hi
 rwa [Nat.zero_add] at this
def withMemoC {P:Program} (h:HintsT P) (l:List (Memo P)):HintsT P :=
 { h with
  ct:=fun g args M=>match memoC l g args M with
   | some t=>some t
   | none=>h.ct g args M
  ctOk:=fun g args M t e=>by
   split at e
   · rename_i t' ht
     cases e
     exact memoC_ok ht
   · exact h.ctOk _ _ _ _ e }
end Go.Ax

namespace Go.Ax
open Go Go.ChangeShapes Go.WideShapes Go.RowKit
variable [Inhabited Gl0]
theorem evol_kept {mv:List Nat} {H H':HH} {E':Env} {w w':World} (h:Evol mv H E0 w H' E' w') (may:MemPlace->Prop):w.keptBut w' may:=by
 refine ⟨h.os,h.output,fun i hi=>?_⟩
 have:=h.keep i hi fun j hj=>E0_has hj
 rw [this]
 cases w.heap[i]? with
 | none=>rfl
 | some o=>cases o<;>first | exact ⟨rfl,rfl,rfl,fun _ _=>rfl⟩ | exact .inr ⟨rfl,rfl⟩ | rfl
set_option maxRecDepth 100000
inductive Sh where
 | int (k:IntKind)
 | bool
 | str
 | sl (e:Sh)
 | st (fs:List Sh)
mutual
def Sh.size:Sh->Nat
 | .st fs=>Sh.sizeL fs
 | _=>1
def Sh.sizeL:List Sh->Nat
 | []=>0
 | s::r=>s.size+Sh.sizeL r
end
mutual
def Sh.ok (P:Program):Sh->TypeId->Bool
 | .int k,t=>match P.underlying t with | some (.int k')=>decide (k'=k) | _=>false
 | .bool,t=>match P.underlying t with | some .bool=>true | _=>false
 | .str,t=>match P.underlying t with | some .string=>true | _=>false
 | .sl e,t=>match P.underlying t with | some (.slice u)=>Sh.ok P e u&&Nat.beq (P.cellsOf u) e.size | _=>false
 | .st fs,t=>match P.underlying t with | some (.struct l)=>Sh.okL P fs l.toList 0&&Nat.beq (P.cellsOf t) (Sh.sizeL fs) | _=>false
def Sh.okL (P:Program):List Sh->List Field->Nat->Bool
 | [],[],_=>true
 | s::r,f::fs,o=>Nat.beq f.offset o&&(Nat.beq (P.cellsOf f.type) s.size&&(Sh.ok P s f.type&&Sh.okL P r fs (o+s.size)))
 | _,_,_=>false
end
mutual
def Sh.enc {K:Type}:Sh->DataW K->List AV
 | .int k,d=>match d with | .lit (.int _ n)=>[.y (.int k n)] | _=>[]
 | .bool,d=>match d with | .lit (.bool b)=>[.y (.bool b)] | _=>[]
 | .str,d=>match d with | .lit (.string l)=>[.y (.string ⟨l.toArray⟩)] | _=>[]
 | .sl e,d=>match d with | .slice xs _=>[.ys true e.size xs.length (fun k j=>get (Sh.enc e (xs.getD k .nil)) j)] | _=>[.ys true e.size 0 (fun _ _=>.junk)]
 | .st fs,d=>match d with | .agg ds=>Sh.encL fs ds | _=>[]
def Sh.encL {K:Type}:List Sh->List (DataW K)->List AV
 | [],_=>[]
 | s::r,l=>match l with | d::ds=>s.enc d++Sh.encL r ds | []=>[]
end
theorem RelL.app:∀ {a b:List AV} {H:HH} {E:Env} {xs ys:List Value},RelL a H E xs->RelL b H E ys->RelL (a++b) H E (xs++ys)
 | [],_,_,_,_,_,h1,h2=>by
   simp only [RelL] at h1
   subst h1;exact h2
 | _::_,_,_,_,_,_,h1,h2=>by
   obtain ⟨v,r,rfl,h3,h4⟩:=h1
   exact ⟨v,_,rfl,h3,RelL.app h4 h2⟩
section
variable {K:Type} {enc:TypeId×Value->K} {P:Program} {w:World} {sp:Nat->Bool}
theorem TrodAll_carry {w':World}:∀ {ts:List TypeId} {vs:List Value} {ds:List (DataW K)} {ps:List MemPlace},DataW.TrodAll enc P w 0 sp true ts vs ds ps->(∀ p∈ps,w.sameAt w' p)->DataW.TrodAll enc P w' 0 sp true ts vs ds ps
 | [],[],[],_,h,_=>h
 | _::_,_::_,_::_,_,⟨p,q,⟨n,h1⟩,h2,e⟩,hs=>⟨p,q,⟨n,DataW.trod_carry n _ _ _ h1 fun x hx=>hs x (by rw [e];exact List.mem_append_left _ hx)⟩,TrodAll_carry h2 (fun x hx=>hs x (by rw [e];exact List.mem_append_right _ hx)),e⟩
def slicesOk (P:Program):Bool:=(List.range P.types.size).all fun t=>match P.underlying t with | some (.slice e)=>decide (0<P.cellsOf e) | _=>true
theorem slicesOk_pos (h:slicesOk P=true):∀ t e,t<P.types.size->P.underlying t=some (.slice e)->0<P.cellsOf e:=by
 intro t e ht hu
 have:=List.all_eq_true.1 h t (List.mem_range.2 ht)
 rw [hu] at this
 exact of_decide_eq_true this
theorem post_open {fn:Func} {s:ChangeSpec} {t:TypeId} {apart:Bool} {w':World} {args:Array Value} {ds gs:List (DataW K)} {before:List MemPlace} {mv:List Nat} {H H':HH} {E':Env} (hr:fn.resultTypes.toList=[t])
 (ht:P.underlying t=some .bool) (hv:s.vars=[]) (hs:s.fn K ds={ results:=[.lit (.bool true)],args:=ds }) (hl:laidOutB P=true) (hm:mapsRowed P=true) (hz:slicesOk P=true) (hts:∀ t∈fn.params.toList,t<P.types.size)
 (hW:DataW.Whole enc P fn.params.toList s.vars apart w args.toList ds gs before) (hE:Evol mv H E0 w H' E' w') :
 s.post enc P fn apart true false false w args (.bool true) w':=by
 have hlt:=hW.lt
 have hW':=hW
 obtain ⟨p,q,hA,hV,rfl,hfz,hnd⟩:=hW
 rw [hv] at hV
 obtain ⟨rfl,rfl⟩:=trodVars_none hV
 have hsz:fn.resultTypes.size=1:=by rw [<- Array.length_toList,hr];rfl
 have e0:s.fn K (ds++[])={ results:=[.lit (.bool true)],args:=ds }:=by rw [List.append_nil];exact hs
 refine ⟨ds,[],_,[],p,[],hW',?_,?_,?_,evol_kept hE _,fun h=>by cases h⟩
 · rw [e0,hr,hsz]
   exact trodAll_mk1 (shut_bool ht true)
 · rw [e0]
   refine TrodAll_carry (DataW.TrodAll.respare (kids_rows hl hm) (slicesOk_pos hz) hts hA fun x hx=>?_) fun x hx=>?_
   · have:=hlt x (by simpa using hx)
     simpa using this
   · have hb:=hlt x (by simpa using hx)
     have hk:=hE.keep x.block hb fun j hj=>E0_has hj
     cases x with
     | cell b off =>
       have hk':w'.heap[b]? = w.heap[b]?:=hk
       show w'.cell? ⟨b,off,none⟩=w.cell? ⟨b,off,none⟩
       unfold World.cell?
       dsimp only
       rw [hk']
     | map b=>exact hk
 · rw [e0,hv];rfl
theorem open_calls {f:FuncId} {fn:Func} {s:ChangeSpec} {t:TypeId} {apart:Bool} {args:Array Value} {ds gs:List (DataW K)} {before:List MemPlace} {avs:List AV} {M:List Blk} {mv:List Nat} (h:ACall P f avs [] (.y (.bool true)) M mv) (hrel:RelL avs (fun _=>heapI w) E0 args.toList)
 (hr:fn.resultTypes.toList=[t]) (ht:P.underlying t=some .bool) (hv:s.vars=[]) (hs:s.fn K ds={ results:=[.lit (.bool true)],args:=ds }) (hl:laidOutB P=true) (hm:mapsRowed P=true) (hz:slicesOk P=true) (hts:∀ t∈fn.params.toList,t<P.types.size)
 (hW:DataW.Whole enc P fn.params.toList s.vars apart w args.toList ds gs before) (hg:GlOk w:=by exact fun _ h=>by cases h) :
 Calls P f args w fun e w'=>∃ v,e=.returned v/\s.post enc P fn apart true false false w args v w':=by
 refine (h (fun _=>heapI w) E0 w args (conc_nil (fun b o hb=>hb) ⟨fun b o hb=>hb,hg⟩) hrel).mono ?_
 rintro e w' ⟨v,H',E',rfl,hr',hC',hE'⟩
 obtain ⟨rfl,_⟩:=hr'
 exact ⟨_,rfl,post_open hr ht hv hs hl hm hz hts hW hE'⟩
end
theorem call_of {P:Program} {f:FuncId} {avs:List AV} (h:(T.ret (AV.y (.bool true),([]:List Blk),([]:List Nat))).Sat (ACall' P f avs [])):ACall P f avs [] (.y (.bool true)) [] []:=by
 obtain ⟨a,ha,rfl⟩:=h (fun a=>a=(AV.y (.bool true),[],[])) rfl
 exact ha
end Go.Ax

namespace Go.Ax
open Go Go.RowKit
variable [Inhabited Gl0]
end Go.Ax
