import Derived.Laws.CopyRow
import Derived.Test.YtffkiommagljeaaGreatDoorE24
import Derived.Test.YtffkiommagljeaaGreatDoorE25
import Derived.Test.YtffkiommagljeaaGreatDoorE27
set_option linter.unusedVariables false
set_option linter.unusedSimpArgs false
set_option linter.unusedSectionVars false
namespace Go.Ax
open Go
variable [Inhabited Gl0]
def cut3E (P:Program) (o:Oper) (t:Nat->AV):Option CE:=match o.op with
 | .slice ty x lo (some hi) (some mx)=>(match P.underlying ty,sv (ev t x),bnd 0 (lo.map (ev fun i=>sv (t i))),bnd 0 (some (ev (fun i=>sv (t i)) hi)),bnd 0 (some (ev (fun i=>sv (t i)) mx)) with
   | some (.slice e),.own _ sz _ n,some l,some u,some m=>(match sizeT P e with
     | some sz'=>(match Nat.beq sz' sz with
       | true=>some ⟨.junk,[],[],[],[0<=l,l<=u,u<=m,m<=(n:Int)]⟩
       | false=>none)
     | none=>none)
   | _,_,_,_,_=>none)
 | _=>none
theorem run_bounds3 {P:Program} (w:World) {n cap:Nat} {lo:Option Value} {l u m:Int} {ku km:IntKind} (hlo:(lo=none/\l=0)∨∃ k,lo=some (.int k l))
 (h0:0<=l) (h1:l<=u) (h2:u<=m) (h3:m<=(cap:Int)):(Instr.sliceBounds true n cap lo (some (.int ku u)) (some (.int km m))).run P w=.ok (l.toNat,u.toNat,m.toNat) w:=by
 have hm:=run_sliceBound (P:=P) w km m cap .slice3Acap (by omega) (by omega)
 have hu:=run_sliceBound (P:=P) w ku u m.toNat .slice3B (by omega) (by omega)
 rcases hlo with ⟨rfl,rfl⟩ | ⟨kl,rfl⟩
 · simp [Instr.sliceBounds,hm,hu]
 · have hl:=run_sliceBound (P:=P) w kl l u.toNat .slice3C h0 (by omega)
   simp [Instr.sliceBounds,hm,hu,hl]
theorem bnd_int {t:Nat->AV} {a:Act} {H:HH} {E:Env} (hT:RelT t H E a) {d:Nat} {x:Operand} {q:Int} (h:bnd d (some (ev t x))=some q):∃ k,a.eval x=.int k q:=by
 rcases bnd_ok hT (x:=some x) (d:=d) (q:=q) (by simpa using h) with ⟨h,_⟩ | ⟨k,h⟩
 · cases h
 · exact ⟨k,by simpa using h⟩
theorem cut3E_ok {P:Program} {o:Oper} {t:Nat->AV} {rd:Nat->Blk} {e:CE} (h:cut3E P o t=some e) (ho:Hold e.ob):CE.Good P o t rd e:=by
 unfold cut3E at h
 split at h
 case h_2=>cases h
 rename_i ty x lo hi mx hop
 split at h
 case h_2=>cases h
 rename_i el i sz z n l u m hu hx0 hl hu' hm
 split at h
 case h_2=>cases h
 rename_i sz' hsz
 split at h
 case h_2=>cases h
 rename_i hs
 have hs:sz'=sz:=by simpa using hs
 subst hs
 cases h
 have b0:=ho (0<=l) (by simp)
 have b1:=ho (l<=u) (by simp)
 have b2:=ho (u<=m) (by simp)
 have b3:=ho (m<=(n:Int)) (by simp)
 intro M hM
 refine runs_stepZ fun H E w a hC hT=>?_
 have hx:=rel_sv (rel_ev hT x)
 rw [hx0] at hx
 obtain ⟨ku,hku⟩:=bnd_int (relT_sv hT) hu'
 obtain ⟨km,hkm⟩:=bnd_int (relT_sv hT) hm
 have hlo:=bnd_ok (relT_sv hT) hl
 have key:∀ A cap,n<=cap->a.eval x=.slice A n cap->∃ v,(execOp a.eval o).run P w=.ok (.value v) w:=by
  intro A cap hc hv
  have hrun:=run_bounds3 (P:=P) (n:=n) w (cap:=cap) (ku:=ku) (km:=km) hlo b0 b1 b2 (by omega)
  exact ⟨.slice (if m.toNat=l.toNat then A else A.map (·.add (l.toNat*sz'))) (u.toNat - l.toNat) (m.toNat - l.toNat),by
   simp [execOp,hop,hv,Instr.sliceAt,run_underlying hu,Instr.slice,hku,hkm,hrun,run_sizeOf' w hsz]⟩
 obtain ⟨hlv,hκ,hm2⟩:=hx
 have hv:∃ v,(execOp a.eval o).run P w=.ok (.value v) w:=by
  cases hι:E.ι i with
  | none =>
    rw [hι] at hm2
    obtain ⟨rfl,rfl,hv⟩:=hm2
    exact key none 0 (Nat.le_refl _) hv
  | some b =>
    rw [hι] at hm2
    obtain ⟨ad,hv,_⟩:=hm2
    exact key ad _ (by omega) hv
 obtain ⟨v,hv⟩:=hv
 exact ⟨v,w,H,E,hv,trivial,hC,Evol.refl _ _ _ _⟩
def cutUpE (P:Program) (rd:Nat->Blk) (o:Oper) (t:Nat->AV):Option CE:=match o.op with
 | .slice ty x lo (some hi) none=>(match P.underlying ty,sv (ev t x),bnd 0 (lo.map (ev fun i=>sv (t i))),bnd 0 (some (ev (fun i=>sv (t i)) hi)) with
   | some (.slice e),.own i sz 0 _,some l,some u=>(match sizeT P e,rd i with
     | some sz',.row _ s2 m _ _=>(match Nat.beq sz' sz&&Nat.beq s2 sz with
       | true=>some ⟨.own i sz l.toNat (u.toNat - l.toNat),[i],[],[],[0<=l,l<=u,u<=(m:Int)]⟩
       | false=>none)
     | _,_=>none)
   | _,_,_,_=>none)
 | _=>none
theorem run_boundsU {P:Program} (w:World) {n cap:Nat} {lo:Option Value} {l u:Int} {ku:IntKind} (hlo:(lo=none/\l=0)∨∃ k,lo=some (.int k l))
 (h0:0<=l) (h1:l<=u) (h2:u<=(cap:Int)):(Instr.sliceBounds true n cap lo (some (.int ku u)) none).run P w=.ok (l.toNat,u.toNat,cap) w:=by
 have hu:=run_sliceBound (P:=P) w ku u cap .sliceAcap (by omega) (by omega)
 rcases hlo with ⟨rfl,rfl⟩ | ⟨kl,rfl⟩
 · simp [Instr.sliceBounds,hu]
 · have hl:=run_sliceBound (P:=P) w kl l u.toNat .sliceB h0 (by omega)
   simp [Instr.sliceBounds,hu,hl]
theorem cutUpE_ok {P:Program} {o:Oper} {t:Nat->AV} {rd:Nat->Blk} {e:CE} (h:cutUpE P rd o t=some e) (ho:Hold e.ob):CE.Good P o t rd e:=by
 unfold cutUpE at h
 split at h
 case h_2=>cases h
 rename_i ty x lo hi hop
 split at h
 case h_2=>cases h
 rename_i el i sz n l u hu hx0 hl hu'
 split at h
 case h_2=>cases h
 rename_i sz' ty' s2 m cap' c' hsz hg
 split at h
 case h_2=>cases h
 rename_i hs
 simp only [Bool.and_eq_true,Nat.beq_eq] at hs
 obtain ⟨rfl,rfl⟩:=hs
 cases h
 have b0:=ho (0<=l) (by simp)
 have b1:=ho (l<=u) (by simp)
 have b2:=ho (u<=(m:Int)) (by simp)
 intro M hM
 refine runs_stepZ fun H E w a hC hT=>?_
 have hx:=rel_sv (rel_ev hT x)
 rw [hx0] at hx
 obtain ⟨ku,hku⟩:=bnd_int (relT_sv hT) hu'
 have hlo:=bnd_ok (relT_sv hT) hl
 have hB:=hC.blk i
 rw [hM i (by simp),hg] at hB
 obtain ⟨_,hn,_,_,hb⟩:=hB
 obtain ⟨hlv,hκ,hm2⟩:=hx
 have key:∀ A,a.eval x=.slice A n (E.κ i)->(execOp a.eval o).run P w=.ok (.value (.slice (if E.κ i=l.toNat then A else A.map (·.add (l.toNat*s2))) (u.toNat - l.toNat) (E.κ i - l.toNat))) w:=by
  intro A hv
  have hrun:=run_boundsU (P:=P) (n:=n) w (cap:=E.κ i) (ku:=ku) hlo b0 b1 (by omega)
  simp [execOp,hop,hv,Instr.sliceAt,run_underlying hu,Instr.slice,hku,hrun,run_sizeOf' w hsz]
 cases hι:E.ι i with
 | none =>
   rw [hι] at hm2 hb
   obtain ⟨_,rfl,hv⟩:=hm2
   have hκ0:E.κ i=0:=hb
   have hl0:l.toNat=0:=by omega
   have hu0:u.toNat=0:=by omega
   refine ⟨.slice none 0 0,w,H,E,?_,⟨hlv,by omega,by rw [hι,hl0,hu0];exact ⟨rfl,rfl,rfl⟩⟩,hC,Evol.refl _ _ _ _⟩
   have:=key none (by rw [hκ0];exact hv)
   simpa [hl0,hu0,hκ0] using this
 | some b =>
   rw [hι] at hm2
   obtain ⟨ad,hv,had⟩:=hm2
   have had0:=had.1 (.inl rfl)
   have:=key ad (by simpa using hv)
   refine ⟨_,w,H,E,this,⟨hlv,by omega,?_⟩,hC,Evol.refl _ _ _ _⟩
   rw [hι]
   refine ⟨_,rfl,⟨fun h3=>?_,?_⟩⟩
   · rw [had0]
     split
     · have:l.toNat=0:=by omega
       simp [this]
     · simp [addr_add]
   · rw [had0];split<;>simp
def cutUpL (P:Program) (rd:Nat->Blk) (o:Oper) (t:Nat->AV):Option CE:=match o.op with
 | .slice ty x lo (some hi) none=>(match P.underlying ty,sv (ev t x),bnd 0 (lo.map (ev fun i=>sv (t i))),bnd 0 (some (ev (fun i=>sv (t i)) hi)) with
   | some (.slice e),.own i sz 0 _,some l,some u=>(match sizeT P e,rd i with
     | some sz',.lst _ s2 m _ _=>(match Nat.beq sz' sz&&Nat.beq s2 sz with
       | true=>some ⟨.own i sz l.toNat (u.toNat - l.toNat),[i],[],[],[0<=l,l<=u,u<=(m:Int)]⟩
       | false=>none)
     | _,_=>none)
   | _,_,_,_=>none)
 | _=>none
theorem cutUpL_ok {P:Program} {o:Oper} {t:Nat->AV} {rd:Nat->Blk} {e:CE} (h:cutUpL P rd o t=some e) (ho:Hold e.ob):CE.Good P o t rd e:=by
 unfold cutUpL at h
 split at h
 case h_2=>cases h
 rename_i ty x lo hi hop
 split at h
 case h_2=>cases h
 rename_i el i sz n l u hu hx0 hl hu'
 split at h
 case h_2=>cases h
 rename_i sz' ty' s2 m cap' c' hsz hg
 split at h
 case h_2=>cases h
 rename_i hs
 simp only [Bool.and_eq_true,Nat.beq_eq] at hs
 obtain ⟨rfl,rfl⟩:=hs
 cases h
 have b0:=ho (0<=l) (by simp)
 have b1:=ho (l<=u) (by simp)
 have b2:=ho (u<=(m:Int)) (by simp)
 intro M hM
 refine runs_stepZ fun H E w a hC hT=>?_
 have hx:=rel_sv (rel_ev hT x)
 rw [hx0] at hx
 obtain ⟨ku,hku⟩:=bnd_int (relT_sv hT) hu'
 have hlo:=bnd_ok (relT_sv hT) hl
 have hB:=hC.blk i
 rw [hM i (by simp),hg] at hB
 obtain ⟨_,hn,_,_,hb⟩:=hB
 obtain ⟨hlv,hκ,hm2⟩:=hx
 have key:∀ A,a.eval x=.slice A n (E.κ i)->(execOp a.eval o).run P w=.ok (.value (.slice (if E.κ i=l.toNat then A else A.map (·.add (l.toNat*s2))) (u.toNat - l.toNat) (E.κ i - l.toNat))) w:=by
  intro A hv
  have hrun:=run_boundsU (P:=P) (n:=n) w (cap:=E.κ i) (ku:=ku) hlo b0 b1 (by omega)
  simp [execOp,hop,hv,Instr.sliceAt,run_underlying hu,Instr.slice,hku,hrun,run_sizeOf' w hsz]
 cases hι:E.ι i with
 | none =>
   rw [hι] at hm2 hb
   obtain ⟨_,rfl,hv⟩:=hm2
   have hκ0:E.κ i=0:=hb.1
   have hl0:l.toNat=0:=by omega
   have hu0:u.toNat=0:=by omega
   refine ⟨.slice none 0 0,w,H,E,?_,⟨hlv,by omega,by rw [hι,hl0,hu0];exact ⟨rfl,rfl,rfl⟩⟩,hC,Evol.refl _ _ _ _⟩
   have:=key none (by rw [hκ0];exact hv)
   simpa [hl0,hu0,hκ0] using this
 | some b =>
   rw [hι] at hm2
   obtain ⟨ad,hv,had⟩:=hm2
   have had0:=had.1 (.inl rfl)
   have:=key ad (by simpa using hv)
   refine ⟨_,w,H,E,this,⟨hlv,by omega,?_⟩,hC,Evol.refl _ _ _ _⟩
   rw [hι]
   refine ⟨_,rfl,⟨fun h3=>?_,?_⟩⟩
   · rw [had0]
     split
     · have:l.toNat=0:=by omega
       simp [this]
     · simp [addr_add]
   · rw [had0];split<;>simp
def noneOf:AV->Bool
 | .s (.slice none 0 0)=>true
 | .own _ _ _ n=>Nat.beq n 0
 | .ys _ _ n _=>Nat.beq n 0
 | .sl _ _ n _=>Nat.beq n 0
 | .yn _ _ n _=>Nat.beq n 0
 | _=>false
theorem noneOf_ok {a:AV} {H:HH} {E:Env} {v:Value} (h:noneOf a=true) (hr:Rel a H E v):∃ A c,v=.slice A 0 c:=by
 unfold noneOf at h
 split at h
 · obtain ⟨rfl,_⟩:=hr
   exact ⟨_,_,rfl⟩
 · have h:=Nat.eq_of_beq_eq_true h
   subst h
   obtain ⟨_,_,hm⟩:=hr
   split at hm
   · obtain ⟨a,rfl,_⟩:=hm
     exact ⟨_,_,rfl⟩
   · obtain ⟨_,_,rfl⟩:=hm
     exact ⟨_,_,rfl⟩
 · have h:=Nat.eq_of_beq_eq_true h
   subst h
   obtain ⟨a,c,rfl,_⟩:=hr
   exact ⟨_,_,rfl⟩
 · have h:=Nat.eq_of_beq_eq_true h
   subst h
   obtain ⟨a,c,rfl,_⟩:=hr
   exact ⟨_,_,rfl⟩
 · have h:=Nat.eq_of_beq_eq_true h
   subst h
   obtain ⟨a,c,rfl,_⟩:=hr
   exact ⟨_,_,rfl⟩
 · cases h
def appNoE (P:Program) (o:Oper) (t:Nat->AV):Option CE:=match o.op with
 | .call { callee:=.builtin .append,args,argTypes }=>(match argTypes.toList,args.toList with
   | [t1,t2],[s,x]=>(match P.underlying t1,sv (ev t s) with
     | some (.slice e),.own i sz lo n=>(match P.info? e with
       | some _=>(match t1==t2&&noneOf (sv (ev t x)) with
         | true=>some ⟨.own i sz lo n,[],[],[],[]⟩
         | false=>none)
       | _=>none)
     | _,_=>none)
   | _,_=>none)
 | _=>none
theorem run_append_no {P:Program} {w:World} {t oty el:TypeId} {inf:TypeInfo} {n cap c:Nat} {A B:Option Addr} (hu:P.underlying t=some (.slice el)) (hi:P.info? el=some inf) (hn:n<=cap) :
 (Builtin.append_ #[t,t] oty #[.slice B n cap,.slice A 0 c]).run P w=.ok (.slice B n cap) w:=by
 have hf:(Builtin.firstCells inf.size 0 (.slice A 0 c)).run P w=.ok #[] w:=by
  cases A with
  | none=>exact run_firstCells_none _ _ _ _ _
  | some ad=>exact run_firstCells_some _ _ _ ad _ _ [] (by simp) (by simp)
 cases B with
 | none=>simp [Builtin.append_,run_underlying hu,sizeOf,typeInfo,hi,Builtin.lenOf,hf,hn]
 | some b=>simp [Builtin.append_,run_underlying hu,sizeOf,typeInfo,hi,Builtin.lenOf,hf,hn,storeCells]
theorem appNoE_ok {P:Program} {o:Oper} {t:Nat->AV} {rd:Nat->Blk} {e:CE} (h:appNoE P o t=some e):CE.Good P o t rd e:=by
 unfold appNoE at h
 split at h
 case h_2=>cases h
 rename_i args ats hop
 split at h
 case h_2=>cases h
 rename_i t1 t2 s x hty hargs
 have h1:args=#[s,x]:=Array.ext' hargs
 have h2:ats=#[t1,t2]:=Array.ext' hty
 subst h1;subst h2
 split at h
 case h_2=>cases h
 rename_i el i sz lo n hu hs0
 split at h
 case h_2=>cases h
 rename_i inf hi
 split at h
 case h_2=>cases h
 rename_i hb
 cases h
 simp only [Bool.and_eq_true,beq_iff_eq] at hb
 obtain ⟨rfl,hx0⟩:=hb
 intro M hM
 refine runs_stepZ fun H E w a hC hT=>?_
 have hs:=rel_sv (rel_ev hT s)
 rw [hs0] at hs
 obtain ⟨A,c,hxv⟩:=noneOf_ok hx0 (rel_sv (rel_ev hT x))
 have hs':=hs
 obtain ⟨_,hη,hm2⟩:=hs
 cases hι:E.ι i with
 | none =>
   rw [hι] at hm2
   obtain ⟨_,rfl,hv⟩:=hm2
   refine ⟨_,w,H,E,?_,hs',hC,Evol.refl _ _ _ _⟩
   have:=run_append_no (P:=P) (w:=w) (A:=A) (c:=c) (B:=none) (n:=0) (cap:=0) (oty:=o.type) hu hi (Nat.le_refl 0)
   simp [execOp,hop,resolve,invoke,builtin,hv,hxv,this]
 | some b =>
   rw [hι] at hm2
   obtain ⟨ad,hv,_⟩:=hm2
   refine ⟨_,w,H,E,?_,hs',hC,Evol.refl _ _ _ _⟩
   have:=run_append_no (P:=P) (w:=w) (A:=A) (c:=c) (B:=ad) (n:=n) (cap:=E.κ i - lo) (oty:=o.type) hu hi (by omega)
   simp [execOp,hop,resolve,invoke,builtin,hv,hxv,this]
def putRow (n k:Nat) (c d:Nat->Nat->AV) (q j:Nat):AV:=if n<=q/\q<n+k then d (q - n) j else c q j
def inAppE (P:Program) (rd:Nat->Blk) (o:Oper) (t:Nat->AV):Option CE:=match o.op with
 | .call { callee:=.builtin .append,args,argTypes }=>(match argTypes.toList,args.toList with
   | [t1,t2],[s,x]=>(match P.underlying t1,sv (ev t s) with
     | some (.slice e),.own i sz 0 n=>(match P.info? e,zeroL P e,rd i with
       | some inf,some _,.row ty s2 m cap c=>(match t1==t2&&Nat.beq s2 sz&&Nat.beq inf.size sz&&Nat.ble 1 sz,srcOf rd sz (sv (ev t x)) with
         | true,some (k,none,d)=>some ⟨.own i sz 0 (n+k),i::refOf (sv (ev t x)),[(i,.row ty sz m cap (putRow n k c d))],[],[n+k<=m]⟩
         | _,_=>none)
       | _,_,_=>none)
     | _,_=>none)
   | _,_=>none)
 | _=>none
theorem run_append_in {P:Program} {w:World} {t ty el:TypeId} {inf:TypeInfo} {n k cap c:Nat} {b:Nat} {A:Option Addr} {cur:Array Value} {news:List Value} (hu:P.underlying t=some (.slice el)) (hi:P.info? el=some inf)
 (hb:w.heap[b]? = some (.cells cur ty (0,0))) (hnl:news.length=k*inf.size) (hA:A=none->k=0) (hcell:∀ ad,A=some ad->∀ j u,news[j]? = some u->w.cell? (ad.add j)=some u) (h1:ones news)
 (hn:n+k<=cap) (hs:(n+k)*inf.size<=cur.size) (oty:TypeId) :
 (Builtin.append_ #[t,t] oty #[.slice (some ⟨b,0,none⟩) n cap,.slice A k c]).run P w=.ok (.slice (some ⟨b,0,none⟩) (n+k) cap) (w.setRow b (cur.toList.take (n*inf.size)++news++cur.toList.drop (n*inf.size+news.length)).toArray):=by
 have hst:=run_storeCells_at P b (n*inf.size) ty news 0 cur w hb (by rw [Nat.add_mul] at hs;omega) h1
 simp only [Nat.add_zero] at hst
 have hadd:(⟨b,0,none⟩:Addr).add (n*inf.size)=⟨b,n*inf.size,none⟩:=by simp only [Addr.add];split<;>simp_all
 have hf:(Builtin.firstCells inf.size k (.slice A k c)).run P w=.ok news.toArray w:=by
  cases A with
  | none =>
    have:=hA rfl
    subst this
    have:news=[]:=List.eq_nil_of_length_eq_zero (by simpa using hnl)
    subst this
    exact run_firstCells_none _ _ _ _ _
  | some ad=>exact run_firstCells_some _ _ _ _ _ _ _ hnl (hcell ad rfl)
 simp [Builtin.append_,run_underlying hu,sizeOf,typeInfo,hi,Builtin.lenOf,hf,hn,hadd,hst]
theorem inAppE_ok {P:Program} {o:Oper} {t:Nat->AV} {rd:Nat->Blk} {e:CE} (h:inAppE P rd o t=some e) (ho:Hold e.ob):CE.Good P o t rd e:=by
 unfold inAppE at h
 split at h
 case h_2=>cases h
 rename_i args ats hop
 split at h
 case h_2=>cases h
 rename_i t1 t2 s x hty hargs
 have h1:args=#[s,x]:=Array.ext' hargs
 have h2:ats=#[t1,t2]:=Array.ext' hty
 subst h1;subst h2
 split at h
 case h_2=>cases h
 rename_i el i sz n hu hs0
 split at h
 case h_2=>cases h
 rename_i inf zl ty s2 m cap c hi hz hg
 split at h
 case h_2=>cases h
 rename_i k d hb hsrc
 cases h
 simp only [Bool.and_eq_true,beq_iff_eq,Nat.beq_eq,Nat.ble_eq] at hb
 obtain ⟨⟨⟨rfl,rfl⟩,hsz⟩,h0⟩:=hb
 have hm:=ho (n+k<=m) (by simp)
 intro M hM
 refine runs_stepZ fun H E w a hC hT=>?_
 have hs:=rel_sv (rel_ev hT s)
 rw [hs0] at hs
 have hx:=rel_sv (rel_ev hT x)
 rw [<- srcOf_congr (rd:=getM M) (fun j hj=>hM j (by simp [hj]))] at hsrc
 obtain ⟨A,c',news,hxv,hnl,hA,hcell,hones,_,hr2⟩:=srcOf_ok hC hx h0 hsrc
 have hr2:=hr2 rfl
 simp only at hxv hnl hA hr2
 have hB:=hC.blk i
 rw [hM i (by simp),hg] at hB
 obtain ⟨hlv,hn,hκ,hcap,hb⟩:=hB
 obtain ⟨_,hη,hm2⟩:=hs
 cases hι:E.ι i with
 | none =>
   rw [hι] at hm2 hb
   obtain ⟨_,rfl,hv⟩:=hm2
   have hκ0:E.κ i=0:=hb
   have hk0:k=0:=by omega
   subst hk0
   have hnn:news=[]:=List.eq_nil_of_length_eq_zero (by simpa using hnl)
   subst hnn
   refine ⟨.slice none 0 0,w,H,E,?_,⟨hlv,by omega,by rw [hι];exact ⟨rfl,rfl,rfl⟩⟩,?_,Evol.refl _ _ _ _⟩
   · have hf:∀ A c,(Builtin.firstCells inf.size 0 (.slice A 0 c)).run P w=.ok #[] w:=by
      intro A c
      cases A with
      | none=>exact run_firstCells_none _ _ _ _ _
      | some ad=>exact run_firstCells_some _ _ _ ad _ _ [] (by simp) (by simp)
     simp [execOp,hop,resolve,invoke,builtin,hv,hxv,Builtin.append_,run_underlying hu,sizeOf,typeInfo,hi,Builtin.lenOf,hf]
   · refine ⟨hC.imm,hC.tf,fun q=>?_,hC.injH,hC.sepH,hC.ltS⟩
     show BlkOk H E w q (getM (putM M i _) q)
     by_cases hq:i=q
     · subst hq
       rw [getM_put_same]
       refine ⟨hlv,hn,hκ,hcap,?_⟩
       rw [hι];exact hb
     · rw [getM_put_ne _ _ _ _ hq]
       exact hC.blk q
 | some b =>
   rw [hι] at hm2 hb
   obtain ⟨ad,hv,had⟩:=hm2
   have had:=had.1 (.inl rfl)
   rw [had] at hv
   simp only [Nat.zero_mul,Nat.sub_zero] at hv
   obtain ⟨vs,g1,g2,g3,g4⟩:=hb
   subst hsz
   have hq:(n+k)*inf.size<=m*inf.size:=Nat.mul_le_mul_right _ hm
   have hq2:m*inf.size<=E.κ i*inf.size:=Nat.mul_le_mul_right _ hn.2
   have hrun:=run_append_in (P:=P) (c:=c') (n:=n) (cap:=E.κ i) hu hi g1 hnl hA hcell hones (by omega) (by omega) o.type
   rw [Nat.add_mul] at hq
   have hget:∀ q,(vs.toList.take (n*inf.size)++news++vs.toList.drop (n*inf.size+news.length))[q]? = if n*inf.size<=q/\q<n*inf.size+k*inf.size then news[q - n*inf.size]? else vs[q]?:=by
    intro q
    have htl:(vs.toList.take (n*inf.size)).length=n*inf.size:=by rw [List.length_take,Array.length_toList];omega
    by_cases hq1:q<n*inf.size
    · rw [List.append_assoc,List.getElem?_append_left (by omega),List.getElem?_take,if_pos hq1,if_neg (by omega)];simp
    · by_cases hq2:q<n*inf.size+k*inf.size
      · rw [List.append_assoc,List.getElem?_append_right (by omega),List.getElem?_append_left (by omega),if_pos ⟨by omega,hq2⟩,htl]
      · rw [List.getElem?_append_right (by rw [List.length_append];omega),List.length_append,htl,List.getElem?_drop,if_neg (by omega),hnl]
        rw [show n*inf.size+k*inf.size+(q - (n*inf.size+k*inf.size))=q by omega];simp
   generalize hnew:vs.toList.take (n*inf.size)++news++vs.toList.drop (n*inf.size+news.length)=new at hrun hget
   have hnl2:new.length=vs.size:=by
    rw [<- hnew];simp [hnl];omega
   have hB2:BlkOk H E (w.setRow b new.toArray) i (.row ty inf.size m cap (putRow n k c d)):=by
    refine ⟨hlv,hn,hκ,hcap,?_⟩
    rw [hι]
    refine ⟨new.toArray,setRow_heap w b vs _ ty (0,0) g1,fun y hy=>?_,by simp [hnl2,g3],fun q hqm j hj=>?_⟩
    · obtain ⟨q,hq4⟩:=List.mem_iff_getElem?.1 hy
      rw [List.getElem?_take] at hq4
      split at hq4
      case isFalse=>cases hq4
      rename_i hqm
      simp only [List.toList_toArray] at hq4
      rw [hget] at hq4
      split at hq4
      · exact hones _ (List.mem_of_getElem? hq4)
      · refine g2 y ?_
        rw [List.mem_iff_getElem?]
        exact ⟨q,by rw [List.getElem?_take,if_pos hqm];simpa using hq4⟩
    · have hkm:(q+1)*inf.size<=m*inf.size:=Nat.mul_le_mul_right _ hqm
      rw [Nat.add_mul,Nat.one_mul] at hkm
      obtain ⟨y,hy,hr⟩:=g4 q hqm j hj
      simp only [List.getElem?_toArray]
      rw [hget]
      unfold putRow
      by_cases hkr:n<=q/\q<n+k
      · have a1:n*inf.size<=q*inf.size:=Nat.mul_le_mul_right _ hkr.1
        have a2:(q+1)*inf.size<=(n+k)*inf.size:=Nat.mul_le_mul_right _ hkr.2
        rw [Nat.add_mul,Nat.one_mul,Nat.add_mul] at a2
        rw [if_pos hkr,if_pos ⟨by omega,by omega⟩]
        obtain ⟨u,hu1,hu2⟩:=hr2 (q - n) (by omega) j hj
        refine ⟨u,?_,hu2⟩
        rw [<- hu1]
        congr 1
        rw [Nat.sub_mul];omega
      · rw [if_neg hkr,if_neg ?_]
        · exact ⟨y,hy,hr⟩
        · intro ⟨b1,b2⟩
          refine hkr ⟨?_,?_⟩
          · rcases Nat.lt_or_ge q n with h | h
            · have:(q+1)*inf.size<=n*inf.size:=Nat.mul_le_mul_right _ h
              rw [Nat.add_mul,Nat.one_mul] at this;omega
            · exact h
          · rcases Nat.lt_or_ge q (n+k) with h | h
            · exact h
            · have:(n+k)*inf.size<=q*inf.size:=Nat.mul_le_mul_right _ h
              rw [Nat.add_mul] at this;omega
   obtain ⟨hc,hev⟩:=hC.upd (w':=w.setRow b new.toArray) (o:=.cells new.toArray ty (0,0)) hlv hι ⟨rfl,rfl,rfl,by simp [World.setRow],setRow_heap w b vs _ ty (0,0) g1,fun k hk=>setRow_other w b k _ hk⟩ hB2
   refine ⟨.slice (some ⟨b,0,none⟩) (n+k) (E.κ i),_,H,E,by simp [execOp,hop,resolve,invoke,builtin,hv,hxv,hrun],⟨hlv,by omega,?_⟩,hc,hev⟩
   rw [hι]
   exact ⟨some ⟨b,0,none⟩,by simp,⟨fun _=>by simp,by simp⟩⟩
def partB (B:Blk) (sz n:Nat):Option (TypeId×Blk):=match B with
 | .lst ty s2 m _ cs=>(match Nat.beq s2 sz&&Nat.ble n m with | true=>some (ty,.lst ty sz n none (cs.take (n*sz))) | false=>none)
 | .row ty s2 _ _ c=>(match Nat.beq s2 sz with | true=>some (ty,.row ty sz n none c) | false=>none)
 | _=>none
def appPartE (P:Program) (rd:Nat->Blk) (o:Oper) (t:Nat->AV):Option CE:=match o.op with
 | .call { callee:=.builtin .append,args,argTypes }=>(match argTypes.toList,args.toList with
   | [t1,t2],[s,x]=>(match P.underlying t1,sv (ev t s) with
     | some (.slice e),.own a sz 0 n=>(match P.info? e,zeroL P e,partB (rd a) sz n,srcOf rd sz (sv (ev t x)) with
       | some inf,some z,some (ty,B),some src=>(match t1==t2&&Nat.beq inf.size sz&&Nat.ble 1 sz&&ty==e&&len z==sz,appBlk B n sz src with
         | true,some B'=>some ⟨.own a sz 0 (n+src.1),a::refOf (sv (ev t x)),killW [a] [(a,B')],[a],[n+src.1<=maxLen,(n+src.1)*inf.bytes<=140737488355328]⟩
         | _,_=>none)
       | _,_,_,_=>none)
     | _,_=>none)
   | _,_=>none)
 | _=>none
theorem relL_takeD {H:HH} {E:Env}:∀ {l:List AV} {vs:List Value} (n:Nat),RelL l H E vs->RelL (l.take n) H E (vs.take n)
 | _,_,0,_=>by simp [RelL]
 | [],_,n+1,h=>by
   have h:_=[]:=h
   subst h;simp [RelL]
 | _::_,_,n+1,h=>by
   obtain ⟨v,r,rfl,h1,h2⟩:=h
   exact ⟨v,_,rfl,h1,relL_takeD n h2⟩
theorem partB_ok {H:HH} {E:Env} {w:World} {a sz n:Nat} {B B1:Blk} {ty:TypeId} (hB:BlkOk H E w a B) (h:partB B sz n=some (ty,B1)) (hn:n<=E.η a) :
 E.κ a<=maxLen/\n<=E.κ a/\(match E.ι a with
  | none=>n=0->Cont H E sz n ty B1 []
  | some b=>∃ vs,w.heap[b]? = some (.cells vs ty (0,0))/\vs.size=E.κ a*sz/\ones (vs.toList.take (n*sz))/\Cont H E sz n ty B1 (vs.toList.take (n*sz))):=by
 unfold partB at h
 split at h
 · rename_i ty' s2 m cap cs
   split at h
   case h_2=>cases h
   rename_i hb
   simp only [Bool.and_eq_true,Nat.beq_eq,Nat.ble_eq] at hb
   obtain ⟨rfl,hnm⟩:=hb
   cases h
   obtain ⟨_,hm,hκ,_,hc⟩:=hB
   refine ⟨hκ,by omega,?_⟩
   cases hι:E.ι a with
   | none =>
     rw [hι] at hc
     obtain ⟨_,rfl⟩:=hc
     intro h0
     subst h0
     exact ⟨rfl,rfl,rfl,by simp [RelL]⟩
   | some b =>
     rw [hι] at hc
     obtain ⟨vs,g1,g2,g3,g4⟩:=hc
     have hle:n*s2<=m*s2:=Nat.mul_le_mul_right _ hnm
     refine ⟨vs,g1,g3,fun x hx=>g2 x (List.take_subset_take_left _ hle hx),rfl,rfl,rfl,?_⟩
     have:=relL_takeD (n*s2) g4
     rwa [List.take_take,Nat.min_eq_left hle] at this
 · rename_i ty' s2 m cap c
   split at h
   case h_2=>cases h
   rename_i hb
   have hb:s2=sz:=by simpa using hb
   subst hb
   cases h
   obtain ⟨_,hm,hκ,_,hc⟩:=hB
   refine ⟨hκ,by omega,?_⟩
   cases hι:E.ι a with
   | none =>
     intro h0
     subst h0
     exact ⟨rfl,rfl,rfl,fun k hk=>by omega⟩
   | some b =>
     rw [hι] at hc
     obtain ⟨vs,g1,g2,g3,g4⟩:=hc
     have hle:n*s2<=m*s2:=Nat.mul_le_mul_right _ (by omega)
     refine ⟨vs,g1,g3,fun x hx=>g2 x (List.take_subset_take_left _ hle hx),rfl,rfl,rfl,fun k hk j hj=>?_⟩
     obtain ⟨x,hx,hr⟩:=g4 k (by omega) j hj
     refine ⟨x,?_,hr⟩
     have hlt:k*s2+j<n*s2:=by
      have:(k+1)*s2<=n*s2:=Nat.mul_le_mul_right _ hk
      rw [Nat.add_mul,Nat.one_mul] at this;omega
     rw [List.getElem?_take_of_lt hlt,Array.getElem?_toList]
     exact hx
 · cases h
theorem appPartE_ok {P:Program} {o:Oper} {t:Nat->AV} {rd:Nat->Blk} {e:CE} (h:appPartE P rd o t=some e) (ho:Hold e.ob):CE.Good P o t rd e:=by
 unfold appPartE at h
 split at h
 case h_2=>cases h
 rename_i args ats hop
 split at h
 case h_2=>cases h
 rename_i t1 t2 s x hty hargs
 have h1:args=#[s,x]:=Array.ext' hargs
 have h2:ats=#[t1,t2]:=Array.ext' hty
 subst h1;subst h2
 split at h
 case h_2=>cases h
 rename_i el a sz n hu hs0
 split at h
 case h_2=>cases h
 rename_i inf zl ty B src hi hz hp hsrc
 split at h
 case h_2=>cases h
 rename_i B' hb happ
 cases h
 simp only [Bool.and_eq_true,beq_iff_eq,Nat.beq_eq,Nat.ble_eq,len_eq] at hb
 obtain ⟨⟨⟨⟨rfl,hsz⟩,h0⟩,rfl⟩,hzl⟩:=hb
 subst hsz
 have o1:=ho (n+src.1<=maxLen) (by simp)
 have o2:=ho ((n+src.1)*inf.bytes<=140737488355328) (by simp)
 intro M hM
 refine runs_stepZ fun H E w ac hC hT=>?_
 have hs:=rel_sv (rel_ev hT s)
 rw [hs0] at hs
 have hx:=rel_sv (rel_ev hT x)
 rw [<- srcOf_congr (rd:=getM M) (fun j hj=>hM j (by simp [hj]))] at hsrc
 have hB:=hC.blk a
 rw [hM a (by simp)] at hB
 obtain ⟨hlv,hη,hm⟩:=hs
 obtain ⟨hκ,hnκ,hcont⟩:=partB_ok hB hp (by omega)
 obtain ⟨i',zv,hi',hzv,hrz,_⟩:=zeroL_ok H E hz
 rw [hi] at hi';cases hi'
 have hzs:zv.cells.size=inf.size:=by have:=RelL.length hrz;simp at this;omega
 have fin:∀ xs:List Value,w.ownsRow 0 ty inf.size (ac.eval s) n xs->(ac.eval s).ownBlock=E.ι a->ones xs->Cont H E inf.size n ty B xs ->
  ∃ v w' H' E',(execOp ac.eval o).run P w=.ok (.value v) w'/\Rel (.own a inf.size 0 (n+src.1)) H' E' v/\Conc H' E' w' (applyW (killW [a] [(a,B')]) (killM [a] M))/\Evol [a] H E w H' E' w':=by
  intro xs hown hob hxs hct
  obtain ⟨u,w',E',hrun,hr,hc,hev⟩:=grow_good (ty:=o.type) (c:=0) hC hu hi hzv hzs (by omega) hlv hown hob hxs hct hx hsrc o1 o2 happ rfl
  refine ⟨u,w',H,E',by simp [execOp,hop,resolve,invoke,builtin,hrun],hr,hc.eqv fun k=>?_,hev⟩
  exact killW_eqv [a] [(a,B')] M k
 cases hι:E.ι a with
 | none =>
   rw [hι] at hm hcont
   obtain ⟨_,rfl,hv⟩:=hm
   exact fin [] (by rw [hv];exact ⟨by simp,.inl ⟨rfl,rfl⟩⟩) (by rw [hv];exact hι.symm) (fun y hy=>by cases hy) (hcont rfl)
 | some b =>
   rw [hι] at hm hcont
   obtain ⟨ad,hv,had⟩:=hm
   obtain ⟨vs,g1,g2,g3,g4⟩:=hcont
   rw [had.1 (.inl rfl)] at hv
   have hle:n*inf.size<=E.κ a*inf.size:=Nat.mul_le_mul_right _ hnκ
   refine fin _ ?_ (by rw [hv];exact hι.symm) g3 g4
   rw [hv]
   exact ⟨by simp;omega,.inr ⟨b,E.κ a,vs,by simp,Nat.zero_le _,g1,by omega,hκ,g2,rfl⟩⟩
def neqP:Value->Value->Prop
 | .int _ a,.int _ b=>¬ a=b
 | a,b=>keyB a b=false
theorem neqP_ok {a b:Value} (h:neqP a b):keyB a b=false:=by
 unfold neqP at h
 split at h
 · simpa [keyB] using h
 · exact h
def neqL (k:Value):List (Value×AV×Nat)->List Prop
 | []=>[]
 | e::r=>neqP k e.1::neqL k r
theorem neqL_ok {k:Value}:∀ {es:List (Value×AV×Nat)} (i:Nat),Hold (neqL k es)->mfindE k es i=none
 | [],_,_=>rfl
 | e::r,i,h=>by
   have h1:=neqP_ok (h _ (.head _))
   unfold mfindE
   rw [h1]
   exact neqL_ok (i+1) fun p hp=>h p (.tail _ hp)
def lookN (P:Program) (rd:Nat->Blk) (o:Oper) (t:Nat->AV):Option CE :=
 match o.op with
 | .lookup xt x idx ok=>(match keyD P xt,scV (ev t idx) with
   | some (d,_,et),some kv=>(match keyIs d kv,ev t x with
     | true,.mref i=>(match rd i,zeroAV P et with
       | .mp es _,some z=>(match allKeys d es with
         | true=>some ⟨tupOk ok z (.s (.bool false)),[i],[],[],neqL kv es⟩
         | false=>none)
       | _,_=>none)
     | _,_=>none)
   | _,_=>none)
 | _=>none
theorem lookN_ok {P:Program} {rd:Nat->Blk} {o:Oper} {t:Nat->AV} {e:CE} (h:lookN P rd o t=some e) (ho:Hold e.ob):CE.Good P o t rd e:=by
 unfold lookN at h
 split at h
 case h_2=>cases h
 rename_i xt x idx ok hop
 split at h
 case h_2=>cases h
 rename_i d kt et kv hkd hkv
 obtain ⟨hm,hk⟩:=keyD_ok hkd
 split at h
 case h_2=>cases h
 rename_i i hkis hx
 have hkey:=keyIs_ok hkis
 split at h
 case h_2=>cases h
 rename_i es ck z hg hz
 split at h
 case h_2=>cases h
 rename_i hall
 cases h
 have hf:=neqL_ok 0 ho
 intro M hM
 refine runs_stepZ fun H E w a hC hT=>?_
 have h1:=rel_ev hT x
 rw [hx] at h1
 obtain ⟨hl,b,hb,hv⟩:=h1
 have h2:=scV_ok hkv (rel_ev hT idx)
 have hB:=hC.blk i
 rw [hM i (by simp),hg] at hB
 obtain ⟨_,b',ms,g1,g2,g3,g4⟩:=hB
 rw [hb] at g1;cases g1
 rcases find_ok hkey 0 g3 g4 hall with ⟨_,q2⟩ | ⟨j',e',a',q1,q2,q3,q4,q5⟩
 · obtain ⟨zv,hz1,hz2⟩:=zeroAV_ok H E w hz
   exact ⟨_,w,H,E,by simp [execOp,hop,hv,h2,run_lookup hm hk g2 hkey q2 (fun _=>hz1)],tupOk_rel hz2 (.inl rfl),hC,Evol.refl _ _ _ _⟩
 · rw [hf] at q1;cases q1
end Go.Ax
