import Derived.Test.YtffkiommagljeaaGreatDoorE16
set_option linter.unusedVariables false
set_option linter.unusedSimpArgs false
set_option linter.unusedSectionVars false
namespace Go.Ax
open Go
variable [Inhabited Gl0]
def keepIn (L:List Nat) (i:Nat):Option Nat:=match mem L i with | true=>some i | false=>none
def cutF (L:List Nat) (rd:Nat->Blk):Nat->Nat->List Blk
 | _,0=>[]
 | i,n+1=>(match mem L i with | true=>renB (keepIn L) (rd i) | false=>.dead)::cutF L rd (i+1) n
theorem getM_cutF (L:List Nat) (rd:Nat->Blk):∀ (n i j:Nat),getM (cutF L rd i n) j=if j<n then (match mem L (i+j) with | true=>renB (keepIn L) (rd (i+j)) | false=>.dead) else .dead
 | 0,i,j=>by simp [cutF,getM_nil]
 | n+1,i,0=>by simp [cutF,getM]
 | n+1,i,j+1=>by
   simp only [cutF,getM,getM_cutF L rd n (i+1) j,Nat.add_lt_add_iff_right]
   rw [show i+1+j=i+(j+1) by omega]
def lowDead (L:List Nat) (nid:Nat):Nat->List Blk->Bool
 | _,[]=>true
 | i,B::r=>(match Nat.ble nid i with | true=>true | false=>mem L i||(match B with | .dead=>true | _=>false))&&lowDead L nid (i+1) r
theorem lowDead_ok {L:List Nat} {nid:Nat}:∀ {M:List Blk} {p:Nat},lowDead L nid p M=true->∀ j,p+j<nid->mem L (p+j)=false->getM M j=.dead
 | [],p,_,j,_,_=>getM_nil j
 | B::r,p,h,0,hj,hm=>by
   simp only [lowDead,Bool.and_eq_true] at h
   have hn:Nat.ble nid p=false:=by
    cases hb:Nat.ble nid p with
    | false=>rfl
    | true=>have:=Nat.le_of_ble_eq_true hb;omega
   rw [hn] at h
   simp only [Bool.or_eq_true] at h
   have hm:mem L p=false:=hm
   rw [hm] at h
   simp only [getM]
   cases B<;>simp at h<;>rfl
 | B::r,p,h,j+1,hj,hm=>by
   simp only [lowDead,Bool.and_eq_true] at h
   exact lowDead_ok h.2 j (by omega) (by rw [show p+1+j=p+(j+1) by omega];exact hm)
def pairs (M:List Blk):List Nat->List (Nat×Blk)
 | []=>[]
 | i::r=>(i,getM M i)::pairs M r
def upFrom (a:Nat):Nat->List Nat
 | 0=>[]
 | n+1=>a::upFrom (a+1) n
theorem mem_upFrom:∀ {n a i:Nat},mem (upFrom a n) i=true↔a<=i/\i<a+n
 | 0,a,i=>by simp [upFrom,mem]
 | n+1,a,i=>by
   simp only [upFrom,mem,Bool.or_eq_true,Nat.beq_eq,mem_upFrom (n:=n)]
   omega
theorem lastW_pairs (M:List Blk) (j:Nat):∀ (l:List Nat),lastW (pairs M l) j=match mem l j with | true=>some (getM M j) | false=>none
 | []=>rfl
 | i::r=>by
   simp only [pairs,lastW,lastW_pairs M j r,mem]
   cases hm:mem r j with
   | true=>simp
   | false =>
     by_cases hij:i=j
     · subst hij;simp
     · have:Nat.beq i j=false:=by
        cases hb:Nat.beq i j with
        | false=>rfl
        | true=>exact absurd (Nat.eq_of_beq_eq_true hb) hij
       simp [hij,this]
theorem ids_pairs (M:List Blk):∀ l,ids (pairs M l)=l
 | []=>rfl
 | i::r=>by simp [pairs,ids,ids_pairs M r]
theorem lastW_append (a b:List (Nat×Blk)) (j:Nat):lastW (a++b) j=match lastW b j with | some B=>some B | none=>lastW a j:=by
 induction a with
 | nil=>simp only [List.nil_append,lastW];cases lastW b j<;>rfl
 | cons p r ih =>
   obtain ⟨i,B⟩:=p
   simp only [List.cons_append,lastW,ih]
   cases lastW b j<;>rfl
def inL (L:List Nat) (nid n j:Nat):Bool:=mem L j||(Nat.ble nid j&&Nat.blt j n)
def wrS (L:List Nat) (nid:Nat) (M':List Blk):List (Nat×Blk):=pairs M' L++pairs M' (upFrom nid (len M' - nid))
theorem lastW_wrS (L:List Nat) (nid:Nat) (M':List Blk) (j:Nat):lastW (wrS L nid M') j=match inL L nid (len M') j with | true=>some (getM M' j) | false=>none:=by
 unfold wrS
 rw [lastW_append,lastW_pairs,lastW_pairs]
 have e:mem (upFrom nid (len M' - nid)) j=(Nat.ble nid j&&Nat.blt j (len M')):=by
  rw [Bool.eq_iff_iff,mem_upFrom]
  simp only [Bool.and_eq_true,Nat.ble_eq,Nat.blt_eq]
  omega
 rw [e,inL]
 cases (Nat.ble nid j&&Nat.blt j (len M'))<;>cases mem L j<;>rfl
def inOnly (L:List Nat):List Nat->List Nat->List Nat
 | acc,[]=>acc
 | acc,i::r=>match mem L i&&!mem acc i with | true=>inOnly L (i::acc) r | false=>inOnly L acc r
theorem inOnly_ok {L:List Nat}:∀ {l acc:List Nat},(∀ i∈acc,i∈inOnly L acc l)/\∀ i∈l,mem L i=true->i∈inOnly L acc l
 | [],acc=>⟨fun _ h=>h,fun _ h=>by cases h⟩
 | j::r,acc=>by
   simp only [inOnly]
   split
   · obtain ⟨h1,h2⟩:=inOnly_ok (L:=L) (l:=r) (acc:=j::acc)
     refine ⟨fun i hi=>h1 i (by simp [hi]),fun i hi hm=>?_⟩
     rcases List.mem_cons.1 hi with rfl | hi
     · exact h1 i (by simp)
     · exact h2 i hi hm
   · rename_i hc
     obtain ⟨h1,h2⟩:=inOnly_ok (L:=L) (l:=r) (acc:=acc)
     refine ⟨h1,fun i hi hm=>?_⟩
     rcases List.mem_cons.1 hi with rfl | hi
     · rw [hm,Bool.true_and,Bool.not_eq_false'] at hc
       exact h1 i (mem_iff.1 hc)
     · exact h2 i hi hm
theorem ACall.sub {P:Program} {f:FuncId} {args:List AV} {r:AV} {mv mv' L:List Nat} {nid:Nat} {M M':List Blk} {rd:Nat->Blk} (hM:∀ i∈L,getM M i=rd i) (hL:∀ i∈L,i<nid)
 (h:ACall P f (renL (keepIn L) args) (cutF L rd 0 nid) r M' mv) (hlow:lowDead L nid 0 M'=true) (hnew:∀ j,nid<=j->j<len M'->getM M j=.dead) (hmv:∀ i∈mv,mem L i=true->i∈mv') :
 ACall P f args M r (applyW (wrS L nid M') (killM mv' M)) mv':=by
 intro H E w vals hC hargs
 have hvia:E.via ⟨fun i=>mem L i&&E.lv i,E.ι,E.κ,E.η,E.σ⟩ (keepIn L):=by
  intro i j hij hl
  unfold keepIn at hij
  split at hij
  · rename_i hm
    cases hij
    exact ⟨by simp [hm,hl],rfl,rfl,rfl⟩
  · cases hij
 have hcut:∀ {i b:Nat},Env.has ⟨fun i=>mem L i&&E.lv i,E.ι,E.κ,E.η,E.σ⟩ i b->mem L i=true/\E.has i b:=by
  rintro i b ⟨h1,h2⟩
  simp only [Bool.and_eq_true] at h1
  exact ⟨h1.1,h1.2,h2⟩
 have hCL:Conc H ⟨fun i=>mem L i&&E.lv i,E.ι,E.κ,E.η,E.σ⟩ w (cutF L rd 0 nid):=by
  refine ⟨hC.imm,hC.tf,fun i=>?_,fun i j b hi hj=>hC.injH i j b (hcut hi).2 (hcut hj).2,fun i b hi=>hC.sepH i b (hcut hi).2,fun i b hi hib=>hC.ltH (hcut ⟨hi,.inr hib⟩).2⟩
  · rw [getM_cutF,Nat.zero_add]
    by_cases hi:i<nid
    · rw [if_pos hi]
      cases hm:mem L i with
      | false=>simp only [BlkOk,hm,Bool.false_and]
      | true =>
        simp only []
        rw [<- hM i (mem_iff.1 hm)]
        exact (hC.blk i).move (HH.le_refl _) hvia (by simp [hm]) rfl rfl rfl (fun _=>Iff.rfl) fun _ _=>rfl
    · rw [if_neg hi]
      cases hm:mem L i with
      | false=>simp only [BlkOk,hm,Bool.false_and]
      | true=>exact absurd (hL i (mem_iff.1 hm)) hi
 refine (h H _ w vals hCL (RelL.ren _ hvia hargs)).mono ?_
 rintro e w1 ⟨v,H1,E1,rfl,hr,hC1,hE1⟩
 have hin:∀ j,E1.lv j=true->inL L nid (len M') j=true:=by
  intro j hl
  have h1:=hC1.live_lt hl
  unfold inL
  cases hm:mem L j with
  | true=>rfl
  | false =>
    simp only [Bool.false_or,Bool.and_eq_true,Nat.ble_eq,Nat.blt_eq]
    refine ⟨?_,h1⟩
    rcases Nat.lt_or_ge j nid with h2 | h2
    · have h3:=lowDead_ok hlow j (by omega) (by rw [Nat.zero_add];exact hm)
      have h4:=hC1.blk j
      rw [h3] at h4
      rw [show E1.lv j=false from h4] at hl;cases hl
    · exact h2
 have hout:∀ j,E.lv j=true->mem L j=false->inL L nid (len M') j=false:=by
  intro j hl hm
  unfold inL
  rw [hm,Bool.false_or]
  cases hb:(Nat.ble nid j&&Nat.blt j (len M')) with
  | false=>rfl
  | true =>
    simp only [Bool.and_eq_true,Nat.ble_eq,Nat.blt_eq] at hb
    have h4:=hC.blk j
    rw [hnew j hb.1 hb.2] at h4
    rw [show E.lv j=false from h4] at hl;cases hl
 let E':Env:=⟨fun j=>if inL L nid (len M') j then E1.lv j else E.lv j,fun j=>if inL L nid (len M') j then E1.ι j else E.ι j,fun j=>if inL L nid (len M') j then E1.κ j else E.κ j,fun j=>if inL L nid (len M') j then E1.η j else E.η j,fun j x=>if inL L nid (len M') j then E1.σ j x else E.σ j x⟩
 have ein:∀ j,inL L nid (len M') j=true->E'.lv j=E1.lv j/\E'.ι j=E1.ι j/\E'.κ j=E1.κ j/\E'.η j=E1.η j:=fun j hj=>by simp [E',hj]
 have eout:∀ j,inL L nid (len M') j=false->E'.lv j=E.lv j/\E'.ι j=E.ι j/\E'.κ j=E.κ j/\E'.η j=E.η j:=fun j hj=>by simp [E',hj]
 have hvia1:E1.via E' some:=by
  intro i j hij hl
  cases hij
  obtain ⟨e1,e2⟩:=ein i (hin i hl)
  exact ⟨e1.trans hl,e2⟩
 have hviaE:E.via E' (keepOf mv'):=by
  intro i j hij hl
  unfold keepOf at hij
  split at hij
  · cases hij
  rename_i hn
  cases hij
  have hn:i ∉ mv':=by simpa using hn
  cases hm:mem L i with
  | true =>
    obtain ⟨a1,a2,a3,a4⟩:=hE1.ids i (by simp [hm,hl]) fun hi=>hn (hmv i hi hm)
    obtain ⟨e1,e2,e3,e4⟩:=ein i (by simp [inL,hm])
    exact ⟨e1.trans a1,e2.trans a2,e3.trans a3,e4.trans a4⟩
  | false =>
    obtain ⟨e1,e2⟩:=eout i (hout i hl hm)
    exact ⟨e1.trans hl,e2⟩
 have hcase:∀ j b,E'.has j b->(inL L nid (len M') j=true/\E1.has j b)∨(mem L j=false/\E.has j b):=by
  intro j b hl
  cases hj:inL L nid (len M') j with
  | true =>
    refine .inl ⟨rfl,?_⟩
    simpa [Env.has,E',hj] using hl
  | false =>
    refine .inr ⟨?_,by simpa [Env.has,E',hj] using hl⟩
    cases hm:mem L j with
    | false=>rfl
    | true=>simp [inL,hm] at hj
 have hcross:∀ i j b,E1.has i b->mem L j=false->E.has j b->False:=by
  intro i j b h1 h3 h4
  rcases hE1.own i b h1 with ⟨k,hk⟩ | h6
  · obtain ⟨hk1,hk2⟩:=hcut hk
    have:=hC.injH k j b hk2 h4
    subst this
    rw [h3] at hk1;cases hk1
  · have:=hC.ltH h4;omega
 refine ⟨v,H1,E',rfl,?_,⟨hC1.imm,hC1.tf,fun j=>?_,fun i j b hi hj=>?_,fun i b hi=>?_,fun i b hi hib=>?_⟩,⟨hE1.os,hE1.tape,hE1.output,hE1.size,fun b hb hn=>hE1.keep b hb fun i hl=>hn i (hcut hl).2,fun i b hi=>?_,hE1.hh,fun c b o ho=>by
  rcases hE1.new c b o ho with h | h | ⟨k,hk⟩
  · exact .inl h
  · exact .inr (.inl h)
  · exact .inr (.inr ⟨k,(hcut hk).2⟩),fun i hl hn=>?_⟩⟩
 · have:=Rel.ren _ hvia1 hr
   rwa [ren_some] at this
 · rw [getM_applyW,lastW_wrS,getM_kill]
   cases hj:inL L nid (len M') j with
   | true =>
     obtain ⟨e1,e2,e3,e4⟩:=ein j hj
     have:=(hC1.blk j).move (f:=some) (w':=w1) (i':=j) (HH.le_refl _) hvia1 e1 e2 e3 e4 (fun b=>by simp [E',hj]) fun _ _=>rfl
     rwa [renB_some] at this
   | false =>
     obtain ⟨e1,e2,e3,e4⟩:=eout j hj
     refine (hC.blk j).move hE1.hh hviaE e1 e2 e3 e4 (fun b=>by simp [E',hj]) fun b hb=>hE1.keep b (hC.ltH hb) fun i hi=>?_
     obtain ⟨hk1,hk2⟩:=hcut hi
     have:=hC.injH i j b hk2 hb
     subst this
     simp [inL,hk1] at hj
 · rcases hcase i b hi with ⟨_,a1⟩ | ⟨h1,a1⟩<;>rcases hcase j b hj with ⟨_,b1⟩ | ⟨h2,b1⟩
   · exact hC1.injH i j b a1 b1
   · exact (hcross i j b a1 h2 b1).elim
   · exact (hcross j i b b1 h1 a1).elim
   · exact hC.injH i j b a1 b1
 · rcases hcase i b hi with ⟨_,a1⟩ | ⟨h1,a1⟩
   · exact hC1.sepH i b a1
   · cases hx:H1 false b with
     | none=>rfl
     | some o =>
       rcases hE1.new false b o hx with h | h | ⟨k,hk⟩
       · rw [hC.sepH i b a1] at h;cases h
       · have:=hC.ltH a1;omega
       · obtain ⟨hk1,hk2⟩:=hcut hk
         have:=hC.injH k i b hk2 a1
         subst this
         rw [h1] at hk1;cases hk1
 · rcases hcase i b ⟨hi,.inr hib⟩ with ⟨_,a1⟩ | ⟨_,a1⟩
   · exact hC1.ltH a1
   · have:=hC.ltH a1;have:=hE1.size;omega
 · rcases hcase i b hi with ⟨_,a1⟩ | ⟨_,a1⟩
   · rcases hE1.own i b a1 with ⟨k,hk⟩ | h
     · exact .inl ⟨k,(hcut hk).2⟩
     · exact .inr h
   · exact .inl ⟨i,a1⟩
 · have:=hviaE i i (by unfold keepOf;rw [if_neg (by simpa using hn)]) hl
   exact this
end Go.Ax
