import Derived.Lib.AppendStr
import Derived.Lib.ConvBytes
import Derived.Test.YtffkiommagljeaaGreatDoorE28
set_option linter.unusedVariables false
set_option linter.unusedSimpArgs false
set_option linter.unusedSectionVars false
namespace Go.Ax
open Go
variable [Inhabited Gl0]
def bytesC (s:ByteArray) (k:Nat) (_:Nat):AV:=.y (.int .u8 ((s.data.toList.getD k 0).toNat))
def HH.plus (H:HH) (b0:Nat) (o0:Obj):HH:=fun x b=>match Nat.beq b b0 with | true=>some o0 | false=>H x b
theorem HH.plus_same (H:HH) (b0:Nat) (o0:Obj) (x:Bool):H.plus b0 o0 x b0=some o0:=by simp [HH.plus]
theorem HH.plus_ne (H:HH) {b0 b:Nat} (o0:Obj) (x:Bool) (h:b≠b0):H.plus b0 o0 x b=H x b:=by
 have:Nat.beq b b0=false:=by
  cases hb:Nat.beq b b0
  · rfl
  · exact absurd (Nat.eq_of_beq_eq_true hb) h
 simp [HH.plus,this]
theorem fresh_imm {H:HH} {E:Env} {w w':World} {M:List Blk} {o0:Obj} (hC:Conc H E w M) (hos:w'.os=w.os) (ht:w'.tape=w.tape) (hout:w'.output=w.output) (hs:w.heap.size<=w'.heap.size)
 (hk:∀ b,b<w.heap.size->w'.heap[b]? = w.heap[b]?) (ho:w'.heap[w.heap.size]? = some o0) :
 Conc (H.plus w.heap.size o0) E w' M/\Evol [] H E w (H.plus w.heap.size o0) E w':=by
 have hlt:∀ x b o,H x b=some o->b<w.heap.size:=by
  intro x b o hb
  refine IH.lt_of hC.imm (b:=b) (o:=o) ?_
  cases x
  · exact hb
  · exact hC.tf.1 b o hb
 have hle:H.le (H.plus w.heap.size o0):=by
  intro x b o hb
  rw [HH.plus_ne H o0 x (by have:=hlt x b o hb;omega)]
  exact hb
 have hcase:∀ x b o,H.plus w.heap.size o0 x b=some o->(b=w.heap.size/\o=o0)∨H x b=some o:=by
  intro x b o hb
  by_cases h:b=w.heap.size
  · subst h
    rw [HH.plus_same] at hb
    cases hb
    exact .inl ⟨rfl,rfl⟩
  · rw [HH.plus_ne H o0 x h] at hb
    exact .inr hb
 refine ⟨⟨fun b o hb=>?_,hC.tf.up hle (fun b o hb=>?_),fun i=>?_,hC.injH,fun i b hb=>?_,fun i b hl hb=>Nat.lt_of_lt_of_le (hC.ltS i b hl hb) hs⟩,⟨hos,ht,hout,hs,fun b hb _=>hk b hb,fun i b hb=>.inl ⟨i,hb⟩,hle,fun x b o hb=>?_,fun i hl _=>⟨hl,rfl,rfl,rfl⟩⟩⟩
 · rcases hcase false b o hb with ⟨rfl,rfl⟩ | h
   · exact ho
   · exact (hk b (hlt _ _ _ h)).trans (hC.imm b o h)
 · rcases hcase true b o hb with ⟨rfl,rfl⟩ | h
   · exact HH.plus_same _ _ _ _
   · exact hle false b o (hC.tf.1 b o h)
 · have:=(hC.blk i).move (f:=some) (H':=H.plus w.heap.size o0) (E':=E) (w':=w') (i':=i) hle (fun a c hc hl=>by cases hc;exact ⟨hl,rfl,rfl,rfl⟩) rfl rfl rfl rfl (fun _=>Iff.rfl) fun b hb=>hk b (hC.ltH hb)
   rwa [renB_some] at this
 · rw [HH.plus_ne H o0 false (by have:=hC.ltH hb;omega)]
   exact hC.sepH i b hb
 · rcases hcase x b o hb with ⟨rfl,rfl⟩ | h
   · exact .inr (.inl (Nat.le_refl _))
   · exact .inl h
def strB (P:Program) (o:Oper) (t:Nat->AV):Option CE:=match o.op with
 | .convert src dst x=>(match P.underlying src,P.underlying dst with
   | some _,some (.slice el)=>(match P.underlying el,scV (ev t x) with
     | some (.int .u8),some (.string s)=>some ⟨.ys true 1 s.size (bytesC s),[],[],[],[]⟩
     | _,_=>none)
   | _,_=>none)
 | _=>none
theorem strB_ok {P:Program} {o:Oper} {t:Nat->AV} {rd:Nat->Blk} {e:CE} (h:strB P o t=some e):CE.Good P o t rd e:=by
 unfold strB at h
 split at h
 case h_2=>cases h
 rename_i src dst x hop
 split at h
 case h_2=>cases h
 rename_i u el hsrc hdst
 split at h
 case h_2=>cases h
 rename_i s hel hs
 cases h
 intro M hM
 refine runs_stepZ fun H E w a hC hT=>?_
 have hx:=scV_ok hs (rel_ev hT x)
 have hrun:=Lib.run_convert_string_bytes (P:=P) w src dst el s hsrc hdst hel
 obtain ⟨hc,hev⟩:=fresh_imm (w':=Lib.bytesWorld w el s) hC (by rfl) (by rfl) (by rfl) (by rw [Lib.bytesWorld_size];omega) (fun b hb=>Lib.bytesWorld_at_old w el s b hb) (Lib.bytesWorld_at_new w el s)
 refine ⟨.slice (some ⟨w.heap.size,0,none⟩) s.size (grownCap w s.size 0 el),Lib.bytesWorld w el s,_,E,by simp [execOp,hop,hx,hrun],?_,hc,hev⟩
 refine ⟨_,_,rfl,⟨grownCap_ge w s.size 0 el,fun h=>by cases h⟩,fun _=>⟨_,rfl,fun k hk j hj=>?_⟩⟩
 obtain rfl:j=0:=by omega
 refine ⟨.int .u8 ((s.data.toList.getD k 0).toNat),?_,rfl,rfl,rfl⟩
 have hcell:=Lib.bytesWorld_cell w el s k hk
 have e1:(⟨w.heap.size,0,none⟩:Addr).add (k*1+0)=⟨w.heap.size,k,none⟩:=by simp only [Addr.add];split<;>simp_all
 rw [e1]
 unfold World.cell? at hcell
 unfold IH.cell?
 rw [HH.plus_same]
 rw [Lib.bytesWorld_at_new] at hcell
 simpa using hcell
def negE (o:Oper) (t:Nat->AV):Option CE:=match o.op with
 | .unOp .neg _ x=>(match scV (ev t x) with
   | some (.int k n)=>some ⟨.y (.int k (k.wrap (0 - n))),[],[],[],[]⟩
   | _=>none)
 | _=>none
theorem negE_ok {P:Program} {o:Oper} {t:Nat->AV} {rd:Nat->Blk} {e:CE} (h:negE o t=some e):CE.Good P o t rd e:=by
 unfold negE at h
 split at h
 case h_2=>cases h
 rename_i ty x hop
 split at h
 case h_2=>cases h
 rename_i k n hs
 cases h
 intro M hM
 refine runs_stepZ fun H E w a hC hT=>?_
 have hx:=scV_ok hs (rel_ev hT x)
 exact ⟨.int k (k.wrap (0 - n)),w,H,E,by simp [execOp,hop,hx,Op.unary,Op.intArith],⟨rfl,rfl⟩,hC,Evol.refl _ _ _ _⟩
theorem grow_any {H:HH} {E:Env} {w w':World} {M:List Blk} {el:TypeId} {a n m sz:Nat} {B':Blk} {v':Value} {xs news:List Value} (hC:Conc H E w M) (hl:E.lv a=true) (hxs:ones xs) (hones:ones news)
 (hown':w'.ownsRow 0 el sz v' (n+m) (xs++news)) (hgrow:w.grownBy w' (E.ι a)) (hat:∀ g,v'.ownBlock=some g->E.ι a=some g∨w.heap.size<=g) (hc2:Cont H E sz (n+m) el B' (xs++news)) (hcap:capOf B'=none) :
 ∃ E',Rel (.own a sz 0 (n+m)) H E' v'/\Conc H E' w' (killM [a] (putM M a B'))/\Evol [a] H E w H E' w':=by
 obtain ⟨bo,κ,hbo,hnκ,hκm,hv',hblk,hbn⟩:=owns_form hown'
 obtain ⟨e1,e2,e3,e4⟩:=E.set_same a bo κ (n+m)
 have hvia:E.via (E.set a bo κ (n+m)) (keepOf [a]):=by
  intro p q hpq hlp
  unfold keepOf at hpq
  split at hpq
  · cases hpq
  · rename_i hn
    cases hpq
    obtain ⟨f1,f2,f3⟩:=E.set_ne a p bo κ (n+m) (by simpa using hn)
    exact ⟨f1.trans hlp,f2,f3⟩
 have hB:BlkOk H (E.set a bo κ (n+m)) w' a (renB (keepOf [a]) B'):=by
  refine cont_blk (cont_ren hvia hc2) (by rw [capOf_ren];exact hcap) e1 (by rw [e3,e4];exact ⟨rfl,hnκ⟩) (by rw [e3];exact hκm) (fun y hy=>?_) (by rw [e2,e3];exact hblk)
  rcases List.mem_append.1 hy with hy | hy
  · exact hxs y hy
  · exact hones y hy
 obtain ⟨hconc,hev⟩:=hC.move hl hgrow (bo':=bo) (κ':=κ) (η':=n+m) (fun g hg=>hat g (hbo.trans hg)) hB
 refine ⟨E.set a bo κ (n+m),⟨e1,by rw [e3,e4];omega,?_⟩,hconc,hev⟩
 rw [e2,e3]
 cases bo with
 | none=>exact ⟨rfl,by have:=hbn rfl;omega,hv'⟩
 | some b=>exact ⟨_,hv',⟨fun _=>by simp,by simp⟩⟩
theorem appS_run {P:Program} {w:World} {t u ty e:TypeId} {i:TypeInfo} (ht:P.underlying t=some (.slice e)) (hu:P.underlying u=some .string) (hi:P.info? e=some i) (hz:i.zero=some (.int .u8 0)) (hsize:i.size=1) (hby:i.bytes=1)
 {v:Value} {n:Nat} {xs:List Value} (hown:w.ownsRow 0 e 1 v n xs) (s:ByteArray) (h63:n+s.size<=maxLen) (hbytes:n+s.size<=140737488355328) :
 ∃ v' w',(Builtin.append_ #[t,u] ty #[v,.string s]).run P w=.ok v' w'/\w'.ownsRow 0 e 1 v' (n+s.size) (xs++Lib.strCells s)/\w.grownBy w' v.ownBlock/\∀ g,v'.ownBlock=some g->v.ownBlock=some g∨w.heap.size<=g:=by
 have hsmall:n+s.size<=9223372036854775807:=by simp only [maxLen] at h63;omega
 have hxl:xs.length=n:=by simpa using hown.1
 rcases hown.2 with ⟨rfl,rfl⟩ | ⟨g,cap,cur,rfl,hbg,hg,hnc,hcm,hcs,htake⟩
 · have hx:xs=[]:=List.eq_nil_of_length_eq_zero hxl
   subst hx
   obtain ⟨v',w',h1,h2,h3,_⟩:=Lib.run_append_own_string (P:=P) w w.heap.size t u ty e i ht hu hi hz hsize hby (.slice none 0 0) 0 [] (World.ownsRow_nil w _ e 1) s h63 hbytes (Nat.le_refl _)
   refine ⟨v',w',h1,⟨h2.1,?_⟩,h3,fun g hg=>?_⟩
   · rcases h2.2 with h | ⟨g,cap,cur,a1,_,a3⟩
     · exact .inl h
     · exact .inr ⟨g,cap,cur,a1,Nat.zero_le _,a3⟩
   · rcases h2.2 with ⟨rfl,_⟩ | ⟨g',cap,cur,rfl,hb,_⟩
     · cases hg
     · have hg:some g'=some g:=hg
       cases hg
       exact .inr hb
 · obtain ⟨v',w',h1,h2,h3,_⟩:=Lib.run_append_own_string (P:=P) w 0 t u ty e i ht hu hi hz hsize hby (.slice (some ⟨g,0,none⟩) n cap) n xs hown s h63 hbytes (Nat.zero_le _)
   refine ⟨v',w',h1,h2,h3,fun g' hg'=>?_⟩
   by_cases hroom:n+s.size<=cap
   · have hcs':cur.size=cap:=by simpa using hcs
     have hr:=Lib.run_append_room_string (P:=P) w t u ty e i ht hu hi hsize g n cap cur hg s hroom (by omega)
     rw [hr] at h1
     cases h1
     exact .inl hg'
   · have holds:∀ j u,xs[j]? = some u->w.cell? ((⟨g,0,none⟩:Addr).add j)=some u:=hown.cells (g:=g) rfl
     have hr:=Lib.run_append_grow_string (P:=P) w t u ty e i (.int .u8 0) ht hu hi hz ⟨g,0,none⟩ n cap xs (by rw [hsize];simpa using hxl) holds s (by omega) (by omega) (by rw [hby];exact growslice_fits (by omega) (by omega))
     rw [hr] at h1
     cases h1
     have hg':some w.heap.size=some g':=hg'
     cases hg'
     exact .inr (Nat.le_refl _)
def zeroU8 (i:TypeInfo):Bool:=match i.zero with | some (.int .u8 z)=>decide (z=0) | _=>false
theorem zeroU8_ok {i:TypeInfo} (h:zeroU8 i=true):i.zero=some (.int .u8 0):=by
 unfold zeroU8 at h
 split at h
 · rename_i z hz
   have:z=0:=by simpa using h
   rw [hz,this]
 · cases h
def appSE (P:Program) (rd:Nat->Blk) (o:Oper) (t:Nat->AV):Option CE:=match o.op with
 | .call { callee:=.builtin .append,args,argTypes }=>(match argTypes.toList,args.toList with
   | [t1,t2],[s,x]=>(match P.underlying t1,P.underlying t2,sv (ev t s),scV (ev t x) with
     | some (.slice e),some .string,.own a 1 0 n,some (.string str)=>(match P.info? e,partB (rd a) 1 n with
       | some inf,some (ty,B)=>(match Nat.beq inf.size 1&&Nat.beq inf.bytes 1&&ty==e&&zeroU8 inf,appBlk B n 1 (str.size,none,bytesC str) with
         | true,some B'=>some ⟨.own a 1 0 (n+str.size),[a],killW [a] [(a,B')],[a],[n+str.size<=140737488355328]⟩
         | _,_=>none)
       | _,_=>none)
     | _,_,_,_=>none)
   | _,_=>none)
 | _=>none
theorem appSE_ok {P:Program} {o:Oper} {t:Nat->AV} {rd:Nat->Blk} {e:CE} (h:appSE P rd o t=some e) (ho:Hold e.ob):CE.Good P o t rd e:=by
 unfold appSE at h
 split at h
 case h_2=>cases h
 rename_i args ats hop
 split at h
 case h_2=>cases h
 rename_i t1 t2 s x hty hargs
 have h1:args=#[s,x]:=Array.ext' hargs
 have h2:ats=#[t1,t2]:=Array.ext' hty
 subst h1;subst h2
 split at h
 case h_2=>cases h
 rename_i el a n str hu hu2 hs0 hx0
 split at h
 case h_2=>cases h
 rename_i inf ty B hi hp
 split at h
 case h_2=>cases h
 rename_i B' hb happ
 cases h
 simp only [Bool.and_eq_true,beq_iff_eq,Nat.beq_eq] at hb
 obtain ⟨⟨⟨hsz,hby⟩,rfl⟩,hz⟩:=hb
 have hz:=zeroU8_ok hz
 have o1:=ho (n+str.size<=140737488355328) (by simp)
 intro M hM
 refine runs_stepZ fun H E w ac hC hT=>?_
 have hs:=rel_sv (rel_ev hT s)
 rw [hs0] at hs
 have hx:=scV_ok hx0 (rel_ev hT x)
 have hB:=hC.blk a
 rw [hM a (by simp)] at hB
 obtain ⟨hlv,hη,hm⟩:=hs
 obtain ⟨hκ,hnκ,hcont⟩:=partB_ok hB hp (by omega)
 have fin:∀ xs:List Value,w.ownsRow 0 ty 1 (ac.eval s) n xs->(ac.eval s).ownBlock=E.ι a->ones xs->Cont H E 1 n ty B xs ->
  ∃ v w' H' E',(execOp ac.eval o).run P w=.ok (.value v) w'/\Rel (.own a 1 0 (n+str.size)) H' E' v/\Conc H' E' w' (applyW (killW [a] [(a,B')]) (killM [a] M))/\Evol [a] H E w H' E' w':=by
  intro xs hown hob hxs hct
  obtain ⟨v',w',hrun,hown',hgrow,hat⟩:=appS_run (ty:=o.type) hu hu2 hi hz hsz hby hown str (by unfold maxLen;omega) o1
  have hr2:∀ k,k<str.size->∀ j,j<1->∃ u,(Lib.strCells str)[k*1+j]? = some u/\Rel (bytesC str k j) H E0 u:=by
   intro k hk j hj
   obtain rfl:j=0:=by omega
   have hk2:k<str.data.toList.length:=by simpa using hk
   refine ⟨.int .u8 ((str.data.toList.getD k 0).toNat),?_,rfl,rfl⟩
   simp [Lib.strCells,List.getD,hk2,hk]
  obtain ⟨hc2,hcap⟩:=appBlk_ok (src:=(str.size,none,bytesC str)) hct hown.1 (by rw [Lib.strCells_length];simp) (fun l hl=>by cases hl) (fun _=>hr2) happ
  rw [hob] at hgrow hat
  obtain ⟨E',hr,hc,hev⟩:=grow_any hC hlv hxs (fun y hy=>Lib.strCells_oneCell str y hy) hown' hgrow hat hc2 hcap
  refine ⟨v',w',H,E',by simp [execOp,hop,resolve,invoke,builtin,hx,hrun],hr,hc.eqv fun k=>?_,hev⟩
  exact killW_eqv [a] [(a,B')] M k
 cases hι:E.ι a with
 | none =>
   rw [hι] at hm hcont
   obtain ⟨_,rfl,hv⟩:=hm
   exact fin [] (by rw [hv];exact ⟨by simp,.inl ⟨rfl,rfl⟩⟩) (by rw [hv];exact hι.symm) (fun y hy=>by cases hy) (hcont rfl)
 | some b =>
   rw [hι] at hm hcont
   obtain ⟨ad,hv,had⟩:=hm
   obtain ⟨vs,g1,g2,g3,g4⟩:=hcont
   rw [had.1 (.inl rfl)] at hv
   have hle:n*1<=E.κ a*1:=Nat.mul_le_mul_right _ hnκ
   refine fin _ ?_ (by rw [hv];exact hι.symm) g3 g4
   rw [hv]
   exact ⟨by simp;omega,.inr ⟨b,E.κ a,vs,by simp,Nat.zero_le _,g1,by omega,hκ,g2,rfl⟩⟩
end Go.Ax
