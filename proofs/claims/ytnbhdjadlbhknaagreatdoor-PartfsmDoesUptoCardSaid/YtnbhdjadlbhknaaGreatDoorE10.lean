import Derived.Lib.AppendStr
import Derived.Lib.ConvBytes
import Derived.Stop.Asserts
import Derived.Laws.Externs
import Derived.Test.YtnbhdjadlbhknaaGreatDoorE7
import Derived.Test.YtnbhdjadlbhknaaGreatDoorE9
set_option linter.unusedVariables false
set_option linter.unusedSimpArgs false
set_option linter.unusedSectionVars false
namespace Go.Ax
open Go
variable [Inhabited jZ]
def xP (s:ByteArray) (k:Nat) (_:Nat):AV:=.y (.int .u8 ((s.data.toList.getD k 0).toNat))
def HH.plus (H:HH) (b0:Nat) (o0:Obj):HH:=fun x b=>match Nat.beq b b0 with | true=>some o0 | false=>H x b
theorem HH.wV (H:HH) (b0:Nat) (o0:Obj) (x:Bool):H.plus b0 o0 x b0=some o0:=by simp [HH.plus]
theorem HH.FM (H:HH) {b0 b:Nat} (o0:Obj) (x:Bool) (h:b≠b0):H.plus b0 o0 x b=H x b:=by
 have:Nat.beq b b0=false:=by
  cases hb:Nat.beq b b0
  · rfl
  · exact absurd (Nat.eq_of_beq_eq_true hb) h
 simp [HH.plus,this]
theorem NT {H:HH} {E:Env} {w w':World} {M:List ay} {o0:Obj} (hC:Conc H E w M) (hos:w'.os=w.os) (ht:w'.tape=w.tape) (hout:w'.output=w.output) (hs:w.heap.size<=w'.heap.size)
 (hk:∀ b,b<w.heap.size->w'.heap[b]? = w.heap[b]?) (ho:w'.heap[w.heap.size]? = some o0) :
 Conc (H.plus w.heap.size o0) E w' M/\bF [] H E w (H.plus w.heap.size o0) E w':=by
 have hlt:∀ x b o,H x b=some o->b<w.heap.size:=by
  intro x b o hb
  refine IH.p8 hC.imm (b:=b) (o:=o) ?_
  cases x
  · exact hb
  · exact hC.tf.1 b o hb
 have hle:H.le (H.plus w.heap.size o0):=by
  intro x b o hb
  rw [HH.FM H o0 x (by have:=hlt x b o hb;omega)]
  exact hb
 have hcase:∀ x b o,H.plus w.heap.size o0 x b=some o->(b=w.heap.size/\o=o0)∨H x b=some o:=by
  intro x b o hb
  by_cases h:b=w.heap.size
  · subst h
    rw [HH.wV] at hb
    cases hb
    exact .inl ⟨rfl,rfl⟩
  · rw [HH.FM H o0 x h] at hb
    exact .inr hb
 refine ⟨⟨fun b o hb=>?_,hC.tf.up hle (fun b o hb=>?_),fun i=>?_,hC.injH,fun i b hb=>?_,fun i b hl hb=>Nat.lt_of_lt_of_le (hC.ltS i b hl hb) hs⟩,⟨hos,ht,hout,hs,fun b hb _=>hk b hb,fun i b hb=>.inl ⟨i,hb⟩,hle,fun x b o hb=>?_,fun i hl _=>⟨hl,rfl,rfl,rfl⟩⟩⟩
 · rcases hcase false b o hb with ⟨rfl,rfl⟩ | h
   · exact ho
   · exact (hk b (hlt _ _ _ h)).trans (hC.imm b o h)
 · rcases hcase true b o hb with ⟨rfl,rfl⟩ | h
   · exact HH.wV _ _ _ _
   · exact hle false b o (hC.tf.1 b o h)
 · have:=(hC.blk i).move (f:=some) (H':=H.plus w.heap.size o0) (E':=E) (w':=w') (i':=i) hle (fun a c hc hl=>by cases hc;exact ⟨hl,rfl,rfl,rfl⟩) rfl rfl rfl rfl (fun _=>Iff.rfl) fun b hb=>hk b (hC.o9 hb)
   rwa [eD] at this
 · rw [HH.FM H o0 false (by have:=hC.o9 hb;omega)]
   exact hC.sepH i b hb
 · rcases hcase x b o hb with ⟨rfl,rfl⟩ | h
   · exact .inr (.inl (Nat.le_refl _))
   · exact .inl h
def bD (P:Program) (o:Oper) (t:Nat->AV):Option CE:=match o.op with
 | .convert src dst x=>(match P.underlying src,P.underlying dst with
   | some _,some (.slice el)=>(match P.underlying el,Am (ev t x) with
     | some (.int .u8),some (.string s)=>some ⟨.ys true 1 s.size (xP s),[],[],[],[]⟩
     | _,_=>none)
   | _,_=>none)
 | _=>none
theorem YS {P:Program} {o:Oper} {t:Nat->AV} {rd:Nat->ay} {e:CE} (h:bD P o t=some e):CE.Good P o t rd e:=by
 unfold bD at h
 split at h
 case h_2=>cases h
 rename_i src dst x hop
 split at h
 case h_2=>cases h
 rename_i u el hsrc hdst
 split at h
 case h_2=>cases h
 rename_i s hel hs
 cases h
 intro M hM
 refine bL fun H E w a hC hT=>?_
 have hx:=eU hs (aM hT x)
 have hrun:=Lib.run_convert_string_bytes (P:=P) w src dst el s hsrc hdst hel
 obtain ⟨hc,hev⟩:=NT (w':=Lib.bytesWorld w el s) hC (by rfl) (by rfl) (by rfl) (by rw [Lib.bytesWorld_size];omega) (fun b hb=>Lib.bytesWorld_at_old w el s b hb) (Lib.bytesWorld_at_new w el s)
 refine ⟨.slice (some ⟨w.heap.size,0,none⟩) s.size (grownCap w s.size 0 el),Lib.bytesWorld w el s,_,E,by simp [execOp,hop,hx,hrun],?_,hc,hev⟩
 refine ⟨_,_,rfl,⟨grownCap_ge w s.size 0 el,fun h=>by cases h⟩,fun _=>⟨_,rfl,fun k hk j hj=>?_⟩⟩
 obtain rfl:j=0:=by omega
 refine ⟨.int .u8 ((s.data.toList.getD k 0).toNat),?_,rfl,rfl,rfl⟩
 have hcell:=Lib.bytesWorld_cell w el s k hk
 have e1:(⟨w.heap.size,0,none⟩:Addr).add (k*1+0)=⟨w.heap.size,k,none⟩:=by simp only [Addr.add];split<;>simp_all
 rw [e1]
 unfold World.cell? at hcell
 unfold IH.cell?
 rw [HH.wV]
 rw [Lib.bytesWorld_at_new] at hcell
 simpa using hcell
def acM (o:Oper) (t:Nat->AV):Option CE:=match o.op with
 | .unOp .neg _ x=>(match Am (ev t x) with
   | some (.int k n)=>some ⟨.y (.int k (k.wrap (0 - n))),[],[],[],[]⟩
   | _=>none)
 | _=>none
theorem XJ {P:Program} {o:Oper} {t:Nat->AV} {rd:Nat->ay} {e:CE} (h:acM o t=some e):CE.Good P o t rd e:=by
 unfold acM at h
 split at h
 case h_2=>cases h
 rename_i ty x hop
 split at h
 case h_2=>cases h
 rename_i k n hs
 cases h
 intro M hM
 refine bL fun H E w a hC hT=>?_
 have hx:=eU hs (aM hT x)
 exact ⟨.int k (k.wrap (0 - n)),w,H,E,by simp [execOp,hop,hx,Op.unary,Op.intArith],⟨rfl,rfl⟩,hC,bF.refl _ _ _ _⟩
theorem Q_ {H:HH} {E:Env} {w w':World} {M:List ay} {el:TypeId} {a n m sz:Nat} {B':ay} {v':Value} {xs news:List Value} (hC:Conc H E w M) (hl:E.lv a=true) (hxs:ones xs) (hones:ones news)
 (hown':w'.ownsRow 0 el sz v' (n+m) (xs++news)) (hgrow:w.grownBy w' (E.ι a)) (hat:∀ g,v'.ownBlock=some g->E.ι a=some g∨w.heap.size<=g) (hc2:Cont H E sz (n+m) el B' (xs++news)) (hcap:capOf B'=none) :
 ∃ E',Rel (.own a sz 0 (n+m)) H E' v'/\Conc H E' w' (dN [a] (iH M a B'))/\bF [a] H E w H E' w':=by
 obtain ⟨bo,κ,hbo,hnκ,hκm,hv',hblk,hbn⟩:=lM hown'
 obtain ⟨e1,e2,e3,e4⟩:=E.eO a bo κ (n+m)
 have hvia:E.via (E.set a bo κ (n+m)) (aO [a]):=by
  intro p q hpq hlp
  unfold aO at hpq
  split at hpq
  · cases hpq
  · rename_i hn
    cases hpq
    obtain ⟨f1,f2,f3⟩:=E.mK a p bo κ (n+m) (by simpa using hn)
    exact ⟨f1.trans hlp,f2,f3⟩
 have hB:bV H (E.set a bo κ (n+m)) w' a (eY (aO [a]) B'):=by
  refine nU (oJ hvia hc2) (by rw [DZ];exact hcap) e1 (by rw [e3,e4];exact ⟨rfl,hnκ⟩) (by rw [e3];exact hκm) (fun y hy=>?_) (by rw [e2,e3];exact hblk)
  rcases List.mem_append.1 hy with hy | hy
  · exact hxs y hy
  · exact hones y hy
 obtain ⟨hconc,hev⟩:=hC.move hl hgrow (bo':=bo) (κ':=κ) (η':=n+m) (fun g hg=>hat g (hbo.trans hg)) hB
 refine ⟨E.set a bo κ (n+m),⟨e1,by rw [e3,e4];omega,?_⟩,hconc,hev⟩
 rw [e2,e3]
 cases bo with
 | none=>exact ⟨rfl,by have:=hbn rfl;omega,hv'⟩
 | some b=>exact ⟨_,hv',⟨fun _=>by simp,by simp⟩⟩
theorem VY {P:Program} {w:World} {t u ty e:TypeId} {i:TypeInfo} (ht:P.underlying t=some (.slice e)) (hu:P.underlying u=some .string) (hi:P.info? e=some i) (hz:i.zero=some (.int .u8 0)) (hsize:i.size=1) (hby:i.bytes=1)
 {v:Value} {n:Nat} {xs:List Value} (hown:w.ownsRow 0 e 1 v n xs) (s:ByteArray) (h63:n+s.size<=maxLen) (hbytes:n+s.size<=140737488355328) :
 ∃ v' w',(Builtin.append_ #[t,u] ty #[v,.string s]).run P w=.ok v' w'/\w'.ownsRow 0 e 1 v' (n+s.size) (xs++Lib.strCells s)/\w.grownBy w' v.ownBlock/\∀ g,v'.ownBlock=some g->v.ownBlock=some g∨w.heap.size<=g:=by
 have hsmall:n+s.size<=9223372036854775807:=by simp only [maxLen] at h63;omega
 have hxl:xs.length=n:=by simpa using hown.1
 rcases hown.2 with ⟨rfl,rfl⟩ | ⟨g,cap,cur,rfl,hbg,hg,hnc,hcm,hcs,htake⟩
 · have hx:xs=[]:=List.eq_nil_of_length_eq_zero hxl
   subst hx
   obtain ⟨v',w',h1,h2,h3,_⟩:=Lib.run_append_own_string (P:=P) w w.heap.size t u ty e i ht hu hi hz hsize hby (.slice none 0 0) 0 [] (World.ownsRow_nil w _ e 1) s h63 hbytes (Nat.le_refl _)
   refine ⟨v',w',h1,⟨h2.1,?_⟩,h3,fun g hg=>?_⟩
   · rcases h2.2 with h | ⟨g,cap,cur,a1,_,a3⟩
     · exact .inl h
     · exact .inr ⟨g,cap,cur,a1,Nat.zero_le _,a3⟩
   · rcases h2.2 with ⟨rfl,_⟩ | ⟨g',cap,cur,rfl,hb,_⟩
     · cases hg
     · have hg:some g'=some g:=hg
       cases hg
       exact .inr hb
 · obtain ⟨v',w',h1,h2,h3,_⟩:=Lib.run_append_own_string (P:=P) w 0 t u ty e i ht hu hi hz hsize hby (.slice (some ⟨g,0,none⟩) n cap) n xs hown s h63 hbytes (Nat.zero_le _)
   refine ⟨v',w',h1,h2,h3,fun g' hg'=>?_⟩
   by_cases hroom:n+s.size<=cap
   · have hcs':cur.size=cap:=by simpa using hcs
     have hr:=Lib.run_append_room_string (P:=P) w t u ty e i ht hu hi hsize g n cap cur hg s hroom (by omega)
     rw [hr] at h1
     cases h1
     exact .inl hg'
   · have holds:∀ j u,xs[j]? = some u->w.cell? ((⟨g,0,none⟩:Addr).add j)=some u:=hown.cells (g:=g) rfl
     have hr:=Lib.run_append_grow_string (P:=P) w t u ty e i (.int .u8 0) ht hu hi hz ⟨g,0,none⟩ n cap xs (by rw [hsize];simpa using hxl) holds s (by omega) (by omega) (by rw [hby];exact growslice_fits (by omega) (by omega))
     rw [hr] at h1
     cases h1
     have hg':some w.heap.size=some g':=hg'
     cases hg'
     exact .inr (Nat.le_refl _)
def JW (i:TypeInfo):Bool:=match i.zero with | some (.int .u8 z)=>decide (z=0) | _=>false
theorem Oc {i:TypeInfo} (h:JW i=true):i.zero=some (.int .u8 0):=by
 unfold JW at h
 split at h
 · rename_i z hz
   have:z=0:=by simpa using h
   rw [hz,this]
 · cases h
def Ri (P:Program) (rd:Nat->ay) (o:Oper) (t:Nat->AV):Option CE:=match o.op with
 | .call { callee:=.builtin .append,args,argTypes }=>(match argTypes.toList,args.toList with
   | [t1,t2],[s,x]=>(match P.underlying t1,P.underlying t2,sv (ev t s),Am (ev t x) with
     | some (.slice e),some .string,.own a 1 0 n,some (.string str)=>(match P.info? e,dA (rd a) 1 n with
       | some inf,some (ty,B)=>(match Nat.beq inf.size 1&&Nat.beq inf.bytes 1&&ty==e&&JW inf,uH B n 1 (str.size,none,xP str) with
         | true,some B'=>some ⟨.own a 1 0 (n+str.size),[a],uU [a] [(a,B')],[a],[n+str.size<=140737488355328]⟩
         | _,_=>none)
       | _,_=>none)
     | _,_,_,_=>none)
   | _,_=>none)
 | _=>none
theorem P5 {P:Program} {o:Oper} {t:Nat->AV} {rd:Nat->ay} {e:CE} (h:Ri P rd o t=some e) (ho:Hold e.ob):CE.Good P o t rd e:=by
 unfold Ri at h
 split at h
 case h_2=>cases h
 rename_i args ats hop
 split at h
 case h_2=>cases h
 rename_i t1 t2 s x hty hargs
 have h1:args=#[s,x]:=Array.ext' hargs
 have h2:ats=#[t1,t2]:=Array.ext' hty
 subst h1;subst h2
 split at h
 case h_2=>cases h
 rename_i el a n str hu hu2 hs0 hx0
 split at h
 case h_2=>cases h
 rename_i inf ty B hi hp
 split at h
 case h_2=>cases h
 rename_i B' hb happ
 cases h
 simp only [Bool.and_eq_true,beq_iff_eq,Nat.beq_eq] at hb
 obtain ⟨⟨⟨hsz,hby⟩,rfl⟩,hz⟩:=hb
 have hz:=Oc hz
 have o1:=ho (n+str.size<=140737488355328) (by simp)
 intro M hM
 refine bL fun H E w ac hC hT=>?_
 have hs:=rO (aM hT s)
 rw [hs0] at hs
 have hx:=eU hx0 (aM hT x)
 have hB:=hC.blk a
 rw [hM a (by simp)] at hB
 obtain ⟨hlv,hη,hm⟩:=hs
 obtain ⟨hκ,hnκ,hcont⟩:=QO hB hp (by omega)
 have fin:∀ xs:List Value,w.ownsRow 0 ty 1 (ac.eval s) n xs->(ac.eval s).ownBlock=E.ι a->ones xs->Cont H E 1 n ty B xs ->
  ∃ v w' H' E',(execOp ac.eval o).run P w=.ok (.value v) w'/\Rel (.own a 1 0 (n+str.size)) H' E' v/\Conc H' E' w' (dx (uU [a] [(a,B')]) (dN [a] M))/\bF [a] H E w H' E' w':=by
  intro xs hown hob hxs hct
  obtain ⟨v',w',hrun,hown',hgrow,hat⟩:=VY (ty:=o.type) hu hu2 hi hz hsz hby hown str (by unfold maxLen;omega) o1
  have hr2:∀ k,k<str.size->∀ j,j<1->∃ u,(Lib.strCells str)[k*1+j]? = some u/\Rel (xP str k j) H E0 u:=by
   intro k hk j hj
   obtain rfl:j=0:=by omega
   have hk2:k<str.data.toList.length:=by simpa using hk
   refine ⟨.int .u8 ((str.data.toList.getD k 0).toNat),?_,rfl,rfl⟩
   simp [Lib.strCells,List.getD,hk2,hk]
  obtain ⟨hc2,hcap⟩:=xw (src:=(str.size,none,xP str)) hct hown.1 (by rw [Lib.strCells_length];simp) (fun l hl=>by cases hl) (fun _=>hr2) happ
  rw [hob] at hgrow hat
  obtain ⟨E',hr,hc,hev⟩:=Q_ hC hlv hxs (fun y hy=>Lib.strCells_oneCell str y hy) hown' hgrow hat hc2 hcap
  refine ⟨v',w',H,E',by simp [execOp,hop,resolve,invoke,builtin,hx,hrun],hr,hc.eqv fun k=>?_,hev⟩
  exact sD [a] [(a,B')] M k
 cases hι:E.ι a with
 | none =>
   rw [hι] at hm hcont
   obtain ⟨_,rfl,hv⟩:=hm
   exact fin [] (by rw [hv];exact ⟨by simp,.inl ⟨rfl,rfl⟩⟩) (by rw [hv];exact hι.symm) (fun y hy=>by cases hy) (hcont rfl)
 | some b =>
   rw [hι] at hm hcont
   obtain ⟨ad,hv,had⟩:=hm
   obtain ⟨vs,g1,g2,g3,g4⟩:=hcont
   rw [had.1 (.inl rfl)] at hv
   have hle:n*1<=E.κ a*1:=Nat.mul_le_mul_right _ hnκ
   refine fin _ ?_ (by rw [hv];exact hι.symm) g3 g4
   rw [hv]
   exact ⟨by simp;omega,.inr ⟨b,E.κ a,vs,by simp,Nat.zero_le _,g1,by omega,hκ,g2,rfl⟩⟩
open Go.MapKept (IsKey run_checkKey run_findKey heap_set)
def taM (P:Program) (o:Oper) (t:Nat->AV):Option CE :=
 match o.op with
 | .typeAssert x _ asserted ok=>(match ev t x with
   | .ifc ty v=>(match P.underlying asserted with
     | some (.interface want)=>(match P.info? ty with
       | some i=>(match (lacking want i.methods).isEmpty with
         | true=>some ⟨qH ok (.ifc ty v) (.s (.bool true)),[],[],[],[]⟩
         | false=>(match ok,o_ P asserted with
           | true,some z=>some ⟨qH true z (.s (.bool false)),[],[],[],[]⟩
           | _,_=>none))
       | none=>none)
     | some d=>(match Nat.beq ty asserted with
       | true=>some ⟨qH ok v (.s (.bool true)),[],[],[],[]⟩
       | false=>(match ok,o_ P asserted with
          | true,some z=>some ⟨qH true z (.s (.bool false)),[],[],[],[]⟩
          | _,_=>none))
     | none=>none)
   | .s .nilIface=>(match ok,P.underlying asserted,o_ P asserted with
     | true,some _,some z=>some ⟨qH true z (.s (.bool false)),[],[],[],[]⟩
     | _,_,_=>none)
   | _=>none)
 | _=>none
theorem adM {P:Program} {rd:Nat->ay} {o:Oper} {t:Nat->AV} {e:CE} (h:taM P o t=some e):CE.Good P o t rd e:=by
 unfold taM at h
 split at h
 case h_2=>cases h
 rename_i x xt asserted ok hop
 have go:∀ {r:AV},(∀ H E (w:World) (u:Value),Rel (ev t x) H E u->∃ v,(Instr.typeAssert u xt asserted ok).run P w=.ok v w/\Rel r H E v)->CE.Good P o t rd ⟨r,[],[],[],[]⟩:=by
  intro r hr M hM
  refine bL fun H E w a hC hT=>?_
  obtain ⟨v,q1,q2⟩:=hr H E w (a.eval x) (aM hT x)
  exact ⟨v,w,H,E,by simp [execOp,hop,q1,Result.andThen],q2,hC,bF.refl _ _ _ _⟩
 split at h
 · rename_i ty v hx
   rw [hx] at go
   split at h
   · rename_i want hu
     split at h
     case h_2=>cases h
     rename_i i hi
     split at h
     · rename_i hl
       cases h
       refine go fun H E w u hr=>?_
       obtain ⟨x',rfl,hx'⟩:=hr
       have hl:lacking want i.methods=[]:=by simpa using hl
       cases ok with
       | true=>exact ⟨_,run_typeAssert_has hu hi hl,⟨#[.iface ty x',.bool true],rfl,_,[.bool true],rfl,⟨x',rfl,hx'⟩,.bool true,[],rfl,⟨rfl,rfl⟩,rfl⟩⟩
       | false=>exact ⟨.iface ty x',by simp [Instr.typeAssert,run_underlying hu,typeInfo,hi,missingMethod_none hl,Result.andThen],⟨x',rfl,hx'⟩⟩
     · rename_i hl
       split at h
       case h_2=>cases h
       rename_i z hz
       cases h
       refine go fun H E w u hr=>?_
       obtain ⟨x',rfl,hx'⟩:=hr
       have hl:lacking want i.methods≠[]:=by simpa using hl
       obtain ⟨m,hm⟩:=missingMethod_some hl
       obtain ⟨zv,hz1,hz2⟩:=jV H E w hz
       exact ⟨.tuple #[zv,.bool false],by simp [Instr.typeAssert,run_underlying hu,typeInfo,hi,hm,hz1,Result.andThen],⟨#[zv,.bool false],rfl,zv,[.bool false],rfl,hz2,.bool false,[],rfl,⟨rfl,rfl⟩,rfl⟩⟩
   · rename_i d hu hd
     split at h
     · rename_i ht
       have ht:=Nat.eq_of_beq_eq_true ht
       subst ht
       cases h
       refine go fun H E w u hr=>?_
       obtain ⟨x',rfl,hx'⟩:=hr
       have hne:∀ ms,d≠.interface ms:=fun ms e=>hu ms e
       cases ok with
       | true=>exact ⟨.tuple #[x',.bool true],by cases d<;>first | exact absurd rfl (hne _) | simp [Instr.typeAssert,run_underlying hd,Result.andThen],⟨#[x',.bool true],rfl,_,[.bool true],rfl,hx',.bool true,[],rfl,⟨rfl,rfl⟩,rfl⟩⟩
       | false=>exact ⟨x',by cases d<;>first | exact absurd rfl (hne _) | simp [Instr.typeAssert,run_underlying hd,Result.andThen],hx'⟩
     · rename_i ht
       have ht:ty≠asserted:=fun e=>by subst e;simp at ht
       split at h
       case h_2=>cases h
       rename_i z hz
       cases h
       refine go fun H E w u hr=>?_
       obtain ⟨x',rfl,hx'⟩:=hr
       have hne:∀ ms,d≠.interface ms:=fun ms e=>hu ms e
       obtain ⟨zv,hz1,hz2⟩:=jV H E w hz
       refine ⟨.tuple #[zv,.bool false],?_,⟨#[zv,.bool false],rfl,zv,[.bool false],rfl,hz2,.bool false,[],rfl,⟨rfl,rfl⟩,rfl⟩⟩
       cases d<;>first | exact absurd rfl (hne _) | simp [Instr.typeAssert,run_underlying hd,ht,hz1,Result.andThen]
   · cases h
 · rename_i hx
   rw [hx] at go
   split at h
   case h_2=>cases h
   rename_i d z hd hz
   cases h
   refine go fun H E w u hr=>?_
   have hu:u=.nilIface:=hr.1
   subst hu
   obtain ⟨zv,hz1,hz2⟩:=jV H E w hz
   refine ⟨.tuple #[zv,.bool false],?_,⟨#[zv,.bool false],rfl,zv,[.bool false],rfl,hz2,.bool false,[],rfl,⟨rfl,rfl⟩,rfl⟩⟩
   cases d<;>simp [Instr.typeAssert,run_underlying hd,hz1,Result.andThen]
 · cases h
def KX (P:Program) (rd:Nat->ay) (o:Oper) (t:Nat->AV):Option CE:=none
theorem Yp {P:Program} {rd:Nat->ay} {o:Oper} {t:Nat->AV} {e:CE} (h:KX P rd o t=some e):CE.Good P o t rd e:=by
 simp [KX] at h
def KH (P:Program) (rd:Nat->ay) (nid:Nat) (o:Oper) (t:Nat->AV):Option CE:=none
theorem Pt {P:Program} {rd:Nat->ay} {nid:Nat} {o:Oper} {t:Nat->AV} {e:CE} (hd:∀ k,nid<=k->rd k=.dead) (h:KH P rd nid o t=some e):CE.Good P o t rd e:=by
 simp [KH] at h
def UM (rd:Nat->ay) (o:Oper) (t:Nat->AV):Option CE:=none
theorem TJ {P:Program} {rd:Nat->ay} {o:Oper} {t:Nat->AV} {e:CE} (h:UM rd o t=some e):CE.Good P o t rd e:=by
 simp [UM] at h
def JY (rd:Nat->ay) (o:Oper) (t:Nat->AV):Option CE:=none
theorem N8 {P:Program} {rd:Nat->ay} {o:Oper} {t:Nat->AV} {e:CE} (h:JY rd o t=some e):CE.Good P o t rd e:=by
 simp [JY] at h
def glM (P:Program) (o:Oper):Option CE :=
 match o.op with
 | .load ty (.global g)=>(match isAgg P ty,P.underlying ty,(default:jZ).hs.find? fun p=>Nat.beq p.1 g with
   | false,some _,some p=>some ⟨.ifc p.2.1 (.agg [.s p.2.2]),[],[],[],[]⟩
   | _,_,_=>none)
 | _=>none
theorem adA {P:Program} {rd:Nat->ay} {o:Oper} {t:Nat->AV} {e:CE} (h:glM P o=some e):CE.Good P o t rd e:=by
 unfold glM at h
 split at h
 case h_2=>cases h
 rename_i ty g hop
 split at h
 case h_2=>cases h
 rename_i d p hagg hu hp
 cases h
 have hmem:=List.mem_of_find?_eq_some hp
 have hg:=List.find?_some hp
 have hg:=Nat.eq_of_beq_eq_true hg
 intro M hM
 refine bL fun H E w a hC hT=>?_
 obtain ⟨hs,hx⟩:=hC.tf.2 p hmem
 have hcell:=AY (b:=true) hC.imm hC.tf.1 hx
 rw [hg] at hcell
 refine ⟨_,w,H,E,?_,⟨_,rfl,_,rfl,_,[],rfl,⟨rfl,hs⟩,rfl⟩,hC,bF.refl _ _ _ _⟩
 have h1:=iG w ⟨d,hu⟩
 rw [hagg] at h1
 simp [execOp,hop,Act.eval,Instr.loadAt,Instr.sureAddr,loadVar,h1,hcell,Result.andThen]
def Sc (P:Program) (rd:Nat->ay) (nid:Nat) (o:Oper) (t:Nat->AV):Option CE :=
 match o.op with
 | .lookup ..=>Qd P rd o t
 | .mapUpdate ..=>WX P rd o t
 | .insert ..=>WX P rd o t
 | .makeMap ..=>mkM P rd nid o t
 | .typeAssert ..=>taM P o t
 | .range ..=>KH P rd nid o t
 | .next ..=>UM rd o t
 | .load ..=>glM P o
 | .entry ..=>JY rd o t
 | .call { callee:=.builtin .len,.. }=>ado P rd o t
 | .call { callee:=.builtin .delete,.. }=>KX P rd o t
 | _=>none
theorem QZ {P:Program} {rd:Nat->ay} {nid:Nat} {o:Oper} {t:Nat->AV} {e:CE} (hd:∀ k,nid<=k->rd k=.dead) (h:Sc P rd nid o t=some e):CE.Good P o t rd e:=by
 unfold Sc at h
 split at h
 · exact Vb h
 · exact MO h
 · exact MO h
 · exact acv hd h
 · exact adM h
 · exact Pt hd h
 · exact TJ h
 · exact adA h
 · exact N8 h
 · exact XE h
 · exact Yp h
 · cases h
end Go.Ax

namespace Go.Ax
open Go
variable [Inhabited jZ]
def Env.give (E:Env) (i d:Nat) (b:Option Nat) (κ η:Nat):Env :=
 ⟨fun j=>if j=d then true else E.lv j,fun j=>if j=d then b else E.ι j,fun j=>if j=d then κ else E.κ j,fun j=>if j=d then η else E.η j,
  fun j x=>j≠d/\E.σ j x/\(j=i->b≠some x)⟩
theorem Env.nT (E:Env) (i d:Nat) (b:Option Nat) (κ η:Nat):(E.give i d b κ η).lv d=true/\(E.give i d b κ η).ι d=b/\(E.give i d b κ η).κ d=κ/\(E.give i d b κ η).η d=η:=by simp [Env.give]
theorem Env.y8 (E:Env) (i d j:Nat) (b:Option Nat) (κ η:Nat) (h:j≠d):(E.give i d b κ η).lv j=E.lv j/\(E.give i d b κ η).ι j=E.ι j/\(E.give i d b κ η).κ j=E.κ j/\(E.give i d b κ η).η j=E.η j:=by simp [Env.give,h]
structure FL (i:Nat) (S:Nat->Prop) (E E':Env):Prop where
 ids:∀ j,E.lv j=true->E'.lv j=true/\E'.ι j=E.ι j/\E'.κ j=E.κ j/\E'.η j=E.η j
 keep:∀ j,E.lv j=true->j≠i->∀ x,E'.σ j x↔E.σ j x
 sub:∀ x,E'.σ i x->E.σ i x
 rest:∀ x,E.σ i x->¬ S x->E'.σ i x
theorem FL.refl (i:Nat) (S:Nat->Prop) (E:Env):FL i S E E:=⟨fun _ h=>⟨h,rfl,rfl,rfl⟩,fun _ _ _ _=>Iff.rfl,fun _ h=>h,fun _ h _=>h⟩
theorem FL.via {i:Nat} {S:Nat->Prop} {E E':Env} (h:FL i S E E'):E.via E' some:=fun a c hc hl=>by cases hc;exact h.ids a hl
theorem FL.trans {i:Nat} {S S1 S2:Nat->Prop} {E E1 E2:Env} (h:FL i S1 E E1) (k:FL i S2 E1 E2) (h1:∀ x,S1 x->S x) (h2:∀ x,S2 x->S x):FL i S E E2 where
 ids:=fun j hl=>by
  obtain ⟨a1,a2,a3,a4⟩:=h.ids j hl
  obtain ⟨b1,b2,b3,b4⟩:=k.ids j a1
  exact ⟨b1,b2.trans a2,b3.trans a3,b4.trans a4⟩
 keep:=fun j hl hj x=>(k.keep j (h.ids j hl).1 hj x).trans (h.keep j hl hj x)
 sub:=fun x hx=>h.sub x (k.sub x hx)
 rest:=fun x hx hn=>k.rest x (h.rest x hx fun hs=>hn (h1 x hs)) fun hs=>hn (h2 x hs)
theorem Conc.split {H:HH} {E:Env} {w:World} {M:List ay} (hC:Conc H E w M) {i d κ η:Nat} {bo:Option Nat} {B:ay} (hd:getM M d=.dead) (hi:getM M i=.any) (hσ:∀ b,bo=some b->E.σ i b) (hroot:∀ x,E.ι i=some x->¬ E.σ i x)
 (hB:bV H (E.give i d bo κ η) w d B):Conc H (E.give i d bo κ η) w (iH M d B)/\bF [] H E w H (E.give i d bo κ η) w/\FL i (fun x=>bo=some x) E (E.give i d bo κ η):=by
 have hdead:E.lv d=false:=by have:=hC.blk d;rw [hd] at this;exact this
 have hli:E.lv i=true:=by have:=hC.blk i;rw [hi] at this;exact this.1
 have hne:∀ j,E.lv j=true->j≠d:=by rintro j hj rfl;rw [hdead] at hj;cases hj
 have hid:=hne i hli
 have hop:FL i (fun x=>bo=some x) E (E.give i d bo κ η):=by
  refine ⟨fun j hl=>?_,fun j hl hj x=>?_,fun x hx=>hx.2.1,fun x hx hn=>⟨hid,hx,fun _=>hn⟩⟩
  · obtain ⟨e1,e2,e3,e4⟩:=E.y8 i d j bo κ η (hne j hl)
    exact ⟨e1.trans hl,e2,e3,e4⟩
  · exact ⟨fun h=>h.2.1,fun h=>⟨hne j hl,h,fun e=>absurd e hj⟩⟩
 have hhas:∀ j x,(E.give i d bo κ η).has j x->(j=d/\bo=some x/\E.has i x)∨(j≠d/\E.has j x/\(j=i->bo≠some x)):=by
  rintro j x ⟨h1,h2⟩
  by_cases hj:j=d
  · subst hj
    rcases h2 with h2 | h2
    · have h2:bo=some x:=by simpa [Env.give] using h2
      exact .inl ⟨rfl,h2,hli,.inr (hσ x h2)⟩
    · exact absurd rfl h2.1
  · obtain ⟨e1,e2,_⟩:=E.y8 i d j bo κ η hj
    rcases h2 with h2 | h2
    · refine .inr ⟨hj,⟨e1 ▸ h1,.inl (e2 ▸ h2)⟩,?_⟩
      rintro rfl hb
      exact hroot x (e2 ▸ h2) (hσ x hb)
    · exact .inr ⟨hj,⟨e1 ▸ h1,.inr h2.2.1⟩,h2.2.2⟩
 refine ⟨⟨hC.imm,hC.tf,fun j=>?_,fun a c x ha hc=>?_,fun a x ha=>?_,fun a x ha hx=>?_⟩,⟨rfl,rfl,rfl,Nat.le_refl _,fun _ _ _=>rfl,fun a x ha=>?_,HH.le_refl _,fun _ _ _ h=>.inl h,fun j hl _=>hop.ids j hl⟩,hop⟩
 · by_cases hj:d=j
   · subst hj;rw [aT];exact hB
   · rw [aW _ _ _ _ hj]
     have hj':j≠d:=fun e=>hj e.symm
     obtain ⟨e1,e2,e3,e4⟩:=E.y8 i d j bo κ η hj'
     by_cases hji:j=i
     · subst hji
       rw [hi]
       have:=hC.blk j
       rw [hi] at this
       obtain ⟨g1,b,o,g2,g3⟩:=this
       exact ⟨e1.trans g1,b,o,e2.trans g2,g3⟩
     · have:=(hC.blk j).move (f:=some) (H':=H) (E':=E.give i d bo κ η) (w':=w) (i':=j) (HH.le_refl _) hop.via e1 e2 e3 e4 (fun x=>by simp [Env.give,hj',hji]) fun _ _=>rfl
       rwa [eD] at this
 · rcases hhas a x ha with ⟨rfl,a1,a2⟩ | ⟨a0,a1,a2⟩<;>rcases hhas c x hc with ⟨rfl,b1,b2⟩ | ⟨b0,b1,b2⟩
   · rfl
   · have:=hC.injH i c x a2 b1
     exact absurd a1 (b2 this.symm)
   · have:=hC.injH a i x a1 b2
     exact absurd b1 (a2 this)
   · exact hC.injH a c x a1 b1
 · rcases hhas a x ha with ⟨rfl,a1,a2⟩ | ⟨a0,a1,a2⟩
   · exact hC.sepH i x a2
   · exact hC.sepH a x a1
 · rcases hhas a x ⟨ha,.inr hx⟩ with ⟨rfl,a1,a2⟩ | ⟨a0,a1,a2⟩
   · exact hC.o9 a2
   · exact hC.o9 a1
 · rcases hhas a x ha with ⟨rfl,a1,a2⟩ | ⟨a0,a1,a2⟩
   · exact .inl ⟨i,a2⟩
   · exact .inl ⟨a,a1⟩
def WT:Tr->AV
 | .av a=>a
 | _=>.junk
theorem YJ {H:HH} {hp:Nat->Option Obj} {t:Tr} {v:Value} {S:Nat->Prop} (h:iJ H hp t v S):Rel (WT t) H E0 v:=by
 cases t with
 | av a=>exact h
 | _=>trivial
mutual
def pK:Tr->Nat->AV×List ay
 | .av a,_=>(a,[])
 | .box ty sz cs,d=>(.ptr (d+len (nA cs d).2) 0 sz 0,(nA cs d).2++[.box ty (nA cs d).1])
 | .row ty sz n c,d=>(.own d sz 0 n,[.row ty sz n none fun k j=>WT (c k j)])
 | .frow ty sz n c,d=>(.own d sz 0 n,[.row ty sz n none c])
def nA:List Tr->Nat->List AV×List ay
 | [],_=>([],[])
 | t::ts,d=>((pK t d).1::(nA ts (d+len (pK t d).2)).1,(pK t d).2++(nA ts (d+len (pK t d).2)).2)
end
def puts:List ay->Nat->List ay->List ay
 | M,_,[]=>M
 | M,d,B::r=>puts (iH M d B) (d+1) r
theorem iT:∀ (L M:List ay) (d j:Nat),getM (puts M d L) j=if d<=j/\j<d+len L then getM L (j - d) else getM M j
 | [],M,d,j=>by
   have h:¬ (d<=j/\j<d+len ([]:List ay)):=by simp [len]
   rw [if_neg h];rfl
 | B::r,M,d,j=>by
   simp only [puts]
   rw [iT r]
   by_cases h1:d=j
   · subst h1
     rw [if_neg (by omega),aT,if_pos ⟨Nat.le_refl _,by simp [len]⟩]
     simp [getM]
   · by_cases h2:d+1<=j/\j<d+1+len r
     · rw [if_pos h2,if_pos (by simp [len];omega)]
       obtain ⟨m,rfl⟩:∃ m,j=d+1+m:=⟨j - (d+1),by omega⟩
       have e1:d+1+m - (d+1)=m:=by omega
       have e2:d+1+m - d=m+1:=by omega
       rw [e1,e2];rfl
     · rw [if_neg h2,if_neg (by simp [len];omega),aW _ _ _ _ h1]
theorem rX:∀ (L R M:List ay) (d:Nat),puts M d (L++R)=puts (puts M d L) (d+len L) R
 | [],R,M,d=>rfl
 | B::r,R,M,d=>by
   simp only [List.cons_append,puts,rX r,len]
   congr 1
   omega
theorem bF.VP {H H1 H2:HH} {E E1 E2:Env} {w w1 w2:World} (h:bF [] H E w H1 E1 w1) (k:bF [] H1 E1 w1 H2 E2 w2):bF [] H E w H2 E2 w2:=h.trans k fun _ h=>h
structure Pool (H:HH) (E:Env) (w:World) (M:List ay) (i d top:Nat):Prop where
 conc:Conc H E w M
 any:getM M i=.any
 lt:i<d
 dead:∀ k,d<=k->k<top->getM M k=.dead
 root:∀ x,E.ι i=some x->¬ E.σ i x
theorem Pool.next {H:HH} {E E':Env} {w:World} {M:List ay} {i d top:Nat} {S:Nat->Prop} {L:List ay} (h:Pool H E w M i d top) (hC:Conc H E' w (puts M d L)) (ho:FL i S E E'):Pool H E' w (puts M d L) i (d+len L) top where
 conc:=hC
 any:=by rw [iT,if_neg (by have:=h.lt;omega)];exact h.any
 lt:=by have:=h.lt;omega
 dead:=fun k hk ht=>by rw [iT,if_neg (by omega)];exact h.dead k (by omega) ht
 root:=fun x hx hs=>by
  have hl:E.lv i=true:=by have:=h.conc.blk i;rw [h.any] at this;exact this.1
  have:=(ho.ids i hl).2.1
  exact h.root x (this ▸ hx) (ho.sub x hs)
mutual
theorem Wd {H:HH} {w:World} {i top:Nat}:∀ (t:Tr) {E:Env} {M:List ay} {d:Nat} {S:Nat->Prop} {v:Value},Pool H E w M i d top->d+len (pK t d).2<=top->(∀ x,S x->E.σ i x)->iJ H (fun b=>w.heap[b]?) t v S ->
 ∃ E',Conc H E' w (puts M d (pK t d).2)/\bF [] H E w H E' w/\FL i S E E'/\Rel (pK t d).1 H E' v
 | .av a,E,M,d,S,v,hp,_,_,h=>⟨E,hp.conc,bF.refl _ _ _ _,FL.refl _ _ _,Rel.env (fun a c hc hl=>by simp [E0] at hl) h⟩
 | .box ty sz cs,E,M,d,S,v,hp,htop,hS,h=>by
   obtain ⟨b,vs,rfl,h2,h3,h4,h5⟩:=h
   have hlen:∀ A B:List ay,len (A++B)=len A+len B:=fun A B=>by simp [len_eq]
   simp only [pK,hlen,len] at htop
   obtain ⟨E1,g1,g2,g3,g4⟩:=Ar cs hp (by omega) (fun x hx=>hS x hx.1) h5
   have hq:=hp.next g1 g3
   generalize hd':d+len (nA cs d).2=d' at *
   have hdd:getM (puts M d (nA cs d).2) d'=.dead:=by rw [iT,if_neg (by omega)];exact hp.dead d' (by omega) (by omega)
   have hb1:E1.σ i b:=g3.rest b (hS b h2) fun hx=>hx.2 rfl
   obtain ⟨s1,s2,s3,s4⟩:=E1.nT i d' (some b) 0 0
   have hlt:=hp.lt
   have hdead1:E1.lv d'=false:=by have:=g1.blk d';rw [hdd] at this;exact this
   have hvia:E1.via (E1.give i d' (some b) 0 0) some:=fun a c hc hl=>by
    cases hc
    have:a≠d':=by rintro rfl;rw [hdead1] at hl;cases hl
    obtain ⟨e1,e2,e3,e4⟩:=E1.y8 i d' a (some b) 0 0 this
    exact ⟨e1.trans hl,e2,e3,e4⟩
   obtain ⟨c1,c2,c3⟩:=g1.split (κ:=0) (η:=0) (bo:=some b) (B:=.box ty (nA cs d).1) hdd hq.any (fun x hx=>by cases hx;exact hb1) hq.root
    ⟨s1,b,vs,s2,h3,h4,aA.env hvia g4⟩
   refine ⟨_,?_,g2.VP c2,g3.trans c3 (fun x hx=>hx.1) (fun x hx=>by cases hx;exact h2),?_⟩
   · simp only [pK,rX,puts,hd']
     exact c1
   · simp only [pK,hd']
     exact ⟨s1,b,s2,by simp⟩
 | .row ty sz n c,E,M,d,S,v,hp,htop,hS,h=>by
   simp only [pK,len] at htop
   obtain ⟨κ,h1,h2,⟨rfl,rfl,rfl⟩ | ⟨b,vs,rfl,h4,h5,h6,h7,F,h8,h9,h10⟩⟩:=h
   · obtain ⟨s1,s2,s3,s4⟩:=E.nT i d none 0 0
     obtain ⟨c1,c2,c3⟩:=hp.conc.split (κ:=0) (η:=0) (bo:=none) (B:=.row ty sz 0 none fun k j=>WT (c k j)) (hp.dead d (Nat.le_refl _) (by omega)) hp.any (fun x hx=>by cases hx) hp.root
      ⟨s1,by rw [s3,s4];exact ⟨rfl,Nat.le_refl _⟩,by rw [s3];exact Nat.zero_le _,(fun q hq=>by cases hq),by rw [s2];exact s3⟩
     exact ⟨_,c1,c2,(FL.refl i S E).trans c3 (fun _ h=>h) (fun x hx=>by cases hx),⟨s1,by rw [s3,s4];exact ⟨Nat.le_refl _,Nat.le_refl _⟩,by rw [s2];exact ⟨rfl,rfl,rfl⟩⟩⟩
   · obtain ⟨s1,s2,s3,s4⟩:=E.nT i d (some b) κ n
     obtain ⟨c1,c2,c3⟩:=hp.conc.split (κ:=κ) (η:=n) (bo:=some b) (B:=.row ty sz n none fun k j=>WT (c k j)) (hp.dead d (Nat.le_refl _) (by omega)) hp.any (fun x hx=>by cases hx;exact hS b h4) hp.root
      ⟨s1,by rw [s3,s4];exact ⟨rfl,h1⟩,by rw [s3];exact h2,(fun q hq=>by cases hq),by
       rw [s2,s3]
       refine ⟨vs,h5,h6,h7,fun k hk j hj=>?_⟩
       obtain ⟨x,g1,g2⟩:=h10 k hk j hj
       refine ⟨x,g1,?_⟩
       exact YJ g2⟩
     refine ⟨_,c1,c2,(FL.refl i S E).trans c3 (fun _ h=>h) (fun x hx=>by cases hx;exact h4),⟨s1,by rw [s3,s4];exact ⟨by omega,h1⟩,?_⟩⟩
     rw [s2,s3]
     exact ⟨_,rfl,fun _=>by simp,by simp⟩
 | .frow ty sz n c,E,M,d,S,v,hp,htop,hS,h=>by
   simp only [pK,len] at htop
   obtain ⟨κ,h1,h2,⟨rfl,rfl,rfl⟩ | ⟨b,vs,rfl,h4,h5,h6,h7,h10⟩⟩:=h
   · obtain ⟨s1,s2,s3,s4⟩:=E.nT i d none 0 0
     obtain ⟨c1,c2,c3⟩:=hp.conc.split (κ:=0) (η:=0) (bo:=none) (B:=.row ty sz 0 none c) (hp.dead d (Nat.le_refl _) (by omega)) hp.any (fun x hx=>by cases hx) hp.root
      ⟨s1,by rw [s3,s4];exact ⟨rfl,Nat.le_refl _⟩,by rw [s3];exact Nat.zero_le _,(fun q hq=>by cases hq),by rw [s2];exact s3⟩
     exact ⟨_,c1,c2,(FL.refl i S E).trans c3 (fun _ h=>h) (fun x hx=>by cases hx),⟨s1,by rw [s3,s4];exact ⟨Nat.le_refl _,Nat.le_refl _⟩,by rw [s2];exact ⟨rfl,rfl,rfl⟩⟩⟩
   · obtain ⟨s1,s2,s3,s4⟩:=E.nT i d (some b) κ n
     obtain ⟨c1,c2,c3⟩:=hp.conc.split (κ:=κ) (η:=n) (bo:=some b) (B:=.row ty sz n none c) (hp.dead d (Nat.le_refl _) (by omega)) hp.any (fun x hx=>by cases hx;exact hS b h4) hp.root
      ⟨s1,by rw [s3,s4];exact ⟨rfl,h1⟩,by rw [s3];exact h2,(fun q hq=>by cases hq),by
       rw [s2,s3]
       refine ⟨vs,h5,h6,h7,fun k hk j hj=>?_⟩
       obtain ⟨x,g1,g2⟩:=h10 k hk j hj
       exact ⟨x,g1,g2⟩⟩
     refine ⟨_,c1,c2,(FL.refl i S E).trans c3 (fun _ h=>h) (fun x hx=>by cases hx;exact h4),⟨s1,by rw [s3,s4];exact ⟨by omega,h1⟩,?_⟩⟩
     rw [s2,s3]
     exact ⟨_,rfl,fun _=>by simp,by simp⟩
theorem Ar {H:HH} {w:World} {i top:Nat}:∀ (l:List Tr) {E:Env} {M:List ay} {d:Nat} {S:Nat->Prop} {vs:List Value},Pool H E w M i d top->d+len (nA l d).2<=top->(∀ x,S x->E.σ i x)->jh H (fun b=>w.heap[b]?) l vs S ->
 ∃ E',Conc H E' w (puts M d (nA l d).2)/\bF [] H E w H E' w/\FL i S E E'/\aA (nA l d).1 H E' vs
 | [],E,M,d,S,vs,hp,_,_,h=>⟨E,hp.conc,bF.refl _ _ _ _,FL.refl _ _ _,h⟩
 | t::ts,E,M,d,S,vs,hp,htop,hS,h=>by
   obtain ⟨v,r,S1,S2,rfl,h2,h3,h4,h5,h6⟩:=h
   have hlen:∀ A B:List ay,len (A++B)=len A+len B:=fun A B=>by simp [len_eq]
   simp only [nA,hlen] at htop
   obtain ⟨E1,g1,g2,g3,g4⟩:=Wd t hp (by omega) (fun x hx=>hS x (h2 x hx)) h5
   obtain ⟨E2,k1,k2,k3,k4⟩:=Ar ts (hp.next g1 g3) (by omega) (fun x hx=>g3.rest x (hS x (h3 x hx)) fun hx1=>h4 x hx1 hx) h6
   refine ⟨E2,?_,g2.VP k2,g3.trans k3 h2 h3,v,r,rfl,Rel.env k3.via g4,k4⟩
   simp only [nA,rX]
   exact k1
end
open Go.MapKept (IsKey sameNow_of_keys heap_set run_checkKey run_findKey)
def mh.desc:mh->TypeDesc
 | .s=>.string
 | .i kk=>.int kk
def mh.of:(q:mh)->Value->Option q.ty
 | .s,.string z=>some z
 | .i kk,.int k x=>(match zF k kk with | true=>some x | false=>none)
 | _,_=>none
theorem upd_same {w:World} {b:Nat} {o:Obj} (h:w.heap[b]? = some o):Upd w w b o:=⟨rfl,rfl,rfl,rfl,h,fun _ _=>rfl⟩
def EU (d:Nat):List ay->List (Nat×ay)
 | []=>[]
 | B::r=>(d,B)::EU (d+1) r
theorem tK:∀ (L M:List ay) (d:Nat),dx (EU d L) M=puts M d L
 | [],_,_=>rfl
 | B::r,M,d=>by simp only [EU,dx,puts];exact tK r _ _
theorem ac' {M:List ay} {rd:Nat->ay} {nid i:Nat} (hd:∀ k,nid<=k->rd k=.dead) (hi:rd i≠.dead):i<nid:=by
 rcases Nat.lt_or_ge i nid with h | h
 · exact h
 · exact absurd (hd i h) hi
def tmT (P:Program) (rd:Nat->ay) (nid h:Nat) (o:Oper) (t:Nat->AV):Option (T CE):=none
theorem ada {P:Program} {rd:Nat->ay} {nid h:Nat} {o:Oper} {t:Nat->AV} {T0:T CE} (hd:∀ k,nid<=k->rd k=.dead) (hh:tmT P rd nid h o t=some T0):T0.Sat (CE.Good P o t rd):=by
 simp [tmT] at hh
end Go.Ax

namespace Go.Ax
open Go
variable [Inhabited jZ]
theorem xg {H:HH} {E:Env} {w:World} {M:List ay} (hC:Conc H E w M) {i ty sz n:Nat} {cap:Option Nat} {c:Nat->Nat->Tr} {op:List (Nat×List AV)} {zs:List Value} (hg:getM M i=.trow ty sz n cap c op zs) :
 E.lv i=true/\(n=E.η i/\n<=E.κ i)/\E.κ i<=maxLen/\(∀ q,cap=some q->E.κ i=q)/\(E.ι i=none->E.κ i=0/\op=[])/\∀ b,E.ι i=some b->¬ E.σ i b/\∃ vs F,w.heap[b]? = some (.cells vs ty (0,0))/\AJ H E (fun x=>w.heap[x]?) i sz n (E.κ i) c op zs vs.toList F:=by
 have:=hC.blk i
 rw [hg] at this
 obtain ⟨h0,h1,h2,h3,h4⟩:=this
 refine ⟨h0,h1,h2,h3,fun h=>?_,fun b h=>?_⟩
 · rw [h] at h4;exact h4
 · rw [h] at h4;exact h4
def elemOf (c:Nat->Nat->Tr) (k sz nid:Nat):List AV×List ay:=nA (eP (c k) 0 sz) nid
theorem Oi {H:HH} {E:Env} {w:World} {M:List ay} (hC:Conc H E w M) {i nid ty sz n k:Nat} {cap:Option Nat} {c:Nat->Nat->Tr} {op:List (Nat×List AV)} {zs:List Value} (hg:getM M i=.trow ty sz n cap c op zs) (hk:k<n) (hn:∀ p∈op,p.1≠k) (hlt:i<nid)
 (hd:∀ q,nid<=q->q<nid+len (elemOf c k sz nid).2->getM M q=.dead) :
 ∃ E',Conc H E' w (iH (puts M nid (elemOf c k sz nid).2) i (.trow ty sz n cap c ((k,(elemOf c k sz nid).1)::op) zs))/\bF [] H E w H E' w:=by
 obtain ⟨hl,hη,hκm,hcap,hnone,hsome⟩:=xg hC hg
 cases hι:E.ι i with
 | none=>have:=(hnone hι).1;omega
 | some b =>
   obtain ⟨hs,vs,F,h3,h4⟩:=hsome b hι
   obtain ⟨hC1,_⟩:=hC.upd hl hι (upd_same h3) (B:=.any) ⟨hl,b,_,hι,h3⟩
   have hp:Pool H E w (iH M i .any) i nid (nid+len (elemOf c k sz nid).2):=⟨hC1,aT _ _ _,hlt,fun q hq ht=>by rw [aW _ _ _ _ (by omega)];exact hd q hq ht,fun y hy hs'=>by rw [hι] at hy;cases hy;exact hs hs'⟩
   have hms:n*sz<=E.κ i*sz:=Nat.mul_le_mul_right _ hη.2
   have hk1:(k+1)*sz<=n*sz:=Nat.mul_le_mul_right _ hk
   rw [Nat.add_mul,Nat.one_mul] at hk1
   have hsize:=h4.size
   have hT:jh H (fun b=>w.heap[b]?) (eP (c k) 0 sz) ((vs.toList.drop (k*sz)).take sz) (fun x=>∃ j,F k j x):=by
    refine Hy (by rw [wT,List.length_take,List.length_drop];omega) (fun j j' x hx hx'=>(h4.sep k j k j' x hx hx').2) fun j t ht=>?_
    have hj:j<sz:=by
     have:=(List.getElem?_eq_some_iff.1 ht).1
     rwa [wT] at this
    rw [xB _ _ _ _ hj,Nat.zero_add] at ht
    cases ht
    obtain ⟨x,g1,g2⟩:=h4.tr k hk hn j hj
    exact ⟨x,by rw [List.getElem?_take,if_pos hj,List.getElem?_drop];exact g1,g2⟩
   obtain ⟨E',g1,g2,g3,g4⟩:=Ar (eP (c k) 0 sz) hp (Nat.le_refl _) (fun y ⟨j,hy⟩=>h4.own k j y hy) hT
   obtain ⟨e1,e2,e3,e4⟩:=g3.ids i hl
   refine ⟨E',?_,g2⟩
   have hB':bV H E' w i (.trow ty sz n cap c ((k,(elemOf c k sz nid).1)::op) zs):=by
    refine ⟨e1,by rw [e3,e4];exact hη,by rw [e3];exact hκm,by rw [e3];exact hcap,?_⟩
    rw [e2,hι,e3]
    refine ⟨fun hs'=>hs (g3.sub _ hs'),vs,fun k' j x=>F k' j x/\k'≠k,h3,h4.one,h4.size,fun k' j x hx=>g3.rest x (h4.own k' j x hx.1) fun ⟨j',hz⟩=>hx.2 (h4.sep k' j k j' x hx.1 hz).1,fun k' j k2 j2 x hx hx'=>h4.sep k' j k2 j2 x hx.1 hx'.1,fun p hp=>?_,?_,fun p hp=>?_,fun k' hk' hn' j hj=>?_,h4.spare⟩
    · rcases List.mem_cons.1 hp with rfl | hp
      · exact hk
      · exact h4.lt p hp
    · rw [List.map_cons,List.nodup_cons]
      refine ⟨fun hm=>?_,h4.once⟩
      obtain ⟨p,hp,e⟩:=List.mem_map.1 hm
      exact hn p hp e
    · rcases List.mem_cons.1 hp with rfl | hp
      · exact g4
      · exact aA.env g3.via (h4.known p hp)
    · have hkk:k'≠k:=fun e=>hn' (k,(elemOf c k sz nid).1) (by simp) e.symm
      obtain ⟨x,q1,q2⟩:=h4.tr k' hk' (fun p hp=>hn' p (List.mem_cons_of_mem _ hp)) j hj
      exact ⟨x,q1,iJ.move (HH.le_refl _) _ (fun z hz=>⟨hz,hkk⟩) (fun _ _=>rfl) q2⟩
   obtain ⟨hC2,_⟩:=g1.upd e1 (e2.trans hι) (upd_same h3) hB'
   refine hC2.eqv fun j=>?_
   by_cases hj:i=j
   · subst hj;rw [aT,aT]
   · rw [aW _ _ _ _ hj,aW _ _ _ _ hj,iT,iT,aW _ _ _ _ hj];rfl
def P9 (k:Nat) (t:T CE):List (Nat×List AV)->T CE
 | []=>t
 | (k0,_)::r=>.need (¬ k=k0) (P9 k t r)
theorem IQ {k:Nat} {t:T CE} {Q:CE->Prop}:∀ {op:List (Nat×List AV)},((∀ p∈op,p.1≠k)->t.Sat Q)->(P9 k t op).Sat Q
 | [],h=>h fun p hp=>by cases hp
 | (k0,a)::r,h=>T.Sat.need fun hk=>IQ fun hr=>h fun p hp=>by
   rcases List.mem_cons.1 hp with rfl | hp
   · exact fun e=>hk e.symm
   · exact hr p hp
def Cu (P:Program) (rd:Nat->ay) (nid:Nat) (o:Oper) (t:Nat->AV):Option (T CE):=match o.op with
 | .indexAddr ty x i=>(match P.underlying ty,ev t x,Am (ev t i) with
   | some (.slice e),.own a sz 0 m,some (.int _ q)=>(match sizeT P e,rd a with
     | some sz',.trow ty' s2 n cap c op zs=>(match Nat.beq sz' sz&&Nat.beq s2 sz with
       | true=>some (.need (0<=q) (.need (q<(m:Int)) (P9 q.toNat (.ret ⟨.ptr a q.toNat sz 0,a::uG nid (len (elemOf c q.toNat sz nid).2),(a,.trow ty' s2 n cap c ((q.toNat,(elemOf c q.toNat sz nid).1)::op) zs)::EU nid (elemOf c q.toNat sz nid).2,[],[]⟩) op)))
       | false=>none)
     | _,_=>none)
   | _,_,_=>none)
 | _=>none
theorem Xz {P:Program} {rd:Nat->ay} {nid:Nat} {o:Oper} {t:Nat->AV} {T0:T CE} (hd:∀ k,nid<=k->rd k=.dead) (h:Cu P rd nid o t=some T0):T0.Sat (CE.Good P o t rd):=by
 unfold Cu at h
 split at h
 case h_2=>cases h
 rename_i ty x i hop
 split at h
 case h_2=>cases h
 rename_i e a sz m ki q hu hx hi
 split at h
 case h_2=>cases h
 rename_i sz' ty' s2 n cap c op zs hsz hg
 split at h
 case h_2=>cases h
 rename_i hs
 simp only [Bool.and_eq_true,Nat.beq_eq] at hs
 obtain ⟨rfl,rfl⟩:=hs
 cases h
 refine T.Sat.need fun h0=>T.Sat.need fun h1=>IQ fun hne=>T.Sat.ret fun M hM=>bL fun H E w ac hC hT=>?_
 have hv:=aM hT x
 rw [hx] at hv
 obtain ⟨hlv,hκ,hm⟩:=hv
 have hi2:=eU hi (aM hT i)
 have hgM:=(hM a (by simp)).trans hg
 obtain ⟨hl,hη,hκm,hcap,hnone,hsome⟩:=xg hC hgM
 have hlt:a<nid:=ac' (M:=M) hd (by rw [hg];intro h;cases h)
 obtain ⟨E',hC',hE'⟩:=Oi hC (k:=q.toNat) hgM (by omega) hne hlt fun k hk ht=>(hM k (by simp only [List.mem_cons];exact .inr (mem_iff.1 (oO.2 ⟨hk,ht⟩)))).trans (hd k hk)
 cases hι:E.ι a with
 | none=>have:=(hnone hι).1;omega
 | some b =>
   rw [hι] at hm
   obtain ⟨ad,hv,had⟩:=hm
   obtain rfl:=had.1 (.inl rfl)
   obtain ⟨e1,e2,_⟩:=hE'.ids a hl (by simp)
   refine ⟨.pointer (some ⟨b,q.toNat*s2,none⟩),w,H,E',?_,⟨e1,b,e2.trans hι,by simp⟩,?_,hE'⟩
   · simp [execOp,hop,Instr.indexAt,asIntOf,run_underlying hu,dz w hsz,hv,hi2,h0,h1,addr_add]
   · simp only [dN,dx,tK]
     refine hC'.eqv fun j=>?_
     by_cases hj:a=j
     · subst hj;rw [aT,iT,if_neg (by omega),aT]
     · rw [aW _ _ _ _ hj,iT,iT,aW _ _ _ _ hj]
def OP (P:Program) (e:TypeId):Option (List Value):=match P.info? e with | some i=>(match i.zero with | some z=>some z.cells.toList | none=>none) | none=>none
def Ry (_ _:Nat):Tr:=.av .junk
theorem Oo (z:Array Value) (m:Nat):madeCells z (m*z.size)=Builtin.zeroCells z m:=rfl
def mkR (P:Program) (nid:Nat) (o:Oper) (t:Nat->AV):Option CE :=
 match o.op with
 | .makeSlice ty l c=>(match P.underlying ty,Am (ev t l),Am (ev t c) with
   | some (.slice el),some (.int _ a),some (.int _ b)=>(match P.info? el,oo P el,OP P el with
     | some i,some z,some zs=>(match Nat.ble 1 i.size&&Nat.beq (len z) i.size with
       | true=>some ⟨.own nid i.size 0 0,[nid],[(nid,.trow el i.size 0 none Ry [] zs)],[],[a=0,0<=b,(i.bytes:Int)*b<=281474976710656,b<=9223372036854775807]⟩
       | false=>none)
     | _,_,_=>none)
   | _,_,_=>none)
 | _=>none
theorem acK {P:Program} {rd:Nat->ay} {nid:Nat} {o:Oper} {t:Nat->AV} {e:CE} (hd:∀ k,nid<=k->rd k=.dead) (h:mkR P nid o t=some e) (ho:Hold e.ob):CE.Good P o t rd e:=by
 unfold mkR at h
 split at h
 case h_2=>cases h
 rename_i ty l c hop
 split at h
 case h_2=>cases h
 rename_i el k1 a k2 b hu hl hc
 split at h
 case h_2=>cases h
 rename_i i z zs hi hz hzs
 split at h
 case h_2=>cases h
 rename_i hb
 simp only [Bool.and_eq_true,Nat.ble_eq,Nat.beq_eq,len_eq] at hb
 obtain ⟨hs1,hzl⟩:=hb
 cases h
 have h0:=ho (a=0) (by simp)
 have h1:=ho (0<=b) (by simp)
 have h2:=ho ((i.bytes:Int)*b<=281474976710656) (by simp)
 have h3:=ho (b<=9223372036854775807) (by simp)
 subst h0
 intro M hM
 refine bL fun H E w ac hC hT=>?_
 have hdn:getM M nid=.dead:=(hM nid (by simp)).trans (hd nid (Nat.le_refl _))
 have e1:=eU hl (aM hT l)
 have e2:=eU hc (aM hT c)
 obtain ⟨i',zv,hi',hz',hrz,hoz⟩:=iK H E hz
 rw [hi] at hi'
 cases hi'
 have hzz:zs=zv.cells.toList:=by
  unfold OP at hzs
  rw [hi] at hzs
  simp only [hz'] at hzs
  cases hzs;rfl
 subst hzz
 have hzsz:zv.cells.size=i.size:=by have:=aA.length hrz;simp at this;omega
 have hrun:=run_make (P:=P) w ty el i zv hu hi hz' k1 k2 0 b (Int.le_refl _) h1 h2 h3
 obtain ⟨s1,s2,s3,s4⟩:=E.eO nid (some w.heap.size) b.toNat 0
 have hBok:bV H (E.set nid (some w.heap.size) b.toNat 0) (w.alloc (.cells (madeCells zv.cells (b.toNat*i.size)) el)) nid (.trow el i.size 0 none Ry [] zv.cells.toList):=by
  refine ⟨s1,by rw [s3,s4];omega,by rw [s3];unfold maxLen;omega,fun q hq=>(by cases hq),?_⟩
  rw [s2,s3]
  refine ⟨fun hs=>hs.1 rfl,_,fun _ _ _=>False,heap_alloc_new w _,by simp [ones],by simpa using size_madeCells _ _,fun _ _ _ h=>h.elim,fun _ _ _ _ _ h=>h.elim,fun p hp=>(by cases hp),List.nodup_nil,fun p hp=>(by cases hp),fun k hk=>(by omega),fun _=>?_⟩
  rw [<- hzsz,Oo]
  simp
 have hconc:=oP (κ:=b.toNat) (η:=0) hC hdn (madeCells zv.cells (b.toNat*i.size)) el hBok
 refine ⟨.slice (some ⟨w.heap.size,0,none⟩) 0 b.toNat,_,H,_,?_,⟨s1,by rw [s3,s4];omega,?_⟩,hconc.1,hconc.2⟩
 · have:=hrun
   simp [execOp,hop,e1,e2,this]
 · rw [s2]
   exact ⟨some ⟨w.heap.size,0,none⟩,by rw [s3];simp,by simp⟩
def adb (P:Program) (nid h:Nat) (o:Oper) (t:Nat->AV):Option CE :=
 match o.op with
 | .move x | .assign x=>(match ev t x with
   | .s (.slice none 0 0)=>(match P.info? (h - 1000000),OP P (h - 1000000) with
     | some i,some zs=>some ⟨.own nid i.size 0 0,[nid],[(nid,.trow (h - 1000000) i.size 0 none Ry [] zs)],[],[]⟩
     | _,_=>none)
   | _=>none)
 | _=>none
theorem X4 {P:Program} {rd:Nat->ay} {nid h:Nat} {o:Oper} {t:Nat->AV} {e:CE} (hd:∀ k,nid<=k->rd k=.dead) (hh:adb P nid h o t=some e):CE.Good P o t rd e:=by
 have go:∀ x,o.op=.move x∨o.op=.assign x->(match ev t x with
  | .s (.slice none 0 0)=>(match P.info? (h - 1000000),OP P (h - 1000000) with
    | some i,some zs=>some (⟨.own nid i.size 0 0,[nid],[(nid,.trow (h - 1000000) i.size 0 none Ry [] zs)],[],[]⟩:CE)
    | _,_=>none)
  | _=>none)=some e->CE.Good P o t rd e:=by
  intro x hop hh
  split at hh
  case h_2=>cases hh
  rename_i hx
  split at hh
  case h_2=>cases hh
  rename_i i zs hi hzs
  cases hh
  intro M hM
  refine bL fun H E w ac hC hT=>?_
  have hdn:getM M nid=.dead:=(hM nid (by simp)).trans (hd nid (Nat.le_refl _))
  have hv:=aM hT x
  rw [hx] at hv
  obtain ⟨hv,_⟩:=hv
  obtain ⟨s1,s2,s3,s4⟩:=E.eO nid none 0 0
  obtain ⟨hc,hev⟩:=hC.new (w':=w) (i:=nid) (κ:=0) (η:=0) (bo:=none) (B:=.trow (h - 1000000) i.size 0 none Ry [] zs) hdn rfl rfl rfl (Nat.le_refl _) (fun _ _=>rfl) (fun b hb=>by cases hb)
   ⟨s1,by rw [s3,s4];omega,by rw [s3];exact Nat.zero_le _,(fun q hq=>by cases hq),by rw [s2];exact ⟨s3,rfl⟩⟩
  refine ⟨.slice none 0 0,w,H,_,?_,⟨s1,by rw [s3,s4];omega,by rw [s2];exact ⟨rfl,rfl,rfl⟩⟩,hc,hev⟩
  rcases hop with hop | hop<;>simp [execOp,hop,hv]
 unfold adb at hh
 split at hh
 · rename_i x hop;exact go x (.inl hop) hh
 · rename_i x hop;exact go x (.inr hop) hh
 · cases hh
def Env.o7 (E:Env) (i:Nat) (b:Option Nat) (κ η:Nat):Env :=
 ⟨E.lv,fun j=>if j=i then b else E.ι j,fun j=>if j=i then κ else E.κ j,fun j=>if j=i then η else E.η j,E.σ⟩
theorem Env.O6 (E:Env) (i:Nat) (b:Option Nat) (κ η:Nat):(E.o7 i b κ η).lv i=E.lv i/\(E.o7 i b κ η).ι i=b/\(E.o7 i b κ η).κ i=κ/\(E.o7 i b κ η).η i=η:=by simp [Env.o7]
theorem Env.Mj (E:Env) (i j:Nat) (b:Option Nat) (κ η:Nat) (h:j≠i):(E.o7 i b κ η).lv j=E.lv j/\(E.o7 i b κ η).ι j=E.ι j/\(E.o7 i b κ η).κ j=E.κ j/\(E.o7 i b κ η).η j=E.η j:=by simp [Env.o7,h]
theorem Env.wK {E:Env} {i j x:Nat} {b:Option Nat} {κ η:Nat} (h:(E.o7 i b κ η).has j x):(j=i/\b=some x/\E.lv i=true)∨E.has j x:=by
 obtain ⟨h1,h2⟩:=h
 rcases h2 with h2 | h2
 · by_cases hj:j=i
   · subst hj
     simp [Env.o7] at h1 h2
     exact .inl ⟨rfl,h2,h1⟩
   · simp [Env.o7,hj] at h1 h2
     exact .inr ⟨h1,.inl h2⟩
 · exact .inr ⟨h1,.inr h2⟩
theorem Env.vB {E:Env} {a κ η:Nat} {bo:Option Nat}:E.via (E.o7 a bo κ η) (aO [a]):=by
 intro i j hij hli
 unfold aO at hij
 split at hij
 · cases hij
 · rename_i hn
   cases hij
   have hne:i≠a:=by simpa using hn
   obtain ⟨e1,e2,e3⟩:=E.Mj a i bo κ η hne
   exact ⟨e1.trans hli,e2,e3⟩
theorem Conc.agd {H:HH} {E:Env} {w w':World} {M:List ay} {a κ' η':Nat} {bo':Option Nat} {B:ay} (hC:Conc H E w M) (hl:E.lv a=true) (hw:w.grownBy w' (E.ι a)) (hbo:∀ g,bo'=some g->E.ι a=some g∨w.heap.size<=g)
 (hB:bV H (E.o7 a bo' κ' η') w' a (eY (aO [a]) B)):Conc H (E.o7 a bo' κ' η') w' (dN [a] (iH M a B))/\bF [a] H E w H (E.o7 a bo' κ' η') w':=by
 have hsame:∀ b,b<w.heap.size->E.ι a≠some b->w'.heap[b]? = w.heap[b]?:=fun b hb hn=>hw.block b hb fun e=>hn e.symm
 have hown:∀ {g:Nat},bo'=some g->E.has a g∨w.heap.size<=g:=fun hg=>(hbo _ hg).imp (fun h=>⟨hl,.inl h⟩) id
 refine ⟨⟨fun b o ho=>?_,hC.tf,fun i=>?_,fun i j b hi hj=>?_,fun i b hi=>?_,fun i b hi hib=>?_⟩,⟨hw.os,hw.tape,hw.output,hw.size,fun b hb hn=>hsame b hb (fun e=>hn a ⟨hl,.inl e⟩),fun i b hi=>?_,HH.le_refl _,fun _ _ _ h=>.inl h,fun i hi hn=>?_⟩⟩
 · rw [hsame b (IH.p8 hC.imm ho) fun e=>by rw [hC.sep a b hl e] at ho;cases ho]
   exact hC.imm b o ho
 · rw [fI]
   by_cases hi:a=i
   · subst hi;rw [aT];exact hB
   · rw [aW _ _ _ _ hi]
     have hi':i≠a:=fun e=>hi e.symm
     obtain ⟨e1,e2,e3,e4⟩:=E.Mj a i bo' κ' η' hi'
     exact (hC.blk i).move (HH.le_refl _) Env.vB e1 e2 e3 e4 (fun b=>Iff.rfl) fun b hb=>hsame b (hC.o9 hb) fun e=>hi (hC.injH a i b ⟨hl,.inl e⟩ hb)
 · rcases Env.wK hi with ⟨rfl,h1,_⟩ | h1<;>rcases Env.wK hj with ⟨rfl,h2,_⟩ | h2
   · rfl
   · have hlt:=hC.o9 h2
     rcases hown h1 with h3 | h3
     · exact hC.injH _ _ b h3 h2
     · omega
   · have hlt:=hC.o9 h1
     rcases hown h2 with h3 | h3
     · exact hC.injH _ _ b h1 h3
     · omega
   · exact hC.injH i j b h1 h2
 · rcases Env.wK hi with ⟨rfl,h1,_⟩ | h1
   · rcases hown h1 with h3 | h3
     · exact hC.sepH _ b h3
     · cases hx:H false b with
       | none=>rfl
       | some o=>have:=IH.p8 hC.imm hx;omega
   · exact hC.sepH i b h1
 · have:=hC.ltS i b hi hib;have:=hw.size;omega
 · rcases Env.wK hi with ⟨rfl,h1,_⟩ | h1
   · rcases hown h1 with h3 | h3
     · exact .inl ⟨_,h3⟩
     · exact .inr h3
   · exact .inl ⟨i,h1⟩
 · exact Env.vB i i (by unfold aO;rw [if_neg (by simpa using hn)]) hi
theorem Ov (z:Array Value) (m k:Nat) (hz:0<z.size):(Builtin.zeroCells z m).toList.drop (k*z.size)=(Builtin.zeroCells z (m - k)).toList:=by
 refine List.ext_getElem? fun q=>?_
 rw [List.getElem?_drop]
 simp only [Builtin.zeroCells,Array.toList_map,List.getElem?_map,Array.toList_range]
 by_cases hq:q<(m - k)*z.size
 · have h2:k*z.size+q<m*z.size:=by
    rw [Nat.sub_mul] at hq
    omega
   rw [List.getElem?_range h2,List.getElem?_range hq]
   simp only [Option.map_some]
   congr 2
   rw [Nat.mul_comm,Nat.mul_add_mod]
 · have h2:m*z.size<=k*z.size+q:=by
    rw [Nat.sub_mul] at hq
    omega
   rw [List.getElem?_eq_none (by simpa using h2),List.getElem?_eq_none (by simpa using hq)]
theorem yG {P:Program} {w:World} {t ty el:TypeId} {i:TypeInfo} {z s:Value} {n m c κ:Nat} {bo:Option Nat} {cur:Array Value} {news:List Value} {ad:Addr} (hu:P.underlying t=some (.slice el)) (hi:P.info? el=some i) (hz:i.zero=some z)
 (hzs:z.cells.size=i.size) (h0:0<i.size) (hnκ:n<=κ) (hκm:κ<=maxLen) (hs:s=match bo with | none=>.slice none 0 0 | some b=>.slice (some ⟨b,0,none⟩) n κ) (hbn:bo=none->n=0/\κ=0/\cur=#[]) (hbs:∀ b,bo=some b->w.heap[b]? = some (.cells cur el (0,0))) (hcs:cur.size=κ*i.size)
 (hm:1<=m) (hnl:news.length=m*i.size) (hcell:∀ j u,news[j]? = some u->w.cell? (ad.add j)=some u) (h1:ones news) (h63:n+m<=maxLen) (hb:(n+m)*i.bytes<=140737488355328) :
 ∃ b' κ' cur' w',(Builtin.append_ #[t,t] ty #[s,.slice (some ad) m c]).run P w=.ok (.slice (some ⟨b',0,none⟩) (n+m) κ') w'/\w'.heap[b']? = some (.cells cur' el (0,0))/\cur'.size=κ'*i.size/\n+m<=κ'/\κ'<=maxLen/\cur'.toList.take ((n+m)*i.size)=cur.toList.take (n*i.size)++news /\
  w.grownBy w' bo/\(bo=some b'∨w.heap.size<=b')/\((κ'=κ/\cur'.toList.drop ((n+m)*i.size)=cur.toList.drop ((n+m)*i.size))∨cur'.toList.drop ((n+m)*i.size)=(Builtin.zeroCells z.cells (κ' - (n+m))).toList):=by
 have hnk:n*i.size<=κ*i.size:=Nat.mul_le_mul_right _ hnκ
 have hxl:(cur.toList.take (n*i.size)).length=n*i.size:=by simp;omega
 have hlen:(cur.toList.take (n*i.size)++news).length=(n+m)*i.size:=by rw [List.length_append,hxl,hnl,Nat.add_mul]
 have hsmall:n+m<=9223372036854775807:=by simp only [maxLen] at h63;omega
 have grown:∀ (old:Nat),old<n+m->∀ xs:List Value,xs=cur.toList.take (n*i.size) ->
  (w.drew.alloc (.cells (xs.toArray++news.toArray++Builtin.zeroCells z.cells (grownCap w (n+m) old el - (n+m))) el)).heap[w.heap.size]? = some (.cells (xs.toArray++news.toArray++Builtin.zeroCells z.cells (grownCap w (n+m) old el - (n+m))) el (0,0)) /\
  (xs.toArray++news.toArray++Builtin.zeroCells z.cells (grownCap w (n+m) old el - (n+m))).size=grownCap w (n+m) old el*i.size/\n+m<=grownCap w (n+m) old el/\grownCap w (n+m) old el<=maxLen /\
  (xs.toArray++news.toArray++Builtin.zeroCells z.cells (grownCap w (n+m) old el - (n+m))).toList.take ((n+m)*i.size)=cur.toList.take (n*i.size)++news /\
  w.grownBy (w.drew.alloc (.cells (xs.toArray++news.toArray++Builtin.zeroCells z.cells (grownCap w (n+m) old el - (n+m))) el)) bo /\
  (xs.toArray++news.toArray++Builtin.zeroCells z.cells (grownCap w (n+m) old el - (n+m))).toList.drop ((n+m)*i.size)=(Builtin.zeroCells z.cells (grownCap w (n+m) old el - (n+m))).toList:=by
  intro old ho xs hxs
  subst hxs
  have hge:=grownCap_ge w (n+m) old el
  have hcm:grownCap w (n+m) old el<=maxLen:=grownCap_le_maxLen w (n+m) old el h63
  refine ⟨heap_alloc_new w.drew _,?_,hge,hcm,?_,⟨rfl,rfl,rfl,by simp,fun k hk _=>heap_alloc_old w.drew _ hk⟩,?_⟩
  · simp only [Array.size_append,List.size_toArray,size_zeroCells,hzs,hxl,hnl,<- Nat.add_mul]
    congr 1
    omega
  · simp only [Array.toList_append]
    rw [<- hlen]
    exact List.take_left
  · simp only [Array.toList_append]
    rw [<- hlen]
    exact List.drop_left
 cases bo with
 | none =>
   obtain ⟨rfl,rfl,rfl⟩:=hbn rfl
   subst hs
   have hr:=run_append_nil (P:=P) w t ty el i z hu hi hz ad m c news hnl hcell (by omega) (by omega) (by have hb:=hb;simp only [Nat.zero_add] at hb;omega)
   obtain ⟨g1,g2,g3,g4,g5,g6,g7⟩:=grown 0 (by omega) [] (by simp)
   simp only [Nat.zero_add,Array.empty_append] at hr g1 g2 g3 g4 g5 g6 g7 ⊢
   exact ⟨_,_,_,_,hr,g1,g2,g3,g4,g5,g6,.inr (Nat.le_refl _),.inr g7⟩
 | some g =>
   subst hs
   have hg:=hbs g rfl
   by_cases hroom:n+m<=κ
   · have hfit:n*i.size+news.length<=cur.size:=by rw [hnl,hcs,<- Nat.add_mul];exact Nat.mul_le_mul_right _ hroom
     have hr:=run_append_room (P:=P) w t ty el i hu hi g n κ cur hg ad m c news hnl hcell h1 hroom hfit
     refine ⟨g,κ,_,_,hr,setRow_heap w g cur _ el _ hg,?_,hroom,hκm,?_,⟨rfl,rfl,rfl,by simp,fun k _ hk=>setRow_other w g k _ (fun e=>hk (by simp [e]))⟩,.inl rfl,.inl ⟨rfl,?_⟩⟩
     · simp only [List.size_toArray,List.length_append,List.length_take,List.length_drop,Array.length_toList]
       omega
     · rw [<- hlen]
       exact List.take_left
     · rw [show (cur.toList.take (n*i.size)++news++cur.toList.drop (n*i.size+news.length)).toArray.toList=cur.toList.take (n*i.size)++news++cur.toList.drop (n*i.size+news.length) from rfl,<- hlen,List.drop_left,List.length_append,hxl]
   · have holds:∀ j u,(cur.toList.take (n*i.size))[j]? = some u->w.cell? ((⟨g,0,none⟩:Addr).add j)=some u:=by
      intro j u hu
      have hadd:(⟨g,0,none⟩:Addr).add j=⟨g,j,none⟩:=by unfold Addr.add;split<;>simp_all
      rw [hadd,cell_of_row w g j cur el (0,0) hg]
      rw [List.getElem?_take] at hu
      split at hu
      · simpa using hu
      · cases hu
     have hr:=run_append_grow (P:=P) w t ty el i z hu hi hz ⟨g,0,none⟩ n κ (cur.toList.take (n*i.size)) hxl holds ad m c news hnl hcell (by omega) (by omega) (growslice_fits (by omega) hb)
     obtain ⟨g1,g2,g3,g4,g5,g6,g7⟩:=grown κ (by omega) _ rfl
     exact ⟨_,_,_,_,hr,g1,g2,g3,g4,g5,g6,.inr (Nat.le_refl _),.inr g7⟩
def adS (P:Program) (rd:Nat->ay) (o:Oper) (t:Nat->AV):Option CE:=match o.op with
 | .call { callee:=.builtin .append,args,argTypes }=>(match argTypes.toList,args.toList with
   | [t1,t2],[s,x]=>(match P.underlying t1,ev t s with
     | some (.slice e),.own a sz 0 n=>(match P.info? e,oo P e,OP P e,rd a with
       | some inf,some zl,some zz,.trow ty s2 m cap c op zs=>(match t1==t2&&Nat.beq s2 sz&&Nat.beq inf.size sz&&Nat.ble 1 sz&&Nat.beq ty e&&TV zz zs&&Nat.beq (len zl) sz,oD rd sz (sv (ev t x)) with
         | true,some (1,some l,_)=>some ⟨.own a sz 0 (n+1),a::gN (sv (ev t x)),[(a,.trow ty sz (n+1) none c ((n,gY (aO [a]) l)::op.map fun p=>(p.1,gY (aO [a]) p.2)) zs)],[a],[m=n,n+1<=maxLen,(n+1)*inf.bytes<=140737488355328]⟩
         | _,_=>none)
       | _,_,_,_=>none)
     | _,_=>none)
   | _,_=>none)
 | _=>none
theorem ZV {P:Program} {o:Oper} {t:Nat->AV} {rd:Nat->ay} {e:CE} (h:adS P rd o t=some e) (ho:Hold e.ob):CE.Good P o t rd e:=by
 unfold adS at h
 split at h
 case h_2=>cases h
 rename_i args ats hop
 split at h
 case h_2=>cases h
 rename_i t1 t2 s x hty hargs
 have h1:args=#[s,x]:=Array.ext' hargs
 have h2:ats=#[t1,t2]:=Array.ext' hty
 subst h1;subst h2
 split at h
 case h_2=>cases h
 rename_i el a sz n hu hs0
 split at h
 case h_2=>cases h
 rename_i inf zl zz ty s2 m cap c op zs hi hz hzz hg
 split at h
 case h_2=>cases h
 rename_i l d hb hsrc
 cases h
 simp only [Bool.and_eq_true,beq_iff_eq,Nat.beq_eq,Nat.ble_eq] at hb
 obtain ⟨⟨⟨⟨⟨⟨rfl,rfl⟩,hsz⟩,h0⟩,rfl⟩,hzl⟩,hzn⟩:=hb
 rw [len_eq] at hzn
 have hmn:=ho (m=n) (by simp)
 have h63:=ho (n+1<=maxLen) (by simp)
 have hby:=ho ((n+1)*inf.bytes<=140737488355328) (by simp)
 subst hmn
 intro M hM
 refine bL fun H E w ac hC hT=>?_
 have hs:=aM hT s
 rw [hs0] at hs
 have hx:=rO (aM hT x)
 rw [<- rz (rd:=getM M) (fun j hj=>hM j (by simp [hj]))] at hsrc
 obtain ⟨A,c',news,hxv,hnl,hA,hcell,hones,hr1,_⟩:=qK hC hx h0 hsrc
 have hr1:=hr1 l rfl
 simp only at hxv hnl hA
 obtain ⟨ad,rfl⟩:∃ ad,A=some ad:=by
  cases A with
  | none=>have:=hA rfl;omega
  | some ad=>exact ⟨ad,rfl⟩
 have hcell:=hcell ad rfl
 obtain ⟨hl,hη,hκm,hcap,hnone,hsome⟩:=xg hC ((hM a (by simp)).trans hg)
 obtain ⟨_,hκ,hm2⟩:=hs
 obtain ⟨i',z,hi',hz',hrz,hoz⟩:=iK H E hz
 rw [hi] at hi';cases hi'
 have hzsz:z.cells.size=inf.size:=by
  have:=aA.length hrz
  simp at this;omega
 have hzz':zz=z.cells.toList:=by
  unfold OP at hzz
  rw [hi] at hzz
  simp only [hz'] at hzz
  cases hzz;rfl
 -- the cells that were there
 obtain ⟨cur,hbn,hbs,hcs⟩:∃ cur:Array Value,(E.ι a=none->m=0/\E.κ a=0/\cur=#[])/\(∀ b,E.ι a=some b->w.heap[b]? = some (.cells cur ty (0,0))/\¬ E.σ a b/\∃ F,AJ H E (fun x=>w.heap[x]?) a s2 m (E.κ a) c op zs cur.toList F)/\cur.size=E.κ a*inf.size:=by
  cases hι:E.ι a with
  | none=>exact ⟨#[],fun _=>⟨by have:=(hnone hι).1;omega,(hnone hι).1,rfl⟩,fun b hb=>(by cases hb),by rw [(hnone hι).1];simp⟩
  | some b =>
    obtain ⟨g1,vs,F,g2,g3⟩:=hsome b hι
    exact ⟨vs,fun h=>(by cases h),fun b' hb'=>(by cases hb';exact ⟨g2,g1,F,g3⟩),by have:=g3.size;rw [hsz];simpa using this⟩
 have hsv:ac.eval s=match E.ι a with | none=>.slice none 0 0 | some b=>.slice (some ⟨b,0,none⟩) m (E.κ a):=by
  cases hι:E.ι a with
  | none=>rw [hι] at hm2;exact hm2.2.2
  | some b =>
    rw [hι] at hm2
    obtain ⟨ad',hv,had⟩:=hm2
    rw [hv,had.1 (.inl rfl)];simp
 obtain ⟨b',κ',cur',w',hrun,k1,k2,k3,k4,k5,k6,k7,k8⟩:=yG (ty:=o.type) (c:=c') hu hi hz' hzsz (by omega) (by omega) hκm hsv hbn (fun b hb=>(hbs b hb).1) hcs (Nat.le_refl 1) (by rw [hsz];exact hnl) hcell hones h63 hby
 obtain ⟨e1,e2,e3,e4⟩:=E.O6 a (some b') κ' (m+1)
 rw [hsz] at k2 k5 k8 hcs
 have hcl:cur.toList.length=E.κ a*s2:=by simpa using hcs
 have hmκ:m*s2<=E.κ a*s2:=Nat.mul_le_mul_right _ (by omega)
 have hcl':cur'.toList.length=κ'*s2:=by simpa using k2
 have hmκ':(m+1)*s2<=κ'*s2:=Nat.mul_le_mul_right _ k3
 have hm1:(m+1)*s2=m*s2+s2:=by rw [Nat.add_mul,Nat.one_mul]
 have hget:∀ q,q<m*s2->cur'.toList[q]? = cur.toList[q]?:=fun q hq=>by
  have h3:(cur'.toList.take ((m+1)*s2))[q]? = (cur.toList.take (m*s2)++news)[q]?:=by rw [k5]
  rw [List.getElem?_take,if_pos (by omega),List.getElem?_append,if_pos (by rw [List.length_take];omega),List.getElem?_take,if_pos hq] at h3
  exact h3
 have hnew:(cur'.toList.drop (m*s2)).take s2=news:=by
  have h3:(cur'.toList.take ((m+1)*s2)).drop (m*s2)=news:=by
   rw [k5,List.drop_append_of_le_length (by rw [List.length_take];omega),List.drop_eq_nil_of_le (by rw [List.length_take];omega),List.nil_append]
  rw [<- h3,List.drop_take]
  congr 1
  omega
 obtain ⟨F,g1,g2,g3⟩:∃ F,(∀ b,E.ι a=some b->¬ E.σ a b)/\AJ H E (fun x=>w.heap[x]?) a s2 m (E.κ a) c op zs cur.toList F/\(E.ι a=none->zs≠[]->True):=by
  cases hι:E.ι a with
  | none =>
    obtain ⟨hm0,hκ0,hc0⟩:=hbn hι
    have hop:=(hnone hι).2
    subst hop
    refine ⟨fun _ _ _=>False,fun b hb=>(by cases hb),⟨by rw [hm0];simp [ones],hcl,fun _ _ _ h=>h.elim,fun _ _ _ _ _ h=>h.elim,fun p hp=>(by cases hp),List.nodup_nil,fun p hp=>(by cases hp),fun k hk=>(by omega),fun _=>?_⟩,fun _ _=>trivial⟩
    rw [hm0,hκ0,hc0]
    simp [Builtin.zeroCells]
  | some b =>
    obtain ⟨_,hb2,F,g⟩:=hbs b hι
    exact ⟨F,fun b' hb'=>(by cases hb';exact hb2),g,fun _ _=>trivial⟩
 have hhp:∀ x,E.σ a x->w'.heap[x]? = w.heap[x]?:=fun x hx=>k6.block x (hC.ltS a x hl hx) fun e=>g1 x e.symm hx
 have hfst:((op.map fun p=>(p.1,gY (aO [a]) p.2)).map fun p=>p.1)=op.map fun p=>p.1:=by rw [List.map_map];rfl
 have hB:bV H (E.o7 a (some b') κ' (m+1)) w' a (eY (aO [a]) (.trow ty s2 (m+1) none c ((m,l)::op) zs)):=by
  refine ⟨e1.trans hl,by rw [e3,e4];exact ⟨rfl,k3⟩,by rw [e3];exact k4,fun q hq=>(by cases hq),?_⟩
  rw [e2,e3]
  refine ⟨fun hs'=>?_,cur',F,k1,?_,hcl',fun k j x hx=>g2.own k j x hx,g2.sep,fun p hp=>?_,?_,fun p hp=>?_,fun k hk hn j hj=>?_,fun hz'=>?_⟩
  · have hs':E.σ a b':=hs'
    rcases k7 with h | h
    · exact g1 b' h hs'
    · have:=hC.ltS a b' hl hs';omega
  · rw [k5]
    intro y hy
    rcases List.mem_append.1 hy with hy | hy
    · exact g2.one y hy
    · exact hones y hy
  · simp only [List.map_cons,List.mem_cons] at hp
    rcases hp with rfl | hp
    · exact Nat.lt_succ_self _
    · obtain ⟨p0,hp0,rfl⟩:=List.mem_map.1 hp
      have:=g2.lt p0 hp0
      show p0.1<m+1
      omega
  · show (m::((op.map fun p=>(p.1,gY (aO [a]) p.2)).map fun p=>p.1)).Nodup
    rw [hfst,List.nodup_cons]
    refine ⟨fun hm=>?_,g2.once⟩
    obtain ⟨p,hp,e⟩:=List.mem_map.1 hm
    have:=g2.lt p hp
    omega
  · simp only [List.map_cons,List.mem_cons] at hp
    rcases hp with rfl | hp
    · show aA (gY (aO [a]) l) H _ ((cur'.toList.drop (m*s2)).take s2)
      rw [hnew];exact aA.ren _ Env.vB hr1
    · obtain ⟨p0,hp0,rfl⟩:=List.mem_map.1 hp
      have hlt:=g2.lt p0 hp0
      have hk1:(p0.1+1)*s2<=m*s2:=Nat.mul_le_mul_right _ hlt
      rw [Nat.add_mul,Nat.one_mul] at hk1
      have e:(cur'.toList.drop (p0.1*s2)).take s2=(cur.toList.drop (p0.1*s2)).take s2:=by
       refine List.ext_getElem? fun q=>?_
       rw [List.getElem?_take,List.getElem?_take]
       split
       · rename_i hq
         rw [List.getElem?_drop,List.getElem?_drop,hget _ (by omega)]
       · rfl
      show aA (gY (aO [a]) p0.2) H _ ((cur'.toList.drop (p0.1*s2)).take s2)
      rw [e]
      exact aA.ren _ Env.vB (g2.known p0 hp0)
  · have hkm:k≠m:=fun e=>hn (m,gY (aO [a]) l) (by simp) e.symm
    obtain ⟨x,q1,q2⟩:=g2.tr k (by omega) (fun p hp=>hn (p.1,gY (aO [a]) p.2) (by
     simp only [List.map_cons,List.mem_cons]
     exact .inr (List.mem_map.2 ⟨p,hp,rfl⟩))) j hj
    have hk1:(k+1)*s2<=m*s2:=Nat.mul_le_mul_right _ (by omega)
    rw [Nat.add_mul,Nat.one_mul] at hk1
    exact ⟨x,by rw [hget _ (by omega)];exact q1,iJ.move (HH.le_refl _) _ (fun _ h=>h) (fun y hy=>hhp y (g2.own k j y hy)) q2⟩
  · have hzq:zs=z.cells.toList:=by rw [<- hzz'];exact (vY hzl hz').symm
    rcases k8 with ⟨hκκ,k8⟩ | k8
    · rw [k8,hκκ]
      have:=g2.spare hz'
      rw [hm1,<- List.drop_drop,this]
      have h3:zs.toArray.size=s2:=by rw [hzq];simp;omega
      have:=Ov zs.toArray (E.κ a - m) 1 (by omega)
      rw [h3,Nat.one_mul] at this
      rw [this]
      congr 1
    · rw [k8,hzq]
 obtain ⟨hconc,hev⟩:=hC.agd hl k6 (bo':=some b') (κ':=κ') (η':=m+1) (fun g hg=>by cases hg;exact k7.imp id id) hB
 refine ⟨.slice (some ⟨b',0,none⟩) (m+1) κ',w',H,E.o7 a (some b') κ' (m+1),?_,⟨e1.trans hl,by rw [e3,e4];omega,?_⟩,?_,hev⟩
 · simp [execOp,hop,resolve,invoke,builtin,hxv,hrun,Result.andThen]
 · rw [e2,e3]
   exact ⟨some ⟨b',0,none⟩,by simp,by simp⟩
 · refine hconc.eqv fun j=>?_
   simp only [dx]
   rw [fI]
   by_cases hj:a=j
   · subst hj;rw [aT,aT];rfl
   · rw [aW _ _ _ _ hj,aW _ _ _ _ hj,fI]
def upR (P:Program) (rd:Nat->ay) (o:Oper) (t:Nat->AV):Option CE:=none
theorem aek {P:Program} {o:Oper} {t:Nat->AV} {rd:Nat->ay} {e:CE} (h:upR P rd o t=some e) (ho:Hold e.ob):CE.Good P o t rd e:=by
 simp [upR] at h
def trR (P:Program) (rd:Nat->ay) (nid h:Nat) (o:Oper) (t:Nat->AV):Option (T CE) :=
 match Nat.beq h 786 with
 | true=>Cu P rd nid o t
 | false=>(match Nat.beq h 787 with
   | true=>(match mkR P nid o t with | some e=>some e.Co | none=>none)
   | false=>(match Nat.ble 1000000 h with
     | true=>(match adb P nid h o t with | some e=>some e.Co | none=>none)
     | false=>(match Nat.beq h 781 with
       | true=>(match upR P rd o t with | some e=>some e.Co | none=>none)
       | false=>(match o.op with
         | .call { callee:=.builtin .append,.. }=>(match adS P rd o t with | some e=>some e.Co | none=>none)
         | _=>none))))
theorem adU {P:Program} {rd:Nat->ay} {nid h:Nat} {o:Oper} {t:Nat->AV} {T0:T CE} (hd:∀ k,nid<=k->rd k=.dead) (hh:trR P rd nid h o t=some T0):T0.Sat (CE.Good P o t rd):=by
 unfold trR at hh
 split at hh
 · exact Xz hd hh
 · split at hh
   · split at hh
     case h_2=>cases hh
     rename_i e he
     cases hh
     exact CE.gP fun ho=>acK hd he ho
   · split at hh
     · split at hh
       case h_2=>cases hh
       rename_i e he
       cases hh
       exact CE.gP fun _=>X4 hd he
     · split at hh
       · split at hh
         case h_2=>cases hh
         rename_i e he
         cases hh
         exact CE.gP fun ho=>aek he ho
       · split at hh
         · split at hh
           case h_2=>cases hh
           rename_i e he
           cases hh
           exact CE.gP fun ho=>ZV he ho
         · cases hh
end Go.Ax
