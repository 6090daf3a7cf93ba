import Derived.Laws.AppendOwn
import Derived.Test.YtffkiommagljeaaGreatDoorE25
set_option linter.unusedVariables false
set_option linter.unusedSimpArgs false
set_option linter.unusedSectionVars false
namespace Go.Ax
open Go
variable [Inhabited Gl0]
theorem run_append_zeros {P:Program} (w:World) (t tx ty e:TypeId) (i:TypeInfo) (z:Value) (k kx:IntKind) (ht:P.underlying t=some (.slice e)) (hx:P.underlying tx=some (.int kx)) (hi:P.info? e=some i) (hz:i.zero=some z) (hs:1<=i.size)
 (n:Nat) (h0:0<n) (h63:(n:Int)<=9223372036854775807) (h48:n*i.bytes<=281474976710656) :
 (Builtin.append_ #[t,tx] ty #[.slice none 0 0,.int k n]).run P w =
   .ok (.slice (some ⟨w.heap.size,0,none⟩) n (grownCap w n 0 e)) (w.drew.alloc (.cells (Builtin.zeroCells z.cells n++Builtin.zeroCells z.cells (grownCap w n 0 e - n)) e)):=by
 have hn:n≠0:=by omega
 have hn2:¬ (n*i.size=0):=by
  have:1*1<=n*i.size:=Nat.mul_le_mul h0 hs
  omega
 have h63':¬ (9223372036854775807<(n:Int)):=by omega
 have h48':¬ (281474976710656<Builtin.nextslicecap n 0*i.bytes):=by rw [nextslicecap_zero h0];omega
 have hw:IntKind.i64.wrap (n:Int)=n:=by rw [IntKind.wrap_i64];omega
 have hneg:¬ ((n:Int)<0):=by omega
 have hbig:¬ (281474976710656<(n:Int)*(i.bytes:Int)):=by
  have:((n*i.bytes:Nat):Int)<=281474976710656:=by omega
  rw [Int.natCast_mul] at this;omega
 have hs1:¬ (i.size=0):=by omega
 simp [Builtin.append_,run_underlying ht,run_underlying hx,sizeOf,typeInfo,zeroValue,hi,hz,asInt,asIntOf,hw,hneg,hbig,hn,hs1,h63',h48',Question.forced,run_firstCells_none,newRow,grownCap]
 exact fun e=>absurd e hn2
def zerosE (P:Program) (nid:Nat) (o:Oper) (t:Nat->AV):Option CE :=
 match o.op with
 | .call { callee:=.builtin .append,args,argTypes }=>(match args.toList,argTypes.toList with
   | [s,x],[ty,tx]=>(match ev t s,scV (ev t x),P.underlying ty,P.underlying tx with
     | .s (.slice none 0 0),some (.int _ n),some (.slice el),some (.int _)=>(match P.info? el,zeroL P el with
       | some i,some z=>(match Nat.ble 1 i.size&&Nat.beq (len z) i.size&&noRefL z with
         | true=>some ⟨.own nid i.size 0 n.toNat,[nid],[(nid,.row el i.size n.toNat none fun _ j=>get z j)],[],[0<n,n<=9223372036854775807,n*(i.bytes:Int)<=281474976710656]⟩
         | false=>none)
       | _,_=>none)
     | _,_,_,_=>none)
   | _,_=>none)
 | .slice ty x lo hi mx=>(match P.underlying ty,ev t x,lo,mx,hi.map fun q=>scV (ev t q) with
   | some (.slice el),.s (.slice none 0 0),none,none,some (some (.int _ 0))=>(match sizeT P el with | some _=>some ⟨.s (.slice none 0 0),[],[],[],[]⟩ | none=>none)
   | _,_,_,_,_=>none)
 | _=>none
theorem zeros_cell (zc:Array Value) (n m k j:Nat) (h:0<zc.size) (hk:k<n) (hj:j<zc.size):(Builtin.zeroCells zc n++Builtin.zeroCells zc m)[k*zc.size+j]? = zc[j]?:=by
 have hlt:k*zc.size+j<n*zc.size:=by
  have:(k+1)*zc.size<=n*zc.size:=Nat.mul_le_mul_right _ hk
  rw [Nat.add_mul] at this;omega
 have hmod:(k*zc.size+j) % zc.size=j:=by rw [Nat.mul_comm,Nat.mul_add_mod];exact Nat.mod_eq_of_lt hj
 rw [Array.getElem?_append_left (by simpa [Builtin.zeroCells] using hlt)]
 simp [Builtin.zeroCells,hlt,hmod,hj]
theorem zerosE_ok {P:Program} {rd:Nat->Blk} {nid:Nat} {o:Oper} {t:Nat->AV} {e:CE} (hd:∀ k,nid<=k->rd k=.dead) (h:zerosE P nid o t=some e) (ho:Hold e.ob):CE.Good P o t rd e:=by
 unfold zerosE at h
 split at h
 · rename_i args ats hop
   split at h
   case h_2=>cases h
   rename_i s x ty tx hargs hats
   have h1:args=#[s,x]:=Array.ext' hargs
   have h2:ats=#[ty,tx]:=Array.ext' hats
   subst h1;subst h2
   split at h
   case h_2=>cases h
   rename_i k n el kx hs hx hu hux
   split at h
   case h_2=>cases h
   rename_i i z hi hz
   split at h
   case h_2=>cases h
   rename_i hb
   cases h
   simp only [Bool.and_eq_true,Nat.ble_eq,Nat.beq_eq,len_eq] at hb
   obtain ⟨⟨hs1,hzl⟩,hnz⟩:=hb
   have o1:=ho (0<n) (by simp)
   have o2:=ho (n<=9223372036854775807) (by simp)
   have o3:=ho (n*(i.bytes:Int)<=281474976710656) (by simp)
   intro M hM
   refine runs_stepZ fun H E w ac hC hT=>?_
   have hdn:getM M nid=.dead:=(hM nid (by simp)).trans (hd nid (Nat.le_refl _))
   have e1:=rel_ev hT s
   rw [hs] at e1
   have e1:=e1.1
   have e2:=scV_ok hx (rel_ev hT x)
   obtain ⟨N,rfl⟩:=Int.eq_ofNat_of_zero_le (Int.le_of_lt o1)
   have hN0:0<N:=by omega
   obtain ⟨i',zv,hi',hz',hrz,hoz⟩:=zeroL_ok H E hz
   rw [hi] at hi'
   cases hi'
   have hzs:zv.cells.size=i.size:=by have:=RelL.length hrz;simp at this;omega
   have hb48:N*i.bytes<=281474976710656:=by
    rw [<- Int.natCast_mul] at o3;omega
   have hrun:=run_append_zeros (P:=P) w ty tx o.type el i zv k kx hu hux hi hz' hs1 N hN0 o2 hb48
   have hge:=grownCap_ge w N 0 el
   have hle:=grownCap_le_maxLen w N 0 el (by unfold maxLen;omega)
   obtain ⟨s1,s2,s3,s4⟩:=E.set_same nid (some w.heap.size) (grownCap w N 0 el) N
   let vs:=Builtin.zeroCells zv.cells N++Builtin.zeroCells zv.cells (grownCap w N 0 el - N)
   have hvs:vs.size=grownCap w N 0 el*i.size:=by
    show (Builtin.zeroCells zv.cells N++Builtin.zeroCells zv.cells (grownCap w N 0 el - N)).size=_
    simp only [Array.size_append,Builtin.zeroCells,Array.size_map,Array.size_range,hzs,<- Nat.add_mul]
    congr 1;omega
   have hones:ones vs.toList:=by
    intro y hy
    simp only [vs,Array.toList_append,List.mem_append] at hy
    rcases hy with hy | hy
    · exact ones_rep hoz (by omega) _ y (by simpa [Builtin.zeroCells] using hy)
    · exact ones_rep hoz (by omega) _ y (by simpa [Builtin.zeroCells] using hy)
   have hBok:BlkOk H (E.set nid (some w.heap.size) (grownCap w N 0 el) N) (w.drew.alloc (.cells vs el)) nid (.row el i.size N none fun _ j=>get z j):=by
    refine ⟨s1,by rw [s3,s4];exact ⟨rfl,hge⟩,by rw [s3];exact hle,(fun q hq=>by cases hq),?_⟩
    rw [s2]
    refine ⟨vs,by have:=heap_alloc_new w.drew (.cells vs el);simpa using this,fun y hy=>hones y (List.mem_of_mem_take hy),by rw [s3];exact hvs,fun k hk j hj=>?_⟩
    refine ⟨zv.cells[j]'(by omega),?_,?_⟩
    · have:=zeros_cell zv.cells N (grownCap w N 0 el - N) k j (by omega) hk (by omega)
      rw [hzs] at this
      rw [show vs=Builtin.zeroCells zv.cells N++Builtin.zeroCells zv.cells (grownCap w N 0 el - N) from rfl,this]
      exact Array.getElem?_eq_getElem (by omega)
    · have hz2:RelL z H E0 zv.cells.toList:=RelL.noRef _ hnz hrz
      exact relL_get hz2 j _ (by simp;done)
   obtain ⟨hconc,hev⟩:=hC.new (w':=w.drew.alloc (.cells vs el)) (i:=nid) (κ:=grownCap w N 0 el) (η:=N) (bo:=some w.heap.size) (B:=.row el i.size N none fun _ j=>get z j) hdn rfl rfl rfl (by simp) (fun b hb=>Go.RowKit.Below.heap_alloc w.drew (.cells vs el) b hb) (fun b hb=>by cases hb;exact Nat.le_refl _) hBok
   refine ⟨.slice (some ⟨w.heap.size,0,none⟩) N (grownCap w N 0 el),_,H,_,by simp only [execOp,hop];simp [resolve,invoke,builtin,e1,e2,hrun];rfl,⟨s1,by rw [s3,s4];simp;omega,?_⟩,hconc,hev⟩
   rw [s2]
   exact ⟨some ⟨w.heap.size,0,none⟩,by rw [s3];simp,by simp⟩
 · rename_i ty x lo hi mx hop
   split at h
   case h_2=>cases h
   rename_i el k hu hx hhi
   split at h
   case h_2=>cases h
   rename_i sz hsz
   cases h
   intro M hM
   refine runs_stepZ fun H E w ac hC hT=>?_
   have e1:=rel_ev hT x
   rw [hx] at e1
   have e1:=e1.1
   cases hi with
   | none=>cases hhi
   | some q =>
     have hq:scV (ev t q)=some (.int k 0):=by simpa using hhi
     have e2:=scV_ok hq (rel_ev hT q)
     refine ⟨.slice none 0 0,w,H,E,?_,⟨rfl,rfl⟩,hC,Evol.refl _ _ _ _⟩
     simp [execOp,hop,e1,e2,Instr.sliceAt,Instr.slice,Instr.sliceBounds,Instr.sliceBound,run_underlying hu,asIntOf,run_sizeOf' w hsz]
 · cases h
theorem CE.Good.blk {P:Program} {o:Oper} {t:Nat->AV} {rd:Nat->Blk} {r:AV} {l:List Nat} {i:Nat} {B B':Blk} (hB:∀ H E w,BlkOk H E w i B->BlkOk H E w i B') (h:CE.Good P o t rd ⟨r,l,[(i,B)],[],[]⟩):CE.Good P o t rd ⟨r,l,[(i,B')],[],[]⟩:=by
 intro M hM H E w a K Q hC hT hd hk
 refine h M hM H E w a K Q hC hT hd fun v w' H' E' hr hc hev=>hk v w' H' E' hr ?_ hev
 have hc:Conc H' E' w' (putM M i B):=hc
 show Conc H' E' w' (putM M i B')
 refine ⟨hc.imm,hc.tf,fun k=>?_,hc.injH,hc.sepH,hc.ltS⟩
 by_cases hk:i=k
 · subst hk
   have:=hc.blk i
   rw [getM_put_same] at this ⊢
   exact hB _ _ _ this
 · have:=hc.blk k
   rw [getM_put_ne _ _ _ _ hk] at this ⊢
   exact this
theorem get_app_l:∀ (l r:List AV) (j:Nat),j<l.length->get (l++r) j=get l j
 | [],_,_,h=>absurd h (Nat.not_lt_zero _)
 | _::_,_,0,_=>rfl
 | _::l,r,j+1,h=>by simp only [List.cons_append,get];exact get_app_l l r j (by simpa using h)
theorem get_app_r:∀ (l r:List AV) (j:Nat),get (l++r) (l.length+j)=get r j
 | [],r,j=>by simp
 | _::l,r,j=>by
   simp only [List.cons_append,List.length_cons]
   rw [show l.length+1+j=(l.length+j)+1 by omega]
   simp only [get]
   exact get_app_r l r j
theorem rep_len (z:List AV):∀ n,(rep z n).length=n*z.length
 | 0=>by simp [rep]
 | n+1=>by simp only [rep,List.length_append,rep_len z n,Nat.add_mul];omega
theorem get_rep (z:List AV):∀ (n k j:Nat),k<n->j<z.length->get (rep z n) (k*z.length+j)=get z j
 | 0,_,_,h,_=>absurd h (Nat.not_lt_zero _)
 | n+1,0,j,_,hj=>by
   simp only [rep,Nat.zero_mul,Nat.zero_add]
   exact get_app_l _ _ _ hj
 | n+1,k+1,j,hk,hj=>by
   simp only [rep]
   rw [show (k+1)*z.length+j=z.length+(k*z.length+j) by rw [Nat.add_mul];omega,get_app_r z]
   exact get_rep z n k j (by omega) hj
theorem row_lst {H:HH} {E:Env} {w:World} {i ty sz n:Nat} {z:List AV} (hz:z.length=sz) (hs:1<=sz) (hn:noRefL z=true) (h:BlkOk H E w i (.row ty sz n none fun _ j=>get z j)) (h0:0<n):BlkOk H E w i (.lst ty sz n none (rep z n)):=by
 obtain ⟨h1,h2,h3,h4,h5⟩:=h
 refine ⟨h1,h2,h3,h4,?_⟩
 cases hι:E.ι i with
 | none=>rw [hι] at h5;omega
 | some b =>
   rw [hι] at h5
   obtain ⟨vs,g1,g2,g3,g4⟩:=h5
   refine ⟨vs,g1,g2,g3,?_⟩
   have hlen:(rep z n).length=n*sz:=by rw [<- hz];exact rep_len z n
   have hle:n*sz<=E.κ i*sz:=Nat.mul_le_mul_right _ h2.2
   refine relL_mk (by rw [hlen,List.length_take,Array.length_toList];omega) fun q u hu=>?_
   rw [List.getElem?_take] at hu
   split at hu
   case isFalse=>cases hu
   rename_i hq
   have hdm:=Nat.div_add_mod q sz
   have hmod:q % sz<sz:=Nat.mod_lt _ (by omega)
   have hdiv:q / sz<n:=by rw [Nat.div_lt_iff_lt_mul (by omega)];exact hq
   obtain ⟨x,hx,hr⟩:=g4 (q / sz) hdiv (q % sz) hmod
   have he:q / sz*sz+q % sz=q:=by rw [Nat.mul_comm];exact hdm
   rw [he] at hx
   have hux:u=x:=by
    have:vs.toList[q]? = some x:=by simpa using hx
    rw [this] at hu
    exact (Option.some.inj hu).symm
   subst hux
   have hg:get (rep z n) q=get z (q % sz):=by
    have:=get_rep z n (q / sz) (q % sz) hdiv (by omega)
    rw [hz,he] at this
    exact this
   rw [hg]
   exact Rel.noRef _ (noRef_get hn _) hr
def zerosL (P:Program) (nid:Nat) (o:Oper) (t:Nat->AV):Option CE :=
 match o.op with
 | .call { callee:=.builtin .append,args,argTypes }=>(match args.toList,argTypes.toList with
   | [s,x],[ty,tx]=>(match ev t s,ev t x,P.underlying ty,P.underlying tx with
     | .s (.slice none 0 0),.s (.int _ n),some (.slice el),some (.int _)=>(match P.info? el,zeroL P el with
       | some i,some z=>(match Nat.ble 1 i.size&&Nat.beq (len z) i.size&&noRefL z&&decide (0<n)&&decide (n<=9223372036854775807)&&decide (n*(i.bytes:Int)<=281474976710656) with
         | true=>some ⟨.own nid i.size 0 n.toNat,[nid],[(nid,.lst el i.size n.toNat none (rep z n.toNat))],[],[]⟩
         | false=>none)
       | _,_=>none)
     | _,_,_,_=>none)
   | _,_=>none)
 | _=>none
theorem zerosL_ok {P:Program} {rd:Nat->Blk} {nid:Nat} {o:Oper} {t:Nat->AV} {e:CE} (hd:∀ k,nid<=k->rd k=.dead) (h:zerosL P nid o t=some e):CE.Good P o t rd e:=by
 unfold zerosL at h
 split at h
 case h_2=>cases h
 rename_i args ats hop
 split at h
 case h_2=>cases h
 rename_i s x ty tx hargs hats
 split at h
 case h_2=>cases h
 rename_i k n el kx hs hx hu hux
 split at h
 case h_2=>cases h
 rename_i i z hi hz
 split at h
 case h_2=>cases h
 rename_i hb
 cases h
 simp only [Bool.and_eq_true,decide_eq_true_eq] at hb
 obtain ⟨⟨⟨⟨⟨b1,b2⟩,b3⟩,b4⟩,b5⟩,b6⟩:=hb
 have hzl:z.length=i.size:=by simpa [len_eq] using b2
 have hE:zerosE P nid o t=some ⟨.own nid i.size 0 n.toNat,[nid],[(nid,.row el i.size n.toNat none fun _ j=>get z j)],[],[0<n,n<=9223372036854775807,n*(i.bytes:Int)<=281474976710656]⟩:=by
  unfold zerosE
  simp [hop,hargs,hats,hs,hx,hu,hux,hi,hz,b1,b2,b3,scV]
 have hg:=zerosE_ok hd hE (fun p hp=>by
  simp only [List.mem_cons,List.mem_nil_iff,or_false] at hp
  rcases hp with rfl | rfl | rfl
  · exact b4
  · exact b5
  · exact b6)
 refine CE.Good.blk (B:=.row el i.size n.toNat none fun _ j=>get z j) (fun H E w hB=>row_lst hzl (by simpa using b1) b3 hB (by omega)) ?_
 intro M hM
 exact hg M hM
end Go.Ax
