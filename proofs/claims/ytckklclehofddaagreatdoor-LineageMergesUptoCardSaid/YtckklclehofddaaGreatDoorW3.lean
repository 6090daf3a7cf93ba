import Derived.Test.YtckklclehofddaaGreatDoorE11
import Derived.Test.YtckklclehofddaaGreatDoorW2
set_option linter.unusedVariables false
set_option linter.unusedSimpArgs false
set_option linter.unusedSectionVars false
namespace Go.Proofs.YtckklclehofddaaGreatDoor
open Go.Ax
set_option maxRecDepth 1000000
theorem less_trans:∀ (a b c:List UInt8),Op.bytesLess a b=true->Op.bytesLess b c=true->Op.bytesLess a c=true
 | [],[],c,h,_=>by simp [Op.bytesLess] at h
 | [],_::_,[],_,h=>by simp [Op.bytesLess] at h
 | [],_::_,_::_,_,_=>rfl
 | _::_,[],_,h,_=>by simp [Op.bytesLess] at h
 | _::_,_::_,[],_,h=>by simp [Op.bytesLess] at h
 | a::l,b::m,c::n,h1,h2=>by
   simp only [Op.bytesLess,Bool.or_eq_true,Bool.and_eq_true,decide_eq_true_eq,beq_iff_eq] at h1 h2 ⊢
   rcases h1 with h1 | ⟨rfl,h1⟩
   · rcases h2 with h2 | ⟨rfl,h2⟩
     · exact Or.inl (UInt8.lt_trans h1 h2)
     · exact Or.inl h1
   · rcases h2 with h2 | ⟨rfl,h2⟩
     · exact Or.inl h2
     · exact Or.inr ⟨rfl,less_trans l m n h1 h2⟩
theorem lt_trans' {a b c:ByteArray} (h1:lt a b=true) (h2:lt b c=true):lt a c=true:=less_trans _ _ _ h1 h2
def risC (l:List Con):Prop:=∀ i j,i<j->j<l.length->lt (l.getD i default).name (l.getD j default).name=true
def belC (l:List Con) (s:ByteArray):Nat:=(l.takeWhile (fun y=>lt y.name s)).length
theorem belC_eq {l:List Con} {s:ByteArray} {i:Nat} (h:i<=l.length) (lo:∀ k,k<i->lt (l.getD k default).name s=true) (hi:∀ k,i<=k->k<l.length->lt (l.getD k default).name s=false):belC l s=i:=by
 unfold belC
 have e:l=l.take i++l.drop i:=(List.take_append_drop i l).symm
 have h1:∀ a∈l.take i,lt a.name s=true:=by
  intro a ha
  obtain ⟨k,hk,rfl⟩:=List.mem_iff_getElem.1 ha
  simp only [List.length_take] at hk
  have:=lo k (by omega)
  have hkl:k<l.length:=by omega
  simp [hkl] at this
  simpa using this
 have h2:(l.drop i).takeWhile (fun y=>lt y.name s)=[]:=by
  cases hd:l.drop i with
  | nil=>rfl
  | cons y r =>
    have hil:i<l.length:=by
     have:=congrArg List.length hd
     simp at this;omega
    have:=hi i (Nat.le_refl _) hil
    rw [List.drop_eq_getElem_cons hil] at hd
    cases hd
    simp [hil] at this
    rw [List.takeWhile_cons_of_neg]
    simpa using this
 rw [e,List.takeWhile_append_of_pos h1,h2,List.append_nil,List.length_take]
 omega
theorem belC_le (l:List Con) (s:ByteArray):belC l s<=l.length:=(List.takeWhile_sublist _).length_le
theorem ris_lo {l:List Con} {s:ByteArray} (hr:risC l) {m k:Nat} (hm:m<l.length) (hk:k<=m) (h:lt (l.getD m default).name s=true):lt (l.getD k default).name s=true:=by
 rcases Nat.lt_or_ge k m with h1 | h1
 · exact lt_trans' (hr k m h1 hm) h
 · obtain rfl:k=m:=by omega
   exact h
theorem ris_hi {l:List Con} {s:ByteArray} (hr:risC l) {m k:Nat} (hk:m<=k) (hl:k<l.length) (h:lt (l.getD m default).name s=false):lt (l.getD k default).name s=false:=by
 cases hc:lt (l.getD k default).name s
 · rfl
 · rw [ris_lo hr hl hk hc] at h;exact h
structure BS (l:List Con) (x:Con) where
 i:Nat
 j:Nat
 ij:i<=j
 jl:j<=l.length
 lo:∀ k,k<i->lt (l.getD k default).name x.name=true
 hi:∀ k,j<=k->k<l.length->lt (l.getD k default).name x.name=false
def BS.up {l:List Con} {x:Con} (hr:risC l) (q:BS l x) (m:Nat) (h2:m<q.j) (hx:lt (l.getD m default).name x.name=true):BS l x where
 i:=m+1
 j:=q.j
 ij:=by omega
 jl:=q.jl
 lo:=fun k hk=>ris_lo hr (m:=m) (by have:=q.jl;omega) (by omega) hx
 hi:=q.hi
def BS.down {l:List Con} {x:Con} (hr:risC l) (q:BS l x) (m:Nat) (h1:q.i<=m) (h2:m<q.j) (hx:lt (l.getD m default).name x.name=false):BS l x where
 i:=q.i
 j:=m
 ij:=h1
 jl:=by have:=q.jl;omega
 lo:=q.lo
 hi:=fun k hk hl=>ris_hi hr hk hl hx
def BS.start (l:List Con) (x:Con):BS l x:=⟨0,l.length,Nat.zero_le _,Nat.le_refl _,fun _ h=>absurd h (Nat.not_lt_zero _),fun k h1 h2=>absurd h2 (by omega)⟩
def fnB:AV:=.fn (.func 92) [] []
def cmpV (a b:ByteArray):Int:=if lt a b then -1 else if lt b a then 1 else 0
def vcBy (x:Con) (y:Con):Prop :=
 ((!x.name.data.toList==x.name.data.toList)=true->((!y.name.data.toList==y.name.data.toList)=true->0=cmpV x.name y.name/\True)/\((!y.name.data.toList==y.name.data.toList)=false->(-1:Int)=cmpV x.name y.name/\True))/\((!x.name.data.toList==x.name.data.toList)=false->((!y.name.data.toList==y.name.data.toList)=true->1=cmpV x.name y.name/\True)/\((!y.name.data.toList==y.name.data.toList)=false->(Op.bytesLess x.name.data.toList y.name.data.toList=true->(-1:Int)=cmpV x.name y.name/\True)/\(Op.bytesLess x.name.data.toList y.name.data.toList=false->((!(Op.bytesLess x.name.data.toList y.name.data.toList||x.name.data.toList==y.name.data.toList))=true->1=cmpV x.name y.name/\True)/\((!(Op.bytesLess x.name.data.toList y.name.data.toList||x.name.data.toList==y.name.data.toList))=false->0=cmpV x.name y.name/\True))))
theorem vcBy_eq (x:Con) (y:Con):(ctrVC Tryz.prog (hT _) 92 [.agg (encC x),.agg (encC y)] [] (intR (cmpV x.name y.name)))=vcBy x y:=by kernel_rfl
theorem by_c (x y:Con):(intR (cmpV x.name y.name)).Sat (ACall' Tryz.prog 92 [.agg (encC x),.agg (encC y)] []):=by
 refine ctr_vc (ht:=hT _) Tryz.mixed rfl ?_
 rw [vcBy_eq x y]
 unfold vcBy cmpV lt
 have h1:=less_asymm x.name.data.toList y.name.data.toList
 have h2:=less_total x.name.data.toList y.name.data.toList
 have h3:Op.bytesLess y.name.data.toList x.name.data.toList=true->¬ x.name.data=y.name.data:=fun h e=>by rw [e,less_irr] at h;simp at h
 generalize Op.bytesLess x.name.data.toList y.name.data.toList=p at *
 generalize Op.bytesLess y.name.data.toList x.name.data.toList=q at *
 cases p<;>cases q<;>simp at *<;>assumption
noncomputable def byC (x y:Con):Ctr Tryz.prog:=⟨92,[.agg (encC x),.agg (encC y)],[],intR (cmpV x.name y.name),by_c x y⟩
def bsT (b:Bool) (l:List Con) (x:Con) (q:BS l x):List AV:=mkT 49 [(0,encCs b l),(2,fnB),(4,.ptr 0 0 0 0),(6,.s (.int .i64 0)),(7,.s (.bool false)),(8,.y (.int .i64 l.length)),(9,.y (.int .i64 q.i)),(10,.y (.int .i64 q.j))]
def bsM (x:Con):List Blk:=[.box 41 (encC x)]
def bsS (b:Bool) (l:List Con) (x:Con) (_:Unit):Exit×List AV×List Blk:=(.exit 0,mkT 49 [(0,encCs b l),(2,fnB),(4,.ptr 0 0 0 0),(8,.y (.int .i64 l.length)),(9,.y (.int .i64 (belC l x.name)))],bsM x)
noncomputable def bsHL (l:List Con) (x:Con) (q:BS l x):HintsT Tryz.prog:=hh _ noLp (cs1 107 5 6 (byC (l.getD ((q.i+q.j) / 2) default) x) noCs) noOp
def vcBsL (b:Bool) (l:List Con) (x:Con) (q:BS l x):Prop :=
 (decide ((q.i:Int)<(q.j:Int))=true->(decide (0<=IntKind.i64.wrap (IntKind.u64.wrap (IntKind.i64.wrap ((q.i:Int)+(q.j:Int))) / 2))&&decide (IntKind.i64.wrap (IntKind.u64.wrap (IntKind.i64.wrap ((q.i:Int)+(q.j:Int))) / 2)<(l.length:Int)))=true/\(((l.getD (Int.toNat (IntKind.i64.wrap (IntKind.u64.wrap (IntKind.i64.wrap ((q.i:Int)+(q.j:Int))) / 2))) default).name=(l.getD ((q.i+q.j) / 2) default).name/\(l.getD (Int.toNat (IntKind.i64.wrap (IntKind.u64.wrap (IntKind.i64.wrap ((q.i:Int)+(q.j:Int))) / 2))) default).off=(l.getD ((q.i+q.j) / 2) default).off/\True)/\(x.name=x.name/\x.off=x.off/\True)/\True)/\True/\(decide (cmpV (l.getD ((q.i+q.j) / 2) default).name x.name<0)=true->∃ (j:BS l x),j.j - j.i<q.j - q.i/\(((b=b/\l.length=l.length/\contLe l.length 2 (cellsOf' encC l) (cellsOf' encC l))/\(True/\True)/\(0=0/\0=0)/\(0:Int)=0/\false=false/\(l.length:Int)=(l.length:Int)/\IntKind.i64.wrap (IntKind.i64.wrap (IntKind.u64.wrap (IntKind.i64.wrap ((q.i:Int)+(q.j:Int))) / 2)+1)=(j.i:Int)/\(q.j:Int)=(j.j:Int)/\True)/\((x.name=x.name/\x.off=x.off/\True)/\True)/\true=true)/\true=true/\()=())/\(decide (cmpV (l.getD ((q.i+q.j) / 2) default).name x.name<0)=false->∃ (j:BS l x),j.j - j.i<q.j - q.i/\(((b=b/\l.length=l.length/\contLe l.length 2 (cellsOf' encC l) (cellsOf' encC l))/\(True/\True)/\(0=0/\0=0)/\(0:Int)=0/\false=false/\(l.length:Int)=(l.length:Int)/\(q.i:Int)=(j.i:Int)/\IntKind.i64.wrap (IntKind.u64.wrap (IntKind.i64.wrap ((q.i:Int)+(q.j:Int))) / 2)=(j.j:Int)/\True)/\((x.name=x.name/\x.off=x.off/\True)/\True)/\true=true)/\true=true/\()=()))/\(decide ((q.i:Int)<(q.j:Int))=false->((b=b/\l.length=l.length/\contLe l.length 2 (cellsOf' encC l) (cellsOf' encC l))/\(True/\True)/\(0=0/\0=0)/\(l.length:Int)=(l.length:Int)/\(q.i:Int)=((belC l x.name):Int)/\True)/\((x.name=x.name/\x.off=x.off/\True)/\True)/\true=true)
theorem vcBsL_eq (b:Bool) (l:List Con) (x:Con) (q:BS l x):(loopVC Tryz.prog (bsHL l x q) 107 3 (fun q:BS l x=>q.j - q.i) (bsT b l x) (fun _=>bsM x) [1,2,3,4] (fun _=>.ret ()) (bsS b l x) q)=vcBsL b l x q:=by kernel_rfl
noncomputable def bsH (b:Bool) (l:List Con) (x:Con):HintsT Tryz.prog:=hh _ (lp1 107 3 (jobOf (bsT b l x) (fun _=>bsM x) [1,2,3,4] (fun _=>.ret ()) (bsS b l x) (BS.start l x)) noLp) (cs1 107 8 11 (byC (l.getD (belC l x.name) default) x) noCs) noOp
def bsF (l:List Con) (x:Con):Bool:=decide (belC l x.name<l.length)&&(cmpV (l.getD (belC l x.name) default).name x.name==0)
def bsR (l:List Con) (x:Con):T An:=.ret (.tup [.y (.int .i64 (belC l x.name)),.y (.bool (bsF l x))],[],[])
def vcBs (b:Bool) (l:List Con) (x:Con):Prop :=
 (((b=b/\l.length=l.length/\contLe l.length 2 (cellsOf' encC l) (cellsOf' encC l))/\(True/\True)/\(0=0/\0=0)/\(0:Int)=0/\false=false/\(l.length:Int)=(l.length:Int)/\(0:Int)=0/\(l.length:Int)=(l.length:Int)/\True)/\((x.name=x.name/\x.off=x.off/\True)/\True)/\true=true)/\LoopOk Tryz.prog 107 3 (loopAt Tryz.prog 107 3) { t:=bsT b l x (BS.start l x),m:=bsM x,mv:=[]:St } (T.map (lout [1,2,3,4] (bsS b l x)) ((fun (x:BS l x)=>T.ret ()) (BS.start l x)))/\(decide (((belC l x.name):Int)<(l.length:Int))=true->(true&&decide (((belC l x.name):Int)<(l.length:Int)))=true/\(((l.getD (Int.toNat ((belC l x.name):Int)) default).name=(l.getD (belC l x.name) default).name/\(l.getD (Int.toNat ((belC l x.name):Int)) default).off=(l.getD (belC l x.name) default).off/\True)/\(x.name=x.name/\x.off=x.off/\True)/\True)/\True/\(((belC l x.name):Int)=((belC l x.name):Int)/\(cmpV (l.getD (belC l x.name) default).name x.name==0)=bsF l x/\True)/\True)/\(decide (((belC l x.name):Int)<(l.length:Int))=false->(((belC l x.name):Int)=((belC l x.name):Int)/\false=bsF l x/\True)/\True)
theorem vcBs_eq (b:Bool) (l:List Con) (x:Con):(ctrVC Tryz.prog (bsH b l x) 107 [encCs b l,.agg (encC x),fnB] [] (bsR l x))=vcBs b l x:=by kernel_rfl
def ccR (l:List Con):T An:=.ret (.own 0 2 0 l.length,[rowC l],[])
noncomputable def ccH:HintsT Tryz.prog:=hh _ noLp noCs (op1 108 2 0 (.row 41 2) noOp)
def vcCc0 (l:List Con):Prop :=
 (0=0/\0=l.length)/\(0=l.length/\contLe 0 2 (fun (x x_1:Nat)=>AV.junk) (cellsOf' encC l))/\True
theorem vcCc0_eq (l:List Con):(ctrVC Tryz.prog ccH 108 [.s (.slice none 0 0)] [] (ccR l))=vcCc0 l:=by kernel_rfl
def vcCc1 (b:Bool) (l:List Con):Prop :=
 (decide (0+l.length<=9223372036854775807)&&decide ((0+l.length)*24<=140737488355328))=true/\(0=0/\0+l.length=l.length)/\(0+l.length=l.length/\contLe (0+l.length) 2 (appRow 0 (fun (k j:Nat)=>AV.junk) (cellsOf' encC l)) (cellsOf' encC l))/\True
theorem vcCc1_eq (b:Bool) (l:List Con):(ctrVC Tryz.prog ccH 108 [.yn b 2 l.length (cellsOf' encC l)] [] (ccR l))=vcCc1 b l:=by kernel_rfl
theorem cc_c (b:Bool) (l:List Con) (hl:l.length*24<=140737488355328):(ccR l).Sat (ACall' Tryz.prog 108 [encCs b l] []):=by
 refine nil_cases (pre:=[]) (post:=[]) (fun h0=>?_) ?_ ⟨_,rfl⟩
 · refine ctr_vc (ht:=ccH) Tryz.mixed rfl ?_
   rw [List.nil_append,vcCc0_eq l]
   unfold vcCc0
   simp [h0]
 · refine ctr_vc (ht:=ccH) Tryz.mixed rfl ?_
   rw [List.nil_append,vcCc1_eq b l]
   unfold vcCc1
   simp
   omega
noncomputable def ccC (b:Bool) (l:List Con) (hl:l.length*24<=140737488355328):Ctr Tryz.prog:=⟨108,[encCs b l],[],ccR l,cc_c b l hl⟩
theorem cmp_le {a b:ByteArray} (h:lt a b=false):(decide (cmpV a b<0))=false:=by
 unfold cmpV;rw [h];simp;split<;>omega
theorem cmp_lt {a b:ByteArray} (h:lt a b=true):(decide (cmpV a b<0))=true:=by
 unfold cmpV;rw [h];rfl
theorem bs_loop (b:Bool) (l:List Con) (x:Con) (hl:l.length<=4611686018427387900) (hr:risC l) (q:BS l x):LoopOk Tryz.prog 107 3 (loopAt Tryz.prog 107 3) ⟨bsT b l x q,bsM x,[]⟩ (T.map (lout [1,2,3,4] (bsS b l x)) (.ret ())):=by
 refine loop_vcH (ht:=bsHL l x) (o:=fun _=>.ret ()) Tryz.mixed (fun _=>rfl) (fun q=>(vcBsL_eq b l x q).mpr ?_) q
 unfold vcBsL
 have h1:=q.ij
 have h2:=q.jl
 obtain ⟨m,hm⟩:∃ m,m=(q.i+q.j) / 2:=⟨_,rfl⟩
 have hw:IntKind.i64.wrap (IntKind.u64.wrap (IntKind.i64.wrap (↑q.i+↑q.j)) / 2)=(m:Int):=by
  rw [wrap_i64 (n:=↑q.i+↑q.j) (by omega) (by omega),wrap_u64 (by omega) (by omega),wrap_i64 (by omega) (by omega)];omega
 rw [<- hm]
 simp [hw]
 refine ⟨fun h=>⟨by omega,fun hx=>?_,fun hx=>?_⟩,fun h=>?_⟩
 · have hc:lt (l.getD m default).name x.name=true:=by
    cases hc:lt (l.getD m default).name x.name
    · have:=of_decide_eq_false (cmp_le hc);simp at this;omega
    · rfl
   refine ⟨q.up hr m (by omega) hc,?_,?_,rfl⟩
   · show q.j - (m+1)<q.j - q.i;omega
   · show IntKind.i64.wrap (m+1)=((m+1:Nat):Int)
     rw [wrap_i64 (by omega) (by omega)];omega
 · have hc:lt (l.getD m default).name x.name=false:=by
    cases hc:lt (l.getD m default).name x.name
    · rfl
    · have:=of_decide_eq_true (cmp_lt hc);simp at this;omega
   refine ⟨q.down hr m (by omega) (by omega) hc,?_,rfl,rfl⟩
   show m - q.i<q.j - q.i;omega
 · have:=belC_eq (i:=q.i) (by omega) q.lo fun k hk hl=>q.hi k (by omega) hl
   omega
theorem bs_c (b:Bool) (l:List Con) (x:Con) (hl:l.length<=4611686018427387900) (hr:risC l):(bsR l x).Sat (ACall' Tryz.prog 107 [encCs b l,.agg (encC x),fnB] []):=by
 refine ctr_vc (ht:=bsH b l x) Tryz.mixed rfl ?_
 rw [vcBs_eq b l x]
 unfold vcBs
 have:=bs_loop b l x hl hr (BS.start l x)
 simp [bsF,this]
 grind
noncomputable def bsC (b:Bool) (l:List Con) (x:Con) (hl:l.length<=4611686018427387900) (hr:risC l):Ctr Tryz.prog:=⟨107,[encCs b l,.agg (encC x),fnB],[],bsR l x,bs_c b l x hl hr⟩
end Go.Proofs.YtckklclehofddaaGreatDoor

namespace Go.Proofs.YtckklclehofddaaGreatDoor
open Go.Ax
set_option maxRecDepth 1000000
def putL (l:List Con) (x:Con):List Con:=if bsF l x then l.set (belC l x.name) x else l.take (belC l x.name)++x::l.drop (belC l x.name)
def rho:Go.Shelf.Ren:=⟨fun f=>match f with | 22=>109 | 29=>122 | 30=>123 | x=>x,fun t=>match t with | 24=>28 | 9=>41 | x=>x,fun x=>x⟩
theorem lay:InsLay Tryz.prog rho 2 24 ((Tryz.prog.info? 41).bind (·.zero) |>.getD undef) "slices.Insert[[]gazette/api.Consumer,gazette/api.Consumer]" where
 mixed:=by kernel_rfl
 f22:=by kernel_rfl
 ov:=fun w args=>by
  rw [show rho.f 29=122 from rfl,run_callFunc_extern (P:=Tryz.prog) (f:=122) (fn:=Tryz.f122) Tryz.func122 (by kernel_rfl) (by kernel_rfl) (by kernel_rfl) (e:=Extern.SlicesOverlaps.overlaps #[28,28] #[4]) (by kernel_rfl)]
  rfl
 t0:=by kernel_rfl
 a0:=fun w=>by kernel_rfl
 z0:=fun w=>by kernel_rfl
 v0:=fun w=>by kernel_rfl
 t3:=by kernel_rfl
 a3:=fun w=>by kernel_rfl
 z3:=fun w=>by kernel_rfl
 v3:=fun w=>by kernel_rfl
 t4:=by kernel_rfl
 a4:=fun w=>by kernel_rfl
 z4:=fun w=>by kernel_rfl
 v4:=fun w=>by kernel_rfl
 t24:=by kernel_rfl
 a24:=fun w=>by kernel_rfl
 z24:=fun w=>by kernel_rfl
 v24:=fun w=>by kernel_rfl
 z9:=fun w=>by kernel_rfl
 i9s:=by kernel_rfl
 i9:=by kernel_rfl
 pos:=by decide
 zc:=by kernel_rfl
noncomputable def putH (b:Bool) (l:List Con) (x:Con) (hl:l.length*24<=140737488355200) (hr:risC l):HintsT Tryz.prog :=
 withIns (withSub (hh _ noLp (cs1 91 1 3 (bsC b l x (by omega) hr) (cs1 91 2 1 (ccC b l (by omega)) noCs)) noOp) [109]) lay
def conR (l:List Con):T An:=.ret (.own 0 2 0 l.length,[rowC l],[])
def vcPut (b:Bool) (l:List Con) (x:Con) (hl:l.length*24<=140737488355200) (hr:risC l):Prop :=
 ((b=b/\l.length=l.length/\contLe l.length 2 (cellsOf' encC l) (cellsOf' encC l))/\(x.name=x.name/\x.off=x.off/\True)/\(True/\True)/\True)/\True/\((b=b/\l.length=l.length/\contLe l.length 2 (cellsOf' encC l) (cellsOf' encC l))/\True)/\True/\(bsF l x=true->(true&&decide (((belC l x.name):Int)<(l.length:Int)))=true/\decide (0+Int.toNat ((belC l x.name):Int)<l.length)=true/\(0=0/\l.length=(putL l x).length)/\(l.length=(putL l x).length/\contLe l.length 2 (wrRow (cellsOf' encC l) (0+Int.toNat ((belC l x.name):Int)) 0 [AV.y (.string x.name),AV.y (.int .u64 x.off)]) (cellsOf' encC (putL l x)))/\True)/\(bsF l x=false->(l.length=l.length/\0<=((belC l x.name):Int)/\((belC l x.name):Int)<=(l.length:Int)/\l.length+1<=9223372036854775807/\(l.length+1)*24<=140737488355328)/\(0=0/\l.length+1=(putL l x).length)/\(l.length+1=(putL l x).length/\contLe (l.length+1) 2 (insRow (Int.toNat ((belC l x.name):Int)) 1 (cellsOf' encC l) fun (k j:Nat)=>Ax.get [AV.y (.string x.name),AV.y (.int .u64 x.off)] (k*2+j)) (cellsOf' encC (putL l x)))/\True)
theorem vcPut_eq (b:Bool) (l:List Con) (x:Con) (hl:l.length*24<=140737488355200) (hr:risC l):(ctrVC Tryz.prog (putH b l x hl hr) 91 [encCs b l,.agg (encC x),fnB] [] (conR (putL l x)))=vcPut b l x hl hr:=by kernel_rfl
def stp (x:Con) (s:Bool×List Con) (y:Con):Bool×List Con :=
 let s1:=if (!lt y.name x.name&&!s.1)=true then (true,s.2++[x]) else s
 if y.name.data=x.name.data then s1 else (s1.1,s1.2++[y])
def rst (l:List Con) (x:Con) (k:Nat):Bool×List Con:=(l.take k).foldl (stp x) (false,[])
def rput (l:List Con) (x:Con):List Con:=if (rst l x l.length).1 then (rst l x l.length).2 else (rst l x l.length).2++[x]
def rpT (b:Bool) (l:List Con) (x:Con) (k:Nat):List AV:=mkT 52 [(0,encCs b l),(3,.ptr 0 0 0 0),(5,.own 1 2 0 (rst l x k).2.length),(6,.y (.bool (rst l x k).1)),(7,.y (.int .i64 k))]
def rpM (l:List Con) (x:Con) (k:Nat):List Blk:=[.box 41 (encC x),.row 41 2 (rst l x k).2.length none (cellsOf' encC (rst l x k).2)]
def rpS (l:List Con) (x:Con) (_:Unit):Exit×List AV×List Blk:=(.exit 0,mkT 52 [(3,.ptr 0 0 0 0),(5,.own 1 2 0 (rst l x l.length).2.length),(6,.y (.bool (rst l x l.length).1))],rpM l x l.length)
def vcRpL_q1 (b:Bool) (l:List Con):Prop:=(b=b/\l.length=l.length/\contLe l.length 2 (cellsOf' encC l) (cellsOf' encC l))
def vcRpL (b:Bool) (l:List Con) (x:Con) (k:Nat):Prop :=
 (decide ((k:Int)<(l.length:Int))=true->(true&&decide ((k:Int)<(l.length:Int)))=true/\((!Op.bytesLess (l.getD (Int.toNat (k:Int)) default).name.data.toList x.name.data.toList)=true->((!(rst l x k).fst)=true->(decide ((rst l x k).snd.length=(rst l x k).snd.length)&&decide ((rst l x k).snd.length+1<=9223372036854775807)&&decide (((rst l x k).snd.length+1)*24<=140737488355328))=true/\(true&&decide ((k:Int)<(l.length:Int)))=true/\((!(l.getD (Int.toNat (k:Int)) default).name.data.toList==x.name.data.toList)=true->(true&&decide ((k:Int)<(l.length:Int)))=true/\(decide ((rst l x k).snd.length+1=(rst l x k).snd.length+1)&&decide ((rst l x k).snd.length+1+1<=9223372036854775807)&&decide (((rst l x k).snd.length+1+1)*24<=140737488355328))=true/\∃ j:Nat,l.length - j<l.length - k/\(((vcRpL_q1 b l)/\(0=0/\0=0)/\(0=0/\(rst l x k).snd.length+1+1=(rst l x j).snd.length)/\true=(rst l x j).fst/\IntKind.i64.wrap ((k:Int)+1)=(j:Int)/\True)/\((x.name=x.name/\x.off=x.off/\True)/\((rst l x k).snd.length+1+1=(rst l x j).snd.length/\contLe ((rst l x k).snd.length+1+1) 2 (appRow ((rst l x k).snd.length+1) (appRow (rst l x k).snd.length (cellsOf' encC (rst l x k).snd) fun (k j:Nat)=>Ax.get [AV.y (.string x.name),AV.y (.int .u64 x.off)] (k*2+j)) fun (k_1 j:Nat)=>Ax.get [AV.y (.string (l.getD (Int.toNat (k:Int)) default).name),AV.y (.int .u64 (l.getD (Int.toNat (k:Int)) default).off)] (k_1*2+j)) (cellsOf' encC (rst l x j).snd))/\True)/\true=true)/\true=true/\()=())/\((!(l.getD (Int.toNat (k:Int)) default).name.data.toList==x.name.data.toList)=false->∃ j:Nat,l.length - j<l.length - k/\(((vcRpL_q1 b l)/\(0=0/\0=0)/\(0=0/\(rst l x k).snd.length+1=(rst l x j).snd.length)/\true=(rst l x j).fst/\IntKind.i64.wrap ((k:Int)+1)=(j:Int)/\True)/\((x.name=x.name/\x.off=x.off/\True)/\((rst l x k).snd.length+1=(rst l x j).snd.length/\contLe ((rst l x k).snd.length+1) 2 (appRow (rst l x k).snd.length (cellsOf' encC (rst l x k).snd) fun (k j:Nat)=>Ax.get [AV.y (.string x.name),AV.y (.int .u64 x.off)] (k*2+j)) (cellsOf' encC (rst l x j).snd))/\True)/\true=true)/\true=true/\()=()))/\((!(rst l x k).fst)=false->(true&&decide ((k:Int)<(l.length:Int)))=true/\((!(l.getD (Int.toNat (k:Int)) default).name.data.toList==x.name.data.toList)=true->(true&&decide ((k:Int)<(l.length:Int)))=true/\(decide ((rst l x k).snd.length=(rst l x k).snd.length)&&decide ((rst l x k).snd.length+1<=9223372036854775807)&&decide (((rst l x k).snd.length+1)*24<=140737488355328))=true/\∃ j:Nat,l.length - j<l.length - k/\(((vcRpL_q1 b l)/\(0=0/\0=0)/\(0=0/\(rst l x k).snd.length+1=(rst l x j).snd.length)/\(rst l x k).fst=(rst l x j).fst/\IntKind.i64.wrap ((k:Int)+1)=(j:Int)/\True)/\((x.name=x.name/\x.off=x.off/\True)/\((rst l x k).snd.length+1=(rst l x j).snd.length/\contLe ((rst l x k).snd.length+1) 2 (appRow (rst l x k).snd.length (cellsOf' encC (rst l x k).snd) fun (k_1 j:Nat)=>Ax.get [AV.y (.string (l.getD (Int.toNat (k:Int)) default).name),AV.y (.int .u64 (l.getD (Int.toNat (k:Int)) default).off)] (k_1*2+j)) (cellsOf' encC (rst l x j).snd))/\True)/\true=true)/\true=true/\()=())/\((!(l.getD (Int.toNat (k:Int)) default).name.data.toList==x.name.data.toList)=false->∃ j:Nat,l.length - j<l.length - k/\(((vcRpL_q1 b l)/\(0=0/\0=0)/\(0=0/\(rst l x k).snd.length=(rst l x j).snd.length)/\(rst l x k).fst=(rst l x j).fst/\IntKind.i64.wrap ((k:Int)+1)=(j:Int)/\True)/\((x.name=x.name/\x.off=x.off/\True)/\((rst l x k).snd.length=(rst l x j).snd.length/\contLe (rst l x k).snd.length 2 (cellsOf' encC (rst l x k).snd) (cellsOf' encC (rst l x j).snd))/\True)/\true=true)/\true=true/\()=())))/\((!Op.bytesLess (l.getD (Int.toNat (k:Int)) default).name.data.toList x.name.data.toList)=false->(true&&decide ((k:Int)<(l.length:Int)))=true/\((!(l.getD (Int.toNat (k:Int)) default).name.data.toList==x.name.data.toList)=true->(true&&decide ((k:Int)<(l.length:Int)))=true/\(decide ((rst l x k).snd.length=(rst l x k).snd.length)&&decide ((rst l x k).snd.length+1<=9223372036854775807)&&decide (((rst l x k).snd.length+1)*24<=140737488355328))=true/\∃ j:Nat,l.length - j<l.length - k/\(((vcRpL_q1 b l)/\(0=0/\0=0)/\(0=0/\(rst l x k).snd.length+1=(rst l x j).snd.length)/\(rst l x k).fst=(rst l x j).fst/\IntKind.i64.wrap ((k:Int)+1)=(j:Int)/\True)/\((x.name=x.name/\x.off=x.off/\True)/\((rst l x k).snd.length+1=(rst l x j).snd.length/\contLe ((rst l x k).snd.length+1) 2 (appRow (rst l x k).snd.length (cellsOf' encC (rst l x k).snd) fun (k_1 j:Nat)=>Ax.get [AV.y (.string (l.getD (Int.toNat (k:Int)) default).name),AV.y (.int .u64 (l.getD (Int.toNat (k:Int)) default).off)] (k_1*2+j)) (cellsOf' encC (rst l x j).snd))/\True)/\true=true)/\true=true/\()=())/\((!(l.getD (Int.toNat (k:Int)) default).name.data.toList==x.name.data.toList)=false->∃ j:Nat,l.length - j<l.length - k/\(((vcRpL_q1 b l)/\(0=0/\0=0)/\(0=0/\(rst l x k).snd.length=(rst l x j).snd.length)/\(rst l x k).fst=(rst l x j).fst/\IntKind.i64.wrap ((k:Int)+1)=(j:Int)/\True)/\((x.name=x.name/\x.off=x.off/\True)/\((rst l x k).snd.length=(rst l x j).snd.length/\contLe (rst l x k).snd.length 2 (cellsOf' encC (rst l x k).snd) (cellsOf' encC (rst l x j).snd))/\True)/\true=true)/\true=true/\()=())))/\(decide ((k:Int)<(l.length:Int))=false->((0=0/\0=0)/\(0=0/\(rst l x k).snd.length=(rst l x l.length).snd.length)/\(rst l x k).fst=(rst l x l.length).fst/\True)/\((x.name=x.name/\x.off=x.off/\True)/\((rst l x k).snd.length=(rst l x l.length).snd.length/\contLe (rst l x k).snd.length 2 (cellsOf' encC (rst l x k).snd) (cellsOf' encC (rst l x l.length).snd))/\True)/\true=true)
theorem vcRpL_eq (b:Bool) (l:List Con) (x:Con) (k:Nat):(loopVC Tryz.prog (hT _) 76 4 (fun k=>l.length - k) (rpT b l x) (rpM l x) [1,2,3,4,5] (fun _=>.ret ()) (rpS l x) k)=vcRpL b l x k:=by kernel_rfl
noncomputable def rpH (b:Bool) (l:List Con) (x:Con):HintsT Tryz.prog :=
 hh _ (lp1 76 4 (jobOf (rpT b l x) (rpM l x) [1,2,3,4,5] (fun _=>.ret ()) (rpS l x) 0) noLp) noCs (op1 76 1 0 (.row 41 2) noOp)
def vcRp (b:Bool) (l:List Con) (x:Con):Prop :=
 (((b=b/\l.length=l.length/\contLe l.length 2 (cellsOf' encC l) (cellsOf' encC l))/\(0=0/\0=0)/\(0=0/\0=0)/\false=false/\(0:Int)=0/\True)/\((x.name=x.name/\x.off=x.off/\True)/\(0=0/\contLe 0 2 (fun (x x_1:Nat)=>AV.junk) (cellsOf' encC []))/\True)/\true=true)/\LoopOk Tryz.prog 76 4 (loopAt Tryz.prog 76 4) { t:=rpT b l x 0,m:=rpM l x 0,mv:=[]:St } (T.map (lout [1,2,3,4,5] (rpS l x)) ((fun (x:Nat)=>T.ret ()) 0))/\((!(rst l x l.length).fst)=true->(decide ((rst l x l.length).snd.length=(rst l x l.length).snd.length)&&decide ((rst l x l.length).snd.length+1<=9223372036854775807)&&decide (((rst l x l.length).snd.length+1)*24<=140737488355328))=true/\(0=0/\(rst l x l.length).snd.length+1=(rput l x).length)/\((rst l x l.length).snd.length+1=(rput l x).length/\contLe ((rst l x l.length).snd.length+1) 2 (appRow (rst l x l.length).snd.length (cellsOf' encC (rst l x l.length).snd) fun (k j:Nat)=>Ax.get [AV.y (.string x.name),AV.y (.int .u64 x.off)] (k*2+j)) (cellsOf' encC (rput l x)))/\True)/\((!(rst l x l.length).fst)=false->(0=0/\(rst l x l.length).snd.length=(rput l x).length)/\((rst l x l.length).snd.length=(rput l x).length/\contLe (rst l x l.length).snd.length 2 (cellsOf' encC (rst l x l.length).snd) (cellsOf' encC (rput l x)))/\True)
theorem vcRp_eq (b:Bool) (l:List Con) (x:Con):(ctrVC Tryz.prog (rpH b l x) 76 [encCs b l,.agg (encC x)] [] (conR (rput l x)))=vcRp b l x:=by kernel_rfl
def scT (b1 b2:Bool) (a:List Con) (k:Nat):List AV:=mkT 26 [(0,encCs b1 a),(1,encCs b2 a),(5,.y (.int .i64 k))]
def scS (_:Unit):Exit×List AV×List Blk:=(.exit 0,mkT 26 [],[])
def vcScL (b1:Bool) (b2:Bool) (a:List Con) (k:Nat):Prop :=
 (decide ((k:Int)<(a.length:Int))=true->(true&&decide ((k:Int)<(a.length:Int)))=true/\(true&&decide ((k:Int)<(a.length:Int)))=true/\((!((a.getD (Int.toNat (k:Int)) default).name.data.toList==(a.getD (Int.toNat (k:Int)) default).name.data.toList&&((a.getD (Int.toNat (k:Int)) default).off==(a.getD (Int.toNat (k:Int)) default).off&&true)))=true->False)/\((!((a.getD (Int.toNat (k:Int)) default).name.data.toList==(a.getD (Int.toNat (k:Int)) default).name.data.toList&&((a.getD (Int.toNat (k:Int)) default).off==(a.getD (Int.toNat (k:Int)) default).off&&true)))=false->∃ j:Nat,a.length - j<a.length - k/\(((b1=b1/\a.length=a.length/\contLe a.length 2 (cellsOf' encC a) (cellsOf' encC a))/\(b2=b2/\a.length=a.length/\contLe a.length 2 (cellsOf' encC a) (cellsOf' encC a))/\IntKind.i64.wrap ((k:Int)+1)=(j:Int)/\True)/\True/\true=true)/\true=true/\()=()))/\(decide ((k:Int)<(a.length:Int))=false->True/\True/\true=true)
theorem vcScL_eq (b1:Bool) (b2:Bool) (a:List Con) (k:Nat):(loopVC Tryz.prog (hT _) 27 4 (fun k=>a.length - k) (scT b1 b2 a) (fun _=>[]) [0] (fun _=>.ret ()) scS k)=vcScL b1 b2 a k:=by kernel_rfl
noncomputable def scH (b1 b2:Bool) (a:List Con):HintsT Tryz.prog:=hh _ (lp1 27 4 (jobOf (scT b1 b2 a) (fun _=>[]) [0] (fun _=>.ret ()) scS 0) noLp) noCs noOp
def vcSc (b1:Bool) (b2:Bool) (a:List Con):Prop :=
 (((a.length:Int) != (a.length:Int))=true->false=true/\True)/\(((a.length:Int) != (a.length:Int))=false->(((b1=b1/\a.length=a.length/\contLe a.length 2 (cellsOf' encC a) (cellsOf' encC a))/\(b2=b2/\a.length=a.length/\contLe a.length 2 (cellsOf' encC a) (cellsOf' encC a))/\(0:Int)=0/\True)/\True/\true=true)/\LoopOk Tryz.prog 27 4 (loopAt Tryz.prog 27 4) { t:=scT b1 b2 a 0,m:=[],mv:=[]:St } (T.map (lout [0] scS) ((fun (x:Nat)=>T.ret ()) 0))/\true=true/\True)
theorem vcSc_eq (b1:Bool) (b2:Bool) (a:List Con):(ctrVC Tryz.prog (scH b1 b2 a) 27 [encCs b1 a,encCs b2 a] [] (boolR true))=vcSc b1 b2 a:=by kernel_rfl
end Go.Proofs.YtckklclehofddaaGreatDoor

namespace Go.Proofs.YtckklclehofddaaGreatDoor
open Go.Ax
set_option maxRecDepth 1000000
theorem enc_le (x:Con):∀ j,j<2->le0 (Ax.get [.y (.string x.name),.y (.int .u64 x.off)] j) (Ax.get (encC x) j):=fun j hj=>by
 match j,hj with
 | 0,_=>simp [encC]
 | 1,_=>simp [encC]
theorem put_c (b:Bool) (l:List Con) (x:Con) (hl:l.length*24<=140737488355200) (hr:risC l):(conR (putL l x)).Sat (ACall' Tryz.prog 91 [encCs b l,.agg (encC x),fnB] []):=by
 refine ctr_vc (ht:=putH b l x hl hr) Tryz.mixed rfl ?_
 rw [vcPut_eq b l x hl hr]
 unfold vcPut
 have h2:=belC_le l x.name
 cases hf:bsF l x
 · have e:putL l x=l.take (belC l x.name)++x::l.drop (belC l x.name):=by unfold putL;rw [hf];rfl
   have hn:(putL l x).length=l.length+1:=by rw [e];simp;omega
   simp [hn]
   refine ⟨⟨h2,by omega,by omega⟩,?_⟩
   rw [e]
   exact ins_le rfl h2 fun j hj=>by rw [Nat.zero_mul,Nat.zero_add];exact enc_le x j hj
 · have e:putL l x=l.set (belC l x.name) x:=by unfold putL;rw [hf];rfl
   have hn:(putL l x).length=l.length:=by rw [e];simp
   have h3:belC l x.name<l.length:=by
    unfold bsF at hf
    rw [Bool.and_eq_true] at hf
    exact of_decide_eq_true hf.1
   simp [hn,h3]
   rw [e]
   exact wr_le rfl h3 rfl (enc_le x)
noncomputable def putC (b:Bool) (l:List Con) (x:Con):Ctr Tryz.prog:=⟨91,[encCs b l,.agg (encC x),fnB],[],.need (l.length*24<=140737488355200/\risC l) (conR (putL l x)),T.Sat.need fun h=>put_c b l x h.1 h.2⟩
theorem sc_loop (b1 b2:Bool) (a:List Con) (hl:a.length<=9223372036854775806) (k:Nat):LoopOk Tryz.prog 27 4 (loopAt Tryz.prog 27 4) ⟨scT b1 b2 a k,[],[]⟩ (T.map (lout [0] scS) (.ret ())):=by
 refine loop_vc (o:=fun _=>.ret ()) Tryz.mixed (fun _=>rfl) (fun k=>(vcScL_eq b1 b2 a k).mpr ?_) k
 unfold vcScL
 simp
 intro h
 exact ⟨h,k+1,by omega,by rw [wrap_i64 (by omega) (by omega)];omega⟩
theorem sc_c (b1 b2:Bool) (a:List Con) (hl:a.length<=9223372036854775806):(boolR true).Sat (ACall' Tryz.prog 27 [encCs b1 a,encCs b2 a] []):=by
 refine ctr_vc (ht:=scH b1 b2 a) Tryz.mixed rfl ?_
 rw [vcSc_eq b1 b2 a]
 unfold vcSc
 simp [sc_loop b1 b2 a hl 0]
noncomputable def scC (b1 b2:Bool) (a b:List Con):Ctr Tryz.prog:=⟨27,[encCs b1 a,encCs b2 b],[],.need (a.length<=9223372036854775806/\a=b) (boolR true),T.Sat.need fun h=>by obtain ⟨h1,rfl⟩:=h;exact sc_c b1 b2 a h1⟩
theorem rst_step {l:List Con} {x:Con} {k:Nat} (h:k<l.length):rst l x (k+1)=stp x (rst l x k) (l[k]?.getD default):=by
 unfold rst
 have:l.take (k+1)=l.take k++[l[k]?.getD default]:=by
  rw [List.take_add_one,List.getElem?_eq_getElem h];rfl
 rw [this,List.foldl_append];rfl
theorem rst_end {l:List Con} {x:Con} {k:Nat} (h:l.length<=k):rst l x k=rst l x l.length:=by
 unfold rst
 rw [List.take_of_length_le h,List.take_length]
theorem rst_len (l:List Con) (x:Con):∀ k,(rst l x k).2.length<=k+(if (rst l x k).1 then 1 else 0):=by
 intro k
 induction k with
 | zero=>simp [rst]
 | succ k ih =>
   rcases Nat.lt_or_ge k l.length with h | h
   · rw [rst_step h]
     rcases hs:rst l x k with ⟨d,o⟩
     rw [hs] at ih
     generalize l[k]?.getD default=y
     cases h1:lt y.name x.name<;>cases d<;>by_cases h2:y.name.data=x.name.data<;>simp [stp,h1,h2] at ih ⊢<;>omega
   · rw [rst_end (k:=k+1) (by omega),<- rst_end h]
     omega
theorem rp_loop (b:Bool) (l:List Con) (x:Con) (hl:l.length*24<=140737488355200) (k:Nat) (hk:k<=l.length):LoopOk Tryz.prog 76 4 (loopAt Tryz.prog 76 4) ⟨rpT b l x k,rpM l x k,[]⟩ (T.map (lout [1,2,3,4,5] (rpS l x)) (.ret ())):=by
 refine loop_vc (o:=fun _=>.ret ()) Tryz.mixed (fun _=>rfl) (fun k=>(vcRpL_eq b l x k).mpr ?_) k
 unfold vcRpL vcRpL_q1
 have hlen:=rst_len l x k
 simp
 refine ⟨fun h=>?_,fun h=>?_⟩
 · have hst:=rst_step (x:=x) h
   have hw:=wrap_i64 (n:=(k:Int)+1) (by omega) (by omega)
   rw [hw]
   rcases hs:rst l x k with ⟨d,o⟩
   rw [hs] at hlen hst
   generalize l[k]?.getD default=y at *
   have hne:Op.bytesLess y.name.data.toList x.name.data.toList=true->¬ y.name.data=x.name.data:=fun e e2=>by rw [e2,less_irr] at e;exact absurd e (by simp)
   cases h1:Op.bytesLess y.name.data.toList x.name.data.toList<;>cases d<;>by_cases h2:y.name.data=x.name.data<;>simp [stp,lt,h1,h2,less_irr] at hst<;>simp [h,h2]<;>simp at hlen
   all_goals repeat' first | apply And.intro | refine Exists.intro (k+1) ?_ | with_reducible intro _
   all_goals try rw [hst]
   all_goals first
    | omega
    | (simp;done)
    | exact absurd h2 (hne h1)
    | exact contLe_refl _ _ _
    | exact app_le (contLe_refl _ _ _) rfl (enc_le _)
    | (show contLe _ _ _ (cellsOf' encC (o++[x,y]));rw [show o++[x,y]=o++[x]++[y] by simp];exact app_le (app_le (contLe_refl _ _ _) rfl (enc_le _)) (by simp) (enc_le _))
 · rw [rst_end h];simp
theorem rput_c (b:Bool) (l:List Con) (x:Con) (hl:l.length*24<=140737488355200):(conR (rput l x)).Sat (ACall' Tryz.prog 76 [encCs b l,.agg (encC x)] []):=by
 refine ctr_vc (ht:=rpH b l x) Tryz.mixed rfl ?_
 rw [vcRp_eq b l x]
 unfold vcRp
 have hL:=rp_loop b l x hl 0 (Nat.zero_le _)
 have hlen:=rst_len l x l.length
 rcases hs:rst l x l.length with ⟨d,o⟩
 rw [hs] at hlen
 cases d<;>simp [rput,hs,hL] at hlen ⊢
 all_goals exact ⟨⟨by omega,by omega⟩,app_le (contLe_refl _ _ _) rfl (enc_le x)⟩
theorem putL_cons (y:Con) (t:List Con) (x:Con):putL (y::t) x=if lt y.name x.name then y::putL t x else if y.name.data=x.name.data then x::t else x::y::t:=by
 cases h:lt y.name x.name
 · have hb:belC (y::t) x.name=0:=by unfold belC;rw [List.takeWhile_cons_of_neg (by simp [h])];rfl
   by_cases h2:y.name.data=x.name.data
   · have hc:cmpV y.name x.name=0:=by
      unfold cmpV lt
      rw [h2,less_irr];rfl
     simp [putL,bsF,hb,h2,hc]
   · have hc:¬ cmpV y.name x.name=0:=by
      unfold cmpV
      rw [h]
      cases h3:lt x.name y.name
      · exact absurd (Array.toList_inj.1 (less_total _ _ h h3)) h2
      · simp
     simp [putL,bsF,hb,h2,hc]
 · have hb:belC (y::t) x.name=belC t x.name+1:=by unfold belC;rw [List.takeWhile_cons_of_pos (by simp [h])];rfl
   have hf:bsF (y::t) x=bsF t x:=by
    unfold bsF
    rw [hb];simp
   unfold putL
   rw [hf,hb]
   cases bsF t x<;>simp
def oth (l:List Con) (x:Con):List Con:=l.filter fun y=>decide (¬ y.name.data=x.name.data)
theorem oth_cons (y:Con) (t:List Con) (x:Con):oth (y::t) x=if y.name.data=x.name.data then oth t x else y::oth t x:=by
 unfold oth
 by_cases h:y.name.data=x.name.data<;>simp [h]
theorem fold_done (x:Con):∀ (l o:List Con),l.foldl (stp x) (true,o)=(true,o++oth l x):=by
 intro l
 induction l with
 | nil=>intro o;simp [oth]
 | cons y t ih =>
   intro o
   by_cases h:y.name.data=x.name.data
   · simp [stp,h,ih,oth_cons]
   · simp [stp,h,ih,oth_cons]
theorem oth_self {x y:Con} {t:List Con} (h:lt y.name x.name=false) (ht:∀ z∈t,lt y.name z.name=true):oth t x=t:=by
 unfold oth
 rw [List.filter_eq_self]
 intro z hz
 have:=ht z hz
 simp only [decide_not,Bool.not_eq_true',decide_eq_false_iff_not]
 intro e
 have e2:lt y.name x.name=true:=by unfold lt at this ⊢;rw [<- e];exact this
 rw [h] at e2;exact absurd e2 (by simp)
theorem fold_put (x:Con):∀ (l o:List Con),l.Pairwise (fun a b=>lt a.name b.name=true)->(if (l.foldl (stp x) (false,o)).1 then (l.foldl (stp x) (false,o)).2 else (l.foldl (stp x) (false,o)).2++[x])=o++putL l x:=by
 intro l
 induction l with
 | nil=>intro o _;simp [putL,bsF,belC]
 | cons y t ih =>
   intro o hp
   rw [List.pairwise_cons] at hp
   rw [putL_cons]
   cases h:lt y.name x.name
   · have h3:=oth_self h hp.1
     by_cases h2:y.name.data=x.name.data
     · simp [stp,h,h2,fold_done,h3]
     · simp [stp,h,h2,fold_done,h3]
   · have h2:¬ y.name.data=x.name.data:=fun e=>by unfold lt at h;rw [e,less_irr] at h;exact absurd h (by simp)
     have:=ih (o++[y]) hp.2
     simp only [List.foldl_cons,stp,h,h2,Bool.not_true,Bool.false_and,Bool.false_eq_true,if_false,if_true]
     rw [this];simp
theorem risC_pw (r:List Con):risC r↔r.Pairwise (fun a b=>lt a.name b.name=true):=by
 rw [List.pairwise_iff_getElem]
 constructor
 · intro h i j hi hj hij
   have:=h i j hij hj
   simpa [hi,hj] using this
 · intro h i j hij hj
   have:=h i j (by omega) hj hij
   simpa [show i<r.length by omega,hj] using this
theorem rput_putL {l:List Con} {x:Con} (h:risC l):rput l x=putL l x:=by
 have:=fold_put x l [] ((risC_pw l).1 h)
 simpa [rput,rst] using this
theorem put_mem {x:Con} {P:Con->Prop} (hx:P x):∀ (l:List Con),(∀ z∈l,P z)->∀ z∈putL l x,P z
 | [],_,z,hz=>by
   simp [putL,bsF,belC] at hz
   rw [hz];exact hx
 | y::t,h,z,hz=>by
   rw [putL_cons] at hz
   have h1:=h y List.mem_cons_self
   have h2:=fun z hz=>h z (List.mem_cons_of_mem y hz)
   have ih:=put_mem hx t h2 z
   split at hz
   · rcases List.mem_cons.1 hz with rfl | hz
     · exact h1
     · exact ih hz
   · split at hz
     · rcases List.mem_cons.1 hz with rfl | hz
       · exact hx
       · exact h2 z hz
     · rcases List.mem_cons.1 hz with rfl | hz
       · exact hx
       · rcases List.mem_cons.1 hz with rfl | hz
         · exact h1
         · exact h2 z hz
theorem put_pw (x:Con):∀ (l:List Con),l.Pairwise (fun a b=>lt a.name b.name=true)->(putL l x).Pairwise (fun a b=>lt a.name b.name=true)
 | [],_=>by simp [putL,bsF,belC]
 | y::t,h=>by
   rw [List.pairwise_cons] at h
   rw [putL_cons]
   cases h1:lt y.name x.name
   · by_cases h2:y.name.data=x.name.data
     · simp only [Bool.false_eq_true,if_false,h2,if_true]
       refine List.pairwise_cons.2 ⟨fun z hz=>?_,h.2⟩
       have:=h.1 z hz
       unfold lt at this ⊢
       rw [<- h2];exact this
     · simp only [Bool.false_eq_true,if_false,h2]
       have h3:lt x.name y.name=true:=by
        cases h3:lt x.name y.name
        · exact absurd (Array.toList_inj.1 (less_total _ _ h1 h3)) h2
        · rfl
       refine List.pairwise_cons.2 ⟨fun z hz=>?_,List.pairwise_cons.2 ⟨h.1,h.2⟩⟩
       rcases List.mem_cons.1 hz with rfl | hz
       · exact h3
       · exact lt_trans' h3 (h.1 z hz)
   · simp only [if_true]
     exact List.pairwise_cons.2 ⟨put_mem (P:=fun z=>lt y.name z.name=true) h1 t h.1,put_pw x t h.2⟩
theorem put_ris {l:List Con} {x:Con} (h:risC l):risC (putL l x):=(risC_pw _).2 (put_pw x l ((risC_pw l).1 h))
theorem put_len (l:List Con) (x:Con):(putL l x).length<=l.length+1:=by
 have:=belC_le l x.name
 unfold putL
 split<;>simp<;>omega
noncomputable def rputC (b:Bool) (l:List Con) (x:Con):Ctr Tryz.prog:=⟨76,[encCs b l,.agg (encC x)],[],.need (l.length*24<=140737488355200/\risC l) (conR (putL l x)),T.Sat.need fun h=>by
 have:=rput_c b l x h.1
 rw [rput_putL h.2] at this
 exact this⟩
end Go.Proofs.YtckklclehofddaaGreatDoor

namespace Go.Proofs.YtckklclehofddaaGreatDoor
open Go.Ax
set_option maxRecDepth 1000000
def movC (to:List Int) (x:Con):Con:=⟨x.name,elemO to x.off⟩
def mapU (l:List Con) (to:List Int) (k:Nat):List Con:=if to.length=0 then [] else (l.take k).map (movC to)
def fnO (b:Bool) (to:List Int):AV:=.fn (.func 53) [encUs b to] []
def mpT (b1 b2:Bool) (l:List Con) (to:List Int) (k:Nat):List AV:=mkT 32 [(5,fnO b2 to),(6,.own 0 2 0 (mapU l to k).length),(14,encCs b1 l),(15,.y (.int .i64 l.length)),(16,.y (.int .i64 k))]
def mpM (l:List Con) (to:List Int) (k:Nat):List Blk:=[rowC (mapU l to k)]
def mpS (l:List Con) (to:List Int) (_:Unit):Exit×List AV×List Blk:=(.exit 0,mkT 32 [(6,.own 0 2 0 (mapU l to l.length).length)],mpM l to l.length)
noncomputable def mpHL (b2:Bool) (l:List Con) (to:List Int) (k:Nat):HintsT Tryz.prog:=hh _ noLp (cs1 24 8 6 (ofC b2 to (l.getD k default).off) noCs) noOp
def vcMpL (b1:Bool) (b2:Bool) (l:List Con) (to:List Int) (k:Nat):Prop :=
 (decide ((k:Int)<(l.length:Int))=true->(true&&decide ((k:Int)<(l.length:Int)))=true/\((b2=b2/\to.length=to.length/\contLe to.length 1 (cellsOf' encU to) (cellsOf' encU to))/\(l.getD (Int.toNat (k:Int)) default).off=(l.getD k default).off/\True)/\True/\(0<to.length/\to.length<=9223372036854775806/\0<=(l.getD k default).off/\(l.getD k default).off<18446744073709551616)/\(decide ((mapU l to k).length=(mapU l to k).length)&&decide ((mapU l to k).length+1<=9223372036854775807)&&decide (((mapU l to k).length+1)*24<=140737488355328))=true/\∃ j:Nat,l.length - j<l.length - k/\(((((b2=b2/\to.length=to.length/\contLe to.length 1 (cellsOf' encU to) (cellsOf' encU to))/\True)/\True)/\(0=0/\(mapU l to k).length+1=(mapU l to j).length)/\(b1=b1/\l.length=l.length/\contLe l.length 2 (cellsOf' encC l) (cellsOf' encC l))/\(l.length:Int)=(l.length:Int)/\IntKind.i64.wrap ((k:Int)+1)=(j:Int)/\True)/\(((mapU l to k).length+1=(mapU l to j).length/\contLe ((mapU l to k).length+1) 2 (appRow (mapU l to k).length (cellsOf' encC (mapU l to k)) fun (k_1 j:Nat)=>Ax.get [AV.y (.string (l.getD (Int.toNat (k:Int)) default).name),AV.y (.int .u64 (elemO to (l.getD k default).off))] (k_1*2+j)) (cellsOf' encC (mapU l to j)))/\True)/\true=true)/\true=true/\()=())/\(decide ((k:Int)<(l.length:Int))=false->((0=0/\(mapU l to k).length=(mapU l to l.length).length)/\True)/\(((mapU l to k).length=(mapU l to l.length).length/\contLe (mapU l to k).length 2 (cellsOf' encC (mapU l to k)) (cellsOf' encC (mapU l to l.length)))/\True)/\true=true)
theorem vcMpL_eq (b1:Bool) (b2:Bool) (l:List Con) (to:List Int) (k:Nat):(loopVC Tryz.prog (mpHL b2 l to k) 24 6 (fun k=>l.length - k) (mpT b1 b2 l to) (mpM l to) [0,1,2,3,4,5] (fun _=>.ret ()) (mpS l to) k)=vcMpL b1 b2 l to k:=by kernel_rfl
noncomputable def mpH (b1 b2:Bool) (l:List Con) (to:List Int):HintsT Tryz.prog :=
 hh _ (lp1 24 6 (jobOf (mpT b1 b2 l to) (mpM l to) [0,1,2,3,4,5] (fun _=>.ret ()) (mpS l to) 0) noLp) noCs (op1 24 4 0 (.row 41 2) (op1 24 2 0 (.row 41 2) noOp))
def vcMp (b1:Bool) (b2:Bool) (l:List Con) (to:List Int):Prop :=
 (((to.length:Int)==0)=true->(0=0/\0=(mapU l to l.length).length)/\(0=(mapU l to l.length).length/\contLe 0 2 (fun (x x_1:Nat)=>AV.junk) (cellsOf' encC (mapU l to l.length)))/\True)/\(((to.length:Int)==0)=false->(((((b2=b2/\to.length=to.length/\contLe to.length 1 (cellsOf' encU to) (cellsOf' encU to))/\True)/\True)/\(0=0/\0=(mapU l to 0).length)/\(b1=b1/\l.length=l.length/\contLe l.length 2 (cellsOf' encC l) (cellsOf' encC l))/\(l.length:Int)=(l.length:Int)/\(0:Int)=0/\True)/\((0=(mapU l to 0).length/\contLe 0 2 (fun (x x_1:Nat)=>AV.junk) (cellsOf' encC (mapU l to 0)))/\True)/\true=true)/\LoopOk Tryz.prog 24 6 (loopAt Tryz.prog 24 6) { t:=mpT b1 b2 l to 0,m:=mpM l to 0,mv:=[]:St } (T.map (lout [0,1,2,3,4,5] (mpS l to)) ((fun (x:Nat)=>T.ret ()) 0))/\(0=0/\(mapU l to l.length).length=(mapU l to l.length).length)/\((mapU l to l.length).length=(mapU l to l.length).length/\contLe (mapU l to l.length).length 2 (cellsOf' encC (mapU l to l.length)) (cellsOf' encC (mapU l to l.length)))/\True)
theorem vcMp_eq (b1:Bool) (b2:Bool) (l:List Con) (to:List Int):(ctrVC Tryz.prog (mpH b1 b2 l to) 24 [encCs b1 l,encUs b2 to] [] (conR (mapU l to l.length)))=vcMp b1 b2 l to:=by kernel_rfl
def catA (b1 b2:Bool) (a b:List Con):AV:=.ys false 1 2 (fun k j=>get [encCs b1 a,encCs b2 b] (k*1+j))
noncomputable def catH:HintsT Tryz.prog:=withSh (hh _ noLp noCs noOp) (sh1 105 6 0 1 noSh)
def vcCat_q1 (a:List Con) (b:List Con):Prop:=(true=true->true=true/\(decide (a.length<=9223372036854775807)&&decide (a.length*24<=140737488355328))=true/\(true=true->true=true/\(decide (0+a.length=a.length)&&decide (a.length+b.length<=9223372036854775807)&&decide ((a.length+b.length)*24<=140737488355328))=true/\(false=true->false=true/\False)/\(false=false->(0=0/\a.length+b.length=(a++b).length)/\(a.length+b.length=(a++b).length/\contLe (a.length+b.length) 2 (appRow a.length (appRow 0 (fun (k j:Nat)=>AV.junk) (cellsOf' encC a)) (cellsOf' encC b)) (cellsOf' encC (a++b)))/\True))/\(true=false->(0=0/\a.length=(a++b).length)/\(0+a.length=(a++b).length/\contLe (0+a.length) 2 (appRow 0 (fun (k j:Nat)=>AV.junk) (cellsOf' encC a)) (cellsOf' encC (a++b)))/\True))
def vcCat_q2 (a:List Con) (b:List Con):Prop:=(true=true->true=true/\(true&&decide (0+a.length<=9223372036854775807)&&decide ((0+a.length)*24<=140737488355328))=true/\(true=true->true=true/\(decide (0+a.length=0+a.length)&&decide (0+a.length+b.length<=9223372036854775807)&&decide ((0+a.length+b.length)*24<=140737488355328))=true/\(false=true->false=true/\False)/\(false=false->(0=0/\0+a.length+b.length=(a++b).length)/\(0+a.length+b.length=(a++b).length/\contLe (0+a.length+b.length) 2 (appRow (0+a.length) (appRow 0 (fun (x j:Nat)=>Ax.get [AV.s (Value.string { data:=#[]:ByteArray }),AV.s (.int .u64 0)] j) (cellsOf' encC a)) (cellsOf' encC b)) (cellsOf' encC (a++b)))/\True))/\(true=false->(0=0/\0+a.length=(a++b).length)/\(0+a.length=(a++b).length/\contLe (0+a.length) 2 (appRow 0 (fun (x j:Nat)=>Ax.get [AV.s (Value.string { data:=#[]:ByteArray }),AV.s (.int .u64 0)] j) (cellsOf' encC a)) (cellsOf' encC (a++b)))/\True))
def vcCat (b1:Bool) (b2:Bool) (a:List Con) (b:List Con):Prop :=
 (true=true->true=true/\(decide (IntKind.i64.wrap (0+(a.length:Int))<0)=true->False)/\(decide (IntKind.i64.wrap (0+(a.length:Int))<0)=false->(true=true->true=true/\(decide (IntKind.i64.wrap (IntKind.i64.wrap (0+(a.length:Int))+(b.length:Int))<0)=true->False)/\(decide (IntKind.i64.wrap (IntKind.i64.wrap (0+(a.length:Int))+(b.length:Int))<0)=false->(false=true->false=true/\False)/\(false=false->(decide (IntKind.i64.wrap (IntKind.i64.wrap (0+(a.length:Int))+(b.length:Int))<0)=true->False)/\(decide (IntKind.i64.wrap (IntKind.i64.wrap (0+(a.length:Int))+(b.length:Int))<0)=false->(decide (0<IntKind.i64.wrap (IntKind.i64.wrap (IntKind.i64.wrap (0+(a.length:Int))+(b.length:Int)) - 0))=true->0<IntKind.i64.wrap (IntKind.i64.wrap (IntKind.i64.wrap (0+(a.length:Int))+(b.length:Int)) - 0)/\IntKind.i64.wrap (IntKind.i64.wrap (IntKind.i64.wrap (0+(a.length:Int))+(b.length:Int)) - 0)<=9223372036854775807/\IntKind.i64.wrap (IntKind.i64.wrap (IntKind.i64.wrap (0+(a.length:Int))+(b.length:Int)) - 0)*(24:Int)<=281474976710656/\true=true/\(vcCat_q2 a b)/\(true=false->(0=0/\0=(a++b).length)/\(0=(a++b).length/\contLe 0 2 (fun (x j:Nat)=>Ax.get [AV.s (Value.string { data:=#[]:ByteArray }),AV.s (.int .u64 0)] j) (cellsOf' encC (a++b)))/\True))/\(decide (0<IntKind.i64.wrap (IntKind.i64.wrap (IntKind.i64.wrap (0+(a.length:Int))+(b.length:Int)) - 0))=false->(vcCat_q1 a b)/\(true=false->False/\False))))))/\(true=false->(decide (IntKind.i64.wrap (0+(a.length:Int))<0)=true->False)/\(decide (IntKind.i64.wrap (0+(a.length:Int))<0)=false->(decide (0<IntKind.i64.wrap (IntKind.i64.wrap (0+(a.length:Int)) - 0))=true->0<IntKind.i64.wrap (IntKind.i64.wrap (0+(a.length:Int)) - 0)/\IntKind.i64.wrap (IntKind.i64.wrap (0+(a.length:Int)) - 0)<=9223372036854775807/\IntKind.i64.wrap (IntKind.i64.wrap (0+(a.length:Int)) - 0)*(24:Int)<=281474976710656/\true=true/\(vcCat_q2 a b)/\(true=false->(0=0/\0=(a++b).length)/\(0=(a++b).length/\contLe 0 2 (fun (x j:Nat)=>Ax.get [AV.s (Value.string { data:=#[]:ByteArray }),AV.s (.int .u64 0)] j) (cellsOf' encC (a++b)))/\True))/\(decide (0<IntKind.i64.wrap (IntKind.i64.wrap (0+(a.length:Int)) - 0))=false->(vcCat_q1 a b)/\(true=false->False/\False))))))/\(true=false->(vcCat_q1 a b)/\(true=false->False/\False))
theorem vcCat_eq (b1:Bool) (b2:Bool) (a:List Con) (b:List Con):(ctrVC Tryz.prog catH 89 [catA b1 b2 a b] [] (conR (a++b)))=vcCat b1 b2 a b:=by kernel_rfl
end Go.Proofs.YtckklclehofddaaGreatDoor

namespace Go.Proofs.YtckklclehofddaaGreatDoor
open Go.Ax
set_option maxRecDepth 1000000
def wfC (l:List Con):Prop:=∀ x∈l,offOk x.off
theorem wfC_at {l:List Con} (h:wfC l) {k:Nat} (hk:k<l.length):offOk (l.getD k default).off:=h _ (by simp [hk])
theorem mapU_step {l:List Con} {to:List Int} {k:Nat} (h:k<l.length) (ht:¬ to.length=0):mapU l to (k+1)=mapU l to k++[movC to (l[k]?.getD default)]:=by
 unfold mapU
 rw [if_neg ht,if_neg ht]
 have:l.take (k+1)=l.take k++[l[k]?.getD default]:=by
  rw [List.take_add_one,List.getElem?_eq_getElem h];rfl
 rw [this,List.map_append];rfl
theorem mapU_len (l:List Con) (to:List Int) (k:Nat):(mapU l to k).length<=l.length:=by
 unfold mapU
 split<;>simp
 exact Nat.min_le_right _ _
theorem mapU_end {l:List Con} {to:List Int} {k:Nat} (h:l.length<=k):mapU l to k=mapU l to l.length:=by
 unfold mapU
 rw [List.take_of_length_le h,List.take_length]
theorem mp_loop (b1 b2:Bool) (l:List Con) (to:List Int) (ht:0<to.length) (htl:to.length<=9223372036854775806) (hl:l.length*24<=140737488355200) (hw:wfC l) (k:Nat):LoopOk Tryz.prog 24 6 (loopAt Tryz.prog 24 6) ⟨mpT b1 b2 l to k,mpM l to k,[]⟩ (T.map (lout [0,1,2,3,4,5] (mpS l to)) (.ret ())):=by
 refine loop_vcH (ht:=mpHL b2 l to) (o:=fun _=>.ret ()) Tryz.mixed (fun _=>rfl) (fun k=>(vcMpL_eq b1 b2 l to k).mpr ?_) k
 unfold vcMpL
 have hlen:=mapU_len l to k
 simp
 refine ⟨fun h=>?_,fun h=>?_⟩
 · have hwk:=wfC_at hw h
   have e1:IntKind.i64.wrap ((k:Int)+1)=((k+1:Nat):Int):=by rw [wrap_i64 (by omega) (by omega)];omega
   rw [e1]
   simp at hwk
   refine ⟨h,⟨ht,htl,hwk.1,hwk.2⟩,⟨by omega,by omega⟩,k+1,by omega,⟨⟨?_,rfl⟩,?_⟩⟩
   all_goals rw [mapU_step h (by omega)]
   · simp
   · refine ⟨by simp,app_le (contLe_refl _ _ _) rfl fun j hj=>?_⟩
     exact enc_le (movC to (l[k]?.getD default)) j hj
 · rw [mapU_end h]
   exact ⟨rfl,contLe_refl _ _ _⟩
theorem mp_c (b1 b2:Bool) (l:List Con) (to:List Int) (htl:to.length<=9223372036854775806) (hl:l.length*24<=140737488355200) (hw:wfC l):(conR (mapU l to l.length)).Sat (ACall' Tryz.prog 24 [encCs b1 l,encUs b2 to] []):=by
 refine ctr_vc (ht:=mpH b1 b2 l to) Tryz.mixed rfl ?_
 rw [vcMp_eq b1 b2 l to]
 unfold vcMp
 by_cases h0:to.length=0
 · simp [h0,mapU]
 · have lp:=mp_loop b1 b2 l to (by omega) htl hl hw 0
   have h1:¬ ((to.length:Int)=0):=by omega
   simp [h0,lp]
   have e0:mapU l to 0=[]:=by unfold mapU;split<;>simp
   simp [e0]
theorem cat2_le {n sz:Nat} {a b:List Con} {c:Nat->Nat->AV} (h:contLe a.length sz c (cellsOf' encC a)) (hn:n=a.length):contLe (n+b.length) sz (appRow n c (cellsOf' encC b)) (cellsOf' encC (a++b)):=by
 subst hn
 intro k hk j hj
 unfold appRow
 split
 · rename_i h1
   have:=h k h1 j hj
   rw [cells_at] at this ⊢
   rw [show (a++b).getD k default=a.getD k default by simp [List.getD_eq_getElem?_getD,List.getElem?_append_left h1]]
   exact this
 · rename_i h1
   rw [cells_at,cells_at,show (a++b).getD k default=b.getD (k - a.length) default by simp [List.getD_eq_getElem?_getD,List.getElem?_append_right (Nat.le_of_not_lt h1)]]
   exact le0_refl _
theorem cat1_le {n sz:Nat} {a:List Con} {c:Nat->Nat->AV}:contLe n sz (appRow 0 c (cellsOf' encC a)) (cellsOf' encC a):=by
 intro k hk j hj
 unfold appRow
 rw [if_neg (Nat.not_lt_zero _)]
 exact le0_refl _
theorem cat_c (b1 b2:Bool) (a b:List Con) (ha:a.length<=100000) (hb:b.length<=100000):(conR (a++b)).Sat (ACall' Tryz.prog 89 [catA b1 b2 a b] []):=by
 refine ctr_vc (ht:=catH) Tryz.mixed rfl ?_
 rw [vcCat_eq b1 b2 a b]
 unfold vcCat vcCat_q2 vcCat_q1
 have e1:IntKind.i64.wrap (0+(a.length:Int))=a.length:=by rw [wrap_i64 (by omega) (by omega)];omega
 have e2:IntKind.i64.wrap ((a.length:Int)+(b.length:Int))=a.length+b.length:=by rw [wrap_i64 (by omega) (by omega)]
 have e3:IntKind.i64.wrap (((a.length:Int)+(b.length:Int)) - 0)=a.length+b.length:=by rw [wrap_i64 (by omega) (by omega)];omega
 have e4:IntKind.i64.wrap ((a.length:Int) - 0)=a.length:=by rw [wrap_i64 (by omega) (by omega)];omega
 simp only [e1,e2,e3,e4]
 simp
 have z1:contLe (a.length+b.length) 2 (appRow a.length (appRow 0 (fun (x j:Nat)=>Ax.get [AV.s (Value.string { data:=#[]:ByteArray }),AV.s (Value.int IntKind.u64 (0:Int))] j) (cellsOf' encC a)) (cellsOf' encC b)) (cellsOf' encC (a++b)):=cat2_le cat1_le rfl
 have z2:contLe (a.length+b.length) 2 (appRow a.length (appRow 0 (fun (k j:Nat)=>AV.junk) (cellsOf' encC a)) (cellsOf' encC b)) (cellsOf' encC (a++b)):=cat2_le cat1_le rfl
 repeat' first | apply And.intro | with_reducible intro _
 all_goals first | omega | exact z1 | exact z2
end Go.Proofs.YtckklclehofddaaGreatDoor

namespace Go.Proofs.YtckklclehofddaaGreatDoor
open Go.Ax
set_option maxRecDepth 1000000
noncomputable def catC (b1 b2:Bool) (a b:List Con):Ctr Tryz.prog:=⟨89,[catA b1 b2 a b],[],.need (a.length<=100000/\b.length<=100000) (conR (a++b)),T.Sat.need fun h=>cat_c b1 b2 a b h.1 h.2⟩
def miN (x y:Int):Int:=if y<x then y else x
def joC (a b:List Con) (ta tb:List Int) (x:Con):Con:=⟨x.name,miN (elemO ta (readO a x.name)) (elemO tb (readO b x.name))⟩
def boU (a b:List Con) (ta tb:List Int) (k:Nat):List Con:=((a++b).take k).foldl (fun s x=>putL s (joC a b ta tb x)) []
def boT (b1 b2 b3 b4:Bool) (a b:List Con) (ta tb:List Int) (k:Nat):List AV:=mkT 81 [(0,encCs b1 a),(1,encCs b2 b),(10,fnO b3 ta),(11,fnO b4 tb),(12,.own 0 2 0 (boU a b ta tb k).length),(44,.own 2 2 0 (a++b).length),(45,.y (.int .i64 (a++b).length)),(46,.y (.int .i64 k))]
def boM (a b:List Con) (ta tb:List Int) (k:Nat):List Blk:=[rowC (boU a b ta tb k),.dead,rowC (a++b)]
def boS (a b:List Con) (ta tb:List Int) (_:Unit):Exit×List AV×List Blk:=(.exit 0,mkT 81 [(12,.own 0 2 0 (boU a b ta tb (a++b).length).length)],[rowC (boU a b ta tb (a++b).length)])
def boX:List Nat:=[0,1,2,3,4,5,6,7,8]
noncomputable def boHL (b1 b2 b3 b4:Bool) (a b:List Con) (ta tb:List Int) (k:Nat):HintsT Tryz.prog :=
 withSh (hh _ noLp (cs1 61 8 3 (rdC b1 a ((a++b).getD k default).name) (cs1 61 9 3 (rdC b2 b ((a++b).getD k default).name) (cs1 61 10 5 (ofC b3 ta (readO a ((a++b).getD k default).name)) (cs1 61 10 8 (ofC b4 tb (readO b ((a++b).getD k default).name)) (cs1 61 10 11 (putC false (boU a b ta tb k) (joC a b ta tb ((a++b).getD k default))) noCs))))) noOp) (sh1 61 10 12 2 noSh)
def vcBoL (b1:Bool) (b2:Bool) (b3:Bool) (b4:Bool) (a:List Con) (b:List Con) (ta:List Int) (tb:List Int) (k:Nat):Prop :=
 (decide ((k:Int)<((a++b).length:Int))=true->(true&&decide ((k:Int)<((a++b).length:Int)))=true/\decide (0+Int.toNat (k:Int)<(a++b).length)=true/\((b1=b1/\a.length=a.length/\contLe a.length 2 (cellsOf' encC a) (cellsOf' encC a))/\((a++b).getD (0+Int.toNat (k:Int)) default).name=((a++b).getD k default).name/\True)/\True/\a.length<=9223372036854775806/\((b2=b2/\b.length=b.length/\contLe b.length 2 (cellsOf' encC b) (cellsOf' encC b))/\((a++b).getD (0+Int.toNat (k:Int)) default).name=((a++b).getD k default).name/\True)/\True/\b.length<=9223372036854775806/\((b3=b3/\ta.length=ta.length/\contLe ta.length 1 (cellsOf' encU ta) (cellsOf' encU ta))/\readO a ((a++b).getD k default).name=readO a ((a++b).getD k default).name/\True)/\True/\(0<ta.length/\ta.length<=9223372036854775806/\0<=readO a ((a++b).getD k default).name/\readO a ((a++b).getD k default).name<18446744073709551616)/\((b4=b4/\tb.length=tb.length/\contLe tb.length 1 (cellsOf' encU tb) (cellsOf' encU tb))/\readO b ((a++b).getD k default).name=readO b ((a++b).getD k default).name/\True)/\True/\(0<tb.length/\tb.length<=9223372036854775806/\0<=readO b ((a++b).getD k default).name/\readO b ((a++b).getD k default).name<18446744073709551616)/\((false=false/\(boU a b ta tb k).length=(boU a b ta tb k).length/\contLe (boU a b ta tb k).length 2 (Ax.rowAt 0 (cellsOf' encC (boU a b ta tb k))) (cellsOf' encC (boU a b ta tb k)))/\(((a++b).getD (0+Int.toNat (k:Int)) default).name=((a++b).getD k default).name/\(if elemO tb (readO b ((a++b).getD k default).name)<elemO ta (readO a ((a++b).getD k default).name) then elemO tb (readO b ((a++b).getD k default).name) else elemO ta (readO a ((a++b).getD k default).name))=miN (elemO ta (readO a ((a++b).getD k default).name)) (elemO tb (readO b ((a++b).getD k default).name))/\True)/\(True/\True)/\True)/\True/\((boU a b ta tb k).length*24<=140737488355200/\∀ (i j:Nat),i<j->j<(boU a b ta tb k).length->lt ((boU a b ta tb k).getD i default).name ((boU a b ta tb k).getD j default).name=true)/\true=true/\((∀ k_1,k_1<(putL (boU a b ta tb k) (joC a b ta tb ((a++b).getD k default))).length->∀ j,j<2->tagT (cellsOf' encC (putL (boU a b ta tb k) (joC a b ta tb ((a++b).getD k default))) k_1 j)=true)/\True)/\∃ j:Nat,(a++b).length - j<(a++b).length - k/\(((b1=b1/\a.length=a.length/\contLe a.length 2 (cellsOf' encC a) (cellsOf' encC a))/\(b2=b2/\b.length=b.length/\contLe b.length 2 (cellsOf' encC b) (cellsOf' encC b))/\(((b3=b3/\ta.length=ta.length/\contLe ta.length 1 (cellsOf' encU ta) (cellsOf' encU ta))/\True)/\True)/\(((b4=b4/\tb.length=tb.length/\contLe tb.length 1 (cellsOf' encU tb) (cellsOf' encU tb))/\True)/\True)/\(0=0/\(putL (boU a b ta tb k) (joC a b ta tb ((a++b).getD k default))).length=(boU a b ta tb j).length)/\(0=0/\(a++b).length=(a++b).length)/\((a++b).length:Int)=((a++b).length:Int)/\IntKind.i64.wrap ((k:Int)+1)=(j:Int)/\True)/\(((putL (boU a b ta tb k) (joC a b ta tb ((a++b).getD k default))).length=(boU a b ta tb j).length/\contLe (putL (boU a b ta tb k) (joC a b ta tb ((a++b).getD k default))).length 2 (cellsOf' encC (putL (boU a b ta tb k) (joC a b ta tb ((a++b).getD k default)))) (cellsOf' encC (boU a b ta tb j)))/\((a++b).length=(a++b).length/\contLe (a++b).length 2 (cellsOf' encC (a++b)) (cellsOf' encC (a++b)))/\True)/\true=true)/\true=true/\()=())/\(decide ((k:Int)<((a++b).length:Int))=false->((0=0/\(boU a b ta tb k).length=(boU a b ta tb (a++b).length).length)/\True)/\(((boU a b ta tb k).length=(boU a b ta tb (a++b).length).length/\contLe (boU a b ta tb k).length 2 (cellsOf' encC (boU a b ta tb k)) (cellsOf' encC (boU a b ta tb (a++b).length)))/\True)/\true=true)
theorem vcBoL_eq (b1:Bool) (b2:Bool) (b3:Bool) (b4:Bool) (a:List Con) (b:List Con) (ta:List Int) (tb:List Int) (k:Nat):(loopVC Tryz.prog (boHL b1 b2 b3 b4 a b ta tb k) 61 6 (fun k=>(a++b).length - k) (boT b1 b2 b3 b4 a b ta tb) (boM a b ta tb) boX (fun _=>.ret ()) (boS a b ta tb) k)=vcBoL b1 b2 b3 b4 a b ta tb k:=by kernel_rfl
def bothE (a b:List Con) (ta tb:List Int):Int:=if !isCons a||!isCons b||decide (ta.length=0)||decide (tb.length=0) then 1 else if decide (64<(boU a b ta tb (a++b).length).length) then 143 else 0
def rowE (r:List Con) (e:Int):T An:=.ite (e==0) (.ret (.tup [.own 0 2 0 r.length,.s (.int .i64 0)],[rowC r],[])) (.ret (.tup [.s (.slice none 0 0),.y (.int .i64 e)],[],[]))
noncomputable def boH (b1 b2 b3 b4:Bool) (a b:List Con) (ta tb:List Int):HintsT Tryz.prog :=
 hh _ (lp1 61 6 (jobOf (boT b1 b2 b3 b4 a b ta tb) (boM a b ta tb) boX (fun _=>.ret ()) (boS a b ta tb) 0) noLp) (cs1 61 1 1 (coC b1 a) (cs1 61 1 5 (coC b2 b) (cs1 61 5 3 (catC b1 b2 a b) noCs))) (op1 61 4 0 (.row 41 2) noOp)
def vcBp (b1:Bool) (b2:Bool) (b3:Bool) (b4:Bool) (a:List Con) (b:List Con) (ta:List Int) (tb:List Int):Prop :=
 ((b1=b1/\a.length=a.length/\contLe a.length 2 (cellsOf' encC a) (cellsOf' encC a))/\True)/\True/\a.length<=9223372036854775806/\((!isCons a)=true->((bothE a b ta tb==0)=true->(False/\(1:Int)=0/\True)/\False)/\((bothE a b ta tb==0)=false->(True/\1=bothE a b ta tb/\True)/\True))/\((!isCons a)=false->((b2=b2/\b.length=b.length/\contLe b.length 2 (cellsOf' encC b) (cellsOf' encC b))/\True)/\True/\b.length<=9223372036854775806/\((!isCons b)=true->((bothE a b ta tb==0)=true->(False/\(1:Int)=0/\True)/\False)/\((bothE a b ta tb==0)=false->(True/\1=bothE a b ta tb/\True)/\True))/\((!isCons b)=false->(((ta.length:Int)==0)=true->((bothE a b ta tb==0)=true->(False/\(1:Int)=0/\True)/\False)/\((bothE a b ta tb==0)=false->(True/\1=bothE a b ta tb/\True)/\True))/\(((ta.length:Int)==0)=false->(((tb.length:Int)==0)=true->((bothE a b ta tb==0)=true->(False/\(1:Int)=0/\True)/\False)/\((bothE a b ta tb==0)=false->(True/\1=bothE a b ta tb/\True)/\True))/\(((tb.length:Int)==0)=false->((false=false/\2=2/\contLe 2 1 (fun (k j:Nat)=>Ax.get [AV.ys b1 2 a.length (cellsOf' encC a),AV.ys b2 2 b.length (cellsOf' encC b)] ((0+k)*1+j)) fun (k j:Nat)=>Ax.get [AV.ys b1 2 a.length (cellsOf' encC a),AV.ys b2 2 b.length (cellsOf' encC b)] (k*1+j))/\True)/\True/\(a.length<=100000/\b.length<=100000)/\true=true/\((∀ k,k<(a++b).length->∀ j,j<2->tagT (cellsOf' encC (a++b) k j)=true)/\True)/\(((b1=b1/\a.length=a.length/\contLe a.length 2 (cellsOf' encC a) (cellsOf' encC a))/\(b2=b2/\b.length=b.length/\contLe b.length 2 (cellsOf' encC b) (cellsOf' encC b))/\(((b3=b3/\ta.length=ta.length/\contLe ta.length 1 (cellsOf' encU ta) (cellsOf' encU ta))/\True)/\True)/\(((b4=b4/\tb.length=tb.length/\contLe tb.length 1 (cellsOf' encU tb) (cellsOf' encU tb))/\True)/\True)/\(0=0/\0=0)/\(0=0/\(a++b).length=(a++b).length)/\((a++b).length:Int)=((a++b).length:Int)/\(0:Int)=0/\True)/\((0=0/\contLe 0 2 (fun (x x_1:Nat)=>AV.junk) (cellsOf' encC []))/\((a++b).length=(a++b).length/\contLe (a++b).length 2 (cellsOf' encC (a++b)) (cellsOf' encC (a++b)))/\True)/\true=true)/\LoopOk Tryz.prog 61 6 (loopAt Tryz.prog 61 6) { t:=boT b1 b2 b3 b4 a b ta tb 0,m:=boM a b ta tb 0,mv:=[]:St } (T.map (lout boX (boS a b ta tb)) ((fun (x:Nat)=>T.ret ()) 0))/\(decide (64<((boU a b ta tb (a++b).length).length:Int))=true->((bothE a b ta tb==0)=true->(False/\(143:Int)=0/\True)/\False)/\((bothE a b ta tb==0)=false->(True/\143=bothE a b ta tb/\True)/\True))/\(decide (64<((boU a b ta tb (a++b).length).length:Int))=false->((bothE a b ta tb==0)=true->((0=0/\(boU a b ta tb (a++b).length).length=(boU a b ta tb (a++b).length).length)/\(0:Int)=0/\True)/\((boU a b ta tb (a++b).length).length=(boU a b ta tb (a++b).length).length/\contLe (boU a b ta tb (a++b).length).length 2 (cellsOf' encC (boU a b ta tb (a++b).length)) (cellsOf' encC (boU a b ta tb (a++b).length)))/\True)/\((bothE a b ta tb==0)=false->False))))))
theorem vcBp_eq (b1:Bool) (b2:Bool) (b3:Bool) (b4:Bool) (a:List Con) (b:List Con) (ta:List Int) (tb:List Int):(ctrVC Tryz.prog (boH b1 b2 b3 b4 a b ta tb) 61 [encCs b1 a,encCs b2 b,encUs b3 ta,encUs b4 tb] [] (rowE (boU a b ta tb (a++b).length) (bothE a b ta tb)))=vcBp b1 b2 b3 b4 a b ta tb:=by kernel_rfl
def rbT (b1 b2 b3 b4:Bool) (a b:List Con) (ta tb:List Int) (k:Nat):List AV:=mkT 89 [(0,encCs b1 a),(1,encCs b2 b),(2,encUs b3 ta),(3,encUs b4 tb),(12,.own 0 2 0 (boU a b ta tb k).length),(13,.own 1 2 0 (a++b).length),(14,.y (.int .i64 k))]
def rbM (a b:List Con) (ta tb:List Int) (k:Nat):List Blk:=[rowC (boU a b ta tb k),rowC (a++b)]
def rbS (a b:List Con) (ta tb:List Int) (_:Unit):Exit×List AV×List Blk:=(.exit 0,mkT 89 [(12,.own 0 2 0 (boU a b ta tb (a++b).length).length)],[rowC (boU a b ta tb (a++b).length)])
noncomputable def rbHL (b1 b2 b3 b4:Bool) (a b:List Con) (ta tb:List Int) (k:Nat):HintsT Tryz.prog :=
 withSh (hh _ noLp (cs1 38 10 6 (rrC b1 a ((a++b).getD k default).name) (cs1 38 11 6 (rrC b2 b ((a++b).getD k default).name) (cs1 38 12 8 (elC b3 ta (readO a ((a++b).getD k default).name)) (cs1 38 12 11 (elC b4 tb (readO b ((a++b).getD k default).name)) (cs1 38 12 14 (rputC false (boU a b ta tb k) (joC a b ta tb ((a++b).getD k default))) noCs))))) noOp) (sh1 38 12 15 2 noSh)
def vcRbL (b1:Bool) (b2:Bool) (b3:Bool) (b4:Bool) (a:List Con) (b:List Con) (ta:List Int) (tb:List Int) (k:Nat):Prop :=
 (decide ((k:Int)<((a++b).length:Int))=true->(true&&decide ((k:Int)<((a++b).length:Int)))=true/\decide (0+Int.toNat (k:Int)<(a++b).length)=true/\((b1=b1/\a.length=a.length/\contLe a.length 2 (cellsOf' encC a) (cellsOf' encC a))/\((a++b).getD (0+Int.toNat (k:Int)) default).name=((a++b).getD k default).name/\True)/\True/\a.length<=9223372036854775806/\(true&&decide ((k:Int)<((a++b).length:Int)))=true/\decide (0+Int.toNat (k:Int)<(a++b).length)=true/\((b2=b2/\b.length=b.length/\contLe b.length 2 (cellsOf' encC b) (cellsOf' encC b))/\((a++b).getD (0+Int.toNat (k:Int)) default).name=((a++b).getD k default).name/\True)/\True/\b.length<=9223372036854775806/\(true&&decide ((k:Int)<((a++b).length:Int)))=true/\decide (0+Int.toNat (k:Int)<(a++b).length)=true/\((b3=b3/\ta.length=ta.length/\contLe ta.length 1 (cellsOf' encU ta) (cellsOf' encU ta))/\readO a ((a++b).getD k default).name=readO a ((a++b).getD k default).name/\True)/\True/\(0<ta.length/\ta.length<=9223372036854775806/\0<=readO a ((a++b).getD k default).name/\readO a ((a++b).getD k default).name<18446744073709551616)/\((b4=b4/\tb.length=tb.length/\contLe tb.length 1 (cellsOf' encU tb) (cellsOf' encU tb))/\readO b ((a++b).getD k default).name=readO b ((a++b).getD k default).name/\True)/\True/\(0<tb.length/\tb.length<=9223372036854775806/\0<=readO b ((a++b).getD k default).name/\readO b ((a++b).getD k default).name<18446744073709551616)/\((false=false/\(boU a b ta tb k).length=(boU a b ta tb k).length/\contLe (boU a b ta tb k).length 2 (Ax.rowAt 0 (cellsOf' encC (boU a b ta tb k))) (cellsOf' encC (boU a b ta tb k)))/\(((a++b).getD (0+Int.toNat (k:Int)) default).name=((a++b).getD k default).name/\(if elemO tb (readO b ((a++b).getD k default).name)<elemO ta (readO a ((a++b).getD k default).name) then elemO tb (readO b ((a++b).getD k default).name) else elemO ta (readO a ((a++b).getD k default).name))=miN (elemO ta (readO a ((a++b).getD k default).name)) (elemO tb (readO b ((a++b).getD k default).name))/\True)/\True)/\True/\((boU a b ta tb k).length*24<=140737488355200/\∀ (i j:Nat),i<j->j<(boU a b ta tb k).length->lt ((boU a b ta tb k).getD i default).name ((boU a b ta tb k).getD j default).name=true)/\true=true/\((∀ k_1,k_1<(putL (boU a b ta tb k) (joC a b ta tb ((a++b).getD k default))).length->∀ j,j<2->tagT (cellsOf' encC (putL (boU a b ta tb k) (joC a b ta tb ((a++b).getD k default))) k_1 j)=true)/\True)/\∃ j:Nat,(a++b).length - j<(a++b).length - k/\(((b1=b1/\a.length=a.length/\contLe a.length 2 (cellsOf' encC a) (cellsOf' encC a))/\(b2=b2/\b.length=b.length/\contLe b.length 2 (cellsOf' encC b) (cellsOf' encC b))/\(b3=b3/\ta.length=ta.length/\contLe ta.length 1 (cellsOf' encU ta) (cellsOf' encU ta))/\(b4=b4/\tb.length=tb.length/\contLe tb.length 1 (cellsOf' encU tb) (cellsOf' encU tb))/\(0=0/\(putL (boU a b ta tb k) (joC a b ta tb ((a++b).getD k default))).length=(boU a b ta tb j).length)/\(0=0/\(a++b).length=(a++b).length)/\IntKind.i64.wrap ((k:Int)+1)=(j:Int)/\True)/\(((putL (boU a b ta tb k) (joC a b ta tb ((a++b).getD k default))).length=(boU a b ta tb j).length/\contLe (putL (boU a b ta tb k) (joC a b ta tb ((a++b).getD k default))).length 2 (cellsOf' encC (putL (boU a b ta tb k) (joC a b ta tb ((a++b).getD k default)))) (cellsOf' encC (boU a b ta tb j)))/\((a++b).length=(a++b).length/\contLe (a++b).length 2 (cellsOf' encC (a++b)) (cellsOf' encC (a++b)))/\True)/\true=true)/\true=true/\()=())/\(decide ((k:Int)<((a++b).length:Int))=false->((0=0/\(boU a b ta tb k).length=(boU a b ta tb (a++b).length).length)/\True)/\(((boU a b ta tb k).length=(boU a b ta tb (a++b).length).length/\contLe (boU a b ta tb k).length 2 (cellsOf' encC (boU a b ta tb k)) (cellsOf' encC (boU a b ta tb (a++b).length)))/\True)/\true=true)
theorem vcRbL_eq (b1:Bool) (b2:Bool) (b3:Bool) (b4:Bool) (a:List Con) (b:List Con) (ta:List Int) (tb:List Int) (k:Nat):(loopVC Tryz.prog (rbHL b1 b2 b3 b4 a b ta tb k) 38 8 (fun k=>(a++b).length - k) (rbT b1 b2 b3 b4 a b ta tb) (rbM a b ta tb) boX (fun _=>.ret ()) (rbS a b ta tb) k)=vcRbL b1 b2 b3 b4 a b ta tb k:=by kernel_rfl
noncomputable def rbH (b1 b2 b3 b4:Bool) (a b:List Con) (ta tb:List Int):HintsT Tryz.prog :=
 hh _ (lp1 38 8 (jobOf (rbT b1 b2 b3 b4 a b ta tb) (rbM a b ta tb) boX (fun _=>.ret ()) (rbS a b ta tb) 0) noLp) (cs1 38 1 1 (crC b1 a) (cs1 38 2 1 (crC b2 b) noCs)) (op1 38 5 0 (.row 41 2) noOp)
def vcRb (b1:Bool) (b2:Bool) (b3:Bool) (b4:Bool) (a:List Con) (b:List Con) (ta:List Int) (tb:List Int):Prop :=
 ((b1=b1/\a.length=a.length/\contLe a.length 2 (cellsOf' encC a) (cellsOf' encC a))/\True)/\True/\a.length<=9223372036854775806/\((b2=b2/\b.length=b.length/\contLe b.length 2 (cellsOf' encC b) (cellsOf' encC b))/\True)/\True/\b.length<=9223372036854775806/\((!isCons a)=true->((bothE a b ta tb==0)=true->(False/\(1:Int)=0/\True)/\False)/\((bothE a b ta tb==0)=false->(True/\1=bothE a b ta tb/\True)/\True))/\((!isCons a)=false->((!isCons b)=true->((bothE a b ta tb==0)=true->(False/\(1:Int)=0/\True)/\False)/\((bothE a b ta tb==0)=false->(True/\1=bothE a b ta tb/\True)/\True))/\((!isCons b)=false->(((ta.length:Int)==0)=true->((bothE a b ta tb==0)=true->(False/\(1:Int)=0/\True)/\False)/\((bothE a b ta tb==0)=false->(True/\1=bothE a b ta tb/\True)/\True))/\(((ta.length:Int)==0)=false->(((tb.length:Int)==0)=true->((bothE a b ta tb==0)=true->(False/\(1:Int)=0/\True)/\False)/\((bothE a b ta tb==0)=false->(True/\1=bothE a b ta tb/\True)/\True))/\(((tb.length:Int)==0)=false->(decide (0+a.length<=9223372036854775807)&&decide ((0+a.length)*24<=140737488355328))=true/\(decide (0+a.length=0+a.length)&&decide (0+a.length+b.length<=9223372036854775807)&&decide ((0+a.length+b.length)*24<=140737488355328))=true/\(((b1=b1/\a.length=a.length/\contLe a.length 2 (cellsOf' encC a) (cellsOf' encC a))/\(b2=b2/\b.length=b.length/\contLe b.length 2 (cellsOf' encC b) (cellsOf' encC b))/\(b3=b3/\ta.length=ta.length/\contLe ta.length 1 (cellsOf' encU ta) (cellsOf' encU ta))/\(b4=b4/\tb.length=tb.length/\contLe tb.length 1 (cellsOf' encU tb) (cellsOf' encU tb))/\(0=0/\0=0)/\(0=0/\0+a.length+b.length=(a++b).length)/\(0:Int)=0/\True)/\((0=0/\contLe 0 2 (fun (x x_1:Nat)=>AV.junk) (cellsOf' encC []))/\(0+a.length+b.length=(a++b).length/\contLe (0+a.length+b.length) 2 (appRow (0+a.length) (appRow 0 (fun (k j:Nat)=>AV.junk) (cellsOf' encC a)) (cellsOf' encC b)) (cellsOf' encC (a++b)))/\True)/\true=true)/\LoopOk Tryz.prog 38 8 (loopAt Tryz.prog 38 8) { t:=rbT b1 b2 b3 b4 a b ta tb 0,m:=rbM a b ta tb 0,mv:=[]:St } (T.map (lout boX (rbS a b ta tb)) ((fun (x:Nat)=>T.ret ()) 0))/\(decide (64<((boU a b ta tb (a++b).length).length:Int))=true->((bothE a b ta tb==0)=true->(False/\(143:Int)=0/\True)/\False)/\((bothE a b ta tb==0)=false->(True/\143=bothE a b ta tb/\True)/\True))/\(decide (64<((boU a b ta tb (a++b).length).length:Int))=false->((bothE a b ta tb==0)=true->((0=0/\(boU a b ta tb (a++b).length).length=(boU a b ta tb (a++b).length).length)/\(0:Int)=0/\True)/\((boU a b ta tb (a++b).length).length=(boU a b ta tb (a++b).length).length/\contLe (boU a b ta tb (a++b).length).length 2 (cellsOf' encC (boU a b ta tb (a++b).length)) (cellsOf' encC (boU a b ta tb (a++b).length)))/\True)/\((bothE a b ta tb==0)=false->False))))))
theorem vcRb_eq (b1:Bool) (b2:Bool) (b3:Bool) (b4:Bool) (a:List Con) (b:List Con) (ta:List Int) (tb:List Int):(ctrVC Tryz.prog (rbH b1 b2 b3 b4 a b ta tb) 38 [encCs b1 a,encCs b2 b,encUs b3 ta,encUs b4 tb] [] (rowE (boU a b ta tb (a++b).length) (bothE a b ta tb)))=vcRb b1 b2 b3 b4 a b ta tb:=by kernel_rfl
end Go.Proofs.YtckklclehofddaaGreatDoor

namespace Go.Proofs.YtckklclehofddaaGreatDoor
open Go.Ax
set_option maxRecDepth 1000000
theorem cons_len {l:List Con} (h:isCons l=true):l.length<=64:=by
 unfold isCons at h
 rw [Bool.and_eq_true] at h
 exact of_decide_eq_true h.2
theorem read_ok:∀ {l:List Con} (s:ByteArray),wfC l->offOk (readO l s)
 | [],s,_=>by
   rw [read_none [] s rfl];exact ⟨by omega,by omega⟩
 | y::l,s,h=>by
   rw [readO_cons]
   split
   · exact h y List.mem_cons_self
   · exact read_ok s fun x hx=>h x (List.mem_cons_of_mem y hx)
theorem boU_step {a b:List Con} {ta tb:List Int} {k:Nat} (h:k<(a++b).length):boU a b ta tb (k+1)=putL (boU a b ta tb k) (joC a b ta tb ((a++b)[k]?.getD default)):=by
 unfold boU
 have:(a++b).take (k+1)=(a++b).take k++[(a++b)[k]?.getD default]:=by
  rw [List.take_add_one,List.getElem?_eq_getElem h];rfl
 rw [this,List.foldl_append];rfl
theorem boU_end {a b:List Con} {ta tb:List Int} {k:Nat} (h:(a++b).length<=k):boU a b ta tb k=boU a b ta tb (a++b).length:=by
 unfold boU
 rw [List.take_of_length_le h,List.take_length]
theorem boU_zero (a b:List Con) (ta tb:List Int):boU a b ta tb 0=[]:=by unfold boU;simp
theorem boU_ris (a b:List Con) (ta tb:List Int):∀ k,risC (boU a b ta tb k)
 | 0=>by rw [boU_zero];intro i j _ h;simp at h
 | k+1=>by
   rcases Nat.lt_or_ge k (a++b).length with h | h
   · rw [boU_step h];exact put_ris (boU_ris a b ta tb k)
   · rw [boU_end (by omega),<- boU_end h];exact boU_ris a b ta tb k
theorem boU_len (a b:List Con) (ta tb:List Int):∀ k,(boU a b ta tb k).length<=(a++b).length/\(boU a b ta tb k).length<=k
 | 0=>by rw [boU_zero];simp
 | k+1=>by
   have ih:=boU_len a b ta tb k
   rcases Nat.lt_or_ge k (a++b).length with h | h
   · rw [boU_step h]
     have:=put_len (boU a b ta tb k) (joC a b ta tb ((a++b)[k]?.getD default))
     omega
   · rw [boU_end (k:=k+1) (by omega),<- boU_end h];omega
theorem tagC (l:List Con):∀ k,k<l.length->∀ j,j<2->tagT (cellsOf' encC l k j)=true:=fun k _ j hj=>by
 match j,hj with
 | 0,_=>rfl
 | 1,_=>rfl
theorem bo_loop (b1 b2 b3 b4:Bool) (a b:List Con) (ta tb:List Int) (ha:a.length<=64) (hb:b.length<=64) (wa:wfC a) (wb:wfC b) (hta:0<ta.length) (htb:0<tb.length) (hta':ta.length<=9223372036854775806) (htb':tb.length<=9223372036854775806) (k:Nat):LoopOk Tryz.prog 61 6 (loopAt Tryz.prog 61 6) ⟨boT b1 b2 b3 b4 a b ta tb k,boM a b ta tb k,[]⟩ (T.map (lout boX (boS a b ta tb)) (.ret ())):=by
 refine loop_vcH (ht:=boHL b1 b2 b3 b4 a b ta tb) (o:=fun _=>.ret ()) Tryz.mixed (fun _=>rfl) (fun k=>(vcBoL_eq b1 b2 b3 b4 a b ta tb k).mpr ?_) k
 unfold vcBoL
 have hlen:=boU_len a b ta tb k
 have hris:=boU_ris a b ta tb k
 have hst:=@boU_step a b ta tb k
 have hend:=@boU_end a b ta tb k
 have hab:(a++b).length<=128:=by simp;omega
 generalize a++b=m at *
 have htag:=tagC (putL (boU a b ta tb k) (joC a b ta tb (m.getD k default)))
 simp at htag
 simp
 refine ⟨fun h=>?_,fun h=>?_⟩
 · have e1:IntKind.i64.wrap ((k:Int)+1)=((k+1:Nat):Int):=by rw [wrap_i64 (by omega) (by omega)];omega
   rw [e1]
   have r1:=read_ok (l:=a) (m[k]?.getD default).name wa
   have r2:=read_ok (l:=b) (m[k]?.getD default).name wb
   have hst:=hst h
   unfold risC at hris
   simp at hris
   repeat' first | apply And.intro | refine Exists.intro (k+1) ?_
   all_goals try rw [hst]
   all_goals first
    | omega
    | exact r1.1
    | exact r1.2
    | exact r2.1
    | exact r2.2
    | rfl
    | exact htag
    | exact hris
    | exact contLe_refl _ _ _
 · rw [hend h]
   exact ⟨rfl,contLe_refl _ _ _⟩
theorem both_c (b1 b2 b3 b4:Bool) (a b:List Con) (ta tb:List Int) (la:a.length<=9223372036854775806) (lb:b.length<=9223372036854775806) (wa:wfC a) (wb:wfC b) (hta':ta.length<=9223372036854775806) (htb':tb.length<=9223372036854775806):(rowE (boU a b ta tb (a++b).length) (bothE a b ta tb)).Sat (ACall' Tryz.prog 61 [encCs b1 a,encCs b2 b,encUs b3 ta,encUs b4 tb] []):=by
 refine ctr_vc (ht:=boH b1 b2 b3 b4 a b ta tb) Tryz.mixed rfl ?_
 rw [vcBp_eq b1 b2 b3 b4 a b ta tb]
 unfold vcBp
 have ca:=@cons_len a
 have cb:=@cons_len b
 have e0:=boU_zero a b ta tb
 have htag:=tagC (a++b)
 have hL:=bo_loop b1 b2 b3 b4 a b ta tb
 cases h1:isCons a
 · simp [bothE,h1,la]
 · cases h2:isCons b
   · simp [bothE,h1,h2,la,lb]
   · rcases Nat.eq_zero_or_pos ta.length with h3 | h3
     · simp [bothE,h1,h2,h3,la,lb]
     · have h3':¬ ta=[]:=fun h=>by rw [h] at h3;exact absurd h3 (by simp)
       rcases Nat.eq_zero_or_pos tb.length with h4 | h4
       · simp [bothE,h1,h2,h4,la,lb]
       · have h4':¬ tb=[]:=fun h=>by rw [h] at h4;exact absurd h4 (by simp)
         have hL:=hL (ca h1) (cb h2) wa wb h3 h4 hta' htb' 0
         have ca:=ca h1
         have cb:=cb h2
         have n3:¬ (ta.length=0):=by omega
         have n4:¬ (tb.length=0):=by omega
         generalize hz:boU a b ta tb (a++b).length=z at *
         have hE:bothE a b ta tb=if decide (64<z.length) then 143 else 0:=by
          unfold bothE;rw [hz,h1,h2,decide_eq_false n3,decide_eq_false n4];rfl
         rw [hE]
         generalize a++b=m at *
         by_cases h5:64<z.length
         · have h5':(64:Int)<z.length:=by omega
           simp [h1,h2,h3',h4',la,lb,h5,h5',hL,e0]
           exact ⟨⟨by omega,by omega⟩,htag⟩
         · have h5':¬ (64:Int)<z.length:=by omega
           simp [h1,h2,h3',h4',la,lb,h5,h5',hL,e0]
           exact ⟨⟨by omega,by omega⟩,htag⟩
theorem rb_loop (b1 b2 b3 b4:Bool) (a b:List Con) (ta tb:List Int) (ha:a.length<=64) (hb:b.length<=64) (wa:wfC a) (wb:wfC b) (hta:0<ta.length) (htb:0<tb.length) (hta':ta.length<=9223372036854775806) (htb':tb.length<=9223372036854775806) (k:Nat):LoopOk Tryz.prog 38 8 (loopAt Tryz.prog 38 8) ⟨rbT b1 b2 b3 b4 a b ta tb k,rbM a b ta tb k,[]⟩ (T.map (lout boX (rbS a b ta tb)) (.ret ())):=by
 refine loop_vcH (ht:=rbHL b1 b2 b3 b4 a b ta tb) (o:=fun _=>.ret ()) Tryz.mixed (fun _=>rfl) (fun k=>(vcRbL_eq b1 b2 b3 b4 a b ta tb k).mpr ?_) k
 unfold vcRbL
 have hlen:=boU_len a b ta tb k
 have hris:=boU_ris a b ta tb k
 have hst:=@boU_step a b ta tb k
 have hend:=@boU_end a b ta tb k
 have hab:(a++b).length<=128:=by simp;omega
 generalize a++b=m at *
 have htag:=tagC (putL (boU a b ta tb k) (joC a b ta tb (m.getD k default)))
 simp at htag
 simp
 refine ⟨fun h=>?_,fun h=>?_⟩
 · have e1:IntKind.i64.wrap ((k:Int)+1)=((k+1:Nat):Int):=by rw [wrap_i64 (by omega) (by omega)];omega
   rw [e1]
   have r1:=read_ok (l:=a) (m[k]?.getD default).name wa
   have r2:=read_ok (l:=b) (m[k]?.getD default).name wb
   have hst:=hst h
   unfold risC at hris
   simp at hris
   repeat' first | apply And.intro | refine Exists.intro (k+1) ?_
   all_goals try rw [hst]
   all_goals first
    | omega
    | exact r1.1
    | exact r1.2
    | exact r2.1
    | exact r2.2
    | rfl
    | exact htag
    | exact hris
    | exact contLe_refl _ _ _
 · rw [hend h]
   exact ⟨rfl,contLe_refl _ _ _⟩
theorem rb_c (b1 b2 b3 b4:Bool) (a b:List Con) (ta tb:List Int) (la:a.length<=9223372036854775806) (lb:b.length<=9223372036854775806) (wa:wfC a) (wb:wfC b) (hta':ta.length<=9223372036854775806) (htb':tb.length<=9223372036854775806):(rowE (boU a b ta tb (a++b).length) (bothE a b ta tb)).Sat (ACall' Tryz.prog 38 [encCs b1 a,encCs b2 b,encUs b3 ta,encUs b4 tb] []):=by
 refine ctr_vc (ht:=rbH b1 b2 b3 b4 a b ta tb) Tryz.mixed rfl ?_
 rw [vcRb_eq b1 b2 b3 b4 a b ta tb]
 unfold vcRb
 have ca:=@cons_len a
 have cb:=@cons_len b
 have e0:=boU_zero a b ta tb
 have hL:=rb_loop b1 b2 b3 b4 a b ta tb
 cases h1:isCons a
 · simp [bothE,h1,la,lb]
 · cases h2:isCons b
   · simp [bothE,h1,h2,la,lb]
   · rcases Nat.eq_zero_or_pos ta.length with h3 | h3
     · simp [bothE,h1,h2,h3,la,lb]
     · have h3':¬ ta=[]:=fun h=>by rw [h] at h3;exact absurd h3 (by simp)
       rcases Nat.eq_zero_or_pos tb.length with h4 | h4
       · simp [bothE,h1,h2,h4,la,lb]
       · have h4':¬ tb=[]:=fun h=>by rw [h] at h4;exact absurd h4 (by simp)
         have hL:=hL (ca h1) (cb h2) wa wb h3 h4 hta' htb' 0
         have ca:=ca h1
         have cb:=cb h2
         have n3:¬ (ta.length=0):=by omega
         have n4:¬ (tb.length=0):=by omega
         have hcat:contLe (a.length+b.length) 2 (appRow a.length (cellsOf' encC a) (cellsOf' encC b)) (cellsOf' encC (a++b)):=cat2_le (contLe_refl _ _ _) rfl
         have hln:a.length+b.length=(a++b).length:=by simp
         generalize hz:boU a b ta tb (a++b).length=z at *
         have hE:bothE a b ta tb=if decide (64<z.length) then 143 else 0:=by
          unfold bothE;rw [hz,h1,h2,decide_eq_false n3,decide_eq_false n4];rfl
         rw [hE]
         generalize a++b=m at *
         by_cases h5:64<z.length
         · have h5':(64:Int)<z.length:=by omega
           simp [h1,h2,h3',h4',la,lb,h5,h5',hL,e0]
           repeat' apply And.intro
           all_goals first | omega | exact hcat
         · have h5':¬ (64:Int)<z.length:=by omega
           simp [h1,h2,h3',h4',la,lb,h5,h5',hL,e0]
           repeat' apply And.intro
           all_goals first | omega | exact hcat
noncomputable def mpC (b1 b2:Bool) (l:List Con) (to:List Int):Ctr Tryz.prog:=⟨24,[encCs b1 l,encUs b2 to],[],.need (to.length<=9223372036854775806/\l.length*24<=140737488355200/\wfC l) (conR (mapU l to l.length)),T.Sat.need fun h=>mp_c b1 b2 l to h.1 h.2.1 h.2.2⟩
end Go.Proofs.YtckklclehofddaaGreatDoor
