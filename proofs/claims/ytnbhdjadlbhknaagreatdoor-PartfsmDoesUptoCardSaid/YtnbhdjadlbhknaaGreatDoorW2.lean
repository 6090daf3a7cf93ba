import Derived.Test.YtnbhdjadlbhknaaGreatDoorProg
import Derived.KernelRfl
import Derived.Test.YtnbhdjadlbhknaaGreatDoorE12
import Derived.Test.YtnbhdjadlbhknaaGreatDoorW1
set_option linter.unusedVariables false
set_option linter.unusedSimpArgs false
set_option maxRecDepth 1000000
namespace Go.Proofs.YtnbhdjadlbhknaaGreatDoor
open Go.Ax
section
theorem BF:∀ (a b c:List UInt8),Op.bytesLess a b=true->Op.bytesLess b c=true->Op.bytesLess a c=true
 | [],[],c,h,_=>by simp [Op.bytesLess] at h
 | [],_::_,[],_,h=>by simp [Op.bytesLess] at h
 | [],_::_,_::_,_,_=>rfl
 | _::_,[],_,h,_=>by simp [Op.bytesLess] at h
 | _::_,_::_,[],_,h=>by simp [Op.bytesLess] at h
 | a::l,b::m,c::n,h1,h2=>by
   simp only [Op.bytesLess,Bool.or_eq_true,Bool.and_eq_true,decide_eq_true_eq,beq_iff_eq] at h1 h2 ⊢
   rcases h1 with h1 | ⟨rfl,h1⟩
   · rcases h2 with h2 | ⟨rfl,h2⟩
     · exact Or.inl (UInt8.lt_trans h1 h2)
     · exact Or.inl h1
   · rcases h2 with h2 | ⟨rfl,h2⟩
     · exact Or.inl h2
     · exact Or.inr ⟨rfl,BF l m n h1 h2⟩
theorem xL {a b c:ByteArray} (h1:lt a b=true) (h2:lt b c=true):lt a c=true:=BF _ _ _ h1 h2
def nQ (l:List Con):Prop:=∀ i j,i<j->j<l.length->lt (l.getD i default).name (l.getD j default).name=true
def gL (l:List Con) (s:ByteArray):Nat:=(l.takeWhile (fun y=>lt y.name s)).length
theorem WB {l:List Con} {s:ByteArray} {i:Nat} (h:i<=l.length) (lo:∀ k,k<i->lt (l.getD k default).name s=true) (hi:∀ k,i<=k->k<l.length->lt (l.getD k default).name s=false):gL l s=i:=by
 unfold gL
 have e:l=l.take i++l.drop i:=(List.take_append_drop i l).symm
 have h1:∀ a∈l.take i,lt a.name s=true:=by
  intro a ha
  obtain ⟨k,hk,rfl⟩:=List.mem_iff_getElem.1 ha
  simp only [List.length_take] at hk
  have:=lo k (by omega)
  have hkl:k<l.length:=by omega
  simp [hkl] at this
  simpa using this
 have h2:(l.drop i).takeWhile (fun y=>lt y.name s)=[]:=by
  cases hd:l.drop i with
  | nil=>rfl
  | cons y r =>
    have hil:i<l.length:=by
     have:=congrArg List.length hd
     simp at this;omega
    have:=hi i (Nat.le_refl _) hil
    rw [List.drop_eq_getElem_cons hil] at hd
    cases hd
    simp [hil] at this
    rw [List.takeWhile_cons_of_neg]
    simpa using this
 rw [e,List.takeWhile_append_of_pos h1,h2,List.append_nil,List.length_take]
 omega
theorem M4 (l:List Con) (s:ByteArray):gL l s<=l.length:=(List.takeWhile_sublist _).length_le
theorem UE {l:List Con} {s:ByteArray} (hr:nQ l) {m k:Nat} (hm:m<l.length) (hk:k<=m) (h:lt (l.getD m default).name s=true):lt (l.getD k default).name s=true:=by
 rcases Nat.lt_or_ge k m with h1 | h1
 · exact xL (hr k m h1 hm) h
 · obtain rfl:k=m:=by omega
   exact h
theorem ac9 {l:List Con} {s:ByteArray} (hr:nQ l) {m k:Nat} (hk:m<=k) (hl:k<l.length) (h:lt (l.getD m default).name s=false):lt (l.getD k default).name s=false:=by
 cases hc:lt (l.getD k default).name s
 · rfl
 · rw [UE hr hl hk hc] at h;exact h
structure BS (l:List Con) (x:Con) where
 i:Nat
 j:Nat
 ij:i<=j
 jl:j<=l.length
 lo:∀ k,k<i->lt (l.getD k default).name x.name=true
 hi:∀ k,j<=k->k<l.length->lt (l.getD k default).name x.name=false
def BS.up {l:List Con} {x:Con} (hr:nQ l) (q:BS l x) (m:Nat) (h2:m<q.j) (hx:lt (l.getD m default).name x.name=true):BS l x where
 i:=m+1
 j:=q.j
 ij:=by omega
 jl:=q.jl
 lo:=fun k hk=>UE hr (m:=m) (by have:=q.jl;omega) (by omega) hx
 hi:=q.hi
def BS.down {l:List Con} {x:Con} (hr:nQ l) (q:BS l x) (m:Nat) (h1:q.i<=m) (h2:m<q.j) (hx:lt (l.getD m default).name x.name=false):BS l x where
 i:=q.i
 j:=m
 ij:=h1
 jl:=by have:=q.jl;omega
 lo:=q.lo
 hi:=fun k hk hl=>ac9 hr hk hl hx
def BS.start (l:List Con) (x:Con):BS l x:=⟨0,l.length,Nat.zero_le _,Nat.le_refl _,fun _ h=>absurd h (Nat.not_lt_zero _),fun k h1 h2=>absurd h2 (by omega)⟩
def PV:AV:=.fn (.func 160) [] []
def mV (a b:ByteArray):Int:=if lt a b then -1 else if lt b a then 1 else 0
def af2 (x:Con) (y:Con):Prop :=
 ((!x.name.data.toList==x.name.data.toList)=true->((!y.name.data.toList==y.name.data.toList)=true->0=mV x.name y.name/\True)/\((!y.name.data.toList==y.name.data.toList)=false->(-1:Int)=mV x.name y.name/\True))/\((!x.name.data.toList==x.name.data.toList)=false->((!y.name.data.toList==y.name.data.toList)=true->1=mV x.name y.name/\True)/\((!y.name.data.toList==y.name.data.toList)=false->(Op.bytesLess x.name.data.toList y.name.data.toList=true->(-1:Int)=mV x.name y.name/\True)/\(Op.bytesLess x.name.data.toList y.name.data.toList=false->((!(Op.bytesLess x.name.data.toList y.name.data.toList||x.name.data.toList==y.name.data.toList))=true->1=mV x.name y.name/\True)/\((!(Op.bytesLess x.name.data.toList y.name.data.toList||x.name.data.toList==y.name.data.toList))=false->0=mV x.name y.name/\True))))
theorem aad (x:Con) (y:Con):(bf Tryz.prog (hT _) 160 [.agg (aD x),.agg (aD y)] [] (yN (mV x.name y.name)))=af2 x y:=by kernel_rfl
theorem air (x y:Con):(yN (mV x.name y.name)).Sat (aB Tryz.prog 160 [.agg (aD x),.agg (aD y)] []):=by
 refine aP (ht:=hT _) Tryz.mixed rfl ?_
 rw [aad x y]
 unfold af2 mV lt
 have h1:=uf x.name.data.toList y.name.data.toList
 have h2:=l5 x.name.data.toList y.name.data.toList
 have h3:Op.bytesLess y.name.data.toList x.name.data.toList=true->¬ x.name.data=y.name.data:=fun h e=>by rw [e,jg] at h;simp at h
 generalize Op.bytesLess x.name.data.toList y.name.data.toList=p at *
 generalize Op.bytesLess y.name.data.toList x.name.data.toList=q at *
 cases p<;>cases q<;>simp at *<;>assumption
noncomputable def byC (x y:Con):dZ Tryz.prog:=⟨160,[.agg (aD x),.agg (aD y)],[],yN (mV x.name y.name),air x y⟩
def Yu (b:Bool) (l:List Con) (x:Con) (q:BS l x):List AV:=mkT 49 [(0,dB b l),(2,PV),(4,.ptr 0 0 0 0),(6,.s (.int .i64 0)),(7,.s (.bool false)),(8,.y (.int .i64 l.length)),(9,.y (.int .i64 q.i)),(10,.y (.int .i64 q.j))]
def VK (x:Con):List ay:=[.box 83 (aD x)]
def X8 (b:Bool) (l:List Con) (x:Con) (_:Unit):Exit×List AV×List ay:=(.exit 0,mkT 49 [(0,dB b l),(2,PV),(4,.ptr 0 0 0 0),(8,.y (.int .i64 l.length)),(9,.y (.int .i64 (gL l x.name)))],VK x)
noncomputable def agO (l:List Con) (x:Con) (q:BS l x):aC Tryz.prog:=hh _ bO (cs1 166 5 6 (byC (l.getD ((q.i+q.j) / 2) default) x) bN) bM
def IX (b:Bool) (l:List Con) (x:Con) (q:BS l x):Prop :=
 (decide ((q.i:Int)<(q.j:Int))=true->(decide (0<=IntKind.i64.wrap (IntKind.u64.wrap (IntKind.i64.wrap ((q.i:Int)+(q.j:Int))) / 2))&&decide (IntKind.i64.wrap (IntKind.u64.wrap (IntKind.i64.wrap ((q.i:Int)+(q.j:Int))) / 2)<(l.length:Int)))=true/\(((l.getD (Int.toNat (IntKind.i64.wrap (IntKind.u64.wrap (IntKind.i64.wrap ((q.i:Int)+(q.j:Int))) / 2))) default).name=(l.getD ((q.i+q.j) / 2) default).name/\(l.getD (Int.toNat (IntKind.i64.wrap (IntKind.u64.wrap (IntKind.i64.wrap ((q.i:Int)+(q.j:Int))) / 2))) default).off=(l.getD ((q.i+q.j) / 2) default).off/\True)/\(x.name=x.name/\x.off=x.off/\True)/\True)/\True/\(decide (mV (l.getD ((q.i+q.j) / 2) default).name x.name<0)=true->∃ (j:BS l x),j.j - j.i<q.j - q.i/\(((b=b/\l.length=l.length/\aj l.length 2 (ah aD l) (ah aD l))/\(True/\True)/\(0=0/\0=0)/\(0:Int)=0/\false=false/\(l.length:Int)=(l.length:Int)/\IntKind.i64.wrap (IntKind.i64.wrap (IntKind.u64.wrap (IntKind.i64.wrap ((q.i:Int)+(q.j:Int))) / 2)+1)=(j.i:Int)/\(q.j:Int)=(j.j:Int)/\True)/\((x.name=x.name/\x.off=x.off/\True)/\True)/\true=true)/\true=true/\()=())/\(decide (mV (l.getD ((q.i+q.j) / 2) default).name x.name<0)=false->∃ (j:BS l x),j.j - j.i<q.j - q.i/\(((b=b/\l.length=l.length/\aj l.length 2 (ah aD l) (ah aD l))/\(True/\True)/\(0=0/\0=0)/\(0:Int)=0/\false=false/\(l.length:Int)=(l.length:Int)/\(q.i:Int)=(j.i:Int)/\IntKind.i64.wrap (IntKind.u64.wrap (IntKind.i64.wrap ((q.i:Int)+(q.j:Int))) / 2)=(j.j:Int)/\True)/\((x.name=x.name/\x.off=x.off/\True)/\True)/\true=true)/\true=true/\()=()))/\(decide ((q.i:Int)<(q.j:Int))=false->((b=b/\l.length=l.length/\aj l.length 2 (ah aD l) (ah aD l))/\(True/\True)/\(0=0/\0=0)/\(l.length:Int)=(l.length:Int)/\(q.i:Int)=((gL l x.name):Int)/\True)/\((x.name=x.name/\x.off=x.off/\True)/\True)/\true=true)
theorem A_ (b:Bool) (l:List Con) (x:Con) (q:BS l x):(bP Tryz.prog (agO l x q) 166 3 (fun q:BS l x=>q.j - q.i) (Yu b l x) (fun _=>VK x) [1,2,3,4] (fun _=>.ret ()) (X8 b l x) q)=IX b l x q:=by kernel_rfl
noncomputable def bsH (b:Bool) (l:List Con) (x:Con):aC Tryz.prog:=hh _ (mU 166 3 (dM (Yu b l x) (fun _=>VK x) [1,2,3,4] (fun _=>.ret ()) (X8 b l x) (BS.start l x)) bO) (cs1 166 8 11 (byC (l.getD (gL l x.name) default) x) bN) bM
def wO (l:List Con) (x:Con):Bool:=decide (gL l x.name<l.length)&&(mV (l.getD (gL l x.name) default).name x.name==0)
def bsR (l:List Con) (x:Con):T An:=.ret (.tup [.y (.int .i64 (gL l x.name)),.y (.bool (wO l x))],[],[])
def Ul (b:Bool) (l:List Con) (x:Con):Prop :=
 (((b=b/\l.length=l.length/\aj l.length 2 (ah aD l) (ah aD l))/\(True/\True)/\(0=0/\0=0)/\(0:Int)=0/\false=false/\(l.length:Int)=(l.length:Int)/\(0:Int)=0/\(l.length:Int)=(l.length:Int)/\True)/\((x.name=x.name/\x.off=x.off/\True)/\True)/\true=true)/\aL Tryz.prog 166 3 (aN Tryz.prog 166 3) { t:=Yu b l x (BS.start l x),m:=VK x,mv:=[]:St } (T.map (bJ [1,2,3,4] (X8 b l x)) ((fun (x:BS l x)=>T.ret ()) (BS.start l x)))/\(decide (((gL l x.name):Int)<(l.length:Int))=true->(true&&decide (((gL l x.name):Int)<(l.length:Int)))=true/\(((l.getD (Int.toNat ((gL l x.name):Int)) default).name=(l.getD (gL l x.name) default).name/\(l.getD (Int.toNat ((gL l x.name):Int)) default).off=(l.getD (gL l x.name) default).off/\True)/\(x.name=x.name/\x.off=x.off/\True)/\True)/\True/\(((gL l x.name):Int)=((gL l x.name):Int)/\(mV (l.getD (gL l x.name) default).name x.name==0)=wO l x/\True)/\True)/\(decide (((gL l x.name):Int)<(l.length:Int))=false->(((gL l x.name):Int)=((gL l x.name):Int)/\false=wO l x/\True)/\True)
theorem F5 (b:Bool) (l:List Con) (x:Con):(bf Tryz.prog (bsH b l x) 166 [dB b l,.agg (aD x),PV] [] (bsR l x))=Ul b l x:=by kernel_rfl
def ccR (l:List Con):T An:=.ret (.own 0 2 0 l.length,[FY l],[])
noncomputable def ccH:aC Tryz.prog:=hh _ bO bN (op1 102 2 0 (.row 83 2) bM)
def abz (l:List Con):Prop :=
 (0=0/\0=l.length)/\(0=l.length/\aj 0 2 (fun (x x_1:Nat)=>AV.junk) (ah aD l))/\True
theorem SE (l:List Con):(bf Tryz.prog ccH 102 [.s (.slice none 0 0)] [] (ccR l))=abz l:=by kernel_rfl
def abB (b:Bool) (l:List Con):Prop :=
 (decide (0+l.length<=9223372036854775807)&&decide ((0+l.length)*24<=140737488355328))=true/\(0=0/\0+l.length=l.length)/\(0+l.length=l.length/\aj (0+l.length) 2 (aY 0 (fun (k j:Nat)=>AV.junk) (ah aD l)) (ah aD l))/\True
theorem V5 (b:Bool) (l:List Con):(bf Tryz.prog ccH 102 [.yn b 2 l.length (ah aD l)] [] (ccR l))=abB b l:=by kernel_rfl
theorem agk (b:Bool) (l:List Con) (hl:l.length*24<=140737488355328):(ccR l).Sat (aB Tryz.prog 102 [dB b l] []):=by
 refine wR (pre:=[]) (post:=[]) (fun h0=>?_) ?_ ⟨_,rfl⟩
 · refine aP (ht:=ccH) Tryz.mixed rfl ?_
   rw [List.nil_append,SE l]
   unfold abz
   simp [h0]
 · refine aP (ht:=ccH) Tryz.mixed rfl ?_
   rw [List.nil_append,V5 b l]
   unfold abB
   simp
   omega
noncomputable def ccC (b:Bool) (l:List Con) (hl:l.length*24<=140737488355328):dZ Tryz.prog:=⟨102,[dB b l],[],ccR l,agk b l hl⟩
theorem ab6 {a b:ByteArray} (h:lt a b=false):(decide (mV a b<0))=false:=by
 unfold mV;rw [h];simp;split<;>omega
theorem acU {a b:ByteArray} (h:lt a b=true):(decide (mV a b<0))=true:=by
 unfold mV;rw [h];rfl
theorem F6 (b:Bool) (l:List Con) (x:Con) (hl:l.length<=4611686018427387900) (hr:nQ l) (q:BS l x):aL Tryz.prog 166 3 (aN Tryz.prog 166 3) ⟨Yu b l x q,VK x,[]⟩ (T.map (bJ [1,2,3,4] (X8 b l x)) (.ret ())):=by
 refine dK (ht:=agO l x) (o:=fun _=>.ret ()) Tryz.mixed (fun _=>rfl) (fun q=>(A_ b l x q).mpr ?_) q
 unfold IX
 have h1:=q.ij
 have h2:=q.jl
 obtain ⟨m,hm⟩:∃ m,m=(q.i+q.j) / 2:=⟨_,rfl⟩
 have hw:IntKind.i64.wrap (IntKind.u64.wrap (IntKind.i64.wrap (↑q.i+↑q.j)) / 2)=(m:Int):=by
  rw [wrap_i64 (n:=↑q.i+↑q.j) (by omega) (by omega),wrap_u64 (by omega) (by omega),wrap_i64 (by omega) (by omega)];omega
 rw [<- hm]
 simp [hw]
 refine ⟨fun h=>⟨by omega,fun hx=>?_,fun hx=>?_⟩,fun h=>?_⟩
 · have hc:lt (l.getD m default).name x.name=true:=by
    cases hc:lt (l.getD m default).name x.name
    · have:=of_decide_eq_false (ab6 hc);simp at this;omega
    · rfl
   refine ⟨q.up hr m (by omega) hc,?_,?_,rfl⟩
   · show q.j - (m+1)<q.j - q.i;omega
   · show IntKind.i64.wrap (m+1)=((m+1:Nat):Int)
     rw [wrap_i64 (by omega) (by omega)];omega
 · have hc:lt (l.getD m default).name x.name=false:=by
    cases hc:lt (l.getD m default).name x.name
    · rfl
    · have:=of_decide_eq_true (acU hc);simp at this;omega
   refine ⟨q.down hr m (by omega) (by omega) hc,?_,rfl,rfl⟩
   show m - q.i<q.j - q.i;omega
 · have:=WB (i:=q.i) (by omega) q.lo fun k hk hl=>q.hi k (by omega) hl
   omega
theorem aer (b:Bool) (l:List Con) (x:Con) (hl:l.length<=4611686018427387900) (hr:nQ l):(bsR l x).Sat (aB Tryz.prog 166 [dB b l,.agg (aD x),PV] []):=by
 refine aP (ht:=bsH b l x) Tryz.mixed rfl ?_
 rw [F5 b l x]
 unfold Ul
 have:=F6 b l x hl hr (BS.start l x)
 simp [wO,this]
 grind
noncomputable def bsC (b:Bool) (l:List Con) (x:Con) (hl:l.length<=4611686018427387900) (hr:nQ l):dZ Tryz.prog:=⟨166,[dB b l,.agg (aD x),PV],[],bsR l x,aer b l x hl hr⟩
def aF (l:List Con) (x:Con):List Con:=if wO l x then l.set (gL l x.name) x else l.take (gL l x.name)++x::l.drop (gL l x.name)
def rho:Go.Shelf.Ren:=⟨fun f=>match f with | 22=>167 | 29=>178 | 30=>179 | x=>x,fun t=>match t with | 24=>28 | 9=>83 | x=>x,fun x=>x⟩
theorem lay:nD Tryz.prog rho 2 24 ((Tryz.prog.info? 83).bind (·.zero) |>.getD undef) "slices.Insert[[]gazette/api.Consumer,gazette/api.Consumer]" where
 mixed:=by kernel_rfl
 f22:=by kernel_rfl
 ov:=fun w args=>by
  rw [show rho.f 29=178 from rfl,run_callFunc_extern (P:=Tryz.prog) (f:=178) (fn:=Tryz.f178) Tryz.func178 (by kernel_rfl) (by kernel_rfl) (by kernel_rfl) (e:=Extern.SlicesOverlaps.overlaps #[28,28] #[4]) (by kernel_rfl)]
  rfl
 t0:=by kernel_rfl
 a0:=fun w=>by kernel_rfl
 z0:=fun w=>by kernel_rfl
 v0:=fun w=>by kernel_rfl
 t3:=by kernel_rfl
 a3:=fun w=>by kernel_rfl
 z3:=fun w=>by kernel_rfl
 v3:=fun w=>by kernel_rfl
 t4:=by kernel_rfl
 a4:=fun w=>by kernel_rfl
 z4:=fun w=>by kernel_rfl
 v4:=fun w=>by kernel_rfl
 t24:=by kernel_rfl
 a24:=fun w=>by kernel_rfl
 z24:=fun w=>by kernel_rfl
 v24:=fun w=>by kernel_rfl
 z9:=fun w=>by kernel_rfl
 i9s:=by kernel_rfl
 i9:=by kernel_rfl
 pos:=by decide
 zc:=by kernel_rfl
noncomputable def Rw (b:Bool) (l:List Con) (x:Con) (hl:l.length*24<=140737488355200) (hr:nQ l):aC Tryz.prog :=
 Nu (nC (hh _ bO (cs1 159 1 3 (bsC b l x (by omega) hr) (cs1 159 2 1 (ccC b l (by omega)) bN)) bM) [167]) lay
def OT (l:List Con):T An:=.ret (.own 0 2 0 l.length,[FY l],[])
def HY (b:Bool) (l:List Con) (x:Con) (hl:l.length*24<=140737488355200) (hr:nQ l):Prop :=
 ((b=b/\l.length=l.length/\aj l.length 2 (ah aD l) (ah aD l))/\(x.name=x.name/\x.off=x.off/\True)/\(True/\True)/\True)/\True/\((b=b/\l.length=l.length/\aj l.length 2 (ah aD l) (ah aD l))/\True)/\True/\(wO l x=true->(true&&decide (((gL l x.name):Int)<(l.length:Int)))=true/\decide (0+Int.toNat ((gL l x.name):Int)<l.length)=true/\(0=0/\l.length=(aF l x).length)/\(l.length=(aF l x).length/\aj l.length 2 (pO (ah aD l) (0+Int.toNat ((gL l x.name):Int)) 0 [AV.y (.string x.name),AV.y (.int .u64 x.off)]) (ah aD (aF l x)))/\True)/\(wO l x=false->(l.length=l.length/\0<=((gL l x.name):Int)/\((gL l x.name):Int)<=(l.length:Int)/\l.length+1<=9223372036854775807/\(l.length+1)*24<=140737488355328)/\(0=0/\l.length+1=(aF l x).length)/\(l.length+1=(aF l x).length/\aj (l.length+1) 2 (qb (Int.toNat ((gL l x.name):Int)) 1 (ah aD l) fun (k j:Nat)=>Ax.get [AV.y (.string x.name),AV.y (.int .u64 x.off)] (k*2+j)) (ah aD (aF l x)))/\True)
theorem zM (b:Bool) (l:List Con) (x:Con) (hl:l.length*24<=140737488355200) (hr:nQ l):(bf Tryz.prog (Rw b l x hl hr) 159 [dB b l,.agg (aD x),PV] [] (OT (aF l x)))=HY b l x hl hr:=by kernel_rfl
def pV (x:Con) (s:Bool×List Con) (y:Con):Bool×List Con :=
 let s1:=if (!lt y.name x.name&&!s.1)=true then (true,s.2++[x]) else s
 if y.name.data=x.name.data then s1 else (s1.1,s1.2++[y])
def bq (l:List Con) (x:Con) (k:Nat):Bool×List Con:=(l.take k).foldl (pV x) (false,[])
def kV (l:List Con) (x:Con):List Con:=if (bq l x l.length).1 then (bq l x l.length).2 else (bq l x l.length).2++[x]
def Zh (b:Bool) (l:List Con) (x:Con) (k:Nat):List AV:=mkT 52 [(0,dB b l),(3,.ptr 0 0 0 0),(5,.own 1 2 0 (bq l x k).2.length),(6,.y (.bool (bq l x k).1)),(7,.y (.int .i64 k))]
def Qw (l:List Con) (x:Con) (k:Nat):List ay:=[.box 83 (aD x),.row 83 2 (bq l x k).2.length none (ah aD (bq l x k).2)]
def nH (l:List Con) (x:Con) (_:Unit):Exit×List AV×List ay:=(.exit 0,mkT 52 [(3,.ptr 0 0 0 0),(5,.own 1 2 0 (bq l x l.length).2.length),(6,.y (.bool (bq l x l.length).1))],Qw l x l.length)
def fP (b:Bool) (l:List Con):Prop:=(b=b/\l.length=l.length/\aj l.length 2 (ah aD l) (ah aD l))
def Jt (b:Bool) (l:List Con) (x:Con) (k:Nat):Prop :=
 (decide ((k:Int)<(l.length:Int))=true->(true&&decide ((k:Int)<(l.length:Int)))=true/\((!Op.bytesLess (l.getD (Int.toNat (k:Int)) default).name.data.toList x.name.data.toList)=true->((!(bq l x k).fst)=true->(decide ((bq l x k).snd.length=(bq l x k).snd.length)&&decide ((bq l x k).snd.length+1<=9223372036854775807)&&decide (((bq l x k).snd.length+1)*24<=140737488355328))=true/\(true&&decide ((k:Int)<(l.length:Int)))=true/\((!(l.getD (Int.toNat (k:Int)) default).name.data.toList==x.name.data.toList)=true->(true&&decide ((k:Int)<(l.length:Int)))=true/\(decide ((bq l x k).snd.length+1=(bq l x k).snd.length+1)&&decide ((bq l x k).snd.length+1+1<=9223372036854775807)&&decide (((bq l x k).snd.length+1+1)*24<=140737488355328))=true/\∃ j:Nat,l.length - j<l.length - k/\(((fP b l)/\(0=0/\0=0)/\(0=0/\(bq l x k).snd.length+1+1=(bq l x j).snd.length)/\true=(bq l x j).fst/\IntKind.i64.wrap ((k:Int)+1)=(j:Int)/\True)/\((x.name=x.name/\x.off=x.off/\True)/\((bq l x k).snd.length+1+1=(bq l x j).snd.length/\aj ((bq l x k).snd.length+1+1) 2 (aY ((bq l x k).snd.length+1) (aY (bq l x k).snd.length (ah aD (bq l x k).snd) fun (k j:Nat)=>Ax.get [AV.y (.string x.name),AV.y (.int .u64 x.off)] (k*2+j)) fun (k_1 j:Nat)=>Ax.get [AV.y (.string (l.getD (Int.toNat (k:Int)) default).name),AV.y (.int .u64 (l.getD (Int.toNat (k:Int)) default).off)] (k_1*2+j)) (ah aD (bq l x j).snd))/\True)/\true=true)/\true=true/\()=())/\((!(l.getD (Int.toNat (k:Int)) default).name.data.toList==x.name.data.toList)=false->∃ j:Nat,l.length - j<l.length - k/\(((fP b l)/\(0=0/\0=0)/\(0=0/\(bq l x k).snd.length+1=(bq l x j).snd.length)/\true=(bq l x j).fst/\IntKind.i64.wrap ((k:Int)+1)=(j:Int)/\True)/\((x.name=x.name/\x.off=x.off/\True)/\((bq l x k).snd.length+1=(bq l x j).snd.length/\aj ((bq l x k).snd.length+1) 2 (aY (bq l x k).snd.length (ah aD (bq l x k).snd) fun (k j:Nat)=>Ax.get [AV.y (.string x.name),AV.y (.int .u64 x.off)] (k*2+j)) (ah aD (bq l x j).snd))/\True)/\true=true)/\true=true/\()=()))/\((!(bq l x k).fst)=false->(true&&decide ((k:Int)<(l.length:Int)))=true/\((!(l.getD (Int.toNat (k:Int)) default).name.data.toList==x.name.data.toList)=true->(true&&decide ((k:Int)<(l.length:Int)))=true/\(decide ((bq l x k).snd.length=(bq l x k).snd.length)&&decide ((bq l x k).snd.length+1<=9223372036854775807)&&decide (((bq l x k).snd.length+1)*24<=140737488355328))=true/\∃ j:Nat,l.length - j<l.length - k/\(((fP b l)/\(0=0/\0=0)/\(0=0/\(bq l x k).snd.length+1=(bq l x j).snd.length)/\(bq l x k).fst=(bq l x j).fst/\IntKind.i64.wrap ((k:Int)+1)=(j:Int)/\True)/\((x.name=x.name/\x.off=x.off/\True)/\((bq l x k).snd.length+1=(bq l x j).snd.length/\aj ((bq l x k).snd.length+1) 2 (aY (bq l x k).snd.length (ah aD (bq l x k).snd) fun (k_1 j:Nat)=>Ax.get [AV.y (.string (l.getD (Int.toNat (k:Int)) default).name),AV.y (.int .u64 (l.getD (Int.toNat (k:Int)) default).off)] (k_1*2+j)) (ah aD (bq l x j).snd))/\True)/\true=true)/\true=true/\()=())/\((!(l.getD (Int.toNat (k:Int)) default).name.data.toList==x.name.data.toList)=false->∃ j:Nat,l.length - j<l.length - k/\(((fP b l)/\(0=0/\0=0)/\(0=0/\(bq l x k).snd.length=(bq l x j).snd.length)/\(bq l x k).fst=(bq l x j).fst/\IntKind.i64.wrap ((k:Int)+1)=(j:Int)/\True)/\((x.name=x.name/\x.off=x.off/\True)/\((bq l x k).snd.length=(bq l x j).snd.length/\aj (bq l x k).snd.length 2 (ah aD (bq l x k).snd) (ah aD (bq l x j).snd))/\True)/\true=true)/\true=true/\()=())))/\((!Op.bytesLess (l.getD (Int.toNat (k:Int)) default).name.data.toList x.name.data.toList)=false->(true&&decide ((k:Int)<(l.length:Int)))=true/\((!(l.getD (Int.toNat (k:Int)) default).name.data.toList==x.name.data.toList)=true->(true&&decide ((k:Int)<(l.length:Int)))=true/\(decide ((bq l x k).snd.length=(bq l x k).snd.length)&&decide ((bq l x k).snd.length+1<=9223372036854775807)&&decide (((bq l x k).snd.length+1)*24<=140737488355328))=true/\∃ j:Nat,l.length - j<l.length - k/\(((fP b l)/\(0=0/\0=0)/\(0=0/\(bq l x k).snd.length+1=(bq l x j).snd.length)/\(bq l x k).fst=(bq l x j).fst/\IntKind.i64.wrap ((k:Int)+1)=(j:Int)/\True)/\((x.name=x.name/\x.off=x.off/\True)/\((bq l x k).snd.length+1=(bq l x j).snd.length/\aj ((bq l x k).snd.length+1) 2 (aY (bq l x k).snd.length (ah aD (bq l x k).snd) fun (k_1 j:Nat)=>Ax.get [AV.y (.string (l.getD (Int.toNat (k:Int)) default).name),AV.y (.int .u64 (l.getD (Int.toNat (k:Int)) default).off)] (k_1*2+j)) (ah aD (bq l x j).snd))/\True)/\true=true)/\true=true/\()=())/\((!(l.getD (Int.toNat (k:Int)) default).name.data.toList==x.name.data.toList)=false->∃ j:Nat,l.length - j<l.length - k/\(((fP b l)/\(0=0/\0=0)/\(0=0/\(bq l x k).snd.length=(bq l x j).snd.length)/\(bq l x k).fst=(bq l x j).fst/\IntKind.i64.wrap ((k:Int)+1)=(j:Int)/\True)/\((x.name=x.name/\x.off=x.off/\True)/\((bq l x k).snd.length=(bq l x j).snd.length/\aj (bq l x k).snd.length 2 (ah aD (bq l x k).snd) (ah aD (bq l x j).snd))/\True)/\true=true)/\true=true/\()=())))/\(decide ((k:Int)<(l.length:Int))=false->((0=0/\0=0)/\(0=0/\(bq l x k).snd.length=(bq l x l.length).snd.length)/\(bq l x k).fst=(bq l x l.length).fst/\True)/\((x.name=x.name/\x.off=x.off/\True)/\((bq l x k).snd.length=(bq l x l.length).snd.length/\aj (bq l x k).snd.length 2 (ah aD (bq l x k).snd) (ah aD (bq l x l.length).snd))/\True)/\true=true)
theorem BP (b:Bool) (l:List Con) (x:Con) (k:Nat):(bP Tryz.prog (hT _) 146 4 (fun k=>l.length - k) (Zh b l x) (Qw l x) [1,2,3,4,5] (fun _=>.ret ()) (nH l x) k)=Jt b l x k:=by kernel_rfl
noncomputable def rpH (b:Bool) (l:List Con) (x:Con):aC Tryz.prog :=
 hh _ (mU 146 4 (dM (Zh b l x) (Qw l x) [1,2,3,4,5] (fun _=>.ret ()) (nH l x) 0) bO) bN (op1 146 1 0 (.row 83 2) bM)
def Vu (b:Bool) (l:List Con) (x:Con):Prop :=
 (((b=b/\l.length=l.length/\aj l.length 2 (ah aD l) (ah aD l))/\(0=0/\0=0)/\(0=0/\0=0)/\false=false/\(0:Int)=0/\True)/\((x.name=x.name/\x.off=x.off/\True)/\(0=0/\aj 0 2 (fun (x x_1:Nat)=>AV.junk) (ah aD []))/\True)/\true=true)/\aL Tryz.prog 146 4 (aN Tryz.prog 146 4) { t:=Zh b l x 0,m:=Qw l x 0,mv:=[]:St } (T.map (bJ [1,2,3,4,5] (nH l x)) ((fun (x:Nat)=>T.ret ()) 0))/\((!(bq l x l.length).fst)=true->(decide ((bq l x l.length).snd.length=(bq l x l.length).snd.length)&&decide ((bq l x l.length).snd.length+1<=9223372036854775807)&&decide (((bq l x l.length).snd.length+1)*24<=140737488355328))=true/\(0=0/\(bq l x l.length).snd.length+1=(kV l x).length)/\((bq l x l.length).snd.length+1=(kV l x).length/\aj ((bq l x l.length).snd.length+1) 2 (aY (bq l x l.length).snd.length (ah aD (bq l x l.length).snd) fun (k j:Nat)=>Ax.get [AV.y (.string x.name),AV.y (.int .u64 x.off)] (k*2+j)) (ah aD (kV l x)))/\True)/\((!(bq l x l.length).fst)=false->(0=0/\(bq l x l.length).snd.length=(kV l x).length)/\((bq l x l.length).snd.length=(kV l x).length/\aj (bq l x l.length).snd.length 2 (ah aD (bq l x l.length).snd) (ah aD (kV l x)))/\True)
theorem FB (b:Bool) (l:List Con) (x:Con):(bf Tryz.prog (rpH b l x) 146 [dB b l,.agg (aD x)] [] (OT (kV l x)))=Vu b l x:=by kernel_rfl
theorem wZ (x:Con):∀ j,j<2->qA (Ax.get [.y (.string x.name),.y (.int .u64 x.off)] j) (Ax.get (aD x) j):=fun j hj=>by
 match j,hj with
 | 0,_=>simp [aD]
 | 1,_=>simp [aD]
theorem RL (b:Bool) (l:List Con) (x:Con) (hl:l.length*24<=140737488355200) (hr:nQ l):(OT (aF l x)).Sat (aB Tryz.prog 159 [dB b l,.agg (aD x),PV] []):=by
 refine aP (ht:=Rw b l x hl hr) Tryz.mixed rfl ?_
 rw [zM b l x hl hr]
 unfold HY
 have h2:=M4 l x.name
 cases hf:wO l x
 · have e:aF l x=l.take (gL l x.name)++x::l.drop (gL l x.name):=by unfold aF;rw [hf];rfl
   have hn:(aF l x).length=l.length+1:=by rw [e];simp;omega
   simp [hn]
   refine ⟨⟨h2,by omega,by omega⟩,?_⟩
   rw [e]
   exact TH rfl h2 fun j hj=>by rw [Nat.zero_mul,Nat.zero_add];exact wZ x j hj
 · have e:aF l x=l.set (gL l x.name) x:=by unfold aF;rw [hf];rfl
   have hn:(aF l x).length=l.length:=by rw [e];simp
   have h3:gL l x.name<l.length:=by
    unfold wO at hf
    rw [Bool.and_eq_true] at hf
    exact of_decide_eq_true hf.1
   simp [hn,h3]
   rw [e]
   exact M9 rfl h3 rfl (wZ x)
noncomputable def ai_ (b:Bool) (l:List Con) (x:Con):dZ Tryz.prog:=⟨159,[dB b l,.agg (aD x),PV],[],.need (l.length*24<=140737488355200/\nQ l) (OT (aF l x)),T.Sat.need fun h=>RL b l x h.1 h.2⟩
theorem p9 {l:List Con} {x:Con} {k:Nat} (h:k<l.length):bq l x (k+1)=pV x (bq l x k) (l[k]?.getD default):=by
 unfold bq
 have:l.take (k+1)=l.take k++[l[k]?.getD default]:=by
  rw [List.take_add_one,List.getElem?_eq_getElem h];rfl
 rw [this,List.foldl_append];rfl
theorem oQ {l:List Con} {x:Con} {k:Nat} (h:l.length<=k):bq l x k=bq l x l.length:=by
 unfold bq
 rw [List.take_of_length_le h,List.take_length]
theorem wh (l:List Con) (x:Con):∀ k,(bq l x k).2.length<=k+(if (bq l x k).1 then 1 else 0):=by
 intro k
 induction k with
 | zero=>simp [bq]
 | succ k ih =>
   rcases Nat.lt_or_ge k l.length with h | h
   · rw [p9 h]
     rcases hs:bq l x k with ⟨d,o⟩
     rw [hs] at ih
     generalize l[k]?.getD default=y
     cases h1:lt y.name x.name<;>cases d<;>by_cases h2:y.name.data=x.name.data<;>simp [pV,h1,h2] at ih ⊢<;>omega
   · rw [oQ (k:=k+1) (by omega),<- oQ h]
     omega
theorem Ej (b:Bool) (l:List Con) (x:Con) (hl:l.length*24<=140737488355200) (k:Nat) (hk:k<=l.length):aL Tryz.prog 146 4 (aN Tryz.prog 146 4) ⟨Zh b l x k,Qw l x k,[]⟩ (T.map (bJ [1,2,3,4,5] (nH l x)) (.ret ())):=by
 refine dY (o:=fun _=>.ret ()) Tryz.mixed (fun _=>rfl) (fun k=>(BP b l x k).mpr ?_) k
 unfold Jt fP
 have hlen:=wh l x k
 simp
 refine ⟨fun h=>?_,fun h=>?_⟩
 · have hst:=p9 (x:=x) h
   have hw:=wrap_i64 (n:=(k:Int)+1) (by omega) (by omega)
   rw [hw]
   rcases hs:bq l x k with ⟨d,o⟩
   rw [hs] at hlen hst
   generalize l[k]?.getD default=y at *
   have hne:Op.bytesLess y.name.data.toList x.name.data.toList=true->¬ y.name.data=x.name.data:=fun e e2=>by rw [e2,jg] at e;exact absurd e (by simp)
   cases h1:Op.bytesLess y.name.data.toList x.name.data.toList<;>cases d<;>by_cases h2:y.name.data=x.name.data<;>simp [pV,lt,h1,h2,jg] at hst<;>simp [h,h2]<;>simp at hlen
   all_goals repeat' first | apply And.intro | refine Exists.intro (k+1) ?_ | with_reducible intro _
   all_goals try rw [hst]
   all_goals first
    | omega
    | (simp;done)
    | exact absurd h2 (hne h1)
    | exact aG _ _ _
    | exact qm (aG _ _ _) rfl (wZ _)
    | (show aj _ _ _ (ah aD (o++[x,y]));rw [show o++[x,y]=o++[x]++[y] by simp];exact qm (qm (aG _ _ _) rfl (wZ _)) (by simp) (wZ _))
 · rw [oQ h];simp
theorem KV (b:Bool) (l:List Con) (x:Con) (hl:l.length*24<=140737488355200):(OT (kV l x)).Sat (aB Tryz.prog 146 [dB b l,.agg (aD x)] []):=by
 refine aP (ht:=rpH b l x) Tryz.mixed rfl ?_
 rw [FB b l x]
 unfold Vu
 have hL:=Ej b l x hl 0 (Nat.zero_le _)
 have hlen:=wh l x l.length
 rcases hs:bq l x l.length with ⟨d,o⟩
 rw [hs] at hlen
 cases d<;>simp [kV,hs,hL] at hlen ⊢
 all_goals exact ⟨⟨by omega,by omega⟩,qm (aG _ _ _) rfl (wZ x)⟩
theorem sM (y:Con) (t:List Con) (x:Con):aF (y::t) x=if lt y.name x.name then y::aF t x else if y.name.data=x.name.data then x::t else x::y::t:=by
 cases h:lt y.name x.name
 · have hb:gL (y::t) x.name=0:=by unfold gL;rw [List.takeWhile_cons_of_neg (by simp [h])];rfl
   by_cases h2:y.name.data=x.name.data
   · have hc:mV y.name x.name=0:=by
      unfold mV lt
      rw [h2,jg];rfl
     simp [aF,wO,hb,h2,hc]
   · have hc:¬ mV y.name x.name=0:=by
      unfold mV
      rw [h]
      cases h3:lt x.name y.name
      · exact absurd (Array.toList_inj.1 (l5 _ _ h h3)) h2
      · simp
     simp [aF,wO,hb,h2,hc]
 · have hb:gL (y::t) x.name=gL t x.name+1:=by unfold gL;rw [List.takeWhile_cons_of_pos (by simp [h])];rfl
   have hf:wO (y::t) x=wO t x:=by
    unfold wO
    rw [hb];simp
   unfold aF
   rw [hf,hb]
   cases wO t x<;>simp
def gy (l:List Con) (x:Con):List Con:=l.filter fun y=>decide (¬ y.name.data=x.name.data)
theorem kH (y:Con) (t:List Con) (x:Con):gy (y::t) x=if y.name.data=x.name.data then gy t x else y::gy t x:=by
 unfold gy
 by_cases h:y.name.data=x.name.data<;>simp [h]
theorem oC (x:Con):∀ (l o:List Con),l.foldl (pV x) (true,o)=(true,o++gy l x):=by
 intro l
 induction l with
 | nil=>intro o;simp [gy]
 | cons y t ih =>
   intro o
   by_cases h:y.name.data=x.name.data
   · simp [pV,h,ih,kH]
   · simp [pV,h,ih,kH]
theorem SI {x y:Con} {t:List Con} (h:lt y.name x.name=false) (ht:∀ z∈t,lt y.name z.name=true):gy t x=t:=by
 unfold gy
 rw [List.filter_eq_self]
 intro z hz
 have:=ht z hz
 simp only [decide_not,Bool.not_eq_true',decide_eq_false_iff_not]
 intro e
 have e2:lt y.name x.name=true:=by unfold lt at this ⊢;rw [<- e];exact this
 rw [h] at e2;exact absurd e2 (by simp)
theorem Bn (x:Con):∀ (l o:List Con),l.Pairwise (fun a b=>lt a.name b.name=true)->(if (l.foldl (pV x) (false,o)).1 then (l.foldl (pV x) (false,o)).2 else (l.foldl (pV x) (false,o)).2++[x])=o++aF l x:=by
 intro l
 induction l with
 | nil=>intro o _;simp [aF,wO,gL]
 | cons y t ih =>
   intro o hp
   rw [List.pairwise_cons] at hp
   rw [sM]
   cases h:lt y.name x.name
   · have h3:=SI h hp.1
     by_cases h2:y.name.data=x.name.data
     · simp [pV,h,h2,oC,h3]
     · simp [pV,h,h2,oC,h3]
   · have h2:¬ y.name.data=x.name.data:=fun e=>by unfold lt at h;rw [e,jg] at h;exact absurd h (by simp)
     have:=ih (o++[y]) hp.2
     simp only [List.foldl_cons,pV,h,h2,Bool.not_true,Bool.false_and,Bool.false_eq_true,if_false,if_true]
     rw [this];simp
theorem za (r:List Con):nQ r↔r.Pairwise (fun a b=>lt a.name b.name=true):=by
 rw [List.pairwise_iff_getElem]
 constructor
 · intro h i j hi hj hij
   have:=h i j hij hj
   simpa [hi,hj] using this
 · intro h i j hij hj
   have:=h i j (by omega) hj hij
   simpa [show i<r.length by omega,hj] using this
theorem xM {l:List Con} {x:Con} (h:nQ l):kV l x=aF l x:=by
 have:=Bn x l [] ((za l).1 h)
 simpa [kV,bq] using this
theorem put_mem {x:Con} {P:Con->Prop} (hx:P x):∀ (l:List Con),(∀ z∈l,P z)->∀ z∈aF l x,P z
 | [],_,z,hz=>by
   simp [aF,wO,gL] at hz
   rw [hz];exact hx
 | y::t,h,z,hz=>by
   rw [sM] at hz
   have h1:=h y List.mem_cons_self
   have h2:=fun z hz=>h z (List.mem_cons_of_mem y hz)
   have ih:=put_mem hx t h2 z
   split at hz
   · rcases List.mem_cons.1 hz with rfl | hz
     · exact h1
     · exact ih hz
   · split at hz
     · rcases List.mem_cons.1 hz with rfl | hz
       · exact hx
       · exact h2 z hz
     · rcases List.mem_cons.1 hz with rfl | hz
       · exact hx
       · rcases List.mem_cons.1 hz with rfl | hz
         · exact h1
         · exact h2 z hz
theorem Qz (x:Con):∀ (l:List Con),l.Pairwise (fun a b=>lt a.name b.name=true)->(aF l x).Pairwise (fun a b=>lt a.name b.name=true)
 | [],_=>by simp [aF,wO,gL]
 | y::t,h=>by
   rw [List.pairwise_cons] at h
   rw [sM]
   cases h1:lt y.name x.name
   · by_cases h2:y.name.data=x.name.data
     · simp only [Bool.false_eq_true,if_false,h2,if_true]
       refine List.pairwise_cons.2 ⟨fun z hz=>?_,h.2⟩
       have:=h.1 z hz
       unfold lt at this ⊢
       rw [<- h2];exact this
     · simp only [Bool.false_eq_true,if_false,h2]
       have h3:lt x.name y.name=true:=by
        cases h3:lt x.name y.name
        · exact absurd (Array.toList_inj.1 (l5 _ _ h1 h3)) h2
        · rfl
       refine List.pairwise_cons.2 ⟨fun z hz=>?_,List.pairwise_cons.2 ⟨h.1,h.2⟩⟩
       rcases List.mem_cons.1 hz with rfl | hz
       · exact h3
       · exact xL h3 (h.1 z hz)
   · simp only [if_true]
     exact List.pairwise_cons.2 ⟨put_mem (P:=fun z=>lt y.name z.name=true) h1 t h.1,Qz x t h.2⟩
theorem aat {l:List Con} {x:Con} (h:nQ l):nQ (aF l x):=(za _).2 (Qz x l ((za l).1 h))
theorem Z_ (l:List Con) (x:Con):(aF l x).length<=l.length+1:=by
 have:=M4 l x.name
 unfold aF
 split<;>simp<;>omega
noncomputable def agU (b:Bool) (l:List Con) (x:Con):dZ Tryz.prog:=⟨146,[dB b l,.agg (aD x)],[],.need (l.length*24<=140737488355200/\nQ l) (OT (aF l x)),T.Sat.need fun h=>by
 have:=KV b l x h.1
 rw [xM h.2] at this
 exact this⟩
def afd (to:List Int) (x:Con):Con:=⟨x.name,agy to x.off⟩
def Te (l:List Con) (to:List Int) (k:Nat):List Con:=if to.length=0 then [] else (l.take k).map (afd to)
def wfC (l:List Con):Prop:=∀ x∈l,Ji x.off
def OY (r:List Con) (e:Int):T An:=.ite (e==0) (.ret (.tup [.own 0 2 0 r.length,.s (.int .i64 0)],[FY r],[])) (.ret (.tup [.s (.slice none 0 0),.y (.int .i64 e)],[],[]))
def dH (l:List Con) (x:Con) (e:Int):Int:=if !bW l then 1 else if !b_ x.name then 142 else if decide (e<x.off) then 141 else if !jG l x.name&&decide (l.length=64) then 143 else 0
noncomputable def cmH (b:Bool) (l:List Con) (x:Con):aC Tryz.prog:=hh _ bO (cs1 138 1 3 (rdC b l x.name) (cs1 138 2 1 (coC b l) (cs1 138 4 2 (LG x.name) (cs1 138 10 2 (ai_ b l x) bN)))) bM
def aho (b:Bool) (l:List Con) (x:Con) (e:Int):Prop :=
 ((b=b/\l.length=l.length/\aj l.length 2 (ah aD l) (ah aD l))/\x.name=x.name/\True)/\True/\l.length<=9223372036854775806/\((b=b/\l.length=l.length/\aj l.length 2 (ah aD l) (ah aD l))/\True)/\True/\l.length<=9223372036854775806/\((!bW l)=true->((dH l x e==0)=true->(False/\(1:Int)=0/\True)/\False)/\((dH l x e==0)=false->(True/\1=dH l x e/\True)/\True))/\((!bW l)=false->(x.name=x.name/\True)/\True/\((!b_ x.name)=true->((dH l x e==0)=true->(False/\(142:Int)=0/\True)/\False)/\((dH l x e==0)=false->(True/\142=dH l x e/\True)/\True))/\((!b_ x.name)=false->(decide (e<x.off)=true->((dH l x e==0)=true->(False/\(141:Int)=0/\True)/\False)/\((dH l x e==0)=false->(True/\141=dH l x e/\True)/\True))/\(decide (e<x.off)=false->((!jG l x.name)=true->(((l.length:Int)==64)=true->((dH l x e==0)=true->(False/\(143:Int)=0/\True)/\False)/\((dH l x e==0)=false->(True/\143=dH l x e/\True)/\True))/\(((l.length:Int)==64)=false->((b=b/\l.length=l.length/\aj l.length 2 (ah aD l) (ah aD l))/\(x.name=x.name/\x.off=x.off/\True)/\(True/\True)/\True)/\True/\(l.length*24<=140737488355200/\∀ (i j:Nat),i<j->j<l.length->lt (l.getD i default).name (l.getD j default).name=true)/\((dH l x e==0)=true->((0=0/\(aF l x).length=(aF l x).length)/\(0:Int)=0/\True)/\((aF l x).length=(aF l x).length/\aj (aF l x).length 2 (ah aD (aF l x)) (ah aD (aF l x)))/\True)/\((dH l x e==0)=false->False)))/\((!jG l x.name)=false->((b=b/\l.length=l.length/\aj l.length 2 (ah aD l) (ah aD l))/\(x.name=x.name/\x.off=x.off/\True)/\(True/\True)/\True)/\True/\(l.length*24<=140737488355200/\∀ (i j:Nat),i<j->j<l.length->lt (l.getD i default).name (l.getD j default).name=true)/\((dH l x e==0)=true->((0=0/\(aF l x).length=(aF l x).length)/\(0:Int)=0/\True)/\((aF l x).length=(aF l x).length/\aj (aF l x).length 2 (ah aD (aF l x)) (ah aD (aF l x)))/\True)/\((dH l x e==0)=false->False)))))
theorem ZG (b:Bool) (l:List Con) (x:Con) (e:Int):(bf Tryz.prog (cmH b l x) 138 [dB b l,.agg (aD x),.y (.int .u64 e)] [] (OY (aF l x) (dH l x e)))=aho b l x e:=by kernel_rfl
noncomputable def ckH (b:Bool) (l:List Con) (x:Con):aC Tryz.prog:=hh _ bO (cs1 123 1 1 (crC b l) (cs1 123 2 2 (nmC x.name) (cs1 123 3 3 (rrC b l x.name) (cs1 123 12 2 (agU b l x) bN)))) bM
def UJ (b:Bool) (l:List Con) (x:Con) (e:Int):Prop :=
 ((b=b/\l.length=l.length/\aj l.length 2 (ah aD l) (ah aD l))/\True)/\True/\l.length<=9223372036854775806/\(x.name=x.name/\True)/\True/\((b=b/\l.length=l.length/\aj l.length 2 (ah aD l) (ah aD l))/\x.name=x.name/\True)/\True/\l.length<=9223372036854775806/\((!bW l)=true->((dH l x e==0)=true->(False/\(1:Int)=0/\True)/\False)/\((dH l x e==0)=false->(True/\1=dH l x e/\True)/\True))/\((!bW l)=false->((!b_ x.name)=true->((dH l x e==0)=true->(False/\(142:Int)=0/\True)/\False)/\((dH l x e==0)=false->(True/\142=dH l x e/\True)/\True))/\((!b_ x.name)=false->(decide (e<x.off)=true->((dH l x e==0)=true->(False/\(141:Int)=0/\True)/\False)/\((dH l x e==0)=false->(True/\141=dH l x e/\True)/\True))/\(decide (e<x.off)=false->((!jG l x.name)=true->(decide (64<=(l.length:Int))=true->((dH l x e==0)=true->(False/\(143:Int)=0/\True)/\False)/\((dH l x e==0)=false->(True/\143=dH l x e/\True)/\True))/\(decide (64<=(l.length:Int))=false->((b=b/\l.length=l.length/\aj l.length 2 (ah aD l) (ah aD l))/\(x.name=x.name/\x.off=x.off/\True)/\True)/\True/\(l.length*24<=140737488355200/\∀ (i j:Nat),i<j->j<l.length->lt (l.getD i default).name (l.getD j default).name=true)/\((dH l x e==0)=true->((0=0/\(aF l x).length=(aF l x).length)/\(0:Int)=0/\True)/\((aF l x).length=(aF l x).length/\aj (aF l x).length 2 (ah aD (aF l x)) (ah aD (aF l x)))/\True)/\((dH l x e==0)=false->False)))/\((!jG l x.name)=false->((b=b/\l.length=l.length/\aj l.length 2 (ah aD l) (ah aD l))/\(x.name=x.name/\x.off=x.off/\True)/\True)/\True/\(l.length*24<=140737488355200/\∀ (i j:Nat),i<j->j<l.length->lt (l.getD i default).name (l.getD j default).name=true)/\((dH l x e==0)=true->((0=0/\(aF l x).length=(aF l x).length)/\(0:Int)=0/\True)/\((aF l x).length=(aF l x).length/\aj (aF l x).length 2 (ah aD (aF l x)) (ah aD (aF l x)))/\True)/\((dH l x e==0)=false->False)))))
theorem F7 (b:Bool) (l:List Con) (x:Con) (e:Int):(bf Tryz.prog (ckH b l x) 123 [dB b l,.agg (aD x),.y (.int .u64 e)] [] (OY (aF l x) (dH l x e)))=UJ b l x e:=by kernel_rfl
theorem QA {l:List Con}:∀ (n k:Nat),l.length - k=n->bR l k=true->∀ j,k<=j->j<l.length->yM l j=true:=by
 intro n
 induction n with
 | zero=>intro k hk _ j h1 h2;omega
 | succ n ih =>
   intro k hk h j h1 h2
   rw [rM (by omega),Bool.and_eq_true] at h
   rcases Nat.lt_or_ge k j with h3 | h3
   · exact ih (k+1) (by omega) h.2 j (by omega) h2
   · obtain rfl:j=k:=by omega
     exact h.1
theorem vG {l:List Con} (h:bW l=true):l.length<=64:=by
 unfold bW at h
 rw [Bool.and_eq_true] at h
 exact of_decide_eq_true h.2
theorem vM {l:List Con} (h:bW l=true):nQ l:=by
 unfold bW at h
 rw [Bool.and_eq_true] at h
 have key:∀ j,0<j->j<l.length->lt (l.getD (j - 1) default).name (l.getD j default).name=true:=by
  intro j h1 h2
  have:=QA _ 0 rfl h.1 j (Nat.zero_le _) h2
  unfold yM at this
  rw [Bool.and_eq_true,decide_eq_true h1] at this
  simpa using this.2
 have:∀ d i,i+d+1<l.length->lt (l.getD i default).name (l.getD (i+d+1) default).name=true:=by
  intro d
  induction d with
  | zero=>intro i hi;exact key (i+1) (by omega) hi
  | succ d ih=>intro i hi;exact xL (ih i (by omega)) (key (i+(d+1)+1) (by omega) hi)
 intro i j hij hj
 obtain ⟨d,rfl⟩:∃ d,j=i+d+1:=⟨j - i - 1,by omega⟩
 exact this d i hj
theorem aiF (b:Bool) (l:List Con) (x:Con) (e:Int) (hl:l.length<=9223372036854775806):(OY (aF l x) (dH l x e)).Sat (aB Tryz.prog 138 [dB b l,.agg (aD x),.y (.int .u64 e)] []):=by
 refine aP (ht:=cmH b l x) Tryz.mixed rfl ?_
 rw [ZG b l x e]
 unfold aho
 have ca:=@vG l
 have cr:=@vM l
 cases h1:bW l
 · simp [dH,h1,hl]
 · have ca:=ca h1
   have cr:=cr h1
   unfold nQ at cr
   simp at cr
   cases h2:b_ x.name
   · simp [dH,h1,h2,hl]
   · by_cases h3:e<x.off
     · simp [dH,h1,h2,h3,hl]
     · cases h4:jG l x.name
       · by_cases h5:l.length=64
         · simp [dH,h1,h2,h3,h4,h5,hl]
         · have h5':¬ ((l.length:Int)=64):=by omega
           simp [dH,h1,h2,h3,h4,h5,h5',hl]
           exact ⟨by omega,cr⟩
       · simp [dH,h1,h2,h3,h4,hl]
         exact ⟨by omega,cr⟩
theorem ac4 (b:Bool) (l:List Con) (x:Con) (e:Int) (hl:l.length<=9223372036854775806):(OY (aF l x) (dH l x e)).Sat (aB Tryz.prog 123 [dB b l,.agg (aD x),.y (.int .u64 e)] []):=by
 refine aP (ht:=ckH b l x) Tryz.mixed rfl ?_
 rw [F7 b l x e]
 unfold UJ
 have ca:=@vG l
 have cr:=@vM l
 cases h1:bW l
 · simp [dH,h1,hl]
 · have ca:=ca h1
   have cr:=cr h1
   unfold nQ at cr
   simp at cr
   cases h2:b_ x.name
   · simp [dH,h1,h2,hl]
   · by_cases h3:e<x.off
     · simp [dH,h1,h2,h3,hl]
     · cases h4:jG l x.name
       · by_cases h5:l.length=64
         · simp [dH,h1,h2,h3,h4,h5,hl]
         · have h5':¬ ((64:Int)<=l.length):=by omega
           simp [dH,h1,h2,h3,h4,h5,h5',hl]
           exact ⟨by omega,cr⟩
       · simp [dH,h1,h2,h3,h4,hl]
         exact ⟨by omega,cr⟩
noncomputable def cmC (b:Bool) (l:List Con) (x:Con) (e:Int):dZ Tryz.prog:=⟨138,[dB b l,.agg (aD x),.y (.int .u64 e)],[],.need (l.length<=9223372036854775806) (OY (aF l x) (dH l x e)),T.Sat.need fun h=>aiF b l x e h⟩
noncomputable def ckC (b:Bool) (l:List Con) (x:Con) (e:Int):dZ Tryz.prog:=⟨123,[dB b l,.agg (aD x),.y (.int .u64 e)],[],.need (l.length<=9223372036854775806) (OY (aF l x) (dH l x e)),T.Sat.need fun h=>ac4 b l x e h⟩
end
namespace P
structure Producer where
 id:Int
 seq:Int
 here:Bool
 offset:Int
instance:Inhabited Producer:=⟨⟨0,0,false,0⟩⟩
def ak (x:Producer):List AV:=[.y (.int .u64 x.id),.y (.int .u64 x.seq),.y (.bool x.here),.y (.int .u64 x.offset)]
def bg (b:Bool) (l:List Producer):AV:=.ys b 4 l.length (ah ak l)
theorem Tryz.mixed:Tryz.prog.follows .mixedOrders=true:=by kernel_rfl
def most:Int:=9223372036854775807
def TN (l:List Producer) (k:Nat):Bool :=
 let x:=l.getD k default
 !(x.id==0||!(decide (1<=x.seq)&&decide (x.seq<=9223372036854775807))||!x.here&&x.offset != 0||decide (0<k)&&decide (x.id<=(l.getD (k - 1) default).id))
def aV (l:List Producer) (k:Nat):Bool:=(List.range' k (l.length - k)).all (TN l)
def bE (l:List Producer):Bool:=aV l 0&&decide (l.length<=256)
theorem BI {l:List Producer} {k:Nat} (h:l.length<=k):aV l k=true:=by
 unfold aV
 rw [show l.length - k=0 by omega];rfl
theorem qG {l:List Producer} {k:Nat} (h:k<l.length):aV l k=(TN l k&&aV l (k+1)):=by
 unfold aV
 rw [show l.length - k=(l.length - (k+1))+1 by omega,List.range'_succ];rfl
def YU (b:Bool) (l:List Producer) (k:Nat):List AV:=mkT 50 [(0,bg b l),(2,.s (.bool false)),(5,bg b l),(6,.y (.int .i64 l.length)),(7,.y (.int .i64 k))]
def Yk (b:Bool) (l:List Producer) (r:Bool):Exit×List AV×List ay:=match r with
 | true=>(.exit 0,mkT 50 [(0,bg b l),(2,.s (.bool false))],[])
 | false=>(.ret,mkT 50 [(2,.s (.bool false))],[])
def JE (l:List Producer) (k:Nat):T Bool:=.ite (aV l k) (.ret true) (.ret false)
def jD (b:Bool) (l:List Producer):Prop:=(b=b/\l.length=l.length/\aj l.length 4 (ah ak l) (ah ak l))
def rG (b:Bool) (l:List Producer) (k:Nat):Prop:=(decide (0<(k:Int))=true->(decide (0<=IntKind.i64.wrap ((k:Int) - 1))&&decide (IntKind.i64.wrap ((k:Int) - 1)<(l.length:Int)))=true/\(decide ((l.getD (Int.toNat (k:Int)) default).id<=(l.getD (Int.toNat (IntKind.i64.wrap ((k:Int) - 1))) default).id)=true->(aV l k=true->False)/\(aV l k=false->(false=false/\True)/\True/\true=true))/\(decide ((l.getD (Int.toNat (k:Int)) default).id<=(l.getD (Int.toNat (IntKind.i64.wrap ((k:Int) - 1))) default).id)=false->∃ j:Nat,l.length - j<l.length - k/\(((jD b l)/\false=false/\(jD b l)/\(l.length:Int)=(l.length:Int)/\IntKind.i64.wrap ((k:Int)+1)=(j:Int)/\True)/\True/\true=true)/\true=true/\(aV l j=true->(aV l k=true->true=true)/\(aV l k=false->true=false))/\(aV l j=false->(aV l k=true->false=true)/\(aV l k=false->false=false))))
def qy (b:Bool) (l:List Producer) (k:Nat):Prop:=(decide (0<(k:Int))=false->∃ j:Nat,l.length - j<l.length - k/\(((jD b l)/\false=false/\(jD b l)/\(l.length:Int)=(l.length:Int)/\IntKind.i64.wrap ((k:Int)+1)=(j:Int)/\True)/\True/\true=true)/\true=true/\(aV l j=true->(aV l k=true->true=true)/\(aV l k=false->true=false))/\(aV l j=false->(aV l k=true->false=true)/\(aV l k=false->false=false)))
def G5 (b:Bool) (l:List Producer) (k:Nat):Prop :=
 (decide ((k:Int)<(l.length:Int))=true->(true&&decide ((k:Int)<(l.length:Int)))=true/\(((l.getD (Int.toNat (k:Int)) default).id==0)=true->(aV l k=true->False)/\(aV l k=false->(false=false/\True)/\True/\true=true))/\(((l.getD (Int.toNat (k:Int)) default).id==0)=false->(decide (1<=(l.getD (Int.toNat (k:Int)) default).seq)=true->((!decide ((l.getD (Int.toNat (k:Int)) default).seq<=9223372036854775807))=true->(aV l k=true->False)/\(aV l k=false->(false=false/\True)/\True/\true=true))/\((!decide ((l.getD (Int.toNat (k:Int)) default).seq<=9223372036854775807))=false->((!(l.getD (Int.toNat (k:Int)) default).here)=true->(((l.getD (Int.toNat (k:Int)) default).offset != 0)=true->(aV l k=true->False)/\(aV l k=false->(false=false/\True)/\True/\true=true))/\(((l.getD (Int.toNat (k:Int)) default).offset != 0)=false->(rG b l k)/\(qy b l k)))/\((!(l.getD (Int.toNat (k:Int)) default).here)=false->(rG b l k)/\(qy b l k))))/\(decide (1<=(l.getD (Int.toNat (k:Int)) default).seq)=false->(aV l k=true->False)/\(aV l k=false->(false=false/\True)/\True/\true=true))))/\(decide ((k:Int)<(l.length:Int))=false->(aV l k=true->((jD b l)/\false=false/\True)/\True/\true=true)/\(aV l k=false->False))
theorem Hz (b:Bool) (l:List Producer) (k:Nat):(bP Tryz.prog (hT _) 45 2 (fun k=>l.length - k) (YU b l) (fun _=>[]) [0] (JE l) (Yk b l) k)=G5 b l k:=by kernel_rfl
theorem Kw (b:Bool) (l:List Producer) (hl:l.length<=9223372036854775806) (k:Nat):aL Tryz.prog 45 2 (aN Tryz.prog 45 2) ⟨YU b l k,[],[]⟩ ((JE l k).map (bJ [0] (Yk b l))):=by
 refine dY Tryz.mixed (fun _=>rfl) (fun k=>(Hz b l k).mpr ?_) k
 unfold G5 qy rG jD
 simp
 refine ⟨fun h=>?_,fun h=>by simp [BI h]⟩
 rw [qG h]
 simp (disch:=omega) only [wrap_i64]
 simp [TN,cast_succ_eq]
 grind
noncomputable def afW (b:Bool) (l:List Producer):aC Tryz.prog:=hh _ (mU 45 2 (dM (YU b l) (fun _=>[]) [0] (JE l) (Yk b l) 0) bO) bN bM
def Ip (l:List Producer):T An:=.ret (.y (.bool (bE l)),[],[])
def Mv (b:Bool) (l:List Producer):Prop :=
 (((b=b/\l.length=l.length/\aj l.length 4 (ah ak l) (ah ak l))/\false=false/\(b=b/\l.length=l.length/\aj l.length 4 (ah ak l) (ah ak l))/\(l.length:Int)=(l.length:Int)/\(0:Int)=0/\True)/\True/\true=true)/\aL Tryz.prog 45 2 (aN Tryz.prog 45 2) { t:=YU b l 0,m:=[],mv:=[]:St } (T.map (bJ [0] (Yk b l)) (JE l 0))/\(aV l 0=true->decide ((l.length:Int)<=256)=bE l/\True)/\(aV l 0=false->false=bE l/\True)
theorem Km (b:Bool) (l:List Producer):(bf Tryz.prog (afW b l) 45 [bg b l] [] (Ip l))=Mv b l:=by kernel_rfl
theorem Ml (b:Bool) (l:List Producer) (hl:l.length<=9223372036854775806):(Ip l).Sat (aB Tryz.prog 45 [bg b l] []):=by
 refine aP (ht:=(afW b l)) Tryz.mixed rfl ?_
 rw [Km b l]
 unfold Mv
 have:=Kw b l hl 0
 simp [bE,this]
 grind
def LY (b:Bool) (l:List Producer) (k:Nat):List AV:=mkT 69 [(0,bg b l),(2,.s (.bool false)),(3,.y (.int .i64 k))]
def NK (b:Bool) (l:List Producer) (r:Bool):Exit×List AV×List ay:=match r with
 | true=>(.exit 0,mkT 69 [(0,bg b l)],[])
 | false=>(.ret,mkT 69 [(2,.s (.bool false))],[])
def DU (b:Bool) (l:List Producer) (k:Nat):Prop :=
 (decide ((k:Int)<(l.length:Int))=true->(true&&decide ((k:Int)<(l.length:Int)))=true/\(((l.getD (Int.toNat (k:Int)) default).id==0)=true->(aV l k=true->False)/\(aV l k=false->(false=false/\True)/\True/\true=true))/\(((l.getD (Int.toNat (k:Int)) default).id==0)=false->(true&&decide ((k:Int)<(l.length:Int)))=true/\(decide ((l.getD (Int.toNat (k:Int)) default).seq<1)=true->(aV l k=true->False)/\(aV l k=false->(false=false/\True)/\True/\true=true))/\(decide ((l.getD (Int.toNat (k:Int)) default).seq<1)=false->(true&&decide ((k:Int)<(l.length:Int)))=true/\(decide (9223372036854775807<(l.getD (Int.toNat (k:Int)) default).seq)=true->(aV l k=true->False)/\(aV l k=false->(false=false/\True)/\True/\true=true))/\(decide (9223372036854775807<(l.getD (Int.toNat (k:Int)) default).seq)=false->(true&&decide ((k:Int)<(l.length:Int)))=true/\((!(l.getD (Int.toNat (k:Int)) default).here)=true->(true&&decide ((k:Int)<(l.length:Int)))=true/\(((l.getD (Int.toNat (k:Int)) default).offset != 0)=true->(aV l k=true->False)/\(aV l k=false->(false=false/\True)/\True/\true=true))/\(((l.getD (Int.toNat (k:Int)) default).offset != 0)=false->(decide (0<(k:Int))=true->(decide (0<=IntKind.i64.wrap ((k:Int) - 1))&&decide (IntKind.i64.wrap ((k:Int) - 1)<(l.length:Int)))=true/\(true&&decide ((k:Int)<(l.length:Int)))=true/\(decide ((l.getD (Int.toNat (k:Int)) default).id<=(l.getD (Int.toNat (IntKind.i64.wrap ((k:Int) - 1))) default).id)=true->(aV l k=true->False)/\(aV l k=false->(false=false/\True)/\True/\true=true))/\(decide ((l.getD (Int.toNat (k:Int)) default).id<=(l.getD (Int.toNat (IntKind.i64.wrap ((k:Int) - 1))) default).id)=false->∃ j:Nat,l.length - j<l.length - k/\(((b=b/\l.length=l.length/\aj l.length 4 (ah ak l) (ah ak l))/\false=false/\IntKind.i64.wrap ((k:Int)+1)=(j:Int)/\True)/\True/\true=true)/\true=true/\(aV l j=true->(aV l k=true->true=true)/\(aV l k=false->true=false))/\(aV l j=false->(aV l k=true->false=true)/\(aV l k=false->false=false))))/\(decide (0<(k:Int))=false->∃ j:Nat,l.length - j<l.length - k/\(((b=b/\l.length=l.length/\aj l.length 4 (ah ak l) (ah ak l))/\false=false/\IntKind.i64.wrap ((k:Int)+1)=(j:Int)/\True)/\True/\true=true)/\true=true/\(aV l j=true->(aV l k=true->true=true)/\(aV l k=false->true=false))/\(aV l j=false->(aV l k=true->false=true)/\(aV l k=false->false=false)))))/\((!(l.getD (Int.toNat (k:Int)) default).here)=false->(decide (0<(k:Int))=true->(decide (0<=IntKind.i64.wrap ((k:Int) - 1))&&decide (IntKind.i64.wrap ((k:Int) - 1)<(l.length:Int)))=true/\(true&&decide ((k:Int)<(l.length:Int)))=true/\(decide ((l.getD (Int.toNat (k:Int)) default).id<=(l.getD (Int.toNat (IntKind.i64.wrap ((k:Int) - 1))) default).id)=true->(aV l k=true->False)/\(aV l k=false->(false=false/\True)/\True/\true=true))/\(decide ((l.getD (Int.toNat (k:Int)) default).id<=(l.getD (Int.toNat (IntKind.i64.wrap ((k:Int) - 1))) default).id)=false->∃ j:Nat,l.length - j<l.length - k/\(((b=b/\l.length=l.length/\aj l.length 4 (ah ak l) (ah ak l))/\false=false/\IntKind.i64.wrap ((k:Int)+1)=(j:Int)/\True)/\True/\true=true)/\true=true/\(aV l j=true->(aV l k=true->true=true)/\(aV l k=false->true=false))/\(aV l j=false->(aV l k=true->false=true)/\(aV l k=false->false=false))))/\(decide (0<(k:Int))=false->∃ j:Nat,l.length - j<l.length - k/\(((b=b/\l.length=l.length/\aj l.length 4 (ah ak l) (ah ak l))/\false=false/\IntKind.i64.wrap ((k:Int)+1)=(j:Int)/\True)/\True/\true=true)/\true=true/\(aV l j=true->(aV l k=true->true=true)/\(aV l k=false->true=false))/\(aV l j=false->(aV l k=true->false=true)/\(aV l k=false->false=false))))))))/\(decide ((k:Int)<(l.length:Int))=false->(aV l k=true->((b=b/\l.length=l.length/\aj l.length 4 (ah ak l) (ah ak l))/\True)/\True/\true=true)/\(aV l k=false->False))
theorem Ey (b:Bool) (l:List Producer) (k:Nat):(bP Tryz.prog (hT _) 51 4 (fun k=>l.length - k) (LY b l) (fun _=>[]) [0] (JE l) (NK b l) k)=DU b l k:=by kernel_rfl
theorem Ja (b:Bool) (l:List Producer) (hl:l.length<=9223372036854775806) (k:Nat):aL Tryz.prog 51 4 (aN Tryz.prog 51 4) ⟨LY b l k,[],[]⟩ ((JE l k).map (bJ [0] (NK b l))):=by
 refine dY Tryz.mixed (fun _=>rfl) (fun k=>(Ey b l k).mpr ?_) k
 unfold DU
 simp
 refine ⟨fun h=>?_,fun h=>by simp [BI h]⟩
 rw [qG h]
 simp (disch:=omega) only [wrap_i64]
 simp [TN,cast_succ_eq]
 grind
noncomputable def abd (b:Bool) (l:List Producer):aC Tryz.prog:=hh _ (mU 51 4 (dM (LY b l) (fun _=>[]) [0] (JE l) (NK b l) 0) bO) bN bM
def He (b:Bool) (l:List Producer):Prop :=
 (decide (256<(l.length:Int))=true->false=bE l/\True)/\(decide (256<(l.length:Int))=false->(((b=b/\l.length=l.length/\aj l.length 4 (ah ak l) (ah ak l))/\false=false/\(0:Int)=0/\True)/\True/\true=true)/\aL Tryz.prog 51 4 (aN Tryz.prog 51 4) { t:=LY b l 0,m:=[],mv:=[]:St } (T.map (bJ [0] (NK b l)) (JE l 0))/\(aV l 0=true->true=bE l/\True)/\(aV l 0=false->false=bE l/\True))
theorem Ht (b:Bool) (l:List Producer):(bf Tryz.prog (abd b l) 51 [bg b l] [] (Ip l))=He b l:=by kernel_rfl
theorem I9 (b:Bool) (l:List Producer) (hl:l.length<=9223372036854775806):(Ip l).Sat (aB Tryz.prog 51 [bg b l] []):=by
 refine aP (ht:=(abd b l)) Tryz.mixed rfl ?_
 rw [Ht b l]
 unfold He
 have:=Ja b l hl 0
 simp [bE,this]
 refine ⟨fun h _=>by omega,fun h=>⟨fun h2=>⟨h2,by omega⟩,fun h2 h3=>by simp [h2] at h3⟩⟩
noncomputable def aiu (b:Bool) (l:List Producer) (hl:l.length<=9223372036854775806):dZ Tryz.prog:=⟨45,[bg b l],[],Ip l,Ml b l hl⟩
noncomputable def agR (b:Bool) (l:List Producer) (hl:l.length<=9223372036854775806):dZ Tryz.prog:=⟨51,[bg b l],[],Ip l,I9 b l hl⟩
def has (id:Int) (x:Producer):Bool:=x.id==id
def findD (l:List Producer) (id:Int):Producer:=(l.find? (has id)).getD default
def bA (l:List Producer) (id:Int):Bool:=(l.find? (has id)).isSome
theorem uo (x:Producer) (r:List Producer) (id:Int):bA (x::r) id=(x.id==id||bA r id):=by
 simp only [bA,List.find?_cons,has]
 cases h:x.id==id<;>simp
theorem Kl (x:Producer) (r:List Producer) (id:Int):findD (x::r) id=if x.id=id then x else findD r id:=by
 simp only [findD,List.find?_cons,has]
 by_cases h:x.id=id
 · simp [h]
 · have h':(x.id==id)=false:=by simpa using h
   simp [h,h']
theorem GQ (x:Producer) (r:List Producer) (id:Int):(x::r).findIdx (has id)=if x.id=id then 0 else r.findIdx (has id)+1:=by
 simp only [List.findIdx_cons,has]
 by_cases h:x.id=id
 · simp [h]
 · have h':(x.id==id)=false:=by simpa using h
   simp [h,h']
def ag7:List AV:=[.s (.int .u64 0),.s (.int .u64 0),.s (.bool false),.s (.int .u64 0)]
def Yw (b:Bool) (id:Int) (l:List Producer) (k:Nat):List AV:=mkT 21 [(1,.fn (.func 149) [] [.ip false 1 (fun _=>.y (.int .u64 id))]),(4,.ptr 0 0 0 0),(5,.s (.bool false)),(9,bg b l),(10,.y (.int .i64 l.length)),(11,.y (.int .i64 k))]
def Rk:List ay:=[.box 80 ag7]
def WL (r:Bool×Producer):Exit×List AV×List ay:=match r.1 with
 | true=>(.ret,mkT 21 [(4,.ptr 0 0 0 0),(5,.s (.bool true))],[.box 80 (ak r.2)])
 | false=>(.exit 0,mkT 21 [(4,.ptr 0 0 0 0),(5,.s (.bool false))],Rk)
def XU (id:Int) (l:List Producer) (k:Nat):T (Bool×Producer):=.ite (bA (l.drop k) id) (.ret (true,findD (l.drop k) id)) (.ret (false,default))
def IW (b:Bool) (id:Int) (l:List Producer) (k:Nat):Prop :=
 (decide ((k:Int)<(l.length:Int))=true->(true&&decide ((k:Int)<(l.length:Int)))=true/\(((l.getD (Int.toNat (k:Int)) default).id==id)=true->(bA (List.drop k l) id=true->((0=0/\0=0)/\true=true/\True)/\(((l.getD (Int.toNat (k:Int)) default).id=(findD (List.drop k l) id).id/\(l.getD (Int.toNat (k:Int)) default).seq=(findD (List.drop k l) id).seq/\(l.getD (Int.toNat (k:Int)) default).here=(findD (List.drop k l) id).here/\(l.getD (Int.toNat (k:Int)) default).offset=(findD (List.drop k l) id).offset/\True)/\True)/\true=true)/\(bA (List.drop k l) id=false->False))/\(((l.getD (Int.toNat (k:Int)) default).id==id)=false->∃ j:Nat,l.length - j<l.length - k/\(((True/\(false=false/\1<=1/\gq 1 (fun (x:Nat)=>AV.y (.int .u64 id)) fun (x:Nat)=>AV.y (.int .u64 id))/\True)/\(0=0/\0=0)/\false=false/\(b=b/\l.length=l.length/\aj l.length 4 (ah ak l) (ah ak l))/\(l.length:Int)=(l.length:Int)/\IntKind.i64.wrap ((k:Int)+1)=(j:Int)/\True)/\(((0:Int)=0/\(0:Int)=0/\false=false/\(0:Int)=0/\True)/\True)/\true=true)/\true=true/\(bA (List.drop j l) id=true->(bA (List.drop k l) id=true->(true,findD (List.drop j l) id)=(true,findD (List.drop k l) id))/\(bA (List.drop k l) id=false->(true,findD (List.drop j l) id)=(false,@default Producer instInhabitedProducer)))/\(bA (List.drop j l) id=false->(bA (List.drop k l) id=true->(false,@default Producer instInhabitedProducer)=(true,findD (List.drop k l) id))/\(bA (List.drop k l) id=false->(false,@default Producer instInhabitedProducer)=(false,@default Producer instInhabitedProducer)))))/\(decide ((k:Int)<(l.length:Int))=false->(bA (List.drop k l) id=true->False)/\(bA (List.drop k l) id=false->((0=0/\0=0)/\false=false/\True)/\(((0:Int)=0/\(0:Int)=0/\false=false/\(0:Int)=0/\True)/\True)/\true=true))
theorem Ir (b:Bool) (id:Int) (l:List Producer) (k:Nat):(bP Tryz.prog (hT _) 148 2 (fun k=>l.length - k) (Yw b id l) (fun _=>Rk) [0,1,2,3] (XU id l) WL k)=IW b id l k:=by kernel_rfl
theorem KJ (b:Bool) (id:Int) (l:List Producer) (hl:l.length<=9223372036854775806)  (k:Nat):aL Tryz.prog 148 2 (aN Tryz.prog 148 2) ⟨Yw b id l k,Rk,[]⟩ ((XU id l k).map (bJ [0,1,2,3] WL)):=by
 refine dY Tryz.mixed (fun _=>rfl) (fun k=>(Ir b id l k).mpr ?_) k
 unfold IW
 simp
 refine ⟨fun h=>?_,fun h=>by simp [bA,iX h]⟩
 simp (disch:=omega) only [wrap_i64]
 rw [drop_cons h]
 simp only [uo,Kl]
 generalize l[k]?.getD default=x
 by_cases hx:x.id=id<;>simp [hx,h,cast_succ_eq]
 refine ⟨k+1,by omega,rfl,?_⟩
 grind
noncomputable def aaE (b:Bool) (l:List Producer) (id:Int):aC Tryz.prog:=hh _ (mU 148 2 (dM (Yw b id l) (fun _=>Rk) [0,1,2,3] (XU id l) WL 0) bO) bN bM
def Sv (l:List Producer) (id:Int):T An:=.ret (.tup [.agg (ak (findD l id)),.y (.bool (bA l id))],[],[])
def Uq (b:Bool) (l:List Producer) (id:Int):Prop :=
 (((True/\(false=false/\1<=1/\gq 1 (fun (j:Nat)=>Ax.get [AV.y (.int .u64 id)] (0+j)) fun (x:Nat)=>AV.y (.int .u64 id))/\True)/\(0=0/\0=0)/\false=false/\(b=b/\l.length=l.length/\aj l.length 4 (ah ak l) (ah ak l))/\(l.length:Int)=(l.length:Int)/\(0:Int)=0/\True)/\(((0:Int)=0/\(0:Int)=0/\false=false/\(0:Int)=0/\True)/\True)/\true=true)/\aL Tryz.prog 148 2 (aN Tryz.prog 148 2) { t:=Yw b id l 0,m:=Rk,mv:=[]:St } (T.map (bJ [0,1,2,3] WL) (XU id l 0))/\(bA (List.drop 0 l) id=true->true=true/\True/\(((findD (List.drop 0 l) id).id=(findD l id).id/\(findD (List.drop 0 l) id).seq=(findD l id).seq/\(findD (List.drop 0 l) id).here=(findD l id).here/\(findD (List.drop 0 l) id).offset=(findD l id).offset/\True)/\true=bA l id/\True)/\True)/\(bA (List.drop 0 l) id=false->true=true/\True/\((0=(findD l id).id/\0=(findD l id).seq/\false=(findD l id).here/\0=(findD l id).offset/\True)/\false=bA l id/\True)/\True)
theorem Pb (b:Bool) (l:List Producer) (id:Int):(bf Tryz.prog (aaE b l id) 132 [bg b l,.y (.int .u64 id)] [] (Sv l id))=Uq b l id:=by kernel_rfl
theorem adi (b:Bool) (l:List Producer) (id:Int) (hl:l.length<=9223372036854775806):(Sv l id).Sat (aB Tryz.prog 132 [bg b l,.y (.int .u64 id)] []):=by
 refine aP (ht:=(aaE b l id)) Tryz.mixed rfl ?_
 rw [Pb b l id]
 unfold Uq
 have:=KJ b id l hl 0
 simp [this]
 by_cases hf:bA l id=true
 · simp [hf]
 · have e:l.find? (has id)=none:=by simpa [bA] using hf
   simp [hf,findD,e]
   exact ⟨rfl,rfl,rfl,rfl⟩
noncomputable def Dt (b:Bool) (l:List Producer) (id:Int) (hl:l.length<=9223372036854775806):dZ Tryz.prog:=⟨132,[bg b l,.y (.int .u64 id)],[],Sv l id,adi b l id hl⟩
def Ck (id seq:Int):Bool:=id==0||!(decide (1<=seq)&&decide (seq<=9223372036854775807))
def aS (l:List Producer) (id seq:Int):Int :=
 if Ck id seq then 4 else if !bA l id||decide ((findD l id).seq<seq) then 1 else if seq==(findD l id).seq&&(findD l id).here then 2 else 3
def eu (l:List Producer) (id seq:Int):Int :=
 if Ck id seq then 0 else if !bA l id||decide ((findD l id).seq<seq) then 0 else if seq==(findD l id).seq&&(findD l id).here then (findD l id).offset else 0
def ru (l:List Producer) (id seq:Int):T An:=.ret (.tup [.y (.int .i64 (aS l id seq)),.y (.int .u64 (eu l id seq))],[],[])
noncomputable def QL (b:Bool) (l:List Producer) (id:Int) (hl:l.length<=9223372036854775806):aC Tryz.prog:=hh _ bO (cs1 98 3 2 (Dt b l id hl) bN) bM
def Nt (b:Bool) (l:List Producer) (id:Int) (seq:Int) (hl:l.length<=9223372036854775806):Prop :=
 ((id==0)=true->(4=aS l id seq/\0=eu l id seq/\True)/\True)/\((id==0)=false->(decide (1<=seq)=true->((!decide (seq<=9223372036854775807))=true->(4=aS l id seq/\0=eu l id seq/\True)/\True)/\((!decide (seq<=9223372036854775807))=false->((b=b/\l.length=l.length/\aj l.length 4 (ah ak l) (ah ak l))/\id=id/\True)/\True/\((!bA l id)=true->(1=aS l id seq/\0=eu l id seq/\True)/\True)/\((!bA l id)=false->(decide ((findD l id).seq<seq)=true->(1=aS l id seq/\0=eu l id seq/\True)/\True)/\(decide ((findD l id).seq<seq)=false->((seq==(findD l id).seq)=true->((findD l id).here=true->(2=aS l id seq/\(findD l id).offset=eu l id seq/\True)/\True)/\((findD l id).here=false->(3=aS l id seq/\0=eu l id seq/\True)/\True))/\((seq==(findD l id).seq)=false->(3=aS l id seq/\0=eu l id seq/\True)/\True)))))/\(decide (1<=seq)=false->(4=aS l id seq/\0=eu l id seq/\True)/\True))
theorem JO (b:Bool) (l:List Producer) (id:Int) (seq:Int) (hl:l.length<=9223372036854775806):(bf Tryz.prog (QL b l id hl) 98 [bg b l,.y (.int .u64 id),.y (.int .u64 seq)] [] (ru l id seq))=Nt b l id seq hl:=by kernel_rfl
theorem Nq (b:Bool) (l:List Producer) (id seq:Int) (hl:l.length<=9223372036854775806):(ru l id seq).Sat (aB Tryz.prog 98 [bg b l,.y (.int .u64 id),.y (.int .u64 seq)] []):=by
 refine aP (ht:=(QL b l id hl)) Tryz.mixed rfl ?_
 rw [JO b l id seq hl]
 unfold Nt
 simp [aS,eu,Ck]
 grind
def YT (b:Bool) (id:Int) (l:List Producer) (k:Nat):List AV:=mkT 20 [(0,bg b l),(1,.y (.int .u64 id)),(4,.s (.int .i64 0)),(5,.y (.int .i64 k))]
def Y4 (r:Bool×Nat):Exit×List AV×List ay:=match r.1 with
 | true=>(.ret,mkT 20 [(4,.y (.int .i64 r.2))],[])
 | false=>(.exit 0,mkT 20 [],[])
def GD (id:Int) (l:List Producer) (k:Nat):T (Bool×Nat):=.ite (bA (l.drop k) id) (.ret (true,k+(l.drop k).findIdx (has id))) (.ret (false,0))
def Qx (b:Bool) (id:Int) (l:List Producer) (k:Nat):Prop :=
 (decide ((↑k:Int)<(↑(List.length l):Int))=true->(true&&decide ((↑k:Int)<(↑(List.length l):Int)))=true/\(((List.getD l (Int.toNat (↑k:Int)) (@default Producer instInhabitedProducer)).id==id)=true->(bA (List.drop k l) id=true->((↑k:Int)=(↑(k+List.findIdx (has id) (List.drop k l)):Int)/\True)/\True/\true=true)/\(bA (List.drop k l) id=false->False))/\(((List.getD l (Int.toNat (↑k:Int)) (@default Producer instInhabitedProducer)).id==id)=false->∃ (j:Nat),List.length l - j<List.length l - k/\(((b=b/\List.length l=List.length l/\aj (List.length l) (4:Nat) (ah ak l) (ah ak l))/\id=id/\(0:Int)=(0:Int)/\IntKind.wrap IntKind.i64 ((↑k:Int)+(1:Int))=(↑j:Int)/\True)/\True/\true=true)/\true=true/\(bA (List.drop j l) id=true->(bA (List.drop k l) id=true->(true,j+List.findIdx (has id) (List.drop j l))=(true,k+List.findIdx (has id) (List.drop k l)))/\(bA (List.drop k l) id=false->(true,j+List.findIdx (has id) (List.drop j l))=(false,(0:Nat))))/\(bA (List.drop j l) id=false->(bA (List.drop k l) id=true->(false,(0:Nat))=(true,k+List.findIdx (has id) (List.drop k l)))/\(bA (List.drop k l) id=false->(false,(0:Nat))=(false,(0:Nat))))))/\(decide ((↑k:Int)<(↑(List.length l):Int))=false->(bA (List.drop k l) id=true->False)/\(bA (List.drop k l) id=false->True/\True/\true=true))
theorem PL (b:Bool) (id:Int) (l:List Producer) (k:Nat):(bP Tryz.prog (hT _) 131 2 (fun k=>l.length - k) (YT b id l) (fun _=>[]) [] (GD id l) Y4 k)=Qx b id l k:=by kernel_rfl
theorem S_ (b:Bool) (id:Int) (l:List Producer) (hl:l.length<=9223372036854775806)  (k:Nat):aL Tryz.prog 131 2 (aN Tryz.prog 131 2) ⟨YT b id l k,[],[]⟩ ((GD id l k).map (bJ [] Y4)):=by
 refine dY Tryz.mixed (fun _=>rfl) (fun k=>(PL b id l k).mpr ?_) k
 unfold Qx
 simp
 refine ⟨fun h=>?_,fun h=>by simp [bA,iX h]⟩
 simp (disch:=omega) only [wrap_i64]
 rw [drop_cons h]
 simp only [uo,GQ]
 generalize l[k]?.getD default=x
 by_cases hx:x.id=id<;>simp [hx,h,cast_succ_eq]
 refine ⟨k+1,by omega,rfl,?_⟩
 grind
def gM (l:List Producer) (id:Int):Int:=if bA l id then (l.findIdx (has id):Nat) else -1
noncomputable def ahw (b:Bool) (l:List Producer) (id:Int):aC Tryz.prog:=hh _ (mU 131 2 (dM (YT b id l) (fun _=>[]) [] (GD id l) Y4 0) bO) bN bM
def Cu (l:List Producer) (id:Int):T An:=.ret (.y (.int .i64 (gM l id)),[],[])
def abU (b:Bool) (l:List Producer) (id:Int):Prop :=
 (((b=b/\List.length l=List.length l/\aj (List.length l) (4:Nat) (ah ak l) (ah ak l))/\id=id/\(0:Int)=(0:Int)/\(0:Int)=(0:Int)/\True)/\True/\true=true)/\aL Tryz.prog (131:Nat) (2:Nat) (aN Tryz.prog (131:Nat) (2:Nat)) { t:=YT b id l (0:Nat),m:=[],mv:=[]:St } (T.map (bJ [] Y4) (GD id l (0:Nat)))/\(bA (List.drop (0:Nat) l) id=true->(↑((0:Nat)+List.findIdx (has id) (List.drop (0:Nat) l)):Int)=gM l id/\True)/\(bA (List.drop (0:Nat) l) id=false->(-1:Int)=gM l id/\True)
theorem Rj (b:Bool) (l:List Producer) (id:Int):(bf Tryz.prog (ahw b l id) 131 [bg b l,.y (.int .u64 id)] [] (Cu l id))=abU b l id:=by kernel_rfl
theorem ae9 (b:Bool) (l:List Producer) (id:Int) (hl:l.length<=9223372036854775806):(Cu l id).Sat (aB Tryz.prog 131 [bg b l,.y (.int .u64 id)] []):=by
 refine aP (ht:=(ahw b l id)) Tryz.mixed rfl ?_
 rw [Rj b l id]
 unfold abU
 have:=S_ b id l hl 0
 simp [this,gM]
noncomputable def agG (b:Bool) (l:List Producer) (id:Int) (hl:l.length<=9223372036854775806):dZ Tryz.prog:=⟨131,[bg b l,.y (.int .u64 id)],[],Cu l id,ae9 b l id hl⟩
noncomputable def LQ (b:Bool) (l:List Producer) (id:Int) (hl:l.length<=9223372036854775806):aC Tryz.prog:=hh _ bO (cs1 94 3 2 (agG b l id hl) bN) bM
theorem zO {l:List Producer} {id:Int} (h:bA l id=true):l.findIdx (has id)<l.length:=by
 rw [List.findIdx_lt_length]
 simpa [bA,List.find?_isSome] using h
theorem Lg {l:List Producer} {id:Int} (h:bA l id=true):l[l.findIdx (has id)]?.getD default=findD l id:=by
 have hlt:=zO h
 unfold findD
 rw [List.getElem?_eq_getElem hlt]
 simp [List.find?_eq_getElem?_findIdx,hlt]
def Jf (b:Bool) (l:List Producer) (id:Int) (seq:Int) (hl:l.length<=9223372036854775806):Prop :=
 ((id==0)=true->(4=aS l id seq/\0=eu l id seq/\True)/\True)/\((id==0)=false->(decide (seq<1)=true->(4=aS l id seq/\0=eu l id seq/\True)/\True)/\(decide (seq<1)=false->(decide (9223372036854775807<seq)=true->(4=aS l id seq/\0=eu l id seq/\True)/\True)/\(decide (9223372036854775807<seq)=false->((b=b/\l.length=l.length/\aj l.length 4 (ah ak l) (ah ak l))/\id=id/\True)/\True/\(decide (gM l id<0)=true->(1=aS l id seq/\0=eu l id seq/\True)/\True)/\(decide (gM l id<0)=false->(decide (0<=gM l id)&&decide (gM l id<(l.length:Int)))=true/\(decide ((l.getD (Int.toNat (gM l id)) default).seq<seq)=true->(1=aS l id seq/\0=eu l id seq/\True)/\True)/\(decide ((l.getD (Int.toNat (gM l id)) default).seq<seq)=false->(decide (0<=gM l id)&&decide (gM l id<(l.length:Int)))=true/\((seq==(l.getD (Int.toNat (gM l id)) default).seq)=true->(decide (0<=gM l id)&&decide (gM l id<(l.length:Int)))=true/\((l.getD (Int.toNat (gM l id)) default).here=true->(decide (0<=gM l id)&&decide (gM l id<(l.length:Int)))=true/\(2=aS l id seq/\(l.getD (Int.toNat (gM l id)) default).offset=eu l id seq/\True)/\True)/\((l.getD (Int.toNat (gM l id)) default).here=false->(3=aS l id seq/\0=eu l id seq/\True)/\True))/\((seq==(l.getD (Int.toNat (gM l id)) default).seq)=false->(3=aS l id seq/\0=eu l id seq/\True)/\True))))))
theorem Gv (b:Bool) (l:List Producer) (id:Int) (seq:Int) (hl:l.length<=9223372036854775806):(bf Tryz.prog (LQ b l id hl) 94 [bg b l,.y (.int .u64 id),.y (.int .u64 seq)] [] (ru l id seq))=Jf b l id seq hl:=by kernel_rfl
theorem GI (b:Bool) (l:List Producer) (id seq:Int) (hl:l.length<=9223372036854775806):(ru l id seq).Sat (aB Tryz.prog 94 [bg b l,.y (.int .u64 id),.y (.int .u64 seq)] []):=by
 refine aP (ht:=(LQ b l id hl)) Tryz.mixed rfl ?_
 rw [Gv b l id seq hl]
 unfold Jf
 by_cases hf:bA l id=true
 · have h1:=Lg hf
   have h2:=zO hf
   simp [aS,eu,Ck,gM,hf,h1]
   grind
 · simp [aS,eu,Ck,gM,hf]
   grind
def Cc (l:List Producer):T An:=.ret (.own 0 4 0 l.length,[.row 80 4 l.length none (ah ak l)],[])
noncomputable def Ev:aC Tryz.prog:=hh _ bO bN (op1 101 2 0 (.row 80 4) bM)
def qg (l:List Producer):Prop :=
 (0=0/\0=l.length)/\(0=l.length/\aj 0 4 (fun (x x_1:Nat)=>AV.junk) (ah ak l))/\True
theorem rW (l:List Producer):(bf Tryz.prog Ev 101 [.s (.slice none 0 0)] [] (Cc l))=qg l:=by kernel_rfl
def qF (b:Bool) (l:List Producer):Prop :=
 (decide (0+l.length<=9223372036854775807)&&decide ((0+l.length)*32<=140737488355328))=true/\(0=0/\0+l.length=l.length)/\(0+l.length=l.length/\aj (0+l.length) 4 (aY 0 (fun (k j:Nat)=>AV.junk) (ah ak l)) (ah ak l))/\True
theorem qJ (b:Bool) (l:List Producer):(bf Tryz.prog Ev 101 [.yn b 4 l.length (ah ak l)] [] (Cc l))=qF b l:=by kernel_rfl
theorem y5 (b:Bool) (l:List Producer) (hl:l.length*32<=140737488355328):(Cc l).Sat (aB Tryz.prog 101 [bg b l] []):=by
 refine wR (pre:=[]) (post:=[]) (fun h0=>?_) ?_ ⟨_,rfl⟩
 · refine aP (ht:=Ev) Tryz.mixed rfl ?_
   rw [List.nil_append,rW l]
   unfold qg
   simp [h0]
 · refine aP (ht:=Ev) Tryz.mixed rfl ?_
   rw [List.nil_append,qJ b l]
   unfold qF
   simp
   omega
def ixT (b:Bool) (x:Producer) (l:List Producer) (k:Nat):List AV:=mkT 19 [(0,bg b l),(1,.fn (.func 173) [] [.ip false 4 (get (ak x))]),(4,.s (.int .i64 0)),(7,.y (.int .i64 l.length)),(8,.y (.int .i64 k))]
def ixS (r:Bool×Nat):Exit×List AV×List ay:=match r.1 with
 | true=>(.ret,mkT 19 [(4,.y (.int .i64 r.2))],[])
 | false=>(.exit 0,mkT 19 [],[])
def abM (b:Bool) (x:Producer) (l:List Producer) (k:Nat):Prop :=
 (decide ((↑k:Int)<(↑(List.length l):Int))=true->(true&&decide ((↑k:Int)<(↑(List.length l):Int)))=true/\(((List.getD l (Int.toNat (↑k:Int)) (@default Producer instInhabitedProducer)).id==x.id)=true->(bA (List.drop k l) x.id=true->((↑k:Int)=(↑(k+List.findIdx (has x.id) (List.drop k l)):Int)/\True)/\True/\true=true)/\(bA (List.drop k l) x.id=false->False))/\(((List.getD l (Int.toNat (↑k:Int)) (@default Producer instInhabitedProducer)).id==x.id)=false->∃ (j:Nat),List.length l - j<List.length l - k/\(((b=b/\List.length l=List.length l/\aj (List.length l) (4:Nat) (ah ak l) (ah ak l))/\(True/\(false=false/\(4:Nat)<=(4:Nat)/\gq (4:Nat) (Ax.get [AV.y (Value.int IntKind.u64 x.id),AV.y (Value.int IntKind.u64 x.seq),AV.y (Value.bool x.here),AV.y (Value.int IntKind.u64 x.offset)]) (Ax.get [AV.y (Value.int IntKind.u64 x.id),AV.y (Value.int IntKind.u64 x.seq),AV.y (Value.bool x.here),AV.y (Value.int IntKind.u64 x.offset)]))/\True)/\(0:Int)=(0:Int)/\(↑(List.length l):Int)=(↑(List.length l):Int)/\IntKind.wrap IntKind.i64 ((↑k:Int)+(1:Int))=(↑j:Int)/\True)/\True/\true=true)/\true=true/\(bA (List.drop j l) x.id=true->(bA (List.drop k l) x.id=true->(true,j+List.findIdx (has x.id) (List.drop j l))=(true,k+List.findIdx (has x.id) (List.drop k l)))/\(bA (List.drop k l) x.id=false->(true,j+List.findIdx (has x.id) (List.drop j l))=(false,(0:Nat))))/\(bA (List.drop j l) x.id=false->(bA (List.drop k l) x.id=true->(false,(0:Nat))=(true,k+List.findIdx (has x.id) (List.drop k l)))/\(bA (List.drop k l) x.id=false->(false,(0:Nat))=(false,(0:Nat))))))/\(decide ((↑k:Int)<(↑(List.length l):Int))=false->(bA (List.drop k l) x.id=true->False)/\(bA (List.drop k l) x.id=false->True/\True/\true=true))
theorem Vn (b:Bool) (x:Producer) (l:List Producer) (k:Nat):(bP Tryz.prog (hT _) 116 2 (fun k=>l.length - k) (ixT b x l) (fun _=>[]) [] (GD x.id l) ixS k)=abM b x l k:=by kernel_rfl
theorem Zc (b:Bool) (x:Producer) (l:List Producer) (hl:l.length<=9223372036854775806) (k:Nat):aL Tryz.prog 116 2 (aN Tryz.prog 116 2) ⟨ixT b x l k,[],[]⟩ ((GD x.id l k).map (bJ [] ixS)):=by
 refine dY Tryz.mixed (fun _=>rfl) (fun k=>(Vn b x l k).mpr ?_) k
 unfold abM
 simp
 refine ⟨fun h=>?_,fun h=>by simp [bA,iX h]⟩
 simp (disch:=omega) only [wrap_i64]
 rw [drop_cons h]
 simp only [uo,GQ]
 generalize l[k]?.getD default=y
 by_cases hx:y.id=x.id<;>simp [hx,h,cast_succ_eq]
 refine ⟨k+1,by omega,rfl,?_⟩
 grind
noncomputable def ixH (b:Bool) (x:Producer) (l:List Producer):aC Tryz.prog:=hh _ (mU 116 2 (dM (ixT b x l) (fun _=>[]) [] (GD x.id l) ixS 0) bO) bN bM
def ag4 (b:Bool) (x:Producer) (l:List Producer):Prop :=
 (((b=b/\List.length l=List.length l/\aj (List.length l) (4:Nat) (ah ak l) (ah ak l))/\(True/\(false=false/\(4:Nat)<=(4:Nat)/\gq (4:Nat) (Ax.get [AV.y (Value.int IntKind.u64 x.id),AV.y (Value.int IntKind.u64 x.seq),AV.y (Value.bool x.here),AV.y (Value.int IntKind.u64 x.offset)]) (Ax.get [AV.y (Value.int IntKind.u64 x.id),AV.y (Value.int IntKind.u64 x.seq),AV.y (Value.bool x.here),AV.y (Value.int IntKind.u64 x.offset)]))/\True)/\(0:Int)=(0:Int)/\(↑(List.length l):Int)=(↑(List.length l):Int)/\(0:Int)=(0:Int)/\True)/\True/\true=true)/\aL Tryz.prog (116:Nat) (2:Nat) (aN Tryz.prog (116:Nat) (2:Nat)) { t:=ixT b x l (0:Nat),m:=[],mv:=[]:St } (T.map (bJ [] ixS) (GD x.id l (0:Nat)))/\(bA (List.drop (0:Nat) l) x.id=true->(↑((0:Nat)+List.findIdx (has x.id) (List.drop (0:Nat) l)):Int)=gM l x.id/\True)/\(bA (List.drop (0:Nat) l) x.id=false->(-1:Int)=gM l x.id/\True)
theorem YA (b:Bool) (x:Producer) (l:List Producer):(bf Tryz.prog (ixH b x l) 116 [bg b l,.fn (.func 173) [] [.ip false 4 (get (ak x))]] [] (Cu l x.id))=ag4 b x l:=by kernel_rfl
theorem ahZ (b:Bool) (x:Producer) (l:List Producer) (hl:l.length<=9223372036854775806):(Cu l x.id).Sat (aB Tryz.prog 116 [bg b l,.fn (.func 173) [] [.ip false 4 (get (ak x))]] []):=by
 refine aP (ht:=ixH b x l) Tryz.mixed rfl ?_
 rw [YA b x l]
 unfold ag4
 have:=Zc b x l hl 0
 simp [this,gM]
noncomputable def ixC (b:Bool) (x:Producer) (l:List Producer) (hl:l.length<=9223372036854775806):dZ Tryz.prog:=⟨116,[bg b l,.fn (.func 173) [] [.ip false 4 (get (ak x))]],[],Cu l x.id,ahZ b x l hl⟩
end P
end Go.Proofs.YtnbhdjadlbhknaaGreatDoor
