import Derived.Test.YtnbhdjadlbhknaaGreatDoorProg
import Derived.KernelRfl
import Derived.Shelf.Strings.SlTrimAscii
import Derived.Test.YtnbhdjadlbhknaaGreatDoorE12
set_option linter.unusedVariables false
set_option linter.unusedSimpArgs false
namespace Go.Proofs.YtnbhdjadlbhknaaGreatDoor
open Go.Ax
noncomputable instance ah7:Inhabited jZ:=⟨⟨[(0,191,typeHandle Tryz.prog 74)]⟩⟩
end Go.Proofs.YtnbhdjadlbhknaaGreatDoor

namespace Go.Proofs.YtnbhdjadlbhknaaGreatDoor
open Go.Ax
set_option maxRecDepth 1000000
structure Rec where
 off:Int
 key:ByteArray
 val:List Int
 prod:Int
 seq:Int
instance:Inhabited Rec:=⟨⟨0,ByteArray.empty,[],0,0⟩⟩
structure kJ where
 lo:ByteArray
 hi:ByteArray
instance:Inhabited kJ:=⟨⟨ByteArray.empty,ByteArray.empty⟩⟩
structure Con where
 name:ByteArray
 off:Int
instance:Inhabited Con:=⟨⟨ByteArray.empty,0⟩⟩
def aJ (x:Int):List AV:=[.y (.int .u8 x)]
def G6 (x:Int):List AV:=[.y (.int .u64 x)]
def ig (b:Bool) (l:List Int):AV:=.ys b 1 l.length (ah aJ l)
def lu (a b:List Int):Prop:=true=true/\List.length a=List.length b/\aj (List.length a) (1:Nat) (ah aJ a) (ah aJ b)
@[simp] theorem ahE (a b:List Int):lu a b=(true=true/\List.length a=List.length b/\aj (List.length a) (1:Nat) (ah aJ a) (ah aJ b)):=rfl
def aaK (b:Bool) (l:List Int):AV:=.ys b 1 l.length (ah G6 l)
def encR (x:Rec):List AV:=[.y (.int .u64 x.off),.y (.string x.key),ig true x.val,.y (.int .u64 x.prod),.y (.int .u64 x.seq)]
def dL (b:Bool) (l:List Rec):AV:=.ys b 5 l.length (ah encR l)
def aD (x:Con):List AV:=[.y (.string x.name),.y (.int .u64 x.off)]
def dB (b:Bool) (l:List Con):AV:=.ys b 2 l.length (ah aD l)
def mG (r:kJ):List AV:=[.y (.string r.lo),.y (.string r.hi)]
def ah5 (l:List Int):ay:=.row 25 1 l.length none (ah G6 l)
def OJ (l:List Rec):ay:=.row 54 5 l.length none (ah encR l)
def FY (l:List Con):ay:=.row 83 2 l.length none (ah aD l)
theorem Tryz.mixed:Tryz.prog.follows .mixedOrders=true:=by kernel_rfl
def aZ (b:Bool):T An:=.ret (.y (.bool b),[],[])
def yN (k:Int):T An:=.ret (.y (.int .i64 k),[],[])
def Cc (n:Nat) (c:Nat->Nat->AV):T An:=.ret (.own 0 1 0 n,[.row 5 1 n none c],[])
noncomputable def Ev:aC Tryz.prog:=hh _ bO bN (op1 100 2 0 (.row 5 1) bM)
def qg (n:Nat) (c:Nat->Nat->AV):Prop :=
 (0=0/\0=n)/\(0=n/\aj 0 1 (fun (x x_1:Nat)=>AV.junk) c)/\True
theorem rW (n:Nat) (c:Nat->Nat->AV):(bf Tryz.prog Ev 100 [.s (.slice none 0 0)] [] (Cc n c))=qg n c:=by kernel_rfl
def qF (b:Bool) (n:Nat) (c:Nat->Nat->AV):Prop :=
 (decide (0+n<=9223372036854775807)&&decide ((0+n)*1<=140737488355328))=true/\(0=0/\0+n=n)/\(0+n=n/\aj (0+n) 1 (aY 0 (fun (k j:Nat)=>AV.junk) c) c)/\True
theorem qJ (b:Bool) (n:Nat) (c:Nat->Nat->AV):(bf Tryz.prog Ev 100 [.yn b 1 n c] [] (Cc n c))=qF b n c:=by kernel_rfl
theorem y5 (b:Bool) (n:Nat) (c:Nat->Nat->AV) (hl:n<=140737488355328):(Cc n c).Sat (aB Tryz.prog 100 [.ys b 1 n c] []):=by
 refine wR (pre:=[]) (post:=[]) (fun h0=>?_) ?_ ⟨_,rfl⟩
 · refine aP (ht:=Ev) Tryz.mixed rfl ?_
   rw [List.nil_append,rW n c]
   unfold qg
   simp [h0]
 · refine aP (ht:=Ev) Tryz.mixed rfl ?_
   rw [List.nil_append,qJ b n c]
   unfold qF
   simp
   omega
noncomputable def QI (b:Bool) (n:Nat) (c:Nat->Nat->AV):dZ Tryz.prog:=⟨100,[.ys b 1 n c],[],.need (n<=140737488355328) (Cc n c),T.Sat.need fun h=>y5 b n c h⟩
def Rec.to (x:Rec) (o:Int):Rec:=⟨o,x.key,x.val,x.prod,x.seq⟩
def adx (x:Rec):T An:=.ret (.agg (encR x),[],[])
noncomputable def atH:aC Tryz.prog:=dO (hh _ bO bN bM) (uL 144 3 0 779 noSh)
def agt (x:Rec) (o:Int):Prop :=
 (decide (0+x.val.length<=9223372036854775807)&&decide ((0+x.val.length)*1<=140737488355328))=true/\(∀ k,k<0+x.val.length->∀ j,j<1->fC (aY 0 (fun (k j:Nat)=>AV.junk) (ah aJ x.val) k j)=true)/\(IntKind.u64.wrap o=IntKind.u64.wrap o/\x.key=x.key/\(true=true/\0+x.val.length=x.val.length/\aj (0+x.val.length) 1 (Ax.rowAt 0 (aY 0 (fun (k j:Nat)=>AV.junk) (ah aJ x.val))) (ah aJ x.val))/\x.prod=x.prod/\x.seq=x.seq/\True)/\True
theorem Yn (x:Rec) (o:Int):(bf Tryz.prog atH 144 [.agg (encR x),.y (.int .i64 o)] [] (adx (x.to (IntKind.u64.wrap o))))=agt x o:=by kernel_rfl
def lt (a b:ByteArray):Bool:=Op.bytesLess a.data.toList b.data.toList
def fK (r:kJ):Int:=if 32<r.lo.size∨32<r.hi.size then 131 else if (!r.hi.data.toList==[])=true/\(lt r.hi r.lo||r.hi.data.toList==r.lo.data.toList)=true then 132 else 0
def aa4 (r:kJ):Prop :=
 (decide (32<((ByteArray.size r.lo):Int))=true->131=fK r/\True)/\(decide (32<((ByteArray.size r.lo):Int))=false->(decide (32<((ByteArray.size r.hi):Int))=true->131=fK r/\True)/\(decide (32<((ByteArray.size r.hi):Int))=false->((!r.hi.data.toList==[])=true->((Op.bytesLess r.hi.data.toList r.lo.data.toList||r.hi.data.toList==r.lo.data.toList)=true->132=fK r/\True)/\((Op.bytesLess r.hi.data.toList r.lo.data.toList||r.hi.data.toList==r.lo.data.toList)=false->0=fK r/\True))/\((!r.hi.data.toList==[])=false->0=fK r/\True)))
theorem Vs (r:kJ):(bf Tryz.prog (hT _) 37 [.agg (mG r)] [] (yN (fK r)))=aa4 r:=by kernel_rfl
def RO (r:kJ):Prop :=
 (decide (32<((ByteArray.size r.lo):Int))=true->131=fK r/\True)/\(decide (32<((ByteArray.size r.lo):Int))=false->(decide (32<((ByteArray.size r.hi):Int))=true->131=fK r/\True)/\(decide (32<((ByteArray.size r.hi):Int))=false->((!r.hi.data.toList==[])=true->((Op.bytesLess r.hi.data.toList r.lo.data.toList||r.hi.data.toList==r.lo.data.toList)=true->132=fK r/\True)/\((Op.bytesLess r.hi.data.toList r.lo.data.toList||r.hi.data.toList==r.lo.data.toList)=false->0=fK r/\True))/\((!r.hi.data.toList==[])=false->0=fK r/\True)))
theorem Ob (r:kJ):(bf Tryz.prog (hT _) 53 [.agg (mG r)] [] (yN (fK r)))=RO r:=by kernel_rfl
theorem ahU (x:Rec) (o:Int) (h:x.val.length<=140737488355328):(adx (x.to (IntKind.u64.wrap o))).Sat (aB Tryz.prog 144 [.agg (encR x),.y (.int .i64 o)] []):=by
 refine aP (ht:=atH) Tryz.mixed rfl ?_
 rw [Yn x o]
 unfold agt
 simp
 exact ⟨⟨by omega,by omega⟩,fun _ _=>rfl⟩
noncomputable def atC (x:Rec) (o:Int):dZ Tryz.prog:=⟨144,[.agg (encR x),.y (.int .i64 o)],[],.need (x.val.length<=140737488355328) (adx (x.to (IntKind.u64.wrap o))),T.Sat.need fun h=>ahU x o h⟩
theorem af4 (r:kJ):(yN (fK r)).Sat (aB Tryz.prog 37 [.agg (mG r)] []):=by
 refine aP (ht:=hT _) Tryz.mixed rfl ?_
 rw [Vs r]
 unfold aa4 fK lt
 simp
 grind
theorem aeA (r:kJ):(yN (fK r)).Sat (aB Tryz.prog 53 [.agg (mG r)] []):=by
 refine aP (ht:=hT _) Tryz.mixed rfl ?_
 rw [Ob r]
 unfold RO fK lt
 simp
 grind
noncomputable def acd (r:kJ):dZ Tryz.prog:=⟨37,[.agg (mG r)],[],yN (fK r),af4 r⟩
noncomputable def TQ (r:kJ):dZ Tryz.prog:=⟨53,[.agg (mG r)],[],yN (fK r),aeA r⟩
def fZ (r:kJ) (k:ByteArray):Bool:=fK r==0&&(decide ((k.size:Int)<=32)&&((lt r.lo k||r.lo.data.toList==k.data.toList)&&(r.hi.data.toList==[]||lt k r.hi)))
noncomputable def afS (r:kJ):aC Tryz.prog:=hh _ bO (cs1 115 1 1 (acd r) bN) bM
noncomputable def abr (r:kJ):aC Tryz.prog:=hh _ bO (cs1 54 1 1 (TQ r) bN) bM
def aaG (r:kJ) (k:ByteArray):Prop :=
 ((r.lo=r.lo/\r.hi=r.hi/\True)/\True)/\True/\((fK r==0)=true->(decide (((ByteArray.size k):Int)<=32)=true->((Op.bytesLess r.lo.data.toList k.data.toList||r.lo.data.toList==k.data.toList)=true->((r.hi.data.toList==[])=true->true=fZ r k/\True)/\((r.hi.data.toList==[])=false->Op.bytesLess k.data.toList r.hi.data.toList=fZ r k/\True))/\((Op.bytesLess r.lo.data.toList k.data.toList||r.lo.data.toList==k.data.toList)=false->false=fZ r k/\True))/\(decide (((ByteArray.size k):Int)<=32)=false->false=fZ r k/\True))/\((fK r==0)=false->false=fZ r k/\True)
theorem Ti (r:kJ) (k:ByteArray):(bf Tryz.prog (afS r) 115 [.agg (mG r),.y (.string k)] [] (aZ (fZ r k)))=aaG r k:=by kernel_rfl
def Rm (r:kJ) (k:ByteArray):Prop :=
 ((r.lo=r.lo/\r.hi=r.hi/\True)/\True)/\True/\((fK r==0)=true->(decide (((ByteArray.size k):Int)<=32)=true->((!Op.bytesLess k.data.toList r.lo.data.toList)=true->((r.hi.data.toList==[])=true->true=fZ r k/\True)/\((r.hi.data.toList==[])=false->Op.bytesLess k.data.toList r.hi.data.toList=fZ r k/\True))/\((!Op.bytesLess k.data.toList r.lo.data.toList)=false->false=fZ r k/\True))/\(decide (((ByteArray.size k):Int)<=32)=false->false=fZ r k/\True))/\((fK r==0)=false->false=fZ r k/\True)
theorem Px (r:kJ) (k:ByteArray):(bf Tryz.prog (abr r) 54 [.agg (mG r),.y (.string k)] [] (aZ (fZ r k)))=Rm r k:=by kernel_rfl
theorem jg:∀ l:List UInt8,Op.bytesLess l l=false
 | []=>rfl
 | a::l=>by simp [Op.bytesLess,jg l]
theorem uf:∀ (a b:List UInt8),Op.bytesLess a b=true->Op.bytesLess b a=false
 | [],[],h=>by simp [Op.bytesLess] at h
 | [],_::_,_=>rfl
 | _::_,[],h=>by simp [Op.bytesLess] at h
 | a::l,b::m,h=>by
   simp only [Op.bytesLess,Bool.or_eq_true,Bool.and_eq_true,decide_eq_true_eq,beq_iff_eq] at h ⊢
   rcases h with h | ⟨rfl,h⟩
   · have h1:¬ b<a:=UInt8.not_lt.2 (UInt8.le_of_lt h)
     have h2:¬ b=a:=fun e=>by subst e;exact absurd h (UInt8.lt_irrefl _)
     simp [h1,h2]
   · have:=uf l m h
     simp [this]
theorem l5:∀ (a b:List UInt8),Op.bytesLess a b=false->Op.bytesLess b a=false->a=b
 | [],[],_,_=>rfl
 | [],_::_,h,_=>by simp [Op.bytesLess] at h
 | _::_,[],_,h=>by simp [Op.bytesLess] at h
 | a::l,b::m,h,k=>by
   simp only [Op.bytesLess,Bool.or_eq_false_iff,Bool.and_eq_false_iff,decide_eq_false_iff_not,beq_eq_false_iff_ne] at h k
   have e:a=b:=UInt8.le_antisymm (UInt8.not_lt.1 k.1) (UInt8.not_lt.1 h.1)
   subst e
   rw [l5 l m (h.2.resolve_left fun q=>q rfl) (k.2.resolve_left fun q=>q rfl)]
theorem Sn (a b:List UInt8):(!Op.bytesLess a b)=(Op.bytesLess b a||b==a):=by
 cases h:Op.bytesLess a b
 · cases k:Op.bytesLess b a
   · simp [l5 a b h k]
   · rfl
 · have h1:=uf a b h
   have h2:¬ b=a:=fun e=>by subst e;rw [jg] at h;cases h
   simp [h1,h2]
theorem agr (r:kJ) (k:ByteArray):(aZ (fZ r k)).Sat (aB Tryz.prog 115 [.agg (mG r),.y (.string k)] []):=by
 refine aP (ht:=afS r) Tryz.mixed rfl ?_
 rw [Ti r k]
 unfold aaG
 unfold fZ lt
 generalize (fK r==0)=a
 generalize decide ((k.size:Int)<=32)=b
 generalize Op.bytesLess r.lo.data.toList k.data.toList=c
 generalize (r.lo.data.toList==k.data.toList)=d
 generalize (r.hi.data.toList==[])=e
 generalize Op.bytesLess k.data.toList r.hi.data.toList=f
 cases a<;>cases b<;>cases c<;>cases d<;>cases e<;>cases f<;>simp
theorem adf (r:kJ) (k:ByteArray):(aZ (fZ r k)).Sat (aB Tryz.prog 54 [.agg (mG r),.y (.string k)] []):=by
 refine aP (ht:=abr r) Tryz.mixed rfl ?_
 rw [Px r k]
 unfold Rm
 unfold fZ lt
 simp only [Sn]
 generalize (fK r==0)=a
 generalize decide ((k.size:Int)<=32)=b
 generalize Op.bytesLess r.lo.data.toList k.data.toList=c
 generalize (r.lo.data.toList==k.data.toList)=d
 generalize (r.hi.data.toList==[])=e
 generalize Op.bytesLess k.data.toList r.hi.data.toList=f
 cases a<;>cases b<;>cases c<;>cases d<;>cases e<;>cases f<;>simp
def VA (x:Rec) (k:Nat):Bool:=!(x.off != IntKind.u64.wrap k)&&(decide (x.key.size<=32)&&decide (x.val.length<=256))
def aU (l:List Rec) (k:Nat):Bool:=(List.range' k (l.length - k)).all fun j=>VA (l.getD j default) j
theorem rH {l:List Rec} {k:Nat} (h:l.length<=k):aU l k=true:=by
 unfold aU
 rw [show l.length - k=0 by omega];rfl
theorem oZ {l:List Rec} {k:Nat} (h:k<l.length):aU l k=(VA (l.getD k default) k&&aU l (k+1)):=by
 unfold aU
 rw [show l.length - k=(l.length - (k+1))+1 by omega,List.range'_succ];rfl
def bG (l:List Rec):Bool:=aU l 0&&decide (l.length<=4096)
def lgT (b:Bool) (l:List Rec) (k:Nat):List AV:=mkT 33 [(0,dL b l),(2,.s (.bool false)),(5,dL b l),(6,.y (.int .i64 l.length)),(7,.y (.int .i64 k))]
def lgS (b:Bool) (l:List Rec) (r:Bool):Exit×List AV×List ay:=match r with
 | true=>(.exit 0,mkT 33 [(0,dL b l)],[])
 | false=>(.ret,mkT 33 [(2,.s (.bool false))],[])
def PS (l:List Rec) (k:Nat):T Bool:=.ite (aU l k) (.ret true) (.ret false)
def abx (b:Bool) (l:List Rec) (k:Nat):Prop :=
 (decide ((k:Int)<(l.length:Int))=true->(true&&decide ((k:Int)<(l.length:Int)))=true/\(((l.getD (Int.toNat (k:Int)) default).off != IntKind.u64.wrap (k:Int))=true->(aU l k=true->False)/\(aU l k=false->(false=false/\True)/\True/\true=true))/\(((l.getD (Int.toNat (k:Int)) default).off != IntKind.u64.wrap (k:Int))=false->(decide (32<((ByteArray.size (l.getD (Int.toNat (k:Int)) default).key):Int))=true->(aU l k=true->False)/\(aU l k=false->(false=false/\True)/\True/\true=true))/\(decide (32<((ByteArray.size (l.getD (Int.toNat (k:Int)) default).key):Int))=false->(decide (256<((l.getD (Int.toNat (k:Int)) default).val.length:Int))=true->(aU l k=true->False)/\(aU l k=false->(false=false/\True)/\True/\true=true))/\(decide (256<((l.getD (Int.toNat (k:Int)) default).val.length:Int))=false->∃ j:Nat,l.length - j<l.length - k/\(((b=b/\l.length=l.length/\aj l.length 5 (ah encR l) (ah encR l))/\false=false/\(b=b/\l.length=l.length/\aj l.length 5 (ah encR l) (ah encR l))/\(l.length:Int)=(l.length:Int)/\IntKind.i64.wrap ((k:Int)+1)=(j:Int)/\True)/\True/\true=true)/\true=true/\(aU l j=true->(aU l k=true->true=true)/\(aU l k=false->true=false))/\(aU l j=false->(aU l k=true->false=true)/\(aU l k=false->false=false))))))/\(decide ((k:Int)<(l.length:Int))=false->(aU l k=true->((b=b/\l.length=l.length/\aj l.length 5 (ah encR l) (ah encR l))/\True)/\True/\true=true)/\(aU l k=false->False))
theorem Vx (b:Bool) (l:List Rec) (k:Nat):(bP Tryz.prog (hT _) 44 2 (fun k=>l.length - k) (lgT b l) (fun _=>[]) [0] (PS l) (lgS b l) k)=abx b l k:=by kernel_rfl
noncomputable def lgH (b:Bool) (l:List Rec):aC Tryz.prog:=hh _ (mU 44 2 (dM (lgT b l) (fun _=>[]) [0] (PS l) (lgS b l) 0) bO) bN bM
def ahs (b:Bool) (l:List Rec):Prop :=
 (((b=b/\l.length=l.length/\aj l.length 5 (ah encR l) (ah encR l))/\false=false/\(b=b/\l.length=l.length/\aj l.length 5 (ah encR l) (ah encR l))/\(l.length:Int)=(l.length:Int)/\(0:Int)=0/\True)/\True/\true=true)/\aL Tryz.prog 44 2 (aN Tryz.prog 44 2) { t:=lgT b l 0,m:=[],mv:=[]:St } (T.map (bJ [0] (lgS b l)) (PS l 0))/\(aU l 0=true->decide ((l.length:Int)<=4096)=bG l/\True)/\(aU l 0=false->false=bG l/\True)
theorem XM (b:Bool) (l:List Rec):(bf Tryz.prog (lgH b l) 44 [dL b l] [] (aZ (bG l)))=ahs b l:=by kernel_rfl
def lrT (b:Bool) (l:List Rec) (k:Nat):List AV:=mkT 39 [(0,dL b l),(2,.s (.bool false)),(3,.y (.int .i64 k))]
def lrS (r:Bool):Exit×List AV×List ay:=match r with
 | true=>(.exit 0,mkT 39 [],[])
 | false=>(.ret,mkT 39 [(2,.s (.bool false))],[])
def aa1 (b:Bool) (l:List Rec) (k:Nat):Prop :=
 (decide ((k:Int)<(l.length:Int))=true->(true&&decide ((k:Int)<(l.length:Int)))=true/\(((l.getD (Int.toNat (k:Int)) default).off != IntKind.u64.wrap (k:Int))=true->(aU l k=true->False)/\(aU l k=false->(false=false/\True)/\True/\true=true))/\(((l.getD (Int.toNat (k:Int)) default).off != IntKind.u64.wrap (k:Int))=false->(true&&decide ((k:Int)<(l.length:Int)))=true/\(decide (32<((ByteArray.size (l.getD (Int.toNat (k:Int)) default).key):Int))=true->(aU l k=true->False)/\(aU l k=false->(false=false/\True)/\True/\true=true))/\(decide (32<((ByteArray.size (l.getD (Int.toNat (k:Int)) default).key):Int))=false->(true&&decide ((k:Int)<(l.length:Int)))=true/\(decide (256<((l.getD (Int.toNat (k:Int)) default).val.length:Int))=true->(aU l k=true->False)/\(aU l k=false->(false=false/\True)/\True/\true=true))/\(decide (256<((l.getD (Int.toNat (k:Int)) default).val.length:Int))=false->∃ j:Nat,l.length - j<l.length - k/\(((b=b/\l.length=l.length/\aj l.length 5 (ah encR l) (ah encR l))/\false=false/\IntKind.i64.wrap ((k:Int)+1)=(j:Int)/\True)/\True/\true=true)/\true=true/\(aU l j=true->(aU l k=true->true=true)/\(aU l k=false->true=false))/\(aU l j=false->(aU l k=true->false=true)/\(aU l k=false->false=false))))))/\(decide ((k:Int)<(l.length:Int))=false->(aU l k=true->True/\True/\true=true)/\(aU l k=false->False))
theorem Va (b:Bool) (l:List Rec) (k:Nat):(bP Tryz.prog (hT _) 50 4 (fun k=>l.length - k) (lrT b l) (fun _=>[]) [0] (PS l) lrS k)=aa1 b l k:=by kernel_rfl
noncomputable def lrH (b:Bool) (l:List Rec):aC Tryz.prog:=hh _ (mU 50 4 (dM (lrT b l) (fun _=>[]) [0] (PS l) lrS 0) bO) bN bM
def afm (b:Bool) (l:List Rec):Prop :=
 (decide (4096<(l.length:Int))=true->false=bG l/\True)/\(decide (4096<(l.length:Int))=false->(((b=b/\l.length=l.length/\aj l.length 5 (ah encR l) (ah encR l))/\false=false/\(0:Int)=0/\True)/\True/\true=true)/\aL Tryz.prog 50 4 (aN Tryz.prog 50 4) { t:=lrT b l 0,m:=[],mv:=[]:St } (T.map (bJ [0] lrS) (PS l 0))/\(aU l 0=true->true=bG l/\True)/\(aU l 0=false->false=bG l/\True))
theorem XR (b:Bool) (l:List Rec):(bf Tryz.prog (lrH b l) 50 [dL b l] [] (aZ (bG l)))=afm b l:=by kernel_rfl
def below (x y:Rec):Bool:=y.prod==x.prod&&decide (y.seq<x.seq)
def ahc (l:List Rec) (x:Rec):Bool:=l.any (below x)
theorem Wo (b:Bool) (l:List Rec) (hl:l.length<=9223372036854775806) (k:Nat):aL Tryz.prog 44 2 (aN Tryz.prog 44 2) ⟨lgT b l k,[],[]⟩ ((PS l k).map (bJ [0] (lgS b l))):=by
 refine dY Tryz.mixed (fun _=>rfl) (fun k=>(Vx b l k).mpr ?_) k
 unfold abx
 simp
 refine ⟨fun h=>?_,fun h=>by simp [rH h]⟩
 rw [oZ h]
 simp (disch:=omega) only [wrap_i64]
 simp [VA,cast_succ_eq]
 generalize l[k]?.getD default=x
 grind
theorem aiv (b:Bool) (l:List Rec) (hl:l.length<=9223372036854775806):(aZ (bG l)).Sat (aB Tryz.prog 44 [dL b l] []):=by
 refine aP (ht:=lgH b l) Tryz.mixed rfl ?_
 rw [XM b l]
 unfold ahs
 have:=Wo b l hl 0
 simp [this,bG]
 grind
theorem XG (b:Bool) (l:List Rec) (hl:l.length<=9223372036854775806) (k:Nat):aL Tryz.prog 50 4 (aN Tryz.prog 50 4) ⟨lrT b l k,[],[]⟩ ((PS l k).map (bJ [0] lrS)):=by
 refine dY Tryz.mixed (fun _=>rfl) (fun k=>(Va b l k).mpr ?_) k
 unfold aa1
 simp
 refine ⟨fun h=>?_,fun h=>by simp [rH h]⟩
 rw [oZ h]
 simp (disch:=omega) only [wrap_i64]
 simp [VA,cast_succ_eq]
 generalize l[k]?.getD default=x
 grind
theorem aiH (b:Bool) (l:List Rec) (hl:l.length<=9223372036854775806):(aZ (bG l)).Sat (aB Tryz.prog 50 [dL b l] []):=by
 refine aP (ht:=lrH b l) Tryz.mixed rfl ?_
 rw [XR b l]
 unfold afm
 have:=XG b l hl 0
 simp [this,bG]
 grind
noncomputable def lgC (b:Bool) (l:List Rec):dZ Tryz.prog:=⟨44,[dL b l],[],.need (l.length<=9223372036854775806) (aZ (bG l)),T.Sat.need fun h=>aiv b l h⟩
noncomputable def lrC (b:Bool) (l:List Rec):dZ Tryz.prog:=⟨50,[dL b l],[],.need (l.length<=9223372036854775806) (aZ (bG l)),T.Sat.need fun h=>aiH b l h⟩
def hd (l:List Rec):Rec:=l.getD 0 default
structure Jo where
 (a b out:List Rec) (ta tb:List Int)
def Jo.tA (s:Jo):Bool:=!s.a.isEmpty&&!ahc s.b (hd s.a)
def Jo.tB (s:Jo):Bool:=!s.b.isEmpty&&!ahc s.a (hd s.b)
def Jo.at (s:Jo):Int:=IntKind.u64.wrap (s.out.length:Nat)
def Jo.goA (s:Jo):Jo:=⟨s.a.tail,s.b,s.out++[(hd s.a).to s.at],s.ta++[s.at],s.tb⟩
def Jo.goB (s:Jo):Jo:=⟨s.a,s.b.tail,s.out++[(hd s.b).to s.at],s.ta,s.tb++[s.at]⟩
def P_:Nat->Jo->Option Jo
 | 0,s=>some s
 | n+1,s=>if s.tA then P_ n s.goA else if s.tB then P_ n s.goB else none
def Jo.run (s:Jo):Option Jo:=P_ (s.a.length+s.b.length) s
structure Jo.Ok (s:Jo):Prop where
 a:∀ x∈s.a,x.val.length<=256
 b:∀ x∈s.b,x.val.length<=256
 n:s.a.length+s.b.length+s.out.length<=4096
 ta:s.ta.length<=s.out.length
 tb:s.tb.length<=s.out.length
def Jo.end (s:Jo):Jo:=⟨s.a,s.b,s.out,s.ta++[s.at],s.tb++[s.at]⟩
theorem adR {cs:List AV} {x:Rec} (h0:qA (get cs 0) (.y (.int .u64 x.off))) (h1:qA (get cs 1) (.y (.string x.key))) (h2:qA (get cs 2) (ig true x.val)) (h3:qA (get cs 3) (.y (.int .u64 x.prod))) (h4:qA (get cs 4) (.y (.int .u64 x.seq))):∀ j,j<5->qA (get cs j) (get (encR x) j):=by
 intro j hj
 match j,hj with
 | 0,_=>exact h0
 | 1,_=>exact h1
 | 2,_=>exact h2
 | 3,_=>exact h3
 | 4,_=>exact h4
end Go.Proofs.YtnbhdjadlbhknaaGreatDoor

namespace Go.Proofs
open Go.Shelf
def Tryz.I_:Go.Shelf.Ren:=⟨fun | 160=>133 | 232=>151 | 231=>150 | 227=>152 | 234=>154 | 233=>153 | 236=>156 | 235=>155 | 228=>161 | 271=>164 | 151=>163 | 197=>162 | 120=>171 | 152=>170 | 260=>169 | 137=>181 | 119=>182 | 224=>183 | 225=>184 | 217=>189 | 266=>192 | n=>n,fun | 9=>9 | 4=>4 | 3=>3 | 5=>5 | 117=>215 | 116=>214 | 0=>0 | 124=>218 | 21=>21 | 105=>226 | 46=>165 | 119=>240 | 139=>243 | 138=>242 | n=>n,fun | 3=>1 | 4=>2 | n=>n⟩
theorem Tryz.Xm:Go.Proofs.Lays.n160 Tryz.prog Tryz.I_:={
 mixed:=by kernel_rfl
 f119:=Tryz.func182.trans (congrArg some (by kernel_rfl))
 f120:=Tryz.func171.trans (congrArg some (by kernel_rfl))
 f137:=Tryz.func181.trans (congrArg some (by kernel_rfl))
 f151:=Tryz.func163.trans (congrArg some (by kernel_rfl))
 f152:=Tryz.func170.trans (congrArg some (by kernel_rfl))
 f160:=Tryz.func133.trans (congrArg some (by kernel_rfl))
 f197:=Tryz.func162.trans (congrArg some (by kernel_rfl))
 f217:=Tryz.func189.trans (congrArg some (by kernel_rfl))
 f224:=Tryz.func183.trans (congrArg some (by kernel_rfl))
 f225:=Tryz.func184.trans (congrArg some (by kernel_rfl))
 f227:=Tryz.func152.trans (congrArg some (by kernel_rfl))
 f228:=Tryz.func161.trans (congrArg some (by kernel_rfl))
 f231:=Tryz.func150.trans (congrArg some (by kernel_rfl))
 f232:=Tryz.func151.trans (congrArg some (by kernel_rfl))
 f233:=Tryz.func153.trans (congrArg some (by kernel_rfl))
 f234:=Tryz.func154.trans (congrArg some (by kernel_rfl))
 f235:=Tryz.func155.trans (congrArg some (by kernel_rfl))
 f236:=Tryz.func156.trans (congrArg some (by kernel_rfl))
 f260:=Tryz.func169.trans (congrArg some (by kernel_rfl))
 f266:=Tryz.func192.trans (congrArg some (by kernel_rfl))
 f271:=Tryz.func164.trans (congrArg some (by kernel_rfl))
 t0:=Tryz.underlying0
 a0:=Tryz.isAgg0
 z0:=Tryz.sizeOf0
 v0:=Tryz.zeroValue0
 t3:=Tryz.underlying3
 a3:=Tryz.isAgg3
 z3:=Tryz.sizeOf3
 v3:=Tryz.zeroValue3
 t4:=Tryz.underlying4
 a4:=Tryz.isAgg4
 z4:=Tryz.sizeOf4
 v4:=Tryz.zeroValue4
 t5:=Tryz.underlying5
 a5:=Tryz.isAgg5
 z5:=Tryz.sizeOf5
 v5:=Tryz.zeroValue5
 t9:=Tryz.underlying9
 a9:=Tryz.isAgg9
 z9:=Tryz.sizeOf9
 v9:=Tryz.zeroValue9
 t21:=Tryz.underlying21
 a21:=Tryz.isAgg21
 z21:=Tryz.sizeOf21
 v21:=Tryz.zeroValue21
 t46:=Tryz.underlying165
 a46:=Tryz.isAgg165
 z46:=Tryz.sizeOf165
 v46:=Tryz.zeroValue165
 t105:=Tryz.underlying226
 a105:=Tryz.isAgg226
 z105:=Tryz.sizeOf226
 v105:=Tryz.zeroValue226
 t116:=Tryz.underlying214
 a116:=Tryz.isAgg214
 z116:=Tryz.sizeOf214
 t117:=Tryz.underlying215
 a117:=Tryz.isAgg215
 z117:=Tryz.sizeOf215
 v117:=Tryz.zeroValue215
 t119:=Tryz.underlying240
 a119:=Tryz.isAgg240
 z119:=Tryz.sizeOf240
 t124:=Tryz.underlying218
 a124:=Tryz.isAgg218
 z124:=Tryz.sizeOf218
 v124:=Tryz.zeroValue218
 t138:=Tryz.underlying242
 a138:=Tryz.isAgg242
 z138:=Tryz.sizeOf242
 v138:=Tryz.zeroValue242
 t139:=Tryz.underlying243
 a139:=Tryz.isAgg243
 z139:=Tryz.sizeOf243
 v139:=Tryz.zeroValue243
 g3:=by kernel_rfl
 g4:=by kernel_rfl }
end Go.Proofs
namespace Go.Proofs.YtnbhdjadlbhknaaGreatDoor
open Go.Ax
set_option maxRecDepth 1000000
def chars:List UInt8:=[97,98,99,100,101,102,103,104,105,106,107,108,109,110,111,112,113,114,115,116,117,118,119,120,121,122,48,49,50,51,52,53,54,55,56,57,45,95,46]
def rV (b:UInt8):Bool:=chars.contains b
def b_ (s:ByteArray):Bool:=!(s.data.toList==[])&&(decide ((s.size:Int)<=32)&&s.data.toList.all rV)
theorem JF {l:List UInt8} {p:UInt8->Bool}:(l.dropWhile p==[])=l.all p:=by
 induction l with
 | nil=>rfl
 | cons a l ih =>
   rw [List.dropWhile_cons,List.all_cons]
   cases h:p a
   · simp
   · simpa using ih
theorem Qn (l:List UInt8):(Lib.trimS l chars==[])=l.all rV:=by
 unfold Lib.trimS Lib.trimLeftS Lib.trimRightS
 rw [JF]
 cases h:l.all rV
 · rw [Bool.eq_false_iff]
   intro h2
   have h3:∀ m:List UInt8,(m.dropWhile rV).all rV=true->m.all rV=true:=by
    intro m
    induction m with
    | nil=>exact fun _=>rfl
    | cons a m ih =>
      rw [List.dropWhile_cons]
      cases ha:rV a
      · intro h;simp at h;simp [ha] at h
      · intro h;simp only [List.all_cons,ha,Bool.true_and];exact ih h
   have h4:(l.reverse.dropWhile rV).all rV=true:=by
    rw [<- List.all_reverse];exact h2
   have h5:=h3 _ h4
   rw [List.all_reverse] at h5
   rw [h5] at h;cases h
 · rw [List.all_reverse]
   have:l.reverse.dropWhile rV=[]:=by
    have:=JF (l:=l.reverse) (p:=rV)
    rw [List.all_reverse,h] at this
    simpa using this
   have e:l.reverse.dropWhile (fun x=>chars.contains x)=[]:=this
   rw [e];rfl
def aaF (s:ByteArray):T An:=.ret (.y (.string ⟨(Lib.trimS s.data.toList chars).toArray⟩),[],[])
theorem trim_c (s:ByteArray) (hs:s.size<=9223372036854775807):(aaF s).Sat (aB Tryz.prog 133 [.y (.string s),.s (.string ⟨chars.toArray⟩)] []):=by
 refine Lm fun w vals hv=>?_
 obtain ⟨H,E,v,l1,e1,hv1,v2,l2,e2,hv2,e3⟩:=hv
 have e3:l2=[]:=e3
 subst e3
 subst e2
 obtain rfl:=hv1.1
 obtain rfl:=hv2.1
 have hvals:vals=#[.string s,.string ⟨chars.toArray⟩]:=Array.ext' e1
 subst hvals
 refine (Any.strings_Trim_laid Tryz.Xm (by kernel_rfl) s ⟨chars.toArray⟩ w hs (by decide) (Go.Proofs.ascii_of_all (by decide))).mono ?_
 rintro e w' ⟨rfl,hb⟩
 exact ⟨_,rfl,fun _ _=>⟨rfl,rfl⟩,hb⟩
noncomputable def afj (s:ByteArray):dZ Tryz.prog:=⟨133,[.y (.string s),.s (.string ⟨chars.toArray⟩)],[],.need (s.size<=9223372036854775807) (aaF s),T.Sat.need fun h=>trim_c s h⟩
noncomputable def aaX (s:ByteArray):aC Tryz.prog:=hh _ bO (cs1 99 1 9 (afj s) bN) bM
def QM (s:ByteArray):Prop :=
 ((!s.data.toList==[])=true->(decide ((↑(ByteArray.size s):Int)<=(32:Int))=true->(s=s/\{ data:=#[(97:UInt8),(98:UInt8),(99:UInt8),(100:UInt8),(101:UInt8),(102:UInt8),(103:UInt8),(104:UInt8),(105:UInt8),(106:UInt8),(107:UInt8),(108:UInt8),(109:UInt8),(110:UInt8),(111:UInt8),(112:UInt8),(113:UInt8),(114:UInt8),(115:UInt8),(116:UInt8),(117:UInt8),(118:UInt8),(119:UInt8),(120:UInt8),(121:UInt8),(122:UInt8),(48:UInt8),(49:UInt8),(50:UInt8),(51:UInt8),(52:UInt8),(53:UInt8),(54:UInt8),(55:UInt8),(56:UInt8),(57:UInt8),(45:UInt8),(95:UInt8),(46:UInt8)]:ByteArray }={ data:=#[(97:UInt8),(98:UInt8),(99:UInt8),(100:UInt8),(101:UInt8),(102:UInt8),(103:UInt8),(104:UInt8),(105:UInt8),(106:UInt8),(107:UInt8),(108:UInt8),(109:UInt8),(110:UInt8),(111:UInt8),(112:UInt8),(113:UInt8),(114:UInt8),(115:UInt8),(116:UInt8),(117:UInt8),(118:UInt8),(119:UInt8),(120:UInt8),(121:UInt8),(122:UInt8),(48:UInt8),(49:UInt8),(50:UInt8),(51:UInt8),(52:UInt8),(53:UInt8),(54:UInt8),(55:UInt8),(56:UInt8),(57:UInt8),(45:UInt8),(95:UInt8),(46:UInt8)]:ByteArray }/\True)/\True/\ByteArray.size s<=(9223372036854775807:Nat)/\(Lib.trimS s.data.toList [(97:UInt8),(98:UInt8),(99:UInt8),(100:UInt8),(101:UInt8),(102:UInt8),(103:UInt8),(104:UInt8),(105:UInt8),(106:UInt8),(107:UInt8),(108:UInt8),(109:UInt8),(110:UInt8),(111:UInt8),(112:UInt8),(113:UInt8),(114:UInt8),(115:UInt8),(116:UInt8),(117:UInt8),(118:UInt8),(119:UInt8),(120:UInt8),(121:UInt8),(122:UInt8),(48:UInt8),(49:UInt8),(50:UInt8),(51:UInt8),(52:UInt8),(53:UInt8),(54:UInt8),(55:UInt8),(56:UInt8),(57:UInt8),(45:UInt8),(95:UInt8),(46:UInt8)]==[])=b_ s/\True)/\(decide ((↑(ByteArray.size s):Int)<=(32:Int))=false->false=b_ s/\True))/\((!s.data.toList==[])=false->false=b_ s/\True)
theorem Py (s:ByteArray):(bf Tryz.prog (aaX s) 99 [.y (.string s)] [] (aZ (b_ s)))=QM s:=by kernel_rfl
def chI (c:Int):Bool:=!((decide (c<97)||decide (122<c))&&((decide (c<48)||decide (57<c))&&(c != 45&&(c != 95&&c != 46))))
def cZ (s:ByteArray) (k:Nat):Bool:=(s.data.toList.drop k).all rV
def nmT (s:ByteArray) (k:Nat):List AV:=mkT 48 [(0,.y (.string s)),(2,.s (.bool false)),(3,.y (.int .i64 k))]
def nmS (r:Bool):Exit×List AV×List ay:=match r with
 | true=>(.exit 0,mkT 48 [],[])
 | false=>(.ret,mkT 48 [(2,.s (.bool false))],[])
def nmO (s:ByteArray) (k:Nat):T Bool:=.ite (cZ s k) (.ret true) (.ret false)
def wJ (s:ByteArray) (k:Nat):Prop:=(((↑(UInt8.toNat (List.getD s.data.toList (Int.toNat (↑k:Int)) (0:UInt8))):Int) != (45:Int))=true->(((↑(UInt8.toNat (List.getD s.data.toList (Int.toNat (↑k:Int)) (0:UInt8))):Int) != (95:Int))=true->(((↑(UInt8.toNat (List.getD s.data.toList (Int.toNat (↑k:Int)) (0:UInt8))):Int) != (46:Int))=true->(cZ s k=true->False)/\(cZ s k=false->(false=false/\True)/\True/\true=true))/\(((↑(UInt8.toNat (List.getD s.data.toList (Int.toNat (↑k:Int)) (0:UInt8))):Int) != (46:Int))=false->∃ (j:Nat),ByteArray.size s - j<ByteArray.size s - k/\((s=s/\false=false/\IntKind.wrap IntKind.i64 ((↑k:Int)+(1:Int))=(↑j:Int)/\True)/\True/\true=true)/\true=true/\(cZ s j=true->(cZ s k=true->true=true)/\(cZ s k=false->true=false))/\(cZ s j=false->(cZ s k=true->false=true)/\(cZ s k=false->false=false))))/\(((↑(UInt8.toNat (List.getD s.data.toList (Int.toNat (↑k:Int)) (0:UInt8))):Int) != (95:Int))=false->∃ (j:Nat),ByteArray.size s - j<ByteArray.size s - k/\((s=s/\false=false/\IntKind.wrap IntKind.i64 ((↑k:Int)+(1:Int))=(↑j:Int)/\True)/\True/\true=true)/\true=true/\(cZ s j=true->(cZ s k=true->true=true)/\(cZ s k=false->true=false))/\(cZ s j=false->(cZ s k=true->false=true)/\(cZ s k=false->false=false))))
def wB (s:ByteArray) (k:Nat):Prop:=(((↑(UInt8.toNat (List.getD s.data.toList (Int.toNat (↑k:Int)) (0:UInt8))):Int) != (45:Int))=false->∃ (j:Nat),ByteArray.size s - j<ByteArray.size s - k/\((s=s/\false=false/\IntKind.wrap IntKind.i64 ((↑k:Int)+(1:Int))=(↑j:Int)/\True)/\True/\true=true)/\true=true/\(cZ s j=true->(cZ s k=true->true=true)/\(cZ s k=false->true=false))/\(cZ s j=false->(cZ s k=true->false=true)/\(cZ s k=false->false=false)))
def AB (s:ByteArray) (k:Nat):Prop:=(decide ((↑(UInt8.toNat (List.getD s.data.toList (Int.toNat (↑k:Int)) (0:UInt8))):Int)<(48:Int))=false->(decide ((57:Int)<(↑(UInt8.toNat (List.getD s.data.toList (Int.toNat (↑k:Int)) (0:UInt8))):Int))=true->(wJ s k)/\(wB s k))/\(decide ((57:Int)<(↑(UInt8.toNat (List.getD s.data.toList (Int.toNat (↑k:Int)) (0:UInt8))):Int))=false->∃ (j:Nat),ByteArray.size s - j<ByteArray.size s - k/\((s=s/\false=false/\IntKind.wrap IntKind.i64 ((↑k:Int)+(1:Int))=(↑j:Int)/\True)/\True/\true=true)/\true=true/\(cZ s j=true->(cZ s k=true->true=true)/\(cZ s k=false->true=false))/\(cZ s j=false->(cZ s k=true->false=true)/\(cZ s k=false->false=false))))
def aaV (s:ByteArray) (k:Nat):Prop :=
 (decide ((↑k:Int)<(↑(ByteArray.size s):Int))=true->(true&&decide ((↑k:Int)<(↑(ByteArray.size s):Int)))=true/\(decide ((↑(UInt8.toNat (List.getD s.data.toList (Int.toNat (↑k:Int)) (0:UInt8))):Int)<(97:Int))=true->(decide ((↑(UInt8.toNat (List.getD s.data.toList (Int.toNat (↑k:Int)) (0:UInt8))):Int)<(48:Int))=true->(wJ s k)/\(wB s k))/\(AB s k))/\(decide ((↑(UInt8.toNat (List.getD s.data.toList (Int.toNat (↑k:Int)) (0:UInt8))):Int)<(97:Int))=false->(decide ((122:Int)<(↑(UInt8.toNat (List.getD s.data.toList (Int.toNat (↑k:Int)) (0:UInt8))):Int))=true->(decide ((↑(UInt8.toNat (List.getD s.data.toList (Int.toNat (↑k:Int)) (0:UInt8))):Int)<(48:Int))=true->(wJ s k)/\(wB s k))/\(AB s k))/\(decide ((122:Int)<(↑(UInt8.toNat (List.getD s.data.toList (Int.toNat (↑k:Int)) (0:UInt8))):Int))=false->∃ (j:Nat),ByteArray.size s - j<ByteArray.size s - k/\((s=s/\false=false/\IntKind.wrap IntKind.i64 ((↑k:Int)+(1:Int))=(↑j:Int)/\True)/\True/\true=true)/\true=true/\(cZ s j=true->(cZ s k=true->true=true)/\(cZ s k=false->true=false))/\(cZ s j=false->(cZ s k=true->false=true)/\(cZ s k=false->false=false)))))/\(decide ((↑k:Int)<(↑(ByteArray.size s):Int))=false->(cZ s k=true->True/\True/\true=true)/\(cZ s k=false->False))
theorem Qv (s:ByteArray) (k:Nat):(bP Tryz.prog (hT _) 95 4 (fun k=>s.size - k) (nmT s) (fun _=>[]) [0] (nmO s) nmS k)=aaV s k:=by kernel_rfl
noncomputable def nmH (s:ByteArray):aC Tryz.prog:=hh _ (mU 95 4 (dM (nmT s) (fun _=>[]) [0] (nmO s) nmS 0) bO) bN bM
def aeN (s:ByteArray):Prop :=
 (decide (((ByteArray.size s):Int)<1)=true->false=b_ s/\True)/\(decide (((ByteArray.size s):Int)<1)=false->(decide (32<((ByteArray.size s):Int))=true->false=b_ s/\True)/\(decide (32<((ByteArray.size s):Int))=false->((s=s/\false=false/\(0:Int)=0/\True)/\True/\true=true)/\aL Tryz.prog 95 4 (aN Tryz.prog 95 4) { t:=nmT s 0,m:=[],mv:=[]:St } (T.map (bJ [0] nmS) (nmO s 0))/\(cZ s 0=true->true=b_ s/\True)/\(cZ s 0=false->false=b_ s/\True)))
theorem Xv (s:ByteArray):(bf Tryz.prog (nmH s) 95 [.y (.string s)] [] (aZ (b_ s)))=aeN s:=by kernel_rfl
end Go.Proofs.YtnbhdjadlbhknaaGreatDoor

namespace Go.Proofs.YtnbhdjadlbhknaaGreatDoor
open Go.Ax
set_option maxRecDepth 1000000
theorem ade (s:ByteArray):(aZ (b_ s)).Sat (aB Tryz.prog 99 [.y (.string s)] []):=by
 refine aP (ht:=aaX s) Tryz.mixed rfl ?_
 rw [Py s]
 unfold QM
 have e:=Qn s.data.toList
 unfold chars at e
 simp only [e,b_]
 generalize (s.data.toList==[])=a
 generalize hb:decide ((s.size:Int)<=32)=b
 generalize s.data.toList.all rV=c
 cases a<;>cases b<;>cases c<;>simp at hb ⊢<;>omega
theorem ag_ (b:UInt8):rV b=chI (b.toNat:Nat):=by
 have:∀ n:Fin 256,rV (UInt8.ofNat n.1)=chI (n.1:Nat):=by decide +kernel
 have h:=this ⟨b.toNat,b.toNat_lt⟩
 simpa using h
theorem K6 {s:ByteArray} {k:Nat} (h:s.size<=k):cZ s k=true:=by
 unfold cZ
 rw [List.drop_eq_nil_of_le (by simpa using h)]
 rfl
theorem Jq {s:ByteArray} {k:Nat} (h:k<s.size):cZ s k=(chI ((s.data.toList.getD k 0).toNat:Nat)&&cZ s (k+1)):=by
 unfold cZ
 have hk:k<s.data.toList.length:=by simpa using h
 rw [List.drop_eq_getElem_cons hk,List.all_cons,ag_]
 simp [List.getElem?_eq_getElem hk]
theorem aar (s:ByteArray) (hs:s.size<=32) (k:Nat):aL Tryz.prog 95 4 (aN Tryz.prog 95 4) ⟨nmT s k,[],[]⟩ ((nmO s k).map (bJ [0] nmS)):=by
 refine dY Tryz.mixed (fun _=>rfl) (fun k=>(Qv s k).mpr ?_) k
 unfold aaV AB wB wJ
 by_cases h:k<s.size
 · have h1:decide ((k:Int)<(s.size:Int))=true:=by simp;omega
   simp only [h1,Jq h,chI,Int.toNat_natCast]
   have hw:IntKind.i64.wrap ((k:Int)+1)=((k+1:Nat):Int):=by rw [wrap_i64 (by omega) (by omega)];omega
   have hex:∀ q:Nat->Prop,q (k+1)->∃ j,s.size - j<s.size - k/\q j:=fun q h=>⟨k+1,by omega,h⟩
   generalize decide (((s.data.toList.getD k 0).toNat:Int)<97)=b1
   generalize decide (122<((s.data.toList.getD k 0).toNat:Int))=b2
   generalize decide (((s.data.toList.getD k 0).toNat:Int)<48)=b3
   generalize decide (57<((s.data.toList.getD k 0).toNat:Int))=b4
   generalize (((s.data.toList.getD k 0).toNat:Int) != 45)=b5
   generalize (((s.data.toList.getD k 0).toNat:Int) != 95)=b6
   generalize (((s.data.toList.getD k 0).toNat:Int) != 46)=b7
   cases b1<;>cases b2<;>cases b3<;>cases b4<;>cases b5<;>cases b6<;>cases b7<;>simp<;>exact ⟨k+1,by omega,hw,by simp,by simp⟩
 · have h1:decide ((k:Int)<(s.size:Int))=false:=by simp;omega
   simp [h1,K6 (show s.size<=k by omega)]
   exact fun e=>absurd e h
theorem afa (s:ByteArray):(aZ (b_ s)).Sat (aB Tryz.prog 95 [.y (.string s)] []):=by
 refine aP (ht:=nmH s) Tryz.mixed rfl ?_
 rw [Xv s]
 unfold aeN
 by_cases h:s.size<=32
 · have lp:=aar s h 0
   have h2:¬ ((32:Int)<s.size):=by omega
   have hl:s.data.toList.length=s.size:=Array.length_toList
   have h5:cZ s 0=s.data.toList.all rV:=rfl
   rw [h5] at *
   have h6:decide ((s.size:Int)<=32)=true:=by simp;omega
   by_cases hz:(s.size:Int)<1
   · have h3:(s.data.toList==[])=true:=by
      rw [beq_iff_eq];exact List.length_eq_zero_iff.1 (by omega)
     simp only [b_,h3,h6]
     simp [hz]
   · have h3:(s.data.toList==[])=false:=by
      rw [beq_eq_false_iff_ne];intro e;rw [e] at hl;simp at hl;omega
     simp only [b_,h3,h6]
     generalize s.data.toList.all rV=c at *
     cases c<;>simp [hz,h2,lp]
 · have h2:(32:Int)<s.size:=by omega
   have h3:¬ ((s.size:Int)<=32):=by omega
   simp [b_,h2,h3]
noncomputable def LG (s:ByteArray):dZ Tryz.prog:=⟨99,[.y (.string s)],[],aZ (b_ s),ade s⟩
noncomputable def nmC (s:ByteArray):dZ Tryz.prog:=⟨95,[.y (.string s)],[],aZ (b_ s),afa s⟩
def sV (b1 b2:Bool) (a:List Int) (k:Nat):List AV:=mkT 26 [(0,aaK b1 a),(1,aaK b2 a),(5,.y (.int .i64 k))]
def kB:ByteArray:=⟨#[107]⟩
theorem aiQ (x:Rec) (j:Nat) (hj:j<5):fC (Ax.get (encR x) j)=true:=by
 match j,hj with
 | 0,_=>rfl
 | 1,_=>rfl
 | 2,_=>rfl
 | 3,_=>rfl
 | 4,_=>rfl
end Go.Proofs.YtnbhdjadlbhknaaGreatDoor

namespace Go.Proofs.YtnbhdjadlbhknaaGreatDoor.H
open Go.Ax Go.Proofs.YtnbhdjadlbhknaaGreatDoor
set_option maxRecDepth 1000000
def ND (x:Rec) (j:Nat):Tr:=match j with
 | 0=>.av (.y (.int .u64 x.off))
 | 1=>.av (.y (.string x.key))
 | 2=>.frow 5 1 x.val.length (ah aJ x.val)
 | 3=>.av (.y (.int .u64 x.prod))
 | 4=>.av (.y (.int .u64 x.seq))
 | _=>.av .junk
def JL (l:List Rec) (k:Nat):Nat->Tr:=ND (l.getD k default)
def zR:List Value:=[.int .u64 0,.string ⟨#[]⟩,.slice none 0 0,.int .u64 0,.int .u64 0]
def K8 (l:List Rec) (k:Nat):ay:=.trow 54 5 k none (JL l) [] zR
def wU (l:List Rec):ay:=K8 l l.length
def Ou (x:Rec):T An:=.ret (.agg [.y (.int .u64 x.off),.y (.string x.key),.own 0 1 0 x.val.length,.y (.int .u64 x.prod),.y (.int .u64 x.seq)],[.row 5 1 x.val.length none (ah aJ x.val)],[])
noncomputable def afw (b:Bool) (x:Rec):aC Tryz.prog:=dO (hh _ bO (cs1 157 1 4 (QI true x.val.length (ah aJ x.val)) bN) bM) noSh
def abX (x:Rec) (o:Int):Prop :=
 ((lu x.val x.val)/\True)/\True/\x.val.length<=140737488355328/\(IntKind.u64.wrap o=IntKind.u64.wrap o/\x.key=x.key/\(0=0/\x.val.length=x.val.length)/\x.prod=x.prod/\x.seq=x.seq/\True)/\(x.val.length=x.val.length/\aj x.val.length 1 (ah aJ x.val) (ah aJ x.val))/\True
theorem Ug (x:Rec) (o:Int):(bf Tryz.prog (afw true x) 157 [.agg (encR x),.y (.int .i64 o)] [] (Ou (x.to (IntKind.u64.wrap o))))=abX x o:=by kernel_rfl
theorem aeF (x:Rec) (o:Int) (h:x.val.length<=140737488355328):(Ou (x.to (IntKind.u64.wrap o))).Sat (aB Tryz.prog 157 [.agg (encR x),.y (.int .i64 o)] []):=by
 refine aP (ht:=afw true x) Tryz.mixed rfl ?_
 rw [Ug x o]
 unfold abX
 simp [h,Rec.to]
noncomputable def aio (x:Rec) (o:Int):dZ Tryz.prog:=⟨157,[.agg (encR x),.y (.int .i64 o)],[],.need (x.val.length<=140737488355328) (Ou (x.to (IntKind.u64.wrap o))),T.Sat.need fun h=>aeF x o h⟩
end Go.Proofs.YtnbhdjadlbhknaaGreatDoor.H

namespace Go.Proofs.YtnbhdjadlbhknaaGreatDoor
open Go.Ax
set_option maxRecDepth 1000000
noncomputable def ae3 (r:kJ) (k:ByteArray):dZ Tryz.prog:=⟨115,[.agg (mG r),.y (.string k)],[],aZ (fZ r k),agr r k⟩
noncomputable def abR (r:kJ) (k:ByteArray):dZ Tryz.prog:=⟨54,[.agg (mG r),.y (.string k)],[],aZ (fZ r k),adf r k⟩
structure Ke where
 (out:List Rec) (to:List Int)
def Ke.step (r:kJ) (s:Ke) (x:Rec):Ke:=⟨if fZ r x.key then s.out++[x.to (IntKind.u64.wrap (s.out.length:Nat))] else s.out,s.to++[IntKind.u64.wrap (s.out.length:Nat)]⟩
def Ke.end (s:Ke):Ke:=⟨s.out,s.to++[IntKind.u64.wrap (s.out.length:Nat)]⟩
theorem L_ {l:List Rec} (h:bG l=true) {k:Nat} (hk:k<l.length):(l.getD k default).val.length<=256:=by
 simp only [bG,Bool.and_eq_true] at h
 have h1:=h.1
 unfold aU at h1
 rw [List.all_eq_true] at h1
 have h2:=h1 k (by simp;omega)
 simp only [VA,Bool.and_eq_true,decide_eq_true_eq] at h2
 exact h2.2.2
theorem j_ {l:List Rec} (h:bG l=true):l.length<=4096:=by
 simp only [bG,Bool.and_eq_true,decide_eq_true_eq] at h
 exact h.2
theorem adK {l:List Rec} (h:bG l=true) {k:Nat} (hk:k<l.length):(l.getD k default).off=IntKind.u64.wrap (k:Nat)/\(l.getD k default).key.size<=32:=by
 simp only [bG,Bool.and_eq_true] at h
 have h1:=h.1
 unfold aU at h1
 rw [List.all_eq_true] at h1
 have h2:=h1 k (by simp;omega)
 simp only [VA,Bool.and_eq_true,decide_eq_true_eq,Bool.not_eq_true',bne_eq_false_iff_eq] at h2
 exact ⟨h2.1,h2.2.1⟩
end Go.Proofs.YtnbhdjadlbhknaaGreatDoor

namespace Go.Proofs.YtnbhdjadlbhknaaGreatDoor.H
open Go.Ax Go.Proofs.YtnbhdjadlbhknaaGreatDoor
set_option maxRecDepth 1000000
structure Cn (l:List Rec):Prop where
 n:l.length<=4096
 v:∀ k,k<l.length->(l.getD k default).val.length<=256
 o:∀ k,k<l.length->IntKind.u64.wrap (IntKind.i64.wrap (l.getD k default).off)=(l.getD k default).off
theorem EK {l:List Rec} (h:bG l=true) (o:Nat) (m:Nat):Cn ((l.drop o).take m):=by
 have hn:=j_ h
 have hl:((l.drop o).take m).length<=l.length - o:=by simp;omega
 have hg:∀ k,k<((l.drop o).take m).length->((l.drop o).take m).getD k default=l.getD (o+k) default:=by
  intro k hk
  have:k<m:=by simp at hk;omega
  simp [List.getElem?_take,this,List.getElem?_drop]
 refine ⟨by omega,fun k hk=>?_,fun k hk=>?_⟩
 · rw [hg k hk];exact L_ h (by omega)
 · rw [hg k hk,(adK h (k:=o+k) (by omega)).1]
   have e:IntKind.u64.wrap ((o+k:Nat):Int)=((o+k:Nat):Int):=wrap_u64 (by omega) (by omega)
   rw [e,wrap_i64 (by omega) (by omega),e]
theorem Yl {l:List Rec} (h:bG l=true):Cn l:=by
 have:=EK h 0 l.length
 simpa using this
def yg (l:List Rec) (x:Rec):Int:=if bG l=false then 1 else if 32<x.key.size then 131 else if 256<x.val.length then 144 else if l.length=4096 then 143 else 0
def jO (l:List Rec) (x:Rec):List Rec:=if yg l x=0 then l++[x.to (IntKind.u64.wrap l.length)] else []
def Gb (l:List Rec) (x:Rec):Int:=if yg l x=0 then IntKind.u64.wrap l.length else 0
def apT (l:List Rec) (x:Rec):T An:=.ret (.tup [.own 0 5 0 (jO l x).length,.y (.int .u64 (Gb l x)),.y (.int .i64 (yg l x))],[wU (jO l x)],[1])
def Cz (l:List Rec) (o:Int):Int:=if bG l=false then 1 else if (l.length:Int)<o then 141 else 0
def PX (l:List Rec) (o m:Int):Int:=min (min (max m 0) 64) ((l.length:Int) - o)
def jQ (l:List Rec) (o m:Int):List Rec:=if Cz l o=0 then (l.drop o.toNat).take (PX l o m).toNat else []
def feT (l:List Rec) (o m:Int):T An:=.ret (.tup [.own 0 5 0 (jQ l o m).length,.y (.int .i64 (Cz l o))],[wU (jQ l o m)],[])
theorem NG {l:List Rec} {x:Rec} (h:yg l x=0):bG l=true/\x.val.length<=256/\l.length<4096:=by
 unfold yg at h
 cases hl:bG l with
 | false=>simp [hl] at h
 | true =>
   simp only [hl,Bool.true_eq_false,if_false] at h
   have:=j_ hl
   split at h
   · cases h
   · split at h
     · cases h
     · split at h
       · cases h
       · exact ⟨rfl,by omega,by omega⟩
theorem U1 {l:List Rec} {x:Rec} {k:Nat}:(l++[x]).getD k default=if k<l.length then l.getD k default else if k=l.length then x else default:=by
 by_cases h:k<l.length
 · rw [if_pos h];simp [List.getElem?_append_left h]
 · rw [if_neg h]
   by_cases h2:k=l.length
   · subst h2;simp
   · rw [if_neg h2]
     simp [List.getElem?_append_right (by omega:l.length<=k),List.getElem?_eq_none (show ([x]:List Rec).length<=k - l.length by simp;omega)]
theorem Mk {l:List Rec} {o m:Int} (h:Cz l o=0) (h0:0<=o):bG l=true/\o<=l.length/\0<=PX l o m/\PX l o m<=(l.length:Int) - o/\PX l o m<=64:=by
 unfold Cz at h
 cases hl:bG l with
 | false=>simp [hl] at h
 | true =>
   simp only [hl,Bool.true_eq_false,if_false] at h
   split at h
   · cases h
   · unfold PX;exact ⟨rfl,by omega,by omega,by omega,by omega⟩
theorem acF {l:List Rec} {o m:Int} (h:Cz l o=0) {k:Nat} (hk:k<(PX l o m).toNat):(jQ l o m).getD k default=l.getD (o.toNat+k) default:=by
 unfold jQ
 rw [if_pos h]
 simp [List.getElem?_take,hk,List.getElem?_drop]
theorem ZU {l:List Rec} {o m:Int} (h:Cz l o=0) (h0:0<=o):(jQ l o m).length=(PX l o m).toNat:=by
 obtain ⟨_,h1,h2,h3,_⟩:=Mk (m:=m) h h0
 unfold jQ
 rw [if_pos h]
 simp
 omega
end Go.Proofs.YtnbhdjadlbhknaaGreatDoor.H

namespace Go.Proofs.YtnbhdjadlbhknaaGreatDoor
open Go.Ax
set_option maxRecDepth 1000000
def yM (l:List Con) (k:Nat):Bool:=b_ (l.getD k default).name&&!(decide (0<k)&&!lt (l.getD (k - 1) default).name (l.getD k default).name)
def bR (l:List Con) (k:Nat):Bool:=(List.range' k (l.length - k)).all fun j=>yM l j
theorem zJ {l:List Con} {k:Nat} (h:l.length<=k):bR l k=true:=by
 unfold bR
 rw [show l.length - k=0 by omega];rfl
theorem rM {l:List Con} {k:Nat} (h:k<l.length):bR l k=(yM l k&&bR l (k+1)):=by
 unfold bR
 rw [show l.length - k=(l.length - (k+1))+1 by omega,List.range'_succ];rfl
def bW (l:List Con):Bool:=bR l 0&&decide (l.length<=64)
def coT (b:Bool) (l:List Con) (k:Nat):List AV:=mkT 35 [(0,dB b l),(2,.s (.bool false)),(5,dB b l),(6,.y (.int .i64 l.length)),(7,.y (.int .i64 k))]
def coS (b:Bool) (l:List Con) (r:Bool):Exit×List AV×List ay:=match r with
 | true=>(.exit 0,mkT 35 [(0,dB b l)],[])
 | false=>(.ret,mkT 35 [(2,.s (.bool false))],[])
def coO (l:List Con) (k:Nat):T Bool:=.ite (bR l k) (.ret true) (.ret false)
noncomputable def afR (l:List Con) (k:Nat):aC Tryz.prog:=hh _ bO (cs1 46 4 2 (LG (l.getD k default).name) bN) bM
def aaP (b:Bool) (l:List Con) (k:Nat):Prop :=
 (decide ((k:Int)<(l.length:Int))=true->(true&&decide ((k:Int)<(l.length:Int)))=true/\((l.getD (Int.toNat (k:Int)) default).name=(l.getD k default).name/\True)/\True/\((!b_ (l.getD k default).name)=true->(bR l k=true->False)/\(bR l k=false->(false=false/\True)/\True/\true=true))/\((!b_ (l.getD k default).name)=false->(decide (0<(k:Int))=true->(decide (0<=IntKind.i64.wrap ((k:Int) - 1))&&decide (IntKind.i64.wrap ((k:Int) - 1)<(l.length:Int)))=true/\((!Op.bytesLess (l.getD (Int.toNat (IntKind.i64.wrap ((k:Int) - 1))) default).name.data.toList (l.getD (Int.toNat (k:Int)) default).name.data.toList)=true->(bR l k=true->False)/\(bR l k=false->(false=false/\True)/\True/\true=true))/\((!Op.bytesLess (l.getD (Int.toNat (IntKind.i64.wrap ((k:Int) - 1))) default).name.data.toList (l.getD (Int.toNat (k:Int)) default).name.data.toList)=false->∃ j:Nat,l.length - j<l.length - k/\(((b=b/\l.length=l.length/\aj l.length 2 (ah aD l) (ah aD l))/\false=false/\(b=b/\l.length=l.length/\aj l.length 2 (ah aD l) (ah aD l))/\(l.length:Int)=(l.length:Int)/\IntKind.i64.wrap ((k:Int)+1)=(j:Int)/\True)/\True/\true=true)/\true=true/\(bR l j=true->(bR l k=true->true=true)/\(bR l k=false->true=false))/\(bR l j=false->(bR l k=true->false=true)/\(bR l k=false->false=false))))/\(decide (0<(k:Int))=false->∃ j:Nat,l.length - j<l.length - k/\(((b=b/\l.length=l.length/\aj l.length 2 (ah aD l) (ah aD l))/\false=false/\(b=b/\l.length=l.length/\aj l.length 2 (ah aD l) (ah aD l))/\(l.length:Int)=(l.length:Int)/\IntKind.i64.wrap ((k:Int)+1)=(j:Int)/\True)/\True/\true=true)/\true=true/\(bR l j=true->(bR l k=true->true=true)/\(bR l k=false->true=false))/\(bR l j=false->(bR l k=true->false=true)/\(bR l k=false->false=false)))))/\(decide ((k:Int)<(l.length:Int))=false->(bR l k=true->((b=b/\l.length=l.length/\aj l.length 2 (ah aD l) (ah aD l))/\True)/\True/\true=true)/\(bR l k=false->False))
theorem VR (b:Bool) (l:List Con) (k:Nat):(bP Tryz.prog (afR l k) 46 2 (fun k=>l.length - k) (coT b l) (fun _=>[]) [0] (coO l) (coS b l) k)=aaP b l k:=by kernel_rfl
noncomputable def coH (b:Bool) (l:List Con):aC Tryz.prog:=hh _ (mU 46 2 (dM (coT b l) (fun _=>[]) [0] (coO l) (coS b l) 0) bO) bN bM
def ags (b:Bool) (l:List Con):Prop :=
 (((b=b/\l.length=l.length/\aj l.length 2 (ah aD l) (ah aD l))/\false=false/\(b=b/\l.length=l.length/\aj l.length 2 (ah aD l) (ah aD l))/\(l.length:Int)=(l.length:Int)/\(0:Int)=0/\True)/\True/\true=true)/\aL Tryz.prog 46 2 (aN Tryz.prog 46 2) { t:=coT b l 0,m:=[],mv:=[]:St } (T.map (bJ [0] (coS b l)) (coO l 0))/\(bR l 0=true->decide ((l.length:Int)<=64)=bW l/\True)/\(bR l 0=false->false=bW l/\True)
theorem ZJ (b:Bool) (l:List Con):(bf Tryz.prog (coH b l) 46 [dB b l] [] (aZ (bW l)))=ags b l:=by kernel_rfl
def crT (b:Bool) (l:List Con) (k:Nat):List AV:=mkT 40 [(0,dB b l),(2,.s (.bool false)),(3,.y (.int .i64 k))]
def crS (r:Bool):Exit×List AV×List ay:=match r with
 | true=>(.exit 0,mkT 40 [],[])
 | false=>(.ret,mkT 40 [(2,.s (.bool false))],[])
noncomputable def agC (l:List Con) (k:Nat):aC Tryz.prog:=hh _ bO (cs1 52 6 5 (nmC (l.getD k default).name) bN) bM
def abk (b:Bool) (l:List Con) (k:Nat):Prop :=
 (decide ((k:Int)<(l.length:Int))=true->(true&&decide ((k:Int)<(l.length:Int)))=true/\((l.getD (Int.toNat (k:Int)) default).name=(l.getD k default).name/\True)/\True/\((!b_ (l.getD k default).name)=true->(bR l k=true->False)/\(bR l k=false->(false=false/\True)/\True/\true=true))/\((!b_ (l.getD k default).name)=false->(decide (0<(k:Int))=true->(decide (0<=IntKind.i64.wrap ((k:Int) - 1))&&decide (IntKind.i64.wrap ((k:Int) - 1)<(l.length:Int)))=true/\(true&&decide ((k:Int)<(l.length:Int)))=true/\((!Op.bytesLess (l.getD (Int.toNat (IntKind.i64.wrap ((k:Int) - 1))) default).name.data.toList (l.getD (Int.toNat (k:Int)) default).name.data.toList)=true->(bR l k=true->False)/\(bR l k=false->(false=false/\True)/\True/\true=true))/\((!Op.bytesLess (l.getD (Int.toNat (IntKind.i64.wrap ((k:Int) - 1))) default).name.data.toList (l.getD (Int.toNat (k:Int)) default).name.data.toList)=false->∃ j:Nat,l.length - j<l.length - k/\(((b=b/\l.length=l.length/\aj l.length 2 (ah aD l) (ah aD l))/\false=false/\IntKind.i64.wrap ((k:Int)+1)=(j:Int)/\True)/\True/\true=true)/\true=true/\(bR l j=true->(bR l k=true->true=true)/\(bR l k=false->true=false))/\(bR l j=false->(bR l k=true->false=true)/\(bR l k=false->false=false))))/\(decide (0<(k:Int))=false->∃ j:Nat,l.length - j<l.length - k/\(((b=b/\l.length=l.length/\aj l.length 2 (ah aD l) (ah aD l))/\false=false/\IntKind.i64.wrap ((k:Int)+1)=(j:Int)/\True)/\True/\true=true)/\true=true/\(bR l j=true->(bR l k=true->true=true)/\(bR l k=false->true=false))/\(bR l j=false->(bR l k=true->false=true)/\(bR l k=false->false=false)))))/\(decide ((k:Int)<(l.length:Int))=false->(bR l k=true->True/\True/\true=true)/\(bR l k=false->False))
theorem SF (b:Bool) (l:List Con) (k:Nat):(bP Tryz.prog (agC l k) 52 4 (fun k=>l.length - k) (crT b l) (fun _=>[]) [0] (coO l) crS k)=abk b l k:=by kernel_rfl
noncomputable def crH (b:Bool) (l:List Con):aC Tryz.prog:=hh _ (mU 52 4 (dM (crT b l) (fun _=>[]) [0] (coO l) crS 0) bO) bN bM
def afB (b:Bool) (l:List Con):Prop :=
 (decide (64<(l.length:Int))=true->false=bW l/\True)/\(decide (64<(l.length:Int))=false->(((b=b/\l.length=l.length/\aj l.length 2 (ah aD l) (ah aD l))/\false=false/\(0:Int)=0/\True)/\True/\true=true)/\aL Tryz.prog 52 4 (aN Tryz.prog 52 4) { t:=crT b l 0,m:=[],mv:=[]:St } (T.map (bJ [0] crS) (coO l 0))/\(bR l 0=true->true=bW l/\True)/\(bR l 0=false->false=bW l/\True))
theorem ZW (b:Bool) (l:List Con):(bf Tryz.prog (crH b l) 52 [dB b l] [] (aZ (bW l)))=afB b l:=by kernel_rfl
def BK (a b:ByteArray):Bool:=a.data.toList==b.data.toList
def Dt (l:List Con) (s:ByteArray):Option Con:=l.find? fun x=>BK x.name s
def fnR (s:ByteArray):AV:=.fn (.func 140) [] [.ip false 1 (get [.y (.string s)])]
def rxT (b:Bool) (s:ByteArray) (l:List Con) (k:Nat):List AV:=mkT 19 [(0,dB b l),(1,fnR s),(4,.s (.int .i64 0)),(7,.y (.int .i64 l.length)),(8,.y (.int .i64 k))]
def rxS (r:Bool×Nat):Exit×List AV×List ay:=match r.1 with
 | true=>(.ret,mkT 19 [(4,.y (.int .i64 r.2))],[])
 | false=>(.exit 0,mkT 19 [],[])
def jG (l:List Con) (s:ByteArray):Bool:=l.any fun x=>BK x.name s
def rxO (l:List Con) (s:ByteArray) (k:Nat):T (Bool×Nat):=.ite (jG (l.drop k) s) (.ret (true,k+(l.drop k).findIdx fun x=>BK x.name s)) (.ret (false,0))
def abY (b:Bool) (s:ByteArray) (l:List Con) (k:Nat):Prop :=
 (decide ((↑k:Int)<(↑(List.length l):Int))=true->(true&&decide ((↑k:Int)<(↑(List.length l):Int)))=true/\(((List.getD l (Int.toNat (↑k:Int)) (@default Con instInhabitedCon)).name.data.toList==s.data.toList)=true->(jG (List.drop k l) s=true->((↑k:Int)=(↑(k+List.findIdx (fun (x:Con)=>BK x.name s) (List.drop k l)):Int)/\True)/\True/\true=true)/\(jG (List.drop k l) s=false->False))/\(((List.getD l (Int.toNat (↑k:Int)) (@default Con instInhabitedCon)).name.data.toList==s.data.toList)=false->∃ (j:Nat),List.length l - j<List.length l - k/\(((b=b/\List.length l=List.length l/\aj (List.length l) (2:Nat) (ah aD l) (ah aD l))/\(True/\(false=false/\(1:Nat)<=(1:Nat)/\gq (1:Nat) (Ax.get [AV.y (Value.string s)]) (Ax.get [AV.y (Value.string s)]))/\True)/\(0:Int)=(0:Int)/\(↑(List.length l):Int)=(↑(List.length l):Int)/\IntKind.wrap IntKind.i64 ((↑k:Int)+(1:Int))=(↑j:Int)/\True)/\True/\true=true)/\true=true/\(jG (List.drop j l) s=true->(jG (List.drop k l) s=true->(true,j+List.findIdx (fun (x:Con)=>BK x.name s) (List.drop j l))=(true,k+List.findIdx (fun (x:Con)=>BK x.name s) (List.drop k l)))/\(jG (List.drop k l) s=false->(true,j+List.findIdx (fun (x:Con)=>BK x.name s) (List.drop j l))=(false,(0:Nat))))/\(jG (List.drop j l) s=false->(jG (List.drop k l) s=true->(false,(0:Nat))=(true,k+List.findIdx (fun (x:Con)=>BK x.name s) (List.drop k l)))/\(jG (List.drop k l) s=false->(false,(0:Nat))=(false,(0:Nat))))))/\(decide ((↑k:Int)<(↑(List.length l):Int))=false->(jG (List.drop k l) s=true->False)/\(jG (List.drop k l) s=false->True/\True/\true=true))
theorem V9 (b:Bool) (s:ByteArray) (l:List Con) (k:Nat):(bP Tryz.prog (hT _) 117 2 (fun k=>l.length - k) (rxT b s l) (fun _=>[]) [0] (rxO l s) rxS k)=abY b s l k:=by kernel_rfl
noncomputable def rxH (b:Bool) (s:ByteArray) (l:List Con):aC Tryz.prog:=hh _ (mU 117 2 (dM (rxT b s l) (fun _=>[]) [0] (rxO l s) rxS 0) bO) bN bM
def gV (l:List Con) (s:ByteArray):Int:=((Dt l s).getD default).off
def rdR (l:List Con) (s:ByteArray):T An:=.ret (.tup [.y (.int .u64 (gV l s)),.y (.bool (jG l s))],[],[])
def Tq (b:Bool) (s:ByteArray) (l:List Con):Prop :=
 (((b=b/\List.length l=List.length l/\aj (List.length l) (2:Nat) (ah aD l) (ah aD l))/\(True/\(false=false/\(1:Nat)<=(1:Nat)/\gq (1:Nat) (fun (j:Nat)=>Ax.get [AV.y (Value.string s)] ((0:Nat)+j)) (Ax.get [AV.y (Value.string s)]))/\True)/\(0:Int)=(0:Int)/\(↑(List.length l):Int)=(↑(List.length l):Int)/\(0:Int)=(0:Int)/\True)/\True/\true=true)/\aL Tryz.prog (117:Nat) (2:Nat) (aN Tryz.prog (117:Nat) (2:Nat)) { t:=rxT b s l (0:Nat),m:=[],mv:=[]:St } (T.map (bJ [(0:Nat)] rxS) (rxO l s (0:Nat)))/\(jG (List.drop (0:Nat) l) s=true->true=true/\True/\(false=true->((0:Int)=gV l s/\false=jG l s/\True)/\True)/\(false=false->(true&&decide ((↑((0:Nat)+List.findIdx (fun (x:Con)=>BK x.name s) (List.drop (0:Nat) l)):Int)<(↑(List.length l):Int)))=true/\((List.getD l (Int.toNat (↑((0:Nat)+List.findIdx (fun (x:Con)=>BK x.name s) (List.drop (0:Nat) l)):Int)) (@default Con instInhabitedCon)).off=gV l s/\true=jG l s/\True)/\True))/\(jG (List.drop (0:Nat) l) s=false->true=true/\True/\((0:Int)=gV l s/\false=jG l s/\True)/\True)
theorem Pz (b:Bool) (s:ByteArray) (l:List Con):(bf Tryz.prog (rxH b s l) 108 [dB b l,.y (.string s)] [] (rdR l s))=Tq b s l:=by kernel_rfl
def rrT (b:Bool) (s:ByteArray) (l:List Con) (k:Nat):List AV:=mkT 25 [(0,dB b l),(1,.y (.string s)),(6,.y (.int .i64 k))]
def rrS (r:Bool×Int):Exit×List AV×List ay:=match r.1 with
 | true=>(.ret,mkT 25 [(4,.y (.int .u64 r.2)),(5,.s (.bool true))],[])
 | false=>(.exit 0,mkT 25 [],[])
def rrO (l:List Con) (s:ByteArray) (k:Nat):T (Bool×Int):=.ite (jG (l.drop k) s) (.ret (true,gV (l.drop k) s)) (.ret (false,0))
def abF (b:Bool) (s:ByteArray) (l:List Con) (k:Nat):Prop :=
 (decide ((↑k:Int)<(↑(List.length l):Int))=true->(true&&decide ((↑k:Int)<(↑(List.length l):Int)))=true/\(((List.getD l (Int.toNat (↑k:Int)) (@default Con instInhabitedCon)).name.data.toList==s.data.toList)=true->(true&&decide ((↑k:Int)<(↑(List.length l):Int)))=true/\(jG (List.drop k l) s=true->((List.getD l (Int.toNat (↑k:Int)) (@default Con instInhabitedCon)).off=gV (List.drop k l) s/\true=true/\True)/\True/\true=true)/\(jG (List.drop k l) s=false->False))/\(((List.getD l (Int.toNat (↑k:Int)) (@default Con instInhabitedCon)).name.data.toList==s.data.toList)=false->∃ (j:Nat),List.length l - j<List.length l - k/\(((b=b/\List.length l=List.length l/\aj (List.length l) (2:Nat) (ah aD l) (ah aD l))/\s=s/\IntKind.wrap IntKind.i64 ((↑k:Int)+(1:Int))=(↑j:Int)/\True)/\True/\true=true)/\true=true/\(jG (List.drop j l) s=true->(jG (List.drop k l) s=true->(true,gV (List.drop j l) s)=(true,gV (List.drop k l) s))/\(jG (List.drop k l) s=false->(true,gV (List.drop j l) s)=(false,(0:Int))))/\(jG (List.drop j l) s=false->(jG (List.drop k l) s=true->(false,(0:Int))=(true,gV (List.drop k l) s))/\(jG (List.drop k l) s=false->(false,(0:Int))=(false,(0:Int))))))/\(decide ((↑k:Int)<(↑(List.length l):Int))=false->(jG (List.drop k l) s=true->False)/\(jG (List.drop k l) s=false->True/\True/\true=true))
theorem R_ (b:Bool) (s:ByteArray) (l:List Con) (k:Nat):(bP Tryz.prog (hT _) 72 2 (fun k=>l.length - k) (rrT b s l) (fun _=>[]) [0] (rrO l s) rrS k)=abF b s l k:=by kernel_rfl
noncomputable def rrH (b:Bool) (s:ByteArray) (l:List Con):aC Tryz.prog:=hh _ (mU 72 2 (dM (rrT b s l) (fun _=>[]) [0] (rrO l s) rrS 0) bO) bN bM
def afl (b:Bool) (s:ByteArray) (l:List Con):Prop :=
 (((b=b/\l.length=l.length/\aj l.length 2 (ah aD l) (ah aD l))/\s=s/\(0:Int)=0/\True)/\True/\true=true)/\aL Tryz.prog 72 2 (aN Tryz.prog 72 2) { t:=rrT b s l 0,m:=[],mv:=[]:St } (T.map (bJ [0] rrS) (rrO l s 0))/\(jG (List.drop 0 l) s=true->(gV (List.drop 0 l) s=gV l s/\true=jG l s/\True)/\True)/\(jG (List.drop 0 l) s=false->(0=gV l s/\false=jG l s/\True)/\True)
theorem XB (b:Bool) (s:ByteArray) (l:List Con):(bf Tryz.prog (rrH b s l) 72 [dB b l,.y (.string s)] [] (rdR l s))=afl b s l:=by kernel_rfl
def agy (to:List Int) (o:Int):Int:=to.getD (min o (to.length - 1)).toNat 0
theorem YK (b:Bool) (l:List Con) (hl:l.length<=9223372036854775806) (k:Nat):aL Tryz.prog 46 2 (aN Tryz.prog 46 2) ⟨coT b l k,[],[]⟩ ((coO l k).map (bJ [0] (coS b l))):=by
 refine dK (ht:=afR l) Tryz.mixed (fun _=>rfl) (fun k=>(VR b l k).mpr ?_) k
 unfold aaP
 simp
 refine ⟨fun h=>?_,fun h=>by simp [zJ h]⟩
 rw [rM h]
 have e1:IntKind.i64.wrap ((k:Int)+1)=((k+1:Nat):Int):=by rw [wrap_i64 (by omega) (by omega)];omega
 rw [e1]
 rcases Nat.eq_zero_or_pos k with rfl | hk
 · simp [yM]
   generalize l[0]?.getD default=x
   cases b_ x.name<;>simp
   all_goals repeat' with_reducible apply And.intro
   all_goals first | omega | exact ⟨1,by omega,by simp,by grind⟩
 · have e2:IntKind.i64.wrap ((k:Int) - 1)=((k - 1:Nat):Int):=by rw [wrap_i64 (by omega) (by omega)];omega
   rw [e2]
   simp [yM,lt,hk]
   generalize l[k]?.getD default=x
   generalize l[k - 1]?.getD default=y
   generalize Op.bytesLess y.name.data.toList x.name.data.toList=q
   cases b_ x.name<;>cases q<;>simp<;>(try omega)
   all_goals repeat' with_reducible apply And.intro
   all_goals first | omega | (intro h0;exact absurd h0 (by omega)) | exact ⟨k+1,by omega,by simp,by grind⟩
theorem ai1 (b:Bool) (l:List Con) (hl:l.length<=9223372036854775806):(aZ (bW l)).Sat (aB Tryz.prog 46 [dB b l] []):=by
 refine aP (ht:=coH b l) Tryz.mixed rfl ?_
 rw [ZJ b l]
 unfold ags
 have:=YK b l hl 0
 simp [this,bW]
 grind
theorem Zf (b:Bool) (l:List Con) (hl:l.length<=9223372036854775806) (k:Nat):aL Tryz.prog 52 4 (aN Tryz.prog 52 4) ⟨crT b l k,[],[]⟩ ((coO l k).map (bJ [0] crS)):=by
 refine dK (ht:=agC l) Tryz.mixed (fun _=>rfl) (fun k=>(SF b l k).mpr ?_) k
 unfold abk
 simp
 refine ⟨fun h=>?_,fun h=>by simp [zJ h]⟩
 rw [rM h]
 have e1:IntKind.i64.wrap ((k:Int)+1)=((k+1:Nat):Int):=by rw [wrap_i64 (by omega) (by omega)];omega
 rw [e1]
 rcases Nat.eq_zero_or_pos k with rfl | hk
 · simp [yM]
   generalize l[0]?.getD default=x
   cases b_ x.name<;>simp
   all_goals repeat' with_reducible apply And.intro
   all_goals first | omega | exact ⟨1,by omega,by simp,by grind⟩
 · have e2:IntKind.i64.wrap ((k:Int) - 1)=((k - 1:Nat):Int):=by rw [wrap_i64 (by omega) (by omega)];omega
   rw [e2]
   simp [yM,lt,hk]
   generalize l[k]?.getD default=x
   generalize l[k - 1]?.getD default=y
   generalize Op.bytesLess y.name.data.toList x.name.data.toList=q
   cases b_ x.name<;>cases q<;>simp<;>(try omega)
   all_goals repeat' with_reducible apply And.intro
   all_goals first | omega | (intro h0;exact absurd h0 (by omega)) | exact ⟨k+1,by omega,by simp,by grind⟩
theorem aiP (b:Bool) (l:List Con) (hl:l.length<=9223372036854775806):(aZ (bW l)).Sat (aB Tryz.prog 52 [dB b l] []):=by
 refine aP (ht:=crH b l) Tryz.mixed rfl ?_
 rw [ZW b l]
 unfold afB
 have:=Zf b l hl 0
 simp [this,bW]
 grind
theorem E9 (s:ByteArray):jG [] s=false:=rfl
theorem uV (y:Con) (l:List Con) (s:ByteArray):jG (y::l) s=(BK y.name s||jG l s):=rfl
theorem uq (y:Con) (l:List Con) (s:ByteArray):gV (y::l) s=if BK y.name s then y.off else gV l s:=by
 unfold gV Dt
 rw [List.find?_cons]
 split<;>simp_all
theorem aaf (b:Bool) (s:ByteArray) (l:List Con) (hl:l.length<=9223372036854775806) (k:Nat):aL Tryz.prog 117 2 (aN Tryz.prog 117 2) ⟨rxT b s l k,[],[]⟩ ((rxO l s k).map (bJ [0] rxS)):=by
 refine dY Tryz.mixed (fun _=>rfl) (fun k=>(V9 b s l k).mpr ?_) k
 unfold abY
 simp
 refine ⟨fun h=>?_,fun h=>by simp [iX h,E9]⟩
 simp (disch:=omega) only [wrap_i64]
 rw [drop_cons h]
 simp only [uV,List.findIdx_cons]
 generalize l[k]?.getD default=y
 by_cases h1:y.name.data=s.data
 · simp [BK,h1,h]
 · simp [BK,h1,h,cast_succ_eq]
   exact ⟨k+1,by omega,rfl,by grind⟩
theorem MS:∀ (l:List Con) (s:ByteArray),jG l s=true->(l.findIdx fun x=>BK x.name s)<l.length/\(l.getD (l.findIdx fun x=>BK x.name s) default).off=gV l s
 | [],s,h=>by simp [E9] at h
 | y::l,s,h=>by
   rw [uV] at h
   rw [uq,List.findIdx_cons]
   cases hy:BK y.name s
   · rw [hy,Bool.false_or] at h
     have:=MS l s h
     simpa using this
   · simp
theorem xA:∀ (l:List Con) (s:ByteArray),jG l s=false->gV l s=0
 | [],s,_=>rfl
 | y::l,s,h=>by
   rw [uV,Bool.or_eq_false_iff] at h
   rw [uq,h.1]
   simpa using xA l s h.2
theorem adF (b:Bool) (s:ByteArray) (l:List Con) (hl:l.length<=9223372036854775806):(rdR l s).Sat (aB Tryz.prog 108 [dB b l,.y (.string s)] []):=by
 refine aP (ht:=rxH b s l) Tryz.mixed rfl ?_
 rw [Pz b s l]
 unfold Tq
 have lp:=aaf b s l hl 0
 cases hi:jG l s
 · have:=xA l s hi
   simp [lp,hi,this]
 · have:=MS l s hi
   simp [lp,hi,this.1] at this ⊢
   exact this
theorem YO (b:Bool) (s:ByteArray) (l:List Con) (hl:l.length<=9223372036854775806) (k:Nat):aL Tryz.prog 72 2 (aN Tryz.prog 72 2) ⟨rrT b s l k,[],[]⟩ ((rrO l s k).map (bJ [0] rrS)):=by
 refine dY Tryz.mixed (fun _=>rfl) (fun k=>(R_ b s l k).mpr ?_) k
 unfold abF
 simp
 refine ⟨fun h=>?_,fun h=>by simp [iX h,E9]⟩
 simp (disch:=omega) only [wrap_i64]
 rw [drop_cons h]
 simp only [uV,uq]
 generalize l[k]?.getD default=y
 by_cases h1:y.name.data=s.data
 · simp [BK,h1,h]
 · simp [BK,h1,h,cast_succ_eq]
   exact ⟨k+1,by omega,rfl,by grind⟩
theorem ajc (b:Bool) (s:ByteArray) (l:List Con) (hl:l.length<=9223372036854775806):(rdR l s).Sat (aB Tryz.prog 72 [dB b l,.y (.string s)] []):=by
 refine aP (ht:=rrH b s l) Tryz.mixed rfl ?_
 rw [XB b s l]
 unfold afl
 have lp:=YO b s l hl 0
 cases hi:jG l s
 · have:=xA l s hi
   simp [lp,hi,this]
 · simp [lp,hi]
def Ji (o:Int):Prop:=0<=o/\o<18446744073709551616
noncomputable def coC (b:Bool) (l:List Con):dZ Tryz.prog:=⟨46,[dB b l],[],.need (l.length<=9223372036854775806) (aZ (bW l)),T.Sat.need fun h=>ai1 b l h⟩
noncomputable def crC (b:Bool) (l:List Con):dZ Tryz.prog:=⟨52,[dB b l],[],.need (l.length<=9223372036854775806) (aZ (bW l)),T.Sat.need fun h=>aiP b l h⟩
noncomputable def rdC (b:Bool) (l:List Con) (s:ByteArray):dZ Tryz.prog:=⟨108,[dB b l,.y (.string s)],[],.need (l.length<=9223372036854775806) (rdR l s),T.Sat.need fun h=>adF b s l h⟩
noncomputable def rrC (b:Bool) (l:List Con) (s:ByteArray):dZ Tryz.prog:=⟨72,[dB b l,.y (.string s)],[],.need (l.length<=9223372036854775806) (rdR l s),T.Sat.need fun h=>ajc b s l h⟩
end Go.Proofs.YtnbhdjadlbhknaaGreatDoor
