import Derived.Test.YtckklclehofddaaGreatDoorProg
import Derived.KernelRfl
import Derived.Test.YtckklclehofddaaGreatDoorE12
set_option linter.unusedVariables false
set_option linter.unusedSimpArgs false
set_option linter.unusedSectionVars false
namespace Go.Proofs.YtckklclehofddaaGreatDoor
open Go.Ax
end Go.Proofs.YtckklclehofddaaGreatDoor

namespace Go.Proofs.YtckklclehofddaaGreatDoor
open Go.Ax
set_option maxRecDepth 1000000
structure Rec where
 off:Int
 key:ByteArray
 val:List Int
 prod:Int
 seq:Int
instance:Inhabited Rec:=⟨⟨0,ByteArray.empty,[],0,0⟩⟩
structure Rng where
 lo:ByteArray
 hi:ByteArray
instance:Inhabited Rng:=⟨⟨ByteArray.empty,ByteArray.empty⟩⟩
structure Con where
 name:ByteArray
 off:Int
instance:Inhabited Con:=⟨⟨ByteArray.empty,0⟩⟩
def encB (x:Int):List AV:=[.y (.int .u8 x)]
def encU (x:Int):List AV:=[.y (.int .u64 x)]
def encI (x:Int):List AV:=[.y (.int .i64 x)]
def encBs (b:Bool) (l:List Int):AV:=.ys b 1 l.length (cellsOf' encB l)
def bsLe (a b:List Int):Prop:=true=true/\List.length a=List.length b/\contLe (List.length a) (1:Nat) (cellsOf' encB a) (cellsOf' encB b)
@[simp] theorem bsLe_eq (a b:List Int):bsLe a b=(true=true/\List.length a=List.length b/\contLe (List.length a) (1:Nat) (cellsOf' encB a) (cellsOf' encB b)):=rfl
def encUs (b:Bool) (l:List Int):AV:=.ys b 1 l.length (cellsOf' encU l)
def encR (x:Rec):List AV:=[.y (.int .u64 x.off),.y (.string x.key),encBs true x.val,.y (.int .u64 x.prod),.y (.int .u64 x.seq)]
def encRs (b:Bool) (l:List Rec):AV:=.ys b 5 l.length (cellsOf' encR l)
def encC (x:Con):List AV:=[.y (.string x.name),.y (.int .u64 x.off)]
def encCs (b:Bool) (l:List Con):AV:=.ys b 2 l.length (cellsOf' encC l)
def encG (r:Rng):List AV:=[.y (.string r.lo),.y (.string r.hi)]
def rowU (l:List Int):Blk:=.row 25 1 l.length none (cellsOf' encU l)
def rowR (l:List Rec):Blk:=.row 37 5 l.length none (cellsOf' encR l)
def rowC (l:List Con):Blk:=.row 41 2 l.length none (cellsOf' encC l)
theorem Tryz.mixed:Tryz.prog.follows .mixedOrders=true:=by kernel_rfl
def boolR (b:Bool):T An:=.ret (.y (.bool b),[],[])
def intR (k:Int):T An:=.ret (.y (.int .i64 k),[],[])
def clnR (n:Nat) (c:Nat->Nat->AV):T An:=.ret (.own 0 1 0 n,[.row 5 1 n none c],[])
noncomputable def clnH:HintsT Tryz.prog:=hh _ noLp noCs (op1 85 2 0 (.row 5 1) noOp)
def vcClone0 (n:Nat) (c:Nat->Nat->AV):Prop :=
 (0=0/\0=n)/\(0=n/\contLe 0 1 (fun (x x_1:Nat)=>AV.junk) c)/\True
theorem vcClone0_eq (n:Nat) (c:Nat->Nat->AV):(ctrVC Tryz.prog clnH 85 [.s (.slice none 0 0)] [] (clnR n c))=vcClone0 n c:=by kernel_rfl
def vcClone1 (b:Bool) (n:Nat) (c:Nat->Nat->AV):Prop :=
 (decide (0+n<=9223372036854775807)&&decide ((0+n)*1<=140737488355328))=true/\(0=0/\0+n=n)/\(0+n=n/\contLe (0+n) 1 (appRow 0 (fun (k j:Nat)=>AV.junk) c) c)/\True
theorem vcClone1_eq (b:Bool) (n:Nat) (c:Nat->Nat->AV):(ctrVC Tryz.prog clnH 85 [.yn b 1 n c] [] (clnR n c))=vcClone1 b n c:=by kernel_rfl
theorem clone_c (b:Bool) (n:Nat) (c:Nat->Nat->AV) (hl:n<=140737488355328):(clnR n c).Sat (ACall' Tryz.prog 85 [.ys b 1 n c] []):=by
 refine nil_cases (pre:=[]) (post:=[]) (fun h0=>?_) ?_ ⟨_,rfl⟩
 · refine ctr_vc (ht:=clnH) Tryz.mixed rfl ?_
   rw [List.nil_append,vcClone0_eq n c]
   unfold vcClone0
   simp [h0]
 · refine ctr_vc (ht:=clnH) Tryz.mixed rfl ?_
   rw [List.nil_append,vcClone1_eq b n c]
   unfold vcClone1
   simp
   omega
noncomputable def clnC (b:Bool) (n:Nat) (c:Nat->Nat->AV):Ctr Tryz.prog:=⟨85,[.ys b 1 n c],[],.need (n<=140737488355328) (clnR n c),T.Sat.need fun h=>clone_c b n c h⟩
def Rec.to (x:Rec) (o:Int):Rec:=⟨o,x.key,x.val,x.prod,x.seq⟩
def recR (x:Rec):T An:=.ret (.agg (encR x),[],[])
noncomputable def ownH (x:Rec):HintsT Tryz.prog:=withSh (hh _ noLp (cs1 52 1 4 (clnC true x.val.length (cellsOf' encB x.val)) noCs) noOp) (sh1 52 2 0 779 noSh)
def vcOwn (x:Rec) (o:Int):Prop :=
 ((bsLe x.val x.val)/\True)/\True/\x.val.length<=140737488355328/\(∀ k,k<x.val.length->∀ j,j<1->tagT (cellsOf' encB x.val k j)=true)/\(IntKind.u64.wrap o=IntKind.u64.wrap o/\x.key=x.key/\(true=true/\x.val.length=x.val.length/\contLe x.val.length 1 (Ax.rowAt 0 (cellsOf' encB x.val)) (cellsOf' encB x.val))/\x.prod=x.prod/\x.seq=x.seq/\True)/\True
theorem vcOwn_eq (x:Rec) (o:Int):(ctrVC Tryz.prog (ownH x) 52 [.agg (encR x),.y (.int .i64 o)] [] (recR (x.to (IntKind.u64.wrap o))))=vcOwn x o:=by kernel_rfl
noncomputable def atH:HintsT Tryz.prog:=withSh (hh _ noLp noCs noOp) (sh1 71 3 0 779 noSh)
def vcAt (x:Rec) (o:Int):Prop :=
 (decide (0+x.val.length<=9223372036854775807)&&decide ((0+x.val.length)*1<=140737488355328))=true/\(∀ k,k<0+x.val.length->∀ j,j<1->tagT (appRow 0 (fun (k j:Nat)=>AV.junk) (cellsOf' encB x.val) k j)=true)/\(IntKind.u64.wrap o=IntKind.u64.wrap o/\x.key=x.key/\(true=true/\0+x.val.length=x.val.length/\contLe (0+x.val.length) 1 (Ax.rowAt 0 (appRow 0 (fun (k j:Nat)=>AV.junk) (cellsOf' encB x.val))) (cellsOf' encB x.val))/\x.prod=x.prod/\x.seq=x.seq/\True)/\True
theorem vcAt_eq (x:Rec) (o:Int):(ctrVC Tryz.prog atH 71 [.agg (encR x),.y (.int .i64 o)] [] (recR (x.to (IntKind.u64.wrap o))))=vcAt x o:=by kernel_rfl
def lt (a b:ByteArray):Bool:=Op.bytesLess a.data.toList b.data.toList
def chkK (r:Rng):Int:=if 32<r.lo.size∨32<r.hi.size then 131 else if (!r.hi.data.toList==[])=true/\(lt r.hi r.lo||r.hi.data.toList==r.lo.data.toList)=true then 132 else 0
def vcChk (r:Rng):Prop :=
 (decide (32<((ByteArray.size r.lo):Int))=true->131=chkK r/\True)/\(decide (32<((ByteArray.size r.lo):Int))=false->(decide (32<((ByteArray.size r.hi):Int))=true->131=chkK r/\True)/\(decide (32<((ByteArray.size r.hi):Int))=false->((!r.hi.data.toList==[])=true->((Op.bytesLess r.hi.data.toList r.lo.data.toList||r.hi.data.toList==r.lo.data.toList)=true->132=chkK r/\True)/\((Op.bytesLess r.hi.data.toList r.lo.data.toList||r.hi.data.toList==r.lo.data.toList)=false->0=chkK r/\True))/\((!r.hi.data.toList==[])=false->0=chkK r/\True)))
theorem vcChk_eq (r:Rng):(ctrVC Tryz.prog (hT _) 41 [.agg (encG r)] [] (intR (chkK r)))=vcChk r:=by kernel_rfl
def vcChk2 (r:Rng):Prop :=
 (decide (32<((ByteArray.size r.lo):Int))=true->131=chkK r/\True)/\(decide (32<((ByteArray.size r.lo):Int))=false->(decide (32<((ByteArray.size r.hi):Int))=true->131=chkK r/\True)/\(decide (32<((ByteArray.size r.hi):Int))=false->((!r.hi.data.toList==[])=true->((Op.bytesLess r.hi.data.toList r.lo.data.toList||r.hi.data.toList==r.lo.data.toList)=true->132=chkK r/\True)/\((Op.bytesLess r.hi.data.toList r.lo.data.toList||r.hi.data.toList==r.lo.data.toList)=false->0=chkK r/\True))/\((!r.hi.data.toList==[])=false->0=chkK r/\True)))
theorem vcChk2_eq (r:Rng):(ctrVC Tryz.prog (hT _) 67 [.agg (encG r)] [] (intR (chkK r)))=vcChk2 r:=by kernel_rfl
end Go.Proofs.YtckklclehofddaaGreatDoor

namespace Go.Proofs.YtckklclehofddaaGreatDoor
open Go.Ax
set_option maxRecDepth 1000000
theorem own_c (x:Rec) (o:Int) (h:x.val.length<=140737488355328):(recR (x.to (IntKind.u64.wrap o))).Sat (ACall' Tryz.prog 52 [.agg (encR x),.y (.int .i64 o)] []):=by
 refine ctr_vc (ht:=ownH x) Tryz.mixed rfl ?_
 rw [vcOwn_eq x o]
 unfold vcOwn
 simp [h]
 exact fun _ _=>rfl
theorem at_c (x:Rec) (o:Int) (h:x.val.length<=140737488355328):(recR (x.to (IntKind.u64.wrap o))).Sat (ACall' Tryz.prog 71 [.agg (encR x),.y (.int .i64 o)] []):=by
 refine ctr_vc (ht:=atH) Tryz.mixed rfl ?_
 rw [vcAt_eq x o]
 unfold vcAt
 simp
 exact ⟨⟨by omega,by omega⟩,fun _ _=>rfl⟩
noncomputable def ownC (x:Rec) (o:Int):Ctr Tryz.prog:=⟨52,[.agg (encR x),.y (.int .i64 o)],[],.need (x.val.length<=140737488355328) (recR (x.to (IntKind.u64.wrap o))),T.Sat.need fun h=>own_c x o h⟩
noncomputable def atC (x:Rec) (o:Int):Ctr Tryz.prog:=⟨71,[.agg (encR x),.y (.int .i64 o)],[],.need (x.val.length<=140737488355328) (recR (x.to (IntKind.u64.wrap o))),T.Sat.need fun h=>at_c x o h⟩
theorem chk_c (r:Rng):(intR (chkK r)).Sat (ACall' Tryz.prog 41 [.agg (encG r)] []):=by
 refine ctr_vc (ht:=hT _) Tryz.mixed rfl ?_
 rw [vcChk_eq r]
 unfold vcChk chkK lt
 simp
 grind
theorem chk2_c (r:Rng):(intR (chkK r)).Sat (ACall' Tryz.prog 67 [.agg (encG r)] []):=by
 refine ctr_vc (ht:=hT _) Tryz.mixed rfl ?_
 rw [vcChk2_eq r]
 unfold vcChk2 chkK lt
 simp
 grind
noncomputable def chkC (r:Rng):Ctr Tryz.prog:=⟨41,[.agg (encG r)],[],intR (chkK r),chk_c r⟩
noncomputable def chk2C (r:Rng):Ctr Tryz.prog:=⟨67,[.agg (encG r)],[],intR (chkK r),chk2_c r⟩
def hasK (r:Rng) (k:ByteArray):Bool:=chkK r==0&&(decide ((k.size:Int)<=32)&&((lt r.lo k||r.lo.data.toList==k.data.toList)&&(r.hi.data.toList==[]||lt k r.hi)))
noncomputable def hasH (r:Rng):HintsT Tryz.prog:=hh _ noLp (cs1 51 1 1 (chkC r) noCs) noOp
noncomputable def has2H (r:Rng):HintsT Tryz.prog:=hh _ noLp (cs1 68 1 1 (chk2C r) noCs) noOp
def vcHas (r:Rng) (k:ByteArray):Prop :=
 ((r.lo=r.lo/\r.hi=r.hi/\True)/\True)/\True/\((chkK r==0)=true->(decide (((ByteArray.size k):Int)<=32)=true->((Op.bytesLess r.lo.data.toList k.data.toList||r.lo.data.toList==k.data.toList)=true->((r.hi.data.toList==[])=true->true=hasK r k/\True)/\((r.hi.data.toList==[])=false->Op.bytesLess k.data.toList r.hi.data.toList=hasK r k/\True))/\((Op.bytesLess r.lo.data.toList k.data.toList||r.lo.data.toList==k.data.toList)=false->false=hasK r k/\True))/\(decide (((ByteArray.size k):Int)<=32)=false->false=hasK r k/\True))/\((chkK r==0)=false->false=hasK r k/\True)
theorem vcHas_eq (r:Rng) (k:ByteArray):(ctrVC Tryz.prog (hasH r) 51 [.agg (encG r),.y (.string k)] [] (boolR (hasK r k)))=vcHas r k:=by kernel_rfl
def vcHas2 (r:Rng) (k:ByteArray):Prop :=
 ((r.lo=r.lo/\r.hi=r.hi/\True)/\True)/\True/\((chkK r==0)=true->(decide (((ByteArray.size k):Int)<=32)=true->((!Op.bytesLess k.data.toList r.lo.data.toList)=true->((r.hi.data.toList==[])=true->true=hasK r k/\True)/\((r.hi.data.toList==[])=false->Op.bytesLess k.data.toList r.hi.data.toList=hasK r k/\True))/\((!Op.bytesLess k.data.toList r.lo.data.toList)=false->false=hasK r k/\True))/\(decide (((ByteArray.size k):Int)<=32)=false->false=hasK r k/\True))/\((chkK r==0)=false->false=hasK r k/\True)
theorem vcHas2_eq (r:Rng) (k:ByteArray):(ctrVC Tryz.prog (has2H r) 68 [.agg (encG r),.y (.string k)] [] (boolR (hasK r k)))=vcHas2 r k:=by kernel_rfl
theorem less_irr:∀ l:List UInt8,Op.bytesLess l l=false
 | []=>rfl
 | a::l=>by simp [Op.bytesLess,less_irr l]
theorem less_asymm:∀ (a b:List UInt8),Op.bytesLess a b=true->Op.bytesLess b a=false
 | [],[],h=>by simp [Op.bytesLess] at h
 | [],_::_,_=>rfl
 | _::_,[],h=>by simp [Op.bytesLess] at h
 | a::l,b::m,h=>by
   simp only [Op.bytesLess,Bool.or_eq_true,Bool.and_eq_true,decide_eq_true_eq,beq_iff_eq] at h ⊢
   rcases h with h | ⟨rfl,h⟩
   · have h1:¬ b<a:=UInt8.not_lt.2 (UInt8.le_of_lt h)
     have h2:¬ b=a:=fun e=>by subst e;exact absurd h (UInt8.lt_irrefl _)
     simp [h1,h2]
   · have:=less_asymm l m h
     simp [this]
theorem less_total:∀ (a b:List UInt8),Op.bytesLess a b=false->Op.bytesLess b a=false->a=b
 | [],[],_,_=>rfl
 | [],_::_,h,_=>by simp [Op.bytesLess] at h
 | _::_,[],_,h=>by simp [Op.bytesLess] at h
 | a::l,b::m,h,k=>by
   simp only [Op.bytesLess,Bool.or_eq_false_iff,Bool.and_eq_false_iff,decide_eq_false_iff_not,beq_eq_false_iff_ne] at h k
   have e:a=b:=UInt8.le_antisymm (UInt8.not_lt.1 k.1) (UInt8.not_lt.1 h.1)
   subst e
   rw [less_total l m (h.2.resolve_left fun q=>q rfl) (k.2.resolve_left fun q=>q rfl)]
theorem less_geq (a b:List UInt8):(!Op.bytesLess a b)=(Op.bytesLess b a||b==a):=by
 cases h:Op.bytesLess a b
 · cases k:Op.bytesLess b a
   · simp [less_total a b h k]
   · rfl
 · have h1:=less_asymm a b h
   have h2:¬ b=a:=fun e=>by subst e;rw [less_irr] at h;cases h
   simp [h1,h2]
theorem has_c (r:Rng) (k:ByteArray):(boolR (hasK r k)).Sat (ACall' Tryz.prog 51 [.agg (encG r),.y (.string k)] []):=by
 refine ctr_vc (ht:=hasH r) Tryz.mixed rfl ?_
 rw [vcHas_eq r k]
 unfold vcHas
 unfold hasK lt
 generalize (chkK r==0)=a
 generalize decide ((k.size:Int)<=32)=b
 generalize Op.bytesLess r.lo.data.toList k.data.toList=c
 generalize (r.lo.data.toList==k.data.toList)=d
 generalize (r.hi.data.toList==[])=e
 generalize Op.bytesLess k.data.toList r.hi.data.toList=f
 cases a<;>cases b<;>cases c<;>cases d<;>cases e<;>cases f<;>simp
theorem has2_c (r:Rng) (k:ByteArray):(boolR (hasK r k)).Sat (ACall' Tryz.prog 68 [.agg (encG r),.y (.string k)] []):=by
 refine ctr_vc (ht:=has2H r) Tryz.mixed rfl ?_
 rw [vcHas2_eq r k]
 unfold vcHas2
 unfold hasK lt
 simp only [less_geq]
 generalize (chkK r==0)=a
 generalize decide ((k.size:Int)<=32)=b
 generalize Op.bytesLess r.lo.data.toList k.data.toList=c
 generalize (r.lo.data.toList==k.data.toList)=d
 generalize (r.hi.data.toList==[])=e
 generalize Op.bytesLess k.data.toList r.hi.data.toList=f
 cases a<;>cases b<;>cases c<;>cases d<;>cases e<;>cases f<;>simp
end Go.Proofs.YtckklclehofddaaGreatDoor

namespace Go.Proofs.YtckklclehofddaaGreatDoor
open Go.Ax
set_option maxRecDepth 1000000
def okR (x:Rec) (k:Nat):Bool:=!(x.off != IntKind.u64.wrap k)&&(decide (x.key.size<=32)&&decide (x.val.length<=256))
def logFrom (l:List Rec) (k:Nat):Bool:=(List.range' k (l.length - k)).all fun j=>okR (l.getD j default) j
theorem logFrom_end {l:List Rec} {k:Nat} (h:l.length<=k):logFrom l k=true:=by
 unfold logFrom
 rw [show l.length - k=0 by omega];rfl
theorem logFrom_step {l:List Rec} {k:Nat} (h:k<l.length):logFrom l k=(okR (l.getD k default) k&&logFrom l (k+1)):=by
 unfold logFrom
 rw [show l.length - k=(l.length - (k+1))+1 by omega,List.range'_succ];rfl
def isLog (l:List Rec):Bool:=logFrom l 0&&decide (l.length<=4096)
def lgT (b:Bool) (l:List Rec) (k:Nat):List AV:=mkT 33 [(0,encRs b l),(2,.s (.bool false)),(5,encRs b l),(6,.y (.int .i64 l.length)),(7,.y (.int .i64 k))]
def lgS (b:Bool) (l:List Rec) (r:Bool):Exit×List AV×List Blk:=match r with
 | true=>(.exit 0,mkT 33 [(0,encRs b l)],[])
 | false=>(.ret,mkT 33 [(2,.s (.bool false))],[])
def lgO (l:List Rec) (k:Nat):T Bool:=.ite (logFrom l k) (.ret true) (.ret false)
def vcLgL (b:Bool) (l:List Rec) (k:Nat):Prop :=
 (decide ((k:Int)<(l.length:Int))=true->(true&&decide ((k:Int)<(l.length:Int)))=true/\(((l.getD (Int.toNat (k:Int)) default).off != IntKind.u64.wrap (k:Int))=true->(logFrom l k=true->False)/\(logFrom l k=false->(false=false/\True)/\True/\true=true))/\(((l.getD (Int.toNat (k:Int)) default).off != IntKind.u64.wrap (k:Int))=false->(decide (32<((ByteArray.size (l.getD (Int.toNat (k:Int)) default).key):Int))=true->(logFrom l k=true->False)/\(logFrom l k=false->(false=false/\True)/\True/\true=true))/\(decide (32<((ByteArray.size (l.getD (Int.toNat (k:Int)) default).key):Int))=false->(decide (256<((l.getD (Int.toNat (k:Int)) default).val.length:Int))=true->(logFrom l k=true->False)/\(logFrom l k=false->(false=false/\True)/\True/\true=true))/\(decide (256<((l.getD (Int.toNat (k:Int)) default).val.length:Int))=false->∃ j:Nat,l.length - j<l.length - k/\(((b=b/\l.length=l.length/\contLe l.length 5 (cellsOf' encR l) (cellsOf' encR l))/\false=false/\(b=b/\l.length=l.length/\contLe l.length 5 (cellsOf' encR l) (cellsOf' encR l))/\(l.length:Int)=(l.length:Int)/\IntKind.i64.wrap ((k:Int)+1)=(j:Int)/\True)/\True/\true=true)/\true=true/\(logFrom l j=true->(logFrom l k=true->true=true)/\(logFrom l k=false->true=false))/\(logFrom l j=false->(logFrom l k=true->false=true)/\(logFrom l k=false->false=false))))))/\(decide ((k:Int)<(l.length:Int))=false->(logFrom l k=true->((b=b/\l.length=l.length/\contLe l.length 5 (cellsOf' encR l) (cellsOf' encR l))/\True)/\True/\true=true)/\(logFrom l k=false->False))
theorem vcLgL_eq (b:Bool) (l:List Rec) (k:Nat):(loopVC Tryz.prog (hT _) 42 2 (fun k=>l.length - k) (lgT b l) (fun _=>[]) [0] (lgO l) (lgS b l) k)=vcLgL b l k:=by kernel_rfl
noncomputable def lgH (b:Bool) (l:List Rec):HintsT Tryz.prog:=hh _ (lp1 42 2 (jobOf (lgT b l) (fun _=>[]) [0] (lgO l) (lgS b l) 0) noLp) noCs noOp
def vcLg (b:Bool) (l:List Rec):Prop :=
 (((b=b/\l.length=l.length/\contLe l.length 5 (cellsOf' encR l) (cellsOf' encR l))/\false=false/\(b=b/\l.length=l.length/\contLe l.length 5 (cellsOf' encR l) (cellsOf' encR l))/\(l.length:Int)=(l.length:Int)/\(0:Int)=0/\True)/\True/\true=true)/\LoopOk Tryz.prog 42 2 (loopAt Tryz.prog 42 2) { t:=lgT b l 0,m:=[],mv:=[]:St } (T.map (lout [0] (lgS b l)) (lgO l 0))/\(logFrom l 0=true->decide ((l.length:Int)<=4096)=isLog l/\True)/\(logFrom l 0=false->false=isLog l/\True)
theorem vcLg_eq (b:Bool) (l:List Rec):(ctrVC Tryz.prog (lgH b l) 42 [encRs b l] [] (boolR (isLog l)))=vcLg b l:=by kernel_rfl
def lrT (b:Bool) (l:List Rec) (k:Nat):List AV:=mkT 39 [(0,encRs b l),(2,.s (.bool false)),(3,.y (.int .i64 k))]
def lrS (r:Bool):Exit×List AV×List Blk:=match r with
 | true=>(.exit 0,mkT 39 [],[])
 | false=>(.ret,mkT 39 [(2,.s (.bool false))],[])
def vcLrL (b:Bool) (l:List Rec) (k:Nat):Prop :=
 (decide ((k:Int)<(l.length:Int))=true->(true&&decide ((k:Int)<(l.length:Int)))=true/\(((l.getD (Int.toNat (k:Int)) default).off != IntKind.u64.wrap (k:Int))=true->(logFrom l k=true->False)/\(logFrom l k=false->(false=false/\True)/\True/\true=true))/\(((l.getD (Int.toNat (k:Int)) default).off != IntKind.u64.wrap (k:Int))=false->(true&&decide ((k:Int)<(l.length:Int)))=true/\(decide (32<((ByteArray.size (l.getD (Int.toNat (k:Int)) default).key):Int))=true->(logFrom l k=true->False)/\(logFrom l k=false->(false=false/\True)/\True/\true=true))/\(decide (32<((ByteArray.size (l.getD (Int.toNat (k:Int)) default).key):Int))=false->(true&&decide ((k:Int)<(l.length:Int)))=true/\(decide (256<((l.getD (Int.toNat (k:Int)) default).val.length:Int))=true->(logFrom l k=true->False)/\(logFrom l k=false->(false=false/\True)/\True/\true=true))/\(decide (256<((l.getD (Int.toNat (k:Int)) default).val.length:Int))=false->∃ j:Nat,l.length - j<l.length - k/\(((b=b/\l.length=l.length/\contLe l.length 5 (cellsOf' encR l) (cellsOf' encR l))/\false=false/\IntKind.i64.wrap ((k:Int)+1)=(j:Int)/\True)/\True/\true=true)/\true=true/\(logFrom l j=true->(logFrom l k=true->true=true)/\(logFrom l k=false->true=false))/\(logFrom l j=false->(logFrom l k=true->false=true)/\(logFrom l k=false->false=false))))))/\(decide ((k:Int)<(l.length:Int))=false->(logFrom l k=true->True/\True/\true=true)/\(logFrom l k=false->False))
theorem vcLrL_eq (b:Bool) (l:List Rec) (k:Nat):(loopVC Tryz.prog (hT _) 64 4 (fun k=>l.length - k) (lrT b l) (fun _=>[]) [0] (lgO l) lrS k)=vcLrL b l k:=by kernel_rfl
noncomputable def lrH (b:Bool) (l:List Rec):HintsT Tryz.prog:=hh _ (lp1 64 4 (jobOf (lrT b l) (fun _=>[]) [0] (lgO l) lrS 0) noLp) noCs noOp
def vcLr (b:Bool) (l:List Rec):Prop :=
 (decide (4096<(l.length:Int))=true->false=isLog l/\True)/\(decide (4096<(l.length:Int))=false->(((b=b/\l.length=l.length/\contLe l.length 5 (cellsOf' encR l) (cellsOf' encR l))/\false=false/\(0:Int)=0/\True)/\True/\true=true)/\LoopOk Tryz.prog 64 4 (loopAt Tryz.prog 64 4) { t:=lrT b l 0,m:=[],mv:=[]:St } (T.map (lout [0] lrS) (lgO l 0))/\(logFrom l 0=true->true=isLog l/\True)/\(logFrom l 0=false->false=isLog l/\True))
theorem vcLr_eq (b:Bool) (l:List Rec):(ctrVC Tryz.prog (lrH b l) 64 [encRs b l] [] (boolR (isLog l)))=vcLr b l:=by kernel_rfl
def below (x y:Rec):Bool:=y.prod==x.prod&&decide (y.seq<x.seq)
def lowR (l:List Rec) (x:Rec):Bool:=l.any (below x)
theorem low_nil (x:Rec):lowR [] x=false:=rfl
theorem low_cons (y:Rec) (l:List Rec) (x:Rec):lowR (y::l) x=(below x y||lowR l x):=rfl
def fnW (x:Rec):AV:=.fn (.func 97) [] [.ip false 5 (get (encR x))]
def ixT (b:Bool) (x:Rec) (l:List Rec) (k:Nat):List AV:=mkT 19 [(0,encRs b l),(1,fnW x),(4,.s (.int .i64 0)),(7,.y (.int .i64 l.length)),(8,.y (.int .i64 k))]
def ixS (r:Bool×Nat):Exit×List AV×List Blk:=match r.1 with
 | true=>(.ret,mkT 19 [(4,.y (.int .i64 r.2))],[])
 | false=>(.exit 0,mkT 19 [],[])
def ixO (l:List Rec) (x:Rec) (k:Nat):T (Bool×Nat):=.ite (lowR (l.drop k) x) (.ret (true,k+(l.drop k).findIdx (below x))) (.ret (false,0))
def vcIxL (b:Bool) (x:Rec) (l:List Rec) (k:Nat):Prop :=
 (decide ((↑k:Int)<(↑(List.length l):Int))=true->(true&&decide ((↑k:Int)<(↑(List.length l):Int)))=true/\(((List.getD l (Int.toNat (↑k:Int)) (@default Rec instInhabitedRec)).prod==x.prod)=true->(decide ((List.getD l (Int.toNat (↑k:Int)) (@default Rec instInhabitedRec)).seq<x.seq)=true->(lowR (List.drop k l) x=true->((↑k:Int)=(↑(k+List.findIdx (below x) (List.drop k l)):Int)/\True)/\True/\true=true)/\(lowR (List.drop k l) x=false->False))/\(decide ((List.getD l (Int.toNat (↑k:Int)) (@default Rec instInhabitedRec)).seq<x.seq)=false->∃ (j:Nat),List.length l - j<List.length l - k/\(((b=b/\List.length l=List.length l/\contLe (List.length l) (5:Nat) (cellsOf' encR l) (cellsOf' encR l))/\(True/\(false=false/\(5:Nat)<=(5:Nat)/\cellLe (5:Nat) (Ax.get [AV.y (Value.int IntKind.u64 x.off),AV.y (Value.string x.key),AV.ys true (1:Nat) (List.length x.val) (cellsOf' encB x.val),AV.y (Value.int IntKind.u64 x.prod),AV.y (Value.int IntKind.u64 x.seq)]) (Ax.get [AV.y (Value.int IntKind.u64 x.off),AV.y (Value.string x.key),AV.ys true (1:Nat) (List.length x.val) (cellsOf' encB x.val),AV.y (Value.int IntKind.u64 x.prod),AV.y (Value.int IntKind.u64 x.seq)]))/\True)/\(0:Int)=(0:Int)/\(↑(List.length l):Int)=(↑(List.length l):Int)/\IntKind.wrap IntKind.i64 ((↑k:Int)+(1:Int))=(↑j:Int)/\True)/\True/\true=true)/\true=true/\(lowR (List.drop j l) x=true->(lowR (List.drop k l) x=true->(true,j+List.findIdx (below x) (List.drop j l))=(true,k+List.findIdx (below x) (List.drop k l)))/\(lowR (List.drop k l) x=false->(true,j+List.findIdx (below x) (List.drop j l))=(false,(0:Nat))))/\(lowR (List.drop j l) x=false->(lowR (List.drop k l) x=true->(false,(0:Nat))=(true,k+List.findIdx (below x) (List.drop k l)))/\(lowR (List.drop k l) x=false->(false,(0:Nat))=(false,(0:Nat))))))/\(((List.getD l (Int.toNat (↑k:Int)) (@default Rec instInhabitedRec)).prod==x.prod)=false->∃ (j:Nat),List.length l - j<List.length l - k/\(((b=b/\List.length l=List.length l/\contLe (List.length l) (5:Nat) (cellsOf' encR l) (cellsOf' encR l))/\(True/\(false=false/\(5:Nat)<=(5:Nat)/\cellLe (5:Nat) (Ax.get [AV.y (Value.int IntKind.u64 x.off),AV.y (Value.string x.key),AV.ys true (1:Nat) (List.length x.val) (cellsOf' encB x.val),AV.y (Value.int IntKind.u64 x.prod),AV.y (Value.int IntKind.u64 x.seq)]) (Ax.get [AV.y (Value.int IntKind.u64 x.off),AV.y (Value.string x.key),AV.ys true (1:Nat) (List.length x.val) (cellsOf' encB x.val),AV.y (Value.int IntKind.u64 x.prod),AV.y (Value.int IntKind.u64 x.seq)]))/\True)/\(0:Int)=(0:Int)/\(↑(List.length l):Int)=(↑(List.length l):Int)/\IntKind.wrap IntKind.i64 ((↑k:Int)+(1:Int))=(↑j:Int)/\True)/\True/\true=true)/\true=true/\(lowR (List.drop j l) x=true->(lowR (List.drop k l) x=true->(true,j+List.findIdx (below x) (List.drop j l))=(true,k+List.findIdx (below x) (List.drop k l)))/\(lowR (List.drop k l) x=false->(true,j+List.findIdx (below x) (List.drop j l))=(false,(0:Nat))))/\(lowR (List.drop j l) x=false->(lowR (List.drop k l) x=true->(false,(0:Nat))=(true,k+List.findIdx (below x) (List.drop k l)))/\(lowR (List.drop k l) x=false->(false,(0:Nat))=(false,(0:Nat))))))/\(decide ((↑k:Int)<(↑(List.length l):Int))=false->(lowR (List.drop k l) x=true->False)/\(lowR (List.drop k l) x=false->True/\True/\true=true))
theorem vcIxL_eq (b:Bool) (x:Rec) (l:List Rec) (k:Nat):(loopVC Tryz.prog (hT _) 118 2 (fun k=>l.length - k) (ixT b x l) (fun _=>[]) [0] (ixO l x) ixS k)=vcIxL b x l k:=by kernel_rfl
noncomputable def ixH (b:Bool) (x:Rec) (l:List Rec):HintsT Tryz.prog:=hh _ (lp1 118 2 (jobOf (ixT b x l) (fun _=>[]) [0] (ixO l x) ixS 0) noLp) noCs noOp
def vcCf (b:Bool) (x:Rec) (l:List Rec):Prop :=
 (((b=b/\l.length=l.length/\contLe l.length 5 (cellsOf' encR l) (cellsOf' encR l))/\(True/\(false=false/\5<=5/\cellLe 5 (Ax.get [AV.y (.int .u64 x.off),AV.y (.string x.key),AV.ys true 1 x.val.length (cellsOf' encB x.val),AV.y (.int .u64 x.prod),AV.y (.int .u64 x.seq)]) (Ax.get [AV.y (.int .u64 x.off),AV.y (.string x.key),AV.ys true 1 x.val.length (cellsOf' encB x.val),AV.y (.int .u64 x.prod),AV.y (.int .u64 x.seq)]))/\True)/\(0:Int)=0/\(l.length:Int)=(l.length:Int)/\(0:Int)=0/\True)/\True/\true=true)/\LoopOk Tryz.prog 118 2 (loopAt Tryz.prog 118 2) { t:=ixT b x l 0,m:=[],mv:=[]:St } (T.map (lout [0] ixS) (ixO l x 0))/\(lowR (List.drop 0 l) x=true->true=lowR l x/\True)/\(lowR (List.drop 0 l) x=false->false=lowR l x/\True)
theorem vcCf_eq (b:Bool) (x:Rec) (l:List Rec):(ctrVC Tryz.prog (ixH b x l) 96 [encRs b l,fnW x] [] (boolR (lowR l x)))=vcCf b x l:=by kernel_rfl
def lwT (b:Bool) (l:List Rec) (k:Nat):List AV:=mkT 30 [(0,encRs b l),(3,.ptr 0 0 0 0),(4,.s (.bool false)),(5,.y (.int .i64 k))]
def lwM (x:Rec):List Blk:=[.box 37 (encR x)]
def lwS (x:Rec) (r:Bool):Exit×List AV×List Blk:=match r with
 | true=>(.ret,mkT 30 [(4,.s (.bool true))],lwM x)
 | false=>(.exit 0,mkT 30 [],lwM x)
def lwO (l:List Rec) (x:Rec) (k:Nat):T Bool:=.ite (lowR (l.drop k) x) (.ret true) (.ret false)
def vcLwL (b:Bool) (x:Rec) (l:List Rec) (k:Nat):Prop :=
 (decide ((k:Int)<(l.length:Int))=true->(true&&decide ((k:Int)<(l.length:Int)))=true/\(((l.getD (Int.toNat (k:Int)) default).prod==x.prod)=true->(true&&decide ((k:Int)<(l.length:Int)))=true/\(decide ((l.getD (Int.toNat (k:Int)) default).seq<x.seq)=true->(lowR (List.drop k l) x=true->(true=true/\True)/\((x.off=x.off/\x.key=x.key/\(bsLe x.val x.val)/\x.prod=x.prod/\x.seq=x.seq/\True)/\True)/\true=true)/\(lowR (List.drop k l) x=false->False))/\(decide ((l.getD (Int.toNat (k:Int)) default).seq<x.seq)=false->∃ j:Nat,l.length - j<l.length - k/\(((b=b/\l.length=l.length/\contLe l.length 5 (cellsOf' encR l) (cellsOf' encR l))/\(0=0/\0=0)/\false=false/\IntKind.i64.wrap ((k:Int)+1)=(j:Int)/\True)/\((x.off=x.off/\x.key=x.key/\(bsLe x.val x.val)/\x.prod=x.prod/\x.seq=x.seq/\True)/\True)/\true=true)/\true=true/\(lowR (List.drop j l) x=true->(lowR (List.drop k l) x=true->true=true)/\(lowR (List.drop k l) x=false->true=false))/\(lowR (List.drop j l) x=false->(lowR (List.drop k l) x=true->false=true)/\(lowR (List.drop k l) x=false->false=false))))/\(((l.getD (Int.toNat (k:Int)) default).prod==x.prod)=false->∃ j:Nat,l.length - j<l.length - k/\(((b=b/\l.length=l.length/\contLe l.length 5 (cellsOf' encR l) (cellsOf' encR l))/\(0=0/\0=0)/\false=false/\IntKind.i64.wrap ((k:Int)+1)=(j:Int)/\True)/\((x.off=x.off/\x.key=x.key/\(bsLe x.val x.val)/\x.prod=x.prod/\x.seq=x.seq/\True)/\True)/\true=true)/\true=true/\(lowR (List.drop j l) x=true->(lowR (List.drop k l) x=true->true=true)/\(lowR (List.drop k l) x=false->true=false))/\(lowR (List.drop j l) x=false->(lowR (List.drop k l) x=true->false=true)/\(lowR (List.drop k l) x=false->false=false))))/\(decide ((k:Int)<(l.length:Int))=false->(lowR (List.drop k l) x=true->False)/\(lowR (List.drop k l) x=false->True/\((x.off=x.off/\x.key=x.key/\(bsLe x.val x.val)/\x.prod=x.prod/\x.seq=x.seq/\True)/\True)/\true=true))
theorem vcLwL_eq (b:Bool) (x:Rec) (l:List Rec) (k:Nat):(loopVC Tryz.prog (hT _) 70 2 (fun k=>l.length - k) (lwT b l) (fun _=>lwM x) [0,1,2] (lwO l x) (lwS x) k)=vcLwL b x l k:=by kernel_rfl
noncomputable def lwH (b:Bool) (x:Rec) (l:List Rec):HintsT Tryz.prog:=hh _ (lp1 70 2 (jobOf (lwT b l) (fun _=>lwM x) [0,1,2] (lwO l x) (lwS x) 0) noLp) noCs noOp
def vcLw (b:Bool) (x:Rec) (l:List Rec):Prop :=
 (((b=b/\l.length=l.length/\contLe l.length 5 (cellsOf' encR l) (cellsOf' encR l))/\(0=0/\0=0)/\false=false/\(0:Int)=0/\True)/\((x.off=x.off/\x.key=x.key/\(bsLe x.val x.val)/\x.prod=x.prod/\x.seq=x.seq/\True)/\True)/\true=true)/\LoopOk Tryz.prog 70 2 (loopAt Tryz.prog 70 2) { t:=lwT b l 0,m:=lwM x,mv:=[]:St } (T.map (lout [0,1,2] (lwS x)) (lwO l x 0))/\(lowR (List.drop 0 l) x=true->true=lowR l x/\True)/\(lowR (List.drop 0 l) x=false->false=lowR l x/\True)
theorem vcLw_eq (b:Bool) (x:Rec) (l:List Rec):(ctrVC Tryz.prog (lwH b x l) 70 [encRs b l,.agg (encR x)] [] (boolR (lowR l x)))=vcLw b x l:=by kernel_rfl
end Go.Proofs.YtckklclehofddaaGreatDoor

namespace Go.Proofs.YtckklclehofddaaGreatDoor
open Go.Ax
set_option maxRecDepth 1000000
theorem lg_loop (b:Bool) (l:List Rec) (hl:l.length<=9223372036854775806) (k:Nat):LoopOk Tryz.prog 42 2 (loopAt Tryz.prog 42 2) ⟨lgT b l k,[],[]⟩ ((lgO l k).map (lout [0] (lgS b l))):=by
 refine loop_vc Tryz.mixed (fun _=>rfl) (fun k=>(vcLgL_eq b l k).mpr ?_) k
 unfold vcLgL
 simp
 refine ⟨fun h=>?_,fun h=>by simp [logFrom_end h]⟩
 rw [logFrom_step h]
 simp (disch:=omega) only [wrap_i64]
 simp [okR,cast_succ_eq]
 generalize l[k]?.getD default=x
 grind
theorem lg_c (b:Bool) (l:List Rec) (hl:l.length<=9223372036854775806):(boolR (isLog l)).Sat (ACall' Tryz.prog 42 [encRs b l] []):=by
 refine ctr_vc (ht:=lgH b l) Tryz.mixed rfl ?_
 rw [vcLg_eq b l]
 unfold vcLg
 have:=lg_loop b l hl 0
 simp [this,isLog]
 grind
theorem lr_loop (b:Bool) (l:List Rec) (hl:l.length<=9223372036854775806) (k:Nat):LoopOk Tryz.prog 64 4 (loopAt Tryz.prog 64 4) ⟨lrT b l k,[],[]⟩ ((lgO l k).map (lout [0] lrS)):=by
 refine loop_vc Tryz.mixed (fun _=>rfl) (fun k=>(vcLrL_eq b l k).mpr ?_) k
 unfold vcLrL
 simp
 refine ⟨fun h=>?_,fun h=>by simp [logFrom_end h]⟩
 rw [logFrom_step h]
 simp (disch:=omega) only [wrap_i64]
 simp [okR,cast_succ_eq]
 generalize l[k]?.getD default=x
 grind
theorem lr_c (b:Bool) (l:List Rec) (hl:l.length<=9223372036854775806):(boolR (isLog l)).Sat (ACall' Tryz.prog 64 [encRs b l] []):=by
 refine ctr_vc (ht:=lrH b l) Tryz.mixed rfl ?_
 rw [vcLr_eq b l]
 unfold vcLr
 have:=lr_loop b l hl 0
 simp [this,isLog]
 grind
theorem ix_loop (b:Bool) (x:Rec) (l:List Rec) (hl:l.length<=9223372036854775806) (k:Nat):LoopOk Tryz.prog 118 2 (loopAt Tryz.prog 118 2) ⟨ixT b x l k,[],[]⟩ ((ixO l x k).map (lout [0] ixS)):=by
 refine loop_vc Tryz.mixed (fun _=>rfl) (fun k=>(vcIxL_eq b x l k).mpr ?_) k
 unfold vcIxL
 simp
 refine ⟨fun h=>?_,fun h=>by simp [drop_end h,low_nil]⟩
 simp (disch:=omega) only [wrap_i64]
 rw [drop_cons h]
 simp only [low_cons,List.findIdx_cons]
 generalize l[k]?.getD default=y
 by_cases h1:y.prod=x.prod
 · by_cases h2:y.seq<x.seq
   · simp [below,h1,h2,h]
     exact fun e=>absurd e (by omega)
   · simp [below,h1,h2,h,cast_succ_eq]
     exact fun _=>⟨k+1,by omega,rfl,by grind⟩
 · simp [below,h1,h,cast_succ_eq]
   exact ⟨k+1,by omega,rfl,by grind⟩
theorem cf_c (b:Bool) (x:Rec) (l:List Rec) (hl:l.length<=9223372036854775806):(boolR (lowR l x)).Sat (ACall' Tryz.prog 96 [encRs b l,fnW x] []):=by
 refine ctr_vc (ht:=ixH b x l) Tryz.mixed rfl ?_
 rw [vcCf_eq b x l]
 unfold vcCf
 have:=ix_loop b x l hl 0
 simp [this]
theorem lw_loop (b:Bool) (x:Rec) (l:List Rec) (hl:l.length<=9223372036854775806) (k:Nat):LoopOk Tryz.prog 70 2 (loopAt Tryz.prog 70 2) ⟨lwT b l k,lwM x,[]⟩ ((lwO l x k).map (lout [0,1,2] (lwS x))):=by
 refine loop_vc (stM:=fun _=>lwM x) Tryz.mixed (fun _=>rfl) (fun k=>(vcLwL_eq b x l k).mpr ?_) k
 unfold vcLwL
 simp
 refine ⟨fun h=>?_,fun h=>by simp [drop_end h,low_nil]⟩
 simp (disch:=omega) only [wrap_i64]
 rw [drop_cons h]
 simp only [low_cons]
 generalize l[k]?.getD default=y
 by_cases h1:y.prod=x.prod
 · by_cases h2:y.seq<x.seq
   · simp [below,h1,h2,h]
     exact fun e=>absurd e (by omega)
   · simp [below,h1,h2,h,cast_succ_eq]
     exact fun _=>⟨k+1,by omega,rfl,by grind⟩
 · simp [below,h1,h,cast_succ_eq]
   exact ⟨k+1,by omega,rfl,by grind⟩
theorem lw_c (b:Bool) (x:Rec) (l:List Rec) (hl:l.length<=9223372036854775806):(boolR (lowR l x)).Sat (ACall' Tryz.prog 70 [encRs b l,.agg (encR x)] []):=by
 refine ctr_vc (ht:=lwH b x l) Tryz.mixed rfl ?_
 rw [vcLw_eq b x l]
 unfold vcLw
 have:=lw_loop b x l hl 0
 simp [this]
noncomputable def lgC (b:Bool) (l:List Rec):Ctr Tryz.prog:=⟨42,[encRs b l],[],.need (l.length<=9223372036854775806) (boolR (isLog l)),T.Sat.need fun h=>lg_c b l h⟩
noncomputable def lrC (b:Bool) (l:List Rec):Ctr Tryz.prog:=⟨64,[encRs b l],[],.need (l.length<=9223372036854775806) (boolR (isLog l)),T.Sat.need fun h=>lr_c b l h⟩
noncomputable def cfC (b:Bool) (x:Rec) (l:List Rec):Ctr Tryz.prog:=⟨96,[encRs b l,fnW x],[],.need (l.length<=9223372036854775806) (boolR (lowR l x)),T.Sat.need fun h=>cf_c b x l h⟩
noncomputable def lwC (b:Bool) (x:Rec) (l:List Rec):Ctr Tryz.prog:=⟨70,[encRs b l,.agg (encR x)],[],.need (l.length<=9223372036854775806) (boolR (lowR l x)),T.Sat.need fun h=>lw_c b x l h⟩
end Go.Proofs.YtckklclehofddaaGreatDoor

namespace Go.Proofs.YtckklclehofddaaGreatDoor
open Go.Ax
set_option maxRecDepth 1000000
def hd (l:List Rec):Rec:=l.getD 0 default
structure Jo where
 (a b out:List Rec) (ta tb:List Int)
def Jo.tA (s:Jo):Bool:=!s.a.isEmpty&&!lowR s.b (hd s.a)
def Jo.tB (s:Jo):Bool:=!s.b.isEmpty&&!lowR s.a (hd s.b)
def Jo.at (s:Jo):Int:=IntKind.u64.wrap (s.out.length:Nat)
def Jo.goA (s:Jo):Jo:=⟨s.a.tail,s.b,s.out++[(hd s.a).to s.at],s.ta++[s.at],s.tb⟩
def Jo.goB (s:Jo):Jo:=⟨s.a,s.b.tail,s.out++[(hd s.b).to s.at],s.ta,s.tb++[s.at]⟩
def joinN:Nat->Jo->Option Jo
 | 0,s=>some s
 | n+1,s=>if s.tA then joinN n s.goA else if s.tB then joinN n s.goB else none
def Jo.run (s:Jo):Option Jo:=joinN (s.a.length+s.b.length) s
def sideV (b:Bool) (l:List Rec):AV:=.ip false 2 (get [encRs b l,.junk])
noncomputable def waitH (b1 b2:Bool) (a b:List Rec):HintsT Tryz.prog:=hh _ noLp (cs1 86 2 5 (cfC b2 (hd a) b) noCs) noOp
def vcWait (b1:Bool) (b2:Bool) (a:List Rec) (b:List Rec):Prop :=
 (true&&decide (0<(a.length:Int)))=true/\((b2=b2/\b.length=b.length/\contLe b.length 5 (cellsOf' encR b) (cellsOf' encR b))/\(True/\(false=false/\5<=5/\cellLe 5 (fun (j:Nat)=>Ax.get [AV.y (.int .u64 (a.getD 0 default).off),AV.y (.string (a.getD 0 default).key),AV.ys true 1 (a.getD 0 default).val.length (cellsOf' encB (a.getD 0 default).val),AV.y (.int .u64 (a.getD 0 default).prod),AV.y (.int .u64 (a.getD 0 default).seq)] (0+j)) (Ax.get [AV.y (.int .u64 (hd a).off),AV.y (.string (hd a).key),AV.ys true 1 (hd a).val.length (cellsOf' encB (hd a).val),AV.y (.int .u64 (hd a).prod),AV.y (.int .u64 (hd a).seq)]))/\True)/\True)/\True/\b.length<=9223372036854775806/\true=true/\True/\lowR b (hd a)=lowR b (hd a)/\True
theorem vcWait_eq (b1:Bool) (b2:Bool) (a:List Rec) (b:List Rec):(ctrVC Tryz.prog (waitH b1 b2 a b) 86 [sideV b1 a,sideV b2 b] [] (boolR (lowR b (hd a))))=vcWait b1 b2 a b:=by kernel_rfl
theorem wait_c (b1 b2:Bool) (a b:List Rec) (h0:0<a.length) (hl:b.length<=9223372036854775806):(boolR (lowR b (hd a))).Sat (ACall' Tryz.prog 86 [sideV b1 a,sideV b2 b] []):=by
 refine ctr_vc (ht:=waitH b1 b2 a b) Tryz.mixed rfl ?_
 rw [vcWait_eq b1 b2 a b]
 unfold vcWait
 have e:a.getD 0 default=hd a:=rfl
 simp only [e]
 simp [h0,hl]
noncomputable def waitC (b1 b2:Bool) (a b:List Rec):Ctr Tryz.prog:=⟨86,[sideV b1 a,sideV b2 b],[],.need (0<a.length/\b.length<=9223372036854775806) (boolR (lowR b (hd a))),T.Sat.need fun h=>wait_c b1 b2 a b h.1 h.2⟩
def jM (b1 b2:Bool) (s:Jo):List Blk:=[rowU s.ta,.box 125 [encRs b1 s.a,.own 0 1 0 s.ta.length],rowU s.tb,.box 125 [encRs b2 s.b,.own 2 1 0 s.tb.length],rowR s.out]
def jT (s:Jo):List AV:=mkT 121 [(8,.ptr 1 0 0 0),(9,.ptr 3 0 0 0),(10,.own 4 5 0 s.out.length)]
inductive JR where
 | ok (s:Jo)
 | bad
def jO (s:Jo):T JR:=.ite s.run.isSome (.ret (.ok (s.run.getD s))) (.ret .bad)
def jS (b1 b2:Bool) (r:JR):Exit×List AV×List Blk:=match r with
 | .ok s=>(.exit 1,jT s,jM b1 b2 s)
 | .bad=>(.ret,mkT 121 [(4,.s (.slice none 0 0)),(5,.s (.slice none 0 0)),(6,.s (.slice none 0 0)),(7,.s (.int .i64 145))],[])
noncomputable def jH (b1 b2:Bool) (s:Jo) (h:Rec):HintsT Tryz.prog:=hh _ noLp (cs1 57 9 9 (waitC b1 b2 s.a s.b) (cs1 57 11 9 (waitC b2 b1 s.b s.a) (cs1 57 14 9 (ownC h s.out.length) noCs))) noOp
structure Jo.Ok (s:Jo):Prop where
 a:∀ x∈s.a,x.val.length<=256
 b:∀ x∈s.b,x.val.length<=256
 n:s.a.length+s.b.length+s.out.length<=4096
 ta:s.ta.length<=s.out.length
 tb:s.tb.length<=s.out.length
def jX:List Nat:=[0,1,2,3,4,5,6,7,8,9,10]
def vcJ_q3 (b2:Bool) (s:{ s:Jo // s.Ok }):Prop:=(false=false/\2<=2/\cellLe 2 (fun (j:Nat)=>Ax.get [AV.ys b2 5 s.val.b.length (cellsOf' encR s.val.b),AV.ys false 1 s.val.tb.length (Ax.rowAt 0 (cellsOf' encU s.val.tb))] (0+j)) (Ax.get [AV.ys b2 5 s.val.b.length (cellsOf' encR s.val.b),AV.junk]))
def vcJ_q2 (b1:Bool) (s:{ s:Jo // s.Ok }):Prop:=(false=false/\2<=2/\cellLe 2 (fun (j:Nat)=>Ax.get [AV.ys b1 5 s.val.a.length (cellsOf' encR s.val.a),AV.ys false 1 s.val.ta.length (Ax.rowAt 0 (cellsOf' encU s.val.ta))] (0+j)) (Ax.get [AV.ys b1 5 s.val.a.length (cellsOf' encR s.val.a),AV.junk]))
def vcJ_q1 (b1:Bool) (b2:Bool) (s:{ s:Jo // s.Ok }) (c:Bool):Prop:=(((s.val.b.length:Int)==0)=false->((vcJ_q3 b2 s)/\(vcJ_q2 b1 s)/\True)/\True/\(0<s.val.b.length/\s.val.a.length<=9223372036854775806)/\true=true/\True/\(lowR s.val.a (hd s.val.b)=true->(Option.isSome (Jo.run s.val)=true->False)/\(Option.isSome (Jo.run s.val)=false->(True/\True/\True/\(145:Int)=145/\True)/\True/\true=true))/\(lowR s.val.a (hd s.val.b)=false->(decide (s.val.tb.length=s.val.tb.length)&&decide (s.val.tb.length+1<=9223372036854775807)&&decide ((s.val.tb.length+1)*8<=140737488355328))=true/\(true&&decide (0<(s.val.b.length:Int)))=true/\(((s.val.b.getD 0 default).off=(if c=true then hd s.val.a else hd s.val.b).off/\(s.val.b.getD 0 default).key=(if c=true then hd s.val.a else hd s.val.b).key/\(true=true/\(s.val.b.getD 0 default).val.length=(if c=true then hd s.val.a else hd s.val.b).val.length/\contLe (s.val.b.getD 0 default).val.length 1 (cellsOf' encB (s.val.b.getD 0 default).val) (cellsOf' encB (if c=true then hd s.val.a else hd s.val.b).val))/\(s.val.b.getD 0 default).prod=(if c=true then hd s.val.a else hd s.val.b).prod/\(s.val.b.getD 0 default).seq=(if c=true then hd s.val.a else hd s.val.b).seq/\True)/\(s.val.out.length:Int)=(s.val.out.length:Int)/\True)/\True/\(if c=true then hd s.val.a else hd s.val.b).val.length<=140737488355328/\(decide (s.val.out.length=s.val.out.length)&&decide (s.val.out.length+1<=9223372036854775807)&&decide ((s.val.out.length+1)*64<=140737488355328))=true/\(true&&decide (1<=(s.val.b.length:Int))&&decide ((s.val.b.length:Int)<=(s.val.b.length:Int)))=true/\∃ (j:{ s:Jo // Jo.Ok s }),j.val.a.length+j.val.b.length<s.val.a.length+s.val.b.length/\(((0=0/\0=0)/\(0=0/\0=0)/\(0=0/\s.val.out.length+1=j.val.out.length)/\True)/\((s.val.ta.length=j.val.ta.length/\contLe s.val.ta.length 1 (cellsOf' encU s.val.ta) (cellsOf' encU j.val.ta))/\((b1=b1/\s.val.a.length=j.val.a.length/\contLe s.val.a.length 5 (cellsOf' encR s.val.a) (cellsOf' encR j.val.a))/\(0=0/\s.val.ta.length=j.val.ta.length)/\True)/\(s.val.tb.length+1=j.val.tb.length/\contLe (s.val.tb.length+1) 1 (appRow s.val.tb.length (cellsOf' encU s.val.tb) fun (k j:Nat)=>Ax.get [AV.y (.int .u64 (IntKind.u64.wrap (s.val.out.length:Int)))] (k*1+j)) (cellsOf' encU j.val.tb))/\((b2=b2/\Int.toNat (s.val.b.length:Int) - 1=j.val.b.length/\contLe (Int.toNat (s.val.b.length:Int) - 1) 5 (fun (k:Nat)=>cellsOf' encR s.val.b (1+k)) (cellsOf' encR j.val.b))/\(0=0/\s.val.tb.length+1=j.val.tb.length)/\True)/\(s.val.out.length+1=j.val.out.length/\contLe (s.val.out.length+1) 5 (appRow s.val.out.length (cellsOf' encR s.val.out) fun (k j:Nat)=>Ax.get [AV.y (.int .u64 (IntKind.u64.wrap (s.val.out.length:Int))),AV.y (.string (if c=true then hd s.val.a else hd s.val.b).key),AV.ys true 1 (if c=true then hd s.val.a else hd s.val.b).val.length (cellsOf' encB (if c=true then hd s.val.a else hd s.val.b).val),AV.y (.int .u64 (if c=true then hd s.val.a else hd s.val.b).prod),AV.y (.int .u64 (if c=true then hd s.val.a else hd s.val.b).seq)] (k*5+j)) (cellsOf' encR j.val.out))/\True)/\true=true)/\true=true/\(Option.isSome (Jo.run j.val)=true->(Option.isSome (Jo.run s.val)=true->JR.ok (Option.getD (Jo.run j.val) j.val)=JR.ok (Option.getD (Jo.run s.val) s.val))/\(Option.isSome (Jo.run s.val)=false->JR.ok (Option.getD (Jo.run j.val) j.val)=JR.bad))/\(Option.isSome (Jo.run j.val)=false->(Option.isSome (Jo.run s.val)=true->JR.bad=JR.ok (Option.getD (Jo.run s.val) s.val))/\(Option.isSome (Jo.run s.val)=false->JR.bad=JR.bad))))
def vcJ (b1:Bool) (b2:Bool) (s:{ s:Jo // s.Ok }) (c:Bool):Prop :=
 (decide (0<IntKind.i64.wrap ((s.val.a.length:Int)+(s.val.b.length:Int)))=true->(((s.val.a.length:Int)==0)=true->(((s.val.b.length:Int)==0)=true->(Option.isSome (Jo.run s.val)=true->False)/\(Option.isSome (Jo.run s.val)=false->(True/\True/\True/\(145:Int)=145/\True)/\True/\true=true))/\(vcJ_q1 b1 b2 s c))/\(((s.val.a.length:Int)==0)=false->((vcJ_q2 b1 s)/\(vcJ_q3 b2 s)/\True)/\True/\(0<s.val.a.length/\s.val.b.length<=9223372036854775806)/\true=true/\True/\(lowR s.val.b (hd s.val.a)=true->(((s.val.b.length:Int)==0)=true->(Option.isSome (Jo.run s.val)=true->False)/\(Option.isSome (Jo.run s.val)=false->(True/\True/\True/\(145:Int)=145/\True)/\True/\true=true))/\(vcJ_q1 b1 b2 s c))/\(lowR s.val.b (hd s.val.a)=false->(decide (s.val.ta.length=s.val.ta.length)&&decide (s.val.ta.length+1<=9223372036854775807)&&decide ((s.val.ta.length+1)*8<=140737488355328))=true/\(true&&decide (0<(s.val.a.length:Int)))=true/\(((s.val.a.getD 0 default).off=(if c=true then hd s.val.a else hd s.val.b).off/\(s.val.a.getD 0 default).key=(if c=true then hd s.val.a else hd s.val.b).key/\(true=true/\(s.val.a.getD 0 default).val.length=(if c=true then hd s.val.a else hd s.val.b).val.length/\contLe (s.val.a.getD 0 default).val.length 1 (cellsOf' encB (s.val.a.getD 0 default).val) (cellsOf' encB (if c=true then hd s.val.a else hd s.val.b).val))/\(s.val.a.getD 0 default).prod=(if c=true then hd s.val.a else hd s.val.b).prod/\(s.val.a.getD 0 default).seq=(if c=true then hd s.val.a else hd s.val.b).seq/\True)/\(s.val.out.length:Int)=(s.val.out.length:Int)/\True)/\True/\(if c=true then hd s.val.a else hd s.val.b).val.length<=140737488355328/\(decide (s.val.out.length=s.val.out.length)&&decide (s.val.out.length+1<=9223372036854775807)&&decide ((s.val.out.length+1)*64<=140737488355328))=true/\(true&&decide (1<=(s.val.a.length:Int))&&decide ((s.val.a.length:Int)<=(s.val.a.length:Int)))=true/\∃ (j:{ s:Jo // Jo.Ok s }),j.val.a.length+j.val.b.length<s.val.a.length+s.val.b.length/\(((0=0/\0=0)/\(0=0/\0=0)/\(0=0/\s.val.out.length+1=j.val.out.length)/\True)/\((s.val.ta.length+1=j.val.ta.length/\contLe (s.val.ta.length+1) 1 (appRow s.val.ta.length (cellsOf' encU s.val.ta) fun (k j:Nat)=>Ax.get [AV.y (.int .u64 (IntKind.u64.wrap (s.val.out.length:Int)))] (k*1+j)) (cellsOf' encU j.val.ta))/\((b1=b1/\Int.toNat (s.val.a.length:Int) - 1=j.val.a.length/\contLe (Int.toNat (s.val.a.length:Int) - 1) 5 (fun (k:Nat)=>cellsOf' encR s.val.a (1+k)) (cellsOf' encR j.val.a))/\(0=0/\s.val.ta.length+1=j.val.ta.length)/\True)/\(s.val.tb.length=j.val.tb.length/\contLe s.val.tb.length 1 (cellsOf' encU s.val.tb) (cellsOf' encU j.val.tb))/\((b2=b2/\s.val.b.length=j.val.b.length/\contLe s.val.b.length 5 (cellsOf' encR s.val.b) (cellsOf' encR j.val.b))/\(0=0/\s.val.tb.length=j.val.tb.length)/\True)/\(s.val.out.length+1=j.val.out.length/\contLe (s.val.out.length+1) 5 (appRow s.val.out.length (cellsOf' encR s.val.out) fun (k j:Nat)=>Ax.get [AV.y (.int .u64 (IntKind.u64.wrap (s.val.out.length:Int))),AV.y (.string (if c=true then hd s.val.a else hd s.val.b).key),AV.ys true 1 (if c=true then hd s.val.a else hd s.val.b).val.length (cellsOf' encB (if c=true then hd s.val.a else hd s.val.b).val),AV.y (.int .u64 (if c=true then hd s.val.a else hd s.val.b).prod),AV.y (.int .u64 (if c=true then hd s.val.a else hd s.val.b).seq)] (k*5+j)) (cellsOf' encR j.val.out))/\True)/\true=true)/\true=true/\(Option.isSome (Jo.run j.val)=true->(Option.isSome (Jo.run s.val)=true->JR.ok (Option.getD (Jo.run j.val) j.val)=JR.ok (Option.getD (Jo.run s.val) s.val))/\(Option.isSome (Jo.run s.val)=false->JR.ok (Option.getD (Jo.run j.val) j.val)=JR.bad))/\(Option.isSome (Jo.run j.val)=false->(Option.isSome (Jo.run s.val)=true->JR.bad=JR.ok (Option.getD (Jo.run s.val) s.val))/\(Option.isSome (Jo.run s.val)=false->JR.bad=JR.bad)))))/\(decide (0<IntKind.i64.wrap ((s.val.a.length:Int)+(s.val.b.length:Int)))=false->(Option.isSome (Jo.run s.val)=true->((0=0/\0=0)/\(0=0/\0=0)/\(0=0/\s.val.out.length=(Option.getD (Jo.run s.val) s.val).out.length)/\True)/\((s.val.ta.length=(Option.getD (Jo.run s.val) s.val).ta.length/\contLe s.val.ta.length 1 (cellsOf' encU s.val.ta) (cellsOf' encU (Option.getD (Jo.run s.val) s.val).ta))/\((b1=b1/\s.val.a.length=(Option.getD (Jo.run s.val) s.val).a.length/\contLe s.val.a.length 5 (cellsOf' encR s.val.a) (cellsOf' encR (Option.getD (Jo.run s.val) s.val).a))/\(0=0/\s.val.ta.length=(Option.getD (Jo.run s.val) s.val).ta.length)/\True)/\(s.val.tb.length=(Option.getD (Jo.run s.val) s.val).tb.length/\contLe s.val.tb.length 1 (cellsOf' encU s.val.tb) (cellsOf' encU (Option.getD (Jo.run s.val) s.val).tb))/\((b2=b2/\s.val.b.length=(Option.getD (Jo.run s.val) s.val).b.length/\contLe s.val.b.length 5 (cellsOf' encR s.val.b) (cellsOf' encR (Option.getD (Jo.run s.val) s.val).b))/\(0=0/\s.val.tb.length=(Option.getD (Jo.run s.val) s.val).tb.length)/\True)/\(s.val.out.length=(Option.getD (Jo.run s.val) s.val).out.length/\contLe s.val.out.length 5 (cellsOf' encR s.val.out) (cellsOf' encR (Option.getD (Jo.run s.val) s.val).out))/\True)/\true=true)/\(Option.isSome (Jo.run s.val)=false->False))
theorem vcJ_eq (b1:Bool) (b2:Bool) (s:{ s:Jo // s.Ok }) (c:Bool):(loopVC Tryz.prog (jH b1 b2 s.1 (if c then hd s.1.a else hd s.1.b)) 57 7 (fun (s:{ s:Jo // s.Ok })=>s.1.a.length+s.1.b.length) (fun s=>jT s.1) (fun s=>jM b1 b2 s.1) jX (fun s=>jO s.1) (jS b1 b2) s)=vcJ b1 b2 s c:=by kernel_rfl
def kM (s:Jo):List Blk:=[rowR s.out,rowU s.ta,rowU s.tb]
def kT (b1 b2:Bool) (s:Jo):List AV:=mkT 114 [(0,encRs b1 s.a),(1,encRs b2 s.b),(10,.own 0 5 0 s.out.length),(11,.own 1 1 0 s.ta.length),(12,.own 2 1 0 s.tb.length)]
def kS (b1 b2:Bool) (r:JR):Exit×List AV×List Blk:=match r with
 | .ok s=>(.exit 0,kT b1 b2 s,kM s)
 | .bad=>(.ret,mkT 114 [(4,.s (.slice none 0 0)),(5,.s (.slice none 0 0)),(6,.s (.slice none 0 0)),(7,.s (.int .i64 145))],[])
noncomputable def kH (b1 b2:Bool) (s:Jo):HintsT Tryz.prog:=hh _ noLp (cs1 36 14 4 (lwC b2 (hd s.a) s.b) (cs1 36 17 4 (lwC b1 (hd s.b) s.a) (cs1 36 22 6 (atC (hd s.a) s.out.length) (cs1 36 26 6 (atC (hd s.b) s.out.length) noCs)))) noOp
def vcK_q4 (s:{ s:Jo // s.Ok }):Prop:=((s.val.a.getD 0 default).off=(hd s.val.a).off/\(s.val.a.getD 0 default).key=(hd s.val.a).key/\(true=true/\(s.val.a.getD 0 default).val.length=(hd s.val.a).val.length/\contLe (s.val.a.getD 0 default).val.length 1 (cellsOf' encB (s.val.a.getD 0 default).val) (cellsOf' encB (hd s.val.a).val))/\(s.val.a.getD 0 default).prod=(hd s.val.a).prod/\(s.val.a.getD 0 default).seq=(hd s.val.a).seq/\True)
def vcK_q1 (b1:Bool) (b2:Bool) (s:{ s:Jo // s.Ok }):Prop:=((!lowR s.val.b (hd s.val.a))=true->(decide (s.val.ta.length=s.val.ta.length)&&decide (s.val.ta.length+1<=9223372036854775807)&&decide ((s.val.ta.length+1)*8<=140737488355328))=true/\(true&&decide (0<(s.val.a.length:Int)))=true/\((vcK_q4 s)/\(s.val.out.length:Int)=(s.val.out.length:Int)/\True)/\True/\(hd s.val.a).val.length<=140737488355328/\(decide (s.val.out.length=s.val.out.length)&&decide (s.val.out.length+1<=9223372036854775807)&&decide ((s.val.out.length+1)*64<=140737488355328))=true/\(true&&decide (1<=(s.val.a.length:Int))&&decide ((s.val.a.length:Int)<=(s.val.a.length:Int)))=true/\∃ (j:{ s:Jo // Jo.Ok s }),j.val.a.length+j.val.b.length<s.val.a.length+s.val.b.length/\(((b1=b1/\Int.toNat (s.val.a.length:Int) - 1=j.val.a.length/\contLe (Int.toNat (s.val.a.length:Int) - 1) 5 (fun (k:Nat)=>cellsOf' encR s.val.a (1+k)) (cellsOf' encR j.val.a))/\(b2=b2/\s.val.b.length=j.val.b.length/\contLe s.val.b.length 5 (cellsOf' encR s.val.b) (cellsOf' encR j.val.b))/\(0=0/\s.val.out.length+1=j.val.out.length)/\(0=0/\s.val.ta.length+1=j.val.ta.length)/\(0=0/\s.val.tb.length=j.val.tb.length)/\True)/\((s.val.out.length+1=j.val.out.length/\contLe (s.val.out.length+1) 5 (appRow s.val.out.length (cellsOf' encR s.val.out) fun (k j:Nat)=>Ax.get [AV.y (.int .u64 (IntKind.u64.wrap (s.val.out.length:Int))),AV.y (.string (hd s.val.a).key),AV.ys true 1 (hd s.val.a).val.length (cellsOf' encB (hd s.val.a).val),AV.y (.int .u64 (hd s.val.a).prod),AV.y (.int .u64 (hd s.val.a).seq)] (k*5+j)) (cellsOf' encR j.val.out))/\(s.val.ta.length+1=j.val.ta.length/\contLe (s.val.ta.length+1) 1 (appRow s.val.ta.length (cellsOf' encU s.val.ta) fun (k j:Nat)=>Ax.get [AV.y (.int .u64 (IntKind.u64.wrap (s.val.out.length:Int)))] (k*1+j)) (cellsOf' encU j.val.ta))/\(s.val.tb.length=j.val.tb.length/\contLe s.val.tb.length 1 (cellsOf' encU s.val.tb) (cellsOf' encU j.val.tb))/\True)/\true=true)/\true=true/\(Option.isSome (Jo.run j.val)=true->(Option.isSome (Jo.run s.val)=true->JR.ok (Option.getD (Jo.run j.val) j.val)=JR.ok (Option.getD (Jo.run s.val) s.val))/\(Option.isSome (Jo.run s.val)=false->JR.ok (Option.getD (Jo.run j.val) j.val)=JR.bad))/\(Option.isSome (Jo.run j.val)=false->(Option.isSome (Jo.run s.val)=true->JR.bad=JR.ok (Option.getD (Jo.run s.val) s.val))/\(Option.isSome (Jo.run s.val)=false->JR.bad=JR.bad)))
def vcK_q3 (s:{ s:Jo // s.Ok }):Prop:=((s.val.b.getD 0 default).off=(hd s.val.b).off/\(s.val.b.getD 0 default).key=(hd s.val.b).key/\(true=true/\(s.val.b.getD 0 default).val.length=(hd s.val.b).val.length/\contLe (s.val.b.getD 0 default).val.length 1 (cellsOf' encB (s.val.b.getD 0 default).val) (cellsOf' encB (hd s.val.b).val))/\(s.val.b.getD 0 default).prod=(hd s.val.b).prod/\(s.val.b.getD 0 default).seq=(hd s.val.b).seq/\True)
def vcK_q2 (b1:Bool) (b2:Bool) (s:{ s:Jo // s.Ok }):Prop:=((!lowR s.val.a (hd s.val.b))=true->(decide (s.val.tb.length=s.val.tb.length)&&decide (s.val.tb.length+1<=9223372036854775807)&&decide ((s.val.tb.length+1)*8<=140737488355328))=true/\(true&&decide (0<(s.val.b.length:Int)))=true/\((vcK_q3 s)/\(s.val.out.length:Int)=(s.val.out.length:Int)/\True)/\True/\(hd s.val.b).val.length<=140737488355328/\(decide (s.val.out.length=s.val.out.length)&&decide (s.val.out.length+1<=9223372036854775807)&&decide ((s.val.out.length+1)*64<=140737488355328))=true/\(true&&decide (1<=(s.val.b.length:Int))&&decide ((s.val.b.length:Int)<=(s.val.b.length:Int)))=true/\∃ (j:{ s:Jo // Jo.Ok s }),j.val.a.length+j.val.b.length<s.val.a.length+s.val.b.length/\(((b1=b1/\s.val.a.length=j.val.a.length/\contLe s.val.a.length 5 (cellsOf' encR s.val.a) (cellsOf' encR j.val.a))/\(b2=b2/\Int.toNat (s.val.b.length:Int) - 1=j.val.b.length/\contLe (Int.toNat (s.val.b.length:Int) - 1) 5 (fun (k:Nat)=>cellsOf' encR s.val.b (1+k)) (cellsOf' encR j.val.b))/\(0=0/\s.val.out.length+1=j.val.out.length)/\(0=0/\s.val.ta.length=j.val.ta.length)/\(0=0/\s.val.tb.length+1=j.val.tb.length)/\True)/\((s.val.out.length+1=j.val.out.length/\contLe (s.val.out.length+1) 5 (appRow s.val.out.length (cellsOf' encR s.val.out) fun (k j:Nat)=>Ax.get [AV.y (.int .u64 (IntKind.u64.wrap (s.val.out.length:Int))),AV.y (.string (hd s.val.b).key),AV.ys true 1 (hd s.val.b).val.length (cellsOf' encB (hd s.val.b).val),AV.y (.int .u64 (hd s.val.b).prod),AV.y (.int .u64 (hd s.val.b).seq)] (k*5+j)) (cellsOf' encR j.val.out))/\(s.val.ta.length=j.val.ta.length/\contLe s.val.ta.length 1 (cellsOf' encU s.val.ta) (cellsOf' encU j.val.ta))/\(s.val.tb.length+1=j.val.tb.length/\contLe (s.val.tb.length+1) 1 (appRow s.val.tb.length (cellsOf' encU s.val.tb) fun (k j:Nat)=>Ax.get [AV.y (.int .u64 (IntKind.u64.wrap (s.val.out.length:Int)))] (k*1+j)) (cellsOf' encU j.val.tb))/\True)/\true=true)/\true=true/\(Option.isSome (Jo.run j.val)=true->(Option.isSome (Jo.run s.val)=true->JR.ok (Option.getD (Jo.run j.val) j.val)=JR.ok (Option.getD (Jo.run s.val) s.val))/\(Option.isSome (Jo.run s.val)=false->JR.ok (Option.getD (Jo.run j.val) j.val)=JR.bad))/\(Option.isSome (Jo.run j.val)=false->(Option.isSome (Jo.run s.val)=true->JR.bad=JR.ok (Option.getD (Jo.run s.val) s.val))/\(Option.isSome (Jo.run s.val)=false->JR.bad=JR.bad)))
def vcK_q5 (s:{ s:Jo // s.Ok }):Prop:=(Option.isSome (Jo.run s.val)=false->(True/\True/\True/\(145:Int)=145/\True)/\True/\true=true)
def vcK (b1:Bool) (b2:Bool) (s:{ s:Jo // s.Ok }):Prop :=
 (decide (0<IntKind.i64.wrap ((s.val.a.length:Int)+(s.val.b.length:Int)))=true->(decide (0<(s.val.a.length:Int))=true->(true&&decide (0<(s.val.a.length:Int)))=true/\((b2=b2/\s.val.b.length=s.val.b.length/\contLe s.val.b.length 5 (cellsOf' encR s.val.b) (cellsOf' encR s.val.b))/\(vcK_q4 s)/\True)/\True/\s.val.b.length<=9223372036854775806/\((!!lowR s.val.b (hd s.val.a))=true->(decide (0<(s.val.b.length:Int))=true->(true&&decide (0<(s.val.b.length:Int)))=true/\((b1=b1/\s.val.a.length=s.val.a.length/\contLe s.val.a.length 5 (cellsOf' encR s.val.a) (cellsOf' encR s.val.a))/\(vcK_q3 s)/\True)/\True/\s.val.a.length<=9223372036854775806/\(vcK_q1 b1 b2 s)/\((!lowR s.val.b (hd s.val.a))=false->(vcK_q2 b1 b2 s)/\((!lowR s.val.a (hd s.val.b))=false->(Option.isSome (Jo.run s.val)=true->False)/\(vcK_q5 s))))/\(decide (0<(s.val.b.length:Int))=false->(vcK_q1 b1 b2 s)/\((!lowR s.val.b (hd s.val.a))=false->(Option.isSome (Jo.run s.val)=true->False)/\(vcK_q5 s))))/\((!!lowR s.val.b (hd s.val.a))=false->(vcK_q1 b1 b2 s)/\((!lowR s.val.b (hd s.val.a))=false->(Option.isSome (Jo.run s.val)=true->False)/\(vcK_q5 s))))/\(decide (0<(s.val.a.length:Int))=false->(decide (0<(s.val.b.length:Int))=true->(true&&decide (0<(s.val.b.length:Int)))=true/\((b1=b1/\s.val.a.length=s.val.a.length/\contLe s.val.a.length 5 (cellsOf' encR s.val.a) (cellsOf' encR s.val.a))/\(vcK_q3 s)/\True)/\True/\s.val.a.length<=9223372036854775806/\(vcK_q2 b1 b2 s)/\((!lowR s.val.a (hd s.val.b))=false->(Option.isSome (Jo.run s.val)=true->False)/\(vcK_q5 s)))/\(decide (0<(s.val.b.length:Int))=false->(Option.isSome (Jo.run s.val)=true->False)/\(vcK_q5 s))))/\(decide (0<IntKind.i64.wrap ((s.val.a.length:Int)+(s.val.b.length:Int)))=false->(Option.isSome (Jo.run s.val)=true->((b1=b1/\s.val.a.length=(Option.getD (Jo.run s.val) s.val).a.length/\contLe s.val.a.length 5 (cellsOf' encR s.val.a) (cellsOf' encR (Option.getD (Jo.run s.val) s.val).a))/\(b2=b2/\s.val.b.length=(Option.getD (Jo.run s.val) s.val).b.length/\contLe s.val.b.length 5 (cellsOf' encR s.val.b) (cellsOf' encR (Option.getD (Jo.run s.val) s.val).b))/\(0=0/\s.val.out.length=(Option.getD (Jo.run s.val) s.val).out.length)/\(0=0/\s.val.ta.length=(Option.getD (Jo.run s.val) s.val).ta.length)/\(0=0/\s.val.tb.length=(Option.getD (Jo.run s.val) s.val).tb.length)/\True)/\((s.val.out.length=(Option.getD (Jo.run s.val) s.val).out.length/\contLe s.val.out.length 5 (cellsOf' encR s.val.out) (cellsOf' encR (Option.getD (Jo.run s.val) s.val).out))/\(s.val.ta.length=(Option.getD (Jo.run s.val) s.val).ta.length/\contLe s.val.ta.length 1 (cellsOf' encU s.val.ta) (cellsOf' encU (Option.getD (Jo.run s.val) s.val).ta))/\(s.val.tb.length=(Option.getD (Jo.run s.val) s.val).tb.length/\contLe s.val.tb.length 1 (cellsOf' encU s.val.tb) (cellsOf' encU (Option.getD (Jo.run s.val) s.val).tb))/\True)/\true=true)/\(Option.isSome (Jo.run s.val)=false->False))
theorem vcK_eq (b1:Bool) (b2:Bool) (s:{ s:Jo // s.Ok }):(loopVC Tryz.prog (kH b1 b2 s.1) 36 10 (fun (s:{ s:Jo // s.Ok })=>s.1.a.length+s.1.b.length) (fun s=>kT b1 b2 s.1) (fun s=>kM s.1) jX (fun s=>jO s.1) (kS b1 b2) s)=vcK b1 b2 s:=by kernel_rfl
def joR (s:Jo):T An:=.ret (.tup [.own 0 5 0 s.out.length,.own 1 1 0 s.ta.length,.own 2 1 0 s.tb.length,.s (.int .i64 0)],[rowR s.out,rowU s.ta,rowU s.tb],[])
def Jo.end (s:Jo):Jo:=⟨s.a,s.b,s.out,s.ta++[s.at],s.tb++[s.at]⟩
def jo0 (a b:List Rec):Jo:=⟨a,b,[],[],[]⟩
def joE (k:Int):T An:=.ret (.tup [.s (.slice none 0 0),.s (.slice none 0 0),.s (.slice none 0 0),.s (.int .i64 k)],[],[])
def joinT (a b:List Rec):T An:=.ite (isLog a&&isLog b) (.ite (decide (a.length+b.length<=4096)) (.ite (jo0 a b).run.isSome (joR ((jo0 a b).run.getD (jo0 a b)).end) (joE 145)) (joE 143)) (joE 1)
noncomputable def joH (b1 b2:Bool) (a b:List Rec):HintsT Tryz.prog:=withSh (hh _ (lp1 57 7 (jobOf jT (jM b1 b2) jX jO (jS b1 b2) (jo0 a b)) noLp) (cs1 57 1 1 (lgC b1 a) (cs1 57 1 5 (lgC b2 b) noCs)) (op1 57 6 0 (.row 37 5) noOp))
 (sh1 57 5 1 1002 (sh1 57 5 4 1002 noSh))
def vcJoin_q1 (a:List Rec) (b:List Rec):Prop:=((isLog a&&isLog b)=true->(decide (a.length+b.length<=4096)=true->(Option.isSome (Jo.run (jo0 a b))=true->(False/\False/\False/\(1:Int)=0/\True)/\False)/\(Option.isSome (Jo.run (jo0 a b))=false->(True/\True/\True/\(1:Int)=145/\True)/\True))/\(decide (a.length+b.length<=4096)=false->(True/\True/\True/\(1:Int)=143/\True)/\True))
def vcJoin (b1:Bool) (b2:Bool) (a:List Rec) (b:List Rec):Prop :=
 ((b1=b1/\a.length=a.length/\contLe a.length 5 (cellsOf' encR a) (cellsOf' encR a))/\True)/\True/\a.length<=9223372036854775806/\((!isLog a)=true->(vcJoin_q1 a b)/\((isLog a&&isLog b)=false->(True/\True/\True/\(1:Int)=1/\True)/\True))/\((!isLog a)=false->((b2=b2/\b.length=b.length/\contLe b.length 5 (cellsOf' encR b) (cellsOf' encR b))/\True)/\True/\b.length<=9223372036854775806/\((!isLog b)=true->(vcJoin_q1 a b)/\((isLog a&&isLog b)=false->(True/\True/\True/\(1:Int)=1/\True)/\True))/\((!isLog b)=false->(decide (4096<IntKind.i64.wrap ((a.length:Int)+(b.length:Int)))=true->((isLog a&&isLog b)=true->(decide (a.length+b.length<=4096)=true->(Option.isSome (Jo.run (jo0 a b))=true->(False/\False/\False/\(143:Int)=0/\True)/\False)/\(Option.isSome (Jo.run (jo0 a b))=false->(True/\True/\True/\(143:Int)=145/\True)/\True))/\(decide (a.length+b.length<=4096)=false->(True/\True/\True/\(143:Int)=143/\True)/\True))/\((isLog a&&isLog b)=false->(True/\True/\True/\(143:Int)=1/\True)/\True))/\(decide (4096<IntKind.i64.wrap ((a.length:Int)+(b.length:Int)))=false->(((0=0/\0=0)/\(0=0/\0=0)/\(0=0/\0=0)/\True)/\((0=0/\contLe 0 1 (fun (x x_1:Nat)=>AV.junk) (cellsOf' encU []))/\((b1=b1/\a.length=a.length/\contLe a.length 5 (cellsOf' encR a) (cellsOf' encR a))/\(0=0/\0=0)/\True)/\(0=0/\contLe 0 1 (fun (x x_1:Nat)=>AV.junk) (cellsOf' encU []))/\((b2=b2/\b.length=b.length/\contLe b.length 5 (cellsOf' encR b) (cellsOf' encR b))/\(0=0/\0=0)/\True)/\(0=0/\contLe 0 5 (fun (x x_1:Nat)=>AV.junk) (cellsOf' encR []))/\True)/\true=true)/\LoopOk Tryz.prog 57 7 (loopAt Tryz.prog 57 7) { t:=jT (jo0 a b),m:=jM b1 b2 (jo0 a b),mv:=[]:St } (T.map (lout jX (jS b1 b2)) (jO (jo0 a b)))/\(Option.isSome (Jo.run (jo0 a b))=true->(decide ((Option.getD (Jo.run (jo0 a b)) (jo0 a b)).ta.length=(Option.getD (Jo.run (jo0 a b)) (jo0 a b)).ta.length)&&decide ((Option.getD (Jo.run (jo0 a b)) (jo0 a b)).ta.length+1<=9223372036854775807)&&decide (((Option.getD (Jo.run (jo0 a b)) (jo0 a b)).ta.length+1)*8<=140737488355328))=true/\(decide ((Option.getD (Jo.run (jo0 a b)) (jo0 a b)).tb.length=(Option.getD (Jo.run (jo0 a b)) (jo0 a b)).tb.length)&&decide ((Option.getD (Jo.run (jo0 a b)) (jo0 a b)).tb.length+1<=9223372036854775807)&&decide (((Option.getD (Jo.run (jo0 a b)) (jo0 a b)).tb.length+1)*8<=140737488355328))=true/\((isLog a&&isLog b)=true->(decide (a.length+b.length<=4096)=true->(Option.isSome (Jo.run (jo0 a b))=true->((0=0/\(Option.getD (Jo.run (jo0 a b)) (jo0 a b)).out.length=(Option.getD (Jo.run (jo0 a b)) (jo0 a b)).out.length)/\(0=0/\(Option.getD (Jo.run (jo0 a b)) (jo0 a b)).ta.length+1=((Option.getD (Jo.run (jo0 a b)) (jo0 a b)).ta++[Jo.at (Option.getD (Jo.run (jo0 a b)) (jo0 a b))]).length)/\(0=0/\(Option.getD (Jo.run (jo0 a b)) (jo0 a b)).tb.length+1=((Option.getD (Jo.run (jo0 a b)) (jo0 a b)).tb++[Jo.at (Option.getD (Jo.run (jo0 a b)) (jo0 a b))]).length)/\(0:Int)=0/\True)/\((Option.getD (Jo.run (jo0 a b)) (jo0 a b)).out.length=(Option.getD (Jo.run (jo0 a b)) (jo0 a b)).out.length/\contLe (Option.getD (Jo.run (jo0 a b)) (jo0 a b)).out.length 5 (cellsOf' encR (Option.getD (Jo.run (jo0 a b)) (jo0 a b)).out) (cellsOf' encR (Option.getD (Jo.run (jo0 a b)) (jo0 a b)).out))/\((Option.getD (Jo.run (jo0 a b)) (jo0 a b)).ta.length+1=((Option.getD (Jo.run (jo0 a b)) (jo0 a b)).ta++[Jo.at (Option.getD (Jo.run (jo0 a b)) (jo0 a b))]).length/\contLe ((Option.getD (Jo.run (jo0 a b)) (jo0 a b)).ta.length+1) 1 (appRow (Option.getD (Jo.run (jo0 a b)) (jo0 a b)).ta.length (cellsOf' encU (Option.getD (Jo.run (jo0 a b)) (jo0 a b)).ta) fun (k j:Nat)=>Ax.get [AV.y (.int .u64 (IntKind.u64.wrap ((Option.getD (Jo.run (jo0 a b)) (jo0 a b)).out.length:Int)))] (k*1+j)) (cellsOf' encU ((Option.getD (Jo.run (jo0 a b)) (jo0 a b)).ta++[Jo.at (Option.getD (Jo.run (jo0 a b)) (jo0 a b))])))/\((Option.getD (Jo.run (jo0 a b)) (jo0 a b)).tb.length+1=((Option.getD (Jo.run (jo0 a b)) (jo0 a b)).tb++[Jo.at (Option.getD (Jo.run (jo0 a b)) (jo0 a b))]).length/\contLe ((Option.getD (Jo.run (jo0 a b)) (jo0 a b)).tb.length+1) 1 (appRow (Option.getD (Jo.run (jo0 a b)) (jo0 a b)).tb.length (cellsOf' encU (Option.getD (Jo.run (jo0 a b)) (jo0 a b)).tb) fun (k j:Nat)=>Ax.get [AV.y (.int .u64 (IntKind.u64.wrap ((Option.getD (Jo.run (jo0 a b)) (jo0 a b)).out.length:Int)))] (k*1+j)) (cellsOf' encU ((Option.getD (Jo.run (jo0 a b)) (jo0 a b)).tb++[Jo.at (Option.getD (Jo.run (jo0 a b)) (jo0 a b))])))/\True)/\(Option.isSome (Jo.run (jo0 a b))=false->False))/\(decide (a.length+b.length<=4096)=false->False))/\((isLog a&&isLog b)=false->False))/\(Option.isSome (Jo.run (jo0 a b))=false->((isLog a&&isLog b)=true->(decide (a.length+b.length<=4096)=true->(Option.isSome (Jo.run (jo0 a b))=true->(False/\False/\False/\(145:Int)=0/\True)/\False)/\(Option.isSome (Jo.run (jo0 a b))=false->(True/\True/\True/\(145:Int)=145/\True)/\True))/\(decide (a.length+b.length<=4096)=false->(True/\True/\True/\(145:Int)=143/\True)/\True))/\((isLog a&&isLog b)=false->(True/\True/\True/\(145:Int)=1/\True)/\True)))))
theorem vcJoin_eq (b1:Bool) (b2:Bool) (a:List Rec) (b:List Rec):(ctrVC Tryz.prog (joH b1 b2 a b) 57 [encRs b1 a,encRs b2 b] [] (joinT a b))=vcJoin b1 b2 a b:=by kernel_rfl
noncomputable def koH (b1 b2:Bool) (a b:List Rec):HintsT Tryz.prog:=hh _ (lp1 36 10 (jobOf (kT b1 b2) kM jX jO (kS b1 b2) (jo0 a b)) noLp) (cs1 36 1 1 (lrC b1 a) (cs1 36 2 1 (lrC b2 b) noCs)) (op1 36 7 0 (.row 37 5) (op1 36 8 0 (.row 25 1) (op1 36 9 0 (.row 25 1) noOp)))
def vcJoinR_q1 (a:List Rec) (b:List Rec):Prop:=((isLog a&&isLog b)=true->(decide (a.length+b.length<=4096)=true->(Option.isSome (Jo.run (jo0 a b))=true->(False/\False/\False/\(1:Int)=0/\True)/\False)/\(Option.isSome (Jo.run (jo0 a b))=false->(True/\True/\True/\(1:Int)=145/\True)/\True))/\(decide (a.length+b.length<=4096)=false->(True/\True/\True/\(1:Int)=143/\True)/\True))
def vcJoinR (b1:Bool) (b2:Bool) (a:List Rec) (b:List Rec):Prop :=
 ((b1=b1/\a.length=a.length/\contLe a.length 5 (cellsOf' encR a) (cellsOf' encR a))/\True)/\True/\a.length<=9223372036854775806/\((b2=b2/\b.length=b.length/\contLe b.length 5 (cellsOf' encR b) (cellsOf' encR b))/\True)/\True/\b.length<=9223372036854775806/\((!isLog a)=true->(vcJoinR_q1 a b)/\((isLog a&&isLog b)=false->(True/\True/\True/\(1:Int)=1/\True)/\True))/\((!isLog a)=false->((!isLog b)=true->(vcJoinR_q1 a b)/\((isLog a&&isLog b)=false->(True/\True/\True/\(1:Int)=1/\True)/\True))/\((!isLog b)=false->(decide (4096<IntKind.i64.wrap ((a.length:Int)+(b.length:Int)))=true->((isLog a&&isLog b)=true->(decide (a.length+b.length<=4096)=true->(Option.isSome (Jo.run (jo0 a b))=true->(False/\False/\False/\(143:Int)=0/\True)/\False)/\(Option.isSome (Jo.run (jo0 a b))=false->(True/\True/\True/\(143:Int)=145/\True)/\True))/\(decide (a.length+b.length<=4096)=false->(True/\True/\True/\(143:Int)=143/\True)/\True))/\((isLog a&&isLog b)=false->(True/\True/\True/\(143:Int)=1/\True)/\True))/\(decide (4096<IntKind.i64.wrap ((a.length:Int)+(b.length:Int)))=false->(((b1=b1/\a.length=a.length/\contLe a.length 5 (cellsOf' encR a) (cellsOf' encR a))/\(b2=b2/\b.length=b.length/\contLe b.length 5 (cellsOf' encR b) (cellsOf' encR b))/\(0=0/\0=0)/\(0=0/\0=0)/\(0=0/\0=0)/\True)/\((0=0/\contLe 0 5 (fun (x x_1:Nat)=>AV.junk) (cellsOf' encR []))/\(0=0/\contLe 0 1 (fun (x x_1:Nat)=>AV.junk) (cellsOf' encU []))/\(0=0/\contLe 0 1 (fun (x x_1:Nat)=>AV.junk) (cellsOf' encU []))/\True)/\true=true)/\LoopOk Tryz.prog 36 10 (loopAt Tryz.prog 36 10) { t:=kT b1 b2 (jo0 a b),m:=kM (jo0 a b),mv:=[]:St } (T.map (lout jX (kS b1 b2)) (jO (jo0 a b)))/\(Option.isSome (Jo.run (jo0 a b))=true->(decide ((Option.getD (Jo.run (jo0 a b)) (jo0 a b)).ta.length=(Option.getD (Jo.run (jo0 a b)) (jo0 a b)).ta.length)&&decide ((Option.getD (Jo.run (jo0 a b)) (jo0 a b)).ta.length+1<=9223372036854775807)&&decide (((Option.getD (Jo.run (jo0 a b)) (jo0 a b)).ta.length+1)*8<=140737488355328))=true/\(decide ((Option.getD (Jo.run (jo0 a b)) (jo0 a b)).tb.length=(Option.getD (Jo.run (jo0 a b)) (jo0 a b)).tb.length)&&decide ((Option.getD (Jo.run (jo0 a b)) (jo0 a b)).tb.length+1<=9223372036854775807)&&decide (((Option.getD (Jo.run (jo0 a b)) (jo0 a b)).tb.length+1)*8<=140737488355328))=true/\((isLog a&&isLog b)=true->(decide (a.length+b.length<=4096)=true->(Option.isSome (Jo.run (jo0 a b))=true->((0=0/\(Option.getD (Jo.run (jo0 a b)) (jo0 a b)).out.length=(Option.getD (Jo.run (jo0 a b)) (jo0 a b)).out.length)/\(0=0/\(Option.getD (Jo.run (jo0 a b)) (jo0 a b)).ta.length+1=((Option.getD (Jo.run (jo0 a b)) (jo0 a b)).ta++[Jo.at (Option.getD (Jo.run (jo0 a b)) (jo0 a b))]).length)/\(0=0/\(Option.getD (Jo.run (jo0 a b)) (jo0 a b)).tb.length+1=((Option.getD (Jo.run (jo0 a b)) (jo0 a b)).tb++[Jo.at (Option.getD (Jo.run (jo0 a b)) (jo0 a b))]).length)/\(0:Int)=0/\True)/\((Option.getD (Jo.run (jo0 a b)) (jo0 a b)).out.length=(Option.getD (Jo.run (jo0 a b)) (jo0 a b)).out.length/\contLe (Option.getD (Jo.run (jo0 a b)) (jo0 a b)).out.length 5 (cellsOf' encR (Option.getD (Jo.run (jo0 a b)) (jo0 a b)).out) (cellsOf' encR (Option.getD (Jo.run (jo0 a b)) (jo0 a b)).out))/\((Option.getD (Jo.run (jo0 a b)) (jo0 a b)).ta.length+1=((Option.getD (Jo.run (jo0 a b)) (jo0 a b)).ta++[Jo.at (Option.getD (Jo.run (jo0 a b)) (jo0 a b))]).length/\contLe ((Option.getD (Jo.run (jo0 a b)) (jo0 a b)).ta.length+1) 1 (appRow (Option.getD (Jo.run (jo0 a b)) (jo0 a b)).ta.length (cellsOf' encU (Option.getD (Jo.run (jo0 a b)) (jo0 a b)).ta) fun (k j:Nat)=>Ax.get [AV.y (.int .u64 (IntKind.u64.wrap ((Option.getD (Jo.run (jo0 a b)) (jo0 a b)).out.length:Int)))] (k*1+j)) (cellsOf' encU ((Option.getD (Jo.run (jo0 a b)) (jo0 a b)).ta++[Jo.at (Option.getD (Jo.run (jo0 a b)) (jo0 a b))])))/\((Option.getD (Jo.run (jo0 a b)) (jo0 a b)).tb.length+1=((Option.getD (Jo.run (jo0 a b)) (jo0 a b)).tb++[Jo.at (Option.getD (Jo.run (jo0 a b)) (jo0 a b))]).length/\contLe ((Option.getD (Jo.run (jo0 a b)) (jo0 a b)).tb.length+1) 1 (appRow (Option.getD (Jo.run (jo0 a b)) (jo0 a b)).tb.length (cellsOf' encU (Option.getD (Jo.run (jo0 a b)) (jo0 a b)).tb) fun (k j:Nat)=>Ax.get [AV.y (.int .u64 (IntKind.u64.wrap ((Option.getD (Jo.run (jo0 a b)) (jo0 a b)).out.length:Int)))] (k*1+j)) (cellsOf' encU ((Option.getD (Jo.run (jo0 a b)) (jo0 a b)).tb++[Jo.at (Option.getD (Jo.run (jo0 a b)) (jo0 a b))])))/\True)/\(Option.isSome (Jo.run (jo0 a b))=false->False))/\(decide (a.length+b.length<=4096)=false->False))/\((isLog a&&isLog b)=false->False))/\(Option.isSome (Jo.run (jo0 a b))=false->((isLog a&&isLog b)=true->(decide (a.length+b.length<=4096)=true->(Option.isSome (Jo.run (jo0 a b))=true->(False/\False/\False/\(145:Int)=0/\True)/\False)/\(Option.isSome (Jo.run (jo0 a b))=false->(True/\True/\True/\(145:Int)=145/\True)/\True))/\(decide (a.length+b.length<=4096)=false->(True/\True/\True/\(145:Int)=143/\True)/\True))/\((isLog a&&isLog b)=false->(True/\True/\True/\(145:Int)=1/\True)/\True)))))
theorem vcJoinR_eq (b1:Bool) (b2:Bool) (a:List Rec) (b:List Rec):(ctrVC Tryz.prog (koH b1 b2 a b) 36 [encRs b1 a,encRs b2 b] [] (joinT a b))=vcJoinR b1 b2 a b:=by kernel_rfl
end Go.Proofs.YtckklclehofddaaGreatDoor

namespace Go.Proofs.YtckklclehofddaaGreatDoor
open Go.Ax
set_option maxRecDepth 1000000
theorem hdE (l:List Rec):l.getD 0 default=hd l:=rfl
theorem tail_le (b:List Rec) (n:Nat):contLe n 5 (fun k=>cellsOf' encR b (1+k)) (cellsOf' encR b.tail):=by
 intro k hk j hj
 have:b.tail.getD k default=b.getD (1+k) default:=by
  cases b with
  | nil=>simp
  | cons x r=>simp [Nat.add_comm 1 k]
 unfold cellsOf'
 rw [this]
 exact le0_refl _
theorem run_A {s:Jo} (h:s.tA=true):s.run=s.goA.run:=by
 have ha:s.a≠[]:=by unfold Jo.tA at h;intro e;rw [e] at h;simp at h
 obtain ⟨x,r,hx⟩:=List.exists_cons_of_ne_nil ha
 have h1:s.goA.a.length+s.goA.b.length+1=s.a.length+s.b.length:=by
  simp [Jo.goA,hx];omega
 unfold Jo.run
 rw [<- h1,joinN,if_pos h]
theorem run_B {s:Jo} (h0:s.tA=false) (h:s.tB=true):s.run=s.goB.run:=by
 have ha:s.b≠[]:=by unfold Jo.tB at h;intro e;rw [e] at h;simp at h
 obtain ⟨x,r,hx⟩:=List.exists_cons_of_ne_nil ha
 have h1:s.goB.a.length+s.goB.b.length+1=s.a.length+s.b.length:=by
  simp [Jo.goB,hx];omega
 unfold Jo.run
 rw [<- h1,joinN,if_neg (by simp [h0]),if_pos h]
theorem run_no {s:Jo} (h0:s.tA=false) (h:s.tB=false) (hn:0<s.a.length+s.b.length):s.run=none:=by
 obtain ⟨n,hn⟩:∃ n,s.a.length+s.b.length=n+1:=⟨s.a.length+s.b.length - 1,by omega⟩
 unfold Jo.run
 rw [hn,joinN,if_neg (by simp [h0]),if_neg (by simp [h])]
theorem run_end {s:Jo} (hn:s.a.length+s.b.length=0):s.run=some s:=by
 unfold Jo.run
 rw [hn,joinN]
theorem ok_A {s:Jo} (h:s.Ok) (ht:s.tA=true):s.goA.Ok:=by
 have ha:s.a≠[]:=by unfold Jo.tA at ht;intro e;rw [e] at ht;simp at ht
 obtain ⟨x,r,hx⟩:=List.exists_cons_of_ne_nil ha
 have h1:=h.n
 have h2:=h.ta
 have h3:=h.tb
 refine ⟨fun y hy=>h.a y (List.mem_of_mem_tail hy),h.b,?_,?_,?_⟩<;>simp [Jo.goA,hx] at *<;>omega
theorem ok_B {s:Jo} (h:s.Ok) (ht:s.tB=true):s.goB.Ok:=by
 have ha:s.b≠[]:=by unfold Jo.tB at ht;intro e;rw [e] at ht;simp at ht
 obtain ⟨x,r,hx⟩:=List.exists_cons_of_ne_nil ha
 have h1:=h.n
 have h2:=h.ta
 have h3:=h.tb
 refine ⟨h.a,fun y hy=>h.b y (List.mem_of_mem_tail hy),?_,?_,?_⟩<;>simp [Jo.goB,hx] at *<;>omega
theorem app1_le1 {α:Type} [Inhabited α] {enc:α->List AV} {l:List α} {cs:List AV} {x:α} (h:le0 (get cs 0) (get (enc x) 0)) :
 contLe (l.length+1) 1 (appRow l.length (cellsOf' enc l) (fun k j=>get cs (k+j))) (cellsOf' enc (l++[x])):=by
 have:=app1_le (enc:=enc) (l:=l) (n:=l.length) (sz:=1) (cs:=cs) (x:=x) rfl fun j hj=>by
  obtain rfl:j=0:=by omega
  exact h
 simpa using this
theorem rec_le {cs:List AV} {x:Rec} (h0:le0 (get cs 0) (.y (.int .u64 x.off))) (h1:le0 (get cs 1) (.y (.string x.key))) (h2:le0 (get cs 2) (encBs true x.val)) (h3:le0 (get cs 3) (.y (.int .u64 x.prod))) (h4:le0 (get cs 4) (.y (.int .u64 x.seq))):∀ j,j<5->le0 (get cs j) (get (encR x) j):=by
 intro j hj
 match j,hj with
 | 0,_=>exact h0
 | 1,_=>exact h1
 | 2,_=>exact h2
 | 3,_=>exact h3
 | 4,_=>exact h4
theorem hd_mem {l:List Rec} (h:0<l.length):hd l∈l:=by
 cases l with
 | nil=>simp at h
 | cons x r=>exact List.mem_cons_self
theorem getD_any (o:Option Jo) (x y:Jo) (h:o.isSome=true):o.getD x=o.getD y:=by
 cases o with
 | none=>cases h
 | some z=>rfl
theorem side_le (x y:AV):cellLe 2 (fun j=>Ax.get [x,y] (0+j)) (Ax.get [x,.junk]):=by
 intro j hj
 match j,hj with
 | 0,_=>exact le0_refl _
 | 1,_=>exact le0_junk _
theorem j_loop (b1 b2:Bool) (s:{ s:Jo // s.Ok }):LoopOk Tryz.prog 57 7 (loopAt Tryz.prog 57 7) ⟨jT s.1,jM b1 b2 s.1,[]⟩ ((jO s.1).map (lout jX (jS b1 b2))):=by
 refine loop_vcH (o:=fun (s:{ s:Jo // s.Ok })=>jO s.1) Tryz.mixed (fun _=>rfl) (fun s=>(vcJ_eq b1 b2 s s.1.tA).mpr ?_) s
 unfold vcJ vcJ_q1 vcJ_q2 vcJ_q3
 obtain ⟨s,hs⟩:=s
 have hn:=hs.n
 have hta:=hs.ta
 have htb:=hs.tb
 have hw:IntKind.i64.wrap ((s.a.length:Int)+s.b.length)=(s.a.length:Int)+s.b.length:=wrap_i64 (by omega) (by omega)
 simp only [hdE,hw]
 have hsd:∀ x y:AV,cellLe 2 (fun j=>Ax.get [x,y] (0+j)) (Ax.get [x,.junk]):=side_le
 simp only [hsd]
 rcases Nat.eq_zero_or_pos (s.a.length+s.b.length) with h0 | h0
 · have ha:s.a=[]:=List.length_eq_zero_iff.1 (by omega)
   have hb:s.b=[]:=List.length_eq_zero_iff.1 (by omega)
   simp [run_end h0,ha,hb]
 cases hA:s.tA
 · cases hB:s.tB
   · have hr:=run_no hA hB h0
     have h1:s.a=[]∨lowR s.b (hd s.a)=true:=by unfold Jo.tA at hA;cases ha:s.a<;>simp [ha] at hA ⊢;exact hA
     have h2:s.b=[]∨lowR s.a (hd s.b)=true:=by unfold Jo.tB at hB;cases hb:s.b<;>simp [hb] at hB ⊢;exact hB
     have hz2:(0:Int)<(s.a.length:Int)+s.b.length:=by omega
     rcases Nat.eq_zero_or_pos s.a.length with ha | ha
     · have ha':s.a=[]:=List.length_eq_zero_iff.1 ha
       have hb:0<s.b.length:=by omega
       have hbn:s.b≠[]:=List.ne_nil_of_length_pos hb
       rw [ha'] at h2
       simp [lowR,hbn] at h2
     · have han:s.a≠[]:=List.ne_nil_of_length_pos ha
       have hl:=h1.resolve_left han
       rcases Nat.eq_zero_or_pos s.b.length with hb | hb
       · have hb':s.b=[]:=List.length_eq_zero_iff.1 hb
         rw [hb'] at hl
         simp [lowR] at hl
       · have hbn:s.b≠[]:=List.ne_nil_of_length_pos hb
         have hl2:=h2.resolve_left hbn
         simp [hz2,han,hbn,ha,hb,hl,hl2,hr]
         omega
   · have hne:s.b≠[]:=by unfold Jo.tB at hB;intro e;rw [e] at hB;simp at hB
     have hpos:0<s.b.length:=List.length_pos_iff.2 hne
     have hlow:lowR s.a (hd s.b)=false:=by unfold Jo.tB at hB;simp at hB;exact hB.2
     have h256:(hd s.b).val.length<=256:=hs.b _ (hd_mem hpos)
     have hok:=ok_B hs hB
     have hrun:=run_B hA hB
     have hz:¬ ((s.b.length:Int)=0):=by omega
     have hz1:(1:Int)<=s.b.length:=by omega
     have hz2:(0:Int)<(s.a.length:Int)+s.b.length:=by omega
     have h1:s.a=[]∨lowR s.b (hd s.a)=true:=by unfold Jo.tA at hA;cases ha:s.a<;>simp [ha] at hA ⊢;exact hA
     simp only [Bool.false_eq_true,if_false]
     rcases Nat.eq_zero_or_pos s.a.length with ha | ha
     · have ha':s.a=[]:=List.length_eq_zero_iff.1 ha
       have hla:lowR ([]:List Rec) (hd s.b)=false:=rfl
       simp [hz,hz1,hz2,hlow,hla,hpos,hrun,hne,ha']
       refine ⟨⟨by omega,by omega⟩,by omega,⟨by omega,by omega⟩,s.goB,?_,⟨?_,⟨rfl,contLe_refl _ _ _⟩,⟨?_,rfl⟩,⟨?_,?_⟩,⟨⟨?_,?_⟩,?_⟩,?_,?_⟩,⟨fun h1=>⟨fun _=>getD_any _ _ _ h1,fun h2=>by rw [h2] at h1;cases h1⟩,hok,fun h=>h⟩⟩
       · simp [Jo.goB,ha'];omega
       · simp [Jo.goB]
       · simp [Jo.goB,ha']
       · simp [Jo.goB]
       · exact app1_le1 (le0_refl _)
       · simp [Jo.goB]
       · exact tail_le _ _
       · simp [Jo.goB]
       · simp [Jo.goB]
       · exact app1_le rfl (rec_le (le0_refl _) (le0_refl _) (le0_refl _) (le0_refl _) (le0_refl _))
     · have han:s.a≠[]:=List.ne_nil_of_length_pos ha
       have hl:=h1.resolve_left han
       simp [hz,hz1,hz2,hlow,hpos,hrun,hne,han,ha,hl]
       refine ⟨by omega,by omega,⟨by omega,by omega⟩,by omega,⟨by omega,by omega⟩,s.goB,?_,⟨?_,⟨rfl,contLe_refl _ _ _⟩,⟨⟨rfl,contLe_refl _ _ _⟩,rfl⟩,⟨?_,?_⟩,⟨⟨?_,?_⟩,?_⟩,?_,?_⟩,⟨fun h1=>⟨fun _=>getD_any _ _ _ h1,fun h2=>by rw [h2] at h1;cases h1⟩,hok,fun h=>h⟩⟩
       · simp [Jo.goB];omega
       · simp [Jo.goB]
       · simp [Jo.goB]
       · exact app1_le1 (le0_refl _)
       · simp [Jo.goB]
       · exact tail_le _ _
       · simp [Jo.goB]
       · simp [Jo.goB]
       · exact app1_le rfl (rec_le (le0_refl _) (le0_refl _) (le0_refl _) (le0_refl _) (le0_refl _))
 · have hne:s.a≠[]:=by unfold Jo.tA at hA;intro e;rw [e] at hA;simp at hA
   have hpos:0<s.a.length:=List.length_pos_iff.2 hne
   have hlow:lowR s.b (hd s.a)=false:=by unfold Jo.tA at hA;simp at hA;exact hA.2
   have h256:(hd s.a).val.length<=256:=hs.a _ (hd_mem hpos)
   have hok:=ok_A hs hA
   have hrun:=run_A hA
   have hz:¬ ((s.a.length:Int)=0):=by omega
   have hz1:(1:Int)<=s.a.length:=by omega
   have hz2:(0:Int)<(s.a.length:Int)+s.b.length:=by omega
   simp [hz,hz1,hz2,hlow,hpos,hrun,hne]
   refine ⟨by omega,⟨by omega,by omega⟩,by omega,⟨by omega,by omega⟩,s.goA,?_,⟨?_,⟨?_,?_⟩,⟨⟨?_,?_⟩,?_⟩,⟨rfl,contLe_refl _ _ _⟩,⟨⟨rfl,contLe_refl _ _ _⟩,rfl⟩,?_,?_⟩,⟨fun h1=>⟨fun _=>getD_any _ _ _ h1,fun h2=>by rw [h2] at h1;cases h1⟩,hok,fun h=>h⟩⟩
   · simp [Jo.goA];omega
   · simp [Jo.goA]
   · simp [Jo.goA]
   · exact app1_le1 (le0_refl _)
   · simp [Jo.goA]
   · exact tail_le _ _
   · simp [Jo.goA]
   · simp [Jo.goA]
   · exact app1_le rfl (rec_le (le0_refl _) (le0_refl _) (le0_refl _) (le0_refl _) (le0_refl _))
end Go.Proofs.YtckklclehofddaaGreatDoor
