import Derived.Test.YtnbhdjadlbhknaaGreatDoorProg
import Derived.KernelRfl
import Derived.Shelf.Strings.SlTrimAscii
import Derived.Test.YtnbhdjadlbhknaaGreatDoorE11
set_option linter.unusedVariables false
set_option linter.unusedSimpArgs false
namespace Go.Proofs.YtnbhdjadlbhknaaGreatDoor
open Go.Ax
noncomputable instance ahJ:Inhabited kT:=⟨⟨[(0,191,typeHandle Tryz.prog 74)]⟩⟩
end Go.Proofs.YtnbhdjadlbhknaaGreatDoor

namespace Go.Proofs.YtnbhdjadlbhknaaGreatDoor
open Go.Ax
set_option maxRecDepth 1000000
structure Rec where
 off:Int
 key:ByteArray
 val:List Int
 prod:Int
 seq:Int
instance:Inhabited Rec:=⟨⟨0,ByteArray.empty,[],0,0⟩⟩
structure kW where
 lo:ByteArray
 hi:ByteArray
instance:Inhabited kW:=⟨⟨ByteArray.empty,ByteArray.empty⟩⟩
structure Con where
 name:ByteArray
 off:Int
instance:Inhabited Con:=⟨⟨ByteArray.empty,0⟩⟩
def aD (x:Int):List AV:=[.y (.int .u8 x)]
def Gp (x:Int):List AV:=[.y (.int .u64 x)]
def bn (b:Bool) (l:List Int):AV:=.ys b 1 l.length (ah aD l)
def dI (a b:List Int):Prop:=true=true/\List.length a=List.length b/\ak (List.length a) (1:Nat) (ah aD a) (ah aD b)
@[simp] theorem agp (a b:List Int):dI a b=(true=true/\List.length a=List.length b/\ak (List.length a) (1:Nat) (ah aD a) (ah aD b)):=rfl
def Zi (b:Bool) (l:List Int):AV:=.ys b 1 l.length (ah Gp l)
def encR (x:Rec):List AV:=[.y (.int .u64 x.off),.y (.string x.key),bn true x.val,.y (.int .u64 x.prod),.y (.int .u64 x.seq)]
def bZ (b:Bool) (l:List Rec):AV:=.ys b 5 l.length (ah encR l)
def aJ (x:Con):List AV:=[.y (.string x.name),.y (.int .u64 x.off)]
def dR (b:Bool) (l:List Con):AV:=.ys b 2 l.length (ah aJ l)
def nN (r:kW):List AV:=[.y (.string r.lo),.y (.string r.hi)]
def agz (l:List Int):aH:=.row 25 1 l.length none (ah Gp l)
def yZ (l:List Rec):aH:=.row 54 5 l.length none (ah encR l)
def SQ (l:List Con):aH:=.row 83 2 l.length none (ah aJ l)
theorem Tryz.mixed:Tryz.prog.follows .mixedOrders=true:=by kernel_rfl
def bM (b:Bool):T An:=.ret (.y (.bool b),[],[])
def yP (k:Int):T An:=.ret (.y (.int .i64 k),[],[])
def BO (n:Nat) (c:Nat->Nat->AV):T An:=.ret (.own 0 1 0 n,[.row 5 1 n none c],[])
noncomputable def Eu:aC Tryz.prog:=hh _ bB bA (op1 100 2 0 (.row 5 1) bq)
def qE (n:Nat) (c:Nat->Nat->AV):Prop :=
 (0=0/\0=n)/\(0=n/\ak 0 1 (fun (x x_1:Nat)=>AV.junk) c)/\True
theorem qY (n:Nat) (c:Nat->Nat->AV):(aZ Tryz.prog Eu 100 [.s (.slice none 0 0)] [] (BO n c))=qE n c:=by kernel_rfl
def qj (b:Bool) (n:Nat) (c:Nat->Nat->AV):Prop :=
 (decide (0+n<=9223372036854775807)&&decide ((0+n)*1<=140737488355328))=true/\(0=0/\0+n=n)/\(0+n=n/\ak (0+n) 1 (aL 0 (fun (k j:Nat)=>AV.junk) c) c)/\True
theorem qb (b:Bool) (n:Nat) (c:Nat->Nat->AV):(aZ Tryz.prog Eu 100 [.yn b 1 n c] [] (BO n c))=qj b n c:=by kernel_rfl
theorem zy (b:Bool) (n:Nat) (c:Nat->Nat->AV) (hl:n<=140737488355328):(BO n c).Sat (au Tryz.prog 100 [.ys b 1 n c] []):=by
 refine xG (pre:=[]) (post:=[]) (fun h0=>?_) ?_ ⟨_,rfl⟩
 · refine aR (ht:=Eu) Tryz.mixed rfl ?_
   rw [List.nil_append,qY n c]
   unfold qE
   simp [h0]
 · refine aR (ht:=Eu) Tryz.mixed rfl ?_
   rw [List.nil_append,qb b n c]
   unfold qj
   simp
   omega
noncomputable def KQ (b:Bool) (n:Nat) (c:Nat->Nat->AV):dO Tryz.prog:=⟨100,[.ys b 1 n c],[],.need (n<=140737488355328) (BO n c),T.Sat.need fun h=>zy b n c h⟩
def Rec.to (x:Rec) (o:Int):Rec:=⟨o,x.key,x.val,x.prod,x.seq⟩
def M9 (x:Rec):T An:=.ret (.agg (encR x),[],[])
noncomputable def afC (x:Rec):aC Tryz.prog:=dS (hh _ bB (cs1 157 1 4 (KQ true x.val.length (ah aD x.val)) bA) bq) (nk 157 2 0 779 noSh)
def Y5 (x:Rec) (o:Int):Prop :=
 ((dI x.val x.val)/\True)/\True/\x.val.length<=140737488355328/\(∀ k,k<x.val.length->∀ j,j<1->dK (ah aD x.val k j)=true)/\(IntKind.u64.wrap o=IntKind.u64.wrap o/\x.key=x.key/\(true=true/\x.val.length=x.val.length/\ak x.val.length 1 (Ax.rowAt 0 (ah aD x.val)) (ah aD x.val))/\x.prod=x.prod/\x.seq=x.seq/\True)/\True
theorem Pv (x:Rec) (o:Int):(aZ Tryz.prog (afC x) 157 [.agg (encR x),.y (.int .i64 o)] [] (M9 (x.to (IntKind.u64.wrap o))))=Y5 x o:=by kernel_rfl
noncomputable def atH:aC Tryz.prog:=dS (hh _ bB bA bq) (nk 144 3 0 779 noSh)
def af9 (x:Rec) (o:Int):Prop :=
 (decide (0+x.val.length<=9223372036854775807)&&decide ((0+x.val.length)*1<=140737488355328))=true/\(∀ k,k<0+x.val.length->∀ j,j<1->dK (aL 0 (fun (k j:Nat)=>AV.junk) (ah aD x.val) k j)=true)/\(IntKind.u64.wrap o=IntKind.u64.wrap o/\x.key=x.key/\(true=true/\0+x.val.length=x.val.length/\ak (0+x.val.length) 1 (Ax.rowAt 0 (aL 0 (fun (k j:Nat)=>AV.junk) (ah aD x.val))) (ah aD x.val))/\x.prod=x.prod/\x.seq=x.seq/\True)/\True
theorem Xv (x:Rec) (o:Int):(aZ Tryz.prog atH 144 [.agg (encR x),.y (.int .i64 o)] [] (M9 (x.to (IntKind.u64.wrap o))))=af9 x o:=by kernel_rfl
def lt (a b:ByteArray):Bool:=Op.bytesLess a.data.toList b.data.toList
def iG (r:kW):Int:=if 32<r.lo.size∨32<r.hi.size then 131 else if (!r.hi.data.toList==[])=true/\(lt r.hi r.lo||r.hi.data.toList==r.lo.data.toList)=true then 132 else 0
def ZQ (r:kW):Prop :=
 (decide (32<((ByteArray.size r.lo):Int))=true->131=iG r/\True)/\(decide (32<((ByteArray.size r.lo):Int))=false->(decide (32<((ByteArray.size r.hi):Int))=true->131=iG r/\True)/\(decide (32<((ByteArray.size r.hi):Int))=false->((!r.hi.data.toList==[])=true->((Op.bytesLess r.hi.data.toList r.lo.data.toList||r.hi.data.toList==r.lo.data.toList)=true->132=iG r/\True)/\((Op.bytesLess r.hi.data.toList r.lo.data.toList||r.hi.data.toList==r.lo.data.toList)=false->0=iG r/\True))/\((!r.hi.data.toList==[])=false->0=iG r/\True)))
theorem Pq (r:kW):(aZ Tryz.prog (hT _) 37 [.agg (nN r)] [] (yP (iG r)))=ZQ r:=by kernel_rfl
def OP (r:kW):Prop :=
 (decide (32<((ByteArray.size r.lo):Int))=true->131=iG r/\True)/\(decide (32<((ByteArray.size r.lo):Int))=false->(decide (32<((ByteArray.size r.hi):Int))=true->131=iG r/\True)/\(decide (32<((ByteArray.size r.hi):Int))=false->((!r.hi.data.toList==[])=true->((Op.bytesLess r.hi.data.toList r.lo.data.toList||r.hi.data.toList==r.lo.data.toList)=true->132=iG r/\True)/\((Op.bytesLess r.hi.data.toList r.lo.data.toList||r.hi.data.toList==r.lo.data.toList)=false->0=iG r/\True))/\((!r.hi.data.toList==[])=false->0=iG r/\True)))
theorem NI (r:kW):(aZ Tryz.prog (hT _) 53 [.agg (nN r)] [] (yP (iG r)))=OP r:=by kernel_rfl
end Go.Proofs.YtnbhdjadlbhknaaGreatDoor

namespace Go.Proofs.YtnbhdjadlbhknaaGreatDoor.J
open Go.Ax
set_option maxRecDepth 1000000
def xL:Nat->Int->List Int
 | 0,v=>[v]
 | f+1,v=>if v<128 then [v] else (v % 128+128)::xL f (v / 128)
def aj (v:Int):List Int:=xL 10 v
def wM (l:List Int):List aH:=[.dead,.row 5 1 l.length none (ah aD l),.box 117 [.own 1 1 0 l.length]]
def fQ (a b:List Int):Prop:=(List.length a=List.length b/\ak (List.length a) (1:Nat) (ah aD a) (ah aD b))/\(((0:Nat)=(0:Nat)/\List.length a=List.length b)/\True)/\True
@[simp] theorem agk (a b:List Int):fQ a b=((List.length a=List.length b/\ak (List.length a) (1:Nat) (ah aD a) (ah aD b))/\(((0:Nat)=(0:Nat)/\List.length a=List.length b)/\True)/\True):=rfl
def wP:AV:=.ptr 2 0 0 0
structure WU (t:List Int) where
 v:Int
 l:List Int
 f:Nat
 v0:0<=v
 vf:v<128 ^ (f+1)
 n:l.length+f+1<=140737488355327
 e:t=l++xL f v
def wuT (q:Int):List AV:=mkT 31 [(0,wP),(1,.y (.int .u64 q))]
def wuS (t:List Int) (_:Unit):Exit×List AV×List aH:=(.exit 0,mkT 31 [(0,wP),(1,.y (.int .u64 (t.getLastD 0)))],wM t.dropLast)
noncomputable def wuH:aC Tryz.prog:=dS (hT _) (nk 77 2 12 3 (nk 77 3 11 3 noSh))
def YK (t:List Int) (q:WU t):Prop :=
 (decide (128<=q.v)=true->true=true/\(decide (q.l.length=q.l.length)&&decide (q.l.length+1<=9223372036854775807)&&decide ((q.l.length+1)*1<=140737488355328))=true/\∃ (j:WU t),j.f<q.f/\(((0=0/\0=0)/\q.v / 128=j.v/\True)/\((q.l.length+1=j.l.length/\ak (q.l.length+1) 1 (aL q.l.length (ah aD q.l) fun (k j:Nat)=>Ax.get [AV.y (.int .u8 (IntKind.u8.wrap ((BitVec.toNat (BitVec.ofInt 8 (IntKind.u8.wrap q.v) ||| BitVec.ofInt 8 128)):Int)))] (k*1+j)) (ah aD j.l))/\((0=0/\q.l.length+1=j.l.length)/\True)/\True)/\true=true)/\true=true/\()=())/\(decide (128<=q.v)=false->((0=0/\0=0)/\q.v=List.getLastD t 0/\True)/\(fQ q.l (List.dropLast t))/\true=true)
theorem RI (t:List Int) (q:WU t):(cu Tryz.prog wuH 77 0 (fun q=>q.f) (fun q=>wuT q.v) (fun q=>wM q.l) [1,3] (fun _=>.ret ()) (wuS t) q)=YK t q:=by kernel_rfl
def wR (l:List Int):T An:=.ret (.tup [],wM l,[1,3])
noncomputable def wuJ (t:List Int) (q:WU t):aC Tryz.prog:=dS (hh _ (nu 77 0 (eP (fun q:WU t=>wuT q.v) (fun q=>wM q.l) [1,3] (fun _=>.ret ()) (wuS t) q) bB) bA bq) (nk 77 2 12 3 (nk 77 3 11 3 noSh))
def agc (t:List Int) (q:WU t) (v:Int) (l:List Int):Prop :=
 (((0=0/\0=0)/\v=q.v/\True)/\(fQ l q.l)/\true=true)/\aQ Tryz.prog 77 0 (aS Tryz.prog 77 0) { t:=wuT q.v,m:=wM q.l,mv:=[]:St } (T.map (bU [1,3] (wuS t)) ((fun (x:WU t)=>T.ret ()) q))/\(decide ((List.dropLast t).length=(List.dropLast t).length)&&decide ((List.dropLast t).length+1<=9223372036854775807)&&decide (((List.dropLast t).length+1)*1<=140737488355328))=true/\True/\((List.dropLast t).length+1=t.length/\ak ((List.dropLast t).length+1) 1 (aL (List.dropLast t).length (ah aD (List.dropLast t)) fun (k j:Nat)=>Ax.get [AV.y (.int .u8 (IntKind.u8.wrap (List.getLastD t 0)))] (k*1+j)) (ah aD t))/\((0=0/\(List.dropLast t).length+1=t.length)/\True)/\True
theorem Xw (t:List Int) (q:WU t) (v:Int) (l:List Int):(eU Tryz.prog (wuJ t q) 77 [wP,.y (.int .u64 v)] (wM l) (wR t))=agc t q v l:=by kernel_rfl
theorem jN {P:Program} {f:FuncId} {args:List AV} {M:List aH} {a:An} (h:(T.ret a:T An).Sat (au P f args M)):au P f args M a:=by
 obtain ⟨a',ha,e⟩:=h (fun x=>x=a) rfl
 rw [<- e];exact ha
theorem lI {P:Program} {f:FuncId} {args:List AV} {M M':List aH} {r:AV} {mv mv':List Nat} (h:fq P f args M r M' mv) (hd:∀ i∈mv,i∈mv'∨getM M i=.dead):fq P f args M r M' mv':=by
 intro H E w vals hC hargs
 refine (h H E w vals hC hargs).mono ?_
 rintro e w' ⟨v,H',E',he,hr,hc,hev⟩
 refine ⟨v,H',E',he,hr,hc,{ hev with ids:=fun i hl hn=>hev.ids i hl fun hi=>?_ }⟩
 rcases hd i hi with h1 | h1
 · exact hn h1
 · have:=hC.blk i
   rw [h1] at this
   have this:E.lv i=false:=this
   rw [this] at hl
   cases hl
def orB (v:Int):Int:=IntKind.wrap IntKind.u8 (↑(BitVec.toNat (BitVec.ofInt 8 (IntKind.wrap IntKind.u8 v) ||| BitVec.ofInt 8 128)):Int)
theorem aaw:∀ b:Fin 256,IntKind.wrap IntKind.u8 (↑(BitVec.toNat (BitVec.ofInt 8 (b.val:Int) ||| BitVec.ofInt 8 128)):Int)=(b.val:Int) % 128+128:=by decide
theorem uF (v:Int):IntKind.wrap IntKind.u8 v=v % 256:=by
 unfold IntKind.wrap
 simp [IntKind.bits,IntKind.signed]
theorem acR (v:Int):orB v=v % 128+128:=by
 have h0:0<=v % 256:=Int.emod_nonneg _ (by omega)
 have h1:v % 256<256:=Int.emod_lt_of_pos _ (by omega)
 have h:=aaw ⟨(v % 256).toNat,by omega⟩
 have e:(((v % 256).toNat:Nat):Int)=v % 256:=by omega
 simp only [e] at h
 unfold orB
 rw [uF v,h]
 omega
theorem wT {f:Nat} {v:Int} (h:128<=v):xL (f+1) v=(v % 128+128)::xL f (v / 128):=by
 rw [xL,if_neg (by omega)]
theorem AZ {f:Nat} {v:Int} (h:v<128):xL f v=[v]:=by
 cases f with
 | zero=>rfl
 | succ f=>rw [xL,if_pos h]
theorem Wh (t:List Int) (q:WU t):aQ Tryz.prog 77 0 (aS Tryz.prog 77 0) ⟨wuT q.v,wM q.l,[]⟩ (T.map (bU [1,3] (wuS t)) (.ret ())):=by
 refine dU (P:=Tryz.prog) (f:=77) (k:=0) (ι:=WU t) (μ:=fun q=>q.f) (ht:=fun _=>wuH) (qG:=fun q=>wuT q.v) (stM:=fun q=>wM q.l) (X:=[1,3]) (o:=fun _=>.ret ()) (S:=wuS t) Tryz.mixed (fun _=>rfl) (fun q=>?_) q
 rw [RI t q]
 unfold YK
 have hn:=q.n
 have hv0:=q.v0
 have hvf:=q.vf
 have he:=q.e
 by_cases h:128<=q.v
 · obtain ⟨f,hf⟩:∃ f,q.f=f+1:=by
    cases hf:q.f with
    | zero=>rw [hf] at hvf;simp at hvf;omega
    | succ f=>exact ⟨f,rfl⟩
   have hz:decide ((128:Int)<=q.v)=true:=by simp;omega
   rw [hf,wT h] at he
   have hdiv:q.v / 128<128 ^ (f+1):=by
    rw [hf] at hvf
    have:(128:Int) ^ (f+1+1)=128 ^ (f+1)*128:=Int.pow_succ 128 (f+1)
    rw [this] at hvf
    exact Int.ediv_lt_of_lt_mul (by omega) hvf
   have ha:=jo (enc:=aD) (l:=q.l) (n:=q.l.length) (sz:=1) (x:=q.v % 128+128) (cs:=[.y (.int .u8 (q.v % 128+128))]) rfl (fun j hj=>bN _)
   simp only [Nat.mul_one] at ha
   have hO:=acR q.v
   unfold orB at hO
   simp only [hz,hO]
   simp
   refine ⟨⟨by omega,by omega⟩,⟨q.v / 128,q.l++[q.v % 128+128],f,Int.ediv_nonneg hv0 (by omega),hdiv,by simp;omega,he.trans (by simp)⟩,by show f<q.f;omega,rfl,?_⟩
   exact ⟨⟨by simp,ha⟩,by simp⟩
 · have hz:decide ((128:Int)<=q.v)=false:=by simp;omega
   rw [AZ (by omega)] at he
   have h1:t.getLastD 0=q.v:=(congrArg (fun x:List Int=>x.getLastD 0) he).trans (by simp)
   have h2:t.dropLast=q.l:=(congrArg List.dropLast he).trans (by simp)
   simp only [hz,h1,h2]
   simp
theorem vR (f:Nat):∀ v,(xL f v).length<=f+1:=by
 induction f with
 | zero=>intro v;exact Nat.le_refl _
 | succ f ih =>
   intro v
   unfold xL
   split
   · simp
   · simp only [List.length_cons]
     have:=ih (v / 128)
     omega
theorem CS (f:Nat):∀ v,0<=v->v<128 ^ (f+1)->∃ l z,xL f v=l++[z]/\0<=z/\z<128:=by
 induction f with
 | zero =>
   intro v h0 h1
   exact ⟨[],v,rfl,h0,by simpa using h1⟩
 | succ f ih =>
   intro v h0 h1
   by_cases h:v<128
   · exact ⟨[],v,AZ h,h0,h⟩
   · have:(128:Int) ^ (f+1+1)=128 ^ (f+1)*128:=Int.pow_succ 128 (f+1)
     rw [this] at h1
     obtain ⟨l,z,h2,h3,h4⟩:=ih (v / 128) (Int.ediv_nonneg h0 (by omega)) (Int.ediv_lt_of_lt_mul (by omega) h1)
     exact ⟨(v % 128+128)::l,z,by rw [wT (by omega),h2];rfl,h3,h4⟩
theorem aht (v:Int) (l:List Int) (h0:0<=v) (h1:v<18446744073709551616) (hn:l.length+20<=140737488355327):(wR (l++aj v)).Sat (au Tryz.prog 77 [wP,.y (.int .u64 v)] (wM l)):=by
 have hv:v<128 ^ (10+1):=by
  have:(128:Int) ^ (10+1)=151115727451828646838272:=by decide
  omega
 obtain ⟨a,z,ha,hz0,hz1⟩:=CS 10 v h0 hv
 have q:WU (l++aj v):=⟨v,l,10,h0,hv,by omega,rfl⟩
 have hlen:=vR 10 v
 have lp:=Wh (l++aj v) ⟨v,l,10,h0,hv,by omega,rfl⟩
 refine dG (ht:=wuJ (l++aj v) ⟨v,l,10,h0,hv,by omega,rfl⟩) Tryz.mixed rfl ?_
 rw [Xw (l++aj v) ⟨v,l,10,h0,hv,by omega,rfl⟩ v l]
 unfold agc
 have e1:(l++aj v).dropLast=l++a:=by unfold aj;rw [ha,<- List.append_assoc];simp
 have e2:(l++aj v).getLastD 0=z:=by unfold aj;rw [ha,<- List.append_assoc];simp
 have e3:l++aj v=(l++a)++[z]:=by unfold aj;rw [ha,<- List.append_assoc]
 have hz8:IntKind.wrap IntKind.u8 z=z:=by rw [uF];omega
 have hal:a.length<=10:=by rw [ha] at hlen;simp at hlen;omega
 have hr:=jo (enc:=aD) (l:=l++a) (n:=(l++a).length) (sz:=1) (x:=z) (cs:=[.y (.int .u8 z)]) rfl (fun j hj=>bN _)
 simp only [Nat.mul_one] at hr
 simp only [e1,e2,hz8]
 simp [lp]
 have e4:(aj v).length=a.length+1:=by unfold aj;rw [ha];simp
 rw [List.length_append] at hr
 refine ⟨⟨by omega,by omega⟩,⟨by omega,?_⟩,by omega⟩
 rw [e3]
 exact hr
def J5 (l:List Int):T An:=.ret (.tup [],wM l,[1])
theorem Bp {f:FuncId} {args:List AV} {l l':List Int} (h:(wR l').Sat (au Tryz.prog f args (wM l))):(J5 l').Sat (au Tryz.prog f args (wM l)):=by
 have h1:au Tryz.prog f args (wM l) (.tup [],wM l',[1,3]):=jN h
 have h2:au Tryz.prog f args (wM l) (.tup [],wM l',[1]):=lI h1 fun i hi=>by
  rcases List.mem_cons.1 hi with rfl | hi
  · exact .inl (by simp)
  · obtain rfl:=List.mem_singleton.1 hi
    exact .inr rfl
 exact T.Sat.ret h2
structure jv (v:Int) (l:List Int):Prop where
 v0:0<=v
 v1:v<18446744073709551616
 n:l.length+20<=140737488355327
noncomputable def zq (v:Int) (l:List Int):dO Tryz.prog:=⟨77,[wP,.y (.int .u64 v)],wM l,.need (jv v l) (J5 (l++aj v)),T.Sat.need fun h=>Bp (aht v l h.v0 h.v1 h.n)⟩
def duT (v:Int) (n:Nat):List AV:=mkT 20 [(0,.y (.int .u64 v)),(3,.own 0 1 0 n)]
def duM (l:List Int):List aH:=[.row 5 1 l.length none (ah aD l)]
def duS (t:List Int) (_:Unit):Exit×List AV×List aH:=(.exit 0,duT (t.getLastD 0) t.dropLast.length,duM t.dropLast)
def Zg (t:List Int) (q:WU t):Prop :=
 (decide (128<=q.v)=true->true=true/\(decide (q.l.length=q.l.length)&&decide (q.l.length+1<=9223372036854775807)&&decide ((q.l.length+1)*1<=140737488355328))=true/\∃ (j:WU t),j.f<q.f/\((q.v / 128=j.v/\(0=0/\q.l.length+1=j.l.length)/\True)/\((q.l.length+1=j.l.length/\ak (q.l.length+1) 1 (aL q.l.length (ah aD q.l) fun (k j:Nat)=>Ax.get [AV.y (.int .u8 (IntKind.u8.wrap (IntKind.u8.wrap (IntKind.u64.wrap ((BitVec.toNat (BitVec.ofInt 64 q.v &&& BitVec.ofInt 64 127)):Int))+128)))] (k*1+j)) (ah aD j.l))/\True)/\true=true)/\true=true/\()=())/\(decide (128<=q.v)=false->(q.v=List.getLastD t 0/\(0=0/\q.l.length=(List.dropLast t).length)/\True)/\((q.l.length=(List.dropLast t).length/\ak q.l.length 1 (ah aD q.l) (ah aD (List.dropLast t)))/\True)/\true=true)
theorem PL (t:List Int) (q:WU t):(cu Tryz.prog (hT _) 64 2 (fun q=>q.f) (fun q=>duT q.v q.l.length) (fun q=>duM q.l) [0,1,2] (fun _=>.ret ()) (duS t) q)=Zg t q:=by kernel_rfl
def anB (v:Int):Int:=IntKind.wrap IntKind.u8 (IntKind.wrap IntKind.u8 (IntKind.wrap IntKind.u64 (↑(BitVec.toNat (BitVec.ofInt 64 v &&& BitVec.ofInt 64 127)):Int))+128)
theorem aaW (v:Int):(↑(BitVec.toNat (BitVec.ofInt 64 v &&& BitVec.ofInt 64 127)):Int)=v % 128:=by
 rw [BitVec.toNat_and]
 have e:(BitVec.ofInt 64 127).toNat=2 ^ 7 - 1:=by decide
 rw [e,Nat.and_two_pow_sub_one_eq_mod,BitVec.toNat_ofInt]
 have h:(((v % ((2 ^ 64:Nat):Int)).toNat:Nat):Int)=v % ((2 ^ 64:Nat):Int):=Int.toNat_of_nonneg (Int.emod_nonneg _ (by decide))
 have h2:((v % ((2 ^ 64:Nat):Int)).toNat % 2 ^ 7:Nat)=(v % 128).toNat:=by
  have h3:((((v % ((2 ^ 64:Nat):Int)).toNat % 2 ^ 7:Nat)):Int)=v % 128:=by
   rw [Int.natCast_emod,h]
   omega
  omega
 rw [h2]
 omega
theorem aa0 (v:Int):anB v=v % 128+128:=by
 unfold anB
 rw [aaW]
 have h0:0<=v % 128:=Int.emod_nonneg _ (by omega)
 have h1:v % 128<128:=Int.emod_lt_of_pos _ (by omega)
 have e:IntKind.wrap IntKind.u64 (v % 128)=v % 128:=by
  unfold IntKind.wrap
  simp [IntKind.bits,IntKind.signed]
  omega
 rw [e,uF,uF]
 omega
theorem WY (t:List Int) (q:WU t):aQ Tryz.prog 64 2 (aS Tryz.prog 64 2) ⟨duT q.v q.l.length,duM q.l,[]⟩ (T.map (bU [0,1,2] (duS t)) (.ret ())):=by
 refine dU (P:=Tryz.prog) (f:=64) (k:=2) (ι:=WU t) (μ:=fun q=>q.f) (ht:=fun _=>hT _) (qG:=fun q=>duT q.v q.l.length) (stM:=fun q=>duM q.l) (X:=[0,1,2]) (o:=fun _=>.ret ()) (S:=duS t) Tryz.mixed (fun _=>rfl) (fun q=>?_) q
 rw [PL t q]
 unfold Zg
 have hn:=q.n
 have hv0:=q.v0
 have hvf:=q.vf
 have he:=q.e
 by_cases h:128<=q.v
 · obtain ⟨f,hf⟩:∃ f,q.f=f+1:=by
    cases hf:q.f with
    | zero=>rw [hf] at hvf;simp at hvf;omega
    | succ f=>exact ⟨f,rfl⟩
   have hz:decide ((128:Int)<=q.v)=true:=by simp;omega
   rw [hf,wT h] at he
   have hdiv:q.v / 128<128 ^ (f+1):=by
    rw [hf] at hvf
    have:(128:Int) ^ (f+1+1)=128 ^ (f+1)*128:=Int.pow_succ 128 (f+1)
    rw [this] at hvf
    exact Int.ediv_lt_of_lt_mul (by omega) hvf
   have ha:=jo (enc:=aD) (l:=q.l) (n:=q.l.length) (sz:=1) (x:=q.v % 128+128) (cs:=[.y (.int .u8 (q.v % 128+128))]) rfl (fun j hj=>bN _)
   simp only [Nat.mul_one] at ha
   have hO:=aa0 q.v
   unfold anB at hO
   simp only [hz,hO]
   simp
   refine ⟨⟨by omega,by omega⟩,⟨q.v / 128,q.l++[q.v % 128+128],f,Int.ediv_nonneg hv0 (by omega),hdiv,by simp;omega,he.trans (by simp)⟩,by show f<q.f;omega,⟨rfl,by simp⟩,by simp,ha⟩
 · have hz:decide ((128:Int)<=q.v)=false:=by simp;omega
   rw [AZ (by omega)] at he
   have h1:t.getLastD 0=q.v:=(congrArg (fun x:List Int=>x.getLastD 0) he).trans (by simp)
   have h2:t.dropLast=q.l:=(congrArg List.dropLast he).trans (by simp)
   simp only [hz,h1,h2]
   simp
def zig (v:Int):Int:=if 0<=v then 2*v else -2*v - 1
def aF (v:Int):List Int:=aj (zig v)
def iW (b:Bool):List Int:=[if b then 1 else 0]
def aA (t:List Int):List Int:=aj t.length++t
def aM (s:ByteArray):List Int:=s.data.toList.map fun x=>(x.toNat:Int)
noncomputable def Lh:aC Tryz.prog->aC Tryz.prog:=fun h=>rW h [77,76,93,78,79,91,130,92,80]
noncomputable def wiH (v:Int) (l:List Int):aC Tryz.prog:=Lh (hh _ bB (cs1 76 0 8 (zq (zig v) l) bA) bq)
def ad3 (v:Int) (l:List Int):Prop :=
 true=true/\true=true/\true=true/\((0=0/\0=0)/\IntKind.u64.wrap ((BitVec.toNat (BitVec.ofInt 64 (IntKind.u64.wrap (IntKind.u64.wrap v*2)) ^^^ BitVec.ofInt 64 (IntKind.u64.wrap (Int.fdiv v 9223372036854775808)))):Int)=zig v/\True)/\(fQ l l)/\jv (zig v) l/\True/\((l++aj (zig v)).length=(l++aF v).length/\ak (l++aj (zig v)).length 1 (ah aD (l++aj (zig v))) (ah aD (l++aF v)))/\((0=0/\(l++aj (zig v)).length=(l++aF v).length)/\True)/\True
theorem VD (v:Int) (l:List Int):(eU Tryz.prog (wiH v l) 76 [wP,.y (.int .i64 v)] (wM l) (J5 (l++aF v)))=ad3 v l:=by kernel_rfl
noncomputable def wbH:aC Tryz.prog:=Lh (dS (hT _) (nk 93 3 10 3 noSh))
def aeV (b:Bool) (l:List Int):Prop :=
 (b=true->(decide (l.length=l.length)&&decide (l.length+1<=9223372036854775807)&&decide ((l.length+1)*1<=140737488355328))=true/\True/\(l.length+1=(l++[if b=true then 1 else 0]).length/\ak (l.length+1) 1 (aL l.length (ah aD l) fun (k j:Nat)=>Ax.get [AV.s (.int .u8 1)] (k*1+j)) (ah aD (l++[if b=true then 1 else 0])))/\((0=0/\l.length+1=(l++[if b=true then 1 else 0]).length)/\True)/\True)/\(b=false->(decide (l.length=l.length)&&decide (l.length+1<=9223372036854775807)&&decide ((l.length+1)*1<=140737488355328))=true/\True/\(l.length+1=(l++[if b=true then 1 else 0]).length/\ak (l.length+1) 1 (aL l.length (ah aD l) fun (k j:Nat)=>Ax.get [AV.s (.int .u8 0)] (k*1+j)) (ah aD (l++[if b=true then 1 else 0])))/\((0=0/\l.length+1=(l++[if b=true then 1 else 0]).length)/\True)/\True)
theorem WS (b:Bool) (l:List Int):(eU Tryz.prog wbH 93 [wP,.y (.bool b)] (wM l) (wR (l++iW b)))=aeV b l:=by kernel_rfl
noncomputable def wsH (n:Nat) (l:List Int):aC Tryz.prog:=Lh (dS (hh _ bB (cs1 78 0 4 (zq n l) bA) bq) (nk 78 1 9 3 noSh))
def afv (s:ByteArray) (l:List Int):Prop :=
 ((0=0/\0=0)/\IntKind.u64.wrap ((ByteArray.size s):Int)=((ByteArray.size s):Int)/\True)/\(fQ l l)/\jv ((ByteArray.size s):Int) l/\(l++aj ((ByteArray.size s):Int)).length+ByteArray.size s<=140737488355328/\True/\((l++aj ((ByteArray.size s):Int)).length+ByteArray.size s=(l++aA (aM s)).length/\ak ((l++aj ((ByteArray.size s):Int)).length+ByteArray.size s) 1 (aL (l++aj ((ByteArray.size s):Int)).length (ah aD (l++aj ((ByteArray.size s):Int))) fun (k x:Nat)=>AV.y (.int .u8 ((UInt8.toNat (s.data.toList.getD k (0:UInt8))):Int))) (ah aD (l++aA (aM s))))/\((0=0/\(l++aj ((ByteArray.size s):Int)).length+ByteArray.size s=(l++aA (aM s)).length)/\True)/\True
theorem XU (s:ByteArray) (l:List Int):(eU Tryz.prog (wsH s.size l) 78 [wP,.y (.string s)] (wM l) (wR (l++aA (aM s))))=afv s l:=by kernel_rfl
noncomputable def wyH (n:Nat) (l:List Int):aC Tryz.prog:=Lh (dS (hh _ bB (cs1 79 0 4 (zq n l) bA) bq) (nk 79 1 9 3 noSh))
def afR (f:Bool) (t:List Int) (l:List Int):Prop :=
 ((0=0/\0=0)/\IntKind.u64.wrap (t.length:Int)=(t.length:Int)/\True)/\(fQ l l)/\jv (t.length:Int) l/\(decide ((l++aj (t.length:Int)).length=(l++aj (t.length:Int)).length)&&decide ((l++aj (t.length:Int)).length+t.length<=9223372036854775807)&&decide (((l++aj (t.length:Int)).length+t.length)*1<=140737488355328))=true/\True/\((l++aj (t.length:Int)).length+t.length=(l++aA t).length/\ak ((l++aj (t.length:Int)).length+t.length) 1 (aL (l++aj (t.length:Int)).length (ah aD (l++aj (t.length:Int))) (ah aD t)) (ah aD (l++aA t)))/\((0=0/\(l++aj (t.length:Int)).length+t.length=(l++aA t).length)/\True)/\True
theorem Xy (f:Bool) (t:List Int) (l:List Int):(eU Tryz.prog (wyH t.length l) 79 [wP,bn f t] (wM l) (wR (l++aA t)))=afR f t l:=by kernel_rfl
theorem Md {α:Type} [Inhabited α] {enc:α->List AV} {l t:List α} {n sz N:Nat} {d:Nat->Nat->AV} (hn:n=l.length) (hN:N=l.length+t.length) (h:∀ k,k<t.length->∀ j,j<sz->qg (d k j) (get (enc (t.getD k default)) j)) :
 ak N sz (aL n (ah enc l) d) (ah enc (l++t)):=by
 subst hn
 subst hN
 intro k hk j hj
 unfold aL ah
 by_cases h1:k<l.length
 · rw [if_pos h1]
   have:(l++t).getD k default=l.getD k default:=by simp [List.getD,List.getElem?_append_left h1]
   rw [this]
   exact bN _
 · rw [if_neg h1]
   have:(l++t).getD k default=t.getD (k - l.length) default:=by simp [List.getD,List.getElem?_append_right (by omega:l.length<=k)]
   rw [this]
   exact h _ (by omega) j hj
theorem aG (v:Int):(aj v).length<=11:=vR 10 v
theorem Yv (v:Int) (h0:-9223372036854775808<=v) (h1:v<9223372036854775808):IntKind.wrap IntKind.u64 (↑(BitVec.toNat (BitVec.ofInt 64 (IntKind.wrap IntKind.u64 (IntKind.wrap IntKind.u64 v*(2:Int))) ^^^ BitVec.ofInt 64 (IntKind.wrap IntKind.u64 (Int.fdiv v (9223372036854775808:Int))))):Int)=zig v:=by
 have wr:∀ x:Int,IntKind.wrap IntKind.u64 x=x % 18446744073709551616:=by
  intro x
  unfold IntKind.wrap
  simp [IntKind.bits,IntKind.signed]
 unfold zig
 rw [wr,wr,wr,wr]
 by_cases h:0<=v
 · have e1:Int.fdiv v 9223372036854775808=0:=by rw [Int.fdiv_eq_ediv_of_nonneg _ (by decide)];omega
   rw [e1,if_pos h]
   have e2:(0:Int) % 18446744073709551616=0:=by decide
   rw [e2]
   have e3:BitVec.ofInt 64 0=0#64:=by decide
   rw [e3,BitVec.xor_zero,BitVec.toNat_ofInt]
   omega
 · have e1:Int.fdiv v 9223372036854775808=-1:=by rw [Int.fdiv_eq_ediv_of_nonneg _ (by decide)];omega
   rw [e1,if_neg h]
   have e2:(-1:Int) % 18446744073709551616=18446744073709551615:=by decide
   rw [e2]
   have e3:BitVec.ofInt 64 18446744073709551615=BitVec.allOnes 64:=by decide
   rw [e3,BitVec.xor_allOnes,BitVec.toNat_not,BitVec.toNat_ofInt]
   omega
structure Nl (v:Int) (l:List Int):Prop where
 v0:-9223372036854775808<=v
 v1:v<9223372036854775808
 n:l.length+20<=140737488355327
theorem ahE {v:Int}:0<=zig v:=by unfold zig;split<;>omega
theorem ahj (v:Int) (l:List Int) (h:Nl v l):(J5 (l++aF v)).Sat (au Tryz.prog 76 [wP,.y (.int .i64 v)] (wM l)):=by
 refine dG (ht:=wiH v l) Tryz.mixed rfl ?_
 rw [VD v l]
 unfold ad3
 have h1:=Yv v h.v0 h.v1
 have h2:jv (zig v) l:=⟨ahE,by unfold zig;have:=h.v0;have:=h.v1;split<;>omega,h.n⟩
 simp only [h1]
 simp [h2,aF]
noncomputable def wiC (v:Int) (l:List Int):dO Tryz.prog:=⟨76,[wP,.y (.int .i64 v)],wM l,.need (Nl v l) (J5 (l++aF v)),T.Sat.need fun h=>ahj v l h⟩
theorem one_le (l:List Int) (v:Int):ak (l.length+1) 1 (aL l.length (ah aD l) fun k j=>get [AV.s (.int .u8 v)] (k*1+j)) (ah aD (l++[v])):=by
 refine jo rfl fun j hj=>?_
 obtain rfl:j=0:=by omega
 show qg (.s (.int .u8 v)) (.y (.int .u8 v))
 rw [abd]
 exact qm _
structure Vf (l:List Int):Prop where
 n:l.length+20<=140737488355327
theorem agx (b:Bool) (l:List Int) (h:Vf l):(wR (l++iW b)).Sat (au Tryz.prog 93 [wP,.y (.bool b)] (wM l)):=by
 refine dG (ht:=wbH) Tryz.mixed rfl ?_
 rw [WS b l]
 unfold aeV
 have hn:=h.n
 have ha:=one_le l 1
 have hb:=one_le l 0
 cases b
 · simp
   exact ⟨⟨by omega,by omega⟩,by simpa using hb⟩
 · simp
   exact ⟨⟨by omega,by omega⟩,by simpa using ha⟩
noncomputable def wbC (b:Bool) (l:List Int):dO Tryz.prog:=⟨93,[wP,.y (.bool b)],wM l,.need (Vf l) (J5 (l++iW b)),T.Sat.need fun h=>Bp (agx b l h)⟩
structure yO (s:ByteArray) (l:List Int):Prop where
 n:l.length+s.size+40<=140737488355327
theorem dF (s:ByteArray):(aM s).length=s.size:=by simp [aM]
theorem agy (s:ByteArray) (l:List Int) (h:yO s l):(wR (l++aA (aM s))).Sat (au Tryz.prog 78 [wP,.y (.string s)] (wM l)):=by
 refine dG (ht:=wsH s.size l) Tryz.mixed rfl ?_
 rw [XU s l]
 unfold afv
 have hn:=h.n
 have hu:=aG (s.size:Int)
 have h1:IntKind.wrap IntKind.u64 (s.size:Int)=s.size:=wrap_u64 (by omega) (by omega)
 have h2:jv (s.size:Int) l:=⟨by omega,by omega,by omega⟩
 have e:l++aA (aM s)=(l++aj (s.size:Int))++aM s:=by unfold aA;rw [dF,List.append_assoc]
 rw [e]
 simp only [h1]
 simp [h2,dF]
 repeat' with_reducible apply And.intro
 all_goals first | omega | skip
 rw [<- List.append_assoc]
 refine Md (by simp) (by simp [dF]) fun k hk j hj=>?_
 obtain rfl:j=0:=by omega
 have hk2:k<s.data.toList.length:=by simpa [aM] using hk
 show qg (.y (.int .u8 ((s.data[k]?.getD 0).toNat:Int))) (.y (.int .u8 ((aM s).getD k default)))
 have:(aM s).getD k default=((s.data[k]?.getD 0).toNat:Int):=by
  unfold aM
  simp only [List.getD,List.getElem?_map]
  simp at hk2
  simp [hk2]
 rw [this,abe]
 exact qm _
noncomputable def wsC (s:ByteArray) (l:List Int):dO Tryz.prog:=⟨78,[wP,.y (.string s)],wM l,.need (yO s l) (J5 (l++aA (aM s))),T.Sat.need fun h=>Bp (agy s l h)⟩
structure QG (t l:List Int):Prop where
 n:l.length+t.length+40<=140737488355327
theorem ahb (f:Bool) (t l:List Int) (h:QG t l):(wR (l++aA t)).Sat (au Tryz.prog 79 [wP,bn f t] (wM l)):=by
 refine dG (ht:=wyH t.length l) Tryz.mixed rfl ?_
 rw [Xy f t l]
 unfold afR
 have hn:=h.n
 have hu:=aG (t.length:Int)
 have h1:IntKind.wrap IntKind.u64 (t.length:Int)=t.length:=wrap_u64 (by omega) (by omega)
 have h2:jv (t.length:Int) l:=⟨by omega,by omega,by omega⟩
 have e:l++aA t=(l++aj (t.length:Int))++t:=by unfold aA;rw [List.append_assoc]
 rw [e]
 simp only [h1]
 simp [h2]
 repeat' with_reducible apply And.intro
 all_goals first | omega | skip
 rw [<- List.append_assoc]
 exact Md (by simp) (by simp) fun k hk j hj=>bN _
noncomputable def wyC (f:Bool) (t l:List Int):dO Tryz.prog:=⟨79,[wP,bn f t],wM l,.need (QG t l) (J5 (l++aA t)),T.Sat.need fun h=>Bp (ahb f t l h)⟩
end Go.Proofs.YtnbhdjadlbhknaaGreatDoor.J

namespace Go.Proofs.YtnbhdjadlbhknaaGreatDoor
open Go.Ax
set_option maxRecDepth 1000000
theorem aex (x:Rec) (o:Int) (h:x.val.length<=140737488355328):(M9 (x.to (IntKind.u64.wrap o))).Sat (au Tryz.prog 157 [.agg (encR x),.y (.int .i64 o)] []):=by
 refine aR (ht:=afC x) Tryz.mixed rfl ?_
 rw [Pv x o]
 unfold Y5
 simp [h]
 exact fun _ _=>rfl
theorem ahZ (x:Rec) (o:Int) (h:x.val.length<=140737488355328):(M9 (x.to (IntKind.u64.wrap o))).Sat (au Tryz.prog 144 [.agg (encR x),.y (.int .i64 o)] []):=by
 refine aR (ht:=atH) Tryz.mixed rfl ?_
 rw [Xv x o]
 unfold af9
 simp
 exact ⟨⟨by omega,by omega⟩,fun _ _=>rfl⟩
noncomputable def afj (x:Rec) (o:Int):dO Tryz.prog:=⟨157,[.agg (encR x),.y (.int .i64 o)],[],.need (x.val.length<=140737488355328) (M9 (x.to (IntKind.u64.wrap o))),T.Sat.need fun h=>aex x o h⟩
noncomputable def atC (x:Rec) (o:Int):dO Tryz.prog:=⟨144,[.agg (encR x),.y (.int .i64 o)],[],.need (x.val.length<=140737488355328) (M9 (x.to (IntKind.u64.wrap o))),T.Sat.need fun h=>ahZ x o h⟩
theorem afo (r:kW):(yP (iG r)).Sat (au Tryz.prog 37 [.agg (nN r)] []):=by
 refine aR (ht:=hT _) Tryz.mixed rfl ?_
 rw [Pq r]
 unfold ZQ iG lt
 simp
 grind
theorem aaH (r:kW):(yP (iG r)).Sat (au Tryz.prog 53 [.agg (nN r)] []):=by
 refine aR (ht:=hT _) Tryz.mixed rfl ?_
 rw [NI r]
 unfold OP iG lt
 simp
 grind
noncomputable def ael (r:kW):dO Tryz.prog:=⟨37,[.agg (nN r)],[],yP (iG r),afo r⟩
noncomputable def Z4 (r:kW):dO Tryz.prog:=⟨53,[.agg (nN r)],[],yP (iG r),aaH r⟩
def h_ (r:kW) (k:ByteArray):Bool:=iG r==0&&(decide ((k.size:Int)<=32)&&((lt r.lo k||r.lo.data.toList==k.data.toList)&&(r.hi.data.toList==[]||lt k r.hi)))
noncomputable def afs (r:kW):aC Tryz.prog:=hh _ bB (cs1 115 1 1 (ael r) bA) bq
noncomputable def Z_ (r:kW):aC Tryz.prog:=hh _ bB (cs1 54 1 1 (Z4 r) bA) bq
def YM (r:kW) (k:ByteArray):Prop :=
 ((r.lo=r.lo/\r.hi=r.hi/\True)/\True)/\True/\((iG r==0)=true->(decide (((ByteArray.size k):Int)<=32)=true->((Op.bytesLess r.lo.data.toList k.data.toList||r.lo.data.toList==k.data.toList)=true->((r.hi.data.toList==[])=true->true=h_ r k/\True)/\((r.hi.data.toList==[])=false->Op.bytesLess k.data.toList r.hi.data.toList=h_ r k/\True))/\((Op.bytesLess r.lo.data.toList k.data.toList||r.lo.data.toList==k.data.toList)=false->false=h_ r k/\True))/\(decide (((ByteArray.size k):Int)<=32)=false->false=h_ r k/\True))/\((iG r==0)=false->false=h_ r k/\True)
theorem Ph (r:kW) (k:ByteArray):(aZ Tryz.prog (afs r) 115 [.agg (nN r),.y (.string k)] [] (bM (h_ r k)))=YM r k:=by kernel_rfl
def Pb (r:kW) (k:ByteArray):Prop :=
 ((r.lo=r.lo/\r.hi=r.hi/\True)/\True)/\True/\((iG r==0)=true->(decide (((ByteArray.size k):Int)<=32)=true->((!Op.bytesLess k.data.toList r.lo.data.toList)=true->((r.hi.data.toList==[])=true->true=h_ r k/\True)/\((r.hi.data.toList==[])=false->Op.bytesLess k.data.toList r.hi.data.toList=h_ r k/\True))/\((!Op.bytesLess k.data.toList r.lo.data.toList)=false->false=h_ r k/\True))/\(decide (((ByteArray.size k):Int)<=32)=false->false=h_ r k/\True))/\((iG r==0)=false->false=h_ r k/\True)
theorem NH (r:kW) (k:ByteArray):(aZ Tryz.prog (Z_ r) 54 [.agg (nN r),.y (.string k)] [] (bM (h_ r k)))=Pb r k:=by kernel_rfl
theorem mX:∀ l:List UInt8,Op.bytesLess l l=false
 | []=>rfl
 | a::l=>by simp [Op.bytesLess,mX l]
theorem tZ:∀ (a b:List UInt8),Op.bytesLess a b=true->Op.bytesLess b a=false
 | [],[],h=>by simp [Op.bytesLess] at h
 | [],_::_,_=>rfl
 | _::_,[],h=>by simp [Op.bytesLess] at h
 | a::l,b::m,h=>by
   simp only [Op.bytesLess,Bool.or_eq_true,Bool.and_eq_true,decide_eq_true_eq,beq_iff_eq] at h ⊢
   rcases h with h | ⟨rfl,h⟩
   · have h1:¬ b<a:=UInt8.not_lt.2 (UInt8.le_of_lt h)
     have h2:¬ b=a:=fun e=>by subst e;exact absurd h (UInt8.lt_irrefl _)
     simp [h1,h2]
   · have:=tZ l m h
     simp [this]
theorem oN:∀ (a b:List UInt8),Op.bytesLess a b=false->Op.bytesLess b a=false->a=b
 | [],[],_,_=>rfl
 | [],_::_,h,_=>by simp [Op.bytesLess] at h
 | _::_,[],_,h=>by simp [Op.bytesLess] at h
 | a::l,b::m,h,k=>by
   simp only [Op.bytesLess,Bool.or_eq_false_iff,Bool.and_eq_false_iff,decide_eq_false_iff_not,beq_eq_false_iff_ne] at h k
   have e:a=b:=UInt8.le_antisymm (UInt8.not_lt.1 k.1) (UInt8.not_lt.1 h.1)
   subst e
   rw [oN l m (h.2.resolve_left fun q=>q rfl) (k.2.resolve_left fun q=>q rfl)]
theorem PS (a b:List UInt8):(!Op.bytesLess a b)=(Op.bytesLess b a||b==a):=by
 cases h:Op.bytesLess a b
 · cases k:Op.bytesLess b a
   · simp [oN a b h k]
   · rfl
 · have h1:=tZ a b h
   have h2:¬ b=a:=fun e=>by subst e;rw [mX] at h;cases h
   simp [h1,h2]
theorem adE (r:kW) (k:ByteArray):(bM (h_ r k)).Sat (au Tryz.prog 115 [.agg (nN r),.y (.string k)] []):=by
 refine aR (ht:=afs r) Tryz.mixed rfl ?_
 rw [Ph r k]
 unfold YM
 unfold h_ lt
 generalize (iG r==0)=a
 generalize decide ((k.size:Int)<=32)=b
 generalize Op.bytesLess r.lo.data.toList k.data.toList=c
 generalize (r.lo.data.toList==k.data.toList)=d
 generalize (r.hi.data.toList==[])=e
 generalize Op.bytesLess k.data.toList r.hi.data.toList=f
 cases a<;>cases b<;>cases c<;>cases d<;>cases e<;>cases f<;>simp
theorem abL (r:kW) (k:ByteArray):(bM (h_ r k)).Sat (au Tryz.prog 54 [.agg (nN r),.y (.string k)] []):=by
 refine aR (ht:=Z_ r) Tryz.mixed rfl ?_
 rw [NH r k]
 unfold Pb
 unfold h_ lt
 simp only [PS]
 generalize (iG r==0)=a
 generalize decide ((k.size:Int)<=32)=b
 generalize Op.bytesLess r.lo.data.toList k.data.toList=c
 generalize (r.lo.data.toList==k.data.toList)=d
 generalize (r.hi.data.toList==[])=e
 generalize Op.bytesLess k.data.toList r.hi.data.toList=f
 cases a<;>cases b<;>cases c<;>cases d<;>cases e<;>cases f<;>simp
def YL (x:Rec) (k:Nat):Bool:=!(x.off != IntKind.u64.wrap k)&&(decide (x.key.size<=32)&&decide (x.val.length<=256))
def bP (l:List Rec) (k:Nat):Bool:=(List.range' k (l.length - k)).all fun j=>YL (l.getD j default) j
theorem yu {l:List Rec} {k:Nat} (h:l.length<=k):bP l k=true:=by
 unfold bP
 rw [show l.length - k=0 by omega];rfl
theorem vB {l:List Rec} {k:Nat} (h:k<l.length):bP l k=(YL (l.getD k default) k&&bP l (k+1)):=by
 unfold bP
 rw [show l.length - k=(l.length - (k+1))+1 by omega,List.range'_succ];rfl
def dN (l:List Rec):Bool:=bP l 0&&decide (l.length<=4096)
def lgT (b:Bool) (l:List Rec) (k:Nat):List AV:=mkT 33 [(0,bZ b l),(2,.s (.bool false)),(5,bZ b l),(6,.y (.int .i64 l.length)),(7,.y (.int .i64 k))]
def lgS (b:Bool) (l:List Rec) (r:Bool):Exit×List AV×List aH:=match r with
 | true=>(.exit 0,mkT 33 [(0,bZ b l)],[])
 | false=>(.ret,mkT 33 [(2,.s (.bool false))],[])
def YQ (l:List Rec) (k:Nat):T Bool:=.ite (bP l k) (.ret true) (.ret false)
def ZF (b:Bool) (l:List Rec) (k:Nat):Prop :=
 (decide ((k:Int)<(l.length:Int))=true->(true&&decide ((k:Int)<(l.length:Int)))=true/\(((l.getD (Int.toNat (k:Int)) default).off != IntKind.u64.wrap (k:Int))=true->(bP l k=true->False)/\(bP l k=false->(false=false/\True)/\True/\true=true))/\(((l.getD (Int.toNat (k:Int)) default).off != IntKind.u64.wrap (k:Int))=false->(decide (32<((ByteArray.size (l.getD (Int.toNat (k:Int)) default).key):Int))=true->(bP l k=true->False)/\(bP l k=false->(false=false/\True)/\True/\true=true))/\(decide (32<((ByteArray.size (l.getD (Int.toNat (k:Int)) default).key):Int))=false->(decide (256<((l.getD (Int.toNat (k:Int)) default).val.length:Int))=true->(bP l k=true->False)/\(bP l k=false->(false=false/\True)/\True/\true=true))/\(decide (256<((l.getD (Int.toNat (k:Int)) default).val.length:Int))=false->∃ j:Nat,l.length - j<l.length - k/\(((b=b/\l.length=l.length/\ak l.length 5 (ah encR l) (ah encR l))/\false=false/\(b=b/\l.length=l.length/\ak l.length 5 (ah encR l) (ah encR l))/\(l.length:Int)=(l.length:Int)/\IntKind.i64.wrap ((k:Int)+1)=(j:Int)/\True)/\True/\true=true)/\true=true/\(bP l j=true->(bP l k=true->true=true)/\(bP l k=false->true=false))/\(bP l j=false->(bP l k=true->false=true)/\(bP l k=false->false=false))))))/\(decide ((k:Int)<(l.length:Int))=false->(bP l k=true->((b=b/\l.length=l.length/\ak l.length 5 (ah encR l) (ah encR l))/\True)/\True/\true=true)/\(bP l k=false->False))
theorem Q7 (b:Bool) (l:List Rec) (k:Nat):(cu Tryz.prog (hT _) 44 2 (fun k=>l.length - k) (lgT b l) (fun _=>[]) [0] (YQ l) (lgS b l) k)=ZF b l k:=by kernel_rfl
noncomputable def lgH (b:Bool) (l:List Rec):aC Tryz.prog:=hh _ (nu 44 2 (eP (lgT b l) (fun _=>[]) [0] (YQ l) (lgS b l) 0) bB) bA bq
def adB (b:Bool) (l:List Rec):Prop :=
 (((b=b/\l.length=l.length/\ak l.length 5 (ah encR l) (ah encR l))/\false=false/\(b=b/\l.length=l.length/\ak l.length 5 (ah encR l) (ah encR l))/\(l.length:Int)=(l.length:Int)/\(0:Int)=0/\True)/\True/\true=true)/\aQ Tryz.prog 44 2 (aS Tryz.prog 44 2) { t:=lgT b l 0,m:=[],mv:=[]:St } (T.map (bU [0] (lgS b l)) (YQ l 0))/\(bP l 0=true->decide ((l.length:Int)<=4096)=dN l/\True)/\(bP l 0=false->false=dN l/\True)
theorem Vo (b:Bool) (l:List Rec):(aZ Tryz.prog (lgH b l) 44 [bZ b l] [] (bM (dN l)))=adB b l:=by kernel_rfl
def lrT (b:Bool) (l:List Rec) (k:Nat):List AV:=mkT 39 [(0,bZ b l),(2,.s (.bool false)),(3,.y (.int .i64 k))]
def lrS (r:Bool):Exit×List AV×List aH:=match r with
 | true=>(.exit 0,mkT 39 [],[])
 | false=>(.ret,mkT 39 [(2,.s (.bool false))],[])
def ZK (b:Bool) (l:List Rec) (k:Nat):Prop :=
 (decide ((k:Int)<(l.length:Int))=true->(true&&decide ((k:Int)<(l.length:Int)))=true/\(((l.getD (Int.toNat (k:Int)) default).off != IntKind.u64.wrap (k:Int))=true->(bP l k=true->False)/\(bP l k=false->(false=false/\True)/\True/\true=true))/\(((l.getD (Int.toNat (k:Int)) default).off != IntKind.u64.wrap (k:Int))=false->(true&&decide ((k:Int)<(l.length:Int)))=true/\(decide (32<((ByteArray.size (l.getD (Int.toNat (k:Int)) default).key):Int))=true->(bP l k=true->False)/\(bP l k=false->(false=false/\True)/\True/\true=true))/\(decide (32<((ByteArray.size (l.getD (Int.toNat (k:Int)) default).key):Int))=false->(true&&decide ((k:Int)<(l.length:Int)))=true/\(decide (256<((l.getD (Int.toNat (k:Int)) default).val.length:Int))=true->(bP l k=true->False)/\(bP l k=false->(false=false/\True)/\True/\true=true))/\(decide (256<((l.getD (Int.toNat (k:Int)) default).val.length:Int))=false->∃ j:Nat,l.length - j<l.length - k/\(((b=b/\l.length=l.length/\ak l.length 5 (ah encR l) (ah encR l))/\false=false/\IntKind.i64.wrap ((k:Int)+1)=(j:Int)/\True)/\True/\true=true)/\true=true/\(bP l j=true->(bP l k=true->true=true)/\(bP l k=false->true=false))/\(bP l j=false->(bP l k=true->false=true)/\(bP l k=false->false=false))))))/\(decide ((k:Int)<(l.length:Int))=false->(bP l k=true->True/\True/\true=true)/\(bP l k=false->False))
theorem PG (b:Bool) (l:List Rec) (k:Nat):(cu Tryz.prog (hT _) 50 4 (fun k=>l.length - k) (lrT b l) (fun _=>[]) [0] (YQ l) lrS k)=ZK b l k:=by kernel_rfl
noncomputable def lrH (b:Bool) (l:List Rec):aC Tryz.prog:=hh _ (nu 50 4 (eP (lrT b l) (fun _=>[]) [0] (YQ l) lrS 0) bB) bA bq
def af2 (b:Bool) (l:List Rec):Prop :=
 (decide (4096<(l.length:Int))=true->false=dN l/\True)/\(decide (4096<(l.length:Int))=false->(((b=b/\l.length=l.length/\ak l.length 5 (ah encR l) (ah encR l))/\false=false/\(0:Int)=0/\True)/\True/\true=true)/\aQ Tryz.prog 50 4 (aS Tryz.prog 50 4) { t:=lrT b l 0,m:=[],mv:=[]:St } (T.map (bU [0] lrS) (YQ l 0))/\(bP l 0=true->true=dN l/\True)/\(bP l 0=false->false=dN l/\True))
theorem Vu (b:Bool) (l:List Rec):(aZ Tryz.prog (lrH b l) 50 [bZ b l] [] (bM (dN l)))=af2 b l:=by kernel_rfl
def below (x y:Rec):Bool:=y.prod==x.prod&&decide (y.seq<x.seq)
def aeI (l:List Rec) (x:Rec):Bool:=l.any (below x)
theorem Wm (b:Bool) (l:List Rec) (hl:l.length<=9223372036854775806) (k:Nat):aQ Tryz.prog 44 2 (aS Tryz.prog 44 2) ⟨lgT b l k,[],[]⟩ ((YQ l k).map (bU [0] (lgS b l))):=by
 refine fO Tryz.mixed (fun _=>rfl) (fun k=>(Q7 b l k).mpr ?_) k
 unfold ZF
 simp
 refine ⟨fun h=>?_,fun h=>by simp [yu h]⟩
 rw [vB h]
 simp (disch:=omega) only [wrap_i64]
 simp [YL,cast_succ_eq]
 generalize l[k]?.getD default=x
 grind
theorem agE (b:Bool) (l:List Rec) (hl:l.length<=9223372036854775806):(bM (dN l)).Sat (au Tryz.prog 44 [bZ b l] []):=by
 refine aR (ht:=lgH b l) Tryz.mixed rfl ?_
 rw [Vo b l]
 unfold adB
 have:=Wm b l hl 0
 simp [this,dN]
 grind
theorem XJ (b:Bool) (l:List Rec) (hl:l.length<=9223372036854775806) (k:Nat):aQ Tryz.prog 50 4 (aS Tryz.prog 50 4) ⟨lrT b l k,[],[]⟩ ((YQ l k).map (bU [0] lrS)):=by
 refine fO Tryz.mixed (fun _=>rfl) (fun k=>(PG b l k).mpr ?_) k
 unfold ZK
 simp
 refine ⟨fun h=>?_,fun h=>by simp [yu h]⟩
 rw [vB h]
 simp (disch:=omega) only [wrap_i64]
 simp [YL,cast_succ_eq]
 generalize l[k]?.getD default=x
 grind
theorem agB (b:Bool) (l:List Rec) (hl:l.length<=9223372036854775806):(bM (dN l)).Sat (au Tryz.prog 50 [bZ b l] []):=by
 refine aR (ht:=lrH b l) Tryz.mixed rfl ?_
 rw [Vu b l]
 unfold af2
 have:=XJ b l hl 0
 simp [this,dN]
 grind
noncomputable def lgC (b:Bool) (l:List Rec):dO Tryz.prog:=⟨44,[bZ b l],[],.need (l.length<=9223372036854775806) (bM (dN l)),T.Sat.need fun h=>agE b l h⟩
noncomputable def lrC (b:Bool) (l:List Rec):dO Tryz.prog:=⟨50,[bZ b l],[],.need (l.length<=9223372036854775806) (bM (dN l)),T.Sat.need fun h=>agB b l h⟩
def hd (l:List Rec):Rec:=l.getD 0 default
structure Jo where
 (a b out:List Rec) (ta tb:List Int)
def Jo.tA (s:Jo):Bool:=!s.a.isEmpty&&!aeI s.b (hd s.a)
def Jo.tB (s:Jo):Bool:=!s.b.isEmpty&&!aeI s.a (hd s.b)
def Jo.at (s:Jo):Int:=IntKind.u64.wrap (s.out.length:Nat)
def Jo.goA (s:Jo):Jo:=⟨s.a.tail,s.b,s.out++[(hd s.a).to s.at],s.ta++[s.at],s.tb⟩
def Jo.goB (s:Jo):Jo:=⟨s.a,s.b.tail,s.out++[(hd s.b).to s.at],s.ta,s.tb++[s.at]⟩
def Q9:Nat->Jo->Option Jo
 | 0,s=>some s
 | n+1,s=>if s.tA then Q9 n s.goA else if s.tB then Q9 n s.goB else none
def Jo.run (s:Jo):Option Jo:=Q9 (s.a.length+s.b.length) s
structure Jo.Ok (s:Jo):Prop where
 a:∀ x∈s.a,x.val.length<=256
 b:∀ x∈s.b,x.val.length<=256
 n:s.a.length+s.b.length+s.out.length<=4096
 ta:s.ta.length<=s.out.length
 tb:s.tb.length<=s.out.length
def Jo.end (s:Jo):Jo:=⟨s.a,s.b,s.out,s.ta++[s.at],s.tb++[s.at]⟩
theorem ab3 {cs:List AV} {x:Rec} (h0:qg (get cs 0) (.y (.int .u64 x.off))) (h1:qg (get cs 1) (.y (.string x.key))) (h2:qg (get cs 2) (bn true x.val)) (h3:qg (get cs 3) (.y (.int .u64 x.prod))) (h4:qg (get cs 4) (.y (.int .u64 x.seq))):∀ j,j<5->qg (get cs j) (get (encR x) j):=by
 intro j hj
 match j,hj with
 | 0,_=>exact h0
 | 1,_=>exact h1
 | 2,_=>exact h2
 | 3,_=>exact h3
 | 4,_=>exact h4
end Go.Proofs.YtnbhdjadlbhknaaGreatDoor

namespace Go.Proofs
open Go.Shelf
def Tryz.H9:Go.Shelf.Ren:=⟨fun | 160=>133 | 232=>151 | 231=>150 | 227=>152 | 234=>154 | 233=>153 | 236=>156 | 235=>155 | 228=>161 | 271=>164 | 151=>163 | 197=>162 | 120=>171 | 152=>170 | 260=>169 | 137=>181 | 119=>182 | 224=>183 | 225=>184 | 217=>189 | 266=>192 | n=>n,fun | 9=>9 | 4=>4 | 3=>3 | 5=>5 | 117=>215 | 116=>214 | 0=>0 | 124=>218 | 21=>21 | 105=>226 | 46=>165 | 119=>240 | 139=>243 | 138=>242 | n=>n,fun | 3=>1 | 4=>2 | n=>n⟩
theorem Tryz.Xk:Go.Proofs.Lays.n160 Tryz.prog Tryz.H9:={
 mixed:=by kernel_rfl
 f119:=Tryz.func182.trans (congrArg some (by kernel_rfl))
 f120:=Tryz.func171.trans (congrArg some (by kernel_rfl))
 f137:=Tryz.func181.trans (congrArg some (by kernel_rfl))
 f151:=Tryz.func163.trans (congrArg some (by kernel_rfl))
 f152:=Tryz.func170.trans (congrArg some (by kernel_rfl))
 f160:=Tryz.func133.trans (congrArg some (by kernel_rfl))
 f197:=Tryz.func162.trans (congrArg some (by kernel_rfl))
 f217:=Tryz.func189.trans (congrArg some (by kernel_rfl))
 f224:=Tryz.func183.trans (congrArg some (by kernel_rfl))
 f225:=Tryz.func184.trans (congrArg some (by kernel_rfl))
 f227:=Tryz.func152.trans (congrArg some (by kernel_rfl))
 f228:=Tryz.func161.trans (congrArg some (by kernel_rfl))
 f231:=Tryz.func150.trans (congrArg some (by kernel_rfl))
 f232:=Tryz.func151.trans (congrArg some (by kernel_rfl))
 f233:=Tryz.func153.trans (congrArg some (by kernel_rfl))
 f234:=Tryz.func154.trans (congrArg some (by kernel_rfl))
 f235:=Tryz.func155.trans (congrArg some (by kernel_rfl))
 f236:=Tryz.func156.trans (congrArg some (by kernel_rfl))
 f260:=Tryz.func169.trans (congrArg some (by kernel_rfl))
 f266:=Tryz.func192.trans (congrArg some (by kernel_rfl))
 f271:=Tryz.func164.trans (congrArg some (by kernel_rfl))
 t0:=Tryz.underlying0
 a0:=Tryz.isAgg0
 z0:=Tryz.sizeOf0
 v0:=Tryz.zeroValue0
 t3:=Tryz.underlying3
 a3:=Tryz.isAgg3
 z3:=Tryz.sizeOf3
 v3:=Tryz.zeroValue3
 t4:=Tryz.underlying4
 a4:=Tryz.isAgg4
 z4:=Tryz.sizeOf4
 v4:=Tryz.zeroValue4
 t5:=Tryz.underlying5
 a5:=Tryz.isAgg5
 z5:=Tryz.sizeOf5
 v5:=Tryz.zeroValue5
 t9:=Tryz.underlying9
 a9:=Tryz.isAgg9
 z9:=Tryz.sizeOf9
 v9:=Tryz.zeroValue9
 t21:=Tryz.underlying21
 a21:=Tryz.isAgg21
 z21:=Tryz.sizeOf21
 v21:=Tryz.zeroValue21
 t46:=Tryz.underlying165
 a46:=Tryz.isAgg165
 z46:=Tryz.sizeOf165
 v46:=Tryz.zeroValue165
 t105:=Tryz.underlying226
 a105:=Tryz.isAgg226
 z105:=Tryz.sizeOf226
 v105:=Tryz.zeroValue226
 t116:=Tryz.underlying214
 a116:=Tryz.isAgg214
 z116:=Tryz.sizeOf214
 t117:=Tryz.underlying215
 a117:=Tryz.isAgg215
 z117:=Tryz.sizeOf215
 v117:=Tryz.zeroValue215
 t119:=Tryz.underlying240
 a119:=Tryz.isAgg240
 z119:=Tryz.sizeOf240
 t124:=Tryz.underlying218
 a124:=Tryz.isAgg218
 z124:=Tryz.sizeOf218
 v124:=Tryz.zeroValue218
 t138:=Tryz.underlying242
 a138:=Tryz.isAgg242
 z138:=Tryz.sizeOf242
 v138:=Tryz.zeroValue242
 t139:=Tryz.underlying243
 a139:=Tryz.isAgg243
 z139:=Tryz.sizeOf243
 v139:=Tryz.zeroValue243
 g3:=by kernel_rfl
 g4:=by kernel_rfl }
end Go.Proofs
namespace Go.Proofs.YtnbhdjadlbhknaaGreatDoor
open Go.Ax
set_option maxRecDepth 1000000
def chars:List UInt8:=[97,98,99,100,101,102,103,104,105,106,107,108,109,110,111,112,113,114,115,116,117,118,119,120,121,122,48,49,50,51,52,53,54,55,56,57,45,95,46]
def rH (b:UInt8):Bool:=chars.contains b
def dD (s:ByteArray):Bool:=!(s.data.toList==[])&&(decide ((s.size:Int)<=32)&&s.data.toList.all rH)
theorem GH {l:List UInt8} {p:UInt8->Bool}:(l.dropWhile p==[])=l.all p:=by
 induction l with
 | nil=>rfl
 | cons a l ih =>
   rw [List.dropWhile_cons,List.all_cons]
   cases h:p a
   · simp
   · simpa using ih
theorem Rz (l:List UInt8):(Lib.trimS l chars==[])=l.all rH:=by
 unfold Lib.trimS Lib.trimLeftS Lib.trimRightS
 rw [GH]
 cases h:l.all rH
 · rw [Bool.eq_false_iff]
   intro h2
   have h3:∀ m:List UInt8,(m.dropWhile rH).all rH=true->m.all rH=true:=by
    intro m
    induction m with
    | nil=>exact fun _=>rfl
    | cons a m ih =>
      rw [List.dropWhile_cons]
      cases ha:rH a
      · intro h;simp at h;simp [ha] at h
      · intro h;simp only [List.all_cons,ha,Bool.true_and];exact ih h
   have h4:(l.reverse.dropWhile rH).all rH=true:=by
    rw [<- List.all_reverse];exact h2
   have h5:=h3 _ h4
   rw [List.all_reverse] at h5
   rw [h5] at h;cases h
 · rw [List.all_reverse]
   have:l.reverse.dropWhile rH=[]:=by
    have:=GH (l:=l.reverse) (p:=rH)
    rw [List.all_reverse,h] at this
    simpa using this
   have e:l.reverse.dropWhile (fun x=>chars.contains x)=[]:=this
   rw [e];rfl
def aae (s:ByteArray):T An:=.ret (.y (.string ⟨(Lib.trimS s.data.toList chars).toArray⟩),[],[])
theorem trim_c (s:ByteArray) (hs:s.size<=9223372036854775807):(aae s).Sat (au Tryz.prog 133 [.y (.string s),.s (.string ⟨chars.toArray⟩)] []):=by
 refine KG fun w vals hv=>?_
 obtain ⟨H,E,v,l1,e1,hv1,v2,l2,e2,hv2,e3⟩:=hv
 have e3:l2=[]:=e3
 subst e3
 subst e2
 obtain rfl:=hv1.1
 obtain rfl:=hv2.1
 have hvals:vals=#[.string s,.string ⟨chars.toArray⟩]:=Array.ext' e1
 subst hvals
 refine (Any.strings_Trim_laid Tryz.Xk (by kernel_rfl) s ⟨chars.toArray⟩ w hs (by decide) (Go.Proofs.ascii_of_all (by decide))).mono ?_
 rintro e w' ⟨rfl,hb⟩
 exact ⟨_,rfl,fun _ _=>⟨rfl,rfl⟩,hb⟩
noncomputable def aed (s:ByteArray):dO Tryz.prog:=⟨133,[.y (.string s),.s (.string ⟨chars.toArray⟩)],[],.need (s.size<=9223372036854775807) (aae s),T.Sat.need fun h=>trim_c s h⟩
noncomputable def YT (s:ByteArray):aC Tryz.prog:=hh _ bB (cs1 99 1 9 (aed s) bA) bq
def TI (s:ByteArray):Prop :=
 ((!s.data.toList==[])=true->(decide ((↑(ByteArray.size s):Int)<=(32:Int))=true->(s=s/\{ data:=#[(97:UInt8),(98:UInt8),(99:UInt8),(100:UInt8),(101:UInt8),(102:UInt8),(103:UInt8),(104:UInt8),(105:UInt8),(106:UInt8),(107:UInt8),(108:UInt8),(109:UInt8),(110:UInt8),(111:UInt8),(112:UInt8),(113:UInt8),(114:UInt8),(115:UInt8),(116:UInt8),(117:UInt8),(118:UInt8),(119:UInt8),(120:UInt8),(121:UInt8),(122:UInt8),(48:UInt8),(49:UInt8),(50:UInt8),(51:UInt8),(52:UInt8),(53:UInt8),(54:UInt8),(55:UInt8),(56:UInt8),(57:UInt8),(45:UInt8),(95:UInt8),(46:UInt8)]:ByteArray }={ data:=#[(97:UInt8),(98:UInt8),(99:UInt8),(100:UInt8),(101:UInt8),(102:UInt8),(103:UInt8),(104:UInt8),(105:UInt8),(106:UInt8),(107:UInt8),(108:UInt8),(109:UInt8),(110:UInt8),(111:UInt8),(112:UInt8),(113:UInt8),(114:UInt8),(115:UInt8),(116:UInt8),(117:UInt8),(118:UInt8),(119:UInt8),(120:UInt8),(121:UInt8),(122:UInt8),(48:UInt8),(49:UInt8),(50:UInt8),(51:UInt8),(52:UInt8),(53:UInt8),(54:UInt8),(55:UInt8),(56:UInt8),(57:UInt8),(45:UInt8),(95:UInt8),(46:UInt8)]:ByteArray }/\True)/\True/\ByteArray.size s<=(9223372036854775807:Nat)/\(Lib.trimS s.data.toList [(97:UInt8),(98:UInt8),(99:UInt8),(100:UInt8),(101:UInt8),(102:UInt8),(103:UInt8),(104:UInt8),(105:UInt8),(106:UInt8),(107:UInt8),(108:UInt8),(109:UInt8),(110:UInt8),(111:UInt8),(112:UInt8),(113:UInt8),(114:UInt8),(115:UInt8),(116:UInt8),(117:UInt8),(118:UInt8),(119:UInt8),(120:UInt8),(121:UInt8),(122:UInt8),(48:UInt8),(49:UInt8),(50:UInt8),(51:UInt8),(52:UInt8),(53:UInt8),(54:UInt8),(55:UInt8),(56:UInt8),(57:UInt8),(45:UInt8),(95:UInt8),(46:UInt8)]==[])=dD s/\True)/\(decide ((↑(ByteArray.size s):Int)<=(32:Int))=false->false=dD s/\True))/\((!s.data.toList==[])=false->false=dD s/\True)
theorem M4 (s:ByteArray):(aZ Tryz.prog (YT s) 99 [.y (.string s)] [] (bM (dD s)))=TI s:=by kernel_rfl
def chI (c:Int):Bool:=!((decide (c<97)||decide (122<c))&&((decide (c<48)||decide (57<c))&&(c != 45&&(c != 95&&c != 46))))
def dA (s:ByteArray) (k:Nat):Bool:=(s.data.toList.drop k).all rH
def nmT (s:ByteArray) (k:Nat):List AV:=mkT 48 [(0,.y (.string s)),(2,.s (.bool false)),(3,.y (.int .i64 k))]
def nmS (r:Bool):Exit×List AV×List aH:=match r with
 | true=>(.exit 0,mkT 48 [],[])
 | false=>(.ret,mkT 48 [(2,.s (.bool false))],[])
def nmO (s:ByteArray) (k:Nat):T Bool:=.ite (dA s k) (.ret true) (.ret false)
def u7 (s:ByteArray) (k:Nat):Prop:=(((↑(UInt8.toNat (List.getD s.data.toList (Int.toNat (↑k:Int)) (0:UInt8))):Int) != (45:Int))=true->(((↑(UInt8.toNat (List.getD s.data.toList (Int.toNat (↑k:Int)) (0:UInt8))):Int) != (95:Int))=true->(((↑(UInt8.toNat (List.getD s.data.toList (Int.toNat (↑k:Int)) (0:UInt8))):Int) != (46:Int))=true->(dA s k=true->False)/\(dA s k=false->(false=false/\True)/\True/\true=true))/\(((↑(UInt8.toNat (List.getD s.data.toList (Int.toNat (↑k:Int)) (0:UInt8))):Int) != (46:Int))=false->∃ (j:Nat),ByteArray.size s - j<ByteArray.size s - k/\((s=s/\false=false/\IntKind.wrap IntKind.i64 ((↑k:Int)+(1:Int))=(↑j:Int)/\True)/\True/\true=true)/\true=true/\(dA s j=true->(dA s k=true->true=true)/\(dA s k=false->true=false))/\(dA s j=false->(dA s k=true->false=true)/\(dA s k=false->false=false))))/\(((↑(UInt8.toNat (List.getD s.data.toList (Int.toNat (↑k:Int)) (0:UInt8))):Int) != (95:Int))=false->∃ (j:Nat),ByteArray.size s - j<ByteArray.size s - k/\((s=s/\false=false/\IntKind.wrap IntKind.i64 ((↑k:Int)+(1:Int))=(↑j:Int)/\True)/\True/\true=true)/\true=true/\(dA s j=true->(dA s k=true->true=true)/\(dA s k=false->true=false))/\(dA s j=false->(dA s k=true->false=true)/\(dA s k=false->false=false))))
def vV (s:ByteArray) (k:Nat):Prop:=(((↑(UInt8.toNat (List.getD s.data.toList (Int.toNat (↑k:Int)) (0:UInt8))):Int) != (45:Int))=false->∃ (j:Nat),ByteArray.size s - j<ByteArray.size s - k/\((s=s/\false=false/\IntKind.wrap IntKind.i64 ((↑k:Int)+(1:Int))=(↑j:Int)/\True)/\True/\true=true)/\true=true/\(dA s j=true->(dA s k=true->true=true)/\(dA s k=false->true=false))/\(dA s j=false->(dA s k=true->false=true)/\(dA s k=false->false=false)))
def Aj (s:ByteArray) (k:Nat):Prop:=(decide ((↑(UInt8.toNat (List.getD s.data.toList (Int.toNat (↑k:Int)) (0:UInt8))):Int)<(48:Int))=false->(decide ((57:Int)<(↑(UInt8.toNat (List.getD s.data.toList (Int.toNat (↑k:Int)) (0:UInt8))):Int))=true->(u7 s k)/\(vV s k))/\(decide ((57:Int)<(↑(UInt8.toNat (List.getD s.data.toList (Int.toNat (↑k:Int)) (0:UInt8))):Int))=false->∃ (j:Nat),ByteArray.size s - j<ByteArray.size s - k/\((s=s/\false=false/\IntKind.wrap IntKind.i64 ((↑k:Int)+(1:Int))=(↑j:Int)/\True)/\True/\true=true)/\true=true/\(dA s j=true->(dA s k=true->true=true)/\(dA s k=false->true=false))/\(dA s j=false->(dA s k=true->false=true)/\(dA s k=false->false=false))))
def Z0 (s:ByteArray) (k:Nat):Prop :=
 (decide ((↑k:Int)<(↑(ByteArray.size s):Int))=true->(true&&decide ((↑k:Int)<(↑(ByteArray.size s):Int)))=true/\(decide ((↑(UInt8.toNat (List.getD s.data.toList (Int.toNat (↑k:Int)) (0:UInt8))):Int)<(97:Int))=true->(decide ((↑(UInt8.toNat (List.getD s.data.toList (Int.toNat (↑k:Int)) (0:UInt8))):Int)<(48:Int))=true->(u7 s k)/\(vV s k))/\(Aj s k))/\(decide ((↑(UInt8.toNat (List.getD s.data.toList (Int.toNat (↑k:Int)) (0:UInt8))):Int)<(97:Int))=false->(decide ((122:Int)<(↑(UInt8.toNat (List.getD s.data.toList (Int.toNat (↑k:Int)) (0:UInt8))):Int))=true->(decide ((↑(UInt8.toNat (List.getD s.data.toList (Int.toNat (↑k:Int)) (0:UInt8))):Int)<(48:Int))=true->(u7 s k)/\(vV s k))/\(Aj s k))/\(decide ((122:Int)<(↑(UInt8.toNat (List.getD s.data.toList (Int.toNat (↑k:Int)) (0:UInt8))):Int))=false->∃ (j:Nat),ByteArray.size s - j<ByteArray.size s - k/\((s=s/\false=false/\IntKind.wrap IntKind.i64 ((↑k:Int)+(1:Int))=(↑j:Int)/\True)/\True/\true=true)/\true=true/\(dA s j=true->(dA s k=true->true=true)/\(dA s k=false->true=false))/\(dA s j=false->(dA s k=true->false=true)/\(dA s k=false->false=false)))))/\(decide ((↑k:Int)<(↑(ByteArray.size s):Int))=false->(dA s k=true->True/\True/\true=true)/\(dA s k=false->False))
theorem QV (s:ByteArray) (k:Nat):(cu Tryz.prog (hT _) 95 4 (fun k=>s.size - k) (nmT s) (fun _=>[]) [0] (nmO s) nmS k)=Z0 s k:=by kernel_rfl
noncomputable def nmH (s:ByteArray):aC Tryz.prog:=hh _ (nu 95 4 (eP (nmT s) (fun _=>[]) [0] (nmO s) nmS 0) bB) bA bq
def aen (s:ByteArray):Prop :=
 (decide (((ByteArray.size s):Int)<1)=true->false=dD s/\True)/\(decide (((ByteArray.size s):Int)<1)=false->(decide (32<((ByteArray.size s):Int))=true->false=dD s/\True)/\(decide (32<((ByteArray.size s):Int))=false->((s=s/\false=false/\(0:Int)=0/\True)/\True/\true=true)/\aQ Tryz.prog 95 4 (aS Tryz.prog 95 4) { t:=nmT s 0,m:=[],mv:=[]:St } (T.map (bU [0] nmS) (nmO s 0))/\(dA s 0=true->true=dD s/\True)/\(dA s 0=false->false=dD s/\True)))
theorem U1 (s:ByteArray):(aZ Tryz.prog (nmH s) 95 [.y (.string s)] [] (bM (dD s)))=aen s:=by kernel_rfl
end Go.Proofs.YtnbhdjadlbhknaaGreatDoor

namespace Go.Proofs.YtnbhdjadlbhknaaGreatDoor
open Go.Ax
set_option maxRecDepth 1000000
theorem ab2 (s:ByteArray):(bM (dD s)).Sat (au Tryz.prog 99 [.y (.string s)] []):=by
 refine aR (ht:=YT s) Tryz.mixed rfl ?_
 rw [M4 s]
 unfold TI
 have e:=Rz s.data.toList
 unfold chars at e
 simp only [e,dD]
 generalize (s.data.toList==[])=a
 generalize hb:decide ((s.size:Int)<=32)=b
 generalize s.data.toList.all rH=c
 cases a<;>cases b<;>cases c<;>simp at hb ⊢<;>omega
theorem afY (b:UInt8):rH b=chI (b.toNat:Nat):=by
 have:∀ n:Fin 256,rH (UInt8.ofNat n.1)=chI (n.1:Nat):=by decide +kernel
 have h:=this ⟨b.toNat,b.toNat_lt⟩
 simpa using h
theorem Jv {s:ByteArray} {k:Nat} (h:s.size<=k):dA s k=true:=by
 unfold dA
 rw [List.drop_eq_nil_of_le (by simpa using h)]
 rfl
theorem Jc {s:ByteArray} {k:Nat} (h:k<s.size):dA s k=(chI ((s.data.toList.getD k 0).toNat:Nat)&&dA s (k+1)):=by
 unfold dA
 have hk:k<s.data.toList.length:=by simpa using h
 rw [List.drop_eq_getElem_cons hk,List.all_cons,afY]
 simp [List.getElem?_eq_getElem hk]
theorem Uf (s:ByteArray) (hs:s.size<=32) (k:Nat):aQ Tryz.prog 95 4 (aS Tryz.prog 95 4) ⟨nmT s k,[],[]⟩ ((nmO s k).map (bU [0] nmS)):=by
 refine fO Tryz.mixed (fun _=>rfl) (fun k=>(QV s k).mpr ?_) k
 unfold Z0 Aj vV u7
 by_cases h:k<s.size
 · have h1:decide ((k:Int)<(s.size:Int))=true:=by simp;omega
   simp only [h1,Jc h,chI,Int.toNat_natCast]
   have hw:IntKind.i64.wrap ((k:Int)+1)=((k+1:Nat):Int):=by rw [wrap_i64 (by omega) (by omega)];omega
   have hex:∀ q:Nat->Prop,q (k+1)->∃ j,s.size - j<s.size - k/\q j:=fun q h=>⟨k+1,by omega,h⟩
   generalize decide (((s.data.toList.getD k 0).toNat:Int)<97)=b1
   generalize decide (122<((s.data.toList.getD k 0).toNat:Int))=b2
   generalize decide (((s.data.toList.getD k 0).toNat:Int)<48)=b3
   generalize decide (57<((s.data.toList.getD k 0).toNat:Int))=b4
   generalize (((s.data.toList.getD k 0).toNat:Int) != 45)=b5
   generalize (((s.data.toList.getD k 0).toNat:Int) != 95)=b6
   generalize (((s.data.toList.getD k 0).toNat:Int) != 46)=b7
   cases b1<;>cases b2<;>cases b3<;>cases b4<;>cases b5<;>cases b6<;>cases b7<;>simp<;>exact ⟨k+1,by omega,hw,by simp,by simp⟩
 · have h1:decide ((k:Int)<(s.size:Int))=false:=by simp;omega
   simp [h1,Jv (show s.size<=k by omega)]
   exact fun e=>absurd e h
theorem aeo (s:ByteArray):(bM (dD s)).Sat (au Tryz.prog 95 [.y (.string s)] []):=by
 refine aR (ht:=nmH s) Tryz.mixed rfl ?_
 rw [U1 s]
 unfold aen
 by_cases h:s.size<=32
 · have lp:=Uf s h 0
   have h2:¬ ((32:Int)<s.size):=by omega
   have hl:s.data.toList.length=s.size:=Array.length_toList
   have h5:dA s 0=s.data.toList.all rH:=rfl
   rw [h5] at *
   have h6:decide ((s.size:Int)<=32)=true:=by simp;omega
   by_cases hz:(s.size:Int)<1
   · have h3:(s.data.toList==[])=true:=by
      rw [beq_iff_eq];exact List.length_eq_zero_iff.1 (by omega)
     simp only [dD,h3,h6]
     simp [hz]
   · have h3:(s.data.toList==[])=false:=by
      rw [beq_eq_false_iff_ne];intro e;rw [e] at hl;simp at hl;omega
     simp only [dD,h3,h6]
     generalize s.data.toList.all rH=c at *
     cases c<;>simp [hz,h2,lp]
 · have h2:(32:Int)<s.size:=by omega
   have h3:¬ ((s.size:Int)<=32):=by omega
   simp [dD,h2,h3]
noncomputable def Mh (s:ByteArray):dO Tryz.prog:=⟨99,[.y (.string s)],[],bM (dD s),ab2 s⟩
noncomputable def nmC (s:ByteArray):dO Tryz.prog:=⟨95,[.y (.string s)],[],bM (dD s),aeo s⟩
def qG (b1 b2:Bool) (a:List Int) (k:Nat):List AV:=mkT 26 [(0,Zi b1 a),(1,Zi b2 a),(5,.y (.int .i64 k))]
def kB:ByteArray:=⟨#[107]⟩
theorem agb (x:Rec) (j:Nat) (hj:j<5):dK (Ax.get (encR x) j)=true:=by
 match j,hj with
 | 0,_=>rfl
 | 1,_=>rfl
 | 2,_=>rfl
 | 3,_=>rfl
 | 4,_=>rfl
noncomputable def afz (r:kW) (k:ByteArray):dO Tryz.prog:=⟨115,[.agg (nN r),.y (.string k)],[],bM (h_ r k),adE r k⟩
noncomputable def ZB (r:kW) (k:ByteArray):dO Tryz.prog:=⟨54,[.agg (nN r),.y (.string k)],[],bM (h_ r k),abL r k⟩
structure Ke where
 (out:List Rec) (to:List Int)
def Ke.step (r:kW) (s:Ke) (x:Rec):Ke:=⟨if h_ r x.key then s.out++[x.to (IntKind.u64.wrap (s.out.length:Nat))] else s.out,s.to++[IntKind.u64.wrap (s.out.length:Nat)]⟩
def Ke.end (s:Ke):Ke:=⟨s.out,s.to++[IntKind.u64.wrap (s.out.length:Nat)]⟩
theorem WQ {l:List Rec} (h:dN l=true) {k:Nat} (hk:k<l.length):(l.getD k default).val.length<=256:=by
 simp only [dN,Bool.and_eq_true] at h
 have h1:=h.1
 unfold bP at h1
 rw [List.all_eq_true] at h1
 have h2:=h1 k (by simp;omega)
 simp only [YL,Bool.and_eq_true,decide_eq_true_eq] at h2
 exact h2.2.2
theorem pz {l:List Rec} (h:dN l=true):l.length<=4096:=by
 simp only [dN,Bool.and_eq_true,decide_eq_true_eq] at h
 exact h.2
theorem take_one {l:List Rec} {k:Nat} (h:k<l.length):l.take (k+1)=l.take k++[l.getD k default]:=by
 rw [List.take_add_one,List.getElem?_eq_getElem h]
 simp [List.getElem?_eq_getElem h]
end Go.Proofs.YtnbhdjadlbhknaaGreatDoor
