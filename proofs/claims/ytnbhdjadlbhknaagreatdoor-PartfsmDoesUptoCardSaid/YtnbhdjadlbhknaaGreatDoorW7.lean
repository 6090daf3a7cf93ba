import Derived.Test.YtnbhdjadlbhknaaGreatDoorW1
import Derived.Test.YtnbhdjadlbhknaaGreatDoorW3
import Derived.Test.YtnbhdjadlbhknaaGreatDoorW4
import Derived.Test.YtnbhdjadlbhknaaGreatDoorW5
import Derived.Test.YtnbhdjadlbhknaaGreatDoorW6
set_option linter.unusedVariables false
set_option linter.unusedSimpArgs false
set_option maxRecDepth 1000000
namespace Go.Proofs.YtnbhdjadlbhknaaGreatDoor
open Go.Ax
namespace Q
open J
def jg (b:Bool):List Int:=[if b then 1 else 0]
def aQ (t:List Int):List Int:=au t.length++t
def bD (s:ByteArray):List Int:=s.data.toList.map fun x=>(x.toNat:Int)
def fU (r:kF):List Int:=aQ (bD r.lo)++aQ (bD r.hi)
def jk (x:Rec):List Int:=au x.off++aQ (bD x.key)++aQ x.val++au x.prod++au x.seq
def dY (l:List Rec):List Int:=au (l.length:Int)++l.flatMap jk
def jG (x:P.Producer):List Int:=au x.id++au x.seq++jg x.here++au x.offset
def pU (x:Con):List Int:=aQ (bD x.name)++au x.off
def PO (p:Part):List Int:=fU p.rng++au p.epoch++au p.frozen++dY p.recs++au (p.prods.length:Int)
def iL (p:Part) (k:Nat):List Int:=PO p++(p.prods.take k).flatMap jG
def mR (p:Part) (k:Nat):List Int:=iL p p.prods.length++au (p.cons.length:Int)++(p.cons.take k).flatMap pU
def dA (p:Part):List Int:=mR p p.cons.length
def GY (l:List Int):ay:=.row 5 1 l.length none (ah aJ l)
def gU (l:List Int):T An:=.ret (.own 0 1 0 l.length,[GY l],[])
noncomputable def uwH (t:List Int) (q:WU t):aC Tryz.prog:=hh _ (mU 64 2 (dM (fun q:WU t=>duT q.v q.l.length) (fun q=>duM q.l) [0,1,2] (fun _=>.ret ()) (duS t) q) bO) bM (op1 64 1 0 (.row 5 1) bL)
def ag9 (t:List Int) (q:WU t) (v:Int):Prop :=
 ((v=q.v/\(0=0/\0=q.l.length)/\True)/\((0=q.l.length/\aj 0 1 (fun (x x_1:Nat)=>AV.junk) (ah aJ q.l))/\True)/\true=true)/\aM Tryz.prog 64 2 (aN Tryz.prog 64 2) { t:=duT q.v q.l.length,m:=duM q.l,mv:=[]:St } (T.map (bJ [0,1,2] (duS t)) ((fun (x:WU t)=>T.ret ()) q))/\(decide ((List.dropLast t).length=(List.dropLast t).length)&&decide ((List.dropLast t).length+1<=9223372036854775807)&&decide (((List.dropLast t).length+1)*1<=140737488355328))=true/\(0=0/\(List.dropLast t).length+1=t.length)/\((List.dropLast t).length+1=t.length/\aj ((List.dropLast t).length+1) 1 (aY (List.dropLast t).length (ah aJ (List.dropLast t)) fun (k j:Nat)=>Ax.get [AV.y (.int .u8 (IntKind.u8.wrap (List.getLastD t 0)))] (k*1+j)) (ah aJ t))/\True
theorem WM (t:List Int) (q:WU t) (v:Int):(bf Tryz.prog (uwH t q) 64 [.y (.int .u64 v)] [] (gU t))=ag9 t q v:=by kernel_rfl
theorem aib (v:Int) (h0:0<=v) (h1:v<18446744073709551616):(gU (au v)).Sat (aB Tryz.prog 64 [.y (.int .u64 v)] []):=by
 have hv:v<128 ^ (10+1):=by
  have:(128:Int) ^ (10+1)=151115727451828646838272:=by decide
  omega
 obtain ⟨a,z,ha,hz0,hz1⟩:=Oq 10 v h0 hv
 have hlen:=Gz 10 v
 have lp:=WX (au v) ⟨v,[],10,h0,hv,by decide,rfl⟩
 refine aP (ht:=uwH (au v) ⟨v,[],10,h0,hv,by decide,rfl⟩) Tryz.mixed rfl ?_
 rw [WM (au v) ⟨v,[],10,h0,hv,by decide,rfl⟩ v]
 unfold ag9
 have e1:(au v).dropLast=a:=by unfold au;rw [ha];simp
 have e2:(au v).getLastD 0=z:=by unfold au;rw [ha];simp
 have e3:au v=a++[z]:=ha
 have hz8:IntKind.wrap IntKind.u8 z=z:=by rw [EZ];omega
 have hal:a.length<=10:=by rw [ha] at hlen;simp at hlen;omega
 have hr:=sw (enc:=aJ) (l:=a) (n:=a.length) (sz:=1) (x:=z) (cs:=[.y (.int .u8 z)]) rfl (fun j hj=>dn _)
 simp only [Nat.mul_one] at hr
 have e4:(au v).length=a.length+1:=by unfold au;rw [ha];simp
 simp only [e1,e2,hz8]
 simp [lp]
 repeat' with_reducible apply And.intro
 all_goals first
  | omega
  | (simpa using lp)
  | (rw [e3];exact hr)
structure eZ (v:Int):Prop where
 v0:0<=v
 v1:v<18446744073709551616
noncomputable def Ov (v:Int):eu Tryz.prog:=⟨64,[.y (.int .u64 v)],[],.need (eZ v) (gU (au v)),T.Sat.need fun h=>aib v h.v0 h.v1⟩
noncomputable def txH (n:Nat):aC Tryz.prog:=hh _ bO (cs1 67 1 3 (Ov (n:Int)) bM) bL
def af0 (f:Bool) (b:List Int):Prop :=
 (IntKind.u64.wrap (b.length:Int)=(b.length:Int)/\True)/\True/\eZ (b.length:Int)/\(decide ((au (b.length:Int)).length=(au (b.length:Int)).length)&&decide ((au (b.length:Int)).length+b.length<=9223372036854775807)&&decide (((au (b.length:Int)).length+b.length)*1<=140737488355328))=true/\(0=0/\(au (b.length:Int)).length+b.length=(aQ b).length)/\((au (b.length:Int)).length+b.length=(aQ b).length/\aj ((au (b.length:Int)).length+b.length) 1 (aY (au (b.length:Int)).length (ah aJ (au (b.length:Int))) (ah aJ b)) (ah aJ (aQ b)))/\True
theorem Zh (f:Bool) (b:List Int):(bf Tryz.prog (txH b.length) 67 [h_ f b] [] (gU (aQ b)))=af0 f b:=by kernel_rfl
theorem aau (l r:List Int):aj (l.length+r.length) 1 (aY l.length (ah aJ l) (ah aJ r)) (ah aJ (l++r)):=by
 intro k hk j hj
 unfold aY ah
 by_cases h:k<l.length
 · rw [if_pos h]
   have:(l++r).getD k default=l.getD k default:=by simp [List.getElem?_append_left h]
   rw [this];exact dn _
 · rw [if_neg h]
   have:(l++r).getD k default=r.getD (k - l.length) default:=by simp [List.getElem?_append_right (by omega:l.length<=k)]
   rw [this];exact dn _
theorem dF (v:Int):(au v).length<=11:=Gz 10 v
theorem ai3 (f:Bool) (b:List Int) (h:b.length<=1099511627776):(gU (aQ b)).Sat (aB Tryz.prog 67 [h_ f b] []):=by
 refine aP (ht:=txH b.length) Tryz.mixed rfl ?_
 rw [Zh f b]
 unfold af0
 have hw:IntKind.u64.wrap (b.length:Int)=b.length:=wrap_u64 (by omega) (by omega)
 have hu:eZ (b.length:Int):=⟨by omega,by omega⟩
 have hl:=dF (b.length:Int)
 have hc:=aau (au b.length) b
 simp only [hw,aQ]
 simp [hu,hc]
 try omega
noncomputable def txC (f:Bool) (b:List Int):eu Tryz.prog:=⟨67,[h_ f b],[],.need (b.length<=1099511627776) (gU (aQ b)),T.Sat.need fun h=>ai3 f b h⟩
noncomputable def rgH (r:kF):aC Tryz.prog:=hh _ bO (cs1 63 1 3 (txC true (bD r.lo)) (cs1 63 1 7 (txC true (bD r.hi)) bM)) bL
def ae7 (r:kF):Prop :=
 ((true=true/\ByteArray.size r.lo=(bD r.lo).length/\aj (ByteArray.size r.lo) 1 (fun (k x:Nat)=>AV.y (.int .u8 ((UInt8.toNat (r.lo.data.toList.getD k (0:UInt8))):Int))) (ah aJ (bD r.lo)))/\True)/\True/\(bD r.lo).length<=1099511627776/\((true=true/\ByteArray.size r.hi=(bD r.hi).length/\aj (ByteArray.size r.hi) 1 (fun (k x:Nat)=>AV.y (.int .u8 ((UInt8.toNat (r.hi.data.toList.getD k (0:UInt8))):Int))) (ah aJ (bD r.hi)))/\True)/\True/\(bD r.hi).length<=1099511627776/\(decide ((aQ (bD r.lo)).length=(aQ (bD r.lo)).length)&&decide ((aQ (bD r.lo)).length+(aQ (bD r.hi)).length<=9223372036854775807)&&decide (((aQ (bD r.lo)).length+(aQ (bD r.hi)).length)*1<=140737488355328))=true/\(0=0/\(aQ (bD r.lo)).length+(aQ (bD r.hi)).length=(fU r).length)/\((aQ (bD r.lo)).length+(aQ (bD r.hi)).length=(fU r).length/\aj ((aQ (bD r.lo)).length+(aQ (bD r.hi)).length) 1 (aY (aQ (bD r.lo)).length (ah aJ (aQ (bD r.lo))) fun (k:Nat)=>ah aJ (aQ (bD r.hi)) (0+k)) (ah aJ (fU r)))/\True
theorem Xy (r:kF):(bf Tryz.prog (rgH r) 63 [.agg (mh r)] [] (gU (fU r)))=ae7 r:=by kernel_rfl
noncomputable def rcH (x:Rec):aC Tryz.prog:=hh _ bO (cs1 120 1 2 (Ov x.off) (cs1 120 1 6 (txC true (bD x.key)) (cs1 120 2 3 (txC true x.val) (cs1 120 3 3 (Ov x.prod) (cs1 120 4 3 (Ov x.seq) bM))))) bL
def ahl (x:Rec):Prop :=
 (x.off=x.off/\True)/\True/\eZ x.off/\((true=true/\ByteArray.size x.key=(bD x.key).length/\aj (ByteArray.size x.key) 1 (fun (k x_1:Nat)=>AV.y (.int .u8 ((UInt8.toNat (x.key.data.toList.getD k (0:UInt8))):Int))) (ah aJ (bD x.key)))/\True)/\True/\(bD x.key).length<=1099511627776/\(decide ((au x.off).length=(au x.off).length)&&decide ((au x.off).length+(aQ (bD x.key)).length<=9223372036854775807)&&decide (((au x.off).length+(aQ (bD x.key)).length)*1<=140737488355328))=true/\((lD x.val x.val)/\True)/\True/\x.val.length<=1099511627776/\(decide ((au x.off).length+(aQ (bD x.key)).length=(au x.off).length+(aQ (bD x.key)).length)&&decide ((au x.off).length+(aQ (bD x.key)).length+(aQ x.val).length<=9223372036854775807)&&decide (((au x.off).length+(aQ (bD x.key)).length+(aQ x.val).length)*1<=140737488355328))=true/\(x.prod=x.prod/\True)/\True/\eZ x.prod/\(decide ((au x.off).length+(aQ (bD x.key)).length+(aQ x.val).length=(au x.off).length+(aQ (bD x.key)).length+(aQ x.val).length)&&decide ((au x.off).length+(aQ (bD x.key)).length+(aQ x.val).length+(au x.prod).length<=9223372036854775807)&&decide (((au x.off).length+(aQ (bD x.key)).length+(aQ x.val).length+(au x.prod).length)*1<=140737488355328))=true/\(x.seq=x.seq/\True)/\True/\eZ x.seq/\(decide ((au x.off).length+(aQ (bD x.key)).length+(aQ x.val).length+(au x.prod).length=(au x.off).length+(aQ (bD x.key)).length+(aQ x.val).length+(au x.prod).length)&&decide ((au x.off).length+(aQ (bD x.key)).length+(aQ x.val).length+(au x.prod).length+(au x.seq).length<=9223372036854775807)&&decide (((au x.off).length+(aQ (bD x.key)).length+(aQ x.val).length+(au x.prod).length+(au x.seq).length)*1<=140737488355328))=true/\(0=0/\(au x.off).length+(aQ (bD x.key)).length+(aQ x.val).length+(au x.prod).length+(au x.seq).length=(jk x).length)/\((au x.off).length+(aQ (bD x.key)).length+(aQ x.val).length+(au x.prod).length+(au x.seq).length=(jk x).length/\aj ((au x.off).length+(aQ (bD x.key)).length+(aQ x.val).length+(au x.prod).length+(au x.seq).length) 1 (aY ((au x.off).length+(aQ (bD x.key)).length+(aQ x.val).length+(au x.prod).length) (aY ((au x.off).length+(aQ (bD x.key)).length+(aQ x.val).length) (aY ((au x.off).length+(aQ (bD x.key)).length) (aY (au x.off).length (ah aJ (au x.off)) fun (k:Nat)=>ah aJ (aQ (bD x.key)) (0+k)) fun (k:Nat)=>ah aJ (aQ x.val) (0+k)) fun (k:Nat)=>ah aJ (au x.prod) (0+k)) fun (k:Nat)=>ah aJ (au x.seq) (0+k)) (ah aJ (jk x)))/\True
theorem WI (x:Rec):(bf Tryz.prog (rcH x) 120 [.agg (encR x)] [] (gU (jk x)))=ahl x:=by kernel_rfl
def agw (b:Bool):Prop :=
 (b=true->((0:Nat)=(0:Nat)/\(1:Nat)=List.length [if b=true then (1:Int) else (0:Int)])/\((1:Nat)=List.length [if b=true then (1:Int) else (0:Int)]/\Jl (1:Nat) (1:Nat) [AV.s (Value.int IntKind.u8 (1:Int))] (ah aJ [if b=true then (1:Int) else (0:Int)]))/\True)/\(b=false->((0:Nat)=(0:Nat)/\(1:Nat)=List.length [if b=true then (1:Int) else (0:Int)])/\((1:Nat)=List.length [if b=true then (1:Int) else (0:Int)]/\Jl (1:Nat) (1:Nat) [AV.s (Value.int IntKind.u8 (0:Int))] (ah aJ [if b=true then (1:Int) else (0:Int)]))/\True)
theorem WT (b:Bool):(bf Tryz.prog (hT _) 66 [.y (.bool b)] [] (gU (jg b)))=agw b:=by kernel_rfl
theorem sI (l r:List Int):aY l.length (ah aJ l) (fun k=>ah aJ r k)=ah aJ (l++r):=by
 funext k j
 unfold aY ah
 by_cases h:k<l.length
 · rw [if_pos h]
   simp [List.getElem?_append_left h]
 · rw [if_neg h]
   simp [List.getElem?_append_right (by omega:l.length<=k)]
theorem iq (t:List Int):(aQ t).length<=11+t.length:=by
 have:=dF (t.length:Int)
 simp [aQ];omega
theorem gV (s:ByteArray):(bD s).length=s.size:=by simp [bD]
theorem EJ (s:ByteArray):aj s.size 1 (fun (k x:Nat)=>AV.y (Value.int IntKind.u8 (↑(UInt8.toNat (List.getD s.data.toList k (0:UInt8))):Int))) (ah aJ (bD s)):=by
 intro k hk j hj
 obtain rfl:j=0:=by omega
 have hk2:k<s.data.toList.length:=by simpa using hk
 show qX (.y (.int .u8 ((s.data.toList.getD k 0).toNat:Int))) (.y (.int .u8 ((bD s).getD k default)))
 have:(bD s).getD k default=((s.data.toList.getD k 0).toNat:Int):=by
  unfold bD
  simp only [List.getD,List.getElem?_map]
  simp at hk2
  simp [hk2]
 rw [this]
 exact dn _
theorem ah_ (r:kF) (h1:r.lo.size<=1099511627776) (h2:r.hi.size<=1099511627776):(gU (fU r)).Sat (aB Tryz.prog 63 [.agg (mh r)] []):=by
 refine aP (ht:=rgH r) Tryz.mixed rfl ?_
 rw [Xy r]
 unfold ae7
 have a1:=iq (bD r.lo)
 have a2:=iq (bD r.hi)
 have b1:=gV r.lo
 have b2:=gV r.hi
 have c1:=EJ r.lo
 have c2:=EJ r.hi
 have e:(fU r).length=(aQ (bD r.lo)).length+(aQ (bD r.hi)).length:=by simp [fU]
 simp only [Nat.zero_add,sI]
 repeat' with_reducible apply And.intro
 all_goals first
  | with_reducible rfl
  | exact trivial
  | assumption
  | omega
  | (simp;omega)
  | exact aG _ _ _
structure RgOk (r:kF):Prop where
 lo:r.lo.size<=1099511627776
 hi:r.hi.size<=1099511627776
noncomputable def rgC (r:kF):eu Tryz.prog:=⟨63,[.agg (mh r)],[],.need (RgOk r) (gU (fU r)),T.Sat.need fun h=>ah_ r h.lo h.hi⟩
structure aae (x:Rec):Prop where
 o:eZ x.off
 p:eZ x.prod
 s:eZ x.seq
 k:x.key.size<=1099511627776
 v:x.val.length<=1099511627776
theorem aij (x:Rec) (h:aae x):(gU (jk x)).Sat (aB Tryz.prog 120 [.agg (encR x)] []):=by
 refine aP (ht:=rcH x) Tryz.mixed rfl ?_
 rw [WI x]
 unfold ahl
 obtain ⟨h1,h2,h3,h4,h5⟩:=h
 have a1:=iq (bD x.key)
 have a2:=iq x.val
 have a3:=dF x.off
 have a4:=dF x.prod
 have a5:=dF x.seq
 have b1:=gV x.key
 have c1:=EJ x.key
 have e:jk x=au x.off++aQ (bD x.key)++aQ x.val++au x.prod++au x.seq:=rfl
 rw [e]
 simp only [Nat.zero_add,<- List.length_append,sI]
 repeat' with_reducible apply And.intro
 all_goals first
  | with_reducible rfl
  | exact trivial
  | assumption
  | omega
  | (simp;done)
  | (simp;omega)
  | exact aG _ _ _
noncomputable def rcC (x:Rec):eu Tryz.prog:=⟨120,[.agg (encR x)],[],.need (aae x) (gU (jk x)),T.Sat.need fun h=>aij x h⟩
theorem ah6 (b:Bool):(gU (jg b)).Sat (aB Tryz.prog 66 [.y (.bool b)] []):=by
 refine aP (ht:=hT _) Tryz.mixed rfl ?_
 rw [WT b]
 unfold agw
 have key:∀ v:Int,Jl 1 1 [AV.s (Value.int IntKind.u8 v)] (ah aJ [v]):=by
  intro v k hk j hj
  obtain rfl:k=0:=by omega
  obtain rfl:j=0:=by omega
  exact ⟨by simp [ah,aJ],rfl⟩
 cases b<;>simp [key]
noncomputable def boC (b:Bool):eu Tryz.prog:=⟨66,[.y (.bool b)],[],gU (jg b),ah6 b⟩
def sO (l:List Rec) (k:Nat):List Int:=au (l.length:Int)++(l.take k).flatMap jk
def lsT (b:Bool) (l:List Rec) (k:Nat):List AV:=mkT 23 [(0,dK b l),(3,.own 0 1 0 (sO l k).length),(4,.y (.int .i64 k))]
def lsS (l:List Rec) (_:Unit):Exit×List AV×List ay:=(.exit 0,mkT 23 [(3,.own 0 1 0 (dY l).length)],[GY (dY l)])
noncomputable def aiD (l:List Rec) (k:Nat):aC Tryz.prog:=hh _ bO (cs1 65 5 5 (rcC (l.getD k default)) bM) bL
def ab0 (b:Bool) (l:List Rec) (k:{ k:Nat // k<=l.length }):Prop :=
 (decide ((k.val:Int)<(l.length:Int))=true->(true&&decide ((k.val:Int)<(l.length:Int)))=true/\(((l.getD (Int.toNat (k.val:Int)) default).off=(l.getD k.val default).off/\(l.getD (Int.toNat (k.val:Int)) default).key=(l.getD k.val default).key/\(true=true/\(l.getD (Int.toNat (k.val:Int)) default).val.length=(l.getD k.val default).val.length/\aj (l.getD (Int.toNat (k.val:Int)) default).val.length 1 (ah aJ (l.getD (Int.toNat (k.val:Int)) default).val) (ah aJ (l.getD k.val default).val))/\(l.getD (Int.toNat (k.val:Int)) default).prod=(l.getD k.val default).prod/\(l.getD (Int.toNat (k.val:Int)) default).seq=(l.getD k.val default).seq/\True)/\True)/\True/\aae (l.getD k.val default)/\(decide ((sO l k.val).length=(sO l k.val).length)&&decide ((sO l k.val).length+(jk (l.getD k.val default)).length<=9223372036854775807)&&decide (((sO l k.val).length+(jk (l.getD k.val default)).length)*1<=140737488355328))=true/\∃ (j:{ k:Nat // k<=l.length }),l.length - j.val<l.length - k.val/\(((b=b/\l.length=l.length/\aj l.length 5 (ah encR l) (ah encR l))/\(0=0/\(sO l k.val).length+(jk (l.getD k.val default)).length=(sO l j.val).length)/\IntKind.i64.wrap ((k.val:Int)+1)=(j.val:Int)/\True)/\(((sO l k.val).length+(jk (l.getD k.val default)).length=(sO l j.val).length/\aj ((sO l k.val).length+(jk (l.getD k.val default)).length) 1 (aY (sO l k.val).length (ah aJ (sO l k.val)) fun (k_1:Nat)=>ah aJ (jk (l.getD k.val default)) (0+k_1)) (ah aJ (sO l j.val)))/\True)/\true=true)/\true=true/\()=())/\(decide ((k.val:Int)<(l.length:Int))=false->((0=0/\(sO l k.val).length=(dY l).length)/\True)/\(((sO l k.val).length=(dY l).length/\aj (sO l k.val).length 1 (ah aJ (sO l k.val)) (ah aJ (dY l)))/\True)/\true=true)
theorem Qy (b:Bool) (l:List Rec) (k:{ k:Nat // k<=l.length }):(bR Tryz.prog (aiD l k.1) 65 3 (fun (k:{ k:Nat // k<=l.length })=>l.length - k.1) (fun k=>lsT b l k.1) (fun k=>[GY (sO l k.1)]) [0,1,2,3,4,5] (fun _=>.ret ()) (lsS l) k)=ab0 b l k:=by kernel_rfl
noncomputable def lsH (b:Bool) (l:List Rec):aC Tryz.prog:=hh _ (mU 65 3 (dM (fun (k:{ k:Nat // k<=l.length })=>lsT b l k.1) (fun k=>[GY (sO l k.1)]) [0,1,2,3,4,5] (fun _=>.ret ()) (lsS l) ⟨0,Nat.zero_le _⟩) bO) (cs1 65 1 3 (Ov (l.length:Int)) bM) bL
def agZ (b:Bool) (l:List Rec):Prop :=
 (IntKind.u64.wrap (l.length:Int)=(l.length:Int)/\True)/\True/\eZ (l.length:Int)/\(((b=b/\l.length=l.length/\aj l.length 5 (ah encR l) (ah encR l))/\(0=0/\(au (l.length:Int)).length=(sO l 0).length)/\(0:Int)=0/\True)/\(((au (l.length:Int)).length=(sO l 0).length/\aj (au (l.length:Int)).length 1 (ah aJ (au (l.length:Int))) (ah aJ (sO l 0)))/\True)/\true=true)/\aM Tryz.prog 65 3 (aN Tryz.prog 65 3) { t:=lsT b l (⟨0,lsH._proof_1 l⟩:{ k:Nat // k<=l.length }).val,m:=[GY (sO l (⟨0,lsH._proof_1 l⟩:{ k:Nat // k<=l.length }).val)],mv:=[]:St } (T.map (bJ [0,1,2,3,4,5] (lsS l)) ((fun (x:{ k:Nat // k<=l.length })=>T.ret ()) (⟨0,lsH._proof_1 l⟩:{ k:Nat // k<=l.length })))/\(0=0/\(dY l).length=(dY l).length)/\((dY l).length=(dY l).length/\aj (dY l).length 1 (ah aJ (dY l)) (ah aJ (dY l)))/\True
theorem XT (b:Bool) (l:List Rec):(bf Tryz.prog (lsH b l) 65 [dK b l] [] (gU (dY l)))=agZ b l:=by kernel_rfl
theorem Xr {α:Type} [Inhabited α] {l:List α} {k:Nat} (h:k<l.length):l.take (k+1)=l.take k++[l.getD k default]:=by
 rw [List.take_add_one,List.getElem?_eq_getElem h]
 simp [h]
theorem EF {α:Type} [Inhabited α] (f:α->List Int) {l:List α} {k:Nat} (h:k<l.length):(l.take (k+1)).flatMap f=(l.take k).flatMap f++f (l.getD k default):=by
 rw [Xr h,List.flatMap_append]
 simp
theorem RQ {α:Type} (f:α->List Int) (l:List α) (k:Nat):((l.take k).flatMap f).length<=(l.flatMap f).length:=by
 have h:l.flatMap f=(l.take k).flatMap f++(l.drop k).flatMap f:=by rw [<- List.flatMap_append,List.take_append_drop]
 rw [h,List.length_append]
 omega
structure Ue (l:List Rec):Prop where
 n:l.length<=1099511627776
 b:(dY l).length<=17592186044416
 r:∀ k,k<l.length->aae (l.getD k default)
theorem adr (l:List Rec) (k:Nat):(sO l k).length<=(dY l).length:=by
 have:=RQ jk l k
 simp only [sO,dY,List.length_append]
 omega
theorem Rn {l:List Rec} {k:Nat} (h:k<l.length):sO l (k+1)=sO l k++jk (l.getD k default):=by
 unfold sO
 rw [EF _ h,List.append_assoc]
theorem Zq (b:Bool) (l:List Rec) (h:Ue l) (k:{ k:Nat // k<=l.length }):aM Tryz.prog 65 3 (aN Tryz.prog 65 3) ⟨lsT b l k.1,[GY (sO l k.1)],[]⟩ (T.map (bJ [0,1,2,3,4,5] (lsS l)) (.ret ())):=by
 refine dL (o:=fun _=>.ret ()) (sS:=fun (k:{ k:Nat // k<=l.length })=>lsT b l k.1) (stM:=fun k=>[GY (sO l k.1)]) Tryz.mixed (fun _=>rfl) (fun k=>(Qy b l k).mpr ?_) k
 unfold ab0
 obtain ⟨k,hk⟩:=k
 have hn:=h.n
 by_cases hkl:k<l.length
 · have hr:=h.r k hkl
   have hex:∀ q:{ k:Nat // k<=l.length }->Prop,q ⟨k+1,hkl⟩->∃ j,q j:=fun q hq=>⟨_,hq⟩
   have hw:IntKind.i64.wrap ((k:Int)+1)=((k+1:Nat):Int):=by rw [wrap_i64 (by omega) (by omega)];omega
   have hs:=Rn hkl
   have hl:=adr l (k+1)
   have hb:=h.b
   rw [hs] at hl
   simp only [Int.toNat_natCast,Nat.zero_add,<- List.length_append,sI,<- hs] at *
   generalize l.getD k default=x at *
   refine ⟨fun _=>?_,fun h=>by simp at h;omega⟩
   repeat' with_reducible apply And.intro
   all_goals first
    | with_reducible rfl
    | exact trivial
    | assumption
    | omega
    | exact aG _ _ _
    | (simp;done)
    | (simp;omega)
    | (refine hex _ ?_;simp [hw];omega)
 · obtain rfl:k=l.length:=by omega
   refine ⟨fun h=>by simp at h,fun _=>?_⟩
   have e:sO l l.length=dY l:=by unfold sO dY;rw [List.take_length]
   simp [e]
theorem aiZ (b:Bool) (l:List Rec) (h:Ue l):(gU (dY l)).Sat (aB Tryz.prog 65 [dK b l] []):=by
 refine aP (ht:=lsH b l) Tryz.mixed rfl ?_
 rw [XT b l]
 unfold agZ
 have lp:=Zq b l h ⟨0,Nat.zero_le _⟩
 have hn:=h.n
 have hw:IntKind.u64.wrap (l.length:Int)=(l.length:Int):=wrap_u64 (by omega) (by omega)
 have hu:eZ (l.length:Int):=⟨by omega,by omega⟩
 have e:sO l 0=au (l.length:Int):=by simp [sO]
 refine ⟨⟨hw,trivial⟩,trivial,hu,?_,lp,⟨rfl,rfl⟩,⟨rfl,aG _ _ _⟩,trivial⟩
 simp [e]
noncomputable def lsC (b:Bool) (l:List Rec):eu Tryz.prog:=⟨65,[dK b l],[],.need (Ue l) (gU (dY l)),T.Sat.need fun h=>aiZ b l h⟩
def PW (b:Bool) (p:Part) (l:List Int):List ay:=[.box 30 (aX b p),GY l]
def b1T (p:Part) (k:Nat):List AV:=mkT 97 [(1,.ptr 0 0 0 0),(3,.own 1 1 0 (iL p k).length),(4,.y (.int .i64 k))]
def b1S (b:Bool) (p:Part) (_:Unit):Exit×List AV×List ay:=(.exit 0,mkT 97 [(1,.ptr 0 0 0 0),(3,.own 1 1 0 (iL p p.prods.length).length)],PW b p (iL p p.prods.length))
noncomputable def b1H (p:Part) (k:Nat):aC Tryz.prog:=hh _ bO (cs1 17 9 3 (Ov (p.prods.getD k default).id) (cs1 17 10 3 (Ov (p.prods.getD k default).seq) (cs1 17 11 3 (boC (p.prods.getD k default).here) (cs1 17 12 3 (Ov (p.prods.getD k default).offset) bM)))) bL
def bX:List Nat:=[0,1,2,3,4,5,6,7,8,9,10,11,12]
def afC (b:Bool) (p:Part) (k:{ k:Nat // k<=p.prods.length }):Prop :=
 (decide ((↑k.val:Int)<(↑(List.length p.prods):Int))=true->(true&&decide ((↑k.val:Int)<(↑(List.length p.prods):Int)))=true/\((List.getD p.prods (Int.toNat (↑k.val:Int)) (@default P.Producer P.instInhabitedProducer)).id=(List.getD p.prods k.val (@default P.Producer P.instInhabitedProducer)).id/\True)/\True/\eZ (List.getD p.prods k.val (@default P.Producer P.instInhabitedProducer)).id/\(decide (List.length (iL p k.val)=List.length (iL p k.val))&&decide (List.length (iL p k.val)+List.length (au (List.getD p.prods k.val (@default P.Producer P.instInhabitedProducer)).id)<=(9223372036854775807:Nat))&&decide ((List.length (iL p k.val)+List.length (au (List.getD p.prods k.val (@default P.Producer P.instInhabitedProducer)).id))*(1:Nat)<=(140737488355328:Nat)))=true/\((List.getD p.prods (Int.toNat (↑k.val:Int)) (@default P.Producer P.instInhabitedProducer)).seq=(List.getD p.prods k.val (@default P.Producer P.instInhabitedProducer)).seq/\True)/\True/\eZ (List.getD p.prods k.val (@default P.Producer P.instInhabitedProducer)).seq/\(decide (List.length (iL p k.val)+List.length (au (List.getD p.prods k.val (@default P.Producer P.instInhabitedProducer)).id)=List.length (iL p k.val)+List.length (au (List.getD p.prods k.val (@default P.Producer P.instInhabitedProducer)).id))&&decide (List.length (iL p k.val)+List.length (au (List.getD p.prods k.val (@default P.Producer P.instInhabitedProducer)).id)+List.length (au (List.getD p.prods k.val (@default P.Producer P.instInhabitedProducer)).seq)<=(9223372036854775807:Nat))&&decide ((List.length (iL p k.val)+List.length (au (List.getD p.prods k.val (@default P.Producer P.instInhabitedProducer)).id)+List.length (au (List.getD p.prods k.val (@default P.Producer P.instInhabitedProducer)).seq))*(1:Nat)<=(140737488355328:Nat)))=true/\((List.getD p.prods (Int.toNat (↑k.val:Int)) (@default P.Producer P.instInhabitedProducer)).here=(List.getD p.prods k.val (@default P.Producer P.instInhabitedProducer)).here/\True)/\True/\(decide (List.length (iL p k.val)+List.length (au (List.getD p.prods k.val (@default P.Producer P.instInhabitedProducer)).id)+List.length (au (List.getD p.prods k.val (@default P.Producer P.instInhabitedProducer)).seq)=List.length (iL p k.val)+List.length (au (List.getD p.prods k.val (@default P.Producer P.instInhabitedProducer)).id)+List.length (au (List.getD p.prods k.val (@default P.Producer P.instInhabitedProducer)).seq))&&decide (List.length (iL p k.val)+List.length (au (List.getD p.prods k.val (@default P.Producer P.instInhabitedProducer)).id)+List.length (au (List.getD p.prods k.val (@default P.Producer P.instInhabitedProducer)).seq)+List.length [if (List.getD p.prods k.val (@default P.Producer P.instInhabitedProducer)).here=true then (1:Int) else (0:Int)]<=(9223372036854775807:Nat))&&decide ((List.length (iL p k.val)+List.length (au (List.getD p.prods k.val (@default P.Producer P.instInhabitedProducer)).id)+List.length (au (List.getD p.prods k.val (@default P.Producer P.instInhabitedProducer)).seq)+List.length [if (List.getD p.prods k.val (@default P.Producer P.instInhabitedProducer)).here=true then (1:Int) else (0:Int)])*(1:Nat)<=(140737488355328:Nat)))=true/\((List.getD p.prods (Int.toNat (↑k.val:Int)) (@default P.Producer P.instInhabitedProducer)).offset=(List.getD p.prods k.val (@default P.Producer P.instInhabitedProducer)).offset/\True)/\True/\eZ (List.getD p.prods k.val (@default P.Producer P.instInhabitedProducer)).offset/\(decide (List.length (iL p k.val)+List.length (au (List.getD p.prods k.val (@default P.Producer P.instInhabitedProducer)).id)+List.length (au (List.getD p.prods k.val (@default P.Producer P.instInhabitedProducer)).seq)+List.length [if (List.getD p.prods k.val (@default P.Producer P.instInhabitedProducer)).here=true then (1:Int) else (0:Int)]=List.length (iL p k.val)+List.length (au (List.getD p.prods k.val (@default P.Producer P.instInhabitedProducer)).id)+List.length (au (List.getD p.prods k.val (@default P.Producer P.instInhabitedProducer)).seq)+List.length [if (List.getD p.prods k.val (@default P.Producer P.instInhabitedProducer)).here=true then (1:Int) else (0:Int)])&&decide (List.length (iL p k.val)+List.length (au (List.getD p.prods k.val (@default P.Producer P.instInhabitedProducer)).id)+List.length (au (List.getD p.prods k.val (@default P.Producer P.instInhabitedProducer)).seq)+List.length [if (List.getD p.prods k.val (@default P.Producer P.instInhabitedProducer)).here=true then (1:Int) else (0:Int)]+List.length (au (List.getD p.prods k.val (@default P.Producer P.instInhabitedProducer)).offset)<=(9223372036854775807:Nat))&&decide ((List.length (iL p k.val)+List.length (au (List.getD p.prods k.val (@default P.Producer P.instInhabitedProducer)).id)+List.length (au (List.getD p.prods k.val (@default P.Producer P.instInhabitedProducer)).seq)+List.length [if (List.getD p.prods k.val (@default P.Producer P.instInhabitedProducer)).here=true then (1:Int) else (0:Int)]+List.length (au (List.getD p.prods k.val (@default P.Producer P.instInhabitedProducer)).offset))*(1:Nat)<=(140737488355328:Nat)))=true/\∃ (j:{ k:Nat // k<=List.length p.prods }),List.length p.prods - j.val<List.length p.prods - k.val/\((((0:Nat)=(0:Nat)/\(0:Nat)=(0:Nat))/\((0:Nat)=(0:Nat)/\List.length (iL p k.val)+List.length (au (List.getD p.prods k.val (@default P.Producer P.instInhabitedProducer)).id)+List.length (au (List.getD p.prods k.val (@default P.Producer P.instInhabitedProducer)).seq)+List.length [if (List.getD p.prods k.val (@default P.Producer P.instInhabitedProducer)).here=true then (1:Int) else (0:Int)]+List.length (au (List.getD p.prods k.val (@default P.Producer P.instInhabitedProducer)).offset)=List.length (iL p j.val))/\IntKind.wrap IntKind.i64 ((↑k.val:Int)+(1:Int))=(↑j.val:Int)/\True)/\((bP b b p p)/\(List.length (iL p k.val)+List.length (au (List.getD p.prods k.val (@default P.Producer P.instInhabitedProducer)).id)+List.length (au (List.getD p.prods k.val (@default P.Producer P.instInhabitedProducer)).seq)+List.length [if (List.getD p.prods k.val (@default P.Producer P.instInhabitedProducer)).here=true then (1:Int) else (0:Int)]+List.length (au (List.getD p.prods k.val (@default P.Producer P.instInhabitedProducer)).offset)=List.length (iL p j.val)/\aj (List.length (iL p k.val)+List.length (au (List.getD p.prods k.val (@default P.Producer P.instInhabitedProducer)).id)+List.length (au (List.getD p.prods k.val (@default P.Producer P.instInhabitedProducer)).seq)+List.length [if (List.getD p.prods k.val (@default P.Producer P.instInhabitedProducer)).here=true then (1:Int) else (0:Int)]+List.length (au (List.getD p.prods k.val (@default P.Producer P.instInhabitedProducer)).offset)) (1:Nat) (aY (List.length (iL p k.val)+List.length (au (List.getD p.prods k.val (@default P.Producer P.instInhabitedProducer)).id)+List.length (au (List.getD p.prods k.val (@default P.Producer P.instInhabitedProducer)).seq)+List.length [if (List.getD p.prods k.val (@default P.Producer P.instInhabitedProducer)).here=true then (1:Int) else (0:Int)]) (aY (List.length (iL p k.val)+List.length (au (List.getD p.prods k.val (@default P.Producer P.instInhabitedProducer)).id)+List.length (au (List.getD p.prods k.val (@default P.Producer P.instInhabitedProducer)).seq)) (aY (List.length (iL p k.val)+List.length (au (List.getD p.prods k.val (@default P.Producer P.instInhabitedProducer)).id)) (aY (List.length (iL p k.val)) (ah aJ (iL p k.val)) fun (k_1:Nat)=>ah aJ (au (List.getD p.prods k.val (@default P.Producer P.instInhabitedProducer)).id) ((0:Nat)+k_1)) fun (k_1:Nat)=>ah aJ (au (List.getD p.prods k.val (@default P.Producer P.instInhabitedProducer)).seq) ((0:Nat)+k_1)) fun (k_1:Nat)=>ah aJ [if (List.getD p.prods k.val (@default P.Producer P.instInhabitedProducer)).here=true then (1:Int) else (0:Int)] ((0:Nat)+k_1)) fun (k_1:Nat)=>ah aJ (au (List.getD p.prods k.val (@default P.Producer P.instInhabitedProducer)).offset) ((0:Nat)+k_1)) (ah aJ (iL p j.val)))/\True)/\true=true)/\true=true/\()=())/\(decide ((↑k.val:Int)<(↑(List.length p.prods):Int))=false->(((0:Nat)=(0:Nat)/\(0:Nat)=(0:Nat))/\((0:Nat)=(0:Nat)/\List.length (iL p k.val)=List.length (iL p (List.length p.prods)))/\True)/\((bP b b p p)/\(List.length (iL p k.val)=List.length (iL p (List.length p.prods))/\aj (List.length (iL p k.val)) (1:Nat) (ah aJ (iL p k.val)) (ah aJ (iL p (List.length p.prods))))/\True)/\true=true)
theorem Yr (b:Bool) (p:Part) (k:{ k:Nat // k<=p.prods.length }):(bR Tryz.prog (b1H p k.1) 17 6 (fun (k:{ k:Nat // k<=p.prods.length })=>p.prods.length - k.1) (fun k=>b1T p k.1) (fun k=>PW b p (iL p k.1)) bX (fun _=>.ret ()) (b1S b p) k)=afC b p k:=by kernel_rfl
def b2T (p:Part) (k:Nat):List AV:=mkT 97 [(1,.ptr 0 0 0 0),(3,.own 1 1 0 (mR p k).length),(6,.y (.int .i64 k))]
def b2S (b:Bool) (p:Part) (_:Unit):Exit×List AV×List ay:=(.exit 2,mkT 97 [(3,.own 1 1 0 (dA p).length)],PW b p (dA p))
noncomputable def b2H (p:Part) (k:Nat):aC Tryz.prog:=hh _ bO (cs1 17 17 8 (txC true (bD (p.cons.getD k default).name)) (cs1 17 18 7 (Ov (p.cons.getD k default).off) bM)) bL
def aeK (b:Bool) (p:Part) (k:{ k:Nat // k<=p.cons.length }):Prop :=
 (decide ((k.val:Int)<(p.cons.length:Int))=true->(true&&decide ((k.val:Int)<(p.cons.length:Int)))=true/\((true=true/\ByteArray.size (p.cons.getD (Int.toNat (k.val:Int)) default).name=(bD (p.cons.getD k.val default).name).length/\aj (ByteArray.size (p.cons.getD (Int.toNat (k.val:Int)) default).name) 1 (fun (k_1 x:Nat)=>AV.y (.int .u8 ((UInt8.toNat ((p.cons.getD (Int.toNat (k.val:Int)) default).name.data.toList.getD k_1 (0:UInt8))):Int))) (ah aJ (bD (p.cons.getD k.val default).name)))/\True)/\True/\(bD (p.cons.getD k.val default).name).length<=1099511627776/\(decide ((mR p k.val).length=(mR p k.val).length)&&decide ((mR p k.val).length+(aQ (bD (p.cons.getD k.val default).name)).length<=9223372036854775807)&&decide (((mR p k.val).length+(aQ (bD (p.cons.getD k.val default).name)).length)*1<=140737488355328))=true/\(true&&decide ((k.val:Int)<(p.cons.length:Int)))=true/\((p.cons.getD (Int.toNat (k.val:Int)) default).off=(p.cons.getD k.val default).off/\True)/\True/\eZ (p.cons.getD k.val default).off/\(decide ((mR p k.val).length+(aQ (bD (p.cons.getD k.val default).name)).length=(mR p k.val).length+(aQ (bD (p.cons.getD k.val default).name)).length)&&decide ((mR p k.val).length+(aQ (bD (p.cons.getD k.val default).name)).length+(au (p.cons.getD k.val default).off).length<=9223372036854775807)&&decide (((mR p k.val).length+(aQ (bD (p.cons.getD k.val default).name)).length+(au (p.cons.getD k.val default).off).length)*1<=140737488355328))=true/\∃ (j:{ k:Nat // k<=p.cons.length }),p.cons.length - j.val<p.cons.length - k.val/\(((0=0/\0=0)/\(0=0/\(mR p k.val).length+(aQ (bD (p.cons.getD k.val default).name)).length+(au (p.cons.getD k.val default).off).length=(mR p j.val).length)/\IntKind.i64.wrap ((k.val:Int)+1)=(j.val:Int)/\True)/\((bP b b p p)/\((mR p k.val).length+(aQ (bD (p.cons.getD k.val default).name)).length+(au (p.cons.getD k.val default).off).length=(mR p j.val).length/\aj ((mR p k.val).length+(aQ (bD (p.cons.getD k.val default).name)).length+(au (p.cons.getD k.val default).off).length) 1 (aY ((mR p k.val).length+(aQ (bD (p.cons.getD k.val default).name)).length) (aY (mR p k.val).length (ah aJ (mR p k.val)) fun (k_1:Nat)=>ah aJ (aQ (bD (p.cons.getD k.val default).name)) (0+k_1)) fun (k_1:Nat)=>ah aJ (au (p.cons.getD k.val default).off) (0+k_1)) (ah aJ (mR p j.val)))/\True)/\true=true)/\true=true/\()=())/\(decide ((k.val:Int)<(p.cons.length:Int))=false->((0=0/\(mR p k.val).length=(dA p).length)/\True)/\((bP b b p p)/\((mR p k.val).length=(dA p).length/\aj (mR p k.val).length 1 (ah aJ (mR p k.val)) (ah aJ (dA p)))/\True)/\true=true)
theorem Xk (b:Bool) (p:Part) (k:{ k:Nat // k<=p.cons.length }):(bR Tryz.prog (b2H p k.1) 17 15 (fun (k:{ k:Nat // k<=p.cons.length })=>p.cons.length - k.1) (fun k=>b2T p k.1) (fun k=>PW b p (mR p k.1)) bX (fun _=>.ret ()) (b2S b p) k)=aeK b p k:=by kernel_rfl
noncomputable def byH (b:Bool) (p:Part):aC Tryz.prog:=hh _ (mU 17 6 (dM (fun (k:{ k:Nat // k<=p.prods.length })=>b1T p k.1) (fun k=>PW b p (iL p k.1)) bX (fun _=>.ret ()) (b1S b p) ⟨0,Nat.zero_le _⟩) (mU 17 15 (dM (fun (k:{ k:Nat // k<=p.cons.length })=>b2T p k.1) (fun k=>PW b p (mR p k.1)) bX (fun _=>.ret ()) (b2S b p) ⟨0,Nat.zero_le _⟩) bO))
 (cs1 17 1 2 (rgC p.rng) (cs1 17 1 5 (Ov p.epoch) (cs1 17 2 3 (Ov p.frozen) (cs1 17 3 3 (lsC b p.recs) (cs1 17 4 5 (Ov (p.prods.length:Int)) (cs1 17 13 5 (Ov (p.cons.length:Int)) bM)))))) bL
structure FV (p:Part):Prop where
 rg:RgOk p.rng
 ep:eZ p.epoch
 fr:eZ p.frozen
 ls:Ue p.recs
 pn:p.prods.length<=1099511627776
 cn:p.cons.length<=1099511627776
 n:(dA p).length<=70368744177664
 pr:∀ k,k<p.prods.length->eZ (p.prods.getD k default).id/\eZ (p.prods.getD k default).seq/\eZ (p.prods.getD k default).offset
 co:∀ k,k<p.cons.length->(p.cons.getD k default).name.size<=1099511627776/\eZ (p.cons.getD k default).off
theorem JN (p:Part) (k:Nat):(iL p k).length<=(dA p).length:=by
 have:=RQ jG p.prods k
 simp only [dA,mR,iL,List.length_append,List.take_length]
 omega
theorem UN (p:Part) (k:Nat):(mR p k).length<=(dA p).length:=by
 have:=RQ pU p.cons k
 simp only [dA,mR,List.length_append,List.take_length]
 omega
theorem Uj {p:Part} {k:Nat} (h:k<p.prods.length):iL p (k+1)=iL p k++au (p.prods.getD k default).id++au (p.prods.getD k default).seq++jg (p.prods.getD k default).here++au (p.prods.getD k default).offset:=by
 unfold iL
 rw [EF _ h]
 simp only [jG,List.append_assoc]
theorem Vo {p:Part} {k:Nat} (h:k<p.cons.length):mR p (k+1)=mR p k++aQ (bD (p.cons.getD k default).name)++au (p.cons.getD k default).off:=by
 unfold mR
 rw [EF _ h]
 simp only [pU,List.append_assoc]
attribute [local irreducible] iL mR dA fU dY au aQ bD jg PO
theorem adx (b:Bool):jg b=[if b=true then 1 else 0]:=by unfold jg;rfl
theorem aas (b:Bool) (p:Part) (h:FV p) (k:{ k:Nat // k<=p.prods.length }):aM Tryz.prog 17 6 (aN Tryz.prog 17 6) ⟨b1T p k.1,PW b p (iL p k.1),[]⟩ (T.map (bJ bX (b1S b p)) (.ret ())):=by
 refine dL (o:=fun _=>.ret ()) (sS:=fun (k:{ k:Nat // k<=p.prods.length })=>b1T p k.1) (stM:=fun k=>PW b p (iL p k.1)) Tryz.mixed (fun _=>rfl) (fun k=>(Yr b p k).mpr ?_) k
 unfold afC
 obtain ⟨k,hk⟩:=k
 have hn:=h.n
 have hpn:=h.pn
 by_cases hkl:k<p.prods.length
 · obtain ⟨r1,r2,r3⟩:=h.pr k hkl
   have hex:∀ q:{ k:Nat // k<=p.prods.length }->Prop,q ⟨k+1,hkl⟩->∃ j,q j:=fun q hq=>⟨_,hq⟩
   have hw:IntKind.i64.wrap ((k:Int)+1)=((k+1:Nat):Int):=by rw [wrap_i64 (by omega) (by omega)];omega
   have hs:=Uj hkl
   have hl:=JN p k
   simp only [Int.toNat_natCast,Nat.zero_add,<- List.length_append,sI] at *
   generalize p.prods.getD k default=x at *
   have l1:=dF x.id
   have l2:=dF x.seq
   have l3:=dF x.offset
   have l4:=adx x.here
   rw [l4] at hs
   clear l4
   have hs':(iL p (k+1)).length=(iL p k).length+(au x.id).length+(au x.seq).length+1+(au x.offset).length:=by rw [hs];simp;omega
   refine ⟨fun _=>?_,fun h=>by simp at h;omega⟩
   repeat' with_reducible apply And.intro
   all_goals first
    | with_reducible rfl
    | exact trivial
    | assumption
    | omega
    | exact aG _ _ _
    | (simp;done)
    | (simp;omega)
    | (refine hex _ ?_
       rw [<- hs]
       simp [hw]
       omega)
 · obtain rfl:k=p.prods.length:=by omega
   refine ⟨fun h=>by simp at h,fun _=>?_⟩
   simp
theorem aai (b:Bool) (p:Part) (h:FV p) (k:{ k:Nat // k<=p.cons.length }):aM Tryz.prog 17 15 (aN Tryz.prog 17 15) ⟨b2T p k.1,PW b p (mR p k.1),[]⟩ (T.map (bJ bX (b2S b p)) (.ret ())):=by
 refine dL (o:=fun _=>.ret ()) (sS:=fun (k:{ k:Nat // k<=p.cons.length })=>b2T p k.1) (stM:=fun k=>PW b p (mR p k.1)) Tryz.mixed (fun _=>rfl) (fun k=>(Xk b p k).mpr ?_) k
 unfold aeK
 obtain ⟨k,hk⟩:=k
 have hn:=h.n
 have hcn:=h.cn
 by_cases hkl:k<p.cons.length
 · obtain ⟨r1,r2⟩:=h.co k hkl
   have hex:∀ q:{ k:Nat // k<=p.cons.length }->Prop,q ⟨k+1,hkl⟩->∃ j,q j:=fun q hq=>⟨_,hq⟩
   have hw:IntKind.i64.wrap ((k:Int)+1)=((k+1:Nat):Int):=by rw [wrap_i64 (by omega) (by omega)];omega
   have hs:=Vo hkl
   have hl:=UN p k
   simp only [Int.toNat_natCast,Nat.zero_add,<- List.length_append,sI] at *
   generalize p.cons.getD k default=x at *
   have l1:=dF x.off
   have l2:=iq (bD x.name)
   have l3:=gV x.name
   have c1:=EJ x.name
   have hs':(mR p (k+1)).length=(mR p k).length+(aQ (bD x.name)).length+(au x.off).length:=by rw [hs];simp;omega
   refine ⟨fun _=>?_,fun h=>by simp at h;omega⟩
   repeat' with_reducible apply And.intro
   all_goals first
    | with_reducible rfl
    | exact trivial
    | assumption
    | omega
    | exact aG _ _ _
    | (simp;done)
    | (simp;omega)
    | (refine hex _ ?_
       rw [<- hs]
       simp [hw]
       omega)
 · obtain rfl:k=p.cons.length:=by omega
   refine ⟨fun h=>by simp at h,fun _=>?_⟩
   simp [dA]
end Q
namespace D
theorem zQ {α:Type} {P:List α->Prop} (h0:P []) (h1:∀ l x,P l->P (l++[x])) (l:List α):P l:=by
 rw [<- List.reverse_reverse l]
 induction l.reverse with
 | nil=>exact h0
 | cons x r ih=>rw [List.reverse_cons];exact h1 _ _ ih
theorem kW (s:Kn) (a b x:Int):Kn.sel (Kn.put s a b) x=if a=x then b else Kn.sel s x:=by
 unfold Kn.sel Kn.put jN yQ BL
 by_cases h:a=x
 · simp [h]
 · simp [h]
theorem MU (l:List Rec) (x:Rec):kN (l++[x])=(kN l).put x.prod x.seq:=by simp [kN]
theorem MQ (l:List Rec) (a:Int):(Kn.sel (kN l) a=0/\∀ x∈l,x.prod≠a)∨∃ x∈l,x.prod=a/\Kn.sel (kN l) a=x.seq:=by
 refine zQ (P:=fun l=>(Kn.sel (kN l) a=0/\∀ x∈l,x.prod≠a)∨∃ x∈l,x.prod=a/\Kn.sel (kN l) a=x.seq) ?_ ?_ l
 · exact .inl ⟨rfl,fun x hx=>by cases hx⟩
 · intro l x ih
   rw [MU,kW]
   by_cases h:x.prod=a
   · rw [if_pos h];exact .inr ⟨x,by simp,h,rfl⟩
   · rw [if_neg h]
     rcases ih with ⟨h1,h2⟩ | ⟨y,h1,h2,h3⟩
     · refine .inl ⟨h1,fun y hy=>?_⟩
       rcases List.mem_append.1 hy with hy | hy
       · exact h2 y hy
       · simp at hy;subst hy;exact h
     · exact .inr ⟨y,by simp [h1],h2,h3⟩
def up1 (x y:Rec):Prop:=x.prod=y.prod->x.seq<y.seq
def agj (g:kF) (K:Kn) (x:Rec):Prop:=fZ g x.key=true/\0<x.seq/\x.seq<=Kn.sel K x.prod
def AO (g:kF) (K:Kn) (l:List Rec):Prop:=(∀ x∈l,agj g K x)/\l.Pairwise up1
theorem Ll (p:Part):∀ n k,p.recs.length - k=n->(bI p k=true↔∀ j,k<=j->j<p.recs.length->okO p j=true):=by
 intro n
 induction n with
 | zero =>
   intro k hk
   rw [uK (by omega)]
   exact ⟨fun _ j h1 h2=>by omega,fun _=>rfl⟩
 | succ n ih =>
   intro k hk
   rw [qc (by omega),Bool.and_eq_true,ih (k+1) (by omega)]
   constructor
   · rintro ⟨h1,h2⟩ j h3 h4
     rcases Nat.eq_or_lt_of_le h3 with rfl | h5
     · exact h1
     · exact h2 j h5 h4
   · intro h
     exact ⟨h k (Nat.le_refl _) (by omega),fun j h1 h2=>h j (by omega) h2⟩
theorem LK {p:Part} {k:Nat} (h:k<p.recs.length):okO p k=true↔fZ p.rng p.recs[k].key=true/\Kn.sel (kN (p.recs.take k)) p.recs[k].prod<p.recs[k].seq/\p.recs[k].seq<=Kn.sel (ji p.prods) p.recs[k].prod:=by
 unfold okO
 simp [List.getElem?_eq_getElem h]
theorem adR {g:kF} {K:Kn}:∀ {l:List Rec},AO g K l->∀ x∈l,x.seq<=Kn.sel (kN l) x.prod:=by
 intro l
 refine zQ (P:=fun l=>AO g K l->∀ x∈l,x.seq<=Kn.sel (kN l) x.prod) ?_ ?_ l
 · intro _ x hx;cases hx
 · intro l y ih h x hx
   rw [MU,kW]
   have h2:AO g K l:=⟨fun z hz=>h.1 z (by simp [hz]),(List.pairwise_append.1 h.2).1⟩
   have h3:=(List.pairwise_append.1 h.2).2.2
   rcases List.mem_append.1 hx with hx | hx
   · by_cases e:y.prod=x.prod
     · rw [if_pos e]
       have:=h3 x hx y (by simp) e.symm
       omega
     · rw [if_neg e];exact ih h2 x hx
   · simp at hx;subst hx;rw [if_pos rfl];exact Int.le_refl _
theorem UF {p:Part} (h:∀ j,j<p.recs.length->okO p j=true):∀ k,k<=p.recs.length->AO p.rng (ji p.prods) (p.recs.take k):=by
 intro k
 induction k with
 | zero=>intro _;exact ⟨fun x hx=>by simp at hx,by simp⟩
 | succ k ih =>
   intro hk
   have ih:=ih (by omega)
   obtain ⟨o1,o2,o3⟩:=(LK (by omega)).1 (h k (by omega))
   rw [List.take_add_one,List.getElem?_eq_getElem (by omega)]
   have hs:∀ x∈p.recs.take k,x.prod=p.recs[k].prod->x.seq<p.recs[k].seq:=fun x hx e=>by
    have:=adR ih x hx
    rw [e] at this
    omega
   have h0:0<p.recs[k].seq:=by
    rcases MQ (p.recs.take k) p.recs[k].prod with ⟨q,_⟩ | ⟨x,hx,hx2,q⟩
    · omega
    · have:=(ih.1 x hx).2.1
      omega
   refine ⟨fun x hx=>?_,?_⟩
   · rcases List.mem_append.1 hx with hx | hx
     · exact ih.1 x hx
     · simp at hx;subst hx;exact ⟨o1,h0,o3⟩
   · refine List.pairwise_append.2 ⟨ih.2,by simp,fun x hx y hy=>?_⟩
     simp at hy;subst hy
     exact hs x hx
theorem Uk (p:Part):bI p 0=true↔AO p.rng (ji p.prods) p.recs:=by
 rw [Ll p _ 0 rfl]
 constructor
 · intro h
   have:=UF (fun j hj=>h j (Nat.zero_le _) hj) p.recs.length (Nat.le_refl _)
   rwa [List.take_length] at this
 · intro h j _ hj
   have hx:=h.1 p.recs[j] (List.getElem_mem hj)
   refine (LK hj).2 ⟨hx.1,?_,hx.2.2⟩
   rcases MQ (p.recs.take j) p.recs[j].prod with ⟨q,_⟩ | ⟨x,h1,h2,q⟩
   · have:=hx.2.1;omega
   · rw [q]
     have hp:=h.2
     rw [<- List.take_append_drop j p.recs] at hp
     refine (List.pairwise_append.1 hp).2.2 x h1 _ ?_ h2
     rw [List.mem_iff_getElem]
     exact ⟨0,by simp;omega,by simp⟩
theorem ql (l:List Rec):aU l 0=true↔∀ k,k<l.length->QT (l.getD k default) k=true:=by
 unfold aU
 rw [List.all_eq_true]
 constructor
 · intro h k hk;exact h k (by simp;omega)
 · intro h k hk
   simp at hk
   exact h k (by omega)
theorem X8 {l:List Rec} (h:bG l=true):∀ x∈l,x.key.size<=32/\x.val.length<=256:=by
 intro x hx
 obtain ⟨k,hk,rfl⟩:=List.mem_iff_getElem.1 hx
 simp only [bG,Bool.and_eq_true] at h
 have:=(ql l).1 h.1 k hk
 simp [QT,hk] at this
 exact ⟨by omega,by omega⟩
theorem MR (l:List Con) (to:List Int) (h:to.length≠0):(U1 l to l.length).length=l.length:=by
 simp [U1,h]
theorem Ql {l:List Con} {to:List Int} (h:to.length≠0) {k:Nat} (hk:k<l.length):(U1 l to l.length).getD k default=ag1 to (l.getD k default):=by
 simp [U1,h,hk]
theorem uR (l:List Con):bQ l 0=true↔∀ k,k<l.length->yP l k=true:=by
 unfold bQ
 rw [List.all_eq_true]
 constructor
 · intro h k hk;exact h k (by simp;omega)
 · intro h k hk
   simp at hk
   exact h k (by omega)
theorem map_cons {l:List Con} {to:List Int} (ht:to.length≠0) (h:bY l=true):bY (U1 l to l.length)=true:=by
 simp only [bY,Bool.and_eq_true,decide_eq_true_eq] at h ⊢
 rw [MR l to ht]
 refine ⟨(uR _).2 fun k hk=>?_,h.2⟩
 rw [MR l to ht] at hk
 have h1:=(uR _).1 h.1 k hk
 unfold yP at *
 rw [Ql ht hk]
 by_cases h0:0<k
 · rw [Ql ht (show k - 1<l.length by omega)]
   exact h1
 · simp only [h0,decide_false,Bool.false_and] at h1 ⊢
   exact h1
theorem wB {p:Part} {x:P.Producer}:cu p x=false↔(x.here=true->x.offset<p.recs.length/\(p.recs.getD x.offset.toNat default).prod=x.id/\(p.recs.getD x.offset.toNat default).seq=x.seq):=by
 unfold cu
 generalize p.recs.getD x.offset.toNat default=y
 cases hh:x.here
 · simp
 · simp only [Bool.true_and,Bool.or_eq_false_iff,decide_eq_false_iff_not,bne_eq_false_iff_eq,forall_const]
   constructor
   · rintro ⟨a,b,c⟩;exact ⟨by omega,b,c⟩
   · rintro ⟨a,b,c⟩;exact ⟨by omega,b,c⟩
theorem GU {p:Part}:p.prods.any (cu p)=false↔∀ x∈p.prods,cu p x=false:=by
 rw [List.any_eq_false]
 constructor
 · intro h x hx;simpa using h x hx
 · intro h x hx;simp [h x hx]
def BQ (p:Part) (f:Int):Part:=⟨p.rng,p.epoch,f,p.recs,p.prods,p.cons⟩
theorem K7 (a:List P.Producer):P.kR a a=true:=by
 unfold P.kR P.dR
 simp [P.eqP]
end D
namespace Q
open H D
structure wo (p:Part):Prop where
 rl:p.recs.length<=4611686018427387903
 pl:p.prods.length<=4611686018427387903
 cl:p.cons.length<=4611686018427387903
end Q
namespace V
def zT (l:List Rec) (x:Rec):Int:=if bG l=false then 1 else if 32<x.key.size then 131 else if 256<x.val.length then 144 else if l.length=4096 then 143 else 0
def rY (l:List Rec) (x:Rec):List Rec:=if zT l x=0 then l++[x.to (IntKind.u64.wrap l.length)] else []
def wT (l:List Rec) (x:Rec):Int:=if zT l x=0 then IntKind.u64.wrap l.length else 0
def vrT (l:List Rec) (x:Rec):T An:=.ret (.tup [.own 0 5 0 (rY l x).length,.y (.int .u64 (wT l x)),.y (.int .i64 (zT l x))],[OE (rY l x)],[])
noncomputable def vrH (b:Bool) (l:List Rec) (x:Rec):aC Tryz.prog:=dO (hh _ bO (cs1 121 1 1 (lrC b l) (cs1 121 11 4 (atC x l.length) bM))
 (op1 121 3 0 (.row 54 5) (op1 121 5 0 (.row 54 5) (op1 121 7 0 (.row 54 5) (op1 121 9 0 (.row 54 5) bL))))) noSh
def afE (b:Bool) (l:List Rec) (x:Rec):Prop :=
 ((b=b/\l.length=l.length/\aj l.length 5 (ah encR l) (ah encR l))/\True)/\True/\l.length<=9223372036854775806/\((!bG l)=true->((0=0/\0=(rY l x).length)/\0=wT l x/\1=zT l x/\True)/\(0=(rY l x).length/\aj 0 5 (fun (x x_2:Nat)=>AV.junk) (ah encR (rY l x)))/\True)/\((!bG l)=false->(decide (32<((ByteArray.size x.key):Int))=true->((0=0/\0=(rY l x).length)/\0=wT l x/\131=zT l x/\True)/\(0=(rY l x).length/\aj 0 5 (fun (x x_3:Nat)=>AV.junk) (ah encR (rY l x)))/\True)/\(decide (32<((ByteArray.size x.key):Int))=false->(decide (256<(x.val.length:Int))=true->((0=0/\0=(rY l x).length)/\0=wT l x/\144=zT l x/\True)/\(0=(rY l x).length/\aj 0 5 (fun (x x_4:Nat)=>AV.junk) (ah encR (rY l x)))/\True)/\(decide (256<(x.val.length:Int))=false->(decide (4096<=(l.length:Int))=true->((0=0/\0=(rY l x).length)/\0=wT l x/\143=zT l x/\True)/\(0=(rY l x).length/\aj 0 5 (fun (x x_5:Nat)=>AV.junk) (ah encR (rY l x)))/\True)/\(decide (4096<=(l.length:Int))=false->(decide (0+l.length<=9223372036854775807)&&decide ((0+l.length)*64<=140737488355328))=true/\((x.off=x.off/\x.key=x.key/\(lD x.val x.val)/\x.prod=x.prod/\x.seq=x.seq/\True)/\(l.length:Int)=(l.length:Int)/\True)/\True/\x.val.length<=140737488355328/\(decide (0+l.length=0+l.length)&&decide (0+l.length+1<=9223372036854775807)&&decide ((0+l.length+1)*64<=140737488355328))=true/\((0=0/\0+l.length+1=(rY l x).length)/\IntKind.u64.wrap (l.length:Int)=wT l x/\0=zT l x/\True)/\(0+l.length+1=(rY l x).length/\aj (0+l.length+1) 5 (aY (0+l.length) (aY 0 (fun (k j:Nat)=>AV.junk) (ah encR l)) fun (k j:Nat)=>Ax.get [AV.y (.int .u64 (IntKind.u64.wrap (l.length:Int))),AV.y (.string x.key),AV.ys true 1 x.val.length (ah aJ x.val),AV.y (.int .u64 x.prod),AV.y (.int .u64 x.seq)] (k*5+j)) (ah encR (rY l x)))/\True))))
theorem Yz (b:Bool) (l:List Rec) (x:Rec):(bf Tryz.prog (vrH b l x) 121 [dK b l,.agg (encR x)] [] (vrT l x))=afE b l x:=by kernel_rfl
def Dv (l:List Rec) (o:Int):Int:=if bG l=false then 1 else if (l.length:Int)<o then 141 else 0
def JI (l:List Rec) (o m:Int):Int:=min (min (max m 0) 64) ((l.length:Int) - o)
def xA (l:List Rec) (o m:Int):List Rec:=if Dv l o=0 then (l.drop o.toNat).take (JI l o m).toNat else []
def vfT (l:List Rec) (o m:Int):T An:=.ret (.tup [.own 0 5 0 (xA l o m).length,.y (.int .i64 (Dv l o))],[OE (xA l o m)],[])
noncomputable def vfH (b:Bool) (l:List Rec) (o m:Int):aC Tryz.prog:=dO (hh _ bO (cs1 71 1 1 (lrC b l) bM)
 (op1 71 3 0 (.row 54 5) (op1 71 5 0 (.row 54 5) bL))) noSh
def aeR (b:Bool) (l:List Rec) (o:Int) (m:Int):Prop :=
 ((b=b/\l.length=l.length/\aj l.length 5 (ah encR l) (ah encR l))/\True)/\True/\l.length<=9223372036854775806/\((!bG l)=true->((0=0/\0=(xA l o m).length)/\1=Dv l o/\True)/\(0=(xA l o m).length/\aj 0 5 (fun (x x_1:Nat)=>AV.junk) (ah encR (xA l o m)))/\True)/\((!bG l)=false->(decide (IntKind.u64.wrap (l.length:Int)<o)=true->((0=0/\0=(xA l o m).length)/\141=Dv l o/\True)/\(0=(xA l o m).length/\aj 0 5 (fun (x x_1:Nat)=>AV.junk) (ah encR (xA l o m)))/\True)/\(decide (IntKind.u64.wrap (l.length:Int)<o)=false->(decide (0<=IntKind.i64.wrap o)&&decide (IntKind.i64.wrap o<=IntKind.i64.wrap (IntKind.i64.wrap o+if IntKind.i64.wrap ((l.length:Int) - IntKind.i64.wrap o)<if 64<if 0 > m then 0 else m then 64 else if 0 > m then 0 else m then IntKind.i64.wrap ((l.length:Int) - IntKind.i64.wrap o) else if 64<if 0 > m then 0 else m then 64 else if 0 > m then 0 else m))&&decide (IntKind.i64.wrap (IntKind.i64.wrap o+if IntKind.i64.wrap ((l.length:Int) - IntKind.i64.wrap o)<if 64<if 0 > m then 0 else m then 64 else if 0 > m then 0 else m then IntKind.i64.wrap ((l.length:Int) - IntKind.i64.wrap o) else if 64<if 0 > m then 0 else m then 64 else if 0 > m then 0 else m)<=(l.length:Int)))=true/\(decide (0+(Int.toNat (IntKind.i64.wrap (IntKind.i64.wrap o+if IntKind.i64.wrap ((l.length:Int) - IntKind.i64.wrap o)<if 64<if 0 > m then 0 else m then 64 else if 0 > m then 0 else m then IntKind.i64.wrap ((l.length:Int) - IntKind.i64.wrap o) else if 64<if 0 > m then 0 else m then 64 else if 0 > m then 0 else m)) - Int.toNat (IntKind.i64.wrap o))<=9223372036854775807)&&decide ((0+(Int.toNat (IntKind.i64.wrap (IntKind.i64.wrap o+if IntKind.i64.wrap ((l.length:Int) - IntKind.i64.wrap o)<if 64<if 0 > m then 0 else m then 64 else if 0 > m then 0 else m then IntKind.i64.wrap ((l.length:Int) - IntKind.i64.wrap o) else if 64<if 0 > m then 0 else m then 64 else if 0 > m then 0 else m)) - Int.toNat (IntKind.i64.wrap o)))*64<=140737488355328))=true/\((0=0/\0+(Int.toNat (IntKind.i64.wrap (IntKind.i64.wrap o+if IntKind.i64.wrap ((l.length:Int) - IntKind.i64.wrap o)<if 64<if 0 > m then 0 else m then 64 else if 0 > m then 0 else m then IntKind.i64.wrap ((l.length:Int) - IntKind.i64.wrap o) else if 64<if 0 > m then 0 else m then 64 else if 0 > m then 0 else m)) - Int.toNat (IntKind.i64.wrap o))=(xA l o m).length)/\0=Dv l o/\True)/\(0+(Int.toNat (IntKind.i64.wrap (IntKind.i64.wrap o+if IntKind.i64.wrap ((l.length:Int) - IntKind.i64.wrap o)<if 64<if 0 > m then 0 else m then 64 else if 0 > m then 0 else m then IntKind.i64.wrap ((l.length:Int) - IntKind.i64.wrap o) else if 64<if 0 > m then 0 else m then 64 else if 0 > m then 0 else m)) - Int.toNat (IntKind.i64.wrap o))=(xA l o m).length/\aj (0+(Int.toNat (IntKind.i64.wrap (IntKind.i64.wrap o+if IntKind.i64.wrap ((l.length:Int) - IntKind.i64.wrap o)<if 64<if 0 > m then 0 else m then 64 else if 0 > m then 0 else m then IntKind.i64.wrap ((l.length:Int) - IntKind.i64.wrap o) else if 64<if 0 > m then 0 else m then 64 else if 0 > m then 0 else m)) - Int.toNat (IntKind.i64.wrap o))) 5 (aY 0 (fun (k j:Nat)=>AV.junk) fun (k:Nat)=>ah encR l (Int.toNat (IntKind.i64.wrap o)+k)) (ah encR (xA l o m)))/\True))
theorem WL (b:Bool) (l:List Rec) (o:Int) (m:Int):(bf Tryz.prog (vfH b l o m) 71 [dK b l,.y (.int .u64 o),.y (.int .i64 m)] [] (vfT l o m))=aeR b l o m:=by kernel_rfl
theorem X6 {l:List Rec} {x:Rec} (h:zT l x=0):bG l=true/\x.val.length<=256/\l.length<4096:=by
 unfold zT at h
 cases hl:bG l with
 | false=>simp [hl] at h
 | true =>
   simp only [hl,Bool.true_eq_false,if_false] at h
   have:=ko hl
   split at h
   · cases h
   · split at h
     · cases h
     · split at h
       · cases h
       · exact ⟨rfl,by omega,by omega⟩
theorem af7 (b:Bool) (l:List Rec) (x:Rec) (h0:l.length<=9223372036854775806):(vrT l x).Sat (aB Tryz.prog 121 [dK b l,.agg (encR x)] []):=by
 refine aP (ht:=vrH b l x) Tryz.mixed rfl ?_
 rw [Yz b l x]
 unfold afE
 have hK:zT l x=if bG l=false then 1 else if 32<x.key.size then 131 else if 256<x.val.length then 144 else if l.length=4096 then 143 else 0:=rfl
 have hY:zT l x≠0->rY l x=[]:=fun h=>by unfold rY;rw [if_neg h]
 have hN:zT l x≠0->wT l x=0:=fun h=>by unfold wT;rw [if_neg h]
 refine ⟨by simp,trivial,h0,fun h=>?_,fun h=>⟨fun h2=>?_,fun h2=>⟨fun h3=>?_,fun h3=>⟨fun h4=>?_,fun h4=>?_⟩⟩⟩⟩
 · have hk:zT l x=1:=by rw [hK];simp at h;simp [h]
   simp [hY (by rw [hk];omega),hN (by rw [hk];omega),hk]
 · have hk:zT l x=131:=by rw [hK];simp at h h2;simp [h];omega
   simp [hY (by rw [hk];omega),hN (by rw [hk];omega),hk]
 · have hk:zT l x=144:=by rw [hK];simp at h h2 h3;simp [h];omega
   simp [hY (by rw [hk];omega),hN (by rw [hk];omega),hk]
 · have hk:zT l x=143:=by
    rw [hK];simp at h h2 h3 h4
    have:=ko h
    simp [h];omega
   simp [hY (by rw [hk];omega),hN (by rw [hk];omega),hk]
 · have hk:zT l x=0:=by rw [hK];simp at h h2 h3 h4;simp [h];omega
   obtain ⟨g1,g2,g3⟩:=X6 hk
   have hy:rY l x=l++[x.to (IntKind.u64.wrap l.length)]:=by unfold rY;rw [if_pos hk]
   have hn:wT l x=IntKind.u64.wrap l.length:=by unfold wT;rw [if_pos hk]
   rw [hy,hn,hk]
   refine ⟨by simp;omega,by simp,trivial,by omega,by simp;omega,by simp,⟨by simp,?_⟩,trivial⟩
   have:=sw (sz:=5) (enc:=encR) (l:=l) (n:=l.length) (x:=x.to (IntKind.u64.wrap l.length)) (cs:=[AV.y (Value.int IntKind.u64 (IntKind.wrap IntKind.u64 (l.length:Int))),AV.y (Value.string x.key),AV.ys true (1:Nat) (List.length x.val) (ah aJ x.val),AV.y (Value.int IntKind.u64 x.prod),AV.y (Value.int IntKind.u64 x.seq)]) rfl (ach (dn _) (dn _) (dn _) (dn _) (dn _))
   simpa using this
noncomputable def aiW (b:Bool) (l:List Rec) (x:Rec):eu Tryz.prog:=⟨121,[dK b l,.agg (encR x)],[],.need (l.length<=9223372036854775806) (vrT l x),T.Sat.need fun h=>af7 b l x h⟩
theorem ML {l:List Rec} {o m:Int} (h:Dv l o=0) (h0:0<=o):bG l=true/\o<=l.length/\0<=JI l o m/\JI l o m<=(l.length:Int) - o/\JI l o m<=64:=by
 unfold Dv at h
 cases hl:bG l with
 | false=>simp [hl] at h
 | true =>
   simp only [hl,Bool.true_eq_false,if_false] at h
   split at h
   · cases h
   · unfold JI;exact ⟨rfl,by omega,by omega,by omega,by omega⟩
theorem adf {l:List Rec} {o m:Int} (h:Dv l o=0) {k:Nat} (hk:k<(JI l o m).toNat):(xA l o m).getD k default=l.getD (o.toNat+k) default:=by
 unfold xA
 rw [if_pos h]
 simp [List.getElem?_take,hk,List.getElem?_drop]
theorem Zk {l:List Rec} {o m:Int} (h:Dv l o=0) (h0:0<=o):(xA l o m).length=(JI l o m).toNat:=by
 obtain ⟨_,h1,h2,h3,_⟩:=ML (m:=m) h h0
 unfold xA
 rw [if_pos h]
 simp
 omega
theorem ad4 {l:List Rec} {o m:Int} (h:Dv l o=0) (n:Nat) (hn:n=(JI l o m).toNat) (c:Nat->Nat->AV) (hc:∀ k j,k<n->c k j=ah encR l (o.toNat+k) j):aj n 5 c (ah encR (xA l o m)):=by
 intro k hk j hj
 rw [hc k j hk]
 unfold ah
 rw [adf h (by omega)]
 exact dn _
theorem ahd (b:Bool) (l:List Rec) (o m:Int) (hl:l.length<=9223372036854775806) (h0:0<=o/\o<=18446744073709551615):(vfT l o m).Sat (aB Tryz.prog 71 [dK b l,.y (.int .u64 o),.y (.int .i64 m)] []):=by
 refine aP (ht:=vfH b l o m) Tryz.mixed rfl ?_
 rw [WL b l o m]
 unfold aeR
 have hw:IntKind.u64.wrap (l.length:Int)=l.length:=wrap_u64 (by omega) (by omega)
 have hK:Dv l o=if bG l=false then 1 else if (l.length:Int)<o then 141 else 0:=rfl
 have hY:Dv l o≠0->xA l o m=[]:=fun h=>by unfold xA;rw [if_neg h]
 rw [hw]
 refine ⟨by simp,trivial,hl,fun h=>?_,fun h=>⟨fun h2=>?_,fun h2=>?_⟩⟩
 · have hk:Dv l o=1:=by rw [hK];simp at h;simp [h]
   simp [hY (by rw [hk];omega),hk]
 · have hk:Dv l o=141:=by rw [hK];simp at h h2;simp [h];omega
   simp [hY (by rw [hk];omega),hk]
 · have hk:Dv l o=0:=by rw [hK];simp at h h2;simp [h];omega
   obtain ⟨g1,g2,g3,g4,g5⟩:=ML (m:=m) hk h0.1
   have gl:=Zk (m:=m) hk h0.1
   have g6:=ko g1
   have hwo:IntKind.i64.wrap o=o:=wrap_i64 (by omega) (by omega)
   have hwd:IntKind.i64.wrap ((l.length:Int) - o)=(l.length:Int) - o:=wrap_i64 (by omega) (by omega)
   have hn:(if (l.length:Int) - o<if (64:Int)<if (0:Int) > m then (0:Int) else m then (64:Int) else if (0:Int) > m then (0:Int) else m then (l.length:Int) - o else if (64:Int)<if (0:Int) > m then (0:Int) else m then (64:Int) else if (0:Int) > m then (0:Int) else m)=JI l o m:=by
    unfold JI
    omega
   have hwn:IntKind.i64.wrap (o+JI l o m)=o+JI l o m:=wrap_i64 (by omega) (by omega)
   simp only [hwo,hwd,hn,hwn]
   refine ⟨by simp;omega,by simp;omega,by simp [hk];omega,⟨by omega,?_⟩,trivial⟩
   have e:0+((o+JI l o m).toNat - o.toNat)=(JI l o m).toNat:=by omega
   rw [e,Ju]
   exact ad4 hk _ rfl _ fun k j _=>rfl
noncomputable def aio (b:Bool) (l:List Rec) (o m:Int):eu Tryz.prog:=⟨71,[dK b l,.y (.int .u64 o),.y (.int .i64 m)],[],.need (l.length<=9223372036854775806/\0<=o/\o<=18446744073709551615) (vfT l o m),T.Sat.need fun h=>ahd b l o m h.1 h.2⟩
end V
namespace R
theorem Kg (l:List Rec) (x:Rec):V.zT l x=kJ l x:=by
 unfold V.zT kJ
 cases bG l<;>rfl
theorem aei {l:List Rec} {x:Rec} (h:kJ l x=0):V.rY l x=ig l x:=by
 unfold V.rY ig
 rw [Kg,if_pos h]
theorem T_ (l:List Rec) (o:Int):V.Dv l o=Ga l o:=by
 unfold V.Dv Ga
 cases bG l<;>rfl
theorem ad7 {l:List Rec} {o m:Int} (h:Ga l o=0) (h0:0<=o):V.xA l o m=uX l o m:=by
 have ho:o<=(l.length:Int):=by
  unfold Ga at h
  split at h
  · cases h
  · split at h
    · cases h
    · omega
 unfold V.xA uX
 rw [T_,if_pos h]
 have e:V.JI l o m=Pz l.length o m:=by
  unfold V.JI Pz
  have e1:((l.length - o.toNat:Nat):Int)=(l.length:Int) - o:=by omega
  rw [e1]
  by_cases h1:(0:Int) > m
  · simp only [if_pos h1]
    have e2:max m 0=0:=by omega
    rw [e2]
    have e3:min (0:Int) 64=0:=rfl
    rw [e3]
    have e4:(if (64:Int)<0 then (64:Int) else 0)=0:=rfl
    simp only [e4]
    split<;>omega
  · simp only [if_neg h1]
    have e2:max m 0=m:=by omega
    rw [e2]
    split<;>split<;>omega
 rw [e]
end R
namespace P
noncomputable def abW (b1 b2:Bool) (a b:List Producer):eu Tryz.prog:=⟨74,[bg b1 a,bg b2 b],[],.need (a.length<=9223372036854775806) (smR a b),T.Sat.need fun h=>adN b1 b2 a b h⟩
structure Two where
 a:List Producer
 b:List Producer
 ta:List Int
 tb:List Int
structure Two.Ok (x:Two):Prop where
 a:x.a.length*32<=140737488355200
 b:x.b.length*32<=140737488355200
 ta:x.ta.length<=9223372036854775806
 tb:x.tb.length<=9223372036854775806
 oa:∀ y∈x.a,0<=y.offset/\y.offset<18446744073709551616
 ob:∀ y∈x.b,0<=y.offset/\y.offset<18446744073709551616
theorem D8 (l:List Producer) (id seq:Int):aS l id seq=1↔Cr id seq=false/\(bA l id=false∨(findD l id).seq<seq):=by
 unfold aS
 cases hb:Cr id seq
 · cases hf:bA l id
   · simp
   · by_cases h:(findD l id).seq<seq
     · simp [h]
     · simp [h]
       split<;>decide
 · simp
theorem ZO {l:List Producer} {x z:Producer}:z∈gD l x↔z∈l/\¬ z.id=x.id:=by
 unfold gD
 rw [List.mem_filter]
 simp [keep]
theorem jv {l:List Producer} {x z:Producer}:z∈aF l x↔z=x∨(z∈l/\¬ z.id=x.id):=by
 rw [<- ZO]
 unfold aF
 rw [List.mem_append,List.mem_cons]
 constructor
 · rintro (h | h | h)
   · exact Or.inr (List.mem_of_mem_take h)
   · exact Or.inl h
   · exact Or.inr (List.mem_of_mem_drop h)
 · rintro (h | h)
   · exact Or.inr (Or.inl h)
   · rw [<- List.take_append_drop (below (gD l x) x.id) (gD l x),List.mem_append] at h
     rcases h with h | h
     · exact Or.inl h
     · exact Or.inr (Or.inr h)
theorem jo {l:List Producer} {id:Int} (h:bA l id=true):findD l id∈l/\(findD l id).id=id:=by
 unfold bA at h
 unfold findD
 cases hf:l.find? (has id) with
 | none=>rw [hf] at h;cases h
 | some x =>
   have h1:=List.find?_some hf
   have h2:=List.mem_of_find?_eq_some hf
   exact ⟨h2,by simpa [has] using h1⟩
theorem Pf {l:List Producer} {id:Int} (h:bA l id=false):∀ x∈l,¬ x.id=id:=by
 intro x hx hid
 unfold bA at h
 have:(l.find? (has id)).isSome=true:=by
  rw [List.find?_isSome]
  exact ⟨x,hx,by simp [has,hid]⟩
 rw [h] at this;cases this
theorem D_ {l:List Producer} (h:l.Pairwise (fun a b=>a.id<b.id)):∀ {x y:Producer},x∈l->y∈l->x.id=y.id->x=y:=by
 induction h with
 | nil=>intro x y hx;cases hx
 | cons h1 _ ih =>
   intro x y hx hy e
   rcases List.mem_cons.1 hx with e1 | hx'<;>rcases List.mem_cons.1 hy with e2 | hy'
   · rw [e1,e2]
   · have:=h1 _ hy';rw [<- e1] at this;omega
   · have:=h1 _ hx';rw [<- e2] at this;omega
   · exact ih hx' hy' e
def fresh (l:List Producer) (id seq:Int):Prop:=∀ x∈l,x.id=id->x.seq<seq
theorem Ic {l:List Producer} (h:rising l) (id seq:Int):aS l id seq=1↔Cr id seq=false/\fresh l id seq:=by
 rw [D8]
 refine and_congr Iff.rfl ?_
 cases hf:bA l id
 · exact ⟨fun _ x hx e=>absurd e (Pf hf x hx),fun _=>Or.inl rfl⟩
 · have ⟨h1,h2⟩:=jo hf
   constructor
   · rintro (h3 | h3)
     · cases h3
     · intro x hx e
       rw [D_ ((ou l).1 h) hx h1 (by omega)];exact h3
   · intro h3
     exact Or.inr (h3 _ h1 h2)
def good (x:Producer):Prop:=¬ x.id=0/\1<=x.seq/\x.seq<=9223372036854775807/\(x.here=true∨x.offset=0)
theorem DW (l:List Producer):bF l=true↔(∀ x∈l,good x)/\rising l/\l.length<=256:=by
 constructor
 · intro h
   have hr:=gH h
   unfold bF at h
   rw [Bool.and_eq_true,decide_eq_true_eq] at h
   refine ⟨fun x hx=>?_,hr,h.2⟩
   obtain ⟨i,hi,rfl⟩:=List.mem_iff_getElem.1 hx
   have:=BK _ 0 rfl h.1 i (Nat.zero_le _) hi
   simp [U5,hi] at this
   unfold good
   grind
 · rintro ⟨h1,h2,h3⟩
   unfold bF
   rw [Bool.and_eq_true,decide_eq_true_eq]
   refine ⟨?_,h3⟩
   unfold aV
   rw [List.all_eq_true]
   intro j hj
   have hj':j<l.length:=by
    simp at hj;exact hj
   have hg:=h1 l[j] (List.getElem_mem hj')
   unfold good at hg
   simp [U5,hj']
   have hr:0<j->(l[j - 1]?.getD default).id<l[j].id:=fun h=>by
    have:=h2 (j - 1) j (by omega) hj'
    simpa [hj'] using this
   grind
noncomputable def Rx (b:Bool) (l:List Producer) (id seq:Int) (hl:l.length<=9223372036854775806):aC Tryz.prog :=
 hh _ bO (cs1 124 1 3 (aht b l id seq 0 hl) (cs1 124 4 4 (aaK b l (bK id seq false 0)) bM)) bL
def Mh (b:Bool) (l:List Producer) (id:Int) (seq:Int) (hl:l.length<=9223372036854775806):Prop :=
 ((b=b/\l.length=l.length/\aj l.length 4 (ah ak l) (ah ak l))/\id=id/\seq=seq/\(0:Int)=0/\True)/\True/\((aI l (bK id seq true 0)==0)=true->((b=b/\l.length=l.length/\aj l.length 4 (ah ak l) (ah ak l))/\(id=id/\seq=seq/\false=false/\(0:Int)=0/\True)/\True)/\True/\(l.length*32<=140737488355200/\∀ (i j:Nat),i<j->j<l.length->(l.getD i default).id<(l.getD j default).id)/\((aI l (bK id seq false 0)==0)=true->((0=0/\(aF l (bK id seq false 0)).length=(aF l (bK id seq false 0)).length)/\(0:Int)=0/\True)/\((aF l (bK id seq false 0)).length=(aF l (bK id seq false 0)).length/\aj (aF l (bK id seq false 0)).length 4 (ah ak (aF l (bK id seq false 0))) (ah ak (aF l (bK id seq false 0))))/\True)/\((aI l (bK id seq false 0)==0)=false->False))/\((aI l (bK id seq true 0)==0)=false->((aI l (bK id seq true 0) != 0)=true->((aI l (bK id seq false 0)==0)=true->(False/\aI l (bK id seq true 0)=0/\True)/\False)/\((aI l (bK id seq false 0)==0)=false->(True/\aI l (bK id seq true 0)=aI l (bK id seq false 0)/\True)/\True))/\((aI l (bK id seq true 0) != 0)=false->((b=b/\l.length=l.length/\aj l.length 4 (ah ak l) (ah ak l))/\(id=id/\seq=seq/\false=false/\(0:Int)=0/\True)/\True)/\True/\(l.length*32<=140737488355200/\∀ (i j:Nat),i<j->j<l.length->(l.getD i default).id<(l.getD j default).id)/\((aI l (bK id seq false 0)==0)=true->((0=0/\(aF l (bK id seq false 0)).length=(aF l (bK id seq false 0)).length)/\(0:Int)=0/\True)/\((aF l (bK id seq false 0)).length=(aF l (bK id seq false 0)).length/\aj (aF l (bK id seq false 0)).length 4 (ah ak (aF l (bK id seq false 0))) (ah ak (aF l (bK id seq false 0))))/\True)/\((aI l (bK id seq false 0)==0)=false->False)))
theorem KU (b:Bool) (l:List Producer) (id:Int) (seq:Int) (hl:l.length<=9223372036854775806):(bf Tryz.prog (Rx b l id seq hl) 124 [bg b l,.y (.int .u64 id),.y (.int .u64 seq)] [] (jP l (bK id seq false 0)))=Mh b l id seq hl:=by kernel_rfl
theorem Ou {l:List Producer} {x:Producer} (h:aI l x=0):bF l=true:=by
 unfold aI at h
 cases ht:bF l
 · simp [ht] at h
 · rfl
theorem aak (b:Bool) (l:List Producer) (id seq:Int) (hl:l.length<=9223372036854775806):(jP l (bK id seq false 0)).Sat (aB Tryz.prog 124 [bg b l,.y (.int .u64 id),.y (.int .u64 seq)] []):=by
 refine aP (ht:=Rx b l id seq hl) Tryz.mixed rfl ?_
 rw [KU b l id seq hl]
 unfold Mh
 have e:aI l (bK id seq true 0)=aI l (bK id seq false 0):=rfl
 by_cases h:aI l (bK id seq false 0)=0
 · have ht:=Ou h
   have h1:l.length<=256:=by unfold bF at ht;simp at ht;exact ht.2
   have h3:=gH ht
   simp [e,h]
   exact ⟨by omega,h3⟩
 · simp [e,h]
noncomputable def agP (b:Bool) (l:List Producer) (id seq o:Int):eu Tryz.prog:=⟨135,[bg b l,.y (.int .u64 id),.y (.int .u64 seq),.y (.int .u64 o)],[],.need (l.length<=9223372036854775806) (jP l (bK id seq true o)),T.Sat.need fun h=>aaD b l id seq o h⟩
noncomputable def afI (b:Bool) (l:List Producer) (id seq o:Int):eu Tryz.prog:=⟨122,[bg b l,.y (.int .u64 id),.y (.int .u64 seq),.y (.int .u64 o)],[],.need (l.length<=9223372036854775806) (jP l (bK id seq true o)),T.Sat.need fun h=>Ti b l id seq o h⟩
noncomputable def aaI (b:Bool) (l:List Producer) (id seq:Int):eu Tryz.prog:=⟨139,[bg b l,.y (.int .u64 id),.y (.int .u64 seq)],[],.need (l.length<=9223372036854775806) (jP l (bK id seq false 0)),T.Sat.need fun h=>Qi b l id seq h⟩
noncomputable def adW (b:Bool) (l:List Producer) (id seq:Int):eu Tryz.prog:=⟨124,[bg b l,.y (.int .u64 id),.y (.int .u64 seq)],[],.need (l.length<=9223372036854775806) (jP l (bK id seq false 0)),T.Sat.need fun h=>aak b l id seq h⟩
end P
namespace J
def jg (b:Bool):List Int:=[if b then 1 else 0]
def aQ (t:List Int):List Int:=au t.length++t
def bD (s:ByteArray):List Int:=s.data.toList.map fun x=>(x.toNat:Int)
theorem gV (s:ByteArray):(bD s).length=s.size:=by simp [bD]
def fU (r:kF):List Int:=aQ (bD (r.lo))++aQ (bD (r.hi))
def jk (x:Rec):List Int:=au (x.off)++aQ (bD (x.key))++aQ (x.val)++au (x.prod)++au (x.seq)
def Ie (l:List Rec):List Int:=au (l.length:Int)++l.flatMap jk
structure mW (v:Int):Prop where
 lo:0<=v
 hi:v<18446744073709551616
structure yI (v:Int):Prop where
 lo:-9223372036854775808<=v
 hi:v<9223372036854775808
structure Ux (x:Rec):Prop where
 off:mW x.off
 prod:mW x.prod
 seq:mW x.seq
theorem Uf (x:Rec):1<=(jk x).length:=by
 have h:1<=(au x.off).length:=by
  unfold au nL
  split<;>simp
 unfold jk
 simp only [List.length_append]
 omega
structure aic (c:R.cB):Prop where
 kind:yI c.kind
 epoch:mW c.epoch
 prod:mW c.prod
 seq:mW c.seq
 off:mW c.off
 most:yI c.most
 plan:mW c.plan
 n:c.key.size+c.val.length+c.name.size+1000<=140737488355327
def jG (x:P.Producer):List Int:=au (x.id)++au (x.seq)++jg (x.here)++au (x.offset)
def pU (x:Con):List Int:=aQ (bD (x.name))++au (x.off)
def PO (p:Part):List Int:=fU (p.rng)++au (p.epoch)++au (p.frozen)++Ie (p.recs)
def Br (l:List P.Producer):List Int:=au (l.length:Int)++l.flatMap jG
def Ik (l:List Con):List Int:=au (l.length:Int)++l.flatMap pU
def iA (p:Part):List Int:=PO p++Br p.prods++Ik p.cons
structure sW (x:P.Producer):Prop where
 id:mW x.id
 seq:mW x.seq
 offset:mW x.offset
theorem DJ (v:Int):1<=(au v).length:=by
 unfold au nL
 split<;>simp
theorem OL (x:P.Producer):1<=(jG x).length:=by
 have:=DJ x.id
 unfold jG
 simp only [List.length_append]
 omega
theorem V_ (x:Con):1<=(pU x).length:=by
 have:=DJ x.off
 unfold pU
 simp only [List.length_append]
 omega
structure RS where
 at_:Nat
 e:Int
 bad:Int
instance:Inhabited RS:=⟨⟨0,0,0⟩⟩
def RS.f (s:RS):Bool:=s.e != 0
def kC (s:RS) (e:Int) (p:Nat):RS:=if s.e != 0 then s else ⟨p,e,p⟩
structure LOk (l:List Int):Prop where
 n:l.length<=140737488355328
structure Bytes (l:List Int):Prop where
 b:∀ x∈l,0<=x/\x<256
def Ch:List Int->Nat->Int->Int×Int×Nat
 | [],_,_=>(11,0,0)
 | c::r,i,v=>if i=9/\c≠1 then (12,0,0) else if 128<=c then Ch r (i+1) (v+(c % 128)*2 ^ (7*i)) else if c=0/\0<i then (12,0,0) else (0,v+(c % 128)*2 ^ (7*i),i+1)
def qY (l:List Int) (s:RS):Int×Int×Nat:=Ch (l.drop s.at_) 0 0
def aR (l:List Int) (s:RS):Int×RS:=if s.e != 0 then (0,s) else if (qY l s).1=0 then ((qY l s).2.1,⟨s.at_+(qY l s).2.2,s.e,s.bad⟩) else (0,kC s (qY l s).1 s.at_)
structure fq (l:List Int) (s:RS):Prop where
 n:l.length<=140737488355328
 at_:s.at_<=l.length
 b:Bytes l
 bad:s.e=0->s.bad=0
structure UQ (l:List Int) (s:RS) where
 i:Nat
 v:Int
 hi:i<=(l.drop s.at_).length
 hi9:i<=9
 e:Ch ((l.drop s.at_).drop i) i v=qY l s
 v0:0<=v
 v1:v<2 ^ (7*i)
theorem SA (c:Int) (h0:0<=c) (h1:c<256):(↑(BitVec.toNat (BitVec.ofInt 8 c &&& BitVec.ofInt 8 127)):Int)=c % 128:=by
 rw [BitVec.toNat_and]
 have e:(BitVec.ofInt 8 127).toNat=2 ^ 7 - 1:=by decide
 rw [e,Nat.and_two_pow_sub_one_eq_mod,BitVec.toNat_ofInt]
 omega
theorem wrU (x:Int):IntKind.wrap IntKind.u64 x=x % 18446744073709551616:=by
 unfold IntKind.wrap
 simp [IntKind.bits,IntKind.signed]
theorem Xn {i:Nat} (h:i<=9):(2:Int) ^ (7*i)<=9223372036854775808/\(1:Int)<=2 ^ (7*i)/\(i<=8->(2:Int) ^ (7*i)<=72057594037927936):=by
 have:i=0∨i=1∨i=2∨i=3∨i=4∨i=5∨i=6∨i=7∨i=8∨i=9:=by omega
 rcases this with rfl | rfl | rfl | rfl | rfl | rfl | rfl | rfl | rfl | rfl<;>decide
theorem ae9 {i:Nat} {d:Int} (h:i<=9) (h0:0<=d) (h1:d<128) (h9:i=9->d<=1):0<=d*2 ^ (7*i)/\d*2 ^ (7*i)<18446744073709551616:=by
 obtain ⟨p1,p2,p3⟩:=Xn h
 generalize (2:Int) ^ (7*i)=p at p1 p2 p3
 refine ⟨Int.mul_nonneg h0 (by omega),?_⟩
 by_cases hi:i=9
 · have:d=0∨d=1:=by have:=h9 hi;omega
   rcases this with rfl | rfl<;>omega
 · have p4:=p3 (by omega)
   have:d*p<=127*p:=Int.mul_le_mul_of_nonneg_right (by omega) (by omega)
   omega
theorem Vy {v c:Int} {i:Nat} (v0:0<=v) (v1:v<2 ^ (7*i)):0<=v+(c % 128)*2 ^ (7*i)/\v+(c % 128)*2 ^ (7*i)<2 ^ (7*(i+1)):=by
 have e:(2:Int) ^ (7*(i+1))=128*2 ^ (7*i):=by
  rw [show 7*(i+1)=7*i+7 by omega,Int.pow_add]
  omega
 have p:(0:Int)<2 ^ (7*i):=Int.pow_pos (by decide)
 rw [e]
 generalize (2:Int) ^ (7*i)=q at *
 have h0:0<=c % 128:=by omega
 have h1:c % 128<=127:=by omega
 generalize c % 128=d at *
 have:=Int.mul_nonneg h0 (by omega:0<=q)
 have:d*q<=127*q:=Int.mul_le_mul_of_nonneg_right h1 (by omega)
 omega
theorem G9 (l:List Int) (i:Nat) (h:i<l.length):l.drop i=l.getD i 0::l.drop (i+1):=by
 rw [List.drop_eq_getElem_cons h]
 simp [List.getD,h]
def gZ (l:List Int) (s:RS):Bool×RS:=if s.e != 0 then (false,s) else if s.at_=l.length then (false,kC s 11 s.at_) else if 1<l.getD s.at_ 0 then (false,kC s 16 s.at_) else (l.getD s.at_ 0==1,⟨s.at_+1,s.e,s.bad⟩)
def aK (l:List Int) (s:RS) (most:Int):Int×RS:=if (aR l s).2.e != 0 then (0,(aR l s).2) else if most<0∨most<(aR l s).1 then (0,kC (aR l s).2 13 s.at_) else if (l.length - (aR l s).2.at_:Int)<(aR l s).1 then (0,kC (aR l s).2 11 s.at_) else aR l s
end J
end Go.Proofs.YtnbhdjadlbhknaaGreatDoor
