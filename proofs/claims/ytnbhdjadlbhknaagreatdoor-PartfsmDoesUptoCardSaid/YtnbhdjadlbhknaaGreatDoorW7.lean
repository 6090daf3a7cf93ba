import Derived.Test.YtnbhdjadlbhknaaGreatDoorW1
import Derived.Test.YtnbhdjadlbhknaaGreatDoorW3
import Derived.Test.YtnbhdjadlbhknaaGreatDoorW4
import Derived.Test.YtnbhdjadlbhknaaGreatDoorW5
import Derived.Test.YtnbhdjadlbhknaaGreatDoorW6
set_option linter.unusedVariables false
set_option linter.unusedSimpArgs false
set_option maxRecDepth 1000000
namespace Go.Proofs.YtnbhdjadlbhknaaGreatDoor
open Go.Ax
namespace Q
open J
def je (b:Bool):List Int:=[if b then 1 else 0]
def aQ (t:List Int):List Int:=au t.length++t
def bD (s:ByteArray):List Int:=s.data.toList.map fun x=>(x.toNat:Int)
def fU (r:kJ):List Int:=aQ (bD r.lo)++aQ (bD r.hi)
def iZ (x:Rec):List Int:=au x.off++aQ (bD x.key)++aQ x.val++au x.prod++au x.seq
def eB (l:List Rec):List Int:=au (l.length:Int)++l.flatMap iZ
def jL (x:P.Producer):List Int:=au x.id++au x.seq++je x.here++au x.offset
def pU (x:Con):List Int:=aQ (bD x.name)++au x.off
def PU (p:Part):List Int:=fU p.rng++au p.epoch++au p.frozen++eB p.recs++au (p.prods.length:Int)
def iF (p:Part) (k:Nat):List Int:=PU p++(p.prods.take k).flatMap jL
def mR (p:Part) (k:Nat):List Int:=iF p p.prods.length++au (p.cons.length:Int)++(p.cons.take k).flatMap pU
def dA (p:Part):List Int:=mR p p.cons.length
def Jz (l:List Int):ay:=.row 5 1 l.length none (ah aJ l)
def gQ (l:List Int):T An:=.ret (.own 0 1 0 l.length,[Jz l],[])
noncomputable def uwH (t:List Int) (q:WU t):aC Tryz.prog:=hh _ (mU 64 2 (dM (fun q:WU t=>duT q.v q.l.length) (fun q=>duM q.l) [0,1,2] (fun _=>.ret ()) (duS t) q) bO) bN (op1 64 1 0 (.row 5 1) bM)
def ahm (t:List Int) (q:WU t) (v:Int):Prop :=
 ((v=q.v/\(0=0/\0=q.l.length)/\True)/\((0=q.l.length/\aj 0 1 (fun (x x_1:Nat)=>AV.junk) (ah aJ q.l))/\True)/\true=true)/\aL Tryz.prog 64 2 (aN Tryz.prog 64 2) { t:=duT q.v q.l.length,m:=duM q.l,mv:=[]:St } (T.map (bJ [0,1,2] (duS t)) ((fun (x:WU t)=>T.ret ()) q))/\(decide ((List.dropLast t).length=(List.dropLast t).length)&&decide ((List.dropLast t).length+1<=9223372036854775807)&&decide (((List.dropLast t).length+1)*1<=140737488355328))=true/\(0=0/\(List.dropLast t).length+1=t.length)/\((List.dropLast t).length+1=t.length/\aj ((List.dropLast t).length+1) 1 (aY (List.dropLast t).length (ah aJ (List.dropLast t)) fun (k j:Nat)=>Ax.get [AV.y (.int .u8 (IntKind.u8.wrap (List.getLastD t 0)))] (k*1+j)) (ah aJ t))/\True
theorem Zx (t:List Int) (q:WU t) (v:Int):(bf Tryz.prog (uwH t q) 64 [.y (.int .u64 v)] [] (gQ t))=ahm t q v:=by kernel_rfl
theorem ah3 (v:Int) (h0:0<=v) (h1:v<18446744073709551616):(gQ (au v)).Sat (aB Tryz.prog 64 [.y (.int .u64 v)] []):=by
 have hv:v<128 ^ (10+1):=by
  have:(128:Int) ^ (10+1)=151115727451828646838272:=by decide
  omega
 obtain ⟨a,z,ha,hz0,hz1⟩:=Oy 10 v h0 hv
 have hlen:=GL 10 v
 have lp:=Zy (au v) ⟨v,[],10,h0,hv,by decide,rfl⟩
 refine aP (ht:=uwH (au v) ⟨v,[],10,h0,hv,by decide,rfl⟩) Tryz.mixed rfl ?_
 rw [Zx (au v) ⟨v,[],10,h0,hv,by decide,rfl⟩ v]
 unfold ahm
 have e1:(au v).dropLast=a:=by unfold au;rw [ha];simp
 have e2:(au v).getLastD 0=z:=by unfold au;rw [ha];simp
 have e3:au v=a++[z]:=ha
 have hz8:IntKind.wrap IntKind.u8 z=z:=by rw [Et];omega
 have hal:a.length<=10:=by rw [ha] at hlen;simp at hlen;omega
 have hr:=sK (enc:=aJ) (l:=a) (n:=a.length) (sz:=1) (x:=z) (cs:=[.y (.int .u8 z)]) rfl (fun j hj=>dn _)
 simp only [Nat.mul_one] at hr
 have e4:(au v).length=a.length+1:=by unfold au;rw [ha];simp
 simp only [e1,e2,hz8]
 simp [lp]
 repeat' with_reducible apply And.intro
 all_goals first
  | omega
  | (simpa using lp)
  | (rw [e3];exact hr)
structure eZ (v:Int):Prop where
 v0:0<=v
 v1:v<18446744073709551616
noncomputable def NW (v:Int):dZ Tryz.prog:=⟨64,[.y (.int .u64 v)],[],.need (eZ v) (gQ (au v)),T.Sat.need fun h=>ah3 v h.v0 h.v1⟩
noncomputable def txH (n:Nat):aC Tryz.prog:=hh _ bO (cs1 67 1 3 (NW (n:Int)) bN) bM
def ag' (f:Bool) (b:List Int):Prop :=
 (IntKind.u64.wrap (b.length:Int)=(b.length:Int)/\True)/\True/\eZ (b.length:Int)/\(decide ((au (b.length:Int)).length=(au (b.length:Int)).length)&&decide ((au (b.length:Int)).length+b.length<=9223372036854775807)&&decide (((au (b.length:Int)).length+b.length)*1<=140737488355328))=true/\(0=0/\(au (b.length:Int)).length+b.length=(aQ b).length)/\((au (b.length:Int)).length+b.length=(aQ b).length/\aj ((au (b.length:Int)).length+b.length) 1 (aY (au (b.length:Int)).length (ah aJ (au (b.length:Int))) (ah aJ b)) (ah aJ (aQ b)))/\True
theorem Xt (f:Bool) (b:List Int):(bf Tryz.prog (txH b.length) 67 [ig f b] [] (gQ (aQ b)))=ag' f b:=by kernel_rfl
theorem aak (l r:List Int):aj (l.length+r.length) 1 (aY l.length (ah aJ l) (ah aJ r)) (ah aJ (l++r)):=by
 intro k hk j hj
 unfold aY ah
 by_cases h:k<l.length
 · rw [if_pos h]
   have:(l++r).getD k default=l.getD k default:=by simp [List.getElem?_append_left h]
   rw [this];exact dn _
 · rw [if_neg h]
   have:(l++r).getD k default=r.getD (k - l.length) default:=by simp [List.getElem?_append_right (by omega:l.length<=k)]
   rw [this];exact dn _
theorem dF (v:Int):(au v).length<=11:=GL 10 v
theorem aiq (f:Bool) (b:List Int) (h:b.length<=1099511627776):(gQ (aQ b)).Sat (aB Tryz.prog 67 [ig f b] []):=by
 refine aP (ht:=txH b.length) Tryz.mixed rfl ?_
 rw [Xt f b]
 unfold ag'
 have hw:IntKind.u64.wrap (b.length:Int)=b.length:=wrap_u64 (by omega) (by omega)
 have hu:eZ (b.length:Int):=⟨by omega,by omega⟩
 have hl:=dF (b.length:Int)
 have hc:=aak (au b.length) b
 simp only [hw,aQ]
 simp [hu,hc]
 try omega
noncomputable def txC (f:Bool) (b:List Int):dZ Tryz.prog:=⟨67,[ig f b],[],.need (b.length<=1099511627776) (gQ (aQ b)),T.Sat.need fun h=>aiq f b h⟩
noncomputable def rgH (r:kJ):aC Tryz.prog:=hh _ bO (cs1 63 1 3 (txC true (bD r.lo)) (cs1 63 1 7 (txC true (bD r.hi)) bN)) bM
def af3 (r:kJ):Prop :=
 ((true=true/\ByteArray.size r.lo=(bD r.lo).length/\aj (ByteArray.size r.lo) 1 (fun (k x:Nat)=>AV.y (.int .u8 ((UInt8.toNat (r.lo.data.toList.getD k (0:UInt8))):Int))) (ah aJ (bD r.lo)))/\True)/\True/\(bD r.lo).length<=1099511627776/\((true=true/\ByteArray.size r.hi=(bD r.hi).length/\aj (ByteArray.size r.hi) 1 (fun (k x:Nat)=>AV.y (.int .u8 ((UInt8.toNat (r.hi.data.toList.getD k (0:UInt8))):Int))) (ah aJ (bD r.hi)))/\True)/\True/\(bD r.hi).length<=1099511627776/\(decide ((aQ (bD r.lo)).length=(aQ (bD r.lo)).length)&&decide ((aQ (bD r.lo)).length+(aQ (bD r.hi)).length<=9223372036854775807)&&decide (((aQ (bD r.lo)).length+(aQ (bD r.hi)).length)*1<=140737488355328))=true/\(0=0/\(aQ (bD r.lo)).length+(aQ (bD r.hi)).length=(fU r).length)/\((aQ (bD r.lo)).length+(aQ (bD r.hi)).length=(fU r).length/\aj ((aQ (bD r.lo)).length+(aQ (bD r.hi)).length) 1 (aY (aQ (bD r.lo)).length (ah aJ (aQ (bD r.lo))) fun (k:Nat)=>ah aJ (aQ (bD r.hi)) (0+k)) (ah aJ (fU r)))/\True
theorem ZF (r:kJ):(bf Tryz.prog (rgH r) 63 [.agg (mG r)] [] (gQ (fU r)))=af3 r:=by kernel_rfl
noncomputable def rcH (x:Rec):aC Tryz.prog:=hh _ bO (cs1 120 1 2 (NW x.off) (cs1 120 1 6 (txC true (bD x.key)) (cs1 120 2 3 (txC true x.val) (cs1 120 3 3 (NW x.prod) (cs1 120 4 3 (NW x.seq) bN))))) bM
def afe (x:Rec):Prop :=
 (x.off=x.off/\True)/\True/\eZ x.off/\((true=true/\ByteArray.size x.key=(bD x.key).length/\aj (ByteArray.size x.key) 1 (fun (k x_1:Nat)=>AV.y (.int .u8 ((UInt8.toNat (x.key.data.toList.getD k (0:UInt8))):Int))) (ah aJ (bD x.key)))/\True)/\True/\(bD x.key).length<=1099511627776/\(decide ((au x.off).length=(au x.off).length)&&decide ((au x.off).length+(aQ (bD x.key)).length<=9223372036854775807)&&decide (((au x.off).length+(aQ (bD x.key)).length)*1<=140737488355328))=true/\((lu x.val x.val)/\True)/\True/\x.val.length<=1099511627776/\(decide ((au x.off).length+(aQ (bD x.key)).length=(au x.off).length+(aQ (bD x.key)).length)&&decide ((au x.off).length+(aQ (bD x.key)).length+(aQ x.val).length<=9223372036854775807)&&decide (((au x.off).length+(aQ (bD x.key)).length+(aQ x.val).length)*1<=140737488355328))=true/\(x.prod=x.prod/\True)/\True/\eZ x.prod/\(decide ((au x.off).length+(aQ (bD x.key)).length+(aQ x.val).length=(au x.off).length+(aQ (bD x.key)).length+(aQ x.val).length)&&decide ((au x.off).length+(aQ (bD x.key)).length+(aQ x.val).length+(au x.prod).length<=9223372036854775807)&&decide (((au x.off).length+(aQ (bD x.key)).length+(aQ x.val).length+(au x.prod).length)*1<=140737488355328))=true/\(x.seq=x.seq/\True)/\True/\eZ x.seq/\(decide ((au x.off).length+(aQ (bD x.key)).length+(aQ x.val).length+(au x.prod).length=(au x.off).length+(aQ (bD x.key)).length+(aQ x.val).length+(au x.prod).length)&&decide ((au x.off).length+(aQ (bD x.key)).length+(aQ x.val).length+(au x.prod).length+(au x.seq).length<=9223372036854775807)&&decide (((au x.off).length+(aQ (bD x.key)).length+(aQ x.val).length+(au x.prod).length+(au x.seq).length)*1<=140737488355328))=true/\(0=0/\(au x.off).length+(aQ (bD x.key)).length+(aQ x.val).length+(au x.prod).length+(au x.seq).length=(iZ x).length)/\((au x.off).length+(aQ (bD x.key)).length+(aQ x.val).length+(au x.prod).length+(au x.seq).length=(iZ x).length/\aj ((au x.off).length+(aQ (bD x.key)).length+(aQ x.val).length+(au x.prod).length+(au x.seq).length) 1 (aY ((au x.off).length+(aQ (bD x.key)).length+(aQ x.val).length+(au x.prod).length) (aY ((au x.off).length+(aQ (bD x.key)).length+(aQ x.val).length) (aY ((au x.off).length+(aQ (bD x.key)).length) (aY (au x.off).length (ah aJ (au x.off)) fun (k:Nat)=>ah aJ (aQ (bD x.key)) (0+k)) fun (k:Nat)=>ah aJ (aQ x.val) (0+k)) fun (k:Nat)=>ah aJ (au x.prod) (0+k)) fun (k:Nat)=>ah aJ (au x.seq) (0+k)) (ah aJ (iZ x)))/\True
theorem X_ (x:Rec):(bf Tryz.prog (rcH x) 120 [.agg (encR x)] [] (gQ (iZ x)))=afe x:=by kernel_rfl
def af9 (b:Bool):Prop :=
 (b=true->((0:Nat)=(0:Nat)/\(1:Nat)=List.length [if b=true then (1:Int) else (0:Int)])/\((1:Nat)=List.length [if b=true then (1:Int) else (0:Int)]/\Gz (1:Nat) (1:Nat) [AV.s (Value.int IntKind.u8 (1:Int))] (ah aJ [if b=true then (1:Int) else (0:Int)]))/\True)/\(b=false->((0:Nat)=(0:Nat)/\(1:Nat)=List.length [if b=true then (1:Int) else (0:Int)])/\((1:Nat)=List.length [if b=true then (1:Int) else (0:Int)]/\Gz (1:Nat) (1:Nat) [AV.s (Value.int IntKind.u8 (0:Int))] (ah aJ [if b=true then (1:Int) else (0:Int)]))/\True)
theorem XC (b:Bool):(bf Tryz.prog (hT _) 66 [.y (.bool b)] [] (gQ (je b)))=af9 b:=by kernel_rfl
theorem sF (l r:List Int):aY l.length (ah aJ l) (fun k=>ah aJ r k)=ah aJ (l++r):=by
 funext k j
 unfold aY ah
 by_cases h:k<l.length
 · rw [if_pos h]
   simp [List.getElem?_append_left h]
 · rw [if_neg h]
   simp [List.getElem?_append_right (by omega:l.length<=k)]
theorem iq (t:List Int):(aQ t).length<=11+t.length:=by
 have:=dF (t.length:Int)
 simp [aQ];omega
theorem gX (s:ByteArray):(bD s).length=s.size:=by simp [bD]
theorem FU (s:ByteArray):aj s.size 1 (fun (k x:Nat)=>AV.y (Value.int IntKind.u8 (↑(UInt8.toNat (List.getD s.data.toList k (0:UInt8))):Int))) (ah aJ (bD s)):=by
 intro k hk j hj
 obtain rfl:j=0:=by omega
 have hk2:k<s.data.toList.length:=by simpa using hk
 show qA (.y (.int .u8 ((s.data.toList.getD k 0).toNat:Int))) (.y (.int .u8 ((bD s).getD k default)))
 have:(bD s).getD k default=((s.data.toList.getD k 0).toNat:Int):=by
  unfold bD
  simp only [List.getD,List.getElem?_map]
  simp at hk2
  simp [hk2]
 rw [this]
 exact dn _
theorem aiV (r:kJ) (h1:r.lo.size<=1099511627776) (h2:r.hi.size<=1099511627776):(gQ (fU r)).Sat (aB Tryz.prog 63 [.agg (mG r)] []):=by
 refine aP (ht:=rgH r) Tryz.mixed rfl ?_
 rw [ZF r]
 unfold af3
 have a1:=iq (bD r.lo)
 have a2:=iq (bD r.hi)
 have b1:=gX r.lo
 have b2:=gX r.hi
 have c1:=FU r.lo
 have c2:=FU r.hi
 have e:(fU r).length=(aQ (bD r.lo)).length+(aQ (bD r.hi)).length:=by simp [fU]
 simp only [Nat.zero_add,sF]
 repeat' with_reducible apply And.intro
 all_goals first
  | with_reducible rfl
  | exact trivial
  | assumption
  | omega
  | (simp;omega)
  | exact aG _ _ _
structure RgOk (r:kJ):Prop where
 lo:r.lo.size<=1099511627776
 hi:r.hi.size<=1099511627776
noncomputable def rgC (r:kJ):dZ Tryz.prog:=⟨63,[.agg (mG r)],[],.need (RgOk r) (gQ (fU r)),T.Sat.need fun h=>aiV r h.lo h.hi⟩
structure Y9 (x:Rec):Prop where
 o:eZ x.off
 p:eZ x.prod
 s:eZ x.seq
 k:x.key.size<=1099511627776
 v:x.val.length<=1099511627776
theorem ah0 (x:Rec) (h:Y9 x):(gQ (iZ x)).Sat (aB Tryz.prog 120 [.agg (encR x)] []):=by
 refine aP (ht:=rcH x) Tryz.mixed rfl ?_
 rw [X_ x]
 unfold afe
 obtain ⟨h1,h2,h3,h4,h5⟩:=h
 have a1:=iq (bD x.key)
 have a2:=iq x.val
 have a3:=dF x.off
 have a4:=dF x.prod
 have a5:=dF x.seq
 have b1:=gX x.key
 have c1:=FU x.key
 have e:iZ x=au x.off++aQ (bD x.key)++aQ x.val++au x.prod++au x.seq:=rfl
 rw [e]
 simp only [Nat.zero_add,<- List.length_append,sF]
 repeat' with_reducible apply And.intro
 all_goals first
  | with_reducible rfl
  | exact trivial
  | assumption
  | omega
  | (simp;done)
  | (simp;omega)
  | exact aG _ _ _
noncomputable def rcC (x:Rec):dZ Tryz.prog:=⟨120,[.agg (encR x)],[],.need (Y9 x) (gQ (iZ x)),T.Sat.need fun h=>ah0 x h⟩
theorem aiE (b:Bool):(gQ (je b)).Sat (aB Tryz.prog 66 [.y (.bool b)] []):=by
 refine aP (ht:=hT _) Tryz.mixed rfl ?_
 rw [XC b]
 unfold af9
 have key:∀ v:Int,Gz 1 1 [AV.s (Value.int IntKind.u8 v)] (ah aJ [v]):=by
  intro v k hk j hj
  obtain rfl:k=0:=by omega
  obtain rfl:j=0:=by omega
  exact ⟨by simp [ah,aJ],rfl⟩
 cases b<;>simp [key]
noncomputable def boC (b:Bool):dZ Tryz.prog:=⟨66,[.y (.bool b)],[],gQ (je b),aiE b⟩
def rZ (l:List Rec) (k:Nat):List Int:=au (l.length:Int)++(l.take k).flatMap iZ
def lsT (b:Bool) (l:List Rec) (k:Nat):List AV:=mkT 23 [(0,dL b l),(3,.own 0 1 0 (rZ l k).length),(4,.y (.int .i64 k))]
def lsS (l:List Rec) (_:Unit):Exit×List AV×List ay:=(.exit 0,mkT 23 [(3,.own 0 1 0 (eB l).length)],[Jz (eB l)])
noncomputable def ah' (l:List Rec) (k:Nat):aC Tryz.prog:=hh _ bO (cs1 65 5 5 (rcC (l.getD k default)) bN) bM
def aaS (b:Bool) (l:List Rec) (k:{ k:Nat // k<=l.length }):Prop :=
 (decide ((k.val:Int)<(l.length:Int))=true->(true&&decide ((k.val:Int)<(l.length:Int)))=true/\(((l.getD (Int.toNat (k.val:Int)) default).off=(l.getD k.val default).off/\(l.getD (Int.toNat (k.val:Int)) default).key=(l.getD k.val default).key/\(true=true/\(l.getD (Int.toNat (k.val:Int)) default).val.length=(l.getD k.val default).val.length/\aj (l.getD (Int.toNat (k.val:Int)) default).val.length 1 (ah aJ (l.getD (Int.toNat (k.val:Int)) default).val) (ah aJ (l.getD k.val default).val))/\(l.getD (Int.toNat (k.val:Int)) default).prod=(l.getD k.val default).prod/\(l.getD (Int.toNat (k.val:Int)) default).seq=(l.getD k.val default).seq/\True)/\True)/\True/\Y9 (l.getD k.val default)/\(decide ((rZ l k.val).length=(rZ l k.val).length)&&decide ((rZ l k.val).length+(iZ (l.getD k.val default)).length<=9223372036854775807)&&decide (((rZ l k.val).length+(iZ (l.getD k.val default)).length)*1<=140737488355328))=true/\∃ (j:{ k:Nat // k<=l.length }),l.length - j.val<l.length - k.val/\(((b=b/\l.length=l.length/\aj l.length 5 (ah encR l) (ah encR l))/\(0=0/\(rZ l k.val).length+(iZ (l.getD k.val default)).length=(rZ l j.val).length)/\IntKind.i64.wrap ((k.val:Int)+1)=(j.val:Int)/\True)/\(((rZ l k.val).length+(iZ (l.getD k.val default)).length=(rZ l j.val).length/\aj ((rZ l k.val).length+(iZ (l.getD k.val default)).length) 1 (aY (rZ l k.val).length (ah aJ (rZ l k.val)) fun (k_1:Nat)=>ah aJ (iZ (l.getD k.val default)) (0+k_1)) (ah aJ (rZ l j.val)))/\True)/\true=true)/\true=true/\()=())/\(decide ((k.val:Int)<(l.length:Int))=false->((0=0/\(rZ l k.val).length=(eB l).length)/\True)/\(((rZ l k.val).length=(eB l).length/\aj (rZ l k.val).length 1 (ah aJ (rZ l k.val)) (ah aJ (eB l)))/\True)/\true=true)
theorem RU (b:Bool) (l:List Rec) (k:{ k:Nat // k<=l.length }):(bP Tryz.prog (ah' l k.1) 65 3 (fun (k:{ k:Nat // k<=l.length })=>l.length - k.1) (fun k=>lsT b l k.1) (fun k=>[Jz (rZ l k.1)]) [0,1,2,3,4,5] (fun _=>.ret ()) (lsS l) k)=aaS b l k:=by kernel_rfl
noncomputable def lsH (b:Bool) (l:List Rec):aC Tryz.prog:=hh _ (mU 65 3 (dM (fun (k:{ k:Nat // k<=l.length })=>lsT b l k.1) (fun k=>[Jz (rZ l k.1)]) [0,1,2,3,4,5] (fun _=>.ret ()) (lsS l) ⟨0,Nat.zero_le _⟩) bO) (cs1 65 1 3 (NW (l.length:Int)) bN) bM
def ae1 (b:Bool) (l:List Rec):Prop :=
 (IntKind.u64.wrap (l.length:Int)=(l.length:Int)/\True)/\True/\eZ (l.length:Int)/\(((b=b/\l.length=l.length/\aj l.length 5 (ah encR l) (ah encR l))/\(0=0/\(au (l.length:Int)).length=(rZ l 0).length)/\(0:Int)=0/\True)/\(((au (l.length:Int)).length=(rZ l 0).length/\aj (au (l.length:Int)).length 1 (ah aJ (au (l.length:Int))) (ah aJ (rZ l 0)))/\True)/\true=true)/\aL Tryz.prog 65 3 (aN Tryz.prog 65 3) { t:=lsT b l (⟨0,lsH._proof_1 l⟩:{ k:Nat // k<=l.length }).val,m:=[Jz (rZ l (⟨0,lsH._proof_1 l⟩:{ k:Nat // k<=l.length }).val)],mv:=[]:St } (T.map (bJ [0,1,2,3,4,5] (lsS l)) ((fun (x:{ k:Nat // k<=l.length })=>T.ret ()) (⟨0,lsH._proof_1 l⟩:{ k:Nat // k<=l.length })))/\(0=0/\(eB l).length=(eB l).length)/\((eB l).length=(eB l).length/\aj (eB l).length 1 (ah aJ (eB l)) (ah aJ (eB l)))/\True
theorem Yt (b:Bool) (l:List Rec):(bf Tryz.prog (lsH b l) 65 [dL b l] [] (gQ (eB l)))=ae1 b l:=by kernel_rfl
theorem Zz {α:Type} [Inhabited α] {l:List α} {k:Nat} (h:k<l.length):l.take (k+1)=l.take k++[l.getD k default]:=by
 rw [List.take_add_one,List.getElem?_eq_getElem h]
 simp [h]
theorem EI {α:Type} [Inhabited α] (f:α->List Int) {l:List α} {k:Nat} (h:k<l.length):(l.take (k+1)).flatMap f=(l.take k).flatMap f++f (l.getD k default):=by
 rw [Zz h,List.flatMap_append]
 simp
theorem Rh {α:Type} (f:α->List Int) (l:List α) (k:Nat):((l.take k).flatMap f).length<=(l.flatMap f).length:=by
 have h:l.flatMap f=(l.take k).flatMap f++(l.drop k).flatMap f:=by rw [<- List.flatMap_append,List.take_append_drop]
 rw [h,List.length_append]
 omega
structure Un (l:List Rec):Prop where
 n:l.length<=1099511627776
 b:(eB l).length<=17592186044416
 r:∀ k,k<l.length->Y9 (l.getD k default)
theorem acg (l:List Rec) (k:Nat):(rZ l k).length<=(eB l).length:=by
 have:=Rh iZ l k
 simp only [rZ,eB,List.length_append]
 omega
theorem R5 {l:List Rec} {k:Nat} (h:k<l.length):rZ l (k+1)=rZ l k++iZ (l.getD k default):=by
 unfold rZ
 rw [EI _ h,List.append_assoc]
theorem Xl (b:Bool) (l:List Rec) (h:Un l) (k:{ k:Nat // k<=l.length }):aL Tryz.prog 65 3 (aN Tryz.prog 65 3) ⟨lsT b l k.1,[Jz (rZ l k.1)],[]⟩ (T.map (bJ [0,1,2,3,4,5] (lsS l)) (.ret ())):=by
 refine dK (o:=fun _=>.ret ()) (sV:=fun (k:{ k:Nat // k<=l.length })=>lsT b l k.1) (stM:=fun k=>[Jz (rZ l k.1)]) Tryz.mixed (fun _=>rfl) (fun k=>(RU b l k).mpr ?_) k
 unfold aaS
 obtain ⟨k,hk⟩:=k
 have hn:=h.n
 by_cases hkl:k<l.length
 · have hr:=h.r k hkl
   have hex:∀ q:{ k:Nat // k<=l.length }->Prop,q ⟨k+1,hkl⟩->∃ j,q j:=fun q hq=>⟨_,hq⟩
   have hw:IntKind.i64.wrap ((k:Int)+1)=((k+1:Nat):Int):=by rw [wrap_i64 (by omega) (by omega)];omega
   have hs:=R5 hkl
   have hl:=acg l (k+1)
   have hb:=h.b
   rw [hs] at hl
   simp only [Int.toNat_natCast,Nat.zero_add,<- List.length_append,sF,<- hs] at *
   generalize l.getD k default=x at *
   refine ⟨fun _=>?_,fun h=>by simp at h;omega⟩
   repeat' with_reducible apply And.intro
   all_goals first
    | with_reducible rfl
    | exact trivial
    | assumption
    | omega
    | exact aG _ _ _
    | (simp;done)
    | (simp;omega)
    | (refine hex _ ?_;simp [hw];omega)
 · obtain rfl:k=l.length:=by omega
   refine ⟨fun h=>by simp at h,fun _=>?_⟩
   have e:rZ l l.length=eB l:=by unfold rZ eB;rw [List.take_length]
   simp [e]
theorem ajb (b:Bool) (l:List Rec) (h:Un l):(gQ (eB l)).Sat (aB Tryz.prog 65 [dL b l] []):=by
 refine aP (ht:=lsH b l) Tryz.mixed rfl ?_
 rw [Yt b l]
 unfold ae1
 have lp:=Xl b l h ⟨0,Nat.zero_le _⟩
 have hn:=h.n
 have hw:IntKind.u64.wrap (l.length:Int)=(l.length:Int):=wrap_u64 (by omega) (by omega)
 have hu:eZ (l.length:Int):=⟨by omega,by omega⟩
 have e:rZ l 0=au (l.length:Int):=by simp [rZ]
 refine ⟨⟨hw,trivial⟩,trivial,hu,?_,lp,⟨rfl,rfl⟩,⟨rfl,aG _ _ _⟩,trivial⟩
 simp [e]
noncomputable def lsC (b:Bool) (l:List Rec):dZ Tryz.prog:=⟨65,[dL b l],[],.need (Un l) (gQ (eB l)),T.Sat.need fun h=>ajb b l h⟩
def PY (b:Bool) (p:Part) (l:List Int):List ay:=[.box 30 (aX b p),Jz l]
def b1T (p:Part) (k:Nat):List AV:=mkT 97 [(1,.ptr 0 0 0 0),(3,.own 1 1 0 (iF p k).length),(4,.y (.int .i64 k))]
def b1S (b:Bool) (p:Part) (_:Unit):Exit×List AV×List ay:=(.exit 0,mkT 97 [(1,.ptr 0 0 0 0),(3,.own 1 1 0 (iF p p.prods.length).length)],PY b p (iF p p.prods.length))
noncomputable def b1H (p:Part) (k:Nat):aC Tryz.prog:=hh _ bO (cs1 17 9 3 (NW (p.prods.getD k default).id) (cs1 17 10 3 (NW (p.prods.getD k default).seq) (cs1 17 11 3 (boC (p.prods.getD k default).here) (cs1 17 12 3 (NW (p.prods.getD k default).offset) bN)))) bM
def bX:List Nat:=[0,1,2,3,4,5,6,7,8,9,10,11,12]
def agA (b:Bool) (p:Part) (k:{ k:Nat // k<=p.prods.length }):Prop :=
 (decide ((↑k.val:Int)<(↑(List.length p.prods):Int))=true->(true&&decide ((↑k.val:Int)<(↑(List.length p.prods):Int)))=true/\((List.getD p.prods (Int.toNat (↑k.val:Int)) (@default P.Producer P.instInhabitedProducer)).id=(List.getD p.prods k.val (@default P.Producer P.instInhabitedProducer)).id/\True)/\True/\eZ (List.getD p.prods k.val (@default P.Producer P.instInhabitedProducer)).id/\(decide (List.length (iF p k.val)=List.length (iF p k.val))&&decide (List.length (iF p k.val)+List.length (au (List.getD p.prods k.val (@default P.Producer P.instInhabitedProducer)).id)<=(9223372036854775807:Nat))&&decide ((List.length (iF p k.val)+List.length (au (List.getD p.prods k.val (@default P.Producer P.instInhabitedProducer)).id))*(1:Nat)<=(140737488355328:Nat)))=true/\((List.getD p.prods (Int.toNat (↑k.val:Int)) (@default P.Producer P.instInhabitedProducer)).seq=(List.getD p.prods k.val (@default P.Producer P.instInhabitedProducer)).seq/\True)/\True/\eZ (List.getD p.prods k.val (@default P.Producer P.instInhabitedProducer)).seq/\(decide (List.length (iF p k.val)+List.length (au (List.getD p.prods k.val (@default P.Producer P.instInhabitedProducer)).id)=List.length (iF p k.val)+List.length (au (List.getD p.prods k.val (@default P.Producer P.instInhabitedProducer)).id))&&decide (List.length (iF p k.val)+List.length (au (List.getD p.prods k.val (@default P.Producer P.instInhabitedProducer)).id)+List.length (au (List.getD p.prods k.val (@default P.Producer P.instInhabitedProducer)).seq)<=(9223372036854775807:Nat))&&decide ((List.length (iF p k.val)+List.length (au (List.getD p.prods k.val (@default P.Producer P.instInhabitedProducer)).id)+List.length (au (List.getD p.prods k.val (@default P.Producer P.instInhabitedProducer)).seq))*(1:Nat)<=(140737488355328:Nat)))=true/\((List.getD p.prods (Int.toNat (↑k.val:Int)) (@default P.Producer P.instInhabitedProducer)).here=(List.getD p.prods k.val (@default P.Producer P.instInhabitedProducer)).here/\True)/\True/\(decide (List.length (iF p k.val)+List.length (au (List.getD p.prods k.val (@default P.Producer P.instInhabitedProducer)).id)+List.length (au (List.getD p.prods k.val (@default P.Producer P.instInhabitedProducer)).seq)=List.length (iF p k.val)+List.length (au (List.getD p.prods k.val (@default P.Producer P.instInhabitedProducer)).id)+List.length (au (List.getD p.prods k.val (@default P.Producer P.instInhabitedProducer)).seq))&&decide (List.length (iF p k.val)+List.length (au (List.getD p.prods k.val (@default P.Producer P.instInhabitedProducer)).id)+List.length (au (List.getD p.prods k.val (@default P.Producer P.instInhabitedProducer)).seq)+List.length [if (List.getD p.prods k.val (@default P.Producer P.instInhabitedProducer)).here=true then (1:Int) else (0:Int)]<=(9223372036854775807:Nat))&&decide ((List.length (iF p k.val)+List.length (au (List.getD p.prods k.val (@default P.Producer P.instInhabitedProducer)).id)+List.length (au (List.getD p.prods k.val (@default P.Producer P.instInhabitedProducer)).seq)+List.length [if (List.getD p.prods k.val (@default P.Producer P.instInhabitedProducer)).here=true then (1:Int) else (0:Int)])*(1:Nat)<=(140737488355328:Nat)))=true/\((List.getD p.prods (Int.toNat (↑k.val:Int)) (@default P.Producer P.instInhabitedProducer)).offset=(List.getD p.prods k.val (@default P.Producer P.instInhabitedProducer)).offset/\True)/\True/\eZ (List.getD p.prods k.val (@default P.Producer P.instInhabitedProducer)).offset/\(decide (List.length (iF p k.val)+List.length (au (List.getD p.prods k.val (@default P.Producer P.instInhabitedProducer)).id)+List.length (au (List.getD p.prods k.val (@default P.Producer P.instInhabitedProducer)).seq)+List.length [if (List.getD p.prods k.val (@default P.Producer P.instInhabitedProducer)).here=true then (1:Int) else (0:Int)]=List.length (iF p k.val)+List.length (au (List.getD p.prods k.val (@default P.Producer P.instInhabitedProducer)).id)+List.length (au (List.getD p.prods k.val (@default P.Producer P.instInhabitedProducer)).seq)+List.length [if (List.getD p.prods k.val (@default P.Producer P.instInhabitedProducer)).here=true then (1:Int) else (0:Int)])&&decide (List.length (iF p k.val)+List.length (au (List.getD p.prods k.val (@default P.Producer P.instInhabitedProducer)).id)+List.length (au (List.getD p.prods k.val (@default P.Producer P.instInhabitedProducer)).seq)+List.length [if (List.getD p.prods k.val (@default P.Producer P.instInhabitedProducer)).here=true then (1:Int) else (0:Int)]+List.length (au (List.getD p.prods k.val (@default P.Producer P.instInhabitedProducer)).offset)<=(9223372036854775807:Nat))&&decide ((List.length (iF p k.val)+List.length (au (List.getD p.prods k.val (@default P.Producer P.instInhabitedProducer)).id)+List.length (au (List.getD p.prods k.val (@default P.Producer P.instInhabitedProducer)).seq)+List.length [if (List.getD p.prods k.val (@default P.Producer P.instInhabitedProducer)).here=true then (1:Int) else (0:Int)]+List.length (au (List.getD p.prods k.val (@default P.Producer P.instInhabitedProducer)).offset))*(1:Nat)<=(140737488355328:Nat)))=true/\∃ (j:{ k:Nat // k<=List.length p.prods }),List.length p.prods - j.val<List.length p.prods - k.val/\((((0:Nat)=(0:Nat)/\(0:Nat)=(0:Nat))/\((0:Nat)=(0:Nat)/\List.length (iF p k.val)+List.length (au (List.getD p.prods k.val (@default P.Producer P.instInhabitedProducer)).id)+List.length (au (List.getD p.prods k.val (@default P.Producer P.instInhabitedProducer)).seq)+List.length [if (List.getD p.prods k.val (@default P.Producer P.instInhabitedProducer)).here=true then (1:Int) else (0:Int)]+List.length (au (List.getD p.prods k.val (@default P.Producer P.instInhabitedProducer)).offset)=List.length (iF p j.val))/\IntKind.wrap IntKind.i64 ((↑k.val:Int)+(1:Int))=(↑j.val:Int)/\True)/\((bQ b b p p)/\(List.length (iF p k.val)+List.length (au (List.getD p.prods k.val (@default P.Producer P.instInhabitedProducer)).id)+List.length (au (List.getD p.prods k.val (@default P.Producer P.instInhabitedProducer)).seq)+List.length [if (List.getD p.prods k.val (@default P.Producer P.instInhabitedProducer)).here=true then (1:Int) else (0:Int)]+List.length (au (List.getD p.prods k.val (@default P.Producer P.instInhabitedProducer)).offset)=List.length (iF p j.val)/\aj (List.length (iF p k.val)+List.length (au (List.getD p.prods k.val (@default P.Producer P.instInhabitedProducer)).id)+List.length (au (List.getD p.prods k.val (@default P.Producer P.instInhabitedProducer)).seq)+List.length [if (List.getD p.prods k.val (@default P.Producer P.instInhabitedProducer)).here=true then (1:Int) else (0:Int)]+List.length (au (List.getD p.prods k.val (@default P.Producer P.instInhabitedProducer)).offset)) (1:Nat) (aY (List.length (iF p k.val)+List.length (au (List.getD p.prods k.val (@default P.Producer P.instInhabitedProducer)).id)+List.length (au (List.getD p.prods k.val (@default P.Producer P.instInhabitedProducer)).seq)+List.length [if (List.getD p.prods k.val (@default P.Producer P.instInhabitedProducer)).here=true then (1:Int) else (0:Int)]) (aY (List.length (iF p k.val)+List.length (au (List.getD p.prods k.val (@default P.Producer P.instInhabitedProducer)).id)+List.length (au (List.getD p.prods k.val (@default P.Producer P.instInhabitedProducer)).seq)) (aY (List.length (iF p k.val)+List.length (au (List.getD p.prods k.val (@default P.Producer P.instInhabitedProducer)).id)) (aY (List.length (iF p k.val)) (ah aJ (iF p k.val)) fun (k_1:Nat)=>ah aJ (au (List.getD p.prods k.val (@default P.Producer P.instInhabitedProducer)).id) ((0:Nat)+k_1)) fun (k_1:Nat)=>ah aJ (au (List.getD p.prods k.val (@default P.Producer P.instInhabitedProducer)).seq) ((0:Nat)+k_1)) fun (k_1:Nat)=>ah aJ [if (List.getD p.prods k.val (@default P.Producer P.instInhabitedProducer)).here=true then (1:Int) else (0:Int)] ((0:Nat)+k_1)) fun (k_1:Nat)=>ah aJ (au (List.getD p.prods k.val (@default P.Producer P.instInhabitedProducer)).offset) ((0:Nat)+k_1)) (ah aJ (iF p j.val)))/\True)/\true=true)/\true=true/\()=())/\(decide ((↑k.val:Int)<(↑(List.length p.prods):Int))=false->(((0:Nat)=(0:Nat)/\(0:Nat)=(0:Nat))/\((0:Nat)=(0:Nat)/\List.length (iF p k.val)=List.length (iF p (List.length p.prods)))/\True)/\((bQ b b p p)/\(List.length (iF p k.val)=List.length (iF p (List.length p.prods))/\aj (List.length (iF p k.val)) (1:Nat) (ah aJ (iF p k.val)) (ah aJ (iF p (List.length p.prods))))/\True)/\true=true)
theorem XK (b:Bool) (p:Part) (k:{ k:Nat // k<=p.prods.length }):(bP Tryz.prog (b1H p k.1) 17 6 (fun (k:{ k:Nat // k<=p.prods.length })=>p.prods.length - k.1) (fun k=>b1T p k.1) (fun k=>PY b p (iF p k.1)) bX (fun _=>.ret ()) (b1S b p) k)=agA b p k:=by kernel_rfl
def b2T (p:Part) (k:Nat):List AV:=mkT 97 [(1,.ptr 0 0 0 0),(3,.own 1 1 0 (mR p k).length),(6,.y (.int .i64 k))]
def b2S (b:Bool) (p:Part) (_:Unit):Exit×List AV×List ay:=(.exit 2,mkT 97 [(3,.own 1 1 0 (dA p).length)],PY b p (dA p))
noncomputable def b2H (p:Part) (k:Nat):aC Tryz.prog:=hh _ bO (cs1 17 17 8 (txC true (bD (p.cons.getD k default).name)) (cs1 17 18 7 (NW (p.cons.getD k default).off) bN)) bM
def ahB (b:Bool) (p:Part) (k:{ k:Nat // k<=p.cons.length }):Prop :=
 (decide ((k.val:Int)<(p.cons.length:Int))=true->(true&&decide ((k.val:Int)<(p.cons.length:Int)))=true/\((true=true/\ByteArray.size (p.cons.getD (Int.toNat (k.val:Int)) default).name=(bD (p.cons.getD k.val default).name).length/\aj (ByteArray.size (p.cons.getD (Int.toNat (k.val:Int)) default).name) 1 (fun (k_1 x:Nat)=>AV.y (.int .u8 ((UInt8.toNat ((p.cons.getD (Int.toNat (k.val:Int)) default).name.data.toList.getD k_1 (0:UInt8))):Int))) (ah aJ (bD (p.cons.getD k.val default).name)))/\True)/\True/\(bD (p.cons.getD k.val default).name).length<=1099511627776/\(decide ((mR p k.val).length=(mR p k.val).length)&&decide ((mR p k.val).length+(aQ (bD (p.cons.getD k.val default).name)).length<=9223372036854775807)&&decide (((mR p k.val).length+(aQ (bD (p.cons.getD k.val default).name)).length)*1<=140737488355328))=true/\(true&&decide ((k.val:Int)<(p.cons.length:Int)))=true/\((p.cons.getD (Int.toNat (k.val:Int)) default).off=(p.cons.getD k.val default).off/\True)/\True/\eZ (p.cons.getD k.val default).off/\(decide ((mR p k.val).length+(aQ (bD (p.cons.getD k.val default).name)).length=(mR p k.val).length+(aQ (bD (p.cons.getD k.val default).name)).length)&&decide ((mR p k.val).length+(aQ (bD (p.cons.getD k.val default).name)).length+(au (p.cons.getD k.val default).off).length<=9223372036854775807)&&decide (((mR p k.val).length+(aQ (bD (p.cons.getD k.val default).name)).length+(au (p.cons.getD k.val default).off).length)*1<=140737488355328))=true/\∃ (j:{ k:Nat // k<=p.cons.length }),p.cons.length - j.val<p.cons.length - k.val/\(((0=0/\0=0)/\(0=0/\(mR p k.val).length+(aQ (bD (p.cons.getD k.val default).name)).length+(au (p.cons.getD k.val default).off).length=(mR p j.val).length)/\IntKind.i64.wrap ((k.val:Int)+1)=(j.val:Int)/\True)/\((bQ b b p p)/\((mR p k.val).length+(aQ (bD (p.cons.getD k.val default).name)).length+(au (p.cons.getD k.val default).off).length=(mR p j.val).length/\aj ((mR p k.val).length+(aQ (bD (p.cons.getD k.val default).name)).length+(au (p.cons.getD k.val default).off).length) 1 (aY ((mR p k.val).length+(aQ (bD (p.cons.getD k.val default).name)).length) (aY (mR p k.val).length (ah aJ (mR p k.val)) fun (k_1:Nat)=>ah aJ (aQ (bD (p.cons.getD k.val default).name)) (0+k_1)) fun (k_1:Nat)=>ah aJ (au (p.cons.getD k.val default).off) (0+k_1)) (ah aJ (mR p j.val)))/\True)/\true=true)/\true=true/\()=())/\(decide ((k.val:Int)<(p.cons.length:Int))=false->((0=0/\(mR p k.val).length=(dA p).length)/\True)/\((bQ b b p p)/\((mR p k.val).length=(dA p).length/\aj (mR p k.val).length 1 (ah aJ (mR p k.val)) (ah aJ (dA p)))/\True)/\true=true)
theorem Zn (b:Bool) (p:Part) (k:{ k:Nat // k<=p.cons.length }):(bP Tryz.prog (b2H p k.1) 17 15 (fun (k:{ k:Nat // k<=p.cons.length })=>p.cons.length - k.1) (fun k=>b2T p k.1) (fun k=>PY b p (mR p k.1)) bX (fun _=>.ret ()) (b2S b p) k)=ahB b p k:=by kernel_rfl
noncomputable def byH (b:Bool) (p:Part):aC Tryz.prog:=hh _ (mU 17 6 (dM (fun (k:{ k:Nat // k<=p.prods.length })=>b1T p k.1) (fun k=>PY b p (iF p k.1)) bX (fun _=>.ret ()) (b1S b p) ⟨0,Nat.zero_le _⟩) (mU 17 15 (dM (fun (k:{ k:Nat // k<=p.cons.length })=>b2T p k.1) (fun k=>PY b p (mR p k.1)) bX (fun _=>.ret ()) (b2S b p) ⟨0,Nat.zero_le _⟩) bO))
 (cs1 17 1 2 (rgC p.rng) (cs1 17 1 5 (NW p.epoch) (cs1 17 2 3 (NW p.frozen) (cs1 17 3 3 (lsC b p.recs) (cs1 17 4 5 (NW (p.prods.length:Int)) (cs1 17 13 5 (NW (p.cons.length:Int)) bN)))))) bM
structure Fh (p:Part):Prop where
 rg:RgOk p.rng
 ep:eZ p.epoch
 fr:eZ p.frozen
 ls:Un p.recs
 pn:p.prods.length<=1099511627776
 cn:p.cons.length<=1099511627776
 n:(dA p).length<=70368744177664
 pr:∀ k,k<p.prods.length->eZ (p.prods.getD k default).id/\eZ (p.prods.getD k default).seq/\eZ (p.prods.getD k default).offset
 co:∀ k,k<p.cons.length->(p.cons.getD k default).name.size<=1099511627776/\eZ (p.cons.getD k default).off
theorem Kz (p:Part) (k:Nat):(iF p k).length<=(dA p).length:=by
 have:=Rh jL p.prods k
 simp only [dA,mR,iF,List.length_append,List.take_length]
 omega
theorem VW (p:Part) (k:Nat):(mR p k).length<=(dA p).length:=by
 have:=Rh pU p.cons k
 simp only [dA,mR,List.length_append,List.take_length]
 omega
theorem S9 {p:Part} {k:Nat} (h:k<p.prods.length):iF p (k+1)=iF p k++au (p.prods.getD k default).id++au (p.prods.getD k default).seq++je (p.prods.getD k default).here++au (p.prods.getD k default).offset:=by
 unfold iF
 rw [EI _ h]
 simp only [jL,List.append_assoc]
theorem Ub {p:Part} {k:Nat} (h:k<p.cons.length):mR p (k+1)=mR p k++aQ (bD (p.cons.getD k default).name)++au (p.cons.getD k default).off:=by
 unfold mR
 rw [EI _ h]
 simp only [pU,List.append_assoc]
attribute [local irreducible] iF mR dA fU eB au aQ bD je PU
theorem acu (b:Bool):je b=[if b=true then 1 else 0]:=by unfold je;rfl
theorem Yb (b:Bool) (p:Part) (h:Fh p) (k:{ k:Nat // k<=p.prods.length }):aL Tryz.prog 17 6 (aN Tryz.prog 17 6) ⟨b1T p k.1,PY b p (iF p k.1),[]⟩ (T.map (bJ bX (b1S b p)) (.ret ())):=by
 refine dK (o:=fun _=>.ret ()) (sV:=fun (k:{ k:Nat // k<=p.prods.length })=>b1T p k.1) (stM:=fun k=>PY b p (iF p k.1)) Tryz.mixed (fun _=>rfl) (fun k=>(XK b p k).mpr ?_) k
 unfold agA
 obtain ⟨k,hk⟩:=k
 have hn:=h.n
 have hpn:=h.pn
 by_cases hkl:k<p.prods.length
 · obtain ⟨r1,r2,r3⟩:=h.pr k hkl
   have hex:∀ q:{ k:Nat // k<=p.prods.length }->Prop,q ⟨k+1,hkl⟩->∃ j,q j:=fun q hq=>⟨_,hq⟩
   have hw:IntKind.i64.wrap ((k:Int)+1)=((k+1:Nat):Int):=by rw [wrap_i64 (by omega) (by omega)];omega
   have hs:=S9 hkl
   have hl:=Kz p k
   simp only [Int.toNat_natCast,Nat.zero_add,<- List.length_append,sF] at *
   generalize p.prods.getD k default=x at *
   have l1:=dF x.id
   have l2:=dF x.seq
   have l3:=dF x.offset
   have l4:=acu x.here
   rw [l4] at hs
   clear l4
   have hs':(iF p (k+1)).length=(iF p k).length+(au x.id).length+(au x.seq).length+1+(au x.offset).length:=by rw [hs];simp;omega
   refine ⟨fun _=>?_,fun h=>by simp at h;omega⟩
   repeat' with_reducible apply And.intro
   all_goals first
    | with_reducible rfl
    | exact trivial
    | assumption
    | omega
    | exact aG _ _ _
    | (simp;done)
    | (simp;omega)
    | (refine hex _ ?_
       rw [<- hs]
       simp [hw]
       omega)
 · obtain rfl:k=p.prods.length:=by omega
   refine ⟨fun h=>by simp at h,fun _=>?_⟩
   simp
theorem aag (b:Bool) (p:Part) (h:Fh p) (k:{ k:Nat // k<=p.cons.length }):aL Tryz.prog 17 15 (aN Tryz.prog 17 15) ⟨b2T p k.1,PY b p (mR p k.1),[]⟩ (T.map (bJ bX (b2S b p)) (.ret ())):=by
 refine dK (o:=fun _=>.ret ()) (sV:=fun (k:{ k:Nat // k<=p.cons.length })=>b2T p k.1) (stM:=fun k=>PY b p (mR p k.1)) Tryz.mixed (fun _=>rfl) (fun k=>(Zn b p k).mpr ?_) k
 unfold ahB
 obtain ⟨k,hk⟩:=k
 have hn:=h.n
 have hcn:=h.cn
 by_cases hkl:k<p.cons.length
 · obtain ⟨r1,r2⟩:=h.co k hkl
   have hex:∀ q:{ k:Nat // k<=p.cons.length }->Prop,q ⟨k+1,hkl⟩->∃ j,q j:=fun q hq=>⟨_,hq⟩
   have hw:IntKind.i64.wrap ((k:Int)+1)=((k+1:Nat):Int):=by rw [wrap_i64 (by omega) (by omega)];omega
   have hs:=Ub hkl
   have hl:=VW p k
   simp only [Int.toNat_natCast,Nat.zero_add,<- List.length_append,sF] at *
   generalize p.cons.getD k default=x at *
   have l1:=dF x.off
   have l2:=iq (bD x.name)
   have l3:=gX x.name
   have c1:=FU x.name
   have hs':(mR p (k+1)).length=(mR p k).length+(aQ (bD x.name)).length+(au x.off).length:=by rw [hs];simp;omega
   refine ⟨fun _=>?_,fun h=>by simp at h;omega⟩
   repeat' with_reducible apply And.intro
   all_goals first
    | with_reducible rfl
    | exact trivial
    | assumption
    | omega
    | exact aG _ _ _
    | (simp;done)
    | (simp;omega)
    | (refine hex _ ?_
       rw [<- hs]
       simp [hw]
       omega)
 · obtain rfl:k=p.cons.length:=by omega
   refine ⟨fun h=>by simp at h,fun _=>?_⟩
   simp [dA]
end Q
namespace D
theorem AA {α:Type} {P:List α->Prop} (h0:P []) (h1:∀ l x,P l->P (l++[x])) (l:List α):P l:=by
 rw [<- List.reverse_reverse l]
 induction l.reverse with
 | nil=>exact h0
 | cons x r ih=>rw [List.reverse_cons];exact h1 _ _ ih
theorem kX (s:Kn) (a b x:Int):Kn.sel (Kn.put s a b) x=if a=x then b else Kn.sel s x:=by
 unfold Kn.sel Kn.put jI yL zL
 by_cases h:a=x
 · simp [h]
 · simp [h]
theorem Nh (l:List Rec) (x:Rec):kF (l++[x])=(kF l).put x.prod x.seq:=by simp [kF]
theorem NC (l:List Rec) (a:Int):(Kn.sel (kF l) a=0/\∀ x∈l,x.prod≠a)∨∃ x∈l,x.prod=a/\Kn.sel (kF l) a=x.seq:=by
 refine AA (P:=fun l=>(Kn.sel (kF l) a=0/\∀ x∈l,x.prod≠a)∨∃ x∈l,x.prod=a/\Kn.sel (kF l) a=x.seq) ?_ ?_ l
 · exact .inl ⟨rfl,fun x hx=>by cases hx⟩
 · intro l x ih
   rw [Nh,kX]
   by_cases h:x.prod=a
   · rw [if_pos h];exact .inr ⟨x,by simp,h,rfl⟩
   · rw [if_neg h]
     rcases ih with ⟨h1,h2⟩ | ⟨y,h1,h2,h3⟩
     · refine .inl ⟨h1,fun y hy=>?_⟩
       rcases List.mem_append.1 hy with hy | hy
       · exact h2 y hy
       · simp at hy;subst hy;exact h
     · exact .inr ⟨y,by simp [h1],h2,h3⟩
def up1 (x y:Rec):Prop:=x.prod=y.prod->x.seq<y.seq
def aht (g:kJ) (K:Kn) (x:Rec):Prop:=fZ g x.key=true/\0<x.seq/\x.seq<=Kn.sel K x.prod
def BM (g:kJ) (K:Kn) (l:List Rec):Prop:=(∀ x∈l,aht g K x)/\l.Pairwise up1
theorem Kg (p:Part):∀ n k,p.recs.length - k=n->(bI p k=true↔∀ j,k<=j->j<p.recs.length->okO p j=true):=by
 intro n
 induction n with
 | zero =>
   intro k hk
   rw [uF (by omega)]
   exact ⟨fun _ j h1 h2=>by omega,fun _=>rfl⟩
 | succ n ih =>
   intro k hk
   rw [rJ (by omega),Bool.and_eq_true,ih (k+1) (by omega)]
   constructor
   · rintro ⟨h1,h2⟩ j h3 h4
     rcases Nat.eq_or_lt_of_le h3 with rfl | h5
     · exact h1
     · exact h2 j h5 h4
   · intro h
     exact ⟨h k (Nat.le_refl _) (by omega),fun j h1 h2=>h j (by omega) h2⟩
theorem Mc {p:Part} {k:Nat} (h:k<p.recs.length):okO p k=true↔fZ p.rng p.recs[k].key=true/\Kn.sel (kF (p.recs.take k)) p.recs[k].prod<p.recs[k].seq/\p.recs[k].seq<=Kn.sel (jf p.prods) p.recs[k].prod:=by
 unfold okO
 simp [List.getElem?_eq_getElem h]
theorem acz {g:kJ} {K:Kn}:∀ {l:List Rec},BM g K l->∀ x∈l,x.seq<=Kn.sel (kF l) x.prod:=by
 intro l
 refine AA (P:=fun l=>BM g K l->∀ x∈l,x.seq<=Kn.sel (kF l) x.prod) ?_ ?_ l
 · intro _ x hx;cases hx
 · intro l y ih h x hx
   rw [Nh,kX]
   have h2:BM g K l:=⟨fun z hz=>h.1 z (by simp [hz]),(List.pairwise_append.1 h.2).1⟩
   have h3:=(List.pairwise_append.1 h.2).2.2
   rcases List.mem_append.1 hx with hx | hx
   · by_cases e:y.prod=x.prod
     · rw [if_pos e]
       have:=h3 x hx y (by simp) e.symm
       omega
     · rw [if_neg e];exact ih h2 x hx
   · simp at hx;subst hx;rw [if_pos rfl];exact Int.le_refl _
theorem TY {p:Part} (h:∀ j,j<p.recs.length->okO p j=true):∀ k,k<=p.recs.length->BM p.rng (jf p.prods) (p.recs.take k):=by
 intro k
 induction k with
 | zero=>intro _;exact ⟨fun x hx=>by simp at hx,by simp⟩
 | succ k ih =>
   intro hk
   have ih:=ih (by omega)
   obtain ⟨o1,o2,o3⟩:=(Mc (by omega)).1 (h k (by omega))
   rw [List.take_add_one,List.getElem?_eq_getElem (by omega)]
   have hs:∀ x∈p.recs.take k,x.prod=p.recs[k].prod->x.seq<p.recs[k].seq:=fun x hx e=>by
    have:=acz ih x hx
    rw [e] at this
    omega
   have h0:0<p.recs[k].seq:=by
    rcases NC (p.recs.take k) p.recs[k].prod with ⟨q,_⟩ | ⟨x,hx,hx2,q⟩
    · omega
    · have:=(ih.1 x hx).2.1
      omega
   refine ⟨fun x hx=>?_,?_⟩
   · rcases List.mem_append.1 hx with hx | hx
     · exact ih.1 x hx
     · simp at hx;subst hx;exact ⟨o1,h0,o3⟩
   · refine List.pairwise_append.2 ⟨ih.2,by simp,fun x hx y hy=>?_⟩
     simp at hy;subst hy
     exact hs x hx
theorem Qm (p:Part):bI p 0=true↔BM p.rng (jf p.prods) p.recs:=by
 rw [Kg p _ 0 rfl]
 constructor
 · intro h
   have:=TY (fun j hj=>h j (Nat.zero_le _) hj) p.recs.length (Nat.le_refl _)
   rwa [List.take_length] at this
 · intro h j _ hj
   have hx:=h.1 p.recs[j] (List.getElem_mem hj)
   refine (Mc hj).2 ⟨hx.1,?_,hx.2.2⟩
   rcases NC (p.recs.take j) p.recs[j].prod with ⟨q,_⟩ | ⟨x,h1,h2,q⟩
   · have:=hx.2.1;omega
   · rw [q]
     have hp:=h.2
     rw [<- List.take_append_drop j p.recs] at hp
     refine (List.pairwise_append.1 hp).2.2 x h1 _ ?_ h2
     rw [List.mem_iff_getElem]
     exact ⟨0,by simp;omega,by simp⟩
theorem qW (l:List Rec):aU l 0=true↔∀ k,k<l.length->VA (l.getD k default) k=true:=by
 unfold aU
 rw [List.all_eq_true]
 constructor
 · intro h k hk;exact h k (by simp;omega)
 · intro h k hk
   simp at hk
   exact h k (by omega)
theorem aaq {l:List Rec} (h:bG l=true):∀ x∈l,x.key.size<=32/\x.val.length<=256:=by
 intro x hx
 obtain ⟨k,hk,rfl⟩:=List.mem_iff_getElem.1 hx
 simp only [bG,Bool.and_eq_true] at h
 have:=(qW l).1 h.1 k hk
 simp [VA,hk] at this
 exact ⟨by omega,by omega⟩
theorem MR (l:List Con) (to:List Int) (h:to.length≠0):(Te l to l.length).length=l.length:=by
 simp [Te,h]
theorem QW {l:List Con} {to:List Int} (h:to.length≠0) {k:Nat} (hk:k<l.length):(Te l to l.length).getD k default=afd to (l.getD k default):=by
 simp [Te,h,hk]
theorem uZ (l:List Con):bR l 0=true↔∀ k,k<l.length->yM l k=true:=by
 unfold bR
 rw [List.all_eq_true]
 constructor
 · intro h k hk;exact h k (by simp;omega)
 · intro h k hk
   simp at hk
   exact h k (by omega)
theorem map_cons {l:List Con} {to:List Int} (ht:to.length≠0) (h:bW l=true):bW (Te l to l.length)=true:=by
 simp only [bW,Bool.and_eq_true,decide_eq_true_eq] at h ⊢
 rw [MR l to ht]
 refine ⟨(uZ _).2 fun k hk=>?_,h.2⟩
 rw [MR l to ht] at hk
 have h1:=(uZ _).1 h.1 k hk
 unfold yM at *
 rw [QW ht hk]
 by_cases h0:0<k
 · rw [QW ht (show k - 1<l.length by omega)]
   exact h1
 · simp only [h0,decide_false,Bool.false_and] at h1 ⊢
   exact h1
theorem uR {p:Part} {x:P.Producer}:cB p x=false↔(x.here=true->x.offset<p.recs.length/\(p.recs.getD x.offset.toNat default).prod=x.id/\(p.recs.getD x.offset.toNat default).seq=x.seq):=by
 unfold cB
 generalize p.recs.getD x.offset.toNat default=y
 cases hh:x.here
 · simp
 · simp only [Bool.true_and,Bool.or_eq_false_iff,decide_eq_false_iff_not,bne_eq_false_iff_eq,forall_const]
   constructor
   · rintro ⟨a,b,c⟩;exact ⟨by omega,b,c⟩
   · rintro ⟨a,b,c⟩;exact ⟨by omega,b,c⟩
theorem Gg {p:Part}:p.prods.any (cB p)=false↔∀ x∈p.prods,cB p x=false:=by
 rw [List.any_eq_false]
 constructor
 · intro h x hx;simpa using h x hx
 · intro h x hx;simp [h x hx]
def BD (p:Part) (f:Int):Part:=⟨p.rng,p.epoch,f,p.recs,p.prods,p.cons⟩
theorem Ka (a:List P.Producer):P.kR a a=true:=by
 unfold P.kR P.dP
 simp [P.eqP]
end D
namespace Q
open H D
structure vo (p:Part):Prop where
 rl:p.recs.length<=4611686018427387903
 pl:p.prods.length<=4611686018427387903
 cl:p.cons.length<=4611686018427387903
end Q
namespace V
def B_ (l:List Rec) (x:Rec):Int:=if bG l=false then 1 else if 32<x.key.size then 131 else if 256<x.val.length then 144 else if l.length=4096 then 143 else 0
def sO (l:List Rec) (x:Rec):List Rec:=if B_ l x=0 then l++[x.to (IntKind.u64.wrap l.length)] else []
def xH (l:List Rec) (x:Rec):Int:=if B_ l x=0 then IntKind.u64.wrap l.length else 0
def vrT (l:List Rec) (x:Rec):T An:=.ret (.tup [.own 0 5 0 (sO l x).length,.y (.int .u64 (xH l x)),.y (.int .i64 (B_ l x))],[OJ (sO l x)],[])
noncomputable def vrH (b:Bool) (l:List Rec) (x:Rec):aC Tryz.prog:=dO (hh _ bO (cs1 121 1 1 (lrC b l) (cs1 121 11 4 (atC x l.length) bN))
 (op1 121 3 0 (.row 54 5) (op1 121 5 0 (.row 54 5) (op1 121 7 0 (.row 54 5) (op1 121 9 0 (.row 54 5) bM))))) noSh
def ae4 (b:Bool) (l:List Rec) (x:Rec):Prop :=
 ((b=b/\l.length=l.length/\aj l.length 5 (ah encR l) (ah encR l))/\True)/\True/\l.length<=9223372036854775806/\((!bG l)=true->((0=0/\0=(sO l x).length)/\0=xH l x/\1=B_ l x/\True)/\(0=(sO l x).length/\aj 0 5 (fun (x x_2:Nat)=>AV.junk) (ah encR (sO l x)))/\True)/\((!bG l)=false->(decide (32<((ByteArray.size x.key):Int))=true->((0=0/\0=(sO l x).length)/\0=xH l x/\131=B_ l x/\True)/\(0=(sO l x).length/\aj 0 5 (fun (x x_3:Nat)=>AV.junk) (ah encR (sO l x)))/\True)/\(decide (32<((ByteArray.size x.key):Int))=false->(decide (256<(x.val.length:Int))=true->((0=0/\0=(sO l x).length)/\0=xH l x/\144=B_ l x/\True)/\(0=(sO l x).length/\aj 0 5 (fun (x x_4:Nat)=>AV.junk) (ah encR (sO l x)))/\True)/\(decide (256<(x.val.length:Int))=false->(decide (4096<=(l.length:Int))=true->((0=0/\0=(sO l x).length)/\0=xH l x/\143=B_ l x/\True)/\(0=(sO l x).length/\aj 0 5 (fun (x x_5:Nat)=>AV.junk) (ah encR (sO l x)))/\True)/\(decide (4096<=(l.length:Int))=false->(decide (0+l.length<=9223372036854775807)&&decide ((0+l.length)*64<=140737488355328))=true/\((x.off=x.off/\x.key=x.key/\(lu x.val x.val)/\x.prod=x.prod/\x.seq=x.seq/\True)/\(l.length:Int)=(l.length:Int)/\True)/\True/\x.val.length<=140737488355328/\(decide (0+l.length=0+l.length)&&decide (0+l.length+1<=9223372036854775807)&&decide ((0+l.length+1)*64<=140737488355328))=true/\((0=0/\0+l.length+1=(sO l x).length)/\IntKind.u64.wrap (l.length:Int)=xH l x/\0=B_ l x/\True)/\(0+l.length+1=(sO l x).length/\aj (0+l.length+1) 5 (aY (0+l.length) (aY 0 (fun (k j:Nat)=>AV.junk) (ah encR l)) fun (k j:Nat)=>Ax.get [AV.y (.int .u64 (IntKind.u64.wrap (l.length:Int))),AV.y (.string x.key),AV.ys true 1 x.val.length (ah aJ x.val),AV.y (.int .u64 x.prod),AV.y (.int .u64 x.seq)] (k*5+j)) (ah encR (sO l x)))/\True))))
theorem Y2 (b:Bool) (l:List Rec) (x:Rec):(bf Tryz.prog (vrH b l x) 121 [dL b l,.agg (encR x)] [] (vrT l x))=ae4 b l x:=by kernel_rfl
def Ed (l:List Rec) (o:Int):Int:=if bG l=false then 1 else if (l.length:Int)<o then 141 else 0
def JK (l:List Rec) (o m:Int):Int:=min (min (max m 0) 64) ((l.length:Int) - o)
def xE (l:List Rec) (o m:Int):List Rec:=if Ed l o=0 then (l.drop o.toNat).take (JK l o m).toNat else []
def vfT (l:List Rec) (o m:Int):T An:=.ret (.tup [.own 0 5 0 (xE l o m).length,.y (.int .i64 (Ed l o))],[OJ (xE l o m)],[])
noncomputable def vfH (b:Bool) (l:List Rec) (o m:Int):aC Tryz.prog:=dO (hh _ bO (cs1 71 1 1 (lrC b l) bN)
 (op1 71 3 0 (.row 54 5) (op1 71 5 0 (.row 54 5) bM))) noSh
def afg (b:Bool) (l:List Rec) (o:Int) (m:Int):Prop :=
 ((b=b/\l.length=l.length/\aj l.length 5 (ah encR l) (ah encR l))/\True)/\True/\l.length<=9223372036854775806/\((!bG l)=true->((0=0/\0=(xE l o m).length)/\1=Ed l o/\True)/\(0=(xE l o m).length/\aj 0 5 (fun (x x_1:Nat)=>AV.junk) (ah encR (xE l o m)))/\True)/\((!bG l)=false->(decide (IntKind.u64.wrap (l.length:Int)<o)=true->((0=0/\0=(xE l o m).length)/\141=Ed l o/\True)/\(0=(xE l o m).length/\aj 0 5 (fun (x x_1:Nat)=>AV.junk) (ah encR (xE l o m)))/\True)/\(decide (IntKind.u64.wrap (l.length:Int)<o)=false->(decide (0<=IntKind.i64.wrap o)&&decide (IntKind.i64.wrap o<=IntKind.i64.wrap (IntKind.i64.wrap o+if IntKind.i64.wrap ((l.length:Int) - IntKind.i64.wrap o)<if 64<if 0 > m then 0 else m then 64 else if 0 > m then 0 else m then IntKind.i64.wrap ((l.length:Int) - IntKind.i64.wrap o) else if 64<if 0 > m then 0 else m then 64 else if 0 > m then 0 else m))&&decide (IntKind.i64.wrap (IntKind.i64.wrap o+if IntKind.i64.wrap ((l.length:Int) - IntKind.i64.wrap o)<if 64<if 0 > m then 0 else m then 64 else if 0 > m then 0 else m then IntKind.i64.wrap ((l.length:Int) - IntKind.i64.wrap o) else if 64<if 0 > m then 0 else m then 64 else if 0 > m then 0 else m)<=(l.length:Int)))=true/\(decide (0+(Int.toNat (IntKind.i64.wrap (IntKind.i64.wrap o+if IntKind.i64.wrap ((l.length:Int) - IntKind.i64.wrap o)<if 64<if 0 > m then 0 else m then 64 else if 0 > m then 0 else m then IntKind.i64.wrap ((l.length:Int) - IntKind.i64.wrap o) else if 64<if 0 > m then 0 else m then 64 else if 0 > m then 0 else m)) - Int.toNat (IntKind.i64.wrap o))<=9223372036854775807)&&decide ((0+(Int.toNat (IntKind.i64.wrap (IntKind.i64.wrap o+if IntKind.i64.wrap ((l.length:Int) - IntKind.i64.wrap o)<if 64<if 0 > m then 0 else m then 64 else if 0 > m then 0 else m then IntKind.i64.wrap ((l.length:Int) - IntKind.i64.wrap o) else if 64<if 0 > m then 0 else m then 64 else if 0 > m then 0 else m)) - Int.toNat (IntKind.i64.wrap o)))*64<=140737488355328))=true/\((0=0/\0+(Int.toNat (IntKind.i64.wrap (IntKind.i64.wrap o+if IntKind.i64.wrap ((l.length:Int) - IntKind.i64.wrap o)<if 64<if 0 > m then 0 else m then 64 else if 0 > m then 0 else m then IntKind.i64.wrap ((l.length:Int) - IntKind.i64.wrap o) else if 64<if 0 > m then 0 else m then 64 else if 0 > m then 0 else m)) - Int.toNat (IntKind.i64.wrap o))=(xE l o m).length)/\0=Ed l o/\True)/\(0+(Int.toNat (IntKind.i64.wrap (IntKind.i64.wrap o+if IntKind.i64.wrap ((l.length:Int) - IntKind.i64.wrap o)<if 64<if 0 > m then 0 else m then 64 else if 0 > m then 0 else m then IntKind.i64.wrap ((l.length:Int) - IntKind.i64.wrap o) else if 64<if 0 > m then 0 else m then 64 else if 0 > m then 0 else m)) - Int.toNat (IntKind.i64.wrap o))=(xE l o m).length/\aj (0+(Int.toNat (IntKind.i64.wrap (IntKind.i64.wrap o+if IntKind.i64.wrap ((l.length:Int) - IntKind.i64.wrap o)<if 64<if 0 > m then 0 else m then 64 else if 0 > m then 0 else m then IntKind.i64.wrap ((l.length:Int) - IntKind.i64.wrap o) else if 64<if 0 > m then 0 else m then 64 else if 0 > m then 0 else m)) - Int.toNat (IntKind.i64.wrap o))) 5 (aY 0 (fun (k j:Nat)=>AV.junk) fun (k:Nat)=>ah encR l (Int.toNat (IntKind.i64.wrap o)+k)) (ah encR (xE l o m)))/\True))
theorem Y0 (b:Bool) (l:List Rec) (o:Int) (m:Int):(bf Tryz.prog (vfH b l o m) 71 [dL b l,.y (.int .u64 o),.y (.int .i64 m)] [] (vfT l o m))=afg b l o m:=by kernel_rfl
theorem XV {l:List Rec} {x:Rec} (h:B_ l x=0):bG l=true/\x.val.length<=256/\l.length<4096:=by
 unfold B_ at h
 cases hl:bG l with
 | false=>simp [hl] at h
 | true =>
   simp only [hl,Bool.true_eq_false,if_false] at h
   have:=j_ hl
   split at h
   · cases h
   · split at h
     · cases h
     · split at h
       · cases h
       · exact ⟨rfl,by omega,by omega⟩
theorem agf (b:Bool) (l:List Rec) (x:Rec) (h0:l.length<=9223372036854775806):(vrT l x).Sat (aB Tryz.prog 121 [dL b l,.agg (encR x)] []):=by
 refine aP (ht:=vrH b l x) Tryz.mixed rfl ?_
 rw [Y2 b l x]
 unfold ae4
 have hK:B_ l x=if bG l=false then 1 else if 32<x.key.size then 131 else if 256<x.val.length then 144 else if l.length=4096 then 143 else 0:=rfl
 have hY:B_ l x≠0->sO l x=[]:=fun h=>by unfold sO;rw [if_neg h]
 have hN:B_ l x≠0->xH l x=0:=fun h=>by unfold xH;rw [if_neg h]
 refine ⟨by simp,trivial,h0,fun h=>?_,fun h=>⟨fun h2=>?_,fun h2=>⟨fun h3=>?_,fun h3=>⟨fun h4=>?_,fun h4=>?_⟩⟩⟩⟩
 · have hk:B_ l x=1:=by rw [hK];simp at h;simp [h]
   simp [hY (by rw [hk];omega),hN (by rw [hk];omega),hk]
 · have hk:B_ l x=131:=by rw [hK];simp at h h2;simp [h];omega
   simp [hY (by rw [hk];omega),hN (by rw [hk];omega),hk]
 · have hk:B_ l x=144:=by rw [hK];simp at h h2 h3;simp [h];omega
   simp [hY (by rw [hk];omega),hN (by rw [hk];omega),hk]
 · have hk:B_ l x=143:=by
    rw [hK];simp at h h2 h3 h4
    have:=j_ h
    simp [h];omega
   simp [hY (by rw [hk];omega),hN (by rw [hk];omega),hk]
 · have hk:B_ l x=0:=by rw [hK];simp at h h2 h3 h4;simp [h];omega
   obtain ⟨g1,g2,g3⟩:=XV hk
   have hy:sO l x=l++[x.to (IntKind.u64.wrap l.length)]:=by unfold sO;rw [if_pos hk]
   have hn:xH l x=IntKind.u64.wrap l.length:=by unfold xH;rw [if_pos hk]
   rw [hy,hn,hk]
   refine ⟨by simp;omega,by simp,trivial,by omega,by simp;omega,by simp,⟨by simp,?_⟩,trivial⟩
   have:=sK (sz:=5) (enc:=encR) (l:=l) (n:=l.length) (x:=x.to (IntKind.u64.wrap l.length)) (cs:=[AV.y (Value.int IntKind.u64 (IntKind.wrap IntKind.u64 (l.length:Int))),AV.y (Value.string x.key),AV.ys true (1:Nat) (List.length x.val) (ah aJ x.val),AV.y (Value.int IntKind.u64 x.prod),AV.y (Value.int IntKind.u64 x.seq)]) rfl (adR (dn _) (dn _) (dn _) (dn _) (dn _))
   simpa using this
noncomputable def aiN (b:Bool) (l:List Rec) (x:Rec):dZ Tryz.prog:=⟨121,[dL b l,.agg (encR x)],[],.need (l.length<=9223372036854775806) (vrT l x),T.Sat.need fun h=>agf b l x h⟩
theorem LU {l:List Rec} {o m:Int} (h:Ed l o=0) (h0:0<=o):bG l=true/\o<=l.length/\0<=JK l o m/\JK l o m<=(l.length:Int) - o/\JK l o m<=64:=by
 unfold Ed at h
 cases hl:bG l with
 | false=>simp [hl] at h
 | true =>
   simp only [hl,Bool.true_eq_false,if_false] at h
   split at h
   · cases h
   · unfold JK;exact ⟨rfl,by omega,by omega,by omega,by omega⟩
theorem adZ {l:List Rec} {o m:Int} (h:Ed l o=0) {k:Nat} (hk:k<(JK l o m).toNat):(xE l o m).getD k default=l.getD (o.toNat+k) default:=by
 unfold xE
 rw [if_pos h]
 simp [List.getElem?_take,hk,List.getElem?_drop]
theorem ZY {l:List Rec} {o m:Int} (h:Ed l o=0) (h0:0<=o):(xE l o m).length=(JK l o m).toNat:=by
 obtain ⟨_,h1,h2,h3,_⟩:=LU (m:=m) h h0
 unfold xE
 rw [if_pos h]
 simp
 omega
theorem adO {l:List Rec} {o m:Int} (h:Ed l o=0) (n:Nat) (hn:n=(JK l o m).toNat) (c:Nat->Nat->AV) (hc:∀ k j,k<n->c k j=ah encR l (o.toNat+k) j):aj n 5 c (ah encR (xE l o m)):=by
 intro k hk j hj
 rw [hc k j hk]
 unfold ah
 rw [adZ h (by omega)]
 exact dn _
theorem aeI (b:Bool) (l:List Rec) (o m:Int) (hl:l.length<=9223372036854775806) (h0:0<=o/\o<=18446744073709551615):(vfT l o m).Sat (aB Tryz.prog 71 [dL b l,.y (.int .u64 o),.y (.int .i64 m)] []):=by
 refine aP (ht:=vfH b l o m) Tryz.mixed rfl ?_
 rw [Y0 b l o m]
 unfold afg
 have hw:IntKind.u64.wrap (l.length:Int)=l.length:=wrap_u64 (by omega) (by omega)
 have hK:Ed l o=if bG l=false then 1 else if (l.length:Int)<o then 141 else 0:=rfl
 have hY:Ed l o≠0->xE l o m=[]:=fun h=>by unfold xE;rw [if_neg h]
 rw [hw]
 refine ⟨by simp,trivial,hl,fun h=>?_,fun h=>⟨fun h2=>?_,fun h2=>?_⟩⟩
 · have hk:Ed l o=1:=by rw [hK];simp at h;simp [h]
   simp [hY (by rw [hk];omega),hk]
 · have hk:Ed l o=141:=by rw [hK];simp at h h2;simp [h];omega
   simp [hY (by rw [hk];omega),hk]
 · have hk:Ed l o=0:=by rw [hK];simp at h h2;simp [h];omega
   obtain ⟨g1,g2,g3,g4,g5⟩:=LU (m:=m) hk h0.1
   have gl:=ZY (m:=m) hk h0.1
   have g6:=j_ g1
   have hwo:IntKind.i64.wrap o=o:=wrap_i64 (by omega) (by omega)
   have hwd:IntKind.i64.wrap ((l.length:Int) - o)=(l.length:Int) - o:=wrap_i64 (by omega) (by omega)
   have hn:(if (l.length:Int) - o<if (64:Int)<if (0:Int) > m then (0:Int) else m then (64:Int) else if (0:Int) > m then (0:Int) else m then (l.length:Int) - o else if (64:Int)<if (0:Int) > m then (0:Int) else m then (64:Int) else if (0:Int) > m then (0:Int) else m)=JK l o m:=by
    unfold JK
    omega
   have hwn:IntKind.i64.wrap (o+JK l o m)=o+JK l o m:=wrap_i64 (by omega) (by omega)
   simp only [hwo,hwd,hn,hwn]
   refine ⟨by simp;omega,by simp;omega,by simp [hk];omega,⟨by omega,?_⟩,trivial⟩
   have e:0+((o+JK l o m).toNat - o.toNat)=(JK l o m).toNat:=by omega
   rw [e,H8]
   exact adO hk _ rfl _ fun k j _=>rfl
noncomputable def aja (b:Bool) (l:List Rec) (o m:Int):dZ Tryz.prog:=⟨71,[dL b l,.y (.int .u64 o),.y (.int .i64 m)],[],.need (l.length<=9223372036854775806/\0<=o/\o<=18446744073709551615) (vfT l o m),T.Sat.need fun h=>aeI b l o m h.1 h.2⟩
end V
namespace R
theorem Kh (l:List Rec) (x:Rec):V.B_ l x=kG l x:=by
 unfold V.B_ kG
 cases bG l<;>rfl
theorem acH {l:List Rec} {x:Rec} (h:kG l x=0):V.sO l x=h_ l x:=by
 unfold V.sO h_
 rw [Kh,if_pos h]
theorem Tz (l:List Rec) (o:Int):V.Ed l o=Ga l o:=by
 unfold V.Ed Ga
 cases bG l<;>rfl
theorem aei {l:List Rec} {o m:Int} (h:Ga l o=0) (h0:0<=o):V.xE l o m=vS l o m:=by
 have ho:o<=(l.length:Int):=by
  unfold Ga at h
  split at h
  · cases h
  · split at h
    · cases h
    · omega
 unfold V.xE vS
 rw [Tz,if_pos h]
 have e:V.JK l o m=Oz l.length o m:=by
  unfold V.JK Oz
  have e1:((l.length - o.toNat:Nat):Int)=(l.length:Int) - o:=by omega
  rw [e1]
  by_cases h1:(0:Int) > m
  · simp only [if_pos h1]
    have e2:max m 0=0:=by omega
    rw [e2]
    have e3:min (0:Int) 64=0:=rfl
    rw [e3]
    have e4:(if (64:Int)<0 then (64:Int) else 0)=0:=rfl
    simp only [e4]
    split<;>omega
  · simp only [if_neg h1]
    have e2:max m 0=m:=by omega
    rw [e2]
    split<;>split<;>omega
 rw [e]
end R
namespace P
noncomputable def aa9 (b1 b2:Bool) (a b:List Producer):dZ Tryz.prog:=⟨74,[bg b1 a,bg b2 b],[],.need (a.length<=9223372036854775806) (smR a b),T.Sat.need fun h=>adB b1 b2 a b h⟩
structure Two where
 a:List Producer
 b:List Producer
 ta:List Int
 tb:List Int
structure Two.Ok (x:Two):Prop where
 a:x.a.length*32<=140737488355200
 b:x.b.length*32<=140737488355200
 ta:x.ta.length<=9223372036854775806
 tb:x.tb.length<=9223372036854775806
 oa:∀ y∈x.a,0<=y.offset/\y.offset<18446744073709551616
 ob:∀ y∈x.b,0<=y.offset/\y.offset<18446744073709551616
theorem DR (l:List Producer) (id seq:Int):aS l id seq=1↔Ck id seq=false/\(bA l id=false∨(findD l id).seq<seq):=by
 unfold aS
 cases hb:Ck id seq
 · cases hf:bA l id
   · simp
   · by_cases h:(findD l id).seq<seq
     · simp [h]
     · simp [h]
       split<;>decide
 · simp
theorem Xn {l:List Producer} {x z:Producer}:z∈gy l x↔z∈l/\¬ z.id=x.id:=by
 unfold gy
 rw [List.mem_filter]
 simp [keep]
theorem jw {l:List Producer} {x z:Producer}:z∈aF l x↔z=x∨(z∈l/\¬ z.id=x.id):=by
 rw [<- Xn]
 unfold aF
 rw [List.mem_append,List.mem_cons]
 constructor
 · rintro (h | h | h)
   · exact Or.inr (List.mem_of_mem_take h)
   · exact Or.inl h
   · exact Or.inr (List.mem_of_mem_drop h)
 · rintro (h | h)
   · exact Or.inr (Or.inl h)
   · rw [<- List.take_append_drop (below (gy l x) x.id) (gy l x),List.mem_append] at h
     rcases h with h | h
     · exact Or.inl h
     · exact Or.inr (Or.inr h)
theorem jm {l:List Producer} {id:Int} (h:bA l id=true):findD l id∈l/\(findD l id).id=id:=by
 unfold bA at h
 unfold findD
 cases hf:l.find? (has id) with
 | none=>rw [hf] at h;cases h
 | some x =>
   have h1:=List.find?_some hf
   have h2:=List.mem_of_find?_eq_some hf
   exact ⟨h2,by simpa [has] using h1⟩
theorem NR {l:List Producer} {id:Int} (h:bA l id=false):∀ x∈l,¬ x.id=id:=by
 intro x hx hid
 unfold bA at h
 have:(l.find? (has id)).isSome=true:=by
  rw [List.find?_isSome]
  exact ⟨x,hx,by simp [has,hid]⟩
 rw [h] at this;cases this
theorem D_ {l:List Producer} (h:l.Pairwise (fun a b=>a.id<b.id)):∀ {x y:Producer},x∈l->y∈l->x.id=y.id->x=y:=by
 induction h with
 | nil=>intro x y hx;cases hx
 | cons h1 _ ih =>
   intro x y hx hy e
   rcases List.mem_cons.1 hx with e1 | hx'<;>rcases List.mem_cons.1 hy with e2 | hy'
   · rw [e1,e2]
   · have:=h1 _ hy';rw [<- e1] at this;omega
   · have:=h1 _ hx';rw [<- e2] at this;omega
   · exact ih hx' hy' e
def fresh (l:List Producer) (id seq:Int):Prop:=∀ x∈l,x.id=id->x.seq<seq
theorem Hu {l:List Producer} (h:rising l) (id seq:Int):aS l id seq=1↔Ck id seq=false/\fresh l id seq:=by
 rw [DR]
 refine and_congr Iff.rfl ?_
 cases hf:bA l id
 · exact ⟨fun _ x hx e=>absurd e (NR hf x hx),fun _=>Or.inl rfl⟩
 · have ⟨h1,h2⟩:=jm hf
   constructor
   · rintro (h3 | h3)
     · cases h3
     · intro x hx e
       rw [D_ ((ou l).1 h) hx h1 (by omega)];exact h3
   · intro h3
     exact Or.inr (h3 _ h1 h2)
def good (x:Producer):Prop:=¬ x.id=0/\1<=x.seq/\x.seq<=9223372036854775807/\(x.here=true∨x.offset=0)
theorem Dp (l:List Producer):bE l=true↔(∀ x∈l,good x)/\rising l/\l.length<=256:=by
 constructor
 · intro h
   have hr:=gG h
   unfold bE at h
   rw [Bool.and_eq_true,decide_eq_true_eq] at h
   refine ⟨fun x hx=>?_,hr,h.2⟩
   obtain ⟨i,hi,rfl⟩:=List.mem_iff_getElem.1 hx
   have:=Bo _ 0 rfl h.1 i (Nat.zero_le _) hi
   simp [TN,hi] at this
   unfold good
   grind
 · rintro ⟨h1,h2,h3⟩
   unfold bE
   rw [Bool.and_eq_true,decide_eq_true_eq]
   refine ⟨?_,h3⟩
   unfold aV
   rw [List.all_eq_true]
   intro j hj
   have hj':j<l.length:=by
    simp at hj;exact hj
   have hg:=h1 l[j] (List.getElem_mem hj')
   unfold good at hg
   simp [TN,hj']
   have hr:0<j->(l[j - 1]?.getD default).id<l[j].id:=fun h=>by
    have:=h2 (j - 1) j (by omega) hj'
    simpa [hj'] using this
   grind
noncomputable def RQ (b:Bool) (l:List Producer) (id seq:Int) (hl:l.length<=9223372036854775806):aC Tryz.prog :=
 hh _ bO (cs1 124 1 3 (afG b l id seq 0 hl) (cs1 124 4 4 (abv b l (bK id seq false 0)) bN)) bM
def LZ (b:Bool) (l:List Producer) (id:Int) (seq:Int) (hl:l.length<=9223372036854775806):Prop :=
 ((b=b/\l.length=l.length/\aj l.length 4 (ah ak l) (ah ak l))/\id=id/\seq=seq/\(0:Int)=0/\True)/\True/\((aI l (bK id seq true 0)==0)=true->((b=b/\l.length=l.length/\aj l.length 4 (ah ak l) (ah ak l))/\(id=id/\seq=seq/\false=false/\(0:Int)=0/\True)/\True)/\True/\(l.length*32<=140737488355200/\∀ (i j:Nat),i<j->j<l.length->(l.getD i default).id<(l.getD j default).id)/\((aI l (bK id seq false 0)==0)=true->((0=0/\(aF l (bK id seq false 0)).length=(aF l (bK id seq false 0)).length)/\(0:Int)=0/\True)/\((aF l (bK id seq false 0)).length=(aF l (bK id seq false 0)).length/\aj (aF l (bK id seq false 0)).length 4 (ah ak (aF l (bK id seq false 0))) (ah ak (aF l (bK id seq false 0))))/\True)/\((aI l (bK id seq false 0)==0)=false->False))/\((aI l (bK id seq true 0)==0)=false->((aI l (bK id seq true 0) != 0)=true->((aI l (bK id seq false 0)==0)=true->(False/\aI l (bK id seq true 0)=0/\True)/\False)/\((aI l (bK id seq false 0)==0)=false->(True/\aI l (bK id seq true 0)=aI l (bK id seq false 0)/\True)/\True))/\((aI l (bK id seq true 0) != 0)=false->((b=b/\l.length=l.length/\aj l.length 4 (ah ak l) (ah ak l))/\(id=id/\seq=seq/\false=false/\(0:Int)=0/\True)/\True)/\True/\(l.length*32<=140737488355200/\∀ (i j:Nat),i<j->j<l.length->(l.getD i default).id<(l.getD j default).id)/\((aI l (bK id seq false 0)==0)=true->((0=0/\(aF l (bK id seq false 0)).length=(aF l (bK id seq false 0)).length)/\(0:Int)=0/\True)/\((aF l (bK id seq false 0)).length=(aF l (bK id seq false 0)).length/\aj (aF l (bK id seq false 0)).length 4 (ah ak (aF l (bK id seq false 0))) (ah ak (aF l (bK id seq false 0))))/\True)/\((aI l (bK id seq false 0)==0)=false->False)))
theorem JQ (b:Bool) (l:List Producer) (id:Int) (seq:Int) (hl:l.length<=9223372036854775806):(bf Tryz.prog (RQ b l id seq hl) 124 [bg b l,.y (.int .u64 id),.y (.int .u64 seq)] [] (jP l (bK id seq false 0)))=LZ b l id seq hl:=by kernel_rfl
theorem OG {l:List Producer} {x:Producer} (h:aI l x=0):bE l=true:=by
 unfold aI at h
 cases ht:bE l
 · simp [ht] at h
 · rfl
theorem YD (b:Bool) (l:List Producer) (id seq:Int) (hl:l.length<=9223372036854775806):(jP l (bK id seq false 0)).Sat (aB Tryz.prog 124 [bg b l,.y (.int .u64 id),.y (.int .u64 seq)] []):=by
 refine aP (ht:=RQ b l id seq hl) Tryz.mixed rfl ?_
 rw [JQ b l id seq hl]
 unfold LZ
 have e:aI l (bK id seq true 0)=aI l (bK id seq false 0):=rfl
 by_cases h:aI l (bK id seq false 0)=0
 · have ht:=OG h
   have h1:l.length<=256:=by unfold bE at ht;simp at ht;exact ht.2
   have h3:=gG ht
   simp [e,h]
   exact ⟨by omega,h3⟩
 · simp [e,h]
noncomputable def ahl (b:Bool) (l:List Producer) (id seq o:Int):dZ Tryz.prog:=⟨135,[bg b l,.y (.int .u64 id),.y (.int .u64 seq),.y (.int .u64 o)],[],.need (l.length<=9223372036854775806) (jP l (bK id seq true o)),T.Sat.need fun h=>aax b l id seq o h⟩
noncomputable def af' (b:Bool) (l:List Producer) (id seq o:Int):dZ Tryz.prog:=⟨122,[bg b l,.y (.int .u64 id),.y (.int .u64 seq),.y (.int .u64 o)],[],.need (l.length<=9223372036854775806) (jP l (bK id seq true o)),T.Sat.need fun h=>Vm b l id seq o h⟩
noncomputable def abT (b:Bool) (l:List Producer) (id seq:Int):dZ Tryz.prog:=⟨139,[bg b l,.y (.int .u64 id),.y (.int .u64 seq)],[],.need (l.length<=9223372036854775806) (jP l (bK id seq false 0)),T.Sat.need fun h=>Vz b l id seq h⟩
noncomputable def adN (b:Bool) (l:List Producer) (id seq:Int):dZ Tryz.prog:=⟨124,[bg b l,.y (.int .u64 id),.y (.int .u64 seq)],[],.need (l.length<=9223372036854775806) (jP l (bK id seq false 0)),T.Sat.need fun h=>YD b l id seq h⟩
end P
namespace J
def je (b:Bool):List Int:=[if b then 1 else 0]
def aQ (t:List Int):List Int:=au t.length++t
def bD (s:ByteArray):List Int:=s.data.toList.map fun x=>(x.toNat:Int)
theorem gX (s:ByteArray):(bD s).length=s.size:=by simp [bD]
def fU (r:kJ):List Int:=aQ (bD (r.lo))++aQ (bD (r.hi))
def iZ (x:Rec):List Int:=au (x.off)++aQ (bD (x.key))++aQ (x.val)++au (x.prod)++au (x.seq)
def IY (l:List Rec):List Int:=au (l.length:Int)++l.flatMap iZ
structure mY (v:Int):Prop where
 lo:0<=v
 hi:v<18446744073709551616
structure yI (v:Int):Prop where
 lo:-9223372036854775808<=v
 hi:v<9223372036854775808
structure Ru (x:Rec):Prop where
 off:mY x.off
 prod:mY x.prod
 seq:mY x.seq
theorem RH (x:Rec):1<=(iZ x).length:=by
 have h:1<=(au x.off).length:=by
  unfold au nP
  split<;>simp
 unfold iZ
 simp only [List.length_append]
 omega
structure ahV (c:R.cu):Prop where
 kind:yI c.kind
 epoch:mY c.epoch
 prod:mY c.prod
 seq:mY c.seq
 off:mY c.off
 most:yI c.most
 plan:mY c.plan
 n:c.key.size+c.val.length+c.name.size+1000<=140737488355327
def jL (x:P.Producer):List Int:=au (x.id)++au (x.seq)++je (x.here)++au (x.offset)
def pU (x:Con):List Int:=aQ (bD (x.name))++au (x.off)
def PU (p:Part):List Int:=fU (p.rng)++au (p.epoch)++au (p.frozen)++IY (p.recs)
def A9 (l:List P.Producer):List Int:=au (l.length:Int)++l.flatMap jL
def Gi (l:List Con):List Int:=au (l.length:Int)++l.flatMap pU
def iy (p:Part):List Int:=PU p++A9 p.prods++Gi p.cons
structure tT (x:P.Producer):Prop where
 id:mY x.id
 seq:mY x.seq
 offset:mY x.offset
theorem DN (v:Int):1<=(au v).length:=by
 unfold au nP
 split<;>simp
theorem OL (x:P.Producer):1<=(jL x).length:=by
 have:=DN x.id
 unfold jL
 simp only [List.length_append]
 omega
theorem Vd (x:Con):1<=(pU x).length:=by
 have:=DN x.off
 unfold pU
 simp only [List.length_append]
 omega
structure RS where
 at_:Nat
 e:Int
 bad:Int
instance:Inhabited RS:=⟨⟨0,0,0⟩⟩
def RS.f (s:RS):Bool:=s.e != 0
def kN (s:RS) (e:Int) (p:Nat):RS:=if s.e != 0 then s else ⟨p,e,p⟩
structure LOk (l:List Int):Prop where
 n:l.length<=140737488355328
structure Bytes (l:List Int):Prop where
 b:∀ x∈l,0<=x/\x<256
def Cm:List Int->Nat->Int->Int×Int×Nat
 | [],_,_=>(11,0,0)
 | c::r,i,v=>if i=9/\c≠1 then (12,0,0) else if 128<=c then Cm r (i+1) (v+(c % 128)*2 ^ (7*i)) else if c=0/\0<i then (12,0,0) else (0,v+(c % 128)*2 ^ (7*i),i+1)
def qQ (l:List Int) (s:RS):Int×Int×Nat:=Cm (l.drop s.at_) 0 0
def aR (l:List Int) (s:RS):Int×RS:=if s.e != 0 then (0,s) else if (qQ l s).1=0 then ((qQ l s).2.1,⟨s.at_+(qQ l s).2.2,s.e,s.bad⟩) else (0,kN s (qQ l s).1 s.at_)
structure fq (l:List Int) (s:RS):Prop where
 n:l.length<=140737488355328
 at_:s.at_<=l.length
 b:Bytes l
 bad:s.e=0->s.bad=0
structure UQ (l:List Int) (s:RS) where
 i:Nat
 v:Int
 hi:i<=(l.drop s.at_).length
 hi9:i<=9
 e:Cm ((l.drop s.at_).drop i) i v=qQ l s
 v0:0<=v
 v1:v<2 ^ (7*i)
theorem Qo (c:Int) (h0:0<=c) (h1:c<256):(↑(BitVec.toNat (BitVec.ofInt 8 c &&& BitVec.ofInt 8 127)):Int)=c % 128:=by
 rw [BitVec.toNat_and]
 have e:(BitVec.ofInt 8 127).toNat=2 ^ 7 - 1:=by decide
 rw [e,Nat.and_two_pow_sub_one_eq_mod,BitVec.toNat_ofInt]
 omega
theorem wrU (x:Int):IntKind.wrap IntKind.u64 x=x % 18446744073709551616:=by
 unfold IntKind.wrap
 simp [IntKind.bits,IntKind.signed]
theorem Zj {i:Nat} (h:i<=9):(2:Int) ^ (7*i)<=9223372036854775808/\(1:Int)<=2 ^ (7*i)/\(i<=8->(2:Int) ^ (7*i)<=72057594037927936):=by
 have:i=0∨i=1∨i=2∨i=3∨i=4∨i=5∨i=6∨i=7∨i=8∨i=9:=by omega
 rcases this with rfl | rfl | rfl | rfl | rfl | rfl | rfl | rfl | rfl | rfl<;>decide
theorem agL {i:Nat} {d:Int} (h:i<=9) (h0:0<=d) (h1:d<128) (h9:i=9->d<=1):0<=d*2 ^ (7*i)/\d*2 ^ (7*i)<18446744073709551616:=by
 obtain ⟨p1,p2,p3⟩:=Zj h
 generalize (2:Int) ^ (7*i)=p at p1 p2 p3
 refine ⟨Int.mul_nonneg h0 (by omega),?_⟩
 by_cases hi:i=9
 · have:d=0∨d=1:=by have:=h9 hi;omega
   rcases this with rfl | rfl<;>omega
 · have p4:=p3 (by omega)
   have:d*p<=127*p:=Int.mul_le_mul_of_nonneg_right (by omega) (by omega)
   omega
theorem UW {v c:Int} {i:Nat} (v0:0<=v) (v1:v<2 ^ (7*i)):0<=v+(c % 128)*2 ^ (7*i)/\v+(c % 128)*2 ^ (7*i)<2 ^ (7*(i+1)):=by
 have e:(2:Int) ^ (7*(i+1))=128*2 ^ (7*i):=by
  rw [show 7*(i+1)=7*i+7 by omega,Int.pow_add]
  omega
 have p:(0:Int)<2 ^ (7*i):=Int.pow_pos (by decide)
 rw [e]
 generalize (2:Int) ^ (7*i)=q at *
 have h0:0<=c % 128:=by omega
 have h1:c % 128<=127:=by omega
 generalize c % 128=d at *
 have:=Int.mul_nonneg h0 (by omega:0<=q)
 have:d*q<=127*q:=Int.mul_le_mul_of_nonneg_right h1 (by omega)
 omega
theorem Ih (l:List Int) (i:Nat) (h:i<l.length):l.drop i=l.getD i 0::l.drop (i+1):=by
 rw [List.drop_eq_getElem_cons h]
 simp [List.getD,h]
def gZ (l:List Int) (s:RS):Bool×RS:=if s.e != 0 then (false,s) else if s.at_=l.length then (false,kN s 11 s.at_) else if 1<l.getD s.at_ 0 then (false,kN s 16 s.at_) else (l.getD s.at_ 0==1,⟨s.at_+1,s.e,s.bad⟩)
def aK (l:List Int) (s:RS) (most:Int):Int×RS:=if (aR l s).2.e != 0 then (0,(aR l s).2) else if most<0∨most<(aR l s).1 then (0,kN (aR l s).2 13 s.at_) else if (l.length - (aR l s).2.at_:Int)<(aR l s).1 then (0,kN (aR l s).2 11 s.at_) else aR l s
end J
end Go.Proofs.YtnbhdjadlbhknaaGreatDoor
