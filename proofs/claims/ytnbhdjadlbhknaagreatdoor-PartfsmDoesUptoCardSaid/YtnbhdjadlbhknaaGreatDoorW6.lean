import Derived.Test.YtnbhdjadlbhknaaGreatDoorE12
import Derived.Test.YtnbhdjadlbhknaaGreatDoorW1
import Derived.Test.YtnbhdjadlbhknaaGreatDoorW4
import Derived.Test.YtnbhdjadlbhknaaGreatDoorW5
set_option linter.unusedVariables false
set_option linter.unusedSimpArgs false
set_option maxRecDepth 1000000
namespace Go.Proofs.YtnbhdjadlbhknaaGreatDoor
open Go.Ax
namespace N
open H Q R
def Ad (x:Rec):Rec:=⟨77,x.key,x.val,x.prod,x.seq⟩
def gK (g:Nat->Rec) (i:Nat):Nat->Rec:=fun p=>if p<i then xO (Ad (g p)) (g p).val.length else g p
def ng (g:Nat->Rec) (i:Nat):Nat->Rec:=fun p=>if p=i then Ad (g i) else gK g i p
def zH (p:Part) (f:Nat->Rec) (l:List P.Producer) (c:List Con):List ay:=[.dead,.dead,afq p.recs.length f,.row 80 4 p.prods.length none (ah P.ak l),.row 83 2 p.cons.length none (ah aD c),.box 30 (Z8 p 2 3 4)]
def Jl:List Nat:=[0,1,2,3,4,5,6,7,8,9,10,11,12,13,14,15,16,17,18,19,20]
def Sk (i k:Nat):List AV:=mkT 72 [(1,.ptr 5 0 0 0),(2,.y (.int .i64 i)),(3,.y (.int .i64 k))]
def Yx (p:Part) (f:Nat->Rec) (i:Nat) (_:Unit):Exit×List AV×List ay:=(.exit 2,mkT 72 [(1,.ptr 5 0 0 0),(2,.y (.int .i64 i))],zH p (bZ f i (f i).val.length) p.prods p.cons)
noncomputable def aiW:aC Tryz.prog:=dO (hh _ bO bN bM) (uL 21 6 4 786 noSh)
def abo (p:Part) (f:Nat->Rec) (i:Nat) (k:{ k:Nat // k<=(f i).val.length }):Prop :=
 0<=(i:Int)/\(i:Int)<(p.recs.length:Int)/\decide (Int.toNat (i:Int)=Int.toNat (i:Int))=true/\(decide ((k.val:Int)<((bZ f i k.val (Int.toNat (i:Int))).val.length:Int))=true->(true&&decide ((i:Int)<(p.recs.length:Int)))=true/\decide (0+Int.toNat (i:Int)=Int.toNat (i:Int))=true/\(true&&decide ((k.val:Int)<((bZ f i k.val (Int.toNat (i:Int))).val.length:Int)))=true/\decide (0+Int.toNat (k.val:Int)<(bZ f i k.val (Int.toNat (i:Int))).val.length)=true/\(true&&decide ((k.val:Int)<((bZ f i k.val (Int.toNat (i:Int))).val.length:Int)))=true/\decide (0+Int.toNat (k.val:Int)<(bZ f i k.val (Int.toNat (i:Int))).val.length)=true/\∃ (j:{ k:Nat // k<=(f i).val.length }),(f i).val.length - j.val<(f i).val.length - k.val/\(((0=0/\0=0)/\(i:Int)=(i:Int)/\IntKind.i64.wrap ((k.val:Int)+1)=(j.val:Int)/\True)/\(((p.recs.length=p.recs.length/\(((true=true/\(bZ f i k.val (Int.toNat (i:Int))).off=(bZ f i j.val (Int.toNat (i:Int))).off)/\(true=true/\(bZ f i k.val (Int.toNat (i:Int))).key=(bZ f i j.val (Int.toNat (i:Int))).key)/\((bZ f i j.val (Int.toNat (i:Int))).val.length=(bZ f i k.val (Int.toNat (i:Int))).val.length/\aj (bZ f i j.val (Int.toNat (i:Int))).val.length 1 (pO (ah aJ (bZ f i k.val (Int.toNat (i:Int))).val) (0+Int.toNat (k.val:Int)) 0 [AV.y (.int .u8 (IntKind.u8.wrap ((bZ f i k.val (Int.toNat (i:Int))).val.getD (0+Int.toNat (k.val:Int)) 0+1)))]) (ah aJ (bZ f i j.val (Int.toNat (i:Int))).val))/\(true=true/\(bZ f i k.val (Int.toNat (i:Int))).prod=(bZ f i j.val (Int.toNat (i:Int))).prod)/\(true=true/\(bZ f i k.val (Int.toNat (i:Int))).seq=(bZ f i j.val (Int.toNat (i:Int))).seq)/\True)/\True)/\∀ k_1,k_1<p.recs.length->¬k_1=Int.toNat (i:Int)->(bZ f i k.val k_1).off=(bZ f i j.val k_1).off/\(bZ f i k.val k_1).key=(bZ f i j.val k_1).key/\((bZ f i k.val k_1).val.length=(bZ f i j.val k_1).val.length/\aj (bZ f i k.val k_1).val.length 1 (ah aJ (bZ f i k.val k_1).val) (ah aJ (bZ f i j.val k_1).val))/\(bZ f i k.val k_1).prod=(bZ f i j.val k_1).prod/\(bZ f i k.val k_1).seq=(bZ f i j.val k_1).seq/\True)/\(p.prods.length=p.prods.length/\aj p.prods.length 4 (ah P.ak p.prods) (ah P.ak p.prods))/\(p.cons.length=p.cons.length/\aj p.cons.length 2 (ah aD p.cons) (ah aD p.cons))/\(p.rng.lo=p.rng.lo/\p.rng.hi=p.rng.hi/\p.epoch=p.epoch/\p.frozen=p.frozen/\(0=0/\p.recs.length=p.recs.length)/\(0=0/\p.prods.length=p.prods.length)/\(0=0/\p.cons.length=p.cons.length)/\True)/\True)/\True)/\true=true)/\true=true/\()=())/\(decide ((k.val:Int)<((bZ f i k.val (Int.toNat (i:Int))).val.length:Int))=false->((0=0/\0=0)/\(i:Int)=(i:Int)/\True)/\(((p.recs.length=p.recs.length/\(((true=true/\(bZ f i k.val (Int.toNat (i:Int))).off=(bZ f i (f i).val.length (Int.toNat (i:Int))).off)/\(true=true/\(bZ f i k.val (Int.toNat (i:Int))).key=(bZ f i (f i).val.length (Int.toNat (i:Int))).key)/\((bZ f i (f i).val.length (Int.toNat (i:Int))).val.length=(bZ f i k.val (Int.toNat (i:Int))).val.length/\aj (bZ f i (f i).val.length (Int.toNat (i:Int))).val.length 1 (ah aJ (bZ f i k.val (Int.toNat (i:Int))).val) (ah aJ (bZ f i (f i).val.length (Int.toNat (i:Int))).val))/\(true=true/\(bZ f i k.val (Int.toNat (i:Int))).prod=(bZ f i (f i).val.length (Int.toNat (i:Int))).prod)/\(true=true/\(bZ f i k.val (Int.toNat (i:Int))).seq=(bZ f i (f i).val.length (Int.toNat (i:Int))).seq)/\True)/\True)/\∀ k_1,k_1<p.recs.length->¬k_1=Int.toNat (i:Int)->(bZ f i k.val k_1).off=(bZ f i (f i).val.length k_1).off/\(bZ f i k.val k_1).key=(bZ f i (f i).val.length k_1).key/\((bZ f i k.val k_1).val.length=(bZ f i (f i).val.length k_1).val.length/\aj (bZ f i k.val k_1).val.length 1 (ah aJ (bZ f i k.val k_1).val) (ah aJ (bZ f i (f i).val.length k_1).val))/\(bZ f i k.val k_1).prod=(bZ f i (f i).val.length k_1).prod/\(bZ f i k.val k_1).seq=(bZ f i (f i).val.length k_1).seq/\True)/\(p.prods.length=p.prods.length/\aj p.prods.length 4 (ah P.ak p.prods) (ah P.ak p.prods))/\(p.cons.length=p.cons.length/\aj p.cons.length 2 (ah aD p.cons) (ah aD p.cons))/\(p.rng.lo=p.rng.lo/\p.rng.hi=p.rng.hi/\p.epoch=p.epoch/\p.frozen=p.frozen/\(0=0/\p.recs.length=p.recs.length)/\(0=0/\p.prods.length=p.prods.length)/\(0=0/\p.cons.length=p.cons.length)/\True)/\True)/\True)/\true=true)
theorem T_ (p:Part) (f:Nat->Rec) (i:Nat) (k:{ k:Nat // k<=(f i).val.length }):(bP Tryz.prog aiW 21 6 (fun (k:{ k:Nat // k<=(f i).val.length })=>(f i).val.length - k.1) (fun k=>Sk i k.1) (fun k=>zH p (bZ f i k.1) p.prods p.cons) Jl (fun _=>.ret ()) (Yx p f i) k)=abo p f i k:=by kernel_rfl
def Rx (i:Nat):List AV:=mkT 72 [(1,.ptr 5 0 0 0),(2,.y (.int .i64 i))]
def Yh (p:Part) (g:Nat->Rec) (_:Unit):Exit×List AV×List ay:=(.exit 0,mkT 72 [(1,.ptr 5 0 0 0)],zH p (gK g p.recs.length) p.prods p.cons)
noncomputable def ZN (p:Part) (g:Nat->Rec) (i:Nat):aC Tryz.prog:=dO (hh _ (mU 21 6 (dM (fun (k:{ k:Nat // k<=(ng g i i).val.length })=>Sk i k.1) (fun k=>zH p (bZ (ng g i) i k.1) p.prods p.cons) Jl (fun _=>.ret ()) (Yx p (ng g i) i) ⟨0,Nat.zero_le _⟩) bO) bN bM) (uL 21 4 3 786 noSh)
def u7 (p:Part):Prop:=(p.rng.lo=p.rng.lo/\p.rng.hi=p.rng.hi/\p.epoch=p.epoch/\p.frozen=p.frozen/\(0=0/\p.recs.length=p.recs.length)/\(0=0/\p.prods.length=p.prods.length)/\(0=0/\p.cons.length=p.cons.length)/\True)
def aa_ (p:Part) (g:Nat->Rec) (i:{ i:Nat // i<=p.recs.length }):Prop :=
 (decide ((i.val:Int)<(p.recs.length:Int))=true->0<=(i.val:Int)/\(i.val:Int)<(p.recs.length:Int)/\decide (Int.toNat (i.val:Int)=Int.toNat (i.val:Int))=true/\(((0=0/\0=0)/\(i.val:Int)=(i.val:Int)/\(0:Int)=0/\True)/\(((p.recs.length=p.recs.length/\(((true=true/\77=(bZ (ng g i.val) i.val 0 (Int.toNat (i.val:Int))).off)/\(true=true/\(gK g i.val (Int.toNat (i.val:Int))).key=(bZ (ng g i.val) i.val 0 (Int.toNat (i.val:Int))).key)/\((bZ (ng g i.val) i.val 0 (Int.toNat (i.val:Int))).val.length=(gK g i.val (Int.toNat (i.val:Int))).val.length/\aj (bZ (ng g i.val) i.val 0 (Int.toNat (i.val:Int))).val.length 1 (ah aJ (gK g i.val (Int.toNat (i.val:Int))).val) (ah aJ (bZ (ng g i.val) i.val 0 (Int.toNat (i.val:Int))).val))/\(true=true/\(gK g i.val (Int.toNat (i.val:Int))).prod=(bZ (ng g i.val) i.val 0 (Int.toNat (i.val:Int))).prod)/\(true=true/\(gK g i.val (Int.toNat (i.val:Int))).seq=(bZ (ng g i.val) i.val 0 (Int.toNat (i.val:Int))).seq)/\True)/\True)/\∀ k,k<p.recs.length->¬k=Int.toNat (i.val:Int)->(gK g i.val k).off=(bZ (ng g i.val) i.val 0 k).off/\(gK g i.val k).key=(bZ (ng g i.val) i.val 0 k).key/\((gK g i.val k).val.length=(bZ (ng g i.val) i.val 0 k).val.length/\aj (gK g i.val k).val.length 1 (ah aJ (gK g i.val k).val) (ah aJ (bZ (ng g i.val) i.val 0 k).val))/\(gK g i.val k).prod=(bZ (ng g i.val) i.val 0 k).prod/\(gK g i.val k).seq=(bZ (ng g i.val) i.val 0 k).seq/\True)/\(p.prods.length=p.prods.length/\aj p.prods.length 4 (ah P.ak p.prods) (ah P.ak p.prods))/\(p.cons.length=p.cons.length/\aj p.cons.length 2 (ah aD p.cons) (ah aD p.cons))/\(u7 p)/\True)/\True)/\true=true)/\aL Tryz.prog 21 6 (aN Tryz.prog 21 6) { t:=Sk i.val (⟨0,ZN._proof_1 g i.val⟩:{ k:Nat // k<=(ng g i.val i.val).val.length }).val,m:=zH p (bZ (ng g i.val) i.val (⟨0,ZN._proof_1 g i.val⟩:{ k:Nat // k<=(ng g i.val i.val).val.length }).val) p.prods p.cons,mv:=[]:St } (T.map (bJ Jl (Yx p (ng g i.val) i.val)) ((fun (x:{ k:Nat // k<=(ng g i.val i.val).val.length })=>T.ret ()) (⟨0,ZN._proof_1 g i.val⟩:{ k:Nat // k<=(ng g i.val i.val).val.length })))/\∃ (j:{ i:Nat // i<=p.recs.length }),p.recs.length - j.val<p.recs.length - i.val/\(((0=0/\0=0)/\IntKind.i64.wrap ((i.val:Int)+1)=(j.val:Int)/\True)/\((p.recs.length=p.recs.length/\∀ k,k<p.recs.length->(bZ (ng g i.val) i.val (ng g i.val i.val).val.length k).off=(gK g j.val k).off/\(bZ (ng g i.val) i.val (ng g i.val i.val).val.length k).key=(gK g j.val k).key/\((bZ (ng g i.val) i.val (ng g i.val i.val).val.length k).val.length=(gK g j.val k).val.length/\aj (bZ (ng g i.val) i.val (ng g i.val i.val).val.length k).val.length 1 (ah aJ (bZ (ng g i.val) i.val (ng g i.val i.val).val.length k).val) (ah aJ (gK g j.val k).val))/\(bZ (ng g i.val) i.val (ng g i.val i.val).val.length k).prod=(gK g j.val k).prod/\(bZ (ng g i.val) i.val (ng g i.val i.val).val.length k).seq=(gK g j.val k).seq/\True)/\(p.prods.length=p.prods.length/\aj p.prods.length 4 (ah P.ak p.prods) (ah P.ak p.prods))/\(p.cons.length=p.cons.length/\aj p.cons.length 2 (ah aD p.cons) (ah aD p.cons))/\(u7 p)/\True)/\true=true)/\true=true/\()=())/\(decide ((i.val:Int)<(p.recs.length:Int))=false->((0=0/\0=0)/\True)/\((p.recs.length=p.recs.length/\∀ k,k<p.recs.length->(gK g i.val k).off=(gK g p.recs.length k).off/\(gK g i.val k).key=(gK g p.recs.length k).key/\((gK g i.val k).val.length=(gK g p.recs.length k).val.length/\aj (gK g i.val k).val.length 1 (ah aJ (gK g i.val k).val) (ah aJ (gK g p.recs.length k).val))/\(gK g i.val k).prod=(gK g p.recs.length k).prod/\(gK g i.val k).seq=(gK g p.recs.length k).seq/\True)/\(p.prods.length=p.prods.length/\aj p.prods.length 4 (ah P.ak p.prods) (ah P.ak p.prods))/\(p.cons.length=p.cons.length/\aj p.cons.length 2 (ah aD p.cons) (ah aD p.cons))/\(u7 p)/\True)/\true=true)
theorem RN (p:Part) (g:Nat->Rec) (i:{ i:Nat // i<=p.recs.length }):(bP Tryz.prog (ZN p g i.1) 21 2 (fun (i:{ i:Nat // i<=p.recs.length })=>p.recs.length - i.1) (fun i=>Rx i.1) (fun i=>zH p (gK g i.1) p.prods p.cons) Jl (fun _=>.ret ()) (Yh p g) i)=aa_ p g i:=by kernel_rfl
def zy (x:P.Producer):P.Producer:=⟨x.id,IntKind.u64.wrap (x.seq+1),x.here,x.offset⟩
def uM (x:Con):Con:=⟨x.name,IntKind.u64.wrap (x.off+1)⟩
def gT {α:Type} (f:α->α) (l:List α) (k:Nat):List α:=(l.take k).map f++l.drop k
def Tn (k:Nat):List AV:=mkT 72 [(1,.ptr 5 0 0 0),(4,.y (.int .i64 k))]
def Yc (p:Part) (f:Nat->Rec) (_:Unit):Exit×List AV×List ay:=(.exit 4,mkT 72 [(1,.ptr 5 0 0 0)],zH p f (gT zy p.prods p.prods.length) p.cons)
def abI (p:Part) (f:Nat->Rec) (k:{ k:Nat // k<=p.prods.length }):Prop :=
 (decide ((k.val:Int)<(p.prods.length:Int))=true->(true&&decide ((k.val:Int)<(p.prods.length:Int)))=true/\decide (0+Int.toNat (k.val:Int)<p.prods.length)=true/\(true&&decide ((k.val:Int)<(p.prods.length:Int)))=true/\decide (0+Int.toNat (k.val:Int)<p.prods.length)=true/\∃ (j:{ k:Nat // k<=p.prods.length }),p.prods.length - j.val<p.prods.length - k.val/\(((0=0/\0=0)/\IntKind.i64.wrap ((k.val:Int)+1)=(j.val:Int)/\True)/\((p.recs.length=p.recs.length/\∀ k,k<p.recs.length->(f k).off=(f k).off/\(f k).key=(f k).key/\((f k).val.length=(f k).val.length/\aj (f k).val.length 1 (ah aJ (f k).val) (ah aJ (f k).val))/\(f k).prod=(f k).prod/\(f k).seq=(f k).seq/\True)/\(p.prods.length=p.prods.length/\aj p.prods.length 4 (pO (ah P.ak (gT zy p.prods k.val)) (0+Int.toNat (k.val:Int)) 1 [AV.y (.int .u64 (IntKind.u64.wrap (((gT zy p.prods k.val).getD (0+Int.toNat (k.val:Int)) default).seq+1)))]) (ah P.ak (gT zy p.prods j.val)))/\(p.cons.length=p.cons.length/\aj p.cons.length 2 (ah aD p.cons) (ah aD p.cons))/\(p.rng.lo=p.rng.lo/\p.rng.hi=p.rng.hi/\p.epoch=p.epoch/\p.frozen=p.frozen/\(0=0/\p.recs.length=p.recs.length)/\(0=0/\p.prods.length=p.prods.length)/\(0=0/\p.cons.length=p.cons.length)/\True)/\True)/\true=true)/\true=true/\()=())/\(decide ((k.val:Int)<(p.prods.length:Int))=false->((0=0/\0=0)/\True)/\((p.recs.length=p.recs.length/\∀ k,k<p.recs.length->(f k).off=(f k).off/\(f k).key=(f k).key/\((f k).val.length=(f k).val.length/\aj (f k).val.length 1 (ah aJ (f k).val) (ah aJ (f k).val))/\(f k).prod=(f k).prod/\(f k).seq=(f k).seq/\True)/\(p.prods.length=p.prods.length/\aj p.prods.length 4 (ah P.ak (gT zy p.prods k.val)) (ah P.ak (gT zy p.prods p.prods.length)))/\(p.cons.length=p.cons.length/\aj p.cons.length 2 (ah aD p.cons) (ah aD p.cons))/\(p.rng.lo=p.rng.lo/\p.rng.hi=p.rng.hi/\p.epoch=p.epoch/\p.frozen=p.frozen/\(0=0/\p.recs.length=p.recs.length)/\(0=0/\p.prods.length=p.prods.length)/\(0=0/\p.cons.length=p.cons.length)/\True)/\True)/\true=true)
theorem Qh (p:Part) (f:Nat->Rec) (k:{ k:Nat // k<=p.prods.length }):(bP Tryz.prog (hT _) 21 10 (fun (k:{ k:Nat // k<=p.prods.length })=>p.prods.length - k.1) (fun k=>Tn k.1) (fun k=>zH p f (gT zy p.prods k.1) p.cons) Jl (fun _=>.ret ()) (Yc p f) k)=abI p f k:=by kernel_rfl
def Rn (k:Nat):List AV:=mkT 72 [(1,.ptr 5 0 0 0),(5,.y (.int .i64 k))]
def Zq (p:Part) (f:Nat->Rec) (l:List P.Producer) (_:Unit):Exit×List AV×List ay:=(.exit 6,mkT 72 [],[])
def aaW (p:Part) (f:Nat->Rec) (l:List P.Producer) (k:{ k:Nat // k<=p.cons.length }):Prop :=
 (decide ((k.val:Int)<(p.cons.length:Int))=true->(true&&decide ((k.val:Int)<(p.cons.length:Int)))=true/\decide (0+Int.toNat (k.val:Int)<p.cons.length)=true/\(true&&decide ((k.val:Int)<(p.cons.length:Int)))=true/\decide (0+Int.toNat (k.val:Int)<p.cons.length)=true/\∃ (j:{ k:Nat // k<=p.cons.length }),p.cons.length - j.val<p.cons.length - k.val/\(((0=0/\0=0)/\IntKind.i64.wrap ((k.val:Int)+1)=(j.val:Int)/\True)/\((p.recs.length=p.recs.length/\∀ k,k<p.recs.length->(f k).off=(f k).off/\(f k).key=(f k).key/\((f k).val.length=(f k).val.length/\aj (f k).val.length 1 (ah aJ (f k).val) (ah aJ (f k).val))/\(f k).prod=(f k).prod/\(f k).seq=(f k).seq/\True)/\(p.prods.length=p.prods.length/\aj p.prods.length 4 (ah P.ak l) (ah P.ak l))/\(p.cons.length=p.cons.length/\aj p.cons.length 2 (pO (ah aD (gT uM p.cons k.val)) (0+Int.toNat (k.val:Int)) 1 [AV.y (.int .u64 (IntKind.u64.wrap (((gT uM p.cons k.val).getD (0+Int.toNat (k.val:Int)) default).off+1)))]) (ah aD (gT uM p.cons j.val)))/\(p.rng.lo=p.rng.lo/\p.rng.hi=p.rng.hi/\p.epoch=p.epoch/\p.frozen=p.frozen/\(0=0/\p.recs.length=p.recs.length)/\(0=0/\p.prods.length=p.prods.length)/\(0=0/\p.cons.length=p.cons.length)/\True)/\True)/\true=true)/\true=true/\()=())/\(decide ((k.val:Int)<(p.cons.length:Int))=false->True/\True/\true=true)
theorem SY (p:Part) (f:Nat->Rec) (l:List P.Producer) (k:{ k:Nat // k<=p.cons.length }):(bP Tryz.prog (hT _) 21 14 (fun (k:{ k:Nat // k<=p.cons.length })=>p.cons.length - k.1) (fun k=>Rn k.1) (fun k=>zH p f l (gT uM p.cons k.1)) Jl (fun _=>.ret ()) (Zq p f l) k)=aaW p f l k:=by kernel_rfl
def sqR:T An:=.ret (.tup [],[],Jl)
def sqB (p:Part):List ay:=[.dead,.dead,wU p.recs,Hl p.prods,FY p.cons]
noncomputable def R6 (p:Part) (g:Nat->Rec):aC Tryz.prog:=hh _ (mU 21 2 (dM (fun (i:{ i:Nat // i<=p.recs.length })=>Rx i.1) (fun i=>zH p (gK g i.1) p.prods p.cons) Jl (fun _=>.ret ()) (Yh p g) ⟨0,Nat.zero_le _⟩)
 (mU 21 10 (dM (fun (k:{ k:Nat // k<=p.prods.length })=>Tn k.1) (fun k=>zH p (gK g p.recs.length) (gT zy p.prods k.1) p.cons) Jl (fun _=>.ret ()) (Yc p (gK g p.recs.length)) ⟨0,Nat.zero_le _⟩)
 (mU 21 14 (dM (fun (k:{ k:Nat // k<=p.cons.length })=>Rn k.1) (fun k=>zH p (gK g p.recs.length) (gT zy p.prods p.prods.length) (gT uM p.cons k.1)) Jl (fun _=>.ret ()) (Zq p (gK g p.recs.length) (gT zy p.prods p.prods.length)) ⟨0,Nat.zero_le _⟩) bO))) bN bM
def aeH (p:Part) (g:Nat->Rec):Prop :=
 (((0=0/\0=0)/\(0:Int)=0/\True)/\((p.recs.length=p.recs.length/\∀ k,k<p.recs.length->(p.recs.getD k default).off=(gK g 0 k).off/\(p.recs.getD k default).key=(gK g 0 k).key/\((p.recs.getD k default).val.length=(gK g 0 k).val.length/\aj (p.recs.getD k default).val.length 1 (ah aJ (p.recs.getD k default).val) (ah aJ (gK g 0 k).val))/\(p.recs.getD k default).prod=(gK g 0 k).prod/\(p.recs.getD k default).seq=(gK g 0 k).seq/\True)/\(p.prods.length=p.prods.length/\aj p.prods.length 4 (ah P.ak p.prods) (ah P.ak p.prods))/\(p.cons.length=p.cons.length/\aj p.cons.length 2 (ah aD p.cons) (ah aD p.cons))/\(p.rng.lo=p.rng.lo/\p.rng.hi=p.rng.hi/\p.epoch=p.epoch/\p.frozen=p.frozen/\(0=0/\p.recs.length=p.recs.length)/\(0=0/\p.prods.length=p.prods.length)/\(0=0/\p.cons.length=p.cons.length)/\True)/\True)/\true=true)/\aL Tryz.prog 21 2 (aN Tryz.prog 21 2) { t:=Rx (⟨0,R6._proof_1 p⟩:{ i:Nat // i<=p.recs.length }).val,m:=zH p (gK g (⟨0,R6._proof_1 p⟩:{ i:Nat // i<=p.recs.length }).val) p.prods p.cons,mv:=[]:St } (T.map (bJ Jl (Yh p g)) ((fun (x:{ i:Nat // i<=p.recs.length })=>T.ret ()) (⟨0,R6._proof_1 p⟩:{ i:Nat // i<=p.recs.length })))/\(((0=0/\0=0)/\(0:Int)=0/\True)/\((p.recs.length=p.recs.length/\∀ k,k<p.recs.length->(gK g p.recs.length k).off=(gK g p.recs.length k).off/\(gK g p.recs.length k).key=(gK g p.recs.length k).key/\((gK g p.recs.length k).val.length=(gK g p.recs.length k).val.length/\aj (gK g p.recs.length k).val.length 1 (ah aJ (gK g p.recs.length k).val) (ah aJ (gK g p.recs.length k).val))/\(gK g p.recs.length k).prod=(gK g p.recs.length k).prod/\(gK g p.recs.length k).seq=(gK g p.recs.length k).seq/\True)/\(p.prods.length=p.prods.length/\aj p.prods.length 4 (ah P.ak p.prods) (ah P.ak (gT zy p.prods 0)))/\(p.cons.length=p.cons.length/\aj p.cons.length 2 (ah aD p.cons) (ah aD p.cons))/\(p.rng.lo=p.rng.lo/\p.rng.hi=p.rng.hi/\p.epoch=p.epoch/\p.frozen=p.frozen/\(0=0/\p.recs.length=p.recs.length)/\(0=0/\p.prods.length=p.prods.length)/\(0=0/\p.cons.length=p.cons.length)/\True)/\True)/\true=true)/\aL Tryz.prog 21 10 (aN Tryz.prog 21 10) { t:=Tn (⟨0,R6._proof_2 p⟩:{ k:Nat // k<=p.prods.length }).val,m:=zH p (gK g p.recs.length) (gT zy p.prods (⟨0,R6._proof_2 p⟩:{ k:Nat // k<=p.prods.length }).val) p.cons,mv:=[]:St } (T.map (bJ Jl (Yc p (gK g p.recs.length))) ((fun (x:{ k:Nat // k<=p.prods.length })=>T.ret ()) (⟨0,R6._proof_2 p⟩:{ k:Nat // k<=p.prods.length })))/\(((0=0/\0=0)/\(0:Int)=0/\True)/\((p.recs.length=p.recs.length/\∀ k,k<p.recs.length->(gK g p.recs.length k).off=(gK g p.recs.length k).off/\(gK g p.recs.length k).key=(gK g p.recs.length k).key/\((gK g p.recs.length k).val.length=(gK g p.recs.length k).val.length/\aj (gK g p.recs.length k).val.length 1 (ah aJ (gK g p.recs.length k).val) (ah aJ (gK g p.recs.length k).val))/\(gK g p.recs.length k).prod=(gK g p.recs.length k).prod/\(gK g p.recs.length k).seq=(gK g p.recs.length k).seq/\True)/\(p.prods.length=p.prods.length/\aj p.prods.length 4 (ah P.ak (gT zy p.prods p.prods.length)) (ah P.ak (gT zy p.prods p.prods.length)))/\(p.cons.length=p.cons.length/\aj p.cons.length 2 (ah aD p.cons) (ah aD (gT uM p.cons 0)))/\(p.rng.lo=p.rng.lo/\p.rng.hi=p.rng.hi/\p.epoch=p.epoch/\p.frozen=p.frozen/\(0=0/\p.recs.length=p.recs.length)/\(0=0/\p.prods.length=p.prods.length)/\(0=0/\p.cons.length=p.cons.length)/\True)/\True)/\true=true)/\aL Tryz.prog 21 14 (aN Tryz.prog 21 14) { t:=Rn (⟨0,R6._proof_3 p⟩:{ k:Nat // k<=p.cons.length }).val,m:=zH p (gK g p.recs.length) (gT zy p.prods p.prods.length) (gT uM p.cons (⟨0,R6._proof_3 p⟩:{ k:Nat // k<=p.cons.length }).val),mv:=[]:St } (T.map (bJ Jl (Zq p (gK g p.recs.length) (gT zy p.prods p.prods.length))) ((fun (x:{ k:Nat // k<=p.cons.length })=>T.ret ()) (⟨0,R6._proof_3 p⟩:{ k:Nat // k<=p.cons.length })))/\True/\True
theorem aah (p:Part) (g:Nat->Rec):(jR Tryz.prog (R6 p g) 21 [.agg (Z8 p 2 3 4)] (sqB p) sqR)=aeH p g:=by kernel_rfl
def abn (u:Unit):Prop :=
 (false=true->false=true/\False)/\(false=false->(false=true->false=true/\false=true/\False)/\(false=false->(false=true->false=true/\false=true/\False)/\(false=false->True/\True)))
theorem Uo (u:Unit):(bf Tryz.prog (hT _) 21 [.agg (aX true default)] [] (.ret (.tup [],[],[])))=abn u:=by kernel_rfl
end N
namespace H
theorem Bz (x:Rec) (k:Nat):(xO x k).val.length=x.val.length:=by simp [xO];omega
theorem Rb (x:Rec) {k:Nat} (h:k<x.val.length):(xO x (k+1)).val=(xO x k).val.set k (IntKind.u8.wrap ((xO x k).val.getD k 0+1)):=by
 refine List.ext_getElem? fun q=>?_
 simp only [xO,List.getElem?_set,List.getElem?_append,List.length_map,List.length_take,List.length_append,List.length_drop,List.getElem?_map,List.getElem?_take,List.getElem?_drop,List.getD_eq_getElem?_getD]
 have hm:min k x.val.length=k:=by omega
 have hm1:min (k+1) x.val.length=k+1:=by omega
 rw [hm,hm1]
 by_cases h1:q<k
 · have:q≠k:=by omega
   have h2:q<k+1:=by omega
   simp [h1,h2,Ne.symm this]
 · by_cases h2:q=k
   · subst h2
     have h3:q<q+(x.val.length - q):=by omega
     simp [h,h3]
   · have h3:¬ q<k+1:=by omega
     simp [h1,h3,Ne.symm h2]
     congr 1
     omega
theorem Eu (f:Nat->Rec) (i k:Nat):bZ f i k i=xO (f i) k:=if_pos rfl
theorem zx (f:Nat->Rec) {i k p:Nat} (h:¬ p=i):bZ f i k p=f p:=if_neg h
end H
namespace N
open H Q R
theorem Td {α:Type} [Inhabited α] {enc:α->List AV} {l:List α} {i o sz n:Nat} {cs:List AV} {x:α} (hn:n=l.length) (hi:i<l.length) (h1:∀ j,j<sz->o<=j->j<o+len cs->qA (Ax.get cs (j - o)) (Ax.get (enc x) j)) (h2:∀ j,j<sz->¬ (o<=j/\j<o+len cs)->qA (Ax.get (enc (l.getD i default)) j) (Ax.get (enc x) j)) :
 aj n sz (pO (ah enc l) i o cs) (ah enc (l.set i x)):=by
 subst hn
 intro k hk j hj
 unfold pO ah
 by_cases e:k=i
 · subst e
   have g:(l.set k x).getD k default=x:=by simp [hi]
   rw [g]
   by_cases hc:o<=j/\j<o+len cs
   · rw [if_pos ⟨rfl,hc⟩]
     exact h1 j hj hc.1 hc.2
   · rw [if_neg (by rintro ⟨_,h⟩;exact hc h)]
     exact h2 j hj hc
 · rw [if_neg (by rintro ⟨h,_⟩;exact e h)]
   have g:(l.set i x).getD k default=l.getD k default:=by simp [List.getElem?_set,Ne.symm e]
   rw [g]
   exact dn _
theorem uO {α:Type} (f:α->α) (l:List α) (k:Nat):(gT f l k).length=l.length:=by simp [gT];omega
theorem L6 {α:Type} [Inhabited α] (f:α->α) (l:List α) (k:Nat):(gT f l k).getD k default=l.getD k default:=by
 unfold gT
 by_cases h:k<l.length
 · have:(l.take k).length=k:=by simp;omega
   simp only [List.getD_eq_getElem?_getD]
   rw [List.getElem?_append_right (by simp;omega)]
   simp
   congr 2
   omega
 · simp only [List.getD_eq_getElem?_getD]
   rw [List.getElem?_eq_none (by simp;omega),List.getElem?_eq_none (by omega)]
theorem II {α:Type} [Inhabited α] (f:α->α) (l:List α) {k:Nat} (h:k<l.length):gT f l (k+1)=(gT f l k).set k (f (l.getD k default)):=by
 refine List.ext_getElem? fun q=>?_
 simp only [gT,List.getElem?_set,List.getElem?_append,List.length_map,List.length_take,List.length_append,List.length_drop,List.getElem?_map,List.getElem?_take,List.getElem?_drop,List.getD_eq_getElem?_getD]
 have hm:min k l.length=k:=by omega
 have hm1:min (k+1) l.length=k+1:=by omega
 rw [hm,hm1]
 by_cases h1:q<k
 · have:q≠k:=by omega
   have h2:q<k+1:=by omega
   simp [h1,h2,Ne.symm this]
 · by_cases h2:q=k
   · subst h2
     have h3:q<q+(l.length - q):=by omega
     simp [h,h3]
   · have h3:¬ q<k+1:=by omega
     simp [h1,h3,Ne.symm h2]
     congr 1
     omega
theorem Ux (p:Part) (f:Nat->Rec) (i:Nat) (hi:i<p.recs.length) (hn:p.recs.length<=4096) (hl:(f i).val.length<=140737488355328) (k:{ k:Nat // k<=(f i).val.length }):aL Tryz.prog 21 6 (aN Tryz.prog 21 6) ⟨Sk i k.1,zH p (bZ f i k.1) p.prods p.cons,[]⟩ (T.map (bJ Jl (Yx p f i)) (.ret ())):=by
 refine dK (o:=fun _=>.ret ()) (sV:=fun (k:{ k:Nat // k<=(f i).val.length })=>Sk i k.1) (stM:=fun k=>zH p (bZ f i k.1) p.prods p.cons) Tryz.mixed (fun _=>rfl) (fun k=>(T_ p f i k).mpr ?_) k
 unfold abo
 obtain ⟨k,hk⟩:=k
 simp only [Int.toNat_natCast,Nat.zero_add,Eu,Bz]
 refine ⟨by omega,by omega,by simp,fun h1=>?_,fun h1=>?_⟩
 · have hkl:k<(f i).val.length:=by simpa using h1
   have hex:∀ p:{ k:Nat // k<=(f i).val.length }->Prop,p ⟨k+1,hkl⟩->∃ j,p j:=fun p hp=>⟨_,hp⟩
   have hw:IntKind.i64.wrap ((k:Int)+1)=((k+1:Nat):Int):=by rw [wrap_i64 (by omega) (by omega)];omega
   have hwr:=M9 (enc:=aJ) (l:=(xO (f i) k).val) (i:=k) (sz:=1) (n:=(f i).val.length) (cs:=[AV.y (Value.int IntKind.u8 (IntKind.wrap IntKind.u8 (List.getD (xO (f i) k).val k (0:Int)+(1:Int))))]) (x:=IntKind.wrap IntKind.u8 (List.getD (xO (f i) k).val k (0:Int)+(1:Int))) (by rw [Bz]) (by rw [Bz];exact hkl) rfl (fun j hj=>by (obtain rfl:j=0:=by omega);exact dn _)
   rw [<- Rb (f i) hkl] at hwr
   refine ⟨by simp;omega,by simp,by simpa using hkl,by simpa using hkl,by simpa using hkl,by simpa using hkl,hex _ ?_⟩
   have hne:∀ p,¬ p=i->bZ f i k p=bZ f i (k+1) p:=fun p h=>by rw [zx _ h,zx _ h]
   repeat' with_reducible apply And.intro
   all_goals first
    | with_reducible rfl
    | exact trivial
    | exact hw
    | exact hwr
    | exact aG _ _ _
    | (show _ - (k+1)<_ - k;omega)
    | (intro p hp hq;rw [hne p hq];simp)
    | exact rfl
 · have hkl:k=(f i).val.length:=by simp at h1;omega
   subst hkl
   simp
theorem Uu (p:Part) (g:Nat->Rec) (hn:p.recs.length<=4096) (hl:∀ i,i<p.recs.length->(g i).val.length<=140737488355328) (i:{ i:Nat // i<=p.recs.length }):aL Tryz.prog 21 2 (aN Tryz.prog 21 2) ⟨Rx i.1,zH p (gK g i.1) p.prods p.cons,[]⟩ (T.map (bJ Jl (Yh p g)) (.ret ())):=by
 refine dK (o:=fun _=>.ret ()) (sV:=fun (i:{ i:Nat // i<=p.recs.length })=>Rx i.1) (stM:=fun i=>zH p (gK g i.1) p.prods p.cons) Tryz.mixed (fun _=>rfl) (fun i=>(RN p g i).mpr ?_) i
 unfold aa_ u7
 obtain ⟨i,hi⟩:=i
 refine ⟨fun h1=>?_,fun h1=>?_⟩
 · have hlt:i<p.recs.length:=by simpa using h1
   have hex:∀ q:{ i:Nat // i<=p.recs.length }->Prop,q ⟨i+1,hlt⟩->∃ j,q j:=fun q hq=>⟨_,hq⟩
   have hw:IntKind.i64.wrap ((i:Int)+1)=((i+1:Nat):Int):=by rw [wrap_i64 (by omega) (by omega)];omega
   have s1:gK g i i=g i:=if_neg (Nat.lt_irrefl i)
   have s2:ng g i i=Ad (g i):=if_pos rfl
   have s3:∀ q,¬ q=i->ng g i q=gK g i q:=fun q h=>if_neg h
   have e0:bZ (ng g i) i 0 i=Ad (g i):=by rw [Eu,s2];simp [xO]
   have e1:∀ q,¬ q=i->bZ (ng g i) i 0 q=gK g i q:=fun q h=>by rw [zx _ h,s3 q h]
   have e2:∀ q,bZ (ng g i) i (ng g i i).val.length q=gK g (i+1) q:=fun q=>by
    by_cases h:q=i
    · subst h
      rw [Eu,s2]
      exact (if_pos (Nat.lt_succ_self _)).symm
    · rw [zx _ h,s3 q h]
      unfold gK
      by_cases h2:q<i
      · rw [if_pos h2,if_pos (by omega)]
      · rw [if_neg h2,if_neg (by omega)]
   have hv:(ng g i i).val.length<=140737488355328:=by rw [s2];exact hl i hlt
   have lp:=Ux p (ng g i) i hlt hn hv ⟨0,Nat.zero_le _⟩
   have ov:(Ad (g i)).val=(g i).val:=rfl
   simp only [Int.toNat_natCast,e0,s1]
   refine ⟨by omega,by omega,by simp,?_⟩
   refine ⟨?_,lp,hex _ ?_⟩
   all_goals
    repeat' with_reducible apply And.intro
   all_goals first
    | with_reducible rfl
    | exact trivial
    | exact hw
    | exact aG _ _ _
    | (show _ - (i+1)<_ - i;omega)
    | (intro q _ hq;rw [e1 q hq];simp;done)
    | (intro q _;rw [e2 q];simp;done)
    | exact rfl
 · have:i=p.recs.length:=by simp at h1;omega
   subst this
   simp
theorem Vq (p:Part) (f:Nat->Rec) (hn:p.prods.length<=9223372036854775806) (k:{ k:Nat // k<=p.prods.length }):aL Tryz.prog 21 10 (aN Tryz.prog 21 10) ⟨Tn k.1,zH p f (gT zy p.prods k.1) p.cons,[]⟩ (T.map (bJ Jl (Yc p f)) (.ret ())):=by
 refine dK (o:=fun _=>.ret ()) (sV:=fun (k:{ k:Nat // k<=p.prods.length })=>Tn k.1) (stM:=fun k=>zH p f (gT zy p.prods k.1) p.cons) Tryz.mixed (fun _=>rfl) (fun k=>(Qh p f k).mpr ?_) k
 unfold abI
 obtain ⟨k,hk⟩:=k
 refine ⟨fun h1=>?_,fun h1=>?_⟩
 · have hlt:k<p.prods.length:=by simpa using h1
   have hex:∀ q:{ k:Nat // k<=p.prods.length }->Prop,q ⟨k+1,hlt⟩->∃ j,q j:=fun q hq=>⟨_,hq⟩
   have hw:IntKind.i64.wrap ((k:Int)+1)=((k+1:Nat):Int):=by rw [wrap_i64 (by omega) (by omega)];omega
   have hx:=L6 zy p.prods k
   have hs:=II zy p.prods hlt
   have hwr:=Td (enc:=P.ak) (l:=gT zy p.prods k) (i:=k) (o:=1) (sz:=4) (n:=p.prods.length) (cs:=[AV.y (Value.int IntKind.u64 (IntKind.wrap IntKind.u64 ((p.prods.getD k default).seq+1)))]) (x:=zy (p.prods.getD k default)) (uO _ _ _).symm (by rw [uO];exact hlt)
    (fun j _ a b=>by
      have:j=1:=by simp [len] at b;omega
      subst this
      exact dn _)
    (fun j hj a=>by
      rw [hx]
      have:j=0∨j=2∨j=3:=by simp [len] at a;omega
      rcases this with rfl | rfl | rfl<;>exact dn _)
   rw [<- hs] at hwr
   simp only [Int.toNat_natCast,Nat.zero_add,hx]
   refine ⟨by simpa using hlt,by simpa using hlt,by simpa using hlt,by simpa using hlt,hex _ ?_⟩
   repeat' with_reducible apply And.intro
   all_goals first
    | with_reducible rfl
    | exact trivial
    | exact hw
    | exact hwr
    | exact aG _ _ _
    | (show _ - (k+1)<_ - k;omega)
    | (intro q _;simp;done)
    | exact rfl
 · have:k=p.prods.length:=by simp at h1;omega
   subst this
   simp
theorem UR (p:Part) (f:Nat->Rec) (l:List P.Producer) (hn:p.cons.length<=9223372036854775806) (k:{ k:Nat // k<=p.cons.length }):aL Tryz.prog 21 14 (aN Tryz.prog 21 14) ⟨Rn k.1,zH p f l (gT uM p.cons k.1),[]⟩ (T.map (bJ Jl (Zq p f l)) (.ret ())):=by
 refine dK (o:=fun _=>.ret ()) (sV:=fun (k:{ k:Nat // k<=p.cons.length })=>Rn k.1) (stM:=fun k=>zH p f l (gT uM p.cons k.1)) Tryz.mixed (fun _=>rfl) (fun k=>(SY p f l k).mpr ?_) k
 unfold aaW
 obtain ⟨k,hk⟩:=k
 refine ⟨fun h1=>?_,fun h1=>?_⟩
 · have hlt:k<p.cons.length:=by simpa using h1
   have hex:∀ q:{ k:Nat // k<=p.cons.length }->Prop,q ⟨k+1,hlt⟩->∃ j,q j:=fun q hq=>⟨_,hq⟩
   have hw:IntKind.i64.wrap ((k:Int)+1)=((k+1:Nat):Int):=by rw [wrap_i64 (by omega) (by omega)];omega
   have hx:=L6 uM p.cons k
   have hs:=II uM p.cons hlt
   have hwr:=Td (enc:=aD) (l:=gT uM p.cons k) (i:=k) (o:=1) (sz:=2) (n:=p.cons.length) (cs:=[AV.y (Value.int IntKind.u64 (IntKind.wrap IntKind.u64 ((p.cons.getD k default).off+1)))]) (x:=uM (p.cons.getD k default)) (uO _ _ _).symm (by rw [uO];exact hlt)
    (fun j _ a b=>by
      have:j=1:=by simp [len] at b;omega
      subst this
      exact dn _)
    (fun j hj a=>by
      rw [hx]
      have:j=0:=by simp [len] at a;omega
      subst this
      exact dn _)
   rw [<- hs] at hwr
   simp only [Int.toNat_natCast,Nat.zero_add,hx]
   refine ⟨by simpa using hlt,by simpa using hlt,by simpa using hlt,by simpa using hlt,hex _ ?_⟩
   repeat' with_reducible apply And.intro
   all_goals first
    | with_reducible rfl
    | exact trivial
    | exact hw
    | exact hwr
    | exact aG _ _ _
    | (show _ - (k+1)<_ - k;omega)
    | (intro q _;simp;done)
    | exact rfl
 · have:k=p.cons.length:=by simp at h1;omega
   subst this
   simp
theorem ait (p:Part) (h:qO p):sqR.Sat (aB Tryz.prog 21 [.agg (Z8 p 2 3 4)] (sqB p)):=by
 refine jo (ht:=R6 p (fun k=>p.recs.getD k default)) Tryz.mixed rfl ?_
 rw [aah p (fun k=>p.recs.getD k default)]
 unfold aeH
 have h1:=h.n
 have h2:=h.pl
 have h3:=h.cl
 have l1:=Uu p (fun k=>p.recs.getD k default) h1 (fun i hi=>h.v i hi) ⟨0,Nat.zero_le _⟩
 have l2:=Vq p (gK (fun k=>p.recs.getD k default) p.recs.length) (by omega) ⟨0,Nat.zero_le _⟩
 have l3:=UR p (gK (fun k=>p.recs.getD k default) p.recs.length) (gT zy p.prods p.prods.length) (by omega) ⟨0,Nat.zero_le _⟩
 have e0:∀ q,gK (fun k=>p.recs.getD k default) 0 q=p.recs.getD q default:=fun q=>if_neg (Nat.not_lt_zero q)
 have i1:gT zy p.prods 0=p.prods:=by simp [gT]
 have i2:gT uM p.cons 0=p.cons:=by simp [gT]
 simp only [l1,l2,l3,e0,i1,i2]
 repeat' with_reducible apply And.intro
 all_goals first
  | with_reducible rfl
  | exact trivial
  | exact aG _ _ _
  | assumption
  | (intro q _;simp;done)
  | exact rfl
theorem af6:(T.ret ((.tup [],[],[]):An)).Sat (aB Tryz.prog 21 [.agg (aX true default)] []):=by
 refine aP (ht:=hT _) Tryz.mixed rfl ?_
 rw [Uo ()]
 unfold abn
 simp
noncomputable def sqC (p:Part):dZ Tryz.prog:=⟨21,[.agg (Z8 p 2 3 4)],sqB p,.need (qO p) sqR,T.Sat.need fun h=>ait p h⟩
noncomputable def ahQ:dZ Tryz.prog:=⟨21,[.agg (aX true default)],[],.ret (.tup [],[],[]),af6⟩
end N
namespace H
end H
namespace Q
open H D
def ptF (p:Part):List AV:=[.y (.string p.rng.lo),.y (.string p.rng.hi),.y (.int .u64 p.epoch),.y (.int .u64 p.frozen),iM false p.recs,P.bg false p.prods,dB false p.cons]
end Q
namespace Q
def dV (l:List P.Producer) (id:Int):Int:=match l.findIdx? (fun y=>y.id==id) with | some i=>(i:Nat) | none=>-1
def eX (l:List P.Producer) (s:Kn):List Int:=l.map fun y=>s.sel y.id
theorem kX (s:Kn) (a b c:Int):(s.put a b).sel c=if a=c then b else s.sel c:=by
 unfold Kn.sel Kn.put jI yL zL
 by_cases h:a=c
 · simp [h]
 · simp [h]
theorem lF (l:List P.Producer) (s:Kn):(eX l s).length=l.length:=by simp [eX]
theorem SV (l:List P.Producer) (s:Kn) {i:Nat} (h:i<l.length):(eX l s).getD i 0=s.sel (l.getD i default).id:=by
 simp [eX,h]
theorem Ox {l:List P.Producer} (hu:P.rising l) (s:Kn) {i:Nat} (h:i<l.length) (b:Int):(eX l s).set i b=eX l (s.put (l.getD i default).id b):=by
 refine List.ext_getElem? fun q=>?_
 unfold eX
 rw [List.getElem?_set,List.getElem?_map,List.getElem?_map,List.length_map]
 by_cases hq:q<l.length
 · rw [List.getElem?_eq_getElem hq]
   have e1:l.getD q default=l[q]:=by simp [hq]
   have e2:l.getD i default=l[i]:=by simp [h]
   by_cases h1:i=q
   · subst h1
     simp only [h,if_true,Option.map_some,kX,e2]
   · have hne:¬ (l.getD i default).id=l[q].id:=by
      rw [<- e1]
      rcases Nat.lt_or_gt_of_ne h1 with h2 | h2
      · have:=hu i q h2 hq;omega
      · have:=hu q i h2 h;omega
     rw [if_neg h1]
     simp only [Option.map_some,kX,if_neg hne]
 · rw [List.getElem?_eq_none (by omega)]
   by_cases h1:i=q
   · omega
   · rw [if_neg h1]
     rfl
theorem rU {l:List P.Producer} {id:Int} {i:Nat} (h:dV l id=(i:Nat)):i<l.length/\(l.getD i default).id=id:=by
 unfold dV at h
 split at h
 · rename_i j hj
   obtain ⟨h1,h2,_⟩:=List.findIdx?_eq_some_iff_getElem.1 hj
   have:j=i:=by omega
   subst this
   exact ⟨h1,by simpa [h1] using h2⟩
 · omega
theorem vL (l:List P.Producer) (id:Int):(dV l id=-1/\∀ y∈l,y.id≠id)∨∃ i:Nat,dV l id=(i:Nat)/\i<l.length:=by
 cases hf:l.findIdx? (fun y=>y.id==id) with
 | none =>
   refine .inl ⟨by simp [dV,hf],fun y hy e=>?_⟩
   have:=List.findIdx?_eq_none_iff.1 hf y hy
   simp [e] at this
 | some i =>
   have h:dV l id=(i:Nat):=by simp [dV,hf]
   exact .inr ⟨i,h,(rU h).1⟩
theorem TW {l:List P.Producer} (hu:P.rising l):∀ k,k<=l.length->∀ i,i<l.length->(jf (l.take k)).sel (l.getD i default).id=if i<k then (l.getD i default).seq else 0:=by
 intro k
 induction k with
 | zero=>intro _ i _;simp [jf,kn0,Kn.sel,zL]
 | succ k ih =>
   intro hk i hi
   rw [Ik (by omega),kX]
   by_cases h1:k=i
   · subst h1;simp
   · have hne:¬ (l.getD k default).id=(l.getD i default).id:=by
      rcases Nat.lt_or_gt_of_ne h1 with h2 | h2
      · have:=hu k i h2 hi;omega
      · have:=hu i k h2 (by omega);omega
     rw [if_neg hne,ih (by omega) i hi]
     by_cases h2:i<k
     · rw [if_pos h2,if_pos (by omega)]
     · rw [if_neg h2,if_neg (by omega)]
theorem acC {l:List P.Producer} (hu:P.rising l) {i:Nat} (hi:i<l.length):(jf l).sel (l.getD i default).id=(l.getD i default).seq:=by
 have:=TW hu l.length (Nat.le_refl _) i hi
 rwa [List.take_length,if_pos hi] at this
theorem aev:∀ (l:List P.Producer) (id:Int),(∀ y∈l,y.id≠id)->(jf l).sel id=0:=by
 intro l id h
 unfold jf
 have key:∀ (l:List P.Producer) (s:Kn),s.sel id=0->(∀ y∈l,y.id≠id)->(l.foldl (fun s x=>s.put x.id x.seq) s).sel id=0:=by
  intro l
  induction l with
  | nil=>intro s h _;exact h
  | cons x r ih =>
    intro s hs hh
    refine ih _ ?_ fun y hy=>hh y (List.mem_cons_of_mem _ hy)
    rw [kX,if_neg (hh x (List.mem_cons_self))]
    exact hs
 exact key l kn0 (by simp [kn0,Kn.sel,zL]) h
theorem Yr:∀ (l:List Rec) (id:Int),(∀ y∈l,0<=y.seq)->0<=(kF l).sel id:=by
 intro l id h
 unfold kF
 have key:∀ (l:List Rec) (s:Kn),0<=s.sel id->(∀ y∈l,0<=y.seq)->0<=(l.foldl (fun s x=>s.put x.prod x.seq) s).sel id:=by
  intro l
  induction l with
  | nil=>intro s h _;exact h
  | cons x r ih =>
    intro s hs hh
    refine ih _ ?_ fun y hy=>hh y (List.mem_cons_of_mem _ hy)
    rw [kX]
    split
    · exact hh x (List.mem_cons_self)
    · exact hs
 exact key l kn0 (by simp [kn0,Kn.sel,zL]) h
def okD (p:Part) (k:Nat):Bool :=
 let x:=p.recs.getD k default
 let at_:=dV p.prods x.prod
 fZ p.rng x.key&&(!decide (at_<0)&&(!decide (x.seq<=(eX p.prods (kF (p.recs.take k))).getD at_.toNat 0)&&!decide ((p.prods.getD at_.toNat default).seq<x.seq)))
theorem adt {p:Part} (ht:P.bE p.prods=true) (hs:∀ y∈p.recs,0<=y.seq) {k:Nat}:okD p k=okO p k:=by
 have hu:=P.gG ht
 unfold okD okO
 generalize p.recs.getD k default=x
 rcases vL p.prods x.prod with ⟨h1,h2⟩ | ⟨i,h1,h2⟩
 · have e1:=aev _ _ h2
   have e2:=Yr (p.recs.take k) x.prod fun y hy=>hs y (List.mem_of_mem_take hy)
   simp only [h1,e1]
   by_cases h3:x.seq<=(kF (p.recs.take k)).sel x.prod
   · simp [h3]
   · have h4:(0:Int)<x.seq:=by omega
     simp [h3,h4]
 · obtain ⟨h3,h4⟩:=rU h1
   have e1:=acC hu h3
   have e2:=SV p.prods (kF (p.recs.take k)) h3
   rw [h4] at e1 e2
   simp only [h1,Int.toNat_natCast,e1,e2]
   have h5:¬ ((i:Nat):Int)<0:=by omega
   simp [h5]
end Q
namespace Q
open H D
def yR (id:Int) (y:P.Producer):Bool:=y.id==id
def pdT (b:Bool) (l:List P.Producer) (id:Int) (k:Nat):List AV:=mkT 20 [(0,P.bg b l),(1,.y (.int .u64 id)),(5,.y (.int .i64 k))]
def pdS (r:Bool×Nat):Exit×List AV×List ay:=match r.1 with
 | true=>(.ret,mkT 20 [(4,.y (.int .i64 r.2))],[])
 | false=>(.exit 0,mkT 20 [],[])
def pdO (l:List P.Producer) (id:Int) (k:Nat):T (Bool×Nat):=.ite ((l.drop k).any (yR id)) (.ret (true,k+(l.drop k).findIdx (yR id))) (.ret (false,0))
def abA (b:Bool) (l:List P.Producer) (id:Int) (k:Nat):Prop :=
 (decide ((↑k:Int)<(↑(List.length l):Int))=true->(true&&decide ((↑k:Int)<(↑(List.length l):Int)))=true/\(((List.getD l (Int.toNat (↑k:Int)) (@default P.Producer P.instInhabitedProducer)).id==id)=true->(List.any (List.drop k l) (yR id)=true->((↑k:Int)=(↑(k+List.findIdx (yR id) (List.drop k l)):Int)/\True)/\True/\true=true)/\(List.any (List.drop k l) (yR id)=false->False))/\(((List.getD l (Int.toNat (↑k:Int)) (@default P.Producer P.instInhabitedProducer)).id==id)=false->∃ (j:Nat),List.length l - j<List.length l - k/\(((b=b/\List.length l=List.length l/\aj (List.length l) (4:Nat) (ah P.ak l) (ah P.ak l))/\id=id/\IntKind.wrap IntKind.i64 ((↑k:Int)+(1:Int))=(↑j:Int)/\True)/\True/\true=true)/\true=true/\(List.any (List.drop j l) (yR id)=true->(List.any (List.drop k l) (yR id)=true->(true,j+List.findIdx (yR id) (List.drop j l))=(true,k+List.findIdx (yR id) (List.drop k l)))/\(List.any (List.drop k l) (yR id)=false->(true,j+List.findIdx (yR id) (List.drop j l))=(false,(0:Nat))))/\(List.any (List.drop j l) (yR id)=false->(List.any (List.drop k l) (yR id)=true->(false,(0:Nat))=(true,k+List.findIdx (yR id) (List.drop k l)))/\(List.any (List.drop k l) (yR id)=false->(false,(0:Nat))=(false,(0:Nat))))))/\(decide ((↑k:Int)<(↑(List.length l):Int))=false->(List.any (List.drop k l) (yR id)=true->False)/\(List.any (List.drop k l) (yR id)=false->True/\True/\true=true))
theorem Ud (b:Bool) (l:List P.Producer) (id:Int) (k:Nat):(bP Tryz.prog (hT _) 55 2 (fun k=>l.length - k) (pdT b l id) (fun _=>[]) [0] (pdO l id) pdS k)=abA b l id k:=by kernel_rfl
noncomputable def pdH (b:Bool) (l:List P.Producer) (id:Int):aC Tryz.prog:=hh _ (mU 55 2 (dM (pdT b l id) (fun _=>[]) [0] (pdO l id) pdS 0) bO) bN bM
def aga (b:Bool) (l:List P.Producer) (id:Int):Prop :=
 (((b=b/\List.length l=List.length l/\aj (List.length l) (4:Nat) (ah P.ak l) (ah P.ak l))/\id=id/\(0:Int)=(0:Int)/\True)/\True/\true=true)/\aL Tryz.prog (55:Nat) (2:Nat) (aN Tryz.prog (55:Nat) (2:Nat)) { t:=pdT b l id (0:Nat),m:=[],mv:=[]:St } (T.map (bJ [(0:Nat)] pdS) (pdO l id (0:Nat)))/\(List.any (List.drop (0:Nat) l) (yR id)=true->(↑((0:Nat)+List.findIdx (yR id) (List.drop (0:Nat) l)):Int)=dV l id/\True)/\(List.any (List.drop (0:Nat) l) (yR id)=false->(-1:Int)=dV l id/\True)
theorem XL (b:Bool) (l:List P.Producer) (id:Int):(bf Tryz.prog (pdH b l id) 55 [P.bg b l,.y (.int .u64 id)] [] (yN (dV l id)))=aga b l id:=by kernel_rfl
theorem JA (l:List P.Producer) (id:Int):dV l id=if l.any (yR id) then ((l.findIdx (yR id):Nat):Int) else -1:=by
 unfold dV yR
 cases hf:l.findIdx? (fun y=>y.id==id) with
 | none =>
   have:=List.findIdx?_eq_none_iff.1 hf
   have h:l.any (fun y=>y.id==id)=false:=by
    rw [List.any_eq_false]
    intro y hy
    simpa using this y hy
   simp [h]
 | some i =>
   obtain ⟨h1,h2,_⟩:=List.findIdx?_eq_some_iff_getElem.1 hf
   have h:l.any (fun y=>y.id==id)=true:=List.any_eq_true.2 ⟨l[i],List.getElem_mem h1,h2⟩
   rw [if_pos h]
   have:=List.findIdx?_eq_some_iff_findIdx_eq.1 hf
   rw [this.2]
theorem aac (b:Bool) (l:List P.Producer) (id:Int) (hl:l.length<=9223372036854775806) (k:Nat):aL Tryz.prog 55 2 (aN Tryz.prog 55 2) ⟨pdT b l id k,[],[]⟩ ((pdO l id k).map (bJ [0] pdS)):=by
 refine dY Tryz.mixed (fun _=>rfl) (fun k=>(Ud b l id k).mpr ?_) k
 unfold abA
 simp
 refine ⟨fun h=>?_,fun h=>by simp [iX h]⟩
 simp (disch:=omega) only [wrap_i64]
 rw [drop_cons h]
 simp only [List.any_cons,List.findIdx_cons]
 generalize l[k]?.getD default=y
 by_cases h1:y.id=id
 · simp [yR,h1,h]
 · simp [yR,h1,h,cast_succ_eq]
   exact ⟨k+1,by omega,rfl,by grind⟩
theorem ai9 (b:Bool) (l:List P.Producer) (id:Int) (hl:l.length<=9223372036854775806):(yN (dV l id)).Sat (aB Tryz.prog 55 [P.bg b l,.y (.int .u64 id)] []):=by
 refine aP (ht:=pdH b l id) Tryz.mixed rfl ?_
 rw [XL b l id]
 unfold aga
 have:=aac b l id hl 0
 rw [JA]
 simp [this]
noncomputable def pdC (b:Bool) (l:List P.Producer) (id:Int):dZ Tryz.prog:=⟨55,[P.bg b l,.y (.int .u64 id)],[],.need (l.length<=9223372036854775806) (yN (dV l id)),T.Sat.need fun h=>ai9 b l id h⟩
def c1T (k:Nat) (n:Nat):List AV:=mkT 167 [(1,.ptr 0 0 0 0),(6,.own 1 1 0 n),(7,.y (.int .i64 k))]
def c1M (b:Bool) (p:Part) (k:Nat):List ay:=[.box 30 (aX b p),ah5 (eX p.prods (kF (p.recs.take k)))]
def cS (b:Bool) (p:Part) (e:Nat) (r:Bool):Exit×List AV×List ay:=match r with
 | true=>(.exit e,mkT 167 [(1,.ptr 0 0 0 0)],[.box 30 (aX b p)])
 | false=>(.ret,mkT 167 [(2,.s (.int .i64 165))],[])
noncomputable def c1H (b:Bool) (p:Part) (k:Nat):aC Tryz.prog:=hh _ bO (cs1 15 11 4 (abR p.rng (p.recs.getD k default).key) (cs1 15 12 4 (pdC b p.prods (p.recs.getD k default).prod) bN)) bM
def afE (b:Bool) (p:Part) (k:Nat):Prop :=
 (decide ((k:Int)<(p.recs.length:Int))=true->(true&&decide ((k:Int)<(p.recs.length:Int)))=true/\((p.rng.lo=p.rng.lo/\p.rng.hi=p.rng.hi/\True)/\(p.recs.getD (Int.toNat (k:Int)) default).key=(p.recs.getD k default).key/\True)/\True/\((b=b/\p.prods.length=p.prods.length/\aj p.prods.length 4 (ah P.ak p.prods) (ah P.ak p.prods))/\(p.recs.getD (Int.toNat (k:Int)) default).prod=(p.recs.getD k default).prod/\True)/\True/\p.prods.length<=9223372036854775806/\((!fZ p.rng (p.recs.getD k default).key)=true->(bI p k=true->False)/\(bI p k=false->((165:Int)=165/\True)/\True/\true=true))/\((!fZ p.rng (p.recs.getD k default).key)=false->(decide (dV p.prods (p.recs.getD k default).prod<0)=true->(bI p k=true->False)/\(bI p k=false->((165:Int)=165/\True)/\True/\true=true))/\(decide (dV p.prods (p.recs.getD k default).prod<0)=false->(decide (0<=dV p.prods (p.recs.getD k default).prod)&&decide (dV p.prods (p.recs.getD k default).prod<((eX p.prods (kF (List.take k p.recs))).length:Int)))=true/\decide (0+Int.toNat (dV p.prods (p.recs.getD k default).prod)<(eX p.prods (kF (List.take k p.recs))).length)=true/\(decide ((p.recs.getD (Int.toNat (k:Int)) default).seq<=(eX p.prods (kF (List.take k p.recs))).getD (0+Int.toNat (dV p.prods (p.recs.getD k default).prod)) 0)=true->(bI p k=true->False)/\(bI p k=false->((165:Int)=165/\True)/\True/\true=true))/\(decide ((p.recs.getD (Int.toNat (k:Int)) default).seq<=(eX p.prods (kF (List.take k p.recs))).getD (0+Int.toNat (dV p.prods (p.recs.getD k default).prod)) 0)=false->(decide (0<=dV p.prods (p.recs.getD k default).prod)&&decide (dV p.prods (p.recs.getD k default).prod<(p.prods.length:Int)))=true/\(decide ((p.prods.getD (Int.toNat (dV p.prods (p.recs.getD k default).prod)) default).seq<(p.recs.getD (Int.toNat (k:Int)) default).seq)=true->(bI p k=true->False)/\(bI p k=false->((165:Int)=165/\True)/\True/\true=true))/\(decide ((p.prods.getD (Int.toNat (dV p.prods (p.recs.getD k default).prod)) default).seq<(p.recs.getD (Int.toNat (k:Int)) default).seq)=false->(decide (0<=dV p.prods (p.recs.getD k default).prod)&&decide (dV p.prods (p.recs.getD k default).prod<((eX p.prods (kF (List.take k p.recs))).length:Int)))=true/\decide (0+Int.toNat (dV p.prods (p.recs.getD k default).prod)<(eX p.prods (kF (List.take k p.recs))).length)=true/\∃ j:Nat,p.recs.length - j<p.recs.length - k/\(((0=0/\0=0)/\(0=0/\(eX p.prods (kF (List.take k p.recs))).length=(eX p.prods (kF (List.take j p.recs))).length)/\IntKind.i64.wrap ((k:Int)+1)=(j:Int)/\True)/\((bQ b b p p)/\((eX p.prods (kF (List.take k p.recs))).length=(eX p.prods (kF (List.take j p.recs))).length/\aj (eX p.prods (kF (List.take k p.recs))).length 1 (pO (ah G6 (eX p.prods (kF (List.take k p.recs)))) (0+Int.toNat (dV p.prods (p.recs.getD k default).prod)) 0 [AV.y (.int .u64 (p.recs.getD (Int.toNat (k:Int)) default).seq)]) (ah G6 (eX p.prods (kF (List.take j p.recs)))))/\True)/\true=true)/\true=true/\(bI p j=true->(bI p k=true->true=true)/\(bI p k=false->true=false))/\(bI p j=false->(bI p k=true->false=true)/\(bI p k=false->false=false)))))))/\(decide ((k:Int)<(p.recs.length:Int))=false->(bI p k=true->((0=0/\0=0)/\True)/\((bQ b b p p)/\True)/\true=true)/\(bI p k=false->False))
theorem YM (b:Bool) (p:Part) (k:Nat):(bP Tryz.prog (c1H b p k) 15 8 (fun k=>p.recs.length - k) (fun k=>c1T k (eX p.prods (kF (p.recs.take k))).length) (c1M b p) D8 (Wi p) (cS b p 0) k)=afE b p k:=by kernel_rfl
def c2T (k:Nat):List AV:=mkT 167 [(1,.ptr 0 0 0 0),(11,.y (.int .i64 k))]
def c2O (p:Part) (k:Nat):T Bool:=.ite ((p.prods.drop k).any (cB p)) (.ret false) (.ret true)
def ahA (b:Bool) (p:Part) (k:Nat):Prop :=
 (decide ((k:Int)<(p.prods.length:Int))=true->(true&&decide ((k:Int)<(p.prods.length:Int)))=true/\((!(p.prods.getD (Int.toNat (k:Int)) default).here)=true->∃ j:Nat,p.prods.length - j<p.prods.length - k/\(((0=0/\0=0)/\IntKind.i64.wrap ((k:Int)+1)=(j:Int)/\True)/\((bQ b b p p)/\True)/\true=true)/\true=true/\(List.any (List.drop j p.prods) (cB p)=true->(List.any (List.drop k p.prods) (cB p)=true->false=false)/\(List.any (List.drop k p.prods) (cB p)=false->false=true))/\(List.any (List.drop j p.prods) (cB p)=false->(List.any (List.drop k p.prods) (cB p)=true->true=false)/\(List.any (List.drop k p.prods) (cB p)=false->true=true)))/\((!(p.prods.getD (Int.toNat (k:Int)) default).here)=false->(decide (IntKind.u64.wrap (p.recs.length:Int)<=(p.prods.getD (Int.toNat (k:Int)) default).offset)=true->(List.any (List.drop k p.prods) (cB p)=true->((165:Int)=165/\True)/\True/\true=true)/\(List.any (List.drop k p.prods) (cB p)=false->False))/\(decide (IntKind.u64.wrap (p.recs.length:Int)<=(p.prods.getD (Int.toNat (k:Int)) default).offset)=false->(decide (0<=IntKind.i64.wrap (p.prods.getD (Int.toNat (k:Int)) default).offset)&&decide (IntKind.i64.wrap (p.prods.getD (Int.toNat (k:Int)) default).offset<(p.recs.length:Int)))=true/\(((p.recs.getD (Int.toNat (IntKind.i64.wrap (p.prods.getD (Int.toNat (k:Int)) default).offset)) default).prod != (p.prods.getD (Int.toNat (k:Int)) default).id)=true->(List.any (List.drop k p.prods) (cB p)=true->((165:Int)=165/\True)/\True/\true=true)/\(List.any (List.drop k p.prods) (cB p)=false->False))/\(((p.recs.getD (Int.toNat (IntKind.i64.wrap (p.prods.getD (Int.toNat (k:Int)) default).offset)) default).prod != (p.prods.getD (Int.toNat (k:Int)) default).id)=false->(decide (0<=IntKind.i64.wrap (p.prods.getD (Int.toNat (k:Int)) default).offset)&&decide (IntKind.i64.wrap (p.prods.getD (Int.toNat (k:Int)) default).offset<(p.recs.length:Int)))=true/\(((p.recs.getD (Int.toNat (IntKind.i64.wrap (p.prods.getD (Int.toNat (k:Int)) default).offset)) default).seq != (p.prods.getD (Int.toNat (k:Int)) default).seq)=true->(List.any (List.drop k p.prods) (cB p)=true->((165:Int)=165/\True)/\True/\true=true)/\(List.any (List.drop k p.prods) (cB p)=false->False))/\(((p.recs.getD (Int.toNat (IntKind.i64.wrap (p.prods.getD (Int.toNat (k:Int)) default).offset)) default).seq != (p.prods.getD (Int.toNat (k:Int)) default).seq)=false->∃ j:Nat,p.prods.length - j<p.prods.length - k/\(((0=0/\0=0)/\IntKind.i64.wrap ((k:Int)+1)=(j:Int)/\True)/\((bQ b b p p)/\True)/\true=true)/\true=true/\(List.any (List.drop j p.prods) (cB p)=true->(List.any (List.drop k p.prods) (cB p)=true->false=false)/\(List.any (List.drop k p.prods) (cB p)=false->false=true))/\(List.any (List.drop j p.prods) (cB p)=false->(List.any (List.drop k p.prods) (cB p)=true->true=false)/\(List.any (List.drop k p.prods) (cB p)=false->true=true)))))))/\(decide ((k:Int)<(p.prods.length:Int))=false->(List.any (List.drop k p.prods) (cB p)=true->False)/\(List.any (List.drop k p.prods) (cB p)=false->((0=0/\0=0)/\True)/\((bQ b b p p)/\True)/\true=true))
theorem Y8 (b:Bool) (p:Part) (k:Nat):(bP Tryz.prog (hT _) 15 17 (fun k=>p.prods.length - k) c2T (fun _=>[.box 30 (aX b p)]) D8 (c2O p) (cS b p 2) k)=ahA b p k:=by kernel_rfl
def c3T (k:Nat):List AV:=mkT 167 [(1,.ptr 0 0 0 0),(13,.y (.int .i64 k))]
def c3O (p:Part) (k:Nat):T Bool:=.ite ((p.cons.drop k).any (bY p.recs.length)) (.ret false) (.ret true)
def afi (b:Bool) (p:Part) (k:Nat):Prop :=
 (decide ((k:Int)<(p.cons.length:Int))=true->(true&&decide ((k:Int)<(p.cons.length:Int)))=true/\(decide (IntKind.u64.wrap (p.recs.length:Int)<(p.cons.getD (Int.toNat (k:Int)) default).off)=true->(List.any (List.drop k p.cons) (bY p.recs.length)=true->((165:Int)=165/\True)/\True/\true=true)/\(List.any (List.drop k p.cons) (bY p.recs.length)=false->False))/\(decide (IntKind.u64.wrap (p.recs.length:Int)<(p.cons.getD (Int.toNat (k:Int)) default).off)=false->∃ j:Nat,p.cons.length - j<p.cons.length - k/\(((0=0/\0=0)/\IntKind.i64.wrap ((k:Int)+1)=(j:Int)/\True)/\((bQ b b p p)/\True)/\true=true)/\true=true/\(List.any (List.drop j p.cons) (bY p.recs.length)=true->(List.any (List.drop k p.cons) (bY p.recs.length)=true->false=false)/\(List.any (List.drop k p.cons) (bY p.recs.length)=false->false=true))/\(List.any (List.drop j p.cons) (bY p.recs.length)=false->(List.any (List.drop k p.cons) (bY p.recs.length)=true->true=false)/\(List.any (List.drop k p.cons) (bY p.recs.length)=false->true=true))))/\(decide ((k:Int)<(p.cons.length:Int))=false->(List.any (List.drop k p.cons) (bY p.recs.length)=true->False)/\(List.any (List.drop k p.cons) (bY p.recs.length)=false->((0=0/\0=0)/\True)/\((bQ b b p p)/\True)/\true=true))
theorem YR (b:Bool) (p:Part) (k:Nat):(bP Tryz.prog (hT _) 15 24 (fun k=>p.cons.length - k) c3T (fun _=>[.box 30 (aX b p)]) D8 (c3O p) (cS b p 4) k)=afi b p k:=by kernel_rfl
noncomputable def ckH (b:Bool) (p:Part):aC Tryz.prog:=hh _ (mU 15 8 (dM (fun k=>c1T k (eX p.prods (kF (p.recs.take k))).length) (c1M b p) D8 (Wi p) (cS b p 0) 0) (mU 15 17 (dM c2T (fun _=>[.box 30 (aX b p)]) D8 (c2O p) (cS b p 2) 0) (mU 15 24 (dM c3T (fun _=>[.box 30 (aX b p)]) D8 (c3O p) (cS b p 4) 0) bO)))
 (cs1 15 1 2 (lrC b p.recs) (cs1 15 2 2 (P.agZ b p.prods) (cs1 15 3 2 (crC b p.cons) (cs1 15 4 2 (TQ p.rng) bN)))) bM
def UJ (b:Bool) (p:Part):Prop :=
 ((b=b/\p.recs.length=p.recs.length/\aj p.recs.length 5 (ah encR p.recs) (ah encR p.recs))/\True)/\True/\p.recs.length<=9223372036854775806/\((b=b/\p.prods.length=p.prods.length/\aj p.prods.length 4 (ah P.ak p.prods) (ah P.ak p.prods))/\True)/\True/\p.prods.length<=9223372036854775806/\((b=b/\p.cons.length=p.cons.length/\aj p.cons.length 2 (ah aD p.cons) (ah aD p.cons))/\True)/\True/\p.cons.length<=9223372036854775806/\((p.rng.lo=p.rng.lo/\p.rng.hi=p.rng.hi/\True)/\True)/\True/\((fK p.rng != 0)=true->(aH p=true->(165:Int)=0/\True)/\(aH p=false->(165:Int)=165/\True))/\((fK p.rng != 0)=false->((p.epoch==0)=true->(aH p=true->(165:Int)=0/\True)/\(aH p=false->(165:Int)=165/\True))/\((p.epoch==0)=false->((!bG p.recs)=true->(aH p=true->(165:Int)=0/\True)/\(aH p=false->(165:Int)=165/\True))/\((!bG p.recs)=false->((!P.bE p.prods)=true->(aH p=true->(165:Int)=0/\True)/\(aH p=false->(165:Int)=165/\True))/\((!P.bE p.prods)=false->((!bW p.cons)=true->(aH p=true->(165:Int)=0/\True)/\(aH p=false->(165:Int)=165/\True))/\((!bW p.cons)=false->0<=(p.prods.length:Int)/\(p.prods.length:Int)<=(p.prods.length:Int)/\8*(p.prods.length:Int)<=281474976710656/\(p.prods.length:Int)<=9223372036854775807/\(((0=0/\0=0)/\(0=0/\Int.toNat (p.prods.length:Int)=(eX p.prods (fun (x:Int)=>false,fun (x:Int)=>0)).length)/\(0:Int)=0/\True)/\((bQ b b p p)/\(Int.toNat (p.prods.length:Int)=(eX p.prods (fun (x:Int)=>false,fun (x:Int)=>0)).length/\aj (Int.toNat (p.prods.length:Int)) 1 (fun (x j:Nat)=>Ax.get [AV.s (.int .u64 0)] j) (ah G6 (eX p.prods (fun (x:Int)=>false,fun (x:Int)=>0))))/\True)/\true=true)/\aL Tryz.prog 15 8 (aN Tryz.prog 15 8) { t:=c1T 0 (eX p.prods (kF (List.take 0 p.recs))).length,m:=c1M b p 0,mv:=[]:St } (T.map (bJ D8 (cS b p 0)) (Wi p 0))/\(bI p 0=true->(((0=0/\0=0)/\(0:Int)=0/\True)/\((bQ b b p p)/\True)/\true=true)/\aL Tryz.prog 15 17 (aN Tryz.prog 15 17) { t:=c2T 0,m:=[ay.box (30:TypeId) (aX b p)],mv:=[]:St } (T.map (bJ D8 (cS b p 2)) (c2O p 0))/\(List.any (List.drop 0 p.prods) (cB p)=true->(aH p=true->(165:Int)=0/\True)/\(aH p=false->(165:Int)=165/\True))/\(List.any (List.drop 0 p.prods) (cB p)=false->(((0=0/\0=0)/\(0:Int)=0/\True)/\((bQ b b p p)/\True)/\true=true)/\aL Tryz.prog 15 24 (aN Tryz.prog 15 24) { t:=c3T 0,m:=[ay.box (30:TypeId) (aX b p)],mv:=[]:St } (T.map (bJ D8 (cS b p 4)) (c3O p 0))/\(List.any (List.drop 0 p.cons) (bY p.recs.length)=true->(aH p=true->(165:Int)=0/\True)/\(aH p=false->(165:Int)=165/\True))/\(List.any (List.drop 0 p.cons) (bY p.recs.length)=false->(aH p=true->(0:Int)=0/\True)/\(aH p=false->(0:Int)=165/\True))))/\(bI p 0=false->(aH p=true->(165:Int)=0/\True)/\(aH p=false->(165:Int)=165/\True)))))))
theorem F7 (b:Bool) (p:Part):(bf Tryz.prog (ckH b p) 15 [.agg (aX b p)] [] (Im (aH p) 165))=UJ b p:=by kernel_rfl
structure Gj (p:Part):Prop where
 rl:p.recs.length<=4611686018427387903
 pl:p.prods.length<=4611686018427387903
 cl:p.cons.length<=4611686018427387903
 po:∀ x∈p.prods,0<=x.offset/\x.offset<18446744073709551616
 pn:p.prods.length<=35184372088832
 sq:∀ y∈p.recs,0<=y.seq
structure Bj (p:Part):Prop where
 ty:jH p
 pn:p.prods.length<=35184372088832
 sq:∀ y∈p.recs,0<=y.seq
theorem Bj.ins {p:Part} (h:Bj p):Gj p:=⟨h.ty.rl,h.ty.pl,h.ty.cl,h.ty.po,h.pn,h.sq⟩
theorem YP (b:Bool) (p:Part) (h:Gj p) (ht:P.bE p.prods=true) (k:Nat):aL Tryz.prog 15 8 (aN Tryz.prog 15 8) ⟨c1T k (eX p.prods (kF (p.recs.take k))).length,c1M b p k,[]⟩ ((Wi p k).map (bJ D8 (cS b p 0))):=by
 refine dK (o:=Wi p) (sV:=fun k=>c1T k (eX p.prods (kF (p.recs.take k))).length) (stM:=c1M b p) Tryz.mixed (fun _=>rfl) (fun k=>(YM b p k).mpr ?_) k
 unfold afE
 have hr:=h.rl
 have hp:=h.pl
 have hu:=P.gG ht
 by_cases hk:k<p.recs.length
 · have hok:=adt (k:=k) ht h.sq
   have hst:=H7 hk
   have hof:=rJ hk
   have hz:decide ((k:Int)<p.recs.length)=true:=by simp;omega
   have hw:IntKind.i64.wrap ((k:Int)+1)=((k+1:Nat):Int):=by rw [wrap_i64 (by omega) (by omega)];omega
   unfold okD at hok
   simp only [hz,Int.toNat_natCast,lF] at *
   obtain ⟨x,hx⟩:∃ x,x=p.recs.getD k default:=⟨_,rfl⟩
   simp only [<- hx] at *
   rcases vL p.prods x.prod with ⟨h1,h2⟩ | ⟨i,h1,h2⟩
   · rw [h1] at hok
     have ho:okO p k=false:=by rw [<- hok];simp
     rw [ho] at hof
     simp [h1,hof]
     omega
   · obtain ⟨h3,h4⟩:=rU h1
     have hi:¬ ((i:Nat):Int)<0:=by omega
     have hset:=Ox hu (kF (p.recs.take k)) h3 x.seq
     rw [h4] at hset
     have hwr:=M9 (enc:=G6) (l:=eX p.prods (kF (p.recs.take k))) (i:=i) (sz:=1) (n:=p.prods.length) (cs:=[AV.y (Value.int IntKind.u64 x.seq)]) (x:=x.seq) (by rw [lF]) (by rw [lF];exact h3) rfl (fun j hj=>by (obtain rfl:j=0:=by omega);exact dn _)
     rw [hset] at hwr
     rw [h1,Int.toNat_natCast] at hok
     simp only [h1,Int.toNat_natCast,Nat.zero_add]
     obtain ⟨la,hla⟩:∃ la,la=(eX p.prods (kF (p.recs.take k))).getD i 0:=⟨_,rfl⟩
     obtain ⟨pq,hpq⟩:∃ pq,pq=(p.prods.getD i default).seq:=⟨_,rfl⟩
     simp only [<- hla,<- hpq] at *
     cases hh:fZ p.rng x.key
     · have ho:okO p k=false:=by rw [<- hok];simp [hh]
       simp [hof,ho]
       try omega
     · by_cases h5:x.seq<=la
       · have ho:okO p k=false:=by rw [<- hok,hh];simp [h5]
         simp [hof,ho,h5,hi,h3]
         try omega
       · by_cases h6:pq<x.seq
         · have ho:okO p k=false:=by rw [<- hok,hh];simp [h5,h6]
           simp [hof,ho,h5,h6,hi,h3]
           try omega
         · have ho:okO p k=true:=by rw [<- hok,hh];simp [h5,h6,hi]
           simp [hof,ho,h5,h6,hi,h3]
           repeat' with_reducible apply And.intro
           all_goals first
            | omega
            | (refine Exists.intro (k+1) ?_
               rw [hst]
               repeat' with_reducible apply And.intro
               all_goals first
                | omega
                | exact hw
                | exact hwr
                | (simp [lF];done)
                | (intro hq;simp [hq]))
 · have hz:decide ((k:Int)<p.recs.length)=false:=by simp;omega
   simp [hz,uF (show p.recs.length<=k by omega)]
   try exact fun e=>absurd e hk
theorem XP (b:Bool) (p:Part) (h:Gj p) (k:Nat):aL Tryz.prog 15 17 (aN Tryz.prog 15 17) ⟨c2T k,[.box 30 (aX b p)],[]⟩ ((c2O p k).map (bJ D8 (cS b p 2))):=by
 refine dY (stM:=fun _=>[.box 30 (aX b p)]) Tryz.mixed (fun _=>rfl) (fun k=>(Y8 b p k).mpr ?_) k
 unfold ahA
 have hr:=h.rl
 have hp:=h.pl
 by_cases hk:k<p.prods.length
 · have hz:decide ((k:Int)<p.prods.length)=true:=by simp;omega
   have hw:IntKind.i64.wrap ((k:Int)+1)=((k+1:Nat):Int):=by rw [wrap_i64 (by omega) (by omega)];omega
   have hwr:IntKind.u64.wrap (p.recs.length:Int)=p.recs.length:=wrap_u64 (by omega) (by omega)
   have hd:(p.prods.drop k).any (cB p)=(cB p (p.prods.getD k default)||(p.prods.drop (k+1)).any (cB p)):=by
    rw [drop_cons hk,List.any_cons];simp
   have hpo:=h.po (p.prods.getD k default) (by simp [hk])
   simp only [hz,Int.toNat_natCast,hwr,hd]
   obtain ⟨x,hx⟩:∃ x,x=p.prods.getD k default:=⟨_,rfl⟩
   simp only [<- hx] at *
   have hwo:x.offset<(p.recs.length:Int)->IntKind.i64.wrap x.offset=x.offset:=fun h=>wrap_i64 (by omega) (by omega)
   have hex:∀ q:Nat->Prop,q (k+1)->∃ j,p.prods.length - j<p.prods.length - k/\q j:=fun q h=>⟨k+1,by omega,h⟩
   have hcl:aj p.recs.length 5 (ah encR p.recs) (ah encR p.recs):=aG _ _ _
   obtain ⟨rest,hR⟩:∃ rest,rest=(p.prods.drop (k+1)).any (cB p):=⟨_,rfl⟩
   have hexR:∀ q:Nat->Bool->Prop,q (k+1) rest->∃ j,p.prods.length - j<p.prods.length - k/\q j ((p.prods.drop j).any (cB p)):=fun q h=>⟨k+1,by omega,by rw [<- hR];exact h⟩
   rw [<- hR]
   clear hd hR
   have hlo:cB p x=(x.here&&(decide ((p.recs.length:Int)<=x.offset)||((p.recs.getD x.offset.toNat default).prod != x.id||(p.recs.getD x.offset.toNat default).seq != x.seq))):=rfl
   have fin:∀ q:Nat->Bool->Prop,q (k+1) rest->∃ j,p.prods.length - j<p.prods.length - k/\q j ((p.prods.drop j).any (cB p)):=hexR
   cases hh:x.here
   · rw [hh] at hlo
     simp only [Bool.false_and] at hlo
     simp [hlo,hh,-List.any_eq_true,-List.any_eq_false]
     refine fin (fun j r=>_/\(r=true->rest=true)/\(r=false->rest=false)) ?_
     simp [hw]
   · by_cases h1:(p.recs.length:Int)<=x.offset
     · rw [hh] at hlo
       simp [h1] at hlo
       simp [hlo,hh,h1]
       try omega
     · have h1':x.offset<p.recs.length:=by omega
       rw [hwo h1']
       rw [hh] at hlo
       obtain ⟨a,ha⟩:∃ a,a=p.recs.getD x.offset.toNat default:=⟨_,rfl⟩
       simp only [<- ha] at *
       have h0:=hpo.1
       by_cases h2:a.prod=x.id
       · by_cases h3:a.seq=x.seq
         · simp [h1,h2,h3] at hlo
           simp [hlo,hh,h1,h2,h3,h1',h0,-List.any_eq_true,-List.any_eq_false]
           refine fin (fun j r=>_/\(r=true->rest=true)/\(r=false->rest=false)) ?_
           simp [hw]
         · simp [h1,h2,h3] at hlo
           simp [hlo,hh,h1,h2,h3,h1',h0]
       · simp [h1,h2] at hlo
         simp [hlo,hh,h1,h2,h1',h0]
 · have hz:decide ((k:Int)<p.prods.length)=false:=by simp;omega
   simp [hz,iX (show p.prods.length<=k by omega)]
   try exact fun e=>absurd e hk
theorem Xr (b:Bool) (p:Part) (h:Gj p) (k:Nat):aL Tryz.prog 15 24 (aN Tryz.prog 15 24) ⟨c3T k,[.box 30 (aX b p)],[]⟩ ((c3O p k).map (bJ D8 (cS b p 4))):=by
 refine dY (stM:=fun _=>[.box 30 (aX b p)]) Tryz.mixed (fun _=>rfl) (fun k=>(YR b p k).mpr ?_) k
 unfold afi
 have hr:=h.rl
 have hc:=h.cl
 by_cases hk:k<p.cons.length
 · have hz:decide ((k:Int)<p.cons.length)=true:=by simp;omega
   have hw:IntKind.i64.wrap ((k:Int)+1)=((k+1:Nat):Int):=by rw [wrap_i64 (by omega) (by omega)];omega
   have hwr:IntKind.u64.wrap (p.recs.length:Int)=p.recs.length:=wrap_u64 (by omega) (by omega)
   have hd:(p.cons.drop k).any (bY p.recs.length)=(bY p.recs.length (p.cons.getD k default)||(p.cons.drop (k+1)).any (bY p.recs.length)):=by
    rw [drop_cons hk,List.any_cons];simp
   simp only [hz,Int.toNat_natCast,hwr,hd]
   obtain ⟨x,hx⟩:∃ x,x=p.cons.getD k default:=⟨_,rfl⟩
   simp only [<- hx] at *
   obtain ⟨rest,hR⟩:∃ rest,rest=(p.cons.drop (k+1)).any (bY p.recs.length):=⟨_,rfl⟩
   have fin:∀ q:Nat->Bool->Prop,q (k+1) rest->∃ j,p.cons.length - j<p.cons.length - k/\q j ((p.cons.drop j).any (bY p.recs.length)):=fun q h=>⟨k+1,by omega,by rw [<- hR];exact h⟩
   rw [<- hR]
   clear hd hR
   by_cases h1:(p.recs.length:Int)<x.off
   · have hlo:bY p.recs.length x=true:=by simp [bY,h1]
     simp [hlo,h1]
     try omega
   · have hlo:bY p.recs.length x=false:=by simp [bY];omega
     simp [hlo,h1,-List.any_eq_true,-List.any_eq_false]
     refine fin (fun j r=>_/\(r=true->rest=true)/\(r=false->rest=false)) ?_
     simp [hw]
 · have hz:decide ((k:Int)<p.cons.length)=false:=by simp;omega
   simp [hz,iX (show p.cons.length<=k by omega)]
   try exact fun e=>absurd e hk
theorem afh (l:List P.Producer) (i:Nat):(eX l (fun _=>false,fun _=>0)).getD i 0=0:=by
 unfold eX
 rw [show (l.map fun y=>Kn.sel (fun _=>false,fun _=>0) y.id)=l.map fun _=>(0:Int) from List.map_congr_left fun y _=>rfl]
 simp
 cases l[i]?<;>rfl
theorem Wp (l:List P.Producer):aj l.length 1 (fun (_ j:Nat)=>Ax.get [AV.s (Value.int IntKind.u64 0)] j) (ah G6 (eX l (fun _=>false,fun _=>0))):=by
 intro i _ j hj
 unfold ah
 rw [show (default:Int)=0 from rfl,afh]
 obtain rfl:j=0:=by omega
 exact rfl
theorem abp (b:Bool) (p:Part) (h:Gj p):(Im (aH p) 165).Sat (aB Tryz.prog 15 [.agg (aX b p)] []):=by
 refine aP (ht:=ckH b p) Tryz.mixed rfl ?_
 rw [F7 b p]
 unfold UJ
 have l1:=fun ht=>YP b p h ht 0
 have l2:=XP b p h 0
 have l3:=Xr b p h 0
 obtain ⟨h1,h2,h3,h4,h6,_⟩:=h
 unfold aH
 have g1:p.recs.length<=9223372036854775806:=by omega
 have g2:p.prods.length<=9223372036854775806:=by omega
 have g3:p.cons.length<=9223372036854775806:=by omega
 simp only [List.drop_zero]
 generalize bI p 0=a1
 obtain ⟨a2,ha2⟩:∃ a2,a2=p.prods.any (cB p):=⟨_,rfl⟩
 obtain ⟨a3,ha3⟩:∃ a3,a3=p.cons.any (bY p.recs.length):=⟨_,rfl⟩
 rw [<- ha2,<- ha3]
 generalize bG p.recs=a4
 have zr:=Wp p.prods
 have cr:=aG p.recs.length 5 (ah encR p.recs)
 have cp:=aG p.prods.length 4 (ah P.ak p.prods)
 have cc:=aG p.cons.length 2 (ah aD p.cons)
 cases a5:P.bE p.prods
 · cases a4<;>by_cases c1:fK p.rng=0<;>by_cases c2:p.epoch=0<;>simp [c1,c2,g1,g2,g3,cr,cp,cc]
 · have l1':=l1 a5
   simp only [lF] at l1'
   generalize bW p.cons=a6
   have o1:8*p.prods.length<=281474976710656:=by omega
   have o2:(8*(p.prods.length:Int))<=281474976710656:=by omega
   have o3:(p.prods.length:Int)<=9223372036854775807:=by omega
   simp only [Int.toNat_natCast]
   by_cases c1:fK p.rng=0<;>by_cases c2:p.epoch=0<;>cases a1<;>cases a2<;>cases a3<;>cases a4<;>cases a6<;>simp [c1,c2,g1,g2,g3,cr,cp,cc,zr,lF,l1',l2,l3,o2,o3]
theorem ac4 (b:Bool) (p:Part) (h:Bj p):(Im (aH p) 165).Sat (aB Tryz.prog 15 [.agg (aX b p)] []):=abp b p h.ins
noncomputable def ckC (b:Bool) (p:Part):dZ Tryz.prog:=⟨15,[.agg (aX b p)],[],.need (Bj p) (Im (aH p) 165),T.Sat.need fun h=>ac4 b p h⟩
end Q
namespace J
def nP:Nat->Int->List Int
 | 0,v=>[v]
 | f+1,v=>if v<128 then [v] else (v % 128+128)::nP f (v / 128)
def au (v:Int):List Int:=nP 10 v
structure WU (t:List Int) where
 v:Int
 l:List Int
 f:Nat
 v0:0<=v
 vf:v<128 ^ (f+1)
 n:l.length+f+1<=140737488355327
 e:t=l++nP f v
theorem yV {P:Program} {f:FuncId} {args:List AV} {M:List ay} {a:An} (h:(T.ret a:T An).Sat (aB P f args M)):aB P f args M a:=by
 obtain ⟨a',ha,e⟩:=h (fun x=>x=a) rfl
 rw [<- e];exact ha
theorem HZ {P:Program} {f:FuncId} {args:List AV} {M M':List ay} {r:AV} {mv mv':List Nat} (h:dD P f args M r M' mv) (hd:∀ i∈mv,i∈mv'∨getM M i=.dead):dD P f args M r M' mv':=by
 intro H E w vals hC hargs
 refine (h H E w vals hC hargs).mono ?_
 rintro e w' ⟨v,H',E',he,hr,hc,hev⟩
 refine ⟨v,H',E',he,hr,hc,{ hev with ids:=fun i hl hn=>hev.ids i hl fun hi=>?_ }⟩
 rcases hd i hi with h1 | h1
 · exact hn h1
 · have:=hC.blk i
   rw [h1] at this
   have this:E.lv i=false:=this
   rw [this] at hl
   cases hl
theorem Et (v:Int):IntKind.wrap IntKind.u8 v=v % 256:=by
 unfold IntKind.wrap
 simp [IntKind.bits,IntKind.signed]
theorem lG {f:Nat} {v:Int} (h:128<=v):nP (f+1) v=(v % 128+128)::nP f (v / 128):=by
 rw [nP,if_neg (by omega)]
theorem nW {f:Nat} {v:Int} (h:v<128):nP f v=[v]:=by
 cases f with
 | zero=>rfl
 | succ f=>rw [nP,if_pos h]
theorem GL (f:Nat):∀ v,(nP f v).length<=f+1:=by
 induction f with
 | zero=>intro v;exact Nat.le_refl _
 | succ f ih =>
   intro v
   unfold nP
   split
   · simp
   · simp only [List.length_cons]
     have:=ih (v / 128)
     omega
theorem Oy (f:Nat):∀ v,0<=v->v<128 ^ (f+1)->∃ l z,nP f v=l++[z]/\0<=z/\z<128:=by
 induction f with
 | zero =>
   intro v h0 h1
   exact ⟨[],v,rfl,h0,by simpa using h1⟩
 | succ f ih =>
   intro v h0 h1
   by_cases h:v<128
   · exact ⟨[],v,nW h,h0,h⟩
   · have:(128:Int) ^ (f+1+1)=128 ^ (f+1)*128:=Int.pow_succ 128 (f+1)
     rw [this] at h1
     obtain ⟨l,z,h2,h3,h4⟩:=ih (v / 128) (Int.ediv_nonneg h0 (by omega)) (Int.ediv_lt_of_lt_mul (by omega) h1)
     exact ⟨(v % 128+128)::l,z,by rw [lG (by omega),h2];rfl,h3,h4⟩
def duT (v:Int) (n:Nat):List AV:=mkT 20 [(0,.y (.int .u64 v)),(3,.own 0 1 0 n)]
def duM (l:List Int):List ay:=[.row 5 1 l.length none (ah aJ l)]
def duS (t:List Int) (_:Unit):Exit×List AV×List ay:=(.exit 0,duT (t.getLastD 0) t.dropLast.length,duM t.dropLast)
def abe (t:List Int) (q:WU t):Prop :=
 (decide (128<=q.v)=true->true=true/\(decide (q.l.length=q.l.length)&&decide (q.l.length+1<=9223372036854775807)&&decide ((q.l.length+1)*1<=140737488355328))=true/\∃ (j:WU t),j.f<q.f/\((q.v / 128=j.v/\(0=0/\q.l.length+1=j.l.length)/\True)/\((q.l.length+1=j.l.length/\aj (q.l.length+1) 1 (aY q.l.length (ah aJ q.l) fun (k j:Nat)=>Ax.get [AV.y (.int .u8 (IntKind.u8.wrap (IntKind.u8.wrap (IntKind.u64.wrap ((BitVec.toNat (BitVec.ofInt 64 q.v &&& BitVec.ofInt 64 127)):Int))+128)))] (k*1+j)) (ah aJ j.l))/\True)/\true=true)/\true=true/\()=())/\(decide (128<=q.v)=false->(q.v=List.getLastD t 0/\(0=0/\q.l.length=(List.dropLast t).length)/\True)/\((q.l.length=(List.dropLast t).length/\aj q.l.length 1 (ah aJ q.l) (ah aJ (List.dropLast t)))/\True)/\true=true)
theorem SK (t:List Int) (q:WU t):(bP Tryz.prog (hT _) 64 2 (fun q=>q.f) (fun q=>duT q.v q.l.length) (fun q=>duM q.l) [0,1,2] (fun _=>.ret ()) (duS t) q)=abe t q:=by kernel_rfl
def anB (v:Int):Int:=IntKind.wrap IntKind.u8 (IntKind.wrap IntKind.u8 (IntKind.wrap IntKind.u64 (↑(BitVec.toNat (BitVec.ofInt 64 v &&& BitVec.ofInt 64 127)):Int))+128)
theorem ace (v:Int):(↑(BitVec.toNat (BitVec.ofInt 64 v &&& BitVec.ofInt 64 127)):Int)=v % 128:=by
 rw [BitVec.toNat_and]
 have e:(BitVec.ofInt 64 127).toNat=2 ^ 7 - 1:=by decide
 rw [e,Nat.and_two_pow_sub_one_eq_mod,BitVec.toNat_ofInt]
 have h:(((v % ((2 ^ 64:Nat):Int)).toNat:Nat):Int)=v % ((2 ^ 64:Nat):Int):=Int.toNat_of_nonneg (Int.emod_nonneg _ (by decide))
 have h2:((v % ((2 ^ 64:Nat):Int)).toNat % 2 ^ 7:Nat)=(v % 128).toNat:=by
  have h3:((((v % ((2 ^ 64:Nat):Int)).toNat % 2 ^ 7:Nat)):Int)=v % 128:=by
   rw [Int.natCast_emod,h]
   omega
  omega
 rw [h2]
 omega
theorem aex (v:Int):anB v=v % 128+128:=by
 unfold anB
 rw [ace]
 have h0:0<=v % 128:=Int.emod_nonneg _ (by omega)
 have h1:v % 128<128:=Int.emod_lt_of_pos _ (by omega)
 have e:IntKind.wrap IntKind.u64 (v % 128)=v % 128:=by
  unfold IntKind.wrap
  simp [IntKind.bits,IntKind.signed]
  omega
 rw [e,Et,Et]
 omega
theorem Zy (t:List Int) (q:WU t):aL Tryz.prog 64 2 (aN Tryz.prog 64 2) ⟨duT q.v q.l.length,duM q.l,[]⟩ (T.map (bJ [0,1,2] (duS t)) (.ret ())):=by
 refine dK (P:=Tryz.prog) (f:=64) (k:=2) (ι:=WU t) (μ:=fun q=>q.f) (ht:=fun _=>hT _) (sV:=fun q=>duT q.v q.l.length) (stM:=fun q=>duM q.l) (X:=[0,1,2]) (o:=fun _=>.ret ()) (S:=duS t) Tryz.mixed (fun _=>rfl) (fun q=>?_) q
 rw [SK t q]
 unfold abe
 have hn:=q.n
 have hv0:=q.v0
 have hvf:=q.vf
 have he:=q.e
 by_cases h:128<=q.v
 · obtain ⟨f,hf⟩:∃ f,q.f=f+1:=by
    cases hf:q.f with
    | zero=>rw [hf] at hvf;simp at hvf;omega
    | succ f=>exact ⟨f,rfl⟩
   have hz:decide ((128:Int)<=q.v)=true:=by simp;omega
   rw [hf,lG h] at he
   have hdiv:q.v / 128<128 ^ (f+1):=by
    rw [hf] at hvf
    have:(128:Int) ^ (f+1+1)=128 ^ (f+1)*128:=Int.pow_succ 128 (f+1)
    rw [this] at hvf
    exact Int.ediv_lt_of_lt_mul (by omega) hvf
   have ha:=sK (enc:=aJ) (l:=q.l) (n:=q.l.length) (sz:=1) (x:=q.v % 128+128) (cs:=[.y (.int .u8 (q.v % 128+128))]) rfl (fun j hj=>dn _)
   simp only [Nat.mul_one] at ha
   have hO:=aex q.v
   unfold anB at hO
   simp only [hz,hO]
   simp
   refine ⟨⟨by omega,by omega⟩,⟨q.v / 128,q.l++[q.v % 128+128],f,Int.ediv_nonneg hv0 (by omega),hdiv,by simp;omega,he.trans (by simp)⟩,by show f<q.f;omega,⟨rfl,by simp⟩,by simp,ha⟩
 · have hz:decide ((128:Int)<=q.v)=false:=by simp;omega
   rw [nW (by omega)] at he
   have h1:t.getLastD 0=q.v:=(congrArg (fun x:List Int=>x.getLastD 0) he).trans (by simp)
   have h2:t.dropLast=q.l:=(congrArg List.dropLast he).trans (by simp)
   simp only [hz,h1,h2]
   simp
end J
end Go.Proofs.YtnbhdjadlbhknaaGreatDoor
