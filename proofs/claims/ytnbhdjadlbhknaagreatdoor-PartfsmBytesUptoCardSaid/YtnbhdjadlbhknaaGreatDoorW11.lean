import Derived.Test.YtnbhdjadlbhknaaGreatDoorW1
import Derived.Test.YtnbhdjadlbhknaaGreatDoorW5
import Derived.Test.YtnbhdjadlbhknaaGreatDoorW8
import Derived.Test.YtnbhdjadlbhknaaGreatDoorW9
import Derived.Test.YtnbhdjadlbhknaaGreatDoorW10
set_option linter.unusedVariables false
set_option linter.unusedSimpArgs false
set_option maxRecDepth 1000000
namespace Go.Proofs.YtnbhdjadlbhknaaGreatDoor
open Go.Ax
namespace J
noncomputable def ac1 (v:Int):aC Tryz.prog:=hh _ bB (cs1 96 2 6 (Q.y7 (zig v)) (cs1 96 3 3 (Q.y7 (zig v)) bA)) bq
def Zn (v:Int):Prop :=
 (decide (v<0)=true->(IntKind.u64.wrap (IntKind.u64.wrap (2*IntKind.u64.wrap (IntKind.i64.wrap (0 - IntKind.i64.wrap (v+1))))+1)=zig v/\True)/\True/\Q.dL (zig v)/\(0=0/\(aj (zig v)).length=(aF v).length)/\((aj (zig v)).length=(aF v).length/\ak (aj (zig v)).length 1 (ah aD (aj (zig v))) (ah aD (aF v)))/\True)/\(decide (v<0)=false->(IntKind.u64.wrap (2*IntKind.u64.wrap v)=zig v/\True)/\True/\Q.dL (zig v)/\(0=0/\(aj (zig v)).length=(aF v).length)/\((aj (zig v)).length=(aF v).length/\ak (aj (zig v)).length 1 (ah aD (aj (zig v))) (ah aD (aF v)))/\True)
theorem Tc (v:Int):(aZ Tryz.prog (ac1 v) 96 [.y (.int .i64 v)] [] (Q.fU (aF v)))=Zn v:=by kernel_rfl
theorem adz (v:Int) (h:jC v):(Q.fU (aF v)).Sat (au Tryz.prog 96 [.y (.int .i64 v)] []):=by
 refine aR (ht:=ac1 v) Tryz.mixed rfl ?_
 rw [Tc v]
 unfold Zn
 have h0:=h.lo
 have h1:=h.hi
 by_cases hv:v<0
 · have w1:IntKind.wrap IntKind.i64 (v+1)=v+1:=wrap_i64 (by omega) (by omega)
   have w2:IntKind.wrap IntKind.i64 (0 - (v+1))=-(v+1):=by rw [wrap_i64 (by omega) (by omega)];omega
   have w3:IntKind.wrap IntKind.u64 (-(v+1))=-(v+1):=wrap_u64 (by omega) (by omega)
   have w4:IntKind.wrap IntKind.u64 (2 * -(v+1))=2 * -(v+1):=wrap_u64 (by omega) (by omega)
   have w5:IntKind.wrap IntKind.u64 (2 * -(v+1)+1)=2 * -(v+1)+1:=wrap_u64 (by omega) (by omega)
   have z:zig v=2 * -(v+1)+1:=by unfold zig;rw [if_neg (by omega)];omega
   have u:Q.dL (2 * -(v+1)+1):=⟨by omega,by omega⟩
   simp only [w1,w2,w3,w4,w5,z]
   simp [hv,u,aF,z]
 · have w3:IntKind.wrap IntKind.u64 v=v:=wrap_u64 (by omega) (by omega)
   have w4:IntKind.wrap IntKind.u64 (2*v)=2*v:=wrap_u64 (by omega) (by omega)
   have z:zig v=2*v:=by unfold zig;rw [if_pos (by omega)]
   have u:Q.dL (2*v):=⟨by omega,by omega⟩
   simp only [w3,w4,z]
   simp [hv,u,aF,z]
noncomputable def abO (v:Int):dO Tryz.prog:=⟨96,[.y (.int .i64 v)],[],.need (jC v) (Q.fU (aF v)),T.Sat.need fun h=>adz v h⟩
noncomputable def ad6 (c:R.bJ):aC Tryz.prog:=dS (hh _ bB (cs1 30 1 2 (abO c.kind) (cs1 30 1 5 (Q.y7 c.epoch) (cs1 30 4 3 (Q.y7 c.prod) (cs1 30 5 3 (Q.y7 c.seq) (cs1 30 6 4 (Q.Vs true (Q.aM c.key)) (cs1 30 7 3 (Q.Vs true c.val) (cs1 30 9 3 (Q.y7 c.off) (cs1 30 10 3 (abO c.most) (cs1 30 12 3 (Q.y7 c.prod) (cs1 30 13 3 (Q.y7 c.seq) (cs1 30 14 4 (Q.Vs true (Q.aM c.name)) (cs1 30 15 3 (Q.y7 c.off) (cs1 30 17 4 (Q.Vs true (Q.aM c.name)) (cs1 30 20 3 (Q.y7 c.plan) bA)))))))))))))) bq) (nk 30 7 5 779 (nk 30 10 5 779 (nk 30 15 5 779 (nk 30 17 6 779 (nk 30 20 5 779 noSh)))))
def ku (c:R.bJ) (t:List Int):Prop:=(true=true/\(aF c.kind).length+(aj c.epoch).length+(aj c.plan).length=t.length/\ak ((aF c.kind).length+(aj c.epoch).length+(aj c.plan).length) 1 (Ax.rowAt 0 (aL ((aF c.kind).length+(aj c.epoch).length) (aL (aF c.kind).length (ah aD (aF c.kind)) fun (k:Nat)=>ah aD (aj c.epoch) (0+k)) fun (k:Nat)=>ah aD (aj c.plan) (0+k))) (ah aD t))
def mP (c:R.bJ) (t:List Int):Prop :=
 (c.kind=c.kind/\True)/\True/\jC c.kind/\(c.epoch=c.epoch/\True)/\True/\Q.dL c.epoch/\(decide ((aF c.kind).length=(aF c.kind).length)&&decide ((aF c.kind).length+(aj c.epoch).length<=9223372036854775807)&&decide (((aF c.kind).length+(aj c.epoch).length)*1<=140737488355328))=true/\((c.kind==1)=true->(c.prod=c.prod/\True)/\True/\Q.dL c.prod/\(decide ((aF c.kind).length+(aj c.epoch).length=(aF c.kind).length+(aj c.epoch).length)&&decide ((aF c.kind).length+(aj c.epoch).length+(aj c.prod).length<=9223372036854775807)&&decide (((aF c.kind).length+(aj c.epoch).length+(aj c.prod).length)*1<=140737488355328))=true/\(c.seq=c.seq/\True)/\True/\Q.dL c.seq/\(decide ((aF c.kind).length+(aj c.epoch).length+(aj c.prod).length=(aF c.kind).length+(aj c.epoch).length+(aj c.prod).length)&&decide ((aF c.kind).length+(aj c.epoch).length+(aj c.prod).length+(aj c.seq).length<=9223372036854775807)&&decide (((aF c.kind).length+(aj c.epoch).length+(aj c.prod).length+(aj c.seq).length)*1<=140737488355328))=true/\((true=true/\ByteArray.size c.key=(Q.aM c.key).length/\ak (ByteArray.size c.key) 1 (fun (k x:Nat)=>AV.y (.int .u8 ((UInt8.toNat (c.key.data.toList.getD k (0:UInt8))):Int))) (ah aD (Q.aM c.key)))/\True)/\True/\(Q.aM c.key).length<=1099511627776/\(decide ((aF c.kind).length+(aj c.epoch).length+(aj c.prod).length+(aj c.seq).length=(aF c.kind).length+(aj c.epoch).length+(aj c.prod).length+(aj c.seq).length)&&decide ((aF c.kind).length+(aj c.epoch).length+(aj c.prod).length+(aj c.seq).length+(Q.aA (Q.aM c.key)).length<=9223372036854775807)&&decide (((aF c.kind).length+(aj c.epoch).length+(aj c.prod).length+(aj c.seq).length+(Q.aA (Q.aM c.key)).length)*1<=140737488355328))=true/\((dI c.val c.val)/\True)/\True/\c.val.length<=1099511627776/\(decide ((aF c.kind).length+(aj c.epoch).length+(aj c.prod).length+(aj c.seq).length+(Q.aA (Q.aM c.key)).length=(aF c.kind).length+(aj c.epoch).length+(aj c.prod).length+(aj c.seq).length+(Q.aA (Q.aM c.key)).length)&&decide ((aF c.kind).length+(aj c.epoch).length+(aj c.prod).length+(aj c.seq).length+(Q.aA (Q.aM c.key)).length+(Q.aA c.val).length<=9223372036854775807)&&decide (((aF c.kind).length+(aj c.epoch).length+(aj c.prod).length+(aj c.seq).length+(Q.aA (Q.aM c.key)).length+(Q.aA c.val).length)*1<=140737488355328))=true/\(∀ k,k<(aF c.kind).length+(aj c.epoch).length+(aj c.prod).length+(aj c.seq).length+(Q.aA (Q.aM c.key)).length+(Q.aA c.val).length->∀ j,j<1->dK (aL ((aF c.kind).length+(aj c.epoch).length+(aj c.prod).length+(aj c.seq).length+(Q.aA (Q.aM c.key)).length) (aL ((aF c.kind).length+(aj c.epoch).length+(aj c.prod).length+(aj c.seq).length) (aL ((aF c.kind).length+(aj c.epoch).length+(aj c.prod).length) (aL ((aF c.kind).length+(aj c.epoch).length) (aL (aF c.kind).length (ah aD (aF c.kind)) fun (k:Nat)=>ah aD (aj c.epoch) (0+k)) fun (k:Nat)=>ah aD (aj c.prod) (0+k)) fun (k:Nat)=>ah aD (aj c.seq) (0+k)) fun (k:Nat)=>ah aD (Q.aA (Q.aM c.key)) (0+k)) (fun (k:Nat)=>ah aD (Q.aA c.val) (0+k)) k j)=true)/\(true=true/\(aF c.kind).length+(aj c.epoch).length+(aj c.prod).length+(aj c.seq).length+(Q.aA (Q.aM c.key)).length+(Q.aA c.val).length=t.length/\ak ((aF c.kind).length+(aj c.epoch).length+(aj c.prod).length+(aj c.seq).length+(Q.aA (Q.aM c.key)).length+(Q.aA c.val).length) 1 (Ax.rowAt 0 (aL ((aF c.kind).length+(aj c.epoch).length+(aj c.prod).length+(aj c.seq).length+(Q.aA (Q.aM c.key)).length) (aL ((aF c.kind).length+(aj c.epoch).length+(aj c.prod).length+(aj c.seq).length) (aL ((aF c.kind).length+(aj c.epoch).length+(aj c.prod).length) (aL ((aF c.kind).length+(aj c.epoch).length) (aL (aF c.kind).length (ah aD (aF c.kind)) fun (k:Nat)=>ah aD (aj c.epoch) (0+k)) fun (k:Nat)=>ah aD (aj c.prod) (0+k)) fun (k:Nat)=>ah aD (aj c.seq) (0+k)) fun (k:Nat)=>ah aD (Q.aA (Q.aM c.key)) (0+k)) fun (k:Nat)=>ah aD (Q.aA c.val) (0+k))) (ah aD t))/\True)/\((c.kind==1)=false->((c.kind==2)=true->(c.off=c.off/\True)/\True/\Q.dL c.off/\(decide ((aF c.kind).length+(aj c.epoch).length=(aF c.kind).length+(aj c.epoch).length)&&decide ((aF c.kind).length+(aj c.epoch).length+(aj c.off).length<=9223372036854775807)&&decide (((aF c.kind).length+(aj c.epoch).length+(aj c.off).length)*1<=140737488355328))=true/\(c.most=c.most/\True)/\True/\jC c.most/\(decide ((aF c.kind).length+(aj c.epoch).length+(aj c.off).length=(aF c.kind).length+(aj c.epoch).length+(aj c.off).length)&&decide ((aF c.kind).length+(aj c.epoch).length+(aj c.off).length+(aF c.most).length<=9223372036854775807)&&decide (((aF c.kind).length+(aj c.epoch).length+(aj c.off).length+(aF c.most).length)*1<=140737488355328))=true/\(∀ k,k<(aF c.kind).length+(aj c.epoch).length+(aj c.off).length+(aF c.most).length->∀ j,j<1->dK (aL ((aF c.kind).length+(aj c.epoch).length+(aj c.off).length) (aL ((aF c.kind).length+(aj c.epoch).length) (aL (aF c.kind).length (ah aD (aF c.kind)) fun (k:Nat)=>ah aD (aj c.epoch) (0+k)) fun (k:Nat)=>ah aD (aj c.off) (0+k)) (fun (k:Nat)=>ah aD (aF c.most) (0+k)) k j)=true)/\(true=true/\(aF c.kind).length+(aj c.epoch).length+(aj c.off).length+(aF c.most).length=t.length/\ak ((aF c.kind).length+(aj c.epoch).length+(aj c.off).length+(aF c.most).length) 1 (Ax.rowAt 0 (aL ((aF c.kind).length+(aj c.epoch).length+(aj c.off).length) (aL ((aF c.kind).length+(aj c.epoch).length) (aL (aF c.kind).length (ah aD (aF c.kind)) fun (k:Nat)=>ah aD (aj c.epoch) (0+k)) fun (k:Nat)=>ah aD (aj c.off) (0+k)) fun (k:Nat)=>ah aD (aF c.most) (0+k))) (ah aD t))/\True)/\((c.kind==2)=false->((c.kind==3)=true->(c.prod=c.prod/\True)/\True/\Q.dL c.prod/\(decide ((aF c.kind).length+(aj c.epoch).length=(aF c.kind).length+(aj c.epoch).length)&&decide ((aF c.kind).length+(aj c.epoch).length+(aj c.prod).length<=9223372036854775807)&&decide (((aF c.kind).length+(aj c.epoch).length+(aj c.prod).length)*1<=140737488355328))=true/\(c.seq=c.seq/\True)/\True/\Q.dL c.seq/\(decide ((aF c.kind).length+(aj c.epoch).length+(aj c.prod).length=(aF c.kind).length+(aj c.epoch).length+(aj c.prod).length)&&decide ((aF c.kind).length+(aj c.epoch).length+(aj c.prod).length+(aj c.seq).length<=9223372036854775807)&&decide (((aF c.kind).length+(aj c.epoch).length+(aj c.prod).length+(aj c.seq).length)*1<=140737488355328))=true/\((true=true/\ByteArray.size c.name=(Q.aM c.name).length/\ak (ByteArray.size c.name) 1 (fun (k x:Nat)=>AV.y (.int .u8 ((UInt8.toNat (c.name.data.toList.getD k (0:UInt8))):Int))) (ah aD (Q.aM c.name)))/\True)/\True/\(Q.aM c.name).length<=1099511627776/\(decide ((aF c.kind).length+(aj c.epoch).length+(aj c.prod).length+(aj c.seq).length=(aF c.kind).length+(aj c.epoch).length+(aj c.prod).length+(aj c.seq).length)&&decide ((aF c.kind).length+(aj c.epoch).length+(aj c.prod).length+(aj c.seq).length+(Q.aA (Q.aM c.name)).length<=9223372036854775807)&&decide (((aF c.kind).length+(aj c.epoch).length+(aj c.prod).length+(aj c.seq).length+(Q.aA (Q.aM c.name)).length)*1<=140737488355328))=true/\(c.off=c.off/\True)/\True/\Q.dL c.off/\(decide ((aF c.kind).length+(aj c.epoch).length+(aj c.prod).length+(aj c.seq).length+(Q.aA (Q.aM c.name)).length=(aF c.kind).length+(aj c.epoch).length+(aj c.prod).length+(aj c.seq).length+(Q.aA (Q.aM c.name)).length)&&decide ((aF c.kind).length+(aj c.epoch).length+(aj c.prod).length+(aj c.seq).length+(Q.aA (Q.aM c.name)).length+(aj c.off).length<=9223372036854775807)&&decide (((aF c.kind).length+(aj c.epoch).length+(aj c.prod).length+(aj c.seq).length+(Q.aA (Q.aM c.name)).length+(aj c.off).length)*1<=140737488355328))=true/\(∀ k,k<(aF c.kind).length+(aj c.epoch).length+(aj c.prod).length+(aj c.seq).length+(Q.aA (Q.aM c.name)).length+(aj c.off).length->∀ j,j<1->dK (aL ((aF c.kind).length+(aj c.epoch).length+(aj c.prod).length+(aj c.seq).length+(Q.aA (Q.aM c.name)).length) (aL ((aF c.kind).length+(aj c.epoch).length+(aj c.prod).length+(aj c.seq).length) (aL ((aF c.kind).length+(aj c.epoch).length+(aj c.prod).length) (aL ((aF c.kind).length+(aj c.epoch).length) (aL (aF c.kind).length (ah aD (aF c.kind)) fun (k:Nat)=>ah aD (aj c.epoch) (0+k)) fun (k:Nat)=>ah aD (aj c.prod) (0+k)) fun (k:Nat)=>ah aD (aj c.seq) (0+k)) fun (k:Nat)=>ah aD (Q.aA (Q.aM c.name)) (0+k)) (fun (k:Nat)=>ah aD (aj c.off) (0+k)) k j)=true)/\(true=true/\(aF c.kind).length+(aj c.epoch).length+(aj c.prod).length+(aj c.seq).length+(Q.aA (Q.aM c.name)).length+(aj c.off).length=t.length/\ak ((aF c.kind).length+(aj c.epoch).length+(aj c.prod).length+(aj c.seq).length+(Q.aA (Q.aM c.name)).length+(aj c.off).length) 1 (Ax.rowAt 0 (aL ((aF c.kind).length+(aj c.epoch).length+(aj c.prod).length+(aj c.seq).length+(Q.aA (Q.aM c.name)).length) (aL ((aF c.kind).length+(aj c.epoch).length+(aj c.prod).length+(aj c.seq).length) (aL ((aF c.kind).length+(aj c.epoch).length+(aj c.prod).length) (aL ((aF c.kind).length+(aj c.epoch).length) (aL (aF c.kind).length (ah aD (aF c.kind)) fun (k:Nat)=>ah aD (aj c.epoch) (0+k)) fun (k:Nat)=>ah aD (aj c.prod) (0+k)) fun (k:Nat)=>ah aD (aj c.seq) (0+k)) fun (k:Nat)=>ah aD (Q.aA (Q.aM c.name)) (0+k)) fun (k:Nat)=>ah aD (aj c.off) (0+k))) (ah aD t))/\True)/\((c.kind==3)=false->((c.kind==4)=true->((true=true/\ByteArray.size c.name=(Q.aM c.name).length/\ak (ByteArray.size c.name) 1 (fun (k x:Nat)=>AV.y (.int .u8 ((UInt8.toNat (c.name.data.toList.getD k (0:UInt8))):Int))) (ah aD (Q.aM c.name)))/\True)/\True/\(Q.aM c.name).length<=1099511627776/\(decide ((aF c.kind).length+(aj c.epoch).length=(aF c.kind).length+(aj c.epoch).length)&&decide ((aF c.kind).length+(aj c.epoch).length+(Q.aA (Q.aM c.name)).length<=9223372036854775807)&&decide (((aF c.kind).length+(aj c.epoch).length+(Q.aA (Q.aM c.name)).length)*1<=140737488355328))=true/\(∀ k,k<(aF c.kind).length+(aj c.epoch).length+(Q.aA (Q.aM c.name)).length->∀ j,j<1->dK (aL ((aF c.kind).length+(aj c.epoch).length) (aL (aF c.kind).length (ah aD (aF c.kind)) fun (k:Nat)=>ah aD (aj c.epoch) (0+k)) (fun (k:Nat)=>ah aD (Q.aA (Q.aM c.name)) (0+k)) k j)=true)/\(true=true/\(aF c.kind).length+(aj c.epoch).length+(Q.aA (Q.aM c.name)).length=t.length/\ak ((aF c.kind).length+(aj c.epoch).length+(Q.aA (Q.aM c.name)).length) 1 (Ax.rowAt 0 (aL ((aF c.kind).length+(aj c.epoch).length) (aL (aF c.kind).length (ah aD (aF c.kind)) fun (k:Nat)=>ah aD (aj c.epoch) (0+k)) fun (k:Nat)=>ah aD (Q.aA (Q.aM c.name)) (0+k))) (ah aD t))/\True)/\((c.kind==4)=false->((c.kind==5)=true->(c.plan=c.plan/\True)/\True/\Q.dL c.plan/\(decide ((aF c.kind).length+(aj c.epoch).length=(aF c.kind).length+(aj c.epoch).length)&&decide ((aF c.kind).length+(aj c.epoch).length+(aj c.plan).length<=9223372036854775807)&&decide (((aF c.kind).length+(aj c.epoch).length+(aj c.plan).length)*1<=140737488355328))=true/\(∀ k,k<(aF c.kind).length+(aj c.epoch).length+(aj c.plan).length->∀ j,j<1->dK (aL ((aF c.kind).length+(aj c.epoch).length) (aL (aF c.kind).length (ah aD (aF c.kind)) fun (k:Nat)=>ah aD (aj c.epoch) (0+k)) (fun (k:Nat)=>ah aD (aj c.plan) (0+k)) k j)=true)/\(ku c t)/\True)/\((c.kind==5)=false->((c.kind==6)=true->(c.plan=c.plan/\True)/\True/\Q.dL c.plan/\(decide ((aF c.kind).length+(aj c.epoch).length=(aF c.kind).length+(aj c.epoch).length)&&decide ((aF c.kind).length+(aj c.epoch).length+(aj c.plan).length<=9223372036854775807)&&decide (((aF c.kind).length+(aj c.epoch).length+(aj c.plan).length)*1<=140737488355328))=true/\(∀ k,k<(aF c.kind).length+(aj c.epoch).length+(aj c.plan).length->∀ j,j<1->dK (aL ((aF c.kind).length+(aj c.epoch).length) (aL (aF c.kind).length (ah aD (aF c.kind)) fun (k:Nat)=>ah aD (aj c.epoch) (0+k)) (fun (k:Nat)=>ah aD (aj c.plan) (0+k)) k j)=true)/\(ku c t)/\True)/\((c.kind==6)=false->t.length=0/\True))))))
theorem Q_ (c:R.bJ) (t:List Int):(aZ Tryz.prog (ad6 c) 30 [.agg (R.dV c)] [] (.ret (bn true t,[],[])))=mP c t:=by kernel_rfl
noncomputable def af4 (x:R.gJ):aC Tryz.prog:=dS (hh _ bB (cs1 32 1 2 (abO x.err) (cs1 32 1 5 (Q.y7 x.off) (cs1 32 2 3 (Q.boC x.old) (cs1 32 3 3 (Q.lsC true x.recs) bA)))) bq) (nk 32 3 5 779 noSh)
def Z8 (x:R.gJ) (t:List Int):Prop :=
 (x.err=x.err/\True)/\True/\jC x.err/\(x.off=x.off/\True)/\True/\Q.dL x.off/\(decide (List.length (aF x.err)=List.length (aF x.err))&&decide (List.length (aF x.err)+List.length (aj x.off)<=(9223372036854775807:Nat))&&decide ((List.length (aF x.err)+List.length (aj x.off))*(1:Nat)<=(140737488355328:Nat)))=true/\(x.old=x.old/\True)/\True/\(decide (List.length (aF x.err)+List.length (aj x.off)=List.length (aF x.err)+List.length (aj x.off))&&decide (List.length (aF x.err)+List.length (aj x.off)+List.length [if x.old=true then (1:Int) else (0:Int)]<=(9223372036854775807:Nat))&&decide ((List.length (aF x.err)+List.length (aj x.off)+List.length [if x.old=true then (1:Int) else (0:Int)])*(1:Nat)<=(140737488355328:Nat)))=true/\((true=true/\List.length x.recs=List.length x.recs/\ak (List.length x.recs) (5:Nat) (ah encR x.recs) (ah encR x.recs))/\True)/\True/\Q.FW x.recs/\(decide (List.length (aF x.err)+List.length (aj x.off)+List.length [if x.old=true then (1:Int) else (0:Int)]=List.length (aF x.err)+List.length (aj x.off)+List.length [if x.old=true then (1:Int) else (0:Int)])&&decide (List.length (aF x.err)+List.length (aj x.off)+List.length [if x.old=true then (1:Int) else (0:Int)]+List.length (Q.eD x.recs)<=(9223372036854775807:Nat))&&decide ((List.length (aF x.err)+List.length (aj x.off)+List.length [if x.old=true then (1:Int) else (0:Int)]+List.length (Q.eD x.recs))*(1:Nat)<=(140737488355328:Nat)))=true/\(∀ (k:Nat),k<List.length (aF x.err)+List.length (aj x.off)+List.length [if x.old=true then (1:Int) else (0:Int)]+List.length (Q.eD x.recs)->∀ (j:Nat),j<(1:Nat)->dK (aL (List.length (aF x.err)+List.length (aj x.off)+List.length [if x.old=true then (1:Int) else (0:Int)]) (aL (List.length (aF x.err)+List.length (aj x.off)) (aL (List.length (aF x.err)) (ah aD (aF x.err)) fun (k:Nat)=>ah aD (aj x.off) ((0:Nat)+k)) fun (k:Nat)=>ah aD [if x.old=true then (1:Int) else (0:Int)] ((0:Nat)+k)) (fun (k:Nat)=>ah aD (Q.eD x.recs) ((0:Nat)+k)) k j)=true)/\(true=true/\List.length (aF x.err)+List.length (aj x.off)+List.length [if x.old=true then (1:Int) else (0:Int)]+List.length (Q.eD x.recs)=List.length t/\ak (List.length (aF x.err)+List.length (aj x.off)+List.length [if x.old=true then (1:Int) else (0:Int)]+List.length (Q.eD x.recs)) (1:Nat) (Ax.rowAt (0:Nat) (aL (List.length (aF x.err)+List.length (aj x.off)+List.length [if x.old=true then (1:Int) else (0:Int)]) (aL (List.length (aF x.err)+List.length (aj x.off)) (aL (List.length (aF x.err)) (ah aD (aF x.err)) fun (k:Nat)=>ah aD (aj x.off) ((0:Nat)+k)) fun (k:Nat)=>ah aD [if x.old=true then (1:Int) else (0:Int)] ((0:Nat)+k)) fun (k:Nat)=>ah aD (Q.eD x.recs) ((0:Nat)+k))) (ah aD t))/\True
theorem P6 (x:R.gJ) (t:List Int):(aZ Tryz.prog (af4 x) 32 [.agg (R.oJ x)] [] (.ret (bn true t,[],[])))=Z8 x t:=by kernel_rfl
structure yV (c:R.bJ):Prop where
 kind:jC c.kind
 epoch:Q.dL c.epoch
 prod:Q.dL c.prod
 seq:Q.dL c.seq
 off:Q.dL c.off
 most:jC c.most
 plan:Q.dL c.plan
 key:c.key.size<=1099511627776
 val:c.val.length<=1099511627776
 name:c.name.size<=1099511627776
structure A_ (x:R.gJ):Prop where
 err:jC x.err
 off:Q.dL x.off
 ls:Q.FW x.recs
theorem ad8 (x:R.gJ) (h:A_ x):(T.ret (bn true (iL x),[],[]):T An).Sat (au Tryz.prog 32 [.agg (R.oJ x)] []):=by
 have e:iL x=aF x.err++aj x.off++[if x.old=true then (1:Int) else (0:Int)]++Q.eD x.recs:=rfl
 rw [e]
 refine aR (ht:=af4 x) Tryz.mixed rfl ?_
 rw [P6 x _]
 unfold Z8
 obtain ⟨h1,h2,h3⟩:=h
 have a1:=fu x.err
 have a2:=aG x.off
 have a3:=h3.b
 have ht:=fun (l:List Int) (k:Nat) (_:k<l.length) (j:Nat) (hj:j<1)=>(show dK (ah aD l k j)=true from by (obtain rfl:j=0:=by omega);rfl)
 simp only [Nat.zero_add,<- List.length_append,Q.iQ,rowAt_zero]
 repeat' with_reducible apply And.intro
 all_goals first
  | with_reducible rfl
  | exact trivial
  | assumption
  | exact ht _
  | exact aO _ _ _
  | (simp;done)
  | (simp;omega)
noncomputable def Yr (x:R.gJ):dO Tryz.prog:=⟨32,[.agg (R.oJ x)],[],.need (A_ x) (.ret (bn true (iL x),[],[])),T.Sat.need fun h=>ad8 x h⟩
theorem uz (l:List Int):∀ k,k<l.length->∀ j,j<1->dK (ah aD l k j)=true:=fun k _ j hj=>by
 obtain rfl:j=0:=by omega
 rfl
theorem aeU (c:R.bJ) (h:yV c) (hk:c.kind=1):mP c (aF c.kind++aj c.epoch++aj c.prod++aj c.seq++Q.aA (Q.aM c.key)++Q.aA c.val):=by
 unfold mP ku
 obtain ⟨h1,h2,h3,h4,h5,h6,h7,h8,h9,h10⟩:=h
 have a1:=fu c.kind
 have a2:=aG c.epoch
 have a3:=aG c.prod
 have a4:=aG c.seq
 have a5:=aG c.off
 have a6:=fu c.most
 have a7:=aG c.plan
 have a8:=Q.bD (Q.aM c.key)
 have a9:=Q.bD c.val
 have a10:=Q.bD (Q.aM c.name)
 have b1:=Q.dF c.key
 have b2:=Q.dF c.name
 have c1:=Q.iP c.key
 have c2:=Q.iP c.name
 have n1:(c.kind==1)=true:=by rw [hk];decide
 simp only [n1,reduceCtorEq,false_implies,true_implies,forall_const,Nat.zero_add,<- List.length_append,Q.iQ,rowAt_zero,and_true,true_and]
 repeat' with_reducible apply And.intro
 all_goals first
  | exact trivial
  | with_reducible assumption
  | with_reducible rfl
  | exact uz _
  | exact aO _ _ _
  | (simp;done)
  | (simp;omega)
  | omega
theorem afG (c:R.bJ) (h:yV c) (hk:c.kind=2):mP c (aF c.kind++aj c.epoch++aj c.off++aF c.most):=by
 unfold mP ku
 obtain ⟨h1,h2,h3,h4,h5,h6,h7,h8,h9,h10⟩:=h
 have a1:=fu c.kind
 have a2:=aG c.epoch
 have a3:=aG c.prod
 have a4:=aG c.seq
 have a5:=aG c.off
 have a6:=fu c.most
 have a7:=aG c.plan
 have a8:=Q.bD (Q.aM c.key)
 have a9:=Q.bD c.val
 have a10:=Q.bD (Q.aM c.name)
 have b1:=Q.dF c.key
 have b2:=Q.dF c.name
 have c1:=Q.iP c.key
 have c2:=Q.iP c.name
 have n1:(c.kind==1)=false:=by rw [hk];decide
 have n2:(c.kind==2)=true:=by rw [hk];decide
 simp only [n1,n2,reduceCtorEq,false_implies,true_implies,forall_const,Nat.zero_add,<- List.length_append,Q.iQ,rowAt_zero,and_true,true_and]
 repeat' with_reducible apply And.intro
 all_goals first
  | exact trivial
  | with_reducible assumption
  | with_reducible rfl
  | exact uz _
  | exact aO _ _ _
  | (simp;done)
  | (simp;omega)
  | omega
theorem adD (c:R.bJ) (h:yV c) (hk:c.kind=3):mP c (aF c.kind++aj c.epoch++aj c.prod++aj c.seq++Q.aA (Q.aM c.name)++aj c.off):=by
 unfold mP ku
 obtain ⟨h1,h2,h3,h4,h5,h6,h7,h8,h9,h10⟩:=h
 have a1:=fu c.kind
 have a2:=aG c.epoch
 have a3:=aG c.prod
 have a4:=aG c.seq
 have a5:=aG c.off
 have a6:=fu c.most
 have a7:=aG c.plan
 have a8:=Q.bD (Q.aM c.key)
 have a9:=Q.bD c.val
 have a10:=Q.bD (Q.aM c.name)
 have b1:=Q.dF c.key
 have b2:=Q.dF c.name
 have c1:=Q.iP c.key
 have c2:=Q.iP c.name
 have n1:(c.kind==1)=false:=by rw [hk];decide
 have n2:(c.kind==2)=false:=by rw [hk];decide
 have n3:(c.kind==3)=true:=by rw [hk];decide
 simp only [n1,n2,n3,reduceCtorEq,false_implies,true_implies,forall_const,Nat.zero_add,<- List.length_append,Q.iQ,rowAt_zero,and_true,true_and]
 repeat' with_reducible apply And.intro
 all_goals first
  | exact trivial
  | with_reducible assumption
  | with_reducible rfl
  | exact uz _
  | exact aO _ _ _
  | (simp;done)
  | (simp;omega)
  | omega
theorem aea (c:R.bJ) (h:yV c) (hk:c.kind=4):mP c (aF c.kind++aj c.epoch++Q.aA (Q.aM c.name)):=by
 unfold mP ku
 obtain ⟨h1,h2,h3,h4,h5,h6,h7,h8,h9,h10⟩:=h
 have a1:=fu c.kind
 have a2:=aG c.epoch
 have a3:=aG c.prod
 have a4:=aG c.seq
 have a5:=aG c.off
 have a6:=fu c.most
 have a7:=aG c.plan
 have a8:=Q.bD (Q.aM c.key)
 have a9:=Q.bD c.val
 have a10:=Q.bD (Q.aM c.name)
 have b1:=Q.dF c.key
 have b2:=Q.dF c.name
 have c1:=Q.iP c.key
 have c2:=Q.iP c.name
 have n1:(c.kind==1)=false:=by rw [hk];decide
 have n2:(c.kind==2)=false:=by rw [hk];decide
 have n3:(c.kind==3)=false:=by rw [hk];decide
 have n4:(c.kind==4)=true:=by rw [hk];decide
 simp only [n1,n2,n3,n4,reduceCtorEq,false_implies,true_implies,forall_const,Nat.zero_add,<- List.length_append,Q.iQ,rowAt_zero,and_true,true_and]
 repeat' with_reducible apply And.intro
 all_goals first
  | exact trivial
  | with_reducible assumption
  | with_reducible rfl
  | exact uz _
  | exact aO _ _ _
  | (simp;done)
  | (simp;omega)
  | omega
theorem af7 (c:R.bJ) (h:yV c) (hk:c.kind=5):mP c (aF c.kind++aj c.epoch++aj c.plan):=by
 unfold mP ku
 obtain ⟨h1,h2,h3,h4,h5,h6,h7,h8,h9,h10⟩:=h
 have a1:=fu c.kind
 have a2:=aG c.epoch
 have a3:=aG c.prod
 have a4:=aG c.seq
 have a5:=aG c.off
 have a6:=fu c.most
 have a7:=aG c.plan
 have a8:=Q.bD (Q.aM c.key)
 have a9:=Q.bD c.val
 have a10:=Q.bD (Q.aM c.name)
 have b1:=Q.dF c.key
 have b2:=Q.dF c.name
 have c1:=Q.iP c.key
 have c2:=Q.iP c.name
 have n1:(c.kind==1)=false:=by rw [hk];decide
 have n2:(c.kind==2)=false:=by rw [hk];decide
 have n3:(c.kind==3)=false:=by rw [hk];decide
 have n4:(c.kind==4)=false:=by rw [hk];decide
 have n5:(c.kind==5)=true:=by rw [hk];decide
 simp only [n1,n2,n3,n4,n5,reduceCtorEq,false_implies,true_implies,forall_const,Nat.zero_add,<- List.length_append,Q.iQ,rowAt_zero,and_true,true_and]
 repeat' with_reducible apply And.intro
 all_goals first
  | exact trivial
  | with_reducible assumption
  | with_reducible rfl
  | exact uz _
  | exact aO _ _ _
  | (simp;done)
  | (simp;omega)
  | omega
theorem ads (c:R.bJ) (h:yV c) (hk:c.kind=6):mP c (aF c.kind++aj c.epoch++aj c.plan):=by
 unfold mP ku
 obtain ⟨h1,h2,h3,h4,h5,h6,h7,h8,h9,h10⟩:=h
 have a1:=fu c.kind
 have a2:=aG c.epoch
 have a3:=aG c.prod
 have a4:=aG c.seq
 have a5:=aG c.off
 have a6:=fu c.most
 have a7:=aG c.plan
 have a8:=Q.bD (Q.aM c.key)
 have a9:=Q.bD c.val
 have a10:=Q.bD (Q.aM c.name)
 have b1:=Q.dF c.key
 have b2:=Q.dF c.name
 have c1:=Q.iP c.key
 have c2:=Q.iP c.name
 have n1:(c.kind==1)=false:=by rw [hk];decide
 have n2:(c.kind==2)=false:=by rw [hk];decide
 have n3:(c.kind==3)=false:=by rw [hk];decide
 have n4:(c.kind==4)=false:=by rw [hk];decide
 have n5:(c.kind==5)=false:=by rw [hk];decide
 have n6:(c.kind==6)=true:=by rw [hk];decide
 simp only [n1,n2,n3,n4,n5,n6,reduceCtorEq,false_implies,true_implies,forall_const,Nat.zero_add,<- List.length_append,Q.iQ,rowAt_zero,and_true,true_and]
 repeat' with_reducible apply And.intro
 all_goals first
  | exact trivial
  | with_reducible assumption
  | with_reducible rfl
  | exact uz _
  | exact aO _ _ _
  | (simp;done)
  | (simp;omega)
  | omega
theorem aeh (c:R.bJ) (h:yV c) (n1:(c.kind==1)=false) (n2:(c.kind==2)=false) (n3:(c.kind==3)=false) (n4:(c.kind==4)=false) (n5:(c.kind==5)=false) (n6:(c.kind==6)=false):mP c []:=by
 unfold mP ku
 obtain ⟨h1,h2,h3,h4,h5,h6,h7,h8,h9,h10⟩:=h
 have a1:=fu c.kind
 have a2:=aG c.epoch
 have a3:=aG c.prod
 have a4:=aG c.seq
 have a5:=aG c.off
 have a6:=fu c.most
 have a7:=aG c.plan
 have a8:=Q.bD (Q.aM c.key)
 have a9:=Q.bD c.val
 have a10:=Q.bD (Q.aM c.name)
 have b1:=Q.dF c.key
 have b2:=Q.dF c.name
 have c1:=Q.iP c.key
 have c2:=Q.iP c.name
 simp only [n1,n2,n3,n4,n5,n6,reduceCtorEq,false_implies,true_implies,forall_const,Nat.zero_add,<- List.length_append,Q.iQ,rowAt_zero,and_true,true_and]
 repeat' with_reducible apply And.intro
 all_goals first
  | exact trivial
  | with_reducible assumption
  | with_reducible rfl
  | exact uz _
  | exact aO _ _ _
  | (simp;done)
  | (simp;omega)
  | omega
theorem adS (c:R.bJ) (h:yV c):(T.ret (bn true (gT c),[],[]):T An).Sat (au Tryz.prog 30 [.agg (R.dV c)] []):=by
 refine aR (ht:=ad6 c) Tryz.mixed rfl ?_
 rw [Q_ c (gT c)]
 by_cases m1:c.kind=1
 · have e:gT c=aF c.kind++aj c.epoch++aj c.prod++aj c.seq++Q.aA (Q.aM c.key)++Q.aA c.val:=by
    unfold gT
    rw [if_pos m1]
    rfl
   rw [e]
   exact aeU c h m1
 by_cases m2:c.kind=2
 · have e:gT c=aF c.kind++aj c.epoch++aj c.off++aF c.most:=by
    unfold gT
    rw [if_neg m1];rw [if_pos m2]
    rfl
   rw [e]
   exact afG c h m2
 by_cases m3:c.kind=3
 · have e:gT c=aF c.kind++aj c.epoch++aj c.prod++aj c.seq++Q.aA (Q.aM c.name)++aj c.off:=by
    unfold gT
    rw [if_neg m1];rw [if_neg m2];rw [if_pos m3]
    rfl
   rw [e]
   exact adD c h m3
 by_cases m4:c.kind=4
 · have e:gT c=aF c.kind++aj c.epoch++Q.aA (Q.aM c.name):=by
    unfold gT
    rw [if_neg m1];rw [if_neg m2];rw [if_neg m3];rw [if_pos m4]
    rfl
   rw [e]
   exact aea c h m4
 by_cases m5:c.kind=5
 · have e:gT c=aF c.kind++aj c.epoch++aj c.plan:=by
    unfold gT
    rw [if_neg m1];rw [if_neg m2];rw [if_neg m3];rw [if_neg m4];rw [if_pos (.inl m5)]
    rfl
   rw [e]
   exact af7 c h m5
 by_cases m6:c.kind=6
 · have e:gT c=aF c.kind++aj c.epoch++aj c.plan:=by
    unfold gT
    rw [if_neg m1];rw [if_neg m2];rw [if_neg m3];rw [if_neg m4];rw [if_pos (.inr m6)]
    rfl
   rw [e]
   exact ads c h m6
 have e:gT c=[]:=by
  unfold gT
  rw [if_neg m1,if_neg m2,if_neg m3,if_neg m4,if_neg (fun h=>by rcases h with h | h;exact m5 h;exact m6 h)]
 rw [e]
 exact aeh c h (by simpa using m1) (by simpa using m2) (by simpa using m3) (by simpa using m4) (by simpa using m5) (by simpa using m6)
noncomputable def agG (c:R.bJ):dO Tryz.prog:=⟨30,[.agg (R.dV c)],[],.need (yV c) (.ret (bn true (gT c),[],[])),T.Sat.need fun h=>adS c h⟩
end J
namespace V
def Bt (l:List Rec) (x:Rec):Int:=if dN l=false then 1 else if 32<x.key.size then 131 else if 256<x.val.length then 144 else if l.length=4096 then 143 else 0
def sj (l:List Rec) (x:Rec):List Rec:=if Bt l x=0 then l++[x.to (IntKind.u64.wrap l.length)] else []
def xB (l:List Rec) (x:Rec):Int:=if Bt l x=0 then IntKind.u64.wrap l.length else 0
def vrT (l:List Rec) (x:Rec):T An:=.ret (.tup [.own 0 5 0 (sj l x).length,.y (.int .u64 (xB l x)),.y (.int .i64 (Bt l x))],[yZ (sj l x)],[])
noncomputable def vrH (b:Bool) (l:List Rec) (x:Rec):aC Tryz.prog:=dS (hh _ bB (cs1 121 1 1 (lrC b l) (cs1 121 11 4 (atC x l.length) bA))
 (op1 121 3 0 (.row 54 5) (op1 121 5 0 (.row 54 5) (op1 121 7 0 (.row 54 5) (op1 121 9 0 (.row 54 5) bq))))) noSh
def afX (b:Bool) (l:List Rec) (x:Rec):Prop :=
 ((b=b/\l.length=l.length/\ak l.length 5 (ah encR l) (ah encR l))/\True)/\True/\l.length<=9223372036854775806/\((!dN l)=true->((0=0/\0=(sj l x).length)/\0=xB l x/\1=Bt l x/\True)/\(0=(sj l x).length/\ak 0 5 (fun (x x_2:Nat)=>AV.junk) (ah encR (sj l x)))/\True)/\((!dN l)=false->(decide (32<((ByteArray.size x.key):Int))=true->((0=0/\0=(sj l x).length)/\0=xB l x/\131=Bt l x/\True)/\(0=(sj l x).length/\ak 0 5 (fun (x x_3:Nat)=>AV.junk) (ah encR (sj l x)))/\True)/\(decide (32<((ByteArray.size x.key):Int))=false->(decide (256<(x.val.length:Int))=true->((0=0/\0=(sj l x).length)/\0=xB l x/\144=Bt l x/\True)/\(0=(sj l x).length/\ak 0 5 (fun (x x_4:Nat)=>AV.junk) (ah encR (sj l x)))/\True)/\(decide (256<(x.val.length:Int))=false->(decide (4096<=(l.length:Int))=true->((0=0/\0=(sj l x).length)/\0=xB l x/\143=Bt l x/\True)/\(0=(sj l x).length/\ak 0 5 (fun (x x_5:Nat)=>AV.junk) (ah encR (sj l x)))/\True)/\(decide (4096<=(l.length:Int))=false->(decide (0+l.length<=9223372036854775807)&&decide ((0+l.length)*64<=140737488355328))=true/\((x.off=x.off/\x.key=x.key/\(dI x.val x.val)/\x.prod=x.prod/\x.seq=x.seq/\True)/\(l.length:Int)=(l.length:Int)/\True)/\True/\x.val.length<=140737488355328/\(decide (0+l.length=0+l.length)&&decide (0+l.length+1<=9223372036854775807)&&decide ((0+l.length+1)*64<=140737488355328))=true/\((0=0/\0+l.length+1=(sj l x).length)/\IntKind.u64.wrap (l.length:Int)=xB l x/\0=Bt l x/\True)/\(0+l.length+1=(sj l x).length/\ak (0+l.length+1) 5 (aL (0+l.length) (aL 0 (fun (k j:Nat)=>AV.junk) (ah encR l)) fun (k j:Nat)=>Ax.get [AV.y (.int .u64 (IntKind.u64.wrap (l.length:Int))),AV.y (.string x.key),AV.ys true 1 x.val.length (ah aD x.val),AV.y (.int .u64 x.prod),AV.y (.int .u64 x.seq)] (k*5+j)) (ah encR (sj l x)))/\True))))
theorem VX (b:Bool) (l:List Rec) (x:Rec):(aZ Tryz.prog (vrH b l x) 121 [bZ b l,.agg (encR x)] [] (vrT l x))=afX b l x:=by kernel_rfl
def Dj (l:List Rec) (o:Int):Int:=if dN l=false then 1 else if (l.length:Int)<o then 141 else 0
def Jf (l:List Rec) (o m:Int):Int:=min (min (max m 0) 64) ((l.length:Int) - o)
def xO (l:List Rec) (o m:Int):List Rec:=if Dj l o=0 then (l.drop o.toNat).take (Jf l o m).toNat else []
def vfT (l:List Rec) (o m:Int):T An:=.ret (.tup [.own 0 5 0 (xO l o m).length,.y (.int .i64 (Dj l o))],[yZ (xO l o m)],[])
noncomputable def vfH (b:Bool) (l:List Rec) (o m:Int):aC Tryz.prog:=dS (hh _ bB (cs1 71 1 1 (lrC b l) bA)
 (op1 71 3 0 (.row 54 5) (op1 71 5 0 (.row 54 5) bq))) noSh
def adk (b:Bool) (l:List Rec) (o:Int) (m:Int):Prop :=
 ((b=b/\l.length=l.length/\ak l.length 5 (ah encR l) (ah encR l))/\True)/\True/\l.length<=9223372036854775806/\((!dN l)=true->((0=0/\0=(xO l o m).length)/\1=Dj l o/\True)/\(0=(xO l o m).length/\ak 0 5 (fun (x x_1:Nat)=>AV.junk) (ah encR (xO l o m)))/\True)/\((!dN l)=false->(decide (IntKind.u64.wrap (l.length:Int)<o)=true->((0=0/\0=(xO l o m).length)/\141=Dj l o/\True)/\(0=(xO l o m).length/\ak 0 5 (fun (x x_1:Nat)=>AV.junk) (ah encR (xO l o m)))/\True)/\(decide (IntKind.u64.wrap (l.length:Int)<o)=false->(decide (0<=IntKind.i64.wrap o)&&decide (IntKind.i64.wrap o<=IntKind.i64.wrap (IntKind.i64.wrap o+if IntKind.i64.wrap ((l.length:Int) - IntKind.i64.wrap o)<if 64<if 0 > m then 0 else m then 64 else if 0 > m then 0 else m then IntKind.i64.wrap ((l.length:Int) - IntKind.i64.wrap o) else if 64<if 0 > m then 0 else m then 64 else if 0 > m then 0 else m))&&decide (IntKind.i64.wrap (IntKind.i64.wrap o+if IntKind.i64.wrap ((l.length:Int) - IntKind.i64.wrap o)<if 64<if 0 > m then 0 else m then 64 else if 0 > m then 0 else m then IntKind.i64.wrap ((l.length:Int) - IntKind.i64.wrap o) else if 64<if 0 > m then 0 else m then 64 else if 0 > m then 0 else m)<=(l.length:Int)))=true/\(decide (0+(Int.toNat (IntKind.i64.wrap (IntKind.i64.wrap o+if IntKind.i64.wrap ((l.length:Int) - IntKind.i64.wrap o)<if 64<if 0 > m then 0 else m then 64 else if 0 > m then 0 else m then IntKind.i64.wrap ((l.length:Int) - IntKind.i64.wrap o) else if 64<if 0 > m then 0 else m then 64 else if 0 > m then 0 else m)) - Int.toNat (IntKind.i64.wrap o))<=9223372036854775807)&&decide ((0+(Int.toNat (IntKind.i64.wrap (IntKind.i64.wrap o+if IntKind.i64.wrap ((l.length:Int) - IntKind.i64.wrap o)<if 64<if 0 > m then 0 else m then 64 else if 0 > m then 0 else m then IntKind.i64.wrap ((l.length:Int) - IntKind.i64.wrap o) else if 64<if 0 > m then 0 else m then 64 else if 0 > m then 0 else m)) - Int.toNat (IntKind.i64.wrap o)))*64<=140737488355328))=true/\((0=0/\0+(Int.toNat (IntKind.i64.wrap (IntKind.i64.wrap o+if IntKind.i64.wrap ((l.length:Int) - IntKind.i64.wrap o)<if 64<if 0 > m then 0 else m then 64 else if 0 > m then 0 else m then IntKind.i64.wrap ((l.length:Int) - IntKind.i64.wrap o) else if 64<if 0 > m then 0 else m then 64 else if 0 > m then 0 else m)) - Int.toNat (IntKind.i64.wrap o))=(xO l o m).length)/\0=Dj l o/\True)/\(0+(Int.toNat (IntKind.i64.wrap (IntKind.i64.wrap o+if IntKind.i64.wrap ((l.length:Int) - IntKind.i64.wrap o)<if 64<if 0 > m then 0 else m then 64 else if 0 > m then 0 else m then IntKind.i64.wrap ((l.length:Int) - IntKind.i64.wrap o) else if 64<if 0 > m then 0 else m then 64 else if 0 > m then 0 else m)) - Int.toNat (IntKind.i64.wrap o))=(xO l o m).length/\ak (0+(Int.toNat (IntKind.i64.wrap (IntKind.i64.wrap o+if IntKind.i64.wrap ((l.length:Int) - IntKind.i64.wrap o)<if 64<if 0 > m then 0 else m then 64 else if 0 > m then 0 else m then IntKind.i64.wrap ((l.length:Int) - IntKind.i64.wrap o) else if 64<if 0 > m then 0 else m then 64 else if 0 > m then 0 else m)) - Int.toNat (IntKind.i64.wrap o))) 5 (aL 0 (fun (k j:Nat)=>AV.junk) fun (k:Nat)=>ah encR l (Int.toNat (IntKind.i64.wrap o)+k)) (ah encR (xO l o m)))/\True))
theorem V5 (b:Bool) (l:List Rec) (o:Int) (m:Int):(aZ Tryz.prog (vfH b l o m) 71 [bZ b l,.y (.int .u64 o),.y (.int .i64 m)] [] (vfT l o m))=adk b l o m:=by kernel_rfl
theorem Wz {l:List Rec} {x:Rec} (h:Bt l x=0):dN l=true/\x.val.length<=256/\l.length<4096:=by
 unfold Bt at h
 cases hl:dN l with
 | false=>simp [hl] at h
 | true =>
   simp only [hl,Bool.true_eq_false,if_false] at h
   have:=pz hl
   split at h
   · cases h
   · split at h
     · cases h
     · split at h
       · cases h
       · exact ⟨rfl,by omega,by omega⟩
theorem ae' (b:Bool) (l:List Rec) (x:Rec) (h0:l.length<=9223372036854775806):(vrT l x).Sat (au Tryz.prog 121 [bZ b l,.agg (encR x)] []):=by
 refine aR (ht:=vrH b l x) Tryz.mixed rfl ?_
 rw [VX b l x]
 unfold afX
 have hK:Bt l x=if dN l=false then 1 else if 32<x.key.size then 131 else if 256<x.val.length then 144 else if l.length=4096 then 143 else 0:=rfl
 have hY:Bt l x≠0->sj l x=[]:=fun h=>by unfold sj;rw [if_neg h]
 have hN:Bt l x≠0->xB l x=0:=fun h=>by unfold xB;rw [if_neg h]
 refine ⟨by simp,trivial,h0,fun h=>?_,fun h=>⟨fun h2=>?_,fun h2=>⟨fun h3=>?_,fun h3=>⟨fun h4=>?_,fun h4=>?_⟩⟩⟩⟩
 · have hk:Bt l x=1:=by rw [hK];simp at h;simp [h]
   simp [hY (by rw [hk];omega),hN (by rw [hk];omega),hk]
 · have hk:Bt l x=131:=by rw [hK];simp at h h2;simp [h];omega
   simp [hY (by rw [hk];omega),hN (by rw [hk];omega),hk]
 · have hk:Bt l x=144:=by rw [hK];simp at h h2 h3;simp [h];omega
   simp [hY (by rw [hk];omega),hN (by rw [hk];omega),hk]
 · have hk:Bt l x=143:=by
    rw [hK];simp at h h2 h3 h4
    have:=pz h
    simp [h];omega
   simp [hY (by rw [hk];omega),hN (by rw [hk];omega),hk]
 · have hk:Bt l x=0:=by rw [hK];simp at h h2 h3 h4;simp [h];omega
   obtain ⟨g1,g2,g3⟩:=Wz hk
   have hy:sj l x=l++[x.to (IntKind.u64.wrap l.length)]:=by unfold sj;rw [if_pos hk]
   have hn:xB l x=IntKind.u64.wrap l.length:=by unfold xB;rw [if_pos hk]
   rw [hy,hn,hk]
   refine ⟨by simp;omega,by simp,trivial,by omega,by simp;omega,by simp,⟨by simp,?_⟩,trivial⟩
   have:=jo (sz:=5) (enc:=encR) (l:=l) (n:=l.length) (x:=x.to (IntKind.u64.wrap l.length)) (cs:=[AV.y (Value.int IntKind.u64 (IntKind.wrap IntKind.u64 (l.length:Int))),AV.y (Value.string x.key),AV.ys true (1:Nat) (List.length x.val) (ah aD x.val),AV.y (Value.int IntKind.u64 x.prod),AV.y (Value.int IntKind.u64 x.seq)]) rfl (ab3 (bN _) (bN _) (bN _) (bN _) (bN _))
   simpa using this
noncomputable def ahr (b:Bool) (l:List Rec) (x:Rec):dO Tryz.prog:=⟨121,[bZ b l,.agg (encR x)],[],.need (l.length<=9223372036854775806) (vrT l x),T.Sat.need fun h=>ae' b l x h⟩
theorem LK {l:List Rec} {o m:Int} (h:Dj l o=0) (h0:0<=o):dN l=true/\o<=l.length/\0<=Jf l o m/\Jf l o m<=(l.length:Int) - o/\Jf l o m<=64:=by
 unfold Dj at h
 cases hl:dN l with
 | false=>simp [hl] at h
 | true =>
   simp only [hl,Bool.true_eq_false,if_false] at h
   split at h
   · cases h
   · unfold Jf;exact ⟨rfl,by omega,by omega,by omega,by omega⟩
theorem acB {l:List Rec} {o m:Int} (h:Dj l o=0) {k:Nat} (hk:k<(Jf l o m).toNat):(xO l o m).getD k default=l.getD (o.toNat+k) default:=by
 unfold xO
 rw [if_pos h]
 simp [List.getElem?_take,hk,List.getElem?_drop]
theorem WE {l:List Rec} {o m:Int} (h:Dj l o=0) (h0:0<=o):(xO l o m).length=(Jf l o m).toNat:=by
 obtain ⟨_,h1,h2,h3,_⟩:=LK (m:=m) h h0
 unfold xO
 rw [if_pos h]
 simp
 omega
theorem aaR {l:List Rec} {o m:Int} (h:Dj l o=0) (n:Nat) (hn:n=(Jf l o m).toNat) (c:Nat->Nat->AV) (hc:∀ k j,k<n->c k j=ah encR l (o.toNat+k) j):ak n 5 c (ah encR (xO l o m)):=by
 intro k hk j hj
 rw [hc k j hk]
 unfold ah
 rw [acB h (by omega)]
 exact bN _
theorem afw (b:Bool) (l:List Rec) (o m:Int) (hl:l.length<=9223372036854775806) (h0:0<=o/\o<=18446744073709551615):(vfT l o m).Sat (au Tryz.prog 71 [bZ b l,.y (.int .u64 o),.y (.int .i64 m)] []):=by
 refine aR (ht:=vfH b l o m) Tryz.mixed rfl ?_
 rw [V5 b l o m]
 unfold adk
 have hw:IntKind.u64.wrap (l.length:Int)=l.length:=wrap_u64 (by omega) (by omega)
 have hK:Dj l o=if dN l=false then 1 else if (l.length:Int)<o then 141 else 0:=rfl
 have hY:Dj l o≠0->xO l o m=[]:=fun h=>by unfold xO;rw [if_neg h]
 rw [hw]
 refine ⟨by simp,trivial,hl,fun h=>?_,fun h=>⟨fun h2=>?_,fun h2=>?_⟩⟩
 · have hk:Dj l o=1:=by rw [hK];simp at h;simp [h]
   simp [hY (by rw [hk];omega),hk]
 · have hk:Dj l o=141:=by rw [hK];simp at h h2;simp [h];omega
   simp [hY (by rw [hk];omega),hk]
 · have hk:Dj l o=0:=by rw [hK];simp at h h2;simp [h];omega
   obtain ⟨g1,g2,g3,g4,g5⟩:=LK (m:=m) hk h0.1
   have gl:=WE (m:=m) hk h0.1
   have g6:=pz g1
   have hwo:IntKind.i64.wrap o=o:=wrap_i64 (by omega) (by omega)
   have hwd:IntKind.i64.wrap ((l.length:Int) - o)=(l.length:Int) - o:=wrap_i64 (by omega) (by omega)
   have hn:(if (l.length:Int) - o<if (64:Int)<if (0:Int) > m then (0:Int) else m then (64:Int) else if (0:Int) > m then (0:Int) else m then (l.length:Int) - o else if (64:Int)<if (0:Int) > m then (0:Int) else m then (64:Int) else if (0:Int) > m then (0:Int) else m)=Jf l o m:=by
    unfold Jf
    omega
   have hwn:IntKind.i64.wrap (o+Jf l o m)=o+Jf l o m:=wrap_i64 (by omega) (by omega)
   simp only [hwo,hwd,hn,hwn]
   refine ⟨by simp;omega,by simp;omega,by simp [hk];omega,⟨by omega,?_⟩,trivial⟩
   have e:0+((o+Jf l o m).toNat - o.toNat)=(Jf l o m).toNat:=by omega
   rw [e,GN]
   exact aaR hk _ rfl _ fun k j _=>rfl
noncomputable def ag7 (b:Bool) (l:List Rec) (o m:Int):dO Tryz.prog:=⟨71,[bZ b l,.y (.int .u64 o),.y (.int .i64 m)],[],.need (l.length<=9223372036854775806/\0<=o/\o<=18446744073709551615) (vfT l o m),T.Sat.need fun h=>afw b l o m h.1 h.2⟩
end V
namespace R
theorem JU (l:List Rec) (x:Rec):V.Bt l x=gZ l x:=by
 unfold V.Bt gZ
 cases dN l<;>rfl
theorem acO {l:List Rec} {x:Rec} (h:gZ l x=0):V.sj l x=jc l x:=by
 unfold V.sj jc
 rw [JU,if_pos h]
theorem Qd (l:List Rec) (o:Int):V.Dj l o=uL l o:=by
 unfold V.Dj uL
 cases dN l<;>rfl
theorem aaO {l:List Rec} {o m:Int} (h:uL l o=0) (h0:0<=o):V.xO l o m=jd l o m:=by
 have ho:o<=(l.length:Int):=by
  unfold uL at h
  split at h
  · cases h
  · split at h
    · cases h
    · omega
 unfold V.xO jd
 rw [Qd,if_pos h]
 have e:V.Jf l o m=xP l.length o m:=by
  unfold V.Jf xP
  have e1:((l.length - o.toNat:Nat):Int)=(l.length:Int) - o:=by omega
  rw [e1]
  by_cases h1:(0:Int) > m
  · simp only [if_pos h1]
    have e2:max m 0=0:=by omega
    rw [e2]
    have e3:min (0:Int) 64=0:=rfl
    rw [e3]
    have e4:(if (64:Int)<0 then (64:Int) else 0)=0:=rfl
    simp only [e4]
    split<;>omega
  · simp only [if_neg h1]
    have e2:max m 0=m:=by omega
    rw [e2]
    split<;>split<;>omega
 rw [e]
end R
namespace P
noncomputable def Qu (b:Bool) (l:List Producer) (id seq:Int) (hl:l.length<=9223372036854775806):aC Tryz.prog :=
 hh _ bB (cs1 124 1 3 (adG b l id seq 0 hl) (cs1 124 4 4 (ZP b l (bY id seq false 0)) bA)) bq
def LY (b:Bool) (l:List Producer) (id:Int) (seq:Int) (hl:l.length<=9223372036854775806):Prop :=
 ((b=b/\l.length=l.length/\ak l.length 4 (ah ay l) (ah ay l))/\id=id/\seq=seq/\(0:Int)=0/\True)/\True/\((aP l (bY id seq true 0)==0)=true->((b=b/\l.length=l.length/\ak l.length 4 (ah ay l) (ah ay l))/\(id=id/\seq=seq/\false=false/\(0:Int)=0/\True)/\True)/\True/\(l.length*32<=140737488355200/\∀ (i j:Nat),i<j->j<l.length->(l.getD i default).id<(l.getD j default).id)/\((aP l (bY id seq false 0)==0)=true->((0=0/\(aN l (bY id seq false 0)).length=(aN l (bY id seq false 0)).length)/\(0:Int)=0/\True)/\((aN l (bY id seq false 0)).length=(aN l (bY id seq false 0)).length/\ak (aN l (bY id seq false 0)).length 4 (ah ay (aN l (bY id seq false 0))) (ah ay (aN l (bY id seq false 0))))/\True)/\((aP l (bY id seq false 0)==0)=false->False))/\((aP l (bY id seq true 0)==0)=false->((aP l (bY id seq true 0) != 0)=true->((aP l (bY id seq false 0)==0)=true->(False/\aP l (bY id seq true 0)=0/\True)/\False)/\((aP l (bY id seq false 0)==0)=false->(True/\aP l (bY id seq true 0)=aP l (bY id seq false 0)/\True)/\True))/\((aP l (bY id seq true 0) != 0)=false->((b=b/\l.length=l.length/\ak l.length 4 (ah ay l) (ah ay l))/\(id=id/\seq=seq/\false=false/\(0:Int)=0/\True)/\True)/\True/\(l.length*32<=140737488355200/\∀ (i j:Nat),i<j->j<l.length->(l.getD i default).id<(l.getD j default).id)/\((aP l (bY id seq false 0)==0)=true->((0=0/\(aN l (bY id seq false 0)).length=(aN l (bY id seq false 0)).length)/\(0:Int)=0/\True)/\((aN l (bY id seq false 0)).length=(aN l (bY id seq false 0)).length/\ak (aN l (bY id seq false 0)).length 4 (ah ay (aN l (bY id seq false 0))) (ah ay (aN l (bY id seq false 0))))/\True)/\((aP l (bY id seq false 0)==0)=false->False)))
theorem KJ (b:Bool) (l:List Producer) (id:Int) (seq:Int) (hl:l.length<=9223372036854775806):(aZ Tryz.prog (Qu b l id seq hl) 124 [bG b l,.y (.int .u64 id),.y (.int .u64 seq)] [] (lV l (bY id seq false 0)))=LY b l id seq hl:=by kernel_rfl
theorem Oc {l:List Producer} {x:Producer} (h:aP l x=0):cK l=true:=by
 unfold aP at h
 cases ht:cK l
 · simp [ht] at h
 · rfl
theorem VE (b:Bool) (l:List Producer) (id seq:Int) (hl:l.length<=9223372036854775806):(lV l (bY id seq false 0)).Sat (au Tryz.prog 124 [bG b l,.y (.int .u64 id),.y (.int .u64 seq)] []):=by
 refine aR (ht:=Qu b l id seq hl) Tryz.mixed rfl ?_
 rw [KJ b l id seq hl]
 unfold LY
 have e:aP l (bY id seq true 0)=aP l (bY id seq false 0):=rfl
 by_cases h:aP l (bY id seq false 0)=0
 · have ht:=Oc h
   have h1:l.length<=256:=by unfold cK at ht;simp at ht;exact ht.2
   have h3:=kH ht
   simp [e,h]
   exact ⟨by omega,h3⟩
 · simp [e,h]
noncomputable def adt (b:Bool) (l:List Producer) (id seq o:Int):dO Tryz.prog:=⟨122,[bG b l,.y (.int .u64 id),.y (.int .u64 seq),.y (.int .u64 o)],[],.need (l.length<=9223372036854775806) (lV l (bY id seq true o)),T.Sat.need fun h=>Qp b l id seq o h⟩
noncomputable def aaK (b:Bool) (l:List Producer) (id seq:Int):dO Tryz.prog:=⟨124,[bG b l,.y (.int .u64 id),.y (.int .u64 seq)],[],.need (l.length<=9223372036854775806) (lV l (bY id seq false 0)),T.Sat.need fun h=>VE b l id seq h⟩
end P
namespace R
noncomputable def jd2 (b:Bool) (l:List P.Producer) (id s:Int):dO Tryz.prog:=⟨94,[P.bG b l,.y (.int .u64 id),.y (.int .u64 s)],[],.need (l.length<=9223372036854775806) (P.qD l id s),T.Sat.need fun h=>P.Ho b l id s h⟩
def prF (p:Part) (c:bJ):Part:=if iO p c=0 then prQ p c else p
def prX (p:Part) (c:bJ):gJ:=if iO p c=0 then ⟨0,p.recs.length,false,[]⟩ else if iO p c=999 then ⟨0,P.dP p.prods c.prod c.seq,true,[]⟩ else ⟨iO p c,0,false,[]⟩
noncomputable def aeO (p:Part) (c:bJ):aC Tryz.prog:=dS (hh _ bB (cs1 69 1 4 (ZB p.rng c.key) (cs1 69 4 6 (jd2 true p.prods c.prod c.seq) (cs1 69 11 11 (V.ahr true p.recs (newR c)) (cs1 69 14 7 (P.adt true p.prods c.prod c.seq (V.xB p.recs (newR c))) bA)))) bq) (nk 69 17 0 779 (nk 69 18 0 779 noSh))
def Y7 (p:Part) (c:bJ) (q:Part) (x:gJ):Prop :=
 ((p.rng.lo=p.rng.lo/\p.rng.hi=p.rng.hi/\True)/\c.key=c.key/\True)/\True/\((!h_ p.rng c.key)=true->((bE true true p q)/\(163=x.err/\0=x.off/\false=x.old/\x.recs.length=0/\True)/\True)/\True)/\((!h_ p.rng c.key)=false->((true=true/\p.prods.length=p.prods.length/\ak p.prods.length 4 (ah P.ay p.prods) (ah P.ay p.prods))/\c.prod=c.prod/\c.seq=c.seq/\True)/\True/\p.prods.length<=9223372036854775806/\((P.bg p.prods c.prod c.seq==2)=true->((bE true true p q)/\(0=x.err/\P.dP p.prods c.prod c.seq=x.off/\true=x.old/\x.recs.length=0/\True)/\True)/\True)/\((P.bg p.prods c.prod c.seq==2)=false->((P.bg p.prods c.prod c.seq==3)=true->((bE true true p q)/\(152=x.err/\0=x.off/\false=x.old/\x.recs.length=0/\True)/\True)/\True)/\((P.bg p.prods c.prod c.seq==3)=false->((p.frozen != 0)=true->((bE true true p q)/\(164=x.err/\0=x.off/\false=x.old/\x.recs.length=0/\True)/\True)/\True)/\((p.frozen != 0)=false->((true=true/\p.recs.length=p.recs.length/\ak p.recs.length 5 (ah encR p.recs) (ah encR p.recs))/\((0:Int)=0/\c.key=c.key/\(dI c.val c.val)/\c.prod=c.prod/\c.seq=c.seq/\True)/\True)/\True/\p.recs.length<=9223372036854775806/\((V.Bt p.recs (newR c) != 0)=true->((bE true true p q)/\(V.Bt p.recs (newR c)=x.err/\0=x.off/\false=x.old/\x.recs.length=0/\True)/\True)/\True)/\((V.Bt p.recs (newR c) != 0)=false->((true=true/\p.prods.length=p.prods.length/\ak p.prods.length 4 (ah P.ay p.prods) (ah P.ay p.prods))/\c.prod=c.prod/\c.seq=c.seq/\V.xB p.recs (newR c)=V.xB p.recs (newR c)/\True)/\True/\p.prods.length<=9223372036854775806/\((P.aP p.prods (P.bY c.prod c.seq true (V.xB p.recs (newR c)))==0)=true->(∀ k,k<(V.sj p.recs (newR c)).length->∀ j,j<5->dK (ah encR (V.sj p.recs (newR c)) k j)=true)/\(∀ k,k<(P.aN p.prods (P.bY c.prod c.seq true (V.xB p.recs (newR c)))).length->∀ j,j<4->dK (ah P.ay (P.aN p.prods (P.bY c.prod c.seq true (V.xB p.recs (newR c)))) k j)=true)/\((p.rng.lo=q.rng.lo/\p.rng.hi=q.rng.hi/\p.epoch=q.epoch/\p.frozen=q.frozen/\(true=true/\(V.sj p.recs (newR c)).length=q.recs.length/\ak (V.sj p.recs (newR c)).length 5 (Ax.rowAt 0 (ah encR (V.sj p.recs (newR c)))) (ah encR q.recs))/\(true=true/\(P.aN p.prods (P.bY c.prod c.seq true (V.xB p.recs (newR c)))).length=q.prods.length/\ak (P.aN p.prods (P.bY c.prod c.seq true (V.xB p.recs (newR c)))).length 4 (Ax.rowAt 0 (ah P.ay (P.aN p.prods (P.bY c.prod c.seq true (V.xB p.recs (newR c)))))) (ah P.ay q.prods))/\(true=true/\p.cons.length=q.cons.length/\ak p.cons.length 2 (ah aJ p.cons) (ah aJ q.cons))/\True)/\(0=x.err/\V.xB p.recs (newR c)=x.off/\false=x.old/\x.recs.length=0/\True)/\True)/\True)/\((P.aP p.prods (P.bY c.prod c.seq true (V.xB p.recs (newR c)))==0)=false->((P.aP p.prods (P.bY c.prod c.seq true (V.xB p.recs (newR c))) != 0)=true->((bE true true p q)/\(P.aP p.prods (P.bY c.prod c.seq true (V.xB p.recs (newR c)))=x.err/\0=x.off/\false=x.old/\x.recs.length=0/\True)/\True)/\True)/\((P.aP p.prods (P.bY c.prod c.seq true (V.xB p.recs (newR c))) != 0)=false->(∀ k,k<(V.sj p.recs (newR c)).length->∀ j,j<5->dK (ah encR (V.sj p.recs (newR c)) k j)=true)/\((p.rng.lo=q.rng.lo/\p.rng.hi=q.rng.hi/\p.epoch=q.epoch/\p.frozen=q.frozen/\(true=true/\(V.sj p.recs (newR c)).length=q.recs.length/\ak (V.sj p.recs (newR c)).length 5 (Ax.rowAt 0 (ah encR (V.sj p.recs (newR c)))) (ah encR q.recs))/\q.prods.length=0/\(true=true/\p.cons.length=q.cons.length/\ak p.cons.length 2 (ah aJ p.cons) (ah aJ q.cons))/\True)/\(0=x.err/\V.xB p.recs (newR c)=x.off/\false=x.old/\x.recs.length=0/\True)/\True)/\True)))))))
theorem TA (p:Part) (c:bJ) (q:Part) (x:gJ):(aZ Tryz.prog (aeO p c) 69 [.agg (aW true p),.agg (dV c)] [] (L_ q x))=Y7 p c q x:=by kernel_rfl
def cmF (p:Part) (c:bJ):Part:=if jw p c=0 then cmQ p c else p
def cmX (p:Part) (c:bJ):gJ:=if jw p c=0 then ⟨0,c.off,false,[]⟩ else if jw p c=999 then ⟨0,0,true,[]⟩ else ⟨jw p c,0,false,[]⟩
noncomputable def aeA (p:Part) (c:bJ):aC Tryz.prog:=dS (hh _ bB (cs1 70 1 6 (jd2 true p.prods c.prod c.seq) (cs1 70 6 11 (_root_.Go.Proofs.YtnbhdjadlbhknaaGreatDoor.ckC true p.cons ⟨c.name,c.off⟩ (IntKind.u64.wrap (p.recs.length:Nat))) (cs1 70 9 6 (P.aaK true p.prods c.prod c.seq) bA))) bq) (nk 70 12 0 779 (nk 70 13 0 779 noSh))
def q8 (p:Part) (q:Part):Prop:=(true=true/\p.recs.length=q.recs.length/\ak p.recs.length 5 (ah encR p.recs) (ah encR q.recs))
def vX (p:Part) (c:bJ):Prop:=((true=true/\p.prods.length=p.prods.length/\ak p.prods.length 4 (ah P.ay p.prods) (ah P.ay p.prods))/\c.prod=c.prod/\c.seq=c.seq/\True)
def ZL (p:Part) (c:bJ) (q:Part) (x:gJ):Prop :=
 (vX p c)/\True/\p.prods.length<=9223372036854775806/\((P.bg p.prods c.prod c.seq != 1)=true->((bE true true p q)/\(0=x.err/\0=x.off/\true=x.old/\x.recs.length=0/\True)/\True)/\True)/\((P.bg p.prods c.prod c.seq != 1)=false->((p.frozen != 0)=true->((bE true true p q)/\(164=x.err/\0=x.off/\false=x.old/\x.recs.length=0/\True)/\True)/\True)/\((p.frozen != 0)=false->((true=true/\p.cons.length=p.cons.length/\ak p.cons.length 2 (ah aJ p.cons) (ah aJ p.cons))/\(c.name=c.name/\c.off=c.off/\True)/\IntKind.u64.wrap (p.recs.length:Int)=IntKind.u64.wrap (p.recs.length:Int)/\True)/\True/\p.cons.length<=9223372036854775806/\((eG p.cons { name:=c.name,off:=c.off:Con } (IntKind.u64.wrap (p.recs.length:Int))==0)=true->(vX p c)/\True/\p.prods.length<=9223372036854775806/\((P.aP p.prods (P.bY c.prod c.seq false 0)==0)=true->(∀ k,k<(aN p.cons { name:=c.name,off:=c.off:Con }).length->∀ j,j<2->dK (ah aJ (aN p.cons { name:=c.name,off:=c.off:Con }) k j)=true)/\(∀ k,k<(P.aN p.prods (P.bY c.prod c.seq false 0)).length->∀ j,j<4->dK (ah P.ay (P.aN p.prods (P.bY c.prod c.seq false 0)) k j)=true)/\((p.rng.lo=q.rng.lo/\p.rng.hi=q.rng.hi/\p.epoch=q.epoch/\p.frozen=q.frozen/\(q8 p q)/\(true=true/\(P.aN p.prods (P.bY c.prod c.seq false 0)).length=q.prods.length/\ak (P.aN p.prods (P.bY c.prod c.seq false 0)).length 4 (Ax.rowAt 0 (ah P.ay (P.aN p.prods (P.bY c.prod c.seq false 0)))) (ah P.ay q.prods))/\(true=true/\(aN p.cons { name:=c.name,off:=c.off:Con }).length=q.cons.length/\ak (aN p.cons { name:=c.name,off:=c.off:Con }).length 2 (Ax.rowAt 0 (ah aJ (aN p.cons { name:=c.name,off:=c.off:Con }))) (ah aJ q.cons))/\True)/\(0=x.err/\c.off=x.off/\false=x.old/\x.recs.length=0/\True)/\True)/\True)/\((P.aP p.prods (P.bY c.prod c.seq false 0)==0)=false->((P.aP p.prods (P.bY c.prod c.seq false 0) != 0)=true->((bE true true p q)/\(P.aP p.prods (P.bY c.prod c.seq false 0)=x.err/\0=x.off/\false=x.old/\x.recs.length=0/\True)/\True)/\True)/\((P.aP p.prods (P.bY c.prod c.seq false 0) != 0)=false->(∀ k,k<(aN p.cons { name:=c.name,off:=c.off:Con }).length->∀ j,j<2->dK (ah aJ (aN p.cons { name:=c.name,off:=c.off:Con }) k j)=true)/\((p.rng.lo=q.rng.lo/\p.rng.hi=q.rng.hi/\p.epoch=q.epoch/\p.frozen=q.frozen/\(q8 p q)/\q.prods.length=0/\(true=true/\(aN p.cons { name:=c.name,off:=c.off:Con }).length=q.cons.length/\ak (aN p.cons { name:=c.name,off:=c.off:Con }).length 2 (Ax.rowAt 0 (ah aJ (aN p.cons { name:=c.name,off:=c.off:Con }))) (ah aJ q.cons))/\True)/\(0=x.err/\c.off=x.off/\false=x.old/\x.recs.length=0/\True)/\True)/\True)))/\((eG p.cons { name:=c.name,off:=c.off:Con } (IntKind.u64.wrap (p.recs.length:Int))==0)=false->((eG p.cons { name:=c.name,off:=c.off:Con } (IntKind.u64.wrap (p.recs.length:Int)) != 0)=true->((bE true true p q)/\(eG p.cons { name:=c.name,off:=c.off:Con } (IntKind.u64.wrap (p.recs.length:Int))=x.err/\0=x.off/\false=x.old/\x.recs.length=0/\True)/\True)/\True)/\((eG p.cons { name:=c.name,off:=c.off:Con } (IntKind.u64.wrap (p.recs.length:Int)) != 0)=false->(vX p c)/\True/\p.prods.length<=9223372036854775806/\((P.aP p.prods (P.bY c.prod c.seq false 0)==0)=true->(∀ k,k<(P.aN p.prods (P.bY c.prod c.seq false 0)).length->∀ j,j<4->dK (ah P.ay (P.aN p.prods (P.bY c.prod c.seq false 0)) k j)=true)/\((p.rng.lo=q.rng.lo/\p.rng.hi=q.rng.hi/\p.epoch=q.epoch/\p.frozen=q.frozen/\(q8 p q)/\(true=true/\(P.aN p.prods (P.bY c.prod c.seq false 0)).length=q.prods.length/\ak (P.aN p.prods (P.bY c.prod c.seq false 0)).length 4 (Ax.rowAt 0 (ah P.ay (P.aN p.prods (P.bY c.prod c.seq false 0)))) (ah P.ay q.prods))/\q.cons.length=0/\True)/\(0=x.err/\c.off=x.off/\false=x.old/\x.recs.length=0/\True)/\True)/\True)/\((P.aP p.prods (P.bY c.prod c.seq false 0)==0)=false->((P.aP p.prods (P.bY c.prod c.seq false 0) != 0)=true->((bE true true p q)/\(P.aP p.prods (P.bY c.prod c.seq false 0)=x.err/\0=x.off/\false=x.old/\x.recs.length=0/\True)/\True)/\True)/\((P.aP p.prods (P.bY c.prod c.seq false 0) != 0)=false->((p.rng.lo=q.rng.lo/\p.rng.hi=q.rng.hi/\p.epoch=q.epoch/\p.frozen=q.frozen/\(q8 p q)/\q.prods.length=0/\q.cons.length=0/\True)/\(0=x.err/\c.off=x.off/\false=x.old/\x.recs.length=0/\True)/\True)/\True))))))
theorem Tt (p:Part) (c:bJ) (q:Part) (x:gJ):(aZ Tryz.prog (aeA p c) 70 [.agg (aW true p),.agg (dV c)] [] (L_ q x))=ZL p c q x:=by kernel_rfl
structure abf (p:Part) (c:bJ) (q:Part) (x:gJ):Prop where
 s:(L_ q x).Sat (au Tryz.prog 69 [.agg (aW true p),.agg (dV c)] [])
structure abz (p:Part) (c:bJ) (q:Part) (x:gJ):Prop where
 s:(L_ q x).Sat (au Tryz.prog 70 [.agg (aW true p),.agg (dV c)] [])
noncomputable def ag2 (p:Part) (c:bJ) (q:Part) (x:gJ):dO Tryz.prog:=⟨69,[.agg (aW true p),.agg (dV c)],[],.need (abf p c q x) (L_ q x),T.Sat.need fun h=>h.s⟩
noncomputable def ahs (p:Part) (c:bJ) (q:Part) (x:gJ):dO Tryz.prog:=⟨70,[.agg (aW true p),.agg (dV c)],[],.need (abz p c q x) (L_ q x),T.Sat.need fun h=>h.s⟩
noncomputable def afA (p:Part) (c:bJ) (y1 y2:Act):aC Tryz.prog:=dS (hh _ bB (cs1 18 1 1 (J.isC c) (cs1 18 2 1 (Q.ckC true p) (cs1 18 9 2 (ag2 p c y1.q y1.x) (cs1 18 11 2 (ahs p c y2.q y2.x) (cs1 18 27 6 (V.ag7 true p.recs c.off c.most) (cs1 18 31 4 (rrC true p.cons c.name) bA)))))) bq) (nk 18 27 10 779 noSh)
def zV (p:Part) (z:Act):Prop:=((p.rng.lo=z.q.rng.lo/\p.rng.hi=z.q.rng.hi/\p.epoch=z.q.epoch/\0=z.q.frozen/\(true=true/\p.recs.length=z.q.recs.length/\ak p.recs.length 5 (ah encR p.recs) (ah encR z.q.recs))/\(true=true/\p.prods.length=z.q.prods.length/\ak p.prods.length 4 (ah P.ay p.prods) (ah P.ay z.q.prods))/\(true=true/\p.cons.length=z.q.cons.length/\ak p.cons.length 2 (ah aJ p.cons) (ah aJ z.q.cons))/\True)/\(0=z.x.err/\0=z.x.off/\(p.frozen==0)=z.x.old/\z.x.recs.length=0/\True)/\True)
def A9 (p:Part) (c:bJ) (z:Act):Prop:=((p.rng.lo=z.q.rng.lo/\p.rng.hi=z.q.rng.hi/\p.epoch=z.q.epoch/\c.plan=z.q.frozen/\(true=true/\p.recs.length=z.q.recs.length/\ak p.recs.length 5 (ah encR p.recs) (ah encR z.q.recs))/\(true=true/\p.prods.length=z.q.prods.length/\ak p.prods.length 4 (ah P.ay p.prods) (ah P.ay z.q.prods))/\(true=true/\p.cons.length=z.q.cons.length/\ak p.cons.length 2 (ah aJ p.cons) (ah aJ z.q.cons))/\True)/\(0=z.x.err/\0=z.x.off/\(p.frozen==c.plan)=z.x.old/\z.x.recs.length=0/\True)/\True)
def YS (p:Part) (c:bJ) (y1:Act) (y2:Act) (z:Act):Prop :=
 ((R.ow c c)/\True)/\True/\((bE true true p p)/\True)/\True/\Q.zJ p/\(aX p=true->((!bF c)=true->((bE true true p z.q)/\(161=z.x.err/\0=z.x.off/\false=z.x.old/\z.x.recs.length=0/\True)/\True)/\True)/\((!bF c)=false->((c.epoch != p.epoch)=true->((bE true true p z.q)/\(162=z.x.err/\0=z.x.off/\false=z.x.old/\z.x.recs.length=0/\True)/\True)/\True)/\((c.epoch != p.epoch)=false->((c.kind==1)=true->((bE true true p p)/\(R.ow c c)/\True)/\True/\abf p c y1.q y1.x/\((bE true true y1.q z.q)/\(y1.x.err=z.x.err/\y1.x.off=z.x.off/\y1.x.old=z.x.old/\(true=true/\y1.x.recs.length=z.x.recs.length/\ak y1.x.recs.length 5 (ah encR y1.x.recs) (ah encR z.x.recs))/\True)/\True)/\True)/\((c.kind==1)=false->((c.kind==3)=true->((bE true true p p)/\(R.ow c c)/\True)/\True/\abz p c y2.q y2.x/\((bE true true y2.q z.q)/\(y2.x.err=z.x.err/\y2.x.off=z.x.off/\y2.x.old=z.x.old/\(true=true/\y2.x.recs.length=z.x.recs.length/\ak y2.x.recs.length 5 (ah encR y2.x.recs) (ah encR z.x.recs))/\True)/\True)/\True)/\((c.kind==3)=false->((c.kind==5)=true->((p.frozen != 0)=true->((p.frozen != c.plan)=true->((bE true true p z.q)/\(164=z.x.err/\0=z.x.off/\false=z.x.old/\z.x.recs.length=0/\True)/\True)/\True)/\((p.frozen != c.plan)=false->(A9 p c z)/\True))/\((p.frozen != 0)=false->(A9 p c z)/\True))/\((c.kind==5)=false->((c.kind==6)=true->((p.frozen != 0)=true->((p.frozen != c.plan)=true->((bE true true p z.q)/\(164=z.x.err/\0=z.x.off/\false=z.x.old/\z.x.recs.length=0/\True)/\True)/\True)/\((p.frozen != c.plan)=false->(zV p z)/\True))/\((p.frozen != 0)=false->(zV p z)/\True))/\((c.kind==6)=false->((p.frozen != 0)=true->((bE true true p z.q)/\(164=z.x.err/\0=z.x.off/\false=z.x.old/\z.x.recs.length=0/\True)/\True)/\True)/\((p.frozen != 0)=false->((c.kind==2)=true->((true=true/\p.recs.length=p.recs.length/\ak p.recs.length 5 (ah encR p.recs) (ah encR p.recs))/\c.off=c.off/\c.most=c.most/\True)/\True/\(p.recs.length<=9223372036854775806/\0<=c.off/\c.off<=18446744073709551615)/\(∀ k,k<(V.xO p.recs c.off c.most).length->∀ j,j<5->dK (ah encR (V.xO p.recs c.off c.most) k j)=true)/\((V.Dj p.recs c.off != 0)=true->((bE true true p z.q)/\(V.Dj p.recs c.off=z.x.err/\0=z.x.off/\false=z.x.old/\z.x.recs.length=0/\True)/\True)/\True)/\((V.Dj p.recs c.off != 0)=false->((bE true true p z.q)/\(0=z.x.err/\IntKind.u64.wrap (c.off+IntKind.u64.wrap ((V.xO p.recs c.off c.most).length:Int))=z.x.off/\false=z.x.old/\(true=true/\(V.xO p.recs c.off c.most).length=z.x.recs.length/\ak (V.xO p.recs c.off c.most).length 5 (Ax.rowAt 0 (ah encR (V.xO p.recs c.off c.most))) (ah encR z.x.recs))/\True)/\True)/\True))/\((c.kind==2)=false->((true=true/\p.cons.length=p.cons.length/\ak p.cons.length 2 (ah aJ p.cons) (ah aJ p.cons))/\c.name=c.name/\True)/\True/\p.cons.length<=9223372036854775806/\((bE true true p z.q)/\(0=z.x.err/\iK p.cons c.name=z.x.off/\lT p.cons c.name=z.x.old/\z.x.recs.length=0/\True)/\True)/\True)))))))))/\(aX p=false->(({ data:=#[]:ByteArray }=z.q.rng.lo/\{ data:=#[]:ByteArray }=z.q.rng.hi/\0=z.q.epoch/\0=z.q.frozen/\z.q.recs.length=0/\z.q.prods.length=0/\z.q.cons.length=0/\True)/\(165=z.x.err/\0=z.x.off/\false=z.x.old/\z.x.recs.length=0/\True)/\True)/\True)
theorem Sk (p:Part) (c:bJ) (y1:Act) (y2:Act) (z:Act):(aZ Tryz.prog (afA p c y1 y2) 18 [.agg (aW true p),.agg (dV c)] [] (L_ z.q z.x))=YS p c y1 y2 z:=by kernel_rfl
theorem adC (p:Part) (c:bJ) (h:eO p):(L_ (prF p c) (prX p c)).Sat (au Tryz.prog 69 [.agg (aW true p),.agg (dV c)] []):=by
 refine aR (ht:=aeO p c) Tryz.mixed rfl ?_
 rw [TA p c (prF p c) (prX p c)]
 unfold Y7
 have h1:=h.rl
 have h2:=h.pl
 have t1:=tRs (jc p.recs (newR c))
 have t2:=tPs (P.aN p.prods (mM p c))
 have q1:p.prods.length<=9223372036854775806:=by omega
 have q2:p.recs.length<=9223372036854775806:=by omega
 rw [JU]
 have ea:gZ p.recs (newR c)=0->V.sj p.recs (newR c)=jc p.recs (newR c)/\V.xB p.recs (newR c)=p.recs.length:=fun e=>by
  refine ⟨acO e,?_⟩
  unfold V.xB
  rw [JU,if_pos e,wrap_u64 (by omega) (by omega)]
 unfold prF prX iO
 cases c1:h_ p.rng c.key
 · simp
 · by_cases c2:P.bg p.prods c.prod c.seq=2
   · simp [c2,q1]
   · by_cases c3:P.bg p.prods c.prod c.seq=3
     · simp [c3,q1]
     · by_cases c4:p.frozen=0
       · by_cases c5:gZ p.recs (newR c)=0
         · obtain ⟨e3,e4⟩:=ea c5
           rw [e3,e4]
           have e1:P.aP p.prods (P.bY c.prod c.seq true p.recs.length)=P.aP p.prods (mM p c):=rfl
           have e2:P.aN p.prods (P.bY c.prod c.seq true p.recs.length)=P.aN p.prods (mM p c):=rfl
           rw [e1,e2]
           by_cases c6:P.aP p.prods (mM p c)=0
           · simp [c2,c3,c4,c5,c6,q1,q2,prQ]
             exact ⟨t1,t2⟩
           · by_cases c7:P.aP p.prods (mM p c)=999
             · exact absurd c7 (vH _ _)
             · simp [c2,c3,c4,c5,c6,c7,q1,q2]
               try exact t1
         · by_cases c7:gZ p.recs (newR c)=999
           · exact absurd c7 (MI _ _)
           · simp [c2,c3,c4,c5,c7,q1,q2]
       · simp [c2,c3,c4,q1]
theorem ac8 (p:Part) (c:bJ) (h:eO p):(L_ (cmF p c) (cmX p c)).Sat (au Tryz.prog 70 [.agg (aW true p),.agg (dV c)] []):=by
 refine aR (ht:=aeA p c) Tryz.mixed rfl ?_
 rw [Tt p c (cmF p c) (cmX p c)]
 unfold ZL vX q8
 have h1:=h.rl
 have h2:=h.pl
 have h3:=h.cl
 have t2:=tPs (P.aN p.prods (mV c))
 have t3:=tCs (aN p.cons ⟨c.name,c.off⟩)
 have e1:P.aP p.prods (P.bY c.prod c.seq false 0)=P.aP p.prods (mV c):=rfl
 have e2:P.aN p.prods (P.bY c.prod c.seq false 0)=P.aN p.prods (mV c):=rfl
 have e3:eG p.cons ⟨c.name,c.off⟩ (IntKind.u64.wrap (p.recs.length:Nat))=uY p c:=rfl
 rw [e1,e2,e3]
 have q1:p.prods.length<=9223372036854775806:=by omega
 have q2:p.recs.length<=9223372036854775806:=by omega
 have q3:p.cons.length<=9223372036854775806:=by omega
 unfold cmF cmX jw
 by_cases c2:P.bg p.prods c.prod c.seq=1
 · by_cases c4:p.frozen=0
   · by_cases c5:uY p c=0
     · by_cases c6:P.aP p.prods (mV c)=0
       · simp [c2,c4,c5,c6,q1,q3,cmQ]
         first | exact ⟨t2,t3⟩ | exact ⟨t3,t2⟩
       · by_cases c7:P.aP p.prods (mV c)=999
         · exact absurd c7 (vH _ _)
         · simp [c2,c4,c5,c6,c7,q1,q3]
           try exact t3
     · by_cases c7:uY p c=999
       · exact absurd c7 (MU _ _ _)
       · simp [c2,c4,c5,c7,q1,q3]
   · simp [c2,c4,q1]
 · simp [c2,q1]
theorem ad5 (p:Part) (c:bJ) (hk:Q.zJ p) (h:eO p) (ho:0<=c.off/\c.off<18446744073709551616):(L_ (dQ p c) (dX p c)).Sat (au Tryz.prog 18 [.agg (aW true p),.agg (dV c)] []):=by
 have a1:abf p c (prF p c) (prX p c):=⟨adC p c h⟩
 have a2:abz p c (cmF p c) (cmX p c):=⟨ac8 p c h⟩
 refine aR (ht:=afA p c ⟨prF p c,prX p c,0⟩ ⟨cmF p c,cmX p c,0⟩) Tryz.mixed rfl ?_
 rw [Sk p c ⟨prF p c,prX p c,0⟩ ⟨cmF p c,cmX p c,0⟩ ⟨dQ p c,dX p c,0⟩]
 unfold YS A9 zV
 dsimp only
 have eb:({ data:=#[] }:ByteArray)=ByteArray.empty:=rfl
 rw [eb]
 have h1:=h.rl
 have h3:=h.cl
 have hw:IntKind.u64.wrap c.off=c.off:=wrap_u64 ho.1 (by omega)
 have q2:p.recs.length<=9223372036854775806:=by omega
 have q3:p.cons.length<=9223372036854775806:=by omega
 have o1:0<=c.off:=ho.1
 have o2:c.off<=18446744073709551615:=by omega
 rw [Qd]
 have ef:uL p.recs c.off=0->V.xO p.recs c.off c.most=jd p.recs c.off c.most:=fun e=>aaO e ho.1
 simp only [a1,a2,hk,aO]
 cases k0:aX p
 · have d1:dQ p c=default:=by unfold dQ TB;rw [if_pos k0]
   have d2:dX p c=⟨165,0,false,[]⟩:=by unfold dX OG;rw [if_pos k0]
   rw [d1,d2]
   simp
   exact ⟨rfl,rfl,rfl,rfl,rfl,rfl,rfl⟩
 · cases k1:bF c
   · have d1:dQ p c=p:=by unfold dQ TB;rw [if_neg (by simp [k0]),if_pos (.inl k1)]
     have d2:dX p c=⟨161,0,false,[]⟩:=by unfold dX OG;rw [if_neg (by simp [k0]),if_pos k1]
     rw [d1,d2]
     simp
   · by_cases k2:c.epoch=p.epoch
     · have d1:dQ p c=if qO p c≠0 then p else Hr p c:=by unfold dQ TB;simp [k0,k1,k2]
       have d2:dX p c=if qO p c≠0 then ⟨qO p c,0,false,[]⟩ else Ca p c:=by unfold dX OG;simp [k0,k1,k2]
       rw [d1,d2]
       unfold prF prX cmF cmX Hr Ca qO un9 Tq
       have k2':(c.epoch != p.epoch)=false:=by simp [k2]
       by_cases j1:c.kind=1
       · by_cases e0:iO p c=0
         · simp [k2',j1,e0]
         · by_cases e9:iO p c=999
           · simp [k2',j1,e9]
           · simp [k2',j1,e0,e9]
       · by_cases j3:c.kind=3
         · by_cases e0:jw p c=0
           · simp [k2',j3,e0]
           · by_cases e9:jw p c=999
             · simp [k2',j3,e9]
             · simp [k2',j3,e0,e9]
         · by_cases j5:c.kind=5
           · by_cases f1:p.frozen=0
             · simp [k2',j5,f1,yD,PD]
             · by_cases f2:p.frozen=c.plan
               · simp [k2',j5,f1,f2,yD,PD]
               · simp [k2',j5,f1,f2,yD,PD]
           · by_cases j6:c.kind=6
             · by_cases f1:p.frozen=0
               · simp [k2',j6,f1,yD,PD]
               · by_cases f2:p.frozen=c.plan
                 · simp [k2',j6,f1,f2,yD,PD]
                 · simp [k2',j6,f1,f2,yD,PD]
             · by_cases fz:p.frozen=0
               · by_cases j2:c.kind=2
                 · by_cases e0:uL p.recs c.off=0
                   · have t:=tRs (jd p.recs c.off c.most)
                     rw [ef e0]
                     simp [k2',j2,fz,e0,q2,o1,o2,hw]
                     try exact t
                   · simp [k2',j2,fz,e0,q2,o1,o2,hw]
                     exact tRs _
                 · by_cases j4:c.kind=4
                   · simp [k2',j4,fz,q3]
                   · exfalso
                     unfold bF at k1
                     simp [j1,j2,j3,j4,j5,j6] at k1
               · simp [k2',j1,j3,j5,j6,fz]
     · have d1:dQ p c=p:=by unfold dQ TB;rw [if_neg (by simp [k0]),if_pos (.inr (.inl k2))]
       have d2:dX p c=⟨162,0,false,[]⟩:=by unfold dX OG;rw [if_neg (by simp [k0]),if_neg (by simp [k1]),if_pos k2]
       rw [d1,d2]
       simp [k2]
structure QoR (p:Part) (c:bJ) (q:Part) (x:gJ):Prop where
 q:q=dQ p c
 x:x=dX p c
 k:Q.zJ p
 i:eO p
 o:0<=c.off/\c.off<18446744073709551616
noncomputable def agZ (p:Part) (c:bJ) (q:Part) (x:gJ):dO Tryz.prog:=⟨18,[.agg (aW true p),.agg (dV c)],[],.need (QoR p c q x) (L_ q x),T.Sat.need fun h=>by
 obtain ⟨rfl,rfl,h0,h1,h2⟩:=h
 exact ad5 p c h0 h1 h2⟩
end R
namespace J
def pJ (a b:R.gJ):Bool:=R.iy a.recs b.recs&&(a.err==b.err&&(a.off==b.off&&(a.old==b.old)))
noncomputable def sxH (a b:R.gJ):aC Tryz.prog:=hh _ bB (cs1 20 1 4 (R.smC true true a.recs b.recs) bA) bq
def afy (a:R.gJ) (b:R.gJ):Prop :=
 ((true=true/\a.recs.length=a.recs.length/\ak a.recs.length 5 (ah encR a.recs) (ah encR a.recs))/\(true=true/\b.recs.length=b.recs.length/\ak b.recs.length 5 (ah encR b.recs) (ah encR b.recs))/\True)/\True/\a.recs.length<=9223372036854775806/\(R.iy a.recs b.recs=true->((a.err==b.err)=true->((a.off==b.off)=true->(a.old==b.old)=pJ a b/\True)/\((a.off==b.off)=false->false=pJ a b/\True))/\((a.err==b.err)=false->false=pJ a b/\True))/\(R.iy a.recs b.recs=false->false=pJ a b/\True)
theorem Uw (a:R.gJ) (b:R.gJ):(aZ Tryz.prog (sxH a b) 20 [.agg (R.oJ a),.agg (R.oJ b)] [] (bM (pJ a b)))=afy a b:=by kernel_rfl
def apR (q:Part) (x:R.gJ):T An:=.ret (.tup [.agg (aW true q),bn true (iL x)],[],[])
noncomputable def apH (b:Bool) (p:Part) (w:List Int) (c:R.bJ) (e:Int) (c':R.bJ) (q:Part) (x:R.gJ):aC Tryz.prog:=hh _ bB (cs1 24 1 1 (rcC true w c e) (cs1 24 4 2 (R.doC b p c' q x) (cs1 24 5 2 (wxC x) bA))) bq
def aap (b:Bool) (p:Part) (w:List Int) (c:R.bJ) (e:Int) (c':R.bJ) (q:Part) (x:R.gJ):Prop :=
 ((dI w w)/\True)/\True/\iq w/\(c,e)=lU w/\((e != 0)=true->((bE b b p p)/\(0=c'.kind/\0=c'.epoch/\0=c'.prod/\0=c'.seq/\{ data:=#[]:ByteArray }=c'.key/\c'.val.length=0/\0=c'.off/\0=c'.most/\{ data:=#[]:ByteArray }=c'.name/\0=c'.plan/\True)/\True)/\True/\R.Zj p c' q x/\((x.err=x.err/\x.off=x.off/\x.old=x.old/\(true=true/\x.recs.length=x.recs.length/\ak x.recs.length 5 (ah encR x.recs) (ah encR x.recs))/\True)/\True)/\True/\BU x/\((bE true true q q)/\(dI (iL x) (iL x))/\True)/\True)/\((e != 0)=false->((bE b b p p)/\(R.ow c c')/\True)/\True/\R.Zj p c' q x/\((x.err=x.err/\x.off=x.off/\x.old=x.old/\(true=true/\x.recs.length=x.recs.length/\ak x.recs.length 5 (ah encR x.recs) (ah encR x.recs))/\True)/\True)/\True/\BU x/\((bE true true q q)/\(dI (iL x) (iL x))/\True)/\True)
theorem QK (b:Bool) (p:Part) (w:List Int) (c:R.bJ) (e:Int) (c':R.bJ) (q:Part) (x:R.gJ):(aZ Tryz.prog (apH b p w c e c' q x) 24 [.agg (aW b p),bn true w] [] (apR q x))=aap b p w c e c' q x:=by kernel_rfl
structure ApR (p:Part) (w:List Int) (q:Part) (x:R.gJ):Prop where
 r:iq w
 i:eO p
 o:0<=(lU w).1.off/\(lU w).1.off<18446744073709551616
 e1:q=R.dQ p (if (lU w).2=0 then (lU w).1 else default)
 e2:x=R.dX p (if (lU w).2=0 then (lU w).1 else default)
 u:BU x
theorem ad7 (b:Bool) (p:Part) (w:List Int) (q:Part) (x:R.gJ) (h:ApR p w q x):(apR q x).Sat (au Tryz.prog 24 [.agg (aW b p),bn true w] []):=by
 obtain ⟨h1,h2,h3,rfl,rfl,h6⟩:=h
 obtain ⟨c,e,he⟩:∃ c e,(c,e)=lU w:=⟨_,_,rfl⟩
 have hc:c=(lU w).1:=congrArg Prod.fst he
 have hee:e=(lU w).2:=congrArg Prod.snd he
 rw [<- hc,<- hee] at h6 ⊢
 rw [<- hc] at h3
 obtain ⟨c',hc'⟩:∃ c',(if e=0 then c else default)=c':=⟨_,rfl⟩
 rw [hc'] at h6 ⊢
 have ho:0<=c'.off/\c'.off<18446744073709551616:=by
  rw [<- hc']
  split
  · exact h3
  · exact ⟨by decide,by decide⟩
 have hd:R.Zj p c' (R.dQ p c') (R.dX p c'):=⟨rfl,rfl,h2,ho⟩
 refine aR (ht:=apH b p w c e c' (R.dQ p c') (R.dX p c')) Tryz.mixed rfl ?_
 rw [QK b p w c e c' (R.dQ p c') (R.dX p c')]
 unfold aap
 have z0:(default:R.bJ)=⟨0,0,0,0,ByteArray.empty,[],0,0,ByteArray.empty,0⟩:=rfl
 have z1:ByteArray.empty=(⟨#[]⟩:ByteArray):=rfl
 by_cases h0:e=0
 · rw [if_pos h0] at hc'
   subst hc'
   simp [h0,h1,hd,h6,he]
   rw [h0] at he
   exact he
 · rw [if_neg h0] at hc'
   subst hc'
   simp [h0,h1,hd,h6,he,z0,z1]
   rw [z0,z1] at hd h6
   exact ⟨hd,h6⟩
noncomputable def apC (b:Bool) (p:Part) (w:List Int) (q:Part) (x:R.gJ):dO Tryz.prog:=⟨24,[.agg (aW b p),bn true w],[],.need (ApR p w q x) (apR q x),T.Sat.need fun h=>ad7 b p w q x h⟩
theorem agW (a b:R.gJ) (h:a.recs.length<=9223372036854775806):(bM (pJ a b)).Sat (au Tryz.prog 20 [.agg (R.oJ a),.agg (R.oJ b)] []):=by
 refine aR (ht:=sxH a b) Tryz.mixed rfl ?_
 rw [Uw a b]
 unfold afy pJ
 have hh:=h
 cases h1:R.iy a.recs b.recs
 · simp [hh]
 · cases h2:(a.err==b.err)
   · simp at h2;simp [hh,h2]
   · cases h3:(a.off==b.off)
     · simp at h2 h3;simp [hh,h2,h3]
     · simp at h2 h3;simp [hh,h2,h3]
noncomputable def srC (a b:R.gJ):dO Tryz.prog:=⟨20,[.agg (R.oJ a),.agg (R.oJ b)],[],.need (a.recs.length<=9223372036854775806) (bM (pJ a b)),T.Sat.need fun h=>agW a b h⟩
end J
end Go.Proofs.YtnbhdjadlbhknaaGreatDoor
