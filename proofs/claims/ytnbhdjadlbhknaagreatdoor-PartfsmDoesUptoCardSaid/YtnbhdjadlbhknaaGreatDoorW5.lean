import Derived.Test.YtnbhdjadlbhknaaGreatDoorE12
import Derived.Test.YtnbhdjadlbhknaaGreatDoorW4
set_option linter.unusedVariables false
set_option linter.unusedSimpArgs false
set_option maxRecDepth 1000000
namespace Go.Proofs.YtnbhdjadlbhknaaGreatDoor
open Go.Ax
namespace N
open H Q R
structure Pw where
 (q:Part) (o e:Int)
def JD:AV:=.ifc 184 (.ptr 12 0 0 0)
def prW (p:Part) (c:cB) (y:Pw):T An:=.ite (y.e==0) (.ret (.tup [Ct y.q,.y (.int .u64 y.o),.s .nilIface],ptG y.q,yH))
 (.ite (y.e==999) (.ret (.tup [Ct p,.y (.int .u64 y.o),JD],vH p++agM c,yH))
   (.ret (.tup [Ct p,.y (.int .u64 y.o),JD],vH p++QF c y.e,yH)))
noncomputable def agO (p:Part) (c:cB):aC Tryz.prog:=dO (hh _ bO (cs1 103 1 4 (afY p.rng c.key) (cs1 103 3 6 (juC false p.prods c.prod c.seq) (cs1 103 10 11 (ahY false p.recs (newR c)) (cs1 103 13 7 (agP false p.prods c.prod c.seq p.recs.length) bM)))) bL) (uL 103 16 3 6 (uL 103 16 5 7 noSh))
def q8 (p:Part) (c:cB):Prop:=((jO p.recs (newR c)).length=p.recs.length/\∀ k,k<(jO p.recs (newR c)).length->((jO p.recs (newR c)).getD k default).off=(p.recs.getD k default).off/\((jO p.recs (newR c)).getD k default).key=(p.recs.getD k default).key/\(((jO p.recs (newR c)).getD k default).val.length=(p.recs.getD k default).val.length/\aj ((jO p.recs (newR c)).getD k default).val.length 1 (ah aJ ((jO p.recs (newR c)).getD k default).val) (ah aJ (p.recs.getD k default).val))/\((jO p.recs (newR c)).getD k default).prod=(p.recs.getD k default).prod/\((jO p.recs (newR c)).getD k default).seq=(p.recs.getD k default).seq/\True)
def Bo (p:Part) (c:cB) (y:Pw):Prop:=((jO p.recs (newR c)).length=y.q.recs.length/\∀ k,k<(jO p.recs (newR c)).length->((jO p.recs (newR c)).getD k default).off=(y.q.recs.getD k default).off/\((jO p.recs (newR c)).getD k default).key=(y.q.recs.getD k default).key/\(((jO p.recs (newR c)).getD k default).val.length=(y.q.recs.getD k default).val.length/\aj ((jO p.recs (newR c)).getD k default).val.length 1 (ah aJ ((jO p.recs (newR c)).getD k default).val) (ah aJ (y.q.recs.getD k default).val))/\((jO p.recs (newR c)).getD k default).prod=(y.q.recs.getD k default).prod/\((jO p.recs (newR c)).getD k default).seq=(y.q.recs.getD k default).seq/\True)
def mG (p:Part) (y:Pw):Prop:=((dw p p)/\0=y.o/\(0=0/\0=0)/\True)
def nS (p:Part) (c:cB) (y:Pw):Prop:=((y.e==999)=true->(mG p y)/\(bB p p)/\(bH p p)/\(bC p p)/\(c.kind=c.kind/\False/\True)/\True)
def nU (p:Part) (y:Pw):Prop:=((y.e==0)=true->((dw p y.q)/\0=y.o/\False/\True)/\(bB p y.q)/\(bH p y.q)/\(bC p y.q)/\True)
def zI (p:Part) (c:cB) (y:Pw):Prop:=((p.rng.lo=p.rng.lo/\p.rng.hi=p.rng.hi/\p.epoch=p.epoch/\p.frozen=p.frozen/\(0=0/\(jO p.recs (newR c)).length=p.recs.length)/\(0=0/\(P.aF p.prods (P.bK c.prod c.seq true (p.recs.length:Int))).length=p.prods.length)/\(0=0/\p.cons.length=p.cons.length)/\True)/\F9 p.recs (newR c)=y.o/\False/\True)
def zS (p:Part) (c:cB):Prop:=((P.aF p.prods (P.bK c.prod c.seq true (p.recs.length:Int))).length=p.prods.length/\aj (P.aF p.prods (P.bK c.prod c.seq true (p.recs.length:Int))).length 4 (ah P.ak (P.aF p.prods (P.bK c.prod c.seq true (p.recs.length:Int)))) (ah P.ak p.prods))
def abz (p:Part) (c:cB) (y:Pw):Prop :=
 ((p.rng.lo=p.rng.lo/\p.rng.hi=p.rng.hi/\True)/\c.key=c.key/\True)/\True/\((!fZ p.rng c.key)=true->(nU p y)/\((y.e==0)=false->(nS p c y)/\((y.e==999)=false->(mG p y)/\(bB p p)/\(bH p p)/\(bC p p)/\(c.kind=c.kind/\163=y.e/\True)/\True)))/\((!fZ p.rng c.key)=false->((false=false/\p.prods.length=p.prods.length/\aj p.prods.length 4 (Ax.rowAt 0 (ah P.ak p.prods)) (ah P.ak p.prods))/\c.prod=c.prod/\c.seq=c.seq/\True)/\True/\p.prods.length<=9223372036854775806/\true=true/\True/\((P.aS p.prods c.prod c.seq==2)=true->((y.e==0)=true->((dw p y.q)/\P.dZ p.prods c.prod c.seq=y.o/\False/\True)/\(bB p y.q)/\(bH p y.q)/\(bC p y.q)/\True)/\((y.e==0)=false->((y.e==999)=true->((dw p p)/\P.dZ p.prods c.prod c.seq=y.o/\(0=0/\0=0)/\True)/\(bB p p)/\(bH p p)/\(bC p p)/\(c.kind=c.kind/\True/\True)/\True)/\((y.e==999)=false->((dw p p)/\P.dZ p.prods c.prod c.seq=y.o/\(0=0/\0=0)/\True)/\(bB p p)/\(bH p p)/\(bC p p)/\(c.kind=c.kind/\False/\True)/\True)))/\((P.aS p.prods c.prod c.seq==2)=false->((P.aS p.prods c.prod c.seq==3)=true->(nU p y)/\((y.e==0)=false->(nS p c y)/\((y.e==999)=false->(mG p y)/\(bB p p)/\(bH p p)/\(bC p p)/\(c.kind=c.kind/\152=y.e/\True)/\True)))/\((P.aS p.prods c.prod c.seq==3)=false->((p.frozen != 0)=true->(nU p y)/\((y.e==0)=false->(nS p c y)/\((y.e==999)=false->(mG p y)/\(bB p p)/\(bH p p)/\(bC p p)/\(c.kind=c.kind/\164=y.e/\True)/\True)))/\((p.frozen != 0)=false->((false=false/\p.recs.length=p.recs.length/\aj p.recs.length 5 (Ax.rowAt 0 fun (k j:Nat)=>PU (K5 p.recs k j)) (ah fI p.recs))/\((0:Int)=0/\c.key=c.key/\(lD c.val c.val)/\c.prod=c.prod/\c.seq=c.seq/\True)/\True)/\True/\p.recs.length<=9223372036854775806/\true=true/\((True/\∀ k,k<(jO p.recs (newR c)).length->true=true/\true=true/\(∀ k_1,k_1<((jO p.recs (newR c)).getD k default).val.length->∀ j,j<1->fC (ah aJ ((jO p.recs (newR c)).getD k default).val k_1 j)=true)/\true=true/\true=true/\True)/\True)/\((xV p.recs (newR c) != 0)=true->((xV p.recs (newR c)==0)=true->((y.e==0)=true->((dw p y.q)/\0=y.o/\True/\True)/\(bB p y.q)/\(bH p y.q)/\(bC p y.q)/\True)/\((y.e==0)=false->((y.e==999)=true->((dw p p)/\0=y.o/\False/\True)/\(bB p p)/\(bH p p)/\(bC p p)/\False)/\((y.e==999)=false->((dw p p)/\0=y.o/\False/\True)/\(bB p p)/\(bH p p)/\(bC p p)/\False)))/\((xV p.recs (newR c)==0)=false->(nU p y)/\((y.e==0)=false->(nS p c y)/\((y.e==999)=false->(mG p y)/\(bB p p)/\(bH p p)/\(bC p p)/\(c.kind=c.kind/\xV p.recs (newR c)=y.e/\True)/\True))))/\((xV p.recs (newR c) != 0)=false->((false=false/\p.prods.length=p.prods.length/\aj p.prods.length 4 (Ax.rowAt 0 (ah P.ak p.prods)) (ah P.ak p.prods))/\c.prod=c.prod/\c.seq=c.seq/\F9 p.recs (newR c)=(p.recs.length:Int)/\True)/\True/\p.prods.length<=9223372036854775806/\((P.aI p.prods (P.bK c.prod c.seq true (p.recs.length:Int))==0)=true->true=true/\((∀ k,k<(P.aF p.prods (P.bK c.prod c.seq true (p.recs.length:Int))).length->∀ j,j<4->fC (ah P.ak (P.aF p.prods (P.bK c.prod c.seq true (p.recs.length:Int))) k j)=true)/\True)/\((y.e==0)=true->((p.rng.lo=y.q.rng.lo/\p.rng.hi=y.q.rng.hi/\p.epoch=y.q.epoch/\p.frozen=y.q.frozen/\(0=0/\(jO p.recs (newR c)).length=y.q.recs.length)/\(0=0/\(P.aF p.prods (P.bK c.prod c.seq true (p.recs.length:Int))).length=y.q.prods.length)/\(0=0/\p.cons.length=y.q.cons.length)/\True)/\F9 p.recs (newR c)=y.o/\True/\True)/\(Bo p c y)/\((P.aF p.prods (P.bK c.prod c.seq true (p.recs.length:Int))).length=y.q.prods.length/\aj (P.aF p.prods (P.bK c.prod c.seq true (p.recs.length:Int))).length 4 (ah P.ak (P.aF p.prods (P.bK c.prod c.seq true (p.recs.length:Int)))) (ah P.ak y.q.prods))/\(bC p y.q)/\True)/\((y.e==0)=false->((y.e==999)=true->(zI p c y)/\(q8 p c)/\(zS p c)/\(bC p p)/\False)/\((y.e==999)=false->(zI p c y)/\(q8 p c)/\(zS p c)/\(bC p p)/\False)))/\((P.aI p.prods (P.bK c.prod c.seq true (p.recs.length:Int))==0)=false->true=true/\True/\((P.aI p.prods (P.bK c.prod c.seq true (p.recs.length:Int)) != 0)=true->((P.aI p.prods (P.bK c.prod c.seq true (p.recs.length:Int))==0)=true->((y.e==0)=true->((dw p y.q)/\0=y.o/\True/\True)/\(bB p y.q)/\(bH p y.q)/\(bC p y.q)/\True)/\((y.e==0)=false->((y.e==999)=true->((dw p p)/\0=y.o/\False/\True)/\(bB p p)/\(bH p p)/\(bC p p)/\False)/\((y.e==999)=false->((dw p p)/\0=y.o/\False/\True)/\(bB p p)/\(bH p p)/\(bC p p)/\False)))/\((P.aI p.prods (P.bK c.prod c.seq true (p.recs.length:Int))==0)=false->(nU p y)/\((y.e==0)=false->(nS p c y)/\((y.e==999)=false->(mG p y)/\(bB p p)/\(bH p p)/\(bC p p)/\(c.kind=c.kind/\P.aI p.prods (P.bK c.prod c.seq true (p.recs.length:Int))=y.e/\True)/\True))))/\((P.aI p.prods (P.bK c.prod c.seq true (p.recs.length:Int)) != 0)=false->((y.e==0)=true->((p.rng.lo=y.q.rng.lo/\p.rng.hi=y.q.rng.hi/\p.epoch=y.q.epoch/\p.frozen=y.q.frozen/\(0=0/\(jO p.recs (newR c)).length=y.q.recs.length)/\False/\(0=0/\p.cons.length=y.q.cons.length)/\True)/\F9 p.recs (newR c)=y.o/\True/\True)/\(Bo p c y)/\(bH p y.q)/\(bC p y.q)/\True)/\((y.e==0)=false->((y.e==999)=true->((p.rng.lo=p.rng.lo/\p.rng.hi=p.rng.hi/\p.epoch=p.epoch/\p.frozen=p.frozen/\(0=0/\(jO p.recs (newR c)).length=p.recs.length)/\False/\(0=0/\p.cons.length=p.cons.length)/\True)/\F9 p.recs (newR c)=y.o/\False/\True)/\(q8 p c)/\(bH p p)/\(bC p p)/\False)/\((y.e==999)=false->((p.rng.lo=p.rng.lo/\p.rng.hi=p.rng.hi/\p.epoch=p.epoch/\p.frozen=p.frozen/\(0=0/\(jO p.recs (newR c)).length=p.recs.length)/\False/\(0=0/\p.cons.length=p.cons.length)/\True)/\F9 p.recs (newR c)=y.o/\False/\True)/\(q8 p c)/\(bH p p)/\(bC p p)/\False)))))))))
theorem VY (p:Part) (c:cB) (y:Pw):(jR Tryz.prog (agO p c) 103 [Ct p,.agg (bS c)] (vH p) (prW p c y))=abz p c y:=by kernel_rfl
def cmW (p:Part) (c:cB) (y:Pw):T An:=.ite (y.e==0) (.ret (.tup [Ct y.q,.s .nilIface],ptG y.q,yH))
 (.ite (y.e==999) (.ret (.tup [Ct p,JD],vH p++agM c,yH))
   (.ret (.tup [Ct p,JD],vH p++QF c y.e,yH)))
noncomputable def agI (p:Part) (c:cB):aC Tryz.prog:=dO (hh _ bO (cs1 105 1 6 (juC false p.prods c.prod c.seq) (cs1 105 6 11 (cmC false p.cons ⟨c.name,c.off⟩ (IntKind.u64.wrap (p.recs.length:Nat))) (cs1 105 9 6 (aaI false p.prods c.prod c.seq) bM))) bL) (uL 105 12 3 8 (uL 105 12 5 7 noSh))
def wF (p:Part) (c:cB) (y:Pw):Prop:=((y.e==999)=true->((dw p p)/\(0=0/\0=0)/\True)/\(bB p p)/\(bH p p)/\(bC p p)/\(c.kind=c.kind/\False/\True)/\True)
def Bp (p:Part) (c:cB) (y:Pw):Prop:=((P.aI p.prods (P.bK c.prod c.seq false 0) != 0)=true->((P.aI p.prods (P.bK c.prod c.seq false 0)==0)=true->((y.e==0)=true->((dw p y.q)/\True/\True)/\(bB p y.q)/\(bH p y.q)/\(bC p y.q)/\True)/\((y.e==0)=false->((y.e==999)=true->((dw p p)/\False/\True)/\(bB p p)/\(bH p p)/\(bC p p)/\False)/\((y.e==999)=false->((dw p p)/\False/\True)/\(bB p p)/\(bH p p)/\(bC p p)/\False)))/\((P.aI p.prods (P.bK c.prod c.seq false 0)==0)=false->((y.e==0)=true->((dw p y.q)/\False/\True)/\(bB p y.q)/\(bH p y.q)/\(bC p y.q)/\True)/\((y.e==0)=false->(wF p c y)/\((y.e==999)=false->((dw p p)/\(0=0/\0=0)/\True)/\(bB p p)/\(bH p p)/\(bC p p)/\(c.kind=c.kind/\P.aI p.prods (P.bK c.prod c.seq false 0)=y.e/\True)/\True))))
def qG (p:Part) (c:cB):Prop:=((P.aF p.prods (P.bK c.prod c.seq false 0)).length=p.prods.length/\aj (P.aF p.prods (P.bK c.prod c.seq false 0)).length 4 (ah P.ak (P.aF p.prods (P.bK c.prod c.seq false 0))) (ah P.ak p.prods))
def rC (p:Part) (c:cB):Prop:=((aF p.cons { name:=c.name,off:=c.off:Con }).length=p.cons.length/\aj (aF p.cons { name:=c.name,off:=c.off:Con }).length 2 (ah aD (aF p.cons { name:=c.name,off:=c.off:Con })) (ah aD p.cons))
def vo (p:Part) (c:cB):Prop:=((false=false/\p.prods.length=p.prods.length/\aj p.prods.length 4 (Ax.rowAt 0 (ah P.ak p.prods)) (ah P.ak p.prods))/\c.prod=c.prod/\c.seq=c.seq/\True)
def BI (p:Part) (c:cB):Prop:=((p.rng.lo=p.rng.lo/\p.rng.hi=p.rng.hi/\p.epoch=p.epoch/\p.frozen=p.frozen/\(0=0/\p.recs.length=p.recs.length)/\(0=0/\(P.aF p.prods (P.bK c.prod c.seq false 0)).length=p.prods.length)/\(0=0/\(aF p.cons { name:=c.name,off:=c.off:Con }).length=p.cons.length)/\True)/\False/\True)
def aa6 (p:Part) (c:cB) (y:Pw):Prop :=
 (vo p c)/\True/\p.prods.length<=9223372036854775806/\true=true/\True/\((P.aS p.prods c.prod c.seq != 1)=true->((y.e==0)=true->((dw p y.q)/\False/\True)/\(bB p y.q)/\(bH p y.q)/\(bC p y.q)/\True)/\((y.e==0)=false->((y.e==999)=true->((dw p p)/\(0=0/\0=0)/\True)/\(bB p p)/\(bH p p)/\(bC p p)/\(c.kind=c.kind/\True/\True)/\True)/\((y.e==999)=false->((dw p p)/\(0=0/\0=0)/\True)/\(bB p p)/\(bH p p)/\(bC p p)/\(c.kind=c.kind/\False/\True)/\True)))/\((P.aS p.prods c.prod c.seq != 1)=false->((p.frozen != 0)=true->((y.e==0)=true->((dw p y.q)/\False/\True)/\(bB p y.q)/\(bH p y.q)/\(bC p y.q)/\True)/\((y.e==0)=false->(wF p c y)/\((y.e==999)=false->((dw p p)/\(0=0/\0=0)/\True)/\(bB p p)/\(bH p p)/\(bC p p)/\(c.kind=c.kind/\164=y.e/\True)/\True)))/\((p.frozen != 0)=false->((false=false/\p.cons.length=p.cons.length/\aj p.cons.length 2 (Ax.rowAt 0 (ah aD p.cons)) (ah aD p.cons))/\(c.name=c.name/\c.off=c.off/\True)/\IntKind.u64.wrap (p.recs.length:Int)=IntKind.u64.wrap (p.recs.length:Int)/\True)/\True/\p.cons.length<=9223372036854775806/\((dH p.cons { name:=c.name,off:=c.off:Con } (IntKind.u64.wrap (p.recs.length:Int))==0)=true->true=true/\((∀ k,k<(aF p.cons { name:=c.name,off:=c.off:Con }).length->∀ j,j<2->fC (ah aD (aF p.cons { name:=c.name,off:=c.off:Con }) k j)=true)/\True)/\(vo p c)/\True/\p.prods.length<=9223372036854775806/\((P.aI p.prods (P.bK c.prod c.seq false 0)==0)=true->true=true/\((∀ k,k<(P.aF p.prods (P.bK c.prod c.seq false 0)).length->∀ j,j<4->fC (ah P.ak (P.aF p.prods (P.bK c.prod c.seq false 0)) k j)=true)/\True)/\((y.e==0)=true->((p.rng.lo=y.q.rng.lo/\p.rng.hi=y.q.rng.hi/\p.epoch=y.q.epoch/\p.frozen=y.q.frozen/\(0=0/\p.recs.length=y.q.recs.length)/\(0=0/\(P.aF p.prods (P.bK c.prod c.seq false 0)).length=y.q.prods.length)/\(0=0/\(aF p.cons { name:=c.name,off:=c.off:Con }).length=y.q.cons.length)/\True)/\True/\True)/\(bB p y.q)/\((P.aF p.prods (P.bK c.prod c.seq false 0)).length=y.q.prods.length/\aj (P.aF p.prods (P.bK c.prod c.seq false 0)).length 4 (ah P.ak (P.aF p.prods (P.bK c.prod c.seq false 0))) (ah P.ak y.q.prods))/\((aF p.cons { name:=c.name,off:=c.off:Con }).length=y.q.cons.length/\aj (aF p.cons { name:=c.name,off:=c.off:Con }).length 2 (ah aD (aF p.cons { name:=c.name,off:=c.off:Con })) (ah aD y.q.cons))/\True)/\((y.e==0)=false->((y.e==999)=true->(BI p c)/\(bB p p)/\(qG p c)/\(rC p c)/\False)/\((y.e==999)=false->(BI p c)/\(bB p p)/\(qG p c)/\(rC p c)/\False)))/\((P.aI p.prods (P.bK c.prod c.seq false 0)==0)=false->true=true/\True/\(Bp p c y)/\((P.aI p.prods (P.bK c.prod c.seq false 0) != 0)=false->((y.e==0)=true->((p.rng.lo=y.q.rng.lo/\p.rng.hi=y.q.rng.hi/\p.epoch=y.q.epoch/\p.frozen=y.q.frozen/\(0=0/\p.recs.length=y.q.recs.length)/\False/\(0=0/\(aF p.cons { name:=c.name,off:=c.off:Con }).length=y.q.cons.length)/\True)/\True/\True)/\(bB p y.q)/\(bH p y.q)/\((aF p.cons { name:=c.name,off:=c.off:Con }).length=y.q.cons.length/\aj (aF p.cons { name:=c.name,off:=c.off:Con }).length 2 (ah aD (aF p.cons { name:=c.name,off:=c.off:Con })) (ah aD y.q.cons))/\True)/\((y.e==0)=false->((y.e==999)=true->((p.rng.lo=p.rng.lo/\p.rng.hi=p.rng.hi/\p.epoch=p.epoch/\p.frozen=p.frozen/\(0=0/\p.recs.length=p.recs.length)/\False/\(0=0/\(aF p.cons { name:=c.name,off:=c.off:Con }).length=p.cons.length)/\True)/\False/\True)/\(bB p p)/\(bH p p)/\(rC p c)/\False)/\((y.e==999)=false->((p.rng.lo=p.rng.lo/\p.rng.hi=p.rng.hi/\p.epoch=p.epoch/\p.frozen=p.frozen/\(0=0/\p.recs.length=p.recs.length)/\False/\(0=0/\(aF p.cons { name:=c.name,off:=c.off:Con }).length=p.cons.length)/\True)/\False/\True)/\(bB p p)/\(bH p p)/\(rC p c)/\False)))))/\((dH p.cons { name:=c.name,off:=c.off:Con } (IntKind.u64.wrap (p.recs.length:Int))==0)=false->true=true/\True/\((dH p.cons { name:=c.name,off:=c.off:Con } (IntKind.u64.wrap (p.recs.length:Int)) != 0)=true->((dH p.cons { name:=c.name,off:=c.off:Con } (IntKind.u64.wrap (p.recs.length:Int))==0)=true->((y.e==0)=true->((dw p y.q)/\True/\True)/\(bB p y.q)/\(bH p y.q)/\(bC p y.q)/\True)/\((y.e==0)=false->((y.e==999)=true->((dw p p)/\False/\True)/\(bB p p)/\(bH p p)/\(bC p p)/\False)/\((y.e==999)=false->((dw p p)/\False/\True)/\(bB p p)/\(bH p p)/\(bC p p)/\False)))/\((dH p.cons { name:=c.name,off:=c.off:Con } (IntKind.u64.wrap (p.recs.length:Int))==0)=false->((y.e==0)=true->((dw p y.q)/\False/\True)/\(bB p y.q)/\(bH p y.q)/\(bC p y.q)/\True)/\((y.e==0)=false->(wF p c y)/\((y.e==999)=false->((dw p p)/\(0=0/\0=0)/\True)/\(bB p p)/\(bH p p)/\(bC p p)/\(c.kind=c.kind/\dH p.cons { name:=c.name,off:=c.off:Con } (IntKind.u64.wrap (p.recs.length:Int))=y.e/\True)/\True))))/\((dH p.cons { name:=c.name,off:=c.off:Con } (IntKind.u64.wrap (p.recs.length:Int)) != 0)=false->(vo p c)/\True/\p.prods.length<=9223372036854775806/\((P.aI p.prods (P.bK c.prod c.seq false 0)==0)=true->true=true/\((∀ k,k<(P.aF p.prods (P.bK c.prod c.seq false 0)).length->∀ j,j<4->fC (ah P.ak (P.aF p.prods (P.bK c.prod c.seq false 0)) k j)=true)/\True)/\((y.e==0)=true->((p.rng.lo=y.q.rng.lo/\p.rng.hi=y.q.rng.hi/\p.epoch=y.q.epoch/\p.frozen=y.q.frozen/\(0=0/\p.recs.length=y.q.recs.length)/\(0=0/\(P.aF p.prods (P.bK c.prod c.seq false 0)).length=y.q.prods.length)/\False/\True)/\True/\True)/\(bB p y.q)/\((P.aF p.prods (P.bK c.prod c.seq false 0)).length=y.q.prods.length/\aj (P.aF p.prods (P.bK c.prod c.seq false 0)).length 4 (ah P.ak (P.aF p.prods (P.bK c.prod c.seq false 0))) (ah P.ak y.q.prods))/\(bC p y.q)/\True)/\((y.e==0)=false->((y.e==999)=true->((p.rng.lo=p.rng.lo/\p.rng.hi=p.rng.hi/\p.epoch=p.epoch/\p.frozen=p.frozen/\(0=0/\p.recs.length=p.recs.length)/\(0=0/\(P.aF p.prods (P.bK c.prod c.seq false 0)).length=p.prods.length)/\False/\True)/\False/\True)/\(bB p p)/\(qG p c)/\(bC p p)/\False)/\((y.e==999)=false->((p.rng.lo=p.rng.lo/\p.rng.hi=p.rng.hi/\p.epoch=p.epoch/\p.frozen=p.frozen/\(0=0/\p.recs.length=p.recs.length)/\(0=0/\(P.aF p.prods (P.bK c.prod c.seq false 0)).length=p.prods.length)/\False/\True)/\False/\True)/\(bB p p)/\(qG p c)/\(bC p p)/\False)))/\((P.aI p.prods (P.bK c.prod c.seq false 0)==0)=false->true=true/\True/\(Bp p c y)/\((P.aI p.prods (P.bK c.prod c.seq false 0) != 0)=false->((y.e==0)=true->((p.rng.lo=y.q.rng.lo/\p.rng.hi=y.q.rng.hi/\p.epoch=y.q.epoch/\p.frozen=y.q.frozen/\(0=0/\p.recs.length=y.q.recs.length)/\False/\False/\True)/\True/\True)/\(bB p y.q)/\(bH p y.q)/\(bC p y.q)/\True)/\((y.e==0)=false->((y.e==999)=true->((p.rng.lo=p.rng.lo/\p.rng.hi=p.rng.hi/\p.epoch=p.epoch/\p.frozen=p.frozen/\(0=0/\p.recs.length=p.recs.length)/\False/\False/\True)/\False/\True)/\(bB p p)/\(bH p p)/\(bC p p)/\False)/\((y.e==999)=false->((p.rng.lo=p.rng.lo/\p.rng.hi=p.rng.hi/\p.epoch=p.epoch/\p.frozen=p.frozen/\(0=0/\p.recs.length=p.recs.length)/\False/\False/\True)/\False/\True)/\(bB p p)/\(bH p p)/\(bC p p)/\False))))))))
theorem Sk (p:Part) (c:cB) (y:Pw):(jR Tryz.prog (agI p c) 105 [Ct p,.agg (bS c)] (vH p) (cmW p c y))=aa6 p c y:=by kernel_rfl
def frW (p:Part) (c:cB) (by':Int):T An:=.ite (yF p c) (.ret (.tup [Ct p,.s (.bool false),JD],vH p++QF c 164,yH)) (.ret (.tup [Ct (Ho p by'),.y (.bool (p.frozen==by')),.s .nilIface],ptG (Ho p by'),yH))
def aaL (p:Part) (c:cB) (by':Int):Prop :=
 ((p.frozen != 0)=true->((p.frozen != c.plan)=true->(yF p c=true->((dw p p)/\false=false/\(0=0/\0=0)/\True)/\(bB p p)/\(bH p p)/\(bC p p)/\(c.kind=c.kind/\(164:Int)=164/\True)/\True)/\(yF p c=false->((p.rng.lo=p.rng.lo/\p.rng.hi=p.rng.hi/\p.epoch=p.epoch/\p.frozen=by'/\(0=0/\p.recs.length=p.recs.length)/\(0=0/\p.prods.length=p.prods.length)/\(0=0/\p.cons.length=p.cons.length)/\True)/\false=(p.frozen==by')/\False/\True)/\(bB p p)/\(bH p p)/\(bC p p)/\True))/\((p.frozen != c.plan)=false->(yF p c=true->((p.rng.lo=p.rng.lo/\p.rng.hi=p.rng.hi/\p.epoch=p.epoch/\by'=p.frozen/\(0=0/\p.recs.length=p.recs.length)/\(0=0/\p.prods.length=p.prods.length)/\(0=0/\p.cons.length=p.cons.length)/\True)/\(p.frozen==by')=false/\False/\True)/\(bB p p)/\(bH p p)/\(bC p p)/\False)/\(yF p c=false->((p.rng.lo=p.rng.lo/\p.rng.hi=p.rng.hi/\p.epoch=p.epoch/\by'=by'/\(0=0/\p.recs.length=p.recs.length)/\(0=0/\p.prods.length=p.prods.length)/\(0=0/\p.cons.length=p.cons.length)/\True)/\(p.frozen==by')=(p.frozen==by')/\True/\True)/\(bB p p)/\(bH p p)/\(bC p p)/\True)))/\((p.frozen != 0)=false->(yF p c=true->((p.rng.lo=p.rng.lo/\p.rng.hi=p.rng.hi/\p.epoch=p.epoch/\by'=p.frozen/\(0=0/\p.recs.length=p.recs.length)/\(0=0/\p.prods.length=p.prods.length)/\(0=0/\p.cons.length=p.cons.length)/\True)/\(p.frozen==by')=false/\False/\True)/\(bB p p)/\(bH p p)/\(bC p p)/\False)/\(yF p c=false->((p.rng.lo=p.rng.lo/\p.rng.hi=p.rng.hi/\p.epoch=p.epoch/\by'=by'/\(0=0/\p.recs.length=p.recs.length)/\(0=0/\p.prods.length=p.prods.length)/\(0=0/\p.cons.length=p.cons.length)/\True)/\(p.frozen==by')=(p.frozen==by')/\True/\True)/\(bB p p)/\(bH p p)/\(bC p p)/\True))
theorem Ut (p:Part) (c:cB) (by':Int):(jR Tryz.prog (hT _) 106 [Ct p,.agg (bS c),.y (.int .u64 by')] (vH p) (frW p c by'))=aaL p c by':=by kernel_rfl
theorem FL (l:List Rec) (x:Rec):xV l x=kJ l x:=by
 unfold xV kJ
 cases bG l<;>simp
theorem Wp {l:List Rec} {x:Rec} (h:kJ l x=0):jO l x=ig l x:=by
 unfold jO ig
 rw [FL,if_pos h]
theorem Yl {l:List Rec} {x:Rec} (h:kJ l x=0):F9 l x=l.length:=by
 have hk:xV l x=0:=by rw [FL];exact h
 obtain ⟨_,_,h3⟩:=NJ hk
 unfold F9
 rw [if_pos hk,wrap_u64 (by omega) (by omega)]
theorem tRw (l:List Rec):∀ (k:Nat),k<l.length->(∀ (q:Nat),q<(l.getD k default).val.length->∀ (j:Nat),j<1->fC (ah aJ (l.getD k default).val q j)=true):=fun k _ q _ j hj=>by
 obtain rfl:j=0:=by omega
 rfl
def Jc (p:Part) (c:cB):Int:=if tq p c=0 then (p.recs.length:Int) else if tq p c=999 then P.dZ p.prods c.prod c.seq else 0
theorem afv (p:Part) (c:cB) (h:eH p):(prW p c ⟨Rk p c,Jc p c,tq p c⟩).Sat (aB Tryz.prog 103 [Ct p,.agg (bS c)] (vH p)):=by
 refine jm (ht:=agO p c) Tryz.mixed rfl ?_
 rw [VY p c ⟨Rk p c,Jc p c,tq p c⟩]
 unfold abz zS zI nU nS mG Bo q8
 dsimp only
 have h1:=h.rl
 have h2:=h.pl
 have e1:P.aI p.prods (P.bK c.prod c.seq true p.recs.length)=P.aI p.prods (nN p c):=rfl
 have e2:P.aF p.prods (P.bK c.prod c.seq true p.recs.length)=P.aF p.prods (nN p c):=rfl
 have t1:=tRw (jO p.recs (newR c))
 have t2:=tPs (P.aF p.prods (nN p c))
 have hr:=lM p
 have hw:=lK p
 have hp:=lN p
 have ho:=lT p
 have q1:p.prods.length<=9223372036854775806:=by omega
 have q2:p.recs.length<=9223372036854775806:=by omega
 rw [e1,e2]
 unfold Jc tq
 rw [FL]
 simp only [rowAt_zero,nG,aG]
 cases c1:fZ p.rng c.key
 · simp [hr,hw,hp,ho]
 · by_cases c2:P.aS p.prods c.prod c.seq=2
   · simp [c2,q1,hr,hw,hp,ho]
   · by_cases c3:P.aS p.prods c.prod c.seq=3
     · simp [c3,q1,hr,hw,hp,ho]
     · by_cases c4:p.frozen=0
       · by_cases c5:kJ p.recs (newR c)=0
         · have c8:=Wp c5
           have c9:=Yl c5
           rw [c8] at t1
           simp only [c8,c9]
           by_cases c6:P.aI p.prods (nN p c)=0
           · have ho':bC p (Rk p c):=ho
             simp [c2,c3,c4,c5,c6,q1,q2,hr,hw,hp,ho']
             refine ⟨fun k _ q _=>rfl,t2,⟨rfl,rfl,rfl,c4.symm,rfl,rfl,rfl⟩,⟨rfl,fun k _=>⟨rfl,rfl,⟨rfl,aG _ _ _⟩,rfl,rfl⟩⟩,rfl,aG _ _ _⟩
           · by_cases c7:P.aI p.prods (nN p c)=999
             · exact absurd c7 (wI _ _)
             · simp [c2,c3,c4,c5,c6,c7,q1,q2,hr,hw,hp,ho]
               exact fun k _ q _=>rfl
         · by_cases c7:kJ p.recs (newR c)=999
           · exact absurd c7 (MI _ _)
           · simp [c2,c3,c4,c5,c7,q1,q2,hr,hw,hp,ho]
             exact fun k _ q _=>rfl
       · simp [c2,c3,c4,q1,hr,hw,hp,ho]
theorem afl (p:Part) (c:cB) (h:eH p):(cmW p c ⟨Vq p c,0,vP p c⟩).Sat (aB Tryz.prog 105 [Ct p,.agg (bS c)] (vH p)):=by
 refine jm (ht:=agI p c) Tryz.mixed rfl ?_
 rw [Sk p c ⟨Vq p c,0,vP p c⟩]
 unfold aa6 BI vo rC qG Bp wF
 dsimp only
 have h1:=h.rl
 have h2:=h.pl
 have h3:=h.cl
 have e1:P.aI p.prods (P.bK c.prod c.seq false 0)=P.aI p.prods (nH c):=rfl
 have e2:P.aF p.prods (P.bK c.prod c.seq false 0)=P.aF p.prods (nH c):=rfl
 have e3:dH p.cons ⟨c.name,c.off⟩ (IntKind.u64.wrap (p.recs.length:Nat))=rP p c:=rfl
 have t2:=tPs (P.aF p.prods (nH c))
 have t3:=tCs (aF p.cons ⟨c.name,c.off⟩)
 have hr:=lM p
 have hw:=lK p
 have hp:=lN p
 have ho:=lT p
 have q1:p.prods.length<=9223372036854775806:=by omega
 have q2:p.recs.length<=9223372036854775806:=by omega
 have q3:p.cons.length<=9223372036854775806:=by omega
 rw [e1,e2,e3]
 unfold vP
 simp only [rowAt_zero,nG,aG]
 by_cases c2:P.aS p.prods c.prod c.seq=1
 · by_cases c4:p.frozen=0
   · by_cases c5:rP p c=0
     · by_cases c6:P.aI p.prods (nH c)=0
       · have hw':bB p (Vq p c):=hw
         simp [c2,c4,c5,c6,q1,q3,hr,hw,hp,ho,hw']
         exact ⟨t3,t2,⟨rfl,rfl,rfl,c4.symm,rfl,rfl,rfl⟩,⟨rfl,aG _ _ _⟩,rfl,aG _ _ _⟩
       · by_cases c7:P.aI p.prods (nH c)=999
         · exact absurd c7 (wI _ _)
         · simp [c2,c4,c5,c6,c7,q1,q3,hr,hw,hp,ho]
           exact t3
     · by_cases c7:rP p c=999
       · exact absurd c7 (LC _ _ _)
       · simp [c2,c4,c5,c7,q1,q3,hr,hw,hp,ho]
   · simp [c2,c4,q1,hr,hw,hp,ho]
 · simp [c2,q1,hr,hw,hp,ho]
theorem afN (p:Part) (c:cB) (by':Int):(frW p c by').Sat (aB Tryz.prog 106 [Ct p,.agg (bS c),.y (.int .u64 by')] (vH p)):=by
 refine jm (ht:=hT _) Tryz.mixed rfl ?_
 rw [Ut p c by']
 unfold aaL yF
 have hr:=lM p
 have hw:=lK p
 have hp:=lN p
 have ho:=lT p
 have hw':bB p (Ho p by'):=hw
 have hp':bH p (Ho p by'):=hp
 have ho':bC p (Ho p by'):=ho
 by_cases c1:p.frozen=0
 · simp [c1,hr,hw,hp,ho,hw',hp',ho']
 · by_cases c2:p.frozen=c.plan
   · simp [c1,c2,hr,hw,hp,ho,hw',hp',ho']
   · simp [c1,c2,hr,hw,hp,ho]
noncomputable def aiR (p:Part) (c:cB):eu Tryz.prog:=⟨103,[Ct p,.agg (bS c)],vH p,.need (eH p) (prW p c ⟨Rk p c,Jc p c,tq p c⟩),T.Sat.need fun h=>afv p c h⟩
noncomputable def ah5 (p:Part) (c:cB):eu Tryz.prog:=⟨105,[Ct p,.agg (bS c)],vH p,.need (eH p) (cmW p c ⟨Vq p c,0,vP p c⟩),T.Sat.need fun h=>afl p c h⟩
noncomputable def agH (p:Part) (c:cB) (by':Int):eu Tryz.prog:=⟨106,[Ct p,.agg (bS c),.y (.int .u64 by')],vH p,frW p c by',afN p c by'⟩
structure Aw where
 (q:Part) (x:mV) (e:Int) (r:List Rec)
def jU (p:Part) (c:cB):Bool:=(c.kind==2)&&(p.frozen==0)
def Bt (x:mV):List AV:=[.y (.int .i64 x.err),.y (.int .u64 x.off),.y (.bool x.old),.s (.slice none 0 0)]
def Mi (x:mV) (r:List Rec) (d:Nat):List AV:=[.y (.int .i64 x.err),.y (.int .u64 x.off),.y (.bool x.old),.own d 5 0 r.length]
def af4:AV:=.ifc 184 (.ptr 10 0 0 0)
def pt7 (p:Part):AV:=.agg (Yv p 7 8 9)
def XI (p:Part):List ay:=[.dead,.dead,.dead,.dead,.dead,.dead,.dead,wU p.recs,Jq p.prods,FH p.cons]
def sh7:List Nat:=[0,1,2,3,100,101,102,4,5,6,7,8]
def ae4:AV:=.ifc 184 (.ptr 11 0 0 0)
def acW (p:Part) (c:cB) (y:Aw):T An:=.ite (jU p c)
 (.ite (y.e==0) (.ret (.tup [pt7 y.q,.agg (Mi y.x y.r 10),.s .nilIface],XI y.q++[wU y.r],yH))
   (.ret (.tup [pt7 y.q,.agg (Mi y.x y.r 10),ae4],XI y.q++(wU y.r::QF c y.e),yH)))
 (.ite (y.e==0) (.ret (.tup [pt7 y.q,.agg (Bt y.x),.s .nilIface],XI y.q,yH))
   (.ret (.tup [pt7 y.q,.agg (Bt y.x),af4],XI y.q++QF c y.e,yH)))
noncomputable def aeV (p:Part) (c:cB):aC Tryz.prog:=nk (dO (hh _ bO (cs1 40 6 2 (aiR p c) (cs1 40 11 2 (ah5 p c) (cs1 40 16 4 (agH p c c.plan) (cs1 40 19 2 (agH p c 0) (cs1 40 25 4 (rdC false p.cons c.name) (cs1 40 27 6 (ai8 false p.recs c.off c.most) bM)))))) bL) noSh) [103,105,106]
def pW (p:Part) (c:cB) (y:Aw):Prop:=((ig p.recs (newR c)).length=y.q.recs.length/\∀ k,k<(ig p.recs (newR c)).length->((ig p.recs (newR c)).getD k default).off=(y.q.recs.getD k default).off/\((ig p.recs (newR c)).getD k default).key=(y.q.recs.getD k default).key/\(((ig p.recs (newR c)).getD k default).val.length=(y.q.recs.getD k default).val.length/\aj ((ig p.recs (newR c)).getD k default).val.length 1 (ah aJ ((ig p.recs (newR c)).getD k default).val) (ah aJ (y.q.recs.getD k default).val))/\((ig p.recs (newR c)).getD k default).prod=(y.q.recs.getD k default).prod/\((ig p.recs (newR c)).getD k default).seq=(y.q.recs.getD k default).seq/\True)
def rU (p:Part) (c:cB) (y:Aw):Prop:=((jQ p.recs c.off c.most).length=y.r.length/\∀ k,k<(jQ p.recs c.off c.most).length->((jQ p.recs c.off c.most).getD k default).off=(y.r.getD k default).off/\((jQ p.recs c.off c.most).getD k default).key=(y.r.getD k default).key/\(((jQ p.recs c.off c.most).getD k default).val.length=(y.r.getD k default).val.length/\aj ((jQ p.recs c.off c.most).getD k default).val.length 1 (ah aJ ((jQ p.recs c.off c.most).getD k default).val) (ah aJ (y.r.getD k default).val))/\((jQ p.recs c.off c.most).getD k default).prod=(y.r.getD k default).prod/\((jQ p.recs c.off c.most).getD k default).seq=(y.r.getD k default).seq/\True)
def rV (p:Part) (c:cB) (y:Aw):Prop:=(p.rng.lo=y.q.rng.lo/\p.rng.hi=y.q.rng.hi/\p.epoch=y.q.epoch/\p.frozen=y.q.frozen/\(0=0/\p.recs.length=y.q.recs.length)/\(0=0/\(P.aF p.prods (nH c)).length=y.q.prods.length)/\(0=0/\(aF p.cons { name:=c.name,off:=c.off:Con }).length=y.q.cons.length)/\True)
def rQ (p:Part) (c:cB) (y:Aw):Prop:=(p.rng.lo=y.q.rng.lo/\p.rng.hi=y.q.rng.hi/\p.epoch=y.q.epoch/\p.frozen=y.q.frozen/\(0=0/\(ig p.recs (newR c)).length=y.q.recs.length)/\(0=0/\(P.aF p.prods (nN p c)).length=y.q.prods.length)/\(0=0/\p.cons.length=y.q.cons.length)/\True)
def vU (p:Part) (c:cB) (y:Aw):Prop:=(jU p c=false->((y.e==0)=true->((dw p y.q)/\(0=y.x.err/\0=y.x.off/\false=y.x.old/\True/\True)/\False/\True)/\(bB p y.q)/\(bH p y.q)/\(bC p y.q)/\True)/\((y.e==0)=false->((dw p y.q)/\(0=y.x.err/\0=y.x.off/\false=y.x.old/\True/\True)/\(0=0/\0=0)/\True)/\(bB p y.q)/\(bH p y.q)/\(bC p y.q)/\(c.kind=c.kind/\164=y.e/\True)/\True))
def rO (p:Part) (y:Aw):Prop:=(p.rng.lo=y.q.rng.lo/\p.rng.hi=y.q.rng.hi/\p.epoch=y.q.epoch/\0=y.q.frozen/\(0=0/\p.recs.length=y.q.recs.length)/\(0=0/\p.prods.length=y.q.prods.length)/\(0=0/\p.cons.length=y.q.cons.length)/\True)
def rF (p:Part) (c:cB) (y:Aw):Prop:=(p.rng.lo=y.q.rng.lo/\p.rng.hi=y.q.rng.hi/\p.epoch=y.q.epoch/\c.plan=y.q.frozen/\(0=0/\p.recs.length=y.q.recs.length)/\(0=0/\p.prods.length=y.q.prods.length)/\(0=0/\p.cons.length=y.q.cons.length)/\True)
def vV (p:Part) (c:cB) (y:Aw):Prop:=(jU p c=true->((y.e==0)=true->((dw p y.q)/\(0=y.x.err/\0=y.x.off/\false=y.x.old/\False/\True)/\False/\True)/\(bB p y.q)/\(bH p y.q)/\(bC p y.q)/\False/\True)/\((y.e==0)=false->((dw p y.q)/\(0=y.x.err/\0=y.x.off/\false=y.x.old/\False/\True)/\False/\True)/\(bB p y.q)/\(bH p y.q)/\(bC p y.q)/\False/\False/\True))
def qy (p:Part) (c:cB) (y:Aw):Prop:=((aF p.cons { name:=c.name,off:=c.off:Con }).length=y.q.cons.length/\aj (aF p.cons { name:=c.name,off:=c.off:Con }).length 2 (ah aD (aF p.cons { name:=c.name,off:=c.off:Con })) (ah aD y.q.cons))
def oG (p:Part) (c:cB) (y:Aw):Prop:=(0=y.x.err/\IntKind.u64.wrap (c.off+IntKind.u64.wrap ((jQ p.recs c.off c.most).length:Int))=y.x.off/\false=y.x.old/\(0=0/\(jQ p.recs c.off c.most).length=y.r.length)/\True)
def oF (p:Part) (c:cB) (y:Aw):Prop:=((P.aF p.prods (nN p c)).length=y.q.prods.length/\aj (P.aF p.prods (nN p c)).length 4 (ah P.ak (P.aF p.prods (nN p c))) (ah P.ak y.q.prods))
def oh (p:Part) (c:cB) (y:Aw):Prop:=((P.aF p.prods (nH c)).length=y.q.prods.length/\aj (P.aF p.prods (nH c)).length 4 (ah P.ak (P.aF p.prods (nH c))) (ah P.ak y.q.prods))
def nT (p:Part) (c:cB) (y:Aw):Prop:=(0=y.x.err/\IntKind.u64.wrap (c.off+IntKind.u64.wrap ((jQ p.recs c.off c.most).length:Int))=y.x.off/\false=y.x.old/\False/\True)
def abq (p:Part) (c:cB) (y:Aw):Prop :=
 ((c.kind==1)=true->((dw p p)/\(R.sU c c)/\True)/\((bB p p)/\(bH p p)/\(bC p p)/\True)/\eH p/\((tq p c==0)=true->(jU p c=true->((y.e==0)=true->((rQ p c y)/\(0=y.x.err/\Jc p c=y.x.off/\false=y.x.old/\False/\True)/\True/\True)/\(pW p c y)/\(oF p c y)/\(bC p y.q)/\False/\True)/\((y.e==0)=false->((rQ p c y)/\(0=y.x.err/\Jc p c=y.x.off/\false=y.x.old/\False/\True)/\False/\True)/\(pW p c y)/\(oF p c y)/\(bC p y.q)/\False/\False/\True))/\(jU p c=false->((y.e==0)=true->((rQ p c y)/\(0=y.x.err/\Jc p c=y.x.off/\false=y.x.old/\True/\True)/\True/\True)/\(pW p c y)/\(oF p c y)/\(bC p y.q)/\True)/\((y.e==0)=false->((rQ p c y)/\(0=y.x.err/\Jc p c=y.x.off/\false=y.x.old/\True/\True)/\False/\True)/\(pW p c y)/\(oF p c y)/\(bC p y.q)/\False/\True)))/\((tq p c==0)=false->((tq p c==999)=true->true=true/\True/\(jU p c=true->((y.e==0)=true->((dw p y.q)/\(0=y.x.err/\Jc p c=y.x.off/\true=y.x.old/\False/\True)/\True/\True)/\(bB p y.q)/\(bH p y.q)/\(bC p y.q)/\False/\True)/\((y.e==0)=false->((dw p y.q)/\(0=y.x.err/\Jc p c=y.x.off/\true=y.x.old/\False/\True)/\False/\True)/\(bB p y.q)/\(bH p y.q)/\(bC p y.q)/\False/\False/\True))/\(jU p c=false->((y.e==0)=true->((dw p y.q)/\(0=y.x.err/\Jc p c=y.x.off/\true=y.x.old/\True/\True)/\True/\True)/\(bB p y.q)/\(bH p y.q)/\(bC p y.q)/\True)/\((y.e==0)=false->((dw p y.q)/\(0=y.x.err/\Jc p c=y.x.off/\true=y.x.old/\True/\True)/\False/\True)/\(bB p y.q)/\(bH p y.q)/\(bC p y.q)/\False/\True)))/\((tq p c==999)=false->true=true/\True/\(jU p c=true->((y.e==0)=true->((dw p y.q)/\(0=y.x.err/\Jc p c=y.x.off/\false=y.x.old/\False/\True)/\False/\True)/\(bB p y.q)/\(bH p y.q)/\(bC p y.q)/\False/\True)/\((y.e==0)=false->((dw p y.q)/\(0=y.x.err/\Jc p c=y.x.off/\false=y.x.old/\False/\True)/\False/\True)/\(bB p y.q)/\(bH p y.q)/\(bC p y.q)/\False/\False/\True))/\(jU p c=false->((y.e==0)=true->((dw p y.q)/\(0=y.x.err/\Jc p c=y.x.off/\false=y.x.old/\True/\True)/\False/\True)/\(bB p y.q)/\(bH p y.q)/\(bC p y.q)/\True)/\((y.e==0)=false->((dw p y.q)/\(0=y.x.err/\Jc p c=y.x.off/\false=y.x.old/\True/\True)/\(0=0/\0=0)/\True)/\(bB p y.q)/\(bH p y.q)/\(bC p y.q)/\(c.kind=c.kind/\tq p c=y.e/\True)/\True)))))/\((c.kind==1)=false->((c.kind==3)=true->((dw p p)/\(R.sU c c)/\True)/\((bB p p)/\(bH p p)/\(bC p p)/\True)/\eH p/\((vP p c==0)=true->(jU p c=true->((y.e==0)=true->((rV p c y)/\(0=y.x.err/\c.off=y.x.off/\false=y.x.old/\False/\True)/\True/\True)/\(bB p y.q)/\(oh p c y)/\(qy p c y)/\False/\True)/\((y.e==0)=false->((rV p c y)/\(0=y.x.err/\c.off=y.x.off/\false=y.x.old/\False/\True)/\False/\True)/\(bB p y.q)/\(oh p c y)/\(qy p c y)/\False/\False/\True))/\(jU p c=false->((y.e==0)=true->((rV p c y)/\(0=y.x.err/\c.off=y.x.off/\false=y.x.old/\True/\True)/\True/\True)/\(bB p y.q)/\(oh p c y)/\(qy p c y)/\True)/\((y.e==0)=false->((rV p c y)/\(0=y.x.err/\c.off=y.x.off/\false=y.x.old/\True/\True)/\False/\True)/\(bB p y.q)/\(oh p c y)/\(qy p c y)/\False/\True)))/\((vP p c==0)=false->((vP p c==999)=true->true=true/\True/\(jU p c=true->((y.e==0)=true->((dw p y.q)/\(0=y.x.err/\0=y.x.off/\true=y.x.old/\False/\True)/\True/\True)/\(bB p y.q)/\(bH p y.q)/\(bC p y.q)/\False/\True)/\((y.e==0)=false->((dw p y.q)/\(0=y.x.err/\0=y.x.off/\true=y.x.old/\False/\True)/\False/\True)/\(bB p y.q)/\(bH p y.q)/\(bC p y.q)/\False/\False/\True))/\(jU p c=false->((y.e==0)=true->((dw p y.q)/\(0=y.x.err/\0=y.x.off/\true=y.x.old/\True/\True)/\True/\True)/\(bB p y.q)/\(bH p y.q)/\(bC p y.q)/\True)/\((y.e==0)=false->((dw p y.q)/\(0=y.x.err/\0=y.x.off/\true=y.x.old/\True/\True)/\False/\True)/\(bB p y.q)/\(bH p y.q)/\(bC p y.q)/\False/\True)))/\((vP p c==999)=false->true=true/\True/\(jU p c=true->((y.e==0)=true->((dw p y.q)/\(0=y.x.err/\c.off=y.x.off/\false=y.x.old/\False/\True)/\False/\True)/\(bB p y.q)/\(bH p y.q)/\(bC p y.q)/\False/\True)/\((y.e==0)=false->((dw p y.q)/\(0=y.x.err/\c.off=y.x.off/\false=y.x.old/\False/\True)/\False/\True)/\(bB p y.q)/\(bH p y.q)/\(bC p y.q)/\False/\False/\True))/\(jU p c=false->((y.e==0)=true->((dw p y.q)/\(0=y.x.err/\c.off=y.x.off/\false=y.x.old/\True/\True)/\False/\True)/\(bB p y.q)/\(bH p y.q)/\(bC p y.q)/\True)/\((y.e==0)=false->((dw p y.q)/\(0=y.x.err/\c.off=y.x.off/\false=y.x.old/\True/\True)/\(0=0/\0=0)/\True)/\(bB p y.q)/\(bH p y.q)/\(bC p y.q)/\(c.kind=c.kind/\vP p c=y.e/\True)/\True)))))/\((c.kind==3)=false->((c.kind==5)=true->((dw p p)/\(R.sU c c)/\c.plan=c.plan/\True)/\((bB p p)/\(bH p p)/\(bC p p)/\True)/\(yF p c=true->(vV p c y)/\(vU p c y))/\(yF p c=false->(jU p c=true->((y.e==0)=true->((rF p c y)/\(0=y.x.err/\0=y.x.off/\(p.frozen==c.plan)=y.x.old/\False/\True)/\True/\True)/\(bB p y.q)/\(bH p y.q)/\(bC p y.q)/\False/\True)/\((y.e==0)=false->((rF p c y)/\(0=y.x.err/\0=y.x.off/\(p.frozen==c.plan)=y.x.old/\False/\True)/\False/\True)/\(bB p y.q)/\(bH p y.q)/\(bC p y.q)/\False/\False/\True))/\(jU p c=false->((y.e==0)=true->((rF p c y)/\(0=y.x.err/\0=y.x.off/\(p.frozen==c.plan)=y.x.old/\True/\True)/\True/\True)/\(bB p y.q)/\(bH p y.q)/\(bC p y.q)/\True)/\((y.e==0)=false->((rF p c y)/\(0=y.x.err/\0=y.x.off/\(p.frozen==c.plan)=y.x.old/\True/\True)/\False/\True)/\(bB p y.q)/\(bH p y.q)/\(bC p y.q)/\False/\True))))/\((c.kind==5)=false->((c.kind==6)=true->((dw p p)/\(R.sU c c)/\(0:Int)=0/\True)/\((bB p p)/\(bH p p)/\(bC p p)/\True)/\(yF p c=true->(vV p c y)/\(vU p c y))/\(yF p c=false->(jU p c=true->((y.e==0)=true->((rO p y)/\(0=y.x.err/\0=y.x.off/\(p.frozen==0)=y.x.old/\False/\True)/\True/\True)/\(bB p y.q)/\(bH p y.q)/\(bC p y.q)/\False/\True)/\((y.e==0)=false->((rO p y)/\(0=y.x.err/\0=y.x.off/\(p.frozen==0)=y.x.old/\False/\True)/\False/\True)/\(bB p y.q)/\(bH p y.q)/\(bC p y.q)/\False/\False/\True))/\(jU p c=false->((y.e==0)=true->((rO p y)/\(0=y.x.err/\0=y.x.off/\(p.frozen==0)=y.x.old/\True/\True)/\True/\True)/\(bB p y.q)/\(bH p y.q)/\(bC p y.q)/\True)/\((y.e==0)=false->((rO p y)/\(0=y.x.err/\0=y.x.off/\(p.frozen==0)=y.x.old/\True/\True)/\False/\True)/\(bB p y.q)/\(bH p y.q)/\(bC p y.q)/\False/\True))))/\((c.kind==6)=false->((p.frozen != 0)=true->(vV p c y)/\(vU p c y))/\((p.frozen != 0)=false->((c.kind==4)=true->((false=false/\p.cons.length=p.cons.length/\aj p.cons.length 2 (Ax.rowAt 0 (ah aD p.cons)) (ah aD p.cons))/\c.name=c.name/\True)/\True/\p.cons.length<=9223372036854775806/\true=true/\True/\(jU p c=true->((y.e==0)=true->((dw p y.q)/\(0=y.x.err/\gX p.cons c.name=y.x.off/\jL p.cons c.name=y.x.old/\False/\True)/\True/\True)/\(bB p y.q)/\(bH p y.q)/\(bC p y.q)/\False/\True)/\((y.e==0)=false->((dw p y.q)/\(0=y.x.err/\gX p.cons c.name=y.x.off/\jL p.cons c.name=y.x.old/\False/\True)/\False/\True)/\(bB p y.q)/\(bH p y.q)/\(bC p y.q)/\False/\False/\True))/\(jU p c=false->((y.e==0)=true->((dw p y.q)/\(0=y.x.err/\gX p.cons c.name=y.x.off/\jL p.cons c.name=y.x.old/\True/\True)/\True/\True)/\(bB p y.q)/\(bH p y.q)/\(bC p y.q)/\True)/\((y.e==0)=false->((dw p y.q)/\(0=y.x.err/\gX p.cons c.name=y.x.off/\jL p.cons c.name=y.x.old/\True/\True)/\False/\True)/\(bB p y.q)/\(bH p y.q)/\(bC p y.q)/\False/\True)))/\((c.kind==4)=false->((c.kind==2)=true->((false=false/\p.recs.length=p.recs.length/\aj p.recs.length 5 (Ax.rowAt 0 fun (k j:Nat)=>PU (K5 p.recs k j)) (ah fI p.recs))/\c.off=c.off/\c.most=c.most/\True)/\True/\(p.recs.length<=9223372036854775806/\0<=c.off/\c.off<=18446744073709551615)/\true=true/\((True/\∀ k,k<(jQ p.recs c.off c.most).length->true=true/\true=true/\(∀ k_1,k_1<((jQ p.recs c.off c.most).getD k default).val.length->∀ j,j<1->fC (ah aJ ((jQ p.recs c.off c.most).getD k default).val k_1 j)=true)/\true=true/\true=true/\True)/\True)/\((DU p.recs c.off==0)=true->(jU p c=true->((y.e==0)=true->((dw p y.q)/\(oG p c y)/\True/\True)/\(bB p y.q)/\(bH p y.q)/\(bC p y.q)/\(rU p c y)/\True)/\((y.e==0)=false->((dw p y.q)/\(oG p c y)/\False/\True)/\(bB p y.q)/\(bH p y.q)/\(bC p y.q)/\(rU p c y)/\False/\True))/\(jU p c=false->((y.e==0)=true->((dw p y.q)/\(nT p c y)/\True/\True)/\(bB p y.q)/\(bH p y.q)/\(bC p y.q)/\True)/\((y.e==0)=false->((dw p y.q)/\(nT p c y)/\False/\True)/\(bB p y.q)/\(bH p y.q)/\(bC p y.q)/\False/\True)))/\((DU p.recs c.off==0)=false->(jU p c=true->((y.e==0)=true->((dw p y.q)/\(oG p c y)/\False/\True)/\(bB p y.q)/\(bH p y.q)/\(bC p y.q)/\(rU p c y)/\True)/\((y.e==0)=false->((dw p y.q)/\(oG p c y)/\(0=0/\0=0)/\True)/\(bB p y.q)/\(bH p y.q)/\(bC p y.q)/\(rU p c y)/\(c.kind=c.kind/\DU p.recs c.off=y.e/\True)/\True))/\(jU p c=false->((y.e==0)=true->((dw p y.q)/\(nT p c y)/\False/\True)/\(bB p y.q)/\(bH p y.q)/\(bC p y.q)/\True)/\((y.e==0)=false->((dw p y.q)/\(nT p c y)/\False/\True)/\(bB p y.q)/\(bH p y.q)/\(bC p y.q)/\False/\True))))/\((c.kind==2)=false->(jU p c=true->((y.e==0)=true->((dw p y.q)/\(0=y.x.err/\0=y.x.off/\false=y.x.old/\False/\True)/\True/\True)/\(bB p y.q)/\(bH p y.q)/\(bC p y.q)/\False/\True)/\((y.e==0)=false->((dw p y.q)/\(0=y.x.err/\0=y.x.off/\false=y.x.old/\False/\True)/\False/\True)/\(bB p y.q)/\(bH p y.q)/\(bC p y.q)/\False/\False/\True))/\(jU p c=false->((y.e==0)=true->((dw p y.q)/\(0=y.x.err/\0=y.x.off/\false=y.x.old/\True/\True)/\True/\True)/\(bB p y.q)/\(bH p y.q)/\(bC p y.q)/\True)/\((y.e==0)=false->((dw p y.q)/\(0=y.x.err/\0=y.x.off/\false=y.x.old/\True/\True)/\False/\True)/\(bB p y.q)/\(bH p y.q)/\(bC p y.q)/\False/\True)))))))))
theorem SC (p:Part) (c:cB) (y:Aw):(Q9 Tryz.prog (aeV p c) sh7 [4,5,6] 40 [Ct p,.agg (bS c)] (ptG p) (acW p c y))=abq p c y:=by kernel_rfl
theorem Kq (l:List Rec) (o:Int):DU l o=Ga l o:=by
 unfold DU Ga
 cases bG l<;>rfl
theorem ac_ {l:List Rec} {o m:Int} (h0:0<=o) (h1:o<=(l.length:Int)):PV l o m=Pz l.length o m:=by
 unfold PV Pz
 have e1:((l.length - o.toNat:Nat):Int)=(l.length:Int) - o:=by omega
 rw [e1]
 by_cases h1:(0:Int) > m
 · simp only [if_pos h1]
   have e2:max m 0=0:=by omega
   rw [e2]
   have e3:min (0:Int) 64=0:=rfl
   rw [e3]
   have e4:(if (64:Int)<0 then (64:Int) else 0)=0:=rfl
   simp only [e4]
   split<;>omega
 · simp only [if_neg h1]
   have e2:max m 0=m:=by omega
   rw [e2]
   split<;>split<;>omega
theorem ad6 {l:List Rec} {o m:Int} (h:Ga l o=0) (h0:0<=o):jQ l o m=uX l o m:=by
 have ho:o<=(l.length:Int):=by
  unfold Ga at h
  split at h
  · cases h
  · split at h
    · cases h
    · omega
 unfold jQ uX
 rw [Kq,if_pos h,ac_ h0 ho]
theorem ahq (p:Part) (c:cB) (h:eH p) (ho:0<=c.off/\c.off<18446744073709551616):(acW p c ⟨JC p c,qp p c,kT p c,(qp p c).recs⟩).Sat (aB Tryz.prog 40 [Ct p,.agg (bS c)] (ptG p)):=by
 refine ZK (ht:=aeV p c) (L:=sh7) (K:=[4,5,6]) Tryz.mixed rfl ?_
 rw [SC p c ⟨JC p c,qp p c,kT p c,(qp p c).recs⟩]
 unfold abq nT oh oF oG qy vV rF rO vU rQ rV rU pW
 dsimp only
 have h1:=h.rl
 have h3:=h.cl
 have hw:IntKind.u64.wrap c.off=c.off:=wrap_u64 ho.1 (by omega)
 have q2:p.recs.length<=9223372036854775806:=by omega
 have q3:p.cons.length<=9223372036854775806:=by omega
 have hr:=lM p
 have hws:=lK p
 have hp:=lN p
 have hos:=lT p
 have o1:0<=c.off:=ho.1
 have o2:c.off<=18446744073709551615:=by omega
 simp only [Kq]
 unfold JC qp kT un9 Lb Jc
 by_cases k1:c.kind=1
 · have hf:jU p c=false:=by simp [jU,k1]
   by_cases e0:tq p c=0
   · simp [k1,hf,e0,h,Rk,hr,hws,hp,hos]
     exact hos
   · by_cases e9:tq p c=999
     · simp [k1,hf,e9,h,hr,hws,hp,hos]
     · simp [k1,hf,e0,e9,h,hr,hws,hp,hos]
 · by_cases k3:c.kind=3
   · have hf:jU p c=false:=by simp [jU,k3]
     by_cases e0:vP p c=0
     · simp [k3,hf,e0,h,Vq,hr,hws,hp,hos]
       exact hws
     · by_cases e9:vP p c=999
       · simp [k3,hf,e9,h,hr,hws,hp,hos]
       · simp [k3,hf,e0,e9,h,hr,hws,hp,hos]
   · by_cases k5:c.kind=5
     · have hf:jU p c=false:=by simp [jU,k5]
       cases f:yF p c<;>simp [k5,hf,f,Ho,hr,hws,hp,hos]
       exact ⟨hws,hp,hos⟩
     · by_cases k6:c.kind=6
       · have hf:jU p c=false:=by simp [jU,k6]
         cases f:yF p c<;>simp [k6,hf,f,Ho,hr,hws,hp,hos]
         exact ⟨hws,hp,hos⟩
       · by_cases fz:p.frozen=0
         · by_cases k4:c.kind=4
           · have hf:jU p c=false:=by simp [jU,k4]
             simp [k4,hf,fz,q3,hr,hws,hp,hos]
           · by_cases k2:c.kind=2
             · have hf:jU p c=true:=by simp [jU,k2,fz]
               by_cases e0:Ga p.recs c.off=0
               · have t:=ad6 (m:=c.most) e0 ho.1
                 simp [k2,hf,fz,e0,t,q2,o1,o2,hw,hr,hws,hp,hos]
                 exact ⟨nG _ _,fun _ _ _ _=>rfl⟩
               · have t:jQ p.recs c.off c.most=[]:=by unfold jQ;rw [Kq,if_neg e0]
                 simp [k2,hf,fz,e0,t,q2,o1,o2,hw,hr,hws,hp,hos]
                 exact ⟨nG _ _,by rw [show IntKind.u64.wrap (0:Int)=0 from rfl,Int.add_zero,hw]⟩
             · have hf:jU p c=false:=by simp [jU,k2]
               simp [k1,k2,k3,k4,k5,k6,hf,fz,hr,hws,hp,hos]
         · have hf:jU p c=false:=by simp [jU,fz]
           simp [k1,k3,k5,k6,hf,fz,hr,hws,hp,hos]
structure AwR (p:Part) (c:cB) (y:Aw):Prop where
 s:(acW p c y).Sat (aB Tryz.prog 40 [Ct p,.agg (bS c)] (ptG p))
noncomputable def aik (p:Part) (c:cB) (y:Aw):eu Tryz.prog:=⟨40,[Ct p,.agg (bS c)],ptG p,.need (AwR p c y) (acW p c y),T.Sat.need fun h=>h.s⟩
noncomputable def pwC (b:Bool) (p:Part):eu Tryz.prog:=⟨39,[.agg (aX b p)],[],.need (qj p) (V6 p),T.Sat.need fun h=>ahZ b p h⟩
end N
namespace R
def Wm (p:Part) (c:cB) (q:Part) (e:Int):Part:=if aH p=false then default else if dU c=false∨c.epoch≠p.epoch∨e≠0 then p else q
def PX (p:Part) (c:cB) (x:mV) (e:Int):mV:=if aH p=false then ⟨165,0,false,[]⟩ else if dU c=false then ⟨161,0,false,[]⟩ else if c.epoch≠p.epoch then ⟨162,0,false,[]⟩ else if e≠0 then ⟨e,0,false,[]⟩ else x
def Sj (q:Part) (x:mV):T An:=.ret (.tup [.agg (aX true q),.agg (KT x)],[],[])
theorem Lm {p:Part} (h:aH p=true):p.recs.length<=4096/\p.prods.length<=256/\p.cons.length<=64:=by
 obtain ⟨_,_,a,b,c,_⟩:=D.AB h
 have h1:=ko a
 simp [P.bF] at b
 simp [bY] at c
 exact ⟨h1,b.2,c.2⟩
theorem aa1 {p:Part} (h:aH p=true):qj p:=by
 obtain ⟨h1,h2,h3⟩:=Lm h
 have h4:=El (D.AB h).2.2.1
 exact ⟨h1,h4.v,by omega,by omega⟩
def dQ (p:Part) (c:cB):Part:=Wm p c (JC p c) (kT p c)
def dX (p:Part) (c:cB):mV:=PX p c (qp p c) (kT p c)
end R
namespace N
open H Q R
def Ca (p:Part) (c:cB) (e:Int):Bool:=jU p c&&(dU c&&((c.epoch==p.epoch)&&(e==0)))
def acG (x:mV):T An:=.ret (.tup [.agg (aX true default),.agg (Bt x)],[],[])
def acT (q:Part) (x:mV):T An:=.ret (.tup [.agg (Yv q 0 1 2),.agg (Bt x)],ptM q,[])
def ab8 (q:Part) (x:mV) (r:List Rec):T An:=.ret (.tup [.agg (Yv q 0 1 2),.agg (Mi x r 3)],ptM q++[wU r],[])
def doW (p:Part) (c:cB) (e:Int) (z:Aw):T An:=.ite (aH p) (.ite (Ca p c e) (ab8 z.q z.x z.r) (acT z.q z.x)) (acG z.x)
noncomputable def afn (b:Bool) (p:Part) (c:cB) (y:Aw):aC Tryz.prog:=nk (hh _ bO (cs1 13 1 1 (pcC b p) (cs1 13 3 1 (weC c) (cs1 13 4 1 (pwC b p) (cs1 13 6 1 (pwC b p) (cs1 13 7 1 (pwC b p) (cs1 13 7 3 (aik p c y) (cs1 13 10 1 (pwC b p) bM))))))) bL) [41,113,40]
def abP (b:Bool) (p:Part) (c:cB) (y:Aw) (z:Aw):Prop :=
 ((bP b b p p)/\True)/\True/\eH p/\(aH p=true->((R.sU c c)/\True)/\True/\((!dU c)=true->((bP b b p p)/\True)/\True/\qj p/\(aH p=true->(Ca p c y.e=true->((dw p z.q)/\(161=z.x.err/\0=z.x.off/\false=z.x.old/\False/\True)/\True)/\(bB p z.q)/\(bH p z.q)/\(bC p z.q)/\False)/\(Ca p c y.e=false->((dw p z.q)/\(161=z.x.err/\0=z.x.off/\false=z.x.old/\True/\True)/\True)/\(bB p z.q)/\(bH p z.q)/\(bC p z.q)/\True))/\(aH p=false->False))/\((!dU c)=false->((c.epoch != p.epoch)=true->((bP b b p p)/\True)/\True/\qj p/\(aH p=true->(Ca p c y.e=true->((dw p z.q)/\(162=z.x.err/\0=z.x.off/\false=z.x.old/\False/\True)/\True)/\(bB p z.q)/\(bH p z.q)/\(bC p z.q)/\False)/\(Ca p c y.e=false->((dw p z.q)/\(162=z.x.err/\0=z.x.off/\false=z.x.old/\True/\True)/\True)/\(bB p z.q)/\(bH p z.q)/\(bC p z.q)/\True))/\(aH p=false->False))/\((c.epoch != p.epoch)=false->((bP b b p p)/\True)/\True/\qj p/\((dw p p)/\(R.sU c c)/\True)/\((bB p p)/\(bH p p)/\(bC p p)/\True)/\AwR p c y/\(jU p c=true->((y.e==0)=true->(aH p=true->(Ca p c y.e=true->((dw y.q z.q)/\(y.x.err=z.x.err/\y.x.off=z.x.off/\y.x.old=z.x.old/\(0=0/\y.r.length=z.r.length)/\True)/\True)/\(bB y.q z.q)/\(bH y.q z.q)/\(bC y.q z.q)/\(y.r.length=z.r.length/\∀ k,k<y.r.length->(y.r.getD k default).off=(z.r.getD k default).off/\(y.r.getD k default).key=(z.r.getD k default).key/\((y.r.getD k default).val.length=(z.r.getD k default).val.length/\aj (y.r.getD k default).val.length 1 (ah aJ (y.r.getD k default).val) (ah aJ (z.r.getD k default).val))/\(y.r.getD k default).prod=(z.r.getD k default).prod/\(y.r.getD k default).seq=(z.r.getD k default).seq/\True)/\True)/\(Ca p c y.e=false->False))/\(aH p=false->False))/\((y.e==0)=false->true=true/\True/\((bP b b p p)/\True)/\True/\qj p/\(aH p=true->(Ca p c y.e=true->((dw p z.q)/\(y.e=z.x.err/\0=z.x.off/\false=z.x.old/\False/\True)/\True)/\(bB p z.q)/\(bH p z.q)/\(bC p z.q)/\False)/\(Ca p c y.e=false->((dw p z.q)/\(y.e=z.x.err/\0=z.x.off/\false=z.x.old/\True/\True)/\True)/\(bB p z.q)/\(bH p z.q)/\(bC p z.q)/\True))/\(aH p=false->False)))/\(jU p c=false->((y.e==0)=true->(aH p=true->(Ca p c y.e=true->((dw y.q z.q)/\(y.x.err=z.x.err/\y.x.off=z.x.off/\y.x.old=z.x.old/\False/\True)/\True)/\(bB y.q z.q)/\(bH y.q z.q)/\(bC y.q z.q)/\False)/\(Ca p c y.e=false->((dw y.q z.q)/\(y.x.err=z.x.err/\y.x.off=z.x.off/\y.x.old=z.x.old/\True/\True)/\True)/\(bB y.q z.q)/\(bH y.q z.q)/\(bC y.q z.q)/\True))/\(aH p=false->False))/\((y.e==0)=false->true=true/\True/\((bP b b p p)/\True)/\True/\qj p/\(aH p=true->(Ca p c y.e=true->((dw p z.q)/\(y.e=z.x.err/\0=z.x.off/\false=z.x.old/\False/\True)/\True)/\(bB p z.q)/\(bH p z.q)/\(bC p z.q)/\False)/\(Ca p c y.e=false->((dw p z.q)/\(y.e=z.x.err/\0=z.x.off/\false=z.x.old/\True/\True)/\True)/\(bB p z.q)/\(bH p z.q)/\(bC p z.q)/\True))/\(aH p=false->False))))))/\(aH p=false->(aH p=true->(Ca p c y.e=true->(({ data:=#[]:ByteArray }=z.q.rng.lo/\{ data:=#[]:ByteArray }=z.q.rng.hi/\0=z.q.epoch/\0=z.q.frozen/\False/\False/\False/\True)/\(165=z.x.err/\0=z.x.off/\false=z.x.old/\False/\True)/\True)/\False)/\(Ca p c y.e=false->(({ data:=#[]:ByteArray }=z.q.rng.lo/\{ data:=#[]:ByteArray }=z.q.rng.hi/\0=z.q.epoch/\0=z.q.frozen/\False/\False/\False/\True)/\(165=z.x.err/\0=z.x.off/\false=z.x.old/\True/\True)/\True)/\False))/\(aH p=false->(({ data:=#[]:ByteArray }=ByteArray.empty/\{ data:=#[]:ByteArray }=ByteArray.empty/\(0:Int)=0/\(0:Int)=0/\0=0/\0=0/\0=0/\True)/\(165=z.x.err/\0=z.x.off/\false=z.x.old/\True/\True)/\True)/\True))
theorem SL (b:Bool) (p:Part) (c:cB) (y:Aw) (z:Aw):(bf Tryz.prog (afn b p c y) 13 [.agg (aX b p),.agg (bS c)] [] (doW p c y.e z))=abP b p c y z:=by kernel_rfl
theorem Ta (b:Bool) (p:Part) (c:cB) (h:eH p) (ho:0<=c.off/\c.off<18446744073709551616):(doW p c (kT p c) ⟨dQ p c,dX p c,0,(dX p c).recs⟩).Sat (aB Tryz.prog 13 [.agg (aX b p),.agg (bS c)] []):=by
 have ha:=ahq p c h ho
 unfold dQ dX
 have hfe:jU p c=true->kT p c=0->(qp p c).err=0:=fun h1 h2=>by
  unfold jU at h1
  simp at h1
  simp [qp,h1]
  split<;>rfl
 have hnf:jU p c=false->(qp p c).recs=[]:=fun h1=>by
  unfold jU at h1
  simp only [Bool.and_eq_false_iff,beq_eq_false_iff_ne] at h1
  unfold qp
  repeat' split
  all_goals first
   | rfl
   | (exfalso;simp_all)
 generalize JC p c=q at *
 generalize qp p c=x at *
 generalize kT p c=e at *
 refine aP (ht:=afn b p c ⟨q,x,e,x.recs⟩) Tryz.mixed rfl ?_
 rw [SL b p c ⟨q,x,e,x.recs⟩ ⟨Wm p c q e,PX p c x e,0,(PX p c x e).recs⟩]
 unfold abP
 dsimp only
 have hr:AwR p c ⟨q,x,e,x.recs⟩:=⟨ha⟩
 have eb:({ data:=#[] }:ByteArray)=ByteArray.empty:=rfl
 have f1:=lM p
 have f2:=lK p
 have f3:=lN p
 have f4:=lT p
 have g1:=lM q
 have g2:=lK q
 have g3:=lN q
 have g4:=lT q
 rw [eb]
 unfold Wm PX Ca
 cases k0:aH p
 · simp [h]
 · have hp:=aa1 k0
   cases k1:dU c
   · simp [h,hp,f1,f2,f3,f4]
   · by_cases k2:c.epoch=p.epoch
     · have k2':(c.epoch != p.epoch)=false:=by simp [k2]
       by_cases k3:e=0
       · subst k3
         cases k4:jU p c
         · have:=hnf k4
           simp [h,hp,k2',k2,k4,f1,f2,f3,f4,g1,g2,g3,g4,hr]
         · simp [h,hp,k2',k2,k4,f1,f2,f3,f4,g1,g2,g3,g4,hr]
       · cases k4:jU p c
         · simp [h,hp,k2',k2,k3,k4,f1,f2,f3,f4,g1,g2,g3,g4,hr]
         · simp [h,hp,k2',k2,k3,k4,f1,f2,f3,f4,g1,g2,g3,g4,hr]
     · have k2':(c.epoch != p.epoch)=true:=by simp [k2]
       simp [h,hp,k2,k2',f1,f2,f3,f4]
def mJ (p:Part) (c:cB):Nat:=match aH p with
 | false=>0
 | true=>(match Ca p c (kT p c) with | true=>2 | false=>1)
structure tX (p:Part) (c:cB) (q:Part) (x:mV) (r:List Rec) (k:Nat):Prop where
 q:q=dQ p c
 x:x=dX p c
 r:r=(dX p c).recs
 k:mJ p c=k
 i:eH p
 o:0<=c.off/\c.off<18446744073709551616
theorem afH (b:Bool) (p:Part) (c:cB) (q:Part) (x:mV) (r:List Rec) (h:tX p c q x r 0):(acG x).Sat (aB Tryz.prog 13 [.agg (aX b p),.agg (bS c)] []):=by
 obtain ⟨rfl,rfl,rfl,hk,hi,ho⟩:=h
 have:=Ta b p c hi ho
 unfold doW at this
 have k0:aH p=false:=by
  unfold mJ at hk
  split at hk
  · assumption
  · split at hk<;>cases hk
 rw [k0] at this
 intro Q hq
 exact this Q ⟨fun e=>(by cases e),fun _=>hq⟩
theorem aeP (b:Bool) (p:Part) (c:cB) (q:Part) (x:mV) (r:List Rec) (h:tX p c q x r 1):(acT q x).Sat (aB Tryz.prog 13 [.agg (aX b p),.agg (bS c)] []):=by
 obtain ⟨rfl,rfl,rfl,hk,hi,ho⟩:=h
 have:=Ta b p c hi ho
 unfold doW at this
 have k0:aH p=true/\Ca p c (kT p c)=false:=by
  unfold mJ at hk
  split at hk
  · cases hk
  · split at hk
    · cases hk
    · constructor<;>assumption
 rw [k0.1,k0.2] at this
 intro Q hq
 exact this Q ⟨fun _=>⟨fun e=>(by cases e),fun _=>hq⟩,fun e=>(by cases e)⟩
theorem ahy (b:Bool) (p:Part) (c:cB) (q:Part) (x:mV) (r:List Rec) (h:tX p c q x r 2):(ab8 q x r).Sat (aB Tryz.prog 13 [.agg (aX b p),.agg (bS c)] []):=by
 obtain ⟨rfl,rfl,rfl,hk,hi,ho⟩:=h
 have:=Ta b p c hi ho
 unfold doW at this
 have k0:aH p=true/\Ca p c (kT p c)=true:=by
  unfold mJ at hk
  split at hk
  · cases hk
  · split at hk
    · constructor<;>assumption
    · cases hk
 rw [k0.1,k0.2] at this
 intro Q hq
 exact this Q ⟨fun _=>⟨fun _=>hq,fun e=>by cases e⟩,fun e=>by cases e⟩
noncomputable def ail (b:Bool) (p:Part) (c:cB) (q:Part) (x:mV) (r:List Rec):eu Tryz.prog:=⟨13,[.agg (aX b p),.agg (bS c)],[],.need (tX p c q x r 0) (acG x),T.Sat.need fun h=>afH b p c q x r h⟩
noncomputable def ai0 (b:Bool) (p:Part) (c:cB) (q:Part) (x:mV) (r:List Rec):eu Tryz.prog:=⟨13,[.agg (aX b p),.agg (bS c)],[],.need (tX p c q x r 1) (acT q x),T.Sat.need fun h=>aeP b p c q x r h⟩
noncomputable def ai4 (b:Bool) (p:Part) (c:cB) (q:Part) (x:mV) (r:List Rec):eu Tryz.prog:=⟨13,[.agg (aX b p),.agg (bS c)],[],.need (tX p c q x r 2) (ab8 q x r),T.Sat.need fun h=>ahy b p c q x r h⟩
end N
end Go.Proofs.YtnbhdjadlbhknaaGreatDoor
