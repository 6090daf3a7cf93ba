import Derived.Test.YtnbhdjadlbhknaaGreatDoorE12
import Derived.Test.YtnbhdjadlbhknaaGreatDoorW4
set_option linter.unusedVariables false
set_option linter.unusedSimpArgs false
set_option maxRecDepth 1000000
namespace Go.Proofs.YtnbhdjadlbhknaaGreatDoor
open Go.Ax
namespace N
open H Q R
structure Pw where
 (q:Part) (o e:Int)
def Jc:AV:=.ifc 184 (.ptr 12 0 0 0)
def prW (p:Part) (c:cu) (y:Pw):T An:=.ite (y.e==0) (.ret (.tup [Cg y.q,.y (.int .u64 y.o),.s .nilIface],ptG y.q,yS))
 (.ite (y.e==999) (.ret (.tup [Cg p,.y (.int .u64 y.o),Jc],uS p++agM c,yS))
   (.ret (.tup [Cg p,.y (.int .u64 y.o),Jc],uS p++RD c y.e,yS)))
noncomputable def afy (p:Part) (c:cu):aC Tryz.prog:=dO (hh _ bO (cs1 103 1 4 (ae3 p.rng c.key) (cs1 103 3 6 (juC false p.prods c.prod c.seq) (cs1 103 10 11 (ah6 false p.recs (newR c)) (cs1 103 13 7 (ahl false p.prods c.prod c.seq p.recs.length) bN)))) bM) (uL 103 16 3 6 (uL 103 16 5 7 noSh))
def rT (p:Part) (c:cu):Prop:=((jO p.recs (newR c)).length=p.recs.length/\∀ k,k<(jO p.recs (newR c)).length->((jO p.recs (newR c)).getD k default).off=(p.recs.getD k default).off/\((jO p.recs (newR c)).getD k default).key=(p.recs.getD k default).key/\(((jO p.recs (newR c)).getD k default).val.length=(p.recs.getD k default).val.length/\aj ((jO p.recs (newR c)).getD k default).val.length 1 (ah aJ ((jO p.recs (newR c)).getD k default).val) (ah aJ (p.recs.getD k default).val))/\((jO p.recs (newR c)).getD k default).prod=(p.recs.getD k default).prod/\((jO p.recs (newR c)).getD k default).seq=(p.recs.getD k default).seq/\True)
def Ah (p:Part) (c:cu) (y:Pw):Prop:=((jO p.recs (newR c)).length=y.q.recs.length/\∀ k,k<(jO p.recs (newR c)).length->((jO p.recs (newR c)).getD k default).off=(y.q.recs.getD k default).off/\((jO p.recs (newR c)).getD k default).key=(y.q.recs.getD k default).key/\(((jO p.recs (newR c)).getD k default).val.length=(y.q.recs.getD k default).val.length/\aj ((jO p.recs (newR c)).getD k default).val.length 1 (ah aJ ((jO p.recs (newR c)).getD k default).val) (ah aJ (y.q.recs.getD k default).val))/\((jO p.recs (newR c)).getD k default).prod=(y.q.recs.getD k default).prod/\((jO p.recs (newR c)).getD k default).seq=(y.q.recs.getD k default).seq/\True)
def mI (p:Part) (y:Pw):Prop:=((dw p p)/\0=y.o/\(0=0/\0=0)/\True)
def oH (p:Part) (c:cu) (y:Pw):Prop:=((y.e==999)=true->(mI p y)/\(bC p p)/\(bH p p)/\(bB p p)/\(c.kind=c.kind/\False/\True)/\True)
def om (p:Part) (y:Pw):Prop:=((y.e==0)=true->((dw p y.q)/\0=y.o/\False/\True)/\(bC p y.q)/\(bH p y.q)/\(bB p y.q)/\True)
def zU (p:Part) (c:cu) (y:Pw):Prop:=((p.rng.lo=p.rng.lo/\p.rng.hi=p.rng.hi/\p.epoch=p.epoch/\p.frozen=p.frozen/\(0=0/\(jO p.recs (newR c)).length=p.recs.length)/\(0=0/\(P.aF p.prods (P.bK c.prod c.seq true (p.recs.length:Int))).length=p.prods.length)/\(0=0/\p.cons.length=p.cons.length)/\True)/\Gb p.recs (newR c)=y.o/\False/\True)
def Au (p:Part) (c:cu):Prop:=((P.aF p.prods (P.bK c.prod c.seq true (p.recs.length:Int))).length=p.prods.length/\aj (P.aF p.prods (P.bK c.prod c.seq true (p.recs.length:Int))).length 4 (ah P.ak (P.aF p.prods (P.bK c.prod c.seq true (p.recs.length:Int)))) (ah P.ak p.prods))
def abJ (p:Part) (c:cu) (y:Pw):Prop :=
 ((p.rng.lo=p.rng.lo/\p.rng.hi=p.rng.hi/\True)/\c.key=c.key/\True)/\True/\((!fZ p.rng c.key)=true->(om p y)/\((y.e==0)=false->(oH p c y)/\((y.e==999)=false->(mI p y)/\(bC p p)/\(bH p p)/\(bB p p)/\(c.kind=c.kind/\163=y.e/\True)/\True)))/\((!fZ p.rng c.key)=false->((false=false/\p.prods.length=p.prods.length/\aj p.prods.length 4 (Ax.rowAt 0 (ah P.ak p.prods)) (ah P.ak p.prods))/\c.prod=c.prod/\c.seq=c.seq/\True)/\True/\p.prods.length<=9223372036854775806/\true=true/\True/\((P.aS p.prods c.prod c.seq==2)=true->((y.e==0)=true->((dw p y.q)/\P.eu p.prods c.prod c.seq=y.o/\False/\True)/\(bC p y.q)/\(bH p y.q)/\(bB p y.q)/\True)/\((y.e==0)=false->((y.e==999)=true->((dw p p)/\P.eu p.prods c.prod c.seq=y.o/\(0=0/\0=0)/\True)/\(bC p p)/\(bH p p)/\(bB p p)/\(c.kind=c.kind/\True/\True)/\True)/\((y.e==999)=false->((dw p p)/\P.eu p.prods c.prod c.seq=y.o/\(0=0/\0=0)/\True)/\(bC p p)/\(bH p p)/\(bB p p)/\(c.kind=c.kind/\False/\True)/\True)))/\((P.aS p.prods c.prod c.seq==2)=false->((P.aS p.prods c.prod c.seq==3)=true->(om p y)/\((y.e==0)=false->(oH p c y)/\((y.e==999)=false->(mI p y)/\(bC p p)/\(bH p p)/\(bB p p)/\(c.kind=c.kind/\152=y.e/\True)/\True)))/\((P.aS p.prods c.prod c.seq==3)=false->((p.frozen != 0)=true->(om p y)/\((y.e==0)=false->(oH p c y)/\((y.e==999)=false->(mI p y)/\(bC p p)/\(bH p p)/\(bB p p)/\(c.kind=c.kind/\164=y.e/\True)/\True)))/\((p.frozen != 0)=false->((false=false/\p.recs.length=p.recs.length/\aj p.recs.length 5 (Ax.rowAt 0 fun (k j:Nat)=>PN (JL p.recs k j)) (ah fH p.recs))/\((0:Int)=0/\c.key=c.key/\(lu c.val c.val)/\c.prod=c.prod/\c.seq=c.seq/\True)/\True)/\True/\p.recs.length<=9223372036854775806/\true=true/\((True/\∀ k,k<(jO p.recs (newR c)).length->true=true/\true=true/\(∀ k_1,k_1<((jO p.recs (newR c)).getD k default).val.length->∀ j,j<1->fC (ah aJ ((jO p.recs (newR c)).getD k default).val k_1 j)=true)/\true=true/\true=true/\True)/\True)/\((yg p.recs (newR c) != 0)=true->((yg p.recs (newR c)==0)=true->((y.e==0)=true->((dw p y.q)/\0=y.o/\True/\True)/\(bC p y.q)/\(bH p y.q)/\(bB p y.q)/\True)/\((y.e==0)=false->((y.e==999)=true->((dw p p)/\0=y.o/\False/\True)/\(bC p p)/\(bH p p)/\(bB p p)/\False)/\((y.e==999)=false->((dw p p)/\0=y.o/\False/\True)/\(bC p p)/\(bH p p)/\(bB p p)/\False)))/\((yg p.recs (newR c)==0)=false->(om p y)/\((y.e==0)=false->(oH p c y)/\((y.e==999)=false->(mI p y)/\(bC p p)/\(bH p p)/\(bB p p)/\(c.kind=c.kind/\yg p.recs (newR c)=y.e/\True)/\True))))/\((yg p.recs (newR c) != 0)=false->((false=false/\p.prods.length=p.prods.length/\aj p.prods.length 4 (Ax.rowAt 0 (ah P.ak p.prods)) (ah P.ak p.prods))/\c.prod=c.prod/\c.seq=c.seq/\Gb p.recs (newR c)=(p.recs.length:Int)/\True)/\True/\p.prods.length<=9223372036854775806/\((P.aI p.prods (P.bK c.prod c.seq true (p.recs.length:Int))==0)=true->true=true/\((∀ k,k<(P.aF p.prods (P.bK c.prod c.seq true (p.recs.length:Int))).length->∀ j,j<4->fC (ah P.ak (P.aF p.prods (P.bK c.prod c.seq true (p.recs.length:Int))) k j)=true)/\True)/\((y.e==0)=true->((p.rng.lo=y.q.rng.lo/\p.rng.hi=y.q.rng.hi/\p.epoch=y.q.epoch/\p.frozen=y.q.frozen/\(0=0/\(jO p.recs (newR c)).length=y.q.recs.length)/\(0=0/\(P.aF p.prods (P.bK c.prod c.seq true (p.recs.length:Int))).length=y.q.prods.length)/\(0=0/\p.cons.length=y.q.cons.length)/\True)/\Gb p.recs (newR c)=y.o/\True/\True)/\(Ah p c y)/\((P.aF p.prods (P.bK c.prod c.seq true (p.recs.length:Int))).length=y.q.prods.length/\aj (P.aF p.prods (P.bK c.prod c.seq true (p.recs.length:Int))).length 4 (ah P.ak (P.aF p.prods (P.bK c.prod c.seq true (p.recs.length:Int)))) (ah P.ak y.q.prods))/\(bB p y.q)/\True)/\((y.e==0)=false->((y.e==999)=true->(zU p c y)/\(rT p c)/\(Au p c)/\(bB p p)/\False)/\((y.e==999)=false->(zU p c y)/\(rT p c)/\(Au p c)/\(bB p p)/\False)))/\((P.aI p.prods (P.bK c.prod c.seq true (p.recs.length:Int))==0)=false->true=true/\True/\((P.aI p.prods (P.bK c.prod c.seq true (p.recs.length:Int)) != 0)=true->((P.aI p.prods (P.bK c.prod c.seq true (p.recs.length:Int))==0)=true->((y.e==0)=true->((dw p y.q)/\0=y.o/\True/\True)/\(bC p y.q)/\(bH p y.q)/\(bB p y.q)/\True)/\((y.e==0)=false->((y.e==999)=true->((dw p p)/\0=y.o/\False/\True)/\(bC p p)/\(bH p p)/\(bB p p)/\False)/\((y.e==999)=false->((dw p p)/\0=y.o/\False/\True)/\(bC p p)/\(bH p p)/\(bB p p)/\False)))/\((P.aI p.prods (P.bK c.prod c.seq true (p.recs.length:Int))==0)=false->(om p y)/\((y.e==0)=false->(oH p c y)/\((y.e==999)=false->(mI p y)/\(bC p p)/\(bH p p)/\(bB p p)/\(c.kind=c.kind/\P.aI p.prods (P.bK c.prod c.seq true (p.recs.length:Int))=y.e/\True)/\True))))/\((P.aI p.prods (P.bK c.prod c.seq true (p.recs.length:Int)) != 0)=false->((y.e==0)=true->((p.rng.lo=y.q.rng.lo/\p.rng.hi=y.q.rng.hi/\p.epoch=y.q.epoch/\p.frozen=y.q.frozen/\(0=0/\(jO p.recs (newR c)).length=y.q.recs.length)/\False/\(0=0/\p.cons.length=y.q.cons.length)/\True)/\Gb p.recs (newR c)=y.o/\True/\True)/\(Ah p c y)/\(bH p y.q)/\(bB p y.q)/\True)/\((y.e==0)=false->((y.e==999)=true->((p.rng.lo=p.rng.lo/\p.rng.hi=p.rng.hi/\p.epoch=p.epoch/\p.frozen=p.frozen/\(0=0/\(jO p.recs (newR c)).length=p.recs.length)/\False/\(0=0/\p.cons.length=p.cons.length)/\True)/\Gb p.recs (newR c)=y.o/\False/\True)/\(rT p c)/\(bH p p)/\(bB p p)/\False)/\((y.e==999)=false->((p.rng.lo=p.rng.lo/\p.rng.hi=p.rng.hi/\p.epoch=p.epoch/\p.frozen=p.frozen/\(0=0/\(jO p.recs (newR c)).length=p.recs.length)/\False/\(0=0/\p.cons.length=p.cons.length)/\True)/\Gb p.recs (newR c)=y.o/\False/\True)/\(rT p c)/\(bH p p)/\(bB p p)/\False)))))))))
theorem SS (p:Part) (c:cu) (y:Pw):(jR Tryz.prog (afy p c) 103 [Cg p,.agg (bT c)] (uS p) (prW p c y))=abJ p c y:=by kernel_rfl
def cmW (p:Part) (c:cu) (y:Pw):T An:=.ite (y.e==0) (.ret (.tup [Cg y.q,.s .nilIface],ptG y.q,yS))
 (.ite (y.e==999) (.ret (.tup [Cg p,Jc],uS p++agM c,yS))
   (.ret (.tup [Cg p,Jc],uS p++RD c y.e,yS)))
noncomputable def aeO (p:Part) (c:cu):aC Tryz.prog:=dO (hh _ bO (cs1 105 1 6 (juC false p.prods c.prod c.seq) (cs1 105 6 11 (cmC false p.cons ⟨c.name,c.off⟩ (IntKind.u64.wrap (p.recs.length:Nat))) (cs1 105 9 6 (abT false p.prods c.prod c.seq) bN))) bM) (uL 105 12 3 8 (uL 105 12 5 7 noSh))
def vw (p:Part) (c:cu) (y:Pw):Prop:=((y.e==999)=true->((dw p p)/\(0=0/\0=0)/\True)/\(bC p p)/\(bH p p)/\(bB p p)/\(c.kind=c.kind/\False/\True)/\True)
def BN (p:Part) (c:cu) (y:Pw):Prop:=((P.aI p.prods (P.bK c.prod c.seq false 0) != 0)=true->((P.aI p.prods (P.bK c.prod c.seq false 0)==0)=true->((y.e==0)=true->((dw p y.q)/\True/\True)/\(bC p y.q)/\(bH p y.q)/\(bB p y.q)/\True)/\((y.e==0)=false->((y.e==999)=true->((dw p p)/\False/\True)/\(bC p p)/\(bH p p)/\(bB p p)/\False)/\((y.e==999)=false->((dw p p)/\False/\True)/\(bC p p)/\(bH p p)/\(bB p p)/\False)))/\((P.aI p.prods (P.bK c.prod c.seq false 0)==0)=false->((y.e==0)=true->((dw p y.q)/\False/\True)/\(bC p y.q)/\(bH p y.q)/\(bB p y.q)/\True)/\((y.e==0)=false->(vw p c y)/\((y.e==999)=false->((dw p p)/\(0=0/\0=0)/\True)/\(bC p p)/\(bH p p)/\(bB p p)/\(c.kind=c.kind/\P.aI p.prods (P.bK c.prod c.seq false 0)=y.e/\True)/\True))))
def rF (p:Part) (c:cu):Prop:=((P.aF p.prods (P.bK c.prod c.seq false 0)).length=p.prods.length/\aj (P.aF p.prods (P.bK c.prod c.seq false 0)).length 4 (ah P.ak (P.aF p.prods (P.bK c.prod c.seq false 0))) (ah P.ak p.prods))
def qX (p:Part) (c:cu):Prop:=((aF p.cons { name:=c.name,off:=c.off:Con }).length=p.cons.length/\aj (aF p.cons { name:=c.name,off:=c.off:Con }).length 2 (ah aD (aF p.cons { name:=c.name,off:=c.off:Con })) (ah aD p.cons))
def vF (p:Part) (c:cu):Prop:=((false=false/\p.prods.length=p.prods.length/\aj p.prods.length 4 (Ax.rowAt 0 (ah P.ak p.prods)) (ah P.ak p.prods))/\c.prod=c.prod/\c.seq=c.seq/\True)
def Ab (p:Part) (c:cu):Prop:=((p.rng.lo=p.rng.lo/\p.rng.hi=p.rng.hi/\p.epoch=p.epoch/\p.frozen=p.frozen/\(0=0/\p.recs.length=p.recs.length)/\(0=0/\(P.aF p.prods (P.bK c.prod c.seq false 0)).length=p.prods.length)/\(0=0/\(aF p.cons { name:=c.name,off:=c.off:Con }).length=p.cons.length)/\True)/\False/\True)
def aaB (p:Part) (c:cu) (y:Pw):Prop :=
 (vF p c)/\True/\p.prods.length<=9223372036854775806/\true=true/\True/\((P.aS p.prods c.prod c.seq != 1)=true->((y.e==0)=true->((dw p y.q)/\False/\True)/\(bC p y.q)/\(bH p y.q)/\(bB p y.q)/\True)/\((y.e==0)=false->((y.e==999)=true->((dw p p)/\(0=0/\0=0)/\True)/\(bC p p)/\(bH p p)/\(bB p p)/\(c.kind=c.kind/\True/\True)/\True)/\((y.e==999)=false->((dw p p)/\(0=0/\0=0)/\True)/\(bC p p)/\(bH p p)/\(bB p p)/\(c.kind=c.kind/\False/\True)/\True)))/\((P.aS p.prods c.prod c.seq != 1)=false->((p.frozen != 0)=true->((y.e==0)=true->((dw p y.q)/\False/\True)/\(bC p y.q)/\(bH p y.q)/\(bB p y.q)/\True)/\((y.e==0)=false->(vw p c y)/\((y.e==999)=false->((dw p p)/\(0=0/\0=0)/\True)/\(bC p p)/\(bH p p)/\(bB p p)/\(c.kind=c.kind/\164=y.e/\True)/\True)))/\((p.frozen != 0)=false->((false=false/\p.cons.length=p.cons.length/\aj p.cons.length 2 (Ax.rowAt 0 (ah aD p.cons)) (ah aD p.cons))/\(c.name=c.name/\c.off=c.off/\True)/\IntKind.u64.wrap (p.recs.length:Int)=IntKind.u64.wrap (p.recs.length:Int)/\True)/\True/\p.cons.length<=9223372036854775806/\((dH p.cons { name:=c.name,off:=c.off:Con } (IntKind.u64.wrap (p.recs.length:Int))==0)=true->true=true/\((∀ k,k<(aF p.cons { name:=c.name,off:=c.off:Con }).length->∀ j,j<2->fC (ah aD (aF p.cons { name:=c.name,off:=c.off:Con }) k j)=true)/\True)/\(vF p c)/\True/\p.prods.length<=9223372036854775806/\((P.aI p.prods (P.bK c.prod c.seq false 0)==0)=true->true=true/\((∀ k,k<(P.aF p.prods (P.bK c.prod c.seq false 0)).length->∀ j,j<4->fC (ah P.ak (P.aF p.prods (P.bK c.prod c.seq false 0)) k j)=true)/\True)/\((y.e==0)=true->((p.rng.lo=y.q.rng.lo/\p.rng.hi=y.q.rng.hi/\p.epoch=y.q.epoch/\p.frozen=y.q.frozen/\(0=0/\p.recs.length=y.q.recs.length)/\(0=0/\(P.aF p.prods (P.bK c.prod c.seq false 0)).length=y.q.prods.length)/\(0=0/\(aF p.cons { name:=c.name,off:=c.off:Con }).length=y.q.cons.length)/\True)/\True/\True)/\(bC p y.q)/\((P.aF p.prods (P.bK c.prod c.seq false 0)).length=y.q.prods.length/\aj (P.aF p.prods (P.bK c.prod c.seq false 0)).length 4 (ah P.ak (P.aF p.prods (P.bK c.prod c.seq false 0))) (ah P.ak y.q.prods))/\((aF p.cons { name:=c.name,off:=c.off:Con }).length=y.q.cons.length/\aj (aF p.cons { name:=c.name,off:=c.off:Con }).length 2 (ah aD (aF p.cons { name:=c.name,off:=c.off:Con })) (ah aD y.q.cons))/\True)/\((y.e==0)=false->((y.e==999)=true->(Ab p c)/\(bC p p)/\(rF p c)/\(qX p c)/\False)/\((y.e==999)=false->(Ab p c)/\(bC p p)/\(rF p c)/\(qX p c)/\False)))/\((P.aI p.prods (P.bK c.prod c.seq false 0)==0)=false->true=true/\True/\(BN p c y)/\((P.aI p.prods (P.bK c.prod c.seq false 0) != 0)=false->((y.e==0)=true->((p.rng.lo=y.q.rng.lo/\p.rng.hi=y.q.rng.hi/\p.epoch=y.q.epoch/\p.frozen=y.q.frozen/\(0=0/\p.recs.length=y.q.recs.length)/\False/\(0=0/\(aF p.cons { name:=c.name,off:=c.off:Con }).length=y.q.cons.length)/\True)/\True/\True)/\(bC p y.q)/\(bH p y.q)/\((aF p.cons { name:=c.name,off:=c.off:Con }).length=y.q.cons.length/\aj (aF p.cons { name:=c.name,off:=c.off:Con }).length 2 (ah aD (aF p.cons { name:=c.name,off:=c.off:Con })) (ah aD y.q.cons))/\True)/\((y.e==0)=false->((y.e==999)=true->((p.rng.lo=p.rng.lo/\p.rng.hi=p.rng.hi/\p.epoch=p.epoch/\p.frozen=p.frozen/\(0=0/\p.recs.length=p.recs.length)/\False/\(0=0/\(aF p.cons { name:=c.name,off:=c.off:Con }).length=p.cons.length)/\True)/\False/\True)/\(bC p p)/\(bH p p)/\(qX p c)/\False)/\((y.e==999)=false->((p.rng.lo=p.rng.lo/\p.rng.hi=p.rng.hi/\p.epoch=p.epoch/\p.frozen=p.frozen/\(0=0/\p.recs.length=p.recs.length)/\False/\(0=0/\(aF p.cons { name:=c.name,off:=c.off:Con }).length=p.cons.length)/\True)/\False/\True)/\(bC p p)/\(bH p p)/\(qX p c)/\False)))))/\((dH p.cons { name:=c.name,off:=c.off:Con } (IntKind.u64.wrap (p.recs.length:Int))==0)=false->true=true/\True/\((dH p.cons { name:=c.name,off:=c.off:Con } (IntKind.u64.wrap (p.recs.length:Int)) != 0)=true->((dH p.cons { name:=c.name,off:=c.off:Con } (IntKind.u64.wrap (p.recs.length:Int))==0)=true->((y.e==0)=true->((dw p y.q)/\True/\True)/\(bC p y.q)/\(bH p y.q)/\(bB p y.q)/\True)/\((y.e==0)=false->((y.e==999)=true->((dw p p)/\False/\True)/\(bC p p)/\(bH p p)/\(bB p p)/\False)/\((y.e==999)=false->((dw p p)/\False/\True)/\(bC p p)/\(bH p p)/\(bB p p)/\False)))/\((dH p.cons { name:=c.name,off:=c.off:Con } (IntKind.u64.wrap (p.recs.length:Int))==0)=false->((y.e==0)=true->((dw p y.q)/\False/\True)/\(bC p y.q)/\(bH p y.q)/\(bB p y.q)/\True)/\((y.e==0)=false->(vw p c y)/\((y.e==999)=false->((dw p p)/\(0=0/\0=0)/\True)/\(bC p p)/\(bH p p)/\(bB p p)/\(c.kind=c.kind/\dH p.cons { name:=c.name,off:=c.off:Con } (IntKind.u64.wrap (p.recs.length:Int))=y.e/\True)/\True))))/\((dH p.cons { name:=c.name,off:=c.off:Con } (IntKind.u64.wrap (p.recs.length:Int)) != 0)=false->(vF p c)/\True/\p.prods.length<=9223372036854775806/\((P.aI p.prods (P.bK c.prod c.seq false 0)==0)=true->true=true/\((∀ k,k<(P.aF p.prods (P.bK c.prod c.seq false 0)).length->∀ j,j<4->fC (ah P.ak (P.aF p.prods (P.bK c.prod c.seq false 0)) k j)=true)/\True)/\((y.e==0)=true->((p.rng.lo=y.q.rng.lo/\p.rng.hi=y.q.rng.hi/\p.epoch=y.q.epoch/\p.frozen=y.q.frozen/\(0=0/\p.recs.length=y.q.recs.length)/\(0=0/\(P.aF p.prods (P.bK c.prod c.seq false 0)).length=y.q.prods.length)/\False/\True)/\True/\True)/\(bC p y.q)/\((P.aF p.prods (P.bK c.prod c.seq false 0)).length=y.q.prods.length/\aj (P.aF p.prods (P.bK c.prod c.seq false 0)).length 4 (ah P.ak (P.aF p.prods (P.bK c.prod c.seq false 0))) (ah P.ak y.q.prods))/\(bB p y.q)/\True)/\((y.e==0)=false->((y.e==999)=true->((p.rng.lo=p.rng.lo/\p.rng.hi=p.rng.hi/\p.epoch=p.epoch/\p.frozen=p.frozen/\(0=0/\p.recs.length=p.recs.length)/\(0=0/\(P.aF p.prods (P.bK c.prod c.seq false 0)).length=p.prods.length)/\False/\True)/\False/\True)/\(bC p p)/\(rF p c)/\(bB p p)/\False)/\((y.e==999)=false->((p.rng.lo=p.rng.lo/\p.rng.hi=p.rng.hi/\p.epoch=p.epoch/\p.frozen=p.frozen/\(0=0/\p.recs.length=p.recs.length)/\(0=0/\(P.aF p.prods (P.bK c.prod c.seq false 0)).length=p.prods.length)/\False/\True)/\False/\True)/\(bC p p)/\(rF p c)/\(bB p p)/\False)))/\((P.aI p.prods (P.bK c.prod c.seq false 0)==0)=false->true=true/\True/\(BN p c y)/\((P.aI p.prods (P.bK c.prod c.seq false 0) != 0)=false->((y.e==0)=true->((p.rng.lo=y.q.rng.lo/\p.rng.hi=y.q.rng.hi/\p.epoch=y.q.epoch/\p.frozen=y.q.frozen/\(0=0/\p.recs.length=y.q.recs.length)/\False/\False/\True)/\True/\True)/\(bC p y.q)/\(bH p y.q)/\(bB p y.q)/\True)/\((y.e==0)=false->((y.e==999)=true->((p.rng.lo=p.rng.lo/\p.rng.hi=p.rng.hi/\p.epoch=p.epoch/\p.frozen=p.frozen/\(0=0/\p.recs.length=p.recs.length)/\False/\False/\True)/\False/\True)/\(bC p p)/\(bH p p)/\(bB p p)/\False)/\((y.e==999)=false->((p.rng.lo=p.rng.lo/\p.rng.hi=p.rng.hi/\p.epoch=p.epoch/\p.frozen=p.frozen/\(0=0/\p.recs.length=p.recs.length)/\False/\False/\True)/\False/\True)/\(bC p p)/\(bH p p)/\(bB p p)/\False))))))))
theorem Uy (p:Part) (c:cu) (y:Pw):(jR Tryz.prog (aeO p c) 105 [Cg p,.agg (bT c)] (uS p) (cmW p c y))=aaB p c y:=by kernel_rfl
def frW (p:Part) (c:cu) (by':Int):T An:=.ite (yC p c) (.ret (.tup [Cg p,.s (.bool false),Jc],uS p++RD c 164,yS)) (.ret (.tup [Cg (Gc p by'),.y (.bool (p.frozen==by')),.s .nilIface],ptG (Gc p by'),yS))
def aaA (p:Part) (c:cu) (by':Int):Prop :=
 ((p.frozen != 0)=true->((p.frozen != c.plan)=true->(yC p c=true->((dw p p)/\false=false/\(0=0/\0=0)/\True)/\(bC p p)/\(bH p p)/\(bB p p)/\(c.kind=c.kind/\(164:Int)=164/\True)/\True)/\(yC p c=false->((p.rng.lo=p.rng.lo/\p.rng.hi=p.rng.hi/\p.epoch=p.epoch/\p.frozen=by'/\(0=0/\p.recs.length=p.recs.length)/\(0=0/\p.prods.length=p.prods.length)/\(0=0/\p.cons.length=p.cons.length)/\True)/\false=(p.frozen==by')/\False/\True)/\(bC p p)/\(bH p p)/\(bB p p)/\True))/\((p.frozen != c.plan)=false->(yC p c=true->((p.rng.lo=p.rng.lo/\p.rng.hi=p.rng.hi/\p.epoch=p.epoch/\by'=p.frozen/\(0=0/\p.recs.length=p.recs.length)/\(0=0/\p.prods.length=p.prods.length)/\(0=0/\p.cons.length=p.cons.length)/\True)/\(p.frozen==by')=false/\False/\True)/\(bC p p)/\(bH p p)/\(bB p p)/\False)/\(yC p c=false->((p.rng.lo=p.rng.lo/\p.rng.hi=p.rng.hi/\p.epoch=p.epoch/\by'=by'/\(0=0/\p.recs.length=p.recs.length)/\(0=0/\p.prods.length=p.prods.length)/\(0=0/\p.cons.length=p.cons.length)/\True)/\(p.frozen==by')=(p.frozen==by')/\True/\True)/\(bC p p)/\(bH p p)/\(bB p p)/\True)))/\((p.frozen != 0)=false->(yC p c=true->((p.rng.lo=p.rng.lo/\p.rng.hi=p.rng.hi/\p.epoch=p.epoch/\by'=p.frozen/\(0=0/\p.recs.length=p.recs.length)/\(0=0/\p.prods.length=p.prods.length)/\(0=0/\p.cons.length=p.cons.length)/\True)/\(p.frozen==by')=false/\False/\True)/\(bC p p)/\(bH p p)/\(bB p p)/\False)/\(yC p c=false->((p.rng.lo=p.rng.lo/\p.rng.hi=p.rng.hi/\p.epoch=p.epoch/\by'=by'/\(0=0/\p.recs.length=p.recs.length)/\(0=0/\p.prods.length=p.prods.length)/\(0=0/\p.cons.length=p.cons.length)/\True)/\(p.frozen==by')=(p.frozen==by')/\True/\True)/\(bC p p)/\(bH p p)/\(bB p p)/\True))
theorem Us (p:Part) (c:cu) (by':Int):(jR Tryz.prog (hT _) 106 [Cg p,.agg (bT c),.y (.int .u64 by')] (uS p) (frW p c by'))=aaA p c by':=by kernel_rfl
theorem EH (l:List Rec) (x:Rec):yg l x=kG l x:=by
 unfold yg kG
 cases bG l<;>simp
theorem Xg {l:List Rec} {x:Rec} (h:kG l x=0):jO l x=h_ l x:=by
 unfold jO h_
 rw [EH,if_pos h]
theorem WC {l:List Rec} {x:Rec} (h:kG l x=0):Gb l x=l.length:=by
 have hk:yg l x=0:=by rw [EH];exact h
 obtain ⟨_,_,h3⟩:=NG hk
 unfold Gb
 rw [if_pos hk,wrap_u64 (by omega) (by omega)]
theorem tRw (l:List Rec):∀ (k:Nat),k<l.length->(∀ (q:Nat),q<(l.getD k default).val.length->∀ (j:Nat),j<1->fC (ah aJ (l.getD k default).val q j)=true):=fun k _ q _ j hj=>by
 obtain rfl:j=0:=by omega
 rfl
def Iu (p:Part) (c:cu):Int:=if tL p c=0 then (p.recs.length:Int) else if tL p c=999 then P.eu p.prods c.prod c.seq else 0
theorem ahu (p:Part) (c:cu) (h:eG p):(prW p c ⟨Rv p c,Iu p c,tL p c⟩).Sat (aB Tryz.prog 103 [Cg p,.agg (bT c)] (uS p)):=by
 refine jo (ht:=afy p c) Tryz.mixed rfl ?_
 rw [SS p c ⟨Rv p c,Iu p c,tL p c⟩]
 unfold abJ Au zU om oH mI Ah rT
 dsimp only
 have h1:=h.rl
 have h2:=h.pl
 have e1:P.aI p.prods (P.bK c.prod c.seq true p.recs.length)=P.aI p.prods (nL p c):=rfl
 have e2:P.aF p.prods (P.bK c.prod c.seq true p.recs.length)=P.aF p.prods (nL p c):=rfl
 have t1:=tRw (jO p.recs (newR c))
 have t2:=tPs (P.aF p.prods (nL p c))
 have hr:=lQ p
 have hw:=lZ p
 have hp:=lU p
 have ho:=lN p
 have q1:p.prods.length<=9223372036854775806:=by omega
 have q2:p.recs.length<=9223372036854775806:=by omega
 rw [e1,e2]
 unfold Iu tL
 rw [EH]
 simp only [rowAt_zero,nN,aG]
 cases c1:fZ p.rng c.key
 · simp [hr,hw,hp,ho]
 · by_cases c2:P.aS p.prods c.prod c.seq=2
   · simp [c2,q1,hr,hw,hp,ho]
   · by_cases c3:P.aS p.prods c.prod c.seq=3
     · simp [c3,q1,hr,hw,hp,ho]
     · by_cases c4:p.frozen=0
       · by_cases c5:kG p.recs (newR c)=0
         · have c8:=Xg c5
           have c9:=WC c5
           rw [c8] at t1
           simp only [c8,c9]
           by_cases c6:P.aI p.prods (nL p c)=0
           · have ho':bB p (Rv p c):=ho
             simp [c2,c3,c4,c5,c6,q1,q2,hr,hw,hp,ho']
             refine ⟨fun k _ q _=>rfl,t2,⟨rfl,rfl,rfl,c4.symm,rfl,rfl,rfl⟩,⟨rfl,fun k _=>⟨rfl,rfl,⟨rfl,aG _ _ _⟩,rfl,rfl⟩⟩,rfl,aG _ _ _⟩
           · by_cases c7:P.aI p.prods (nL p c)=999
             · exact absurd c7 (wG _ _)
             · simp [c2,c3,c4,c5,c6,c7,q1,q2,hr,hw,hp,ho]
               exact fun k _ q _=>rfl
         · by_cases c7:kG p.recs (newR c)=999
           · exact absurd c7 (LB _ _)
           · simp [c2,c3,c4,c5,c7,q1,q2,hr,hw,hp,ho]
             exact fun k _ q _=>rfl
       · simp [c2,c3,c4,q1,hr,hw,hp,ho]
theorem agI (p:Part) (c:cu) (h:eG p):(cmW p c ⟨RY p c,0,vE p c⟩).Sat (aB Tryz.prog 105 [Cg p,.agg (bT c)] (uS p)):=by
 refine jo (ht:=aeO p c) Tryz.mixed rfl ?_
 rw [Uy p c ⟨RY p c,0,vE p c⟩]
 unfold aaB Ab vF qX rF BN vw
 dsimp only
 have h1:=h.rl
 have h2:=h.pl
 have h3:=h.cl
 have e1:P.aI p.prods (P.bK c.prod c.seq false 0)=P.aI p.prods (nM c):=rfl
 have e2:P.aF p.prods (P.bK c.prod c.seq false 0)=P.aF p.prods (nM c):=rfl
 have e3:dH p.cons ⟨c.name,c.off⟩ (IntKind.u64.wrap (p.recs.length:Nat))=qE p c:=rfl
 have t2:=tPs (P.aF p.prods (nM c))
 have t3:=tCs (aF p.cons ⟨c.name,c.off⟩)
 have hr:=lQ p
 have hw:=lZ p
 have hp:=lU p
 have ho:=lN p
 have q1:p.prods.length<=9223372036854775806:=by omega
 have q2:p.recs.length<=9223372036854775806:=by omega
 have q3:p.cons.length<=9223372036854775806:=by omega
 rw [e1,e2,e3]
 unfold vE
 simp only [rowAt_zero,nN,aG]
 by_cases c2:P.aS p.prods c.prod c.seq=1
 · by_cases c4:p.frozen=0
   · by_cases c5:qE p c=0
     · by_cases c6:P.aI p.prods (nM c)=0
       · have hw':bC p (RY p c):=hw
         simp [c2,c4,c5,c6,q1,q3,hr,hw,hp,ho,hw']
         exact ⟨t3,t2,⟨rfl,rfl,rfl,c4.symm,rfl,rfl,rfl⟩,⟨rfl,aG _ _ _⟩,rfl,aG _ _ _⟩
       · by_cases c7:P.aI p.prods (nM c)=999
         · exact absurd c7 (wG _ _)
         · simp [c2,c4,c5,c6,c7,q1,q3,hr,hw,hp,ho]
           exact t3
     · by_cases c7:qE p c=999
       · exact absurd c7 (Nj _ _ _)
       · simp [c2,c4,c5,c7,q1,q3,hr,hw,hp,ho]
   · simp [c2,c4,q1,hr,hw,hp,ho]
 · simp [c2,q1,hr,hw,hp,ho]
theorem ahi (p:Part) (c:cu) (by':Int):(frW p c by').Sat (aB Tryz.prog 106 [Cg p,.agg (bT c),.y (.int .u64 by')] (uS p)):=by
 refine jo (ht:=hT _) Tryz.mixed rfl ?_
 rw [Us p c by']
 unfold aaA yC
 have hr:=lQ p
 have hw:=lZ p
 have hp:=lU p
 have ho:=lN p
 have hw':bC p (Gc p by'):=hw
 have hp':bH p (Gc p by'):=hp
 have ho':bB p (Gc p by'):=ho
 by_cases c1:p.frozen=0
 · simp [c1,hr,hw,hp,ho,hw',hp',ho']
 · by_cases c2:p.frozen=c.plan
   · simp [c1,c2,hr,hw,hp,ho,hw',hp',ho']
   · simp [c1,c2,hr,hw,hp,ho]
noncomputable def ahR (p:Part) (c:cu):dZ Tryz.prog:=⟨103,[Cg p,.agg (bT c)],uS p,.need (eG p) (prW p c ⟨Rv p c,Iu p c,tL p c⟩),T.Sat.need fun h=>ahu p c h⟩
noncomputable def aiO (p:Part) (c:cu):dZ Tryz.prog:=⟨105,[Cg p,.agg (bT c)],uS p,.need (eG p) (cmW p c ⟨RY p c,0,vE p c⟩),T.Sat.need fun h=>agI p c h⟩
noncomputable def agB (p:Part) (c:cu) (by':Int):dZ Tryz.prog:=⟨106,[Cg p,.agg (bT c),.y (.int .u64 by')],uS p,frW p c by',ahi p c by'⟩
structure Aw where
 (q:Part) (x:mX) (e:Int) (r:List Rec)
def jS (p:Part) (c:cu):Bool:=(c.kind==2)&&(p.frozen==0)
def Bq (x:mX):List AV:=[.y (.int .i64 x.err),.y (.int .u64 x.off),.y (.bool x.old),.s (.slice none 0 0)]
def MP (x:mX) (r:List Rec) (d:Nat):List AV:=[.y (.int .i64 x.err),.y (.int .u64 x.off),.y (.bool x.old),.own d 5 0 r.length]
def afT:AV:=.ifc 184 (.ptr 10 0 0 0)
def pt7 (p:Part):AV:=.agg (Z8 p 7 8 9)
def aaj (p:Part):List ay:=[.dead,.dead,.dead,.dead,.dead,.dead,.dead,wU p.recs,Hl p.prods,FY p.cons]
def sh7:List Nat:=[0,1,2,3,100,101,102,4,5,6,7,8]
def afX:AV:=.ifc 184 (.ptr 11 0 0 0)
def acW (p:Part) (c:cu) (y:Aw):T An:=.ite (jS p c)
 (.ite (y.e==0) (.ret (.tup [pt7 y.q,.agg (MP y.x y.r 10),.s .nilIface],aaj y.q++[wU y.r],yS))
   (.ret (.tup [pt7 y.q,.agg (MP y.x y.r 10),afX],aaj y.q++(wU y.r::RD c y.e),yS)))
 (.ite (y.e==0) (.ret (.tup [pt7 y.q,.agg (Bq y.x),.s .nilIface],aaj y.q,yS))
   (.ret (.tup [pt7 y.q,.agg (Bq y.x),afT],aaj y.q++RD c y.e,yS)))
noncomputable def ae' (p:Part) (c:cu):aC Tryz.prog:=nC (dO (hh _ bO (cs1 40 6 2 (ahR p c) (cs1 40 11 2 (aiO p c) (cs1 40 16 4 (agB p c c.plan) (cs1 40 19 2 (agB p c 0) (cs1 40 25 4 (rdC false p.cons c.name) (cs1 40 27 6 (ah2 false p.recs c.off c.most) bN)))))) bM) noSh) [103,105,106]
def qd (p:Part) (c:cu) (y:Aw):Prop:=((h_ p.recs (newR c)).length=y.q.recs.length/\∀ k,k<(h_ p.recs (newR c)).length->((h_ p.recs (newR c)).getD k default).off=(y.q.recs.getD k default).off/\((h_ p.recs (newR c)).getD k default).key=(y.q.recs.getD k default).key/\(((h_ p.recs (newR c)).getD k default).val.length=(y.q.recs.getD k default).val.length/\aj ((h_ p.recs (newR c)).getD k default).val.length 1 (ah aJ ((h_ p.recs (newR c)).getD k default).val) (ah aJ (y.q.recs.getD k default).val))/\((h_ p.recs (newR c)).getD k default).prod=(y.q.recs.getD k default).prod/\((h_ p.recs (newR c)).getD k default).seq=(y.q.recs.getD k default).seq/\True)
def qz (p:Part) (c:cu) (y:Aw):Prop:=((jQ p.recs c.off c.most).length=y.r.length/\∀ k,k<(jQ p.recs c.off c.most).length->((jQ p.recs c.off c.most).getD k default).off=(y.r.getD k default).off/\((jQ p.recs c.off c.most).getD k default).key=(y.r.getD k default).key/\(((jQ p.recs c.off c.most).getD k default).val.length=(y.r.getD k default).val.length/\aj ((jQ p.recs c.off c.most).getD k default).val.length 1 (ah aJ ((jQ p.recs c.off c.most).getD k default).val) (ah aJ (y.r.getD k default).val))/\((jQ p.recs c.off c.most).getD k default).prod=(y.r.getD k default).prod/\((jQ p.recs c.off c.most).getD k default).seq=(y.r.getD k default).seq/\True)
def rD (p:Part) (c:cu) (y:Aw):Prop:=(p.rng.lo=y.q.rng.lo/\p.rng.hi=y.q.rng.hi/\p.epoch=y.q.epoch/\p.frozen=y.q.frozen/\(0=0/\p.recs.length=y.q.recs.length)/\(0=0/\(P.aF p.prods (nM c)).length=y.q.prods.length)/\(0=0/\(aF p.cons { name:=c.name,off:=c.off:Con }).length=y.q.cons.length)/\True)
def qU (p:Part) (c:cu) (y:Aw):Prop:=(p.rng.lo=y.q.rng.lo/\p.rng.hi=y.q.rng.hi/\p.epoch=y.q.epoch/\p.frozen=y.q.frozen/\(0=0/\(h_ p.recs (newR c)).length=y.q.recs.length)/\(0=0/\(P.aF p.prods (nL p c)).length=y.q.prods.length)/\(0=0/\p.cons.length=y.q.cons.length)/\True)
def vV (p:Part) (c:cu) (y:Aw):Prop:=(jS p c=false->((y.e==0)=true->((dw p y.q)/\(0=y.x.err/\0=y.x.off/\false=y.x.old/\True/\True)/\False/\True)/\(bC p y.q)/\(bH p y.q)/\(bB p y.q)/\True)/\((y.e==0)=false->((dw p y.q)/\(0=y.x.err/\0=y.x.off/\false=y.x.old/\True/\True)/\(0=0/\0=0)/\True)/\(bC p y.q)/\(bH p y.q)/\(bB p y.q)/\(c.kind=c.kind/\164=y.e/\True)/\True))
def ql (p:Part) (y:Aw):Prop:=(p.rng.lo=y.q.rng.lo/\p.rng.hi=y.q.rng.hi/\p.epoch=y.q.epoch/\0=y.q.frozen/\(0=0/\p.recs.length=y.q.recs.length)/\(0=0/\p.prods.length=y.q.prods.length)/\(0=0/\p.cons.length=y.q.cons.length)/\True)
def rA (p:Part) (c:cu) (y:Aw):Prop:=(p.rng.lo=y.q.rng.lo/\p.rng.hi=y.q.rng.hi/\p.epoch=y.q.epoch/\c.plan=y.q.frozen/\(0=0/\p.recs.length=y.q.recs.length)/\(0=0/\p.prods.length=y.q.prods.length)/\(0=0/\p.cons.length=y.q.cons.length)/\True)
def wI (p:Part) (c:cu) (y:Aw):Prop:=(jS p c=true->((y.e==0)=true->((dw p y.q)/\(0=y.x.err/\0=y.x.off/\false=y.x.old/\False/\True)/\False/\True)/\(bC p y.q)/\(bH p y.q)/\(bB p y.q)/\False/\True)/\((y.e==0)=false->((dw p y.q)/\(0=y.x.err/\0=y.x.off/\false=y.x.old/\False/\True)/\False/\True)/\(bC p y.q)/\(bH p y.q)/\(bB p y.q)/\False/\False/\True))
def qc (p:Part) (c:cu) (y:Aw):Prop:=((aF p.cons { name:=c.name,off:=c.off:Con }).length=y.q.cons.length/\aj (aF p.cons { name:=c.name,off:=c.off:Con }).length 2 (ah aD (aF p.cons { name:=c.name,off:=c.off:Con })) (ah aD y.q.cons))
def oG (p:Part) (c:cu) (y:Aw):Prop:=(0=y.x.err/\IntKind.u64.wrap (c.off+IntKind.u64.wrap ((jQ p.recs c.off c.most).length:Int))=y.x.off/\false=y.x.old/\(0=0/\(jQ p.recs c.off c.most).length=y.r.length)/\True)
def oI (p:Part) (c:cu) (y:Aw):Prop:=((P.aF p.prods (nL p c)).length=y.q.prods.length/\aj (P.aF p.prods (nL p c)).length 4 (ah P.ak (P.aF p.prods (nL p c))) (ah P.ak y.q.prods))
def nY (p:Part) (c:cu) (y:Aw):Prop:=((P.aF p.prods (nM c)).length=y.q.prods.length/\aj (P.aF p.prods (nM c)).length 4 (ah P.ak (P.aF p.prods (nM c))) (ah P.ak y.q.prods))
def og (p:Part) (c:cu) (y:Aw):Prop:=(0=y.x.err/\IntKind.u64.wrap (c.off+IntKind.u64.wrap ((jQ p.recs c.off c.most).length:Int))=y.x.off/\false=y.x.old/\False/\True)
def aav (p:Part) (c:cu) (y:Aw):Prop :=
 ((c.kind==1)=true->((dw p p)/\(R.sS c c)/\True)/\((bC p p)/\(bH p p)/\(bB p p)/\True)/\eG p/\((tL p c==0)=true->(jS p c=true->((y.e==0)=true->((qU p c y)/\(0=y.x.err/\Iu p c=y.x.off/\false=y.x.old/\False/\True)/\True/\True)/\(qd p c y)/\(oI p c y)/\(bB p y.q)/\False/\True)/\((y.e==0)=false->((qU p c y)/\(0=y.x.err/\Iu p c=y.x.off/\false=y.x.old/\False/\True)/\False/\True)/\(qd p c y)/\(oI p c y)/\(bB p y.q)/\False/\False/\True))/\(jS p c=false->((y.e==0)=true->((qU p c y)/\(0=y.x.err/\Iu p c=y.x.off/\false=y.x.old/\True/\True)/\True/\True)/\(qd p c y)/\(oI p c y)/\(bB p y.q)/\True)/\((y.e==0)=false->((qU p c y)/\(0=y.x.err/\Iu p c=y.x.off/\false=y.x.old/\True/\True)/\False/\True)/\(qd p c y)/\(oI p c y)/\(bB p y.q)/\False/\True)))/\((tL p c==0)=false->((tL p c==999)=true->true=true/\True/\(jS p c=true->((y.e==0)=true->((dw p y.q)/\(0=y.x.err/\Iu p c=y.x.off/\true=y.x.old/\False/\True)/\True/\True)/\(bC p y.q)/\(bH p y.q)/\(bB p y.q)/\False/\True)/\((y.e==0)=false->((dw p y.q)/\(0=y.x.err/\Iu p c=y.x.off/\true=y.x.old/\False/\True)/\False/\True)/\(bC p y.q)/\(bH p y.q)/\(bB p y.q)/\False/\False/\True))/\(jS p c=false->((y.e==0)=true->((dw p y.q)/\(0=y.x.err/\Iu p c=y.x.off/\true=y.x.old/\True/\True)/\True/\True)/\(bC p y.q)/\(bH p y.q)/\(bB p y.q)/\True)/\((y.e==0)=false->((dw p y.q)/\(0=y.x.err/\Iu p c=y.x.off/\true=y.x.old/\True/\True)/\False/\True)/\(bC p y.q)/\(bH p y.q)/\(bB p y.q)/\False/\True)))/\((tL p c==999)=false->true=true/\True/\(jS p c=true->((y.e==0)=true->((dw p y.q)/\(0=y.x.err/\Iu p c=y.x.off/\false=y.x.old/\False/\True)/\False/\True)/\(bC p y.q)/\(bH p y.q)/\(bB p y.q)/\False/\True)/\((y.e==0)=false->((dw p y.q)/\(0=y.x.err/\Iu p c=y.x.off/\false=y.x.old/\False/\True)/\False/\True)/\(bC p y.q)/\(bH p y.q)/\(bB p y.q)/\False/\False/\True))/\(jS p c=false->((y.e==0)=true->((dw p y.q)/\(0=y.x.err/\Iu p c=y.x.off/\false=y.x.old/\True/\True)/\False/\True)/\(bC p y.q)/\(bH p y.q)/\(bB p y.q)/\True)/\((y.e==0)=false->((dw p y.q)/\(0=y.x.err/\Iu p c=y.x.off/\false=y.x.old/\True/\True)/\(0=0/\0=0)/\True)/\(bC p y.q)/\(bH p y.q)/\(bB p y.q)/\(c.kind=c.kind/\tL p c=y.e/\True)/\True)))))/\((c.kind==1)=false->((c.kind==3)=true->((dw p p)/\(R.sS c c)/\True)/\((bC p p)/\(bH p p)/\(bB p p)/\True)/\eG p/\((vE p c==0)=true->(jS p c=true->((y.e==0)=true->((rD p c y)/\(0=y.x.err/\c.off=y.x.off/\false=y.x.old/\False/\True)/\True/\True)/\(bC p y.q)/\(nY p c y)/\(qc p c y)/\False/\True)/\((y.e==0)=false->((rD p c y)/\(0=y.x.err/\c.off=y.x.off/\false=y.x.old/\False/\True)/\False/\True)/\(bC p y.q)/\(nY p c y)/\(qc p c y)/\False/\False/\True))/\(jS p c=false->((y.e==0)=true->((rD p c y)/\(0=y.x.err/\c.off=y.x.off/\false=y.x.old/\True/\True)/\True/\True)/\(bC p y.q)/\(nY p c y)/\(qc p c y)/\True)/\((y.e==0)=false->((rD p c y)/\(0=y.x.err/\c.off=y.x.off/\false=y.x.old/\True/\True)/\False/\True)/\(bC p y.q)/\(nY p c y)/\(qc p c y)/\False/\True)))/\((vE p c==0)=false->((vE p c==999)=true->true=true/\True/\(jS p c=true->((y.e==0)=true->((dw p y.q)/\(0=y.x.err/\0=y.x.off/\true=y.x.old/\False/\True)/\True/\True)/\(bC p y.q)/\(bH p y.q)/\(bB p y.q)/\False/\True)/\((y.e==0)=false->((dw p y.q)/\(0=y.x.err/\0=y.x.off/\true=y.x.old/\False/\True)/\False/\True)/\(bC p y.q)/\(bH p y.q)/\(bB p y.q)/\False/\False/\True))/\(jS p c=false->((y.e==0)=true->((dw p y.q)/\(0=y.x.err/\0=y.x.off/\true=y.x.old/\True/\True)/\True/\True)/\(bC p y.q)/\(bH p y.q)/\(bB p y.q)/\True)/\((y.e==0)=false->((dw p y.q)/\(0=y.x.err/\0=y.x.off/\true=y.x.old/\True/\True)/\False/\True)/\(bC p y.q)/\(bH p y.q)/\(bB p y.q)/\False/\True)))/\((vE p c==999)=false->true=true/\True/\(jS p c=true->((y.e==0)=true->((dw p y.q)/\(0=y.x.err/\c.off=y.x.off/\false=y.x.old/\False/\True)/\False/\True)/\(bC p y.q)/\(bH p y.q)/\(bB p y.q)/\False/\True)/\((y.e==0)=false->((dw p y.q)/\(0=y.x.err/\c.off=y.x.off/\false=y.x.old/\False/\True)/\False/\True)/\(bC p y.q)/\(bH p y.q)/\(bB p y.q)/\False/\False/\True))/\(jS p c=false->((y.e==0)=true->((dw p y.q)/\(0=y.x.err/\c.off=y.x.off/\false=y.x.old/\True/\True)/\False/\True)/\(bC p y.q)/\(bH p y.q)/\(bB p y.q)/\True)/\((y.e==0)=false->((dw p y.q)/\(0=y.x.err/\c.off=y.x.off/\false=y.x.old/\True/\True)/\(0=0/\0=0)/\True)/\(bC p y.q)/\(bH p y.q)/\(bB p y.q)/\(c.kind=c.kind/\vE p c=y.e/\True)/\True)))))/\((c.kind==3)=false->((c.kind==5)=true->((dw p p)/\(R.sS c c)/\c.plan=c.plan/\True)/\((bC p p)/\(bH p p)/\(bB p p)/\True)/\(yC p c=true->(wI p c y)/\(vV p c y))/\(yC p c=false->(jS p c=true->((y.e==0)=true->((rA p c y)/\(0=y.x.err/\0=y.x.off/\(p.frozen==c.plan)=y.x.old/\False/\True)/\True/\True)/\(bC p y.q)/\(bH p y.q)/\(bB p y.q)/\False/\True)/\((y.e==0)=false->((rA p c y)/\(0=y.x.err/\0=y.x.off/\(p.frozen==c.plan)=y.x.old/\False/\True)/\False/\True)/\(bC p y.q)/\(bH p y.q)/\(bB p y.q)/\False/\False/\True))/\(jS p c=false->((y.e==0)=true->((rA p c y)/\(0=y.x.err/\0=y.x.off/\(p.frozen==c.plan)=y.x.old/\True/\True)/\True/\True)/\(bC p y.q)/\(bH p y.q)/\(bB p y.q)/\True)/\((y.e==0)=false->((rA p c y)/\(0=y.x.err/\0=y.x.off/\(p.frozen==c.plan)=y.x.old/\True/\True)/\False/\True)/\(bC p y.q)/\(bH p y.q)/\(bB p y.q)/\False/\True))))/\((c.kind==5)=false->((c.kind==6)=true->((dw p p)/\(R.sS c c)/\(0:Int)=0/\True)/\((bC p p)/\(bH p p)/\(bB p p)/\True)/\(yC p c=true->(wI p c y)/\(vV p c y))/\(yC p c=false->(jS p c=true->((y.e==0)=true->((ql p y)/\(0=y.x.err/\0=y.x.off/\(p.frozen==0)=y.x.old/\False/\True)/\True/\True)/\(bC p y.q)/\(bH p y.q)/\(bB p y.q)/\False/\True)/\((y.e==0)=false->((ql p y)/\(0=y.x.err/\0=y.x.off/\(p.frozen==0)=y.x.old/\False/\True)/\False/\True)/\(bC p y.q)/\(bH p y.q)/\(bB p y.q)/\False/\False/\True))/\(jS p c=false->((y.e==0)=true->((ql p y)/\(0=y.x.err/\0=y.x.off/\(p.frozen==0)=y.x.old/\True/\True)/\True/\True)/\(bC p y.q)/\(bH p y.q)/\(bB p y.q)/\True)/\((y.e==0)=false->((ql p y)/\(0=y.x.err/\0=y.x.off/\(p.frozen==0)=y.x.old/\True/\True)/\False/\True)/\(bC p y.q)/\(bH p y.q)/\(bB p y.q)/\False/\True))))/\((c.kind==6)=false->((p.frozen != 0)=true->(wI p c y)/\(vV p c y))/\((p.frozen != 0)=false->((c.kind==4)=true->((false=false/\p.cons.length=p.cons.length/\aj p.cons.length 2 (Ax.rowAt 0 (ah aD p.cons)) (ah aD p.cons))/\c.name=c.name/\True)/\True/\p.cons.length<=9223372036854775806/\true=true/\True/\(jS p c=true->((y.e==0)=true->((dw p y.q)/\(0=y.x.err/\gV p.cons c.name=y.x.off/\jG p.cons c.name=y.x.old/\False/\True)/\True/\True)/\(bC p y.q)/\(bH p y.q)/\(bB p y.q)/\False/\True)/\((y.e==0)=false->((dw p y.q)/\(0=y.x.err/\gV p.cons c.name=y.x.off/\jG p.cons c.name=y.x.old/\False/\True)/\False/\True)/\(bC p y.q)/\(bH p y.q)/\(bB p y.q)/\False/\False/\True))/\(jS p c=false->((y.e==0)=true->((dw p y.q)/\(0=y.x.err/\gV p.cons c.name=y.x.off/\jG p.cons c.name=y.x.old/\True/\True)/\True/\True)/\(bC p y.q)/\(bH p y.q)/\(bB p y.q)/\True)/\((y.e==0)=false->((dw p y.q)/\(0=y.x.err/\gV p.cons c.name=y.x.off/\jG p.cons c.name=y.x.old/\True/\True)/\False/\True)/\(bC p y.q)/\(bH p y.q)/\(bB p y.q)/\False/\True)))/\((c.kind==4)=false->((c.kind==2)=true->((false=false/\p.recs.length=p.recs.length/\aj p.recs.length 5 (Ax.rowAt 0 fun (k j:Nat)=>PN (JL p.recs k j)) (ah fH p.recs))/\c.off=c.off/\c.most=c.most/\True)/\True/\(p.recs.length<=9223372036854775806/\0<=c.off/\c.off<=18446744073709551615)/\true=true/\((True/\∀ k,k<(jQ p.recs c.off c.most).length->true=true/\true=true/\(∀ k_1,k_1<((jQ p.recs c.off c.most).getD k default).val.length->∀ j,j<1->fC (ah aJ ((jQ p.recs c.off c.most).getD k default).val k_1 j)=true)/\true=true/\true=true/\True)/\True)/\((Cz p.recs c.off==0)=true->(jS p c=true->((y.e==0)=true->((dw p y.q)/\(oG p c y)/\True/\True)/\(bC p y.q)/\(bH p y.q)/\(bB p y.q)/\(qz p c y)/\True)/\((y.e==0)=false->((dw p y.q)/\(oG p c y)/\False/\True)/\(bC p y.q)/\(bH p y.q)/\(bB p y.q)/\(qz p c y)/\False/\True))/\(jS p c=false->((y.e==0)=true->((dw p y.q)/\(og p c y)/\True/\True)/\(bC p y.q)/\(bH p y.q)/\(bB p y.q)/\True)/\((y.e==0)=false->((dw p y.q)/\(og p c y)/\False/\True)/\(bC p y.q)/\(bH p y.q)/\(bB p y.q)/\False/\True)))/\((Cz p.recs c.off==0)=false->(jS p c=true->((y.e==0)=true->((dw p y.q)/\(oG p c y)/\False/\True)/\(bC p y.q)/\(bH p y.q)/\(bB p y.q)/\(qz p c y)/\True)/\((y.e==0)=false->((dw p y.q)/\(oG p c y)/\(0=0/\0=0)/\True)/\(bC p y.q)/\(bH p y.q)/\(bB p y.q)/\(qz p c y)/\(c.kind=c.kind/\Cz p.recs c.off=y.e/\True)/\True))/\(jS p c=false->((y.e==0)=true->((dw p y.q)/\(og p c y)/\False/\True)/\(bC p y.q)/\(bH p y.q)/\(bB p y.q)/\True)/\((y.e==0)=false->((dw p y.q)/\(og p c y)/\False/\True)/\(bC p y.q)/\(bH p y.q)/\(bB p y.q)/\False/\True))))/\((c.kind==2)=false->(jS p c=true->((y.e==0)=true->((dw p y.q)/\(0=y.x.err/\0=y.x.off/\false=y.x.old/\False/\True)/\True/\True)/\(bC p y.q)/\(bH p y.q)/\(bB p y.q)/\False/\True)/\((y.e==0)=false->((dw p y.q)/\(0=y.x.err/\0=y.x.off/\false=y.x.old/\False/\True)/\False/\True)/\(bC p y.q)/\(bH p y.q)/\(bB p y.q)/\False/\False/\True))/\(jS p c=false->((y.e==0)=true->((dw p y.q)/\(0=y.x.err/\0=y.x.off/\false=y.x.old/\True/\True)/\True/\True)/\(bC p y.q)/\(bH p y.q)/\(bB p y.q)/\True)/\((y.e==0)=false->((dw p y.q)/\(0=y.x.err/\0=y.x.off/\false=y.x.old/\True/\True)/\False/\True)/\(bC p y.q)/\(bH p y.q)/\(bB p y.q)/\False/\True)))))))))
theorem SL (p:Part) (c:cu) (y:Aw):(QN Tryz.prog (ae' p c) sh7 [4,5,6] 40 [Cg p,.agg (bT c)] (ptG p) (acW p c y))=aav p c y:=by kernel_rfl
theorem KP (l:List Rec) (o:Int):Cz l o=Ga l o:=by
 unfold Cz Ga
 cases bG l<;>rfl
theorem adw {l:List Rec} {o m:Int} (h0:0<=o) (h1:o<=(l.length:Int)):PX l o m=Oz l.length o m:=by
 unfold PX Oz
 have e1:((l.length - o.toNat:Nat):Int)=(l.length:Int) - o:=by omega
 rw [e1]
 by_cases h1:(0:Int) > m
 · simp only [if_pos h1]
   have e2:max m 0=0:=by omega
   rw [e2]
   have e3:min (0:Int) 64=0:=rfl
   rw [e3]
   have e4:(if (64:Int)<0 then (64:Int) else 0)=0:=rfl
   simp only [e4]
   split<;>omega
 · simp only [if_neg h1]
   have e2:max m 0=m:=by omega
   rw [e2]
   split<;>split<;>omega
theorem ac7 {l:List Rec} {o m:Int} (h:Ga l o=0) (h0:0<=o):jQ l o m=vS l o m:=by
 have ho:o<=(l.length:Int):=by
  unfold Ga at h
  split at h
  · cases h
  · split at h
    · cases h
    · omega
 unfold jQ vS
 rw [KP,if_pos h,adw h0 ho]
theorem aeJ (p:Part) (c:cu) (h:eG p) (ho:0<=c.off/\c.off<18446744073709551616):(acW p c ⟨Iw p c,qp p c,lg p c,(qp p c).recs⟩).Sat (aB Tryz.prog 40 [Cg p,.agg (bT c)] (ptG p)):=by
 refine Zo (ht:=ae' p c) (L:=sh7) (K:=[4,5,6]) Tryz.mixed rfl ?_
 rw [SL p c ⟨Iw p c,qp p c,lg p c,(qp p c).recs⟩]
 unfold aav og nY oI oG qc wI rA ql vV qU rD qz qd
 dsimp only
 have h1:=h.rl
 have h3:=h.cl
 have hw:IntKind.u64.wrap c.off=c.off:=wrap_u64 ho.1 (by omega)
 have q2:p.recs.length<=9223372036854775806:=by omega
 have q3:p.cons.length<=9223372036854775806:=by omega
 have hr:=lQ p
 have hws:=lZ p
 have hp:=lU p
 have hos:=lN p
 have o1:0<=c.off:=ho.1
 have o2:c.off<=18446744073709551615:=by omega
 simp only [KP]
 unfold Iw qp lg un9 JU Iu
 by_cases k1:c.kind=1
 · have hf:jS p c=false:=by simp [jS,k1]
   by_cases e0:tL p c=0
   · simp [k1,hf,e0,h,Rv,hr,hws,hp,hos]
     exact hos
   · by_cases e9:tL p c=999
     · simp [k1,hf,e9,h,hr,hws,hp,hos]
     · simp [k1,hf,e0,e9,h,hr,hws,hp,hos]
 · by_cases k3:c.kind=3
   · have hf:jS p c=false:=by simp [jS,k3]
     by_cases e0:vE p c=0
     · simp [k3,hf,e0,h,RY,hr,hws,hp,hos]
       exact hws
     · by_cases e9:vE p c=999
       · simp [k3,hf,e9,h,hr,hws,hp,hos]
       · simp [k3,hf,e0,e9,h,hr,hws,hp,hos]
   · by_cases k5:c.kind=5
     · have hf:jS p c=false:=by simp [jS,k5]
       cases f:yC p c<;>simp [k5,hf,f,Gc,hr,hws,hp,hos]
       exact ⟨hws,hp,hos⟩
     · by_cases k6:c.kind=6
       · have hf:jS p c=false:=by simp [jS,k6]
         cases f:yC p c<;>simp [k6,hf,f,Gc,hr,hws,hp,hos]
         exact ⟨hws,hp,hos⟩
       · by_cases fz:p.frozen=0
         · by_cases k4:c.kind=4
           · have hf:jS p c=false:=by simp [jS,k4]
             simp [k4,hf,fz,q3,hr,hws,hp,hos]
           · by_cases k2:c.kind=2
             · have hf:jS p c=true:=by simp [jS,k2,fz]
               by_cases e0:Ga p.recs c.off=0
               · have t:=ac7 (m:=c.most) e0 ho.1
                 simp [k2,hf,fz,e0,t,q2,o1,o2,hw,hr,hws,hp,hos]
                 exact ⟨nN _ _,fun _ _ _ _=>rfl⟩
               · have t:jQ p.recs c.off c.most=[]:=by unfold jQ;rw [KP,if_neg e0]
                 simp [k2,hf,fz,e0,t,q2,o1,o2,hw,hr,hws,hp,hos]
                 exact ⟨nN _ _,by rw [show IntKind.u64.wrap (0:Int)=0 from rfl,Int.add_zero,hw]⟩
             · have hf:jS p c=false:=by simp [jS,k2]
               simp [k1,k2,k3,k4,k5,k6,hf,fz,hr,hws,hp,hos]
         · have hf:jS p c=false:=by simp [jS,fz]
           simp [k1,k3,k5,k6,hf,fz,hr,hws,hp,hos]
structure AwR (p:Part) (c:cu) (y:Aw):Prop where
 s:(acW p c y).Sat (aB Tryz.prog 40 [Cg p,.agg (bT c)] (ptG p))
noncomputable def ai4 (p:Part) (c:cu) (y:Aw):dZ Tryz.prog:=⟨40,[Cg p,.agg (bT c)],ptG p,.need (AwR p c y) (acW p c y),T.Sat.need fun h=>h.s⟩
noncomputable def pwC (b:Bool) (p:Part):dZ Tryz.prog:=⟨39,[.agg (aX b p)],[],.need (qO p) (VJ p),T.Sat.need fun h=>aiT b p h⟩
end N
namespace R
def Wh (p:Part) (c:cu) (q:Part) (e:Int):Part:=if aH p=false then default else if dU c=false∨c.epoch≠p.epoch∨e≠0 then p else q
def PO (p:Part) (c:cu) (x:mX) (e:Int):mX:=if aH p=false then ⟨165,0,false,[]⟩ else if dU c=false then ⟨161,0,false,[]⟩ else if c.epoch≠p.epoch then ⟨162,0,false,[]⟩ else if e≠0 then ⟨e,0,false,[]⟩ else x
def TF (q:Part) (x:mX):T An:=.ret (.tup [.agg (aX true q),.agg (J3 x)],[],[])
theorem KY {p:Part} (h:aH p=true):p.recs.length<=4096/\p.prods.length<=256/\p.cons.length<=64:=by
 obtain ⟨_,_,a,b,c,_⟩:=D.AZ h
 have h1:=j_ a
 simp [P.bE] at b
 simp [bW] at c
 exact ⟨h1,b.2,c.2⟩
theorem abG {p:Part} (h:aH p=true):qO p:=by
 obtain ⟨h1,h2,h3⟩:=KY h
 have h4:=EK (D.AZ h).2.2.1
 exact ⟨h1,h4.v,by omega,by omega⟩
def dQ (p:Part) (c:cu):Part:=Wh p c (Iw p c) (lg p c)
def dX (p:Part) (c:cu):mX:=PO p c (qp p c) (lg p c)
end R
namespace N
open H Q R
def Ca (p:Part) (c:cu) (e:Int):Bool:=jS p c&&(dU c&&((c.epoch==p.epoch)&&(e==0)))
def ad1 (x:mX):T An:=.ret (.tup [.agg (aX true default),.agg (Bq x)],[],[])
def adz (q:Part) (x:mX):T An:=.ret (.tup [.agg (Z8 q 0 1 2),.agg (Bq x)],ptM q,[])
def adW (q:Part) (x:mX) (r:List Rec):T An:=.ret (.tup [.agg (Z8 q 0 1 2),.agg (MP x r 3)],ptM q++[wU r],[])
def doW (p:Part) (c:cu) (e:Int) (z:Aw):T An:=.ite (aH p) (.ite (Ca p c e) (adW z.q z.x z.r) (adz z.q z.x)) (ad1 z.x)
noncomputable def afV (b:Bool) (p:Part) (c:cu) (y:Aw):aC Tryz.prog:=nC (hh _ bO (cs1 13 1 1 (pcC b p) (cs1 13 3 1 (weC c) (cs1 13 4 1 (pwC b p) (cs1 13 6 1 (pwC b p) (cs1 13 7 1 (pwC b p) (cs1 13 7 3 (ai4 p c y) (cs1 13 10 1 (pwC b p) bN))))))) bM) [41,113,40]
def abE (b:Bool) (p:Part) (c:cu) (y:Aw) (z:Aw):Prop :=
 ((bQ b b p p)/\True)/\True/\eG p/\(aH p=true->((R.sS c c)/\True)/\True/\((!dU c)=true->((bQ b b p p)/\True)/\True/\qO p/\(aH p=true->(Ca p c y.e=true->((dw p z.q)/\(161=z.x.err/\0=z.x.off/\false=z.x.old/\False/\True)/\True)/\(bC p z.q)/\(bH p z.q)/\(bB p z.q)/\False)/\(Ca p c y.e=false->((dw p z.q)/\(161=z.x.err/\0=z.x.off/\false=z.x.old/\True/\True)/\True)/\(bC p z.q)/\(bH p z.q)/\(bB p z.q)/\True))/\(aH p=false->False))/\((!dU c)=false->((c.epoch != p.epoch)=true->((bQ b b p p)/\True)/\True/\qO p/\(aH p=true->(Ca p c y.e=true->((dw p z.q)/\(162=z.x.err/\0=z.x.off/\false=z.x.old/\False/\True)/\True)/\(bC p z.q)/\(bH p z.q)/\(bB p z.q)/\False)/\(Ca p c y.e=false->((dw p z.q)/\(162=z.x.err/\0=z.x.off/\false=z.x.old/\True/\True)/\True)/\(bC p z.q)/\(bH p z.q)/\(bB p z.q)/\True))/\(aH p=false->False))/\((c.epoch != p.epoch)=false->((bQ b b p p)/\True)/\True/\qO p/\((dw p p)/\(R.sS c c)/\True)/\((bC p p)/\(bH p p)/\(bB p p)/\True)/\AwR p c y/\(jS p c=true->((y.e==0)=true->(aH p=true->(Ca p c y.e=true->((dw y.q z.q)/\(y.x.err=z.x.err/\y.x.off=z.x.off/\y.x.old=z.x.old/\(0=0/\y.r.length=z.r.length)/\True)/\True)/\(bC y.q z.q)/\(bH y.q z.q)/\(bB y.q z.q)/\(y.r.length=z.r.length/\∀ k,k<y.r.length->(y.r.getD k default).off=(z.r.getD k default).off/\(y.r.getD k default).key=(z.r.getD k default).key/\((y.r.getD k default).val.length=(z.r.getD k default).val.length/\aj (y.r.getD k default).val.length 1 (ah aJ (y.r.getD k default).val) (ah aJ (z.r.getD k default).val))/\(y.r.getD k default).prod=(z.r.getD k default).prod/\(y.r.getD k default).seq=(z.r.getD k default).seq/\True)/\True)/\(Ca p c y.e=false->False))/\(aH p=false->False))/\((y.e==0)=false->true=true/\True/\((bQ b b p p)/\True)/\True/\qO p/\(aH p=true->(Ca p c y.e=true->((dw p z.q)/\(y.e=z.x.err/\0=z.x.off/\false=z.x.old/\False/\True)/\True)/\(bC p z.q)/\(bH p z.q)/\(bB p z.q)/\False)/\(Ca p c y.e=false->((dw p z.q)/\(y.e=z.x.err/\0=z.x.off/\false=z.x.old/\True/\True)/\True)/\(bC p z.q)/\(bH p z.q)/\(bB p z.q)/\True))/\(aH p=false->False)))/\(jS p c=false->((y.e==0)=true->(aH p=true->(Ca p c y.e=true->((dw y.q z.q)/\(y.x.err=z.x.err/\y.x.off=z.x.off/\y.x.old=z.x.old/\False/\True)/\True)/\(bC y.q z.q)/\(bH y.q z.q)/\(bB y.q z.q)/\False)/\(Ca p c y.e=false->((dw y.q z.q)/\(y.x.err=z.x.err/\y.x.off=z.x.off/\y.x.old=z.x.old/\True/\True)/\True)/\(bC y.q z.q)/\(bH y.q z.q)/\(bB y.q z.q)/\True))/\(aH p=false->False))/\((y.e==0)=false->true=true/\True/\((bQ b b p p)/\True)/\True/\qO p/\(aH p=true->(Ca p c y.e=true->((dw p z.q)/\(y.e=z.x.err/\0=z.x.off/\false=z.x.old/\False/\True)/\True)/\(bC p z.q)/\(bH p z.q)/\(bB p z.q)/\False)/\(Ca p c y.e=false->((dw p z.q)/\(y.e=z.x.err/\0=z.x.off/\false=z.x.old/\True/\True)/\True)/\(bC p z.q)/\(bH p z.q)/\(bB p z.q)/\True))/\(aH p=false->False))))))/\(aH p=false->(aH p=true->(Ca p c y.e=true->(({ data:=#[]:ByteArray }=z.q.rng.lo/\{ data:=#[]:ByteArray }=z.q.rng.hi/\0=z.q.epoch/\0=z.q.frozen/\False/\False/\False/\True)/\(165=z.x.err/\0=z.x.off/\false=z.x.old/\False/\True)/\True)/\False)/\(Ca p c y.e=false->(({ data:=#[]:ByteArray }=z.q.rng.lo/\{ data:=#[]:ByteArray }=z.q.rng.hi/\0=z.q.epoch/\0=z.q.frozen/\False/\False/\False/\True)/\(165=z.x.err/\0=z.x.off/\false=z.x.old/\True/\True)/\True)/\False))/\(aH p=false->(({ data:=#[]:ByteArray }=ByteArray.empty/\{ data:=#[]:ByteArray }=ByteArray.empty/\(0:Int)=0/\(0:Int)=0/\0=0/\0=0/\0=0/\True)/\(165=z.x.err/\0=z.x.off/\false=z.x.old/\True/\True)/\True)/\True))
theorem VF (b:Bool) (p:Part) (c:cu) (y:Aw) (z:Aw):(bf Tryz.prog (afV b p c y) 13 [.agg (aX b p),.agg (bT c)] [] (doW p c y.e z))=abE b p c y z:=by kernel_rfl
theorem SC (b:Bool) (p:Part) (c:cu) (h:eG p) (ho:0<=c.off/\c.off<18446744073709551616):(doW p c (lg p c) ⟨dQ p c,dX p c,0,(dX p c).recs⟩).Sat (aB Tryz.prog 13 [.agg (aX b p),.agg (bT c)] []):=by
 have ha:=aeJ p c h ho
 unfold dQ dX
 have hfe:jS p c=true->lg p c=0->(qp p c).err=0:=fun h1 h2=>by
  unfold jS at h1
  simp at h1
  simp [qp,h1]
  split<;>rfl
 have hnf:jS p c=false->(qp p c).recs=[]:=fun h1=>by
  unfold jS at h1
  simp only [Bool.and_eq_false_iff,beq_eq_false_iff_ne] at h1
  unfold qp
  repeat' split
  all_goals first
   | rfl
   | (exfalso;simp_all)
 generalize Iw p c=q at *
 generalize qp p c=x at *
 generalize lg p c=e at *
 refine aP (ht:=afV b p c ⟨q,x,e,x.recs⟩) Tryz.mixed rfl ?_
 rw [VF b p c ⟨q,x,e,x.recs⟩ ⟨Wh p c q e,PO p c x e,0,(PO p c x e).recs⟩]
 unfold abE
 dsimp only
 have hr:AwR p c ⟨q,x,e,x.recs⟩:=⟨ha⟩
 have eb:({ data:=#[] }:ByteArray)=ByteArray.empty:=rfl
 have f1:=lQ p
 have f2:=lZ p
 have f3:=lU p
 have f4:=lN p
 have g1:=lQ q
 have g2:=lZ q
 have g3:=lU q
 have g4:=lN q
 rw [eb]
 unfold Wh PO Ca
 cases k0:aH p
 · simp [h]
 · have hp:=abG k0
   cases k1:dU c
   · simp [h,hp,f1,f2,f3,f4]
   · by_cases k2:c.epoch=p.epoch
     · have k2':(c.epoch != p.epoch)=false:=by simp [k2]
       by_cases k3:e=0
       · subst k3
         cases k4:jS p c
         · have:=hnf k4
           simp [h,hp,k2',k2,k4,f1,f2,f3,f4,g1,g2,g3,g4,hr]
         · simp [h,hp,k2',k2,k4,f1,f2,f3,f4,g1,g2,g3,g4,hr]
       · cases k4:jS p c
         · simp [h,hp,k2',k2,k3,k4,f1,f2,f3,f4,g1,g2,g3,g4,hr]
         · simp [h,hp,k2',k2,k3,k4,f1,f2,f3,f4,g1,g2,g3,g4,hr]
     · have k2':(c.epoch != p.epoch)=true:=by simp [k2]
       simp [h,hp,k2,k2',f1,f2,f3,f4]
def mJ (p:Part) (c:cu):Nat:=match aH p with
 | false=>0
 | true=>(match Ca p c (lg p c) with | true=>2 | false=>1)
structure um (p:Part) (c:cu) (q:Part) (x:mX) (r:List Rec) (k:Nat):Prop where
 q:q=dQ p c
 x:x=dX p c
 r:r=(dX p c).recs
 k:mJ p c=k
 i:eG p
 o:0<=c.off/\c.off<18446744073709551616
theorem agJ (b:Bool) (p:Part) (c:cu) (q:Part) (x:mX) (r:List Rec) (h:um p c q x r 0):(ad1 x).Sat (aB Tryz.prog 13 [.agg (aX b p),.agg (bT c)] []):=by
 obtain ⟨rfl,rfl,rfl,hk,hi,ho⟩:=h
 have:=SC b p c hi ho
 unfold doW at this
 have k0:aH p=false:=by
  unfold mJ at hk
  split at hk
  · assumption
  · split at hk<;>cases hk
 rw [k0] at this
 intro Q hq
 exact this Q ⟨fun e=>(by cases e),fun _=>hq⟩
theorem aeL (b:Bool) (p:Part) (c:cu) (q:Part) (x:mX) (r:List Rec) (h:um p c q x r 1):(adz q x).Sat (aB Tryz.prog 13 [.agg (aX b p),.agg (bT c)] []):=by
 obtain ⟨rfl,rfl,rfl,hk,hi,ho⟩:=h
 have:=SC b p c hi ho
 unfold doW at this
 have k0:aH p=true/\Ca p c (lg p c)=false:=by
  unfold mJ at hk
  split at hk
  · cases hk
  · split at hk
    · cases hk
    · constructor<;>assumption
 rw [k0.1,k0.2] at this
 intro Q hq
 exact this Q ⟨fun _=>⟨fun e=>(by cases e),fun _=>hq⟩,fun e=>(by cases e)⟩
theorem af_ (b:Bool) (p:Part) (c:cu) (q:Part) (x:mX) (r:List Rec) (h:um p c q x r 2):(adW q x r).Sat (aB Tryz.prog 13 [.agg (aX b p),.agg (bT c)] []):=by
 obtain ⟨rfl,rfl,rfl,hk,hi,ho⟩:=h
 have:=SC b p c hi ho
 unfold doW at this
 have k0:aH p=true/\Ca p c (lg p c)=true:=by
  unfold mJ at hk
  split at hk
  · cases hk
  · split at hk
    · constructor<;>assumption
    · cases hk
 rw [k0.1,k0.2] at this
 intro Q hq
 exact this Q ⟨fun _=>⟨fun _=>hq,fun e=>by cases e⟩,fun e=>by cases e⟩
noncomputable def aiX (b:Bool) (p:Part) (c:cu) (q:Part) (x:mX) (r:List Rec):dZ Tryz.prog:=⟨13,[.agg (aX b p),.agg (bT c)],[],.need (um p c q x r 0) (ad1 x),T.Sat.need fun h=>agJ b p c q x r h⟩
noncomputable def ai8 (b:Bool) (p:Part) (c:cu) (q:Part) (x:mX) (r:List Rec):dZ Tryz.prog:=⟨13,[.agg (aX b p),.agg (bT c)],[],.need (um p c q x r 1) (adz q x),T.Sat.need fun h=>aeL b p c q x r h⟩
noncomputable def ai2 (b:Bool) (p:Part) (c:cu) (q:Part) (x:mX) (r:List Rec):dZ Tryz.prog:=⟨13,[.agg (aX b p),.agg (bT c)],[],.need (um p c q x r 2) (adW q x r),T.Sat.need fun h=>af_ b p c q x r h⟩
end N
end Go.Proofs.YtnbhdjadlbhknaaGreatDoor
