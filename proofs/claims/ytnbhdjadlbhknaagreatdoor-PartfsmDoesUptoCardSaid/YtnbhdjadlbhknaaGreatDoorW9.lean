import Derived.Test.YtnbhdjadlbhknaaGreatDoorW6
import Derived.Test.YtnbhdjadlbhknaaGreatDoorW7
import Derived.Test.YtnbhdjadlbhknaaGreatDoorW8
set_option linter.unusedVariables false
set_option linter.unusedSimpArgs false
set_option maxRecDepth 1000000
namespace Go.Proofs.YtnbhdjadlbhknaaGreatDoor
open Go.Ax
namespace J
noncomputable def ab2 (s:ByteArray):dZ Tryz.prog:=⟨95,[.y (.string s)],[],aZ (b_ s),afa s⟩
noncomputable def jdD (c:R.cu):dZ Tryz.prog:=P.NA true [] c.prod c.seq (by decide)
noncomputable def isH (c:R.cu):aC Tryz.prog:=hh _ bO (cs1 29 3 4 (jdD c) (cs1 29 8 4 (jdD c) (cs1 29 9 5 (ab2 c.name) (cs1 29 11 2 (ab2 c.name) bN)))) bM
def afC (c:R.cu):Prop :=
 ((c.kind==1)=true->(0=0/\c.prod=c.prod/\c.seq=c.seq/\True)/\True/\((P.aS [] c.prod c.seq != 4)=true->(decide (((ByteArray.size c.key):Int)<=32)=true->decide ((c.val.length:Int)<=256)=R.dU c/\True)/\(decide (((ByteArray.size c.key):Int)<=32)=false->false=R.dU c/\True))/\((P.aS [] c.prod c.seq != 4)=false->false=R.dU c/\True))/\((c.kind==1)=false->((c.kind==2)=true->(decide (1<=c.most)=true->decide (c.most<=64)=R.dU c/\True)/\(decide (1<=c.most)=false->false=R.dU c/\True))/\((c.kind==2)=false->((c.kind==3)=true->(0=0/\c.prod=c.prod/\c.seq=c.seq/\True)/\True/\((P.aS [] c.prod c.seq != 4)=true->(c.name=c.name/\True)/\True/\b_ c.name=R.dU c/\True)/\((P.aS [] c.prod c.seq != 4)=false->false=R.dU c/\True))/\((c.kind==3)=false->((c.kind==4)=true->(c.name=c.name/\True)/\True/\b_ c.name=R.dU c/\True)/\((c.kind==4)=false->((c.kind==5)=true->(c.plan != 0)=R.dU c/\True)/\((c.kind==5)=false->((c.kind==6)=true->(c.plan != 0)=R.dU c/\True)/\((c.kind==6)=false->false=R.dU c/\True))))))
theorem Xc (c:R.cu):(bf Tryz.prog (isH c) 29 [.agg (R.bT c)] [] (aZ (R.dU c)))=afC c:=by kernel_rfl
theorem aiY (c:R.cu):(aZ (R.dU c)).Sat (aB Tryz.prog 29 [.agg (R.bT c)] []):=by
 refine aP (ht:=isH c) Tryz.mixed rfl ?_
 rw [Xc c]
 unfold afC R.dU R.okN
 by_cases h1:c.kind=1
 · by_cases h2:P.aS [] c.prod c.seq=4<;>by_cases h3:(c.key.size:Int)<=32<;>simp [h1,h2,h3]
 · by_cases h2:c.kind=2
   · by_cases h3:1<=c.most<;>simp [h2,h3]
   · by_cases h3:c.kind=3
     · by_cases h4:P.aS [] c.prod c.seq=4<;>simp [h3,h4]
     · by_cases h4:c.kind=4
       · simp [h4]
       · by_cases h5:c.kind=5
         · simp [h5];rfl
         · by_cases h6:c.kind=6
           · simp [h6];rfl
           · simp [h1,h2,h3,h4,h5,h6]
noncomputable def isC (c:R.cu):dZ Tryz.prog:=⟨29,[.agg (R.bT c)],[],aZ (R.dU c),aiY c⟩
end J
namespace R
noncomputable def jd2 (b:Bool) (l:List P.Producer) (id s:Int):dZ Tryz.prog:=⟨94,[P.bg b l,.y (.int .u64 id),.y (.int .u64 s)],[],.need (l.length<=9223372036854775806) (P.ru l id s),T.Sat.need fun h=>P.GI b l id s h⟩
def prF (p:Part) (c:cu):Part:=if tL p c=0 then Rv p c else p
def prX (p:Part) (c:cu):mX:=if tL p c=0 then ⟨0,p.recs.length,false,[]⟩ else if tL p c=999 then ⟨0,P.eu p.prods c.prod c.seq,true,[]⟩ else ⟨tL p c,0,false,[]⟩
noncomputable def afZ (p:Part) (c:cu):aC Tryz.prog:=dO (hh _ bO (cs1 69 1 4 (abR p.rng c.key) (cs1 69 4 6 (jd2 true p.prods c.prod c.seq) (cs1 69 11 11 (V.aiN true p.recs (newR c)) (cs1 69 14 7 (P.af' true p.prods c.prod c.seq (V.xH p.recs (newR c))) bN)))) bM) (uL 69 17 0 779 (uL 69 18 0 779 noSh))
def abL (p:Part) (c:cu) (q:Part) (x:mX):Prop :=
 ((p.rng.lo=p.rng.lo/\p.rng.hi=p.rng.hi/\True)/\c.key=c.key/\True)/\True/\((!fZ p.rng c.key)=true->((bQ true true p q)/\(163=x.err/\0=x.off/\false=x.old/\x.recs.length=0/\True)/\True)/\True)/\((!fZ p.rng c.key)=false->((true=true/\p.prods.length=p.prods.length/\aj p.prods.length 4 (ah P.ak p.prods) (ah P.ak p.prods))/\c.prod=c.prod/\c.seq=c.seq/\True)/\True/\p.prods.length<=9223372036854775806/\((P.aS p.prods c.prod c.seq==2)=true->((bQ true true p q)/\(0=x.err/\P.eu p.prods c.prod c.seq=x.off/\true=x.old/\x.recs.length=0/\True)/\True)/\True)/\((P.aS p.prods c.prod c.seq==2)=false->((P.aS p.prods c.prod c.seq==3)=true->((bQ true true p q)/\(152=x.err/\0=x.off/\false=x.old/\x.recs.length=0/\True)/\True)/\True)/\((P.aS p.prods c.prod c.seq==3)=false->((p.frozen != 0)=true->((bQ true true p q)/\(164=x.err/\0=x.off/\false=x.old/\x.recs.length=0/\True)/\True)/\True)/\((p.frozen != 0)=false->((true=true/\p.recs.length=p.recs.length/\aj p.recs.length 5 (ah encR p.recs) (ah encR p.recs))/\((0:Int)=0/\c.key=c.key/\(lu c.val c.val)/\c.prod=c.prod/\c.seq=c.seq/\True)/\True)/\True/\p.recs.length<=9223372036854775806/\((V.B_ p.recs (newR c) != 0)=true->((bQ true true p q)/\(V.B_ p.recs (newR c)=x.err/\0=x.off/\false=x.old/\x.recs.length=0/\True)/\True)/\True)/\((V.B_ p.recs (newR c) != 0)=false->((true=true/\p.prods.length=p.prods.length/\aj p.prods.length 4 (ah P.ak p.prods) (ah P.ak p.prods))/\c.prod=c.prod/\c.seq=c.seq/\V.xH p.recs (newR c)=V.xH p.recs (newR c)/\True)/\True/\p.prods.length<=9223372036854775806/\((P.aI p.prods (P.bK c.prod c.seq true (V.xH p.recs (newR c)))==0)=true->(∀ k,k<(V.sO p.recs (newR c)).length->∀ j,j<5->fC (ah encR (V.sO p.recs (newR c)) k j)=true)/\(∀ k,k<(P.aF p.prods (P.bK c.prod c.seq true (V.xH p.recs (newR c)))).length->∀ j,j<4->fC (ah P.ak (P.aF p.prods (P.bK c.prod c.seq true (V.xH p.recs (newR c)))) k j)=true)/\((p.rng.lo=q.rng.lo/\p.rng.hi=q.rng.hi/\p.epoch=q.epoch/\p.frozen=q.frozen/\(true=true/\(V.sO p.recs (newR c)).length=q.recs.length/\aj (V.sO p.recs (newR c)).length 5 (Ax.rowAt 0 (ah encR (V.sO p.recs (newR c)))) (ah encR q.recs))/\(true=true/\(P.aF p.prods (P.bK c.prod c.seq true (V.xH p.recs (newR c)))).length=q.prods.length/\aj (P.aF p.prods (P.bK c.prod c.seq true (V.xH p.recs (newR c)))).length 4 (Ax.rowAt 0 (ah P.ak (P.aF p.prods (P.bK c.prod c.seq true (V.xH p.recs (newR c)))))) (ah P.ak q.prods))/\(true=true/\p.cons.length=q.cons.length/\aj p.cons.length 2 (ah aD p.cons) (ah aD q.cons))/\True)/\(0=x.err/\V.xH p.recs (newR c)=x.off/\false=x.old/\x.recs.length=0/\True)/\True)/\True)/\((P.aI p.prods (P.bK c.prod c.seq true (V.xH p.recs (newR c)))==0)=false->((P.aI p.prods (P.bK c.prod c.seq true (V.xH p.recs (newR c))) != 0)=true->((bQ true true p q)/\(P.aI p.prods (P.bK c.prod c.seq true (V.xH p.recs (newR c)))=x.err/\0=x.off/\false=x.old/\x.recs.length=0/\True)/\True)/\True)/\((P.aI p.prods (P.bK c.prod c.seq true (V.xH p.recs (newR c))) != 0)=false->(∀ k,k<(V.sO p.recs (newR c)).length->∀ j,j<5->fC (ah encR (V.sO p.recs (newR c)) k j)=true)/\((p.rng.lo=q.rng.lo/\p.rng.hi=q.rng.hi/\p.epoch=q.epoch/\p.frozen=q.frozen/\(true=true/\(V.sO p.recs (newR c)).length=q.recs.length/\aj (V.sO p.recs (newR c)).length 5 (Ax.rowAt 0 (ah encR (V.sO p.recs (newR c)))) (ah encR q.recs))/\q.prods.length=0/\(true=true/\p.cons.length=q.cons.length/\aj p.cons.length 2 (ah aD p.cons) (ah aD q.cons))/\True)/\(0=x.err/\V.xH p.recs (newR c)=x.off/\false=x.old/\x.recs.length=0/\True)/\True)/\True)))))))
theorem Rp (p:Part) (c:cu) (q:Part) (x:mX):(bf Tryz.prog (afZ p c) 69 [.agg (aX true p),.agg (bT c)] [] (TF q x))=abL p c q x:=by kernel_rfl
def cmF (p:Part) (c:cu):Part:=if vE p c=0 then RY p c else p
def cmX (p:Part) (c:cu):mX:=if vE p c=0 then ⟨0,c.off,false,[]⟩ else if vE p c=999 then ⟨0,0,true,[]⟩ else ⟨vE p c,0,false,[]⟩
noncomputable def agT (p:Part) (c:cu):aC Tryz.prog:=dO (hh _ bO (cs1 70 1 6 (jd2 true p.prods c.prod c.seq) (cs1 70 6 11 (_root_.Go.Proofs.YtnbhdjadlbhknaaGreatDoor.ckC true p.cons ⟨c.name,c.off⟩ (IntKind.u64.wrap (p.recs.length:Nat))) (cs1 70 9 6 (P.adN true p.prods c.prod c.seq) bN))) bM) (uL 70 12 0 779 (uL 70 13 0 779 noSh))
def qD (p:Part) (q:Part):Prop:=(true=true/\p.recs.length=q.recs.length/\aj p.recs.length 5 (ah encR p.recs) (ah encR q.recs))
def vv (p:Part) (c:cu):Prop:=((true=true/\p.prods.length=p.prods.length/\aj p.prods.length 4 (ah P.ak p.prods) (ah P.ak p.prods))/\c.prod=c.prod/\c.seq=c.seq/\True)
def abN (p:Part) (c:cu) (q:Part) (x:mX):Prop :=
 (vv p c)/\True/\p.prods.length<=9223372036854775806/\((P.aS p.prods c.prod c.seq != 1)=true->((bQ true true p q)/\(0=x.err/\0=x.off/\true=x.old/\x.recs.length=0/\True)/\True)/\True)/\((P.aS p.prods c.prod c.seq != 1)=false->((p.frozen != 0)=true->((bQ true true p q)/\(164=x.err/\0=x.off/\false=x.old/\x.recs.length=0/\True)/\True)/\True)/\((p.frozen != 0)=false->((true=true/\p.cons.length=p.cons.length/\aj p.cons.length 2 (ah aD p.cons) (ah aD p.cons))/\(c.name=c.name/\c.off=c.off/\True)/\IntKind.u64.wrap (p.recs.length:Int)=IntKind.u64.wrap (p.recs.length:Int)/\True)/\True/\p.cons.length<=9223372036854775806/\((dH p.cons { name:=c.name,off:=c.off:Con } (IntKind.u64.wrap (p.recs.length:Int))==0)=true->(vv p c)/\True/\p.prods.length<=9223372036854775806/\((P.aI p.prods (P.bK c.prod c.seq false 0)==0)=true->(∀ k,k<(aF p.cons { name:=c.name,off:=c.off:Con }).length->∀ j,j<2->fC (ah aD (aF p.cons { name:=c.name,off:=c.off:Con }) k j)=true)/\(∀ k,k<(P.aF p.prods (P.bK c.prod c.seq false 0)).length->∀ j,j<4->fC (ah P.ak (P.aF p.prods (P.bK c.prod c.seq false 0)) k j)=true)/\((p.rng.lo=q.rng.lo/\p.rng.hi=q.rng.hi/\p.epoch=q.epoch/\p.frozen=q.frozen/\(qD p q)/\(true=true/\(P.aF p.prods (P.bK c.prod c.seq false 0)).length=q.prods.length/\aj (P.aF p.prods (P.bK c.prod c.seq false 0)).length 4 (Ax.rowAt 0 (ah P.ak (P.aF p.prods (P.bK c.prod c.seq false 0)))) (ah P.ak q.prods))/\(true=true/\(aF p.cons { name:=c.name,off:=c.off:Con }).length=q.cons.length/\aj (aF p.cons { name:=c.name,off:=c.off:Con }).length 2 (Ax.rowAt 0 (ah aD (aF p.cons { name:=c.name,off:=c.off:Con }))) (ah aD q.cons))/\True)/\(0=x.err/\c.off=x.off/\false=x.old/\x.recs.length=0/\True)/\True)/\True)/\((P.aI p.prods (P.bK c.prod c.seq false 0)==0)=false->((P.aI p.prods (P.bK c.prod c.seq false 0) != 0)=true->((bQ true true p q)/\(P.aI p.prods (P.bK c.prod c.seq false 0)=x.err/\0=x.off/\false=x.old/\x.recs.length=0/\True)/\True)/\True)/\((P.aI p.prods (P.bK c.prod c.seq false 0) != 0)=false->(∀ k,k<(aF p.cons { name:=c.name,off:=c.off:Con }).length->∀ j,j<2->fC (ah aD (aF p.cons { name:=c.name,off:=c.off:Con }) k j)=true)/\((p.rng.lo=q.rng.lo/\p.rng.hi=q.rng.hi/\p.epoch=q.epoch/\p.frozen=q.frozen/\(qD p q)/\q.prods.length=0/\(true=true/\(aF p.cons { name:=c.name,off:=c.off:Con }).length=q.cons.length/\aj (aF p.cons { name:=c.name,off:=c.off:Con }).length 2 (Ax.rowAt 0 (ah aD (aF p.cons { name:=c.name,off:=c.off:Con }))) (ah aD q.cons))/\True)/\(0=x.err/\c.off=x.off/\false=x.old/\x.recs.length=0/\True)/\True)/\True)))/\((dH p.cons { name:=c.name,off:=c.off:Con } (IntKind.u64.wrap (p.recs.length:Int))==0)=false->((dH p.cons { name:=c.name,off:=c.off:Con } (IntKind.u64.wrap (p.recs.length:Int)) != 0)=true->((bQ true true p q)/\(dH p.cons { name:=c.name,off:=c.off:Con } (IntKind.u64.wrap (p.recs.length:Int))=x.err/\0=x.off/\false=x.old/\x.recs.length=0/\True)/\True)/\True)/\((dH p.cons { name:=c.name,off:=c.off:Con } (IntKind.u64.wrap (p.recs.length:Int)) != 0)=false->(vv p c)/\True/\p.prods.length<=9223372036854775806/\((P.aI p.prods (P.bK c.prod c.seq false 0)==0)=true->(∀ k,k<(P.aF p.prods (P.bK c.prod c.seq false 0)).length->∀ j,j<4->fC (ah P.ak (P.aF p.prods (P.bK c.prod c.seq false 0)) k j)=true)/\((p.rng.lo=q.rng.lo/\p.rng.hi=q.rng.hi/\p.epoch=q.epoch/\p.frozen=q.frozen/\(qD p q)/\(true=true/\(P.aF p.prods (P.bK c.prod c.seq false 0)).length=q.prods.length/\aj (P.aF p.prods (P.bK c.prod c.seq false 0)).length 4 (Ax.rowAt 0 (ah P.ak (P.aF p.prods (P.bK c.prod c.seq false 0)))) (ah P.ak q.prods))/\q.cons.length=0/\True)/\(0=x.err/\c.off=x.off/\false=x.old/\x.recs.length=0/\True)/\True)/\True)/\((P.aI p.prods (P.bK c.prod c.seq false 0)==0)=false->((P.aI p.prods (P.bK c.prod c.seq false 0) != 0)=true->((bQ true true p q)/\(P.aI p.prods (P.bK c.prod c.seq false 0)=x.err/\0=x.off/\false=x.old/\x.recs.length=0/\True)/\True)/\True)/\((P.aI p.prods (P.bK c.prod c.seq false 0) != 0)=false->((p.rng.lo=q.rng.lo/\p.rng.hi=q.rng.hi/\p.epoch=q.epoch/\p.frozen=q.frozen/\(qD p q)/\q.prods.length=0/\q.cons.length=0/\True)/\(0=x.err/\c.off=x.off/\false=x.old/\x.recs.length=0/\True)/\True)/\True))))))
theorem VE (p:Part) (c:cu) (q:Part) (x:mX):(bf Tryz.prog (agT p c) 70 [.agg (aX true p),.agg (bT c)] [] (TF q x))=abN p c q x:=by kernel_rfl
structure ac3 (p:Part) (c:cu) (q:Part) (x:mX):Prop where
 s:(TF q x).Sat (aB Tryz.prog 69 [.agg (aX true p),.agg (bT c)] [])
structure ad6 (p:Part) (c:cu) (q:Part) (x:mX):Prop where
 s:(TF q x).Sat (aB Tryz.prog 70 [.agg (aX true p),.agg (bT c)] [])
noncomputable def ah1 (p:Part) (c:cu) (q:Part) (x:mX):dZ Tryz.prog:=⟨69,[.agg (aX true p),.agg (bT c)],[],.need (ac3 p c q x) (TF q x),T.Sat.need fun h=>h.s⟩
noncomputable def aiw (p:Part) (c:cu) (q:Part) (x:mX):dZ Tryz.prog:=⟨70,[.agg (aX true p),.agg (bT c)],[],.need (ad6 p c q x) (TF q x),T.Sat.need fun h=>h.s⟩
noncomputable def agc (p:Part) (c:cu) (y1 y2:Act):aC Tryz.prog:=dO (hh _ bO (cs1 18 1 1 (J.isC c) (cs1 18 2 1 (Q.ckC true p) (cs1 18 9 2 (ah1 p c y1.q y1.x) (cs1 18 11 2 (aiw p c y2.q y2.x) (cs1 18 27 6 (V.aja true p.recs c.off c.most) (cs1 18 31 4 (rrC true p.cons c.name) bN)))))) bM) (uL 18 27 10 779 noSh)
def zZ (p:Part) (z:Act):Prop:=((p.rng.lo=z.q.rng.lo/\p.rng.hi=z.q.rng.hi/\p.epoch=z.q.epoch/\0=z.q.frozen/\(true=true/\p.recs.length=z.q.recs.length/\aj p.recs.length 5 (ah encR p.recs) (ah encR z.q.recs))/\(true=true/\p.prods.length=z.q.prods.length/\aj p.prods.length 4 (ah P.ak p.prods) (ah P.ak z.q.prods))/\(true=true/\p.cons.length=z.q.cons.length/\aj p.cons.length 2 (ah aD p.cons) (ah aD z.q.cons))/\True)/\(0=z.x.err/\0=z.x.off/\(p.frozen==0)=z.x.old/\z.x.recs.length=0/\True)/\True)
def zC (p:Part) (c:cu) (z:Act):Prop:=((p.rng.lo=z.q.rng.lo/\p.rng.hi=z.q.rng.hi/\p.epoch=z.q.epoch/\c.plan=z.q.frozen/\(true=true/\p.recs.length=z.q.recs.length/\aj p.recs.length 5 (ah encR p.recs) (ah encR z.q.recs))/\(true=true/\p.prods.length=z.q.prods.length/\aj p.prods.length 4 (ah P.ak p.prods) (ah P.ak z.q.prods))/\(true=true/\p.cons.length=z.q.cons.length/\aj p.cons.length 2 (ah aD p.cons) (ah aD z.q.cons))/\True)/\(0=z.x.err/\0=z.x.off/\(p.frozen==c.plan)=z.x.old/\z.x.recs.length=0/\True)/\True)
def abl (p:Part) (c:cu) (y1:Act) (y2:Act) (z:Act):Prop :=
 ((R.sS c c)/\True)/\True/\((bQ true true p p)/\True)/\True/\Q.Bj p/\(aH p=true->((!dU c)=true->((bQ true true p z.q)/\(161=z.x.err/\0=z.x.off/\false=z.x.old/\z.x.recs.length=0/\True)/\True)/\True)/\((!dU c)=false->((c.epoch != p.epoch)=true->((bQ true true p z.q)/\(162=z.x.err/\0=z.x.off/\false=z.x.old/\z.x.recs.length=0/\True)/\True)/\True)/\((c.epoch != p.epoch)=false->((c.kind==1)=true->((bQ true true p p)/\(R.sS c c)/\True)/\True/\ac3 p c y1.q y1.x/\((bQ true true y1.q z.q)/\(y1.x.err=z.x.err/\y1.x.off=z.x.off/\y1.x.old=z.x.old/\(true=true/\y1.x.recs.length=z.x.recs.length/\aj y1.x.recs.length 5 (ah encR y1.x.recs) (ah encR z.x.recs))/\True)/\True)/\True)/\((c.kind==1)=false->((c.kind==3)=true->((bQ true true p p)/\(R.sS c c)/\True)/\True/\ad6 p c y2.q y2.x/\((bQ true true y2.q z.q)/\(y2.x.err=z.x.err/\y2.x.off=z.x.off/\y2.x.old=z.x.old/\(true=true/\y2.x.recs.length=z.x.recs.length/\aj y2.x.recs.length 5 (ah encR y2.x.recs) (ah encR z.x.recs))/\True)/\True)/\True)/\((c.kind==3)=false->((c.kind==5)=true->((p.frozen != 0)=true->((p.frozen != c.plan)=true->((bQ true true p z.q)/\(164=z.x.err/\0=z.x.off/\false=z.x.old/\z.x.recs.length=0/\True)/\True)/\True)/\((p.frozen != c.plan)=false->(zC p c z)/\True))/\((p.frozen != 0)=false->(zC p c z)/\True))/\((c.kind==5)=false->((c.kind==6)=true->((p.frozen != 0)=true->((p.frozen != c.plan)=true->((bQ true true p z.q)/\(164=z.x.err/\0=z.x.off/\false=z.x.old/\z.x.recs.length=0/\True)/\True)/\True)/\((p.frozen != c.plan)=false->(zZ p z)/\True))/\((p.frozen != 0)=false->(zZ p z)/\True))/\((c.kind==6)=false->((p.frozen != 0)=true->((bQ true true p z.q)/\(164=z.x.err/\0=z.x.off/\false=z.x.old/\z.x.recs.length=0/\True)/\True)/\True)/\((p.frozen != 0)=false->((c.kind==2)=true->((true=true/\p.recs.length=p.recs.length/\aj p.recs.length 5 (ah encR p.recs) (ah encR p.recs))/\c.off=c.off/\c.most=c.most/\True)/\True/\(p.recs.length<=9223372036854775806/\0<=c.off/\c.off<=18446744073709551615)/\(∀ k,k<(V.xE p.recs c.off c.most).length->∀ j,j<5->fC (ah encR (V.xE p.recs c.off c.most) k j)=true)/\((V.Ed p.recs c.off != 0)=true->((bQ true true p z.q)/\(V.Ed p.recs c.off=z.x.err/\0=z.x.off/\false=z.x.old/\z.x.recs.length=0/\True)/\True)/\True)/\((V.Ed p.recs c.off != 0)=false->((bQ true true p z.q)/\(0=z.x.err/\IntKind.u64.wrap (c.off+IntKind.u64.wrap ((V.xE p.recs c.off c.most).length:Int))=z.x.off/\false=z.x.old/\(true=true/\(V.xE p.recs c.off c.most).length=z.x.recs.length/\aj (V.xE p.recs c.off c.most).length 5 (Ax.rowAt 0 (ah encR (V.xE p.recs c.off c.most))) (ah encR z.x.recs))/\True)/\True)/\True))/\((c.kind==2)=false->((true=true/\p.cons.length=p.cons.length/\aj p.cons.length 2 (ah aD p.cons) (ah aD p.cons))/\c.name=c.name/\True)/\True/\p.cons.length<=9223372036854775806/\((bQ true true p z.q)/\(0=z.x.err/\gV p.cons c.name=z.x.off/\jG p.cons c.name=z.x.old/\z.x.recs.length=0/\True)/\True)/\True)))))))))/\(aH p=false->(({ data:=#[]:ByteArray }=z.q.rng.lo/\{ data:=#[]:ByteArray }=z.q.rng.hi/\0=z.q.epoch/\0=z.q.frozen/\z.q.recs.length=0/\z.q.prods.length=0/\z.q.cons.length=0/\True)/\(165=z.x.err/\0=z.x.off/\false=z.x.old/\z.x.recs.length=0/\True)/\True)/\True)
theorem RZ (p:Part) (c:cu) (y1:Act) (y2:Act) (z:Act):(bf Tryz.prog (agc p c y1 y2) 18 [.agg (aX true p),.agg (bT c)] [] (TF z.q z.x))=abl p c y1 y2 z:=by kernel_rfl
theorem agi (p:Part) (c:cu) (h:eG p):(TF (prF p c) (prX p c)).Sat (aB Tryz.prog 69 [.agg (aX true p),.agg (bT c)] []):=by
 refine aP (ht:=afZ p c) Tryz.mixed rfl ?_
 rw [Rp p c (prF p c) (prX p c)]
 unfold abL
 have h1:=h.rl
 have h2:=h.pl
 have t1:=tRs (h_ p.recs (newR c))
 have t2:=tPs (P.aF p.prods (nL p c))
 have q1:p.prods.length<=9223372036854775806:=by omega
 have q2:p.recs.length<=9223372036854775806:=by omega
 rw [Kh]
 have ea:kG p.recs (newR c)=0->V.sO p.recs (newR c)=h_ p.recs (newR c)/\V.xH p.recs (newR c)=p.recs.length:=fun e=>by
  refine ⟨acH e,?_⟩
  unfold V.xH
  rw [Kh,if_pos e,wrap_u64 (by omega) (by omega)]
 unfold prF prX tL
 cases c1:fZ p.rng c.key
 · simp
 · by_cases c2:P.aS p.prods c.prod c.seq=2
   · simp [c2,q1]
   · by_cases c3:P.aS p.prods c.prod c.seq=3
     · simp [c3,q1]
     · by_cases c4:p.frozen=0
       · by_cases c5:kG p.recs (newR c)=0
         · obtain ⟨e3,e4⟩:=ea c5
           rw [e3,e4]
           have e1:P.aI p.prods (P.bK c.prod c.seq true p.recs.length)=P.aI p.prods (nL p c):=rfl
           have e2:P.aF p.prods (P.bK c.prod c.seq true p.recs.length)=P.aF p.prods (nL p c):=rfl
           rw [e1,e2]
           by_cases c6:P.aI p.prods (nL p c)=0
           · simp [c2,c3,c4,c5,c6,q1,q2,Rv]
             exact ⟨t1,t2⟩
           · by_cases c7:P.aI p.prods (nL p c)=999
             · exact absurd c7 (wG _ _)
             · simp [c2,c3,c4,c5,c6,c7,q1,q2]
               try exact t1
         · by_cases c7:kG p.recs (newR c)=999
           · exact absurd c7 (LB _ _)
           · simp [c2,c3,c4,c5,c7,q1,q2]
       · simp [c2,c3,c4,q1]
theorem ahf (p:Part) (c:cu) (h:eG p):(TF (cmF p c) (cmX p c)).Sat (aB Tryz.prog 70 [.agg (aX true p),.agg (bT c)] []):=by
 refine aP (ht:=agT p c) Tryz.mixed rfl ?_
 rw [VE p c (cmF p c) (cmX p c)]
 unfold abN vv qD
 have h1:=h.rl
 have h2:=h.pl
 have h3:=h.cl
 have t2:=tPs (P.aF p.prods (nM c))
 have t3:=tCs (aF p.cons ⟨c.name,c.off⟩)
 have e1:P.aI p.prods (P.bK c.prod c.seq false 0)=P.aI p.prods (nM c):=rfl
 have e2:P.aF p.prods (P.bK c.prod c.seq false 0)=P.aF p.prods (nM c):=rfl
 have e3:dH p.cons ⟨c.name,c.off⟩ (IntKind.u64.wrap (p.recs.length:Nat))=qE p c:=rfl
 rw [e1,e2,e3]
 have q1:p.prods.length<=9223372036854775806:=by omega
 have q2:p.recs.length<=9223372036854775806:=by omega
 have q3:p.cons.length<=9223372036854775806:=by omega
 unfold cmF cmX vE
 by_cases c2:P.aS p.prods c.prod c.seq=1
 · by_cases c4:p.frozen=0
   · by_cases c5:qE p c=0
     · by_cases c6:P.aI p.prods (nM c)=0
       · simp [c2,c4,c5,c6,q1,q3,RY]
         first | exact ⟨t2,t3⟩ | exact ⟨t3,t2⟩
       · by_cases c7:P.aI p.prods (nM c)=999
         · exact absurd c7 (wG _ _)
         · simp [c2,c4,c5,c6,c7,q1,q3]
           try exact t3
     · by_cases c7:qE p c=999
       · exact absurd c7 (Nj _ _ _)
       · simp [c2,c4,c5,c7,q1,q3]
   · simp [c2,c4,q1]
 · simp [c2,q1]
theorem afQ (p:Part) (c:cu) (hk:Q.Bj p) (h:eG p) (ho:0<=c.off/\c.off<18446744073709551616):(TF (dQ p c) (dX p c)).Sat (aB Tryz.prog 18 [.agg (aX true p),.agg (bT c)] []):=by
 have a1:ac3 p c (prF p c) (prX p c):=⟨agi p c h⟩
 have a2:ad6 p c (cmF p c) (cmX p c):=⟨ahf p c h⟩
 refine aP (ht:=agc p c ⟨prF p c,prX p c,0⟩ ⟨cmF p c,cmX p c,0⟩) Tryz.mixed rfl ?_
 rw [RZ p c ⟨prF p c,prX p c,0⟩ ⟨cmF p c,cmX p c,0⟩ ⟨dQ p c,dX p c,0⟩]
 unfold abl zC zZ
 dsimp only
 have eb:({ data:=#[] }:ByteArray)=ByteArray.empty:=rfl
 rw [eb]
 have h1:=h.rl
 have h3:=h.cl
 have hw:IntKind.u64.wrap c.off=c.off:=wrap_u64 ho.1 (by omega)
 have q2:p.recs.length<=9223372036854775806:=by omega
 have q3:p.cons.length<=9223372036854775806:=by omega
 have o1:0<=c.off:=ho.1
 have o2:c.off<=18446744073709551615:=by omega
 rw [Tz]
 have ef:Ga p.recs c.off=0->V.xE p.recs c.off c.most=vS p.recs c.off c.most:=fun e=>aei e ho.1
 simp only [a1,a2,hk,aG]
 cases k0:aH p
 · have d1:dQ p c=default:=by unfold dQ Wh;rw [if_pos k0]
   have d2:dX p c=⟨165,0,false,[]⟩:=by unfold dX PO;rw [if_pos k0]
   rw [d1,d2]
   simp
   exact ⟨rfl,rfl,rfl,rfl,rfl,rfl,rfl⟩
 · cases k1:dU c
   · have d1:dQ p c=p:=by unfold dQ Wh;rw [if_neg (by simp [k0]),if_pos (.inl k1)]
     have d2:dX p c=⟨161,0,false,[]⟩:=by unfold dX PO;rw [if_neg (by simp [k0]),if_pos k1]
     rw [d1,d2]
     simp
   · by_cases k2:c.epoch=p.epoch
     · have d1:dQ p c=if lg p c≠0 then p else Iw p c:=by unfold dQ Wh;simp [k0,k1,k2]
       have d2:dX p c=if lg p c≠0 then ⟨lg p c,0,false,[]⟩ else qp p c:=by unfold dX PO;simp [k0,k1,k2]
       rw [d1,d2]
       unfold prF prX cmF cmX Iw qp lg un9 JU
       have k2':(c.epoch != p.epoch)=false:=by simp [k2]
       by_cases j1:c.kind=1
       · by_cases e0:tL p c=0
         · simp [k2',j1,e0]
         · by_cases e9:tL p c=999
           · simp [k2',j1,e9]
           · simp [k2',j1,e0,e9]
       · by_cases j3:c.kind=3
         · by_cases e0:vE p c=0
           · simp [k2',j3,e0]
           · by_cases e9:vE p c=999
             · simp [k2',j3,e9]
             · simp [k2',j3,e0,e9]
         · by_cases j5:c.kind=5
           · by_cases f1:p.frozen=0
             · simp [k2',j5,f1,yC,Gc]
             · by_cases f2:p.frozen=c.plan
               · simp [k2',j5,f1,f2,yC,Gc]
               · simp [k2',j5,f1,f2,yC,Gc]
           · by_cases j6:c.kind=6
             · by_cases f1:p.frozen=0
               · simp [k2',j6,f1,yC,Gc]
               · by_cases f2:p.frozen=c.plan
                 · simp [k2',j6,f1,f2,yC,Gc]
                 · simp [k2',j6,f1,f2,yC,Gc]
             · by_cases fz:p.frozen=0
               · by_cases j2:c.kind=2
                 · by_cases e0:Ga p.recs c.off=0
                   · have t:=tRs (vS p.recs c.off c.most)
                     rw [ef e0]
                     simp [k2',j2,fz,e0,q2,o1,o2,hw]
                     try exact t
                   · simp [k2',j2,fz,e0,q2,o1,o2,hw]
                     exact tRs _
                 · by_cases j4:c.kind=4
                   · simp [k2',j4,fz,q3]
                   · exfalso
                     unfold dU at k1
                     simp [j1,j2,j3,j4,j5,j6] at k1
               · simp [k2',j1,j3,j5,j6,fz]
     · have d1:dQ p c=p:=by unfold dQ Wh;rw [if_neg (by simp [k0]),if_pos (.inr (.inl k2))]
       have d2:dX p c=⟨162,0,false,[]⟩:=by unfold dX PO;rw [if_neg (by simp [k0]),if_neg (by simp [k1]),if_pos k2]
       rw [d1,d2]
       simp [k2]
structure QoR (p:Part) (c:cu) (q:Part) (x:mX):Prop where
 q:q=dQ p c
 x:x=dX p c
 k:Q.Bj p
 i:eG p
 o:0<=c.off/\c.off<18446744073709551616
noncomputable def ab5 (p:Part) (c:cu) (q:Part) (x:mX):dZ Tryz.prog:=⟨18,[.agg (aX true p),.agg (bT c)],[],.need (QoR p c q x) (TF q x),T.Sat.need fun h=>by
 obtain ⟨rfl,rfl,h0,h1,h2⟩:=h
 exact afQ p c h0 h1 h2⟩
end R
namespace J
def f_ {α:Type} (f:RS->α×RS):Nat->RS->List α->List α×RS
 | 0,s,a=>(a,s)
 | n+1,s,a=>if s.e != 0 then (a,s) else f_ f n (f s).2 (a++[(f s).1])
def gI (l:List Int) (s:RS) (most:Int):List Rec×RS:=f_ (fF l) (aK l s most).1.toNat (aK l s most).2 []
theorem yT {l:List Int} {s:RS} (h:s.e≠0):aR l s=(0,s):=by
 unfold aR
 rw [if_pos (by simpa using h)]
theorem MU {l:List Int} {s:RS} (h:s.e≠0):gZ l s=(false,s):=by
 unfold gZ
 rw [if_pos (by simpa using h)]
theorem I6 {l:List Int} {s:RS} {m:Int} (h:s.e≠0):aK l s m=(0,s):=by
 unfold aK
 rw [yT h,if_pos (by simpa using h)]
theorem Qc {l:List Int} {s:RS} {m:Int} (h:s.e≠0):dh l s m=([],s):=by
 unfold dh
 rw [I6 h,if_pos (by simpa using h)]
theorem acV {l:List Int} {s:RS} {m:Int} (h:s.e≠0):(xK l s m).2=s:=by
 unfold xK
 rw [Qc h]
theorem Md {l:List Int} {s:RS} (h:s.e≠0):(gH l s).2=s:=by
 unfold gH
 simp only [yT h,MU h]
theorem QX {l:List Int} {s:RS} (h:s.e≠0):(jN l s).2=s:=by
 unfold jN
 simp only [yT h,acV h]
theorem FJ {α:Type} {f:RS->α×RS} (hf:∀ s,s.e≠0->(f s).2=s):∀ n s a,s.e≠0->(eT f n s a).2=s
 | 0,s,a,_=>rfl
 | n+1,s,a,h=>by
   unfold eT
   rw [hf s h]
   exact FJ hf n s _ h
theorem BX (l:List Int):∀ n s a,(f_ (fF l) n s a).2=(qL l n s a).2/\((qL l n s a).2.e=0->(f_ (fF l) n s a).1=(qL l n s a).1)
 | 0,s,a=>⟨rfl,fun _=>rfl⟩
 | n+1,s,a=>by
   unfold f_ qL
   by_cases h:s.e=0
   · have h0:(s.e != 0)=false:=by simp [h]
     simp only [h0,Bool.false_eq_true,if_false]
     exact BX l n _ _
   · have h0:(s.e != 0)=true:=by simpa using h
     simp only [h0,if_true]
     exact ⟨trivial,fun e=>absurd e h⟩
theorem tX {α:Type} {f:RS->α×RS} (hf:∀ s,s.e≠0->(f s).2=s):∀ n s a,(f_ f n s a).2=(eT f n s a).2/\((eT f n s a).2.e=0->(f_ f n s a).1=(eT f n s a).1)
 | 0,s,a=>⟨rfl,fun _=>rfl⟩
 | n+1,s,a=>by
   by_cases h:s.e=0
   · have h0:(s.e != 0)=false:=by simp [h]
     unfold f_ eT
     simp only [h0,Bool.false_eq_true,if_false]
     exact tX hf n _ _
   · have h0:(s.e != 0)=true:=by simpa using h
     have h1:=FJ hf (n+1) s a h
     rw [h1]
     unfold f_
     simp only [h0,if_true]
     exact ⟨trivial,fun e=>absurd e h⟩
theorem GY (l:List Int) (s:RS) (m:Int):(gI l s m).2=(yx l s m).2/\((yx l s m).2.e=0->(gI l s m).1=(yx l s m).1):=BX l _ _ _
theorem aep {l:List Int} {s:RS} (h:kS l s=0):s.e=0:=by
 unfold kS at h
 split at h
 · cases h
 · exact h
def xD (l:List Int) (s:RS):List P.Producer×RS:=f_ (gH l) (aK l s 256).1.toNat (aK l s 256).2 []
def LH (l:List Int) (s:RS):List Con×RS:=f_ (jN l) (aK l s 64).1.toNat (aK l s 64).2 []
def Yd (l:List Int):Pm×RS :=
 let g:=pR l default;let e:=aR l g.2;let f:=aR l e.2;let r:=gI l f.2 4096
 (⟨g.1,e.1,f.1,r.1⟩,r.2)
def pW (l:List Int):Part×RS :=
 let h:=Yd l;let p:=xD l h.2;let c:=LH l p.2
 (⟨h.1.rng,h.1.epoch,h.1.frozen,h.1.recs,p.1,c.1⟩,c.2)
theorem Ns {l:List Int} {s:RS} {m:Int} (h:(aK l s m).2.e=0):s.e=0:=by
 by_cases hs:s.e=0
 · exact hs
 · rw [I6 hs] at h;exact h
theorem TM {α:Type} {f:RS->α×RS} (hf:∀ s,s.e≠0->(f s).2=s) {n:Nat} {s:RS} {a:List α} (h:(eT f n s a).2.e=0):s.e=0:=by
 by_cases hs:s.e=0
 · exact hs
 · rw [FJ hf n s a hs] at h;exact h
theorem afs (l:List Int):(if kS l (pW l).2=0/\aH (pW l).1=true then ((pW l).1,(0:Int)) else (default,165))=nH l:=by
 have k1:=GY l (aR l (aR l (pR l default).2).2).2 4096
 have e1:(Yd l).2=(Lf l).2:=k1.1
 have k2:=tX (f:=gH l) (fun s h=>Md h) (aK l (Lf l).2 256).1.toNat (aK l (Lf l).2 256).2 []
 have e2:(xD l (Yd l).2).2=(nJ l (Lf l).2).2:=by rw [e1];exact k2.1
 have k3:=tX (f:=jN l) (fun s h=>QX h) (aK l (nJ l (Lf l).2).2 64).1.toNat (aK l (nJ l (Lf l).2).2 64).2 []
 have e3:(pW l).2=(wH l).2:=by
  show (LH l (xD l (Yd l).2).2).2=(IZ l (nJ l (Lf l).2).2).2
  rw [e2];exact k3.1
 unfold nH
 rw [e3]
 by_cases hd:kS l (wH l).2=0
 · have h3:(IZ l (nJ l (Lf l).2).2).2.e=0:=aep hd
   have c3:=k3.2 h3
   have h2:(nJ l (Lf l).2).2.e=0:=Ns (TM (fun s h=>QX h) h3)
   have c2:=k2.2 h2
   have h1:(Lf l).2.e=0:=Ns (TM (fun s h=>Md h) h2)
   have c1:=k1.2 h1
   have f1:(Yd l).1=(Lf l).1:=by
    unfold Yd Lf
    simp only [c1]
   have f2:(xD l (Yd l).2).1=(nJ l (Lf l).2).1:=by rw [e1];exact c2
   have f3:(LH l (xD l (Yd l).2).2).1=(IZ l (nJ l (Lf l).2).2).1:=by rw [e2];exact c3
   have f:(pW l).1=(wH l).1:=by
    unfold pW wH
    simp only [f1,f2,f3]
   rw [f]
 · rw [if_neg (fun h=>hd h.1),if_neg (fun h=>hd h.1)]
def qP:AV:=.ptr 1 0 0 0
def qM (l:List Int) (s:RS):List ay:=[.dead,.box 95 [ig true l,.y (.int .i64 s.at_),.y (.int .i64 s.e),.y (.int .i64 s.bad)]]
def dW (l:List Int) (s t:RS):Prop:=(true=true/\List.length l=List.length l/\aj (List.length l) (1:Nat) (ah aJ l) (ah aJ l))/\(↑s.at_:Int)=(↑t.at_:Int)/\s.e=t.e/\s.bad=t.bad/\True
@[simp] theorem ahJ (l:List Int) (s t:RS):dW l s t=((true=true/\List.length l=List.length l/\aj (List.length l) (1:Nat) (ah aJ l) (ah aJ l))/\(↑s.at_:Int)=(↑t.at_:Int)/\s.e=t.e/\s.bad=t.bad/\True):=rfl
noncomputable def JJ:aC Tryz.prog->aC Tryz.prog:=fun h=>nC h [118,57,97,60,59,61,62,56,119,58]
def qT (l:List Int) (s:RS) (i:Nat) (v:Int):List AV:=mkT 88 [(0,qP),(3,.y (.int .u64 v)),(4,.y (.int .i64 i))]
def qS (l:List Int) (w:Int) (s':RS) (_:Unit):Exit×List AV×List ay:=(.ret,mkT 88 [(2,.y (.int .u64 w))],qM l s')
def Bl (l:List Int) (s:RS) (w:Int) (q:UQ l s):Prop:=(IntKind.u64.wrap (q.v+IntKind.u64.wrap (IntKind.u64.wrap (IntKind.u8.wrap ((BitVec.toNat (BitVec.ofInt 8 (l.getD (Int.toNat (IntKind.i64.wrap ((s.at_:Int)+(q.i:Int)))) 0) &&& BitVec.ofInt 8 127)):Int))*2 ^ min (Int.toNat (IntKind.i64.wrap (7*(q.i:Int)))) 64))=w/\True)
def AU (l:List Int) (s:RS) (w:Int) (s':RS) (q:UQ l s):Prop:=(decide (l.getD (Int.toNat (IntKind.i64.wrap ((s.at_:Int)+(q.i:Int)))) (0:Int)<128)=true->((l.getD (Int.toNat (IntKind.i64.wrap ((s.at_:Int)+(q.i:Int)))) (0:Int)==0)=true->(decide (0<(q.i:Int))=true->((s.e==0)=true->(0=w/\True)/\(((lu l l)/\(s.at_:Int)=(s'.at_:Int)/\12=s'.e/\(s.at_:Int)=s'.bad/\True)/\True)/\true=true)/\((s.e==0)=false->(0=w/\True)/\((dW l s s')/\True)/\true=true))/\(decide (0<(q.i:Int))=false->(Bl l s w q)/\(((lu l l)/\IntKind.i64.wrap (IntKind.i64.wrap ((s.at_:Int)+(q.i:Int))+1)=(s'.at_:Int)/\s.e=s'.e/\s.bad=s'.bad/\True)/\True)/\true=true))/\((l.getD (Int.toNat (IntKind.i64.wrap ((s.at_:Int)+(q.i:Int)))) (0:Int)==0)=false->(Bl l s w q)/\(((lu l l)/\IntKind.i64.wrap (IntKind.i64.wrap ((s.at_:Int)+(q.i:Int))+1)=(s'.at_:Int)/\s.e=s'.e/\s.bad=s'.bad/\True)/\True)/\true=true))
def Bw (l:List Int) (s:RS) (q:UQ l s):Prop:=(decide (l.getD (Int.toNat (IntKind.i64.wrap ((s.at_:Int)+(q.i:Int)))) (0:Int)<128)=false->∃ (j:UQ l s),10 - j.i<10 - q.i/\(((0=0/\0=0)/\IntKind.u64.wrap (q.v+IntKind.u64.wrap (IntKind.u64.wrap (IntKind.u8.wrap ((BitVec.toNat (BitVec.ofInt 8 (l.getD (Int.toNat (IntKind.i64.wrap ((s.at_:Int)+(q.i:Int)))) 0) &&& BitVec.ofInt 8 127)):Int))*2 ^ min (Int.toNat (IntKind.i64.wrap (7*(q.i:Int)))) 64))=j.v/\IntKind.i64.wrap ((q.i:Int)+1)=(j.i:Int)/\True)/\((dW l s s)/\True)/\true=true)/\true=true/\()=())
def abt (l:List Int) (s:RS) (w:Int) (s':RS) (q:UQ l s):Prop :=
 (decide ((l.length:Int)<=IntKind.i64.wrap ((s.at_:Int)+(q.i:Int)))=true->((s.e==0)=true->(0=w/\True)/\(((lu l l)/\(s.at_:Int)=(s'.at_:Int)/\11=s'.e/\(s.at_:Int)=s'.bad/\True)/\True)/\true=true)/\((s.e==0)=false->(0=w/\True)/\((dW l s s')/\True)/\true=true))/\(decide ((l.length:Int)<=IntKind.i64.wrap ((s.at_:Int)+(q.i:Int)))=false->(decide (0<=IntKind.i64.wrap ((s.at_:Int)+(q.i:Int)))&&decide (IntKind.i64.wrap ((s.at_:Int)+(q.i:Int))<(l.length:Int)))=true/\(((q.i:Int)==9)=true->((l.getD (Int.toNat (IntKind.i64.wrap ((s.at_:Int)+(q.i:Int)))) 0 != 1)=true->((s.e==0)=true->(0=w/\True)/\(((lu l l)/\(s.at_:Int)=(s'.at_:Int)/\12=s'.e/\(s.at_:Int)=s'.bad/\True)/\True)/\true=true)/\((s.e==0)=false->(0=w/\True)/\((dW l s s')/\True)/\true=true))/\((l.getD (Int.toNat (IntKind.i64.wrap ((s.at_:Int)+(q.i:Int)))) 0 != 1)=false->true=true/\decide (0<=IntKind.i64.wrap (7*(q.i:Int)))=true/\(AU l s w s' q)/\(Bw l s q)))/\(((q.i:Int)==9)=false->true=true/\decide (0<=IntKind.i64.wrap (7*(q.i:Int)))=true/\(AU l s w s' q)/\(Bw l s q)))
theorem RI (l:List Int) (s:RS) (w:Int) (s':RS) (q:UQ l s):(bP Tryz.prog (JJ (hT _)) 57 6 (fun q:UQ l s=>10 - q.i) (fun q=>qT l s q.i q.v) (fun q=>qM l s) [] (fun _=>.ret ()) (qS l w s') q)=abt l s w s' q:=by kernel_rfl
noncomputable def quH (l:List Int) (s:RS) (w:Int) (s':RS) (q:UQ l s):aC Tryz.prog:=JJ (hh _ (mU 57 6 (dM (fun q:UQ l s=>qT l s q.i q.v) (fun _=>qM l s) [] (fun _=>.ret ()) (qS l w s') q) bO) bN bM)
def quR (l:List Int) (w:Int) (s':RS):T An:=.ret (.y (.int .u64 w),qM l s',[])
def agP (l:List Int) (s:RS) (w:Int) (s':RS) (q:UQ l s):Prop :=
 ((s.e != 0)=true->0=w/\(dW l s s')/\True)/\((s.e != 0)=false->(((0=0/\0=0)/\0=q.v/\0=(q.i:Int)/\True)/\((dW l s s)/\True)/\true=true)/\aL Tryz.prog 57 6 (aN Tryz.prog 57 6) { t:=qT l s q.i q.v,m:=qM l s,mv:=[]:St } (T.map (bJ [] (qS l w s')) ((fun (x:UQ l s)=>T.ret ()) q))/\w=w/\(dW l s' s')/\True)
theorem YH (l:List Int) (s:RS) (w:Int) (s':RS) (q:UQ l s):(jR Tryz.prog (quH l s w s' q) 57 [qP] (qM l s) (quR l w s'))=agP l s w s' q:=by kernel_rfl
theorem ahW {v c:Int} {i:Nat} (hi:i<=9) (v0:0<=v) (v1:v<2 ^ (7*i)) (c0:0<=c) (c1:c<256) (h9:i=9->c=1) :
 IntKind.wrap IntKind.u64 (v+IntKind.wrap IntKind.u64 (IntKind.wrap IntKind.u64 (IntKind.wrap IntKind.u8 (↑(BitVec.toNat (BitVec.ofInt (8:Nat) c &&& BitVec.ofInt (8:Nat) (127:Int))):Int))*(2:Int) ^ min (Int.toNat (IntKind.wrap IntKind.i64 ((7:Int)*(↑i:Int)))) (64:Nat)))=v+(c % 128)*2 ^ (7*i):=by
 rw [Qo c c0 c1,Et,wrap_i64 (by omega) (by omega)]
 have e1:c % 128 % 256=c % 128:=by omega
 have e2:min (Int.toNat (7*(i:Int))) 64=7*i:=by omega
 rw [e1,e2,wrU (c % 128)]
 have e3:c % 128 % 18446744073709551616=c % 128:=by omega
 rw [e3]
 obtain ⟨m0,m1⟩:=agL (d:=c % 128) hi (by omega) (by omega) (fun h=>by have:=h9 h;omega)
 rw [wrU (c % 128*2 ^ (7*i)),Int.emod_eq_of_lt m0 m1,wrU]
 obtain ⟨n0,n1⟩:=UW (c:=c) v0 v1
 refine Int.emod_eq_of_lt n0 ?_
 by_cases hi9:i=9
 · have:=h9 hi9
   subst this
   subst hi9
   have e:((1:Int) % 128)*2 ^ (7*9)=9223372036854775808:=by decide
   have e2:(2:Int) ^ (7*9)=9223372036854775808:=by decide
   rw [e2] at v1
   rw [e]
   omega
 · have hp9:(2:Int) ^ (7*(i+1))<=9223372036854775808:=(Zj (by omega)).1
   omega
theorem Fz {l:List Int} {s:RS} {e:Int} (h:s.e=0) (he:(qQ l s).1=e) (hn:e≠0):aR l s=(0,⟨s.at_,e,s.at_⟩):=by
 unfold aR kN
 rw [he,if_neg (by simp [h]),if_neg hn,if_neg (by simp [h])]
theorem Zu {l:List Int} {s:RS} {v:Int} {n:Nat} (h:s.e=0) (he:qQ l s=(0,v,n)):aR l s=(v,⟨s.at_+n,s.e,s.bad⟩):=by
 unfold aR
 rw [he,if_neg (by simp [h]),if_pos rfl]
theorem Wy (l:List Int) (s:RS) (hs:fq l s) (h0:s.e=0) (w:Int) (s':RS) (hp:(w,s')=aR l s) (q:UQ l s):aL Tryz.prog 57 6 (aN Tryz.prog 57 6) ⟨qT l s q.i q.v,qM l s,[]⟩ (T.map (bJ [] (qS l w s')) (.ret ())):=by
 refine dK (P:=Tryz.prog) (f:=57) (k:=6) (ι:=UQ l s) (μ:=fun q=>10 - q.i) (ht:=fun _=>JJ (hT _)) (sV:=fun q=>qT l s q.i q.v) (stM:=fun q=>qM l s) (X:=[]) (o:=fun _=>.ret ()) (S:=qS l w s') Tryz.mixed (fun _=>rfl) (fun q=>?_) q
 rw [RI l s w s' q]
 unfold abt Bw AU Bl
 obtain ⟨i,v,hi,hi9,he,v0,v1⟩:=q
 have hn:=hs.n
 have hat:=hs.at_
 have hlen:(l.drop s.at_).length=l.length - s.at_:=List.length_drop
 have h0':(s.e != 0)=false:=by simp [h0]
 have w1:IntKind.wrap IntKind.i64 ((s.at_:Int)+(i:Int))=((s.at_+i:Nat):Int):=by rw [wrap_i64 (by omega) (by omega)];omega
 simp only [w1,Int.toNat_natCast,Nat.zero_add]
 by_cases h:i<(l.drop s.at_).length
 · have hd:decide ((l.length:Int)<=((s.at_+i:Nat):Int))=false:=by simp only [decide_eq_false_iff_not];omega
   have hd2:decide (((s.at_+i:Nat):Int)<(l.length:Int))=true:=by simp only [decide_eq_true_eq];omega
   have hg:l.getD (s.at_+i) 0=(l.drop s.at_).getD i 0:=by simp [List.getD]
   have hcm:(l.drop s.at_).getD i 0∈l:=by
    refine List.mem_of_mem_drop (i:=s.at_) ?_
    simp only [List.getD,List.getElem?_eq_getElem h,Option.getD_some]
    exact List.getElem_mem h
   obtain ⟨c0,c1⟩:=hs.b.b _ hcm
   rw [Ih _ i h,Cm] at he
   obtain ⟨c,hc⟩:∃ c,(l.drop s.at_).getD i 0=c:=⟨_,rfl⟩
   rw [hc] at he c0 c1 hg
   have hg':l.getD (s.at_+i) default=c:=hg
   have hw7:decide ((0:Int)<=IntKind.wrap IntKind.i64 ((7:Int)*(i:Int)))=true:=by rw [wrap_i64 (by omega) (by omega)];simp;omega
   have w2:IntKind.wrap IntKind.i64 (((s.at_+i:Nat):Int)+1)=((s.at_+(i+1):Nat):Int):=by rw [wrap_i64 (by omega) (by omega)];omega
   have w3:IntKind.wrap IntKind.i64 ((i:Int)+1)=((i+1:Nat):Int):=by rw [wrap_i64 (by omega) (by omega)];omega
   have hp0:decide ((0:Int)<=((s.at_+i:Nat):Int))=true:=by simp only [decide_eq_true_eq];omega
   have he0:(s.e==0)=true:=by simp [h0]
   have hcl:=aG l.length 1 (ah aJ l)
   simp only [hd,hd2,hg,hg',hw7,w2,w3,hp0,he0]
   by_cases hA:i=9/\c≠1
   · rw [if_pos hA] at he
     obtain ⟨rfl,rfl⟩:=Prod.mk.inj (hp.trans (Fz h0 (e:=12) (by rw [<- he]) (by decide)))
     have b1:((i:Int)==9)=true:=by simp;omega
     have b2:(c != 1)=true:=by simpa using hA.2
     simp [b1,b2,hcl]
   · rw [if_neg hA] at he
     have h9:i=9->c=1:=fun h=>by
      by_cases hc:c=1
      · exact hc
      · exact absurd ⟨h,hc⟩ hA
     have hor:=ahW hi9 v0 v1 c0 c1 h9
     obtain ⟨n0,n1⟩:=UW (c:=c) v0 v1
     simp only [hor]
     have b12:(((i:Int)==9)=true->(c != 1)=false):=fun hb=>by
      have:i=9:=by simp at hb;omega
      rw [h9 this]
      rfl
     by_cases h128:128<=c
     · rw [if_pos h128] at he
       have hi8:i<=8:=by
        by_cases h:i=9
        · have:=h9 h;omega
        · omega
       have b1:((i:Int)==9)=false:=by simp;omega
       have b2:decide (c<(128:Int))=false:=by simp;omega
       simp only [b1,b2]
       simp [hcl]
       refine ⟨⟨i+1,v+(c % 128)*2 ^ (7*i),by omega,by omega,he,n0,n1⟩,by show 10 - (i+1)<10 - i;omega,rfl,?_⟩
       show ((i:Int)+1)=((i+1:Nat):Int)
       omega
     · rw [if_neg h128] at he
       have b2:decide (c<(128:Int))=true:=by simp;omega
       by_cases hz:c=0/\0<i
       · rw [if_pos hz] at he
         obtain ⟨rfl,rfl⟩:=Prod.mk.inj (hp.trans (Fz h0 (e:=12) (by rw [<- he]) (by decide)))
         have b1:((i:Int)==9)=false:=by
          by_cases h:i=9
          · have:=h9 h;omega
          · simp;omega
         have b3:decide ((0:Int)<(i:Int))=true:=by simp;omega
         simp [b1,b2,b3,hz.1,hcl]
         intro hzz
         exact absurd hzz (by omega)
       · rw [if_neg hz] at he
         obtain ⟨rfl,rfl⟩:=Prod.mk.inj (hp.trans (Zu h0 (v:=v+(c % 128)*2 ^ (7*i)) (n:=i+1) he.symm))
         have b3:((c==0)=true->decide ((0:Int)<(i:Int))=false):=fun hb=>by
          have:c=0:=by simpa using hb
          simp
          by_cases hh:0<i
          · exact absurd ⟨this,hh⟩ hz
          · omega
         simp only [b2]
         by_cases hi9':i=9
         · have hc1:=h9 hi9'
           have b1:((i:Int)==9)=true:=by simp;omega
           simp only [b1,b12 b1]
           simp [hc1,hcl]
         · have b1:((i:Int)==9)=false:=by simp;omega
           simp only [b1]
           cases hzz:(c==0)
           · simp [hcl]
           · simp only [b3 hzz]
             simp [hcl]
 · obtain rfl:i=(l.drop s.at_).length:=by omega
   have e0:(l.drop s.at_).drop (l.drop s.at_).length=[]:=List.drop_length
   rw [e0,Cm] at he
   obtain ⟨rfl,rfl⟩:=Prod.mk.inj (hp.trans (Fz h0 (e:=11) (by rw [<- he]) (by decide)))
   have hd:decide ((l.length:Int)<=((s.at_+(l.drop s.at_).length:Nat):Int))=true:=by simp only [decide_eq_true_eq];omega
   have he0:(s.e==0)=true:=by simp [h0]
   have hcl:=aG l.length 1 (ah aJ l)
   simp only [hd,he0]
   simp [hcl]
theorem aij (l:List Int) (s:RS) (hs:fq l s):(quR l (aR l s).1 (aR l s).2).Sat (aB Tryz.prog 57 [qP] (qM l s)):=by
 refine jo (ht:=quH l s (aR l s).1 (aR l s).2 ⟨0,0,by omega,by omega,rfl,by decide,by decide⟩) Tryz.mixed rfl ?_
 rw [YH l s (aR l s).1 (aR l s).2 ⟨0,0,by omega,by omega,rfl,by decide,by decide⟩]
 unfold agP
 have hcl:=aG l.length 1 (ah aJ l)
 by_cases he:s.e=0
 · have lp:=Wy l s hs he (aR l s).1 (aR l s).2 rfl ⟨0,0,by omega,by omega,rfl,by decide,by decide⟩
   have h0:(s.e != 0)=false:=by simp [he]
   simp only [h0]
   simp [hcl,lp]
   try exact lp
 · have h0:(s.e != 0)=true:=by simpa using he
   rw [yT he]
   simp only [h0]
   simp [hcl]
noncomputable def Wm (l:List Int) (s:RS) (w:Int) (s':RS):dZ Tryz.prog:=⟨57,[qP],qM l s,.need (fq l s) (.need ((w,s')=aR l s) (quR l w s')),T.Sat.need fun h=>T.Sat.need fun e=>by
 have e1:w=(aR l s).1:=congrArg Prod.fst e
 have e2:s'=(aR l s).2:=congrArg Prod.snd e
 rw [e1,e2]
 exact aij l s h⟩
def qiR (l:List Int) (w:Int) (s':RS):T An:=.ret (.y (.int .i64 w),qM l s',[])
def qbR (l:List Int) (w:Bool) (s':RS):T An:=.ret (.y (.bool w),qM l s',[])
def ag3 (l:List Int) (s:RS) (w:Bool) (s':RS):Prop :=
 ((s.e != 0)=true->false=w/\(dW l s s')/\True)/\((s.e != 0)=false->(decide ((l.length:Int)<=(s.at_:Int))=true->((s.e==0)=true->false=w/\((lu l l)/\(s.at_:Int)=(s'.at_:Int)/\11=s'.e/\(s.at_:Int)=s'.bad/\True)/\True)/\((s.e==0)=false->false=w/\(dW l s s')/\True))/\(decide ((l.length:Int)<=(s.at_:Int))=false->(true&&decide ((s.at_:Int)<(l.length:Int)))=true/\(decide (1<l.getD (Int.toNat (s.at_:Int)) 0)=true->((s.e==0)=true->false=w/\((lu l l)/\(s.at_:Int)=(s'.at_:Int)/\16=s'.e/\(s.at_:Int)=s'.bad/\True)/\True)/\((s.e==0)=false->false=w/\(dW l s s')/\True))/\(decide (1<l.getD (Int.toNat (s.at_:Int)) 0)=false->(decide (0<=IntKind.i64.wrap (IntKind.i64.wrap ((s.at_:Int)+1) - 1))&&decide (IntKind.i64.wrap (IntKind.i64.wrap ((s.at_:Int)+1) - 1)<(l.length:Int)))=true/\(l.getD (Int.toNat (IntKind.i64.wrap (IntKind.i64.wrap ((s.at_:Int)+1) - 1))) (0:Int)==1)=w/\((lu l l)/\IntKind.i64.wrap ((s.at_:Int)+1)=(s'.at_:Int)/\s.e=s'.e/\s.bad=s'.bad/\True)/\True)))
theorem Y_ (l:List Int) (s:RS) (w:Bool) (s':RS):(jR Tryz.prog (JJ (hT _)) 60 [qP] (qM l s) (qbR l w s'))=ag3 l s w s':=by kernel_rfl
noncomputable def qcH (l:List Int) (s:RS) (v:Int) (s1:RS):aC Tryz.prog:=JJ (hh _ bO (cs1 59 2 1 (Wm l s v s1) bN) bM)
def afK (l:List Int) (s:RS) (most:Int) (v:Int) (s1:RS) (w:Int) (s':RS):Prop :=
 ((0=0/\0=0)/\True)/\((dW l s s)/\True)/\fq l s/\(v,s1)=aR l s/\((s1.e != 0)=true->0=w/\(dW l s1 s')/\True)/\((s1.e != 0)=false->(decide (most<0)=true->((s1.e==0)=true->0=w/\((lu l l)/\(s.at_:Int)=(s'.at_:Int)/\13=s'.e/\(s.at_:Int)=s'.bad/\True)/\True)/\((s1.e==0)=false->0=w/\(dW l s1 s')/\True))/\(decide (most<0)=false->(decide (IntKind.u64.wrap most<v)=true->((s1.e==0)=true->0=w/\((lu l l)/\(s.at_:Int)=(s'.at_:Int)/\13=s'.e/\(s.at_:Int)=s'.bad/\True)/\True)/\((s1.e==0)=false->0=w/\(dW l s1 s')/\True))/\(decide (IntKind.u64.wrap most<v)=false->(decide (IntKind.u64.wrap (IntKind.i64.wrap ((l.length:Int) - (s1.at_:Int)))<v)=true->((s1.e==0)=true->0=w/\((lu l l)/\(s.at_:Int)=(s'.at_:Int)/\11=s'.e/\(s.at_:Int)=s'.bad/\True)/\True)/\((s1.e==0)=false->0=w/\(dW l s1 s')/\True))/\(decide (IntKind.u64.wrap (IntKind.i64.wrap ((l.length:Int) - (s1.at_:Int)))<v)=false->IntKind.i64.wrap v=w/\(dW l s1 s')/\True))))
theorem WR (l:List Int) (s:RS) (most:Int) (v:Int) (s1:RS) (w:Int) (s':RS):(jR Tryz.prog (qcH l s v s1) 59 [qP,.y (.int .i64 most)] (qM l s) (qiR l w s'))=afK l s most v s1 w s':=by kernel_rfl
def af7 (l:List Int) (s:RS) (w:Int):Prop :=
 ((s.e==0)=true->(decide ((s.at_:Int)<(l.length:Int))=true->15=w/\(dW l s s)/\True)/\(decide ((s.at_:Int)<(l.length:Int))=false->s.e=w/\(dW l s s)/\True))/\((s.e==0)=false->s.e=w/\(dW l s s)/\True)
theorem WW (l:List Int) (s:RS) (w:Int):(jR Tryz.prog (JJ (hT _)) 62 [qP] (qM l s) (qiR l w s))=af7 l s w:=by kernel_rfl
theorem aia (l:List Int) (s:RS) (hs:fq l s):(qbR l (gZ l s).1 (gZ l s).2).Sat (aB Tryz.prog 60 [qP] (qM l s)):=by
 have hat:=hs.at_
 have hn:=hs.n
 refine jo (ht:=JJ (hT _)) Tryz.mixed rfl ?_
 rw [Y_ l s (gZ l s).1 (gZ l s).2]
 unfold ag3
 have hcl:=aG l.length 1 (ah aJ l)
 by_cases he:s.e=0
 · have h0:(s.e != 0)=false:=by simp [he]
   have h0':(s.e==0)=true:=by simp [he]
   by_cases h1:s.at_=l.length
   · have hw:gZ l s=(false,kN s 11 s.at_):=by unfold gZ;simp [h0,h1]
     have b1:decide ((l.length:Int)<=(s.at_:Int))=true:=by simp;omega
     rw [hw]
     unfold kN
     simp only [b1,h0,h0']
     simp [hcl]
   · have b1:decide ((l.length:Int)<=(s.at_:Int))=false:=by simp;omega
     have b2:decide ((s.at_:Int)<(l.length:Int))=true:=by simp;omega
     by_cases h2:1<l.getD s.at_ 0
     · have hw:gZ l s=(false,kN s 16 s.at_):=by unfold gZ;simp only [h0,h1,h2];simp
       have b3:decide ((1:Int)<l.getD s.at_ 0)=true:=by simpa using h2
       rw [hw]
       unfold kN
       simp only [b1,b2,Int.toNat_natCast,Nat.zero_add,b3,h0,h0']
       simp [hcl]
     · have hw:gZ l s=(l.getD s.at_ 0==1,⟨s.at_+1,s.e,s.bad⟩):=by unfold gZ;simp only [h0,h1,h2];simp
       have b3:decide ((1:Int)<l.getD s.at_ 0)=false:=by simpa using h2
       have w1:IntKind.wrap IntKind.i64 ((s.at_:Int)+1)=((s.at_+1:Nat):Int):=by rw [wrap_i64 (by omega) (by omega)];omega
       have w2:IntKind.wrap IntKind.i64 (((s.at_+1:Nat):Int) - 1)=(s.at_:Int):=by rw [wrap_i64 (by omega) (by omega)];omega
       rw [hw]
       simp only [b1,b2,Int.toNat_natCast,Nat.zero_add,b3,w1,w2,h0,h0']
       simp [hcl,he]
 · have h0:(s.e != 0)=true:=by simpa using he
   rw [MU he]
   simp only [h0]
   simp [hcl]
noncomputable def qbC (l:List Int) (s:RS) (w:Bool) (s':RS):dZ Tryz.prog:=⟨60,[qP],qM l s,.need (fq l s) (.need ((w,s')=gZ l s) (qbR l w s')),T.Sat.need fun h=>T.Sat.need fun e=>by
 have e1:w=(gZ l s).1:=congrArg Prod.fst e
 have e2:s'=(gZ l s).2:=congrArg Prod.snd e
 rw [e1,e2]
 exact aia l s h⟩
theorem aik (l:List Int) (s:RS) (most:Int) (hm:yI most) (hs:fq l s):(qiR l (aK l s most).1 (aK l s most).2).Sat (aB Tryz.prog 59 [qP,.y (.int .i64 most)] (qM l s)):=by
 obtain ⟨hs1,hu⟩:=dG hs
 have hn:=hs.n
 have hat:=hs1.at_
 refine jo (ht:=qcH l s (aR l s).1 (aR l s).2) Tryz.mixed rfl ?_
 rw [WR l s most (aR l s).1 (aR l s).2 (aK l s most).1 (aK l s most).2]
 unfold afK
 have hcl:=aG l.length 1 (ah aJ l)
 obtain ⟨v,s1,hv⟩:∃ v s1,aR l s=(v,s1):=⟨_,_,rfl⟩
 unfold aK
 rw [hv] at hs1 hu hat ⊢
 simp only at hs1 hu hat ⊢
 have hv0:=hu.lo
 have hv1:=hu.hi
 by_cases he:s1.e=0
 · have h0:(s1.e != 0)=false:=by simp [he]
   have h0':(s1.e==0)=true:=by simp [he]
   by_cases h1:most<0
   · have b1:decide (most<0)=true:=by simpa using h1
     simp only [b1,h0,h0']
     simp [hs,h1,kN,he,hcl]
   · have b1:decide (most<0)=false:=by simpa using h1
     have w1:IntKind.wrap IntKind.u64 most=most:=wrap_u64 (by omega) (by have:=hm.hi;omega)
     have w2:IntKind.wrap IntKind.i64 ((l.length:Int) - s1.at_)=(l.length:Int) - s1.at_:=wrap_i64 (by omega) (by omega)
     have w3:IntKind.wrap IntKind.u64 ((l.length:Int) - s1.at_)=(l.length:Int) - s1.at_:=wrap_u64 (by omega) (by omega)
     simp only [b1,w1,w2,w3,h0,h0']
     by_cases h2:most<v
     · have b2:decide (most<v)=true:=by simpa using h2
       simp only [b2]
       simp [hs,h1,h2,kN,he,hcl]
     · have b2:decide (most<v)=false:=by simpa using h2
       simp only [b2]
       by_cases h3:(l.length:Int) - s1.at_<v
       · have b3:decide ((l.length:Int) - s1.at_<v)=true:=by simpa using h3
         simp only [b3]
         simp [hs,h1,h2,h3,kN,he,hcl]
       · have b3:decide ((l.length:Int) - s1.at_<v)=false:=by simpa using h3
         have w4:IntKind.wrap IntKind.i64 v=v:=wrap_i64 (by omega) (by omega)
         simp only [b3,w4]
         simp [hs,h1,h2,h3,he,hcl]
 · have h0:(s1.e != 0)=true:=by simpa using he
   simp only [h0]
   simp [hs,hcl]
noncomputable def qcC (l:List Int) (s:RS) (most:Int) (w:Int) (s':RS):dZ Tryz.prog:=⟨59,[qP,.y (.int .i64 most)],qM l s,.need (fq l s/\yI most) (.need ((w,s')=aK l s most) (qiR l w s')),T.Sat.need fun h=>T.Sat.need fun e=>by
 have e1:w=(aK l s most).1:=congrArg Prod.fst e
 have e2:s'=(aK l s most).2:=congrArg Prod.snd e
 rw [e1,e2]
 exact aik l s most h.2 h.1⟩
theorem ahX (l:List Int) (s:RS) (hs:fq l s):(qiR l (kS l s) s).Sat (aB Tryz.prog 62 [qP] (qM l s)):=by
 refine jo (ht:=JJ (hT _)) Tryz.mixed rfl ?_
 rw [WW l s (kS l s)]
 unfold af7 kS
 have hcl:=aG l.length 1 (ah aJ l)
 by_cases h:s.e=0
 · by_cases h2:s.at_<l.length
   · simp [h,h2,hcl]
   · simp [h,h2,hcl]
 · simp [h,hcl]
noncomputable def qdC (l:List Int) (s:RS):dZ Tryz.prog:=⟨62,[qP],qM l s,.need (fq l s) (qiR l (kS l s) s),T.Sat.need fun h=>ahX l s h⟩
def qyR (l:List Int) (t:List Int) (s':RS):T An:=.ret (ig true t,qM l s',[2])
noncomputable def qyH (l:List Int) (s:RS) (most:Int) (n:Int) (s1:RS):aC Tryz.prog:=JJ (dO (hh _ bO (cs1 61 1 2 (qcC l s most n s1) bN) bM) (uL 61 5 17 779 noSh))
def ae_ (l:List Int) (s:RS) (most:Int) (n:Int) (s1:RS) (t:List Int) (s':RS):Prop :=
 ((0=0/\0=0)/\most=most/\True)/\((dW l s s)/\True)/\(fq l s/\yI most)/\(n,s1)=aK l s most/\((s1.e != 0)=true->t.length=0/\(dW l s1 s')/\True)/\((s1.e != 0)=false->(decide (0<=IntKind.i64.wrap (IntKind.i64.wrap ((s1.at_:Int)+n) - n))&&decide (IntKind.i64.wrap (IntKind.i64.wrap ((s1.at_:Int)+n) - n)<=IntKind.i64.wrap ((s1.at_:Int)+n))&&decide (IntKind.i64.wrap ((s1.at_:Int)+n)<=(l.length:Int)))=true/\(decide (0+(Int.toNat (IntKind.i64.wrap ((s1.at_:Int)+n)) - Int.toNat (IntKind.i64.wrap (IntKind.i64.wrap ((s1.at_:Int)+n) - n)))<=9223372036854775807)&&decide ((0+(Int.toNat (IntKind.i64.wrap ((s1.at_:Int)+n)) - Int.toNat (IntKind.i64.wrap (IntKind.i64.wrap ((s1.at_:Int)+n) - n))))*1<=140737488355328))=true/\(∀ k,k<0+(Int.toNat (IntKind.i64.wrap ((s1.at_:Int)+n)) - Int.toNat (IntKind.i64.wrap (IntKind.i64.wrap ((s1.at_:Int)+n) - n)))->∀ j,j<1->fC (aY 0 (fun (k j:Nat)=>AV.junk) (fun (k:Nat)=>ah aJ l (Int.toNat (IntKind.i64.wrap (IntKind.i64.wrap ((s1.at_:Int)+n) - n))+k)) k j)=true)/\(true=true/\0+(Int.toNat (IntKind.i64.wrap ((s1.at_:Int)+n)) - Int.toNat (IntKind.i64.wrap (IntKind.i64.wrap ((s1.at_:Int)+n) - n)))=t.length/\aj (0+(Int.toNat (IntKind.i64.wrap ((s1.at_:Int)+n)) - Int.toNat (IntKind.i64.wrap (IntKind.i64.wrap ((s1.at_:Int)+n) - n)))) 1 (Ax.rowAt 0 (aY 0 (fun (k j:Nat)=>AV.junk) fun (k:Nat)=>ah aJ l (Int.toNat (IntKind.i64.wrap (IntKind.i64.wrap ((s1.at_:Int)+n) - n))+k))) (ah aJ t))/\((lu l l)/\IntKind.i64.wrap ((s1.at_:Int)+n)=(s'.at_:Int)/\s1.e=s'.e/\s1.bad=s'.bad/\True)/\True)
theorem ZX (l:List Int) (s:RS) (most:Int) (n:Int) (s1:RS) (t:List Int) (s':RS):(jR Tryz.prog (qyH l s most n s1) 61 [qP,.y (.int .i64 most)] (qM l s) (qyR l t s'))=ae_ l s most n s1 t s':=by kernel_rfl
theorem aeZ {f:FuncId} {args:List AV} {M:List ay} {l t:List Int} {s:RS} (hM:getM M 2=.dead) (h:(qyR l t s).Sat (aB Tryz.prog f args M)):(T.ret (ig true t,qM l s,[]):T An).Sat (aB Tryz.prog f args M):=by
 have h1:aB Tryz.prog f args M (ig true t,qM l s,[2]):=yV h
 have h2:aB Tryz.prog f args M (ig true t,qM l s,[]):=HZ h1 fun i hi=>by
  obtain rfl:=List.mem_singleton.1 hi
  exact .inr hM
 exact T.Sat.ret h2
theorem ai6 (l:List Int) (s:RS) (most:Int) (hm:yI most) (hs:fq l s):(T.ret (ig true (dh l s most).1,qM l (dh l s most).2,[]):T An).Sat (aB Tryz.prog 61 [qP,.y (.int .i64 most)] (qM l s)):=by
 refine aeZ rfl ?_
 obtain ⟨hs1,hu,hle⟩:=fJ (most:=most) hs
 have hn:=hs.n
 have hat:=hs1.at_
 refine jo (ht:=qyH l s most (aK l s most).1 (aK l s most).2) Tryz.mixed rfl ?_
 rw [ZX l s most (aK l s most).1 (aK l s most).2 (dh l s most).1 (dh l s most).2]
 unfold ae_
 have hcl:=aG l.length 1 (ah aJ l)
 unfold dh
 obtain ⟨n,s1,hv⟩:∃ v s1,aK l s most=(v,s1):=⟨_,_,rfl⟩
 rw [hv] at hs1 hu hat hle ⊢
 simp only at hs1 hu hat hle ⊢
 have hv0:=hu.lo
 by_cases he:s1.e=0
 · have h0:(s1.e != 0)=false:=by simp [he]
   have hle:=hle he
   have w1:IntKind.wrap IntKind.i64 ((s1.at_:Int)+n)=(s1.at_:Int)+n:=wrap_i64 (by omega) (by omega)
   have w2:IntKind.wrap IntKind.i64 ((s1.at_:Int)+n - n)=(s1.at_:Int):=by rw [wrap_i64 (by omega) (by omega)];omega
   simp only [w1,w2,Int.toNat_natCast,h0,Nat.zero_add]
   obtain ⟨m,rfl⟩:=Int.eq_ofNat_of_zero_le hv0
   have e1:((s1.at_:Int)+(m:Int)).toNat - s1.at_=m:=by omega
   have e2:((l.drop s1.at_).take m).length=m:=by rw [List.length_take,List.length_drop];omega
   have hc:aj m 1 (Ax.rowAt 0 (aY 0 (fun (k j:Nat)=>AV.junk) fun (k:Nat)=>ah aJ l (s1.at_+k))) (ah aJ ((l.drop s1.at_).take m)):=by
    intro k hk j hj
    unfold Ax.rowAt aY ah
    have:((l.drop s1.at_).take m).getD k default=l.getD (s1.at_+k) default:=by simp [List.getD,List.getElem?_take,hk]
    rw [this]
    simp
   have ht:∀ (k:Nat),k<m->∀ (j:Nat),j<1->fC (aY 0 (fun (k j:Nat)=>AV.junk) (fun (k:Nat)=>ah aJ l (s1.at_+k)) k j)=true:=fun k hk j hj=>by
    obtain rfl:j=0:=by omega
    unfold aY
    simp
    rfl
   simp only [e1,Int.toNat_natCast]
   have b1:decide ((0:Int)<=(s1.at_:Int))=true:=by simp
   have b2:decide ((s1.at_:Int)<=(s1.at_:Int)+(m:Int))=true:=by simp only [decide_eq_true_eq];omega
   have b3:decide ((s1.at_:Int)+(m:Int)<=(l.length:Int))=true:=by simp;omega
   have b4:decide (m<=9223372036854775807)=true:=by simp;omega
   have b5:decide (m*1<=140737488355328)=true:=by simp;omega
   simp only [b1,b2,b3,b4,b5,hcl,hs,hm,hc,e2]
   simp
   exact ⟨fun k hk=>ht k hk 0 (by decide),by omega,hc⟩
 · have h0:(s1.e != 0)=true:=by simpa using he
   simp only [h0]
   simp [hs,hm,hcl]
noncomputable def qyC (l:List Int) (s:RS) (most:Int) (t:List Int) (s':RS):dZ Tryz.prog:=⟨61,[qP,.y (.int .i64 most)],qM l s,.need (fq l s/\yI most) (.need ((t,s')=dh l s most) (.ret (ig true t,qM l s',[]))),T.Sat.need fun h=>T.Sat.need fun e=>by
 have e1:t=(dh l s most).1:=congrArg Prod.fst e
 have e2:s'=(dh l s most).2:=congrArg Prod.snd e
 rw [e1,e2]
 exact ai6 l s most h.2 h.1⟩
def qgR (l:List Int) (r:kJ) (s':RS):T An:=.ret (.agg (mG r),qM l s',[])
noncomputable def qgH (l:List Int) (s:RS) (a:List Int) (s1:RS) (b:List Int) (s2:RS):aC Tryz.prog:=JJ (hh _ bO (cs1 56 1 1 (qyC l s 32 a s1) (cs1 56 2 1 (qyC l s1 32 b s2) bN)) bM)
def afL (l:List Int) (s:RS) (a:List Int) (s1:RS) (b:List Int) (s2:RS) (r:kJ):Prop :=
 ((0=0/\0=0)/\(32:Int)=32/\True)/\((dW l s s)/\True)/\(fq l s/\yI 32)/\(a,s1)=dh l s 32/\(∀ k,k<a.length->true=true)/\((0=0/\0=0)/\(32:Int)=32/\True)/\((dW l s1 s1)/\True)/\(fq l s1/\yI 32)/\(b,s2)=dh l s1 32/\(∀ k,k<b.length->true=true)/\((s2.e != 0)=true->({ data:=#[]:ByteArray }=r.lo/\{ data:=#[]:ByteArray }=r.hi/\True)/\(dW l s2 s2)/\True)/\((s2.e != 0)=false->(Ig a.length (ah aJ a)=r.lo/\Ig b.length (ah aJ b)=r.hi/\True)/\(dW l s2 s2)/\True)
theorem Xw (l:List Int) (s:RS) (a:List Int) (s1:RS) (b:List Int) (s2:RS) (r:kJ):(jR Tryz.prog (qgH l s a s1 b s2) 56 [qP] (qM l s) (qgR l r s2))=afL l s a s1 b s2 r:=by kernel_rfl
def qxR (l:List Int) (r:Rec) (s':RS):T An:=.ret (.agg (encR r),qM l s',[])
noncomputable def qxH (l:List Int) (s:RS) (a:Int) (s1:RS) (b:List Int) (s2:RS) (c:List Int) (s3:RS) (d:Int) (s4:RS) (e:Int) (s5:RS):aC Tryz.prog:=JJ (hh _ bO (cs1 119 1 1 (Wm l s a s1) (cs1 119 2 1 (qyC l s1 32 b s2) (cs1 119 3 1 (qyC l s2 256 c s3) (cs1 119 4 1 (Wm l s3 d s4) (cs1 119 5 1 (Wm l s4 e s5) bN))))) bM)
def aeE (l:List Int) (s:RS) (a:Int) (s1:RS) (b:List Int) (s2:RS) (c:List Int) (s3:RS) (d:Int) (s4:RS) (e:Int) (s5:RS) (r:Rec):Prop :=
 ((0=0/\0=0)/\True)/\((dW l s s)/\True)/\fq l s/\(a,s1)=aR l s/\((0=0/\0=0)/\(32:Int)=32/\True)/\((dW l s1 s1)/\True)/\(fq l s1/\yI 32)/\(b,s2)=dh l s1 32/\(∀ k,k<b.length->true=true)/\((0=0/\0=0)/\(256:Int)=256/\True)/\((dW l s2 s2)/\True)/\(fq l s2/\yI 256)/\(c,s3)=dh l s2 256/\((0=0/\0=0)/\True)/\((dW l s3 s3)/\True)/\fq l s3/\(d,s4)=aR l s3/\((0=0/\0=0)/\True)/\((dW l s4 s4)/\True)/\fq l s4/\(e,s5)=aR l s4/\((s5.e != 0)=true->(0=r.off/\{ data:=#[]:ByteArray }=r.key/\r.val.length=0/\0=r.prod/\0=r.seq/\True)/\(dW l s5 s5)/\True)/\((s5.e != 0)=false->(a=r.off/\Ig b.length (ah aJ b)=r.key/\(lu c r.val)/\d=r.prod/\e=r.seq/\True)/\(dW l s5 s5)/\True)
theorem X0 (l:List Int) (s:RS) (a:Int) (s1:RS) (b:List Int) (s2:RS) (c:List Int) (s3:RS) (d:Int) (s4:RS) (e:Int) (s5:RS) (r:Rec):(jR Tryz.prog (qxH l s a s1 b s2 c s3 d s4 e s5) 119 [qP] (qM l s) (qxR l r s5))=aeE l s a s1 b s2 c s3 d s4 e s5 r:=by kernel_rfl
theorem Ky {l:List Int} {s:RS} {m:Int} {t:List Int} {s':RS} (e:(t,s')=dh l s m):xK l s m=(strOf t,s'):=by
 unfold xK
 rw [<- e]
theorem aiC (l:List Int) (s:RS) (hs:fq l s):(qgR l (pR l s).1 (pR l s).2).Sat (aB Tryz.prog 56 [qP] (qM l s)):=by
 obtain ⟨a,s1,e1⟩:∃ v t,(v,t)=dh l s 32:=⟨_,_,rfl⟩
 have h1:=Ku hs e1
 obtain ⟨b,s2,e2⟩:∃ v t,(v,t)=dh l s1 32:=⟨_,_,rfl⟩
 have hr:pR l s=(if s2.e != 0 then (default,s2) else (⟨strOf a,strOf b⟩,s2)):=by
  unfold pR
  simp only [Ky e1,Ky e2]
 have hr2:(pR l s).2=s2:=by rw [hr];split<;>rfl
 refine jo (ht:=qgH l s a s1 b s2) Tryz.mixed rfl ?_
 rw [hr2,Xw l s a s1 b s2 (pR l s).1]
 unfold afL
 rw [hr]
 have hcl:=aG l.length 1 (ah aJ l)
 have q:=Kk
 by_cases he:s2.e=0
 · have h0:(s2.e != 0)=false:=by simp [he]
   simp [hs,h1,q,e1,e2,he,hcl]
   exact ⟨rfl,rfl⟩
 · have h0:(s2.e != 0)=true:=by simpa using he
   simp [hs,h1,q,e1,e2,he,hcl]
   exact ⟨rfl,rfl⟩
noncomputable def qgC (l:List Int) (s:RS) (r:kJ) (s':RS):dZ Tryz.prog:=⟨56,[qP],qM l s,.need (fq l s) (.need ((r,s')=pR l s) (qgR l r s')),T.Sat.need fun h=>T.Sat.need fun e=>by
 have e1:r=(pR l s).1:=congrArg Prod.fst e
 have e2:s'=(pR l s).2:=congrArg Prod.snd e
 rw [e1,e2]
 exact aiC l s h⟩
theorem ai3 (l:List Int) (s:RS) (hs:fq l s):(qxR l (fF l s).1 (fF l s).2).Sat (aB Tryz.prog 119 [qP] (qM l s)):=by
 obtain ⟨a,s1,e1⟩:∃ v t,(v,t)=aR l s:=⟨_,_,rfl⟩
 have h1:=(Dx hs e1).1
 obtain ⟨b,s2,e2⟩:∃ v t,(v,t)=dh l s1 32:=⟨_,_,rfl⟩
 have h2:=Ku h1 e2
 obtain ⟨c,s3,e3⟩:∃ v t,(v,t)=dh l s2 256:=⟨_,_,rfl⟩
 have h3:=Ku h2 e3
 obtain ⟨d,s4,e4⟩:∃ v t,(v,t)=aR l s3:=⟨_,_,rfl⟩
 have h4:=(Dx h3 e4).1
 obtain ⟨e,s5,e5⟩:∃ v t,(v,t)=aR l s4:=⟨_,_,rfl⟩
 have hr:fF l s=(if s5.e != 0 then (default,s5) else (⟨a,strOf b,c,d,e⟩,s5)):=by
  unfold fF
  simp only [<- e1,Ky e2,<- e3,<- e4,<- e5]
 have hr2:(fF l s).2=s5:=by rw [hr];split<;>rfl
 refine jo (ht:=qxH l s a s1 b s2 c s3 d s4 e s5) Tryz.mixed rfl ?_
 rw [hr2,X0 l s a s1 b s2 c s3 d s4 e s5 (fF l s).1]
 unfold aeE
 rw [hr]
 have hcl:=aG l.length 1 (ah aJ l)
 have q:=Kk
 have q2:=Nk
 by_cases he:s5.e=0
 · have h0:(s5.e != 0)=false:=by simp [he]
   simp [hs,h1,h2,h3,h4,q,q2,e1,e2,e3,e4,e5,he,hcl]
   rfl
 · have h0:(s5.e != 0)=true:=by simpa using he
   simp [hs,h1,h2,h3,h4,q,q2,e1,e2,e3,e4,e5,he,hcl]
   repeat' with_reducible apply And.intro
   all_goals rfl
noncomputable def qxC (l:List Int) (s:RS) (r:Rec) (s':RS):dZ Tryz.prog:=⟨119,[qP],qM l s,.need (fq l s) (.need ((r,s')=fF l s) (qxR l r s')),T.Sat.need fun h=>T.Sat.need fun e=>by
 have e1:r=(fF l s).1:=congrArg Prod.fst e
 have e2:s'=(fF l s).2:=congrArg Prod.snd e
 rw [e1,e2]
 exact ai3 l s h⟩
structure DQ {α:Type} (f:RS->α×RS) (l:List Int) (m:Nat) (t:List α) (s':RS) where
 n:Nat
 s:RS
 a:List α
 e:f_ f n s a=(t,s')
 h:fq l s
 k:n<=m
 z:a.length=m - n
def qlT (m n:Nat) (a:List Rec):List AV:=mkT 29 [(0,qP),(5,.y (.int .i64 m)),(6,.own 2 5 0 a.length),(7,.y (.int .i64 ((m - n:Nat):Int)))]
def qlM (l:List Int) (s:RS) (a:List Rec):List ay:=qM l s++[OJ a]
def qlS (l:List Int) (t:List Rec) (s':RS) (_:Unit):Exit×List AV×List ay:=(.exit 0,mkT 29 [(0,qP),(6,.own 2 5 0 t.length)],qlM l s' t)
noncomputable def qlH (l:List Int) (s:RS) (r:Rec) (s1:RS):aC Tryz.prog:=JJ (dO (hh _ bO (cs1 58 6 2 (qxC l s r s1) bN) bM) (uL 58 6 5 4 noSh))
def afN (l:List Int) (m:Nat) (t:List Rec) (s':RS) (q:DQ (fF l) l m t s') (r:Rec) (s1:RS):Prop :=
 (decide ((↑(m - q.n):Int)<(↑m:Int))=true->((q.s.e==(0:Int))=true->(((0:Nat)=(0:Nat)/\(0:Nat)=(0:Nat))/\True)/\((dW l q.s q.s)/\True)/\fq l q.s/\(r,s1)=fF l q.s/\(decide (List.length q.a=List.length q.a)&&decide (List.length q.a+(1:Nat)<=(9223372036854775807:Nat))&&decide ((List.length q.a+(1:Nat))*(64:Nat)<=(140737488355328:Nat)))=true/\∃ (j:DQ (fF l) l m t s'),j.n<q.n/\((((0:Nat)=(0:Nat)/\(0:Nat)=(0:Nat))/\(↑m:Int)=(↑m:Int)/\((0:Nat)=(0:Nat)/\List.length q.a+(1:Nat)=List.length j.a)/\IntKind.wrap IntKind.i64 ((↑(m - q.n):Int)+(1:Int))=(↑(m - j.n):Int)/\True)/\((dW l s1 j.s)/\(List.length q.a+(1:Nat)=List.length j.a/\aj (List.length q.a+(1:Nat)) (5:Nat) (aY (List.length q.a) (ah encR q.a) fun (k j:Nat)=>Ax.get [AV.y (Value.int IntKind.u64 r.off),AV.y (Value.string r.key),AV.ys true (1:Nat) (List.length r.val) (ah aJ r.val),AV.y (Value.int IntKind.u64 r.prod),AV.y (Value.int IntKind.u64 r.seq)] (k*(5:Nat)+j)) (ah encR j.a))/\True)/\true=true)/\true=true/\()=())/\((q.s.e==(0:Int))=false->(((0:Nat)=(0:Nat)/\(0:Nat)=(0:Nat))/\((0:Nat)=(0:Nat)/\List.length q.a=List.length t)/\True)/\((dW l q.s s')/\(List.length q.a=List.length t/\aj (List.length q.a) (5:Nat) (ah encR q.a) (ah encR t))/\True)/\true=true))/\(decide ((↑(m - q.n):Int)<(↑m:Int))=false->(((0:Nat)=(0:Nat)/\(0:Nat)=(0:Nat))/\((0:Nat)=(0:Nat)/\List.length q.a=List.length t)/\True)/\((dW l q.s s')/\(List.length q.a=List.length t/\aj (List.length q.a) (5:Nat) (ah encR q.a) (ah encR t))/\True)/\true=true)
theorem WV (l:List Int) (m:Nat) (t:List Rec) (s':RS) (q:DQ (fF l) l m t s') (r:Rec) (s1:RS):(bP Tryz.prog (qlH l q.s r s1) 58 4 (fun q:DQ (fF l) l m t s'=>q.n) (fun q=>qlT m q.n q.a) (fun q=>qlM l q.s q.a) [2,3] (fun _=>.ret ()) (qlS l t s') q)=afN l m t s' q r s1:=by kernel_rfl
noncomputable def ahg (l:List Int) (s:RS) (most:Int) (m:Nat) (s1:RS) (t:List Rec) (s':RS) (q:DQ (fF l) l m t s'):aC Tryz.prog:=JJ (dO (hh _ (mU 58 4 (dM (fun q:DQ (fF l) l m t s'=>qlT m q.n q.a) (fun q=>qlM l q.s q.a) [2,3] (fun _=>.ret ()) (qlS l t s') q) bO) (cs1 58 1 2 (qcC l s most (m:Int) s1) bN) (op1 58 2 0 (.row 54 5) bM)) (uL 58 7 1 779 noSh))
def qlR (l:List Int) (t:List Rec) (s':RS):T An:=.ret (dL true t,qM l s',[2,3])
def aaR (l:List Int) (s:RS) (most:Int) (m:Nat) (s1:RS) (t:List Rec) (s':RS) (q:DQ (fF l) l m t s'):Prop :=
 (((0:Nat)=(0:Nat)/\(0:Nat)=(0:Nat))/\most=most/\True)/\((dW l s s)/\True)/\(fq l s/\yI most)/\((↑m:Int),s1)=aK l s most/\((((0:Nat)=(0:Nat)/\(0:Nat)=(0:Nat))/\(↑m:Int)=(↑m:Int)/\((0:Nat)=(0:Nat)/\(0:Nat)=List.length q.a)/\(0:Int)=(↑(m - q.n):Int)/\True)/\((dW l s1 q.s)/\((0:Nat)=List.length q.a/\aj (0:Nat) (5:Nat) (fun (x x_1:Nat)=>AV.junk) (ah encR q.a))/\True)/\true=true)/\aL Tryz.prog (58:Nat) (4:Nat) (aN Tryz.prog (58:Nat) (4:Nat)) { t:=qlT m q.n q.a,m:=qlM l q.s q.a,mv:=[]:St } (T.map (bJ [(2:Nat),(3:Nat)] (qlS l t s')) ((fun (x:DQ (fF l) l m t s')=>T.ret ()) q))/\(∀ (k:Nat),k<List.length t->∀ (j:Nat),j<(5:Nat)->fC (ah encR t k j)=true)/\(true=true/\List.length t=List.length t/\aj (List.length t) (5:Nat) (Ax.rowAt (0:Nat) (ah encR t)) (ah encR t))/\(dW l s' s')/\True
theorem QE (l:List Int) (s:RS) (most:Int) (m:Nat) (s1:RS) (t:List Rec) (s':RS) (q:DQ (fF l) l m t s'):(jR Tryz.prog (ahg l s most m s1 t s' q) 58 [qP,.y (.int .i64 most)] (qM l s) (qlR l t s'))=aaR l s most m s1 t s' q:=by kernel_rfl
theorem Xk (l:List Int) (m:Nat) (hm:m<=4096) (t:List Rec) (s':RS) (q:DQ (fF l) l m t s'):aL Tryz.prog 58 4 (aN Tryz.prog 58 4) ⟨qlT m q.n q.a,qlM l q.s q.a,[]⟩ (T.map (bJ [2,3] (qlS l t s')) (.ret ())):=by
 refine dK (P:=Tryz.prog) (f:=58) (k:=4) (ι:=DQ (fF l) l m t s') (μ:=fun q=>q.n) (ht:=fun q=>qlH l q.s (fF l q.s).1 (fF l q.s).2) (sV:=fun q=>qlT m q.n q.a) (stM:=fun q=>qlM l q.s q.a) (X:=[2,3]) (o:=fun _=>.ret ()) (S:=qlS l t s') Tryz.mixed (fun _=>rfl) (fun q=>?_) q
 rw [WV l m t s' q (fF l q.s).1 (fF l q.s).2]
 unfold afN
 obtain ⟨n,s,a,e,h,k,z⟩:=q
 have hcl:=aG l.length 1 (ah aJ l)
 simp only
 cases n with
 | zero =>
   have e1:a=t:=congrArg Prod.fst e
   have e2:s=s':=congrArg Prod.snd e
   subst e1 e2
   have hd:decide (((m - 0:Nat):Int)<(m:Int))=false:=by simp
   simp only [hd]
   simp [hcl]
 | succ n =>
   have hd:decide (((m - (n+1):Nat):Int)<(m:Int))=true:=by simp only [decide_eq_true_eq];omega
   have w:IntKind.wrap IntKind.i64 (((m - (n+1):Nat):Int)+1)=((m - n:Nat):Int):=by rw [wrap_i64 (by omega) (by omega)];omega
   simp only [hd,w]
   by_cases he:s.e=0
   · have h0:(s.e != 0)=false:=by simp [he]
     have h0':(s.e==0)=true:=by simp [he]
     have e1:f_ (fF l) n (fF l s).2 (a++[(fF l s).1])=(t,s'):=by
      have:=e
      unfold f_ at this
      simpa [h0] using this
     have ha:=sK (enc:=encR) (l:=a) (n:=a.length) (sz:=5) (x:=(fF l s).1) (cs:=encR (fF l s).1) rfl (fun j hj=>dn _)
     simp only [h0']
     simp [h,hcl]
     refine ⟨by omega,⟨n,(fF l s).2,a++[(fF l s).1],e1,t_ h,by omega,by simp;omega⟩,by show n<n+1;omega,?_⟩
     exact ⟨⟨by simp,rfl⟩,⟨rfl,rfl,rfl⟩,by simp,ha⟩
   · have h0:(s.e != 0)=true:=by simpa using he
     have h0':(s.e==0)=false:=by simpa using he
     have e1:(a,s)=(t,s'):=by
      have:=e
      unfold f_ at this
      simpa [h0] using this
     have e3:a=t:=congrArg Prod.fst e1
     have e4:s=s':=congrArg Prod.snd e1
     subst e3 e4
     simp only [h0']
     simp [hcl]
theorem ahv {f:FuncId} {args:List AV} {M:List ay} {l:List Int} {t:List Rec} {s:RS} (hM:∀ i,2<=i->getM M i=.dead) (h:(qlR l t s).Sat (aB Tryz.prog f args M)):(T.ret (dL true t,qM l s,[]):T An).Sat (aB Tryz.prog f args M):=by
 have h1:aB Tryz.prog f args M (dL true t,qM l s,[2,3]):=yV h
 have h2:aB Tryz.prog f args M (dL true t,qM l s,[]):=HZ h1 fun i hi=>by
  rcases List.mem_cons.1 hi with rfl | hi
  · exact .inr (hM _ (by decide))
  · obtain rfl:=List.mem_singleton.1 hi
    exact .inr (hM _ (by decide))
 exact T.Sat.ret h2
theorem ai5 (l:List Int) (s:RS) (most:Int) (hm:yI most) (hm2:most<=4096) (hs:fq l s):(T.ret (dL true (gI l s most).1,qM l (gI l s most).2,[]):T An).Sat (aB Tryz.prog 58 [qP,.y (.int .i64 most)] (qM l s)):=by
 refine ahv (fun i hi=>by
  match i,hi with
  | i+2,_=>exact dJ i) ?_
 obtain ⟨h1,h2,_⟩:=fJ (most:=most) hs
 have hn:=count_le (most:=most) hs
 have h0:=h2.lo
 obtain ⟨m,hmm⟩:∃ m:Nat,(aK l s most).1.toNat=m:=⟨_,rfl⟩
 have hmi:(aK l s most).1=(m:Int):=by omega
 have hq:∃ q:DQ (fF l) l m (gI l s most).1 (gI l s most).2,q.n=m/\q.s=(aK l s most).2/\q.a=[]:=⟨⟨m,(aK l s most).2,[],by unfold gI;rw [hmm],h1,Nat.le_refl _,by simp⟩,rfl,rfl,rfl⟩
 obtain ⟨q,q1,q2,q3⟩:=hq
 have lp:=Xk l m (by omega) (gI l s most).1 (gI l s most).2 q
 refine jo (ht:=ahg l s most m (aK l s most).2 (gI l s most).1 (gI l s most).2 q) Tryz.mixed rfl ?_
 rw [QE l s most m (aK l s most).2 (gI l s most).1 (gI l s most).2 q]
 unfold aaR
 have hcl:=aG l.length 1 (ah aJ l)
 have ht:=agw (gI l s most).1
 have hr:aj (gI l s most).1.length 5 (Ax.rowAt 0 (ah encR (gI l s most).1)) (ah encR (gI l s most).1):=fun k hk j hj=>dn _
 have hc:((m:Int),(aK l s most).2)=aK l s most:=by rw [<- hmi]
 rw [q1,q2,q3] at lp
 simp only [q1,q2,q3]
 simp [hs,hm,hcl,hc,hr,lp]
 exact ht
noncomputable def aiI (l:List Int) (s:RS) (most:Int) (t:List Rec) (s':RS):dZ Tryz.prog:=⟨58,[qP,.y (.int .i64 most)],qM l s,.need (fq l s/\yI most/\most<=4096) (.need ((t,s')=gI l s most) (.ret (dL false t,qM l s',[]))),T.Sat.need fun h=>T.Sat.need fun e=>by
 have e1:t=(gI l s most).1:=congrArg Prod.fst e
 have e2:s'=(gI l s most).2:=congrArg Prod.snd e
 rw [e1,e2]
 have h1:aB Tryz.prog 58 [qP,.y (.int .i64 most)] (qM l s) (dL true (gI l s most).1,qM l (gI l s most).2,[]):=yV (ai5 l s most h.2.1 h.2.2 h.1)
 have h2:aB Tryz.prog 58 [qP,.y (.int .i64 most)] (qM l s) (dL false (gI l s most).1,qM l (gI l s most).2,[]):=D6 (fun H E v hH hr=>by
  have:=Mt hH hr
  exact this) h1
 exact T.Sat.ret h2⟩
end J
end Go.Proofs.YtnbhdjadlbhknaaGreatDoor
